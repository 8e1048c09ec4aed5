/-
  ScanFew: its walk.
-/
import Derived.Test.YtbcefiefeobmcaaFpl
import Derived.Test.YtbcefiefeobmcaaOwe
namespace Go.Proofs.Ytbcefiefeobmcaa
open Go.RowKit Go.Shelf Go.Maps Go.WideElems

theorem wide_fn15 (f : FuncId) : Fence.wide.fn f = True := rfl
attribute [local go_sem] Oper.semAt_some wide_fn15

def goneL (lk : List Int) (g i : Nat) : Bool := decide (g < lk.length) && decide ((lk.getD g 0 / 2 ^ i) % 2 = 1)
/-- A list of 16-bit numbers in memory. -/
def LackAt (n₀ : Nat) (w : World) (v : Value) (lk : List Int) : Prop :=
  (lk = [] ∧ ∃ a c, v = .slice a 0 c) ∨ ∃ b off c, v = .slice (some ⟨b, off, none⟩) lk.length c ∧ b < n₀ ∧ ∀ k (h : k < lk.length), w.cell? ⟨b, off + k, none⟩ = some (.int .u16 lk[k])

theorem LackAt.below {n₀ : Nat} {A B : World} {v : Value} {lk : List Int} (h : LackAt n₀ A v lk) (hb : Below n₀ A B) : LackAt n₀ B v lk := by
  rcases h with h | ⟨b, off, c, e, hl, hc⟩
  · exact .inl h
  · exact .inr ⟨b, off, c, e, hl, fun k hk => (hb.cell (p := ⟨b, _, none⟩) hl).trans (hc k hk)⟩

def lostArr (gone : Nat → Nat → Bool) (i : Nat) : Array Value := #[.int .i64 (lostTo gone i 0), .int .i64 (lostTo gone i 1), .int .i64 (lostTo gone i 2), .int .i64 (lostTo gone i 3)]
theorem lostArr_zero (gone : Nat → Nat → Bool) : lostArr gone 0 = #[.int .i64 0, .int .i64 0, .int .i64 0, .int .i64 0] := rfl

theorem bits_one (a : Int) (h0 : 0 ≤ a) (h1 : a ≤ 65535) : bits BinOp.and .u16 a 1 = a % 2 := by
  obtain ⟨n, rfl⟩ : ∃ n : Nat, a = n := ⟨a.toNat, by omega⟩
  have hx : n &&& 1 < 2 ^ 16 := Nat.and_lt_two_pow _ (by omega)
  have e1 : (BitVec.ofInt 16 (n : Int)).toNat = n := by
    rw [BitVec.ofInt_natCast, BitVec.toNat_ofNat]; exact Nat.mod_eq_of_lt (by omega)
  have e2 : (BitVec.ofInt 16 (1 : Int)).toNat = 1 := by decide
  show IntKind.u16.wrap ((BitVec.ofInt 16 (n : Int) &&& BitVec.ofInt 16 (1 : Int)).toNat : Int) = _
  rw [BitVec.toNat_and, e1, e2, Nat.and_one_is_mod]
  simp [IntKind.wrap, IntKind.bits, IntKind.signed]
  omega

theorem div_pow_bd (x : Int) (t : Nat) (h0 : 0 ≤ x) (h1 : x ≤ 65535) : 0 ≤ x / 2 ^ t ∧ x / 2 ^ t ≤ 65535 := by
  have hp : (0 : Int) < 2 ^ t := Int.pow_pos (by decide)
  exact ⟨Int.ediv_nonneg h0 (Int.le_of_lt hp), Int.le_trans (Int.ediv_le_self _ h0) h1⟩

theorem hereF_snoc (gone : Nat → Nat → Bool) (l : List Fnd) (f : Fnd) : hereF gone (l ++ [f]) = if goneF gone f then hereF gone l else hereF gone l ++ [f] := by
  unfold hereF
  rw [List.filter_append]
  cases h : goneF gone f <;> simp [h]
theorem lostArr_no (gone : Nat → Nat → Bool) (i : Nat) (h : gone (i / 10) (i % 10) = false) : lostArr gone (i + 1) = lostArr gone i := by
  unfold lostArr
  have e : ∀ g, lostTo gone (i + 1) g = lostTo gone i g := fun g => by rw [lostTo_succ, if_neg (by simp [h])]; rfl
  rw [e, e, e, e]
theorem mostTo_no (gone : Nat → Nat → Bool) (i : Nat) (h : gone (i / 10) (i % 10) = false) : mostTo gone (i + 1) = mostTo gone i := by
  show (if gone (i / 10) (i % 10) then _ else _) = _
  rw [if_neg (by simp [h])]
theorem lostArr_yes (gone : Nat → Nat → Bool) (i q : Nat) (hq : q = i / 10) (h4 : q < 4) (h : gone (i / 10) (i % 10) = true) : lostArr gone (i + 1) = (lostArr gone i).setIfInBounds q (.int .i64 (lostTo gone i q + 1)) := by
  subst hq
  have e : ∀ g, g ≠ i / 10 → lostTo gone (i + 1) g = lostTo gone i g := fun g hne => by rw [lostTo_succ, if_neg (fun h => hne h.1.symm)]; rfl
  have e' : lostTo gone (i + 1) (i / 10) = lostTo gone i (i / 10) + 1 := by rw [lostTo_succ, if_pos ⟨rfl, h⟩]
  unfold lostArr
  generalize i / 10 = q at *
  have : q = 0 ∨ q = 1 ∨ q = 2 ∨ q = 3 := by omega
  rcases this with rfl | rfl | rfl | rfl
  · rw [e', e 1 (by omega), e 2 (by omega), e 3 (by omega)]; rfl
  · rw [e', e 0 (by omega), e 2 (by omega), e 3 (by omega)]; rfl
  · rw [e', e 0 (by omega), e 1 (by omega), e 3 (by omega)]; rfl
  · rw [e', e 0 (by omega), e 1 (by omega), e 2 (by omega)]; rfl
theorem lostArr_get (gone : Nat → Nat → Bool) (i q : Nat) (h4 : q < 4) : (lostArr gone i)[q]? = some (.int .i64 (lostTo gone i q)) := by
  have : q = 0 ∨ q = 1 ∨ q = 2 ∨ q = 3 := by omega
  rcases this with rfl | rfl | rfl | rfl <;> rfl

theorem ownF_apart {base : Nat} {W : World} {v : Value} {zs : List Fnd} (h : OwnF base W v zs) {b : Nat} {cs : Array Value} (hb : W.heap[b]? = some (.cells cs 3 (0, 0))) : some b ≠ v.ownBlock := by
  rcases h.2 with ⟨rfl, _⟩ | ⟨g, cap, cur, rfl, _, hg, _⟩
  · intro e; cases e
  · intro e
    have : b = g := Option.some.inj e
    subst this
    rw [hb] at hg
    simp at hg

theorem copyL_get {key : ByteArray} {gen size frm : Int} (i : Nat) (h : i < (groupsOf size).toNat * 10) : (copyL key gen size frm)[i]? = some (shardF key gen (groupsOf size) size frm (i / 10) (i % 10)) := by
  have key : ∀ m n, i < m * 10 → (copyTo key gen n size frm m)[i]? = some (shardF key gen n size frm (i / 10) (i % 10)) := by
    intro m n
    induction m with
    | zero => intro h; omega
    | succ m ih =>
      intro hi
      rw [copyTo_succ]
      by_cases hm : i < m * 10
      · rw [List.getElem?_append_left (by rw [copyTo_length]; exact hm), ih hm]
      · rw [List.getElem?_append_right (by rw [copyTo_length]; omega), copyTo_length]
        unfold groupF
        rw [List.getElem?_map, List.getElem?_range (by omega)]
        have e1 : i / 10 = m := by omega
        have e2 : i % 10 = i - m * 10 := by omega
        rw [e1, e2]
        rfl
  exact key _ _ h

theorem core_shard {key : ByteArray} {gen n size frm : Int} {g i : Nat} {f : Fnd} (h : core f = shardF key gen n size frm g i) : ∃ da dc, f = ⟨i, frm + g, ⟨2, 0, key, gen, g, n, i, size, digB size, da, 16, dc⟩⟩ := by
  obtain ⟨ac, ap, ⟨r1, r2, r3, r4, r5, r6, r7, r8, r9, da, dn, dc⟩⟩ := f
  simp only [core, shardF, Fnd.mk.injEq, Rec.mk.injEq] at h
  obtain ⟨rfl, rfl, rfl, rfl, rfl, rfl, rfl, rfl, rfl, rfl, rfl, _, rfl, _⟩ := h
  exact ⟨da, dc, rfl⟩

set_option maxRecDepth 100000 in
set_option maxHeartbeats 4000000 in
theorem few_law_in (n : Nat) (sz : Int) (hs0 : 0 ≤ sz) (hs1 : sz ≤ 65535) (la : Option Addr) (ll lc : Nat) (lk : List Int) (hlk : ∀ x ∈ lk, 0 ≤ x ∧ x ≤ 65535) (hlm : ll ≤ 9223372036854775807) (w : World) (hL : LackAt w.heap.size w (.slice la ll lc) lk) :
    CallsIn Fence.wide n Try.prog 7 #[.int .u16 sz, .slice la ll lc] w fun e W' => e = .returned (.bool true) ∧ Below w.heap.size w W' := by
  refine callsIn_of_wp Try.func7 rfl trivial ?_ rfl
  simp only [Try.ntmps7, List.size_toArray, List.length_cons, List.length_nil, Nat.reduceAdd, Nat.reduceSub, Array.replicate_succ, Array.replicate_zero, List.push_toArray, List.append_toArray, List.nil_append, List.cons_append]
  have hz3 : (Try.prog.info? 3).map (fun i => (i.zero, i.size, i.bytes)) = some (some (.int .i64 0), 1, 8) := by kernel_rfl
  obtain ⟨j0, hj0, hjz0, hjz1, hjz2⟩ := info_parts hz3
  have hm0 : madeCells #[Value.int .i64 0] 4 = #[.int .i64 0, .int .i64 0, .int .i64 0, .int .i64 0] := by kernel_rfl
  have hmk : ∀ W, (Instr.makeSlice 48 (.int .i64 4) (.int .i64 4)).run Try.prog W = .ok (.slice (some ⟨W.heap.size, 0, none⟩) 4 4) (W.alloc (.cells #[.int .i64 0, .int .i64 0, .int .i64 0, .int .i64 0] 3)) := fun W => by
    have h := run_make (P := Try.prog) W 48 3 j0 _ Try.underlying48 hj0 hjz0 .i64 .i64 4 4 (by omega) (by omega) (by rw [hjz2]; omega) (by omega)
    rw [hjz1] at h
    rw [← hm0]
    exact h
  clear hm0
  obtain ⟨size, hsize⟩ : ∃ s, s = sz % 513 := ⟨_, rfl⟩
  have hz0 : 0 ≤ size := by omega
  have hz1 : size ≤ 512 := by omega
  have Hsize := Lib.hid hsize
  clear hsize
  have hbd := groupsOf_bd hz0 hz1
  gi_wp2_with fail
  refine ⟨fun h => (by cases h), (copyOf_in (n - 1) keyK 7 (sz % 513) 5 (by omega) (by omega) (by omega) (by omega) w).mono ?_⟩
  rintro e w1 ⟨v1, zs, rfl, hown1, hzs, hbw1⟩
  rw [← Hsize.out] at hzs
  obtain ⟨ng, hng⟩ : ∃ ng : Nat, ng = (groupsOf size).toNat := ⟨_, rfl⟩
  have hng1 : 1 ≤ ng := by omega
  have hng4 : ng ≤ 4 := by omega
  have hlen : zs.length = ng * 10 := by
    have := congrArg List.length hzs
    rw [List.length_map] at this
    unfold copyL at this
    rw [copyTo_length, ← hng] at this
    exact this
  obtain ⟨gx, capx, rfl, hcapx, hgx0, hgx1⟩ := hown1.some (fun e => by rw [e] at hlen; simp at hlen; omega)
  have hF1 := hown1.founds
  rw [hlen] at hcapx hF1
  have hlm40 : ng * 10 ≤ 40 := by omega
  obtain ⟨N, hN⟩ : ∃ N, N = ng * 10 := ⟨_, rfl⟩
  have HN := Lib.hid hN
  rw [hlen, ← hN]
  rw [← hN] at hcapx hF1 hlm40 hlen
  have hlen' := Lib.hid hlen
  have Hzs := Lib.hid hzs
  have HF1 := Lib.hid hF1
  have Hng := Lib.hid hng
  have Hbw1 := Lib.hid hbw1
  have HL := Lib.hid (hL.below hbw1)
  clear hown1 hzs hF1 hng hbw1 hlen hN hL
  gi_wp2_with fail
  obtain ⟨w2, hw2⟩ : ∃ x, x = (w1.alloc (.cells #[] 39)).alloc (.cells #[.int .i64 0, .int .i64 0, .int .i64 0, .int .i64 0] 3) := ⟨_, rfl⟩
  have hs2 : w1.heap.size + 2 = w2.heap.size := by rw [hw2]; simp
  have hbl : w2.heap[w1.heap.size + 1]? = some (.cells #[.int .i64 0, .int .i64 0, .int .i64 0, .int .i64 0] 3 (0, 0)) := by
    rw [hw2]
    have := (MapKept.heap_alloc (w1.alloc (.cells #[] 39)) (.cells #[.int .i64 0, .int .i64 0, .int .i64 0, .int .i64 0] 3)).1
    simpa using this
  have hown2 : OwnF w1.heap.size w2 (.slice (some ⟨w1.heap.size, 0, none⟩) 0 0) [] := by rw [hw2]; exact (own_empty w1).below ((Below.refl _ _).alloc (Nat.le_refl _) _)
  have hbw2 : Below w1.heap.size w1 w2 := by rw [hw2]; exact ((Below.refl _ w1).alloc (Nat.le_refl _) _).alloc (by simp) _
  obtain ⟨bl, hble⟩ : ∃ b, b = w1.heap.size + 1 := ⟨_, rfl⟩
  rw [← hw2]
  rw [← hble] at hbl
  rw [← hble]
  have Hble := Lib.hid hble
  have hbl1 : w1.heap.size ≤ bl := by omega
  clear hw2 hmk hble hjz0 hjz1 hjz2 hs2
  have hlack : ∀ q, q < ll → ∀ w', Below w1.heap.size w1 w' → ∃ b off x, la = some ⟨b, off, none⟩ ∧ lk.getD q 0 = x ∧ w'.cell? ⟨b, off + q, none⟩ = some (.int .u16 x) ∧ 0 ≤ x ∧ x ≤ 65535 ∧ b < w1.heap.size := fun q hq w' hb => by
    rcases HL.out with ⟨_, a, c, e⟩ | ⟨b, off, c, e, hbs, hc⟩
    · simp only [Value.slice.injEq] at e; omega
    · simp only [Value.slice.injEq] at e
      obtain ⟨rfl, rfl, rfl⟩ := e
      have hm := hlk lk[q] (List.getElem_mem hq)
      exact ⟨b, off, lk[q], rfl, by simp [List.getD, List.getElem?_eq_getElem hq], (hb.cell (p := ⟨b, _, none⟩) (Nat.lt_of_lt_of_le hbs Hbw1.out.size)).trans (hc q hq), hm.1, hm.2, Nat.lt_of_lt_of_le hbs Hbw1.out.size⟩
  have hll : ll = lk.length := by
    rcases HL.out with ⟨rfl, a, c, e⟩ | ⟨b, off, c, e, hbs, hc⟩
    · simp only [Value.slice.injEq] at e; exact e.2.1
    · simp only [Value.slice.injEq] at e; exact e.2.1
  have Hlack := Lib.hid hlack
  have Hll := Lib.hid hll
  clear hlack hll
  gi_loopw [6, 7, 9] (fun v6 v7 v9 wr => ∃ i : Nat, i ≤ N ∧ v9 = .int .i64 i ∧ OwnF w1.heap.size wr v6 (hereF (goneL lk) (zs.take i)) ∧ v6 ≠ .slice none 0 0 ∧ v7 = .int .i64 (mostTo (goneL lk) i) ∧ wr.heap[bl]? = some (.cells (lostArr (goneL lk) i) 3 (0, 0)) ∧ Below w1.heap.size w1 wr) (fun _ _ i _ => N - (intOf i).toNat)
  case atStart => exact ⟨0, Nat.zero_le _, rfl, hown2, by simp, rfl, hbl, hbw2⟩
  case round =>
    obtain ⟨i, hi, rfl, hown, hne, rfl, hlo, hbr⟩ := hrel
    have Hown := Lib.hid hown
    have Hne := Lib.hid hne
    have Hlo := Lib.hid hlo
    have Hbr := Lib.hid hbr
    clear hown hne hlo hbr
    by_cases hlt : i < N
    · have hiw : IntKind.i64.wrap ((i : Int) + 1) = i + 1 := IntWalk.i64_in _ (by omega)
      obtain ⟨q, hq⟩ : ∃ q, q = i / 10 := ⟨_, rfl⟩
      obtain ⟨t, ht⟩ : ∃ t, t = i % 10 := ⟨_, rfl⟩
      obtain ⟨z, hz⟩ : ∃ z, zs[i]? = some z := ⟨_, List.getElem?_eq_getElem (by rw [hlen'.out]; exact hlt)⟩
      have hcz : core z = shardF keyK 7 (groupsOf size) size 5 q t := by
        have h1 := copyL_get (key := keyK) (gen := 7) (frm := 5) (size := size) i (by rw [← Hng.out, ← HN.out]; exact hlt)
        rw [← Hzs.out, List.getElem?_map, hz, ← hq, ← ht] at h1
        exact Option.some.inj h1
      obtain ⟨da, dc, hfz⟩ := core_shard hcz
      have hzi : ∃ h : i < zs.length, zs[i] = z := List.getElem?_eq_some_iff.1 hz
      have htk : zs.take (i + 1) = zs.take i ++ [z] := by obtain ⟨h, rfl⟩ := hzi; exact List.take_succ_eq_append_getElem h
      have hat : ∀ w', Below w1.heap.size w1 w' → FndAt w' gx (i * 12) z := fun w' hb => by
        obtain ⟨hz', rfl⟩ := hzi
        rcases HF1.out with ⟨a', cap', e, e2⟩ | ⟨b', off', cap', e, hb', h⟩
        · rw [e2] at hz'; cases hz'
        · simp only [Value.slice.injEq, Option.some.injEq, Addr.mk.injEq] at e
          obtain ⟨⟨rfl, rfl, _⟩, _, rfl⟩ := e
          have := (h i hz').below hb (by omega)
          simpa using this
      rw [hfz] at htk hat
      have Htk := Lib.hid htk
      have Hat := Lib.hid hat
      have Hq := Lib.hid hq
      have Ht := Lib.hid ht
      have hq4 : q < 4 := by have := HN.out; omega
      have ht10 : t < 10 := by omega
      obtain ⟨x0, x1, x2, x3, x4, x5, x6, x7, x8, x9, x10, x11⟩ := hat wr Hbr.out
      dsimp only at x0 x1 x2 x3 x4 x5 x6 x7 x8 x9 x10 x11
      clear hz hcz hfz htk hat hq ht hzi
      gi_upto_region 9 with (fail)
      gi_cut [51] from 1000 (fun v51 wd => v51 = .bool (goneL lk q t) ∧ ∃ nq, wd = (wr.alloc (.cells #[.int .i64 2, .int .i64 0, .string keyK, .int .i64 7, .int .i64 q, .int .i64 (groupsOf size), .int .i64 t, .int .i64 size, .string (digB size), .slice da 16 dc] 37)).drewN nq)
      case first J K' hJ hK' =>
        by_cases hql : q < ll
        · obtain ⟨b, off, x, rfl, hxg, hxc, hx0, hx1, hbw⟩ := Hlack.out q hql wr Hbr.out
          have hbw' : b < wr.heap.size := Nat.lt_of_lt_of_le hbw Hbr.out.size
          have hdp := div_pow_bd x t hx0 hx1
          have hfin : Value.bool (bits BinOp.and IntKind.u16 (x / 2 ^ t) 1 == 1) = .bool (goneL lk q t) := by
            rw [bits_one _ hdp.1 hdp.2]
            unfold goneL
            rw [← Hll.out, hxg, Bool.eq_iff_iff.2 (show (decide (q < ll) && decide (x / 2 ^ t % 2 = 1)) = true ↔ ((x / 2 ^ t % 2 == 1) = true) by simp [hql])]
          have Hfin := Lib.hid hfin
          clear hxg hdp hfin
          have hd : decide (q < ll) = true := by simpa using hql
          gi_quiet (fail)
          gi_wp2_with fail
          refine Met.intro (hJ _ _ ?_)
          repeat apply Exists.intro
          exact ⟨⟨Hfin.out, _, rfl⟩, rfl⟩
        · have hd : decide (q < ll) = false := by simpa using hql
          have hfin : Value.bool false = .bool (goneL lk q t) := by
            unfold goneL
            rw [← Hll.out, hd, Bool.false_and]
          have Hfin := Lib.hid hfin
          clear hfin
          gi_quiet (fail)
          gi_wp2_with fail
          refine Met.intro (hJ _ _ ?_)
          repeat apply Exists.intro
          exact ⟨⟨Hfin.out, _, rfl⟩, rfl⟩
      case rest =>
        obtain ⟨rfl, nq, hwd⟩ := hcut
        have hgF : goneF (goneL lk) ⟨t, 5 + q, ⟨2, 0, keyK, 7, q, groupsOf size, t, size, digB size, da, 16, dc⟩⟩ = goneL lk q t := by
          show goneL lk (q : Int).toNat (t : Int).toNat = _
          rw [Int.toNat_natCast, Int.toNat_natCast]
        have HgF := Lib.hid hgF
        clear hgF
        have hb4 : Below wr.heap.size wr wc := by rw [hwd]; exact ((Below.refl _ wr).alloc (Nat.le_refl _) _).trans ⟨rfl, rfl, rfl, Nat.le_refl _, fun _ _ => rfl⟩
        have hr4 : wc.cell? ⟨wr.heap.size, 4, none⟩ = some (.int .i64 q) := by rw [hwd]; simp [go_sem]
        have hrl : wr.heap.size < wc.heap.size := by rw [hwd]; simp
        obtain ⟨w4, rfl⟩ : ∃ x, x = wc := ⟨_, rfl⟩
        clear x0 x1 x2 x3 x4 x5 x6 x7 x8 x9 x10 x11 hwd
        cases hg : goneL lk q t with
        | true =>
          have hlo4 : w4.heap[bl]? = some (.cells (lostArr (goneL lk) i) 3 (0, 0)) := (hb4.block _ (Array.getElem?_eq_some_iff.1 Hlo.out).1).trans Hlo.out
          have hcl : w4.cell? ⟨bl, q, none⟩ = some (.int .i64 (lostTo (goneL lk) i q)) := by simp only [World.cell?, hlo4]; simpa using lostArr_get (goneL lk) i q hq4
          have hfz : w4.frozen? ⟨bl, q, none⟩ = false := by simp [World.frozen?, hlo4]
          have hle := lostTo_le (goneL lk) i q
          have hblr : bl < wr.heap.size := (Array.getElem?_eq_some_iff.1 Hlo.out).1
          have hne4 : wr.heap.size ≠ bl := by omega
          have hlw : IntKind.i64.wrap ((lostTo (goneL lk) i q : Int) + 1) = (lostTo (goneL lk) i q : Int) + 1 := IntWalk.i64_in _ (by omega)
          have hrel' : ∀ W5, W5 = w4.setCell ⟨bl, q, none⟩ (.int .i64 ((lostTo (goneL lk) i q : Int) + 1)) → OwnF w1.heap.size W5 u6 (hereF (goneL lk) (zs.take (i + 1))) ∧ W5.heap[bl]? = some (.cells (lostArr (goneL lk) (i + 1)) 3 (0, 0)) ∧ Below w1.heap.size w1 W5 := by
            rintro W5 rfl
            have hown4 := Hown.out.below hb4
            refine ⟨?_, ?_, ?_⟩
            · rw [Htk.out, hereF_snoc, HgF.out, if_pos hg]
              exact World.ownsRow.kept hown4 (grownBy_seti w4 bl q _) (.inr (fun e => ownF_apart hown4 hlo4 e.symm))
            · rw [block_set hlo4, lostArr_yes (goneL lk) i q Hq.out hq4 (by rw [← Hq.out, ← Ht.out]; exact hg)]
            · exact (Hbr.out.trans (hb4.mono Hbr.out.size)).setCell (p := ⟨bl, q, none⟩) hbl1 _
          have hmost : mostTo (goneL lk) (i + 1) = if mostTo (goneL lk) i < lostTo (goneL lk) i q + 1 then lostTo (goneL lk) i q + 1 else mostTo (goneL lk) i := by
            have e1 : goneL lk (i / 10) (i % 10) = true := by rw [← Hq.out, ← Ht.out]; exact hg
            have e2 : lostTo (goneL lk) (i + 1) (i / 10) = lostTo (goneL lk) i q + 1 := by rw [lostTo_succ, if_pos ⟨rfl, e1⟩, ← Hq.out]
            show (if goneL lk (i / 10) (i % 10) then (if _ < lostTo (goneL lk) (i + 1) (i / 10) then lostTo (goneL lk) (i + 1) (i / 10) else _) else _) = _
            rw [if_pos e1, e2]
          have Hrel := Lib.hid hrel'
          have Hmost := Lib.hid hmost
          clear hg hrel' hmost hlo4
          by_cases hmm : mostTo (goneL lk) i < lostTo (goneL lk) i q + 1
          · have hmm' : (mostTo (goneL lk) i : Int) < (lostTo (goneL lk) i q : Int) + 1 := by omega
            gi_wp2_with fail
            go_roundw
            case rel =>
              obtain ⟨r1, r2, r3⟩ := Hrel.out _ rfl
              exact ⟨i + 1, by omega, by simp, r1, Hne.out, by rw [Hmost.out, if_pos hmm]; simp, r2, r3⟩
            case measure => simp [intOf]; omega
          · have hmm' : ¬ (mostTo (goneL lk) i : Int) < (lostTo (goneL lk) i q : Int) + 1 := by omega
            gi_wp2_with fail
            go_roundw
            case rel =>
              obtain ⟨r1, r2, r3⟩ := Hrel.out _ rfl
              exact ⟨i + 1, by omega, by simp, r1, Hne.out, by rw [Hmost.out, if_neg hmm], r2, r3⟩
            case measure => simp [intOf]; omega
        | false =>
          obtain ⟨x0, x1, x2, x3, x4, x5, x6, x7, x8, x9, x10, x11⟩ := Hat.out w4 (Hbr.out.trans (hb4.mono Hbr.out.size))
          dsimp only at x0 x1 x2 x3 x4 x5 x6 x7 x8 x9 x10 x11
          have happ := append_founds (base := w1.heap.size) ((Hown.out.below hb4).below ((Below.refl _ w4).alloc (Nat.le_refl _) _)) Hne.out (founds_one w4 ⟨t, 5 + q, ⟨2, 0, keyK, 7, q, groupsOf size, t, size, digB size, da, 16, dc⟩⟩) (by have h1 := List.length_filter_le (fun f => !goneF (goneL lk) f) (zs.take i); have h2 := List.length_take_le i zs; unfold hereF; simp only [List.length_cons, List.length_nil]; omega) (by have := Hbr.out.size; have := hb4.size; simp; omega) 22
          have Hg := Lib.hid hg
          clear hg
          gi_wp2_with (gi_at_builtin; refine wpListIn_append_run _ rfl _ _ 22 rfl _ _ rfl rfl _ happ ?_)
          intro v77 w77 hown' hne' hgr
          have hbr77 : Below w1.heap.size w1 w77 := ((Hbr.out.trans (hb4.mono Hbr.out.size)).alloc (Hbr.out.trans (hb4.mono Hbr.out.size)).size _).grown hgr (by have := Hbr.out.size; have := hb4.size; simp; omega) (fun k e => (Hown.out.lt k e).1)
          have hrel' : OwnF w1.heap.size w77 v77 (hereF (goneL lk) (zs.take (i + 1))) ∧ w77.heap[bl]? = some (.cells (lostArr (goneL lk) (i + 1)) 3 (0, 0)) := by
            refine ⟨?_, ?_⟩
            · rw [Htk.out, hereF_snoc, HgF.out, if_neg (by rw [Hg.out]; simp)]
              exact hown'
            · rw [lostArr_no (goneL lk) i (by rw [← Hq.out, ← Ht.out]; exact Hg.out)]
              have hlt' : bl < wr.heap.size := (Array.getElem?_eq_some_iff.1 Hlo.out).1
              refine (hgr.block bl (by simp; have := hb4.size; omega) (ownF_apart Hown.out Hlo.out)).trans ?_
              exact (((Below.refl _ w4).alloc (Nat.le_refl _) _).block bl (by have := hb4.size; omega)).trans ((hb4.block bl hlt').trans Hlo.out)
          have hm77 : mostTo (goneL lk) (i + 1) = mostTo (goneL lk) i := mostTo_no _ _ (by rw [← Hq.out, ← Ht.out]; exact Hg.out)
          have Hrel := Lib.hid hrel'
          have Hne' := Lib.hid hne'
          have Hm77 := Lib.hid hm77
          have Hbr77 := Lib.hid hbr77
          clear hown' hne' hgr hrel' happ hm77 hbr77
          gi_wp2_with fail
          go_roundw
          case rel => exact ⟨i + 1, by omega, by simp, Hrel.out.1, Hne'.out, by rw [Hm77.out], Hrel.out.2, Hbr77.out⟩
          case measure => simp [intOf]; omega
    · obtain rfl : i = N := by omega
      have hown := Hown.out
      rw [List.take_of_length_le (by rw [hlen'.out]; exact Nat.le_refl _)] at hown
      have hLc : (hereF (goneL lk) zs).map core = hereF (goneL lk) (copyL keyK 7 size 5) := by
        rw [← Hzs.out]
        unfold hereF
        rw [List.filter_map]
        rfl
      have hL40 : (hereF (goneL lk) zs).length ≤ 40 := by
        have := List.length_filter_le (fun f => !goneF (goneL lk) f) zs
        have := hlen'.out
        unfold hereF
        omega
      have hfit : ∀ f ∈ hereF (goneL lk) zs, f.r.fits := fun f hf => fits_of_core Hzs.out (copyL_fits keyK (by decide) _ _ _) f (List.mem_filter.1 hf).1
      have hF6 := hown.founds
      obtain ⟨a6, c6, e6⟩ := hF6.slice
      subst e6
      have hHN : (groupsOf size).toNat * 10 = i := by rw [← Hng.out, ← HN.out]
      have HHN := Lib.hid hHN
      have HF6 := Lib.hid hF6
      have HLc := Lib.hid hLc
      have HL40 := Lib.hid hL40
      have Hfit := Lib.hid hfit
      clear hown hLc hL40 hfit hF6 hHN
      gi_wp2_with fail
      refine ⟨fun h => (by cases h), (callsIn_wide.2 (best_any _ _ _ (hereF (goneL lk) zs) (by have := HL40.out; omega) Hfit.out wr HF6.out)).mono ?_⟩
      rintro e w5 ⟨v5, es5, m5, rfl, hba5, han5, hb5⟩
      obtain ⟨fp1, fp2⟩ := few_plain (goneL lk) size hz0 hz1 (answer_core han5 HLc.out)
      rw [HHN.out] at fp1 fp2
      have Hb5 := Lib.hid hb5
      have fin : ∀ w', Below w5.heap.size w5 w' → Below w.heap.size w w' := fun w' hb => by
        have h1 := Hbr.out.trans ((Hb5.out.trans (hb.mono Hb5.out.size)).mono Hbr.out.size)
        exact Hbw1.out.trans (h1.mono Hbw1.out.size)
      have Fin := Lib.hid fin
      clear fin han5 hb5
      by_cases h2 : 2 < mostTo (goneL lk) i
      · have he := fp1 h2
        subst he
        obtain ⟨a5, e5⟩ := hba5.len
        subst e5
        clear fp1 fp2 hba5
        have h2' : (2 : Int) < (mostTo (goneL lk) i : Int) := by omega
        gi_wp2_with fail
        refine ⟨fun h => (by cases h), (awake_in (n - 1) w5).mono ?_⟩
        rintro e w10 ⟨rfl, hb10⟩
        gi_wp2_with fail
        go_ret
        exact ⟨rfl, Fin.out _ hb10⟩
      · obtain ⟨p, rfl, hpk, hpg, hpr⟩ := fp2 (by omega)
        have h2' : ¬ (2 : Int) < (mostTo (goneL lk) i : Int) := by omega
        have hent : ∃ g gp, v5 = .slice (some ⟨g, 0, none⟩) 1 1 ∧ ∀ w', Below w5.heap.size w5 w' → w'.cell? ⟨g, 0, none⟩ = some (.string { data := #[107] }) ∧ w'.cell? ⟨g, 1, none⟩ = some (.int .i64 7) ∧ w'.cell? ⟨g, 4, none⟩ = some (.slice (some ⟨gp, 0, none⟩) i i) ∧
            ∀ s, s < i → w'.cell? ⟨gp, s * 2, none⟩ = some (.int .i64 (slotP (goneL lk) s).1) ∧ w'.cell? ⟨gp, s * 2 + 1, none⟩ = some (.int .i64 (slotP (goneL lk) s).2) := by
          rcases hba5.ents with ⟨e, _⟩ | ⟨g, e, _, _, hat⟩
          · cases e
          · have hx := hat 0 (by simp)
            simp only [List.getElem_cons_zero, Nat.zero_mul] at hx
            obtain ⟨y0, y1, y2, y3, y4⟩ := hx
            have hlt : g < w5.heap.size := World.block_lt_of_cell? w5 ⟨g, _, none⟩ y0
            have hk := hba5.keys p (by simp)
            have hr := (hba5.rows p (by simp)).2
            have hpl := hr.places
            have hrl := hr.lt
            have hlenr : p.2.2.2.length = i := by rw [hpr, rowG_length, HHN.out]
            refine ⟨g, p.2.2.1, e, fun w' hb => ⟨?_, ?_, ?_, fun s hs => ?_⟩⟩
            · rw [hb.cell (p := ⟨g, 0, none⟩) hlt, y0, ← hk, hpk]; rfl
            · rw [hb.cell (p := ⟨g, 1, none⟩) hlt, y1, hpg]
            · rw [hb.cell (p := ⟨g, 4, none⟩) hlt, y4]
              simp only [sliceVal]
              rw [hlenr]
            · have hs' : s < p.2.2.2.length := by rw [hlenr]; exact hs
              have hq := hpl s hs'
              have hsl : p.2.2.2[s] = slotP (goneL lk) s := by
                have h1 := rowG_get (goneL lk) size s (by rw [HHN.out]; exact hs)
                rw [← hpr] at h1
                exact (List.getElem?_eq_some_iff.1 h1).2
              rw [hsl] at hq
              exact ⟨(hb.cell (p := ⟨p.2.2.1, _, none⟩) hrl).trans hq.1, (hb.cell (p := ⟨p.2.2.1, _, none⟩) hrl).trans hq.2⟩
        obtain ⟨ge, gp, rfl, hcell⟩ := hent
        obtain ⟨y0, y1, y4, _⟩ := hcell w5 (Below.refl _ _)
        have Hcell := Lib.hid hcell
        clear fp1 fp2 hba5 hpk hpg hpr hcell
        gi_wp2_with fail
        obtain ⟨wo, rfl⟩ : ∃ x, x = wr := ⟨_, rfl⟩
        gi_loopw [13] (fun v13 wy => ∃ j : Nat, j ≤ i ∧ v13 = .int .i64 j ∧ Below w5.heap.size w5 wy) (fun v _ => i - (intOf v).toNat)
        case atStart => exact ⟨0, Nat.zero_le _, rfl, Below.refl _ _⟩
        case round =>
          obtain ⟨j, hj, rfl, hby⟩ := hrel
          obtain ⟨wy, rfl⟩ : ∃ x, x = wr := ⟨_, rfl⟩
          by_cases hjl : j < i
          · have hjw : IntKind.i64.wrap ((j : Int) + 1) = j + 1 := IntWalk.i64_in _ (by omega)
            obtain ⟨q, hq⟩ : ∃ q, q = j / 10 := ⟨_, rfl⟩
            obtain ⟨t, ht⟩ : ∃ t, t = j % 10 := ⟨_, rfl⟩
            obtain ⟨z, hz⟩ : ∃ z, zs[j]? = some z := ⟨_, List.getElem?_eq_getElem (by rw [hlen'.out]; exact hjl)⟩
            have hcz : core z = shardF keyK 7 (groupsOf size) size 5 q t := by
              have h1 := copyL_get (key := keyK) (gen := 7) (frm := 5) (size := size) j (by rw [HHN.out]; exact hjl)
              rw [← Hzs.out, List.getElem?_map, hz, ← hq, ← ht] at h1
              exact Option.some.inj h1
            obtain ⟨da, dc, hfz⟩ := core_shard hcz
            have hzi : ∃ h : j < zs.length, zs[j] = z := List.getElem?_eq_some_iff.1 hz
            have hby' : ∀ w', Below wy.heap.size wy w' → Below w1.heap.size w1 w' := fun w' hb => by
              have h1 := hby.trans (hb.mono hby.size)
              exact Hbr.out.trans ((Hb5.out.trans (h1.mono Hb5.out.size)).mono Hbr.out.size)
            have hat : ∀ w', Below wy.heap.size wy w' → FndAt w' gx (j * 12) z := fun w' hb => by
              obtain ⟨hz', rfl⟩ := hzi
              rcases HF1.out with ⟨a', cap', e, e2⟩ | ⟨b', off', cap', e, hb', h⟩
              · rw [e2] at hz'; cases hz'
              · simp only [Value.slice.injEq, Option.some.injEq, Addr.mk.injEq] at e
                obtain ⟨⟨rfl, rfl, _⟩, _, rfl⟩ := e
                have := (h j hz').below (hby' w' hb) (by omega)
                simpa using this
            rw [hfz] at hat
            have hcl : ∀ w', Below wy.heap.size wy w' → w'.cell? ⟨ge, 4, none⟩ = some (.slice (some ⟨gp, 0, none⟩) i i) ∧ w'.cell? ⟨gp, j * 2, none⟩ = some (.int .i64 (slotP (goneL lk) j).1) ∧ w'.cell? ⟨gp, j * 2 + 1, none⟩ = some (.int .i64 (slotP (goneL lk) j).2) := fun w' hb => by
              obtain ⟨_, _, c4, cp⟩ := Hcell.out w' (hby.trans (hb.mono hby.size))
              exact ⟨c4, (cp j hjl).1, (cp j hjl).2⟩
            have hslot : slotP (goneL lk) j = if goneL lk q t then nowhere else ((t : Int), 5 + (q : Int)) := by rw [hq, ht]; rfl
            have Hat := Lib.hid hat
            have Hcl := Lib.hid hcl
            have Hslot := Lib.hid hslot
            have Hq := Lib.hid hq
            have Ht := Lib.hid ht
            have Hby := Lib.hid hby
            have Hby' := Lib.hid hby'
            have hq4 : q < 4 := by have := HN.out; omega
            have ht10 : t < 10 := by omega
            obtain ⟨x0, x1, x2, x3, x4, x5, x6, x7, x8, x9, x10, x11⟩ := hat wy (Below.refl _ _)
            obtain ⟨c4, cp0, cp1⟩ := hcl wy (Below.refl _ _)
            dsimp only at x0 x1 x2 x3 x4 x5 x6 x7 x8 x9 x10 x11
            have hge : ge < wy.heap.size := World.block_lt_of_cell? wy ⟨ge, _, none⟩ c4
            have hgp : gp < wy.heap.size := World.block_lt_of_cell? wy ⟨gp, _, none⟩ cp0
            have hgx : gx < wy.heap.size := World.block_lt_of_cell? wy ⟨gx, _, none⟩ x0
            clear hz hcz hfz hat hcl hslot hq ht hzi hby hby' y0 y1 y4
            gi_wp2_with fail
            gi_cut [14, 15] from 1000 (fun v14 v15 wd => ∃ b1 b2, v14 = Value.pointer (some ⟨b1, 0, none⟩) ∧ v15 = Value.pointer (some ⟨b2, 0, none⟩) ∧ wd.cell? ⟨b1, 4, none⟩ = some (.int .i64 q) ∧ wd.cell? ⟨b1, 6, none⟩ = some (.int .i64 t) ∧ wd.cell? ⟨b2, 0, none⟩ = some (.int .i64 (slotP (goneL lk) j).1) ∧ wd.cell? ⟨b2, 1, none⟩ = some (.int .i64 (slotP (goneL lk) j).2) ∧ Below wy.heap.size wy wd)
            case first J K' hJ hK' =>
              gi_region
              · have hb6 : Below wy.heap.size wy ((wy.alloc (.cells #[.int .i64 2, .int .i64 0, .string keyK, .int .i64 7, .int .i64 q, .int .i64 (groupsOf size), .int .i64 t, .int .i64 size, .string (digB size), .slice da 16 dc] 37)).alloc (.cells #[.int .i64 (slotP (goneL lk) j).1, .int .i64 (slotP (goneL lk) j).2] 34)).drew := (((Below.refl _ wy).alloc (Nat.le_refl _) _).alloc (by simp) _).drew
                have Hb6 := Lib.hid hb6
                clear hb6
                gi_wp2_with fail
                refine Met.intro (hJ _ _ ?_)
                repeat apply Exists.intro
                exact ⟨⟨_, _, rfl, rfl, by simp [go_sem], by simp [go_sem], by simp [go_sem], by simp [go_sem], Hb6.out⟩, rfl⟩
              · have hb6 : Below wy.heap.size wy ((wy.alloc (.cells #[.int .i64 (slotP (goneL lk) j).1, .int .i64 (slotP (goneL lk) j).2] 34)).alloc (.cells #[.int .i64 2, .int .i64 0, .string keyK, .int .i64 7, .int .i64 q, .int .i64 (groupsOf size), .int .i64 t, .int .i64 size, .string (digB size), .slice da 16 dc] 37)).drew := (((Below.refl _ wy).alloc (Nat.le_refl _) _).alloc (by simp) _).drew
                have Hb6 := Lib.hid hb6
                clear hb6
                gi_wp2_with fail
                refine Met.intro (hJ _ _ ?_)
                repeat apply Exists.intro
                exact ⟨⟨_, _, rfl, rfl, by simp [go_sem], by simp [go_sem], by simp [go_sem], by simp [go_sem], Hb6.out⟩, rfl⟩
            case rest =>
              obtain ⟨b1, b2, rfl, rfl, r4, r6, p0, p1, hb6⟩ := hcut
              obtain ⟨w6, rfl⟩ : ∃ x, x = wc := ⟨_, rfl⟩
              have Hb6 := Lib.hid hb6
              clear x0 x1 x2 x3 x4 x5 x6 x7 x8 x9 x10 x11 c4 cp0 cp1 hge hgp hgx hb6
              gi_upto_region 23 with (fail)
              gi_cut [16] from 1000 (fun v16 wd => v16 = .bool (goneL lk q t) ∧ ∃ nq, wd = w6.drewN nq)
              case first J K' hJ hK' =>
                by_cases hql : q < ll
                · obtain ⟨b, off, x, rfl, hxg, hxc, hx0, hx1, hbw⟩ := Hlack.out q hql w6 (Hby'.out _ Hb6.out)
                  have hd : decide (q < ll) = true := by simpa using hql
                  have hdp := div_pow_bd x t hx0 hx1
                  have hfin : Value.bool (bits BinOp.and IntKind.u16 (x / 2 ^ t) 1 == 1) = .bool (goneL lk q t) := by
                    rw [bits_one _ hdp.1 hdp.2]
                    unfold goneL
                    rw [← Hll.out, hxg, Bool.eq_iff_iff.2 (show (decide (q < ll) && decide (x / 2 ^ t % 2 = 1)) = true ↔ ((x / 2 ^ t % 2 == 1) = true) by simp [hql])]
                  have Hfin := Lib.hid hfin
                  clear hxg hdp hfin
                  gi_quiet (fail)
                  gi_wp2_with fail
                  refine Met.intro (hJ _ _ ?_)
                  repeat apply Exists.intro
                  exact ⟨⟨Hfin.out, _, rfl⟩, rfl⟩
                · have hd : decide (q < ll) = false := by simpa using hql
                  have hfin : Value.bool false = .bool (goneL lk q t) := by
                    unfold goneL
                    rw [← Hll.out, hd, Bool.false_and]
                  have Hfin := Lib.hid hfin
                  clear hfin
                  gi_quiet (fail)
                  gi_wp2_with fail
                  refine Met.intro (hJ _ _ ?_)
                  repeat apply Exists.intro
                  exact ⟨⟨Hfin.out, _, rfl⟩, rfl⟩
              case rest =>
                obtain ⟨rfl, nq, hwd⟩ := hcut
                have hb7 : Below w6.heap.size w6 wc := by rw [hwd]; exact ⟨rfl, rfl, rfl, Nat.le_refl _, fun _ _ => rfl⟩
                have hq0 : wc.cell? ⟨b2, 0, none⟩ = some (.int .i64 (slotP (goneL lk) j).1) := by rw [hwd]; exact p0
                have hq1 : wc.cell? ⟨b2, 1, none⟩ = some (.int .i64 (slotP (goneL lk) j).2) := by rw [hwd]; exact p1
                rw [Hslot.out] at hq0 hq1
                obtain ⟨w7, rfl⟩ : ∃ x, x = wc := ⟨_, rfl⟩
                have hb67 : Below wy.heap.size wy w7 := Hb6.out.trans (hb7.mono Hb6.out.size)
                have Hb67 := Lib.hid hb67
                clear r4 r6 p0 p1 hwd hb7 hb67
                cases hg : goneL lk q t with
                | true =>
                  rw [if_pos hg] at hq0 hq1
                  simp only [nowhere] at hq0 hq1
                  clear hg
                  gi_wp2_with fail
                  gi_quiet (fail)
                  gi_wp2_with fail
                  go_roundw
                  case rel => exact ⟨j + 1, by omega, by simp, (Hby.out.trans (Hb67.out.mono Hby.out.size)).trans ⟨rfl, rfl, rfl, Nat.le_refl _, fun _ _ => rfl⟩⟩
                  case measure => simp [intOf]; omega
                | false =>
                  rw [if_neg (by rw [hg]; simp)] at hq0 hq1
                  dsimp only at hq0 hq1
                  obtain ⟨x0, x1, x2, x3, x4, x5, x6, x7, x8, x9, x10, x11⟩ := Hat.out w7 Hb67.out
                  dsimp only at x0 x1 x2 x3 x4 x5 x6 x7 x8 x9 x10 x11
                  clear hg
                  gi_wp2_with fail
                  gi_quiet (fail)
                  gi_wp2_with fail
                  go_roundw
                  case rel => exact ⟨j + 1, by omega, by simp, (Hby.out.trans (Hb67.out.mono Hby.out.size)).trans ⟨rfl, rfl, rfl, Nat.le_refl _, fun _ _ => rfl⟩⟩
                  case measure => simp [intOf]; omega
          · obtain rfl : j = i := by omega
            have Hby := Lib.hid hby
            clear hby
            gi_wp2_with fail
            refine ⟨fun h => (by cases h), (awake_in (n - 1) wy).mono ?_⟩
            rintro e w10 ⟨rfl, hb10⟩
            gi_wp2_with fail
            go_ret
            exact ⟨rfl, Fin.out _ (Hby.out.trans (hb10.mono Hby.out.size))⟩

end Go.Proofs.Ytbcefiefeobmcaa
