/-
  scan's Best: the walk.
-/
import Derived.Test.YtbcefiefeobmcaaSrt
import Derived.OwnWalkIn
import Derived.Maps.OwnIn
namespace Go.Proofs.Ytbcefiefeobmcaa
open Go.RowKit Go.Shelf Go.Maps Go.WideElems

theorem wide_fn6 (f : FuncId) : Fence.wide.fn f = True := rfl
attribute [local go_sem] Oper.semAt_some wide_fn6

/-- The seven cells of a choice. -/
structure ChoAt (W : World) (B : Nat) (key : ByteArray) (gen gr sz : Int) (sum : ByteArray) (sv : Value) (least : Int) : Prop where
  c0 : W.cell? ⟨B, 0, none⟩ = some (.string key)
  c1 : W.cell? ⟨B, 1, none⟩ = some (.int .i64 gen)
  c2 : W.cell? ⟨B, 2, none⟩ = some (.int .i64 gr)
  c3 : W.cell? ⟨B, 3, none⟩ = some (.int .i64 sz)
  c4 : W.cell? ⟨B, 4, none⟩ = some (.string sum)
  c5 : W.cell? ⟨B, 5, none⟩ = some sv
  c6 : W.cell? ⟨B, 6, none⟩ = some (.int .i64 least)

theorem ChoAt.below {n₀ : Nat} {A B : World} {b : Nat} {key : ByteArray} {gen gr sz : Int} {sum : ByteArray} {sv : Value} {least : Int} (h : Below n₀ A B) (hb : b < n₀) (x : ChoAt A b key gen gr sz sum sv least) : ChoAt B b key gen gr sz sum sv least :=
  ⟨(h.cell (p := ⟨b, _, none⟩) hb).trans x.c0, (h.cell (p := ⟨b, _, none⟩) hb).trans x.c1, (h.cell (p := ⟨b, _, none⟩) hb).trans x.c2, (h.cell (p := ⟨b, _, none⟩) hb).trans x.c3, (h.cell (p := ⟨b, _, none⟩) hb).trans x.c4, (h.cell (p := ⟨b, _, none⟩) hb).trans x.c5, (h.cell (p := ⟨b, _, none⟩) hb).trans x.c6⟩

theorem Founds.up {n₀ m : Nat} {A : World} (hm : n₀ ≤ m) {sv : Value} {l : List Fnd} : Founds n₀ A sv l → Founds m A sv l
  | .inl e => .inl e
  | .inr ⟨b, off, cap, e, hb, hc⟩ => .inr ⟨b, off, cap, e, Nat.lt_of_lt_of_le hb hm, hc⟩

/-- What Best hands back, in memory. -/
structure BestAt (n₀ : Nat) (W : World) (v : Value) (es : List Pr) : Prop where
  ents : (es = [] ∧ v = .slice none 0 0) ∨ ∃ g, v = .slice (some ⟨g, 0, none⟩) es.length es.length ∧ n₀ ≤ g ∧ es ≠ [] ∧ ∀ i (h : i < es.length), EntAt W g (i * 5) es[i]
  rows : ∀ p ∈ es, n₀ ≤ p.2.2.1 ∧ PRow W p.2.2.1 p.2.2.2
  keys : ∀ p ∈ es, p.2.1.1 = p.1

set_option maxRecDepth 100000 in
set_option maxHeartbeats 4000000 in
theorem best_in (n : Nat) (hn : 4 ≤ n) (a : Option Addr) (len cap : Nat) (zs : List Fnd) (hsmall : zs.length ≤ 1000) (hfit : ∀ f ∈ zs, f.r.fits) (w : World) (hI : Founds w.heap.size w (.slice a len cap) zs) :
    CallsIn Fence.wide n Try.prog 10 #[.slice a len cap] w fun e W' => ∃ (v : Value) (es : List Pr), e = .returned (.tuple #[v, .int .i64 (mostOf (raw (cfs zs)))]) ∧ BestAt w.heap.size W' v es ∧ IsBest (tombsOf (raw (cfs zs))) (copiesOf (raw (cfs zs))) (es.map fun p => cpy p.2) ∧ Below w.heap.size w W' := by
  have hmm := @run_makeMap Try.prog
  have hreach : zs.length * 8 ≤ 140737488351232 := by omega
  refine callsIn_of_wp Try.func10 rfl trivial ?_ rfl
  simp only [Try.ntmps10, List.size_toArray, List.length_cons, List.length_nil, Nat.reduceAdd, Nat.reduceSub, Array.replicate_succ, Array.replicate_zero, List.push_toArray, List.append_toArray, List.nil_append, List.cons_append]
  gi_wp2_with fail
  refine ⟨fun h => (by cases h), (gone_in (n - 1) (by omega) _ _ _ zs hreach hfit _ hI).mono ?_⟩
  rintro e w1 ⟨bt, rfl, hbt, hT, hb1⟩
  have hbt1 := hT.lt
  rw [← cfs_map] at hT
  have hI1 := hI.below hb1
  generalize hM0 : mostOf (zs.filter Fnd.countsB) = M at *
  generalize hT0 : tombsOf (raw (cfs zs)) = T at *
  gi_wp2_with fail
  have hM1 := mapIs_made w1 Try.prog 9
  have hT1 := hT.kept (World.grownBy_alloc w1 (.map #[] 0) none) (by simp)
  have hb2 := hb1.alloc hb1.size (.map #[] 0)
  have hI2 := (hI.below hb2).up (m := (w1.alloc (.map #[] 0)).heap.size) (by have := hb1.size; simp; omega)
  refine ⟨fun h => (by cases h), (copies_in (n - 1) (by omega) _ _ _ zs hreach hfit _ hI2).mono ?_⟩
  rintro e w3 ⟨bm, ms, rfl, hbm, hC, hpl, hb3⟩
  obtain ⟨w4, hrg, hit, hg4, hs4⟩ := hC.map.range (t := 56) Try.underlying56
  gi_wp2_with fail
  have hbm1 : w1.heap.size + 1 ≤ bm := by simpa using hbm
  have hbm3 := hC.map.lt
  have hb3' : Below w.heap.size w w3 := hb2.trans (hb3.mono hb2.size)
  have hb4 : Below w.heap.size w w4 := hb3'.grown hg4 hb3'.size (fun k e => by cases e)
  have h0 : L1 w T ms bt w1.heap.size bm w3.heap.size [] [] ms [] w4 :=
    ⟨(hT1.kept (grown_none hb3) (by simp)).kept hg4 (by simp), hit, (hM1.kept (grown_none hb3) (by simp)).kept hg4 (by simp), BestI.nil, List.Perm.refl _, fun p hp => (hC.rows p hp).2.kept hg4 (by simp), hb4⟩
  have hkeys := encM_keys hC.map
  have hapart : ∀ p ∈ ms, p.2.1 ≠ w1.heap.size ∧ p.2.1 ≠ w3.heap.size := fun p hp => by
    have h1 := (hC.rows p hp).1
    have h2 := (hC.rows p hp).2.lt
    simp at h1
    omega
  have hrowsN : ∀ p ∈ ms, w.heap.size ≤ p.2.1 := fun p hp => by have h1 := (hC.rows p hp).1; have := hb1.size; simp at h1; omega
  have hok : ∀ p ∈ ms, BlobOk p.1 := fun p hp => copies_ok (cfs zs) (p.1, p.2.2) (by rw [← hpl]; exact List.mem_map.2 ⟨p, hp, rfl⟩)
  have hlen : ∀ p ∈ ms, p.2.2.length = (p.1.2.2.1 * 10).toNat := fun p hp => copies_len (raw (cfs zs)) (p.1, p.2.2) (by rw [← hpl]; exact List.mem_map.2 ⟨p, hp, rfl⟩)
  clear hC hit hT1 hM1 hI1 hI2 hT hmm
  gi_loopw [] (fun wr => ∃ done rest B, L1 w T ms bt w1.heap.size bm w3.heap.size done [] rest B wr ∧ w4.heap.size ≤ wr.heap.size) (fun wr => leftN bm w3.heap.size wr)
  case atStart => exact ⟨[], ms, [], h0, Nat.le_refl _⟩
  case round =>
    obtain ⟨done, rest, B, hL, hsz⟩ := hrel
    have hleft := hL.it.leftN
    rcases hL.it.nextT 0 with ⟨hr0, hnx⟩ | ⟨c, rest', w5, hperm, hnx, hit5, hg5, hs5, hen⟩
    · obtain ⟨wq, rfl⟩ : ∃ x, x = wr := ⟨_, rfl⟩
      have hBs := encM_keys hL.best
      obtain ⟨w10, hrg2, hit2, hg10, hs10⟩ := hL.best.range (t := 55) Try.underlying55
      have hnb : w1.heap.size < wq.heap.size := hL.best.lt
      have h20 : L2 w w10.heap.size ms B w1.heap.size wq.heap.size [] [] B (.slice none 0 0) w10 :=
        ⟨hit2, by simp, World.ownsRow_nil _ _ _ _, fun _ => rfl, fun _ => rfl, fun p hp => (hL.rows p hp).kept hg10 (by simp), hL.below.grown hg10 hL.below.size (fun k e => by cases e)⟩
      have hdone : done.Perm ms := by have := hL.perm; rw [hr0] at this; simpa using this
      have hbi := hL.bi
      have hBl : B.length ≤ 1000 := by
        have h1 := hbi.len
        have h2 := hdone.length_eq
        have h3 : ms.length = (copiesOf (raw (cfs zs))).length := by rw [← hpl]; simp [plainCM]
        have h4 := copies_count (raw (cfs zs))
        have h5 : (raw (cfs zs)).length ≤ zs.length := by rw [cfs_map]; exact List.length_filter_le _ _
        omega
      have hlow : ∀ p ∈ ms, p.2.1 < w10.heap.size := fun p hp => Nat.lt_of_lt_of_le (hL.rows p hp).lt hg10.size
      have hwq : w.heap.size ≤ wq.heap.size := hL.below.size
      have hrows0 := fun p hp => (hL.rows p hp).lt
      have hpl' := Lib.hid hpl
      have hM0' := Lib.hid hM0
      have hT0' := Lib.hid hT0
      have hlow0 := hrowsN
      clear hL hit2 hg10 hleft hpl hM0 hT0
      have hz : (Try.prog.info? 32).map (fun i => (i.zero, i.size, i.bytes)) = some (some (.agg #[.string { data := #[] }, .int .i64 0, .int .i64 0, .string { data := #[] }, .slice none 0 0]), 5, 72) := by kernel_rfl
      obtain ⟨i0, hi0, hz'⟩ : ∃ i0, Try.prog.info? 32 = some i0 ∧ (i0.zero, i0.size, i0.bytes) = (some (.agg #[.string { data := #[] }, .int .i64 0, .int .i64 0, .string { data := #[] }, .slice none 0 0]), 5, 72) := by
        cases hq : Try.prog.info? 32 with
        | none => rw [hq] at hz; cases hz
        | some i => rw [hq] at hz; exact ⟨i, rfl, by simpa using hz⟩
      simp only [Prod.mk.injEq] at hz'
      obtain ⟨hz0, hz1, hz2⟩ := hz'
      have hs10' := Lib.hid hs10
      clear hs10 hz
      gi_wp2_with fail
      gi_loopw [14] (fun v wr2 => ∃ out rest2, L2 w w10.heap.size ms B w1.heap.size wq.heap.size out [] rest2 v wr2 ∧ w10.heap.size ≤ wr2.heap.size) (fun _ wr2 => leftN w1.heap.size wq.heap.size wr2)
      case atStart => exact ⟨[], B, h20, Nat.le_refl _⟩
      case round =>
        obtain ⟨out, rest2, hM, hsz2⟩ := hrel
        have hleft2 := hM.it.leftN
        have hiq : wq.heap.size < w10.heap.size := by have := hs10'.out; omega
        rcases hM.it.nextT (mk := fun s : ByteArray => Value.string s) (mv := choVal) 0 with ⟨hr1, hnx2⟩ | ⟨p, rest3, w11, hperm2, hnx2, hit11, hg11, hs11, hen2⟩
        · have hM0 := hM
          have hown := hM.own
          have hp0 := hM.perm
          rw [hr1] at hp0
          have hpB : out.Perm B := by simpa using hp0
          have hol : out.length ≤ 1000 := by rw [hpB.length_eq]; exact hBl
          clear hleft2 hM hp0 hown
          have HM := Lib.hid hM0
          clear hM0
          gi_wp2_with fail
          refine ⟨fun h => (by cases h), (callsIn_wide.2 (sort_any w10.heap.size _ out hol _ HM.out.own HM.out.nil HM.out.nil')).mono ?_⟩
          rintro e w20 ⟨rfl, out', hpm, hsrt, hg20, hents⟩
          have hbest := isBest_of hbi hdone hBs (hpm.trans hpB) hsrt
          have hbel := HM.out.below.grown hg20 HM.out.below.size (fun k e => by have := (HM.out.own.lt k e).1; omega)
          have hkeysE : ∀ p ∈ out', p.2.1.1 = p.1 := fun p hp => (hbi.has p ((hpm.trans hpB).mem_iff.1 hp)).2.2.1
          have hrowsE : ∀ p ∈ out', w.heap.size ≤ p.2.2.1 ∧ PRow w20 p.2.2.1 p.2.2.2 := fun p hp => by
            have hm := hdone.mem_iff.1 (hbi.has p ((hpm.trans hpB).mem_iff.1 hp)).1
            exact ⟨hlow0 _ hm, (HM.out.rows _ hm).kept hg20 (fun e => by have h1 := (HM.out.own.lt _ e.symm).1; have h2 := hlow _ hm; omega)⟩
          have Hbest := Lib.hid hbest
          have Hbel := Lib.hid hbel
          have HkE := Lib.hid hkeysE
          have HrE := Lib.hid hrowsE
          have hMr : M = mostOf (raw (cfs zs)) := by rw [← hM0'.out, cfs_map]
          have HMr := Lib.hid hMr
          clear hbest hbel hkeysE hrowsE hbi hdone hBs hMr
          rcases hents with ⟨rfl, rfl⟩ | ⟨ge, cape, rfl, hle, hcm, hge, hne, hat⟩
          · gi_wp2_with fail
            refine ⟨fun h => (by cases h), (callsIn_wide.2 (clip_none_any _)).mono ?_⟩
            rintro e w21 ⟨rfl, rfl⟩
            gi_wp2_with fail
            refine bodyPost_ret (v := .tuple #[.slice none 0 0, .int .i64 M]) (by simp [results, Try.results10, go_sem]) rfl ?_
            refine ⟨.slice none 0 0, [], by rw [HMr.out], ⟨.inl ⟨rfl, rfl⟩, HrE.out, HkE.out⟩, ?_, Hbel.out⟩
            rw [← hpl'.out, hT0'.out]
            exact Hbest.out
          · have Hat := Lib.hid hat
            clear hat
            gi_wp2_with fail
            refine ⟨fun h => (by cases h), (callsIn_wide.2 (clip_any _ cape hle ge _)).mono ?_⟩
            rintro e w21 ⟨rfl, rfl⟩
            gi_wp2_with fail
            refine bodyPost_ret (v := .tuple #[.slice (some ⟨ge, 0, none⟩) out'.length out'.length, .int .i64 M]) (by simp [results, Try.results10, go_sem]) rfl ?_
            refine ⟨_, out', by rw [HMr.out], ⟨.inr ⟨ge, rfl, by have := hs10'.out; omega, hne, Hat.out⟩, HrE.out, HkE.out⟩, ?_, Hbel.out⟩
            rw [← hpl'.out, hT0'.out]
            exact Hbest.out
        · have hLn := hM.next hiq hwq (fun p hp => Nat.ne_of_lt (hrows0 p hp)) hperm2 hg11 hit11
          have hmeas2 : leftN w1.heap.size wq.heap.size wr = rest3.length + 1 := by rw [hleft2]; simp [bestVal, encM, hperm2.length_eq]
          have Hmeas2 := Lib.hid hmeas2
          have hol : out.length + 1 ≤ B.length := by have := hLn.perm.length_eq; simp at this; omega
          clear hleft2 hmeas2
          obtain ⟨k, ⟨key, gen, gr, sz, sum⟩, g, ps⟩ := p
          simp only [choVal, sliceVal] at hnx2 hen2
          have HLn := Lib.hid hLn
          have Hol := Lib.hid hol
          clear hM hLn hperm2 hit11 hol
          gi_wp2_with (gi_at_builtin; refine wpListIn_append_own _ rfl _ _ 24 rfl w10.heap.size 32 i0 (.agg #[.string { data := #[] }, .int .i64 0, .int .i64 0, .string { data := #[] }, .slice none 0 0]) 5 72 Try.underlying24 hi0 hz0 hz1 hz2 rfl (by decide) _ _ _ rfl ((HLn.out.own.alloc _).alloc _) ⟨wr.heap.size + 1, 0, none⟩ 1 1 [.string k, .int .i64 gen, .int .i64 sz, .string sum, .slice (some ⟨g, 0, none⟩) ps.length ps.length] rfl rfl ?c1 ?c2 ?c3 ?c4 ?c5 ?_)
          case c1 =>
            intro j u hu
            have hj : j < 5 := by
              rcases Nat.lt_or_ge j 5 with h | h
              · exact h
              · rw [List.getElem?_eq_none (by simpa using h)] at hu; cases hu
            have : j = 0 ∨ j = 1 ∨ j = 2 ∨ j = 3 ∨ j = 4 := by omega
            rw [← hs11]
            rcases this with rfl | rfl | rfl | rfl | rfl <;> simp at hu <;> subst hu <;> simp [go_sem, Addr.add]
          case c2 =>
            intro u hu
            simp at hu
            rcases hu with rfl | rfl | rfl | rfl | rfl <;> rfl
          case c3 => have := Hol.out; unfold maxLen; omega
          case c4 => have := Hol.out; omega
          case c5 => simp [hs11]; omega
          intro v' w12 hown' hg12 hnil'
          have hb11 : ∀ o o', Below w11.heap.size w11 ((w11.alloc o).alloc o') := fun o o' => ((Below.refl _ w11).alloc (Nat.le_refl _) o).alloc (by simp) o'
          have happ := (HLn.out.grow (hb11 _ _)).app (v' := v') hiq (by omega) (by omega) (fun p hp => hlow p hp) hown' hg12 ⟨fun e => absurd e hnil', fun h => absurd h.2 (by decide)⟩
          have Happ := Lib.hid happ
          have hsz12 : w10.heap.size ≤ w12.heap.size := by have := hg12.size; simp [hs11] at this; omega
          clear happ hown' hg12 hnil'
          gi_wp2_with fail
          exact ⟨⟨_, _, Happ.out, hsz12⟩, by rw [Hmeas2.out, Happ.out.it.leftN]; simp [bestVal, encM]⟩
    · have hbB : w1.heap.size < bm := by omega
      have hLn := hL.next (by omega) (by omega) (fun p hp => (hapart p hp).2) (by have := hb3'.size; omega) hperm hg5 hit5
      have hcm := hLn.mem
      have hbo := hok c hcm
      have hln := hlen c hcm
      have hrw := hLn.rows c hcm
      have hfr := hLn.fresh hkeys
      clear hit5 hg5
      obtain ⟨⟨key, gen, gr, sz, sum⟩, g, ps⟩ := c
      dsimp only at hln hrw
      simp only [blobVal, sliceVal] at hnx hen
      obtain ⟨b1, b2, b3, b4, b5⟩ := hbo
      dsimp only at b1 b2 b3 b4 b5 hcm
      obtain ⟨m, hm⟩ : ∃ m : Nat, gr = m := ⟨gr.toNat, by omega⟩
      have hlm : ps.length = m * 10 := by rw [hln, hm]; omega
      have hm4 : m ≤ 4 := by omega
      have b5' := Lib.hid b5
      have hm' := Lib.hid hm
      clear b5 hln hm
      rw [hlm] at hnx hen
      gi_wp2_with fail
      obtain ⟨wx, hwx⟩ : ∃ wx, wx = w5.alloc (.cells #[.string key, .int .i64 gen, .int .i64 gr, .int .i64 sz, .string sum] 59) := ⟨_, rfl⟩
      rw [← hwx]
      have hLx : L1 w T ms bt w1.heap.size bm w3.heap.size done [((key, gen, gr, sz, sum), (g, ps))] rest' B wx := by rw [hwx]; exact hLn.grow ((Below.refl _ _).alloc (Nat.le_refl _) _)
      have hbl : BlobAt wx wr.heap.size key gen gr sz sum := by rw [hwx, ← hs5]; exact ⟨by simp [go_sem], by simp [go_sem], by simp [go_sem], by simp [go_sem], by simp [go_sem]⟩
      have hwxs : wx.heap.size = wr.heap.size + 1 := by rw [hwx]; simp [hs5]
      have hix := hLx.it.leftN
      have hwxs' := Lib.hid hwxs
      clear hwxs
      clear hnx hen hwx hrw hLn
      gi_cut [9] from 101 (fun v9 wd => ∃ Bc, v9 = Value.pointer (some ⟨Bc, 0, none⟩) ∧ Below wx.heap.size wx wd ∧ ChoAt wd Bc key gen gr sz sum (.slice (some ⟨g, 0, none⟩) (m * 10) (m * 10)) (poorestOf ps))
      case first J K' hJ hK' =>
        have hSb : ∀ w', Below wx.heap.size wx w' → w'.cell? ⟨wr.heap.size, 0, none⟩ = some (.string key) ∧ w'.cell? ⟨wr.heap.size, 1, none⟩ = some (.int .i64 gen) ∧ w'.cell? ⟨wr.heap.size, 2, none⟩ = some (.int .i64 gr) ∧ w'.cell? ⟨wr.heap.size, 3, none⟩ = some (.int .i64 sz) ∧ w'.cell? ⟨wr.heap.size, 4, none⟩ = some (.string sum) := fun w' hb =>
          have h := hbl.below hb (by have := hwxs'.out; omega)
          ⟨h.c0, h.c1, h.c2, h.c3, h.c4⟩
        have Hbl := Lib.hid hSb
        have hrwx := hLx.rows _ hcm
        dsimp only at hrwx
        have hpo : ∀ w', Below wx.heap.size wx w' → CallsIn Fence.wide (n - 1) Try.prog 20 #[.slice (some ⟨g, 0, none⟩) (m * 10) (m * 10)] w' fun e W' => e = .returned (.int .i64 (poorestOf ps)) ∧ Below w'.heap.size w' W' := fun w' hb =>
          poorest_in (n - 1) (by omega) g m ps hm4 hlm w' (hrwx.kept (grown_none hb) (by simp))
        have Hpo := Lib.hid hpo
        have hbd : Below wx.heap.size wx wx.drew := (Below.refl _ wx).drew
        clear hSb hpo hrwx
        refine wpIn_region_held (S := fun w' => Below wx.heap.size wx w') (by kernel_rfl) ?_
        refine wpAnyInH_take (i := 0) (v := .agg #[.string key, .int .i64 gen, .int .i64 gr, .int .i64 sz, .string sum]) (by kernel_rfl) rfl (by kernel_rfl) (by kernel_rfl) (by kernel_rfl) (fun _ _ _ h => h) ⟨.inl ⟨rfl, fun w' hS => ?_⟩, fun _ => rfl⟩ hbd ?_
        · obtain ⟨s0, s1, s2, s3, s4⟩ := Hbl.out _ hS
          go_simp
        refine wpAnyInH_take (i := 1) (v := .slice (some ⟨g, 0, none⟩) (m * 10) (m * 10)) (by kernel_rfl) rfl (by kernel_rfl) (by kernel_rfl) (by kernel_rfl) (fun _ _ _ h => h) ⟨.inl ⟨rfl, fun w' hS => ?_⟩, fun _ => rfl⟩ hbd ?_
        · go_simp
        refine wpAnyInH_take (i := 2) (v := .slice (some ⟨g, 0, none⟩) (m * 10) (m * 10)) (by kernel_rfl) rfl (by kernel_rfl) (by kernel_rfl) (by kernel_rfl) (fun _ _ _ h => h) ⟨.inl ⟨rfl, fun w' hS => ?_⟩, fun _ => rfl⟩ hbd ?_
        · go_simp
        refine wpAnyInH_all (rs := [3, 5]) (by kernel_rfl) (by simp) ?_
        intro i hi
        rcases List.mem_cons.1 hi with rfl | hi
        · refine wpOpIn_does rfl rfl ?_
          go_simp
          refine ⟨fun h => (by cases h), (Hpo.out _ hbd).mono ?_⟩
          rintro e w6 ⟨rfl, hb6⟩
          have hb6' : Below wx.heap.size wx w6 := hbd.trans (hb6.mono hbd.size)
          refine ⟨hb6', ?_⟩
          refine wpAnyInH_take (i := 4) (v := .agg #[.string key, .int .i64 gen, .int .i64 gr, .int .i64 sz, .string sum, .slice (some ⟨g, 0, none⟩) (m * 10) (m * 10), .int .i64 (poorestOf ps)]) (by kernel_rfl) rfl (by kernel_rfl) (by kernel_rfl) (by kernel_rfl) (fun _ _ _ h => h) ⟨.inl ⟨rfl, fun w' hS => ?_⟩, fun _ => rfl⟩ hb6' ?_
          · go_simp
          refine wpAnyInH_all (rs := [5]) (by kernel_rfl) (by simp) ?_
          intro i hi
          obtain rfl : i = 5 := by simpa using hi
          refine wpOpIn_does rfl rfl ?_
          go_simp
          refine ⟨hb6'.alloc hb6'.size _, ?_⟩
          refine wpAnyInH_all (rs := [6]) (by kernel_rfl) (by simp) ?_
          intro i hi
          obtain rfl : i = 6 := by simpa using hi
          refine wpOpIn_does rfl rfl ?_
          go_simp
          refine ⟨hb6'.alloc hb6'.size _, wpAnyInH_done (by kernel_rfl) ?_ _⟩
          refine hK' _ _ (Met.intro (hJ _ _ ?_))
          repeat apply Exists.intro
          refine ⟨?_, rfl⟩
          exact ⟨w6.heap.size, rfl, hb6'.alloc hb6'.size _, ⟨by simp [go_sem], by simp [go_sem], by simp [go_sem], by simp [go_sem], by simp [go_sem], by simp [go_sem], by simp [go_sem]⟩⟩
        · obtain rfl : i = 5 := by simpa using hi
          refine wpOpIn_does rfl rfl ?_
          go_simp
          refine ⟨hbd.alloc hbd.size _, ?_⟩
          refine wpAnyInH_all (rs := [3]) (by kernel_rfl) (by simp) ?_
          intro i hi
          obtain rfl : i = 3 := by simpa using hi
          refine wpOpIn_does rfl rfl ?_
          go_simp
          have hbd2 : Below wx.heap.size wx ((wx.alloc (.cells #[.string { data := #[] }, .int .i64 0, .int .i64 0, .int .i64 0, .string { data := #[] }, .slice none 0 0, .int .i64 0] 62)).drew) := ((Below.refl _ wx).alloc (Nat.le_refl _) _).drew
          refine ⟨fun h => (by cases h), (Hpo.out _ hbd2).mono ?_⟩
          rintro e w6 ⟨rfl, hb6⟩
          have hb6' : Below wx.heap.size wx w6 := hbd2.trans (hb6.mono hbd2.size)
          have hwr : ∃ cs, cs.size = 7 ∧ w6.heap[wx.heap.size]? = some (.cells cs 62 (0, 0)) := ⟨_, rfl, (hb6.block wx.heap.size (by simp)).trans ((MapKept.heap_alloc wx.drew _).1)⟩
          obtain ⟨cs, hcs, hwb⟩ := hwr
          have hlt1 : wx.heap.size < w6.heap.size := (Array.getElem?_eq_some_iff.1 hwb).1
          have z0 : ∀ i, i < 7 → ∃ v, w6.cell? ⟨wx.heap.size, i, none⟩ = some v := fun i hi => ⟨cs[i]'(by omega), by simp [World.cell?, hwb, hcs, hi]⟩
          have fz : ∀ i, w6.frozen? ⟨wx.heap.size, i, none⟩ = false := fun i => by simp [World.frozen?, hwb]
          obtain ⟨v0, y0⟩ := z0 0 (by omega)
          obtain ⟨v1, y1⟩ := z0 1 (by omega)
          obtain ⟨v2, y2⟩ := z0 2 (by omega)
          obtain ⟨v3, y3⟩ := z0 3 (by omega)
          obtain ⟨v4, y4⟩ := z0 4 (by omega)
          obtain ⟨v5, y5⟩ := z0 5 (by omega)
          obtain ⟨v6, y6⟩ := z0 6 (by omega)
          have f0' := fz 0
          have f1' := fz 1
          have f2' := fz 2
          have f3' := fz 3
          have f4' := fz 4
          have f5' := fz 5
          have f6' := fz 6
          clear z0 fz
          refine ⟨hb6', ?_⟩
          refine wpAnyInH_take (i := 4) (v := .agg #[.string key, .int .i64 gen, .int .i64 gr, .int .i64 sz, .string sum, .slice (some ⟨g, 0, none⟩) (m * 10) (m * 10), .int .i64 (poorestOf ps)]) (by kernel_rfl) rfl (by kernel_rfl) (by kernel_rfl) (by kernel_rfl) (fun _ _ _ h => h) ⟨.inl ⟨rfl, fun w' hS => ?_⟩, fun _ => rfl⟩ hb6' ?_
          · go_simp
          have hbW : ∀ v0 v1 v2 v3 v4 v5 v6, Below wx.heap.size wx (((((((w6.setCell ⟨wx.heap.size, 0, none⟩ v0).setCell ⟨wx.heap.size, 1, none⟩ v1).setCell ⟨wx.heap.size, 2, none⟩ v2).setCell ⟨wx.heap.size, 3, none⟩ v3).setCell ⟨wx.heap.size, 4, none⟩ v4).setCell ⟨wx.heap.size, 5, none⟩ v5).setCell ⟨wx.heap.size, 6, none⟩ v6) := fun v0 v1 v2 v3 v4 v5 v6 =>
            (((((((hb6'.setCell (p := ⟨wx.heap.size, 0, none⟩) (Nat.le_refl _) v0).setCell (p := ⟨wx.heap.size, 1, none⟩) (Nat.le_refl _) v1).setCell (p := ⟨wx.heap.size, 2, none⟩) (Nat.le_refl _) v2).setCell (p := ⟨wx.heap.size, 3, none⟩) (Nat.le_refl _) v3).setCell (p := ⟨wx.heap.size, 4, none⟩) (Nat.le_refl _) v4).setCell (p := ⟨wx.heap.size, 5, none⟩) (Nat.le_refl _) v5).setCell (p := ⟨wx.heap.size, 6, none⟩) (Nat.le_refl _) v6)
          have HbW := Lib.hid hbW
          clear hbW
          refine wpAnyInH_all (rs := [6]) (by kernel_rfl) (by simp) ?_
          intro i hi
          obtain rfl : i = 6 := by simpa using hi
          refine wpOpIn_does rfl rfl ?_
          go_simp
          refine ⟨HbW.out _ _ _ _ _ _ _, wpAnyInH_done (by kernel_rfl) ?_ _⟩
          refine hK' _ _ (Met.intro (hJ _ _ ?_))
          repeat apply Exists.intro
          refine ⟨?_, rfl⟩
          exact ⟨wx.heap.size, rfl, HbW.out _ _ _ _ _ _ _, ⟨by go_simp, by go_simp, by go_simp, by go_simp, by go_simp, by go_simp, by go_simp⟩⟩
      case rest =>
        obtain ⟨Bc, rfl, hwd, hch⟩ := hcut
        obtain ⟨wy, rfl⟩ : ∃ x, x = wc := ⟨_, rfl⟩
        have hbly := hbl.below hwd (by have := hwxs'.out; omega)
        have hLy := hLx.grow hwd
        have hks : key.size ≤ maxLen := by unfold maxLen; omega
        have hlt := look_tombs2 hLy.tombs hks
        obtain ⟨y0, y1, y2, y3, y4⟩ := hbly
        obtain ⟨x0, x1, x2, x3, x4, x5, x6⟩ := hch
        generalize hpo : poorestOf ps = po at *
        generalize hgT : getL T key = oT at *
        gi_upto_region 8 with (fail)
        gi_cut [54] from 101 (fun v54 wd => v54 = .bool (!elig T (cpy ((key, gen, gr, sz, sum), (g, ps)))) ∧ wd = wy)
        case first J K' hJ hK' =>
          have hel : elig T (cpy ((key, gen, gr, sz, sum), (g, ps))) = (decide (8 ≤ po) && !deadO oT gen) := by rw [← hpo, ← hgT]; rfl
          have fin : ∀ b : Bool, b = !elig T (cpy ((key, gen, gr, sz, sum), (g, ps))) → Value.bool b = .bool (!elig T (cpy ((key, gen, gr, sz, sum), (g, ps)))) := fun b hb => by rw [hb]
          have Fin := Lib.hid fin
          have Hel := Lib.hid hel
          clear fin hel
          by_cases hp8 : po < 8
          · gi_wp2_with fail
            refine Met.intro (hJ _ _ ?_)
            repeat apply Exists.intro
            refine ⟨⟨Fin.out _ ?_, rfl⟩, rfl⟩
            rw [Hel.out]
            simp [deadO, hp8]
          · cases oT with
            | none =>
              dsimp only [Option.getD, Option.isSome]
              gi_wp2_with fail
              refine Met.intro (hJ _ _ ?_)
              repeat apply Exists.intro
              refine ⟨⟨Fin.out _ ?_, rfl⟩, rfl⟩
              rw [Hel.out]
              simp [deadO, hp8]
            | some t =>
              dsimp only [Option.getD, Option.isSome]
              by_cases ht : gen ≤ t
              · gi_wp2_with fail
                refine Met.intro (hJ _ _ ?_)
                repeat apply Exists.intro
                refine ⟨⟨Fin.out _ ?_, rfl⟩, rfl⟩
                rw [Hel.out]
                simp [deadO, hp8, ht]
              · gi_wp2_with fail
                refine Met.intro (hJ _ _ ?_)
                repeat apply Exists.intro
                refine ⟨⟨Fin.out _ ?_, rfl⟩, rfl⟩
                rw [Hel.out]
                simp [deadO, hp8, ht]
        case rest =>
          obtain ⟨rfl, rfl⟩ := hcut
          obtain ⟨wy, rfl⟩ : ∃ x, x = wc := ⟨_, rfl⟩
          have hBs := encM_keys hLy.best
          have hlb := look_best hLy.best hks
          have hmeas : leftN bm w3.heap.size wr = rest'.length + 1 := by rw [hleft]; simp [encM, hperm.length_eq]
          have Hmeas := Lib.hid hmeas
          clear hmeas hlt hleft
          cases he : elig T (cpy ((key, gen, gr, sz, sum), (g, ps))) with
          | false =>
            dsimp only [Bool.not]
            have hfin := hLy.poor he
            have Hfin := Lib.hid hfin
            have hwz := hwd.size
            clear hfin
            gi_wp2_with fail
            case roundEnd => exact ⟨⟨_, _, _, Hfin.out, by have := hwxs'.out; omega⟩, by rw [Hmeas.out, Hfin.out.it.leftN]; simp [encM]⟩
          | true =>
            dsimp only [Bool.not]
            have hsz7 : w4.heap.size ≤ wy.heap.size := by have := hwxs'.out; have := hwd.size; omega
            have hBcl : Bc < wy.heap.size := World.block_lt_of_cell? wy ⟨Bc, 0, none⟩ x0
            have hwrl : wr.heap.size < wy.heap.size := World.block_lt_of_cell? wy ⟨wr.heap.size, 0, none⟩ y0
            cases hgB : getL B key with
            | none =>
              rw [hgB] at hlb
              dsimp only [Option.map, Option.getD, Option.isSome] at hlb
              have hLz := hLy.grow (Y := wy.alloc (.cells #[.string { data := #[] }, .int .i64 0, .int .i64 0, .int .i64 0, .string { data := #[] }, .slice none 0 0, .int .i64 0] 62)) ((Below.refl _ _).alloc (Nat.le_refl _) _)
              obtain ⟨w8, hup, hres⟩ := store_best hLz.best hks ((key, gen, gr, sz, sum), (g, ps))
              simp only [choVal, sliceVal, hlm, hpo] at hup
              have hfin := hLz.put (by omega) (by have := hb3'.size; omega) (by omega) (fun p hp => (hapart p hp).1) hb1.size (hLz.bi.first he hgB) hres.out.1 hres.out.2
              have Hfin := Lib.hid hfin
              have hw8 : w4.heap.size ≤ w8.heap.size := Nat.le_trans hsz7 (Nat.le_trans (by simp) hres.out.2.size)
              have hres' : Hid _ := hres
              clear hfin hLz hres hLx hL h0
              gi_wp2_with fail
              case roundEnd => exact ⟨⟨_, _, _, Hfin.out, hw8⟩, by rw [Hmeas.out, Hfin.out.it.leftN]; simp [encM]⟩
            | some was =>
              obtain ⟨⟨k2, g2, gr2, z2, s2⟩, gb2, ps2⟩ := was
              rw [hgB] at hlb
              simp only [Option.map, Option.getD, Option.isSome, choVal, sliceVal] at hlb
              have hLz := hLy.grow (Y := wy.alloc (.cells #[.string k2, .int .i64 g2, .int .i64 gr2, .int .i64 z2, .string s2, .slice (some ⟨gb2, 0, none⟩) ps2.length ps2.length, .int .i64 (poorestOf ps2)] 62)) ((Below.refl _ _).alloc (Nat.le_refl _) _)
              have hyB : Below wy.heap.size wy (wy.alloc (.cells #[.string k2, .int .i64 g2, .int .i64 gr2, .int .i64 z2, .string s2, .slice (some ⟨gb2, 0, none⟩) ps2.length ps2.length, .int .i64 (poorestOf ps2)] 62)) := (Below.refl _ wy).alloc (Nat.le_refl _) _
              have hbly2 : BlobAt wy wr.heap.size key gen gr sz sum := ⟨y0, y1, y2, y3, y4⟩
              have hch2 : ChoAt wy Bc key gen gr sz sum (.slice (some ⟨g, 0, none⟩) (m * 10) (m * 10)) po := ⟨x0, x1, x2, x3, x4, x5, x6⟩
              have Hbly2 := Lib.hid hbly2
              have Hch2 := Lib.hid hch2
              have HLz := Lib.hid hLz
              have Hhyb := Lib.hid hyB
              have Hbi := Lib.hid hLy.bi
              clear hbly2 hch2 hLz hyB hLx hL h0
              gi_wp2_with fail
              refine ⟨fun h => (by cases h), (better_in (n - 1) key sum k2 s2 gen gr sz po g2 gr2 z2 (poorestOf ps2) (some ⟨g, 0, none⟩) (some ⟨gb2, 0, none⟩) (m * 10) (m * 10) ps2.length ps2.length _).mono ?_⟩
              rintro e w7 ⟨rfl, hb7⟩
              have hL7 := HLz.out.grow hb7
              have hb7' : Below wy.heap.size wy w7 := Hhyb.out.trans (hb7.mono Hhyb.out.size)
              have hbly7 := Hbly2.out.below hb7' hwrl
              have hch7 := Hch2.out.below hb7' hBcl
              obtain ⟨p0, p1, p2, p3, p4⟩ := hbly7
              obtain ⟨q0, q1, q2, q3, q4, q5, q6⟩ := hch7
              clear x0 x1 x2 x3 x4 x5 x6 y0 y1 y2 y3 y4
              have hbeq : betterB po gen sz sum (poorestOf ps2) g2 z2 s2 = beats (cpy ((key, gen, gr, sz, sum), (g, ps))) (cpy ((k2, g2, gr2, z2, s2), (gb2, ps2))) := by rw [← hpo]; rfl
              have hsz8 : w4.heap.size ≤ w7.heap.size := Nat.le_trans hsz7 hb7'.size
              cases hbt : betterB po gen sz sum (poorestOf ps2) g2 z2 s2 with
              | true =>
                obtain ⟨w8, hup, hres⟩ := store_best hL7.best hks ((key, gen, gr, sz, sum), (g, ps))
                simp only [choVal, sliceVal, hlm, hpo] at hup
                have hfin := hL7.put (by omega) (by have := hb3'.size; omega) (by omega) (fun p hp => (hapart p hp).1) hb1.size (hL7.bi.won hBs he hgB (by rw [← hbeq, hbt])) hres.out.1 hres.out.2
                have Hfin := Lib.hid hfin
                have hw8 : w4.heap.size ≤ w8.heap.size := Nat.le_trans hsz8 hres.out.2.size
                have hres' : Hid _ := hres
                clear hfin hres hL7 hbeq hlb
                gi_wp2_with fail
                case roundEnd => exact ⟨⟨_, _, _, Hfin.out, hw8⟩, by rw [Hmeas.out, Hfin.out.it.leftN]; simp [encM]⟩
              | false =>
                have hfin := hL7.stay (hL7.bi.lost hBs hgB (by rw [← hbeq, hbt]) (fun q hq => (hok q (hL7.done_mem q hq)).some) b5'.out hfr)
                have Hfin := Lib.hid hfin
                clear hfin hL7 hbeq hlb
                gi_wp2_with fail
                case roundEnd => exact ⟨⟨_, _, _, Hfin.out, hsz8⟩, by rw [Hmeas.out, Hfin.out.it.leftN]; simp [encM]⟩

end Go.Proofs.Ytbcefiefeobmcaa
