/-
  scan's iterator over the records that count (counts).
-/
import Derived.Test.YtbcefiefeobmcaaLeaf
import Derived.RangeFuncBox
import Derived.RangeFuncNested
import Derived.RangeFuncLeaves
import Derived.Shelf.Abstract
import Derived.Shelf.RegionOpen
import Derived.OwnWalkIn
import Derived.TacticsInMore
import Derived.LoopNIn
import Derived.LoopIn
namespace Go.Proofs.Ytbcefiefeobmcaa
open Go.RowKit Go.Shelf

attribute [local go_sem] Oper.semAt_some

/-- A record that was found. -/
structure Fnd where
  ac : Int
  ap : Int
  r : Rec

def Fnd.val (f : Fnd) : Value := .agg #[.int .i64 f.ac, .int .i64 f.ap, .int .i64 f.r.kind, .int .i64 f.r.cart, .string f.r.key, .int .i64 f.r.gen, .int .i64 f.r.group, .int .i64 f.r.groups, .int .i64 f.r.index, .int .i64 f.r.size, .string f.r.sum, .slice f.r.da f.r.dn f.r.dc]
def Fnd.placeB (f : Fnd) : Bool := decide (0 ≤ f.ac) && decide (f.ac < 32) && decide (0 ≤ f.ap) && decide (f.ap < 1024)
def Fnd.countsB (f : Fnd) : Bool := f.placeB && f.r.goodB

/-- At block b, from o on, lie the twelve cells of f. -/
structure FndAt (w : World) (b o : Nat) (f : Fnd) : Prop where
  c0 : w.cell? ⟨b, o, none⟩ = some (.int .i64 f.ac)
  c1 : w.cell? ⟨b, o + 1, none⟩ = some (.int .i64 f.ap)
  c2 : w.cell? ⟨b, o + 2, none⟩ = some (.int .i64 f.r.kind)
  c3 : w.cell? ⟨b, o + 3, none⟩ = some (.int .i64 f.r.cart)
  c4 : w.cell? ⟨b, o + 4, none⟩ = some (.string f.r.key)
  c5 : w.cell? ⟨b, o + 5, none⟩ = some (.int .i64 f.r.gen)
  c6 : w.cell? ⟨b, o + 6, none⟩ = some (.int .i64 f.r.group)
  c7 : w.cell? ⟨b, o + 7, none⟩ = some (.int .i64 f.r.groups)
  c8 : w.cell? ⟨b, o + 8, none⟩ = some (.int .i64 f.r.index)
  c9 : w.cell? ⟨b, o + 9, none⟩ = some (.int .i64 f.r.size)
  c10 : w.cell? ⟨b, o + 10, none⟩ = some (.string f.r.sum)
  c11 : w.cell? ⟨b, o + 11, none⟩ = some (.slice f.r.da f.r.dn f.r.dc)

/-- The slice value sv holds the records l, in a block below n₀; or it is empty. -/
def Founds (n₀ : Nat) (w : World) (sv : Value) (l : List Fnd) : Prop :=
  (∃ a cap, sv = .slice a 0 cap ∧ l = []) ∨ ∃ b off cap, sv = .slice (some ⟨b, off, none⟩) l.length cap ∧ b < n₀ ∧ ∀ k (h : k < l.length), FndAt w b (off + k * 12) l[k]

theorem FndAt.below {n₀ : Nat} {A B : World} {b o : Nat} {f : Fnd} (h : Below n₀ A B) (hb : b < n₀) (x : FndAt A b o f) : FndAt B b o f :=
  ⟨(h.cell (p := ⟨b, _, none⟩) hb).trans x.c0, (h.cell (p := ⟨b, _, none⟩) hb).trans x.c1, (h.cell (p := ⟨b, _, none⟩) hb).trans x.c2, (h.cell (p := ⟨b, _, none⟩) hb).trans x.c3,
   (h.cell (p := ⟨b, _, none⟩) hb).trans x.c4, (h.cell (p := ⟨b, _, none⟩) hb).trans x.c5, (h.cell (p := ⟨b, _, none⟩) hb).trans x.c6, (h.cell (p := ⟨b, _, none⟩) hb).trans x.c7,
   (h.cell (p := ⟨b, _, none⟩) hb).trans x.c8, (h.cell (p := ⟨b, _, none⟩) hb).trans x.c9, (h.cell (p := ⟨b, _, none⟩) hb).trans x.c10, (h.cell (p := ⟨b, _, none⟩) hb).trans x.c11⟩

theorem Founds.below {n₀ : Nat} {A B : World} (h : Below n₀ A B) {sv : Value} {l : List Fnd} : Founds n₀ A sv l → Founds n₀ B sv l
  | .inl e => .inl e
  | .inr ⟨b, off, cap, e, hb, hc⟩ => .inr ⟨b, off, cap, e, hb, fun k hk => (hc k hk).below h hb⟩

/-- A new block with the twelve cells of f. -/
theorem FndAt.new (w : World) (f : Fnd) (t : TypeId) : FndAt (w.alloc (.cells #[.int .i64 f.ac, .int .i64 f.ap, .int .i64 f.r.kind, .int .i64 f.r.cart, .string f.r.key, .int .i64 f.r.gen, .int .i64 f.r.group, .int .i64 f.r.groups, .int .i64 f.r.index, .int .i64 f.r.size, .string f.r.sum, .slice f.r.da f.r.dn f.r.dc] t)) w.heap.size 0 f := by
  constructor <;> simp [go_sem]

theorem grown_none {A B : World} (h : Below A.heap.size A B) : A.grownBy B none := ⟨h.os, h.tape, h.output, h.size, fun k hk _ => h.block k hk⟩

theorem good_at (r : Rec) (hr : r.fits) (w : World) :
    Calls Try.prog 14 #[.agg #[.int .i64 r.kind, .int .i64 r.cart, .string r.key, .int .i64 r.gen, .int .i64 r.group, .int .i64 r.groups, .int .i64 r.index, .int .i64 r.size, .string r.sum, .slice r.da r.dn r.dc]] w fun e w' => e = .returned (.bool r.goodB) ∧ Below w.heap.size w w' :=
  good_any r hr w

/-- A record that counts. -/
abbrev CFnd := { f : Fnd // f.countsB = true }

/-- Those of a list that count. -/
def cfs (l : List Fnd) : List CFnd := l.filterMap fun f => if h : f.countsB = true then some ⟨f, h⟩ else none

/-- The same, as records. -/
def raw (l : List CFnd) : List Fnd := l.map (·.1)
theorem raw_nil : raw [] = [] := rfl
theorem raw_snoc (l : List CFnd) (x : CFnd) : raw (l ++ [x]) = raw l ++ [x.1] := by simp [raw]

theorem cfs_map (l : List Fnd) : raw (cfs l) = l.filter Fnd.countsB := by
  unfold raw
  induction l with
  | nil => rfl
  | cons f r ih =>
    unfold cfs at *
    by_cases h : f.countsB = true
    · simp [h, ih]
    · simp [h, ih]

theorem cfs_mem {l : List Fnd} {f : CFnd} : f ∈ cfs l ↔ f.1 ∈ l := by
  unfold cfs
  simp only [List.mem_filterMap]
  constructor
  · rintro ⟨g, hg, h⟩
    by_cases hc : g.countsB = true
    · simp [hc] at h; subst h; exact hg
    · simp [hc] at h
  · intro h
    exact ⟨f.1, h, by simp [f.2]⟩

theorem cfs_length (l : List Fnd) : (cfs l).length ≤ l.length := List.length_filterMap_le _ _

theorem cfs_prefix {l l' : List Fnd} (h : l <+: l') : cfs l <+: cfs l' := by
  obtain ⟨t, rfl⟩ := h
  exact ⟨cfs t, by simp [cfs]⟩

theorem cfs_yes (l : List Fnd) (k : Nat) (h : k < l.length) (f : CFnd) (e : l[k] = f.1) : cfs (l.take (k + 1)) = cfs (l.take k) ++ [f] := by
  rw [List.take_succ_eq_append_getElem h]
  simp [cfs, e, f.2]

theorem cfs_no (l : List Fnd) (k : Nat) (h : k < l.length) (e : (l[k]).countsB = false) : cfs (l.take (k + 1)) = cfs (l.take k) := by
  unfold cfs
  rw [List.take_succ_eq_append_getElem h, List.filterMap_append]
  have : [l[k]].filterMap (fun f => if h : f.countsB = true then some (⟨f, h⟩ : CFnd) else none) = [] := by simp [e]
  rw [this, List.append_nil]

set_option maxRecDepth 100000 in
set_option maxHeartbeats 2000000 in
theorem counts1_in (n l Bs n₀ b off cap : Nat) (zs : List Fnd) (hn : 1 ≤ n) (hreach : zs.length * 8 ≤ 140737488351232) (hfit : ∀ f ∈ zs, f.r.fits) (hb : b < n₀) (J Jx : List CFnd → World → Prop)
    (hJ : ∀ s A B, J s A → A.grownBy B none → J s B)
    (hY : ∀ pre x W, J pre W → pre.length < zs.length → YieldAt Fence.wide (n - 1) Try.prog l #[x.1.val] W fun e W' =>
      (e = .returned (.bool true) ∧ J (pre ++ [x]) W' ∧ Below n₀ W W') ∨ (e = .returned (.bool false) ∧ Jx (pre ++ [x]) W'))
    (W : World) (hBs : W.cell? ⟨Bs, 0, none⟩ = some (.slice (some ⟨b, off, none⟩) zs.length cap)) (hn₀ : n₀ ≤ W.heap.size) (hc : ∀ k (h : k < zs.length), FndAt W b (off + k * 12) zs[k]) (h0 : J [] W) :
    CallsIn Fence.wide n Try.prog 51 #[.func (.yield l) #[] #[], .pointer (some ⟨Bs, 0, none⟩)] W fun e W' => (∃ v, e = .returned v) ∧ ((∃ ys, ys = cfs zs ∧ J ys W') ∨ (∃ pre, pre <+: cfs zs ∧ Jx pre W')) := by
  refine callsIn_of_wp Try.func51 rfl trivial ?_ rfl
  simp only [Try.ntmps51, List.size_toArray, List.length_cons, List.length_nil, Nat.reduceAdd, Nat.reduceSub, Array.replicate_succ, Array.replicate_zero, List.push_toArray, List.append_toArray, List.nil_append, List.cons_append]
  gi_wp2
  gi_loopw [8] (fun i wr => ∃ k : Nat, k ≤ zs.length ∧ i = .int .i64 k ∧ J (cfs (zs.take k)) wr ∧ Below n₀ W wr)
    (fun i _ => zs.length - (intOf i).toNat)
  case atStart => exact ⟨0, Nat.zero_le _, rfl, by simpa [cfs] using h0, Below.refl _ _⟩
  case round =>
    obtain ⟨k, hk, rfl, hJs, hnx⟩ := hrel
    have hsz : n₀ ≤ wr.heap.size := Nat.le_trans hn₀ hnx.size
    by_cases hlt : k < zs.length
    · have hx := (hc k hlt).below hnx hb
      have hyes := cfs_yes zs k hlt
      have hno := cfs_no zs k hlt
      have hft := hfit _ (List.getElem_mem hlt)
      have hpre : (cfs (zs.take k)).length < zs.length := Nat.lt_of_le_of_lt (cfs_length _) (by simp; omega)
      have hpfx : cfs (zs.take (k + 1)) <+: cfs zs := cfs_prefix (List.take_prefix _ _)
      generalize hzk : zs[k] = f at *
      have hyes' := Lib.hid hyes
      have hno' := Lib.hid hno
      have hzk' := Lib.hid hzk
      have hY' := Lib.hid hY
      have hc' := Lib.hid hc
      have hJ' := Lib.hid hJ
      have hfit' := Lib.hid hfit
      clear hyes hno hzk hY hc hJ hfit
      obtain ⟨c0, c1, c2, c3, c4, c5, c6, c7, c8, c9, c10, c11⟩ := hx
      have hnw := FndAt.new wr f 39
      by_cases hp : f.placeB = true
      · have hp' := hp
        simp only [Fnd.placeB, Bool.and_eq_true, decide_eq_true_eq] at hp'
        obtain ⟨⟨⟨p0, p1⟩, p2⟩, p3⟩ := hp'
        gi_wp2_with fail
        refine ⟨trivial, (callsIn_wide.2 (good_at f.r hft _)).mono ?_⟩
        rintro e w1 ⟨rfl, hb1⟩
        have hx1 := hnw.below hb1 (by simp)
        obtain ⟨d0, d1, d2, d3, d4, d5, d6, d7, d8, d9, d10, d11⟩ := hx1
        simp only [Nat.zero_add] at d0 d1 d2 d3 d4 d5 d6 d7 d8 d9 d10 d11
        clear hnw c0 c1 c2 c3 c4 c5 c6 c7 c8 c9 c10 c11
        have hb2 : Below n₀ wr w1 := ((Below.refl n₀ wr).alloc hsz _).trans (hb1.mono (by simp; omega))
        have hJ1 := hJ'.out _ _ _ hJs ((World.grownBy_alloc wr (.cells #[.int .i64 f.ac, .int .i64 f.ap, .int .i64 f.r.kind, .int .i64 f.r.cart, .string f.r.key, .int .i64 f.r.gen, .int .i64 f.r.group, .int .i64 f.r.groups, .int .i64 f.r.index, .int .i64 f.r.size, .string f.r.sum, .slice f.r.da f.r.dn f.r.dc] 39) none).andThen (grown_none hb1) (fun _ e => by cases e))
        cases hg : f.r.goodB
        · gi_wp2
          refine ⟨fun _ h => (by cases h), ?_⟩
          gi_wp2
          go_roundw
          case rel =>
            refine ⟨k + 1, by omega, by simp, ?_, hnx.trans hb2⟩
            rw [hno'.out (by simp [Fnd.countsB, hg])]
            exact hJ1
          case measure => simp [intOf]; omega
        · have hcb : f.countsB = true := by simp [Fnd.countsB, hp, hg]
          have hcb' := Lib.hid hcb
          clear hcb
          obtain ⟨fn, tmps, assign, body, hy, hR⟩ := hY'.out _ ⟨f, hcb'.out⟩ w1 hJ1 hpre
          unfold Fnd.val at hy
          gi_wp2
          refine hR.mono ?_
          rintro e W3 (⟨rfl, hJ3, hk3⟩ | ⟨rfl, hJx3⟩)
          · gi_wp2
            go_roundw
            case rel => exact ⟨k + 1, by omega, by simp, by rw [hyes'.out ⟨f, hcb'.out⟩ rfl]; exact hJ3, (hnx.trans hb2).trans hk3⟩
            case measure => simp [intOf]; omega
          · gi_wp2
            refine bodyPost_ret (results_none rfl _ _ _) rfl ?_
            exact ⟨⟨_, rfl⟩, .inr ⟨_, by rw [← hyes'.out ⟨f, hcb'.out⟩ rfl]; exact hpfx, hJx3⟩⟩
      · have hp0 : f.placeB = false := by simpa using hp
        have hcb : f.countsB = false := by simp [Fnd.countsB, hp0]
        have hJ1 := hJ'.out _ _ _ hJs (World.grownBy_alloc wr (.cells #[.int .i64 f.ac, .int .i64 f.ap, .int .i64 f.r.kind, .int .i64 f.r.cart, .string f.r.key, .int .i64 f.r.gen, .int .i64 f.r.group, .int .i64 f.r.groups, .int .i64 f.r.index, .int .i64 f.r.size, .string f.r.sum, .slice f.r.da f.r.dn f.r.dc] 39) none)
        clear hp hnw
        have hp0' := Lib.hid hp0
        clear hp0
        gi_wp2_with fail
        · exact absurd (by simp [Fnd.placeB, *] : f.placeB = true) (by rw [hp0'.out]; simp)
        all_goals
          refine ⟨trivial, ?_⟩
          gi_wp2_with fail
          refine ⟨fun _ h => (by cases h), ?_⟩
          gi_wp2_with fail
          go_roundw
          case rel =>
            refine ⟨k + 1, by omega, by simp, ?_, hnx.alloc hsz _⟩
            rw [hno'.out hcb]
            exact hJ1
          case measure => simp [intOf]; omega
    · obtain rfl : k = zs.length := by omega
      gi_wp2
      go_end0
      exact ⟨⟨_, rfl⟩, .inl ⟨_, by rw [List.take_length], hJs⟩⟩

set_option maxRecDepth 100000 in
set_option maxHeartbeats 1000000 in
theorem counts1_nil_in (n l Bs cap : Nat) (a : Option Addr) (J : List CFnd → World → Prop) (W : World) (hBs : W.cell? ⟨Bs, 0, none⟩ = some (.slice a 0 cap)) (h0 : J [] W) :
    CallsIn Fence.wide n Try.prog 51 #[.func (.yield l) #[] #[], .pointer (some ⟨Bs, 0, none⟩)] W fun e W' => (∃ v, e = .returned v) ∧ J [] W' := by
  refine callsIn_of_wp Try.func51 rfl trivial ?_ rfl
  simp only [Try.ntmps51, List.size_toArray, List.length_cons, List.length_nil, Nat.reduceAdd, Nat.reduceSub, Array.replicate_succ, Array.replicate_zero, List.push_toArray, List.append_toArray, List.nil_append, List.cons_append]
  gi_wp2
  gi_loopw [8] (fun i wr => i = .int .i64 0 ∧ J [] wr) (fun _ _ => 0)
  case atStart => exact ⟨rfl, h0⟩
  case round =>
    obtain ⟨rfl, hJs⟩ := hrel
    gi_wp2
    go_end0
    exact ⟨⟨_, rfl⟩, hJs⟩

set_option maxHeartbeats 1000000 in
theorem counts_in (n : Nat) (a : Option Addr) (len cap : Nat) (w : World) :
    CallsIn Fence.wide n Try.prog 39 #[.slice a len cap] w fun e w' => e = .returned (.func (.func 51) #[] #[.pointer (some ⟨w.heap.size, 0, none⟩)]) ∧ w' = w.alloc (.cells #[.slice a len cap] 22) := by
  refine callsIn_of_wp Try.func39 rfl trivial ?_ rfl
  simp only [Try.ntmps39, List.size_toArray, List.length_cons, List.length_nil, Nat.reduceAdd, Nat.reduceSub, Array.replicate_succ, Array.replicate_zero, List.push_toArray, List.append_toArray, List.nil_append, List.cons_append]
  gi_wp2
  go_ret
  exact ⟨rfl, rfl⟩

/-- scan's counts(list) hands back an iterator over the records that count, in the list's order. -/
theorem counts_stops (n : Nat) (hn : 1 ≤ n) (Bs n₀ : Nat) (sv : Value) (zs : List Fnd) (hreach : zs.length * 8 ≤ 140737488351232) (hfit : ∀ f ∈ zs, f.r.fits) (w : World) (hBs : Bs < w.heap.size) (hn₀ : n₀ ≤ w.heap.size)
    (hc : w.cell? ⟨Bs, 0, none⟩ = some sv) (hI : Founds n₀ w sv zs) :
    SeqStopsK Fence.wide n Try.prog 51 #[.pointer (some ⟨Bs, 0, none⟩)] (fun x : CFnd => #[x.1.val]) (Below n₀) (fun ys => ys = cfs zs) (fun pre => pre <+: cfs zs) zs.length w := fun l J Jx W hW hJ _ hY h0 => by
  have hc' := (hW.cell (p := ⟨Bs, 0, none⟩) hBs).trans hc
  rcases hI.below (hW.mono hn₀) with ⟨a, cap, rfl, rfl⟩ | ⟨b, off, cap, rfl, hb, hcs⟩
  · exact (counts1_nil_in n l Bs cap a J W hc' h0).mono fun e W' ⟨he, hj⟩ => ⟨he, .inl ⟨_, rfl, hj⟩⟩
  · exact counts1_in n l Bs n₀ b off cap zs hn hreach hfit hb J Jx (fun s A B h hg => hJ s A B none h hg (fun _ e => by cases e)) hY W hc' (Nat.le_trans hn₀ hW.size) hcs h0

end Go.Proofs.Ytbcefiefeobmcaa
