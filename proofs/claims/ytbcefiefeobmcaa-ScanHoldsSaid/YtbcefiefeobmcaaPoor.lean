/-
  scan's poorest: the walk of slices.Chunk's rounds, and its own.
-/
import Derived.Test.YtbcefiefeobmcaaCop2
namespace Go.Proofs.Ytbcefiefeobmcaa
open Go.RowKit Go.Shelf Go.Maps Go.WideElems

theorem wide_fn4 (f : FuncId) : Fence.wide.fn f = True := rfl
attribute [local go_sem] Oper.semAt_some wide_fn4

/-- The k-th ten of a row of 10 * m places. -/
def tenVal (g k : Nat) : Value := .slice (some ⟨g, k * 20, none⟩) 10 10

/-- Two blocks lie as they lay. -/
def Kep (b1 b2 : Nat) (A B : World) : Prop := A.heap.size ≤ B.heap.size ∧ B.heap[b1]? = A.heap[b1]? ∧ B.heap[b2]? = A.heap[b2]?
theorem Kep.refl {b1 b2 : Nat} (A : World) : Kep b1 b2 A A := ⟨Nat.le_refl _, rfl, rfl⟩
theorem Kep.trans {b1 b2 : Nat} {A B C : World} (h : Kep b1 b2 A B) (k : Kep b1 b2 B C) : Kep b1 b2 A C := ⟨Nat.le_trans h.1 k.1, k.2.1.trans h.2.1, k.2.2.trans h.2.2⟩
theorem Kep.drew {b1 b2 : Nat} {A B : World} (h : Kep b1 b2 A B) : Kep b1 b2 A B.drew := h
theorem Kep.b {b1 b2 : Nat} {w : World} (h1 : b1 < w.heap.size) (h2 : b2 < w.heap.size) (W : World) (l : Nat) (o o' : Obj) (hl : w.heap.size ≤ l) (h : W.heap[l]? = some o) (hc : o.isCells = false) (hw : o.isWalk = false) : Kep b1 b2 W (W.putObj l o') :=
  have hb := belowK_b (n₀ := w.heap.size) (Nat.le_refl _) W l o o' hl h hc hw
  ⟨hb.size, hb.block _ h1, hb.block _ h2⟩
theorem Kep.of_below {b1 b2 n : Nat} {A B : World} (h : Below n A B) (h1 : b1 < n) (h2 : b2 < n) : Kep b1 b2 A B := ⟨h.size, h.block _ h1, h.block _ h2⟩
theorem Kep.c1 {b1 b2 j : Nat} {A B : World} (h : Kep b1 b2 A B) : B.cell? ⟨b1, j, none⟩ = A.cell? ⟨b1, j, none⟩ := World.cell?_of_block h.2.1
theorem Kep.c2 {b1 b2 j : Nat} {A B : World} (h : Kep b1 b2 A B) : B.cell? ⟨b2, j, none⟩ = A.cell? ⟨b2, j, none⟩ := World.cell?_of_block h.2.2
theorem Kep.set {b1 b2 b : Nat} (A : World) (h1 : b1 ≠ b) (h2 : b2 ≠ b) (i : Nat) (v : Value) : Kep b1 b2 A (A.setCell ⟨b, i, none⟩ v) :=
  have hg := grownBy_seti A b i v
  ⟨hg.size, Below.heap_setCell _ _ _ _ h1, Below.heap_setCell _ _ _ _ h2⟩

def tens (m k : Nat) : List (Fin m) := (List.finRange m).take k
theorem tens_succ (m k : Nat) (h : k < m) : tens m (k + 1) = tens m k ++ [⟨k, h⟩] := by
  unfold tens
  rw [List.take_succ_eq_append_getElem (by simpa using h)]
  simp
theorem tens_length (m k : Nat) (h : k ≤ m) : (tens m k).length = k := by simp [tens, h]
theorem tens_full (m : Nat) : tens m m = List.finRange m := by unfold tens; rw [List.take_of_length_le (by simp)]

set_option maxRecDepth 100000 in
set_option maxHeartbeats 1000000 in
theorem chunk1_in (n l B1 B2 g m : Nat) (hn : 1 ≤ n) (hm : m ≤ 4) (J Jx : List (Fin m) → World → Prop)
    (hY : ∀ pre x W, J pre W → pre.length < m → YieldAt Fence.wide (n - 1) Try.prog l #[tenVal g x.1] W fun e W' =>
      (e = .returned (.bool true) ∧ J (pre ++ [x]) W' ∧ Kep B1 B2 W W') ∨ (e = .returned (.bool false) ∧ Jx (pre ++ [x]) W'))
    (hJ : ∀ s A B, J s A → A.grownBy B none → J s B)
    (W : World) (hB1 : W.cell? ⟨B1, 0, none⟩ = some (.slice (some ⟨g, 0, none⟩) (m * 10) (m * 10))) (hB2 : W.cell? ⟨B2, 0, none⟩ = some (.int .i64 10)) (h0 : J [] W) :
    CallsIn Fence.wide n Try.prog 53 #[.func (.yield l) #[] #[], .pointer (some ⟨B1, 0, none⟩), .pointer (some ⟨B2, 0, none⟩)] W fun e W' => (∃ v, e = .returned v) ∧ ((∃ ys, ys = List.finRange m ∧ J ys W') ∨ (∃ pre, pre <+: List.finRange m ∧ Jx pre W')) := by
  refine callsIn_of_wp Try.func53 rfl trivial ?_ rfl
  simp only [Try.ntmps53, List.size_toArray, List.length_cons, List.length_nil, Nat.reduceAdd, Nat.reduceSub, Array.replicate_succ, Array.replicate_zero, List.push_toArray, List.append_toArray, List.nil_append, List.cons_append]
  gi_wp2
  gi_loopw [4] (fun i wr => ∃ k : Nat, k ≤ m ∧ i = .int .i64 (k * 10 : Nat) ∧ J (tens m k) wr ∧ Kep B1 B2 W wr)
    (fun i _ => m * 10 - (intOf i).toNat)
  case atStart => exact ⟨0, Nat.zero_le _, rfl, h0, Kep.refl _⟩
  case round =>
    obtain ⟨k, hk, rfl, hJs, hnx⟩ := hrel
    have e1 := hnx.c1.trans hB1
    have e2 := hnx.c2.trans hB2
    by_cases hlt : k < m
    · have hmin : min (10 : Int) (((m * 10 - k * 10 : Nat) : Int)) = 10 := by omega
      have hw : IntKind.i64.wrap (((k * 10 : Nat) : Int) + 10) = (((k + 1) * 10 : Nat) : Int) := by rw [IntWalk.i64_in _ (by omega)]; omega
      gi_wp2_with fail
      gi_region
      have hJ0 := hJ _ _ _ hJs (grown_none ((Below.refl wr.heap.size wr).drew))
      have hlen : (tens m k).length < m := by rw [tens_length m k hk]; exact hlt
      have hrg : tens m (k + 1) = tens m k ++ [⟨k, hlt⟩] := tens_succ m k hlt
      have hnx2 := hnx.drew
      obtain ⟨fn, tmps, assign, body, hy, hR⟩ := hY _ ⟨k, hlt⟩ wr.drew hJ0 hlen
      unfold tenVal at hy
      have hoff : k * 10 * 2 = k * 20 := by omega
      have hR' := Lib.hid hR
      clear hR hY hJ
      have hw2 : IntKind.i64.wrap (((k * 10 : Nat) : Int) + 10) = (k : Int) * 10 + 10 := by rw [IntWalk.i64_in _ (by omega)]; omega
      gi_wp2_with fail
      refine hR'.out.mono ?_
      rintro e W3 (⟨rfl, hJ3, hk3⟩ | ⟨rfl, hJx3⟩)
      · have e2' := (hnx2.trans hk3).c2.trans hB2
        gi_wp2
        go_roundw
        case rel => exact ⟨k + 1, by omega, by simp; omega, by rw [hrg]; exact hJ3, hnx2.trans hk3⟩
        case measure => simp [intOf]; omega
      · gi_wp2
        refine bodyPost_ret (results_none rfl _ _ _) rfl ?_
        refine ⟨⟨_, rfl⟩, .inr ⟨_, ?_, hJx3⟩⟩
        rw [← hrg]
        exact List.take_prefix _ _
    · obtain rfl : k = m := by omega
      gi_wp2_with fail
      go_end0
      exact ⟨⟨_, rfl⟩, .inl ⟨_, tens_full k, hJs⟩⟩

theorem chunk1_stops (n : Nat) (hn : 1 ≤ n) (B1 B2 g m : Nat) (hm : m ≤ 4) (w : World) (h1 : B1 < w.heap.size) (h2 : B2 < w.heap.size)
    (hB1 : w.cell? ⟨B1, 0, none⟩ = some (.slice (some ⟨g, 0, none⟩) (m * 10) (m * 10))) (hB2 : w.cell? ⟨B2, 0, none⟩ = some (.int .i64 10)) :
    SeqStopsK Fence.wide n Try.prog 53 #[.pointer (some ⟨B1, 0, none⟩), .pointer (some ⟨B2, 0, none⟩)] (fun k : Fin m => #[tenVal g k.1]) (Kep B1 B2) (fun ys => ys = List.finRange m) (fun pre => pre <+: List.finRange m) m w := fun l J Jx W hW hJ _ hY h0 =>
  chunk1_in n l B1 B2 g m hn hm J Jx hY (fun s A B h hg => hJ s A B none h hg (fun _ e => by cases e)) W ((hW.cell (p := ⟨B1, 0, none⟩) h1).trans hB1) ((hW.cell (p := ⟨B2, 0, none⟩) h2).trans hB2) h0

set_option maxHeartbeats 1000000 in
theorem chunk_in (n g m : Nat) (w : World) :
    CallsIn Fence.wide n Try.prog 43 #[.slice (some ⟨g, 0, none⟩) (m * 10) (m * 10), .int .i64 10] w fun e w' => e = .returned (.func (.func 53) #[] #[.pointer (some ⟨w.heap.size, 0, none⟩), .pointer (some ⟨w.heap.size + 1, 0, none⟩)]) ∧ w' = (w.alloc (.cells #[.slice (some ⟨g, 0, none⟩) (m * 10) (m * 10)] 30)).alloc (.cells #[.int .i64 10] 3) := by
  refine callsIn_of_wp Try.func43 rfl trivial ?_ rfl
  simp only [Try.ntmps43, List.size_toArray, List.length_cons, List.length_nil, Nat.reduceAdd, Nat.reduceSub, Array.replicate_succ, Array.replicate_zero, List.push_toArray, List.append_toArray, List.nil_append, List.cons_append]
  gi_wp2
  go_ret
  exact ⟨rfl, rfl⟩

/-- How many of a group's ten are somewhere; the least of it, so far. -/
def cntTo (ps : List (Int × Int)) (k j : Nat) : Nat := (((ps.drop (k * 10)).take j).filter (fun p => decide (p ≠ nowhere))).length
def leastOf (ps : List (Int × Int)) (pre : List Nat) : Int := pre.foldl (fun a k => min a (cntTo ps k 10 : Int)) 10
def poorestOf (ps : List (Int × Int)) : Int := leastOf ps (List.range (ps.length / 10))
theorem leastOf_snoc (ps : List (Int × Int)) (pre : List Nat) (k : Nat) : leastOf ps (pre ++ [k]) = min (leastOf ps pre) (cntTo ps k 10) := by simp [leastOf]
theorem cntTo_succ (ps : List (Int × Int)) (k j : Nat) {q : Int × Int} (h : ps[k * 10 + j]? = some q) : cntTo ps k (j + 1) = cntTo ps k j + (if q = nowhere then 0 else 1) := by
  unfold cntTo
  have hl : j < (ps.drop (k * 10)).length := by
    have := (List.getElem?_eq_some_iff.1 h).1
    simp; omega
  have hq : (ps.drop (k * 10))[j] = q := by
    have := (List.getElem?_eq_some_iff.1 h).2
    simp [this]
  rw [List.take_succ_eq_append_getElem hl, List.filter_append, List.length_append, hq]
  by_cases e : q = nowhere <;> simp [e]
theorem cntTo_le (ps : List (Int × Int)) (k j : Nat) : cntTo ps k j ≤ j := by
  unfold cntTo
  refine Nat.le_trans (List.length_filter_le _ _) ?_
  simp; omega
theorem finRange_val (m : Nat) : (List.finRange m).map (·.1) = List.range m := by
  apply List.ext_getElem <;> simp
theorem leastOf_range (ps : List (Int × Int)) (pre : List Nat) : 0 ≤ leastOf ps pre ∧ leastOf ps pre ≤ 10 := by
  suffices h : ∀ (pre : List Nat) (a : Int), 0 ≤ a → a ≤ 10 → 0 ≤ pre.foldl (fun a k => min a (cntTo ps k 10 : Int)) a ∧ pre.foldl (fun a k => min a (cntTo ps k 10 : Int)) a ≤ 10 from h pre 10 (by omega) (by omega)
  intro pre
  induction pre with
  | nil => intro a h1 h2; exact ⟨h1, h2⟩
  | cons k r ih =>
    intro a h1 h2
    have := cntTo_le ps k 10
    refine ih (min a (cntTo ps k 10 : Int)) ?_ ?_ <;> omega

/-- Between two rounds. -/
structure PoorI (w : World) (ps : List (Int × Int)) (pre : List Nat) (W : World) : Prop where
  box : Boxed W w.heap.size 3 (.int .i64 (leastOf ps pre))
  below : Below w.heap.size w W
  room : w.heap.size + 3 ≤ W.heap.size

theorem PoorI.own (w : World) (ps : List (Int × Int)) (m B : Nat) (hB : w.heap.size < B) : OwnFrom B (fun (pre : List (Fin m)) W => PoorI w ps (pre.map (·.1)) W) := fun s X Y row hs hg hr => by
  have far : ∀ b, b < B → some b ≠ row := fun b hb e => by have := (hr b e.symm).1; omega
  exact ⟨hs.box.kept hg (far _ hB), hs.below.grown hg hs.below.size (fun k e => by have := (hr k e).1; omega), Nat.le_trans hs.room hg.size⟩

set_option maxRecDepth 100000 in
set_option maxHeartbeats 2000000 in
theorem poorest_in (n : Nat) (hn : 3 ≤ n) (g m : Nat) (ps : List (Int × Int)) (hm : m ≤ 4) (hps : ps.length = m * 10) (w : World) (hrow : PRow w g ps) :
    CallsIn Fence.wide n Try.prog 20 #[.slice (some ⟨g, 0, none⟩) (m * 10) (m * 10)] w fun e W' => e = .returned (.int .i64 (poorestOf ps)) ∧ Below w.heap.size w W' := by
  have h1 : 1 ≤ n := by omega
  refine callsIn_of_wp_marks Try.func20 rfl trivial ?_ rfl
  simp only [Try.ntmps20, List.size_toArray, List.length_cons, List.length_nil, Nat.reduceAdd, Nat.reduceSub, Array.replicate_succ, Array.replicate_zero, List.push_toArray, List.append_toArray, List.nil_append, List.cons_append]
  gi_wp2_with (gi_at_call 43; refine (chunk_in (n - 1) _ _ _).mono ?_; rintro e w' ⟨rfl, rfl⟩)
  have b0 := Boxed.new w 3 (.int .i64 10)
  have b1 := Boxed.new (w.alloc (.cells #[.int .i64 10] 3)) 30 (.slice (some ⟨g, 0, none⟩) (m * 10) (m * 10))
  have b2 := Boxed.new ((w.alloc (.cells #[.int .i64 10] 3)).alloc (.cells #[.slice (some ⟨g, 0, none⟩) (m * 10) (m * 10)] 30)) 3 (.int .i64 10)
  simp only [World.size_alloc] at b0 b1 b2
  have hB0 : Below w.heap.size w (((w.alloc (.cells #[.int .i64 10] 3)).alloc (.cells #[.slice (some ⟨g, 0, none⟩) (m * 10) (m * 10)] 30)).alloc (.cells #[.int .i64 10] 3)) :=
    (((Below.refl _ w).alloc (Nat.le_refl _) _).alloc (by simp) _).alloc (by simp; omega) _
  refine wpIn_rangeFunc_ownH rfl h1 (gf := 53) (lb := #[.pointer (some ⟨w.heap.size + 1, 0, none⟩), .pointer (some ⟨w.heap.size + 1 + 1, 0, none⟩)]) rfl trivial (enters_of Try.func53 (by kernel_rfl) rfl)
    (chunk1_stops (n - 1) (by omega) (w.heap.size + 1) (w.heap.size + 1 + 1) g m hm _ (by simp) (by simp) (b1.alloc _).cell b2.cell) Kep.trans (Kep.b (by simp) (by simp)) (Below.refl _ _) (fun _ => rfl)
    (fun pre W => PoorI w ps (pre.map (·.1)) W)
    (fun _ _ _ => False)
    (PoorI.own w ps m _ (by simp; omega))
    (fun _ _ _ _ _ hs _ _ => hs)
    ⟨(b0.alloc _).alloc _, hB0, by simp⟩
    (fun x a' W => a' = { tmps := #[.slice (some ⟨g, 0, none⟩) (m * 10) (m * 10), undef, .int .i64 0, .pointer (some ⟨w.heap.size, 0, none⟩), tenVal g x.1, undef, undef, undef, .slice (some ⟨g, 0, none⟩) (m * 10) (m * 10), .func (.func 53) #[] #[.pointer (some ⟨w.heap.size + 1, 0, none⟩), .pointer (some ⟨w.heap.size + 1 + 1, 0, none⟩)], tenVal g x.1, undef, undef, undef, undef, undef, undef, undef, undef, undef, undef, undef, undef, undef, undef, undef, undef], defers := [] })
    ?hAx ?assign ?body ?done ?stop
  case hAx =>
    rintro x a' _ X Y row h _ _
    exact h
  case assign =>
    rintro l pre x W K hs hK
    gi_wp2
    exact hK _ _ (KeepsFrom.refl _ _) (Kep.refl _) hs rfl
  case body =>
    rintro l pre x a' W hl ⟨r, hr⟩ hs rfl hlt
    obtain ⟨hb, hB, hroom⟩ := hs
    have e0 := hb.cell
    have f0 := hb.frozen
    obtain ⟨k, hk⟩ := x
    unfold tenVal
    have hlr := leastOf_range ps (pre.map (·.1))
    gi_wp2_with fail
    gi_loopw [5, 13] (fun n5 i13 wr => ∃ j : Nat, j ≤ 10 ∧ i13 = .int .i64 j ∧ n5 = .int .i64 (cntTo ps k j) ∧ Below W.heap.size W wr) (fun _ i13 _ => 10 - (intOf i13).toNat)
    case atStart => exact ⟨0, Nat.zero_le _, rfl, by simp [cntTo], Below.refl _ _⟩
    case round =>
      obtain ⟨j, hj, rfl, rfl, hnx⟩ := hrel
      by_cases hj10 : j < 10
      · have hsl : k * 10 + j < ps.length := by omega
        obtain ⟨q, hq⟩ : ∃ q, ps[k * 10 + j]? = some q := ⟨_, List.getElem?_eq_getElem hsl⟩
        have hstep := cntTo_succ ps k j hq
        have hcle := cntTo_le ps k j
        obtain ⟨qc, qp⟩ := q
        have hroww : PRow wr g ps := (hnx.block g (Nat.lt_of_lt_of_le hrow.lt hB.size)).trans ((hB.block g hrow.lt).trans hrow)
        have hcells : wr.cell? ⟨g, k * 20 + j * 2, none⟩ = some (.int .i64 qc) ∧ wr.cell? ⟨g, k * 20 + j * 2 + 1, none⟩ = some (.int .i64 qp) := by
          have h0 := flatP_get ps (k * 10 + j) hsl
          rw [List.getElem?_eq_getElem hsl] at hq
          rw [Option.some.inj hq, show (k * 10 + j) * 2 = k * 20 + j * 2 by omega] at h0
          have hL := flatP_length ps
          exact ⟨by simp only [World.cell?, show wr.heap[g]? = _ from hroww]; simpa using h0.1, by simp only [World.cell?, show wr.heap[g]? = _ from hroww]; simpa using h0.2⟩
        obtain ⟨c0, c1⟩ := hcells
        have hb' := hb.kept (grown_none hnx) (by simp)
        have hw1 : IntKind.i64.wrap ((j : Int) + 1) = ((j + 1 : Nat) : Int) := by rw [IntWalk.i64_in _ (by omega)]; omega
        have hw2 : IntKind.i64.wrap ((cntTo ps k j : Int) + 1) = ((cntTo ps k j + 1 : Nat) : Int) := by rw [IntWalk.i64_in _ (by omega)]; omega
        have hstep' := Lib.hid hstep
        have hjI : ((j : Int) < 10) := by omega
        clear hstep
        gi_wp2_with fail
        gi_cut [19, 23, 24, 25, 26] from 17 (fun v19 v23 v24 v25 v26 wd => (v19 = .bool (decide ((qc, qp) ≠ nowhere)) ∧ Below wr.heap.size wr wd) ∧ v23 = undef ∧ v24 = undef ∧ v25 = undef ∧ v26 = undef)
        case first J K' hJ hK' =>
          obtain ⟨wx, hwx⟩ : ∃ wx, wx = wr.alloc (.cells #[.int .i64 qc, .int .i64 qp] 34) := ⟨_, rfl⟩
          have hwx' : ∀ w', Below wx.heap.size wx w' → w'.cell? ⟨wr.heap.size, 0, none⟩ = some (.int .i64 qc) ∧ w'.cell? ⟨wr.heap.size, 1, none⟩ = some (.int .i64 qp) := fun w' hb => by
            subst hwx
            exact ⟨(hb.cell (p := ⟨wr.heap.size, _, none⟩) (by simp)).trans (by simp [go_sem]), (hb.cell (p := ⟨wr.heap.size, _, none⟩) (by simp)).trans (by simp [go_sem])⟩
          have Hwx := Lib.hid hwx'
          have hb0 : Below wr.heap.size wr wx := by subst hwx; exact (Below.refl _ wr).alloc (Nat.le_refl _) _
          rw [← hwx]
          clear hwx' hwx
          refine wpIn_region_held (S := fun w' => Below wx.heap.size wx w') (by kernel_rfl) ?_
          refine wpAnyInH_take (i := 0) (v := .agg #[.int .i64 qc, .int .i64 qp]) (by kernel_rfl) rfl (by kernel_rfl) (by kernel_rfl) (by kernel_rfl) (fun _ _ _ h => h) ⟨.inl ⟨rfl, fun w' hS => ?_⟩, fun _ => rfl⟩ (Below.refl _ wx).drew ?_
          · obtain ⟨s0, s1⟩ := Hwx.out _ hS
            go_simp
          refine wpAnyInH_all (rs := [1]) (by kernel_rfl) (by simp) ?_
          intro i hi
          obtain rfl : i = 1 := by simpa using hi
          refine wpOpIn_does rfl rfl ?_
          go_simp
          refine ⟨fun h => (by cases h), ((callsIn_wide.2 (nowhere_any _)).inRound l).mono ?_⟩
          rintro e w1 ⟨rfl, hb1⟩
          have hb1' : Below wx.heap.size wx w1 := ((Below.refl _ wx).drew).trans (hb1.mono (Nat.le_refl _))
          refine ⟨hb1', ?_⟩
          refine wpAnyInH_all (rs := [2]) (by kernel_rfl) (by simp) ?_
          intro i hi
          obtain rfl : i = 2 := by simpa using hi
          refine wpOpIn_does rfl rfl ?_
          go_simp
          have fin : ∀ v19 : Value, v19 = .bool (decide ((qc, qp) ≠ nowhere)) → v19 = .bool (decide ((qc, qp) ≠ nowhere)) ∧ Below wr.heap.size wr w1 := fun v hv => ⟨hv, hb0.trans (hb1'.mono hb0.size)⟩
          have Fin := Lib.hid fin
          clear fin
          by_cases h0 : qc = 0
          · rw [if_pos h0]
            by_cases h1 : qp = 1024
            · rw [if_pos h1]
              have hv : Hid ((.bool false : Value) = .bool (decide ((qc, qp) ≠ nowhere))) := by show _ = _; simp [nowhere, h0, h1]
              clear h0 h1
              go_simp
              refine wpAnyInH_done (by kernel_rfl) ?_ _
              refine hK' _ _ (Met.intro (hJ _ _ ?_))
              repeat apply Exists.intro
              refine ⟨?_, rfl⟩
              exact ⟨Fin.out _ hv.out, rfl, rfl, rfl, rfl⟩
            · rw [if_neg h1]
              have hv : Hid ((.bool true : Value) = .bool (decide ((qc, qp) ≠ nowhere))) := by show _ = _; simp [nowhere, h0, h1]
              clear h0 h1
              go_simp
              refine wpAnyInH_done (by kernel_rfl) ?_ _
              refine hK' _ _ (Met.intro (hJ _ _ ?_))
              repeat apply Exists.intro
              refine ⟨?_, rfl⟩
              exact ⟨Fin.out _ hv.out, rfl, rfl, rfl, rfl⟩
          · rw [if_neg h0]
            have hv : Hid ((.bool true : Value) = .bool (decide ((qc, qp) ≠ nowhere))) := by show _ = _; simp [nowhere, h0]
            clear h0
            go_simp
            refine wpAnyInH_done (by kernel_rfl) ?_ _
            refine hK' _ _ (Met.intro (hJ _ _ ?_))
            repeat apply Exists.intro
            refine ⟨?_, rfl⟩
            exact ⟨Fin.out _ hv.out, rfl, rfl, rfl, rfl⟩
        case rest =>
          obtain ⟨⟨rfl, hwd⟩, rfl, rfl, rfl, rfl⟩ := hcut
          by_cases hnw : (qc, qp) = nowhere
          · rw [show decide ((qc, qp) ≠ nowhere) = false by simp [hnw]]
            gi_wp2_with fail
            go_roundw
            case rel => exact ⟨j + 1, by omega, rfl, by rw [hstep'.out, if_pos hnw]; rfl, hnx.trans (hwd.mono hnx.size)⟩
            case measure => simp [intOf]; omega
          · rw [show decide ((qc, qp) ≠ nowhere) = true by simp [hnw]]
            gi_wp2_with fail
            go_roundw
            case rel => exact ⟨j + 1, by omega, rfl, by rw [hstep'.out, if_neg hnw]; rfl, hnx.trans (hwd.mono hnx.size)⟩
            case measure => simp [intOf]; omega
      · obtain rfl : j = 10 := by omega
        have hb' := hb.kept (grown_none hnx) (by simp)
        have e1 := hb'.cell
        have f1 := hb'.frozen
        have hsn := leastOf_snoc ps (pre.map (·.1)) k
        have fin : ∀ v, v = min (leastOf ps (pre.map (·.1))) (cntTo ps k 10 : Int) → Hid (KeepsFrom (w.heap.size + 1 + 1 + 1) W (wr.setCell ⟨w.heap.size, 0, none⟩ (.int .i64 v)) ∧ Kep (w.heap.size + 1) (w.heap.size + 1 + 1) W (wr.setCell ⟨w.heap.size, 0, none⟩ (.int .i64 v)) ∧ PoorI w ps ((pre ++ [(⟨k, hk⟩ : Fin m)]).map (fun x : Fin m => x.1)) (wr.setCell ⟨w.heap.size, 0, none⟩ (.int .i64 v))) := fun v hv =>
          ⟨(keeps_below hnx).trans (KeepsFrom.of_grownBy (grownBy_seti wr w.heap.size 0 (.int .i64 v)) (fun j e => by cases e; omega)),
            (Kep.of_below hnx (by omega) (by omega)).trans (Kep.set wr (by omega) (by omega) 0 _),
            ⟨by rw [List.map_append, List.map_cons, List.map_nil, hsn, ← hv]; exact hb'.set _, ((hB.trans (hnx.mono hB.size))).setCell (p := ⟨w.heap.size, 0, none⟩) (Nat.le_refl _) _, by have := hnx.size; simp [World.setCell]; omega⟩⟩
        have Fin := Lib.hid fin
        clear e0 f0 fin hsn
        gi_wp2_with fail
        all_goals
          have hres := (Fin.out _ (by first | exact (Int.min_eq_left (by omega)).symm | exact (Int.min_eq_right (by omega)).symm)).out
          exact ⟨hres.1, hres.2.1, hres.2.2⟩
  case done =>
    rintro D ys W hD rfl hs hK
    obtain ⟨hb, hB, hroom⟩ := hs
    have e0 := hb.cell
    gi_wp2
    have hK' : W.heap[D]? = some (.deferred (some [])) := hK
    refine ⟨by simp, .inl ⟨_, _, rfl, run_takeDeferred hK', ?_⟩⟩
    have hDg : w.heap.size < D := by simp at hD; omega
    refine ⟨.int .i64 (poorestOf ps), ?_, rfl, ?_⟩
    · have : List.map (fun x : Fin m => x.1) (List.finRange m) = List.range (ps.length / 10) := by rw [finRange_val, hps, Nat.mul_div_cancel _ (by omega)]
      simp [results, Try.results20, go_sem, poorestOf, this]
    · exact hB.trans (belowK_b (w := w) (Nat.le_refl _) W D _ _ (by omega) hK' rfl rfl)
  case stop =>
    rintro D c pre W _ _ h _
    exact h.elim

end Go.Proofs.Ytbcefiefeobmcaa
