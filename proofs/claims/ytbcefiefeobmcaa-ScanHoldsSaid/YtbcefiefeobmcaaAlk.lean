/-
  kistref10's Same and Alike, at entries that are one.
-/
import Derived.Test.YtbcefiefeobmcaaBst2
namespace Go.Proofs.Ytbcefiefeobmcaa
open Go.RowKit Go.Shelf Go.Maps Go.WideElems

theorem wide_fn9 (f : FuncId) : Fence.wide.fn f = True := rfl
attribute [local go_sem] Oper.semAt_some wide_fn9

/-- An entry, plain. -/
abbrev Ent5 := ByteArray × Int × Int × ByteArray × List (Int × Int)
/-- Places in memory. -/
def PlAt (W : World) (g : Nat) (ps : List (Int × Int)) : Prop := ∀ j (h : j < ps.length), W.cell? ⟨g, j * 2, none⟩ = some (.int .i64 ps[j].1) ∧ W.cell? ⟨g, j * 2 + 1, none⟩ = some (.int .i64 ps[j].2)
theorem PRow.places {W : World} {g : Nat} {ps : List (Int × Int)} (h : PRow W g ps) : PlAt W g ps := fun j hj => by
  have h0 := flatP_get ps j hj
  exact ⟨by simp only [World.cell?, show W.heap[g]? = _ from h]; simpa using h0.1, by simp only [World.cell?, show W.heap[g]? = _ from h]; simpa using h0.2⟩
theorem PlAt.below {n₀ : Nat} {A B : World} {g : Nat} {ps : List (Int × Int)} (h : PlAt A g ps) (hb : Below n₀ A B) (hg : g < n₀) : PlAt B g ps := fun j hj => ⟨(hb.cell (p := ⟨g, _, none⟩) hg).trans (h j hj).1, (hb.cell (p := ⟨g, _, none⟩) hg).trans (h j hj).2⟩

set_option maxRecDepth 100000 in
set_option maxHeartbeats 4000000 in
theorem same_in (n : Nat) (key sum : ByteArray) (gen size : Int) (g1 g2 c1 c2 : Nat) (ps : List (Int × Int)) (hps : ps.length ≤ 1000) (w : World) (h1 : PlAt w g1 ps) (h2 : PlAt w g2 ps) (l1 : g1 < w.heap.size) (l2 : g2 < w.heap.size) :
    CallsIn Fence.wide n Try.prog 32 #[.agg #[.string key, .int .i64 gen, .int .i64 size, .string sum, .slice (some ⟨g1, 0, none⟩) ps.length c1], .agg #[.string key, .int .i64 gen, .int .i64 size, .string sum, .slice (some ⟨g2, 0, none⟩) ps.length c2]] w fun e w' =>
      e = .returned (.bool true) ∧ Below w.heap.size w w' := by
  refine callsIn_of_wp Try.func32 rfl trivial ?_ rfl
  simp only [Try.ntmps32, List.size_toArray, List.length_cons, List.length_nil, Nat.reduceAdd, Nat.reduceSub, Array.replicate_succ, Array.replicate_zero, List.push_toArray, List.append_toArray, List.nil_append, List.cons_append]
  gi_wp2_with fail
  have hb0 : Below w.heap.size w ((w.alloc (.cells #[.string key, .int .i64 gen, .int .i64 size, .string sum, .slice (some ⟨g1, 0, none⟩) ps.length c1] 32)).alloc (.cells #[.string key, .int .i64 gen, .int .i64 size, .string sum, .slice (some ⟨g2, 0, none⟩) ps.length c2] 32)) := ((Below.refl _ w).alloc (Nat.le_refl _) _).alloc (by simp) _
  have hS : ∀ wr, Below ((w.alloc (.cells #[.string key, .int .i64 gen, .int .i64 size, .string sum, .slice (some ⟨g1, 0, none⟩) ps.length c1] 32)).alloc (.cells #[.string key, .int .i64 gen, .int .i64 size, .string sum, .slice (some ⟨g2, 0, none⟩) ps.length c2] 32)).heap.size ((w.alloc (.cells #[.string key, .int .i64 gen, .int .i64 size, .string sum, .slice (some ⟨g1, 0, none⟩) ps.length c1] 32)).alloc (.cells #[.string key, .int .i64 gen, .int .i64 size, .string sum, .slice (some ⟨g2, 0, none⟩) ps.length c2] 32)) wr → wr.cell? ⟨w.heap.size, 4, none⟩ = some (.slice (some ⟨g1, 0, none⟩) ps.length c1) ∧ wr.cell? ⟨w.heap.size + 1, 4, none⟩ = some (.slice (some ⟨g2, 0, none⟩) ps.length c2) := fun wr hb =>
    ⟨(hb.cell (p := ⟨w.heap.size, _, none⟩) (by simp; omega)).trans (by simp [go_sem]), (hb.cell (p := ⟨w.heap.size + 1, _, none⟩) (by simp)).trans (by simp [go_sem])⟩
  have hP1 : ∀ wr, Below ((w.alloc (.cells #[.string key, .int .i64 gen, .int .i64 size, .string sum, .slice (some ⟨g1, 0, none⟩) ps.length c1] 32)).alloc (.cells #[.string key, .int .i64 gen, .int .i64 size, .string sum, .slice (some ⟨g2, 0, none⟩) ps.length c2] 32)).heap.size ((w.alloc (.cells #[.string key, .int .i64 gen, .int .i64 size, .string sum, .slice (some ⟨g1, 0, none⟩) ps.length c1] 32)).alloc (.cells #[.string key, .int .i64 gen, .int .i64 size, .string sum, .slice (some ⟨g2, 0, none⟩) ps.length c2] 32)) wr → PlAt wr g1 ps ∧ PlAt wr g2 ps := fun wr hb =>
    have hb' := hb0.trans (hb.mono hb0.size)
    ⟨h1.below hb' l1, h2.below hb' l2⟩
  have HS := Lib.hid hS
  have HP := Lib.hid hP1
  have Hb0 := Lib.hid hb0
  clear hS hP1 hb0 h1 h2
  gi_loopw [5] (fun i wr => ∃ j : Nat, j ≤ ps.length ∧ i = .int .i64 j ∧ Below ((w.alloc (.cells #[.string key, .int .i64 gen, .int .i64 size, .string sum, .slice (some ⟨g1, 0, none⟩) ps.length c1] 32)).alloc (.cells #[.string key, .int .i64 gen, .int .i64 size, .string sum, .slice (some ⟨g2, 0, none⟩) ps.length c2] 32)).heap.size ((w.alloc (.cells #[.string key, .int .i64 gen, .int .i64 size, .string sum, .slice (some ⟨g1, 0, none⟩) ps.length c1] 32)).alloc (.cells #[.string key, .int .i64 gen, .int .i64 size, .string sum, .slice (some ⟨g2, 0, none⟩) ps.length c2] 32)) wr) (fun i _ => ps.length - (intOf i).toNat)
  case atStart => exact ⟨0, Nat.zero_le _, rfl, Below.refl _ _⟩
  case round =>
    obtain ⟨j, hj, rfl, hnx⟩ := hrel
    obtain ⟨s1, s2⟩ := HS.out _ hnx
    obtain ⟨p1, p2⟩ := HP.out _ hnx
    have Hnx := Lib.hid hnx
    clear hnx
    by_cases hlt : j < ps.length
    · have hw1 : IntKind.i64.wrap ((j : Int) + 1) = j + 1 := IntWalk.i64_in _ (by omega)
      obtain ⟨x1, x2⟩ := p1 j hlt
      obtain ⟨y1, y2⟩ := p2 j hlt
      clear p1 p2
      generalize ps[j] = q at *
      obtain ⟨qc, qp⟩ := q
      dsimp only at x1 x2 y1 y2
      gi_wp2_with fail
      gi_quiet (fail)
      gi_wp2_with fail
      go_roundw
      case rel => exact ⟨j + 1, by omega, rfl, Hnx.out.trans ⟨rfl, rfl, rfl, Nat.le_refl _, fun _ _ => rfl⟩⟩
      case measure => simp [intOf]; omega
    · obtain rfl : j = ps.length := by omega
      gi_wp2_with fail
      go_ret
      exact ⟨rfl, Hb0.out.trans (Hnx.out.mono Hb0.out.size)⟩

/-- An entry in memory: five cells, its places in a block of their own. -/
def EntIn (W : World) (b o : Nat) (e : Ent5) : Prop := ∃ g c, (W.cell? ⟨b, o, none⟩ = some (.string e.1) ∧ W.cell? ⟨b, o + 1, none⟩ = some (.int .i64 e.2.1) ∧ W.cell? ⟨b, o + 2, none⟩ = some (.int .i64 e.2.2.1) ∧ W.cell? ⟨b, o + 3, none⟩ = some (.string e.2.2.2.1) ∧ W.cell? ⟨b, o + 4, none⟩ = some (.slice (some ⟨g, 0, none⟩) e.2.2.2.2.length c)) ∧ g < W.heap.size ∧ e.2.2.2.2.length ≤ 1000 ∧ PlAt W g e.2.2.2.2
def EntsIn (W : World) (v : Value) (L : List Ent5) : Prop := (L = [] ∧ ∃ a c, v = .slice a 0 c) ∨ ∃ b c, v = .slice (some ⟨b, 0, none⟩) L.length c ∧ b < W.heap.size ∧ ∀ i (h : i < L.length), EntIn W b (i * 5) L[i]
theorem EntIn.below {A B : World} {b o : Nat} {e : Ent5} (h : EntIn A b o e) (hb : Below A.heap.size A B) (hl : b < A.heap.size) : EntIn B b o e := by
  obtain ⟨g, c, ⟨h0, h1, h2, h3, h4⟩, h5, h6, h7⟩ := h
  exact ⟨g, c, ⟨(hb.cell (p := ⟨b, _, none⟩) hl).trans h0, (hb.cell (p := ⟨b, _, none⟩) hl).trans h1, (hb.cell (p := ⟨b, _, none⟩) hl).trans h2, (hb.cell (p := ⟨b, _, none⟩) hl).trans h3, (hb.cell (p := ⟨b, _, none⟩) hl).trans h4⟩, Nat.lt_of_lt_of_le h5 hb.size, h6, h7.below hb h5⟩
theorem EntsIn.below {A B : World} {v : Value} {L : List Ent5} (h : EntsIn A v L) (hb : Below A.heap.size A B) : EntsIn B v L := by
  rcases h with h | ⟨b, c, hv, hl, h⟩
  · exact .inl h
  · exact .inr ⟨b, c, hv, Nat.lt_of_lt_of_le hl hb.size, fun i hi => (h i hi).below hb hl⟩

set_option maxRecDepth 100000 in
set_option maxHeartbeats 4000000 in
theorem alike_in (n : Nat) (v1 v2 : Value) (L : List Ent5) (hL : L.length ≤ 1000) (w : World) (h1 : EntsIn w v1 L) (h2 : EntsIn w v2 L) :
    CallsIn Fence.wide n Try.prog 13 #[v1, v2] w fun e w' => e = .returned (.bool true) ∧ Below w.heap.size w w' := by
  refine callsIn_of_wp Try.func13 rfl trivial ?_ rfl
  simp only [Try.ntmps13, List.size_toArray, List.length_cons, List.length_nil, Nat.reduceAdd, Nat.reduceSub, Array.replicate_succ, Array.replicate_zero, List.push_toArray, List.append_toArray, List.nil_append, List.cons_append]
  have hlen : ∀ {v}, EntsIn w v L → ∃ a c, v = .slice a L.length c := by
    rintro v (⟨rfl, a, c, rfl⟩ | ⟨b, c, rfl, _⟩)
    · exact ⟨a, c, rfl⟩
    · exact ⟨_, c, rfl⟩
  obtain ⟨a1, d1, rfl⟩ := hlen h1
  obtain ⟨a2, d2, rfl⟩ := hlen h2
  have H1 := Lib.hid h1
  have H2 := Lib.hid h2
  clear h1 h2
  gi_wp2_with fail
  gi_loopw [5] (fun i wr => ∃ j : Nat, j ≤ L.length ∧ i = .int .i64 j ∧ Below w.heap.size w wr) (fun i _ => L.length - (intOf i).toNat)
  case atStart => exact ⟨0, Nat.zero_le _, rfl, Below.refl _ _⟩
  case round =>
    obtain ⟨j, hj, rfl, hnx⟩ := hrel
    by_cases hlt : j < L.length
    · have hw1 : IntKind.i64.wrap ((j : Int) + 1) = j + 1 := IntWalk.i64_in _ (by omega)
      rcases H1.out with ⟨e, _⟩ | ⟨b1, c1', e1, l1, k1⟩
      · rw [e] at hlt; cases hlt
      rcases H2.out with ⟨e, _⟩ | ⟨b2, c2', e2, l2, k2⟩
      · rw [e] at hlt; cases hlt
      simp only [Value.slice.injEq] at e1 e2
      obtain ⟨rfl, _, rfl⟩ := e1
      obtain ⟨rfl, _, rfl⟩ := e2
      have q1 := (k1 j hlt).below hnx l1
      have q2 := (k2 j hlt).below hnx l2
      clear k1 k2
      generalize L[j] = E at q1 q2
      obtain ⟨L1, L2, L3, L4, L5⟩ := E
      obtain ⟨g1, c1, hc1, gl1, hn1, p1⟩ := q1
      obtain ⟨g2, c2, hc2, gl2, _, p2⟩ := q2
      dsimp only at hc1 hc2 hn1 p1 p2
      have hX : ∀ w', Below wr.heap.size wr w' → w'.cell? ⟨b1, j * 5, none⟩ = some (.string L1) ∧ w'.cell? ⟨b1, j * 5 + 1, none⟩ = some (.int .i64 L2) ∧ w'.cell? ⟨b1, j * 5 + 2, none⟩ = some (.int .i64 L3) ∧ w'.cell? ⟨b1, j * 5 + 3, none⟩ = some (.string L4) ∧ w'.cell? ⟨b1, j * 5 + 4, none⟩ = some (.slice (some ⟨g1, 0, none⟩) L5.length c1) ∧
          w'.cell? ⟨b2, j * 5, none⟩ = some (.string L1) ∧ w'.cell? ⟨b2, j * 5 + 1, none⟩ = some (.int .i64 L2) ∧ w'.cell? ⟨b2, j * 5 + 2, none⟩ = some (.int .i64 L3) ∧ w'.cell? ⟨b2, j * 5 + 3, none⟩ = some (.string L4) ∧ w'.cell? ⟨b2, j * 5 + 4, none⟩ = some (.slice (some ⟨g2, 0, none⟩) L5.length c2) := fun w' hb =>
        have m1 := Nat.lt_of_lt_of_le l1 hnx.size
        have m2 := Nat.lt_of_lt_of_le l2 hnx.size
        ⟨(hb.cell (p := ⟨b1, _, none⟩) m1).trans hc1.1, (hb.cell (p := ⟨b1, _, none⟩) m1).trans hc1.2.1, (hb.cell (p := ⟨b1, _, none⟩) m1).trans hc1.2.2.1, (hb.cell (p := ⟨b1, _, none⟩) m1).trans hc1.2.2.2.1, (hb.cell (p := ⟨b1, _, none⟩) m1).trans hc1.2.2.2.2,
          (hb.cell (p := ⟨b2, _, none⟩) m2).trans hc2.1, (hb.cell (p := ⟨b2, _, none⟩) m2).trans hc2.2.1, (hb.cell (p := ⟨b2, _, none⟩) m2).trans hc2.2.2.1, (hb.cell (p := ⟨b2, _, none⟩) m2).trans hc2.2.2.2.1, (hb.cell (p := ⟨b2, _, none⟩) m2).trans hc2.2.2.2.2⟩
      have hY : CallsIn Fence.wide (n - 1) Try.prog 32 #[.agg #[.string L1, .int .i64 L2, .int .i64 L3, .string L4, .slice (some ⟨g1, 0, none⟩) L5.length c1], .agg #[.string L1, .int .i64 L2, .int .i64 L3, .string L4, .slice (some ⟨g2, 0, none⟩) L5.length c2]] wr.drew fun e w' => e = .returned (.bool true) ∧ Below wr.drew.heap.size wr.drew w' :=
        same_in (n - 1) L1 L4 L2 L3 g1 g2 c1 c2 L5 hn1 wr.drew (p1.below ((Below.refl _ wr).drew) gl1) (p2.below ((Below.refl _ wr).drew) gl2) gl1 gl2
      have HX := Lib.hid hX
      have HY := Lib.hid hY
      have Hnx := Lib.hid hnx
      have hbd : Below wr.heap.size wr wr.drew := (Below.refl _ wr).drew
      clear hX hY hc1 hc2 p1 p2 hnx H1 H2
      gi_wp2_with fail
      refine wpIn_region_held (S := fun w' => Below wr.heap.size wr w') (by kernel_rfl) ?_
      refine wpAnyInH_take (i := 0) (v := .slice (some ⟨b1, 0, none⟩) L.length d1) (by kernel_rfl) rfl (by kernel_rfl) (by kernel_rfl) (by kernel_rfl) (fun _ _ _ h => h) ⟨.inl ⟨rfl, fun w' hS => ?_⟩, fun _ => rfl⟩ hbd ?_
      · go_simp
      refine wpAnyInH_take (i := 1) (v := .int .i64 j) (by kernel_rfl) rfl (by kernel_rfl) (by kernel_rfl) (by kernel_rfl) (fun _ _ _ h => h) ⟨.inl ⟨rfl, fun w' hS => ?_⟩, fun _ => rfl⟩ hbd ?_
      · go_simp
      refine wpAnyInH_take (i := 2) (v := .pointer (some ⟨b1, j * 5, none⟩)) (by kernel_rfl) rfl (by kernel_rfl) (by kernel_rfl) (by kernel_rfl) (fun _ _ _ h => h) ⟨.inl ⟨rfl, fun w' hS => ?_⟩, fun _ => rfl⟩ hbd ?_
      · go_simp
      refine wpAnyInH_take (i := 3) (v := .agg #[.string L1, .int .i64 L2, .int .i64 L3, .string L4, .slice (some ⟨g1, 0, none⟩) L5.length c1]) (by kernel_rfl) rfl (by kernel_rfl) (by kernel_rfl) (by kernel_rfl) (fun _ _ _ h => h) ⟨.inl ⟨rfl, fun w' hS => ?_⟩, fun _ => rfl⟩ hbd ?_
      · obtain ⟨x0, x1, x2, x3, x4, y0, y1, y2, y3, y4⟩ := HX.out _ hS
        go_simp
      refine wpAnyInH_take (i := 4) (v := .slice (some ⟨b2, 0, none⟩) L.length d2) (by kernel_rfl) rfl (by kernel_rfl) (by kernel_rfl) (by kernel_rfl) (fun _ _ _ h => h) ⟨.inl ⟨rfl, fun w' hS => ?_⟩, fun _ => rfl⟩ hbd ?_
      · go_simp
      refine wpAnyInH_take (i := 5) (v := .int .i64 j) (by kernel_rfl) rfl (by kernel_rfl) (by kernel_rfl) (by kernel_rfl) (fun _ _ _ h => h) ⟨.inl ⟨rfl, fun w' hS => ?_⟩, fun _ => rfl⟩ hbd ?_
      · go_simp
      refine wpAnyInH_take (i := 6) (v := .pointer (some ⟨b2, j * 5, none⟩)) (by kernel_rfl) rfl (by kernel_rfl) (by kernel_rfl) (by kernel_rfl) (fun _ _ _ h => h) ⟨.inl ⟨rfl, fun w' hS => ?_⟩, fun _ => rfl⟩ hbd ?_
      · go_simp
      refine wpAnyInH_take (i := 7) (v := .agg #[.string L1, .int .i64 L2, .int .i64 L3, .string L4, .slice (some ⟨g2, 0, none⟩) L5.length c2]) (by kernel_rfl) rfl (by kernel_rfl) (by kernel_rfl) (by kernel_rfl) (fun _ _ _ h => h) ⟨.inl ⟨rfl, fun w' hS => ?_⟩, fun _ => rfl⟩ hbd ?_
      · obtain ⟨x0, x1, x2, x3, x4, y0, y1, y2, y3, y4⟩ := HX.out _ hS
        go_simp
      refine wpAnyInH_all (rs := [8]) (by kernel_rfl) (by simp) ?_
      intro i hi
      obtain rfl : i = 8 := by simpa using hi
      refine wpOpIn_does rfl rfl ?_
      go_simp
      refine ⟨fun h => (by cases h), HY.out.mono ?_⟩
      rintro e w1 ⟨rfl, hb1⟩
      have hb1' : Below wr.heap.size wr w1 := hbd.trans (hb1.mono (Nat.le_refl _))
      refine ⟨hb1', ?_⟩
      refine wpAnyInH_all (rs := [9]) (by kernel_rfl) (by simp) ?_
      intro i hi
      obtain rfl : i = 9 := by simpa using hi
      refine wpOpIn_does rfl rfl ?_
      go_simp
      refine wpAnyInH_done (by kernel_rfl) ?_ _
      gi_wp2_with fail
      go_roundw
      case rel => exact ⟨j + 1, by omega, rfl, Hnx.out.trans (hb1'.mono Hnx.out.size)⟩
      case measure => simp [intOf]; omega
    · obtain rfl : j = L.length := by omega
      gi_wp2_with fail
      go_ret
      exact ⟨rfl, hnx⟩

end Go.Proofs.Ytbcefiefeobmcaa
