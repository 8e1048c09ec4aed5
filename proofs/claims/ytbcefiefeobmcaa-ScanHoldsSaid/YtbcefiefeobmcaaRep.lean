/-
  slices.Repeat of one place that is nowhere, 10, 20, 30 or 40 times.
-/
import Derived.Test.YtbcefiefeobmcaaLeaf
import Derived.Laws.MakeOwn
import Derived.Laws.CopyOwn
namespace Go.Proofs.Ytbcefiefeobmcaa
open Go.RowKit

/-- The cells of places. -/
def flatP (ps : List (Int × Int)) : List Value := ps.flatMap fun p => [.int .i64 p.1, .int .i64 p.2]
theorem flatP_length (ps : List (Int × Int)) : (flatP ps).length = ps.length * 2 := by
  induction ps with
  | nil => rfl
  | cons p r ih => simp [flatP] at *; omega
theorem flatP_append (a b : List (Int × Int)) : flatP (a ++ b) = flatP a ++ flatP b := by simp [flatP]
theorem flatP_one (ps : List (Int × Int)) : ∀ v ∈ flatP ps, v.oneCell' = true := by
  intro v hv
  simp only [flatP, List.mem_flatMap] at hv
  obtain ⟨p, _, hv⟩ := hv
  rcases List.mem_cons.1 hv with rfl | hv
  · rfl
  · rcases List.mem_cons.1 hv with rfl | hv
    · rfl
    · cases hv
theorem flatP_take (ps : List (Int × Int)) (k : Nat) : (flatP ps).take (k * 2) = flatP (ps.take k) := by
  induction ps generalizing k with
  | nil => simp [flatP]
  | cons p r ih =>
    cases k with
    | zero => simp [flatP]
    | succ k =>
      have := ih k
      simp only [flatP, List.flatMap_cons, List.take_succ_cons] at *
      rw [show (k + 1) * 2 = k * 2 + 1 + 1 by omega]
      simp [this]
theorem flatP_drop (ps : List (Int × Int)) (k : Nat) : (flatP ps).drop (k * 2) = flatP (ps.drop k) := by
  induction ps generalizing k with
  | nil => simp [flatP]
  | cons p r ih =>
    cases k with
    | zero => simp [flatP]
    | succ k =>
      have := ih k
      simp only [flatP, List.flatMap_cons, List.drop_succ_cons] at *
      rw [show (k + 1) * 2 = k * 2 + 1 + 1 by omega]
      simp [this]
theorem flatP_get (ps : List (Int × Int)) (k : Nat) (h : k < ps.length) : (flatP ps)[k * 2]? = some (.int .i64 ps[k].1) ∧ (flatP ps)[k * 2 + 1]? = some (.int .i64 ps[k].2) := by
  have := flatP_drop ps k
  rw [List.drop_eq_getElem_cons h] at this
  constructor
  · have e : ((flatP ps).drop (k * 2))[0]? = (flatP ps)[k * 2]? := by simp
    rw [← e, this]; rfl
  · have e : ((flatP ps).drop (k * 2))[1]? = (flatP ps)[k * 2 + 1]? := by simp
    rw [← e, this]; rfl
theorem flatP_set (ps : List (Int × Int)) (k : Nat) (h : k < ps.length) (p : Int × Int) : ((flatP ps).set (k * 2) (.int .i64 p.1)).set (k * 2 + 1) (.int .i64 p.2) = flatP (ps.set k p) := by
  induction ps generalizing k with
  | nil => simp at h
  | cons q r ih =>
    cases k with
    | zero => simp [flatP]
    | succ k =>
      have := ih k (by simpa using h)
      simp only [flatP, List.flatMap_cons, List.set_cons_succ] at *
      rw [show (k + 1) * 2 = k * 2 + 1 + 1 by omega]
      simp [this]

theorem run_copy_rowS {P : Program} (w : World) (dT sT ty elem size : TypeId) (g o dLen dCap : Nat) (a : Addr) (sLen sCap : Nat) (cur : Array Value) (t : TypeId) (cs : List Value)
    (hu : P.underlying dT = some (.slice elem)) (hs : (P.info? elem).map (·.size) = some size)
    (hg : w.heap[g]? = some (.cells cur t (0, 0))) (hn : cs.length = Nat.min sLen dLen * size)
    (hsrc : ∀ j v, cs[j]? = some v → w.cell? (a.add j) = some v) (hfit : o + cs.length ≤ cur.size) (h1 : ∀ v ∈ cs, v.oneCell' = true) :
    (Builtin.copy_ #[dT, sT] ty #[.slice (some ⟨g, o, none⟩) dLen dCap, .slice (some a) sLen sCap]).run P w =
      .ok (goInt (Nat.min sLen dLen)) (w.setRow g (cur.toList.take o ++ cs ++ cur.toList.drop (o + cs.length)).toArray) := by
  have hl := run_loadCells_list (P := P) w a cs hsrc
  have hst := run_storeCells_at P g o t cs 0 cur w hg (by simpa using hfit) h1
  cases hq : P.info? elem with
  | none => simp [hq] at hs
  | some i =>
    have hi : i.size = size := by simpa [hq] using hs
    simp [Builtin.copy_, run_underlying hu, Builtin.lenOf, Builtin.firstCells, sizeOf, typeInfo, hq, hi, ← hn, hl, hst]

def nowhere : Int × Int := (0, 1024)

theorem madeP (c : Nat) : madeCells #[Value.int .i64 0, .int .i64 0] (c * 2) = (flatP (List.replicate c (0, 0))).toArray := by
  apply Array.ext
  · simp [madeCells, flatP_length]
  · intro i h1 h2
    have hi : i < c * 2 := by simpa [madeCells] using h1
    have e : (flatP (List.replicate c (0, 0)))[i]? = some (.int .i64 0) := by
      rcases Nat.mod_two_eq_zero_or_one i with h | h
      · have := (flatP_get (List.replicate c ((0 : Int), (0 : Int))) (i / 2) (by simp; omega)).1
        rw [show i / 2 * 2 = i by omega] at this
        rw [this]; simp
      · have := (flatP_get (List.replicate c ((0 : Int), (0 : Int))) (i / 2) (by simp; omega)).2
        rw [show i / 2 * 2 + 1 = i by omega] at this
        rw [this]; simp
    have e2 : (flatP (List.replicate c (0, 0))).toArray[i] = .int .i64 0 := by
      have := List.getElem?_eq_some_iff.1 e
      simpa using this.2
    rw [e2]
    rcases Nat.mod_two_eq_zero_or_one i with h | h <;> simp [madeCells, h]

theorem mulTo (c : Nat) (hc : c = 10 ∨ c = 20 ∨ c = 30 ∨ c = 40) (w : World) :
    Calls Try.prog 52 #[.int .u64 1, .int .u64 c] w fun e w' => e = .returned (.tuple #[.int .u64 0, .int .u64 c]) ∧ w = w' := by
  rcases hc with rfl | rfl | rfl | rfl
  all_goals
    go_enter Try.func52, Try.ntmps52
    go_wp2
    go_ret2
    exact ⟨by kernel_rfl, rfl⟩

/-- How far the row has come: k places nowhere, the others still nought. -/
def rowAt (c k : Nat) : List (Int × Int) := List.replicate k nowhere ++ List.replicate (c - k) (0, 0)

theorem rowAt_length {c k : Nat} (h : k ≤ c) : (rowAt c k).length = c := by simp [rowAt]; omega

set_option maxRecDepth 100000 in
/-- A copy of the first m places of a row behind the first k. -/
theorem copy_step {W : World} {g c k m : Nat} (sa : Addr) (sLen sCap dCap : Nat) (hm : Nat.min sLen (c - k) = m) (hk : k ≤ c) (hrow : W.heap[g]? = some (.cells (flatP (rowAt c k)).toArray 34 (0, 0)))
    (hsrc : ∀ j, j < m → W.cell? (sa.add (j * 2)) = some (.int .i64 0) ∧ W.cell? (sa.add (j * 2 + 1)) = some (.int .i64 1024)) :
    ∃ W', (Builtin.copy_ #[30, 30] 3 #[.slice (some ⟨g, k * 2, none⟩) (c - k) dCap, .slice (some sa) sLen sCap]).run Try.prog W = .ok (.int .i64 m) W' ∧
      Hid (W'.heap[g]? = some (.cells (flatP (rowAt c (k + m))).toArray 34 (0, 0))) ∧ (∀ B w0, Below B w0 W → B ≤ g → Below B w0 W') := by
  have hm' : m ≤ c - k := by rw [← hm]; exact Nat.min_le_right _ _
  have hlen : (flatP (List.replicate m nowhere)).length = m * 2 := by rw [flatP_length, List.length_replicate]
  have hrun := run_copy_rowS (P := Try.prog) W 30 30 3 34 2 g (k * 2) (c - k) dCap sa sLen sCap (flatP (rowAt c k)).toArray 34 (flatP (List.replicate m nowhere)) Try.underlying30 (by kernel_rfl) hrow (by rw [hlen, hm]) (fun j v hj => by
      have hjl : j < m * 2 := by rw [← hlen]; exact (List.getElem?_eq_some_iff.1 hj).1
      rcases Nat.mod_two_eq_zero_or_one j with h | h
      · have e := (flatP_get (List.replicate m nowhere) (j / 2) (by simp; omega)).1
        rw [show j / 2 * 2 = j by omega, hj] at e
        have := (hsrc (j / 2) (by omega)).1
        rw [show j / 2 * 2 = j by omega] at this
        rw [this, e]; simp [nowhere]
      · have e := (flatP_get (List.replicate m nowhere) (j / 2) (by simp; omega)).2
        rw [show j / 2 * 2 + 1 = j by omega, hj] at e
        have := (hsrc (j / 2) (by omega)).2
        rw [show j / 2 * 2 + 1 = j by omega] at this
        rw [this, e]; simp [nowhere]) (by rw [hlen]; simp [flatP_length, rowAt_length hk]; omega) (flatP_one _)
  rw [hm] at hrun
  refine ⟨_, hrun, ?_, fun B w0 hB hg => below_setRow hB hg _⟩
  show _ = _
  rw [setRow_heap W g _ _ 34 _ hrow]
  congr 3
  rw [hlen, ← Nat.add_mul]
  rw [flatP_take, flatP_drop, ← flatP_append, ← flatP_append]
  congr 1
  have t1 : (rowAt c k).take k = List.replicate k nowhere := by simp [rowAt]
  have t2 : (rowAt c k).drop (k + m) = List.replicate (c - (k + m)) (0, 0) := by
    simp [rowAt, List.drop_append]
    omega
  rw [t1, t2, rowAt, ← List.replicate_append_replicate]

set_option maxRecDepth 100000 in
set_option maxHeartbeats 1000000 in
theorem repeat_any (c : Nat) (hc : c = 10 ∨ c = 20 ∨ c = 30 ∨ c = 40) (bx cap : Nat) (w : World) (hbx : bx < w.heap.size) (h0 : w.cell? ⟨bx, 0, none⟩ = some (.int .i64 0)) (h1 : w.cell? ⟨bx, 1, none⟩ = some (.int .i64 1024)) :
    Calls Try.prog 41 #[.slice (some ⟨bx, 0, none⟩) 1 cap, .int .i64 c] w fun e w' => ∃ g, e = .returned (.slice (some ⟨g, 0, none⟩) c c) ∧ w.heap.size ≤ g ∧
      w'.heap[g]? = some (.cells (flatP (List.replicate c nowhere)).toArray 34 (0, 0)) ∧ Below w.heap.size w w' := by
  have hmul := mulTo c hc
  have c1 : 1 ≤ c := by omega
  have c2 : c ≤ 40 := by omega
  have Hmul := Lib.hid hmul
  clear hmul hc
  have hz : (Try.prog.info? 34).map (fun i => (i.zero, i.size, i.bytes)) = some (some (.agg #[.int .i64 0, .int .i64 0]), 2, 16) := by kernel_rfl
  obtain ⟨i0, hi, hz0, hz1, hz2⟩ := info_parts hz
  have hmk := run_make (P := Try.prog) w 30 34 i0 _ Try.underlying30 hi hz0 .i64 .i64 c c (by omega) (by omega) (by rw [hz2]; omega) (by omega)
  rw [hz1, Int.toNat_natCast] at hmk
  simp only [Value.cells] at hmk
  rw [madeP] at hmk
  have hnew : (w.alloc (.cells (flatP (List.replicate c (0, 0))).toArray 34)).heap[w.heap.size]? = some (.cells (flatP (rowAt c 0)).toArray 34 (0, 0)) := by
    rw [(MapKept.heap_alloc w _).1]; simp [rowAt]
  have hbw : Below w.heap.size w (w.alloc (.cells (flatP (List.replicate c (0, 0))).toArray 34)) := (Below.refl _ w).alloc (Nat.le_refl _) _
  obtain ⟨w2, hcp, hrow2, hB2⟩ := copy_step (W := w.alloc (.cells (flatP (List.replicate c (0, 0))).toArray 34)) (k := 0) (m := 1) ⟨bx, 0, none⟩ 1 cap c (by show min 1 (c - 0) = 1; omega) (Nat.zero_le _) hnew (fun j hj => by
    obtain rfl : j = 0 := by omega
    exact ⟨(hbw.cell (p := ⟨bx, _, none⟩) hbx).trans h0, (hbw.cell (p := ⟨bx, _, none⟩) hbx).trans h1⟩)
  have hB2' := hB2 w.heap.size w hbw (Nat.le_refl _)
  simp only [Nat.zero_mul, Nat.sub_zero] at hcp
  rw [Nat.zero_add] at hrow2
  clear hnew hbw hB2 hz hi hz0 hz1 hz2
  go_enter Try.func41, Try.ntmps41
  go_wp2_with (go_at_call 52; refine (Hmul.out _).mono ?_; rintro e w' ⟨rfl, rfl⟩)
  go_loopw [8] (fun v wr => ∃ k : Nat, 1 ≤ k ∧ k ≤ c ∧ v = .int .i64 k ∧ Hid (wr.heap[w.heap.size]? = some (.cells (flatP (rowAt c k)).toArray 34 (0, 0))) ∧ Below w.heap.size w wr) (fun v _ => c - (intOf v).toNat)
  case atStart => exact ⟨1, Nat.le_refl _, c1, rfl, hrow2, hB2'⟩
  case round =>
    obtain ⟨k, hk1, hkc, rfl, hrow, hB⟩ := hrel
    clear hcp hmk hrow2 hB2'
    by_cases hlt : k < c
    · obtain ⟨m, hm⟩ : ∃ m, Nat.min k (c - k) = m := ⟨_, rfl⟩
      have hm1 : 1 ≤ m := by rw [← hm]; exact Nat.le_min.2 ⟨hk1, by omega⟩
      have hm2 : m ≤ c - k := by rw [← hm]; exact Nat.min_le_right _ _
      have hm3 : m ≤ k := by rw [← hm]; exact Nat.min_le_left _ _
      obtain ⟨W', hcp, hrow', hB'⟩ := copy_step (W := wr.drew) ⟨w.heap.size, 0, none⟩ k c (c - k) hm hkc hrow.out (fun j hj => by
        have hc : ∀ i, wr.drew.cell? ⟨w.heap.size, i, none⟩ = (flatP (rowAt c k))[i]? := fun i => by
          have h0 : wr.drew.heap[w.heap.size]? = some (.cells (flatP (rowAt c k)).toArray 34 (0, 0)) := hrow.out
          simp [World.cell?, h0]
        have hg := flatP_get (rowAt c k) j (by rw [rowAt_length hkc]; omega)
        have hv : (rowAt c k)[j]'(by rw [rowAt_length hkc]; omega) = nowhere := by
          simp only [rowAt]
          rw [List.getElem_append_left (by simp; omega)]
          simp
        rw [hv] at hg
        refine ⟨?_, ?_⟩
        · rw [show (Addr.add ⟨w.heap.size, 0, none⟩ (j * 2)) = ⟨w.heap.size, j * 2, none⟩ by unfold Addr.add; split <;> simp_all, hc, hg.1]; rfl
        · rw [show (Addr.add ⟨w.heap.size, 0, none⟩ (j * 2 + 1)) = ⟨w.heap.size, j * 2 + 1, none⟩ by unfold Addr.add; split <;> simp_all, hc, hg.2]; rfl)
      have hB3 := hB' w.heap.size w hB.drew (Nat.le_refl _)
      clear hm hB' hrow
      go_wp2_with fail
      go_region
      go_wp2_with fail
      go_roundw
      case rel => exact ⟨k + m, by omega, by omega, by go_num, hrow', hB3⟩
      case measure => simp [intOf]; omega
    · obtain rfl : k = c := by omega
      go_wp2_with fail
      go_ret
      refine ⟨w.heap.size, rfl, Nat.le_refl _, ?_, hB⟩
      have := hrow.out
      rw [this]
      simp [rowAt]

end Go.Proofs.Ytbcefiefeobmcaa
