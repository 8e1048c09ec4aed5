/-
  The laws' own helpers: digest, tomb, ref09.Groups.
-/
import Derived.Test.YtbcefiefeobmcaaBst2
namespace Go.Proofs.Ytbcefiefeobmcaa
open Go.RowKit Go.Shelf Go.Maps Go.WideElems

theorem wide_fn7 (f : FuncId) : Fence.wide.fn f = True := rfl
attribute [local go_sem] Oper.semAt_some wide_fn7

/-- The bytes of a digest. -/
def digL (n : Int) : List UInt8 := UInt8.ofNat (n % 256).toNat :: List.replicate 31 0
def digB (n : Int) : ByteArray := ⟨(digL n).toArray⟩
theorem digB_size (n : Int) : (digB n).size = 32 := by simp [digB, digL, ByteArray.size]

def digCells (n : Int) : Array Value := #[Value.int .u8 (n % 256), .int .u8 0, .int .u8 0, .int .u8 0, .int .u8 0, .int .u8 0, .int .u8 0, .int .u8 0, .int .u8 0, .int .u8 0, .int .u8 0, .int .u8 0, .int .u8 0, .int .u8 0, .int .u8 0, .int .u8 0, .int .u8 0, .int .u8 0, .int .u8 0, .int .u8 0, .int .u8 0, .int .u8 0, .int .u8 0, .int .u8 0, .int .u8 0, .int .u8 0, .int .u8 0, .int .u8 0, .int .u8 0, .int .u8 0, .int .u8 0, .int .u8 0]

theorem digCells_at (n : Int) (j : Nat) (hj : j < (digL n).length) : (digCells n)[j]? = some (.int .u8 ((digL n)[j].toNat : Int)) := by
  have e : digCells n = (Value.int .u8 (n % 256) :: List.replicate 31 (Value.int .u8 0)).toArray := rfl
  rw [e]
  have hl : (digL n).length = 32 := rfl
  cases j with
  | zero =>
    simp [digL]
    omega
  | succ k =>
    have hk : k < 31 := by omega
    simp only [List.getElem?_toArray, List.getElem?_cons_succ]
    rw [List.getElem?_replicate_of_lt hk]
    have : (digL n)[k + 1] = 0 := by
      show (List.replicate 31 (0 : UInt8))[k]'(by simpa using hk) = 0
      exact List.getElem_replicate _
    rw [this]
    rfl

set_option maxRecDepth 100000 in
set_option maxHeartbeats 1000000 in
theorem digest_any (n : Int) (w : World) :
    Calls Try.prog 38 #[.int .i64 n] w fun e w' => e = .returned (.string (digB n)) ∧ Below w.heap.size w w' := by
  have hz : (Try.prog.info? 5).map (fun i => (i.zero, i.size, i.bytes)) = some (some (.int .u8 0), 1, 1) := by kernel_rfl
  obtain ⟨i0, hi, hz0, hz1, hz2⟩ := info_parts hz
  have hmk := run_make (P := Try.prog) w 35 5 i0 _ Try.underlying35 hi hz0 .i64 .i64 32 32 (by omega) (by omega) (by rw [hz2]; omega) (by omega)
  rw [hz1] at hmk
  have hm0 : madeCells #[Value.int .u8 0] 32 = digCells 0 := by kernel_rfl
  simp only [Value.cells] at hmk
  rw [show (Int.toNat 32 * 1) = 32 by rfl, hm0] at hmk
  have hcell : (w.alloc (.cells (digCells 0) 5)).cell? ⟨w.heap.size, 0, none⟩ = some (.int .u8 0) := by rw [World.cell?, (MapKept.heap_alloc w _).1]; rfl
  have hfr : (w.alloc (.cells (digCells 0) 5)).frozen? ⟨w.heap.size, 0, none⟩ = false := by rw [World.frozen?, (MapKept.heap_alloc w _).1]; rfl
  generalize hW : w.alloc (.cells (digCells 0) 5) = W at *
  have hheap : (W.setCell ⟨w.heap.size, 0, none⟩ (.int .u8 (n % 256))).heap[w.heap.size]? = some (.cells (digCells n) 5 (0, 0)) := by
    rw [block_set (W := W) (g := w.heap.size) (cs := digCells 0) (t := 5) (by rw [← hW]; exact (MapKept.heap_alloc w _).1) 0 (.int .u8 (n % 256))]
    rfl
  have hbel : Below w.heap.size w (W.setCell ⟨w.heap.size, 0, none⟩ (.int .u8 (n % 256))) := by
    rw [← hW]; exact ((Below.refl _ w).alloc (Nat.le_refl _) _).setCell (p := ⟨w.heap.size, 0, none⟩) (Nat.le_refl _) _
  have hconv : (convert 35 9 (.slice (some ⟨w.heap.size, 0, none⟩) 32 32)).run Try.prog (W.setCell ⟨w.heap.size, 0, none⟩ (.int .u8 (n % 256))) = .ok (.string (digB n)) (W.setCell ⟨w.heap.size, 0, none⟩ (.int .u8 (n % 256))) :=
    run_convert_bytes_back (P := Try.prog) (W.setCell ⟨w.heap.size, 0, none⟩ (.int .u8 (n % 256))) 35 9 5 ⟨w.heap.size, 0, none⟩ 32 (digL n) Try.underlying35 Try.underlying5 Try.underlying9 (fun j hj => by
      have hadd : (⟨w.heap.size, 0, none⟩ : Addr).add j = ⟨w.heap.size, j, none⟩ := by unfold Addr.add; split <;> simp_all
      rw [hadd, World.cell?, hheap]
      simpa using digCells_at n j hj)
  clear hW hheap
  go_enter Try.func38, Try.ntmps38
  go_wp2
  go_ret
  exact ⟨rfl, hbel⟩

set_option maxHeartbeats 1000000 in
theorem tomb_any (key : ByteArray) (gen : Int) (w : World) :
    Calls Try.prog 16 #[.string key, .int .i64 gen] w fun e w' => e = .returned (.agg #[.int .i64 31, .int .i64 1, .int .i64 3, .int .i64 0, .string key, .int .i64 gen, .int .i64 0, .int .i64 0, .int .i64 0, .int .i64 0, .string ⟨#[]⟩, .slice none 0 0]) ∧ Below w.heap.size w w' := by
  go_enter Try.func16, Try.ntmps16
  go_wp2
  refine bodyPost_ret (v := .agg #[.int .i64 31, .int .i64 1, .int .i64 3, .int .i64 0, .string key, .int .i64 gen, .int .i64 0, .int .i64 0, .int .i64 0, .int .i64 0, .string ⟨#[]⟩, .slice none 0 0]) (by simp [results, Try.results16, go_sem]) rfl ⟨rfl, ?_⟩
  exact (Below.refl _ _).alloc (Nat.le_refl _) _

set_option maxRecDepth 100000 in
set_option maxHeartbeats 1000000 in
theorem groups09_any (n : Int) (h0 : 0 ≤ n) (h1 : n ≤ 512) (w : World) :
    Calls Try.prog 37 #[.int .i64 n] w fun e w' => e = .returned (.int .i64 (groupsOf n)) ∧ w = w' := by
  rw [← callsIn_wide (n := 5)]
  refine callsIn_of_wp Try.func37 rfl trivial ?_ rfl
  simp only [Try.ntmps37, List.size_toArray, List.length_cons, List.length_nil, Nat.reduceAdd, Nat.reduceSub, Array.replicate_succ, Array.replicate_zero, List.push_toArray, List.append_toArray, List.nil_append, List.cons_append]
  gi_wp2
  gi_loopw [3] (fun i wr => ∃ k : Nat, 1 ≤ k ∧ k ≤ 4 ∧ i = .int .i64 k ∧ (k = 1 ∨ 128 * ((k : Int) - 1) < n) ∧ w = wr) (fun i _ => 5 - (intOf i).toNat)
  case atStart => exact ⟨1, by omega, by omega, rfl, .inl rfl, rfl⟩
  case round =>
    obtain ⟨k, hk1, hk4, rfl, hlow, rfl⟩ := hrel
    have hw1 : IntKind.i64.wrap (128 * (k : Int)) = 128 * k := IntWalk.i64_in _ (by omega)
    have hw2 : IntKind.i64.wrap ((k : Int) + 1) = k + 1 := IntWalk.i64_in _ (by omega)
    by_cases hc : 128 * (k : Int) < n
    · have hk5 : (k : Int) < 5 := by omega
      gi_wp2
      go_roundw
      case rel => exact ⟨k + 1, by omega, by omega, by simp, .inr (by omega), trivial⟩
      case measure => simp [intOf]; omega
    · gi_wp2
      go_ret
      exact ⟨ret_int (by unfold groupsOf; split <;> omega), rfl⟩

end Go.Proofs.Ytbcefiefeobmcaa
