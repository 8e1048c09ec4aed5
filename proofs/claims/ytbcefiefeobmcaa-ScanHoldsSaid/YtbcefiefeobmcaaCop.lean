/-
  scan's copies: of each blob that shards tell the places of its shards.
-/
import Derived.Test.YtbcefiefeobmcaaIter
import Derived.Test.YtbcefiefeobmcaaMaps
import Derived.Test.YtbcefiefeobmcaaRep
import Derived.Test.YtbcefiefeobmcaaHeld
import Derived.DeepKeys4
namespace Go.Proofs.Ytbcefiefeobmcaa
open Go.RowKit Go.Shelf Go.Maps Go.WideElems
open Go.WideMaps (keyOf_string_mk)

theorem wide_fn2 (f : FuncId) : Fence.wide.fn f = True := rfl
attribute [local go_sem] Oper.semAt_some wide_fn2

/-- What the shards of one copy say: key, gen, groups, size, sum. -/
abbrev Blob := ByteArray × Int × Int × Int × ByteArray
def blobVal (b : Blob) : Value := .agg #[.string b.1, .int .i64 b.2.1, .int .i64 b.2.2.1, .int .i64 b.2.2.2.1, .string b.2.2.2.2]
theorem blobVal_inj : ∀ x y, blobVal x = blobVal y → x = y := by
  rintro ⟨a1, a2, a3, a4, a5⟩ ⟨b1, b2, b3, b4, b5⟩ h
  simp [blobVal] at h
  simp [h]
def Rec.blob (r : Rec) : Blob := (r.key, r.gen, r.groups, r.size, r.sum)
def Rec.slot (r : Rec) : Nat := (r.group * 10 + r.index).toNat

/-- What is known of the copies, when f has come. -/
def copyStep (m : List (Blob × List (Int × Int))) (f : Fnd) : List (Blob × List (Int × Int)) :=
  if f.r.kind = 2 then
    putL m f.r.blob (if ((getL m f.r.blob).getD (List.replicate (f.r.groups * 10).toNat nowhere))[f.r.slot]? = some nowhere
      then ((getL m f.r.blob).getD (List.replicate (f.r.groups * 10).toNat nowhere)).set f.r.slot (f.ac, f.ap)
      else (getL m f.r.blob).getD (List.replicate (f.r.groups * 10).toNat nowhere))
  else m
def copiesOf (l : List Fnd) : List (Blob × List (Int × Int)) := l.foldl copyStep []
theorem copiesOf_snoc (l : List Fnd) (f : Fnd) : copiesOf (l ++ [f]) = copyStep (copiesOf l) f := by simp [copiesOf]

theorem Try.laidOut : laidOutB Try.prog = true := by kernel_rfl
theorem row59 : 59 < Try.prog.types.size := of_decide_eq_true (by kernel_rfl)
theorem cells59 : Try.prog.cellsOf 59 = 5 := by kernel_rfl
theorem cells9 : Try.prog.cellsOf 9 = 1 := by kernel_rfl
theorem cells3 : Try.prog.cellsOf 3 = 1 := by kernel_rfl
theorem blob_keyed : Keyed Try.prog 59 := Keyed.of_law (deep_law_laid Try.laidOut (m := 3) (by decide) row59 (by kernel_rfl) (by rw [Try.underlying59]))
theorem wf_small {n : Int} (h0 : 0 ≤ n) (h1 : n ≤ 1099511627776) : (Lit.int .i64 n).wf = true := by
  simp [Lit.wf, IntKind.min, IntKind.max, IntKind.signed, IntKind.bits]; omega
theorem lits9 (d : Nat) {s : ByteArray} (h : s.size ≤ maxLen) : Try.prog.keyLits (d + 1) 9 [.string s] = some [.string s.data.toList] := by
  simp [Program.keyLits, Try.underlying9, h]
theorem lits3 (d : Nat) {n : Int} (h : (Lit.int .i64 n).wf = true) : Try.prog.keyLits (d + 1) 3 [.int .i64 n] = some [.int .i64 n] := by
  simp [Program.keyLits, Try.underlying3, h]
theorem lits59 (d : Nat) {key sum : ByteArray} {g gs sz : Int} (h1 : key.size ≤ maxLen) (h2 : sum.size ≤ maxLen) (w1 : (Lit.int .i64 g).wf = true) (w2 : (Lit.int .i64 gs).wf = true) (w3 : (Lit.int .i64 sz).wf = true) :
    ∃ ls, Try.prog.keyLits (d + 1 + 1) 59 [.string key, .int .i64 g, .int .i64 gs, .int .i64 sz, .string sum] = some ls := by
  unfold Program.keyLits
  rw [Try.underlying59]
  simp [cells59, cells9, cells3, lits9 d h1, lits9 d h2, lits3 d w1, lits3 d w2, lits3 d w3]
theorem keyOf_blob (key sum : ByteArray) (g gs sz : Int) (h1 : key.size ≤ maxLen) (h2 : sum.size ≤ maxLen) (a1 : 0 ≤ g ∧ g ≤ 1099511627776) (a2 : 0 ≤ gs ∧ gs ≤ 4) (a3 : 0 ≤ sz ∧ sz ≤ 512) :
   ∃ l, keyOf Try.prog 59 (.agg #[.string key, .int .i64 g, .int .i64 gs, .int .i64 sz, .string sum]) = some l := by
  have ht : Try.prog.keyType 59 = true := by kernel_rfl
  have hf : Value.formed Try.prog 59 (.agg #[.string key, .int .i64 g, .int .i64 gs, .int .i64 sz, .string sum]) = true := by kernel_rfl
  have hsz : Try.prog.types.size = 138 + 1 := by kernel_rfl
  obtain ⟨ls, hls⟩ := lits59 138 h1 h2 (wf_small a1.1 a1.2) (wf_small a2.1 (by omega)) (wf_small a3.1 (by omega))
  refine ⟨.string (keyBytes ls), ?_⟩
  unfold keyOf
  rw [Try.underlying59]
  simp only [ht, hf, Bool.and_self, if_true, hsz, Value.cells]
  rw [hls]
  rfl

/-- A list of places that lies whole in a block of its own. -/
def PRow (W : World) (g : Nat) (ps : List (Int × Int)) : Prop := W.heap[g]? = some (.cells (flatP ps).toArray 34 (0, 0))
theorem PRow.lt {W : World} {g : Nat} {ps : List (Int × Int)} (h : PRow W g ps) : g < W.heap.size := (Array.getElem?_eq_some_iff.1 h).1
theorem PRow.kept {W W' : World} {row : Option Nat} {g : Nat} {ps : List (Int × Int)} (h : PRow W g ps) (hg : W.grownBy W' row) (hne : some g ≠ row) : PRow W' g ps := (hg.block g h.lt hne).trans h

def sliceVal (x : Nat × List (Int × Int)) : Value := .slice (some ⟨x.1, 0, none⟩) x.2.length x.2.length
abbrev CM := List (Blob × (Nat × List (Int × Int)))
def plainCM (ms : CM) : List (Blob × List (Int × Int)) := ms.map fun p => (p.1, p.2.2)

theorem getL_plain (ms : CM) (b : Blob) : getL (plainCM ms) b = (getL ms b).map (·.2) := by
  induction ms with
  | nil => rfl
  | cons p r ih =>
    obtain ⟨a, x⟩ := p
    simp only [plainCM, List.map_cons, getL] at *
    by_cases h : a = b <;> simp [h, ih]
theorem putL_plain (ms : CM) (b : Blob) (g : Nat) (ps : List (Int × Int)) : plainCM (putL ms b (g, ps)) = putL (plainCM ms) b ps := by
  induction ms with
  | nil => rfl
  | cons p r ih =>
    obtain ⟨a, x⟩ := p
    simp only [plainCM, List.map_cons, putL] at *
    by_cases h : a = b <;> simp [h, ih]

/-- The map of the copies, block by block. -/
structure CopyM (n₀ : Nat) (W : World) (bm : Nat) (ms : CM) : Prop where
  map : mapIs W Try.prog 59 bm (encM blobVal sliceVal ms)
  rows : ∀ p ∈ ms, n₀ ≤ p.2.1 ∧ PRow W p.2.1 p.2.2
  apart : (ms.map (·.2.1)).Pairwise (· ≠ ·)

theorem CopyM.kept {n₀ bm : Nat} {W W' : World} {row : Option Nat} {ms : CM} (h : CopyM n₀ W bm ms) (hg : W.grownBy W' row) (hne : some bm ≠ row) (hr : ∀ p ∈ ms, some p.2.1 ≠ row) : CopyM n₀ W' bm ms :=
  ⟨h.map.kept hg hne, fun p hp => ⟨(h.rows p hp).1, (h.rows p hp).2.kept hg (hr p hp)⟩, h.apart⟩

end Go.Proofs.Ytbcefiefeobmcaa
