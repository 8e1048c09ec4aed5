/-
  scan's Best: what its maps hold, and its first loop's step.
-/
import Derived.Test.YtbcefiefeobmcaaBst0
import Derived.Test.YtbcefiefeobmcaaLays
import Derived.Sort.CutIn
import Derived.Sort.QuietIn
import Derived.Maps.AppendAt
namespace Go.Proofs.Ytbcefiefeobmcaa
open Go.RowKit Go.Shelf Go.Maps Go.WideElems
open Go.WideMaps (keyOf_string_mk)

/-- A blob of a shard that counts. -/
structure BlobOk (b : Blob) : Prop where
  key : b.1.size ≤ 16
  gen : 0 ≤ b.2.1 ∧ b.2.1 ≤ 1099511627776
  groups : 1 ≤ b.2.2.1 ∧ b.2.2.1 ≤ 4
  size : 0 ≤ b.2.2.2.1 ∧ b.2.2.2.1 ≤ 512
  some : b.2.2.1 = groupsOf b.2.2.2.1

theorem blobOk {f : Fnd} (h : f.countsB = true) (hk : f.r.kind = 2) : BlobOk f.r.blob := by
  have ho := shardOk h hk
  refine ⟨?_, ho.gen, ho.groups, ho.size, ho.some⟩
  simp only [Fnd.countsB, Bool.and_eq_true] at h
  obtain ⟨_, h⟩ := h
  unfold Rec.goodB at h
  rw [if_neg (by omega), if_neg (by omega), if_pos hk] at h
  simp [Rec.shardB, withinB, keyB] at h
  exact h.1.1.2.2

theorem copies_ok (l : List CFnd) : ∀ p ∈ copiesOf (raw l), BlobOk p.1 := by
  suffices h : ∀ (l : List CFnd) (m : List (Blob × List (Int × Int))), (∀ p ∈ m, BlobOk p.1) → ∀ p ∈ (raw l).foldl copyStep m, BlobOk p.1 from h l [] (by simp)
  intro l
  induction l with
  | nil => intro m hm; exact hm
  | cons f r ih =>
    intro m hm
    refine ih (copyStep m f.1) ?_
    unfold copyStep
    split
    · rename_i hk
      intro p hp
      rcases mem_putL hp with rfl | hp
      · exact blobOk f.2 hk
      · exact hm p hp
    · exact hm

theorem look_tombs2 {W : World} {bm : Nat} {T : List (ByteArray × Int)} (h : mapIs W Try.prog 9 bm (tombsVal T)) {key : ByteArray} (hk : key.size ≤ maxLen) :
    (Instr.lookup 52 (.map (some bm)) (.string key) true).run Try.prog W = .ok (.tuple #[.int .i64 ((getL T key).getD 0), .bool (getL T key).isSome]) W := by
  have hz : (zeroValue 3).run Try.prog W = .ok (.int .i64 0) W := by kernel_rfl
  have := look_typed h (string_keyed Try.underlying9) Try.underlying52 hz (fun x y e => by simpa using e) (a := key) (keyOf_string_mk Try.underlying9 hk) true
  rw [this]
  cases getL T key <;> rfl

theorem zero62 (W : World) : (zeroValue 62).run Try.prog W = .ok (.agg #[.string { data := #[] }, .int .i64 0, .int .i64 0, .int .i64 0, .string { data := #[] }, .slice none 0 0, .int .i64 0]) W := by kernel_rfl

def bestVal (B : List (ByteArray × Cho)) : List (Value × Value) := encM (fun s : ByteArray => Value.string s) choVal B

theorem look_best {W : World} {bb : Nat} {B : List (ByteArray × Cho)} (h : mapIs W Try.prog 9 bb (bestVal B)) {key : ByteArray} (hk : key.size ≤ maxLen) :
    (Instr.lookup 55 (.map (some bb)) (.string key) true).run Try.prog W = .ok (.tuple #[((getL B key).map choVal).getD (.agg #[.string { data := #[] }, .int .i64 0, .int .i64 0, .int .i64 0, .string { data := #[] }, .slice none 0 0, .int .i64 0]), .bool (getL B key).isSome]) W := by
  have := look_typed h (string_keyed Try.underlying9) Try.underlying55 (zero62 W) (fun x y e => by simpa using e) (a := key) (keyOf_string_mk Try.underlying9 hk) true
  rw [this]
  cases getL B key <;> rfl

theorem store_best {W : World} {bb : Nat} {B : List (ByteArray × Cho)} (h : mapIs W Try.prog 9 bb (bestVal B)) {key : ByteArray} (hk : key.size ≤ maxLen) (c : Cho) :
    ∃ W', (Instr.mapUpdate 55 (.map (some bb)) (.string key) (choVal c)).run Try.prog W = .ok () W' ∧ Hid (mapIs W' Try.prog 9 bb (bestVal (putL B key c)) ∧ W.grownBy W' (some bb)) := by
  obtain ⟨W', r1, r2, r3, _⟩ := store_typed h (string_keyed Try.underlying9) Try.underlying55 (fun x y e => by simpa using e) (a := key) (keyOf_string_mk Try.underlying9 hk) c
  exact ⟨W', r1, r2, r3⟩

/-- Between two rounds of the first loop (mid: nothing), or within one (mid: the copy that came). -/
structure L1 (w : World) (T : List (ByteArray × Int)) (ms : CM) (bt bb bm r : Nat) (done mid rest : List Cho) (B : List (ByteArray × Cho)) (W : World) : Prop where
  tombs : mapIs W Try.prog 9 bt (tombsVal T)
  it : iterIs W Try.prog 59 bm r (encM blobVal sliceVal ms) (encM blobVal sliceVal rest)
  best : mapIs W Try.prog 9 bb (bestVal B)
  bi : BestI T done B
  perm : (done ++ (mid ++ rest)).Perm ms
  rows : ∀ p ∈ ms, PRow W p.2.1 p.2.2
  below : Below w.heap.size w W

section
variable {w : World} {T : List (ByteArray × Int)} {ms : CM} {bt bb bm r : Nat} {done mid rest rest' : List Cho} {B B' : List (ByteArray × Cho)} {X Y : World} {c : Cho}

theorem L1.grow (h : L1 w T ms bt bb bm r done mid rest B X) (hb : Below X.heap.size X Y) : L1 w T ms bt bb bm r done mid rest B Y :=
  ⟨h.tombs.kept (grown_none hb) (by simp), h.it.kept (grown_none hb) (by simp) (by simp), h.best.kept (grown_none hb) (by simp), h.bi, h.perm, fun p hp => (h.rows p hp).kept (grown_none hb) (by simp), h.below.trans (hb.mono h.below.size)⟩

theorem L1.next (h : L1 w T ms bt bb bm r done [] rest B X) (h1 : bt ≠ r) (h2 : bb ≠ r) (h3 : ∀ p ∈ ms, p.2.1 ≠ r) (hr : w.heap.size ≤ r) (hp : rest.Perm (c :: rest')) (hg : X.grownBy Y (some r)) (hit : iterIs Y Try.prog 59 bm r (encM blobVal sliceVal ms) (encM blobVal sliceVal rest')) :
    L1 w T ms bt bb bm r done [c] rest' B Y :=
  have ne : ∀ b, b ≠ r → some b ≠ some r := fun b hb e => hb (Option.some.inj e)
  ⟨h.tombs.kept hg (ne _ h1), hit, h.best.kept hg (ne _ h2), h.bi, ((List.Perm.append_left done hp).symm).trans h.perm, fun p hp => (h.rows p hp).kept hg (ne _ (h3 p hp)), h.below.grown hg h.below.size (fun k e => by cases e; exact hr)⟩

theorem L1.mem (h : L1 w T ms bt bb bm r done [c] rest B X) : c ∈ ms := h.perm.mem_iff.1 (by simp)

theorem L1.perm2 (h : L1 w T ms bt bb bm r done [c] rest B X) : ((done ++ [c]) ++ ([] ++ rest)).Perm ms := by
  have := h.perm
  simpa using this

theorem L1.poor (h : L1 w T ms bt bb bm r done [c] rest B X) (hc : elig T (cpy c) = false) : L1 w T ms bt bb bm r (done ++ [c]) [] rest B X :=
  ⟨h.tombs, h.it, h.best, h.bi.poor hc, h.perm2, h.rows, h.below⟩

theorem L1.stay (h : L1 w T ms bt bb bm r done [c] rest B X) (hb : BestI T (done ++ [c]) B) : L1 w T ms bt bb bm r (done ++ [c]) [] rest B X :=
  ⟨h.tombs, h.it, h.best, hb, h.perm2, h.rows, h.below⟩

theorem L1.put (h : L1 w T ms bt bb bm r done [c] rest B X) (h1 : bt ≠ bb) (h2 : r ≠ bb) (h4 : bm ≠ bb) (h3 : ∀ p ∈ ms, p.2.1 ≠ bb) (hn : w.heap.size ≤ bb) (hb : BestI T (done ++ [c]) B') (hm : mapIs Y Try.prog 9 bb (bestVal B')) (hg : X.grownBy Y (some bb)) :
    L1 w T ms bt bb bm r (done ++ [c]) [] rest B' Y :=
  have ne : ∀ b, b ≠ bb → some b ≠ some bb := fun b hb e => hb (Option.some.inj e)
  ⟨h.tombs.kept hg (ne _ h1), h.it.kept hg (ne _ h4) (ne _ h2), hm, hb, h.perm2, fun p hp => (h.rows p hp).kept hg (ne _ (h3 p hp)), h.below.grown hg h.below.size (fun k e => by cases e; exact hn)⟩

/-- The blob that came is none that was there. -/
theorem L1.fresh (h : L1 w T ms bt bb bm r done [c] rest B X) (hd : (ms.map (·.1)).Pairwise (· ≠ ·)) : ∀ q ∈ done, q.1 ≠ c.1 := by
  have hp : ((done ++ ([c] ++ rest)).map (·.1)).Pairwise (· ≠ ·) := (List.Perm.pairwise_iff (fun h e => h e.symm) (h.perm.map _)).2 hd
  rw [List.map_append, List.pairwise_append] at hp
  intro q hq
  exact hp.2.2 q.1 (List.mem_map.2 ⟨q, hq, rfl⟩) c.1 (List.mem_map.2 ⟨c, by simp, rfl⟩)
theorem L1.done_mem (h : L1 w T ms bt bb bm r done mid rest B X) : ∀ q ∈ done, q ∈ ms := fun _ hq => h.perm.mem_iff.1 (List.mem_append_left _ hq)
end

end Go.Proofs.Ytbcefiefeobmcaa
