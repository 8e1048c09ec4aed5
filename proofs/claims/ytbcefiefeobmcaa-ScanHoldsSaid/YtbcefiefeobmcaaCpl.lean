/-
  Plain: what copyOf's shards come to, whichever of them are there and in whatever order; ScanTwo's plain law.
-/
import Derived.Test.YtbcefiefeobmcaaMor
namespace Go.Proofs.Ytbcefiefeobmcaa
open Go.RowKit Go.Shelf Go.Maps

def blobK (key : ByteArray) (gen size : Int) : Blob := (key, gen, groupsOf size, size, digB size)

theorem mem_copyL {key : ByteArray} {gen size frm : Int} {f : Fnd} : f ∈ copyL key gen size frm ↔ ∃ g i : Nat, g < (groupsOf size).toNat ∧ i < 10 ∧ f = shardF key gen (groupsOf size) size frm g i := by
  simp only [copyL, copyTo, List.mem_flatMap, List.mem_range, groupF, List.mem_map]
  constructor
  · rintro ⟨g, hg, i, hi, rfl⟩; exact ⟨g, i, hg, hi, rfl⟩
  · rintro ⟨g, i, hg, hi, rfl⟩; exact ⟨g, hg, i, hi, rfl⟩

theorem groupsOf_bd {size : Int} (h0 : 0 ≤ size) (h1 : size ≤ 512) : 1 ≤ groupsOf size ∧ groupsOf size ≤ 4 := by unfold groupsOf; split <;> omega

theorem shardF_counts {key : ByteArray} {gen size frm : Int} (hk1 : 1 ≤ key.size) (hk2 : key.size ≤ 16) (hg0 : 0 ≤ gen) (hg1 : gen ≤ 1099511627776) (h0 : 0 ≤ size) (h1 : size ≤ 512) (hf0 : 0 ≤ frm) (hf1 : frm ≤ 1000) {g i : Nat} (hg : g < (groupsOf size).toNat) (hi : i < 10) :
    (shardF key gen (groupsOf size) size frm g i).countsB = true := by
  have hb := groupsOf_bd h0 h1
  have a1 : (i : Int) < 32 := by omega
  have a2 : 0 ≤ frm + (g : Int) := by omega
  have a3 : frm + (g : Int) < 1024 := by omega
  have a4 : (g : Int) ≤ groupsOf size - 1 := by omega
  have a5 : (i : Int) ≤ 9 := by omega
  simp [Fnd.countsB, shardF, Fnd.placeB, Rec.goodB, keyB, withinB, Rec.shardB, digB_size, hk1, hk2, hg0, hg1, h0, h1, a1, a2, a3, a4, a5]

theorem copyL_counts {key : ByteArray} {gen size frm : Int} (hk1 : 1 ≤ key.size) (hk2 : key.size ≤ 16) (hg0 : 0 ≤ gen) (hg1 : gen ≤ 1099511627776) (h0 : 0 ≤ size) (h1 : size ≤ 512) (hf0 : 0 ≤ frm) (hf1 : frm ≤ 1000) : ∀ f ∈ copyL key gen size frm, f.countsB = true := by
  intro f hf
  obtain ⟨g, i, hg, hi, rfl⟩ := mem_copyL.1 hf
  exact shardF_counts hk1 hk2 hg0 hg1 h0 h1 hf0 hf1 hg hi

theorem isSh_shardF {key : ByteArray} {gen n size frm : Int} {g i s : Nat} {b : Blob} : isSh b s (shardF key gen n size frm g i) = (decide ((key, gen, n, size, digB size) = b) && decide (g * 10 + i = s)) := by
  have : (shardF key gen n size frm g i).r.slot = g * 10 + i := by
    show ((g : Int) * 10 + i).toNat = _
    omega
  rw [Bool.eq_iff_iff]
  simp only [isSh, this, Bool.and_eq_true, decide_eq_true_eq]
  show ((2 : Int) = 2 ∧ (key, gen, n, size, digB size) = b) ∧ _ ↔ _
  simp

theorem placeAt_uniq {l : List Fnd} {b : Blob} {s : Nat} {q : Int × Int} (h : ∃ f ∈ l, isSh b s f = true) (hu : ∀ f ∈ l, isSh b s f = true → (f.ac, f.ap) = q) : placeAt l b s = q := by
  unfold placeAt
  cases hf : l.find? (isSh b s) with
  | none =>
    obtain ⟨f, hm, hs⟩ := h
    rw [List.find?_eq_none] at hf
    exact absurd hs (hf f hm)
  | some f => exact hu f (List.mem_of_find?_eq_some hf) (List.find?_some hf)
theorem placeAt_no {l : List Fnd} {b : Blob} {s : Nat} (h : ∀ f ∈ l, isSh b s f = false) : placeAt l b s = nowhere := by
  unfold placeAt
  have : l.find? (isSh b s) = none := by
    rw [List.find?_eq_none]
    intro f hf
    rw [h f hf]
    simp
  rw [this]

theorem hasSh_iff {l : List Fnd} {b : Blob} : hasSh l b = true ↔ ∃ f ∈ l, f.r.kind = 2 ∧ f.r.blob = b := by simp [hasSh]

theorem filter_all {α : Type} {p : α → Bool} {l : List α} (h : ∀ x ∈ l, p x = true) : l.filter p = l := List.filter_eq_self.2 h

/-! ### ScanTwo -/
def keyK : ByteArray := ⟨#[107]⟩
theorem keyK_size : keyK.size = 1 := rfl
def rowJ (frm : Int) (j : Nat) : List (Int × Int) := (List.range 10).map fun s => if j ≤ s then ((s : Int), frm) else nowhere

theorem rowJ_poor (frm : Int) (hf : frm = 5 ∨ frm = 6) (j : Nat) (hj : j ≤ 2) : poorestOf (rowJ frm j) = 10 - j := by
  have : j = 0 ∨ j = 1 ∨ j = 2 := by omega
  have c50 : poorestOf (rowJ 5 0) = 10 - ((0 : Nat) : Int) := by kernel_rfl
  have c51 : poorestOf (rowJ 5 1) = 10 - ((1 : Nat) : Int) := by kernel_rfl
  have c52 : poorestOf (rowJ 5 2) = 10 - ((2 : Nat) : Int) := by kernel_rfl
  have c60 : poorestOf (rowJ 6 0) = 10 - ((0 : Nat) : Int) := by kernel_rfl
  have c61 : poorestOf (rowJ 6 1) = 10 - ((1 : Nat) : Int) := by kernel_rfl
  have c62 : poorestOf (rowJ 6 2) = 10 - ((2 : Nat) : Int) := by kernel_rfl
  rcases hf with rfl | rfl <;> rcases this with rfl | rfl | rfl <;> assumption

def partJ (gen frm : Int) (j : Nat) : List Fnd := (copyL keyK gen 0 frm).drop j
theorem mem_partJ {gen frm : Int} {j : Nat} {f : Fnd} : f ∈ partJ gen frm j ↔ ∃ i : Nat, j ≤ i ∧ i < 10 ∧ f = shardF keyK gen 1 0 frm 0 i := by
  have e : copyL keyK gen 0 frm = (List.range 10).map (shardF keyK gen 1 0 frm 0) := by
    show List.flatMap _ _ = _
    have : (groupsOf 0).toNat = 1 := rfl
    rw [this]
    simp [groupF]
    intro a _
    rfl
  unfold partJ
  rw [e, ← List.map_drop, List.mem_map]
  constructor
  · rintro ⟨i, hi, rfl⟩
    obtain ⟨k, hk, rfl⟩ := List.mem_iff_getElem.1 hi
    simp at hk ⊢
    exact ⟨j + k, by omega, by omega, rfl⟩
  · rintro ⟨i, h1, h2, rfl⟩
    refine ⟨i, List.mem_iff_getElem.2 ⟨i - j, by simp; omega, ?_⟩, rfl⟩
    simp; omega

theorem partJ_length (gen frm : Int) (j : Nat) : (partJ gen frm j).length = 10 - j := by
  unfold partJ
  rw [List.length_drop]
  have : (copyL keyK gen 0 frm).length = 10 := by
    unfold copyL
    rw [copyTo_length]
    rfl
  rw [this]

theorem two_plain {g1 g2 : Int} (h1 : 0 ≤ g1) (h12 : g1 < g2) (h2 : g2 ≤ 1000) {j1 j2 : Nat} (hj1 : j1 ≤ 2) (hj2 : j2 ≤ 2) {L : List Fnd} (hL : ∀ f, f ∈ L ↔ f ∈ partJ g1 5 j1 ∨ f ∈ partJ g2 6 j2) {es : List Pr} {m : Int} (h : Answer L es m) :
    ∃ p, es = [p] ∧ p.2.1.2.1 = (if j1 < j2 then g1 else g2) ∧ m = g2 := by
  obtain ⟨hb, hm⟩ := h
  have hcs : ∀ f ∈ L, f.countsB = true := fun f hf => by
    rcases (hL f).1 hf with q | q <;> obtain ⟨i, _, hi, rfl⟩ := mem_partJ.1 q
    · exact shardF_counts (size := 0) (g := 0) (by decide) (by decide) h1 (by omega) (by omega) (by omega) (by omega) (by omega) (by decide) hi
    · exact shardF_counts (size := 0) (g := 0) (by decide) (by decide) (by omega) (by omega) (by omega) (by omega) (by omega) (by omega) (by decide) hi
  rw [filter_all hcs] at hb hm
  have hgen : ∀ f ∈ L, f.r.gen ≤ g2 := fun f hf => by
    rcases (hL f).1 hf with q | q <;> obtain ⟨i, _, hi, rfl⟩ := mem_partJ.1 q
    · show g1 ≤ g2; omega
    · show g2 ≤ g2; omega
  have hkind : ∀ f ∈ L, f.r.kind = 2 := fun f hf => by
    rcases (hL f).1 hf with q | q <;> obtain ⟨i, _, hi, rfl⟩ := mem_partJ.1 q <;> rfl
  have hlast : shardF keyK g2 1 0 6 0 9 ∈ L := (hL _).2 (.inr (mem_partJ.2 ⟨9, by omega, by omega, rfl⟩))
  have hlast1 : shardF keyK g1 1 0 5 0 9 ∈ L := (hL _).2 (.inl (mem_partJ.2 ⟨9, by omega, by omega, rfl⟩))
  have hmost : m = g2 := by
    obtain ⟨p1, p2, p3⟩ := most_spec L
    rw [← hm] at p1 p2 p3
    have := p1 _ hlast
    have : g2 ≤ m := this
    rcases p3 with e | ⟨f, hf, e⟩
    · omega
    · have := hgen f hf; omega
  have htold : ∀ k g, toldB L k g = false := fun k g => by
    unfold toldB
    rw [List.any_eq_false]
    intro f hf
    simp [hkind f hf]
  have hbl : ∀ (g frm : Int) (i : Nat), (shardF keyK g 1 0 frm 0 i).r.blob = blobK keyK g 0 := fun _ _ _ => rfl
  have hne : blobK keyK g1 0 ≠ blobK keyK g2 0 := fun e => by
    have := congrArg (fun b : Blob => b.2.1) e
    simp [blobK] at this
    omega
  have hrow1 : rowOf L (blobK keyK g1 0) = rowJ 5 j1 := by
    show (List.range 10).map _ = _
    refine List.map_congr_left fun s hs => ?_
    have hs : s < 10 := by simpa using hs
    by_cases hjs : j1 ≤ s
    · rw [if_pos hjs]
      refine placeAt_uniq ⟨shardF keyK g1 1 0 5 0 s, (hL _).2 (.inl (mem_partJ.2 ⟨s, hjs, hs, rfl⟩)), ?_⟩ fun f hf hi => ?_
      · rw [isSh_shardF]
        simp
        exact rfl
      · rcases (hL f).1 hf with q | q <;> obtain ⟨i, _, hi', rfl⟩ := mem_partJ.1 q <;> rw [isSh_shardF] at hi <;> simp at hi
        · obtain rfl : i = s := by omega
          rfl
        · exact absurd hi.1.symm hne
    · rw [if_neg hjs]
      refine placeAt_no fun f hf => ?_
      rcases (hL f).1 hf with q | q <;> obtain ⟨i, hi, hi', rfl⟩ := mem_partJ.1 q <;> rw [isSh_shardF]
      · simp; omega
      · simp
        intro e
        exact absurd e.symm hne
  have hrow2 : rowOf L (blobK keyK g2 0) = rowJ 6 j2 := by
    show (List.range 10).map _ = _
    refine List.map_congr_left fun s hs => ?_
    have hs : s < 10 := by simpa using hs
    by_cases hjs : j2 ≤ s
    · rw [if_pos hjs]
      refine placeAt_uniq ⟨shardF keyK g2 1 0 6 0 s, (hL _).2 (.inr (mem_partJ.2 ⟨s, hjs, hs, rfl⟩)), ?_⟩ fun f hf hi => ?_
      · rw [isSh_shardF]
        simp
        exact rfl
      · rcases (hL f).1 hf with q | q <;> obtain ⟨i, _, hi', rfl⟩ := mem_partJ.1 q <;> rw [isSh_shardF] at hi <;> simp at hi
        · exact absurd hi.1 hne
        · obtain rfl : i = s := by omega
          rfl
    · rw [if_neg hjs]
      refine placeAt_no fun f hf => ?_
      rcases (hL f).1 hf with q | q <;> obtain ⟨i, hi, hi', rfl⟩ := mem_partJ.1 q <;> rw [isSh_shardF]
      · simp
        intro e
        exact absurd e hne
      · simp; omega
  have hC : ∀ c, c ∈ copiesOf L ↔ c = (blobK keyK g1 0, rowJ 5 j1) ∨ c = (blobK keyK g2 0, rowJ 6 j2) := by
    intro c
    rw [mem_copies L hcs, hasSh_iff]
    constructor
    · rintro ⟨⟨f, hf, _, e⟩, e2⟩
      obtain ⟨cb, cr⟩ := c
      dsimp only at e e2
      rcases (hL f).1 hf with q | q <;> obtain ⟨i, _, _, rfl⟩ := mem_partJ.1 q <;> rw [hbl] at e <;> subst e
      · left; rw [e2, hrow1]
      · right; rw [e2, hrow2]
    · rintro (rfl | rfl)
      · exact ⟨⟨_, hlast1, rfl, rfl⟩, hrow1.symm⟩
      · exact ⟨⟨_, hlast, rfl, rfl⟩, hrow2.symm⟩
  have hel : ∀ c, c = (blobK keyK g1 0, rowJ 5 j1) ∨ c = (blobK keyK g2 0, rowJ 6 j2) → elig (tombsOf L) c = true := by
    rintro c (rfl | rfl)
    · unfold elig
      rw [dead_char L hcs, htold]
      dsimp only
      rw [rowJ_poor 5 (.inl rfl) j1 hj1]
      simp; omega
    · unfold elig
      rw [dead_char L hcs, htold]
      dsimp only
      rw [rowJ_poor 6 (.inr rfl) j2 hj2]
      simp; omega
  have hX : ∀ c c', (∀ q, q ∈ copiesOf L ↔ q = c ∨ q = c') → elig (tombsOf L) c = true → (c.1.1 = c'.1.1) → beats c c' = true → IsBest (tombsOf L) (copiesOf L) [c] := by
    intro c c' hcc he hk hbt
    refine ⟨by simp, fun e hm => ?_, fun q hq hqe => ⟨c, by simp, ?_⟩⟩
    · obtain rfl : e = c := by simpa using hm
      refine ⟨(hcc e).2 (.inl rfl), he, fun q hq _ _ => ?_⟩
      rcases (hcc q).1 hq with rfl | rfl
      · exact .inl rfl
      · exact .inr hbt
    · rcases (hcc q).1 hq with rfl | rfl
      · rfl
      · exact hk
  have key : ∀ c, IsBest (tombsOf L) (copiesOf L) [c] → ∃ p, es = [p] ∧ p.2.1.2.1 = c.1.2.1 := fun c hc => by
    have := isBest_unique hb hc (fun _ => Iff.rfl) (fun _ _ => rfl)
    cases es with
    | nil => cases this
    | cons p r =>
      simp only [List.map_cons, List.cons.injEq, List.map_eq_nil_iff] at this
      obtain ⟨e, rfl⟩ := this
      exact ⟨p, rfl, by rw [← e]; rfl⟩
  by_cases hjj : j1 < j2
  · rw [if_pos hjj]
    obtain ⟨p, hp, e⟩ := key _ (hX (blobK keyK g1 0, rowJ 5 j1) (blobK keyK g2 0, rowJ 6 j2) hC (hel _ (.inl rfl)) rfl (by
      unfold beats
      rw [betterB_iff]
      dsimp only
      rw [rowJ_poor 5 (.inl rfl) j1 hj1, rowJ_poor 6 (.inr rfl) j2 hj2]
      left; omega))
    exact ⟨p, hp, e, hmost⟩
  · rw [if_neg hjj]
    obtain ⟨p, hp, e⟩ := key _ (hX (blobK keyK g2 0, rowJ 6 j2) (blobK keyK g1 0, rowJ 5 j1) (fun q => (hC q).trans Or.comm) (hel _ (.inr rfl)) rfl (by
      unfold beats
      rw [betterB_iff]
      dsimp only
      rw [rowJ_poor 5 (.inl rfl) j1 hj1, rowJ_poor 6 (.inr rfl) j2 hj2]
      simp only [blobK]
      omega))
    exact ⟨p, hp, e, hmost⟩

end Go.Proofs.Ytbcefiefeobmcaa
