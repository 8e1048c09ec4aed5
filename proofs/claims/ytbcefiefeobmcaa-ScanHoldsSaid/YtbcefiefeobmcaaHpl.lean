/-
  ScanHolds, plain: what holds of Best's entries.
-/
import Derived.Test.YtbcefiefeobmcaaFpl
namespace Go.Proofs.Ytbcefiefeobmcaa
open Go.RowKit Go.Shelf Go.Maps

/-- Is a record a shard of an entry, at its place? -/
def hitB (p : Int × Int) (key : ByteArray) (gen size : Int) (sum : ByteArray) (s : Nat) (f : Fnd) : Bool :=
  decide (f.ac = p.1) && decide (f.ap = p.2) && decide (f.ap < 1024) && f.r.goodB && decide (f.r.kind = 2) && decide (f.r.key = key) && decide (f.r.gen = gen) && decide (f.r.size = size) && decide (f.r.sum = sum) &&
    decide (f.r.group = (s : Int) / 10) && decide (f.r.index = (s : Int) % 10)

theorem hits_of_row {zs : List Fnd} {b : Blob} {s : Nat} : zs.any (hitB (placeAt (zs.filter Fnd.countsB) b s) b.1 b.2.1 b.2.2.2.1 b.2.2.2.2 s) = decide (placeAt (zs.filter Fnd.countsB) b s ≠ nowhere) := by
  rw [Bool.eq_iff_iff, decide_eq_true_eq, List.any_eq_true]
  constructor
  · rintro ⟨f, _, hf⟩ e
    simp only [hitB, e, nowhere, Bool.and_eq_true, decide_eq_true_eq] at hf
    omega
  · intro hne
    unfold placeAt at hne ⊢
    cases hfd : (zs.filter Fnd.countsB).find? (isSh b s) with
    | none => rw [hfd] at hne; exact absurd rfl hne
    | some f =>
      have hm := List.mem_of_find?_eq_some hfd
      have hs := List.find?_some hfd
      obtain ⟨hz, hc⟩ := List.mem_filter.1 hm
      refine ⟨f, hz, ?_⟩
      simp only [isSh, Bool.and_eq_true, decide_eq_true_eq] at hs
      obtain ⟨⟨hk, hb⟩, hsl⟩ := hs
      have ho := shardOk hc hk
      have h1 := ho.group
      have h2 := ho.index
      have hg : f.r.group = (s : Int) / 10 := by unfold Rec.slot at hsl; omega
      have hi : f.r.index = (s : Int) % 10 := by unfold Rec.slot at hsl; omega
      subst hb
      simp only [Fnd.countsB, Fnd.placeB, Bool.and_eq_true, decide_eq_true_eq] at hc
      simp [hitB, Rec.blob, hc.1.2, hc.2, hk, hg, hi]

/-- What ScanHolds asks of each entry. -/
structure EntOk (zs : List Fnd) (m : Int) (p : Pr) : Prop where
  gen : p.2.1.2.1 ≤ m
  len : ∃ g : Nat, p.2.2.2.length = g * 10 ∧ 1 ≤ g ∧ g ≤ 4 ∧ ∀ k, k < g → 8 ≤ cntTo p.2.2.2 k 10
  dead : ∀ f ∈ zs, f.placeB = true → f.r.goodB = true → f.r.kind = 3 → f.r.key = p.2.1.1 → p.2.1.2.1 ≤ f.r.gen → False
  hits : ∀ s (h : s < p.2.2.2.length), zs.any (hitB p.2.2.2[s] p.2.1.1 p.2.1.2.1 p.2.1.2.2.2.1 p.2.1.2.2.2.2 s) = decide (p.2.2.2[s] ≠ nowhere)

theorem answer_ok {zs : List Fnd} {es : List Pr} {m : Int} (h : Answer zs es m) : ∀ p ∈ es, EntOk zs m p := by
  obtain ⟨hb, hm⟩ := h
  have hcs := counted zs
  intro p hp
  obtain ⟨h1, h2, _⟩ := hb.has (cpy p.2) (List.mem_map.2 ⟨p, hp, rfl⟩)
  obtain ⟨hs, hr⟩ := (mem_copies _ hcs _).1 h1
  obtain ⟨f, hf, hk, hbl⟩ := hasSh_iff.1 hs
  have hbl : f.r.blob = p.2.1 := hbl
  have hr : p.2.2.2 = rowOf (zs.filter Fnd.countsB) p.2.1 := hr
  have ho := shardOk (hcs f hf) hk
  have hgr : f.r.groups = p.2.1.2.2.1 := by rw [← hbl]; rfl
  have hgs := ho.groups
  have hlen : p.2.2.2.length = (p.2.1.2.2.1 * 10).toNat := by rw [hr, rowOf_length]
  refine ⟨?_, ⟨p.2.1.2.2.1.toNat, by omega, by omega, by omega, fun k hk => ?_⟩, fun g hg hpl hgood hk3 hkey hge => ?_, fun s hs => ?_⟩
  · rw [hm, ← hbl]
    exact (most_spec _).1 f hf
  · unfold elig at h2
    rw [Bool.and_eq_true, decide_eq_true_eq] at h2
    have h3 : 8 ≤ poorestOf p.2.2.2 := h2.1
    unfold poorestOf leastOf at h3
    rw [leastOf_ge] at h3
    have := h3.2 k (by rw [List.mem_range]; omega)
    omega
  · unfold elig at h2
    rw [Bool.and_eq_true, dead_char _ hcs] at h2
    have ht : toldB (zs.filter Fnd.countsB) p.2.1.1 p.2.1.2.1 = true := by
      simp only [toldB, List.any_eq_true, Bool.and_eq_true, decide_eq_true_eq]
      exact ⟨g, List.mem_filter.2 ⟨hg, by simp [Fnd.countsB, hpl, hgood]⟩, ⟨hk3, hkey⟩, hge⟩
    have h4 := h2.2
    rw [show toldB (zs.filter Fnd.countsB) (cpy p.2).1.1 (cpy p.2).1.2.1 = true from ht] at h4
    cases h4
  · have e : p.2.2.2[s] = placeAt (zs.filter Fnd.countsB) p.2.1 s := by
      have := rowOf_get (zs.filter Fnd.countsB) p.2.1 s (by rw [← hlen]; exact hs)
      rw [← hr] at this
      exact (List.getElem?_eq_some_iff.1 this).2
    rw [e]
    exact hits_of_row

theorem answer_sorted {zs : List Fnd} {es : List Pr} {m : Int} (h : Answer zs es m) (hk : ∀ p ∈ es, p.2.1.1 = p.1) (i : Nat) (hi : i + 1 < es.length) : sLt es[i].1 es[i + 1].1 := by
  have := h.1.sorted
  rw [List.pairwise_map] at this
  have := List.pairwise_iff_getElem.1 this i (i + 1) (by omega) hi (by omega)
  rw [← hk _ (List.getElem_mem (by omega : i < es.length)), ← hk _ (List.getElem_mem hi)]
  exact this

end Go.Proofs.Ytbcefiefeobmcaa
