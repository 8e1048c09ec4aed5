/-
  ScanGone, plain: with a tomb of the greatest generation its key has no entry, all others stay.
-/
import Derived.Test.YtbcefiefeobmcaaMor
namespace Go.Proofs.Ytbcefiefeobmcaa
open Go.RowKit Go.Shelf Go.Maps

theorem tomb_counts {key : ByteArray} {m : Int} (h1 : 1 ≤ key.size) (h2 : key.size ≤ 16) (h3 : 0 ≤ m) (h4 : m ≤ 1099511627776) : (tombF key m).countsB = true := by
  simp [Fnd.countsB, tombF, Fnd.placeB, Rec.goodB, keyB, withinB, Rec.noneB, h1, h2, h3, h4]

theorem isSh_tomb (b : Blob) (s : Nat) (key : ByteArray) (m : Int) : isSh b s (tombF key m) = false := by simp [isSh, tombF]
theorem find_mid {α : Type} (p : α → Bool) (l1 l2 : List α) {t : α} (h : p t = false) : (l1 ++ t :: l2).find? p = (l1 ++ l2).find? p := by
  rw [List.find?_append, List.find?_append, List.find?_cons_of_neg (by simp [h])]
theorem placeAt_mid (l1 l2 : List Fnd) (key : ByteArray) (m : Int) (b : Blob) (s : Nat) : placeAt (l1 ++ tombF key m :: l2) b s = placeAt (l1 ++ l2) b s := by
  unfold placeAt
  rw [find_mid _ _ _ (isSh_tomb b s key m)]
theorem rowOf_mid (l1 l2 : List Fnd) (key : ByteArray) (m : Int) (b : Blob) : rowOf (l1 ++ tombF key m :: l2) b = rowOf (l1 ++ l2) b := by
  unfold rowOf
  exact List.map_congr_left fun s _ => placeAt_mid _ _ _ _ _ _
theorem hasSh_mid (l1 l2 : List Fnd) (key : ByteArray) (m : Int) (b : Blob) : hasSh (l1 ++ tombF key m :: l2) b = hasSh (l1 ++ l2) b := by
  simp [hasSh, tombF]
theorem toldB_mid (l1 l2 : List Fnd) (key : ByteArray) (m : Int) (k : ByteArray) (g : Int) : toldB (l1 ++ tombF key m :: l2) k g = (toldB (l1 ++ l2) k g || (decide (key = k) && decide (g ≤ m))) := by
  simp [toldB, tombF]
  cases l1.any fun f => decide (f.r.kind = 3) && decide (f.r.key = k) && decide (g ≤ f.r.gen) <;> cases (decide (key = k) && decide (g ≤ m)) <;> simp

theorem gone_plain {l1 l2 : List Fnd} {key : ByteArray} (h1 : 1 ≤ key.size) (h2 : key.size ≤ 16) {es es' : List Pr} {m m' : Int} (h : Answer (l1 ++ l2) es m) (h' : Answer (l1 ++ tombF key m :: l2) es' m') :
    es'.map (fun p => cpy p.2) = (es.map (fun p => cpy p.2)).filter (fun c => decide (c.1.1 ≠ key)) ∧ m' = m := by
  obtain ⟨hb, hm⟩ := h
  obtain ⟨hb', hm'⟩ := h'
  have hc1 := counted l1
  have hc2 := counted l2
  have hcA := counted (l1 ++ l2)
  have hsp := most_spec ((l1 ++ l2).filter Fnd.countsB)
  have hm0 : 0 ≤ m := by rw [hm]; exact hsp.2.1
  have hm1 : m ≤ 1099511627776 := by
    rw [hm]
    rcases hsp.2.2 with e | ⟨f, hf, e⟩
    · omega
    · have := gen_ok (hcA f hf); omega
  have ht := tomb_counts h1 h2 hm0 hm1
  have hf' : (l1 ++ tombF key m :: l2).filter Fnd.countsB = l1.filter Fnd.countsB ++ tombF key m :: l2.filter Fnd.countsB := by
    rw [List.filter_append, List.filter_cons_of_pos ht]
  have hf : (l1 ++ l2).filter Fnd.countsB = l1.filter Fnd.countsB ++ l2.filter Fnd.countsB := List.filter_append ..
  rw [hf'] at hb' hm'
  rw [hf] at hb hm hsp
  have hall : ∀ f ∈ l1.filter Fnd.countsB ++ l2.filter Fnd.countsB, f.countsB = true := by rw [← hf]; exact hcA
  have hall' : ∀ f ∈ l1.filter Fnd.countsB ++ tombF key m :: l2.filter Fnd.countsB, f.countsB = true := by
    intro f hff
    rcases List.mem_append.1 hff with q | q
    · exact hc1 f q
    · rcases List.mem_cons.1 q with rfl | q
      · exact ht
      · exact hc2 f q
  generalize l1.filter Fnd.countsB = a at *
  generalize l2.filter Fnd.countsB = b at *
  have helig : ∀ c ∈ copiesOf (a ++ b), elig (tombsOf (a ++ tombF key m :: b)) c = (elig (tombsOf (a ++ b)) c && decide (c.1.1 ≠ key)) := by
    intro c hc
    have hh := ((mem_copies _ hall c).1 hc).1
    simp only [hasSh, List.any_eq_true, Bool.and_eq_true, decide_eq_true_eq] at hh
    obtain ⟨f, hfm, _, e⟩ := hh
    have hg : c.1.2.1 ≤ m := by rw [hm, ← e]; exact hsp.1 f hfm
    unfold elig
    rw [dead_char _ hall', dead_char _ hall, toldB_mid]
    by_cases hk : key = c.1.1
    · have hk' : ¬ (c.1.1 ≠ key) := fun x => x hk.symm
      simp [hk, hg]
    · have hk' : c.1.1 ≠ key := fun x => hk x.symm
      simp [hk, hk']
  have hmem : ∀ c, c ∈ copiesOf (a ++ b) ↔ c ∈ copiesOf (a ++ tombF key m :: b) := fun c => by
    rw [mem_copies _ hall, mem_copies _ hall', hasSh_mid, rowOf_mid]
  have hX : IsBest (tombsOf (a ++ tombF key m :: b)) (copiesOf (a ++ tombF key m :: b)) ((es.map (fun p => cpy p.2)).filter (fun c => decide (c.1.1 ≠ key))) := by
    refine ⟨hb.sorted.filter _, fun e he => ?_, fun q hq hqe => ?_⟩
    · obtain ⟨he1, he2⟩ := List.mem_filter.1 he
      obtain ⟨k1, k2, k3⟩ := hb.has e he1
      refine ⟨(hmem e).1 k1, by rw [helig e k1, k2, he2]; rfl, fun q hq hqe hk => ?_⟩
      have hq' := (hmem q).2 hq
      rw [helig q hq', Bool.and_eq_true] at hqe
      exact k3 q hq' hqe.1 hk
    · have hq' := (hmem q).2 hq
      rw [helig q hq', Bool.and_eq_true] at hqe
      obtain ⟨e, he, hk⟩ := hb.all q hq' hqe.1
      exact ⟨e, List.mem_filter.2 ⟨he, by rw [hk]; exact hqe.2⟩, hk⟩
  refine ⟨isBest_unique hb' hX (fun _ => Iff.rfl) (fun _ _ => rfl), ?_⟩
  obtain ⟨p1, p2, p3⟩ := most_spec (a ++ tombF key m :: b)
  rw [← hm'] at p1 p2 p3
  have hge : m ≤ m' := p1 (tombF key m) (by simp)
  have hle : ∀ f ∈ a ++ tombF key m :: b, f.r.gen ≤ m := fun f hff => by
    rcases List.mem_append.1 hff with q | q
    · rw [hm]; exact hsp.1 f (List.mem_append_left _ q)
    · rcases List.mem_cons.1 q with rfl | q
      · exact Int.le_refl _
      · rw [hm]; exact hsp.1 f (List.mem_append_right _ q)
  rcases p3 with e | ⟨f, hff, e⟩
  · omega
  · have := hle f hff; omega

end Go.Proofs.Ytbcefiefeobmcaa
