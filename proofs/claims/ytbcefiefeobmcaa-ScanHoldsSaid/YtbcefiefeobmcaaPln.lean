/-
  Plain law: what copiesOf, tombsOf, mostOf come to; Best's answer is one.
-/
import Derived.Test.YtbcefiefeobmcaaBst2
namespace Go.Proofs.Ytbcefiefeobmcaa
open Go.RowKit Go.Shelf Go.Maps

def isSh (b : Blob) (s : Nat) (f : Fnd) : Bool := decide (f.r.kind = 2) && decide (f.r.blob = b) && decide (f.r.slot = s)
def placeAt (l : List Fnd) (b : Blob) (s : Nat) : Int × Int := match l.find? (isSh b s) with
  | some f => (f.ac, f.ap)
  | none => nowhere
/-- Where the shards of a blob were found first. -/
def rowOf (l : List Fnd) (b : Blob) : List (Int × Int) := (List.range (b.2.2.1 * 10).toNat).map (placeAt l b)
def hasSh (l : List Fnd) (b : Blob) : Bool := l.any fun f => decide (f.r.kind = 2) && decide (f.r.blob = b)

theorem rowOf_length (l : List Fnd) (b : Blob) : (rowOf l b).length = (b.2.2.1 * 10).toNat := by simp [rowOf]
theorem rowOf_get (l : List Fnd) (b : Blob) (s : Nat) (h : s < (b.2.2.1 * 10).toNat) : (rowOf l b)[s]? = some (placeAt l b s) := by simp [rowOf, h]
theorem placeAt_snoc (l : List Fnd) (f : Fnd) (b : Blob) (s : Nat) : placeAt (l ++ [f]) b s = match l.find? (isSh b s) with
    | some g => (g.ac, g.ap)
    | none => if isSh b s f then (f.ac, f.ap) else nowhere := by
  unfold placeAt
  rw [List.find?_append]
  cases l.find? (isSh b s) with
  | some g => rfl
  | none =>
    cases hs : isSh b s f <;> simp [hs]
theorem hasSh_snoc (l : List Fnd) (f : Fnd) (b : Blob) : hasSh (l ++ [f]) b = (hasSh l b || (decide (f.r.kind = 2) && decide (f.r.blob = b))) := by simp [hasSh]

theorem rowOf_none {l : List Fnd} {b : Blob} (h : hasSh l b = false) : rowOf l b = List.replicate (b.2.2.1 * 10).toNat nowhere := by
  apply List.ext_getElem?
  intro s
  by_cases hs : s < (b.2.2.1 * 10).toNat
  · rw [rowOf_get _ _ _ hs, List.getElem?_replicate_of_lt hs]
    have : l.find? (isSh b s) = none := by
      rw [List.find?_eq_none]
      intro f hf hi
      simp only [isSh, Bool.and_eq_true, decide_eq_true_eq] at hi
      have : hasSh l b = true := by
        simp only [hasSh, List.any_eq_true, Bool.and_eq_true, decide_eq_true_eq]
        exact ⟨f, hf, hi.1⟩
      rw [h] at this
      cases this
    simp [placeAt, this]
  · rw [List.getElem?_eq_none (by rw [rowOf_length]; omega), List.getElem?_eq_none (by simp; omega)]

theorem placeB_ne {f : Fnd} (h : f.countsB = true) : (f.ac, f.ap) ≠ nowhere := by
  simp only [Fnd.countsB, Fnd.placeB, Bool.and_eq_true, decide_eq_true_eq] at h
  intro e
  have := congrArg Prod.snd e
  simp [nowhere] at this
  omega

theorem slot_lt {f : Fnd} (h : f.countsB = true) (hk : f.r.kind = 2) : f.r.slot < (f.r.groups * 10).toNat := by
  have ho := shardOk h hk
  have h1 := ho.group
  have h2 := ho.index
  have h3 := ho.groups
  unfold Rec.slot
  omega

theorem copies_step {pre : List Fnd} {m : List (Blob × List (Int × Int))} (hm : ∀ b, getL m b = if hasSh pre b then some (rowOf pre b) else none) {f : Fnd} (hpre : ∀ g ∈ pre, g.countsB = true) (hf : f.countsB = true) :
    ∀ b, getL (copyStep m f) b = if hasSh (pre ++ [f]) b then some (rowOf (pre ++ [f]) b) else none := by
  intro b
  unfold copyStep
  by_cases hk : f.r.kind = 2
  · rw [if_pos hk, getL_putL]
    by_cases hb : f.r.blob = b
    · subst hb
      rw [if_pos rfl, hasSh_snoc]
      have hD : (getL m f.r.blob).getD (List.replicate (f.r.groups * 10).toNat nowhere) = rowOf pre f.r.blob := by
        rw [hm]
        cases h : hasSh pre f.r.blob with
        | true => rfl
        | false => rw [rowOf_none h]; rfl
      rw [hD]
      simp only [hk, decide_true, Bool.and_self, Bool.or_true, if_true]
      congr 1
      have hs := slot_lt hf hk
      have hlen : (f.r.blob.2.2.1 * 10).toNat = (f.r.groups * 10).toNat := rfl
      have hget := rowOf_get pre f.r.blob f.r.slot (by rw [hlen]; exact hs)
      apply List.ext_getElem?
      intro s
      by_cases hlt : s < (f.r.blob.2.2.1 * 10).toNat
      · rw [rowOf_get _ _ _ hlt, placeAt_snoc]
        by_cases hss : f.r.slot = s
        · subst hss
          cases hfd : pre.find? (isSh f.r.blob f.r.slot) with
          | some g =>
            have hgc := hpre g (List.mem_of_find?_eq_some hfd)
            have hp : placeAt pre f.r.blob f.r.slot = (g.ac, g.ap) := by simp [placeAt, hfd]
            rw [hget, hp, if_neg (fun e => placeB_ne hgc (Option.some.inj e)), hget, hp]
          | none =>
            have hp : placeAt pre f.r.blob f.r.slot = nowhere := by simp [placeAt, hfd]
            rw [hget, hp, if_pos rfl, List.getElem?_set_self (by rw [rowOf_length]; exact hlt)]
            simp [isSh, hk]
        · have hi : isSh f.r.blob s f = false := by simp [isSh, hss]
          rw [hi]
          have h1 : (if (rowOf pre f.r.blob)[f.r.slot]? = some nowhere then (rowOf pre f.r.blob).set f.r.slot (f.ac, f.ap) else rowOf pre f.r.blob)[s]? = (rowOf pre f.r.blob)[s]? := by
            split
            · rw [List.getElem?_set_ne hss]
            · rfl
          rw [h1, rowOf_get _ _ _ hlt]
          simp only [placeAt]
          cases pre.find? (isSh f.r.blob s) <;> rfl
      · rw [List.getElem?_eq_none (by split <;> simp [rowOf_length] <;> omega), List.getElem?_eq_none (by rw [rowOf_length]; omega)]
    · rw [if_neg hb, hm, hasSh_snoc]
      simp only [hb, decide_false, Bool.and_false, Bool.or_false]
      have hr : rowOf (pre ++ [f]) b = rowOf pre b := by
        unfold rowOf
        apply List.map_congr_left
        intro s _
        rw [placeAt_snoc]
        have hi : isSh b s f = false := by simp [isSh, hb]
        rw [hi]
        simp only [placeAt]
        cases pre.find? (isSh b s) <;> rfl
      rw [hr]
  · rw [if_neg hk, hm, hasSh_snoc]
    simp only [hk, decide_false, Bool.false_and, Bool.or_false]
    have hr : rowOf (pre ++ [f]) b = rowOf pre b := by
      unfold rowOf
      apply List.map_congr_left
      intro s _
      rw [placeAt_snoc]
      have hi : isSh b s f = false := by simp [isSh, hk]
      rw [hi]
      simp only [placeAt]
      cases pre.find? (isSh b s) <;> rfl
    rw [hr]

theorem copies_char (l : List Fnd) (hl : ∀ f ∈ l, f.countsB = true) (b : Blob) : getL (copiesOf l) b = if hasSh l b then some (rowOf l b) else none := by
  suffices h : ∀ (l pre : List Fnd) (m : List (Blob × List (Int × Int))), (∀ f ∈ pre, f.countsB = true) → (∀ f ∈ l, f.countsB = true) → (∀ b, getL m b = if hasSh pre b then some (rowOf pre b) else none) → ∀ b, getL (l.foldl copyStep m) b = if hasSh (pre ++ l) b then some (rowOf (pre ++ l) b) else none from
    h l [] [] (by simp) hl (fun b => by simp [getL, hasSh]) b
  intro l
  induction l with
  | nil => intro pre m _ _ hm b; simpa using hm b
  | cons f r ih =>
    intro pre m hpre hl hm b
    have := ih (pre ++ [f]) (copyStep m f) (fun g hg => by
      rcases List.mem_append.1 hg with hg | hg
      · exact hpre g hg
      · obtain rfl : g = f := by simpa using hg
        exact hl g (by simp)) (fun g hg => hl g (List.mem_cons_of_mem _ hg)) (copies_step hm hpre (hl f (by simp))) b
    simpa using this

theorem putL_keys {α β : Type} [DecidableEq α] : ∀ {ms : List (α × β)} (k : α) (v : β), (ms.map (·.1)).Pairwise (· ≠ ·) → ((putL ms k v).map (·.1)).Pairwise (· ≠ ·)
  | [], _, _, _ => by simp [putL]
  | (a, x) :: r, k, v, h => by
    simp only [List.map_cons, List.pairwise_cons] at h
    simp only [putL]
    split
    · rename_i e
      subst e
      simp only [List.map_cons, List.pairwise_cons]
      exact h
    · rename_i e
      simp only [List.map_cons, List.pairwise_cons]
      refine ⟨fun y hy => ?_, putL_keys k v h.2⟩
      obtain ⟨p, hp, rfl⟩ := List.mem_map.1 hy
      rcases mem_putL hp with rfl | hp
      · exact e
      · exact h.1 _ (List.mem_map.2 ⟨p, hp, rfl⟩)

theorem copies_keys (l : List Fnd) : ((copiesOf l).map (·.1)).Pairwise (· ≠ ·) := by
  suffices h : ∀ (l : List Fnd) (m : List (Blob × List (Int × Int))), (m.map (·.1)).Pairwise (· ≠ ·) → ((l.foldl copyStep m).map (·.1)).Pairwise (· ≠ ·) from h l [] List.Pairwise.nil
  intro l
  induction l with
  | nil => intro m hm; exact hm
  | cons f r ih =>
    intro m hm
    refine ih (copyStep m f) ?_
    unfold copyStep
    split
    · exact putL_keys _ _ hm
    · exact hm

theorem mem_copies (l : List Fnd) (hl : ∀ f ∈ l, f.countsB = true) (c : Cpy) : c ∈ copiesOf l ↔ hasSh l c.1 = true ∧ c.2 = rowOf l c.1 := by
  have hc := copies_char l hl c.1
  constructor
  · intro h
    have h1 : getL (copiesOf l) c.1 = some c.2 := getL_of_mem (copies_keys l) h
    rw [h1] at hc
    cases hs : hasSh l c.1 with
    | true => rw [hs] at hc; exact ⟨rfl, Option.some.inj hc⟩
    | false => rw [hs] at hc; cases hc
  · rintro ⟨h1, h2⟩
    rw [h1, if_pos rfl, ← h2] at hc
    exact getL_some hc

/-! ### tombs -/
def toldB (l : List Fnd) (key : ByteArray) (gen : Int) : Bool := l.any fun f => decide (f.r.kind = 3) && decide (f.r.key = key) && decide (gen ≤ f.r.gen)

theorem gen_ok {f : Fnd} (h : f.countsB = true) : 0 ≤ f.r.gen ∧ f.r.gen ≤ 1099511627776 := by
  simp only [Fnd.countsB, Bool.and_eq_true] at h
  obtain ⟨_, h⟩ := h
  unfold Rec.goodB at h
  split at h
  · simp at h; omega
  · split at h
    · simp [withinB] at h; omega
    · split at h
      · simp [withinB] at h; omega
      · cases h

theorem dead_char (l : List Fnd) (hl : ∀ f ∈ l, f.countsB = true) (key : ByteArray) (gen : Int) : deadT (tombsOf l) key gen = toldB l key gen := by
  suffices h : ∀ (l pre : List Fnd) (m : List (ByteArray × Int)), (∀ f ∈ l, f.countsB = true) → (∀ key gen, deadO (getL m key) gen = toldB pre key gen) → ∀ key gen, deadO (getL (l.foldl tombStep m) key) gen = toldB (pre ++ l) key gen from
    h l [] [] hl (fun key gen => by simp [getL, deadO, toldB]) key gen
  intro l
  induction l with
  | nil => intro pre m _ hm key gen; simpa using hm key gen
  | cons f r ih =>
    intro pre m hl hm key gen
    have hfg := gen_ok (hl f (by simp))
    have := ih (pre ++ [f]) (tombStep m f) (fun g hg => hl g (List.mem_cons_of_mem _ hg)) (fun key gen => by
      have hs : toldB (pre ++ [f]) key gen = (toldB pre key gen || (decide (f.r.kind = 3) && decide (f.r.key = key) && decide (gen ≤ f.r.gen))) := by simp [toldB]
      rw [hs, ← hm key gen]
      unfold tombStep
      by_cases hk : f.r.kind = 3
      · rw [if_pos hk, getL_putL]
        by_cases hkey : f.r.key = key
        · subst hkey
          rw [if_pos rfl]
          simp only [hk, decide_true, Bool.true_and]
          cases getL m f.r.key with
          | none =>
            simp only [deadO, Option.getD, Bool.false_or, decide_eq_decide]
            split <;> omega
          | some t =>
            simp only [deadO, Option.getD]
            rw [Bool.eq_iff_iff]
            simp only [Bool.or_eq_true, decide_eq_true_eq]
            split <;> omega
        · rw [if_neg hkey]
          simp [hkey]
      · rw [if_neg hk]
        simp [hk]) key gen
    simpa using this

/-! ### the greatest generation -/
theorem most_spec (l : List Fnd) : (∀ f ∈ l, f.r.gen ≤ mostOf l) ∧ 0 ≤ mostOf l ∧ (mostOf l = 0 ∨ ∃ f ∈ l, f.r.gen = mostOf l) := by
  suffices h : ∀ (l pre : List Fnd) (m : Int), ((∀ f ∈ pre, f.r.gen ≤ m) ∧ 0 ≤ m ∧ (m = 0 ∨ ∃ f ∈ pre, f.r.gen = m)) → let m' := l.foldl (fun m f => if m < f.r.gen then f.r.gen else m) m; ((∀ f ∈ pre ++ l, f.r.gen ≤ m') ∧ 0 ≤ m' ∧ (m' = 0 ∨ ∃ f ∈ pre ++ l, f.r.gen = m')) from
    h l [] 0 ⟨by simp, by omega, .inl rfl⟩
  intro l
  induction l with
  | nil => intro pre m h; simpa using h
  | cons f r ih =>
    intro pre m ⟨h1, h2, h3⟩
    have := ih (pre ++ [f]) (if m < f.r.gen then f.r.gen else m) ⟨fun g hg => by
      rcases List.mem_append.1 hg with hg | hg
      · have := h1 g hg
        split <;> omega
      · obtain rfl : g = f := by simpa using hg
        split <;> omega, by split <;> omega, by
      by_cases hc : m < f.r.gen
      · rw [if_pos hc]; exact .inr ⟨f, by simp, rfl⟩
      · rw [if_neg hc]
        rcases h3 with h3 | ⟨g, hg, e⟩
        · exact .inl h3
        · exact .inr ⟨g, List.mem_append_left _ hg, e⟩⟩
    simpa using this
theorem most_congr {l l' : List Fnd} (h : ∀ f ∈ l, ∃ g ∈ l', f.r.gen ≤ g.r.gen) (h' : ∀ f ∈ l', ∃ g ∈ l, f.r.gen ≤ g.r.gen) : mostOf l = mostOf l' := by
  obtain ⟨a1, a2, a3⟩ := most_spec l
  obtain ⟨b1, b2, b3⟩ := most_spec l'
  apply Int.le_antisymm
  · rcases a3 with a3 | ⟨f, hf, e⟩
    · omega
    · obtain ⟨g, hg, h⟩ := h f hf
      have := b1 g hg
      omega
  · rcases b3 with b3 | ⟨f, hf, e⟩
    · omega
    · obtain ⟨g, hg, h⟩ := h' f hf
      have := a1 g hg
      omega

/-! ### one answer -/
theorem elig_congr {T T' : List (ByteArray × Int)} (hT : ∀ k g, deadT T k g = deadT T' k g) (c : Cpy) : elig T c = elig T' c := by unfold elig; rw [hT]

theorem sorted_ext : ∀ {es es' : List Cpy}, es.Pairwise (fun a b => sLt a.1.1 b.1.1) → es'.Pairwise (fun a b => sLt a.1.1 b.1.1) → (∀ e, e ∈ es ↔ e ∈ es') → es = es'
  | [], [], _, _, _ => rfl
  | [], a :: r, _, _, h => absurd ((h a).2 (by simp)) (by simp)
  | a :: r, [], _, _, h => absurd ((h a).1 (by simp)) (by simp)
  | a :: r, b :: s, h1, h2, h => by
    rw [List.pairwise_cons] at h1 h2
    have hab : a = b := by
      rcases List.mem_cons.1 ((h a).1 (by simp)) with e | e
      · exact e
      · rcases List.mem_cons.1 ((h b).2 (by simp)) with e' | e'
        · exact e'.symm
        · exact absurd (sLt_trans (h1.1 b e') (h2.1 a e)) (sLt_irrefl _)
    subst hab
    rw [sorted_ext h1.2 h2.2 (fun e => ?_)]
    constructor
    · intro he
      rcases List.mem_cons.1 ((h e).1 (List.mem_cons_of_mem _ he)) with e' | e'
      · subst e'; exact absurd (h1.1 _ he) (sLt_irrefl _)
      · exact e'
    · intro he
      rcases List.mem_cons.1 ((h e).2 (List.mem_cons_of_mem _ he)) with e' | e'
      · subst e'; exact absurd (h2.1 _ he) (sLt_irrefl _)
      · exact e'

theorem isBest_sub {T T' : List (ByteArray × Int)} {C C' es es' : List Cpy} (h : IsBest T C es) (h' : IsBest T' C' es') (hC : ∀ c, c ∈ C ↔ c ∈ C') (hT : ∀ k g, deadT T k g = deadT T' k g) : ∀ e ∈ es, e ∈ es' := by
  intro e he
  obtain ⟨h1, h2, h3⟩ := h.has e he
  obtain ⟨e', he', hk⟩ := h'.all e ((hC e).1 h1) (by rw [← elig_congr hT]; exact h2)
  obtain ⟨k1, k2, k3⟩ := h'.has e' he'
  rcases h3 e' ((hC e').2 k1) (by rw [elig_congr hT]; exact k2) hk with q | q
  · rw [← q]; exact he'
  · rcases k3 e ((hC e).1 h1) (by rw [← elig_congr hT]; exact h2) hk.symm with q' | q'
    · rw [q']; exact he'
    · have := beats_trans q q'
      rw [beats_irrefl] at this
      cases this

theorem isBest_unique {T T' : List (ByteArray × Int)} {C C' es es' : List Cpy} (h : IsBest T C es) (h' : IsBest T' C' es') (hC : ∀ c, c ∈ C ↔ c ∈ C') (hT : ∀ k g, deadT T k g = deadT T' k g) : es = es' :=
  sorted_ext h.sorted h'.sorted fun e => ⟨isBest_sub h h' hC hT e, isBest_sub h' h (fun c => (hC c).symm) (fun k g => (hT k g).symm) e⟩

end Go.Proofs.Ytbcefiefeobmcaa
