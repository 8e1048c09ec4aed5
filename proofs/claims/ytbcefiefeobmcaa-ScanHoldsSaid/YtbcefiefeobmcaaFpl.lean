/-
  ScanFew, plain: a copy that lacks shards.
-/
import Derived.Test.YtbcefiefeobmcaaCpl
namespace Go.Proofs.Ytbcefiefeobmcaa
open Go.RowKit Go.Shelf Go.Maps

theorem leastOf_ge {ps : List (Int × Int)} {a : Int} : ∀ (pre : List Nat) (b : Int), a ≤ pre.foldl (fun x k => min x (cntTo ps k 10 : Int)) b ↔ a ≤ b ∧ ∀ k ∈ pre, a ≤ (cntTo ps k 10 : Int)
  | [], b => by simp
  | k :: r, b => by
    rw [List.foldl_cons, leastOf_ge r]
    simp only [List.mem_cons, forall_eq_or_imp]
    constructor
    · rintro ⟨h1, h2⟩; exact ⟨by omega, by omega, h2⟩
    · rintro ⟨h1, h2, h3⟩; exact ⟨by omega, h3⟩

section
variable (gone : Nat → Nat → Bool) (size : Int)

def slotP (s : Nat) : Int × Int := if gone (s / 10) (s % 10) then nowhere else (((s % 10 : Nat) : Int), 5 + ((s / 10 : Nat) : Int))
def rowG : List (Int × Int) := (List.range ((groupsOf size).toNat * 10)).map (slotP gone)
/-- How many of the first i are gone, of a group. -/
def lostTo (i g : Nat) : Nat := ((List.range i).filter (fun j => decide (j / 10 = g) && gone (j / 10) (j % 10))).length
def mostTo : Nat → Nat
  | 0 => 0
  | i + 1 => if gone (i / 10) (i % 10) then (if mostTo i < lostTo gone (i + 1) (i / 10) then lostTo gone (i + 1) (i / 10) else mostTo i) else mostTo i

theorem lostTo_succ (i g : Nat) : lostTo gone (i + 1) g = lostTo gone i g + (if i / 10 = g ∧ gone (i / 10) (i % 10) = true then 1 else 0) := by
  unfold lostTo
  rw [List.range_succ, List.filter_append, List.length_append]
  congr 1
  by_cases h : i / 10 = g ∧ gone (i / 10) (i % 10) = true
  · rw [if_pos h, List.filter_cons_of_pos (by simp only [Bool.and_eq_true, decide_eq_true_eq]; exact h), List.filter_nil]; rfl
  · rw [if_neg h, List.filter_cons_of_neg (by simpa using h), List.filter_nil]; rfl

theorem lostTo_le (i g : Nat) : lostTo gone i g ≤ i := by
  unfold lostTo
  exact Nat.le_trans (List.length_filter_le _ _) (by simp)

theorem mostTo_spec : ∀ i, (∀ g, lostTo gone i g ≤ mostTo gone i) ∧ (mostTo gone i = 0 ∨ ∃ g, lostTo gone i g = mostTo gone i)
  | 0 => ⟨fun g => by simp [lostTo], .inl rfl⟩
  | i + 1 => by
    obtain ⟨h1, h2⟩ := mostTo_spec i
    unfold mostTo
    cases hg : gone (i / 10) (i % 10) with
    | false =>
      rw [if_neg (by simp)]
      have e : ∀ g, lostTo gone (i + 1) g = lostTo gone i g := fun g => by rw [lostTo_succ, if_neg (by simp [hg])]; rfl
      exact ⟨fun g => by rw [e]; exact h1 g, h2.imp id (fun ⟨g, h⟩ => ⟨g, by rw [e]; exact h⟩)⟩
    | true =>
      rw [if_pos rfl]
      have e : ∀ g, g ≠ i / 10 → lostTo gone (i + 1) g = lostTo gone i g := fun g hne => by rw [lostTo_succ, if_neg (fun h => hne h.1.symm)]; rfl
      have hle : lostTo gone i (i / 10) ≤ lostTo gone (i + 1) (i / 10) := by rw [lostTo_succ]; omega
      by_cases hm : mostTo gone i < lostTo gone (i + 1) (i / 10)
      · rw [if_pos hm]
        refine ⟨fun g => ?_, .inr ⟨_, rfl⟩⟩
        by_cases hgi : g = i / 10
        · rw [hgi]; omega
        · rw [e g hgi]; have := h1 g; omega
      · rw [if_neg hm]
        refine ⟨fun g => ?_, ?_⟩
        · by_cases hgi : g = i / 10
          · rw [hgi]; omega
          · rw [e g hgi]; exact h1 g
        · rcases h2 with h2 | ⟨g, h2⟩
          · exact .inl h2
          · by_cases hgi : g = i / 10
            · subst hgi
              exact .inr ⟨i / 10, by omega⟩
            · exact .inr ⟨g, by rw [e g hgi]; exact h2⟩

theorem lostTo_block (g m : Nat) (hm : m ≤ 10) : ∀ k, lostTo gone (k * 10) g = if g < k then ((List.range 10).filter (fun i => gone g i)).length else 0
  | 0 => by simp [lostTo]
  | k + 1 => by
    have key : ∀ j, j ≤ 10 → lostTo gone (k * 10 + j) g = lostTo gone (k * 10) g + (if g = k then ((List.range j).filter (fun i => gone g i)).length else 0) := by
      intro j
      induction j with
      | zero => intro _; simp
      | succ j ih =>
        intro hj
        have h1 : (k * 10 + j) / 10 = k := by omega
        have h2 : (k * 10 + j) % 10 = j := by omega
        rw [show k * 10 + (j + 1) = (k * 10 + j) + 1 by omega, lostTo_succ, ih (by omega), h1, h2, List.range_succ, List.filter_append, List.length_append]
        by_cases hgk : g = k
        · subst hgk
          cases hgo : gone g j <;> simp [hgo, Nat.add_assoc]
        · have : ¬ k = g := fun e => hgk e.symm
          simp [hgk, this]
    rw [show (k + 1) * 10 = k * 10 + 10 by omega, key 10 (by omega), lostTo_block g m hm k]
    by_cases h1 : g < k
    · rw [if_pos h1, if_neg (by omega), if_pos (by omega)]; rfl
    · rw [if_neg h1]
      by_cases h2 : g = k
      · rw [if_pos h2, if_pos (by omega)]; omega
      · rw [if_neg h2, if_neg (by omega)]

theorem rowG_length : (rowG gone size).length = (groupsOf size).toNat * 10 := by simp [rowG]
theorem rowG_get (s : Nat) (h : s < (groupsOf size).toNat * 10) : (rowG gone size)[s]? = some (slotP gone s) := by simp [rowG, h]

theorem slotP_now (g i : Nat) (hg : g ≤ 4) (hi : i < 10) : (slotP gone (g * 10 + i) ≠ nowhere) ↔ gone g i = false := by
  unfold slotP
  rw [show (g * 10 + i) / 10 = g by omega, show (g * 10 + i) % 10 = i by omega]
  cases hgo : gone g i with
  | true => simp
  | false =>
    simp only [Bool.false_eq_true, if_false, ne_eq, iff_true]
    intro e
    have := congrArg Prod.snd e
    simp [nowhere] at this
    omega

theorem cnt_row (g : Nat) (hg : g < (groupsOf size).toNat) (h4 : (groupsOf size).toNat ≤ 4) : ∀ j, j ≤ 10 → cntTo (rowG gone size) g j + ((List.range j).filter (fun i => gone g i)).length = j
  | 0, _ => by simp [cntTo]
  | j + 1, hj => by
    have hs : g * 10 + j < (groupsOf size).toNat * 10 := by omega
    rw [cntTo_succ _ _ _ (rowG_get gone size _ hs), List.range_succ, List.filter_append, List.length_append]
    have ih := cnt_row g hg h4 j (by omega)
    have hn := slotP_now gone g j (by omega) (by omega)
    cases hgo : gone g j with
    | true =>
      have : slotP gone (g * 10 + j) = nowhere := Decidable.byContradiction fun h => by have := hn.1 h; rw [hgo] at this; cases this
      rw [if_pos this]
      simp [hgo]; omega
    | false =>
      rw [if_neg (hn.2 hgo)]
      simp [hgo]; omega

theorem row_poor (h4 : (groupsOf size).toNat ≤ 4) : 8 ≤ poorestOf (rowG gone size) ↔ mostTo gone ((groupsOf size).toNat * 10) ≤ 2 := by
  have hl : (rowG gone size).length / 10 = (groupsOf size).toNat := by rw [rowG_length]; omega
  unfold poorestOf leastOf
  rw [leastOf_ge, hl]
  obtain ⟨p1, p2⟩ := mostTo_spec gone ((groupsOf size).toNat * 10)
  constructor
  · rintro ⟨_, h⟩
    rcases p2 with p2 | ⟨g, p2⟩
    · omega
    · rw [← p2, lostTo_block gone g 0 (by omega)]
      by_cases hg : g < (groupsOf size).toNat
      · have := cnt_row gone size g hg h4 10 (by omega)
        have := h g (by simpa using hg)
        rw [if_pos hg]; omega
      · rw [if_neg hg]; omega
  · intro h
    refine ⟨by omega, fun k hk => ?_⟩
    have hk : k < (groupsOf size).toNat := by simpa using hk
    have := cnt_row gone size k hk h4 10 (by omega)
    have := p1 k
    rw [lostTo_block gone k 0 (by omega), if_pos hk] at this
    omega

def goneF (f : Fnd) : Bool := gone f.r.group.toNat f.r.index.toNat
def hereF (l : List Fnd) : List Fnd := l.filter fun f => !goneF gone f

theorem few_plain (h0 : 0 ≤ size) (h1 : size ≤ 512) {es : List Pr} {m : Int} (h : Answer (hereF gone (copyL keyK 7 size 5)) es m) :
    (2 < mostTo gone ((groupsOf size).toNat * 10) → es = []) ∧ (mostTo gone ((groupsOf size).toNat * 10) ≤ 2 → ∃ p, es = [p] ∧ p.2.1.1 = keyK ∧ p.2.1.2.1 = 7 ∧ p.2.2.2 = rowG gone size) := by
  obtain ⟨hb, _⟩ := h
  have hbd := groupsOf_bd h0 h1
  have hmem : ∀ f, f ∈ hereF gone (copyL keyK 7 size 5) ↔ ∃ g i : Nat, g < (groupsOf size).toNat ∧ i < 10 ∧ gone g i = false ∧ f = shardF keyK 7 (groupsOf size) size 5 g i := by
    intro f
    unfold hereF
    rw [List.mem_filter, mem_copyL]
    have hgf : ∀ g i : Nat, goneF gone (shardF keyK 7 (groupsOf size) size 5 g i) = gone g i := fun g i => by
      show gone (g : Int).toNat (i : Int).toNat = _
      rw [Int.toNat_natCast, Int.toNat_natCast]
    constructor
    · rintro ⟨⟨g, i, hg, hi, rfl⟩, hgo⟩
      rw [hgf] at hgo
      exact ⟨g, i, hg, hi, by simpa using hgo, rfl⟩
    · rintro ⟨g, i, hg, hi, hgo, rfl⟩
      exact ⟨⟨g, i, hg, hi, rfl⟩, by rw [hgf, hgo]; rfl⟩
  have hcs : ∀ f ∈ hereF gone (copyL keyK 7 size 5), f.countsB = true := fun f hf => by
    obtain ⟨g, i, hg, hi, _, rfl⟩ := (hmem f).1 hf
    exact shardF_counts (by decide) (by decide) (by omega) (by omega) h0 h1 (by omega) (by omega) hg hi
  rw [filter_all hcs] at hb
  generalize hereF gone (copyL keyK 7 size 5) = L at *
  have htold : ∀ k g, toldB L k g = false := fun k g => by
    unfold toldB
    rw [List.any_eq_false]
    intro f hf
    obtain ⟨g, i, _, _, _, rfl⟩ := (hmem f).1 hf
    simp [shardF]
  have hrow : rowOf L (blobK keyK 7 size) = rowG gone size := by
    have hlen : (groupsOf size * 10).toNat = (groupsOf size).toNat * 10 := by omega
    show (List.range (groupsOf size * 10).toNat).map _ = _
    rw [hlen]
    refine List.map_congr_left fun s hs => ?_
    have hs : s < (groupsOf size).toNat * 10 := by simpa using hs
    unfold slotP
    cases hgo : gone (s / 10) (s % 10) with
    | true =>
      rw [if_pos rfl]
      refine placeAt_no fun f hf => ?_
      obtain ⟨g, i, hg, hi, hgo', rfl⟩ := (hmem f).1 hf
      rw [isSh_shardF]
      by_cases he : g * 10 + i = s
      · subst he
        rw [show (g * 10 + i) / 10 = g by omega, show (g * 10 + i) % 10 = i by omega, hgo'] at hgo
        cases hgo
      · simp [he]
    | false =>
      rw [if_neg (by simp)]
      refine placeAt_uniq ⟨shardF keyK 7 (groupsOf size) size 5 (s / 10) (s % 10), (hmem _).2 ⟨s / 10, s % 10, by omega, by omega, hgo, rfl⟩, ?_⟩ fun f hf hi => ?_
      · rw [isSh_shardF]
        simp only [Bool.and_eq_true, decide_eq_true_eq]
        exact ⟨rfl, by omega⟩
      · obtain ⟨g, i, hg, hi', _, rfl⟩ := (hmem f).1 hf
        rw [isSh_shardF] at hi
        simp only [Bool.and_eq_true, decide_eq_true_eq] at hi
        obtain ⟨_, rfl⟩ := hi
        rw [show (g * 10 + i) / 10 = g by omega, show (g * 10 + i) % 10 = i by omega]
        rfl
  have hC : ∀ c, c ∈ copiesOf L → c = (blobK keyK 7 size, rowG gone size) := by
    intro c hc
    rw [mem_copies L hcs, hasSh_iff] at hc
    obtain ⟨⟨f, hf, _, e⟩, e2⟩ := hc
    obtain ⟨cb, cr⟩ := c
    dsimp only at e e2
    obtain ⟨g, i, _, _, _, rfl⟩ := (hmem f).1 hf
    subst e
    have : (shardF keyK 7 (groupsOf size) size 5 g i).r.blob = blobK keyK 7 size := rfl
    rw [this] at e2 ⊢
    rw [e2, hrow]
  have hel : elig (tombsOf L) (blobK keyK 7 size, rowG gone size) = decide (8 ≤ poorestOf (rowG gone size)) := by
    unfold elig
    rw [dead_char L hcs, htold]
    simp
  have hpoor := row_poor gone size (by omega)
  refine ⟨fun h2 => ?_, fun h2 => ?_⟩
  · have := isBest_nil hb (fun c hc => by rw [hC c hc, hel]; simp; omega)
    cases es with
    | nil => rfl
    | cons a r => cases this
  · have hex : (blobK keyK 7 size, rowG gone size) ∈ copiesOf L := by
      have hm : ∃ i, i < 10 ∧ gone 0 i = false := by
        apply Classical.byContradiction
        intro hn
        have hall : ∀ i, i < 10 → gone 0 i = true := fun i hi => by
          cases hgi : gone 0 i with
          | true => rfl
          | false => exact absurd ⟨i, hi, hgi⟩ hn
        have := (mostTo_spec gone ((groupsOf size).toNat * 10)).1 0
        rw [lostTo_block gone 0 0 (by omega), if_pos (by omega), List.filter_eq_self.2 (fun i hi => hall i (by simpa using hi))] at this
        simp at this
        omega
      obtain ⟨i, hi, hgi⟩ := hm
      rw [mem_copies L hcs, hasSh_iff]
      exact ⟨⟨_, (hmem _).2 ⟨0, i, by omega, hi, hgi, rfl⟩, rfl, rfl⟩, hrow.symm⟩
    have hX : IsBest (tombsOf L) (copiesOf L) [(blobK keyK 7 size, rowG gone size)] := by
      refine ⟨by simp, fun e hm => ?_, fun q hq _ => ⟨(blobK keyK 7 size, rowG gone size), by simp, ?_⟩⟩
      · obtain rfl : e = (blobK keyK 7 size, rowG gone size) := by simpa using hm
        exact ⟨hex, by rw [hel]; simp; omega, fun q hq _ _ => .inl (hC q hq)⟩
      · rw [hC q hq]
    have := isBest_unique hb hX (fun _ => Iff.rfl) (fun _ _ => rfl)
    cases es with
    | nil => cases this
    | cons p r =>
      simp only [List.map_cons, List.cons.injEq, List.map_eq_nil_iff] at this
      obtain ⟨e, rfl⟩ := this
      have e1 : p.2.1 = blobK keyK 7 size := congrArg Prod.fst e
      have e2 : p.2.2.2 = rowG gone size := congrArg Prod.snd e
      exact ⟨p, rfl, by rw [e1]; rfl, by rw [e1]; rfl, e2⟩
end

end Go.Proofs.Ytbcefiefeobmcaa
