/-
  Plain law: the order of copies and of keys.
-/
import Derived.Test.YtbcefiefeobmcaaBet
namespace Go.Proofs.Ytbcefiefeobmcaa
open Go.RowKit Go.Shelf Go.Maps

theorem bytesLess_iff : ∀ (x y : List UInt8), Op.bytesLess x y = decide (x < y)
  | [], [] => by simp [Op.bytesLess]
  | _ :: _, [] => by simp [Op.bytesLess]
  | [], _ :: _ => by simp [Op.bytesLess]
  | a :: x, b :: y => by
    rw [Op.bytesLess, bytesLess_iff x y]
    simp only [List.cons_lt_cons_iff]
    by_cases h1 : a < b <;> by_cases h2 : a = b <;> by_cases h3 : x < y <;> simp [h1, h2, h3]

theorem toList_inj {a b : ByteArray} (h : a.toList = b.toList) : a = b := by
  rw [ByteArray.toList_eq, ByteArray.toList_eq] at h
  obtain ⟨⟨a⟩⟩ := a
  obtain ⟨⟨b⟩⟩ := b
  simp at h
  rw [h]

/-- The order of strings. -/
def sLt (x y : ByteArray) : Prop := x.toList < y.toList
instance (x y : ByteArray) : Decidable (sLt x y) := inferInstanceAs (Decidable (x.toList < y.toList))
theorem sLt_irrefl (x : ByteArray) : ¬ sLt x x := List.lt_irrefl _
theorem sLt_trans {x y z : ByteArray} (h : sLt x y) (k : sLt y z) : sLt x z := List.lt_trans h k
theorem sLt_tri (x y : ByteArray) : sLt x y ∨ x = y ∨ sLt y x := by
  by_cases h : sLt x y
  · exact .inl h
  · by_cases h' : sLt y x
    · exact .inr (.inr h')
    · exact .inr (.inl (toList_inj (List.le_antisymm (List.not_lt.1 h') (List.not_lt.1 h))))
theorem sLt_asymm {x y : ByteArray} (h : sLt x y) : ¬ sLt y x := fun k => sLt_irrefl _ (sLt_trans h k)
theorem sLt_ne {x y : ByteArray} (h : sLt x y) : x ≠ y := fun e => by subst e; exact sLt_irrefl _ h

theorem cmpI_neg {x y : Int} : cmpI x y < 0 ↔ x < y := by
  unfold cmpI
  by_cases h1 : x < y
  · rw [if_pos h1]; omega
  · rw [if_neg h1]
    by_cases h2 : y < x
    · rw [if_pos h2]; omega
    · rw [if_neg h2]; omega
theorem cmpI_zero {x y : Int} : cmpI x y = 0 ↔ x = y := by
  unfold cmpI
  by_cases h1 : x < y
  · rw [if_pos h1]; omega
  · rw [if_neg h1]
    by_cases h2 : y < x
    · rw [if_pos h2]; omega
    · rw [if_neg h2]; omega
theorem cmpS_neg {x y : ByteArray} : cmpS x y < 0 ↔ sLt x y := by
  unfold cmpS
  rw [bytesLess_iff]
  unfold sLt
  by_cases h : x.toList < y.toList
  · simp [h]
  · simp only [h, decide_false, Bool.false_eq_true, if_false]
    split <;> simp
theorem cmpS_zero {x y : ByteArray} : cmpS x y = 0 ↔ x = y := by
  unfold cmpS
  rw [bytesLess_iff]
  by_cases h : x.toList < y.toList
  · simp [h]
    exact sLt_ne h
  · simp only [h, decide_false, Bool.false_eq_true, if_false]
    by_cases e : x = y
    · subst e; simp
    · have : x.toList ≠ y.toList := fun h => e (toList_inj h)
      simp [this, e]

theorem betterB_iff {la ga za : Int} {sa : ByteArray} {lb gb zb : Int} {sb : ByteArray} :
    betterB la ga za sa lb gb zb sb = true ↔ lb < la ∨ (lb = la ∧ (gb < ga ∨ (gb = ga ∧ (za < zb ∨ (za = zb ∧ sLt sa sb))))) := by
  rw [betterB, decide_eq_true_iff]
  simp only [orL]
  have h1 := @cmpI_neg lb la
  have h2 := @cmpI_neg gb ga
  have h3 := @cmpI_neg za zb
  have h4 := @cmpS_neg sa sb
  have e1 := @cmpI_zero lb la
  have e2 := @cmpI_zero gb ga
  have e3 := @cmpI_zero za zb
  have e4 := @cmpS_zero sa sb
  by_cases c1 : cmpI lb la = 0
  · rw [if_pos c1]
    have := e1.1 c1
    by_cases c2 : cmpI gb ga = 0
    · rw [if_pos c2]
      have := e2.1 c2
      by_cases c3 : cmpI za zb = 0
      · rw [if_pos c3]
        have := e3.1 c3
        by_cases c4 : cmpS sa sb = 0
        · rw [if_pos c4]
          have := e4.1 c4
          subst this
          simp [sLt_irrefl]
          omega
        · rw [if_neg c4, h4]
          constructor
          · intro h; exact .inr ⟨by omega, .inr ⟨by omega, .inr ⟨by omega, h⟩⟩⟩
          · rintro (h | ⟨_, h | ⟨_, h | ⟨_, h⟩⟩⟩)
            · omega
            · omega
            · omega
            · exact h
      · rw [if_neg c3, h3]
        have : za ≠ zb := fun e => c3 (e3.2 e)
        constructor
        · intro h; exact .inr ⟨by omega, .inr ⟨by omega, .inl h⟩⟩
        · rintro (h | ⟨_, h | ⟨_, h | ⟨h, _⟩⟩⟩)
          · omega
          · omega
          · exact h
          · exact absurd h this
    · rw [if_neg c2, h2]
      have : gb ≠ ga := fun e => c2 (e2.2 e)
      constructor
      · intro h; exact .inr ⟨by omega, .inl h⟩
      · rintro (h | ⟨_, h | ⟨h, _⟩⟩)
        · omega
        · exact h
        · exact absurd h this
  · rw [if_neg c1, h1]
    have : lb ≠ la := fun e => c1 (e1.2 e)
    constructor
    · intro h; exact .inl h
    · rintro (h | ⟨h, _⟩)
      · exact h
      · exact absurd h this

/-- A copy: its blob, its places. -/
abbrev Cpy := Blob × List (Int × Int)
def beats (c q : Cpy) : Bool := betterB (poorestOf c.2) c.1.2.1 c.1.2.2.2.1 c.1.2.2.2.2 (poorestOf q.2) q.1.2.1 q.1.2.2.2.1 q.1.2.2.2.2

theorem beats_irrefl (c : Cpy) : beats c c = false := by
  rw [Bool.eq_false_iff, ne_eq, beats, betterB_iff]
  rintro (h | ⟨_, h | ⟨_, h | ⟨_, h⟩⟩⟩)
  · omega
  · omega
  · omega
  · exact sLt_irrefl _ h
theorem beats_trans {a b c : Cpy} (h : beats a b = true) (k : beats b c = true) : beats a c = true := by
  rw [beats, betterB_iff] at *
  rcases h with h | ⟨h0, h | ⟨h1, h | ⟨h2, h⟩⟩⟩ <;> rcases k with k | ⟨k0, k | ⟨k1, k | ⟨k2, k⟩⟩⟩
  all_goals first | exact .inl (by omega) | exact .inr ⟨by omega, .inl (by omega)⟩ | exact .inr ⟨by omega, .inr ⟨by omega, .inl (by omega)⟩⟩ | exact .inr ⟨by omega, .inr ⟨by omega, .inr ⟨by omega, sLt_trans h k⟩⟩⟩
/-- Two copies of a key of which none beats the other are of one blob. -/
theorem beats_tri {a b : Cpy} (hk : a.1.1 = b.1.1) (ha : a.1.2.2.1 = groupsOf a.1.2.2.2.1) (hb : b.1.2.2.1 = groupsOf b.1.2.2.2.1) (h : beats a b = false) (k : beats b a = false) : a.1 = b.1 := by
  rw [Bool.eq_false_iff, ne_eq, beats, betterB_iff] at *
  obtain ⟨⟨ka, ga, gra, za, sa⟩, pa⟩ := a
  obtain ⟨⟨kb, gb, grb, zb, sb⟩, pb⟩ := b
  dsimp only at *
  have e1 : poorestOf pa = poorestOf pb := by
    rcases Int.lt_trichotomy (poorestOf pa) (poorestOf pb) with t | t | t
    · exact absurd (.inl t) k
    · exact t
    · exact absurd (.inl t) h
  have e2 : ga = gb := by
    rcases Int.lt_trichotomy ga gb with t | t | t
    · exact absurd (.inr ⟨e1, .inl t⟩) k
    · exact t
    · exact absurd (.inr ⟨e1.symm, .inl t⟩) h
  have e3 : za = zb := by
    rcases Int.lt_trichotomy za zb with t | t | t
    · exact absurd (.inr ⟨e1.symm, .inr ⟨e2.symm, .inl t⟩⟩) h
    · exact t
    · exact absurd (.inr ⟨e1, .inr ⟨e2, .inl t⟩⟩) k
  have e4 : sa = sb := by
    rcases sLt_tri sa sb with t | t | t
    · exact absurd (.inr ⟨e1.symm, .inr ⟨e2.symm, .inr ⟨e3, t⟩⟩⟩) h
    · exact t
    · exact absurd (.inr ⟨e1, .inr ⟨e2, .inr ⟨e3.symm, t⟩⟩⟩) k
  rw [hk, e2, e3, e4, ha, hb, e3]

end Go.Proofs.Ytbcefiefeobmcaa
