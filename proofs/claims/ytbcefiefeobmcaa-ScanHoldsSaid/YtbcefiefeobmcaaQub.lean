/-
  A region that draws its order: its first operations taken one by one, the rest walked once, in the text's order, in worlds that have but grown.
-/
import Derived.Test.YtbcefiefeobmcaaHeld
import Derived.Lib.QuietBelowIn
import Derived.Sort.QuietIn
namespace Go.Proofs.Ytbcefiefeobmcaa
open Go.Sort Go.RowKit

section
variable {F : Fence} {n : Nat} {P : Program} {ops : Array Oper} {Q : Exit → Act → World → Prop} {md : Region.Mode} {S C : World → Prop}

theorem wpAnyInH_of_quiet {Q0 : Act → Prop} (hro : F.round = none) (hQ : ∀ a w, C w → Q0 a → Q .normal a w) (hCS : ∀ w, C w → S w) : ∀ (fuel : Nat) (listed : Array Bool) (a : Act) (w : World), C w →
    wpAnyQIn F n P md ops C Q0 fuel listed a → wpAnyInH F n P md ops Q S fuel listed a w
  | 0, _, _, _, hw, h => ⟨h.1, hQ _ _ hw h.2⟩
  | fuel + 1, _, _, _, hw, h => ⟨fun h0 => hQ _ _ hw (h.1 h0), fun i hi => wpOpIn_of_qOpIn hro hw (fun a' w' hw' h' => ⟨hCS _ hw', wpAnyInH_of_quiet hro hQ hCS fuel _ a' w' hw' h'⟩) (h.2 i hi)⟩

/-- From operation k on, in the text's order. -/
theorem wpAnyInH_rest {l : List Oper} (k : Nat) {g : Nat} {listed : Array Bool} {a : Act} {w : World} (hro : F.round = none) (hs : Region.noSelect ops = true) (hl : ops.toList.drop k = l) (hg : l.length = g) (hB : Region.lexFrom md ops l.length k listed = true)
    (hCS : ∀ w', (∃ p : Regrown, w' = grow (redrawn w p.d) p.os) → S w')
    (h : wpQuietIn F n P ops (fun w' => ∃ p : Regrown, w' = grow (redrawn w p.d) p.os) (fun a' => ∀ w', (∃ p : Regrown, w' = grow (redrawn w p.d) p.os) → Q .normal a' w') l a) : wpAnyInH F n P md ops Q S g listed a w := hg ▸
  wpAnyInH_of_quiet (C := fun w' => ∃ p : Regrown, w' = grow (redrawn w p.d) p.os) hro (fun _ w' hw' h => h w' hw') hCS _ _ _ _ ⟨⟨w.drawn, #[]⟩, by rw [grow_empty]; rfl⟩
    (wpAnyQIn_lex hs l k listed a (fun j => by rw [← hl, List.getElem?_drop]; simp) hB h)

/-- Two places made in whatever order; then one and the same rest. -/
theorem wpAnyInH_via2 {fuel : Nat} {listed : Array Bool} {a0 : Act} {w0 : World} (s1 s2 : Nat) (Fx : Nat → Nat → World → Prop) (L : Array Bool) (g : Nat)
    (tail : ∀ b1 b2 w, Fx b1 b2 w → wpAnyInH F n P md ops Q S g L ((a0.put (some s1) (.pointer (some ⟨b1, 0, none⟩))).put (some s2) (.pointer (some ⟨b2, 0, none⟩))) w)
    (main : (∀ b1 b2 w, Fx b1 b2 w → wpAnyInH F n P md ops Q S g L ((a0.put (some s1) (.pointer (some ⟨b1, 0, none⟩))).put (some s2) (.pointer (some ⟨b2, 0, none⟩))) w) → wpAnyInH F n P md ops Q S fuel listed a0 w0) :
    wpAnyInH F n P md ops Q S fuel listed a0 w0 := main tail
end

end Go.Proofs.Ytbcefiefeobmcaa
