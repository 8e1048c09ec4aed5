/-
  ScanFew answers true at every input: a copy that lacks any two shards of each group is found, with nowhere for them; lacking a third makes it incomplete. No condition.
-/
import Derived.Test.YtbcefiefeobmcaaFwk
import Derived.Test.YtbcefiefeobmcaaRow
import Derived.ChangeSlices
namespace Go.Proofs.Ytbcefiefeobmcaa
open Go.ChangeShapes Go.WideShapes Go.ChangeAt Go.RowKit

theorem open_lack {H : Type} {enc : TypeId × Value → H} {W : World} {v : Value} {d : DataW H} {p : List MemPlace} (h : DataW.Trod enc Try.prog W 0 (fun _ => true) true 46 v d p) (hs : ∃ a len cap, v = .slice a len cap) :
    ∃ a len cap lk, v = .slice a len cap ∧ len ≤ 9223372036854775807 ∧ LackAt W.heap.size W v lk ∧ ∀ x ∈ lk, 0 ≤ x ∧ x ≤ 65535 := by
  obtain ⟨a0, len0, cap0, rfl⟩ := hs
  obtain ⟨fuel, h⟩ := h
  rcases Go.ChangeShapes.open_ints Try.underlying46 Try.underlying45 (by kernel_rfl) h with ⟨e, _⟩ | ⟨a, len, cap, zs, e, _, hl, hm, hz, _, hc, hwf⟩
  · simp [Value.cells] at e
    obtain ⟨rfl, rfl, rfl⟩ := e
    exact ⟨none, 0, 0, [], rfl, by omega, .inl ⟨rfl, none, 0, rfl⟩, by simp⟩
  · simp [Value.cells] at e
    obtain ⟨rfl, rfl, rfl⟩ := e
    simp only [if_true] at hz
    unfold maxLen at hm
    have hwf' : ∀ x ∈ zs.take len0, 0 ≤ x ∧ x ≤ 65535 := fun x hx => by
      have := hwf x (List.mem_of_mem_take hx)
      simpa [Lit.wf, IntKind.min, IntKind.max, IntKind.signed, IntKind.bits] using this
    have hlen : (zs.take len0).length = len0 := by rw [List.length_take]; omega
    refine ⟨some a, len0, cap0, zs.take len0, rfl, by omega, ?_, hwf'⟩
    by_cases h0 : len0 = 0
    · subst h0
      exact .inl ⟨by simp, some a, cap0, rfl⟩
    · have hc0 := hc 0 (by omega)
      have hspot : a.spot = none := by
        have := World.cell?_spot hc0
        simpa [Addr.add] using this
      obtain ⟨b, off, spot⟩ := a
      dsimp only at hspot
      subst hspot
      have hadd : ∀ j : Nat, (⟨b, off, none⟩ : Addr).add j = ⟨b, off + j, none⟩ := fun j => by unfold Addr.add; split <;> simp_all
      refine .inr ⟨b, off, cap0, by rw [hlen], World.block_lt_of_cell? W _ (by rw [hadd] at hc0; exact hc0), fun k hk => ?_⟩
      have hk' : k < len0 := by rw [hlen] at hk; exact hk
      have := hc k (by omega)
      rw [hadd] at this
      rw [this, List.getElem_take]
      simp [List.getD, List.getElem?_eq_getElem (show k < zs.length by omega)]

set_option maxRecDepth 100000 in
theorem scanFew_lifted (os : Os) (started : os.Started) (H : Type) (enc : TypeId × Value → H) :
    ReturnsInHanded {} Try.checked os 7 .any (Rows.scanFewSpec.pre6 enc Try.prog Try.f7 Rows.scanFewRow.domain false) (Rows.scanFewSpec.post enc Try.prog Try.f7 false true false false) := by
  refine returnsInHanded_of_change (C := Try.checked) Try.own started (by kernel_rfl) Try.func7
    (ChangeSpec.witness6 (enc := enc) (C := Try.checked) false ⟨#[], #[.int .u16 0, .slice none 0 0], []⟩ 8 (by kernel_rfl) (by kernel_rfl) (by kernel_rfl) (by kernel_rfl)) ?_
  intro W base args ds gs before hval0 hW hcnd _
  have hval : ∀ (j : Nat) t v, Try.f7.params[j]? = some t → args[j]? = some v → Value.okWide Try.prog W .any base t v := hval0
  have hW' := hW
  obtain ⟨p, q, hA0, hV, rfl, hfz, hnd⟩ := hW
  have hA : DataW.TrodAll enc Try.prog W 0 (fun _ => true) true Try.f7.params.toList args.toList ds p := hA0
  rw [Try.params7] at hA hval
  obtain ⟨v0, v1, d0, d1, p0, p1, rfl, rfl, rfl, h0, h1⟩ := trodAll_two hA
  obtain ⟨sz, rfl, _, _, hsz⟩ := open_int Try.underlying45 (hval 0 45 v0 rfl rfl) h0
  have hsz' : 0 ≤ sz ∧ sz ≤ 65535 := by simpa [Lit.wf, IntKind.min, IntKind.max, IntKind.signed, IntKind.bits] using hsz
  obtain ⟨a, len, cap, lk, rfl, hlm, hL, hlk⟩ := open_lack h1 (okWide_slice Try.underlying46 (hval 1 46 v1 rfl rfl))
  refine (callsIn_wide.1 (few_law_in 5 sz hsz'.1 hsz'.2 a len cap lk hlk hlm W hL)).mono fun e W' ⟨he, hb⟩ => ?_
  subst he
  exact ⟨_, rfl, post_true (by kernel_rfl) (by kernel_rfl) rfl rfl hW' hb⟩

theorem scanFew_holds : Rows.ScanFewSaid :=
  OpenClaim.holds_of_wide 7 Try.f7 rfl rfl rfl rfl rfl rfl rfl ⟨rfl, rfl, rfl, rfl, rfl⟩ rfl rfl rfl rfl rfl (by kernel_rfl) Try.func7 (by kernel_rfl)
    (of_decide_eq_true (by kernel_rfl)) (by unfold Func.isWrapper; first | (rw [if_pos (by decide +kernel)]; kernel_rfl) | (rw [if_neg (by decide +kernel)]; exact ⟨rfl, rfl⟩))
    (fun os started H enc _ => scanFew_lifted os started H enc)
#print axioms scanFew_holds

end Go.Proofs.Ytbcefiefeobmcaa
