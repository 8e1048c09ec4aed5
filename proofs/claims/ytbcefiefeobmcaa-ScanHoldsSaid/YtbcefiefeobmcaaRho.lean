/-
  ScanHolds answers true at every input: the places of each entry are nowhere or places of its shards, at least eight per group; entries rise and are not deleted by a tombstone. No condition.
-/
import Derived.Test.YtbcefiefeobmcaaHmn
import Derived.Test.YtbcefiefeobmcaaRow
namespace Go.Proofs.Ytbcefiefeobmcaa
open Go.ChangeShapes Go.WideShapes Go.ChangeAt Go.RowKit

set_option maxRecDepth 100000 in
theorem scanHolds_lifted (os : Os) (started : os.Started) (H : Type) (enc : TypeId × Value → H) :
    ReturnsInHanded {} Try.checked os 4 .any (Rows.scanHoldsSpec.pre6 enc Try.prog Try.f4 Rows.scanHoldsRow.domain false) (Rows.scanHoldsSpec.post enc Try.prog Try.f4 false true false false) := by
  refine returnsInHanded_of_change (C := Try.checked) Try.own started (by kernel_rfl) Try.func4
    (ChangeSpec.witness6 (enc := enc) (C := Try.checked) false ⟨#[], #[.slice none 0 0], []⟩ 8 (by kernel_rfl) (by kernel_rfl) (by kernel_rfl) (by kernel_rfl)) ?_
  intro W base args ds gs before hval0 hW hcnd _
  have hval : ∀ (j : Nat) t v, Try.f4.params[j]? = some t → args[j]? = some v → Value.okWide Try.prog W .any base t v := hval0
  have hW' := hW
  obtain ⟨p, q, hA0, hV, rfl, hfz, hnd⟩ := hW
  have hA : DataW.TrodAll enc Try.prog W 0 (fun _ => true) true Try.f4.params.toList args.toList ds p := hA0
  rw [Try.params4] at hA hval
  obtain ⟨v0, d0, rfl, rfl, h0⟩ := trodAll_one hA
  have hlt : ∀ x ∈ p, x.block < W.heap.size := fun x hx => by simpa using hW'.lt x (List.mem_append_left _ hx)
  obtain ⟨a, len, cap, zs, rfl, hlc, hF, hfit⟩ := open_founds h0 (okWide_slice Try.underlying22 (hval 0 22 v0 rfl rfl)) hlt
  refine (callsIn_wide.1 (holds_law_in 5 a len cap hlc zs hfit W hF)).mono fun e W' ⟨he, hb⟩ => ?_
  subst he
  exact ⟨_, rfl, post_true (by kernel_rfl) (by kernel_rfl) rfl rfl hW' hb⟩

theorem scanHolds_holds : Rows.ScanHoldsSaid :=
  OpenClaim.holds_of_wide 4 Try.f4 rfl rfl rfl rfl rfl rfl rfl ⟨rfl, rfl, rfl, rfl, rfl⟩ rfl rfl rfl rfl rfl (by kernel_rfl) Try.func4 (by kernel_rfl)
    (of_decide_eq_true (by kernel_rfl)) (by unfold Func.isWrapper; first | (rw [if_pos (by decide +kernel)]; kernel_rfl) | (rw [if_neg (by decide +kernel)]; exact ⟨rfl, rfl⟩))
    (fun os started H enc _ => scanHolds_lifted os started H enc)
#print axioms scanHolds_holds

end Go.Proofs.Ytbcefiefeobmcaa
