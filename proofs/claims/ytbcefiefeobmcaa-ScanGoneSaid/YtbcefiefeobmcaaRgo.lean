/-
  ScanGone answers true at every input: with a tomb of the greatest generation its key has no entry, all others stay. No condition.
-/
import Derived.Test.YtbcefiefeobmcaaGwk
import Derived.Test.YtbcefiefeobmcaaRow
namespace Go.Proofs.Ytbcefiefeobmcaa
open Go.ChangeShapes Go.WideShapes Go.ChangeAt Go.RowKit

set_option maxRecDepth 100000 in
theorem scanGone_lifted (os : Os) (started : os.Started) (H : Type) (enc : TypeId × Value → H) :
    ReturnsInHanded {} Try.checked os 6 .any (Rows.scanGoneSpec.pre6 enc Try.prog Try.f6 Rows.scanGoneRow.domain false) (Rows.scanGoneSpec.post enc Try.prog Try.f6 false true false false) := by
  refine returnsInHanded_of_change (C := Try.checked) Try.own started (by kernel_rfl) Try.func6
    (ChangeSpec.witness6 (enc := enc) (C := Try.checked) false ⟨#[], #[.slice none 0 0, .string ⟨#[]⟩, .int .u8 0], []⟩ 8 (by kernel_rfl) (by kernel_rfl) (by kernel_rfl) (by kernel_rfl)) ?_
  intro W base args ds gs before hval0 hW hcnd _
  have hval : ∀ (j : Nat) t v, Try.f6.params[j]? = some t → args[j]? = some v → Value.okWide Try.prog W .any base t v := hval0
  have hW' := hW
  obtain ⟨p, q, hA0, hV, rfl, hfz, hnd⟩ := hW
  have hA : DataW.TrodAll enc Try.prog W 0 (fun _ => true) true Try.f6.params.toList args.toList ds p := hA0
  rw [Try.params6] at hA hval
  obtain ⟨v0, v1, v2, d0, d1, d2, p0, p1, p2, rfl, rfl, rfl, h0, h1, h2⟩ := trodAll_three hA
  have hlt : ∀ x ∈ p0 ++ p1 ++ p2, x.block < W.heap.size := fun x hx => by simpa using hW'.lt x (List.mem_append_left _ hx)
  obtain ⟨a, len, cap, zs, rfl, hlc, hF, hfit⟩ := open_founds h0 (okWide_slice Try.underlying22 (hval 0 22 v0 rfl rfl)) (fun x hx => hlt x (List.mem_append_left _ (List.mem_append_left _ hx)))
  obtain ⟨key, rfl, _, _, hk⟩ := Go.ChangeMaps.open_string Try.underlying9 (hval 1 9 v1 rfl rfl) h1
  obtain ⟨at_, rfl, _, _, hat⟩ := open_int Try.underlying5 (hval 2 5 v2 rfl rfl) h2
  have hat' : 0 ≤ at_ ∧ at_ ≤ 255 := by simpa [Lit.wf, IntKind.min, IntKind.max, IntKind.signed, IntKind.bits] using hat
  refine (callsIn_wide.1 (gone_law_in 5 a len cap hlc zs hfit key (by unfold maxLen at hk; omega) at_ hat'.1 hat'.2 W hF)).mono fun e W' ⟨he, hb⟩ => ?_
  subst he
  exact ⟨_, rfl, post_true (by kernel_rfl) (by kernel_rfl) rfl rfl hW' hb⟩

theorem scanGone_holds : Rows.ScanGoneSaid :=
  OpenClaim.holds_of_wide 6 Try.f6 rfl rfl rfl rfl rfl rfl rfl ⟨rfl, rfl, rfl, rfl, rfl⟩ rfl rfl rfl rfl rfl (by kernel_rfl) Try.func6 (by kernel_rfl)
    (of_decide_eq_true (by kernel_rfl)) (by unfold Func.isWrapper; first | (rw [if_pos (by decide +kernel)]; kernel_rfl) | (rw [if_neg (by decide +kernel)]; exact ⟨rfl, rfl⟩))
    (fun os started H enc _ => scanGone_lifted os started H enc)
#print axioms scanGone_holds

end Go.Proofs.Ytbcefiefeobmcaa
