/-
  A region that draws its order, within a fence: a CALL that leaves the world as it was may be taken first too. (Behind YtbcefiefeobmcaaHeld.)
-/
import Derived.Test.YtbcefiefeobmcaaHeld
namespace Go.Proofs.Ytbcefiefeobmcaa

section
variable {F : Fence} {n : Nat} {P : Program} {ops : Array Oper} {Q : Exit → Act → World → Prop} {md : Region.Mode} {S : World → Prop} {Y : Act → Prop}

/-- In an act that meets Y the operation yields v in every world that meets S. -/
structure Ys (F : Fence) (n : Nat) (P : Program) (ops : Array Oper) (S : World → Prop) (o : Oper) (v : Value) (Y : Act → Prop) : Prop where
  does : ∀ a, Y a → ∀ i, ops[i]? = some o → ∀ (Q : Exit → Act → World → Prop) (K : Act → World → Prop) w, S w → K (a.put o.dst v) w → wpOpIn F n P ops Q i K a w
  same : ∀ a a', Y a → execOp a'.eval o = execOp a.eval o → Region.wanted o (yielded ops a'.tmps) = Region.wanted o (yielded ops a.tmps) → (∀ w, o.about P w a'.eval = o.about P w a.eval) → Y a'

theorem wpOpIn_putY {j : Nat} {oi oj : Oper} {v : Value} (hnd : ∀ c, oj.op ≠ .defer c) (hj : ops[j]? = some oj) (hap : oi.apart ops oj = true)
    (hsi : ∀ cs b, oi.op ≠ .select cs b) (hsj : ∀ cs b, oj.op ≠ .select cs b)
    (hQ : ∀ c a w, Q (.panic c) (a.put oi.dst v) w → Q (.panic c) a w) {K : Act → World → Prop} {a : Act} {w : World}
    (hYs : Ys F n P ops S oi v Y) (hy : Y a) (h : wpOpIn F n P ops Q j K (a.put oi.dst v) w) :
    wpOpIn F n P ops Q j (fun a' w' => Y a' ∧ K (a'.put oi.dst v) w') a w := by
  obtain ⟨h1, h2, h3⟩ := Oper.apart_spec hap
  have keep : ∀ (a : Act), Y a → ∀ u, Y (a.put oj.dst u) := fun a hy u =>
    hYs.same _ _ hy (execOp_put oi hsi a oj.dst u h3) (wanted_put oi a oj.dst u h3) (fun w => about_put oi w a oj.dst u h3)
  have keepD : ∀ d, Y { a with defers := d :: a.defers } := fun d => hYs.same _ _ hy rfl rfl (fun _ => rfl)
  unfold wpOpIn at *
  simp only [hj] at *
  rw [wanted_put oj a oi.dst v h1, about_put oj w a oi.dst v h1] at h
  split
  · rename_i hw
    simp only [hw, if_true] at h
    unfold Oper.wpIn at *
    rw [about_put oj w a oi.dst v h1] at h
    refine ⟨h.1, ?_⟩
    have h := h.2
    rw [Oper.semAt_eq _ _ _ hnd, execOp_put oj hsj a oi.dst v h1] at h
    rw [Oper.semAt_eq _ _ _ hnd]
    generalize (execOp a.eval oj).run P w = r at *
    cases r with
    | ok x w' =>
      cases x <;> simp only [Oper.uponIn] at h ⊢
      case value u => exact ⟨keep a hy u, by rw [← Act.put_comm a v u h2]; exact h⟩
      case skip => exact ⟨keep a hy _, by rw [← Act.put_comm a v undef h2]; exact h⟩
      case defer d =>
        refine ⟨keep _ (keepD d) _, ?_⟩
        rw [← Act.put_comm _ v undef h2, ← Act.put_defers]
        exact h
      case enter f args =>
        refine ⟨h.1, CallsIn.mono h.2 fun e w'' he => ?_⟩
        cases e with
        | returned u => exact ⟨keep a hy u, by rw [← Act.put_comm a v u h2]; exact he⟩
        | panicked c => exact hQ _ _ _ he
        | outgrown => exact he
      case row row args => exact ⟨h.1, RowsIn.mono h.2 fun u w'' he => ⟨keep a hy u, by rw [← Act.put_comm a v u h2]; exact he⟩⟩
      case round l f tmps assign body =>
        refine ⟨h.1, RoundIn.mono h.2 fun e w'' he => ?_⟩
        cases e with
        | returned u => exact ⟨keep a hy u, by rw [← Act.put_comm a v u h2]; exact he⟩
        | panicked c => exact hQ _ _ _ he
        | outgrown => exact he
    | halt x w' =>
      cases x <;> simp only [Oper.uponIn] at h ⊢
      case panic u => exact hQ _ _ _ h
  · rename_i hw
    simp only [hw] at h
    exact ⟨h.1, keep a hy _, by rw [← Act.put_comm a v undef h2]; exact h.2⟩

theorem wpAnyInH_firstY {i : Nat} {oi : Oper} {v : Value} (hnd : Region.noDefer ops = true) (hi : ops[i]? = some oi) (hsel : ∀ (j : Nat) (o : Oper) cs b, ops[j]? = some o → o.op ≠ .select cs b)
    (hQ : ∀ c a w, Q (.panic c) (a.put oi.dst v) w → Q (.panic c) a w) (hYs : Ys F n P ops S oi v Y) :
    ∀ (fuel : Nat) (listed : Array Bool) (a : Act) (w : World),
      (∀ j oj, ops[j]? = some oj → j ≠ i → listed.getD j true = false → (∀ e ∈ oj.after, Region.binds md e = true → e.on ≠ i) → oi.apart ops oj = true) →
      i ∈ Region.ready md ops listed → Y a → S w →
      wpAnyInH F n P md ops Q S fuel (listed.setIfInBounds i true) (a.put oi.dst v) w → wpAnyInH F n P md ops Q S (fuel + 1) listed a w := by
  intro fuel
  induction fuel with
  | zero =>
    intro listed a w _ hr hy hS H
    refine ⟨fun h => (by rw [h] at hr; cases hr), fun j hj => ?_⟩
    by_cases hji : j = i
    · subst hji; exact hYs.does _ hy _ hi _ _ _ hS ⟨hS, H⟩
    · have := ready_mono hj hji
      rw [H.1] at this
      cases this
  | succ fuel ih =>
    intro listed a w hfree hr hy hS H
    refine ⟨fun h => (by rw [h] at hr; cases hr), fun j hj => ?_⟩
    by_cases hji : j = i
    · subst hji; exact hYs.does _ hy _ hi _ _ _ hS ⟨hS, H⟩
    · have h1 := H.2 j (ready_mono hj hji)
      obtain ⟨hjun, oj, hoj, hall⟩ := mem_ready.1 hj
      have hnot : ∀ e ∈ oj.after, Region.binds md e = true → e.on ≠ i := fun e he hb heq => by
        have h1 := hall e he hb
        have h0 := (mem_ready.1 hr).1
        rw [heq] at h1
        rcases Nat.lt_or_ge i listed.size with h' | h'
        · simp [h'] at h0 h1; rw [h0] at h1; cases h1
        · simp [Array.getElem?_eq_none h'] at h1
      have h2 := wpOpIn_putY (Region.noDefer_spec hnd _ _ hoj) hoj (hfree j oj hoj hji hjun hnot) (fun cs b => hsel i oi cs b hi) (fun cs b => hsel j oj cs b hoj) hQ hYs hy h1
      have hfree' : ∀ k ok, ops[k]? = some ok → k ≠ i → (listed.setIfInBounds j true).getD k true = false →
          (∀ e ∈ ok.after, Region.binds md e = true → e.on ≠ i) → oi.apart ops ok = true := fun k ok hk hki hun hno => by
        refine hfree k ok hk hki ?_ hno
        by_cases hjk : j = k
        · subst hjk; exact hjun
        · rw [getD_set_ne true hjk] at hun; exact hun
      refine wpOpIn_mono (fun a' w' h3 => ⟨h3.2.1, ih (listed.setIfInBounds j true) a' w' hfree' (ready_mono hr (Ne.symm hji)) h3.1 h3.2.1 ?_⟩) h2
      rw [Array.setIfInBounds_comm _ _ hji]
      exact h3.2.2

theorem wpAnyInH_takeY {i : Nat} {oi : Oper} {v : Value} {fuel : Nat} {listed : Array Bool} {a : Act} {w : World} (hnd : Region.noDefer ops = true) (hi : ops[i]? = some oi)
    (hs : Region.noSelect ops = true) (hf : Region.free md ops listed i = true) (hr : (Region.ready md ops listed).contains i = true)
    (hQ : ∀ c a w, Q (.panic c) (a.put oi.dst v) w → Q (.panic c) a w) (hYs : Ys F n P ops S oi v Y) (hy : Y a) (hS : S w)
    (h : wpAnyInH F n P md ops Q S fuel (listed.setIfInBounds i true) (a.put oi.dst v) w) : wpAnyInH F n P md ops Q S (fuel + 1) listed a w :=
  wpAnyInH_firstY hnd hi (Region.noSelect_spec hs) hQ hYs fuel listed a w (Region.free_spec hi hf) (by simpa using hr) hy hS h


/-- A call that leaves the world as it was. -/
def YieldsCall (F : Fence) (n : Nat) (P : Program) (ops : Array Oper) (S : World → Prop) (o : Oper) (v : Value) (a : Act) : Prop :=
  Region.wanted o (yielded ops a.tmps) = true ∧ (∀ w f, o.about P w a.eval = some f → F.fn f) ∧
    ∀ w, S w → ∃ f args, (execOp a.eval o).run P w = .ok (.enter f args) w ∧ (F.depth.isSome = true → 1 ≤ n) ∧ CallsIn F (n - 1) P f args w (fun e w' => e = .returned v ∧ w = w')

theorem yieldsCall_ys {o : Oper} {v : Value} (hnd : ∀ c, o.op ≠ .defer c) : Ys F n P ops S o v (YieldsCall F n P ops S o v) where
  does := by
    rintro a ⟨hw, hab, hc⟩ i hi Q K w hS hK
    obtain ⟨f, args, hr, hd, hc⟩ := hc w hS
    unfold wpOpIn
    simp only [hi, hw, if_true]
    refine ⟨hab w, ?_⟩
    rw [Oper.semAt_eq _ _ _ hnd, hr, Oper.uponIn_enter]
    refine ⟨hd, hc.mono ?_⟩
    rintro e w' ⟨rfl, rfl⟩
    exact hK
  same := by
    rintro a a' ⟨hw, hab, hc⟩ he hw' hb
    refine ⟨by rw [hw']; exact hw, fun w f hf => hab w f (by rw [← hb]; exact hf), fun w hS => ?_⟩
    rw [he]
    exact hc w hS

theorem wpAnyInH_call {i : Nat} {oi : Oper} {v : Value} {fuel : Nat} {listed : Array Bool} {a : Act} {w : World} (hnd : Region.noDefer ops = true) (hi : ops[i]? = some oi)
    (hs : Region.noSelect ops = true) (hf : Region.free md ops listed i = true) (hr : (Region.ready md ops listed).contains i = true)
    (hQ : ∀ c a w, Q (.panic c) (a.put oi.dst v) w → Q (.panic c) a w) (hy : YieldsCall F n P ops S oi v a) (hS : S w)
    (h : wpAnyInH F n P md ops Q S fuel (listed.setIfInBounds i true) (a.put oi.dst v) w) : wpAnyInH F n P md ops Q S (fuel + 1) listed a w :=
  wpAnyInH_takeY hnd hi hs hf hr hQ (yieldsCall_ys (Region.noDefer_spec hnd _ _ hi)) hy hS h

end
end Go.Proofs.Ytbcefiefeobmcaa
