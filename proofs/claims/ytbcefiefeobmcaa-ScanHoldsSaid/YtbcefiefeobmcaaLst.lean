/-
  Lists of found records: parts of them, appending to them.
-/
import Derived.Test.YtbcefiefeobmcaaCpy
namespace Go.Proofs.Ytbcefiefeobmcaa
open Go.RowKit Go.Shelf Go.Maps Go.WideElems

theorem fndCells_length (f : Fnd) : (fndCells f).length = 12 := rfl

theorem flat_at (zs : List Fnd) (k c : Nat) (hk : k < zs.length) (hc : c < 12) : (zs.flatMap fndCells)[k * 12 + c]? = (fndCells zs[k])[c]? := flat_get fndCells 12 fndCells_length zs k c hk hc
theorem flat_len (zs : List Fnd) : (zs.flatMap fndCells).length = zs.length * 12 := by
  induction zs with
  | nil => rfl
  | cons a r ih => rw [List.flatMap_cons, List.length_append, ih, fndCells_length]; simp; omega

/-- The twelve cells, out of a row of all. -/
theorem fndAt_of {W : World} {b off : Nat} {zs : List Fnd} (h : ∀ j u, (zs.flatMap fndCells)[j]? = some u → W.cell? ⟨b, off + j, none⟩ = some u) (k : Nat) (hk : k < zs.length) : FndAt W b (off + k * 12) zs[k] := by
  have c : ∀ c u, c < 12 → (fndCells zs[k])[c]? = some u → W.cell? ⟨b, off + k * 12 + c, none⟩ = some u := fun c u hc hu => by
    have := h (k * 12 + c) u (by rw [flat_at zs k c hk hc]; exact hu)
    rwa [← Nat.add_assoc] at this
  exact ⟨by simpa using c 0 _ (by omega) rfl, c 1 _ (by omega) rfl, c 2 _ (by omega) rfl, c 3 _ (by omega) rfl, c 4 _ (by omega) rfl, c 5 _ (by omega) rfl, c 6 _ (by omega) rfl, c 7 _ (by omega) rfl, c 8 _ (by omega) rfl, c 9 _ (by omega) rfl, c 10 _ (by omega) rfl, c 11 _ (by omega) rfl⟩
theorem cells_of {W : World} {b off : Nat} {zs : List Fnd} (h : ∀ k (hk : k < zs.length), FndAt W b (off + k * 12) zs[k]) : ∀ j u, (zs.flatMap fndCells)[j]? = some u → W.cell? ((⟨b, off, none⟩ : Addr).add j) = some u := by
  intro j u hu
  have hj : j < zs.length * 12 := by rw [← flat_len]; exact (List.getElem?_eq_some_iff.1 hu).1
  have hk : j / 12 < zs.length := by omega
  have hx := h (j / 12) hk
  have hu' := flat_at zs (j / 12) (j % 12) hk (by omega)
  rw [show j / 12 * 12 + j % 12 = j by omega, hu] at hu'
  have hadd : (⟨b, off, none⟩ : Addr).add j = ⟨b, off + j / 12 * 12 + j % 12, none⟩ := by
    rw [show off + j / 12 * 12 + j % 12 = off + j by omega]
    unfold Addr.add
    split <;> simp_all
  rw [hadd]
  have hm : j % 12 < 12 := by omega
  generalize j % 12 = c at *
  have : c = 0 ∨ c = 1 ∨ c = 2 ∨ c = 3 ∨ c = 4 ∨ c = 5 ∨ c = 6 ∨ c = 7 ∨ c = 8 ∨ c = 9 ∨ c = 10 ∨ c = 11 := by omega
  rcases this with rfl | rfl | rfl | rfl | rfl | rfl | rfl | rfl | rfl | rfl | rfl | rfl <;> simp [fndCells] at hu' <;> rw [hu']
  · exact hx.c0
  · exact hx.c1
  · exact hx.c2
  · exact hx.c3
  · exact hx.c4
  · exact hx.c5
  · exact hx.c6
  · exact hx.c7
  · exact hx.c8
  · exact hx.c9
  · exact hx.c10
  · exact hx.c11

theorem OwnF.founds {base : Nat} {W : World} {v : Value} {zs : List Fnd} (h : OwnF base W v zs) : Founds W.heap.size W v zs := by
  rcases h.2 with ⟨rfl, hn⟩ | ⟨g, cap, cur, rfl, hb, hg, hle, hcm, hcs, htake⟩
  · exact .inl ⟨none, 0, rfl, List.eq_nil_of_length_eq_zero hn⟩
  · refine .inr ⟨g, 0, cap, rfl, (Array.getElem?_eq_some_iff.1 hg).1, fun k hk => fndAt_of (fun j u hu => ?_) k hk⟩
    have := h.cells (g := g) rfl j u hu
    have hadd : (⟨g, 0, none⟩ : Addr).add j = ⟨g, 0 + j, none⟩ := by unfold Addr.add; split <;> simp_all
    rwa [hadd] at this

theorem Founds.slice {n₀ : Nat} {W : World} {v : Value} {zs : List Fnd} (h : Founds n₀ W v zs) : ∃ a cap, v = .slice a zs.length cap := by
  rcases h with ⟨a, cap, rfl, rfl⟩ | ⟨b, off, cap, rfl, _⟩
  · exact ⟨a, cap, rfl⟩
  · exact ⟨_, cap, rfl⟩
theorem Founds.take {n₀ : Nat} {W : World} {b off cap : Nat} {zs : List Fnd} (h : Founds n₀ W (.slice (some ⟨b, off, none⟩) zs.length cap) zs) (k c : Nat) (hk : k ≤ zs.length) : Founds n₀ W (.slice (some ⟨b, off, none⟩) k c) (zs.take k) := by
  rcases h with ⟨a, cap', e, rfl⟩ | ⟨b', off', cap', e, hb, h⟩
  · obtain rfl : k = 0 := by simpa using hk
    exact .inl ⟨_, c, rfl, rfl⟩
  · simp only [Value.slice.injEq, Option.some.injEq, Addr.mk.injEq] at e
    obtain ⟨⟨rfl, rfl, _⟩, _, rfl⟩ := e
    refine .inr ⟨b, off, c, by rw [List.length_take, Nat.min_eq_left hk], hb, fun j hj => ?_⟩
    have hj' : j < k := by rw [List.length_take] at hj; omega
    rw [List.getElem_take]
    exact h j (by omega)
theorem Founds.drop {n₀ : Nat} {W : World} {b off cap : Nat} {zs : List Fnd} (h : Founds n₀ W (.slice (some ⟨b, off, none⟩) zs.length cap) zs) (k c : Nat) (hk : k ≤ zs.length) : Founds n₀ W (.slice (some ⟨b, off + k * 12, none⟩) (zs.length - k) c) (zs.drop k) := by
  rcases h with ⟨a, cap', e, rfl⟩ | ⟨b', off', cap', e, hb, h⟩
  · obtain rfl : k = 0 := by simpa using hk
    exact .inl ⟨some ⟨b, off + 0 * 12, none⟩, c, rfl, rfl⟩
  · simp only [Value.slice.injEq, Option.some.injEq, Addr.mk.injEq] at e
    obtain ⟨⟨rfl, rfl, _⟩, _, rfl⟩ := e
    refine .inr ⟨b, off + k * 12, c, by rw [List.length_drop], hb, fun j hj => ?_⟩
    rw [List.length_drop] at hj
    rw [List.getElem_drop]
    have := h (k + j) (by omega)
    rwa [show off + (k + j) * 12 = off + k * 12 + j * 12 by omega] at this

theorem wpListIn_append_run {F : Fence} {n : Nat} {P : Program} (w : World) {ops : Array Oper} {rest : List Oper} {o : Oper} {a : Act} {Q : Exit → Act → World → Prop}
    (hg : o.guard = none) (s x : Operand) (t : TypeId) (hop : o.op = Op.call { callee := Callee.builtin Builtin.append, args := #[s, x], argTypes := #[t, t] }) (v vx : Value) (hs : a.eval s = v) (hx : a.eval x = vx)
    (R : Value → World → Prop) (hrun : ∃ v' w', (Builtin.append_ #[t, t] o.type #[v, vx]).run P w = .ok v' w' ∧ R v' w') (hK : ∀ v' w', R v' w' → wpListIn F n P ops Q rest (a.put o.dst v') w') : wpListIn F n P ops Q (o :: rest) a w := by
  refine wpListIn_plain hg fun K hK' => ?_
  obtain ⟨v', w', hrun, hR⟩ := hrun
  unfold Oper.wpIn
  refine ⟨?_, ?_⟩
  · simp [Oper.about, hop, resolve, Target.leads, Sem.run_pure]
  · rw [Oper.semAt_plain F _ _ (by rw [hop]; intro c hc'; cases hc')]
    simp [execOp, hop, resolve, invoke, builtin, hs, hx, hrun, Result.andThen]
    exact hK' _ _ (hK v' w' hR)

/-- Appending a list to one that the call owns. -/
theorem append_founds {base n₀ : Nat} {w : World} {v x : Value} {zs zs2 : List Fnd} (hown : OwnF base w v zs) (hv : v ≠ .slice none 0 0) (hx : Founds n₀ w x zs2) (hlen : zs.length + zs2.length ≤ 1000000) (hbase : base ≤ w.heap.size) (ty : TypeId) :
    ∃ v' w', (Builtin.append_ #[22, 22] ty #[v, x]).run Try.prog w = .ok v' w' ∧ (OwnF base w' v' (zs ++ zs2) ∧ v' ≠ .slice none 0 0 ∧ w.grownBy w' v.ownBlock) := by
  obtain ⟨i0, hi0, hz0, hz1, hz2⟩ := info_parts info39
  have main : ∀ (a : Addr) (c : Nat), x = .slice (some a) zs2.length c → (∀ j u, (zs2.flatMap fndCells)[j]? = some u → w.cell? (a.add j) = some u) →
      ∃ v' w', (Builtin.append_ #[22, 22] ty #[v, x]).run Try.prog w = .ok v' w' ∧ (OwnF base w' v' (zs ++ zs2) ∧ v' ≠ .slice none 0 0 ∧ w.grownBy w' v.ownBlock) := by
    rintro a c rfl hc
    obtain ⟨v', w', hr, h1, h2, h3⟩ := run_append_own (P := Try.prog) w base 22 ty 39 i0 zero39 12 128 Try.underlying22 hi0 hz0 hz1 hz2 rfl (by decide) v zs.length (zs.flatMap fndCells) hown a zs2.length c (zs2.flatMap fndCells) (flat_len zs2) hc
      (fun u hu => by obtain ⟨f, _, hf⟩ := List.mem_flatMap.1 hu; exact fnd_one f u hf) (by unfold maxLen; omega) (by omega) hbase
    refine ⟨v', w', hr, ?_, fun e => hv (h3.1 e).1, h2⟩
    unfold OwnF
    rw [List.length_append, List.flatMap_append]
    exact h1
  rcases hx with ⟨a, cap, rfl, rfl⟩ | ⟨b, off, cap, rfl, hb, hc⟩
  · cases a with
    | some a => exact main a cap rfl (by simp)
    | none =>
      rcases hown.2 with ⟨rfl, _⟩ | ⟨g, cp, cur, rfl, hb, hg, hle, hcm, hcs, htake⟩
      · exact absurd rfl hv
      · refine ⟨_, w, ?_, by rw [List.append_nil]; exact hown, hv, ⟨rfl, rfl, rfl, Nat.le_refl _, fun _ _ _ => rfl⟩⟩
        have hle' : zs.length + 0 ≤ cp := by omega
        simp [Builtin.append_, run_underlying Try.underlying22, sizeOf, typeInfo, hi0, Builtin.lenOf, Builtin.firstCells, loadCells, storeCells, hle]
  · exact main ⟨b, off, none⟩ cap rfl (cells_of hc)

theorem wide_fn10 (f : FuncId) : Fence.wide.fn f = True := rfl
attribute [local go_sem] Oper.semAt_some wide_fn10

set_option maxHeartbeats 400000 in
theorem few_any (a : Option Addr) (len cap : Nat) (hlc : len ≤ cap) (n₀ : Nat) (zs : List Fnd) (w : World) (h : Founds n₀ w (.slice a len cap) zs) :
    Calls Try.prog 9 #[.slice a len cap] w fun e w' => ∃ a' len' cap', e = .returned (.slice a' len' cap') ∧ len' ≤ cap' ∧ Founds n₀ w (.slice a' len' cap') (zs.take 130) ∧ w = w' := by
  have hz : len = zs.length := by obtain ⟨a', c', e⟩ := h.slice; simp only [Value.slice.injEq] at e; exact e.2.1
  by_cases hl : len > 130
  · obtain ⟨b, off, rfl⟩ : ∃ b off, a = some ⟨b, off, none⟩ := by
      rcases h with ⟨a', cap', e, rfl⟩ | ⟨b', off', cap', e, hb, h⟩
      · simp at hz; omega
      · simp only [Value.slice.injEq] at e; exact ⟨b', off', e.1⟩
    subst hz
    have hr := h.take 130 cap (by omega)
    have H := Lib.hid hr
    clear hr h
    go_enter Try.func9, Try.ntmps9
    go_wp2
    go_ret
    exact ⟨_, _, _, rfl, by omega, H.out, rfl⟩
  · have hr : Founds n₀ w (.slice a len cap) (zs.take 130) := by rw [List.take_of_length_le (by omega)]; exact h
    have H := Lib.hid hr
    clear hr h hz
    go_enter Try.func9, Try.ntmps9
    go_wp2
    go_ret
    exact ⟨_, _, _, rfl, hlc, H.out, rfl⟩

end Go.Proofs.Ytbcefiefeobmcaa
