/-
  ScanTwo: its walk.
-/
import Derived.Test.YtbcefiefeobmcaaCpl
import Derived.Test.YtbcefiefeobmcaaOwe
namespace Go.Proofs.Ytbcefiefeobmcaa
open Go.RowKit Go.Shelf Go.Maps Go.WideElems

theorem wide_fn14 (f : FuncId) : Fence.wide.fn f = True := rfl
attribute [local go_sem] Oper.semAt_some wide_fn14

theorem copyL0_length (gen frm : Int) : (copyL keyK gen 0 frm).length = 10 := by
  unfold copyL
  rw [copyTo_length]
  rfl

theorem OwnF.low {base base' : Nat} {W : World} {v : Value} {zs : List Fnd} (h : OwnF base W v zs) (hb : base' ≤ base) : OwnF base' W v zs := by
  refine ⟨h.1, ?_⟩
  rcases h.2 with q | ⟨g, cap, cur, h1, h2, h3⟩
  · exact .inl q
  · exact .inr ⟨g, cap, cur, h1, Nat.le_trans hb h2, h3⟩
/-- A copy's list behind its first few. -/
theorem part_drop {base : Nat} {W : World} {g cap : Nat} {zs : List Fnd} (h : OwnF base W (.slice (some ⟨g, 0, none⟩) 10 cap) zs) (hl : zs.length = 10) (j : Nat) (hj : j ≤ 2) : Founds W.heap.size W (.slice (some ⟨g, j * 12, none⟩) (10 - j) (cap - j)) (zs.drop j) := by
  have := h.founds
  rw [← hl] at this
  have := this.drop j (cap - j) (by omega)
  rw [hl, Nat.zero_add] at this
  exact this

set_option maxRecDepth 100000 in
set_option maxHeartbeats 4000000 in
theorem two_law_in (n : Nat) (a b m k : Int) (ha0 : 0 ≤ a) (ha1 : a ≤ 255) (hb0 : 0 ≤ b) (hb1 : b ≤ 255) (hm0 : 0 ≤ m) (hm1 : m ≤ 65535) (hk0 : 0 ≤ k) (hk1 : k ≤ 65535) (turned : Bool) (w : World) :
    CallsIn Fence.wide n Try.prog 8 #[.int .u8 a, .int .u8 b, .int .u16 m, .int .u16 k, .bool turned] w fun e W' => e = .returned (.bool true) ∧ Below w.heap.size w W' := by
  refine callsIn_of_wp Try.func8 rfl trivial ?_ rfl
  simp only [Try.ntmps8, List.size_toArray, List.length_cons, List.length_nil, Nat.reduceAdd, Nat.reduceSub, Array.replicate_succ, Array.replicate_zero, List.push_toArray, List.append_toArray, List.nil_append, List.cons_append]
  gi_wp2_with fail
  refine ⟨fun h => (by cases h), (copyOf_in (n - 1) keyK (3 + a % 20) 0 5 (by omega) (by omega) (by omega) (by omega) w).mono ?_⟩
  rintro e w1 ⟨v1, zx, rfl, hown1, hzx, hbw1⟩
  have hlx : zx.length = 10 := by have := congrArg List.length hzx; rw [List.length_map, copyL0_length] at this; exact this
  obtain ⟨gx, capx, rfl, hcapx, hgx0, hgx1⟩ := hown1.some (fun e => by rw [e] at hlx; cases hlx)
  rw [hlx] at hcapx
  rw [hlx] at hown1
  have Hown1 := Lib.hid hown1
  have Hzx := Lib.hid hzx
  have Hlx := Lib.hid hlx
  rw [hlx]
  clear hown1 hzx hlx
  gi_wp2_with fail
  refine ⟨fun h => (by cases h), (copyOf_in (n - 1) keyK (30 + b % 20) 0 6 (by omega) (by omega) (by omega) (by omega) w1).mono ?_⟩
  rintro e w2 ⟨v2, zy, rfl, hown2, hzy, hbw2⟩
  have hly : zy.length = 10 := by have := congrArg List.length hzy; rw [List.length_map, copyL0_length] at this; exact this
  obtain ⟨gy, capy, rfl, hcapy, hgy0, hgy1⟩ := hown2.some (fun e => by rw [e] at hly; cases hly)
  rw [hly] at hcapy
  rw [hly] at hown2
  obtain ⟨j1, hj1⟩ : ∃ j : Nat, m % 3 = j := ⟨(m % 3).toNat, by omega⟩
  obtain ⟨j2, hj2⟩ : ∃ j : Nat, k % 3 = j := ⟨(k % 3).toNat, by omega⟩
  have hj1' : j1 ≤ 2 := by omega
  have hj2' : j2 ≤ 2 := by omega
  have hFx := part_drop (Hown1.out.below hbw2) Hlx.out j1 hj1'
  have hFy := part_drop hown2 hly j2 hj2'
  have Hbw1 := Lib.hid hbw1
  have Hbw2 := Lib.hid hbw2
  have Hzy := Lib.hid hzy
  have Hly := Lib.hid hly
  have HFx := Lib.hid hFx
  have HFy := Lib.hid hFy
  rw [hly]
  clear hown2 hzy hly hbw1 hbw2 hFx hFy
  gi_wp2_with fail
  gi_quiet (fail)
  obtain ⟨w3, hw3⟩ : ∃ x, x = w2.drewN nq := ⟨_, rfl⟩
  have hbw3 : Below w2.heap.size w2 w3 := by rw [hw3]; exact ⟨rfl, rfl, rfl, Nat.le_refl _, fun _ _ => rfl⟩
  have hFx3 := (HFx.out.below hbw3).up hbw3.size
  have hFy3 := (HFy.out.below hbw3).up hbw3.size
  have HFx3 := Lib.hid hFx3
  have HFy3 := Lib.hid hFy3
  have Hbw3 := Lib.hid hbw3
  rw [← hw3]
  clear hw3 hFx3 hFy3 hbw3 hj1 hj2
  have happ := append_founds (base := w3.heap.size) (own_empty w3) (by simp) (HFx3.out.below ((Below.refl _ w3).alloc (Nat.le_refl _) (.cells #[] 39))) (by have := Hlx.out; have := Hly.out; simp; omega) (by simp) 22
  gi_wp2_with (gi_at_builtin; refine wpListIn_append_run _ rfl _ _ 22 rfl _ _ rfl rfl _ happ ?_)
  intro vp1 wp1 hop1 hnp1 hgp1
  have hsp1 : w3.heap.size ≤ wp1.heap.size := by have := hgp1.size; simp at this; omega
  have hcp1 : Below w3.heap.size w3 wp1 := ((Below.refl w3.heap.size w3).alloc (Nat.le_refl _) (.cells #[] 39)).grown hgp1 (by simp) (fun q e => by cases e; exact Nat.le_refl _)
  have happ2 := append_founds (base := w3.heap.size) hop1 hnp1 (HFy3.out.below hcp1) (by have := Hlx.out; have := Hly.out; simp; omega) hsp1 22
  have hlop1 := hop1.lt
  clear hgp1 happ hop1 hnp1
  gi_wp2_with (gi_at_builtin; refine wpListIn_append_run _ rfl _ _ 22 rfl _ _ rfl rfl _ happ2 ?_)
  intro vq1 wq1 hoq1 hnq1 hgq1
  have hcq1 : Below w3.heap.size w3 wq1 := hcp1.grown hgq1 hsp1 (fun k e => (hlop1 k e).1)
  have hres1 : ∃ L, OwnF w3.heap.size wq1 vq1 L ∧ vq1 ≠ .slice none 0 0 ∧ L.length ≤ 20 ∧ (∀ f, f ∈ L ↔ f ∈ zx.drop j1 ∨ f ∈ zy.drop j2) ∧ Below w3.heap.size w3 wq1 :=
    ⟨_, hoq1, hnq1, by have := Hlx.out; have := Hly.out; simp; omega, by simp, hcq1⟩
  have hFx4 := (HFx3.out.below hcq1).up hcq1.size
  have hFy4 := (HFy3.out.below hcq1).up hcq1.size
  have HFx4 := Lib.hid hFx4
  have HFy4 := Lib.hid hFy4
  have Hres1 := Lib.hid hres1
  have Hcq1 := Lib.hid hcq1
  clear hoq1 hnq1 hgq1 happ2 hlop1 hcp1 hsp1 hcq1 hres1 hFx4 hFy4
  gi_upto_if 42 with (fail)
  gi_cut [13] from 101 (fun v13 wd => ∃ L, OwnF w3.heap.size wd v13 L ∧ v13 ≠ .slice none 0 0 ∧ L.length ≤ 20 ∧ (∀ f, f ∈ L ↔ f ∈ zx.drop j1 ∨ f ∈ zy.drop j2) ∧ Below w3.heap.size w3 wd)
  case first J K' hJ hK' =>
    cases turned with
    | false =>
      gi_wp2_with fail
      refine Met.intro (hJ _ _ ?_)
      repeat apply Exists.intro
      exact ⟨Hres1.out, rfl⟩
    | true =>
      have happ := append_founds (base := wq1.heap.size) (own_empty wq1) (by simp) (HFy4.out.below ((Below.refl _ wq1).alloc (Nat.le_refl _) (.cells #[] 39))) (by have := Hlx.out; have := Hly.out; simp; omega) (by simp) 22
      gi_wp2_with (gi_at_builtin; refine wpListIn_append_run _ rfl _ _ 22 rfl _ _ rfl rfl _ happ ?_)
      intro vp2 wp2 hop2 hnp2 hgp2
      have hsp2 : wq1.heap.size ≤ wp2.heap.size := by have := hgp2.size; simp at this; omega
      have hcp2 : Below wq1.heap.size wq1 wp2 := ((Below.refl wq1.heap.size wq1).alloc (Nat.le_refl _) (.cells #[] 39)).grown hgp2 (by simp) (fun q e => by cases e; exact Nat.le_refl _)
      have happ2 := append_founds (base := wq1.heap.size) hop2 hnp2 (HFx4.out.below hcp2) (by have := Hlx.out; have := Hly.out; simp; omega) hsp2 22
      have hlop2 := hop2.lt
      clear hgp2 happ hop2 hnp2
      gi_wp2_with (gi_at_builtin; refine wpListIn_append_run _ rfl _ _ 22 rfl _ _ rfl rfl _ happ2 ?_)
      intro vq2 wq2 hoq2 hnq2 hgq2
      have hcq2 : Below wq1.heap.size wq1 wq2 := hcp2.grown hgq2 hsp2 (fun k e => (hlop2 k e).1)
      have hres2 : ∃ L, OwnF w3.heap.size wq2 vq2 L ∧ vq2 ≠ .slice none 0 0 ∧ L.length ≤ 20 ∧ (∀ f, f ∈ L ↔ f ∈ zx.drop j1 ∨ f ∈ zy.drop j2) ∧ Below w3.heap.size w3 wq2 :=
        ⟨_, OwnF.low hoq2 Hcq1.out.size, hnq2, by have := Hlx.out; have := Hly.out; simp; omega, fun f => by simp [or_comm], Hcq1.out.trans (hcq2.mono Hcq1.out.size)⟩
      have Hres2 := Lib.hid hres2
      clear hoq2 hnq2 hgq2 happ2 hlop2 hcp2 hsp2 hcq2 hres2
      gi_wp2_with fail
      refine Met.intro (hJ _ _ ?_)
      repeat apply Exists.intro
      exact ⟨Hres2.out, rfl⟩
  case rest =>
    obtain ⟨L, hown, hne, hL20, hmem, hbd⟩ := hcut
    obtain ⟨wd, rfl⟩ : ∃ x, x = wc := ⟨_, rfl⟩
    have hmc : ∀ f, f ∈ L.map core ↔ f ∈ partJ (3 + a % 20) 5 j1 ∨ f ∈ partJ (30 + b % 20) 6 j2 := fun f => by
      unfold partJ
      rw [← Hzx.out, ← Hzy.out, ← List.map_drop, ← List.map_drop, List.mem_map, List.mem_map, List.mem_map]
      constructor
      · rintro ⟨x, hx, rfl⟩
        rcases (hmem x).1 hx with q | q
        · exact .inl ⟨x, q, rfl⟩
        · exact .inr ⟨x, q, rfl⟩
      · rintro (⟨x, q, rfl⟩ | ⟨x, q, rfl⟩)
        · exact ⟨x, (hmem x).2 (.inl q), rfl⟩
        · exact ⟨x, (hmem x).2 (.inr q), rfl⟩
    have hfit : ∀ f ∈ L, f.r.fits := fun f hf => by
      rcases (hmem f).1 hf with q | q
      · exact fits_of_core Hzx.out (copyL_fits keyK (by decide) _ _ _) f (List.mem_of_mem_drop q)
      · exact fits_of_core Hzy.out (copyL_fits keyK (by decide) _ _ _) f (List.mem_of_mem_drop q)
    have hF13 := hown.founds
    obtain ⟨a13, c13, e13⟩ := hF13.slice
    subst e13
    have HF13 := Lib.hid hF13
    have Hmc := Lib.hid hmc
    have Hfit := Lib.hid hfit
    have HL20 := Lib.hid hL20
    have Hbd := Lib.hid hbd
    clear hown hne hL20 hmem hbd hmc hfit hF13
    gi_wp2_with fail
    refine ⟨fun h => (by cases h), (callsIn_wide.2 (best_any _ _ _ L (by have := HL20.out; omega) Hfit.out wd HF13.out)).mono ?_⟩
    rintro e we ⟨ve, es, me, rfl, hbae, hane, hbe⟩
    obtain ⟨p, rfl, hpg, rfl⟩ := two_plain (by omega) (by omega) (by omega) hj1' hj2' Hmc.out (answer_core hane rfl)
    have hent : ∃ g, ve = .slice (some ⟨g, 0, none⟩) 1 1 ∧ ∀ w', Below we.heap.size we w' → w'.cell? ⟨g, 1, none⟩ = some (.int .i64 (if j1 < j2 then 3 + a % 20 else 30 + b % 20)) := by
      rcases hbae.ents with ⟨e, _⟩ | ⟨g, e, _, _, hat⟩
      · cases e
      · have hx := (hat 0 (by simp)).c1
        simp only [List.getElem_cons_zero] at hx
        rw [hpg] at hx
        have hlt : g < we.heap.size := World.block_lt_of_cell? we ⟨g, _, none⟩ hx
        exact ⟨g, e, fun w' hb => (hb.cell (p := ⟨g, _, none⟩) hlt).trans (by simpa using hx)⟩
    obtain ⟨ge, rfl, hcell⟩ := hent
    have Hcell := Lib.hid hcell
    have Hbe := Lib.hid hbe
    clear hbae hane hpg hcell hbe
    have fin : ∀ w', Below we.heap.size we w' → Below w.heap.size w w' := fun w' hb => by
      have h1 := Hbd.out.trans ((Hbe.out.trans (hb.mono Hbe.out.size)).mono Hbd.out.size)
      have h2 := Hbw3.out.trans (h1.mono Hbw3.out.size)
      have h3 := Hbw2.out.trans (h2.mono Hbw2.out.size)
      exact Hbw1.out.trans (h3.mono Hbw1.out.size)
    have Fin := Lib.hid fin
    clear fin
    by_cases hjj : j1 < j2
    · have hc := Hcell.out
      rw [if_pos hjj] at hc
      have Hc := Lib.hid hc
      have hgt : 10 - j2 < 10 - j1 := by omega
      clear hc
      gi_wp2_with fail
      refine ⟨fun h => (by cases h), (awake_in (n - 1) we).mono ?_⟩
      rintro e w10 ⟨rfl, hb10⟩
      have hc1 := Hc.out w10 hb10
      gi_wp2_with fail
      go_ret
      exact ⟨rfl, Fin.out _ hb10⟩
    · have hc := Hcell.out
      rw [if_neg hjj] at hc
      have Hc := Lib.hid hc
      have hgt : ¬ (10 - j2 < 10 - j1) := by omega
      clear hc
      gi_wp2_with fail
      refine ⟨fun h => (by cases h), (awake_in (n - 1) we).mono ?_⟩
      rintro e w10 ⟨rfl, hb10⟩
      have hc1 := Hc.out w10 hb10
      gi_wp2_with fail
      go_ret
      exact ⟨rfl, Fin.out _ hb10⟩

end Go.Proofs.Ytbcefiefeobmcaa
