/-
  ScanHolds: its walk.
-/
import Derived.Test.YtbcefiefeobmcaaHwk
import Derived.Laws.Cover1
namespace Go.Proofs.Ytbcefiefeobmcaa
open Go.Sort Go.RowKit Go.Shelf Go.Maps Go.WideElems

theorem wide_fn17 (f : FuncId) : Fence.wide.fn f = True := rfl
attribute [local go_sem] Oper.semAt_some wide_fn17

set_option maxRecDepth 100000 in
set_option maxHeartbeats 8000000 in
theorem holds_law_in (n : Nat) (a : Option Addr) (len cap : Nat) (hlc : len ≤ cap) (zs : List Fnd) (hfit : ∀ f ∈ zs, f.r.fits) (w : World) (hF : Founds w.heap.size w (.slice a len cap) zs) :
    CallsIn Fence.wide n Try.prog 4 #[.slice a len cap] w fun e W' => e = .returned (.bool true) ∧ Below w.heap.size w W' := by
  refine callsIn_of_wp Try.func4 rfl trivial ?_ rfl
  simp only [Try.ntmps4, List.size_toArray, List.length_cons, List.length_nil, Nat.reduceAdd, Nat.reduceSub, Array.replicate_succ, Array.replicate_zero, List.push_toArray, List.append_toArray, List.nil_append, List.cons_append]
  have Hfit := Lib.hid hfit
  clear hfit
  gi_wp2_with fail
  refine ⟨fun h => (by cases h), (callsIn_wide.2 (few_any a len cap hlc _ zs w hF)).mono ?_⟩
  rintro e w1 ⟨a1, l1, c1, rfl, hlc1, hF1, rfl⟩
  have hl1 := hF1.lens
  have hft : ∀ f ∈ zs.take 130, f.r.fits := fun f hf => Hfit.out f (List.mem_of_mem_take hf)
  have hlt : (zs.take 130).length ≤ 130 := by rw [List.length_take]; omega
  generalize zs.take 130 = zt at *
  subst hl1
  have Hft := Lib.hid hft
  have HF1 := Lib.hid hF1
  clear hF hft hF1 Hfit
  gi_wp2_with fail
  refine ⟨fun h => (by cases h), (callsIn_wide.2 (best_any _ _ _ zt (by omega) Hft.out w HF1.out)).mono ?_⟩
  rintro e w2 ⟨v2, es, m, rfl, hba2, han2, hb2⟩
  have hF2 := (HF1.out.below hb2).up hb2.size
  obtain ⟨ab2, hab2⟩ := hba2.len
  subst hab2
  have hes : es.length ≤ 130 := by have := answer_few han2; omega
  have hX : ∀ j (h : j < es.length), ∃ g, ab2 = some ⟨g, 0, none⟩ ∧ g < w2.heap.size ∧ es[j].2.2.1 < w2.heap.size ∧ ∀ wr, Below w2.heap.size w2 wr → EntAt wr g (j * 5) es[j] ∧ PlAt wr es[j].2.2.1 es[j].2.2.2 := fun j hj => by
    rcases hba2.ents with ⟨e, _⟩ | ⟨g, e, _, _, hat⟩
    · rw [e] at hj; cases hj
    · simp only [Value.slice.injEq] at e
      have hx := hat j hj
      have hlt : g < w2.heap.size := World.block_lt_of_cell? w2 ⟨g, _, none⟩ hx.c0
      have hr := (hba2.rows _ (List.getElem_mem hj)).2
      refine ⟨g, e.1, hlt, hr.lt, fun wr hbr => ⟨⟨?_, ?_, ?_, ?_, ?_⟩, hr.places.below hbr hr.lt⟩⟩
      · exact (hbr.cell (p := ⟨g, _, none⟩) hlt).trans hx.c0
      · exact (hbr.cell (p := ⟨g, _, none⟩) hlt).trans hx.c1
      · exact (hbr.cell (p := ⟨g, _, none⟩) hlt).trans hx.c2
      · exact (hbr.cell (p := ⟨g, _, none⟩) hlt).trans hx.c3
      · exact (hbr.cell (p := ⟨g, _, none⟩) hlt).trans hx.c4
  have hok := answer_ok han2
  have hsort := answer_sorted han2 hba2.keys
  have hkeys := hba2.keys
  have HX := Lib.hid hX
  have Hok := Lib.hid hok
  have Hsort := Lib.hid hsort
  have Hkeys := Lib.hid hkeys
  have HF2 := Lib.hid hF2
  have Hb2 := Lib.hid hb2
  clear hba2 han2 hF2 hb2 hX hok hsort hkeys
  gi_wp2_with fail
  gi_loopw [6] (fun v6 wr => ∃ i : Nat, i ≤ es.length ∧ v6 = .int .i64 i ∧ Below w2.heap.size w2 wr) (fun v _ => es.length - (intOf v).toNat)
  case atStart => exact ⟨0, Nat.zero_le _, rfl, Below.refl _ _⟩
  case round =>
    obtain ⟨i, hi, rfl, hbr⟩ := hrel
    obtain ⟨wi, rfl⟩ : ∃ x, x = wr := ⟨_, rfl⟩
    by_cases hlti : i < es.length
    · have hiw : IntKind.i64.wrap ((i : Int) + 1) = i + 1 := IntWalk.i64_in _ (by omega)
      obtain ⟨ge, rfl, hge, hgp, hat⟩ := HX.out i hlti
      have heok := Hok.out _ (List.getElem_mem hlti)
      have hkey := Hkeys.out _ (List.getElem_mem hlti)
      have hprev : i = 0 ∨ ∃ k x, i = k + 1 ∧ Op.bytesLess x.toList es[i].1.toList = true ∧ ∀ wr, Below w2.heap.size w2 wr → wr.cell? ⟨ge, k * 5, none⟩ = some (.string x) := by
        rcases Nat.eq_zero_or_pos i with h0 | h0
        · exact .inl h0
        · obtain ⟨k, rfl⟩ : ∃ k, i = k + 1 := ⟨i - 1, by omega⟩
          obtain ⟨g', e', _, _, hat'⟩ := HX.out k (by omega)
          simp only [Option.some.injEq, Addr.mk.injEq] at e'
          obtain ⟨rfl, _⟩ := e'
          refine .inr ⟨k, (es[k]'(by omega)).1, rfl, ?_, fun wr hb => (hat' wr hb).1.c0⟩
          rw [bytesLess_iff]
          exact decide_eq_true (Hsort.out k hlti)
      generalize es[i] = p at hat heok hkey hprev hgp
      obtain ⟨pk, ⟨bk, bg, bgr, bz, bs⟩, gp, ps⟩ := p
      dsimp only at hat heok hkey hprev hgp
      subst hkey
      obtain ⟨hgen, ⟨gn, hlenp, hg1, hg4, hcnt⟩, hdead, hhits⟩ := heok
      dsimp only at hgen hlenp hcnt hdead hhits
      obtain ⟨⟨x0, x1, x2, x3, x4⟩, _⟩ := hat wi hbr
      simp only [sliceVal] at x4
      dsimp only at x0 x1 x2 x3
      obtain ⟨L, hL⟩ : ∃ L, L = ps.length := ⟨_, rfl⟩
      rw [← hL] at x4
      have hE0 : ∀ wE, wE = wi.alloc (.cells #[.string bk, .int .i64 bg, .int .i64 bz, .string bs, .slice (some ⟨gp, 0, none⟩) L L] 32) → ∀ w', Below wE.heap.size wE w' → (w'.cell? ⟨wi.heap.size, 0, none⟩ = some (.string bk) ∧ w'.cell? ⟨wi.heap.size, 1, none⟩ = some (.int .i64 bg) ∧ w'.cell? ⟨wi.heap.size, 2, none⟩ = some (.int .i64 bz) ∧ w'.cell? ⟨wi.heap.size, 3, none⟩ = some (.string bs) ∧ w'.cell? ⟨wi.heap.size, 4, none⟩ = some (.slice (some ⟨gp, 0, none⟩) L L)) ∧ PlAt w' gp ps ∧ gp < w'.heap.size ∧ Below w2.heap.size w2 w' := by
        rintro wE rfl w' hb
        have hbE : Below wi.heap.size wi (wi.alloc (.cells #[.string bk, .int .i64 bg, .int .i64 bz, .string bs, .slice (some ⟨gp, 0, none⟩) L L] 32)) := (Below.refl _ wi).alloc (Nat.le_refl _) _
        have hc : ∀ o, w'.cell? ⟨wi.heap.size, o, none⟩ = (wi.alloc (.cells #[.string bk, .int .i64 bg, .int .i64 bz, .string bs, .slice (some ⟨gp, 0, none⟩) L L] 32)).cell? ⟨wi.heap.size, o, none⟩ := fun o => hb.cell (p := ⟨wi.heap.size, o, none⟩) (by simp)
        have hb2 : Below w2.heap.size w2 w' := hbr.trans ((hbE.trans (hb.mono hbE.size)).mono hbr.size)
        refine ⟨⟨?_, ?_, ?_, ?_, ?_⟩, (hat w' hb2).2, Nat.lt_of_lt_of_le hgp hb2.size, hb2⟩ <;> (rw [hc]; simp [go_sem])
      have hm10 : (L : Int) % 10 = 0 := by omega
      have hL0 : ((L : Int) == 0) = false := by rw [beq_eq_false_iff_ne]; omega
      have Hhits := Lib.hid hhits
      have Hdead := Lib.hid hdead
      have Hcnt := Lib.hid hcnt
      have Hlenp := Lib.hid hlenp
      have HL := Lib.hid hL
      have Hm10 := Lib.hid hm10
      have HL0 := Lib.hid hL0
      have HE0 := Lib.hid hE0
      have Hprev := Lib.hid hprev
      have hL1 : 1 ≤ L := by omega
      have hL40 : L ≤ 40 := by omega
      clear hat hhits hdead hcnt hlenp hL hm10 hL0 hE0 hprev
      gi_wp2_with fail
      obtain ⟨wE, hwE⟩ : ∃ x, x = wi.alloc (.cells #[.string bk, .int .i64 bg, .int .i64 bz, .string bs, .slice (some ⟨gp, 0, none⟩) L L] 32) := ⟨_, rfl⟩
      have hE := HE0.out wE hwE
      have hwiE : wi.heap.size < wE.heap.size := by rw [hwE]; simp
      have hbE : Below wi.heap.size wi wE := by rw [hwE]; exact (Below.refl _ wi).alloc (Nat.le_refl _) _
      have HE := Lib.hid hE
      have HbE := Lib.hid hbE
      rw [← hwE]
      clear hwE hE hbE x0 x1 x2 x3 x4 HE0
      gi_cut [61] from 1000 (fun v61 wd => v61 = .bool false ∧ ∃ nq, wd = wE.drewN nq)
      case first J K' hJ hK' =>
        obtain ⟨⟨e0, e1, e2, e3, e4⟩, _, _, hb2E⟩ := HE.out wE (Below.refl _ _)
        have hm10 := Hm10.out
        have hL0 := HL0.out
        have hgd : decide (m < bg) = false := by simpa using hgen
        rcases Hprev.out with rfl | ⟨k, x, rfl, hless, hcx⟩
        · gi_quiet (fail)
          gi_wp2_with fail
          refine Met.intro (hJ _ _ ?_)
          repeat apply Exists.intro
          exact ⟨⟨rfl, _, rfl⟩, rfl⟩
        · have cx := hcx wE hb2E
          clear hcx
          gi_quiet (fail)
          gi_wp2_with fail
          refine Met.intro (hJ _ _ ?_)
          repeat apply Exists.intro
          exact ⟨⟨rfl, _, rfl⟩, rfl⟩
      case rest =>
        obtain ⟨rfl, nq, hwd⟩ := hcut
        have hbd : Below wE.heap.size wE wc := by rw [hwd]; exact ⟨rfl, rfl, rfl, Nat.le_refl _, fun _ _ => rfl⟩
        obtain ⟨wd, rfl⟩ : ∃ x, x = wc := ⟨_, rfl⟩
        have Hbd := Lib.hid hbd
        clear hwd hbd
        gi_wp2_with fail
        gi_loopw [8] (fun v8 wr => ∃ k : Nat, k ≤ zt.length ∧ v8 = .int .i64 k ∧ Below wE.heap.size wE wr) (fun v _ => zt.length - (intOf v).toNat)
        case atStart => exact ⟨0, Nat.zero_le _, rfl, Hbd.out⟩
        case round =>
          obtain ⟨k, hk, rfl, hbk⟩ := hrel
          obtain ⟨wk, rfl⟩ : ∃ x, x = wr := ⟨_, rfl⟩
          by_cases hltk : k < zt.length
          · have hkw : IntKind.i64.wrap ((k : Int) + 1) = k + 1 := IntWalk.i64_in _ (by omega)
            obtain ⟨bz', oz, rfl, hbz, hatk⟩ : ∃ bz' oz, a1 = some ⟨bz', oz, none⟩ ∧ bz' < w2.heap.size ∧ ∀ w', Below w2.heap.size w2 w' → FndAt w' bz' (oz + k * 12) zt[k] := by
              rcases HF2.out with ⟨a', cap', e, e2⟩ | ⟨b', off', cap', e, hb', h⟩
              · rw [e2] at hltk; cases hltk
              · simp only [Value.slice.injEq] at e
                exact ⟨b', off', e.1, hb', fun w' hb => (h k hltk).below hb hb'⟩
            have hfk := Hft.out zt[k] (List.getElem_mem hltk)
            have hdk := Hdead.out zt[k] (List.getElem_mem hltk)
            generalize zt[k] = f at hatk hfk hdk
            obtain ⟨ac, ap, ⟨kd, ct, fk, fg, gr, grs, ix, fz, fs, da, dn, dc⟩⟩ := f
            have hbk2 : Below w2.heap.size w2 wk := (HE.out wk hbk).2.2.2
            have hbzk : bz' < wk.heap.size := Nat.lt_of_lt_of_le hbz hbk2.size
            obtain ⟨x0, x1, x2, x3, x4, x5, x6, x7, x8, x9, x10, x11⟩ := hatk wk hbk2
            dsimp only at x0 x1 x2 x3 x4 x5 x6 x7 x8 x9 x10 x11
            have Hdk := Lib.hid hdk
            have Hfk := Lib.hid hfk
            have Hatk := Lib.hid hatk
            have Hbk := Lib.hid hbk
            clear hdk hfk hatk hbk
            gi_upto_region 13 with (fail)
            obtain ⟨wp, hwp⟩ : ∃ x, x = wk.alloc (.cells #[.int .i64 ac, .int .i64 ap] 34) := ⟨_, rfl⟩
            have hbp : Below wk.heap.size wk wp := by rw [hwp]; exact (Below.refl _ wk).alloc (Nat.le_refl _) _
            have hp0 : wp.cell? ⟨wk.heap.size, 0, none⟩ = some (.int .i64 ac) := by rw [hwp]; simp [go_sem]
            have hp1 : wp.cell? ⟨wk.heap.size, 1, none⟩ = some (.int .i64 ap) := by rw [hwp]; simp [go_sem]
            have Hbp := Lib.hid hbp
            rw [← hwp]
            clear hwp hbp x0 x1 x2 x3 x4 x5 x6 x7 x8 x9 x10 x11
            gi_cut [10] from 1000 (fun v10 wd => v10 = .bool (Fnd.placeB ⟨ac, ap, ⟨kd, ct, fk, fg, gr, grs, ix, fz, fs, da, dn, dc⟩⟩) ∧ wd = wp)
            case first J K' hJ hK' =>
              have fin : ∀ b : Bool, b = Fnd.placeB ⟨ac, ap, ⟨kd, ct, fk, fg, gr, grs, ix, fz, fs, da, dn, dc⟩⟩ → Value.bool b = .bool (Fnd.placeB ⟨ac, ap, ⟨kd, ct, fk, fg, gr, grs, ix, fz, fs, da, dn, dc⟩⟩) := fun b hb => by rw [hb]
              have Fin := Lib.hid fin
              clear fin
              by_cases h1 : 0 ≤ ac
              · by_cases h2 : ac < 32
                · by_cases h3 : 0 ≤ ap
                  · by_cases h4 : ap < 1024
                    · have hv : true = Fnd.placeB ⟨ac, ap, ⟨kd, ct, fk, fg, gr, grs, ix, fz, fs, da, dn, dc⟩⟩ := by simp [Fnd.placeB, h1, h2, h3, h4]
                      have Hv := Lib.hid hv
                      clear hv
                      gi_wp2_with fail
                      refine Met.intro (hJ _ _ ?_)
                      repeat apply Exists.intro
                      exact ⟨⟨Fin.out _ Hv.out, rfl⟩, rfl⟩
                    · have hv : false = Fnd.placeB ⟨ac, ap, ⟨kd, ct, fk, fg, gr, grs, ix, fz, fs, da, dn, dc⟩⟩ := by simp [Fnd.placeB, h4]
                      have Hv := Lib.hid hv
                      clear hv
                      gi_wp2_with fail
                      refine Met.intro (hJ _ _ ?_)
                      repeat apply Exists.intro
                      exact ⟨⟨Fin.out _ Hv.out, rfl⟩, rfl⟩
                  · have hv : false = Fnd.placeB ⟨ac, ap, ⟨kd, ct, fk, fg, gr, grs, ix, fz, fs, da, dn, dc⟩⟩ := by simp [Fnd.placeB, h3]
                    have Hv := Lib.hid hv
                    clear hv
                    gi_wp2_with fail
                    refine Met.intro (hJ _ _ ?_)
                    repeat apply Exists.intro
                    exact ⟨⟨Fin.out _ Hv.out, rfl⟩, rfl⟩
                · have hv : false = Fnd.placeB ⟨ac, ap, ⟨kd, ct, fk, fg, gr, grs, ix, fz, fs, da, dn, dc⟩⟩ := by simp [Fnd.placeB, h2]
                  have Hv := Lib.hid hv
                  clear hv
                  gi_wp2_with fail
                  refine Met.intro (hJ _ _ ?_)
                  repeat apply Exists.intro
                  exact ⟨⟨Fin.out _ Hv.out, rfl⟩, rfl⟩
              · have hv : false = Fnd.placeB ⟨ac, ap, ⟨kd, ct, fk, fg, gr, grs, ix, fz, fs, da, dn, dc⟩⟩ := by simp [Fnd.placeB, h1]
                have Hv := Lib.hid hv
                clear hv
                gi_wp2_with fail
                refine Met.intro (hJ _ _ ?_)
                repeat apply Exists.intro
                exact ⟨⟨Fin.out _ Hv.out, rfl⟩, rfl⟩
            case rest =>
              obtain ⟨rfl, rfl⟩ := hcut
              obtain ⟨wp, rfl⟩ : ∃ x, x = wc := ⟨_, rfl⟩
              have hbEp : Below wE.heap.size wE wp := Hbk.out.trans (Hbp.out.mono Hbk.out.size)
              obtain ⟨⟨e0, e1, _, _, _⟩, _, _, hb2p⟩ := HE.out wp hbEp
              obtain ⟨x0, x1, x2, x3, x4, x5, x6, x7, x8, x9, x10, x11⟩ := Hatk.out wp hb2p
              dsimp only at x0 x1 x2 x3 x4 x5 x6 x7 x8 x9 x10 x11
              have k2 := cell_regrown x2
              have k3 := cell_regrown x3
              have k4 := cell_regrown x4
              have k5 := cell_regrown x5
              have k6 := cell_regrown x6
              have k7 := cell_regrown x7
              have k8 := cell_regrown x8
              have k9 := cell_regrown x9
              have k10 := cell_regrown x10
              have k11 := cell_regrown x11
              have ke0 := cell_regrown e0
              have ke1 := cell_regrown e1
              have cG : ∀ d os, CallsIn Fence.wide (n - 1) Try.prog 14 #[.agg #[.int .i64 kd, .int .i64 ct, .string fk, .int .i64 fg, .int .i64 gr, .int .i64 grs, .int .i64 ix, .int .i64 fz, .string fs, .slice da dn dc]] (grow (redrawn wp d) os) fun e w'' => e = .returned (.bool (Rec.goodB ⟨kd, ct, fk, fg, gr, grs, ix, fz, fs, da, dn, dc⟩)) ∧ ∃ p : Regrown, w'' = grow (redrawn wp p.d) p.os := fun d os => CallsIn.regrown_of (callsIn_wide.2 (good_any ⟨kd, ct, fk, fg, gr, grs, ix, fz, fs, da, dn, dc⟩ Hfk.out _))
              have hbQ : ∀ p : Regrown, Below wk.heap.size wk (grow (redrawn wp p.d) p.os) := fun p => Hbp.out.trans ((below_regrown wp p.d p.os).mono Hbp.out.size)
              have HbQ := Lib.hid hbQ
              have HbEp := Lib.hid hbEp
              clear x0 x1 x2 x3 x4 x5 x6 x7 x8 x9 x10 x11 e0 e1 hbQ hp0 hp1 hb2p hbEp
              gi_upto_region 14 with (fail)
              gi_cut [10, 130] from 1000 (fun _ v130 wd => v130 = .bool false ∧ Below wk.heap.size wk wd)
              case first J K' hJ hK' =>
                cases hpl : Fnd.placeB ⟨ac, ap, ⟨kd, ct, fk, fg, gr, grs, ix, fz, fs, da, dn, dc⟩⟩ with
                | false =>
                  clear hpl
                  refine wpIn_region_quiet_below rfl (by kernel_rfl) (by kernel_rfl) ?_
                  try dsimp only [List.append]
                  repeat (gi_big_quiet_step (exact ⟨fun h => (by cases h), cG _ _⟩))
                  refine wpQuietIn_nil ?_
                  intro _ hw'
                  obtain ⟨⟨dq, osq⟩, hw''⟩ := hw'
                  subst hw''
                  gi_wp2_with fail
                  refine Met.intro (hJ _ _ ?_)
                  repeat apply Exists.intro
                  exact ⟨⟨rfl, HbQ.out ⟨dq, osq⟩⟩, rfl⟩
                | true =>
                  cases hgd : Rec.goodB ⟨kd, ct, fk, fg, gr, grs, ix, fz, fs, da, dn, dc⟩ with
                  | false =>
                    rw [hgd] at cG
                    clear hpl hgd
                    refine wpIn_region_quiet_below rfl (by kernel_rfl) (by kernel_rfl) ?_
                    try dsimp only [List.append]
                    repeat (gi_big_quiet_step (exact ⟨fun h => (by cases h), cG _ _⟩))
                    refine wpQuietIn_nil ?_
                    intro _ hw'
                    obtain ⟨⟨dq, osq⟩, hw''⟩ := hw'
                    subst hw''
                    gi_wp2_with fail
                    refine Met.intro (hJ _ _ ?_)
                    repeat apply Exists.intro
                    exact ⟨⟨rfl, HbQ.out ⟨dq, osq⟩⟩, rfl⟩
                  | true =>
                    rw [hgd] at cG
                    by_cases h3 : kd = 3
                    · by_cases h4 : fk = bk
                      · by_cases h5 : bg ≤ fg
                        · exact (Hdk.out hpl hgd h3 h4 h5).elim
                        · subst h3 h4
                          have d5 : decide (bg ≤ fg) = false := by simpa using h5
                          clear hpl hgd
                          refine wpIn_region_quiet_below rfl (by kernel_rfl) (by kernel_rfl) ?_
                          try dsimp only [List.append]
                          repeat (gi_big_quiet_step (exact ⟨fun h => (by cases h), cG _ _⟩))
                          refine wpQuietIn_nil ?_
                          intro _ hw'
                          obtain ⟨⟨dq, osq⟩, hw''⟩ := hw'
                          subst hw''
                          gi_wp2_with fail
                          refine Met.intro (hJ _ _ ?_)
                          repeat apply Exists.intro
                          exact ⟨⟨rfl, HbQ.out ⟨dq, osq⟩⟩, rfl⟩
                      · subst h3
                        have d4 : (fk.toList == bk.toList) = false := by rw [beq_eq_false_iff_ne]; exact fun e => h4 (toList_inj e)
                        clear hpl hgd
                        refine wpIn_region_quiet_below rfl (by kernel_rfl) (by kernel_rfl) ?_
                        try dsimp only [List.append]
                        repeat (gi_big_quiet_step (exact ⟨fun h => (by cases h), cG _ _⟩))
                        refine wpQuietIn_nil ?_
                        intro _ hw'
                        obtain ⟨⟨dq, osq⟩, hw''⟩ := hw'
                        subst hw''
                        gi_wp2_with fail
                        refine Met.intro (hJ _ _ ?_)
                        repeat apply Exists.intro
                        exact ⟨⟨rfl, HbQ.out ⟨dq, osq⟩⟩, rfl⟩
                    · have d3 : (kd == 3) = false := by simpa using h3
                      clear hpl hgd
                      refine wpIn_region_quiet_below rfl (by kernel_rfl) (by kernel_rfl) ?_
                      try dsimp only [List.append]
                      repeat (gi_big_quiet_step (exact ⟨fun h => (by cases h), cG _ _⟩))
                      refine wpQuietIn_nil ?_
                      intro _ hw'
                      obtain ⟨⟨dq, osq⟩, hw''⟩ := hw'
                      subst hw''
                      gi_wp2_with fail
                      refine Met.intro (hJ _ _ ?_)
                      repeat apply Exists.intro
                      exact ⟨⟨rfl, HbQ.out ⟨dq, osq⟩⟩, rfl⟩
              case rest =>
                obtain ⟨rfl, hbw⟩ := hcut
                obtain ⟨wd2, rfl⟩ : ∃ x, x = wc := ⟨_, rfl⟩
                have hbr' : Below wE.heap.size wE wd2 := Hbk.out.trans (hbw.mono Hbk.out.size)
                have Hbr' := Lib.hid hbr'
                clear hbr' hbw k2 k3 k4 k5 k6 k7 k8 k9 k10 k11 ke0 ke1 cG
                gi_wp2_with fail
                go_roundw
                case rel => exact ⟨k + 1, by omega, by simp, Hbr'.out⟩
                case measure => simp [intOf]; omega
          · obtain rfl : k = zt.length := by omega
            have Hbk := Lib.hid hbk
            clear hbk
            gi_wp2_with fail
            gi_loopw [11, 12] (fun v11 v12 wr => ∃ s t : Nat, s ≤ L ∧ v12 = .int .i64 s ∧ v11 = .int .i64 t ∧ t ≤ 10 ∧ (s % 10 ≠ 0 → t = cntTo ps (s / 10) (s % 10)) ∧ Below wE.heap.size wE wr) (fun _ v _ => L - (intOf v).toNat)
            case atStart => exact ⟨0, 0, Nat.zero_le _, rfl, rfl, by omega, fun h => absurd rfl h, Hbk.out⟩
            case round =>
              obtain ⟨s, t, hs, rfl, rfl, ht10, hcn, hbs⟩ := hrel
              obtain ⟨ws, rfl⟩ : ∃ x, x = wr := ⟨_, rfl⟩
              obtain ⟨⟨e0, e1, e2, e3, e4⟩, hpl, hgpl, hb2s⟩ := HE.out ws hbs
              have Hbs := Lib.hid hbs
              have Hcn := Lib.hid hcn
              clear hbs hcn
              by_cases hlts : s < L
              · have hsw : IntKind.i64.wrap ((s : Int) + 1) = s + 1 := IntWalk.i64_in _ (by omega)
                have hsp : s < ps.length := by rw [← HL.out]; exact hlts
                obtain ⟨hq0, hq1⟩ := hpl s hsp
                have hhit := Hhits.out s hsp
                have hsucc := cntTo_succ ps (s / 10) (s % 10) (q := ps[s]) (by rw [show s / 10 * 10 + s % 10 = s by omega]; exact List.getElem?_eq_getElem hsp)
                generalize ps[s] = q at hq0 hq1 hhit hsucc
                have hfin8 : s % 10 = 9 → 8 ≤ cntTo ps (s / 10) (s % 10 + 1) := fun h9 => by
                  have := Hcnt.out (s / 10) (by have := Hlenp.out; have := HL.out; omega)
                  rw [h9]; exact this
                have hc10 : cntTo ps (s / 10) (s % 10 + 1) ≤ 10 := by
                  unfold cntTo
                  exact Nat.le_trans (List.length_filter_le _ _) (Nat.le_trans (List.length_take_le _ _) (by omega))
                have Hhit := Lib.hid hhit
                have Hsucc := Lib.hid hsucc
                have Hfin8 := Lib.hid hfin8
                have Hpl := Lib.hid hpl
                clear hhit hsucc hfin8 hpl
                gi_upto_if 140 with (fail)
                gi_cut [11] from 1000 (fun v11 wd => (∃ t' : Nat, v11 = .int .i64 t' ∧ t' = cntTo ps (s / 10) (s % 10)) ∧ wd = ws)
                case first J K' hJ hK' =>
                  by_cases h0 : s % 10 = 0
                  · have hres : ∃ t' : Nat, Value.int .i64 0 = .int .i64 t' ∧ t' = cntTo ps (s / 10) (s % 10) := ⟨0, rfl, by rw [h0]; simp [cntTo]⟩
                    have Hres := Lib.hid hres
                    have hd : (s : Int) % 10 = 0 := by omega
                    clear hres h0
                    gi_wp2_with fail
                    refine Met.intro (hJ _ _ ?_)
                    repeat apply Exists.intro
                    exact ⟨⟨Hres.out, rfl⟩, rfl⟩
                  · have hres : ∃ t' : Nat, Value.int .i64 t = .int .i64 t' ∧ t' = cntTo ps (s / 10) (s % 10) := ⟨t, rfl, Hcn.out h0⟩
                    have Hres := Lib.hid hres
                    have hd : ((s : Int) % 10 == 0) = false := by rw [beq_eq_false_iff_ne]; omega
                    clear hres h0
                    gi_wp2_with fail
                    refine Met.intro (hJ _ _ ?_)
                    repeat apply Exists.intro
                    exact ⟨⟨Hres.out, rfl⟩, rfl⟩
                case rest =>
                  obtain ⟨⟨t', rfl, htc⟩, rfl⟩ := hcut
                  obtain ⟨ws, rfl⟩ : ∃ x, x = wc := ⟨_, rfl⟩
                  have hcall := holds_in (n - 1) a1 c1 zt (by omega) Hft.out bk bs bg bz gp L L s hlts (by omega) q ws ((HF2.out.below hb2s).up hb2s.size) hgpl hq0 hq1
                  rw [Hhit.out] at hcall
                  have Hcall := Lib.hid hcall
                  have Htc := Lib.hid htc
                  have Hq0 := Lib.hid hq0
                  have Hq1 := Lib.hid hq1
                  have ht'10 : t' ≤ 10 := by
                    rw [htc]; unfold cntTo
                    exact Nat.le_trans (List.length_filter_le _ _) (Nat.le_trans (List.length_take_le _ _) (by omega))
                  have htw : IntKind.i64.wrap ((t' : Int) + 1) = t' + 1 := IntWalk.i64_in _ (by omega)
                  clear hcall htc hq0 hq1
                  gi_wp2_with fail
                  refine ⟨fun h => (by cases h), Hcall.out.mono ?_⟩
                  rintro e wh ⟨rfl, hbh⟩
                  have hbh' : Below wE.heap.size wE wh := Hbs.out.trans (hbh.mono Hbs.out.size)
                  obtain ⟨⟨f0, f1, f2, f3, f4⟩, _, _, _⟩ := HE.out wh hbh'
                  have hqh0 : wh.cell? ⟨gp, s * 2, none⟩ = some (.int .i64 q.1) := (hbh.cell (p := ⟨gp, _, none⟩) hgpl).trans Hq0.out
                  have hqh1 : wh.cell? ⟨gp, s * 2 + 1, none⟩ = some (.int .i64 q.2) := (hbh.cell (p := ⟨gp, _, none⟩) hgpl).trans Hq1.out
                  have Hbh' := Lib.hid hbh'
                  clear e0 e1 e2 e3 e4 hbh hbh'
                  have hrel' : ∀ t2 : Nat, t2 = cntTo ps (s / 10) (s % 10 + 1) → ((s + 1) % 10 ≠ 0 → t2 = cntTo ps ((s + 1) / 10) ((s + 1) % 10)) := fun t2 h2 h3 => by
                    rw [h2, show (s + 1) / 10 = s / 10 by omega, show (s + 1) % 10 = s % 10 + 1 by omega]
                  have Hrel := Lib.hid hrel'
                  clear hrel'
                  by_cases hq : q = nowhere
                  · have hdq : decide (q ≠ nowhere) = false := by simpa using hq
                    rw [hdq]
                    have ht2 : t' = cntTo ps (s / 10) (s % 10 + 1) := by rw [Hsucc.out, if_pos hq, Htc.out]; rfl
                    rw [hq] at hqh0 hqh1
                    simp only [nowhere] at hqh0 hqh1
                    have Ht2 := Lib.hid ht2
                    by_cases h9 : s % 10 = 9
                    · have h8 : ¬ (t' : Int) < 8 := by have := Hfin8.out h9; omega
                      have hd : (s : Int) % 10 = 9 := by omega
                      clear hq hdq ht2 h9
                      gi_wp2_with fail
                      go_roundw
                      case rel => exact ⟨s + 1, t', by omega, by simp, rfl, by omega, Hrel.out _ Ht2.out, Hbh'.out⟩
                      case measure => simp [intOf]; omega
                    · have hd : ((s : Int) % 10 == 9) = false := by rw [beq_eq_false_iff_ne]; omega
                      clear hq hdq ht2 h9
                      gi_wp2_with fail
                      go_roundw
                      case rel => exact ⟨s + 1, t', by omega, by simp, rfl, by omega, Hrel.out _ Ht2.out, Hbh'.out⟩
                      case measure => simp [intOf]; omega
                  · have hdq : decide (q ≠ nowhere) = true := by simpa using hq
                    rw [hdq]
                    have ht2 : t' + 1 = cntTo ps (s / 10) (s % 10 + 1) := by rw [Hsucc.out, if_neg hq, Htc.out]
                    have Ht2 := Lib.hid ht2
                    have ht2' : t' + 1 ≤ 10 := by rw [ht2]; exact hc10
                    by_cases h9 : s % 10 = 9
                    · have h8 : ¬ (t' : Int) + 1 < 8 := by have := Hfin8.out h9; omega
                      have hd : (s : Int) % 10 = 9 := by omega
                      clear hq hdq ht2 h9
                      gi_wp2_with fail
                      go_roundw
                      case rel => exact ⟨s + 1, t' + 1, by omega, by simp, by simp, by omega, Hrel.out _ Ht2.out, Hbh'.out⟩
                      case measure => simp [intOf]; omega
                    · have hd : ((s : Int) % 10 == 9) = false := by rw [beq_eq_false_iff_ne]; omega
                      clear hq hdq ht2 h9
                      gi_wp2_with fail
                      go_roundw
                      case rel => exact ⟨s + 1, t' + 1, by omega, by simp, by simp, by omega, Hrel.out _ Ht2.out, Hbh'.out⟩
                      case measure => simp [intOf]; omega
              · obtain rfl : s = L := by omega
                have hbi : Below w2.heap.size w2 ws := hb2s
                have Hbi := Lib.hid hbi
                clear hbi hb2s hpl
                gi_wp2_with fail
                go_roundw
                case rel => exact ⟨i + 1, by omega, by simp, Hbi.out⟩
                case measure => simp [intOf]; omega
    · obtain rfl : i = es.length := by omega
      have Hbr := Lib.hid hbr
      clear hbr
      gi_wp2_with fail
      refine ⟨fun h => (by cases h), (awake_in (n - 1) wi).mono ?_⟩
      rintro e w10 ⟨rfl, hb10⟩
      gi_wp2_with fail
      go_ret
      have h1 := Hb2.out.trans (Hbr.out.mono Hb2.out.size)
      exact ⟨rfl, h1.trans (hb10.mono h1.size)⟩

end Go.Proofs.Ytbcefiefeobmcaa
