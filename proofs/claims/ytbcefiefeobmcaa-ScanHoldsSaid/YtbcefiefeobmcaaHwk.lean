/-
  The laws' own 'holds': was a shard of an entry found at its place?
-/
import Derived.Test.YtbcefiefeobmcaaHpl
import Derived.Test.YtbcefiefeobmcaaQub
namespace Go.Proofs.Ytbcefiefeobmcaa
open Go.Sort Go.RowKit Go.Shelf Go.Maps Go.WideElems

theorem wide_fn16 (f : FuncId) : Fence.wide.fn f = True := rfl
attribute [local go_sem] Oper.semAt_some wide_fn16

/-- The twelve cells, and where they are read. -/
structure RecAt (W : World) (b : Nat) (f : Fnd) : Prop where
  c0 : W.cell? ⟨b, 0, none⟩ = some (.int .i64 f.r.kind)
  c1 : W.cell? ⟨b, 1, none⟩ = some (.int .i64 f.r.cart)
  c2 : W.cell? ⟨b, 2, none⟩ = some (.string f.r.key)
  c3 : W.cell? ⟨b, 3, none⟩ = some (.int .i64 f.r.gen)
  c4 : W.cell? ⟨b, 4, none⟩ = some (.int .i64 f.r.group)
  c5 : W.cell? ⟨b, 5, none⟩ = some (.int .i64 f.r.groups)
  c6 : W.cell? ⟨b, 6, none⟩ = some (.int .i64 f.r.index)
  c7 : W.cell? ⟨b, 7, none⟩ = some (.int .i64 f.r.size)
  c8 : W.cell? ⟨b, 8, none⟩ = some (.string f.r.sum)
  c9 : W.cell? ⟨b, 9, none⟩ = some (.slice f.r.da f.r.dn f.r.dc)

set_option maxRecDepth 100000 in
set_option maxHeartbeats 8000000 in
theorem holds_in (n : Nat) (a : Option Addr) (cap : Nat) (zs : List Fnd) (hsmall : zs.length ≤ 1000) (hfit : ∀ f ∈ zs, f.r.fits) (key sum : ByteArray) (gen size : Int) (gp pl pc : Nat) (s : Nat) (hs : s < pl) (hpl : pl ≤ 1000) (p : Int × Int) (w : World)
    (hF : Founds w.heap.size w (.slice a zs.length cap) zs) (hgp : gp < w.heap.size) (hp0 : w.cell? ⟨gp, s * 2, none⟩ = some (.int .i64 p.1)) (hp1 : w.cell? ⟨gp, s * 2 + 1, none⟩ = some (.int .i64 p.2)) :
    CallsIn Fence.wide n Try.prog 15 #[.slice a zs.length cap, .agg #[.string key, .int .i64 gen, .int .i64 size, .string sum, .slice (some ⟨gp, 0, none⟩) pl pc], .int .i64 s] w fun e W' => e = .returned (.bool (zs.any (hitB p key gen size sum s))) ∧ Below w.heap.size w W' := by
  refine callsIn_of_wp Try.func15 rfl trivial ?_ rfl
  simp only [Try.ntmps15, List.size_toArray, List.length_cons, List.length_nil, Nat.reduceAdd, Nat.reduceSub, Array.replicate_succ, Array.replicate_zero, List.push_toArray, List.append_toArray, List.nil_append, List.cons_append]
  obtain ⟨pc0, pp0⟩ := p
  dsimp only at hp0 hp1
  have Hfit := Lib.hid hfit
  have HF := Lib.hid hF
  have Hp0 := Lib.hid hp0
  have Hp1 := Lib.hid hp1
  clear hfit hF hp0 hp1
  gi_wp2_with fail
  obtain ⟨w0, hw0⟩ : ∃ x, x = w.alloc (.cells #[.string key, .int .i64 gen, .int .i64 size, .string sum, .slice (some ⟨gp, 0, none⟩) pl pc] 32) := ⟨_, rfl⟩
  have hb0 : Below w.heap.size w w0 := by rw [hw0]; exact (Below.refl _ w).alloc (Nat.le_refl _) _
  have hsz0 : w.heap.size < w0.heap.size := by rw [hw0]; simp
  have hent : ∀ w', Below w0.heap.size w0 w' → w'.cell? ⟨w.heap.size, 0, none⟩ = some (.string key) ∧ w'.cell? ⟨w.heap.size, 1, none⟩ = some (.int .i64 gen) ∧ w'.cell? ⟨w.heap.size, 2, none⟩ = some (.int .i64 size) ∧ w'.cell? ⟨w.heap.size, 3, none⟩ = some (.string sum) ∧ w'.cell? ⟨w.heap.size, 4, none⟩ = some (.slice (some ⟨gp, 0, none⟩) pl pc) ∧ w'.cell? ⟨gp, s * 2, none⟩ = some (.int .i64 pc0) ∧ w'.cell? ⟨gp, s * 2 + 1, none⟩ = some (.int .i64 pp0) := fun w' hb => by
    have h0 : w0.cell? ⟨w.heap.size, 0, none⟩ = some (.string key) ∧ w0.cell? ⟨w.heap.size, 1, none⟩ = some (.int .i64 gen) ∧ w0.cell? ⟨w.heap.size, 2, none⟩ = some (.int .i64 size) ∧ w0.cell? ⟨w.heap.size, 3, none⟩ = some (.string sum) ∧ w0.cell? ⟨w.heap.size, 4, none⟩ = some (.slice (some ⟨gp, 0, none⟩) pl pc) := by
      rw [hw0]; exact ⟨by simp [go_sem], by simp [go_sem], by simp [go_sem], by simp [go_sem], by simp [go_sem]⟩
    obtain ⟨y0, y1, y2, y3, y4⟩ := h0
    have hc : ∀ o, w'.cell? ⟨w.heap.size, o, none⟩ = w0.cell? ⟨w.heap.size, o, none⟩ := fun o => hb.cell (p := ⟨w.heap.size, o, none⟩) hsz0
    have hg : ∀ o, w'.cell? ⟨gp, o, none⟩ = w.cell? ⟨gp, o, none⟩ := fun o => (hb.cell (p := ⟨gp, o, none⟩) (Nat.lt_trans hgp hsz0)).trans (hb0.cell (p := ⟨gp, o, none⟩) hgp)
    exact ⟨(hc _).trans y0, (hc _).trans y1, (hc _).trans y2, (hc _).trans y3, (hc _).trans y4, (hg _).trans Hp0.out, (hg _).trans Hp1.out⟩
  have hF0 := (HF.out.below hb0).up hb0.size
  have Hent := Lib.hid hent
  have HF0 := Lib.hid hF0
  have Hb0 := Lib.hid hb0
  rw [← hw0]
  clear hw0 hent hF0 hb0 HF Hp0 Hp1
  gi_loopw [6, 7] (fun v6 v7 wr => ∃ j : Nat, j ≤ zs.length ∧ v7 = .int .i64 j ∧ v6 = .bool false ∧ (zs.take j).any (hitB (pc0, pp0) key gen size sum s) = false ∧ Below w0.heap.size w0 wr) (fun _ v _ => zs.length - (intOf v).toNat)
  case atStart => exact ⟨0, Nat.zero_le _, rfl, rfl, by simp, Below.refl _ _⟩
  case round =>
    obtain ⟨j, hj, rfl, rfl, hno, hbr⟩ := hrel
    have Hno := Lib.hid hno
    have Hbr := Lib.hid hbr
    clear hno hbr
    by_cases hlt : j < zs.length
    · have hjw : IntKind.i64.wrap ((j : Int) + 1) = j + 1 := IntWalk.i64_in _ (by omega)
      obtain ⟨bz, oz, rfl, hbz, hat⟩ : ∃ bz oz, a = some ⟨bz, oz, none⟩ ∧ bz < w0.heap.size ∧ ∀ w', Below w0.heap.size w0 w' → FndAt w' bz (oz + j * 12) zs[j] := by
        rcases HF0.out with ⟨a', cap', e, e2⟩ | ⟨b', off', cap', e, hb', h⟩
        · rw [e2] at hlt; cases hlt
        · simp only [Value.slice.injEq] at e
          exact ⟨b', off', e.1, hb', fun w' hb => (h j hlt).below hb hb'⟩
      have htk : zs.take (j + 1) = zs.take j ++ [zs[j]] := List.take_succ_eq_append_getElem hlt
      have hfj := Hfit.out zs[j] (List.getElem_mem hlt)
      generalize zs[j] = f at *
      obtain ⟨ac, ap, ⟨kd, ct, fk, fg, gr, grs, ix, fz, fs, da, dn, dc⟩⟩ := f
      have hx : ∀ w', Below wr.heap.size wr w' → FndAt w' bz (oz + j * 12) ⟨ac, ap, ⟨kd, ct, fk, fg, gr, grs, ix, fz, fs, da, dn, dc⟩⟩ := fun w' hb => hat w' (Hbr.out.trans (hb.mono Hbr.out.size))
      have hent' : ∀ w', Below wr.heap.size wr w' → w'.cell? ⟨w.heap.size, 0, none⟩ = some (.string key) ∧ w'.cell? ⟨w.heap.size, 1, none⟩ = some (.int .i64 gen) ∧ w'.cell? ⟨w.heap.size, 2, none⟩ = some (.int .i64 size) ∧ w'.cell? ⟨w.heap.size, 3, none⟩ = some (.string sum) ∧ w'.cell? ⟨w.heap.size, 4, none⟩ = some (.slice (some ⟨gp, 0, none⟩) pl pc) ∧ w'.cell? ⟨gp, s * 2, none⟩ = some (.int .i64 pc0) ∧ w'.cell? ⟨gp, s * 2 + 1, none⟩ = some (.int .i64 pp0) := fun w' hb => Hent.out w' (Hbr.out.trans (hb.mono Hbr.out.size))
      have Hx := Lib.hid hx
      have Hent' := Lib.hid hent'
      have Htk := Lib.hid htk
      have Hfj := Lib.hid hfj
      clear hx hent' htk hat hfj
      have hbzr : bz < wr.heap.size := Nat.lt_of_lt_of_le hbz Hbr.out.size
      obtain ⟨x0, x1, x2, x3, x4, x5, x6, x7, x8, x9, x10, x11⟩ := Hx.out wr (Below.refl _ _)
      dsimp only at x0 x1 x2 x3 x4 x5 x6 x7 x8 x9 x10 x11
      have hb6 : Below wr.heap.size wr ((wr.alloc (.cells #[.int .i64 kd, .int .i64 ct, .string fk, .int .i64 fg, .int .i64 gr, .int .i64 grs, .int .i64 ix, .int .i64 fz, .string fs, .slice da dn dc] 37)).alloc (.cells #[.int .i64 ac, .int .i64 ap] 34)).drew := (((Below.refl _ wr).alloc (Nat.le_refl _) _).alloc (by simp) _).drew
      have hb7 : Below wr.heap.size wr ((wr.alloc (.cells #[.int .i64 ac, .int .i64 ap] 34)).alloc (.cells #[.int .i64 kd, .int .i64 ct, .string fk, .int .i64 fg, .int .i64 gr, .int .i64 grs, .int .i64 ix, .int .i64 fz, .string fs, .slice da dn dc] 37)).drew := (((Below.refl _ wr).alloc (Nat.le_refl _) _).alloc (by simp) _).drew
      have Hb6 := Lib.hid hb6
      have Hb7 := Lib.hid hb7
      clear hb6 hb7
      gi_wp2_with fail
      gi_cut [8, 9] from 1000 (fun v8 v9 W => ∃ b1 b2, v8 = Value.pointer (some ⟨b1, 0, none⟩) ∧ v9 = Value.pointer (some ⟨b2, 0, none⟩) ∧ RecAt W b1 ⟨ac, ap, ⟨kd, ct, fk, fg, gr, grs, ix, fz, fs, da, dn, dc⟩⟩ ∧ W.cell? ⟨b2, 0, none⟩ = some (.int .i64 ac) ∧ W.cell? ⟨b2, 1, none⟩ = some (.int .i64 ap) ∧ Below wr.heap.size wr W)
      case first J K' hJ hK' =>
        gi_region
        · gi_wp2_with fail
          refine Met.intro (hJ _ _ ?_)
          repeat apply Exists.intro
          exact ⟨⟨_, _, rfl, rfl, ⟨by simp [go_sem], by simp [go_sem], by simp [go_sem], by simp [go_sem], by simp [go_sem], by simp [go_sem], by simp [go_sem], by simp [go_sem], by simp [go_sem], by simp [go_sem]⟩, by simp [go_sem], by simp [go_sem], Hb6.out⟩, rfl⟩
        · gi_wp2_with fail
          refine Met.intro (hJ _ _ ?_)
          repeat apply Exists.intro
          exact ⟨⟨_, _, rfl, rfl, ⟨by simp [go_sem], by simp [go_sem], by simp [go_sem], by simp [go_sem], by simp [go_sem], by simp [go_sem], by simp [go_sem], by simp [go_sem], by simp [go_sem], by simp [go_sem]⟩, by simp [go_sem], by simp [go_sem], Hb7.out⟩, rfl⟩
      case rest =>
        obtain ⟨b1, b2, rfl, rfl, ⟨r0, r1, r2, r3, r4, r5, r6, r7, r8, r9⟩, hq0, hq1, hbW⟩ := hcut
        obtain ⟨W, rfl⟩ : ∃ x, x = wc := ⟨_, rfl⟩
        obtain ⟨y0, y1, y2, y3, y4, z0, z1⟩ := Hent'.out W hbW
        dsimp only at r0 r1 r2 r3 r4 r5 r6 r7 r8 r9
        have k0 := cell_regrown r0
        have k1 := cell_regrown r1
        have k2 := cell_regrown r2
        have k3 := cell_regrown r3
        have k4 := cell_regrown r4
        have k5 := cell_regrown r5
        have k6 := cell_regrown r6
        have k7 := cell_regrown r7
        have k8 := cell_regrown r8
        have k9 := cell_regrown r9
        have ky0 := cell_regrown y0
        have ky1 := cell_regrown y1
        have ky2 := cell_regrown y2
        have ky3 := cell_regrown y3
        have ky4 := cell_regrown y4
        have kz0 := cell_regrown z0
        have kz1 := cell_regrown z1
        have kq0 := cell_regrown hq0
        have kq1 := cell_regrown hq1
        have cG : ∀ d os, CallsIn Fence.wide (n - 1) Try.prog 14 #[.agg #[.int .i64 kd, .int .i64 ct, .string fk, .int .i64 fg, .int .i64 gr, .int .i64 grs, .int .i64 ix, .int .i64 fz, .string fs, .slice da dn dc]] (grow (redrawn W d) os) fun e w'' => e = .returned (.bool (Rec.goodB ⟨kd, ct, fk, fg, gr, grs, ix, fz, fs, da, dn, dc⟩)) ∧ ∃ p : Regrown, w'' = grow (redrawn W p.d) p.os := fun d os => CallsIn.regrown_of (callsIn_wide.2 (good_any ⟨kd, ct, fk, fg, gr, grs, ix, fz, fs, da, dn, dc⟩ Hfj.out _))
        have HbW := Lib.hid hbW
        have hsl : (s : Int) / 10 = ((s / 10 : Nat) : Int) := by omega
        clear r0 r1 r2 r3 r4 r5 r6 r7 r8 r9 y0 y1 y2 y3 y4 z0 z1 hq0 hq1 hbW x0 x1 x2 x3 x4 x5 x6 x7 x8 x9 x10 x11 hsl
        gi_upto_region 5 with (fail)
        gi_cut [101] from 1000 (fun v101 wd => v101 = .bool (hitB (pc0, pp0) key gen size sum s ⟨ac, ap, ⟨kd, ct, fk, fg, gr, grs, ix, fz, fs, da, dn, dc⟩⟩) ∧ Below wr.heap.size wr wd)
        case first J K' hJ hK' =>
          have fin : ∀ (b : Bool) (p : Regrown), b = hitB (pc0, pp0) key gen size sum s ⟨ac, ap, ⟨kd, ct, fk, fg, gr, grs, ix, fz, fs, da, dn, dc⟩⟩ → Value.bool b = .bool (hitB (pc0, pp0) key gen size sum s ⟨ac, ap, ⟨kd, ct, fk, fg, gr, grs, ix, fz, fs, da, dn, dc⟩⟩) ∧ Below wr.heap.size wr (grow (redrawn W p.d) p.os) := fun b p hb => ⟨by rw [hb], HbW.out.trans ((below_regrown W p.d p.os).mono HbW.out.size)⟩
          have Fin := Lib.hid fin
          clear fin
          by_cases e1 : ac = pc0
          · subst e1
            by_cases e2 : ap = pp0
            · subst e2
              by_cases e3 : ap < 1024
              · skip
                cases hg : Rec.goodB ⟨kd, ct, fk, fg, gr, grs, ix, fz, fs, da, dn, dc⟩ with
                | false =>
                  rw [hg] at cG
                  have hv : false = hitB (ac, ap) key gen size sum s ⟨ac, ap, ⟨kd, ct, fk, fg, gr, grs, ix, fz, fs, da, dn, dc⟩⟩ := by simp [hitB, hg]
                  have Hv := Lib.hid hv
                  have d3 : decide (ap < 1024) = true := by simpa using e3
                  clear hv hg
                  refine wpIn_region_quiet_below rfl (by kernel_rfl) (by kernel_rfl) ?_
                  repeat (gi_big_quiet_step (exact ⟨fun h => (by cases h), cG _ _⟩))
                  dsimp only [List.append]
                  repeat (gi_big_quiet_step (exact ⟨fun h => (by cases h), cG _ _⟩))
                  refine wpQuietIn_nil ?_
                  intro _ hw'
                  obtain ⟨⟨dq, osq⟩, hw''⟩ := hw'
                  subst hw''
                  gi_wp2_with fail
                  refine Met.intro (hJ _ _ ?_)
                  repeat apply Exists.intro
                  exact ⟨Fin.out false ⟨dq, osq⟩ Hv.out, rfl⟩
                | true =>
                  rw [hg] at cG
                  by_cases e5 : kd = 2
                  · subst e5
                    by_cases e6 : fk = key
                    · subst e6
                      by_cases e7 : fg = gen
                      · subst e7
                        by_cases e8 : fz = size
                        · subst e8
                          by_cases e9 : fs = sum
                          · subst e9
                            by_cases e10 : gr = (s : Int) / 10
                            · subst e10
                              by_cases e11 : ix = (s : Int) % 10
                              · subst e11
                                have hv : true = hitB (ac, ap) fk fg fz fs s ⟨ac, ap, ⟨2, ct, fk, fg, ((s : Int) / 10), grs, ((s : Int) % 10), fz, fs, da, dn, dc⟩⟩ := by simp [hitB, e3, hg]
                                have Hv := Lib.hid hv
                                clear hv
                                have d3 : decide (ap < 1024) = true := by simpa using e3
                                refine wpIn_region_quiet_below rfl (by kernel_rfl) (by kernel_rfl) ?_
                                repeat (gi_big_quiet_step (exact ⟨fun h => (by cases h), cG _ _⟩))
                                dsimp only [List.append]
                                repeat (gi_big_quiet_step (exact ⟨fun h => (by cases h), cG _ _⟩))
                                refine wpQuietIn_nil ?_
                                intro _ hw'
                                obtain ⟨⟨dq, osq⟩, hw''⟩ := hw'
                                subst hw''
                                gi_wp2_with fail
                                refine Met.intro (hJ _ _ ?_)
                                repeat apply Exists.intro
                                exact ⟨Fin.out true ⟨dq, osq⟩ Hv.out, rfl⟩
                              · have d : (ix == (s : Int) % 10) = false := by simpa using e11
                                have d3 : decide (ap < 1024) = true := by simpa using e3
                                have hv : false = hitB (ac, ap) fk fg fz fs s ⟨ac, ap, ⟨2, ct, fk, fg, ((s : Int) / 10), grs, ix, fz, fs, da, dn, dc⟩⟩ := by simp [hitB, e11]
                                have Hv := Lib.hid hv
                                clear hv hg
                                refine wpIn_region_quiet_below rfl (by kernel_rfl) (by kernel_rfl) ?_
                                repeat (gi_big_quiet_step (exact ⟨fun h => (by cases h), cG _ _⟩))
                                dsimp only [List.append]
                                repeat (gi_big_quiet_step (exact ⟨fun h => (by cases h), cG _ _⟩))
                                refine wpQuietIn_nil ?_
                                intro _ hw'
                                obtain ⟨⟨dq, osq⟩, hw''⟩ := hw'
                                subst hw''
                                gi_wp2_with fail
                                refine Met.intro (hJ _ _ ?_)
                                repeat apply Exists.intro
                                exact ⟨Fin.out false ⟨dq, osq⟩ Hv.out, rfl⟩
                            · have d : (gr == (s : Int) / 10) = false := by simpa using e10
                              have d3 : decide (ap < 1024) = true := by simpa using e3
                              have hv : false = hitB (ac, ap) fk fg fz fs s ⟨ac, ap, ⟨2, ct, fk, fg, gr, grs, ix, fz, fs, da, dn, dc⟩⟩ := by simp [hitB, e10]
                              have Hv := Lib.hid hv
                              clear hv hg
                              refine wpIn_region_quiet_below rfl (by kernel_rfl) (by kernel_rfl) ?_
                              repeat (gi_big_quiet_step (exact ⟨fun h => (by cases h), cG _ _⟩))
                              dsimp only [List.append]
                              repeat (gi_big_quiet_step (exact ⟨fun h => (by cases h), cG _ _⟩))
                              refine wpQuietIn_nil ?_
                              intro _ hw'
                              obtain ⟨⟨dq, osq⟩, hw''⟩ := hw'
                              subst hw''
                              gi_wp2_with fail
                              refine Met.intro (hJ _ _ ?_)
                              repeat apply Exists.intro
                              exact ⟨Fin.out false ⟨dq, osq⟩ Hv.out, rfl⟩
                          · have d : (fs.toList == sum.toList) = false := by rw [beq_eq_false_iff_ne]; exact fun h => e9 (toList_inj h)
                            have d3 : decide (ap < 1024) = true := by simpa using e3
                            have hv : false = hitB (ac, ap) fk fg fz sum s ⟨ac, ap, ⟨2, ct, fk, fg, gr, grs, ix, fz, fs, da, dn, dc⟩⟩ := by simp [hitB, e9]
                            have Hv := Lib.hid hv
                            clear hv hg
                            refine wpIn_region_quiet_below rfl (by kernel_rfl) (by kernel_rfl) ?_
                            repeat (gi_big_quiet_step (exact ⟨fun h => (by cases h), cG _ _⟩))
                            dsimp only [List.append]
                            repeat (gi_big_quiet_step (exact ⟨fun h => (by cases h), cG _ _⟩))
                            refine wpQuietIn_nil ?_
                            intro _ hw'
                            obtain ⟨⟨dq, osq⟩, hw''⟩ := hw'
                            subst hw''
                            gi_wp2_with fail
                            refine Met.intro (hJ _ _ ?_)
                            repeat apply Exists.intro
                            exact ⟨Fin.out false ⟨dq, osq⟩ Hv.out, rfl⟩
                        · have d : (fz == size) = false := by simpa using e8
                          have d3 : decide (ap < 1024) = true := by simpa using e3
                          have hv : false = hitB (ac, ap) fk fg size sum s ⟨ac, ap, ⟨2, ct, fk, fg, gr, grs, ix, fz, fs, da, dn, dc⟩⟩ := by simp [hitB, e8]
                          have Hv := Lib.hid hv
                          clear hv hg
                          refine wpIn_region_quiet_below rfl (by kernel_rfl) (by kernel_rfl) ?_
                          repeat (gi_big_quiet_step (exact ⟨fun h => (by cases h), cG _ _⟩))
                          dsimp only [List.append]
                          repeat (gi_big_quiet_step (exact ⟨fun h => (by cases h), cG _ _⟩))
                          refine wpQuietIn_nil ?_
                          intro _ hw'
                          obtain ⟨⟨dq, osq⟩, hw''⟩ := hw'
                          subst hw''
                          gi_wp2_with fail
                          refine Met.intro (hJ _ _ ?_)
                          repeat apply Exists.intro
                          exact ⟨Fin.out false ⟨dq, osq⟩ Hv.out, rfl⟩
                      · have d : (fg == gen) = false := by simpa using e7
                        have d3 : decide (ap < 1024) = true := by simpa using e3
                        have hv : false = hitB (ac, ap) fk gen size sum s ⟨ac, ap, ⟨2, ct, fk, fg, gr, grs, ix, fz, fs, da, dn, dc⟩⟩ := by simp [hitB, e7]
                        have Hv := Lib.hid hv
                        clear hv hg
                        refine wpIn_region_quiet_below rfl (by kernel_rfl) (by kernel_rfl) ?_
                        repeat (gi_big_quiet_step (exact ⟨fun h => (by cases h), cG _ _⟩))
                        dsimp only [List.append]
                        repeat (gi_big_quiet_step (exact ⟨fun h => (by cases h), cG _ _⟩))
                        refine wpQuietIn_nil ?_
                        intro _ hw'
                        obtain ⟨⟨dq, osq⟩, hw''⟩ := hw'
                        subst hw''
                        gi_wp2_with fail
                        refine Met.intro (hJ _ _ ?_)
                        repeat apply Exists.intro
                        exact ⟨Fin.out false ⟨dq, osq⟩ Hv.out, rfl⟩
                    · have d : (fk.toList == key.toList) = false := by rw [beq_eq_false_iff_ne]; exact fun h => e6 (toList_inj h)
                      have d3 : decide (ap < 1024) = true := by simpa using e3
                      have hv : false = hitB (ac, ap) key gen size sum s ⟨ac, ap, ⟨2, ct, fk, fg, gr, grs, ix, fz, fs, da, dn, dc⟩⟩ := by simp [hitB, e6]
                      have Hv := Lib.hid hv
                      clear hv hg
                      refine wpIn_region_quiet_below rfl (by kernel_rfl) (by kernel_rfl) ?_
                      repeat (gi_big_quiet_step (exact ⟨fun h => (by cases h), cG _ _⟩))
                      dsimp only [List.append]
                      repeat (gi_big_quiet_step (exact ⟨fun h => (by cases h), cG _ _⟩))
                      refine wpQuietIn_nil ?_
                      intro _ hw'
                      obtain ⟨⟨dq, osq⟩, hw''⟩ := hw'
                      subst hw''
                      gi_wp2_with fail
                      refine Met.intro (hJ _ _ ?_)
                      repeat apply Exists.intro
                      exact ⟨Fin.out false ⟨dq, osq⟩ Hv.out, rfl⟩
                  · have d : (kd == 2) = false := by simpa using e5
                    have d3 : decide (ap < 1024) = true := by simpa using e3
                    have hv : false = hitB (ac, ap) key gen size sum s ⟨ac, ap, ⟨kd, ct, fk, fg, gr, grs, ix, fz, fs, da, dn, dc⟩⟩ := by simp [hitB, e5]
                    have Hv := Lib.hid hv
                    clear hv hg
                    refine wpIn_region_quiet_below rfl (by kernel_rfl) (by kernel_rfl) ?_
                    repeat (gi_big_quiet_step (exact ⟨fun h => (by cases h), cG _ _⟩))
                    dsimp only [List.append]
                    repeat (gi_big_quiet_step (exact ⟨fun h => (by cases h), cG _ _⟩))
                    refine wpQuietIn_nil ?_
                    intro _ hw'
                    obtain ⟨⟨dq, osq⟩, hw''⟩ := hw'
                    subst hw''
                    gi_wp2_with fail
                    refine Met.intro (hJ _ _ ?_)
                    repeat apply Exists.intro
                    exact ⟨Fin.out false ⟨dq, osq⟩ Hv.out, rfl⟩
              · have d : decide (ap < 1024) = false := by simpa using e3
                have hv : false = hitB (ac, ap) key gen size sum s ⟨ac, ap, ⟨kd, ct, fk, fg, gr, grs, ix, fz, fs, da, dn, dc⟩⟩ := by simp [hitB, e3]
                have Hv := Lib.hid hv
                clear hv
                refine wpIn_region_quiet_below rfl (by kernel_rfl) (by kernel_rfl) ?_
                repeat (gi_big_quiet_step (exact ⟨fun h => (by cases h), cG _ _⟩))
                dsimp only [List.append]
                repeat (gi_big_quiet_step (exact ⟨fun h => (by cases h), cG _ _⟩))
                refine wpQuietIn_nil ?_
                intro _ hw'
                obtain ⟨⟨dq, osq⟩, hw''⟩ := hw'
                subst hw''
                gi_wp2_with fail
                refine Met.intro (hJ _ _ ?_)
                repeat apply Exists.intro
                exact ⟨Fin.out false ⟨dq, osq⟩ Hv.out, rfl⟩
            · have d : (ap == pp0) = false := by simpa using e2
              have hv : false = hitB (ac, pp0) key gen size sum s ⟨ac, ap, ⟨kd, ct, fk, fg, gr, grs, ix, fz, fs, da, dn, dc⟩⟩ := by simp [hitB, e2]
              have Hv := Lib.hid hv
              clear hv
              refine wpIn_region_quiet_below rfl (by kernel_rfl) (by kernel_rfl) ?_
              repeat (gi_big_quiet_step (exact ⟨fun h => (by cases h), cG _ _⟩))
              dsimp only [List.append]
              repeat (gi_big_quiet_step (exact ⟨fun h => (by cases h), cG _ _⟩))
              refine wpQuietIn_nil ?_
              intro _ hw'
              obtain ⟨⟨dq, osq⟩, hw''⟩ := hw'
              subst hw''
              gi_wp2_with fail
              refine Met.intro (hJ _ _ ?_)
              repeat apply Exists.intro
              exact ⟨Fin.out false ⟨dq, osq⟩ Hv.out, rfl⟩
          · have d : (ac == pc0) = false := by simpa using e1
            have hv : false = hitB (pc0, pp0) key gen size sum s ⟨ac, ap, ⟨kd, ct, fk, fg, gr, grs, ix, fz, fs, da, dn, dc⟩⟩ := by simp [hitB, e1]
            have Hv := Lib.hid hv
            clear hv
            refine wpIn_region_quiet_below rfl (by kernel_rfl) (by kernel_rfl) ?_
            repeat (gi_big_quiet_step (exact ⟨fun h => (by cases h), cG _ _⟩))
            dsimp only [List.append]
            repeat (gi_big_quiet_step (exact ⟨fun h => (by cases h), cG _ _⟩))
            refine wpQuietIn_nil ?_
            intro _ hw'
            obtain ⟨⟨dq, osq⟩, hw''⟩ := hw'
            subst hw''
            gi_wp2_with fail
            refine Met.intro (hJ _ _ ?_)
            repeat apply Exists.intro
            exact ⟨Fin.out false ⟨dq, osq⟩ Hv.out, rfl⟩
        case rest =>
          obtain ⟨rfl, hbd⟩ := hcut
          obtain ⟨wd, rfl⟩ : ∃ x, x = wc := ⟨_, rfl⟩
          have hbd' : Below w0.heap.size w0 wd := Hbr.out.trans (hbd.mono Hbr.out.size)
          have Hbd' := Lib.hid hbd'
          clear k0 k1 k2 k3 k4 k5 k6 k7 k8 k9 ky0 ky1 ky2 ky3 ky4 kz0 kz1 kq0 kq1 cG hbd hbd'
          cases hh : hitB (pc0, pp0) key gen size sum s ⟨ac, ap, ⟨kd, ct, fk, fg, gr, grs, ix, fz, fs, da, dn, dc⟩⟩ with
          | true =>
            have hany : zs.any (hitB (pc0, pp0) key gen size sum s) = true := by
              rw [List.any_eq_true]
              refine ⟨⟨ac, ap, ⟨kd, ct, fk, fg, gr, grs, ix, fz, fs, da, dn, dc⟩⟩, ?_, hh⟩
              have : (⟨ac, ap, ⟨kd, ct, fk, fg, gr, grs, ix, fz, fs, da, dn, dc⟩⟩ : Fnd) ∈ zs.take (j + 1) := by rw [Htk.out]; simp
              exact List.mem_of_mem_take this
            have Hany := Lib.hid hany
            clear hh hany
            gi_wp2_with fail
            go_ret
            exact ⟨by rw [Hany.out]; rfl, Hb0.out.trans (Hbd'.out.mono Hb0.out.size)⟩
          | false =>
            have hno' : (zs.take (j + 1)).any (hitB (pc0, pp0) key gen size sum s) = false := by
              rw [Htk.out, List.any_append, Hno.out]
              simpa using hh
            have Hno' := Lib.hid hno'
            clear hh hno'
            gi_wp2_with fail
            go_roundw
            case rel => exact ⟨j + 1, by omega, by simp, rfl, Hno'.out, Hbd'.out⟩
            case measure => simp [intOf]; omega
    · obtain rfl : j = zs.length := by omega
      have hno := Hno.out
      rw [List.take_length] at hno
      have Hno' := Lib.hid hno
      clear hno
      gi_wp2_with fail
      go_ret
      exact ⟨by rw [Hno'.out]; rfl, Hb0.out.trans (Hbr.out.mono Hb0.out.size)⟩

end Go.Proofs.Ytbcefiefeobmcaa
