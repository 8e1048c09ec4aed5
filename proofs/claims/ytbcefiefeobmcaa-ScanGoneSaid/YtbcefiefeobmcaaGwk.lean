/-
  ScanGone: its walk.
-/
import Derived.Test.YtbcefiefeobmcaaGpl
import Derived.Test.YtbcefiefeobmcaaOwe
namespace Go.Proofs.Ytbcefiefeobmcaa
open Go.RowKit Go.Shelf Go.Maps Go.WideElems

theorem wide_fn13 (f : FuncId) : Fence.wide.fn f = True := rfl
attribute [local go_sem] Oper.semAt_some wide_fn13

set_option maxRecDepth 100000 in
set_option maxHeartbeats 4000000 in
theorem gone_law_in (n : Nat) (a : Option Addr) (len cap : Nat) (hlc : len ≤ cap) (zs : List Fnd) (hfit : ∀ f ∈ zs, f.r.fits) (key : ByteArray) (hks : key.size ≤ 9223372036854775807) (at_ : Int) (hat0 : 0 ≤ at_) (hat1 : at_ ≤ 255) (w : World) (hF : Founds w.heap.size w (.slice a len cap) zs) :
    CallsIn Fence.wide n Try.prog 6 #[.slice a len cap, .string key, .int .u8 at_] w fun e W' => e = .returned (.bool true) ∧ Below w.heap.size w W' := by
  refine callsIn_of_wp Try.func6 rfl trivial ?_ rfl
  simp only [Try.ntmps6, List.size_toArray, List.length_cons, List.length_nil, Nat.reduceAdd, Nat.reduceSub, Array.replicate_succ, Array.replicate_zero, List.push_toArray, List.append_toArray, List.nil_append, List.cons_append]
  have Hfit := Lib.hid hfit
  clear hfit
  gi_wp2_with fail
  refine ⟨fun h => (by cases h), (callsIn_wide.2 (few_any a len cap hlc _ zs w hF)).mono ?_⟩
  rintro e w1 ⟨a1, l1, c1, rfl, hlc1, hF1, rfl⟩
  have hl1 := hF1.lens
  have hft : ∀ f ∈ zs.take 130, f.r.fits := fun f hf => Hfit.out f (List.mem_of_mem_take hf)
  have hlt : (zs.take 130).length ≤ 130 := by rw [List.length_take]; omega
  generalize zs.take 130 = zt at *
  have Hl1 := Lib.hid hl1
  have Hft := Lib.hid hft
  have HF1 := Lib.hid hF1
  have Hlt := Lib.hid hlt
  clear hF hl1 hft hF1 hlt Hfit
  by_cases hk1 : key.size < 1
  · gi_wp2_with fail
    refine ⟨fun h => (by cases h), (awake_in (n - 1) w).mono ?_⟩
    rintro e w10 ⟨rfl, hb10⟩
    gi_wp2_with fail
    go_ret
    exact ⟨rfl, hb10⟩
  by_cases hk2 : 16 < key.size
  · gi_wp2_with fail
    refine ⟨fun h => (by cases h), (awake_in (n - 1) w).mono ?_⟩
    rintro e w10 ⟨rfl, hb10⟩
    gi_wp2_with fail
    go_ret
    exact ⟨rfl, hb10⟩
  gi_wp2_with fail
  refine ⟨fun h => (by cases h), (callsIn_wide.2 (best_any _ _ _ zt (by have := Hlt.out; omega) Hft.out w HF1.out)).mono ?_⟩
  rintro e w2 ⟨v2, es2, m2, rfl, hba2, han2, hb2⟩
  have hF2 := (HF1.out.below hb2).up hb2.size
  obtain ⟨ab2, hab2⟩ := hba2.len
  subst hab2
  have Hba2 := Lib.hid hba2
  have Han2 := Lib.hid han2
  have HF2 := Lib.hid hF2
  have Hb2 := Lib.hid hb2
  clear hba2 han2 hF2 hb2
  gi_upto_if 34 with (fail)
  gi_cut [10] from 101 (fun v10 wd => (∃ k : Nat, v10 = .int .i64 k ∧ k ≤ l1) ∧ wd = w2)
  case first J K' hJ hK' =>
    by_cases hl : 0 < l1
    · have hm : l1 ≤ 130 := by have := Hl1.out; have := Hlt.out; omega
      have hres : ∃ k : Nat, Value.int .i64 (at_ % (l1 : Int)) = .int .i64 k ∧ k ≤ l1 := ⟨(at_ % (l1 : Int)).toNat, by rw [Int.toNat_of_nonneg (Int.emod_nonneg _ (by omega))], by have := Int.emod_lt_of_pos at_ (b := (l1 : Int)) (by omega); have := Int.emod_nonneg at_ (b := (l1 : Int)) (by omega); omega⟩
      have Hres := Lib.hid hres
      clear hres
      gi_wp2_with fail
      refine Met.intro (hJ _ _ ?_)
      repeat apply Exists.intro
      exact ⟨⟨Hres.out, rfl⟩, rfl⟩
    · have hres : ∃ k : Nat, Value.int .i64 0 = .int .i64 k ∧ k ≤ l1 := ⟨0, rfl, by omega⟩
      have Hres := Lib.hid hres
      clear hres
      gi_wp2_with fail
      refine Met.intro (hJ _ _ ?_)
      repeat apply Exists.intro
      exact ⟨⟨Hres.out, rfl⟩, rfl⟩
  case rest =>
    obtain ⟨⟨k, rfl, hkl⟩, rfl⟩ := hcut
    obtain ⟨wq, rfl⟩ : ∃ x, x = wc := ⟨_, rfl⟩
    have hlen1 := Hl1.out
    have hFk : Founds wq.heap.size wq (.slice a1 k c1) (zt.take k) := by have := HF2.out; rw [hlen1] at this; exact this.upto k c1 (by omega)
    have hFd : Founds wq.heap.size wq (sliced a1 k l1 c1 12) (zt.drop k) := by have := HF2.out; rw [hlen1] at this; rw [hlen1]; exact this.fromK k (by omega) (by omega)
    have hlk : (zt.take k).length + (zt.drop k).length ≤ 130 := by have := Hlt.out; rw [← List.length_append, List.take_append_drop]; exact this
    have HFk := Lib.hid hFk
    have HFd := Lib.hid hFd
    have Hlk := Lib.hid hlk
    have hbd : Below wq.heap.size wq wq.drew := (Below.refl _ wq).drew
    have hkc : k ≤ c1 := by omega
    clear hFk hFd hlk hlen1
    gi_wp2_with fail
    gi_cut [11] from 101 (fun v11 wd => OwnF wq.heap.size wd v11 (zt.take k ++ [tombF key m2] ++ zt.drop k) ∧ v11 ≠ .slice none 0 0 ∧ Below wq.heap.size wq wd)
    case first J K' hJ hK' =>
      refine wpIn_region_held (S := fun w' => Below wq.heap.size wq w') (by kernel_rfl) ?_
      refine wpAnyInH_take (i := 1) (v := .slice a1 l1 c1) (by kernel_rfl) rfl (by kernel_rfl) (by kernel_rfl) (by kernel_rfl) (fun _ _ _ h => h) ⟨.inl ⟨rfl, fun w' hS => ?_⟩, fun _ => rfl⟩ hbd ?_
      · go_simp
      refine wpAnyInH_take (i := 2) (v := .int .i64 k) (by kernel_rfl) rfl (by kernel_rfl) (by kernel_rfl) (by kernel_rfl) (fun _ _ _ h => h) ⟨.inl ⟨rfl, fun w' hS => ?_⟩, fun _ => rfl⟩ hbd ?_
      · go_simp
      refine wpAnyInH_take (i := 3) (v := .slice a1 k c1) (by kernel_rfl) rfl (by kernel_rfl) (by kernel_rfl) (by kernel_rfl) (fun _ _ _ h => h) ⟨.inl ⟨rfl, fun w' hS => ?_⟩, fun _ => rfl⟩ hbd ?_
      · go_simp
      refine wpAnyInH_take (i := 5) (v := .string key) (by kernel_rfl) rfl (by kernel_rfl) (by kernel_rfl) (by kernel_rfl) (fun _ _ _ h => h) ⟨.inl ⟨rfl, fun w' hS => ?_⟩, fun _ => rfl⟩ hbd ?_
      · go_simp
      refine wpAnyInH_take (i := 6) (v := .int .i64 m2) (by kernel_rfl) rfl (by kernel_rfl) (by kernel_rfl) (by kernel_rfl) (fun _ _ _ h => h) ⟨.inl ⟨rfl, fun w' hS => ?_⟩, fun _ => rfl⟩ hbd ?_
      · go_simp
      refine wpAnyInH_take (i := 10) (v := .slice a1 l1 c1) (by kernel_rfl) rfl (by kernel_rfl) (by kernel_rfl) (by kernel_rfl) (fun _ _ _ h => h) ⟨.inl ⟨rfl, fun w' hS => ?_⟩, fun _ => rfl⟩ hbd ?_
      · go_simp
      refine wpAnyInH_take (i := 11) (v := .int .i64 k) (by kernel_rfl) rfl (by kernel_rfl) (by kernel_rfl) (by kernel_rfl) (fun _ _ _ h => h) ⟨.inl ⟨rfl, fun w' hS => ?_⟩, fun _ => rfl⟩ hbd ?_
      · go_simp
      refine wpAnyInH_take (i := 12) (v := sliced a1 k l1 c1 12) (by kernel_rfl) rfl (by kernel_rfl) (by kernel_rfl) (by kernel_rfl) (fun _ _ _ h => h) ⟨.inl ⟨rfl, fun w' hS => ?_⟩, fun _ => rfl⟩ hbd ?_
      · go_simp
      refine wpAnyInH_all (rs := [0]) (by kernel_rfl) (by simp) ?_
      intro i hi
      obtain rfl : i = 0 := by simpa using hi
      refine wpOpIn_does rfl rfl ?_
      go_simp
      obtain ⟨v0w, hv0w⟩ : ∃ x, x = (World.alloc wq (.cells #[] 39)).drew := ⟨_, rfl⟩
      have hc0 : Below wq.heap.size wq v0w := by rw [hv0w]; exact ((Below.refl _ wq).alloc (Nat.le_refl _) _).drew
      have hs0 : Below (World.heap wq).size wq v0w := by rw [hv0w]; exact ((Below.refl _ wq).alloc (Nat.le_refl _) _).drew
      have hown0 : OwnF wq.heap.size v0w (.slice (some ⟨(World.heap wq).size, 0, none⟩) 0 0) [] := by rw [hv0w]; exact World.ownsRow_made wq #[] 0 (Nat.le_refl _) (by unfold maxLen; omega) (by simp)
      have hown0w : (World.heap wq).size < (World.heap v0w).size := (hown0.lt _ rfl).2
      rw [← hv0w]
      clear hv0w
      refine ⟨hc0, ?_⟩
      refine wpAnyInH_all (rs := [4]) (by kernel_rfl) (by simp) ?_
      intro i hi
      obtain rfl : i = 4 := by simpa using hi
      have hF1 := HFk.out.below (hc0)
      have happ := append_founds (base := wq.heap.size) hown0 (by simp) hF1 (by have := Hlk.out; simp only [List.length_nil]; omega) (hc0).size 22
      refine wpOpIn_append_run rfl rfl _ _ 22 rfl _ _ rfl rfl _ happ ?_
      rintro v44 v1w ⟨hown4, hne4, hgr4⟩
      have hc1 : Below wq.heap.size wq v1w := (hc0).grown hgr4 (hc0).size (fun k e => (hown0.lt k e).1)
      rw [List.nil_append] at hown4
      clear happ hgr4 hF1 hown0
      refine ⟨hc1, ?_⟩
      refine wpAnyInH_all (rs := [7]) (by kernel_rfl) (by simp) ?_
      intro i hi
      obtain rfl : i = 7 := by simpa using hi
      refine wpOpIn_does rfl rfl ?_
      go_simp
      refine ⟨fun h => (by cases h), (callsIn_wide.2 (tomb_any _ _ _)).mono ?_⟩
      rintro e v2w ⟨rfl, hs2⟩
      have hc2 : Below wq.heap.size wq v2w := (hc1).trans (hs2.mono (hc1).size)
      have hown4 := hown4.below hs2
      refine ⟨hc2, ?_⟩
      refine wpAnyInH_all (rs := [8]) (by kernel_rfl) (by simp) ?_
      intro i hi
      obtain rfl : i = 8 := by simpa using hi
      refine wpOpIn_does rfl rfl ?_
      go_simp
      obtain ⟨v3w, hv3w⟩ : ∃ x, x = (World.alloc v2w (.cells #[.int .i64 31, .int .i64 1, .int .i64 3, .int .i64 0, .string key, .int .i64 m2, .int .i64 0, .int .i64 0, .int .i64 0, .int .i64 0, .string ⟨#[]⟩, .slice none 0 0] 39)) := ⟨_, rfl⟩
      have hc3 : Below wq.heap.size wq v3w := by rw [hv3w]; exact (hc2).alloc (hc2).size _
      have hs3 : Below (World.heap v2w).size v2w v3w := by rw [hv3w]; exact (Below.refl _ _).alloc (Nat.le_refl _) _
      have hown4 := hown4.below hs3
      have hone : FndAt v3w (World.heap v2w).size 0 (tombF key m2) := by rw [hv3w]; exact FndAt.new v2w (tombF key m2) 39
      have hol : (World.heap v2w).size < (World.heap v3w).size := by rw [hv3w]; simp
      have hol0 := hol
      rw [← hv3w]
      clear hv3w
      refine ⟨hc3, ?_⟩
      refine wpAnyInH_all (rs := [9]) (by kernel_rfl) (by simp) ?_
      intro i hi
      obtain rfl : i = 9 := by simpa using hi
      have happ := append_founds (base := wq.heap.size) hown4 hne4 (show Founds (World.heap v3w).size v3w (.slice (some ⟨(World.heap v2w).size, 0, none⟩) 1 1) [(tombF key m2)] from .inr ⟨_, 0, 1, rfl, hol, fun k hk => (by obtain rfl : k = 0 := (by simpa using hk); exact hone)⟩) (by have := Hlk.out; simp only [List.length_cons, List.length_nil]; omega) (hc3).size 22
      refine wpOpIn_append_run rfl rfl _ _ 22 rfl _ _ rfl rfl _ happ ?_
      rintro v49 v4w ⟨hown9, hne9, hgr9⟩
      have hc4 : Below wq.heap.size wq v4w := (hc3).grown hgr9 (hc3).size (fun k e => (hown4.lt k e).1)
      clear happ hgr9 hown4
      refine ⟨hc4, ?_⟩
      refine wpAnyInH_all (rs := [13]) (by kernel_rfl) (by simp) ?_
      intro i hi
      obtain rfl : i = 13 := by simpa using hi
      have hF5 := HFd.out.below (hc4)
      have happ := append_founds (base := wq.heap.size) hown9 hne9 hF5 (by have := Hlk.out; simp only [List.length_append, List.length_cons, List.length_nil]; omega) (hc4).size 22
      refine wpOpIn_append_run rfl rfl _ _ 22 rfl _ _ rfl rfl _ happ ?_
      rintro v53 v5w ⟨hown13, hne13, hgr13⟩
      have hc5 : Below wq.heap.size wq v5w := (hc4).grown hgr13 (hc4).size (fun k e => (hown9.lt k e).1)
      clear happ hgr13 hF5 hown9
      refine ⟨hc5, ?_⟩
      refine wpAnyInH_take (i := 14) (v := v53) (by kernel_rfl) rfl (by kernel_rfl) (by kernel_rfl) (by kernel_rfl) (fun _ _ _ h => h) ⟨.inl ⟨rfl, fun w' hS => ?_⟩, fun _ => rfl⟩ hc5 ?_
      · go_simp
      refine wpAnyInH_done (by kernel_rfl) ?_ _
      refine hK' _ _ (Met.intro (hJ _ _ ?_))
      repeat apply Exists.intro
      refine ⟨?_, rfl⟩
      exact ⟨hown13, hne13, hc5⟩
    case rest =>
      obtain ⟨hown, hne, hbx⟩ := hcut
      obtain ⟨wx, rfl⟩ : ∃ x, x = wc := ⟨_, rfl⟩
      obtain ⟨g11, c11, rfl, hcap11, _, _⟩ := hown.some (by simp)
      have hF11 := hown.founds
      obtain ⟨l11, hl11⟩ : ∃ l, l = (zt.take k ++ [tombF key m2] ++ zt.drop k).length := ⟨_, rfl⟩
      rw [← hl11] at hF11 hcap11
      rw [← hl11]
      have hlen11 : (zt.take k ++ [tombF key m2] ++ zt.drop k).length ≤ 1000 := by have := Hlk.out; simp only [List.length_append, List.length_cons, List.length_nil]; omega
      have Hlen11 := Lib.hid hlen11
      have H11 := Lib.hid hF11
      have hfit11 : ∀ f ∈ zt.take k ++ [tombF key m2] ++ zt.drop k, f.r.fits := fun f hf => by
        simp only [List.mem_append, List.mem_singleton] at hf
        rcases hf with (hf | rfl) | hf
        · exact Hft.out f (List.mem_of_mem_take hf)
        · exact fits_tomb key (by omega) m2
        · exact Hft.out f (List.mem_of_mem_drop hf)
      have Hfit11 := Lib.hid hfit11
      have Hbx := Lib.hid hbx
      have Hl11 := Lib.hid hl11
      clear hown hne hF11 hlen11 hfit11 hbx hl11
      gi_wp2_with fail
      refine ⟨fun h => (by cases h), (callsIn_wide.2 (best_any _ _ _ (zt.take k ++ [tombF key m2] ++ zt.drop k) Hlen11.out Hfit11.out wx H11.out)).mono ?_⟩
      rintro e w5 ⟨v5, es5, m5, rfl, hba5, han5, hb5⟩
      have hcat : zt = zt.take k ++ zt.drop k := (List.take_append_drop k zt).symm
      have han5' : Answer (zt.take k ++ tombF key m2 :: zt.drop k) es5 m5 := by rw [List.append_assoc] at han5; exact han5
      have han2' : Answer (zt.take k ++ zt.drop k) es2 m2 := by rw [← hcat]; exact Han2.out
      have hgp := gone_plain (key := key) (by omega) (by omega) han2' han5'
      obtain ⟨hcp, rfl⟩ := hgp
      have hb5' : Below wq.heap.size wq w5 := Hbx.out.trans (hb5.mono Hbx.out.size)
      have Hba5 := Lib.hid hba5
      have Han5 := Lib.hid han5
      have Hcp := Lib.hid hcp
      have Hb5' := Lib.hid hb5'
      have hsz5 := hb5'.size
      clear hba5 han5 hcp hb5 hb5' hcat han5' han2'
      gi_wp2_with fail
      have hstart : OwnE w5.heap.size (w5.alloc (.cells #[] 32)) (.slice (some ⟨w5.heap.size, 0, none⟩) 0 0) [] := own_emptyE w5
      have hes : es2.length ≤ 130 := by have := answer_few Han2.out; have := Hlt.out; omega
      have hX : ∀ j (h : j < es2.length), ∃ g, ab2 = some ⟨g, 0, none⟩ ∧ ∀ wr, Below w5.heap.size w5 wr → EntAt wr g (j * 5) es2[j] := fun j hj => by
        rcases Hba2.out.ents with ⟨e, _⟩ | ⟨g, e, _, _, hat⟩
        · rw [e] at hj; cases hj
        · simp only [Value.slice.injEq] at e
          refine ⟨g, e.1, fun wr hwr => ?_⟩
          have hx := hat j hj
          have hlt : g < wq.heap.size := World.block_lt_of_cell? wq ⟨g, _, none⟩ hx.c0
          have hbr := Hb5'.out.trans (hwr.mono hsz5)
          exact ⟨(hbr.cell (p := ⟨g, _, none⟩) hlt).trans hx.c0, (hbr.cell (p := ⟨g, _, none⟩) hlt).trans hx.c1, (hbr.cell (p := ⟨g, _, none⟩) hlt).trans hx.c2, (hbr.cell (p := ⟨g, _, none⟩) hlt).trans hx.c3, (hbr.cell (p := ⟨g, _, none⟩) hlt).trans hx.c4⟩
      have HX := Lib.hid hX
      clear hX
      gi_loopw [14, 15] (fun v i wr => ∃ j : Nat, j ≤ es2.length ∧ i = .int .i64 j ∧ OwnE w5.heap.size wr v ((es2.take j).filter (fun p => decide (p.1 ≠ key))) ∧ v ≠ .slice none 0 0 ∧ Below w5.heap.size w5 wr) (fun _ i _ => es2.length - (intOf i).toNat)
      case atStart => exact ⟨0, Nat.zero_le _, rfl, hstart, by simp, (Below.refl _ w5).alloc (Nat.le_refl _) _⟩
      case round =>
        obtain ⟨j, hj, rfl, hown, hne, hbr⟩ := hrel
        by_cases hlt : j < es2.length
        · have hjw : IntKind.i64.wrap ((j : Int) + 1) = j + 1 := IntWalk.i64_in _ (by omega)
          obtain ⟨g, rfl, hat⟩ := HX.out j hlt
          obtain ⟨x0, x1, x2, x3, x4⟩ := hat wr hbr
          have htk : es2.take (j + 1) = es2.take j ++ [es2[j]] := by rw [List.take_succ_eq_append_getElem hlt]
          have hlen : ((es2.take j).filter (fun p => decide (p.1 ≠ key))).length ≤ 130 := Nat.le_trans (List.length_filter_le _ _) (by rw [List.length_take]; omega)
          generalize es2[j] = p at *
          obtain ⟨pk, ⟨bk, bg, bgr, bz, bs⟩, gp, ps⟩ := p
          simp only [sliceVal] at x4
          dsimp only at x0 x1 x2 x3 x4
          have Htk := Lib.hid htk
          have Hne := Lib.hid hne
          have Hown := Lib.hid hown
          have Hbr := Lib.hid hbr
          clear htk hat hne hown hbr
          by_cases hpk : pk = key
          · subst hpk
            gi_wp2_with fail
            go_roundw
            case rel =>
              refine ⟨j + 1, by omega, by simp, ?_, Hne.out, Hbr.out⟩
              rw [Htk.out, List.filter_append]
              simpa using Hown.out
            case measure => simp [intOf]; omega
          · have hpl : (pk.toList == key.toList) = false := by rw [beq_eq_false_iff_ne]; exact fun e => hpk (toList_inj e)
            have happ := append_ent (base := w5.heap.size) (p := (pk, (bk, bg, bgr, bz, bs), gp, ps)) (Hown.out.below ((Below.refl _ wr).alloc (Nat.le_refl _) (.cells #[.string pk, .int .i64 bg, .int .i64 bz, .string bs, .slice (some ⟨gp, 0, none⟩) ps.length ps.length] 32))) Hne.out wr.heap.size (ent_new wr _ 32) (by omega) (by have := Hbr.out.size; simp; omega) 24
            clear hpk
            gi_wp2_with (gi_at_builtin; refine wpListIn_append_run _ rfl _ _ 24 rfl _ _ rfl rfl _ happ ?_)
            intro v79 w79 hown' hne' hgr
            have hfin : OwnE w5.heap.size w79 v79 ((es2.take (j + 1)).filter (fun p => decide (p.1 ≠ key))) := by
              rw [Htk.out, List.filter_append]
              have : (([(pk, (bk, bg, bgr, bz, bs), gp, ps)] : List Pr).filter fun p => decide (p.1 ≠ key)) = [(pk, (bk, bg, bgr, bz, bs), gp, ps)] := by
                rw [List.filter_cons_of_pos, List.filter_nil]
                simpa using fun e : pk = key => by subst e; simp at hpl
              rw [this]
              simp only [ne_eq, decide_not]
              exact hown'
            have hb79 : Below w5.heap.size w5 w79 := (Hbr.out.alloc Hbr.out.size _).grown hgr (by have := Hbr.out.size; simp; omega) (fun k e => (Hown.out.lt k e).1)
            have Hfin := Lib.hid hfin
            have Hne' := Lib.hid hne'
            have Hb79 := Lib.hid hb79
            clear hfin hb79 hne' hown' hgr happ
            gi_wp2_with fail
            go_roundw
            case rel => exact ⟨j + 1, by omega, by simp, Hfin.out, Hne'.out, Hb79.out⟩
            case measure => simp [intOf]; omega
        · obtain rfl : j = es2.length := by omega
          have hrw : ∀ p ∈ es2.filter (fun p => decide (p.1 ≠ key)), PRow wr p.2.2.1 p.2.2.2 := fun p hp => by
            have hm := (List.mem_filter.1 hp).1
            have hx := (Hba2.out.rows p hm).2
            exact ((Hb5'.out.trans (hbr.mono hsz5)).block _ hx.lt).trans hx
          have hll : ∀ p ∈ es2.filter (fun p => decide (p.1 ≠ key)), p.2.2.2.length ≤ 40 := fun p hp => (answer_lens Han2.out p (List.mem_filter.1 hp).1).1
          rw [List.take_length] at hown
          have hE := hown.entsIn hrw hll
          have hE5 : EntsIn wr v5 ((es2.filter (fun p => decide (p.1 ≠ key))).map ent5) := by
            have hk5 := ent5_of (es := es5) (es' := es2.filter (fun p => decide (p.1 ≠ key))) Hba5.out.keys (fun p hp => Hba2.out.keys p (List.mem_filter.1 hp).1) (by rw [Hcp.out, filter_cpy Hba2.out.keys])
            rw [← hk5]
            exact (Hba5.out.entsIn (answer_lens Han5.out)).below hbr
          have hL : ((es2.filter (fun p => decide (p.1 ≠ key))).map ent5).length ≤ 1000 := by
            have := List.length_filter_le (fun p : Pr => decide (p.1 ≠ key)) es2
            rw [List.length_map]; omega
          generalize (es2.filter (fun p => decide (p.1 ≠ key))).map ent5 = L at *
          have HE := Lib.hid hE
          have HE5 := Lib.hid hE5
          have HL := Lib.hid hL
          have Hbr := Lib.hid hbr
          clear hE hE5 hL hrw hll hown hne hbr
          gi_wp2_with fail
          refine ⟨fun h => (by cases h), (awake_in (n - 1) wr).mono ?_⟩
          rintro e w10 ⟨rfl, hb10⟩
          have halk := alike_in (n - 1) v5 u14 L HL.out w10 (HE5.out.below hb10) (HE.out.below hb10)
          have Halk := Lib.hid halk
          clear halk
          gi_wp2_with fail
          refine ⟨fun h => (by cases h), Halk.out.mono ?_⟩
          rintro e w11 ⟨rfl, hb11⟩
          gi_wp2_with fail
          go_ret
          have hb1 := Hb2.out.trans ((Hb5'.out.trans (Hbr.out.mono hsz5)).mono Hb2.out.size)
          exact ⟨rfl, hb1.trans ((hb10.trans (hb11.mono hb10.size)).mono hb1.size)⟩

end Go.Proofs.Ytbcefiefeobmcaa
