/-
  scan's better: cmp.Or's walk, and its own.
-/
import Derived.Test.YtbcefiefeobmcaaPoor
import Derived.Test.YtbcefiefeobmcaaHeld2
namespace Go.Proofs.Ytbcefiefeobmcaa
open Go.RowKit Go.Shelf Go.Maps Go.WideElems

theorem wide_fn5 (f : FuncId) : Fence.wide.fn f = True := rfl
attribute [local go_sem] Oper.semAt_some wide_fn5

/-- cmp.Or: the first that is not 0. -/
def orL : List Int → Int
  | [] => 0
  | x :: r => if x = 0 then orL r else x
theorem orL_drop (xs : List Int) (k : Nat) {x : Int} (h : xs[k]? = some x) : orL (xs.drop k) = if x = 0 then orL (xs.drop (k + 1)) else x := by
  obtain ⟨hl, rfl⟩ := List.getElem?_eq_some_iff.1 h
  rw [List.drop_eq_getElem_cons hl]
  rfl

set_option maxRecDepth 100000 in
set_option maxHeartbeats 1000000 in
theorem or_in (n : Nat) (g c : Nat) (xs : List Int) (hreach : xs.length ≤ 1000) (w : World) (hc : ∀ k (h : k < xs.length), w.cell? ⟨g, k, none⟩ = some (.int .i64 xs[k])) :
    CallsIn Fence.wide n Try.prog 44 #[.slice (some ⟨g, 0, none⟩) xs.length c] w fun e w' => e = .returned (.int .i64 (orL xs)) ∧ w = w' := by
  refine callsIn_of_wp Try.func44 rfl trivial ?_ rfl
  simp only [Try.ntmps44, List.size_toArray, List.length_cons, List.length_nil, Nat.reduceAdd, Nat.reduceSub, Array.replicate_succ, Array.replicate_zero, List.push_toArray, List.append_toArray, List.nil_append, List.cons_append]
  gi_wp2
  gi_loopw [8] (fun i wr => ∃ k : Nat, k ≤ xs.length ∧ i = .int .i64 k ∧ orL xs = orL (xs.drop k) ∧ w = wr) (fun i _ => xs.length - (intOf i).toNat)
  case atStart => exact ⟨0, Nat.zero_le _, rfl, rfl, rfl⟩
  case round =>
    obtain ⟨k, hk, rfl, hor, rfl⟩ := hrel
    by_cases hlt : k < xs.length
    · have e0 := hc k hlt
      have hstep := orL_drop xs k (List.getElem?_eq_getElem hlt)
      generalize xs[k] = x at *
      have hor' := Lib.hid hor
      have hstep' := Lib.hid hstep
      clear hor hstep hc
      by_cases hx : x = 0
      · subst hx
        gi_wp2
        go_roundw
        case rel => exact ⟨k + 1, by omega, by simp, by rw [hor'.out, hstep'.out]; simp, trivial⟩
        case measure => simp [intOf]; omega
      · gi_wp2
        go_ret
        exact ⟨ret_int (by rw [hor'.out, hstep'.out, if_neg hx]), rfl⟩
    · obtain rfl : k = xs.length := by omega
      gi_wp2
      go_ret
      exact ⟨ret_int (by rw [hor]; simp [orL]), rfl⟩

/-- Is the first one to be taken ahead of the second one? -/
def betterB (la ga za : Int) (sa : ByteArray) (lb gb zb : Int) (sb : ByteArray) : Bool := decide (orL [cmpI lb la, cmpI gb ga, cmpI za zb, cmpS sa sb] < 0)

set_option maxRecDepth 100000 in
set_option maxHeartbeats 4000000 in
theorem better_in (n : Nat) (ka sa kb sb : ByteArray) (ga gra za la gb grb zb lb : Int) (pa pb : Option Addr) (na ca nb cb : Nat) (w : World) :
    CallsIn Fence.wide n Try.prog 21 #[.agg #[.string ka, .int .i64 ga, .int .i64 gra, .int .i64 za, .string sa, .slice pa na ca, .int .i64 la], .agg #[.string kb, .int .i64 gb, .int .i64 grb, .int .i64 zb, .string sb, .slice pb nb cb, .int .i64 lb]] w fun e w' =>
      e = .returned (.bool (betterB la ga za sa lb gb zb sb)) ∧ Below w.heap.size w w' := by
  refine callsIn_of_wp Try.func21 rfl trivial ?_ rfl
  simp only [Try.ntmps21, List.size_toArray, List.length_cons, List.length_nil, Nat.reduceAdd, Nat.reduceSub, Array.replicate_succ, Array.replicate_zero, List.push_toArray, List.append_toArray, List.nil_append, List.cons_append]
  gi_wp2_with fail
  obtain ⟨wx, hwx⟩ : ∃ wx, wx = (w.alloc (.cells #[.string ka, .int .i64 ga, .int .i64 gra, .int .i64 za, .string sa, .slice pa na ca, .int .i64 la] 62)).alloc (.cells #[.string kb, .int .i64 gb, .int .i64 grb, .int .i64 zb, .string sb, .slice pb nb cb, .int .i64 lb] 62) := ⟨_, rfl⟩
  have hb0 : Below w.heap.size w wx := by subst hwx; exact ((Below.refl _ w).alloc (Nat.le_refl _) _).alloc (by simp) _
  have hS : ∀ w', Below wx.heap.size wx w' → w'.cell? ⟨w.heap.size, 0, none⟩ = some (.string ka) ∧ w'.cell? ⟨w.heap.size, 1, none⟩ = some (.int .i64 ga) ∧ w'.cell? ⟨w.heap.size, 2, none⟩ = some (.int .i64 gra) ∧ w'.cell? ⟨w.heap.size, 3, none⟩ = some (.int .i64 za) ∧ w'.cell? ⟨w.heap.size, 4, none⟩ = some (.string sa) ∧ w'.cell? ⟨w.heap.size, 5, none⟩ = some (.slice pa na ca) ∧ w'.cell? ⟨w.heap.size, 6, none⟩ = some (.int .i64 la) ∧ w'.cell? ⟨w.heap.size + 1, 0, none⟩ = some (.string kb) ∧ w'.cell? ⟨w.heap.size + 1, 1, none⟩ = some (.int .i64 gb) ∧ w'.cell? ⟨w.heap.size + 1, 2, none⟩ = some (.int .i64 grb) ∧ w'.cell? ⟨w.heap.size + 1, 3, none⟩ = some (.int .i64 zb) ∧ w'.cell? ⟨w.heap.size + 1, 4, none⟩ = some (.string sb) ∧ w'.cell? ⟨w.heap.size + 1, 5, none⟩ = some (.slice pb nb cb) ∧ w'.cell? ⟨w.heap.size + 1, 6, none⟩ = some (.int .i64 lb) := fun w' hb => by
    subst hwx
    refine ⟨(hb.cell (p := ⟨w.heap.size, _, none⟩) (by simp; omega)).trans (by simp [go_sem]), (hb.cell (p := ⟨w.heap.size, _, none⟩) (by simp; omega)).trans (by simp [go_sem]), (hb.cell (p := ⟨w.heap.size, _, none⟩) (by simp; omega)).trans (by simp [go_sem]), (hb.cell (p := ⟨w.heap.size, _, none⟩) (by simp; omega)).trans (by simp [go_sem]), (hb.cell (p := ⟨w.heap.size, _, none⟩) (by simp; omega)).trans (by simp [go_sem]), (hb.cell (p := ⟨w.heap.size, _, none⟩) (by simp; omega)).trans (by simp [go_sem]), (hb.cell (p := ⟨w.heap.size, _, none⟩) (by simp; omega)).trans (by simp [go_sem]), (hb.cell (p := ⟨w.heap.size + 1, _, none⟩) (by simp)).trans (by simp [go_sem]), (hb.cell (p := ⟨w.heap.size + 1, _, none⟩) (by simp)).trans (by simp [go_sem]), (hb.cell (p := ⟨w.heap.size + 1, _, none⟩) (by simp)).trans (by simp [go_sem]), (hb.cell (p := ⟨w.heap.size + 1, _, none⟩) (by simp)).trans (by simp [go_sem]), (hb.cell (p := ⟨w.heap.size + 1, _, none⟩) (by simp)).trans (by simp [go_sem]), (hb.cell (p := ⟨w.heap.size + 1, _, none⟩) (by simp)).trans (by simp [go_sem]), (hb.cell (p := ⟨w.heap.size + 1, _, none⟩) (by simp)).trans (by simp [go_sem])⟩
  have HS := Lib.hid hS
  have hbd : Below wx.heap.size wx wx.drew := (Below.refl _ wx).drew
  rw [← hwx]
  clear hS hwx
  refine wpIn_region_held (S := fun w' => Below wx.heap.size wx w') (by kernel_rfl) ?_
  refine wpAnyInH_take (i := 0) (v := .pointer (some ⟨w.heap.size + 1, 6, none⟩)) (by kernel_rfl) rfl (by kernel_rfl) (by kernel_rfl) (by kernel_rfl) (fun _ _ _ h => h) ⟨.inl ⟨rfl, fun w' hS => ?_⟩, fun _ => rfl⟩ hbd ?_
  · go_simp
  refine wpAnyInH_take (i := 1) (v := .int .i64 lb) (by kernel_rfl) rfl (by kernel_rfl) (by kernel_rfl) (by kernel_rfl) (fun _ _ _ h => h) ⟨.inl ⟨rfl, fun w' hS => ?_⟩, fun _ => rfl⟩ hbd ?_
  · obtain ⟨a0, a1, a2, a3, a4, a5, a6, b0, b1, b2, b3, b4, b5, b6⟩ := HS.out _ hS
    go_simp
  refine wpAnyInH_take (i := 2) (v := .pointer (some ⟨w.heap.size, 6, none⟩)) (by kernel_rfl) rfl (by kernel_rfl) (by kernel_rfl) (by kernel_rfl) (fun _ _ _ h => h) ⟨.inl ⟨rfl, fun w' hS => ?_⟩, fun _ => rfl⟩ hbd ?_
  · go_simp
  refine wpAnyInH_take (i := 3) (v := .int .i64 la) (by kernel_rfl) rfl (by kernel_rfl) (by kernel_rfl) (by kernel_rfl) (fun _ _ _ h => h) ⟨.inl ⟨rfl, fun w' hS => ?_⟩, fun _ => rfl⟩ hbd ?_
  · obtain ⟨a0, a1, a2, a3, a4, a5, a6, b0, b1, b2, b3, b4, b5, b6⟩ := HS.out _ hS
    go_simp
  refine wpAnyInH_call (i := 4) (v := .int .i64 (cmpI lb la)) (by kernel_rfl) rfl (by kernel_rfl) (by kernel_rfl) (by kernel_rfl) (fun _ _ _ h => h) ⟨rfl, fun _ _ _ => trivial, fun w' hS => ⟨45, #[.int .i64 lb, .int .i64 la], ?_, fun h => (by cases h), callsIn_wide.2 (cmpInt_any _ _ _)⟩⟩ hbd ?_
  · go_simp
  refine wpAnyInH_take (i := 5) (v := .pointer (some ⟨w.heap.size + 1, 0, none⟩)) (by kernel_rfl) rfl (by kernel_rfl) (by kernel_rfl) (by kernel_rfl) (fun _ _ _ h => h) ⟨.inl ⟨rfl, fun w' hS => ?_⟩, fun _ => rfl⟩ hbd ?_
  · go_simp
  refine wpAnyInH_take (i := 6) (v := .pointer (some ⟨w.heap.size + 1, 1, none⟩)) (by kernel_rfl) rfl (by kernel_rfl) (by kernel_rfl) (by kernel_rfl) (fun _ _ _ h => h) ⟨.inl ⟨rfl, fun w' hS => ?_⟩, fun _ => rfl⟩ hbd ?_
  · go_simp
  refine wpAnyInH_take (i := 7) (v := .int .i64 gb) (by kernel_rfl) rfl (by kernel_rfl) (by kernel_rfl) (by kernel_rfl) (fun _ _ _ h => h) ⟨.inl ⟨rfl, fun w' hS => ?_⟩, fun _ => rfl⟩ hbd ?_
  · obtain ⟨a0, a1, a2, a3, a4, a5, a6, b0, b1, b2, b3, b4, b5, b6⟩ := HS.out _ hS
    go_simp
  refine wpAnyInH_take (i := 8) (v := .pointer (some ⟨w.heap.size, 0, none⟩)) (by kernel_rfl) rfl (by kernel_rfl) (by kernel_rfl) (by kernel_rfl) (fun _ _ _ h => h) ⟨.inl ⟨rfl, fun w' hS => ?_⟩, fun _ => rfl⟩ hbd ?_
  · go_simp
  refine wpAnyInH_take (i := 9) (v := .pointer (some ⟨w.heap.size, 1, none⟩)) (by kernel_rfl) rfl (by kernel_rfl) (by kernel_rfl) (by kernel_rfl) (fun _ _ _ h => h) ⟨.inl ⟨rfl, fun w' hS => ?_⟩, fun _ => rfl⟩ hbd ?_
  · go_simp
  refine wpAnyInH_take (i := 10) (v := .int .i64 ga) (by kernel_rfl) rfl (by kernel_rfl) (by kernel_rfl) (by kernel_rfl) (fun _ _ _ h => h) ⟨.inl ⟨rfl, fun w' hS => ?_⟩, fun _ => rfl⟩ hbd ?_
  · obtain ⟨a0, a1, a2, a3, a4, a5, a6, b0, b1, b2, b3, b4, b5, b6⟩ := HS.out _ hS
    go_simp
  refine wpAnyInH_call (i := 11) (v := .int .i64 (cmpI gb ga)) (by kernel_rfl) rfl (by kernel_rfl) (by kernel_rfl) (by kernel_rfl) (fun _ _ _ h => h) ⟨rfl, fun _ _ _ => trivial, fun w' hS => ⟨45, #[.int .i64 gb, .int .i64 ga], ?_, fun h => (by cases h), callsIn_wide.2 (cmpInt_any _ _ _)⟩⟩ hbd ?_
  · go_simp
  refine wpAnyInH_take (i := 12) (v := .pointer (some ⟨w.heap.size, 0, none⟩)) (by kernel_rfl) rfl (by kernel_rfl) (by kernel_rfl) (by kernel_rfl) (fun _ _ _ h => h) ⟨.inl ⟨rfl, fun w' hS => ?_⟩, fun _ => rfl⟩ hbd ?_
  · go_simp
  refine wpAnyInH_take (i := 13) (v := .pointer (some ⟨w.heap.size, 3, none⟩)) (by kernel_rfl) rfl (by kernel_rfl) (by kernel_rfl) (by kernel_rfl) (fun _ _ _ h => h) ⟨.inl ⟨rfl, fun w' hS => ?_⟩, fun _ => rfl⟩ hbd ?_
  · go_simp
  refine wpAnyInH_take (i := 14) (v := .int .i64 za) (by kernel_rfl) rfl (by kernel_rfl) (by kernel_rfl) (by kernel_rfl) (fun _ _ _ h => h) ⟨.inl ⟨rfl, fun w' hS => ?_⟩, fun _ => rfl⟩ hbd ?_
  · obtain ⟨a0, a1, a2, a3, a4, a5, a6, b0, b1, b2, b3, b4, b5, b6⟩ := HS.out _ hS
    go_simp
  refine wpAnyInH_take (i := 15) (v := .pointer (some ⟨w.heap.size + 1, 0, none⟩)) (by kernel_rfl) rfl (by kernel_rfl) (by kernel_rfl) (by kernel_rfl) (fun _ _ _ h => h) ⟨.inl ⟨rfl, fun w' hS => ?_⟩, fun _ => rfl⟩ hbd ?_
  · go_simp
  refine wpAnyInH_take (i := 16) (v := .pointer (some ⟨w.heap.size + 1, 3, none⟩)) (by kernel_rfl) rfl (by kernel_rfl) (by kernel_rfl) (by kernel_rfl) (fun _ _ _ h => h) ⟨.inl ⟨rfl, fun w' hS => ?_⟩, fun _ => rfl⟩ hbd ?_
  · go_simp
  refine wpAnyInH_take (i := 17) (v := .int .i64 zb) (by kernel_rfl) rfl (by kernel_rfl) (by kernel_rfl) (by kernel_rfl) (fun _ _ _ h => h) ⟨.inl ⟨rfl, fun w' hS => ?_⟩, fun _ => rfl⟩ hbd ?_
  · obtain ⟨a0, a1, a2, a3, a4, a5, a6, b0, b1, b2, b3, b4, b5, b6⟩ := HS.out _ hS
    go_simp
  refine wpAnyInH_call (i := 18) (v := .int .i64 (cmpI za zb)) (by kernel_rfl) rfl (by kernel_rfl) (by kernel_rfl) (by kernel_rfl) (fun _ _ _ h => h) ⟨rfl, fun _ _ _ => trivial, fun w' hS => ⟨45, #[.int .i64 za, .int .i64 zb], ?_, fun h => (by cases h), callsIn_wide.2 (cmpInt_any _ _ _)⟩⟩ hbd ?_
  · go_simp
  refine wpAnyInH_take (i := 19) (v := .pointer (some ⟨w.heap.size, 0, none⟩)) (by kernel_rfl) rfl (by kernel_rfl) (by kernel_rfl) (by kernel_rfl) (fun _ _ _ h => h) ⟨.inl ⟨rfl, fun w' hS => ?_⟩, fun _ => rfl⟩ hbd ?_
  · go_simp
  refine wpAnyInH_take (i := 20) (v := .pointer (some ⟨w.heap.size, 4, none⟩)) (by kernel_rfl) rfl (by kernel_rfl) (by kernel_rfl) (by kernel_rfl) (fun _ _ _ h => h) ⟨.inl ⟨rfl, fun w' hS => ?_⟩, fun _ => rfl⟩ hbd ?_
  · go_simp
  refine wpAnyInH_take (i := 21) (v := .string sa) (by kernel_rfl) rfl (by kernel_rfl) (by kernel_rfl) (by kernel_rfl) (fun _ _ _ h => h) ⟨.inl ⟨rfl, fun w' hS => ?_⟩, fun _ => rfl⟩ hbd ?_
  · obtain ⟨a0, a1, a2, a3, a4, a5, a6, b0, b1, b2, b3, b4, b5, b6⟩ := HS.out _ hS
    go_simp
  refine wpAnyInH_take (i := 22) (v := .pointer (some ⟨w.heap.size + 1, 0, none⟩)) (by kernel_rfl) rfl (by kernel_rfl) (by kernel_rfl) (by kernel_rfl) (fun _ _ _ h => h) ⟨.inl ⟨rfl, fun w' hS => ?_⟩, fun _ => rfl⟩ hbd ?_
  · go_simp
  refine wpAnyInH_take (i := 23) (v := .pointer (some ⟨w.heap.size + 1, 4, none⟩)) (by kernel_rfl) rfl (by kernel_rfl) (by kernel_rfl) (by kernel_rfl) (fun _ _ _ h => h) ⟨.inl ⟨rfl, fun w' hS => ?_⟩, fun _ => rfl⟩ hbd ?_
  · go_simp
  refine wpAnyInH_take (i := 24) (v := .string sb) (by kernel_rfl) rfl (by kernel_rfl) (by kernel_rfl) (by kernel_rfl) (fun _ _ _ h => h) ⟨.inl ⟨rfl, fun w' hS => ?_⟩, fun _ => rfl⟩ hbd ?_
  · obtain ⟨a0, a1, a2, a3, a4, a5, a6, b0, b1, b2, b3, b4, b5, b6⟩ := HS.out _ hS
    go_simp
  refine wpAnyInH_call (i := 25) (v := .int .i64 (cmpS sa sb)) (by kernel_rfl) rfl (by kernel_rfl) (by kernel_rfl) (by kernel_rfl) (fun _ _ _ h => h) ⟨rfl, fun _ _ _ => trivial, fun w' hS => ⟨24, #[.string sa, .string sb], ?_, fun h => (by cases h), callsIn_wide.2 (cmpStr_any _ _ _)⟩⟩ hbd ?_
  · go_simp
  refine wpAnyInH_all (rs := [26]) (by kernel_rfl) (by simp) ?_
  intro i hi
  obtain rfl : i = 26 := by simpa using hi
  refine wpOpIn_does rfl rfl ?_
  go_simp
  have hal : Below wx.heap.size wx (wx.alloc (.cells #[.int .i64 (cmpI lb la), .int .i64 (cmpI gb ga), .int .i64 (cmpI za zb), .int .i64 (cmpS sa sb)] 3)).drew := ((Below.refl _ wx).alloc (Nat.le_refl _) _).drew
  refine ⟨hal, ?_⟩
  refine wpAnyInH_all (rs := [27]) (by kernel_rfl) (by simp) ?_
  intro i hi
  obtain rfl : i = 27 := by simpa using hi
  refine wpOpIn_does rfl rfl ?_
  go_simp
  refine ⟨fun h => (by cases h), (or_in (n - 1) wx.heap.size 4 [cmpI lb la, cmpI gb ga, cmpI za zb, cmpS sa sb] (by simp) _ ?_).mono ?_⟩
  · intro k hk
    simp only [List.length_cons, List.length_nil] at hk
    have : k = 0 ∨ k = 1 ∨ k = 2 ∨ k = 3 := by omega
    rcases this with rfl | rfl | rfl | rfl <;> simp [go_sem]
  rintro e w1 ⟨rfl, rfl⟩
  refine ⟨hal, ?_⟩
  generalize hR : orL [cmpI lb la, cmpI gb ga, cmpI za zb, cmpS sa sb] = r
  have hB : betterB la ga za sa lb gb zb sb = decide (r < 0) := by rw [← hR]; rfl
  have hB' := Lib.hid hB
  clear hB hR HS
  refine wpAnyInH_all (rs := [28]) (by kernel_rfl) (by simp) ?_
  intro i hi
  obtain rfl : i = 28 := by simpa using hi
  refine wpOpIn_does rfl rfl ?_
  go_simp
  refine wpAnyInH_all (rs := [29]) (by kernel_rfl) (by simp) ?_
  intro i hi
  obtain rfl : i = 29 := by simpa using hi
  refine wpOpIn_does rfl rfl ?_
  go_simp
  refine wpAnyInH_done (by kernel_rfl) ?_ _
  gi_wp2_with fail
  go_ret
  exact ⟨ret_bool hB'.out.symm, hb0.trans (hal.mono hb0.size)⟩

end Go.Proofs.Ytbcefiefeobmcaa
