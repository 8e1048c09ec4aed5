/-
  Best on lists, told by the plain list; the laws' awake.
-/
import Derived.Test.YtbcefiefeobmcaaLst
import Derived.Test.YtbcefiefeobmcaaPln
import Derived.Test.YtbcefiefeobmcaaAlk
namespace Go.Proofs.Ytbcefiefeobmcaa
open Go.RowKit Go.Shelf Go.Maps Go.WideElems

theorem wide_fn11 (f : FuncId) : Fence.wide.fn f = True := rfl
attribute [local go_sem] Oper.semAt_some wide_fn11

theorem counts_core (f : Fnd) : (core f).countsB = f.countsB := rfl
theorem filter_core (zs : List Fnd) : (zs.map core).filter Fnd.countsB = (zs.filter Fnd.countsB).map core := by rw [List.filter_map]; rfl
theorem copies_core (l : List Fnd) : copiesOf (l.map core) = copiesOf l := by unfold copiesOf; rw [List.foldl_map]; rfl
theorem tombs_core (l : List Fnd) : tombsOf (l.map core) = tombsOf l := by unfold tombsOf; rw [List.foldl_map]; rfl
theorem most_core (l : List Fnd) : mostOf (l.map core) = mostOf l := by unfold mostOf; rw [List.foldl_map]; rfl

/-- What Best says of a plain list. -/
def Answer (L : List Fnd) (es : List Pr) (m : Int) : Prop := IsBest (tombsOf (L.filter Fnd.countsB)) (copiesOf (L.filter Fnd.countsB)) (es.map fun p => cpy p.2) ∧ m = mostOf (L.filter Fnd.countsB)

theorem answer_core {zs L : List Fnd} {es : List Pr} {m : Int} (h : Answer zs es m) (hc : zs.map core = L) : Answer L es m := by
  subst hc
  unfold Answer
  rw [filter_core, copies_core, tombs_core, most_core]
  exact h

theorem best_any (a : Option Addr) (len cap : Nat) (zs : List Fnd) (hsmall : zs.length ≤ 1000) (hfit : ∀ f ∈ zs, f.r.fits) (w : World) (hI : Founds w.heap.size w (.slice a len cap) zs) :
    Calls Try.prog 10 #[.slice a len cap] w fun e W' => ∃ (v : Value) (es : List Pr) (m : Int), e = .returned (.tuple #[v, .int .i64 m]) ∧ BestAt w.heap.size W' v es ∧ Answer zs es m ∧ Below w.heap.size w W' :=
  (callsIn_wide.1 (best_in 4 (by omega) a len cap zs hsmall hfit w hI)).mono fun e W' ⟨v, es, h1, h2, h3, h4⟩ => by
    rw [cfs_map] at h1 h3
    exact ⟨v, es, _, h1, h2, ⟨h3, rfl⟩, h4⟩

theorem fits_core {f : Fnd} (h : (core f).r.fits) : f.r.fits := by
  obtain ⟨h1, h2, h3⟩ := h
  exact ⟨h1, h2, h3⟩

/-! ### what awake asks -/
def keyA : ByteArray := ⟨#[97]⟩
def lstA : List Fnd := copyL keyA 3 0 0
def tombF (key : ByteArray) (gen : Int) : Fnd := ⟨31, 1, ⟨3, 0, key, gen, 0, 0, 0, 0, ⟨#[]⟩, none, 0, 0⟩⟩
def cpyA : Cpy := ((keyA, 3, 1, 0, digB 0), [(0, 0), (1, 0), (2, 0), (3, 0), (4, 0), (5, 0), (6, 0), (7, 0), (8, 0), (9, 0)])
def cpyA7 : Cpy := ((keyA, 3, 1, 0, digB 0), [(0, 0), (1, 0), (2, 0), (3, 0), (4, 0), (5, 0), (6, 0), nowhere, nowhere, nowhere])
theorem lstA_eq : copyL keyA 3 0 0 = lstA := by delta lstA; exact Eq.refl _
theorem lstA_len : lstA.length = 10 := by kernel_rfl
theorem lstA_C : copiesOf (lstA.filter Fnd.countsB) = [cpyA] := by kernel_rfl
theorem lstA_T : elig (tombsOf (lstA.filter Fnd.countsB)) cpyA = true := by kernel_rfl
theorem lstA_M : mostOf (lstA.filter Fnd.countsB) = 3 := by kernel_rfl
theorem two_C : copiesOf ((lstA ++ [tombF keyA 2]).filter Fnd.countsB) = [cpyA] := by kernel_rfl
theorem two_T : elig (tombsOf ((lstA ++ [tombF keyA 2]).filter Fnd.countsB)) cpyA = true := by kernel_rfl
theorem two_M : mostOf ((lstA ++ [tombF keyA 2]).filter Fnd.countsB) = 3 := by kernel_rfl
theorem none_C : copiesOf ((lstA ++ [tombF keyA 3]).filter Fnd.countsB) = [cpyA] := by kernel_rfl
theorem none_T : elig (tombsOf ((lstA ++ [tombF keyA 3]).filter Fnd.countsB)) cpyA = false := by kernel_rfl
theorem none_M : mostOf ((lstA ++ [tombF keyA 3]).filter Fnd.countsB) = 3 := by kernel_rfl
theorem poor_C : copiesOf ((lstA.take 7).filter Fnd.countsB) = [cpyA7] := by kernel_rfl
theorem poor_T : elig (tombsOf ((lstA.take 7).filter Fnd.countsB)) cpyA7 = false := by kernel_rfl

theorem isBest_one {T : List (ByteArray × Int)} {c : Cpy} {es : List Cpy} (h : IsBest T [c] es) (he : elig T c = true) : es = [c] := by
  refine isBest_unique h (T' := T) (C' := [c]) ⟨by simp, ?_, ?_⟩ (fun _ => Iff.rfl) (fun _ _ => rfl)
  · intro e h1
    obtain rfl : e = c := by simpa using h1
    exact ⟨by simp, he, fun q hq _ _ => .inl (by simpa using hq)⟩
  · intro q hq _
    obtain rfl : q = c := by simpa using hq
    exact ⟨q, by simp, rfl⟩
theorem isBest_nil {T : List (ByteArray × Int)} {C es : List Cpy} (h : IsBest T C es) (he : ∀ c ∈ C, elig T c = false) : es = [] := by
  cases es with
  | nil => rfl
  | cons e r =>
    obtain ⟨h1, h2, _⟩ := h.has e (by simp)
    rw [he e h1] at h2
    cases h2

theorem OwnF.some {base : Nat} {W : World} {v : Value} {zs : List Fnd} (h : OwnF base W v zs) (hne : zs ≠ []) : ∃ g cap, v = .slice (some ⟨g, 0, none⟩) zs.length cap ∧ zs.length ≤ cap ∧ base ≤ g ∧ g < W.heap.size := by
  rcases h.2 with ⟨rfl, hn⟩ | ⟨g, cap, cur, rfl, hb, hg, hle, hcm, hcs, htake⟩
  · exact absurd (List.eq_nil_of_length_eq_zero hn) hne
  · exact ⟨g, cap, rfl, hle, hb, (Array.getElem?_eq_some_iff.1 hg).1⟩

theorem founds_one (W : World) (f : Fnd) : Founds (W.heap.size + 1) (W.alloc (.cells #[.int .i64 f.ac, .int .i64 f.ap, .int .i64 f.r.kind, .int .i64 f.r.cart, .string f.r.key, .int .i64 f.r.gen, .int .i64 f.r.group, .int .i64 f.r.groups, .int .i64 f.r.index, .int .i64 f.r.size, .string f.r.sum, .slice f.r.da f.r.dn f.r.dc] 39)) (.slice (some ⟨W.heap.size, 0, none⟩) 1 1) [f] :=
  .inr ⟨W.heap.size, 0, 1, rfl, by omega, fun k hk => by
    obtain rfl : k = 0 := by simpa using hk
    exact FndAt.new W f 39⟩

theorem fits_of_core {zs L : List Fnd} (h : zs.map core = L) (hL : ∀ f ∈ L, f.r.fits) : ∀ f ∈ zs, f.r.fits := fun f hf => fits_core (hL _ (by rw [← h]; exact List.mem_map.2 ⟨f, hf, rfl⟩))

theorem copyL_fits (key : ByteArray) (hk : key.size ≤ 1000) (gen size frm : Int) : ∀ f ∈ copyL key gen size frm, f.r.fits := by
  intro f hf
  simp only [copyL, copyTo, List.mem_flatMap, List.mem_range, groupF, List.mem_map] at hf
  obtain ⟨g, _, i, _, rfl⟩ := hf
  refine ⟨?_, ?_, ?_⟩
  · show key.size ≤ _; omega
  · show (digB size).size ≤ _; rw [digB_size]; omega
  · show 16 ≤ _; omega

theorem lstA_fits : ∀ f ∈ lstA, f.r.fits := copyL_fits keyA (by decide) 3 0 0

theorem awake_facts {es : List Pr} {m : Int} (h : Answer lstA es m) : ∃ p, es = [p] ∧ p.2.1 = cpyA.1 ∧ p.2.2.2 = cpyA.2 ∧ m = 3 := by
  obtain ⟨h1, h2⟩ := h
  rw [lstA_C] at h1
  have := isBest_one h1 lstA_T
  cases es with
  | nil => cases this
  | cons p r =>
    simp only [List.map_cons, List.cons.injEq, List.map_eq_nil_iff] at this
    obtain ⟨e, rfl⟩ := this
    exact ⟨p, rfl, congrArg Prod.fst e, congrArg Prod.snd e, by rw [h2, lstA_M]⟩
theorem awake_two {es : List Pr} {m : Int} (h : Answer (lstA ++ [tombF keyA 2]) es m) : es.length = 1 ∧ m = 3 := by
  obtain ⟨h1, h2⟩ := h
  rw [two_C] at h1
  have := congrArg List.length (isBest_one h1 two_T)
  exact ⟨by simpa using this, by rw [h2, two_M]⟩
theorem awake_none {es : List Pr} {m : Int} (h : Answer (lstA ++ [tombF keyA 3]) es m) : es.length = 0 ∧ m = 3 := by
  obtain ⟨h1, h2⟩ := h
  rw [none_C] at h1
  have := congrArg List.length (isBest_nil h1 (fun c hc => by obtain rfl : c = cpyA := (by simpa using hc); exact none_T))
  exact ⟨by simpa using this, by rw [h2, none_M]⟩
theorem awake_poor {es : List Pr} {m : Int} (h : Answer (lstA.take 7) es m) : es.length = 0 := by
  obtain ⟨h1, h2⟩ := h
  rw [poor_C] at h1
  have := congrArg List.length (isBest_nil h1 (fun c hc => by obtain rfl : c = cpyA7 := (by simpa using hc); exact poor_T))
  simpa using this

theorem BestAt.len {n₀ : Nat} {W : World} {v : Value} {es : List Pr} (h : BestAt n₀ W v es) : ∃ a, v = .slice a es.length es.length := by
  rcases h.ents with ⟨rfl, rfl⟩ | ⟨g, rfl, _⟩
  · exact ⟨_, rfl⟩
  · exact ⟨_, rfl⟩

theorem own_empty (W : World) : OwnF W.heap.size (W.alloc (.cells #[] 39)) (.slice (some ⟨W.heap.size, 0, none⟩) 0 0) [] := World.ownsRow_made W #[] 0 (Nat.le_refl _) (by unfold maxLen; omega) (by simp)

/-- A row behind steps that turn none of it. -/
theorem OwnF.below {base : Nat} {A B : World} {v : Value} {zs : List Fnd} (h : OwnF base A v zs) (hb : Below A.heap.size A B) : OwnF base B v zs := World.ownsRow.kept h (grown_none hb) (by cases hv : v.ownBlock <;> simp)
theorem OwnF.grown {base n₀ : Nat} {A B : World} {v : Value} {zs : List Fnd} (h : OwnF base A v zs) (hn : n₀ ≤ base) (hA : n₀ ≤ A.heap.size) {w : World} (hw : Below n₀ w A) (hg : A.grownBy B v.ownBlock) : Below n₀ w B :=
  hw.grown hg hA (fun k e => Nat.le_trans hn (h.lt k e).1)

theorem fits_tomb (key : ByteArray) (hk : key.size ≤ 1000) (gen : Int) : (tombF key gen).r.fits := ⟨by show key.size ≤ _; omega, by show (0 : Nat) ≤ _; omega, by show (0 : Nat) ≤ _; omega⟩

set_option maxRecDepth 100000 in
set_option maxHeartbeats 4000000 in
theorem awake_in (n : Nat) (w : World) : CallsIn Fence.wide n Try.prog 12 #[] w fun e W' => e = .returned (.bool true) ∧ Below w.heap.size w W' := by
  refine callsIn_of_wp Try.func12 rfl trivial ?_ rfl
  simp only [Try.ntmps12, List.size_toArray, List.length_nil, Nat.reduceSub, Array.replicate_succ, Array.replicate_zero, List.push_toArray, List.append_toArray, List.nil_append, List.cons_append]
  gi_wp2_with fail
  refine ⟨fun h => (by cases h), (copyOf_in (n - 1) keyA 3 0 0 (by omega) (by omega) (by omega) (by omega) w).mono ?_⟩
  rintro e w1 ⟨v1, zs, rfl, hown, hzs, hb1⟩
  rw [lstA_eq] at hzs
  have hlen : zs.length = 10 := by have := congrArg List.length hzs; rw [List.length_map, lstA_len] at this; exact this
  have hfit : ∀ f ∈ zs, f.r.fits := fits_of_core hzs lstA_fits
  obtain ⟨g, cap, rfl, hcap, hg0, hg1⟩ := hown.some (fun e => by rw [e] at hlen; cases hlen)
  have hF1 := hown.founds
  rw [hlen] at hF1 hcap
  have Hzs := Lib.hid hzs
  have Hfit := Lib.hid hfit
  have HF1 := Lib.hid hF1
  clear hown hzs hfit hF1
  gi_wp2_with fail
  refine ⟨fun h => (by cases h), (callsIn_wide.2 (best_any _ _ _ zs (by omega) Hfit.out w1 HF1.out)).mono ?_⟩
  rintro e w2 ⟨v2, es2, m2, rfl, hba2, han2, hb2⟩
  obtain ⟨p2, rfl, hp2b, hp2p, rfl⟩ := awake_facts (answer_core han2 Hzs.out)
  have hb2' : Below w.heap.size w w2 := hb1.trans (hb2.mono hb1.size)
  have hF2 := HF1.out.below hb2
  have HF2 := Lib.hid (hF2.up hb2.size)
  have Hba2 := Lib.hid hba2
  have Hp2b := Lib.hid hp2b
  have Hp2p := Lib.hid hp2p
  clear hba2 han2 hF2 hp2b hp2p
  have happ3 := append_founds (base := w2.heap.size) (own_empty w2) (by simp) (HF2.out.below ((Below.refl _ w2).alloc (Nat.le_refl _) (.cells #[] 39))) (by simp; omega) (by simp) 22
  gi_wp2_with (gi_at_builtin; refine wpListIn_append_run _ rfl _ _ 22 rfl _ _ rfl rfl _ happ3 ?_)
  intro vx3 wx3 hox3 hnx3 hgx3
  have hbx3 : Below w.heap.size w wx3 := (own_empty w2).grown hb2'.size (by have := hb2'.size; simp; omega) (hb2'.alloc hb2'.size _) hgx3
  have hsx3 : w2.heap.size ≤ wx3.heap.size := by have := hgx3.size; simp at this; omega
  have hfx3 := HF2.out.below (((Below.refl w2.heap.size w2).alloc (Nat.le_refl _) (.cells #[] 39)).grown hgx3 (by simp) (fun q e => by cases e; exact Nat.le_refl _))
  have hcx3 : Below w2.heap.size w2 wx3 := ((Below.refl w2.heap.size w2).alloc (Nat.le_refl _) (.cells #[] 39)).grown hgx3 (by simp) (fun q e => by cases e; exact Nat.le_refl _)
  have Hfx3 := Lib.hid hfx3
  clear hgx3 happ3 hfx3
  gi_wp2_with fail
  refine ⟨fun h => (by cases h), (callsIn_wide.2 (tomb_any _ _ _)).mono ?_⟩
  rintro e wy3 ⟨rfl, hby3⟩
  have hoy3 := hox3.below hby3
  have hby3' : Below w.heap.size w wy3 := hbx3.trans (hby3.mono hbx3.size)
  have hcy3 : Below w2.heap.size w2 wy3 := hcx3.trans (hby3.mono hsx3)
  have Hoy3 := Lib.hid hoy3
  clear hox3 hoy3 Hfx3
  have happ3 := append_founds (base := w2.heap.size) (Hoy3.out.below ((Below.refl _ wy3).alloc (Nat.le_refl _) (.cells #[.int .i64 31, .int .i64 1, .int .i64 3, .int .i64 0, .string { data := #[97] }, .int .i64 2, .int .i64 0, .int .i64 0, .int .i64 0, .int .i64 0, .string { data := #[] }, .slice none 0 0] 39))) hnx3 (founds_one wy3 (tombF keyA 2)) (by simp; omega) (by have := hcy3.size; simp; omega) 22
  gi_wp2_with (gi_at_builtin; refine wpListIn_append_run _ rfl _ _ 22 rfl _ _ rfl rfl _ happ3 ?_)
  intro vz3 wz3 hoz3 hnz3 hgz3
  have hcz3 : Below w2.heap.size w2 wz3 := (Hoy3.out.below ((Below.refl _ wy3).alloc (Nat.le_refl _) (.cells #[.int .i64 31, .int .i64 1, .int .i64 3, .int .i64 0, .string { data := #[97] }, .int .i64 2, .int .i64 0, .int .i64 0, .int .i64 0, .int .i64 0, .string { data := #[] }, .slice none 0 0] 39))).grown (Nat.le_refl _) (by have := hcy3.size; simp; omega) (hcy3.alloc hcy3.size _) hgz3
  have hbz3 : Below w.heap.size w wz3 := hb2'.trans (hcz3.mono hb2'.size)
  have hfz3 := hoz3.founds
  have hlz3 : (zs ++ [tombF keyA 2]).length = 11 := by simp [hlen]
  obtain ⟨gz3, cz3, rfl, hcapz3, _, _⟩ := hoz3.some (by simp)
  rw [hlz3] at hfz3 hcapz3
  have hczF3 := HF2.out.below hcz3
  have Hfz3 := Lib.hid hfz3
  have HzF3 := Lib.hid (hczF3.up hcz3.size)
  clear hoz3 hnz3 hgz3 happ3 hfz3 hczF3 Hoy3 hnx3
  gi_wp2_with fail
  refine ⟨fun h => (by cases h), (callsIn_wide.2 (best_any _ _ _ (zs ++ [tombF keyA 2]) (by omega) (fun f hf => by
    rcases List.mem_append.1 hf with hf | hf
    · exact Hfit.out f hf
    · obtain rfl : f = tombF keyA 2 := (by simpa using hf)
      exact fits_tomb keyA (by decide) _) wz3 Hfz3.out)).mono ?_⟩
  rintro e wb3 ⟨vb3, eb3, mb3, rfl, hbb3, hab3, hb3⟩
  obtain ⟨heb3, rfl⟩ := awake_two (answer_core hab3 (by rw [List.map_append, Hzs.out]; rfl))
  obtain ⟨ab3, rfl⟩ := hbb3.len
  rw [heb3]
  have hB3 : Below w.heap.size w wb3 := hbz3.trans (hb3.mono hbz3.size)
  have hD3 : Below w2.heap.size w2 wb3 := hcz3.trans (hb3.mono hcz3.size)
  have hF3 := Hid.out HzF3 |>.below hb3
  have HF3 := Lib.hid (hF3.up hb3.size)
  clear hbb3 hab3 heb3 hF3
  have happ5 := append_founds (base := wb3.heap.size) (own_empty wb3) (by simp) (HF3.out.below ((Below.refl _ wb3).alloc (Nat.le_refl _) (.cells #[] 39))) (by simp; omega) (by simp) 22
  gi_wp2_with (gi_at_builtin; refine wpListIn_append_run _ rfl _ _ 22 rfl _ _ rfl rfl _ happ5 ?_)
  intro vx5 wx5 hox5 hnx5 hgx5
  have hbx5 : Below w.heap.size w wx5 := (own_empty wb3).grown hB3.size (by have := hB3.size; simp; omega) (hB3.alloc hB3.size _) hgx5
  have hsx5 : wb3.heap.size ≤ wx5.heap.size := by have := hgx5.size; simp at this; omega
  have hfx5 := HF3.out.below (((Below.refl wb3.heap.size wb3).alloc (Nat.le_refl _) (.cells #[] 39)).grown hgx5 (by simp) (fun q e => by cases e; exact Nat.le_refl _))
  have hcx5 : Below wb3.heap.size wb3 wx5 := ((Below.refl wb3.heap.size wb3).alloc (Nat.le_refl _) (.cells #[] 39)).grown hgx5 (by simp) (fun q e => by cases e; exact Nat.le_refl _)
  have Hfx5 := Lib.hid hfx5
  clear hgx5 happ5 hfx5
  gi_wp2_with fail
  refine ⟨fun h => (by cases h), (callsIn_wide.2 (tomb_any _ _ _)).mono ?_⟩
  rintro e wy5 ⟨rfl, hby5⟩
  have hoy5 := hox5.below hby5
  have hby5' : Below w.heap.size w wy5 := hbx5.trans (hby5.mono hbx5.size)
  have hcy5 : Below wb3.heap.size wb3 wy5 := hcx5.trans (hby5.mono hsx5)
  have Hoy5 := Lib.hid hoy5
  clear hox5 hoy5 Hfx5
  have happ5 := append_founds (base := wb3.heap.size) (Hoy5.out.below ((Below.refl _ wy5).alloc (Nat.le_refl _) (.cells #[.int .i64 31, .int .i64 1, .int .i64 3, .int .i64 0, .string { data := #[97] }, .int .i64 3, .int .i64 0, .int .i64 0, .int .i64 0, .int .i64 0, .string { data := #[] }, .slice none 0 0] 39))) hnx5 (founds_one wy5 (tombF keyA 3)) (by simp; omega) (by have := hcy5.size; simp; omega) 22
  gi_wp2_with (gi_at_builtin; refine wpListIn_append_run _ rfl _ _ 22 rfl _ _ rfl rfl _ happ5 ?_)
  intro vz5 wz5 hoz5 hnz5 hgz5
  have hcz5 : Below wb3.heap.size wb3 wz5 := (Hoy5.out.below ((Below.refl _ wy5).alloc (Nat.le_refl _) (.cells #[.int .i64 31, .int .i64 1, .int .i64 3, .int .i64 0, .string { data := #[97] }, .int .i64 3, .int .i64 0, .int .i64 0, .int .i64 0, .int .i64 0, .string { data := #[] }, .slice none 0 0] 39))).grown (Nat.le_refl _) (by have := hcy5.size; simp; omega) (hcy5.alloc hcy5.size _) hgz5
  have hbz5 : Below w.heap.size w wz5 := hB3.trans (hcz5.mono hB3.size)
  have hfz5 := hoz5.founds
  have hlz5 : (zs ++ [tombF keyA 3]).length = 11 := by simp [hlen]
  obtain ⟨gz5, cz5, rfl, hcapz5, _, _⟩ := hoz5.some (by simp)
  rw [hlz5] at hfz5 hcapz5
  have hczF5 := HF3.out.below hcz5
  have Hfz5 := Lib.hid hfz5
  have HzF5 := Lib.hid (hczF5.up hcz5.size)
  clear hoz5 hnz5 hgz5 happ5 hfz5 hczF5 Hoy5 hnx5
  gi_wp2_with fail
  refine ⟨fun h => (by cases h), (callsIn_wide.2 (best_any _ _ _ (zs ++ [tombF keyA 3]) (by omega) (fun f hf => by
    rcases List.mem_append.1 hf with hf | hf
    · exact Hfit.out f hf
    · obtain rfl : f = tombF keyA 3 := (by simpa using hf)
      exact fits_tomb keyA (by decide) _) wz5 Hfz5.out)).mono ?_⟩
  rintro e wb5 ⟨vb5, eb5, mb5, rfl, hbb5, hab5, hb5⟩
  obtain ⟨heb5, rfl⟩ := awake_none (answer_core hab5 (by rw [List.map_append, Hzs.out]; rfl))
  obtain ⟨ab5, rfl⟩ := hbb5.len
  rw [heb5]
  have hB5 : Below w.heap.size w wb5 := hbz5.trans (hb5.mono hbz5.size)
  have hD5 : Below wb3.heap.size wb3 wb5 := hcz5.trans (hb5.mono hcz5.size)
  have hF5 := Hid.out HzF5 |>.below hb5
  have HF5 := Lib.hid (hF5.up hb5.size)
  clear hbb5 hab5 heb5 hF5
  gi_wp2_with fail
  have hft := HF5.out
  rw [← hlen] at hft
  have hft := hft.take 7 cap (by omega)
  have Hft := Lib.hid hft
  clear hft
  gi_wp2_with fail
  refine ⟨fun h => (by cases h), (callsIn_wide.2 (best_any _ _ _ (zs.take 7) (by simp; omega) (fun f hf => Hfit.out f (List.mem_of_mem_take hf)) wb5 Hft.out)).mono ?_⟩
  rintro e wb8 ⟨vb8, eb8, mb8, rfl, hbb8, hab8, hb8⟩
  have heb8 := awake_poor (answer_core hab8 (by rw [List.map_take, Hzs.out]))
  obtain ⟨ab8, rfl⟩ := hbb8.len
  rw [heb8]
  have hB8 : Below w.heap.size w wb8 := hB5.trans (hb8.mono hB5.size)
  have hD8 : Below w2.heap.size w2 wb8 := hD3.trans ((hD5.trans (hb8.mono hD5.size)).mono hD3.size)
  clear hbb8 hab8 heb8
  obtain ⟨q1, q2⟩ : ∃ gg, v2 = .slice (some ⟨gg, 0, none⟩) 1 1 ∧ wb8.cell? ⟨gg, 0, none⟩ = some (.string { data := #[97] }) ∧ wb8.cell? ⟨gg, 1, none⟩ = some (.int .i64 3) ∧ ∃ gp, wb8.cell? ⟨gg, 4, none⟩ = some (.slice (some ⟨gp, 0, none⟩) 10 10) := by
    have hk := Hba2.out.keys p2 (by simp)
    have hp := Hp2b.out
    have hpp := Hp2p.out
    rcases Hba2.out.ents with ⟨e, _⟩ | ⟨gg, e1, _, _, e2⟩
    · cases e
    · have e3 := e2 0 (by simp)
      have hl : gg < w2.heap.size := World.block_lt_of_cell? w2 ⟨gg, _, none⟩ e3.c0
      obtain ⟨k, ⟨bk, bg, bgr, bz, bs⟩, gp, ps⟩ := p2
      dsimp only at hk hp hpp
      subst hpp
      simp only [cpyA, Prod.mk.injEq] at hp
      obtain ⟨rfl, rfl, rfl, rfl, rfl⟩ := hp
      subst hk
      exact ⟨gg, e1, (hD8.cell (p := ⟨gg, _, none⟩) hl).trans e3.c0, (hD8.cell (p := ⟨gg, _, none⟩) hl).trans e3.c1, gp, (hD8.cell (p := ⟨gg, _, none⟩) hl).trans e3.c4⟩
  obtain ⟨rfl, x0, x1, gp, x4⟩ := q2
  gi_wp2_with fail
  go_ret
  exact ⟨rfl, hB8⟩

end Go.Proofs.Ytbcefiefeobmcaa
