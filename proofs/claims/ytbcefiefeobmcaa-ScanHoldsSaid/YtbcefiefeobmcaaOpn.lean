/-
  A row's arguments, opened: a list of found records; a record. And 'post' out of 'Below'.
-/
import Derived.Test.YtbcefiefeobmcaaLst
import Derived.ProofKit
import Derived.Deep.Slices
namespace Go.Proofs.Ytbcefiefeobmcaa
open Go.RowKit Go.Shelf Go.Maps Go.WideElems Go.ChangeShapes Go.WideShapes Go.Deep

section
variable {H : Type} {enc : TypeId × Value → H} {W : World} {base : Nat} {sp : Nat → Bool} {held : Bool} {fuel : Nat} {cs : List Value} {x : DataW H × List MemPlace}

theorem one_cell {cs : List Value} {i : Nat} {v : Value} (h : (cs.drop i).take 1 = [v]) : cs[i]? = some v := by
  have : ((cs.drop i).take 1)[0]? = some v := by rw [h]; rfl
  rw [List.getElem?_take, if_pos (by omega), List.getElem?_drop] at this
  simpa using this

theorem trod_bytes {t e : TypeId} (ht : Try.prog.underlying t = some (.slice e)) (h : DataW.trod enc Try.prog W base sp held fuel t cs = some x) : ∃ a n c, cs = [.slice a n c] ∧ n ≤ maxLen ∧ n ≤ c := by
  rcases open_slice ht h with ⟨rfl, _⟩ | ⟨a, len, cap, m, n, D, Pl, rfl, _, hl, hm, _⟩
  · exact ⟨none, 0, 0, rfl, by unfold maxLen; omega, Nat.le_refl _⟩
  · exact ⟨some a, len, cap, rfl, by omega, hl⟩

theorem open_rec (h : DataW.trod enc Try.prog W base sp held fuel 37 cs = some x) : ∃ r : Rec, cs = [.int .i64 r.kind, .int .i64 r.cart, .string r.key, .int .i64 r.gen, .int .i64 r.group, .int .i64 r.groups, .int .i64 r.index, .int .i64 r.size, .string r.sum, .slice r.da r.dn r.dc] ∧ r.fits := by
  obtain ⟨xs, n, rfl, rfl, hl, hxl, hf⟩ := DataW.trod_struct Try.underlying37 h
  have hl' : cs.length = 10 := by rw [hl]; kernel_rfl
  have hx : ∀ i, i < 10 → ∃ y, xs[i]? = some y := fun i hi => ⟨_, List.getElem?_eq_getElem (by rw [hxl]; exact hi)⟩
  obtain ⟨y0, e0⟩ := hx 0 (by omega)
  obtain ⟨y1, e1⟩ := hx 1 (by omega)
  obtain ⟨y2, e2⟩ := hx 2 (by omega)
  obtain ⟨y3, e3⟩ := hx 3 (by omega)
  obtain ⟨y4, e4⟩ := hx 4 (by omega)
  obtain ⟨y5, e5⟩ := hx 5 (by omega)
  obtain ⟨y6, e6⟩ := hx 6 (by omega)
  obtain ⟨y7, e7⟩ := hx 7 (by omega)
  obtain ⟨y8, e8⟩ := hx 8 (by omega)
  obtain ⟨y9, e9⟩ := hx 9 (by omega)
  have g0 := (hf 0 _ rfl).trans e0
  have g1 := (hf 1 _ rfl).trans e1
  have g2 := (hf 2 _ rfl).trans e2
  have g3 := (hf 3 _ rfl).trans e3
  have g4 := (hf 4 _ rfl).trans e4
  have g5 := (hf 5 _ rfl).trans e5
  have g6 := (hf 6 _ rfl).trans e6
  have g7 := (hf 7 _ rfl).trans e7
  have g8 := (hf 8 _ rfl).trans e8
  have g9 := (hf 9 _ rfl).trans e9
  obtain ⟨n0, c0, _⟩ := DataW.trod_int Try.underlying3 g0
  obtain ⟨n1, c1, _⟩ := DataW.trod_int Try.underlying3 g1
  obtain ⟨s2, c2, _, z2⟩ := DataW.trod_string Try.underlying9 g2
  obtain ⟨n3, c3, _⟩ := DataW.trod_int Try.underlying3 g3
  obtain ⟨n4, c4, _⟩ := DataW.trod_int Try.underlying3 g4
  obtain ⟨n5, c5, _⟩ := DataW.trod_int Try.underlying3 g5
  obtain ⟨n6, c6, _⟩ := DataW.trod_int Try.underlying3 g6
  obtain ⟨n7, c7, _⟩ := DataW.trod_int Try.underlying3 g7
  obtain ⟨s8, c8, _, z8⟩ := DataW.trod_string Try.underlying9 g8
  obtain ⟨da, dn, dc, c9, z9, _⟩ := trod_bytes Try.underlying35 g9
  refine ⟨⟨n0, n1, s2, n3, n4, n5, n6, n7, s8, da, dn, dc⟩, ?_, ?_⟩
  · have k9 : Try.prog.cellsOf 9 = 1 := cells9
    have k3 : Try.prog.cellsOf 3 = 1 := cells3
    have k35 : Try.prog.cellsOf 35 = 1 := by kernel_rfl
    have c0 : (cs.drop 0).take (Try.prog.cellsOf 3) = [.int .i64 n0] := c0
    rw [k3] at c0
    have c1 : (cs.drop 1).take (Try.prog.cellsOf 3) = [.int .i64 n1] := c1
    rw [k3] at c1
    have c2 : (cs.drop 2).take (Try.prog.cellsOf 9) = [.string s2] := c2
    rw [k9] at c2
    have c3 : (cs.drop 3).take (Try.prog.cellsOf 3) = [.int .i64 n3] := c3
    rw [k3] at c3
    have c4 : (cs.drop 4).take (Try.prog.cellsOf 3) = [.int .i64 n4] := c4
    rw [k3] at c4
    have c5 : (cs.drop 5).take (Try.prog.cellsOf 3) = [.int .i64 n5] := c5
    rw [k3] at c5
    have c6 : (cs.drop 6).take (Try.prog.cellsOf 3) = [.int .i64 n6] := c6
    rw [k3] at c6
    have c7 : (cs.drop 7).take (Try.prog.cellsOf 3) = [.int .i64 n7] := c7
    rw [k3] at c7
    have c8 : (cs.drop 8).take (Try.prog.cellsOf 9) = [.string s8] := c8
    rw [k9] at c8
    have c9 : (cs.drop 9).take (Try.prog.cellsOf 35) = [.slice da dn dc] := c9
    rw [k35] at c9
    have d0 := one_cell c0
    have d1 := one_cell c1
    have d2 := one_cell c2
    have d3 := one_cell c3
    have d4 := one_cell c4
    have d5 := one_cell c5
    have d6 := one_cell c6
    have d7 := one_cell c7
    have d8 := one_cell c8
    have d9 := one_cell c9
    apply List.ext_getElem?
    intro i
    rcases Nat.lt_or_ge i 10 with hi | hi
    · have : i = 0 ∨ i = 1 ∨ i = 2 ∨ i = 3 ∨ i = 4 ∨ i = 5 ∨ i = 6 ∨ i = 7 ∨ i = 8 ∨ i = 9 := by omega
      rcases this with rfl | rfl | rfl | rfl | rfl | rfl | rfl | rfl | rfl | rfl
      · exact d0
      · exact d1
      · exact d2
      · exact d3
      · exact d4
      · exact d5
      · exact d6
      · exact d7
      · exact d8
      · exact d9
    · rw [List.getElem?_eq_none (by omega), List.getElem?_eq_none (by simpa using hi)]
  · unfold maxLen at z2 z8 z9
    exact ⟨by show s2.size ≤ _; omega, by show s8.size ≤ _; omega, by show dn ≤ _; omega⟩
theorem open_place (h : DataW.trod enc Try.prog W base sp held fuel 34 cs = some x) : ∃ c p : Int, cs = [.int .i64 c, .int .i64 p] := by
  obtain ⟨xs, n, rfl, rfl, hl, hxl, hf⟩ := DataW.trod_struct Try.underlying34 h
  have hl' : cs.length = 2 := by rw [hl]; kernel_rfl
  have hx : ∀ i, i < 2 → ∃ y, xs[i]? = some y := fun i hi => ⟨_, List.getElem?_eq_getElem (by rw [hxl]; exact hi)⟩
  obtain ⟨y0, e0⟩ := hx 0 (by omega)
  obtain ⟨y1, e1⟩ := hx 1 (by omega)
  obtain ⟨n0, c0, _⟩ := DataW.trod_int Try.underlying3 ((hf 0 _ rfl).trans e0)
  obtain ⟨n1, c1, _⟩ := DataW.trod_int Try.underlying3 ((hf 1 _ rfl).trans e1)
  have c0 : (cs.drop 0).take (Try.prog.cellsOf 3) = [.int .i64 n0] := c0
  have c1 : (cs.drop 1).take (Try.prog.cellsOf 3) = [.int .i64 n1] := c1
  rw [cells3] at c0 c1
  have d0 := one_cell c0
  have d1 := one_cell c1
  refine ⟨n0, n1, List.ext_getElem? fun i => ?_⟩
  rcases Nat.lt_or_ge i 2 with hi | hi
  · have : i = 0 ∨ i = 1 := by omega
    rcases this with rfl | rfl
    · exact d0
    · exact d1
  · rw [List.getElem?_eq_none (by omega), List.getElem?_eq_none (by simpa using hi)]

theorem open_fnd (h : DataW.trod enc Try.prog W base sp held fuel 39 cs = some x) : ∃ f : Fnd, cs = fndCells f ∧ f.r.fits := by
  obtain ⟨xs, n, rfl, rfl, hl, hxl, hf⟩ := DataW.trod_struct Try.underlying39 h
  have hl' : cs.length = 12 := by rw [hl]; kernel_rfl
  have hx : ∀ i, i < 2 → ∃ y, xs[i]? = some y := fun i hi => ⟨_, List.getElem?_eq_getElem (by rw [hxl]; exact hi)⟩
  obtain ⟨y0, e0⟩ := hx 0 (by omega)
  obtain ⟨y1, e1⟩ := hx 1 (by omega)
  obtain ⟨c, p, hc⟩ := open_place ((hf 0 _ rfl).trans e0)
  obtain ⟨r, hr, hfit⟩ := open_rec ((hf 1 _ rfl).trans e1)
  have k34 : Try.prog.cellsOf 34 = 2 := by kernel_rfl
  have k37 : Try.prog.cellsOf 37 = 10 := by kernel_rfl
  have hc : (cs.drop 0).take (Try.prog.cellsOf 34) = [.int .i64 c, .int .i64 p] := hc
  have hr : (cs.drop 2).take (Try.prog.cellsOf 37) = [.int .i64 r.kind, .int .i64 r.cart, .string r.key, .int .i64 r.gen, .int .i64 r.group, .int .i64 r.groups, .int .i64 r.index, .int .i64 r.size, .string r.sum, .slice r.da r.dn r.dc] := hr
  rw [k34] at hc
  rw [k37, List.take_of_length_le (by simp; omega)] at hr
  refine ⟨⟨c, p, r⟩, ?_, hfit⟩
  have h1 : cs = (cs.take 2) ++ (cs.drop 2) := (List.take_append_drop 2 cs).symm
  rw [h1, hr, show cs.take 2 = [.int .i64 c, .int .i64 p] from hc]
  rfl
end

theorem open_founds {H : Type} {enc : TypeId × Value → H} {W : World} {v : Value} {d : DataW H} {p : List MemPlace} (h : DataW.Trod enc Try.prog W 0 (fun _ => true) true 22 v d p) (hs : ∃ a len cap, v = .slice a len cap) (_hlt : ∀ x ∈ p, x.block < W.heap.size) :
    ∃ a len cap zs, v = .slice a len cap ∧ len ≤ cap ∧ Founds W.heap.size W v zs ∧ ∀ f ∈ zs, f.r.fits := by
  obtain ⟨a0, len0, cap0, rfl⟩ := hs
  obtain ⟨fuel, h⟩ := h
  rcases open_slice Try.underlying22 h with ⟨e, _⟩ | ⟨a, len, cap, m, n, D, Pl, e, _, hl, hm, hmm, hx, hi⟩
  · simp [Value.cells] at e
    obtain ⟨rfl, rfl, rfl⟩ := e
    exact ⟨none, 0, 0, [], rfl, Nat.le_refl _, .inl ⟨none, 0, rfl, rfl⟩, by simp⟩
  · simp [Value.cells] at e
    obtain ⟨rfl, rfl, rfl⟩ := e
    have k39 : Try.prog.cellsOf 39 = 12 := by kernel_rfl
    rw [k39] at hi hx
    simp only [if_true] at hmm
    subst hmm
    have hf : ∀ i, i < len0 → ∃ f : Fnd, (∀ j, j < 12 → W.cell? ((a.add (i * 12)).add j) = (fndCells f)[j]?) ∧ f.r.fits := fun i hil => by
      obtain ⟨cs', h1, h2⟩ := hi i (by omega)
      obtain ⟨f, rfl, hfit⟩ := open_fnd h2
      obtain ⟨_, _, h3⟩ := World.cells?_some h1
      exact ⟨f, h3, hfit⟩
    by_cases h0 : len0 = 0
    · subst h0
      exact ⟨_, _, _, [], rfl, hl, .inl ⟨_, _, rfl, rfl⟩, by simp⟩
    · obtain ⟨f0, hf0, _⟩ := hf 0 (by omega)
      have hc0 := hf0 0 (by omega)
      have hspot : a.spot = none := by
        have := World.cell?_spot (hc0.trans rfl)
        simpa [Addr.add] using this
      obtain ⟨b, off, spot⟩ := a
      dsimp only at hspot
      subst hspot
      have hadd : ∀ (o j : Nat), (⟨b, o, none⟩ : Addr).add j = ⟨b, o + j, none⟩ := fun o j => by unfold Addr.add; split <;> simp_all
      have hb : b < W.heap.size := World.block_lt_of_cell? W _ (by rw [hadd, hadd] at hc0; exact hc0)
      obtain ⟨zs, hz1, hz2⟩ : ∃ zs : List Fnd, zs.length = len0 ∧ ∀ k (hk : k < zs.length), FndAt W b (off + k * 12) zs[k] ∧ zs[k].r.fits := by
        have key : ∀ m, m ≤ len0 → ∃ zs : List Fnd, zs.length = m ∧ ∀ k (hk : k < zs.length), FndAt W b (off + k * 12) zs[k] ∧ zs[k].r.fits := by
          intro m
          induction m with
          | zero => intro _; exact ⟨[], rfl, fun k hk => by cases hk⟩
          | succ m ih =>
            intro hm1
            obtain ⟨zs, hz1, hz2⟩ := ih (by omega)
            obtain ⟨f, hf, hfit⟩ := hf m (by omega)
            have hfa : FndAt W b (off + m * 12) f := by
              have c : ∀ j, j < 12 → W.cell? ⟨b, off + m * 12 + j, none⟩ = (fndCells f)[j]? := fun j hj => by have := hf j hj; rwa [hadd, hadd] at this
              exact ⟨c 0 (by omega), c 1 (by omega), c 2 (by omega), c 3 (by omega), c 4 (by omega), c 5 (by omega), c 6 (by omega), c 7 (by omega), c 8 (by omega), c 9 (by omega), c 10 (by omega), c 11 (by omega)⟩
            refine ⟨zs ++ [f], by simp [hz1], fun k hk => ?_⟩
            by_cases hkm : k < zs.length
            · rw [List.getElem_append_left hkm]; exact hz2 k hkm
            · have hk' : k = zs.length := by simp at hk; omega
              subst hk'
              rw [List.getElem_append_right (Nat.le_refl _)]
              simp only [Nat.sub_self, List.getElem_cons_zero]
              rw [hz1]
              exact ⟨hfa, hfit⟩
        exact key len0 (Nat.le_refl _)
      refine ⟨_, _, _, zs, rfl, hl, .inr ⟨b, off, _, by rw [hz1], hb, fun k hk => (hz2 k hk).1⟩, fun f hfm => ?_⟩
      obtain ⟨k, hk, rfl⟩ := List.mem_iff_getElem.1 hfm
      exact (hz2 k hk).2

/-- 'post', where the world has but grown: the frozen places of the arguments alone matter. -/
theorem post_of_below {H : Type} {enc : TypeId × Value → H} {P : Program} {f : Func} {s : ChangeSpec} {apart fresh handsOn again : Bool} {W W' : World} {args : Array Value} {v : Value} {ds gs : List (DataW H)} {before pa pv : List MemPlace}
    (hW : DataW.Whole enc P f.params.toList s.vars apart W args.toList ds gs before)
    (hres : ∀ (b : Nat) (sp : Nat → Bool) (hd : Bool), DataW.TrodAll enc P W' b sp hd f.resultTypes.toList (v.resultList f.resultTypes.size) (s.fn H (ds ++ gs)).results [])
    (hargs : ∀ sp : Nat → Bool, (∀ p ∈ before, sp p.block = true) → DataW.TrodAll enc P W' 0 sp true f.params.toList args.toList (s.fn H (ds ++ gs)).args pa)
    (hvars : ∀ sp : Nat → Bool, (∀ p ∈ before, sp p.block = true) → DataW.TrodVars enc P W' sp s.vars (s.fn H (ds ++ gs)).vars pv)
    (hps : before = pa ++ pv) (hb : Below W.heap.size W W')
    (hok : ∀ (j : Nat) (t : TypeId) (r : Value), f.resultTypes[j]? = some t → (v.resultList f.resultTypes.size)[j]? = some r → Value.okWide P W' .any 0 t r) :
    s.post enc P f apart fresh handsOn again W args v W' := by
  have hold : ∀ p ∈ before, (fun b => decide (b < W.heap.size)) p.block = true := fun p hp => by simpa using hW.lt p hp
  refine ⟨ds, gs, before, [], pa, pv, hW, hres _ _ _, hargs _ hold, hvars _ hold, World.keptBut_mono (fun p hp => ⟨hp, ?_⟩) (hb.frame _), fun _ => ?_⟩
  · rw [hps, List.mem_append] at hp
    exact Or.inr hp
  · have hlt := hW.lt
    obtain ⟨_, _, _, _, _, hz, hn⟩ := hW
    refine ⟨hok, _, _, ([] ++ pa) ++ pv, ⟨[] ++ pa, pv, trodAll_append (hargs _ (fun _ _ => rfl)) (hres _ _ _), hvars _ (fun _ _ => rfl), rfl, ?_, ?_⟩, ?_⟩
    · intro b off hp
      have hp' : MemPlace.cell b off ∈ before := by rw [hps]; simpa using hp
      rw [hb.frozen (p := ⟨b, off, none⟩) (hlt _ hp')]
      exact hz b off hp'
    · intro ha
      have := hn ha
      rw [hps] at this
      simpa using this
    · intro p hp _
      rw [hps]
      simpa using hp

end Go.Proofs.Ytbcefiefeobmcaa
