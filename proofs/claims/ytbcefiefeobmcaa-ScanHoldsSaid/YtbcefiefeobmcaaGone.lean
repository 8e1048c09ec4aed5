/-
  scan's gone: of each key the greatest generation at which it is told to be gone, and the greatest one of all.
-/
import Derived.Test.YtbcefiefeobmcaaIter
import Derived.Test.YtbcefiefeobmcaaMaps
namespace Go.Proofs.Ytbcefiefeobmcaa
open Go.RowKit Go.Shelf Go.Maps Go.WideElems
open Go.WideMaps (keyOf_string_mk)

theorem wide_fn (f : FuncId) : Fence.wide.fn f = True := rfl
attribute [local go_sem] Oper.semAt_some wide_fn

/-- What is told of the keys, when f has come. -/
def tombStep (m : List (ByteArray × Int)) (f : Fnd) : List (ByteArray × Int) :=
  if f.r.kind = 3 then putL m f.r.key (if (getL m f.r.key).getD 0 < f.r.gen then f.r.gen else (getL m f.r.key).getD 0) else m
def tombsOf (l : List Fnd) : List (ByteArray × Int) := l.foldl tombStep []
def mostOf (l : List Fnd) : Int := l.foldl (fun m f => if m < f.r.gen then f.r.gen else m) 0

theorem tombsOf_snoc (l : List Fnd) (f : Fnd) : tombsOf (l ++ [f]) = tombStep (tombsOf l) f := by simp [tombsOf]
theorem mostOf_snoc (l : List Fnd) (f : Fnd) : mostOf (l ++ [f]) = if mostOf l < f.r.gen then f.r.gen else mostOf l := by
  unfold mostOf
  rw [List.foldl_append]
  rfl

def tombsVal (m : List (ByteArray × Int)) : List (Value × Value) := encM (fun s : ByteArray => Value.string s) (fun n : Int => Value.int .i64 n) m

/-- Between two rounds: the map, the two variables' boxes, what lay below. -/
structure GoneI (w : World) (pre : List Fnd) (W : World) : Prop where
  map : mapIs W Try.prog 9 w.heap.size (tombsVal (tombsOf pre))
  box0 : Boxed W (w.heap.size + 1) 52 (.map (some w.heap.size))
  box1 : Boxed W (w.heap.size + 1 + 1) 3 (.int .i64 (mostOf pre))
  below : Below w.heap.size w W
  room : w.heap.size + 4 ≤ W.heap.size

theorem GoneI.own (w : World) (B : Nat) (hB : w.heap.size + 3 < B) : OwnFrom B (fun (pre : List CFnd) W => GoneI w (raw pre) W) := fun s X Y row hs hg hr =>
  have far : ∀ b, b < B → some b ≠ row := fun b hb e => by have := (hr b e.symm).1; omega
  ⟨hs.map.kept hg (far _ (by omega)), hs.box0.kept hg (far _ (by omega)), hs.box1.kept hg (far _ (by omega)), hs.below.grown hg hs.below.size (fun k e => by have := (hr k e).1; omega), Nat.le_trans hs.room hg.size⟩

theorem fndAt_kept {W W' : World} {row : Option Nat} {b o : Nat} {f : Fnd} (h : FndAt W b o f) (hlt : b < W.heap.size) (hg : W.grownBy W' row) (hne : some b ≠ row) : FndAt W' b o f :=
  have e : ∀ j, W'.cell? ⟨b, j, none⟩ = W.cell? ⟨b, j, none⟩ := fun _ => World.cell?_of_block (hg.block b hlt hne)
  ⟨(e _).trans h.c0, (e _).trans h.c1, (e _).trans h.c2, (e _).trans h.c3, (e _).trans h.c4, (e _).trans h.c5, (e _).trans h.c6, (e _).trans h.c7, (e _).trans h.c8, (e _).trans h.c9, (e _).trans h.c10, (e _).trans h.c11⟩

/-- The round of a record that is no tomb. -/
theorem GoneI.step {w W : World} {pre pre' : List Fnd} (h : GoneI w pre W) {v : Int} (hv : mostOf pre' = v) (ht : tombsOf pre' = tombsOf pre) : GoneI w pre' (W.setCell ⟨w.heap.size + 1 + 1, 0, none⟩ (.int .i64 v)) :=
  ⟨by rw [ht]; exact h.map.kept (grownBy_setCell' W (w.heap.size + 1 + 1) (.int .i64 v)) (fun e => by have := Option.some.inj e; omega),
   h.box0.other (by omega) _, by rw [hv]; exact h.box1.set _, h.below.setCell (p := ⟨w.heap.size + 1 + 1, 0, none⟩) (by simp; omega) _, by simpa [World.setCell] using h.room⟩

/-- The round of a tomb. -/
theorem GoneI.step3 {w W W2 : World} {pre pre' : List Fnd} (h : GoneI w pre W) {v tv : Int} {key : ByteArray} (hv : mostOf pre' = v) (ht : tombsOf pre' = putL (tombsOf pre) key tv)
    (hM2 : mapIs W2 Try.prog 9 w.heap.size (tombsVal (putL (tombsOf pre) key tv))) (hg2 : (W.setCell ⟨w.heap.size + 1 + 1, 0, none⟩ (.int .i64 v)).grownBy W2 (some w.heap.size)) : GoneI w pre' W2 :=
  ⟨by rw [ht]; exact hM2, (h.box0.other (by omega) _).kept hg2 (fun e => by have := Option.some.inj e; omega), by rw [hv]; exact (h.box1.set _).kept hg2 (fun e => by have := Option.some.inj e; omega),
   (h.below.setCell (p := ⟨w.heap.size + 1 + 1, 0, none⟩) (by simp; omega) _).grown hg2 (by simpa [World.setCell] using h.below.size) (fun k e => by cases e; exact Nat.le_refl _), Nat.le_trans (by simpa [World.setCell] using h.room) hg2.size⟩

theorem look_tombs {W : World} {bm : Nat} {T : List (ByteArray × Int)} (h : mapIs W Try.prog 9 bm (tombsVal T)) {key : ByteArray} (hk : key.size ≤ maxLen) :
    (Instr.lookup 52 (.map (some bm)) (.string key) false).run Try.prog W = .ok (.int .i64 ((getL T key).getD 0)) W := by
  have hz : (zeroValue 3).run Try.prog W = .ok (.int .i64 0) W := by kernel_rfl
  have := look_typed h (string_keyed Try.underlying9) Try.underlying52 hz (fun x y e => by simpa using e) (a := key) (keyOf_string_mk Try.underlying9 hk) false
  rw [this]
  cases getL T key <;> rfl

theorem store_tombs {W : World} {bm : Nat} {T : List (ByteArray × Int)} (h : mapIs W Try.prog 9 bm (tombsVal T)) {key : ByteArray} (hk : key.size ≤ maxLen) (v : Int) :
    ∃ w', (Instr.mapUpdate 52 (.map (some bm)) (.string key) (.int .i64 v)).run Try.prog W = .ok () w' ∧ mapIs w' Try.prog 9 bm (tombsVal (putL T key v)) ∧ W.grownBy w' (some bm) ∧ w'.heap.size = W.heap.size :=
  store_typed h (string_keyed Try.underlying9) Try.underlying52 (fun x y e => by simpa using e) (a := key) (keyOf_string_mk Try.underlying9 hk) v

theorem key_small {f : Fnd} (h : f.countsB = true) : f.r.key.size ≤ 16 := by
  simp only [Fnd.countsB, Bool.and_eq_true] at h
  obtain ⟨_, h⟩ := h
  unfold Rec.goodB at h
  split at h
  · simp only [Bool.and_eq_true] at h
    have := (toList_nil_iff_emptyBytes f.r.key).1 (by simpa using h.1.1.2)
    rw [this]; decide
  · split at h
    · simp [keyB] at h; omega
    · split at h
      · simp [keyB] at h; omega
      · cases h

set_option maxRecDepth 100000 in
set_option maxHeartbeats 2000000 in
theorem gone_in (n : Nat) (hn : 3 ≤ n) (a : Option Addr) (len cap : Nat) (zs : List Fnd) (hreach : zs.length * 8 ≤ 140737488351232) (hfit : ∀ f ∈ zs, f.r.fits) (w : World) (hI : Founds w.heap.size w (.slice a len cap) zs) :
    CallsIn Fence.wide n Try.prog 18 #[.slice a len cap] w fun e W' => ∃ bm, e = .returned (.tuple #[.map (some bm), .int .i64 (mostOf (zs.filter Fnd.countsB))]) ∧ w.heap.size ≤ bm ∧ mapIs W' Try.prog 9 bm (tombsVal (tombsOf (zs.filter Fnd.countsB))) ∧ Below w.heap.size w W' := by
  have h1 : 1 ≤ n := by omega
  have hmm := @run_makeMap Try.prog
  rw [← cfs_map]
  refine callsIn_of_wp_marks Try.func18 rfl trivial ?_ rfl
  simp only [Try.ntmps18, List.size_toArray, List.length_cons, List.length_nil, Nat.reduceAdd, Nat.reduceSub, Array.replicate_succ, Array.replicate_zero, List.push_toArray, List.append_toArray, List.nil_append, List.cons_append]
  gi_wp2_with (gi_at_call 39; refine (counts_in (n - 1) _ _ _ _).mono ?_; rintro e w' ⟨rfl, rfl⟩)
  have hM := mapIs_made w Try.prog 9
  have b0 := Boxed.new (w.alloc (.map #[] 0)) 52 (.map (some w.heap.size))
  have b1 := Boxed.new ((w.alloc (.map #[] 0)).alloc (.cells #[.map (some w.heap.size)] 52)) 3 (.int .i64 0)
  have b2 := Boxed.new (((w.alloc (.map #[] 0)).alloc (.cells #[.map (some w.heap.size)] 52)).alloc (.cells #[.int .i64 0] 3)) 22 (.slice a len cap)
  simp only [World.size_alloc] at b0 b1 b2
  have hB0 : Below w.heap.size w ((((w.alloc (.map #[] 0)).alloc (.cells #[.map (some w.heap.size)] 52)).alloc (.cells #[.int .i64 0] 3)).alloc (.cells #[.slice a len cap] 22)) :=
    ((((Below.refl _ w).alloc (Nat.le_refl _) _).alloc (by simp) _).alloc (by simp; omega) _).alloc (by simp; omega) _
  have hstart : GoneI w (raw []) ((((w.alloc (.map #[] 0)).alloc (.cells #[.map (some w.heap.size)] 52)).alloc (.cells #[.int .i64 0] 3)).alloc (.cells #[.slice a len cap] 22)) :=
    ⟨((hM.kept (World.grownBy_alloc _ _ none) (by simp)).kept (World.grownBy_alloc _ _ none) (by simp)).kept (World.grownBy_alloc _ _ none) (by simp), (b0.alloc _).alloc _, b1.alloc _, hB0, by simp⟩
  refine wpIn_rangeFunc_ownH rfl h1 (gf := 51) (lb := #[.pointer (some ⟨w.heap.size + 1 + 1 + 1, 0, none⟩)]) rfl trivial (enters_of Try.func51 (by kernel_rfl) rfl)
    (counts_stops (n - 1) (by omega) (w.heap.size + 1 + 1 + 1) w.heap.size _ zs hreach hfit _ (by simp) (by simp; omega) b2.cell (hI.below hB0)) belowK_t (belowK_b (by simp; omega)) (Below.refl _ _) (fun _ => rfl)
    (fun pre W => GoneI w (raw pre) W)
    (fun _ _ _ => False)
    (GoneI.own w _ (by simp))
    (fun _ _ _ _ _ hs _ _ => hs)
    hstart
    (fun x a' W => ∃ Bx, w.heap.size + 1 + 1 + 1 < Bx ∧ Bx < W.heap.size ∧ FndAt W Bx 0 x.1 ∧ a' = { tmps := #[.slice a len cap, undef, .map none, .int .i64 0, .pointer (some ⟨w.heap.size + 1, 0, none⟩), .pointer (some ⟨w.heap.size + 1 + 1, 0, none⟩), .pointer (some ⟨Bx, 0, none⟩), .map (some w.heap.size), .slice a len cap, .func (.func 51) #[] #[.pointer (some ⟨w.heap.size + 1 + 1 + 1, 0, none⟩)], x.1.val, undef, undef, undef, undef, undef, undef, undef, undef, undef, undef, undef, undef, undef, undef, undef, undef, undef, undef, undef, undef, undef, undef, undef, undef], defers := [] })
    ?hAx ?assign ?body ?done ?stop
  case hAx =>
    rintro x a' _ X Y row ⟨Bx, h2, h3, h4, h5⟩ hg hr
    refine ⟨Bx, h2, Nat.lt_of_lt_of_le h3 hg.size, fndAt_kept h4 h3 hg (fun e => ?_), h5⟩
    obtain ⟨hB, o, ho, hc⟩ := hr Bx e.symm
    have h0 := h4.c0
    simp only [World.cell?, ho] at h0
    cases o <;> simp_all [Obj.isCells]
  case assign =>
    rintro l pre x W K hs hK
    unfold Fnd.val
    gi_wp2
    exact hK _ _ ((KeepsOthers.alloc _ _).from _) ((Below.refl _ W).alloc hs.below.size _) (GoneI.own w _ (Nat.lt_succ_self _) _ _ _ _ hs (World.grownBy_alloc W _ none) (fun _ e => by cases e)) ⟨W.heap.size, by have := hs.room; omega, by simp, FndAt.new W x.1 39, rfl⟩
  case body =>
    rintro l pre x a' W hl ⟨r, hr⟩ hs ⟨Bx, hBx, hBl, hx, rfl⟩ hlt
    have hs' := hs
    obtain ⟨hM, hb0, hb1, hB, hroom⟩ := hs
    have e0 := hb0.cell
    have f0 := hb0.frozen
    have e1 := hb1.cell
    have f1 := hb1.frozen
    obtain ⟨c0, c1, c2, c3, c4, c5, c6, c7, c8, c9, c10, c11⟩ := hx
    simp only [Nat.zero_add] at c0 c1 c2 c3 c4 c5 c6 c7 c8 c9 c10 c11
    obtain ⟨⟨ac, ap, ⟨kd, ct, key, gen, gr, grs, ix, sz, sum, da, dn, dc⟩⟩, hcount⟩ := x
    dsimp only at c0 c1 c2 c3 c4 c5 c6 c7 c8 c9 c10 c11
    have hks := key_small hcount
    dsimp only at hks
    have hmost := mostOf_snoc (raw pre) ⟨ac, ap, ⟨kd, ct, key, gen, gr, grs, ix, sz, sum, da, dn, dc⟩⟩
    have htombs := tombsOf_snoc (raw pre) ⟨ac, ap, ⟨kd, ct, key, gen, gr, grs, ix, sz, sum, da, dn, dc⟩⟩
    rw [← raw_snoc pre ⟨⟨ac, ap, ⟨kd, ct, key, gen, gr, grs, ix, sz, sum, da, dn, dc⟩⟩, hcount⟩] at hmost htombs
    unfold tombStep at htombs
    dsimp only at hmost htombs
    have hkeep : ∀ v, KeepsFrom (w.heap.size + 1 + 1 + 1 + 1) W (W.setCell ⟨w.heap.size + 1 + 1, 0, none⟩ v) := fun v => (KeepsOthers.setCell W ⟨w.heap.size + 1 + 1, 0, none⟩ v).from _
    have hbel : ∀ v, Below w.heap.size W (W.setCell ⟨w.heap.size + 1 + 1, 0, none⟩ v) := fun v => (Below.refl w.heap.size W).setCell (p := ⟨w.heap.size + 1 + 1, 0, none⟩) (by simp; omega) v
    have hM1 : ∀ v, mapIs (W.setCell ⟨w.heap.size + 1 + 1, 0, none⟩ v) Try.prog 9 w.heap.size (tombsVal (tombsOf (raw pre))) := fun v => hM.kept (grownBy_setCell' W (w.heap.size + 1 + 1) v) (fun e => by have := Option.some.inj e; omega)
    generalize hM0 : mostOf (raw pre) = M at *
    generalize hT0 : tombsOf (raw pre) = T at *
    by_cases hk3 : kd = 3
    · subst hk3
      rw [if_pos rfl] at htombs
      have key3 : ∀ v, mostOf (raw (pre ++ [⟨⟨ac, ap, ⟨3, ct, key, gen, gr, grs, ix, sz, sum, da, dn, dc⟩⟩, hcount⟩])) = v → ∃ W2, (Instr.mapUpdate 52 (.map (some w.heap.size)) (.string key) (.int .i64 (if (getL T key).getD 0 < gen then gen else (getL T key).getD 0))).run Try.prog (W.setCell ⟨w.heap.size + 1 + 1, 0, none⟩ (.int .i64 v)) = .ok () W2 ∧
          Hid (KeepsFrom (w.heap.size + 1 + 1 + 1 + 1) W W2 ∧ Below w.heap.size W W2 ∧ GoneI w (raw (pre ++ [⟨⟨ac, ap, ⟨3, ct, key, gen, gr, grs, ix, sz, sum, da, dn, dc⟩⟩, hcount⟩])) W2) := fun v hv => by
        obtain ⟨W2, r1, r2, r3, r4⟩ := store_tombs (hM1 (.int .i64 v)) (key := key) (by unfold maxLen; omega) (if (getL T key).getD 0 < gen then gen else (getL T key).getD 0)
        refine ⟨W2, r1, (hkeep _).trans (KeepsFrom.of_grownBy r3 (fun j e => by cases e; omega)), (hbel _).trans ((Below.refl _ _).grown r3 (by simpa [World.setCell] using hB.size) (fun k e => by cases e; exact Nat.le_refl _)), hs'.step3 hv (by rw [hT0]; exact htombs) (by rw [hT0]; exact r2) r3⟩
      have lk : ∀ v, (Instr.lookup 52 (.map (some w.heap.size)) (.string key) false).run Try.prog (W.setCell ⟨w.heap.size + 1 + 1, 0, none⟩ v) = .ok (.int .i64 ((getL T key).getD 0)) (W.setCell ⟨w.heap.size + 1 + 1, 0, none⟩ v) := fun v => look_tombs (hM1 v) (by unfold maxLen; omega)
      generalize (getL T key).getD 0 = g at *
      clear htombs hM1 hs' hM hkeep hbel
      by_cases hm : M < gen
      · rw [if_pos hm] at hmost
        obtain ⟨W2, hup, hres⟩ := key3 gen hmost
        have lk' := lk (.int .i64 gen)
        have hmost' := Lib.hid hmost
        clear key3 lk hmost
        by_cases hg : g < gen
        · rw [if_pos hg] at hup
          gi_wp2
          exact ⟨by simpa only [World.size_alloc] using hres.out.1, hres.out.2.1, hres.out.2.2⟩
        · rw [if_neg hg] at hup
          gi_wp2
          exact ⟨by simpa only [World.size_alloc] using hres.out.1, hres.out.2.1, hres.out.2.2⟩
      · rw [if_neg hm] at hmost
        obtain ⟨W2, hup, hres⟩ := key3 M hmost
        have lk' := lk (.int .i64 M)
        have hmost' := Lib.hid hmost
        clear key3 lk hmost
        by_cases hg : g < gen
        · rw [if_pos hg] at hup
          gi_wp2
          exact ⟨by simpa only [World.size_alloc] using hres.out.1, hres.out.2.1, hres.out.2.2⟩
        · rw [if_neg hg] at hup
          gi_wp2
          exact ⟨by simpa only [World.size_alloc] using hres.out.1, hres.out.2.1, hres.out.2.2⟩
    · rw [if_neg hk3] at htombs
      have hk3' : (kd == 3) = false := by simpa using hk3
      have fin : ∀ v, mostOf (raw (pre ++ [⟨⟨ac, ap, ⟨kd, ct, key, gen, gr, grs, ix, sz, sum, da, dn, dc⟩⟩, hcount⟩])) = v →
          Hid (KeepsFrom (w.heap.size + 1 + 1 + 1 + 1) W (W.setCell ⟨w.heap.size + 1 + 1, 0, none⟩ (.int .i64 v)) ∧ Below w.heap.size W (W.setCell ⟨w.heap.size + 1 + 1, 0, none⟩ (.int .i64 v)) ∧ GoneI w (raw (pre ++ [⟨⟨ac, ap, ⟨kd, ct, key, gen, gr, grs, ix, sz, sum, da, dn, dc⟩⟩, hcount⟩])) (W.setCell ⟨w.heap.size + 1 + 1, 0, none⟩ (.int .i64 v))) := fun v hv =>
        ⟨hkeep _, hbel _, hs'.step hv (by rw [hT0]; exact htombs)⟩
      clear htombs hM1 hs' hM hkeep hbel
      by_cases hm : M < gen
      · rw [if_pos hm] at hmost
        have hres := fin gen hmost
        have hmost' := Lib.hid hmost
        clear fin hmost
        gi_wp2
        exact ⟨by simpa only [World.size_alloc] using hres.out.1, hres.out.2.1, hres.out.2.2⟩
      · rw [if_neg hm] at hmost
        have hres := fin M hmost
        have hmost' := Lib.hid hmost
        clear fin hmost
        gi_wp2
        exact ⟨by simpa only [World.size_alloc] using hres.out.1, hres.out.2.1, hres.out.2.2⟩
  case done =>
    rintro D ys W hD rfl hs hK
    obtain ⟨hM, hb0, hb1, hB, hroom⟩ := hs
    have e0 := hb0.cell
    have e1 := hb1.cell
    gi_wp2
    gi_region
    gi_wp2
    have hK' : W.drew.heap[D]? = some (.deferred (some [])) := hK
    refine ⟨by simp, .inl ⟨_, _, rfl, run_takeDeferred hK', ?_⟩⟩
    have hDg : w.heap.size < D := by simp at hD; omega
    refine ⟨.tuple #[.map (some w.heap.size), .int .i64 (mostOf (raw (cfs zs)))], by simp [results, Try.results18, go_sem], w.heap.size, rfl, Nat.le_refl _, ?_, ?_⟩
    · have hMd : mapIs W.drew Try.prog 9 w.heap.size (tombsVal (tombsOf (raw (cfs zs)))) := hM.same rfl
      exact hMd.kept (grownBy_putObj' W.drew D (.deferred none)) (fun e => by have := Option.some.inj e; omega)
    · exact hB.drew.trans (belowK_b (w := w) (Nat.le_refl _) W.drew D _ _ (by omega) hK' rfl rfl)
  case stop =>
    rintro D c pre W _ _ h _
    exact h.elim

end Go.Proofs.Ytbcefiefeobmcaa
