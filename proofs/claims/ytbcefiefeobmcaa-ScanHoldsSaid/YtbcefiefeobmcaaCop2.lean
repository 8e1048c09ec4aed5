/-
  scan's copies: the walk.
-/
import Derived.Test.YtbcefiefeobmcaaCop
import Derived.Test.YtbcefiefeobmcaaGone
import Derived.Sort.CutIn
import Derived.Sort.QuietIn
namespace Go.Proofs.Ytbcefiefeobmcaa
open Go.RowKit Go.Shelf Go.Maps Go.WideElems

theorem wide_fn3 (f : FuncId) : Fence.wide.fn f = True := rfl
attribute [local go_sem] Oper.semAt_some wide_fn3

/-- Between two rounds. -/
structure CopI (w : World) (pre : List Fnd) (W : World) : Prop where
  map : ∃ ms, CopyM (w.heap.size + 3) W w.heap.size ms ∧ plainCM ms = copiesOf pre
  box : Boxed W (w.heap.size + 1) 56 (.map (some w.heap.size))
  below : Below w.heap.size w W
  room : w.heap.size + 3 ≤ W.heap.size

theorem CopI.own (w : World) (B : Nat) (hB : w.heap.size + 2 < B) : OwnFrom B (fun (pre : List CFnd) W => CopI w (raw pre) W) := fun s X Y row hs hg hr => by
  have far : ∀ b, b < B → some b ≠ row := fun b hb e => by have := (hr b e.symm).1; omega
  obtain ⟨ms, hm, hp⟩ := hs.map
  refine ⟨⟨ms, hm.kept hg (far _ (by omega)) (fun p hp e => ?_), hp⟩, hs.box.kept hg (far _ (by omega)), hs.below.grown hg hs.below.size (fun k e => by have := (hr k e).1; omega), Nat.le_trans hs.room hg.size⟩
  obtain ⟨_, o, ho, hc⟩ := hr _ e.symm
  rw [show X.heap[p.2.1]? = _ from (hm.rows p hp).2] at ho
  cases ho; cases hc

/-- The five cells of a blob. -/
structure BlobAt (W : World) (B : Nat) (key : ByteArray) (gen grs sz : Int) (sum : ByteArray) : Prop where
  c0 : W.cell? ⟨B, 0, none⟩ = some (.string key)
  c1 : W.cell? ⟨B, 1, none⟩ = some (.int .i64 gen)
  c2 : W.cell? ⟨B, 2, none⟩ = some (.int .i64 grs)
  c3 : W.cell? ⟨B, 3, none⟩ = some (.int .i64 sz)
  c4 : W.cell? ⟨B, 4, none⟩ = some (.string sum)

theorem BlobAt.below {n₀ : Nat} {A B : World} {b : Nat} {key : ByteArray} {gen grs sz : Int} {sum : ByteArray} (h : Below n₀ A B) (hb : b < n₀) (x : BlobAt A b key gen grs sz sum) : BlobAt B b key gen grs sz sum :=
  ⟨(h.cell (p := ⟨b, _, none⟩) hb).trans x.c0, (h.cell (p := ⟨b, _, none⟩) hb).trans x.c1, (h.cell (p := ⟨b, _, none⟩) hb).trans x.c2, (h.cell (p := ⟨b, _, none⟩) hb).trans x.c3, (h.cell (p := ⟨b, _, none⟩) hb).trans x.c4⟩

theorem BlobAt.lt {W : World} {B : Nat} {key : ByteArray} {gen grs sz : Int} {sum : ByteArray} (h : BlobAt W B key gen grs sz sum) : B < W.heap.size := by
  have h0 := h.c0
  rcases hb : W.heap[B]? with _ | o
  · simp [World.cell?, hb] at h0
  · exact (Array.getElem?_eq_some_iff.1 hb).1
theorem BlobAt.kept {W W' : World} {row : Option Nat} {b : Nat} {key : ByteArray} {gen grs sz : Int} {sum : ByteArray} (h : BlobAt W b key gen grs sz sum) (hg : W.grownBy W' row) (hne : some b ≠ row) : BlobAt W' b key gen grs sz sum :=
  have e : ∀ j, W'.cell? ⟨b, j, none⟩ = W.cell? ⟨b, j, none⟩ := fun _ => World.cell?_of_block (hg.block b h.lt hne)
  ⟨(e _).trans h.c0, (e _).trans h.c1, (e _).trans h.c2, (e _).trans h.c3, (e _).trans h.c4⟩

/-- On the way through a round (that began in W) of a shard f: the two variables' cells, what lay. -/
structure CopR (w W : World) (Bx Bb : Nat) (f : Fnd) (wx : World) : Prop where
  box : Boxed wx (w.heap.size + 1) 56 (.map (some w.heap.size))
  below : Below w.heap.size w wx
  keeps : KeepsFrom (w.heap.size + 3) W wx
  fnd : FndAt wx Bx 0 f
  blob : BlobAt wx Bb f.r.key f.r.gen f.r.groups f.r.size f.r.sum
  far : w.heap.size + 2 < Bx ∧ w.heap.size + 2 < Bb ∧ Bx < wx.heap.size ∧ Bb < wx.heap.size
  kp : Below w.heap.size W wx

theorem keeps_below {B : Nat} {X Y : World} (h : Below X.heap.size X Y) : KeepsFrom B X Y :=
  ⟨h.size, fun k _ _ hk _ => (h.block k (Array.getElem?_eq_some_iff.1 hk).1).trans hk⟩

theorem CopR.grow {w W X Y : World} {Bx Bb : Nat} {f : Fnd} (h : CopR w W Bx Bb f X) (hb : Below X.heap.size X Y) : CopR w W Bx Bb f Y :=
  have hs := hb.size
  ⟨h.box.kept (grown_none hb) (by simp), h.below.trans (hb.mono h.below.size), h.keeps.trans (keeps_below hb), h.fnd.below hb h.far.2.2.1, h.blob.below hb h.far.2.2.2, ⟨h.far.1, h.far.2.1, Nat.lt_of_lt_of_le h.far.2.2.1 hs, Nat.lt_of_lt_of_le h.far.2.2.2 hs⟩, h.kp.trans (hb.mono h.below.size)⟩
theorem CopR.row {w W X Y : World} {Bx Bb g : Nat} {f : Fnd} (h : CopR w W Bx Bb f X) (hg : X.grownBy Y (some g)) (h1 : w.heap.size + 2 < g) (h2 : Bx ≠ g) (h3 : Bb ≠ g) (h4 : ∃ cs t fr, X.heap[g]? = some (.cells cs t fr)) : CopR w W Bx Bb f Y :=
  have hs := hg.size
  have ne : ∀ b, b ≠ g → some b ≠ some g := fun b hb e => hb (Option.some.inj e)
  ⟨h.box.kept hg (ne _ (by omega)), h.below.grown hg h.below.size (fun k e => by cases e; omega), h.keeps.trans ⟨hs, fun k o _ hk ho => (hg.block k (Array.getElem?_eq_some_iff.1 hk).1 (fun e => by obtain ⟨cs, t, fr, h4⟩ := h4; cases e; rw [h4] at hk; cases hk; cases ho)).trans hk⟩, fndAt_kept h.fnd h.far.2.2.1 hg (ne _ h2), h.blob.kept hg (ne _ h3), ⟨h.far.1, h.far.2.1, Nat.lt_of_lt_of_le h.far.2.2.1 hs, Nat.lt_of_lt_of_le h.far.2.2.2 hs⟩, h.kp.grown hg h.below.size (fun k e => by cases e; omega)⟩
theorem CopR.put {w W X Y : World} {Bx Bb : Nat} {f : Fnd} (h : CopR w W Bx Bb f X) (hg : X.grownBy Y (some w.heap.size)) : CopR w W Bx Bb f Y :=
  have hs := hg.size
  have ne : ∀ b, w.heap.size < b → some b ≠ some w.heap.size := fun b hb e => by have := Option.some.inj e; omega
  ⟨h.box.kept hg (ne _ (by omega)), h.below.grown hg h.below.size (fun k e => by cases e; exact Nat.le_refl _), h.keeps.trans (KeepsFrom.of_grownBy hg (fun j e => by cases e; omega)), fndAt_kept h.fnd h.far.2.2.1 hg (ne _ (by have := h.far.1; omega)), h.blob.kept hg (ne _ (by have := h.far.2.1; omega)), ⟨h.far.1, h.far.2.1, Nat.lt_of_lt_of_le h.far.2.2.1 hs, Nat.lt_of_lt_of_le h.far.2.2.2 hs⟩, h.kp.grown hg h.below.size (fun k e => by cases e; exact Nat.le_refl _)⟩

theorem putL_putL {α β : Type} [DecidableEq α] (ms : List (α × β)) (k : α) (v v' : β) : putL (putL ms k v) k v' = putL ms k v' := by
  induction ms with
  | nil => simp [putL]
  | cons p r ih =>
    obtain ⟨a, x⟩ := p
    simp only [putL]
    by_cases h : a = k <;> simp [h, putL, ih]
theorem mem_putL {α β : Type} [DecidableEq α] {ms : List (α × β)} {k : α} {v : β} {p : α × β} (h : p ∈ putL ms k v) : p = (k, v) ∨ p ∈ ms := by
  induction ms with
  | nil => simp [putL] at h; exact .inl h
  | cons q r ih =>
    obtain ⟨a, x⟩ := q
    simp only [putL] at h
    split at h
    · rcases List.mem_cons.1 h with h | h
      · exact .inl (by simp [*])
      · exact .inr (List.mem_cons_of_mem _ h)
    · rcases List.mem_cons.1 h with h | h
      · exact .inr (by rw [h]; simp)
      · exact (ih h).imp id (List.mem_cons_of_mem _)
/-- Each row is as long as its blob says. -/
theorem copies_len (l : List Fnd) : ∀ p ∈ copiesOf l, p.2.length = (p.1.2.2.1 * 10).toNat := by
  suffices h : ∀ (l : List Fnd) (m : List (Blob × List (Int × Int))), (∀ p ∈ m, p.2.length = (p.1.2.2.1 * 10).toNat) → ∀ p ∈ l.foldl copyStep m, p.2.length = (p.1.2.2.1 * 10).toNat from h l [] (by simp)
  intro l
  induction l with
  | nil => intro m hm; exact hm
  | cons f r ih =>
    intro m hm
    refine ih _ ?_
    unfold copyStep
    split
    · intro p hp
      have key : ((getL m f.r.blob).getD (List.replicate (f.r.groups * 10).toNat nowhere)).length = (f.r.groups * 10).toNat := by
        cases hg : getL m f.r.blob with
        | none => simp
        | some ps => exact hm _ (getL_some hg)
      rcases mem_putL hp with rfl | hp
      · dsimp only
        split
        · rw [List.length_set]; exact key
        · exact key
      · exact hm p hp
    · exact hm
theorem copies_get (l : List Fnd) (r : Rec) : ((getL (copiesOf l) r.blob).getD (List.replicate (r.groups * 10).toNat nowhere)).length = (r.groups * 10).toNat := by
  cases hg : getL (copiesOf l) r.blob with
  | none => simp
  | some ps => exact copies_len l _ (getL_some hg)

theorem block_set {W : World} {g : Nat} {cs : Array Value} {t : TypeId} (h : W.heap[g]? = some (.cells cs t (0, 0))) (i : Nat) (v : Value) : (W.setCell ⟨g, i, none⟩ v).heap[g]? = some (.cells (cs.setIfInBounds i v) t (0, 0)) := by
  simp [World.setCell, Array.getElem?_modify, h]
theorem grownBy_seti (W : World) (b i : Nat) (v : Value) : W.grownBy (W.setCell ⟨b, i, none⟩ v) (some b) :=
  ⟨rfl, rfl, rfl, (KeepsWalks.setCell W _ v).size, fun k _ hk => Below.heap_setCell _ _ _ k (fun e => hk (by rw [e]))⟩
theorem putL_self {α β : Type} [DecidableEq α] {ms : List (α × β)} {k : α} {v : β} (h : getL ms k = some v) : putL ms k v = ms := by
  induction ms with
  | nil => cases h
  | cons p r ih =>
    obtain ⟨a, x⟩ := p
    simp only [getL, putL] at *
    by_cases e : a = k
    · rw [if_pos e] at h ⊢
      cases h
      rw [e]
    · rw [if_neg e] at h ⊢
      rw [ih h]
theorem putL_map {α β γ : Type} [DecidableEq α] {ms : List (α × β)} {k : α} {v v' : β} (h : getL ms k = some v) (F : α × β → γ) (hF : F (k, v) = F (k, v')) : (putL ms k v').map F = ms.map F := by
  induction ms with
  | nil => cases h
  | cons p r ih =>
    obtain ⟨a, x⟩ := p
    simp only [getL, putL] at *
    by_cases e : a = k
    · rw [if_pos e] at h ⊢
      cases h
      cases e
      simp [hF]
    · rw [if_neg e] at h ⊢
      simp [ih h]
theorem mem_putL' {α β : Type} [DecidableEq α] {ms : List (α × β)} {k : α} {v v' : β} (hd : (ms.map (·.1)).Pairwise (· ≠ ·)) (h : getL ms k = some v) {p : α × β} (hp : p ∈ putL ms k v') : p = (k, v') ∨ (p ∈ ms ∧ p.1 ≠ k) := by
  induction ms with
  | nil => cases h
  | cons q r ih =>
    obtain ⟨a, x⟩ := q
    simp only [List.map_cons, List.pairwise_cons] at hd
    simp only [getL, putL] at *
    by_cases e : a = k
    · rw [if_pos e] at hp
      rcases List.mem_cons.1 hp with hp | hp
      · exact .inl hp
      · exact .inr ⟨List.mem_cons_of_mem _ hp, fun e' => hd.1 p.1 (List.mem_map_of_mem hp) (by rw [e, e'])⟩
    · rw [if_neg e] at hp h
      rcases List.mem_cons.1 hp with hp | hp
      · exact .inr ⟨by rw [hp]; simp, by rw [hp]; exact e⟩
      · exact (ih hd.2 h hp).imp id (fun t => ⟨List.mem_cons_of_mem _ t.1, t.2⟩)
theorem pair_same {α β : Type} (F : α → β) : ∀ {l : List α}, (l.map F).Pairwise (· ≠ ·) → ∀ {x y : α}, x ∈ l → y ∈ l → F x = F y → x = y
  | [], _, _, _, hx, _, _ => by cases hx
  | a :: r, h, x, y, hx, hy, e => by
    simp only [List.map_cons, List.pairwise_cons] at h
    have h1 : ∀ z ∈ r, F a ≠ F z := fun z hz => h.1 _ (List.mem_map.2 ⟨z, hz, rfl⟩)
    rcases List.mem_cons.1 hx with hx | hx <;> rcases List.mem_cons.1 hy with hy | hy
    · rw [hx, hy]
    · exact absurd e (hx ▸ h1 y hy)
    · exact absurd e.symm (hy ▸ h1 x hx)
    · exact pair_same F h.2 hx hy e
theorem flatP_int (ps : List (Int × Int)) : ∀ v ∈ flatP ps, ∃ n, v = .int .i64 n := by
  induction ps with
  | nil => intro v hv; cases hv
  | cons p r ih =>
    intro v hv
    rw [show p :: r = [p] ++ r from rfl, flatP_append] at hv
    rcases List.mem_append.1 hv with hv | hv
    · simp [flatP] at hv
      rcases hv with rfl | rfl <;> exact ⟨_, rfl⟩
    · exact ih v hv
theorem PRow.no_str {W : World} {g j : Nat} {ps : List (Int × Int)} (h : PRow W g ps) {s : ByteArray} : W.cell? ⟨g, j, none⟩ ≠ some (.string s) := by
  intro hc
  simp only [World.cell?, show W.heap[g]? = _ from h] at hc
  simp at hc
  obtain ⟨n, hn⟩ := flatP_int ps _ (List.mem_of_getElem? hc)
  cases hn
theorem CopyM.setRow {n₀ bm : Nat} {W : World} {ms : CM} (h : CopyM n₀ W bm ms) (hbm : bm < n₀) {b : Blob} {g : Nat} {ps : List (Int × Int)} (hg : getL ms b = some (g, ps)) {s : Nat} (hs : s < ps.length) (a p : Int) :
    CopyM n₀ ((W.setCell ⟨g, s * 2, none⟩ (.int .i64 a)).setCell ⟨g, s * 2 + 1, none⟩ (.int .i64 p)) bm (putL ms b (g, ps.set s (a, p))) := by
  have hmem := getL_some hg
  have hgr : W.grownBy ((W.setCell ⟨g, s * 2, none⟩ (.int .i64 a)).setCell ⟨g, s * 2 + 1, none⟩ (.int .i64 p)) (some g) := (grownBy_seti W g (s * 2) _).trans (grownBy_seti _ g (s * 2 + 1) _)
  have hn := (h.rows _ hmem).1
  refine ⟨?_, ?_, ?_⟩
  · have e : encM blobVal sliceVal (putL ms b (g, ps.set s (a, p))) = encM blobVal sliceVal ms := putL_map hg _ (by simp [sliceVal])
    rw [e]
    exact h.map.kept hgr (fun e => by have := Option.some.inj e; dsimp only at hn; omega)
  · intro q hq
    rcases mem_putL' (encM_keys h.map) hg hq with rfl | ⟨hq, hne⟩
    · refine ⟨hn, ?_⟩
      have h1 := block_set (block_set (h.rows _ hmem).2 (s * 2) (.int .i64 a)) (s * 2 + 1) (.int .i64 p)
      show _ = _
      rw [h1]
      simp only [List.setIfInBounds_toArray]
      rw [flatP_set ps s hs (a, p)]
    · refine ⟨(h.rows q hq).1, (h.rows q hq).2.kept hgr (fun e => hne ?_)⟩
      have := Option.some.inj e
      have := pair_same (fun p : Blob × (Nat × List (Int × Int)) => p.2.1) h.apart hq hmem this
      rw [this]
  · have e : (putL ms b (g, ps.set s (a, p))).map (·.2.1) = ms.map (·.2.1) := putL_map hg (fun p : Blob × (Nat × List (Int × Int)) => p.2.1) rfl
    rw [e]
    exact h.apart

/-- What the last region of a round reads. -/
def CopS (n₀ Bb Bx g ln : Nat) (key : ByteArray) (gen grs sz : Int) (sum : ByteArray) (ac ap : Int) (w' : World) : Prop :=
  w'.cell? ⟨n₀ + 1, 0, none⟩ = some (.map (some n₀)) ∧ w'.cell? ⟨Bb, 0, none⟩ = some (.string key) ∧ w'.cell? ⟨Bb, 1, none⟩ = some (.int .i64 gen) ∧ w'.cell? ⟨Bb, 2, none⟩ = some (.int .i64 grs) ∧ w'.cell? ⟨Bb, 3, none⟩ = some (.int .i64 sz) ∧ w'.cell? ⟨Bb, 4, none⟩ = some (.string sum) ∧ w'.cell? ⟨Bx, 0, none⟩ = some (.int .i64 ac) ∧ w'.cell? ⟨Bx, 1, none⟩ = some (.int .i64 ap) ∧ (Instr.lookup 56 (.map (some n₀)) (.agg #[.string key, .int .i64 gen, .int .i64 grs, .int .i64 sz, .string sum]) false).run Try.prog w' = .ok (.slice (some ⟨g, 0, none⟩) ln ln) w'

/-- A shard that counts: what its numbers are. -/
structure ShardOk (r : Rec) : Prop where
  key : r.key.size ≤ maxLen
  sum : r.sum.size ≤ maxLen
  gen : 0 ≤ r.gen ∧ r.gen ≤ 1099511627776
  groups : 1 ≤ r.groups ∧ r.groups ≤ 4
  group : 0 ≤ r.group ∧ r.group < r.groups
  index : 0 ≤ r.index ∧ r.index ≤ 9
  size : 0 ≤ r.size ∧ r.size ≤ 512
  some : r.groups = groupsOf r.size

theorem shardOk {f : Fnd} (h : f.countsB = true) (hk : f.r.kind = 2) : ShardOk f.r := by
  simp only [Fnd.countsB, Bool.and_eq_true] at h
  obtain ⟨_, h⟩ := h
  unfold Rec.goodB at h
  rw [if_neg (by omega), if_neg (by omega), if_pos hk] at h
  simp [Rec.shardB, withinB, keyB] at h
  obtain ⟨⟨⟨_, ⟨k1, k2⟩⟩, ⟨g1, g2⟩⟩, ⟨⟨⟨⟨⟨s1, s2⟩, gs⟩, ⟨r1, r2⟩⟩, ⟨i1, i2⟩⟩, m1⟩, _⟩ := h
  have hg : 1 ≤ f.r.groups ∧ f.r.groups ≤ 4 := by rw [gs]; unfold groupsOf; split <;> omega
  exact ⟨by unfold maxLen; omega, by unfold maxLen; omega, ⟨g1, g2⟩, hg, ⟨r1, by omega⟩, ⟨i1, i2⟩, ⟨s1, s2⟩, gs⟩

theorem zero30 (W : World) : (zeroValue 30).run Try.prog W = .ok (.slice none 0 0) W := by kernel_rfl

theorem look_copies {W : World} {n₀ bm : Nat} {ms : CM} (h : CopyM n₀ W bm ms) {r : Rec} (hr : ShardOk r) :
    (Instr.lookup 56 (.map (some bm)) (.agg #[.string r.key, .int .i64 r.gen, .int .i64 r.groups, .int .i64 r.size, .string r.sum]) false).run Try.prog W = .ok (lookVal sliceVal (.slice none 0 0) false (getL ms r.blob)) W := by
  obtain ⟨kl, hkl⟩ := keyOf_blob r.key r.sum r.gen r.groups r.size hr.key hr.sum hr.gen ⟨by have := hr.groups.1; omega, hr.groups.2⟩ hr.size
  exact look_typed h.map blob_keyed Try.underlying56 (zero30 W) blobVal_inj (a := r.blob) hkl false

theorem store_copies {W : World} {n₀ bm : Nat} {ms : CM} (h : CopyM n₀ W bm ms) (hbm : bm < n₀) {r : Rec} (hr : ShardOk r) {g : Nat} {ps : List (Int × Int)} (hg : n₀ ≤ g) (hrow : PRow W g ps) (hnew : ∀ p ∈ ms, p.2.1 ≠ g) (hno : getL ms r.blob = none) :
    ∃ W', (Instr.mapUpdate 56 (.map (some bm)) (.agg #[.string r.key, .int .i64 r.gen, .int .i64 r.groups, .int .i64 r.size, .string r.sum]) (.slice (some ⟨g, 0, none⟩) ps.length ps.length)).run Try.prog W = .ok () W' ∧
      Hid (CopyM n₀ W' bm (putL ms r.blob (g, ps)) ∧ W.grownBy W' (some bm)) := by
  obtain ⟨kl, hkl⟩ := keyOf_blob r.key r.sum r.gen r.groups r.size hr.key hr.sum hr.gen ⟨by have := hr.groups.1; omega, hr.groups.2⟩ hr.size
  obtain ⟨W', r1, r2, r3, _⟩ := store_typed h.map blob_keyed Try.underlying56 blobVal_inj (a := r.blob) hkl (g, ps)
  have hput : putL ms r.blob (g, ps) = ms ++ [(r.blob, (g, ps))] := putL_new _ (getL_none.1 hno)
  refine ⟨W', r1, ⟨r2, ?_, ?_⟩, r3⟩
  · intro p hp
    rw [hput] at hp
    rcases List.mem_append.1 hp with hp | hp
    · exact ⟨(h.rows p hp).1, (h.rows p hp).2.kept r3 (fun e => by have := Option.some.inj e; have := (h.rows p hp).1; omega)⟩
    · obtain rfl : p = (r.blob, (g, ps)) := by simpa using hp
      exact ⟨hg, hrow.kept r3 (fun e => by have := Option.some.inj e; omega)⟩
  · rw [hput, List.map_append, List.pairwise_append]
    refine ⟨h.apart, by simp, ?_⟩
    intro x hx y hy
    obtain ⟨p, hp, rfl⟩ := List.mem_map.1 hx
    obtain rfl : y = g := by simpa using hy
    exact hnew p hp

set_option maxRecDepth 100000 in
set_option maxHeartbeats 2000000 in
theorem copies_in (n : Nat) (hn : 3 ≤ n) (a : Option Addr) (len cap : Nat) (zs : List Fnd) (hreach : zs.length * 8 ≤ 140737488351232) (hfit : ∀ f ∈ zs, f.r.fits) (w : World) (hI : Founds w.heap.size w (.slice a len cap) zs) :
    CallsIn Fence.wide n Try.prog 19 #[.slice a len cap] w fun e W' => ∃ bm ms, e = .returned (.map (some bm)) ∧ w.heap.size ≤ bm ∧ CopyM (w.heap.size + 3) W' bm ms ∧ plainCM ms = copiesOf (raw (cfs zs)) ∧ Below w.heap.size w W' := by
  have h1 : 1 ≤ n := by omega
  have hmm := @run_makeMap Try.prog
  refine callsIn_of_wp_marks Try.func19 rfl trivial ?_ rfl
  simp only [Try.ntmps19, List.size_toArray, List.length_cons, List.length_nil, Nat.reduceAdd, Nat.reduceSub, Array.replicate_succ, Array.replicate_zero, List.push_toArray, List.append_toArray, List.nil_append, List.cons_append]
  gi_wp2_with (gi_at_call 39; refine (counts_in (n - 1) _ _ _ _).mono ?_; rintro e w' ⟨rfl, rfl⟩)
  have hM := mapIs_made w Try.prog 59
  have b0 := Boxed.new (w.alloc (.map #[] 0)) 56 (.map (some w.heap.size))
  have b2 := Boxed.new ((w.alloc (.map #[] 0)).alloc (.cells #[.map (some w.heap.size)] 56)) 22 (.slice a len cap)
  simp only [World.size_alloc] at b0 b2
  have hB0 : Below w.heap.size w (((w.alloc (.map #[] 0)).alloc (.cells #[.map (some w.heap.size)] 56)).alloc (.cells #[.slice a len cap] 22)) :=
    (((Below.refl _ w).alloc (Nat.le_refl _) _).alloc (by simp) _).alloc (by simp; omega) _
  have hstart : CopI w (raw []) (((w.alloc (.map #[] 0)).alloc (.cells #[.map (some w.heap.size)] 56)).alloc (.cells #[.slice a len cap] 22)) :=
    ⟨⟨[], ⟨(hM.kept (World.grownBy_alloc _ _ none) (by simp)).kept (World.grownBy_alloc _ _ none) (by simp), by simp, by simp⟩, rfl⟩, b0.alloc _, hB0, by simp⟩
  refine wpIn_rangeFunc_ownH rfl h1 (gf := 51) (lb := #[.pointer (some ⟨w.heap.size + 1 + 1, 0, none⟩)]) rfl trivial (enters_of Try.func51 (by kernel_rfl) rfl)
    (counts_stops (n - 1) (by omega) (w.heap.size + 1 + 1) w.heap.size _ zs hreach hfit _ (by simp) (by simp; omega) b2.cell (hI.below hB0)) belowK_t (belowK_b (by simp; omega)) (Below.refl _ _) (fun _ => rfl)
    (fun pre W => CopI w (raw pre) W)
    (fun _ _ _ => False)
    (CopI.own w _ (by simp))
    (fun _ _ _ _ _ hs _ _ => hs)
    hstart
    (fun x a' W => ∃ Bx, w.heap.size + 1 + 1 < Bx ∧ Bx < W.heap.size ∧ FndAt W Bx 0 x.1 ∧ a' = { tmps := #[.slice a len cap, undef, .map none, .pointer (some ⟨w.heap.size + 1, 0, none⟩), .pointer (some ⟨Bx, 0, none⟩), undef, undef, .map (some w.heap.size), .slice a len cap, .func (.func 51) #[] #[.pointer (some ⟨w.heap.size + 1 + 1, 0, none⟩)], x.1.val, undef, undef, undef, undef, undef, undef, undef, undef, undef, undef, undef, undef, undef, undef, undef, undef, undef, undef, undef, undef, undef, undef, undef, undef, undef, undef, undef, undef, undef, undef, undef, undef, undef, undef, undef, undef, undef, undef, undef, undef, undef, undef, undef], defers := [] })
    ?hAx ?assign ?body ?done ?stop
  case hAx =>
    rintro x a' _ X Y row ⟨Bx, h2, h3, h4, h5⟩ hg hr
    refine ⟨Bx, h2, Nat.lt_of_lt_of_le h3 hg.size, fndAt_kept h4 h3 hg (fun e => ?_), h5⟩
    obtain ⟨hB, o, ho, hc⟩ := hr Bx e.symm
    have h0 := h4.c0
    simp only [World.cell?, ho] at h0
    cases o <;> simp_all [Obj.isCells]
  case assign =>
    rintro l pre x W K hs hK
    unfold Fnd.val
    gi_wp2
    exact hK _ _ ((KeepsOthers.alloc _ _).from _) ((Below.refl _ W).alloc hs.below.size _) (CopI.own w _ (Nat.lt_succ_self _) _ _ _ _ hs (World.grownBy_alloc W _ none) (fun _ e => by cases e)) ⟨W.heap.size, by have := hs.room; omega, by simp, FndAt.new W x.1 39, rfl⟩
  case body =>
    rintro l pre x a' W hl ⟨r, hr⟩ hs ⟨Bx, hBx, hBl, hx, rfl⟩ hlt
    obtain ⟨⟨ms, hM, hpl⟩, hb0, hB, hroom⟩ := hs
    have e0 := hb0.cell
    have f0 := hb0.frozen
    have hxx := hx
    obtain ⟨c0, c1, c2, c3, c4, c5, c6, c7, c8, c9, c10, c11⟩ := hx
    simp only [Nat.zero_add] at c0 c1 c2 c3 c4 c5 c6 c7 c8 c9 c10 c11
    obtain ⟨⟨ac, ap, ⟨kd, ct, key, gen, gr, grs, ix, sz, sum, da, dn, dc⟩⟩, hcount⟩ := x
    dsimp only at c0 c1 c2 c3 c4 c5 c6 c7 c8 c9 c10 c11
    by_cases hk : kd = 2
    · subst hk
      have hok := shardOk hcount rfl
      have hok2 := hok.groups
      have hok3 := hok.group
      have hok4 := hok.index
      dsimp only at hok2 hok3 hok4
      have hw1 : IntKind.i64.wrap (gr * 10) = gr * 10 := IntWalk.i64_in _ (by omega)
      have hw2 : IntKind.i64.wrap (gr * 10 + ix) = gr * 10 + ix := IntWalk.i64_in _ (by omega)
      gi_wp2_with fail
      gi_cut [5, 6] from 15 (fun b5 s6 wc => ∃ Bb, b5 = Value.pointer (some ⟨Bb, 0, none⟩) ∧ W.heap.size ≤ Bb ∧ BlobAt wc Bb key gen grs sz sum ∧ s6 = .int .i64 (gr * 10 + ix) ∧ Below W.heap.size W wc)
      case first J K' hJ hK' =>
        have hSk : ∀ w', Below W.heap.size W w' → w'.cell? ⟨Bx, 2, none⟩ = some (.int .i64 2) ∧ w'.cell? ⟨Bx, 3, none⟩ = some (.int .i64 ct) ∧ w'.cell? ⟨Bx, 4, none⟩ = some (.string key) ∧ w'.cell? ⟨Bx, 5, none⟩ = some (.int .i64 gen) ∧ w'.cell? ⟨Bx, 6, none⟩ = some (.int .i64 gr) ∧ w'.cell? ⟨Bx, 7, none⟩ = some (.int .i64 grs) ∧ w'.cell? ⟨Bx, 8, none⟩ = some (.int .i64 ix) ∧ w'.cell? ⟨Bx, 9, none⟩ = some (.int .i64 sz) ∧ w'.cell? ⟨Bx, 10, none⟩ = some (.string sum) ∧ w'.cell? ⟨Bx, 11, none⟩ = some (.slice da dn dc) := fun w' hb =>
          ⟨(hb.cell (p := ⟨Bx, _, none⟩) hBl).trans c2, (hb.cell (p := ⟨Bx, _, none⟩) hBl).trans c3, (hb.cell (p := ⟨Bx, _, none⟩) hBl).trans c4, (hb.cell (p := ⟨Bx, _, none⟩) hBl).trans c5, (hb.cell (p := ⟨Bx, _, none⟩) hBl).trans c6, (hb.cell (p := ⟨Bx, _, none⟩) hBl).trans c7, (hb.cell (p := ⟨Bx, _, none⟩) hBl).trans c8, (hb.cell (p := ⟨Bx, _, none⟩) hBl).trans c9, (hb.cell (p := ⟨Bx, _, none⟩) hBl).trans c10, (hb.cell (p := ⟨Bx, _, none⟩) hBl).trans c11⟩
        have HSk := Lib.hid hSk
        have hbd : Below W.heap.size W W.drew := (Below.refl _ W).drew
        clear hSk c0 c1 c2 c3 c4 c5 c6 c7 c8 c9 c10 c11
        refine wpIn_region_held (S := fun w' => Below W.heap.size W w') (by kernel_rfl) ?_
        refine wpAnyInH_take (i := 0) (v := .pointer (some ⟨Bx, 2, none⟩)) (by kernel_rfl) rfl (by kernel_rfl) (by kernel_rfl) (by kernel_rfl) (fun _ _ _ h => h) ⟨.inl ⟨rfl, fun w' hS => ?_⟩, fun _ => rfl⟩ hbd ?_
        · go_simp
        refine wpAnyInH_take (i := 1) (v := .agg #[.int .i64 2, .int .i64 ct, .string key, .int .i64 gen, .int .i64 gr, .int .i64 grs, .int .i64 ix, .int .i64 sz, .string sum, .slice da dn dc]) (by kernel_rfl) rfl (by kernel_rfl) (by kernel_rfl) (by kernel_rfl) (fun _ _ _ h => h) ⟨.inl ⟨rfl, fun w' hS => ?_⟩, fun _ => rfl⟩ hbd ?_
        · obtain ⟨s2, s3, s4, s5, s6, s7, s8, s9, s10, s11⟩ := HSk.out _ hS
          go_simp
        refine wpAnyInH_take (i := 3) (v := .pointer (some ⟨Bx, 2, none⟩)) (by kernel_rfl) rfl (by kernel_rfl) (by kernel_rfl) (by kernel_rfl) (fun _ _ _ h => h) ⟨.inl ⟨rfl, fun w' hS => ?_⟩, fun _ => rfl⟩ hbd ?_
        · go_simp
        refine wpAnyInH_take (i := 4) (v := .pointer (some ⟨Bx, 6, none⟩)) (by kernel_rfl) rfl (by kernel_rfl) (by kernel_rfl) (by kernel_rfl) (fun _ _ _ h => h) ⟨.inl ⟨rfl, fun w' hS => ?_⟩, fun _ => rfl⟩ hbd ?_
        · go_simp
        refine wpAnyInH_take (i := 5) (v := .int .i64 gr) (by kernel_rfl) rfl (by kernel_rfl) (by kernel_rfl) (by kernel_rfl) (fun _ _ _ h => h) ⟨.inl ⟨rfl, fun w' hS => ?_⟩, fun _ => rfl⟩ hbd ?_
        · obtain ⟨s2, s3, s4, s5, s6, s7, s8, s9, s10, s11⟩ := HSk.out _ hS
          go_simp
        refine wpAnyInH_take (i := 6) (v := .int .i64 (gr * 10)) (by kernel_rfl) rfl (by kernel_rfl) (by kernel_rfl) (by kernel_rfl) (fun _ _ _ h => h) ⟨.inl ⟨rfl, fun w' hS => ?_⟩, fun _ => rfl⟩ hbd ?_
        · go_simp
        refine wpAnyInH_take (i := 7) (v := .pointer (some ⟨Bx, 2, none⟩)) (by kernel_rfl) rfl (by kernel_rfl) (by kernel_rfl) (by kernel_rfl) (fun _ _ _ h => h) ⟨.inl ⟨rfl, fun w' hS => ?_⟩, fun _ => rfl⟩ hbd ?_
        · go_simp
        refine wpAnyInH_take (i := 8) (v := .pointer (some ⟨Bx, 8, none⟩)) (by kernel_rfl) rfl (by kernel_rfl) (by kernel_rfl) (by kernel_rfl) (fun _ _ _ h => h) ⟨.inl ⟨rfl, fun w' hS => ?_⟩, fun _ => rfl⟩ hbd ?_
        · go_simp
        refine wpAnyInH_take (i := 9) (v := .int .i64 ix) (by kernel_rfl) rfl (by kernel_rfl) (by kernel_rfl) (by kernel_rfl) (fun _ _ _ h => h) ⟨.inl ⟨rfl, fun w' hS => ?_⟩, fun _ => rfl⟩ hbd ?_
        · obtain ⟨s2, s3, s4, s5, s6, s7, s8, s9, s10, s11⟩ := HSk.out _ hS
          go_simp
        refine wpAnyInH_take (i := 10) (v := .int .i64 (gr * 10 + ix)) (by kernel_rfl) rfl (by kernel_rfl) (by kernel_rfl) (by kernel_rfl) (fun _ _ _ h => h) ⟨.inl ⟨rfl, fun w' hS => ?_⟩, fun _ => rfl⟩ hbd ?_
        · go_simp
        refine wpAnyInH_all (rs := [2, 11]) (by kernel_rfl) (by simp) ?_
        intro i hi
        rcases List.mem_cons.1 hi with rfl | hi
        · refine wpOpIn_does rfl rfl ?_
          go_simp
          refine ⟨fun h => (by cases h), ((callsIn_wide.2 (of_any _ _ _ _ _ _ _ _ _ _ _ _ _)).inRound l).mono ?_⟩
          rintro e w1 ⟨rfl, hb1⟩
          have hb1' : Below W.heap.size W w1 := hbd.trans (hb1.mono (Nat.le_refl _))
          refine ⟨hb1', ?_⟩
          refine wpAnyInH_all (rs := [11]) (by kernel_rfl) (by simp) ?_
          intro i hi
          obtain rfl : i = 11 := by simpa using hi
          refine wpOpIn_does rfl rfl ?_
          go_simp
          refine ⟨hb1'.alloc hb1'.size _, ?_⟩
          refine wpAnyInH_all (rs := [12]) (by kernel_rfl) (by simp) ?_
          intro i hi
          obtain rfl : i = 12 := by simpa using hi
          refine wpOpIn_does rfl rfl ?_
          go_simp
          refine ⟨hb1'.alloc hb1'.size _, ?_⟩
          refine wpAnyInH_all (rs := [13]) (by kernel_rfl) (by simp) ?_
          intro i hi
          obtain rfl : i = 13 := by simpa using hi
          refine wpOpIn_does rfl rfl ?_
          go_simp
          refine ⟨hb1'.alloc hb1'.size _, wpAnyInH_done (by kernel_rfl) ?_ _⟩
          refine hK' _ _ (Met.intro (hJ _ _ ?_))
          repeat apply Exists.intro
          refine ⟨?_, rfl⟩
          exact ⟨w1.heap.size, rfl, hb1'.size, ⟨by simp [go_sem], by simp [go_sem], by simp [go_sem], by simp [go_sem], by simp [go_sem]⟩, rfl, hb1'.alloc hb1'.size _⟩
        · obtain rfl : i = 11 := by simpa using hi
          refine wpOpIn_does rfl rfl ?_
          go_simp
          refine ⟨hbd.alloc hbd.size _, ?_⟩
          refine wpAnyInH_all (rs := [2]) (by kernel_rfl) (by simp) ?_
          intro i hi
          obtain rfl : i = 2 := by simpa using hi
          refine wpOpIn_does rfl rfl ?_
          go_simp
          refine ⟨fun h => (by cases h), ((callsIn_wide.2 (of_any _ _ _ _ _ _ _ _ _ _ _ _ _)).inRound l).mono ?_⟩
          rintro e w1 ⟨rfl, hb1⟩
          have hb1' : Below W.heap.size W w1 := (hbd.alloc hbd.size _).trans (hb1.mono (by simp))
          refine ⟨hb1', ?_⟩
          have hwr : ∃ cs, cs.size = 5 ∧ w1.heap[W.heap.size]? = some (.cells cs 59 (0, 0)) := ⟨_, rfl, (hb1.block W.heap.size (by simp)).trans ((MapKept.heap_alloc W.drew _).1)⟩
          obtain ⟨cs, hcs, hwb⟩ := hwr
          have hlt1 : W.heap.size < w1.heap.size := (Array.getElem?_eq_some_iff.1 hwb).1
          have z0 : ∀ i, i < 5 → ∃ v, w1.cell? ⟨W.heap.size, i, none⟩ = some v := fun i hi => ⟨cs[i]'(by omega), by simp [World.cell?, hwb, hcs, hi]⟩
          have fz : ∀ i, w1.frozen? ⟨W.heap.size, i, none⟩ = false := fun i => by simp [World.frozen?, hwb]
          obtain ⟨v0, y0⟩ := z0 0 (by omega)
          obtain ⟨v1, y1⟩ := z0 1 (by omega)
          obtain ⟨v2, y2⟩ := z0 2 (by omega)
          obtain ⟨v3, y3⟩ := z0 3 (by omega)
          obtain ⟨v4, y4⟩ := z0 4 (by omega)
          have f0' := fz 0
          have f1' := fz 1
          have f2' := fz 2
          have f3' := fz 3
          have f4' := fz 4
          clear z0 fz
          refine wpAnyInH_all (rs := [12]) (by kernel_rfl) (by simp) ?_
          intro i hi
          obtain rfl : i = 12 := by simpa using hi
          refine wpOpIn_does rfl rfl ?_
          go_simp
          have hbW : ∀ v0 v1 v2 v3 v4, Below W.heap.size W (((((w1.setCell ⟨W.heap.size, 0, none⟩ v0).setCell ⟨W.heap.size, 1, none⟩ v1).setCell ⟨W.heap.size, 2, none⟩ v2).setCell ⟨W.heap.size, 3, none⟩ v3).setCell ⟨W.heap.size, 4, none⟩ v4) := fun v0 v1 v2 v3 v4 =>
            ((((hb1'.setCell (p := ⟨W.heap.size, 0, none⟩) (Nat.le_refl _) v0).setCell (p := ⟨W.heap.size, 1, none⟩) (Nat.le_refl _) v1).setCell (p := ⟨W.heap.size, 2, none⟩) (Nat.le_refl _) v2).setCell (p := ⟨W.heap.size, 3, none⟩) (Nat.le_refl _) v3).setCell (p := ⟨W.heap.size, 4, none⟩) (Nat.le_refl _) v4
          have HbW := Lib.hid hbW
          clear hbW
          refine ⟨HbW.out _ _ _ _ _, ?_⟩
          refine wpAnyInH_all (rs := [13]) (by kernel_rfl) (by simp) ?_
          intro i hi
          obtain rfl : i = 13 := by simpa using hi
          refine wpOpIn_does rfl rfl ?_
          go_simp
          refine ⟨HbW.out _ _ _ _ _, wpAnyInH_done (by kernel_rfl) ?_ _⟩
          refine hK' _ _ (Met.intro (hJ _ _ ?_))
          repeat apply Exists.intro
          refine ⟨?_, rfl⟩
          exact ⟨W.heap.size, rfl, Nat.le_refl _, ⟨by go_simp, by go_simp, by go_simp, by go_simp, by go_simp⟩, rfl, HbW.out _ _ _ _ _⟩
      case rest =>
        obtain ⟨Bb, rfl, hBb, hbl, h6, hbc⟩ := hcut
        obtain ⟨sn, hsn⟩ : ∃ sn : Nat, gr * 10 + ix = sn := ⟨(gr * 10 + ix).toNat, by omega⟩
        rw [hsn] at h6
        subst h6
        have hMc := hM.kept (grown_none hbc) (by simp) (fun _ _ => by simp)
        have hlk := look_copies hMc hok
        dsimp only at hlk
        have hR : CopR w W Bx Bb ⟨ac, ap, ⟨2, ct, key, gen, gr, grs, ix, sz, sum, da, dn, dc⟩⟩ wc :=
          ⟨hb0.kept (grown_none hbc) (by simp), hB.trans (hbc.mono hB.size), keeps_below hbc, hxx.below hbc hBl, hbl, ⟨by omega, by omega, by have := hbc.size; omega, hbl.lt⟩, hbc.mono hB.size⟩
        have d0 := hR.box.cell
        obtain ⟨k0, k1, k2, k3, k4⟩ := hR.blob
        dsimp only at k0 k1 k2 k3 k4
        have hR' := Lib.hid hR
        clear hR c0 c1 c2 c3 c4 c5 c6 c7 c8 c9 c10 c11 e0 f0
        obtain ⟨av, nv, hv1, hv2⟩ : ∃ av nv, lookVal sliceVal (.slice none 0 0) false (getL ms (Rec.blob ⟨2, ct, key, gen, gr, grs, ix, sz, sum, da, dn, dc⟩)) = .slice av nv nv ∧ av.isNone = (getL ms (Rec.blob ⟨2, ct, key, gen, gr, grs, ix, sz, sum, da, dn, dc⟩)).isNone := by
          cases getL ms (Rec.blob ⟨2, ct, key, gen, gr, grs, ix, sz, sum, da, dn, dc⟩) with
          | none => exact ⟨none, 0, rfl, rfl⟩
          | some x => exact ⟨some ⟨x.1, 0, none⟩, x.2.length, rfl, rfl⟩
        rw [hv1] at hlk
        have hnil := Lib.run_eql_slice_nil (P := Try.prog) wc 30 34 av nv nv 0 0 Try.underlying30
        have hv1' := Lib.hid hv1
        have hv2' := Lib.hid hv2
        clear hv1 hv2
        gi_upto_if 29 with (fail)
        gi_cut [] from 30 (fun wx => ∃ ms' g ps, CopyM (w.heap.size + 3) wx w.heap.size ms' ∧ getL ms' (Rec.blob ⟨2, ct, key, gen, gr, grs, ix, sz, sum, da, dn, dc⟩) = some (g, ps) ∧
          ps = (getL (plainCM ms) (Rec.blob ⟨2, ct, key, gen, gr, grs, ix, sz, sum, da, dn, dc⟩)).getD (List.replicate (grs * 10).toNat nowhere) ∧
          (∀ ps', plainCM (putL ms' (Rec.blob ⟨2, ct, key, gen, gr, grs, ix, sz, sum, da, dn, dc⟩) (g, ps')) = putL (plainCM ms) (Rec.blob ⟨2, ct, key, gen, gr, grs, ix, sz, sum, da, dn, dc⟩) ps') ∧
          CopR w W Bx Bb ⟨ac, ap, ⟨2, ct, key, gen, gr, grs, ix, sz, sum, da, dn, dc⟩⟩ wx)
        case first J K' hJ hK' =>
          cases hg : getL ms (Rec.blob ⟨2, ct, key, gen, gr, grs, ix, sz, sum, da, dn, dc⟩) with
          | some x =>
            obtain ⟨g, ps⟩ := x
            have hav : av.isNone = false := by rw [hv2'.out, hg]; rfl
            cases av with
            | none => cases hav
            | some a0 =>
              dsimp only [Option.isNone]
              gi_wp2_with fail
              refine Met.intro (hJ _ _ ?_)
              repeat apply Exists.intro
              refine ⟨?_, rfl⟩
              exact ⟨ms, g, ps, hMc, hg, by rw [getL_plain, hg]; rfl, fun ps' => putL_plain _ _ _ _, hR'.out⟩
          | none =>
            have hav : av.isNone = true := by rw [hv2'.out, hg]; rfl
            cases av with
            | some a0 => cases hav
            | none =>
              dsimp only [Option.isNone]
              gi_wp2_with fail
              have hsz := hR'.out.far
              have hSk : ∀ w', Below wc.heap.size wc w' → w'.cell? ⟨w.heap.size + 1, 0, none⟩ = some (.map (some w.heap.size)) ∧ w'.cell? ⟨Bb, 0, none⟩ = some (.string key) ∧ w'.cell? ⟨Bb, 1, none⟩ = some (.int .i64 gen) ∧ w'.cell? ⟨Bb, 2, none⟩ = some (.int .i64 grs) ∧ w'.cell? ⟨Bb, 3, none⟩ = some (.int .i64 sz) ∧ w'.cell? ⟨Bb, 4, none⟩ = some (.string sum) := fun w' hb =>
                ⟨(hb.cell (p := ⟨w.heap.size + 1, _, none⟩) hR'.out.box.lt).trans d0, (hb.cell (p := ⟨Bb, _, none⟩) hsz.2.2.2).trans k0, (hb.cell (p := ⟨Bb, _, none⟩) hsz.2.2.2).trans k1, (hb.cell (p := ⟨Bb, _, none⟩) hsz.2.2.2).trans k2, (hb.cell (p := ⟨Bb, _, none⟩) hsz.2.2.2).trans k3, (hb.cell (p := ⟨Bb, _, none⟩) hsz.2.2.2).trans k4⟩
              have HSk := Lib.hid hSk
              have hbd : Below wc.heap.size wc wc.drew := (Below.refl _ wc).drew
              obtain ⟨c, hc⟩ : ∃ c : Nat, grs * 10 = c := ⟨(grs * 10).toNat, by omega⟩
              have hc4 : c = 10 ∨ c = 20 ∨ c = 30 ∨ c = 40 := by omega
              have hw3 : IntKind.i64.wrap (grs * 10) = (c : Int) := by rw [← hc]; exact IntWalk.i64_in _ (by omega)
              have hc' := Lib.hid hc
              have hg' := Lib.hid hg
              clear hSk hsz d0 k0 k1 k2 k3 k4 hc hg
              refine wpIn_region_held (S := fun w' => Hid (w'.cell? ⟨w.heap.size + 1, 0, none⟩ = some (.map (some w.heap.size)) ∧ w'.cell? ⟨Bb, 0, none⟩ = some (.string key) ∧ w'.cell? ⟨Bb, 1, none⟩ = some (.int .i64 gen) ∧ w'.cell? ⟨Bb, 2, none⟩ = some (.int .i64 grs) ∧ w'.cell? ⟨Bb, 3, none⟩ = some (.int .i64 sz) ∧ w'.cell? ⟨Bb, 4, none⟩ = some (.string sum))) (by kernel_rfl) ?_
              refine wpAnyInH_take (i := 0) (v := .map (some w.heap.size)) (by kernel_rfl) rfl (by kernel_rfl) (by kernel_rfl) (by kernel_rfl) (fun _ _ _ h => h) ⟨.inl ⟨rfl, fun w' hS => ?_⟩, fun _ => rfl⟩ (HSk.out _ hbd) ?_
              · obtain ⟨s0, s1, s2, s3, s4, s5⟩ := hS.out
                go_simp
              refine wpAnyInH_take (i := 1) (v := .agg #[.string key, .int .i64 gen, .int .i64 grs, .int .i64 sz, .string sum]) (by kernel_rfl) rfl (by kernel_rfl) (by kernel_rfl) (by kernel_rfl) (fun _ _ _ h => h) ⟨.inl ⟨rfl, fun w' hS => ?_⟩, fun _ => rfl⟩ (HSk.out _ hbd) ?_
              · obtain ⟨s0, s1, s2, s3, s4, s5⟩ := hS.out
                go_simp
              refine wpAnyInH_take (i := 4) (v := .pointer (some ⟨Bb, 2, none⟩)) (by kernel_rfl) rfl (by kernel_rfl) (by kernel_rfl) (by kernel_rfl) (fun _ _ _ h => h) ⟨.inl ⟨rfl, fun w' hS => ?_⟩, fun _ => rfl⟩ (HSk.out _ hbd) ?_
              · go_simp
              refine wpAnyInH_take (i := 5) (v := .int .i64 grs) (by kernel_rfl) rfl (by kernel_rfl) (by kernel_rfl) (by kernel_rfl) (fun _ _ _ h => h) ⟨.inl ⟨rfl, fun w' hS => ?_⟩, fun _ => rfl⟩ (HSk.out _ hbd) ?_
              · obtain ⟨s0, s1, s2, s3, s4, s5⟩ := hS.out
                go_simp
              refine wpAnyInH_take (i := 6) (v := .int .i64 c) (by kernel_rfl) rfl (by kernel_rfl) (by kernel_rfl) (by kernel_rfl) (fun _ _ _ h => h) ⟨.inl ⟨rfl, fun w' hS => ?_⟩, fun _ => rfl⟩ (HSk.out _ hbd) ?_
              · go_simp
              refine wpAnyInH_all (rs := [2]) (by kernel_rfl) (by simp) ?_
              intro i hi
              obtain rfl : i = 2 := by simpa using hi
              refine wpOpIn_does rfl rfl ?_
              go_simp
              refine ⟨fun h => (by cases h), ((callsIn_wide.2 (nowhere_any _)).inRound l).mono ?_⟩
              rintro e w1 ⟨rfl, hb1⟩
              have hb1' : Below wc.heap.size wc w1 := hbd.trans (hb1.mono (Nat.le_refl _))
              refine ⟨HSk.out _ hb1', ?_⟩
              refine wpAnyInH_all (rs := [3]) (by kernel_rfl) (by simp) ?_
              intro i hi
              obtain rfl : i = 3 := by simpa using hi
              refine wpOpIn_does rfl rfl ?_
              go_simp
              refine ⟨HSk.out _ (hb1'.alloc hb1'.size _), ?_⟩
              refine wpAnyInH_all (rs := [7]) (by kernel_rfl) (by simp) ?_
              intro i hi
              obtain rfl : i = 7 := by simpa using hi
              refine wpOpIn_does rfl rfl ?_
              go_simp
              refine ⟨fun h => (by cases h), ((callsIn_wide.2 (repeat_any c hc4 w1.heap.size 1 _ (by simp) (by simp [go_sem]) (by simp [go_sem]))).inRound l).mono ?_⟩
              rintro e w2 ⟨g, rfl, hg0, hrow, hb2⟩
              have hb2' : Below wc.heap.size wc w2 := (hb1'.alloc hb1'.size _).trans (hb2.mono (by simp; have := hb1'.size; omega))
              have hMc2 := hMc.kept (grown_none hb2') (by simp) (fun _ _ => by simp)
              have hgw : wc.heap.size ≤ g := by simp at hg0; have := hb1'.size; omega
              obtain ⟨W3, hup, hres⟩ := store_copies hMc2 (by omega) hok (g := g) (ps := List.replicate c nowhere) (by have := hR'.out.keeps.size; omega) hrow (fun p hp e => by have := ((hMc.rows p hp).2).lt; omega) hg'.out
              rw [List.length_replicate] at hup
              dsimp only at hup
              have hres' : Hid (_) := hres
              clear hres hrow hMc2 hlk hnil
              refine ⟨HSk.out _ hb2', ?_⟩
              refine wpAnyInH_all (rs := [8]) (by kernel_rfl) (by simp) ?_
              intro i hi
              obtain rfl : i = 8 := by simpa using hi
              refine wpOpIn_does rfl rfl ?_
              go_simp
              have hgr := hres'.out.2
              refine ⟨?_, wpAnyInH_done (by kernel_rfl) ?_ _⟩
              · obtain ⟨s0, s1, s2, s3, s4, s5⟩ := HSk.out _ hb2'
                have hfar := hR'.out.far
                have hsz2 := hb2'.size
                have hbx := hR'.out.box.lt
                have e : ∀ b j, b < w2.heap.size → w.heap.size < b → W3.cell? ⟨b, j, none⟩ = w2.cell? ⟨b, j, none⟩ := fun b _ hb hne => World.cell?_of_block (hgr.block b hb (fun e => by have := Option.some.inj e; omega))
                exact ⟨(e _ _ (by omega) (by omega)).trans s0, (e _ _ (by omega) (by omega)).trans s1, (e _ _ (by omega) (by omega)).trans s2, (e _ _ (by omega) (by omega)).trans s3, (e _ _ (by omega) (by omega)).trans s4, (e _ _ (by omega) (by omega)).trans s5⟩
              · refine hK' _ _ (Met.intro (hJ _ _ ?_))
                repeat apply Exists.intro
                refine ⟨?_, rfl⟩
                refine ⟨_, g, List.replicate c nowhere, hres'.out.1, by rw [getL_putL, if_pos rfl], ?_, fun ps' => ?_, (hR'.out.grow hb2').put hgr⟩
                · rw [getL_plain, hg'.out, hc'.out]; simp
                · rw [putL_plain, putL_plain, putL_putL]
        case rest =>
          obtain ⟨ms', g, ps, hM', hget, hps, hpl', hRx⟩ := hcut
          obtain ⟨wx, rfl⟩ : ∃ x, x = wc := ⟨_, rfl⟩
          have hlen : ps.length = (grs * 10).toNat := by
            rw [hps, hpl]
            exact copies_get (raw pre) ⟨2, ct, key, gen, gr, grs, ix, sz, sum, da, dn, dc⟩
          have hsl : sn < ps.length := by rw [hlen]; omega
          have hrow : PRow wx g ps := (hM'.rows _ (getL_some hget)).2
          have hgr0 : w.heap.size + 3 ≤ g := (hM'.rows _ (getL_some hget)).1
          obtain ⟨q, hq⟩ : ∃ q, ps[sn]? = some q := ⟨_, List.getElem?_eq_getElem hsl⟩
          obtain ⟨qc, qp⟩ := q
          have hcells : wx.cell? ⟨g, sn * 2, none⟩ = some (.int .i64 qc) ∧ wx.cell? ⟨g, sn * 2 + 1, none⟩ = some (.int .i64 qp) := by
            have h0 := flatP_get ps sn hsl
            rw [List.getElem?_eq_getElem hsl] at hq
            have hq' := Option.some.inj hq
            rw [hq'] at h0
            have hL := flatP_length ps
            exact ⟨by simp only [World.cell?, show wx.heap[g]? = _ from hrow]; simpa using h0.1, by simp only [World.cell?, show wx.heap[g]? = _ from hrow]; simpa using h0.2⟩
          have hlk2 := fun w' hb => look_copies (hM'.kept (grown_none (hb : Below wx.heap.size wx w')) (by simp) (fun _ _ => by simp)) hok
          dsimp only at hlk2
          rw [hget] at hlk2
          simp only [lookVal, sliceVal] at hlk2
          have hps' := Lib.hid hps
          have hpl2 := Lib.hid hpl'
          have hlen' := Lib.hid hlen
          have hpl3 := Lib.hid hpl
          have hfar := hRx.far
          have hSk : ∀ w', Below wx.heap.size wx w' → w'.cell? ⟨w.heap.size + 1, 0, none⟩ = some (.map (some w.heap.size)) ∧ w'.cell? ⟨Bb, 0, none⟩ = some (.string key) ∧ w'.cell? ⟨Bb, 1, none⟩ = some (.int .i64 gen) ∧ w'.cell? ⟨Bb, 2, none⟩ = some (.int .i64 grs) ∧ w'.cell? ⟨Bb, 3, none⟩ = some (.int .i64 sz) ∧ w'.cell? ⟨Bb, 4, none⟩ = some (.string sum) ∧ w'.cell? ⟨g, sn * 2, none⟩ = some (.int .i64 qc) ∧ w'.cell? ⟨g, sn * 2 + 1, none⟩ = some (.int .i64 qp) := fun w' hb =>
            ⟨(hb.cell (p := ⟨w.heap.size + 1, _, none⟩) hRx.box.lt).trans hRx.box.cell, (hRx.blob.below hb hfar.2.2.2).c0, (hRx.blob.below hb hfar.2.2.2).c1, (hRx.blob.below hb hfar.2.2.2).c2, (hRx.blob.below hb hfar.2.2.2).c3, (hRx.blob.below hb hfar.2.2.2).c4, (hb.cell (p := ⟨g, _, none⟩) hrow.lt).trans hcells.1, (hb.cell (p := ⟨g, _, none⟩) hrow.lt).trans hcells.2⟩
          have HSk := Lib.hid hSk
          have Hlk2 := Lib.hid hlk2
          have hbd : Below wx.heap.size wx wx.drew := (Below.refl _ wx).drew
          clear hps hpl' hlen hpl hSk hcells hlk2 d0 k0 k1 k2 k3 k4 hlk hnil
          gi_upto_if 45 with (fail)
          gi_cut [45] from 38 (fun v45 wd => v45 = .bool (decide ((qc, qp) = nowhere)) ∧ Below wx.heap.size wx wd)
          case first J K' hJ hK' =>
            refine wpIn_region_held (S := fun w' => Below wx.heap.size wx w') (by kernel_rfl) ?_
            refine wpAnyInH_take (i := 0) (v := .map (some w.heap.size)) (by kernel_rfl) rfl (by kernel_rfl) (by kernel_rfl) (by kernel_rfl) (fun _ _ _ h => h) ⟨.inl ⟨rfl, fun w' hS => ?_⟩, fun _ => rfl⟩ hbd ?_
            · obtain ⟨s0, s1, s2, s3, s4, s5, s6, s7⟩ := HSk.out _ hS
              go_simp
            refine wpAnyInH_take (i := 1) (v := .agg #[.string key, .int .i64 gen, .int .i64 grs, .int .i64 sz, .string sum]) (by kernel_rfl) rfl (by kernel_rfl) (by kernel_rfl) (by kernel_rfl) (fun _ _ _ h => h) ⟨.inl ⟨rfl, fun w' hS => ?_⟩, fun _ => rfl⟩ hbd ?_
            · obtain ⟨s0, s1, s2, s3, s4, s5, s6, s7⟩ := HSk.out _ hS
              go_simp
            refine wpAnyInH_take (i := 2) (v := .slice (some ⟨g, 0, none⟩) ps.length ps.length) (by kernel_rfl) rfl (by kernel_rfl) (by kernel_rfl) (by kernel_rfl) (fun _ _ _ h => h) ⟨.inl ⟨rfl, fun w' hS => ?_⟩, fun _ => rfl⟩ hbd ?_
            · have hlk := Hlk2.out _ hS
              go_simp
            refine wpAnyInH_take (i := 3) (v := .int .i64 sn) (by kernel_rfl) rfl (by kernel_rfl) (by kernel_rfl) (by kernel_rfl) (fun _ _ _ h => h) ⟨.inl ⟨rfl, fun w' hS => ?_⟩, fun _ => rfl⟩ hbd ?_
            · go_simp
            refine wpAnyInH_take (i := 4) (v := .pointer (some ⟨g, sn * 2, none⟩)) (by kernel_rfl) rfl (by kernel_rfl) (by kernel_rfl) (by kernel_rfl) (fun _ _ _ h => h) ⟨.inl ⟨rfl, fun w' hS => ?_⟩, fun _ => rfl⟩ hbd ?_
            · go_simp
            refine wpAnyInH_take (i := 5) (v := .agg #[.int .i64 qc, .int .i64 qp]) (by kernel_rfl) rfl (by kernel_rfl) (by kernel_rfl) (by kernel_rfl) (fun _ _ _ h => h) ⟨.inl ⟨rfl, fun w' hS => ?_⟩, fun _ => rfl⟩ hbd ?_
            · obtain ⟨s0, s1, s2, s3, s4, s5, s6, s7⟩ := HSk.out _ hS
              go_simp
            refine wpAnyInH_all (rs := [6]) (by kernel_rfl) (by simp) ?_
            intro i hi
            obtain rfl : i = 6 := by simpa using hi
            refine wpOpIn_does rfl rfl ?_
            go_simp
            refine ⟨fun h => (by cases h), ((callsIn_wide.2 (nowhere_any _)).inRound l).mono ?_⟩
            rintro e w1 ⟨rfl, hb1⟩
            have hb1' : Below wx.heap.size wx w1 := hbd.trans (hb1.mono (Nat.le_refl _))
            refine ⟨hb1', ?_⟩
            refine wpAnyInH_all (rs := [7]) (by kernel_rfl) (by simp) ?_
            intro i hi
            obtain rfl : i = 7 := by simpa using hi
            refine wpOpIn_does rfl rfl ?_
            have fin : ∀ v45 : Value, v45 = .bool (decide ((qc, qp) = nowhere)) → v45 = .bool (decide ((qc, qp) = nowhere)) ∧ Below wx.heap.size wx w1 := fun v hv => ⟨hv, hb1'⟩
            have Fin := Lib.hid fin
            clear fin
            by_cases h0 : qc = 0 <;> by_cases h1 : qp = 1024
            all_goals
              go_simp
              refine wpAnyInH_done (by kernel_rfl) ?_ _
              refine hK' _ _ (Met.intro (hJ _ _ ?_))
              repeat apply Exists.intro
              refine ⟨?_, rfl⟩
              exact Fin.out _ (by simp [nowhere, h0, h1])
          case rest =>
            obtain ⟨wd, rfl⟩ : ∃ x, x = wc := ⟨_, rfl⟩
            obtain ⟨rfl, hwd⟩ := hcut
            have hRd := hRx.grow hwd
            have hMd := hM'.kept (grown_none hwd) (by simp) (fun _ _ => by simp)
            have hcs := copiesOf_snoc (raw pre) ⟨ac, ap, ⟨2, ct, key, gen, gr, grs, ix, sz, sum, da, dn, dc⟩⟩
            rw [← raw_snoc pre ⟨⟨ac, ap, ⟨2, ct, key, gen, gr, grs, ix, sz, sum, da, dn, dc⟩⟩, hcount⟩] at hcs
            unfold copyStep at hcs
            rw [if_pos rfl, ← hpl3.out, ← hps'.out, ← hpl2.out] at hcs
            have hslot : Rec.slot ⟨2, ct, key, gen, gr, grs, ix, sz, sum, da, dn, dc⟩ = sn := by simp only [Rec.slot]; omega
            rw [hslot] at hcs
            dsimp only at hcs
            rw [hq] at hcs
            by_cases hnw : (qc, qp) = nowhere
            · rw [if_pos (by rw [hnw])] at hcs
              have hrowd := hrow.kept (grown_none hwd) (by simp)
              rw [hnw]
              simp only [decide_true]
              have hbd2 : Below wd.heap.size wd wd.drew := (Below.refl _ wd).drew
              have hRe := hRd.grow hbd2
              have hMe := hMd.kept (grown_none hbd2) (by simp) (fun _ _ => by simp)
              have hrowe := hrowd.kept (grown_none hbd2) (by simp)
              have hgBx : Bx ≠ g := fun e => by subst e; exact hrowe.no_str hRe.fnd.c4
              have hgBb : Bb ≠ g := fun e => by subst e; exact hrowe.no_str hRe.blob.c0
              have mk : ∀ w', CopR w W Bx Bb ⟨ac, ap, ⟨2, ct, key, gen, gr, grs, ix, sz, sum, da, dn, dc⟩⟩ w' → (∃ ms2 ps2, CopyM (w.heap.size + 3) w' w.heap.size ms2 ∧ getL ms2 (Rec.blob ⟨2, ct, key, gen, gr, grs, ix, sz, sum, da, dn, dc⟩) = some (g, ps2) ∧ ps2.length = ps.length) → CopS w.heap.size Bb Bx g ps.length key gen grs sz sum ac ap w' := fun w' hR ⟨ms2, ps2, hM2, hg2, hl2⟩ => by
                have hlk := look_copies hM2 hok
                rw [hg2] at hlk
                simp only [lookVal, sliceVal, hl2] at hlk
                exact ⟨hR.box.cell, hR.blob.c0, hR.blob.c1, hR.blob.c2, hR.blob.c3, hR.blob.c4, hR.fnd.c0, hR.fnd.c1, hlk⟩
              have hS0 : CopS w.heap.size Bb Bx g ps.length key gen grs sz sum ac ap wd.drew := mk _ hRe ⟨_, _, hMe, hget, rfl⟩
              have hgr : wd.drew.grownBy ((wd.setCell ⟨g, sn * 2, none⟩ (.int .i64 ac)).setCell ⟨g, sn * 2 + 1, none⟩ (.int .i64 ap)).drew (some g) := (grownBy_seti wd.drew g (sn * 2) (.int .i64 ac)).trans (grownBy_seti (wd.drew.setCell ⟨g, sn * 2, none⟩ (.int .i64 ac)) g (sn * 2 + 1) (.int .i64 ap))
              have hRf := hRe.row hgr (by omega) hgBx hgBb ⟨_, _, _, hrowe⟩
              have hMf : CopyM (w.heap.size + 3) ((wd.setCell ⟨g, sn * 2, none⟩ (.int .i64 ac)).setCell ⟨g, sn * 2 + 1, none⟩ (.int .i64 ap)).drew w.heap.size _ := hMe.setRow (by omega) hget hsl ac ap
              have hS1 : CopS w.heap.size Bb Bx g ps.length key gen grs sz sum ac ap ((wd.setCell ⟨g, sn * 2, none⟩ (.int .i64 ac)).setCell ⟨g, sn * 2 + 1, none⟩ (.int .i64 ap)).drew := mk _ hRf ⟨_, _, hMf, by rw [getL_putL, if_pos rfl], by simp⟩
              have fin : Hid (KeepsFrom (w.heap.size + 3) W ((wd.setCell ⟨g, sn * 2, none⟩ (.int .i64 ac)).setCell ⟨g, sn * 2 + 1, none⟩ (.int .i64 ap)).drew ∧ Below w.heap.size W ((wd.setCell ⟨g, sn * 2, none⟩ (.int .i64 ac)).setCell ⟨g, sn * 2 + 1, none⟩ (.int .i64 ap)).drew ∧ CopI w (raw (pre ++ [⟨⟨ac, ap, ⟨2, ct, key, gen, gr, grs, ix, sz, sum, da, dn, dc⟩⟩, hcount⟩])) ((wd.setCell ⟨g, sn * 2, none⟩ (.int .i64 ac)).setCell ⟨g, sn * 2 + 1, none⟩ (.int .i64 ap)).drew) :=
                ⟨hRf.keeps, hRf.kp, ⟨⟨_, hMf, hcs.symm⟩, hRf.box, hRf.below, Nat.le_trans hroom hRf.keeps.size⟩⟩
              have z0 : wd.cell? ⟨g, sn * 2, none⟩ = some (.int .i64 qc) := (HSk.out _ (hwd.trans (hbd2.mono hwd.size))).2.2.2.2.2.2.1
              have z1 : wd.cell? ⟨g, sn * 2 + 1, none⟩ = some (.int .i64 qp) := (HSk.out _ (hwd.trans (hbd2.mono hwd.size))).2.2.2.2.2.2.2
              have z2 : wd.frozen? ⟨g, sn * 2, none⟩ = false := by simp only [World.frozen?, show wd.heap[g]? = _ from hrowd]; simp
              have z3 : wd.frozen? ⟨g, sn * 2 + 1, none⟩ = false := by simp only [World.frozen?, show wd.heap[g]? = _ from hrowd]; simp
              clear mk hRe hMe hRf hMf hgr hwd hcs hget hrow hbd hMd hrowd hrowe
              gi_wp2_with fail
              refine wpIn_region_held (S := fun w' => CopS w.heap.size Bb Bx g ps.length key gen grs sz sum ac ap w') (by kernel_rfl) ?_
              refine wpAnyInH_take (i := 0) (v := .map (some w.heap.size)) (by kernel_rfl) rfl (by kernel_rfl) (by kernel_rfl) (by kernel_rfl) (fun _ _ _ h => h) ⟨.inl ⟨rfl, fun w' hS => ?_⟩, fun _ => rfl⟩ hS0 ?_
              · obtain ⟨s0, s1, s2, s3, s4, s5, s6, s7, s8⟩ := hS
                go_simp
              refine wpAnyInH_take (i := 1) (v := .agg #[.string key, .int .i64 gen, .int .i64 grs, .int .i64 sz, .string sum]) (by kernel_rfl) rfl (by kernel_rfl) (by kernel_rfl) (by kernel_rfl) (fun _ _ _ h => h) ⟨.inl ⟨rfl, fun w' hS => ?_⟩, fun _ => rfl⟩ hS0 ?_
              · obtain ⟨s0, s1, s2, s3, s4, s5, s6, s7, s8⟩ := hS
                go_simp
              refine wpAnyInH_take (i := 2) (v := .slice (some ⟨g, 0, none⟩) ps.length ps.length) (by kernel_rfl) rfl (by kernel_rfl) (by kernel_rfl) (by kernel_rfl) (fun _ _ _ h => h) ⟨.inl ⟨rfl, fun w' hS => ?_⟩, fun _ => rfl⟩ hS0 ?_
              · obtain ⟨s0, s1, s2, s3, s4, s5, s6, s7, s8⟩ := hS
                go_simp
              refine wpAnyInH_take (i := 3) (v := .int .i64 sn) (by kernel_rfl) rfl (by kernel_rfl) (by kernel_rfl) (by kernel_rfl) (fun _ _ _ h => h) ⟨.inl ⟨rfl, fun w' hS => ?_⟩, fun _ => rfl⟩ hS0 ?_
              · go_simp
              refine wpAnyInH_take (i := 4) (v := .pointer (some ⟨Bx, 0, none⟩)) (by kernel_rfl) rfl (by kernel_rfl) (by kernel_rfl) (by kernel_rfl) (fun _ _ _ h => h) ⟨.inl ⟨rfl, fun w' hS => ?_⟩, fun _ => rfl⟩ hS0 ?_
              · go_simp
              refine wpAnyInH_take (i := 5) (v := .agg #[.int .i64 ac, .int .i64 ap]) (by kernel_rfl) rfl (by kernel_rfl) (by kernel_rfl) (by kernel_rfl) (fun _ _ _ h => h) ⟨.inl ⟨rfl, fun w' hS => ?_⟩, fun _ => rfl⟩ hS0 ?_
              · obtain ⟨s0, s1, s2, s3, s4, s5, s6, s7, s8⟩ := hS
                go_simp
              refine wpAnyInH_take (i := 6) (v := .pointer (some ⟨g, sn * 2, none⟩)) (by kernel_rfl) rfl (by kernel_rfl) (by kernel_rfl) (by kernel_rfl) (fun _ _ _ h => h) ⟨.inl ⟨rfl, fun w' hS => ?_⟩, fun _ => rfl⟩ hS0 ?_
              · go_simp
              refine wpAnyInH_all (rs := [7]) (by kernel_rfl) (by simp) ?_
              intro i hi
              obtain rfl : i = 7 := by simpa using hi
              refine wpOpIn_does rfl rfl ?_
              go_simp
              refine wpAnyInH_done (by kernel_rfl) ?_ _
              gi_wp2_with fail
              exact ⟨by simpa only [World.size_alloc] using fin.out.1, fin.out.2.1, fin.out.2.2⟩
            · have hdec : decide ((qc, qp) = nowhere) = false := by simpa using hnw
              rw [if_neg (fun e => hnw (Option.some.inj e)), putL_self hget] at hcs
              rw [hdec]
              have fin : Hid (KeepsFrom (w.heap.size + 3) W wd ∧ Below w.heap.size W wd ∧ CopI w (raw (pre ++ [⟨⟨ac, ap, ⟨2, ct, key, gen, gr, grs, ix, sz, sum, da, dn, dc⟩⟩, hcount⟩])) wd) :=
                ⟨hRd.keeps, hRd.kp, ⟨⟨ms', hMd, hcs.symm⟩, hRd.box, hRd.below, Nat.le_trans hroom hRd.keeps.size⟩⟩
              clear hcs
              gi_wp2_with fail
              exact ⟨by simpa only [World.size_alloc] using fin.out.1, fin.out.2.1, fin.out.2.2⟩
    · have hk' : (kd != 2) = true := by simpa using hk
      have hcs := copiesOf_snoc (raw pre) ⟨ac, ap, ⟨kd, ct, key, gen, gr, grs, ix, sz, sum, da, dn, dc⟩⟩
      rw [← raw_snoc pre ⟨⟨ac, ap, ⟨kd, ct, key, gen, gr, grs, ix, sz, sum, da, dn, dc⟩⟩, hcount⟩] at hcs
      unfold copyStep at hcs
      rw [if_neg hk] at hcs
      have fin : Hid (KeepsFrom (w.heap.size + 3) W W ∧ Below w.heap.size W W ∧ CopI w (raw (pre ++ [⟨⟨ac, ap, ⟨kd, ct, key, gen, gr, grs, ix, sz, sum, da, dn, dc⟩⟩, hcount⟩])) W) :=
        ⟨KeepsFrom.refl _ _, Below.refl _ _, ⟨⟨ms, hM, by rw [hpl, hcs]⟩, hb0, hB, hroom⟩⟩
      clear hcs
      gi_wp2_with fail
      exact ⟨by simpa only [World.size_alloc] using fin.out.1, fin.out.2.1, fin.out.2.2⟩
  case done =>
    rintro D ys W hD rfl hs hK
    obtain ⟨⟨ms, hM, hpl⟩, hb0, hB, hroom⟩ := hs
    have e0 := hb0.cell
    gi_wp2
    have hK' : W.heap[D]? = some (.deferred (some [])) := hK
    refine ⟨by simp, .inl ⟨_, _, rfl, run_takeDeferred hK', ?_⟩⟩
    have hDg : w.heap.size < D := by simp at hD; omega
    refine ⟨.map (some w.heap.size), by simp [results, Try.results19, go_sem], w.heap.size, ms, rfl, Nat.le_refl _, ?_, hpl, ?_⟩
    · exact hM.kept (grownBy_putObj' W D (.deferred none)) (fun e => by have := Option.some.inj e; omega) (fun p hp e => by have := (hM.rows p hp).2; unfold PRow at this; have e := Option.some.inj e; rw [e, hK'] at this; cases this)
    · exact hB.trans (belowK_b (w := w) (Nat.le_refl _) W D _ _ (by omega) hK' rfl rfl)
  case stop =>
    rintro D c pre W _ _ h _
    exact h.elim

end Go.Proofs.Ytbcefiefeobmcaa

