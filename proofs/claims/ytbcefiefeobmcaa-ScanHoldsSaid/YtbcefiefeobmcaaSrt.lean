/-
  scan's Best: the sort of its entries.
-/
import Derived.Test.YtbcefiefeobmcaaBst1
namespace Go.Proofs.Ytbcefiefeobmcaa
open Go.RowKit Go.Shelf Go.Maps Go.WideElems Go.Lib Go.Sort Go.Proofs

abbrev Pr := ByteArray × Cho
instance : Inhabited ByteArray := ⟨⟨#[]⟩⟩
/-- An entry's cells. -/
def entCells (p : Pr) : List Value := [.string p.1, .int .i64 p.2.1.2.1, .int .i64 p.2.1.2.2.2.1, .string p.2.1.2.2.2.2, sliceVal p.2.2]
/-- .. in memory. -/
structure EntAt (W : World) (b o : Nat) (p : Pr) : Prop where
  c0 : W.cell? ⟨b, o, none⟩ = some (.string p.1)
  c1 : W.cell? ⟨b, o + 1, none⟩ = some (.int .i64 p.2.1.2.1)
  c2 : W.cell? ⟨b, o + 2, none⟩ = some (.int .i64 p.2.1.2.2.2.1)
  c3 : W.cell? ⟨b, o + 3, none⟩ = some (.string p.2.1.2.2.2.2)
  c4 : W.cell? ⟨b, o + 4, none⟩ = some (sliceVal p.2.2)

theorem flat_get {α : Type} (enc : α → List Value) (k : Nat) (hk : ∀ x, (enc x).length = k) : ∀ (l : List α) (i c : Nat) (h : i < l.length), c < k → (l.flatMap enc)[i * k + c]? = (enc l[i])[c]?
  | a :: r, 0, c, _, hc => by
    rw [List.flatMap_cons, List.getElem?_append_left (by rw [hk]; omega)]
    simp
  | a :: r, i + 1, c, h, hc => by
    rw [List.flatMap_cons, List.getElem?_append_right (by rw [hk, Nat.add_mul]; omega), hk, show (i + 1) * k + c - k = i * k + c by rw [Nat.add_mul]; omega, flat_get enc k hk r i c (by simpa using h) hc]
    simp

theorem grown_sortWorldK {α : Type} [Inhabited α] (enc : α → List Value) (k : Nat) (W : World) (blk off n : Nat) (d : Array α) (os : Array Obj) : W.grownBy (sortWorldK enc k W blk off n d os) (some blk) := by
  refine ⟨rfl, rfl, rfl, size_sortWorldK_c enc k W blk off n d os, fun i hi hne => ?_⟩
  show ((putRowK enc k (Sort.ahead W n) blk off d).heap ++ os)[i]? = _
  rw [Array.getElem?_append_left (by rw [size_putRowK]; exact hi)]
  show ((Sort.ahead W n).heap.modify blk _)[i]? = _
  rw [Array.getElem?_modify, if_neg (fun e => hne (by rw [e]))]
  rfl

def entCmp (x y : Pr) : Int := cmpS x.1 y.1
theorem ltOf_ent (x y : Pr) : ltOf entCmp x y = decide (sLt x.1 y.1) := by
  unfold ltOf entCmp
  simp only [decide_eq_decide]
  exact cmpS_neg
theorem swo_ent : SWO (ltOf entCmp) where
  irrefl x := by rw [ltOf_ent]; simp [sLt_irrefl]
  trans x y z h1 h2 := by
    rw [ltOf_ent] at *
    simp only [decide_eq_true_eq] at *
    exact sLt_trans h1 h2
  ntrans x y z h1 h2 := by
    rw [ltOf_ent] at *
    simp only [decide_eq_false_iff_not] at *
    intro h
    rcases sLt_tri x.1 y.1 with t | t | t
    · exact h1 t
    · rw [← t] at h2; exact h2 h
    · exact h2 (sLt_trans t h)

set_option maxHeartbeats 1000000 in
theorem cmp_any (x y : Pr) (W : World) : Calls Try.prog 23 #[.agg (entCells x).toArray, .agg (entCells y).toArray] W fun e w' => e = .returned (.int .i64 (entCmp x y)) ∧ ∃ q os', w' = grow (W.drewN q) os' := by
  obtain ⟨kx, ⟨kx2, gx, grx, zx, sx⟩, bx, px⟩ := x
  obtain ⟨ky, ⟨ky2, gy, gry, zy, sy⟩, by', py⟩ := y
  have hcon := fun W' => cmpStr_any kx ky W'
  show Calls Try.prog 23 _ _ fun e w' => e = .returned (.int .i64 (cmpS kx ky)) ∧ _
  generalize cmpS kx ky = r at hcon ⊢
  simp only [entCells, sliceVal]
  go_enter Try.func23, Try.ntmps23
  go_wp2_with (go_at_call 24; refine (hcon _).mono ?_; rintro e w' ⟨rfl, rfl⟩)
  go_ret
  exact ⟨rfl, 0, _, by rw [alloc_eq_grow, alloc_eq_grow, grow_grow]; rfl⟩

theorem cmpLays (blk off size : Nat) (w : World) : CmpLays Try.prog 23 #[] entCells 5 entCmp blk off size w := fun _ _ _ _ x y => cmp_any x y _

theorem ent_one (x : Pr) : ∀ v ∈ entCells x, v.oneCell' = true := by
  intro v hv
  simp [entCells, sliceVal] at hv
  rcases hv with rfl | rfl | rfl | rfl | rfl <;> rfl

theorem holds_row {W : World} {g : Nat} {cur : Array Value} {t : TypeId} {out : List Pr} (hg : W.heap[g]? = some (.cells cur t (0, 0))) (ht : cur.toList.take (out.length * 5) = out.flatMap entCells) : HoldsK entCells 5 W g 0 out.toArray := by
  intro j hj
  have hj' : j < out.length * 5 := by simpa using hj
  rw [get_flatK _ _ _ _ (by simpa using hj')]
  have hd : j / 5 < out.length := by omega
  have h1 := flat_get entCells 5 (fun _ => rfl) out (j / 5) (j % 5) hd (by omega)
  rw [show j / 5 * 5 + j % 5 = j by omega, ← ht, List.getElem?_take, if_pos hj'] at h1
  have e1 : out.toArray[j / 5]! = out[j / 5] := by rw [getElem!_pos out.toArray (j / 5) (by simpa using hd)]; simp
  have hl : j % 5 < (entCells out[j / 5]).length := by show _ < 5; omega
  refine ⟨?_, by simp [World.frozen?, hg]⟩
  rw [e1, getElem!_pos (entCells out[j / 5]) (j % 5) hl]
  rw [List.getElem?_eq_getElem hl] at h1
  simp only [World.cell?, hg, Nat.zero_add]
  simpa using h1

theorem entAt_holds {W : World} {g : Nat} {d : Array Pr} (h : HoldsK entCells 5 W g 0 d) (i : Nat) (hi : i < d.size) : EntAt W g (i * 5) d[i] := by
  have hc : ∀ c, c < 5 → W.cell? ⟨g, 0 + i * 5 + c, none⟩ = some (entCells d[i]!)[c]! := fun c hc => (h.cell hi hc).1
  rw [getElem!_pos d i hi] at hc
  simp only [Nat.zero_add] at hc
  exact ⟨hc 0 (by omega), hc 1 (by omega), hc 2 (by omega), hc 3 (by omega), hc 4 (by omega)⟩

/-- Entries, sorted, where a slice of them lies. -/
def EntsAt (base : Nat) (W : World) (v : Value) (out : List Pr) : Prop :=
  (out = [] ∧ v = .slice none 0 0) ∨ ∃ g cap, v = .slice (some ⟨g, 0, none⟩) out.length cap ∧ out.length ≤ cap ∧ cap ≤ maxLen ∧ base ≤ g ∧ out ≠ [] ∧ ∀ i (h : i < out.length), EntAt W g (i * 5) out[i]

theorem perm_in {d d' : Array Pr} (h : PermIn 0 d.size d d') : d'.toList.Perm d.toList := by
  obtain ⟨h1, _, h3⟩ := h
  have e1 : d'.extract 0 d.size = d' := by rw [← h1]; simp
  have e2 : d.extract 0 d.size = d := by simp
  rwa [e1, e2] at h3

set_option maxHeartbeats 1000000 in
theorem sort_any (base : Nat) (v : Value) (out : List Pr) (hsmall : out.length ≤ 1000) (W : World) (hown : W.ownsRow base 32 5 v out.length (out.flatMap entCells)) (hnil : out = [] → v = .slice none 0 0) (hnil' : v = .slice none 0 0 → out = []) :
    Calls Try.prog 22 #[v, .func (.func 23) #[] #[]] W fun e W' => e = .returned (.tuple #[]) ∧ ∃ out' : List Pr, out'.Perm out ∧ out'.Pairwise (fun x y => ¬ sLt y.1 x.1) ∧ W.grownBy W' v.ownBlock ∧ EntsAt base W' v out' := by
  rcases hown.2 with ⟨rfl, _⟩ | ⟨g, cap, cur, rfl, hb, hg, hle, hcm, hcs, htake⟩
  · have := hnil' rfl
    subst this
    have h := AnyF.slices_SortFunc_none Try.sortEnt none 0 (.func (.func 23) #[] #[]) W
    change Calls Try.prog 22 _ _ _ at h
    refine h.mono ?_
    rintro e w' ⟨rfl, rfl⟩
    exact ⟨rfl, [], List.Perm.refl _, List.Pairwise.nil, ⟨rfl, rfl, rfl, Nat.le_refl _, fun _ _ _ => rfl⟩, .inl ⟨rfl, rfl⟩⟩
  · have hne : out ≠ [] := fun e => by have := hnil e; cases this
    have hH : HoldsK entCells 5 W g 0 out.toArray := holds_row hg htake
    have hlt : g < W.heap.size := (Array.getElem?_eq_some_iff.1 hg).1
    have eg : ∀ args w, (callFunc 23 args).run Try.prog w = .ok (.enter 23 args) w := enters_of Try.func23 (by kernel_rfl) rfl
    have h := AnyQ.slices_SortFunc Try.sortEnt 5 Try.isAgg32 Try.sizeOf32 entCells (fun _ => rfl) ent_one entCmp swo_ent 23 #[] g 0 cap out.toArray W eg (cmpLays g 0 _ W) hH hlt (by simp; omega)
    change Calls Try.prog 22 _ _ _ at h
    rw [show out.toArray.size = out.length by simp] at h
    refine h.mono ?_
    rintro e w' ⟨rfl, d', n, os, hp, hs, rfl⟩
    have hp' : d'.toList.Perm out := by
      have := perm_in (d := out.toArray) (d' := d') (by simpa using hp)
      simpa using this
    have hsz : d'.size = out.length := by have := hp'.length_eq; simpa using this
    refine ⟨rfl, d'.toList, hp', ?_, grown_sortWorldK _ _ _ _ _ _ _ _, .inr ⟨g, cap, by simp [hsz], by simpa [hsz] using hle, hcm, hb, ?_, ?_⟩⟩
    · rw [List.pairwise_iff_getElem]
      intro i j hi hj hij
      have h1 := hs i j (Nat.zero_le _) hij (by simp at hj; omega)
      rw [ltOf_ent, decide_eq_false_iff_not] at h1
      simp at hi hj
      rw [getElem!_pos d' i hi, getElem!_pos d' j hj] at h1
      simpa using h1
    · intro e
      exact hne (hp'.symm.trans (by rw [e])).eq_nil
    · intro i hi
      have hH' := holdsK_sortWorldK_c entCells 5 W g 0 out.toArray d' n os hH hlt (by simp [hsz])
      have hi' : i < d'.size := by simpa using hi
      have := entAt_holds hH' i hi'
      simpa using this

/-- Between two rounds of the second loop (mid: nothing), or within one. -/
structure L2 (w : World) (base : Nat) (ms : CM) (B : List Pr) (bb r : Nat) (out mid rest : List Pr) (v : Value) (W : World) : Prop where
  it : iterIs W Try.prog 9 bb r (bestVal B) (bestVal rest)
  perm : (out ++ (mid ++ rest)).Perm B
  own : W.ownsRow base 32 5 v out.length (out.flatMap entCells)
  nil : out = [] → v = .slice none 0 0
  nil' : v = .slice none 0 0 → out = []
  rows : ∀ p ∈ ms, PRow W p.2.1 p.2.2
  below : Below w.heap.size w W

section
variable {w : World} {base : Nat} {ms : CM} {B : List Pr} {bb r : Nat} {out mid rest rest' : List Pr} {v v' : Value} {X Y : World} {p : Pr}

theorem L2.grow (h : L2 w base ms B bb r out mid rest v X) (hb : Below X.heap.size X Y) : L2 w base ms B bb r out mid rest v Y :=
  ⟨h.it.kept (grown_none hb) (by simp) (by simp), h.perm, h.own.kept (grown_none hb) (by cases hv : v.ownBlock <;> simp), h.nil, h.nil', fun p hp => (h.rows p hp).kept (grown_none hb) (by simp), h.below.trans (hb.mono h.below.size)⟩

theorem L2.next (h : L2 w base ms B bb r out [] rest v X) (hr : r < base) (hr0 : w.heap.size ≤ r) (h3 : ∀ p ∈ ms, p.2.1 ≠ r) (hp : rest.Perm (p :: rest')) (hg : X.grownBy Y (some r)) (hit : iterIs Y Try.prog 9 bb r (bestVal B) (bestVal rest')) :
    L2 w base ms B bb r out [p] rest' v Y :=
  have ne : ∀ b, b ≠ r → some b ≠ some r := fun b hb e => hb (Option.some.inj e)
  ⟨hit, ((List.Perm.append_left out hp).symm).trans h.perm, h.own.kept hg (by
    cases hv : v.ownBlock with
    | none => exact .inl rfl
    | some k => exact .inr (fun e => by have := Option.some.inj e; have := (h.own.lt k hv).1; omega)), h.nil, h.nil', fun p hp => (h.rows p hp).kept hg (ne _ (h3 p hp)), h.below.grown hg h.below.size (fun k e => by cases e; exact hr0)⟩

theorem L2.app (h : L2 w base ms B bb r out [p] rest v X) (hr : r < base) (hbb : bb < base) (hw : w.heap.size ≤ base) (h3 : ∀ p ∈ ms, p.2.1 < base) (hown : Y.ownsRow base 32 5 v' (out.length + 1) (out.flatMap entCells ++ entCells p)) (hg : X.grownBy Y v.ownBlock) (hn : v' = .slice none 0 0 ↔ v = .slice none 0 0 ∧ 1 = 0) :
    L2 w base ms B bb r (out ++ [p]) [] rest v' Y := by
  have far : ∀ b, b < base → some b ≠ v.ownBlock := fun b hb e => by have := (h.own.lt b e.symm).1; omega
  refine ⟨h.it.kept hg (far _ hbb) (far _ hr), by simpa using h.perm, by simpa using hown, by simp, fun e => ?_, fun p hp => (h.rows p hp).kept hg (far _ (h3 p hp)), h.below.grown hg h.below.size (fun k e => by have := (h.own.lt k e).1; omega)⟩
  have := hn.1 e
  omega
end

/-- What Best comes to: the best copy of each key that has one that is neither poor nor dead, key by key. -/
structure IsBest (T : List (ByteArray × Int)) (C es : List Cpy) : Prop where
  sorted : es.Pairwise (fun a b => sLt a.1.1 b.1.1)
  has : ∀ e ∈ es, e ∈ C ∧ elig T e = true ∧ ∀ q ∈ C, elig T q = true → q.1.1 = e.1.1 → q = e ∨ beats e q = true
  all : ∀ q ∈ C, elig T q = true → ∃ e ∈ es, e.1.1 = q.1.1

theorem isBest_of {T : List (ByteArray × Int)} {ms done : CM} {B es : List Pr} (hbi : BestI T done B) (hd : done.Perm ms) (hB : (B.map (·.1)).Pairwise (· ≠ ·)) (hes : es.Perm B) (hs : es.Pairwise (fun x y => ¬ sLt y.1 x.1)) :
    IsBest T (plainCM ms) (es.map fun p => cpy p.2) := by
  have hk : ∀ p ∈ es, p.2.1.1 = p.1 := fun p hp => (hbi.has p (hes.mem_iff.1 hp)).2.2.1
  have hpl : ∀ q : Cho, q ∈ done ↔ q ∈ ms := fun q => hd.mem_iff
  have hne : es.Pairwise (fun x y => x.1 ≠ y.1) := by
    have := (List.Perm.pairwise_iff (fun h e => h e.symm) (hes.map (·.1))).2 hB
    rwa [List.pairwise_map] at this
  refine ⟨?_, ?_, ?_⟩
  · rw [List.pairwise_map]
    refine (hs.and hne).imp_of_mem ?_
    rintro x y hx hy ⟨h1, h2⟩
    show sLt x.2.1.1 y.2.1.1
    rw [hk x hx, hk y hy]
    rcases sLt_tri x.1 y.1 with t | t | t
    · exact t
    · exact absurd t h2
    · exact absurd t h1
  · intro e he
    obtain ⟨p, hp, rfl⟩ := List.mem_map.1 he
    obtain ⟨h1, h2, h3, h4⟩ := hbi.has p (hes.mem_iff.1 hp)
    refine ⟨List.mem_map.2 ⟨p.2, (hpl _).1 h1, rfl⟩, h2, fun q hq hqe hqk => ?_⟩
    obtain ⟨q', hq', rfl⟩ := List.mem_map.1 hq
    rcases h4 q' ((hpl _).2 hq') hqe (hqk.trans h3) with rfl | h
    · exact .inl rfl
    · exact .inr h
  · intro q hq hqe
    obtain ⟨q', hq', rfl⟩ := List.mem_map.1 hq
    obtain ⟨p, hp, e⟩ := hbi.all q' ((hpl _).2 hq') hqe
    have hp' := hes.mem_iff.2 hp
    exact ⟨_, List.mem_map.2 ⟨p, hp', rfl⟩, by show p.2.1.1 = q'.1.1; rw [hk p hp', e]⟩

set_option maxHeartbeats 400000 in
theorem clip_any (len cap : Nat) (_hc : len ≤ cap) (g : Nat) (w : World) : Calls Try.prog 25 #[.slice (some ⟨g, 0, none⟩) len cap] w fun e w' => e = .returned (.slice (some ⟨g, 0, none⟩) len len) ∧ w = w' := by
  go_enter Try.func25, Try.ntmps25
  go_wp2
  go_ret
  exact ⟨rfl, rfl⟩

set_option maxHeartbeats 400000 in
theorem clip_none_any (w : World) : Calls Try.prog 25 #[.slice none 0 0] w fun e w' => e = .returned (.slice none 0 0) ∧ w = w' := by
  go_enter Try.func25, Try.ntmps25
  go_wp2
  go_ret
  exact ⟨rfl, rfl⟩

theorem copies_count (l : List Fnd) : (copiesOf l).length ≤ l.length := by
  suffices h : ∀ (l : List Fnd) (m : List (Blob × List (Int × Int))), (l.foldl copyStep m).length ≤ m.length + l.length from by have := h l []; simpa [copiesOf] using this
  intro l
  induction l with
  | nil => intro m; simp
  | cons f r ih =>
    intro m
    refine Nat.le_trans (ih (copyStep m f)) ?_
    have : (copyStep m f).length ≤ m.length + 1 := by
      unfold copyStep
      split
      · exact putL_length _ _ _
      · omega
    simp
    omega

end Go.Proofs.Ytbcefiefeobmcaa
