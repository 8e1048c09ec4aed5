/-
  ScanMore: plain, and its walk.
-/
import Derived.Test.YtbcefiefeobmcaaAwk
namespace Go.Proofs.Ytbcefiefeobmcaa
open Go.RowKit Go.Shelf Go.Maps Go.WideElems

theorem wide_fn12 (f : FuncId) : Fence.wide.fn f = True := rfl
attribute [local go_sem] Oper.semAt_some wide_fn12

theorem counted (L : List Fnd) : ∀ f ∈ L.filter Fnd.countsB, f.countsB = true := fun _ hf => (List.mem_filter.1 hf).2

theorem placeAt_twice (l : List Fnd) (b : Blob) (s : Nat) : placeAt (l ++ l) b s = placeAt l b s := by
  unfold placeAt
  rw [List.find?_append]
  cases l.find? (isSh b s) <;> rfl
theorem rowOf_twice (l : List Fnd) (b : Blob) : rowOf (l ++ l) b = rowOf l b := by
  unfold rowOf
  exact List.map_congr_left fun s _ => placeAt_twice l b s
theorem hasSh_twice (l : List Fnd) (b : Blob) : hasSh (l ++ l) b = hasSh l b := by simp [hasSh]
theorem toldB_twice (l : List Fnd) (k : ByteArray) (g : Int) : toldB (l ++ l) k g = toldB l k g := by simp [toldB]
theorem answer_twice {L : List Fnd} {es es' : List Pr} {m m' : Int} (h : Answer L es m) (h' : Answer (L ++ L) es' m') : es.map (fun p => cpy p.2) = es'.map (fun p => cpy p.2) ∧ m = m' := by
  obtain ⟨h1, rfl⟩ := h
  obtain ⟨h2, rfl⟩ := h'
  rw [List.filter_append] at *
  have hc := counted L
  generalize L.filter Fnd.countsB = l at *
  have hc2 : ∀ f ∈ l ++ l, f.countsB = true := fun f hf => by
    rcases List.mem_append.1 hf with hf | hf <;> exact hc f hf
  refine ⟨isBest_unique h1 h2 (fun c => ?_) (fun k g => ?_), most_congr (fun f hf => ⟨f, List.mem_append_left _ hf, Int.le_refl _⟩) (fun f hf => ⟨f, by rcases List.mem_append.1 hf with h | h <;> exact h, Int.le_refl _⟩)⟩
  · rw [mem_copies l hc, mem_copies (l ++ l) hc2, hasSh_twice, rowOf_twice]
  · rw [dead_char l hc, dead_char (l ++ l) hc2, toldB_twice]
theorem answer_odd {L : List Fnd} {f : Fnd} (hf : f.countsB = false) {es : List Pr} {m : Int} (h : Answer (L ++ [f]) es m) : Answer L es m := by
  unfold Answer at *
  rw [List.filter_append, show [f].filter Fnd.countsB = [] by simp [hf], List.append_nil] at h
  exact h
theorem answer_same {L : List Fnd} {es es' : List Pr} {m m' : Int} (h : Answer L es m) (h' : Answer L es' m') : es.map (fun p => cpy p.2) = es'.map (fun p => cpy p.2) ∧ m = m' :=
  ⟨isBest_unique h.1 h'.1 (fun _ => Iff.rfl) (fun _ _ => rfl), h.2.trans h'.2.symm⟩

/-! ### entries, as Alike reads them -/
def ent5 (p : Pr) : Ent5 := (p.1, p.2.1.2.1, p.2.1.2.2.2.1, p.2.1.2.2.2.2, p.2.2.2)
theorem ent5_of {es es' : List Pr} (hk : ∀ p ∈ es, p.2.1.1 = p.1) (hk' : ∀ p ∈ es', p.2.1.1 = p.1) (h : es.map (fun p => cpy p.2) = es'.map (fun p => cpy p.2)) : es.map ent5 = es'.map ent5 := by
  have key : ∀ (l : List Pr), (∀ p ∈ l, p.2.1.1 = p.1) → l.map ent5 = (l.map fun p => cpy p.2).map fun c => (c.1.1, c.1.2.1, c.1.2.2.2.1, c.1.2.2.2.2, c.2) := fun l hl => by
    rw [List.map_map]
    exact List.map_congr_left fun p hp => by simp [ent5, cpy, hl p hp]
  rw [key es hk, key es' hk', h]

theorem answer_lens {L : List Fnd} {es : List Pr} {m : Int} (h : Answer L es m) : ∀ p ∈ es, p.2.2.2.length ≤ 40 ∧ 1 ≤ p.2.2.2.length := by
  intro p hp
  obtain ⟨h1, _⟩ := h.1.has (cpy p.2) (List.mem_map.2 ⟨p, hp, rfl⟩)
  have hl := copies_len _ _ h1
  have hm : ∃ l : List CFnd, raw l = L.filter Fnd.countsB := ⟨cfs L, cfs_map L⟩
  obtain ⟨l, hl'⟩ := hm
  rw [← hl'] at h1
  have ho := copies_ok l _ h1
  have hg := ho.groups
  simp only [cpy] at hl hg
  omega

theorem nodup_le {α : Type} [DecidableEq α] : ∀ {r l : List α}, r.Nodup → (∀ x ∈ r, x ∈ l) → r.length ≤ l.length
  | [], _, _, _ => Nat.zero_le _
  | a :: r, l, hn, hs => by
    rw [List.nodup_cons] at hn
    have ha : a ∈ l := hs a (by simp)
    have := nodup_le (l := l.erase a) hn.2 (fun x hx => (List.mem_erase_of_ne (fun e => by subst e; exact hn.1 hx)).2 (hs x (List.mem_cons_of_mem _ hx)))
    rw [List.length_erase_of_mem ha] at this
    have hl : 0 < l.length := List.length_pos_of_mem ha
    simp only [List.length_cons]
    omega

theorem answer_few {L : List Fnd} {es : List Pr} {m : Int} (h : Answer L es m) : es.length ≤ L.length := by
  have hs := h.1.sorted
  have hsub : ∀ c ∈ es.map (fun p => cpy p.2), c ∈ copiesOf (L.filter Fnd.countsB) := fun c hc => (h.1.has c hc).1
  have hnd : (es.map fun p => cpy p.2).Nodup := by
    refine hs.imp ?_
    intro a b hab e
    subst e
    exact sLt_irrefl _ hab
  have h1 : (es.map fun p => cpy p.2).length ≤ (copiesOf (L.filter Fnd.countsB)).length := nodup_le hnd hsub
  have h2 := copies_count (L.filter Fnd.countsB)
  have h3 := List.length_filter_le Fnd.countsB L
  simp at h1
  omega

theorem BestAt.entsIn {n₀ : Nat} {W : World} {v : Value} {es : List Pr} (h : BestAt n₀ W v es) (hl : ∀ p ∈ es, p.2.2.2.length ≤ 40 ∧ 1 ≤ p.2.2.2.length) : EntsIn W v (es.map ent5) := by
  rcases h.ents with ⟨rfl, rfl⟩ | ⟨g, rfl, _, hne, hat⟩
  · exact .inl ⟨rfl, none, 0, rfl⟩
  · have hlen : 0 < es.length := List.length_pos_iff.2 hne
    have h0 := hat 0 hlen
    refine .inr ⟨g, es.length, by simp, World.block_lt_of_cell? W ⟨g, _, none⟩ h0.c0, fun i hi => ?_⟩
    have hi' : i < es.length := by simpa using hi
    have hx := hat i hi'
    have hm := List.getElem_mem hi'
    have hr := h.rows _ hm
    rw [List.getElem_map]
    exact ⟨es[i].2.2.1, es[i].2.2.2.length, ⟨hx.c0, hx.c1, hx.c2, hx.c3, hx.c4⟩, hr.2.lt, by have := (hl _ hm).1; show (es[i].2.2.2).length ≤ 1000; omega, hr.2.places⟩

theorem wpOpIn_append_run {F : Fence} {n : Nat} {P : Program} {ops : Array Oper} {Q : Exit → Act → World → Prop} {i : Nat} {o : Oper} {K : Act → World → Prop} {a : Act} {w : World}
    (ho : ops[i]? = some o) (hw : Region.wanted o (yielded ops a.tmps) = true) (s x : Operand) (t : TypeId) (hop : o.op = Op.call { callee := Callee.builtin Builtin.append, args := #[s, x], argTypes := #[t, t] }) (v vx : Value) (hs : a.eval s = v) (hx : a.eval x = vx)
    (R : Value → World → Prop) (hrun : ∃ v' w', (Builtin.append_ #[t, t] o.type #[v, vx]).run P w = .ok v' w' ∧ R v' w') (hK : ∀ v' w', R v' w' → K (a.put o.dst v') w') : wpOpIn F n P ops Q i K a w := by
  refine wpOpIn_does ho hw ?_
  obtain ⟨v', w', hrun, hR⟩ := hrun
  unfold Oper.wpIn
  refine ⟨?_, ?_⟩
  · simp [Oper.about, hop, resolve, Target.leads, Sem.run_pure]
  · rw [Oper.semAt_plain F _ _ (by rw [hop]; intro c hc'; cases hc')]
    simp [execOp, hop, resolve, invoke, builtin, hs, hx, hrun, Result.andThen]
    exact hK v' w' hR

theorem Founds.lens {n₀ : Nat} {W : World} {a : Option Addr} {len cap : Nat} {zs : List Fnd} (h : Founds n₀ W (.slice a len cap) zs) : len = zs.length := by
  obtain ⟨a', c', e⟩ := h.slice
  simp only [Value.slice.injEq] at e
  exact e.2.1

set_option maxRecDepth 100000 in
set_option maxHeartbeats 4000000 in
theorem more_in (n : Nat) (a : Option Addr) (len cap : Nat) (hlc : len ≤ cap) (zs : List Fnd) (hfit : ∀ f ∈ zs, f.r.fits) (r : Rec) (hr : r.fits) (w : World) (hF : Founds w.heap.size w (.slice a len cap) zs) :
    CallsIn Fence.wide n Try.prog 5 #[.slice a len cap, r.val] w fun e W' => e = .returned (.bool true) ∧ Below w.heap.size w W' := by
  refine callsIn_of_wp Try.func5 rfl trivial ?_ rfl
  simp only [Try.ntmps5, List.size_toArray, List.length_cons, List.length_nil, Nat.reduceAdd, Nat.reduceSub, Array.replicate_succ, Array.replicate_zero, List.push_toArray, List.append_toArray, List.nil_append, List.cons_append]
  obtain ⟨kd, ct, key, gen, gr, grs, ix, sz, sum, da, dn, dc⟩ := r
  simp only [Rec.val]
  have Hr := Lib.hid hr
  have Hfit := Lib.hid hfit
  clear hr hfit
  gi_wp2_with fail
  obtain ⟨w0, hw0⟩ : ∃ w0, w0 = w.alloc (.cells #[.int .i64 kd, .int .i64 ct, .string key, .int .i64 gen, .int .i64 gr, .int .i64 grs, .int .i64 ix, .int .i64 sz, .string sum, .slice da dn dc] 37) := ⟨_, rfl⟩
  have hb0 : Below w.heap.size w w0 := by rw [hw0]; exact (Below.refl _ w).alloc (Nat.le_refl _) _
  have hF0 := (hF.below hb0).up hb0.size
  have hbox : w0.cell? ⟨w.heap.size, 0, none⟩ = some (.int .i64 kd) ∧ w0.cell? ⟨w.heap.size, 1, none⟩ = some (.int .i64 ct) ∧ w0.cell? ⟨w.heap.size, 2, none⟩ = some (.string key) ∧ w0.cell? ⟨w.heap.size, 3, none⟩ = some (.int .i64 gen) ∧ w0.cell? ⟨w.heap.size, 4, none⟩ = some (.int .i64 gr) ∧ w0.cell? ⟨w.heap.size, 5, none⟩ = some (.int .i64 grs) ∧ w0.cell? ⟨w.heap.size, 6, none⟩ = some (.int .i64 ix) ∧ w0.cell? ⟨w.heap.size, 7, none⟩ = some (.int .i64 sz) ∧ w0.cell? ⟨w.heap.size, 8, none⟩ = some (.string sum) ∧ w0.cell? ⟨w.heap.size, 9, none⟩ = some (.slice da dn dc) := by
    rw [hw0]; exact ⟨by simp [go_sem], by simp [go_sem], by simp [go_sem], by simp [go_sem], by simp [go_sem], by simp [go_sem], by simp [go_sem], by simp [go_sem], by simp [go_sem], by simp [go_sem]⟩
  have hlt0 : w.heap.size < w0.heap.size := by rw [hw0]; simp
  have Hbox := Lib.hid hbox
  rw [← hw0]
  clear hF hw0 hbox
  refine ⟨fun h => (by cases h), (callsIn_wide.2 (few_any a len cap hlc _ zs w0 hF0)).mono ?_⟩
  rintro e w1 ⟨a1, l1, c1, rfl, hlc1, hF1, rfl⟩
  have hl1 := hF1.lens
  have hft : ∀ f ∈ zs.take 130, f.r.fits := fun f hf => Hfit.out f (List.mem_of_mem_take hf)
  generalize zs.take 130 = zt at *
  have Hl1 := Lib.hid hl1
  have Hft := Lib.hid hft
  clear hF0 hl1 hft
  gi_upto_if 17 with (fail)
  gi_cut [5] from 101 (fun v5 wd => (∃ a2 c2 zs2, v5 = Value.slice a2 (List.length zs2) c2 ∧ zs2.length ≤ c2 ∧ zs2.length ≤ 60 ∧ Founds w0.heap.size w0 (.slice a2 zs2.length c2) zs2 ∧ (∀ f ∈ zs2, f.r.fits)) ∧ wd = w0)
  case first J K' hJ hK' =>
    by_cases hl : l1 > 60
    · have hres : ∃ a2 c2 zs2, Value.slice a1 60 c1 = Value.slice a2 (List.length zs2) c2 ∧ zs2.length ≤ c2 ∧ zs2.length ≤ 60 ∧ Founds w0.heap.size w0 (.slice a2 zs2.length c2) zs2 ∧ (∀ f ∈ zs2, f.r.fits) := by
        obtain ⟨b, off, rfl⟩ : ∃ b off, a1 = some ⟨b, off, none⟩ := by
          rcases hF1 with ⟨a', cap', e, rfl⟩ | ⟨b', off', cap', e, hb, h⟩
          · have := Hl1.out; simp at this; omega
          · simp only [Value.slice.injEq] at e; exact ⟨b', off', e.1⟩
        have hl1 := Hl1.out
        subst hl1
        have ht := hF1.take 60 c1 (by omega)
        have hl60 : (zt.take 60).length = 60 := by rw [List.length_take]; omega
        exact ⟨_, c1, zt.take 60, by rw [hl60], by omega, by omega, by rw [hl60]; exact ht, fun f hf => Hft.out f (List.mem_of_mem_take hf)⟩
      have Hres := Lib.hid hres
      clear hres hF1
      gi_wp2_with fail
      refine Met.intro (hJ _ _ ?_)
      repeat apply Exists.intro
      exact ⟨⟨Hres.out, rfl⟩, rfl⟩
    · have hres : ∃ a2 c2 zs2, Value.slice a1 l1 c1 = Value.slice a2 (List.length zs2) c2 ∧ zs2.length ≤ c2 ∧ zs2.length ≤ 60 ∧ Founds w0.heap.size w0 (.slice a2 zs2.length c2) zs2 ∧ (∀ f ∈ zs2, f.r.fits) := ⟨a1, c1, zt, by rw [Hl1.out], by rw [← Hl1.out]; exact hlc1, by have := Hl1.out; omega, by rw [← Hl1.out]; exact hF1, Hft.out⟩
      have Hres := Lib.hid hres
      clear hres hF1
      gi_wp2_with fail
      refine Met.intro (hJ _ _ ?_)
      repeat apply Exists.intro
      exact ⟨⟨Hres.out, rfl⟩, rfl⟩
  case rest =>
    obtain ⟨⟨a2, c2, zs2, rfl, hlc2, hl60, hF2, hfit2⟩, rfl⟩ := hcut
    obtain ⟨wq, rfl⟩ : ∃ x, x = wc := ⟨_, rfl⟩
    have Hfit2 := Lib.hid hfit2
    have HF2 := Lib.hid hF2
    have Hl60 := Lib.hid hl60
    clear hfit2 hF2 hl60 hF1
    gi_wp2_with fail
    refine ⟨fun h => (by cases h), (callsIn_wide.2 (best_any _ _ _ zs2 (by have := Hl60.out; omega) Hfit2.out wq HF2.out)).mono ?_⟩
    rintro e w2 ⟨v2, es2, m2, rfl, hba2, han2, hb2⟩
    have hb2' : Below w.heap.size w w2 := hb0.trans (hb2.mono hb0.size)
    have hF2 := (HF2.out.below hb2).up hb2.size
    have happ3 := append_founds (base := w2.heap.size) (own_empty w2) (by simp) (hF2.below ((Below.refl _ w2).alloc (Nat.le_refl _) (.cells #[] 39))) (by have := Hl60.out; simp; omega) (by simp) 22
    have Hba2 := Lib.hid hba2
    have Han2 := Lib.hid han2
    clear hba2 han2
    gi_wp2_with (gi_at_builtin; refine wpListIn_append_run _ rfl _ _ 22 rfl _ _ rfl rfl _ happ3 ?_)
    intro vx3 wx3 hox3 hnx3 hgx3
    have hsx3 : w2.heap.size ≤ wx3.heap.size := by have := hgx3.size; simp at this; omega
    have hcx3 : Below w2.heap.size w2 wx3 := ((Below.refl w2.heap.size w2).alloc (Nat.le_refl _) (.cells #[] 39)).grown hgx3 (by simp) (fun q e => by cases e; exact Nat.le_refl _)
    have happ5 := append_founds (base := w2.heap.size) hox3 hnx3 (hF2.below hcx3) (by have := Hl60.out; simp; omega) hsx3 22
    have hlox := hox3.lt
    clear hgx3 happ3 hox3 hnx3
    gi_wp2_with (gi_at_builtin; refine wpListIn_append_run _ rfl _ _ 22 rfl _ _ rfl rfl _ happ5 ?_)
    intro vz3 wz3 hoz3 hnz3 hgz3
    have hcz3 : Below w2.heap.size w2 wz3 := hcx3.grown hgz3 hsx3 (fun k e => (hlox k e).1)
    have hfz3 := hoz3.founds
    obtain ⟨az3, cz3, ez3⟩ := hfz3.slice
    subst ez3
    obtain ⟨lz, hlz⟩ : ∃ lz, lz = (zs2 ++ zs2).length := ⟨_, rfl⟩
    rw [← hlz] at hfz3
    rw [← hlz]
    have Hlz := Lib.hid hlz
    have Hfz3 := Lib.hid hfz3
    have HF2' := Lib.hid hF2
    clear hoz3 hnz3 hgz3 happ5 hfz3 hF2 hlox hlz
    gi_wp2_with fail
    refine ⟨fun h => (by cases h), (callsIn_wide.2 (best_any _ _ _ (zs2 ++ zs2) (by have := Hl60.out; simp; omega) (fun f hf => by rcases List.mem_append.1 hf with hf | hf <;> exact Hfit2.out f hf) wz3 Hfz3.out)).mono ?_⟩
    rintro e w7 ⟨v7, es7, m7, rfl, hba7, han7, hb7⟩
    obtain ⟨hcp, rfl⟩ := answer_twice Han2.out han7
    have hcz7 : Below w2.heap.size w2 w7 := hcz3.trans (hb7.mono hcz3.size)
    have hb7' : Below w.heap.size w w7 := hb2'.trans (hcz7.mono hb2'.size)
    have hents2 : EntsIn w7 v2 (es2.map ent5) := (Hba2.out.entsIn (answer_lens Han2.out)).below hcz7
    have hents7 : EntsIn w7 v7 (es2.map ent5) := by rw [ent5_of Hba2.out.keys hba7.keys hcp]; exact hba7.entsIn (answer_lens han7)
    have hlen2 : (es2.map ent5).length ≤ 1000 := by have := answer_few Han2.out; have := Hl60.out; simp; omega
    have Hents2 := Lib.hid hents2
    have Hlen2 := Lib.hid hlen2
    have halk := alike_in (n - 1) v2 v7 (es2.map ent5) hlen2 w7 hents2 hents7
    have Halk := Lib.hid halk
    have Hcz7 := Lib.hid hcz7
    clear hba7 han7 hcp hents2 hents7 halk hlen2 Hfz3
    gi_wp2_with fail
    refine ⟨fun h => (by cases h), Halk.out.mono ?_⟩
    rintro e w8 ⟨rfl, hb8⟩
    have hb8' : Below w.heap.size w w8 := hb7'.trans (hb8.mono hb7'.size)
    have hcz8 : Below w2.heap.size w2 w8 := hcz7.trans (hb8.mono hcz7.size)
    have hbx0 : Below wq.heap.size wq w8 := hb2.trans (hcz8.mono hb2.size)
    have hbox8 : ∀ w', Below w8.heap.size w8 w' → w'.cell? ⟨w.heap.size, 0, none⟩ = some (.int .i64 kd) ∧ w'.cell? ⟨w.heap.size, 1, none⟩ = some (.int .i64 ct) ∧ w'.cell? ⟨w.heap.size, 2, none⟩ = some (.string key) ∧ w'.cell? ⟨w.heap.size, 3, none⟩ = some (.int .i64 gen) ∧ w'.cell? ⟨w.heap.size, 4, none⟩ = some (.int .i64 gr) ∧ w'.cell? ⟨w.heap.size, 5, none⟩ = some (.int .i64 grs) ∧ w'.cell? ⟨w.heap.size, 6, none⟩ = some (.int .i64 ix) ∧ w'.cell? ⟨w.heap.size, 7, none⟩ = some (.int .i64 sz) ∧ w'.cell? ⟨w.heap.size, 8, none⟩ = some (.string sum) ∧ w'.cell? ⟨w.heap.size, 9, none⟩ = some (.slice da dn dc) := fun w' hb => by
      have hx := hbx0.trans (hb.mono hbx0.size)
      obtain ⟨x0, x1, x2, x3, x4, x5, x6, x7, x8, x9⟩ := Hbox.out
      exact ⟨(hx.cell (p := ⟨w.heap.size, _, none⟩) hlt0).trans x0, (hx.cell (p := ⟨w.heap.size, _, none⟩) hlt0).trans x1, (hx.cell (p := ⟨w.heap.size, _, none⟩) hlt0).trans x2, (hx.cell (p := ⟨w.heap.size, _, none⟩) hlt0).trans x3, (hx.cell (p := ⟨w.heap.size, _, none⟩) hlt0).trans x4, (hx.cell (p := ⟨w.heap.size, _, none⟩) hlt0).trans x5, (hx.cell (p := ⟨w.heap.size, _, none⟩) hlt0).trans x6, (hx.cell (p := ⟨w.heap.size, _, none⟩) hlt0).trans x7, (hx.cell (p := ⟨w.heap.size, _, none⟩) hlt0).trans x8, (hx.cell (p := ⟨w.heap.size, _, none⟩) hlt0).trans x9⟩
    have HB8 := Lib.hid hbox8
    obtain ⟨x0, x1, x2, x3, x4, x5, x6, x7, x8, x9⟩ := hbox8 w8 (Below.refl _ _)
    have hF8 := (HF2'.out.below hcz8).up hcz8.size
    have HF8 := Lib.hid hF8
    clear hbox8 hF8
    gi_wp2_with fail
    refine ⟨fun h => (by cases h), (callsIn_wide.2 (good_any ⟨kd, ct, key, gen, gr, grs, ix, sz, sum, da, dn, dc⟩ Hr.out w8)).mono ?_⟩
    rintro e w9 ⟨rfl, hb9⟩
    have hb9' : Below w.heap.size w w9 := hb8'.trans (hb9.mono hb8'.size)
    clear x0 x1 x2 x3 x4 x5 x6 x7 x8 x9
    cases hg : Rec.goodB ⟨kd, ct, key, gen, gr, grs, ix, sz, sum, da, dn, dc⟩ with
    | true =>
      gi_wp2_with fail
      refine ⟨fun h => (by cases h), (awake_in (n - 1) w9).mono ?_⟩
      rintro e w10 ⟨rfl, hb10⟩
      gi_wp2_with fail
      go_ret
      exact ⟨rfl, hb9'.trans (hb10.mono hb9'.size)⟩
    | false =>
      have hF9 := (HF8.out.below hb9).up hb9.size
      have HF9 := Lib.hid hF9
      have hB9 : ∀ w', Below w9.heap.size w9 w' → w'.cell? ⟨w.heap.size, 0, none⟩ = some (.int .i64 kd) ∧ w'.cell? ⟨w.heap.size, 1, none⟩ = some (.int .i64 ct) ∧ w'.cell? ⟨w.heap.size, 2, none⟩ = some (.string key) ∧ w'.cell? ⟨w.heap.size, 3, none⟩ = some (.int .i64 gen) ∧ w'.cell? ⟨w.heap.size, 4, none⟩ = some (.int .i64 gr) ∧ w'.cell? ⟨w.heap.size, 5, none⟩ = some (.int .i64 grs) ∧ w'.cell? ⟨w.heap.size, 6, none⟩ = some (.int .i64 ix) ∧ w'.cell? ⟨w.heap.size, 7, none⟩ = some (.int .i64 sz) ∧ w'.cell? ⟨w.heap.size, 8, none⟩ = some (.string sum) ∧ w'.cell? ⟨w.heap.size, 9, none⟩ = some (.slice da dn dc) := fun w' hb => HB8.out w' (hb9.trans (hb.mono hb9.size))
      have HB9 := Lib.hid hB9
      have hgo : Fnd.countsB (⟨0, 0, ⟨kd, ct, key, gen, gr, grs, ix, sz, sum, da, dn, dc⟩⟩ : Fnd) = false := by simp [Fnd.countsB, hg]
      have hfitO : ∀ f ∈ zs2 ++ [(⟨0, 0, ⟨kd, ct, key, gen, gr, grs, ix, sz, sum, da, dn, dc⟩⟩ : Fnd)], f.r.fits := fun f hf => by
        rcases List.mem_append.1 hf with hf | hf
        · exact Hfit2.out f hf
        · obtain rfl : f = (⟨0, 0, ⟨kd, ct, key, gen, gr, grs, ix, sz, sum, da, dn, dc⟩⟩ : Fnd) := (by simpa using hf)
          exact Hr.out
      have hbd : Below w9.heap.size w9 w9.drew := (Below.refl _ w9).drew
      have Hb9' := Lib.hid hb9'
      have Hcz9 := Lib.hid (hcz8.trans (hb9.mono hcz8.size))
      clear hF9 hB9 hg
      gi_wp2_with fail
      gi_cut [11, 12] from 101 (fun v11 v12 wd => v12 = .int .i64 m2 ∧ EntsIn wd v11 (es2.map ent5) ∧ Below w9.heap.size w9 wd)
      case first J K' hJ hK' =>
        refine wpIn_region_held (S := fun w' => Below w9.heap.size w9 w') (by kernel_rfl) ?_
        refine wpAnyInH_take (i := 1) (v := .slice a2 (List.length zs2) c2) (by kernel_rfl) rfl (by kernel_rfl) (by kernel_rfl) (by kernel_rfl) (fun _ _ _ h => h) ⟨.inl ⟨rfl, fun w' hS => ?_⟩, fun _ => rfl⟩ hbd ?_
        · go_simp
        refine wpAnyInH_take (i := 3) (v := .agg #[.int .i64 kd, .int .i64 ct, .string key, .int .i64 gen, .int .i64 gr, .int .i64 grs, .int .i64 ix, .int .i64 sz, .string sum, .slice da dn dc]) (by kernel_rfl) rfl (by kernel_rfl) (by kernel_rfl) (by kernel_rfl) (fun _ _ _ h => h) ⟨.inl ⟨rfl, fun w' hS => ?_⟩, fun _ => rfl⟩ hbd ?_
        · obtain ⟨x0, x1, x2, x3, x4, x5, x6, x7, x8, x9⟩ := HB9.out _ hS
          go_simp
        refine wpAnyInH_take (i := 4) (v := .agg #[.int .i64 0, .int .i64 0, .int .i64 kd, .int .i64 ct, .string key, .int .i64 gen, .int .i64 gr, .int .i64 grs, .int .i64 ix, .int .i64 sz, .string sum, .slice da dn dc]) (by kernel_rfl) rfl (by kernel_rfl) (by kernel_rfl) (by kernel_rfl) (fun _ _ _ h => h) ⟨.inl ⟨rfl, fun w' hS => ?_⟩, fun _ => rfl⟩ hbd ?_
        · go_simp
        refine wpAnyInH_all (rs := [0, 5]) (by kernel_rfl) (by simp) ?_
        intro i hi
        rcases List.mem_cons.1 hi with rfl | hi
        · refine wpOpIn_does rfl rfl ?_
          go_simp
          obtain ⟨v0w, hv0w⟩ : ∃ x, x = (World.alloc w9 (.cells #[] 39)).drew := ⟨_, rfl⟩
          have hc0 : Below w9.heap.size w9 v0w := by rw [hv0w]; exact ((Below.refl _ w9).alloc (Nat.le_refl _) _).drew
          have hs0 : Below (World.heap w9).size w9 v0w := by rw [hv0w]; exact ((Below.refl _ w9).alloc (Nat.le_refl _) _).drew
          have hown0 : OwnF w9.heap.size v0w (.slice (some ⟨(World.heap w9).size, 0, none⟩) 0 0) [] := by rw [hv0w]; exact World.ownsRow_made w9 #[] 0 (Nat.le_refl _) (by unfold maxLen; omega) (by simp)
          have hown0w : (World.heap w9).size < (World.heap v0w).size := (hown0.lt _ rfl).2
          rw [← hv0w]
          clear hv0w
          refine ⟨hc0, ?_⟩
          refine wpAnyInH_all (rs := [2, 5]) (by kernel_rfl) (by simp) ?_
          intro i hi
          rcases List.mem_cons.1 hi with rfl | hi
          · have hF1 := HF9.out.below (hc0)
            have happ := append_founds (base := w9.heap.size) hown0 (by simp) hF1 (by have := Hl60.out; simp; omega) (hc0).size 22
            refine wpOpIn_append_run rfl rfl _ _ 22 rfl _ _ rfl rfl _ happ ?_
            rintro v50 v1w ⟨hown2, hne2, hgr2⟩
            have hc1 : Below w9.heap.size w9 v1w := (hc0).grown hgr2 (hc0).size (fun k e => (hown0.lt k e).1)
            rw [List.nil_append] at hown2
            clear happ hgr2 hF1 hown0
            refine ⟨hc1, ?_⟩
            refine wpAnyInH_all (rs := [5]) (by kernel_rfl) (by simp) ?_
            intro i hi
            obtain rfl : i = 5 := by simpa using hi
            refine wpOpIn_does rfl rfl ?_
            go_simp
            obtain ⟨v2w, hv2w⟩ : ∃ x, x = (World.alloc v1w (.cells #[.int .i64 0, .int .i64 0, .int .i64 kd, .int .i64 ct, .string key, .int .i64 gen, .int .i64 gr, .int .i64 grs, .int .i64 ix, .int .i64 sz, .string sum, .slice da dn dc] 39)) := ⟨_, rfl⟩
            have hc2 : Below w9.heap.size w9 v2w := by rw [hv2w]; exact (hc1).alloc (hc1).size _
            have hs2 : Below (World.heap v1w).size v1w v2w := by rw [hv2w]; exact (Below.refl _ _).alloc (Nat.le_refl _) _
            have hown2 := hown2.below hs2
            have hone : FndAt v2w (World.heap v1w).size 0 (⟨0, 0, ⟨kd, ct, key, gen, gr, grs, ix, sz, sum, da, dn, dc⟩⟩ : Fnd) := by rw [hv2w]; exact (FndAt.new v1w (⟨0, 0, ⟨kd, ct, key, gen, gr, grs, ix, sz, sum, da, dn, dc⟩⟩ : Fnd) 39)
            have hol : (World.heap v1w).size < (World.heap v2w).size := by rw [hv2w]; simp
            have hol0 := hol
            have hob : w9.heap.size ≤ (World.heap v1w).size := (hc1).size
            rw [← hv2w]
            clear hv2w
            refine ⟨hc2, ?_⟩
            refine wpAnyInH_all (rs := [6]) (by kernel_rfl) (by simp) ?_
            intro i hi
            obtain rfl : i = 6 := by simpa using hi
            have happ := append_founds (base := w9.heap.size) hown2 hne2 (show Founds (World.heap v2w).size v2w (.slice (some ⟨(World.heap v1w).size, 0, none⟩) 1 1) [(⟨0, 0, ⟨kd, ct, key, gen, gr, grs, ix, sz, sum, da, dn, dc⟩⟩ : Fnd)] from .inr ⟨_, 0, 1, rfl, hol, fun k hk => (by obtain rfl : k = 0 := (by simpa using hk); exact hone)⟩) (by have := Hl60.out; simp; omega) (hc2).size 22
            refine wpOpIn_append_run rfl rfl _ _ 22 rfl _ _ rfl rfl _ happ ?_
            rintro v54 v3w ⟨hown6, hne6, hgr6⟩
            have hc3 : Below w9.heap.size w9 v3w := (hc2).grown hgr6 (hc2).size (fun k e => (hown2.lt k e).1)
            clear happ hgr6 hown2
            refine ⟨hc3, ?_⟩
            obtain ⟨g54, c54, e54, hcap54, _, _⟩ := hown6.some (by simp)
            have hF54 := hown6.founds
            subst e54
            obtain ⟨l54, hl54⟩ : ∃ l, l = (zs2 ++ [(⟨0, 0, ⟨kd, ct, key, gen, gr, grs, ix, sz, sum, da, dn, dc⟩⟩ : Fnd)]).length := ⟨_, rfl⟩
            rw [← hl54] at hF54 hcap54
            rw [← hl54]
            have H54 := Lib.hid hF54
            clear hF54 hl54
            refine wpAnyInH_all (rs := [7]) (by kernel_rfl) (by simp) ?_
            intro i hi
            obtain rfl : i = 7 := by simpa using hi
            refine wpOpIn_does rfl rfl ?_
            go_simp
            refine ⟨fun h => (by cases h), (callsIn_wide.2 (best_any _ _ _ (zs2 ++ [(⟨0, 0, ⟨kd, ct, key, gen, gr, grs, ix, sz, sum, da, dn, dc⟩⟩ : Fnd)]) (by have := Hl60.out; simp; omega) hfitO _ H54.out)).mono ?_⟩
            rintro e wb ⟨vb, eb, mb, rfl, hbb, hab, hb⟩
            have hab' := answer_odd hgo hab
            obtain ⟨hcp, rfl⟩ := answer_same Han2.out hab'
            have hcb : Below w9.heap.size w9 wb := (hc3).trans (hb.mono (hc3).size)
            have hEb : EntsIn wb vb (es2.map ent5) := by rw [ent5_of Hba2.out.keys hbb.keys hcp]; exact hbb.entsIn (answer_lens hab')
            have HEb := Lib.hid hEb
            clear hab hab' hcp hEb hbb H54
            refine ⟨hcb, ?_⟩
            refine wpAnyInH_take (i := 8) (v := .tuple #[vb, .int .i64 m2]) (by kernel_rfl) rfl (by kernel_rfl) (by kernel_rfl) (by kernel_rfl) (fun _ _ _ h => h) ⟨.inl ⟨rfl, fun w' hS => ?_⟩, fun _ => rfl⟩ hcb ?_
            · go_simp
            refine wpAnyInH_take (i := 9) (v := vb) (by kernel_rfl) rfl (by kernel_rfl) (by kernel_rfl) (by kernel_rfl) (fun _ _ _ h => h) ⟨.inl ⟨rfl, fun w' hS => ?_⟩, fun _ => rfl⟩ hcb ?_
            · go_simp
            refine wpAnyInH_take (i := 10) (v := .int .i64 m2) (by kernel_rfl) rfl (by kernel_rfl) (by kernel_rfl) (by kernel_rfl) (fun _ _ _ h => h) ⟨.inl ⟨rfl, fun w' hS => ?_⟩, fun _ => rfl⟩ hcb ?_
            · go_simp
            refine wpAnyInH_take (i := 11) (v := vb) (by kernel_rfl) rfl (by kernel_rfl) (by kernel_rfl) (by kernel_rfl) (fun _ _ _ h => h) ⟨.inl ⟨rfl, fun w' hS => ?_⟩, fun _ => rfl⟩ hcb ?_
            · go_simp
            refine wpAnyInH_take (i := 12) (v := .int .i64 m2) (by kernel_rfl) rfl (by kernel_rfl) (by kernel_rfl) (by kernel_rfl) (fun _ _ _ h => h) ⟨.inl ⟨rfl, fun w' hS => ?_⟩, fun _ => rfl⟩ hcb ?_
            · go_simp
            refine wpAnyInH_done (by kernel_rfl) ?_ _
            refine hK' _ _ (Met.intro (hJ _ _ ?_))
            repeat apply Exists.intro
            refine ⟨?_, rfl⟩
            exact ⟨rfl, HEb.out, hcb⟩
          · obtain rfl : i = 5 := by simpa using hi
            refine wpOpIn_does rfl rfl ?_
            go_simp
            obtain ⟨v1w, hv1w⟩ : ∃ x, x = (World.alloc v0w (.cells #[.int .i64 0, .int .i64 0, .int .i64 kd, .int .i64 ct, .string key, .int .i64 gen, .int .i64 gr, .int .i64 grs, .int .i64 ix, .int .i64 sz, .string sum, .slice da dn dc] 39)) := ⟨_, rfl⟩
            have hc1 : Below w9.heap.size w9 v1w := by rw [hv1w]; exact (hc0).alloc (hc0).size _
            have hs1 : Below (World.heap v0w).size v0w v1w := by rw [hv1w]; exact (Below.refl _ _).alloc (Nat.le_refl _) _
            have hown0 := hown0.below hs1
            have hone : FndAt v1w (World.heap v0w).size 0 (⟨0, 0, ⟨kd, ct, key, gen, gr, grs, ix, sz, sum, da, dn, dc⟩⟩ : Fnd) := by rw [hv1w]; exact (FndAt.new v0w (⟨0, 0, ⟨kd, ct, key, gen, gr, grs, ix, sz, sum, da, dn, dc⟩⟩ : Fnd) 39)
            have hol : (World.heap v0w).size < (World.heap v1w).size := by rw [hv1w]; simp
            have hol0 := hol
            have hob : w9.heap.size ≤ (World.heap v0w).size := (hc0).size
            have hoe : (World.heap v0w).size ≠ (World.heap w9).size := fun e => by have := (hown0.lt _ (show Value.ownBlock _ = some (World.heap w9).size from rfl)).2; have := hown0w; omega
            have hown0w := Nat.lt_of_lt_of_le hown0w hs1.size
            rw [← hv1w]
            clear hv1w
            refine ⟨hc1, ?_⟩
            refine wpAnyInH_all (rs := [2]) (by kernel_rfl) (by simp) ?_
            intro i hi
            obtain rfl : i = 2 := by simpa using hi
            have hF2 := HF9.out.below (hc1)
            have happ := append_founds (base := w9.heap.size) hown0 (by simp) hF2 (by have := Hl60.out; simp; omega) (hc1).size 22
            refine wpOpIn_append_run rfl rfl _ _ 22 rfl _ _ rfl rfl _ happ ?_
            rintro v50 v2w ⟨hown2, hne2, hgr2⟩
            have hc2 : Below w9.heap.size w9 v2w := (hc1).grown hgr2 (hc1).size (fun k e => (hown0.lt k e).1)
            have hone := fndAt_kept hone hol hgr2 (fun e => hoe (Option.some.inj e))
            have hol := Nat.lt_of_lt_of_le hol hgr2.size
            rw [List.nil_append] at hown2
            clear happ hgr2 hF2 hown0
            refine ⟨hc2, ?_⟩
            refine wpAnyInH_all (rs := [6]) (by kernel_rfl) (by simp) ?_
            intro i hi
            obtain rfl : i = 6 := by simpa using hi
            have happ := append_founds (base := w9.heap.size) hown2 hne2 (show Founds (World.heap v2w).size v2w (.slice (some ⟨(World.heap v0w).size, 0, none⟩) 1 1) [(⟨0, 0, ⟨kd, ct, key, gen, gr, grs, ix, sz, sum, da, dn, dc⟩⟩ : Fnd)] from .inr ⟨_, 0, 1, rfl, hol, fun k hk => (by obtain rfl : k = 0 := (by simpa using hk); exact hone)⟩) (by have := Hl60.out; simp; omega) (hc2).size 22
            refine wpOpIn_append_run rfl rfl _ _ 22 rfl _ _ rfl rfl _ happ ?_
            rintro v54 v3w ⟨hown6, hne6, hgr6⟩
            have hc3 : Below w9.heap.size w9 v3w := (hc2).grown hgr6 (hc2).size (fun k e => (hown2.lt k e).1)
            clear happ hgr6 hown2
            refine ⟨hc3, ?_⟩
            obtain ⟨g54, c54, e54, hcap54, _, _⟩ := hown6.some (by simp)
            have hF54 := hown6.founds
            subst e54
            obtain ⟨l54, hl54⟩ : ∃ l, l = (zs2 ++ [(⟨0, 0, ⟨kd, ct, key, gen, gr, grs, ix, sz, sum, da, dn, dc⟩⟩ : Fnd)]).length := ⟨_, rfl⟩
            rw [← hl54] at hF54 hcap54
            rw [← hl54]
            have H54 := Lib.hid hF54
            clear hF54 hl54
            refine wpAnyInH_all (rs := [7]) (by kernel_rfl) (by simp) ?_
            intro i hi
            obtain rfl : i = 7 := by simpa using hi
            refine wpOpIn_does rfl rfl ?_
            go_simp
            refine ⟨fun h => (by cases h), (callsIn_wide.2 (best_any _ _ _ (zs2 ++ [(⟨0, 0, ⟨kd, ct, key, gen, gr, grs, ix, sz, sum, da, dn, dc⟩⟩ : Fnd)]) (by have := Hl60.out; simp; omega) hfitO _ H54.out)).mono ?_⟩
            rintro e wb ⟨vb, eb, mb, rfl, hbb, hab, hb⟩
            have hab' := answer_odd hgo hab
            obtain ⟨hcp, rfl⟩ := answer_same Han2.out hab'
            have hcb : Below w9.heap.size w9 wb := (hc3).trans (hb.mono (hc3).size)
            have hEb : EntsIn wb vb (es2.map ent5) := by rw [ent5_of Hba2.out.keys hbb.keys hcp]; exact hbb.entsIn (answer_lens hab')
            have HEb := Lib.hid hEb
            clear hab hab' hcp hEb hbb H54
            refine ⟨hcb, ?_⟩
            refine wpAnyInH_take (i := 8) (v := .tuple #[vb, .int .i64 m2]) (by kernel_rfl) rfl (by kernel_rfl) (by kernel_rfl) (by kernel_rfl) (fun _ _ _ h => h) ⟨.inl ⟨rfl, fun w' hS => ?_⟩, fun _ => rfl⟩ hcb ?_
            · go_simp
            refine wpAnyInH_take (i := 9) (v := vb) (by kernel_rfl) rfl (by kernel_rfl) (by kernel_rfl) (by kernel_rfl) (fun _ _ _ h => h) ⟨.inl ⟨rfl, fun w' hS => ?_⟩, fun _ => rfl⟩ hcb ?_
            · go_simp
            refine wpAnyInH_take (i := 10) (v := .int .i64 m2) (by kernel_rfl) rfl (by kernel_rfl) (by kernel_rfl) (by kernel_rfl) (fun _ _ _ h => h) ⟨.inl ⟨rfl, fun w' hS => ?_⟩, fun _ => rfl⟩ hcb ?_
            · go_simp
            refine wpAnyInH_take (i := 11) (v := vb) (by kernel_rfl) rfl (by kernel_rfl) (by kernel_rfl) (by kernel_rfl) (fun _ _ _ h => h) ⟨.inl ⟨rfl, fun w' hS => ?_⟩, fun _ => rfl⟩ hcb ?_
            · go_simp
            refine wpAnyInH_take (i := 12) (v := .int .i64 m2) (by kernel_rfl) rfl (by kernel_rfl) (by kernel_rfl) (by kernel_rfl) (fun _ _ _ h => h) ⟨.inl ⟨rfl, fun w' hS => ?_⟩, fun _ => rfl⟩ hcb ?_
            · go_simp
            refine wpAnyInH_done (by kernel_rfl) ?_ _
            refine hK' _ _ (Met.intro (hJ _ _ ?_))
            repeat apply Exists.intro
            refine ⟨?_, rfl⟩
            exact ⟨rfl, HEb.out, hcb⟩
        · obtain rfl : i = 5 := by simpa using hi
          refine wpOpIn_does rfl rfl ?_
          go_simp
          obtain ⟨v0w, hv0w⟩ : ∃ x, x = (World.alloc w9 (.cells #[.int .i64 0, .int .i64 0, .int .i64 kd, .int .i64 ct, .string key, .int .i64 gen, .int .i64 gr, .int .i64 grs, .int .i64 ix, .int .i64 sz, .string sum, .slice da dn dc] 39)).drew := ⟨_, rfl⟩
          have hc0 : Below w9.heap.size w9 v0w := by rw [hv0w]; exact ((Below.refl _ w9).alloc (Nat.le_refl _) _).drew
          have hs0 : Below (World.heap w9).size w9 v0w := by rw [hv0w]; exact ((Below.refl _ w9).alloc (Nat.le_refl _) _).drew
          have hone : FndAt v0w (World.heap w9).size 0 (⟨0, 0, ⟨kd, ct, key, gen, gr, grs, ix, sz, sum, da, dn, dc⟩⟩ : Fnd) := by rw [hv0w]; exact (FndAt.new w9 (⟨0, 0, ⟨kd, ct, key, gen, gr, grs, ix, sz, sum, da, dn, dc⟩⟩ : Fnd) 39).below ((Below.refl (w9.heap.size + 1) _).drew) (by omega)
          have hol : (World.heap w9).size < (World.heap v0w).size := by rw [hv0w]; simp
          have hol0 := hol
          have hob : w9.heap.size ≤ (World.heap w9).size := Nat.le_refl _
          rw [← hv0w]
          clear hv0w
          refine ⟨hc0, ?_⟩
          refine wpAnyInH_all (rs := [0]) (by kernel_rfl) (by simp) ?_
          intro i hi
          obtain rfl : i = 0 := by simpa using hi
          refine wpOpIn_does rfl rfl ?_
          go_simp
          obtain ⟨v1w, hv1w⟩ : ∃ x, x = (World.alloc v0w (.cells #[] 39)) := ⟨_, rfl⟩
          have hc1 : Below w9.heap.size w9 v1w := by rw [hv1w]; exact (hc0).alloc (hc0).size _
          have hs1 : Below (World.heap v0w).size v0w v1w := by rw [hv1w]; exact (Below.refl _ _).alloc (Nat.le_refl _) _
          have hone := hone.below hs1 hol
          have hol := Nat.lt_of_lt_of_le hol hs1.size
          have hown0 : OwnF w9.heap.size v1w (.slice (some ⟨(World.heap v0w).size, 0, none⟩) 0 0) [] := by rw [hv1w]; exact World.ownsRow_made v0w #[] 0 (hc0).size (by unfold maxLen; omega) (by simp)
          have hoe : (World.heap w9).size ≠ (World.heap v0w).size := Nat.ne_of_lt hol0
          have hown0w : (World.heap v0w).size < (World.heap v1w).size := (hown0.lt _ rfl).2
          rw [← hv1w]
          clear hv1w
          refine ⟨hc1, ?_⟩
          refine wpAnyInH_all (rs := [2]) (by kernel_rfl) (by simp) ?_
          intro i hi
          obtain rfl : i = 2 := by simpa using hi
          have hF2 := HF9.out.below (hc1)
          have happ := append_founds (base := w9.heap.size) hown0 (by simp) hF2 (by have := Hl60.out; simp; omega) (hc1).size 22
          refine wpOpIn_append_run rfl rfl _ _ 22 rfl _ _ rfl rfl _ happ ?_
          rintro v50 v2w ⟨hown2, hne2, hgr2⟩
          have hc2 : Below w9.heap.size w9 v2w := (hc1).grown hgr2 (hc1).size (fun k e => (hown0.lt k e).1)
          have hone := fndAt_kept hone hol hgr2 (fun e => hoe (Option.some.inj e))
          have hol := Nat.lt_of_lt_of_le hol hgr2.size
          rw [List.nil_append] at hown2
          clear happ hgr2 hF2 hown0
          refine ⟨hc2, ?_⟩
          refine wpAnyInH_all (rs := [6]) (by kernel_rfl) (by simp) ?_
          intro i hi
          obtain rfl : i = 6 := by simpa using hi
          have happ := append_founds (base := w9.heap.size) hown2 hne2 (show Founds (World.heap v2w).size v2w (.slice (some ⟨(World.heap w9).size, 0, none⟩) 1 1) [(⟨0, 0, ⟨kd, ct, key, gen, gr, grs, ix, sz, sum, da, dn, dc⟩⟩ : Fnd)] from .inr ⟨_, 0, 1, rfl, hol, fun k hk => (by obtain rfl : k = 0 := (by simpa using hk); exact hone)⟩) (by have := Hl60.out; simp; omega) (hc2).size 22
          refine wpOpIn_append_run rfl rfl _ _ 22 rfl _ _ rfl rfl _ happ ?_
          rintro v54 v3w ⟨hown6, hne6, hgr6⟩
          have hc3 : Below w9.heap.size w9 v3w := (hc2).grown hgr6 (hc2).size (fun k e => (hown2.lt k e).1)
          clear happ hgr6 hown2
          refine ⟨hc3, ?_⟩
          obtain ⟨g54, c54, e54, hcap54, _, _⟩ := hown6.some (by simp)
          have hF54 := hown6.founds
          subst e54
          obtain ⟨l54, hl54⟩ : ∃ l, l = (zs2 ++ [(⟨0, 0, ⟨kd, ct, key, gen, gr, grs, ix, sz, sum, da, dn, dc⟩⟩ : Fnd)]).length := ⟨_, rfl⟩
          rw [← hl54] at hF54 hcap54
          rw [← hl54]
          have H54 := Lib.hid hF54
          clear hF54 hl54
          refine wpAnyInH_all (rs := [7]) (by kernel_rfl) (by simp) ?_
          intro i hi
          obtain rfl : i = 7 := by simpa using hi
          refine wpOpIn_does rfl rfl ?_
          go_simp
          refine ⟨fun h => (by cases h), (callsIn_wide.2 (best_any _ _ _ (zs2 ++ [(⟨0, 0, ⟨kd, ct, key, gen, gr, grs, ix, sz, sum, da, dn, dc⟩⟩ : Fnd)]) (by have := Hl60.out; simp; omega) hfitO _ H54.out)).mono ?_⟩
          rintro e wb ⟨vb, eb, mb, rfl, hbb, hab, hb⟩
          have hab' := answer_odd hgo hab
          obtain ⟨hcp, rfl⟩ := answer_same Han2.out hab'
          have hcb : Below w9.heap.size w9 wb := (hc3).trans (hb.mono (hc3).size)
          have hEb : EntsIn wb vb (es2.map ent5) := by rw [ent5_of Hba2.out.keys hbb.keys hcp]; exact hbb.entsIn (answer_lens hab')
          have HEb := Lib.hid hEb
          clear hab hab' hcp hEb hbb H54
          refine ⟨hcb, ?_⟩
          refine wpAnyInH_take (i := 8) (v := .tuple #[vb, .int .i64 m2]) (by kernel_rfl) rfl (by kernel_rfl) (by kernel_rfl) (by kernel_rfl) (fun _ _ _ h => h) ⟨.inl ⟨rfl, fun w' hS => ?_⟩, fun _ => rfl⟩ hcb ?_
          · go_simp
          refine wpAnyInH_take (i := 9) (v := vb) (by kernel_rfl) rfl (by kernel_rfl) (by kernel_rfl) (by kernel_rfl) (fun _ _ _ h => h) ⟨.inl ⟨rfl, fun w' hS => ?_⟩, fun _ => rfl⟩ hcb ?_
          · go_simp
          refine wpAnyInH_take (i := 10) (v := .int .i64 m2) (by kernel_rfl) rfl (by kernel_rfl) (by kernel_rfl) (by kernel_rfl) (fun _ _ _ h => h) ⟨.inl ⟨rfl, fun w' hS => ?_⟩, fun _ => rfl⟩ hcb ?_
          · go_simp
          refine wpAnyInH_take (i := 11) (v := vb) (by kernel_rfl) rfl (by kernel_rfl) (by kernel_rfl) (by kernel_rfl) (fun _ _ _ h => h) ⟨.inl ⟨rfl, fun w' hS => ?_⟩, fun _ => rfl⟩ hcb ?_
          · go_simp
          refine wpAnyInH_take (i := 12) (v := .int .i64 m2) (by kernel_rfl) rfl (by kernel_rfl) (by kernel_rfl) (by kernel_rfl) (fun _ _ _ h => h) ⟨.inl ⟨rfl, fun w' hS => ?_⟩, fun _ => rfl⟩ hcb ?_
          · go_simp
          refine wpAnyInH_done (by kernel_rfl) ?_ _
          refine hK' _ _ (Met.intro (hJ _ _ ?_))
          repeat apply Exists.intro
          refine ⟨?_, rfl⟩
          exact ⟨rfl, HEb.out, hcb⟩
      case rest =>
        obtain ⟨rfl, hE11, hwd⟩ := hcut
        obtain ⟨wd, rfl⟩ : ∃ x, x = wc := ⟨_, rfl⟩
        have hE2 := Hents2.out.below ((hb8.trans (hb9.mono hb8.size)).trans (hwd.mono (Nat.le_trans hb8.size hb9.size)))
        have hbd' : Below w.heap.size w wd := Hb9'.out.trans (hwd.mono Hb9'.out.size)
        have HE11 := Lib.hid hE11
        have HE2 := Lib.hid hE2
        clear hE11 hE2
        gi_wp2_with fail
        refine ⟨fun h => (by cases h), (awake_in (n - 1) wd).mono ?_⟩
        rintro e w10 ⟨rfl, hb10⟩
        have halk := alike_in (n - 1) v2 u11 (es2.map ent5) Hlen2.out w10 (HE2.out.below hb10) (HE11.out.below hb10)
        have Halk2 := Lib.hid halk
        clear halk
        gi_wp2_with fail
        refine ⟨fun h => (by cases h), Halk2.out.mono ?_⟩
        rintro e w11 ⟨rfl, hb11⟩
        gi_wp2_with fail
        go_ret
        exact ⟨rfl, hbd'.trans ((hb10.trans (hb11.mono hb10.size)).mono hbd'.size)⟩

end Go.Proofs.Ytbcefiefeobmcaa
