/-
  Maps as lists of pairs (key, value), in the order in which the keys came: made, looked up, stored into, ranged over. Over whatever program.
-/
import Derived.Maps.Keyed
import Derived.Maps.RangeRun
import Derived.Maps.Own
import Derived.Maps.OwnIn
import Derived.WalkKit
namespace Go.Proofs.Ytbcefiefeobmcaa
open Go.RowKit Go.ChangeMaps Go.MapKept Go.Maps

def pairOf (e : MapEntry) : Value × Value := (e.key, e.val)

/-- BLOCK b IS A MAP WHOSE ENTRIES ARE m, in the order in which their keys came. -/
def mapIs (w : World) (P : Program) (k : TypeId) (b : Nat) (m : List (Value × Value)) : Prop :=
  ∃ es clock, w.heap[b]? = some (.map es clock) ∧ es.toList.map pairOf = m ∧ Stamped es clock ∧ ∀ x ∈ es.toList, ∃ l, keyOf P k x.key = some l

variable {P : Program} {k e t : TypeId} {w : World} {b : Nat} {m : List (Value × Value)}

theorem mapIs.lt (h : mapIs w P k b m) : b < w.heap.size := by
  obtain ⟨es, clock, hb, _⟩ := h
  exact (Array.getElem?_eq_some_iff.1 hb).1

theorem mapIs.same {w' : World} (h : mapIs w P k b m) (hb : w'.heap[b]? = w.heap[b]?) : mapIs w' P k b m := by
  obtain ⟨es, clock, h1, h2⟩ := h
  exact ⟨es, clock, hb.trans h1, h2⟩

theorem mapIs.kept {w' : World} {row : Option Nat} (h : mapIs w P k b m) (hg : w.grownBy w' row) (hne : some b ≠ row) : mapIs w' P k b m :=
  h.same (hg.block b h.lt hne)

theorem mapIs_made (w : World) (P : Program) (k : TypeId) : mapIs (w.alloc (.map #[] 0)) P k w.heap.size [] :=
  ⟨#[], 0, (MapKept.heap_alloc w _).1, rfl, stamped_empty 0, by simp⟩

theorem mapIs.keys (h : mapIs w P k b m) : (m.map (·.1)).Pairwise (· ≠ ·) := by
  obtain ⟨es, clock, _, rfl, hst, _⟩ := h
  rw [List.map_map, List.pairwise_map]
  exact ((stamped_iff es clock).1 hst).2.2

theorem mapIs.keyed (h : mapIs w P k b m) : ∀ p ∈ m, ∃ l, keyOf P k p.1 = some l := by
  obtain ⟨es, clock, _, rfl, _, hk⟩ := h
  intro p hp
  obtain ⟨x, hx, rfl⟩ := List.mem_map.1 hp
  exact hk x hx

/-- 'm[key]', 'v, ok := m[key]'. -/
theorem mapIs.look (h : mapIs w P k b m) (K : Keyed P k) (ht : P.underlying t = some (.map k e)) {z : Value} (hz : (zeroValue e).run P w = .ok z w) {key : Value} {kl : Lit} (hkey : keyOf P k key = some kl) (ok : Bool) :
    ((∀ p ∈ m, p.1 ≠ key) ∧ (Instr.lookup t (.map (some b)) key ok).run P w = .ok (if ok then .tuple #[z, .bool false] else z) w) ∨
    ∃ (j : Nat) (v : Value), m[j]? = some (key, v) ∧ (Instr.lookup t (.map (some b)) key ok).run P w = .ok (if ok then .tuple #[v, .bool true] else v) w := by
  obtain ⟨es, clock, hb, rfl, hst, hk⟩ := h
  rcases K.find w hkey es.toList hk with ⟨h1, h2⟩ | ⟨j, e0, h1, h2, h3⟩
  · left
    refine ⟨fun p hp => ?_, ?_⟩
    · obtain ⟨x, hx, rfl⟩ := List.mem_map.1 hp
      exact h2 x hx
    · cases ok <;> simp [Instr.lookup, run_underlying ht, MapKept.run_getObj_map hb, K.check w _ hkey, h1, hz, Result.andThen]
  · right
    refine ⟨j, e0.val, by rw [List.getElem?_map, h2]; simp [pairOf, h3], ?_⟩
    cases ok <;> simp [Instr.lookup, run_underlying ht, MapKept.run_getObj_map hb, K.check w _ hkey, h1, Result.andThen]

/-- 'm[key] = val'. -/
theorem mapIs.store (h : mapIs w P k b m) (K : Keyed P k) (ht : P.underlying t = some (.map k e)) {key : Value} {kl : Lit} (hkey : keyOf P k key = some kl) (val : Value) :
    ∃ w' m', (Instr.mapUpdate t (.map (some b)) key val).run P w = .ok () w' ∧ mapIs w' P k b m' ∧ w.grownBy w' (some b) ∧ w'.heap.size = w.heap.size ∧
      (((∀ p ∈ m, p.1 ≠ key) ∧ m' = m ++ [(key, val)]) ∨ ∃ (j : Nat) (v : Value), m[j]? = some (key, v) ∧ m' = m.set j (key, val)) := by
  have hlt := h.lt
  obtain ⟨es, clock, hb, rfl, hst, hk⟩ := h
  have hgr : ∀ o', w.grownBy (setBlock w b o') (some b) := fun o' => ⟨rfl, rfl, rfl, by simp [setBlock], fun i _ hi => heap_setBlock_other hb _ (fun e => hi (by rw [e]))⟩
  rcases K.find w hkey es.toList hk with ⟨h1, h2⟩ | ⟨j, e0, h1, h2, h3⟩
  · refine ⟨setBlock w b (.map (es.push ⟨key, val, clock⟩) (clock + 1)), _, ?_, ⟨es.push ⟨key, val, clock⟩, clock + 1, heap_setBlock_same hb _, rfl, stamped_push hst h2, ?_⟩, hgr _, by simp [setBlock], .inl ⟨?_, by simp [pairOf]⟩⟩
    · simp [Instr.mapUpdate, run_underlying ht, MapKept.run_getObj_map hb, K.check w false hkey, h1, MapKept.run_setObj_map _ hb, Result.andThen, setBlock]
    · intro x hx
      simp only [Array.toList_push, List.mem_append, List.mem_singleton] at hx
      rcases hx with hx | rfl
      · exact hk x hx
      · exact ⟨_, hkey⟩
    · intro p hp
      obtain ⟨x, hx, rfl⟩ := List.mem_map.1 hp
      exact h2 x hx
  · have hj : es[j]? = some e0 := by simpa using h2
    have hkeyf : ∀ e', es[j]? = some e' → ({ e' with key := key, val := val } : MapEntry).key = e'.key := fun e' he' => by rw [hj] at he'; cases he'; exact h3.symm
    have hlist : (es.modify j (fun e' => { e' with key := key, val := val })).toList = es.toList.set j { e0 with key := key, val := val } := by rw [Array.toList_modify, modify_eq_set _ _ _ _ h2]
    refine ⟨setBlock w b (.map (es.modify j (fun e' => { e' with key := key, val := val })) clock), _, ?_, ⟨es.modify j (fun e' => { e' with key := key, val := val }), clock, heap_setBlock_same hb _, rfl, stamped_modify hst _ _ (fun _ _ => rfl) (fun e' _ he' => hkeyf e' he'), ?_⟩, hgr _, by simp [setBlock], .inr ⟨j, e0.val, ?_, ?_⟩⟩
    · simp [Instr.mapUpdate, run_underlying ht, MapKept.run_getObj_map hb, K.check w false hkey, h1, hj, h3, K.stays w hkey, MapKept.run_setObj_map _ hb, Result.andThen, setBlock]
    · intro x hx
      rw [hlist] at hx
      rcases List.mem_or_eq_of_mem_set hx with hx | rfl
      · exact hk x hx
      · exact ⟨_, hkey⟩
    · rw [List.getElem?_map, h2]; simp [pairOf, h3]
    · rw [hlist, List.map_set]; rfl

/-- BLOCK b IS THE MAP m; BLOCK r AN ITERATOR OVER IT; rest IS STILL TO COME, in whatever order. -/
def iterIs (w : World) (P : Program) (k : TypeId) (b r : Nat) (m rest : List (Value × Value)) : Prop :=
  ∃ es clock since seen c0, w.heap[b]? = some (.map es clock) ∧ es.toList.map pairOf = m ∧ Stamped es clock ∧ (∀ x ∈ es.toList, ∃ l, keyOf P k x.key = some l) ∧
    w.heap[r]? = some (.mapIter (some b) since seen c0) ∧ (∀ x ∈ es.toList, x.born < since) ∧ since ≤ c0 ∧ since ≤ clock ∧ ((leftOf es seen).toList.map pairOf).Perm rest

variable {r : Nat} {rest : List (Value × Value)}

theorem iterIs.mapIs (h : iterIs w P k b r m rest) : mapIs w P k b m := by
  obtain ⟨es, clock, since, seen, c0, h1, h2, h3, h4, _⟩ := h
  exact ⟨es, clock, h1, h2, h3, h4⟩

theorem iterIs.lt (h : iterIs w P k b r m rest) : r < w.heap.size := by
  obtain ⟨es, clock, since, seen, c0, _, _, _, _, hr, _⟩ := h
  exact (Array.getElem?_eq_some_iff.1 hr).1

theorem iterIs.ne (h : iterIs w P k b r m rest) : r ≠ b := by
  obtain ⟨es, clock, since, seen, c0, hb, _, _, _, hr, _⟩ := h
  intro e
  rw [e, hb] at hr
  cases hr

theorem iterIs.kept {w' : World} {row : Option Nat} (h : iterIs w P k b r m rest) (hg : w.grownBy w' row) (hb' : some b ≠ row) (hr' : some r ≠ row) : iterIs w' P k b r m rest := by
  have h1 := h.mapIs.lt
  have h2 := h.lt
  obtain ⟨es, clock, since, seen, c0, hb, e1, e2, e3, hr, r3⟩ := h
  exact ⟨es, clock, since, seen, c0, (hg.block b h1 hb').trans hb, e1, e2, e3, (hg.block r h2 hr').trans hr, r3⟩

theorem iterIs.perm (h : iterIs w P k b r m rest) {rest' : List (Value × Value)} (hp : rest.Perm rest') : iterIs w P k b r m rest' := by
  obtain ⟨es, clock, since, seen, c0, a1, a2, a3, a4, a5, a6, a7, a8, a9⟩ := h
  exact ⟨es, clock, since, seen, c0, a1, a2, a3, a4, a5, a6, a7, a8, a9.trans hp⟩

/-- 'range m'. -/
theorem mapIs.range (h : mapIs w P k b m) (ht : P.underlying t = some (.map k e)) :
    ∃ w', (Instr.range t (.map (some b))).run P w = .ok (.pointer (some ⟨w.heap.size, 0, none⟩)) w' ∧ iterIs w' P k b w.heap.size m m ∧ w.grownBy w' none ∧ w'.heap.size = w.heap.size + 1 := by
  have hlt := h.lt
  obtain ⟨es, clock, hb, rfl, hst, hk⟩ := h
  refine ⟨_, run_range_map w t k e b es clock ht hb, ⟨es, clock, clock, #[], clock, ((MapKept.heap_alloc w _).2 b hlt).trans hb, rfl, hst, hk, (MapKept.heap_alloc w _).1, hst.1, Nat.le_refl _, Nat.le_refl _, ?_⟩, World.grownBy_alloc w _ none, by simp⟩
  have : (leftOf es #[]).toList = es.toList := by
    simp only [leftOf, Array.toList_filter]
    exact List.filter_eq_self.2 (fun x _ => by simp)
  rw [this]

theorem leftOf_push (es : Array MapEntry) (seen : Array Nat) (x : Nat) : (leftOf es (seen.push x)).toList = (leftOf es seen).toList.filter (fun e => e.born != x) := by
  simp only [leftOf, Array.toList_filter, List.filter_filter]
  apply List.filter_congr
  intro e _
  rw [Bool.eq_iff_iff]
  simp [bne]
  constructor
  · rintro ⟨h1, h2⟩; exact ⟨h2, h1⟩
  · rintro ⟨h1, h2⟩; exact ⟨h2, h1⟩

theorem perm_filter_born : ∀ {l : List MapEntry}, (l.map (·.born)).Nodup → ∀ {x : MapEntry}, x ∈ l → l.Perm (x :: l.filter (fun e => e.born != x.born))
  | [], _, _, h => by cases h
  | a :: r, hn, x, hx => by
    obtain ⟨h1, h2⟩ := List.nodup_cons.1 (by simpa using hn : ((a.born) :: (r.map (·.born))).Nodup)
    rcases List.mem_cons.1 hx with rfl | hx
    · have : r.filter (fun e => e.born != x.born) = r := List.filter_eq_self.2 (fun y hy => by
        simp only [bne_iff_ne, ne_eq]
        intro hxy
        exact h1 (List.mem_map.2 ⟨y, hy, hxy⟩))
      simp [this]
    · have hne : (a.born != x.born) = true := by
        simp only [bne_iff_ne, ne_eq]
        intro hxy
        exact h1 (List.mem_map.2 ⟨x, hx, hxy.symm⟩)
      rw [List.filter_cons, if_pos hne]
      exact ((perm_filter_born h2 hx).cons a).trans (List.Perm.swap x a _)

/-- THE STEP: nothing is left; or some pair that is left comes out. -/
theorem iterIs.next (h : iterIs w P k b r m rest) (ty : TypeId) :
    (rest = [] ∧ (Instr.next (.pointer (some ⟨r, 0, none⟩)) false ty).run P w = .ok (.tuple #[.bool false]) w) ∨
    ∃ (p : Value × Value) (rest' : List (Value × Value)) (w' : World), rest.Perm (p :: rest') ∧ (Instr.next (.pointer (some ⟨r, 0, none⟩)) false ty).run P w = .ok (.tuple #[.bool true, p.1, p.2]) w' ∧
      iterIs w' P k b r m rest' ∧ w.grownBy w' (some r) ∧ w'.heap.size = w.heap.size ∧ (Instr.entry (.pointer (some ⟨r, 0, none⟩))).run P w' = .ok (.tuple #[p.1, p.2]) w' := by
  have hne := h.ne
  have hrl := h.lt
  obtain ⟨es, clock, since, seen, c0, hb, rfl, hst, hk, hr, hold, hsc, hsk, hp⟩ := h
  rcases run_next_at (P := P) w ty r b since c0 seen es clock hr hb hold hsc with ⟨h0, hrun⟩ | ⟨x, hx, w1, hal, hrun⟩
  · left
    refine ⟨?_, hrun⟩
    have : (leftOf es seen).toList = [] := by
      have := Array.eq_empty_of_size_eq_zero h0
      rw [this]
    rw [this] at hp
    exact List.nil_perm.1 (by simpa using hp)
  · right
    have hr1 : w1.heap[r]? = some (.mapIter (some b) since seen c0) := by rcases hal with rfl | rfl <;> exact hr
    have hb1 : w1.heap[b]? = some (.map es clock) := by rcases hal with rfl | rfl <;> exact hb
    have hxes : x ∈ es.toList := by
      simp only [leftOf, Array.toList_filter] at hx
      exact (List.mem_filter.1 hx).1
    have hnd : ((leftOf es seen).toList.map (·.born)).Nodup := by
      simp only [leftOf, Array.toList_filter]
      exact ((stamped_iff es clock).1 hst).2.1.sublist ((List.filter_sublist).map _)
    have hset := heap_set (o' := .mapIter (some b) since (seen.push x.born) clock) hr1
    refine ⟨pairOf x, (leftOf es (seen.push x.born)).toList.map pairOf, _, ?_, hrun, ⟨es, clock, since, seen.push x.born, clock, (hset.2 b (Ne.symm hne)).trans hb1, rfl, hst, hk, hset.1, hold, hsk, hsk, List.Perm.refl _⟩, ?_, ?_, ?_⟩
    · refine hp.symm.trans ?_
      rw [leftOf_push]
      exact (perm_filter_born hnd hx).map pairOf
    · rcases hal with rfl | rfl
      · exact ⟨rfl, rfl, rfl, by simp [setBlock], fun i _ hne' => hset.2 i (fun e => hne' (by rw [e]))⟩
      · exact ⟨rfl, rfl, rfl, by simp [setBlock], fun i _ hne' => hset.2 i (fun e => hne' (by rw [e]))⟩
    · rcases hal with rfl | rfl <;> simp [setBlock]
    · exact run_entry_at _ r b since seen es clock x hset.1 ((hset.2 b (Ne.symm hne)).trans hb1) hxes ((stamped_iff es clock).1 hst).2.1

/-! ### typed: keys and values as the program's own data -/
def getL {α β : Type} [DecidableEq α] : List (α × β) → α → Option β
  | [], _ => none
  | (a, b) :: r, k => if a = k then some b else getL r k

def putL {α β : Type} [DecidableEq α] : List (α × β) → α → β → List (α × β)
  | [], k, v => [(k, v)]
  | (a, b) :: r, k, v => if a = k then (k, v) :: r else (a, b) :: putL r k v

section typed
variable {α β : Type} [DecidableEq α]

theorem getL_none {ms : List (α × β)} {k : α} : getL ms k = none ↔ ∀ p ∈ ms, p.1 ≠ k := by
  induction ms with
  | nil => simp [getL]
  | cons p r ih =>
    obtain ⟨a, b⟩ := p
    by_cases h : a = k
    · simp [getL, h]
    · simp [getL, h, ih]

theorem getL_some {ms : List (α × β)} {k : α} {v : β} (h : getL ms k = some v) : (k, v) ∈ ms := by
  induction ms with
  | nil => simp [getL] at h
  | cons p r ih =>
    obtain ⟨a, b⟩ := p
    by_cases e : a = k
    · simp [getL, e] at h; simp [e, h]
    · simp [getL, e] at h; simp [ih h]

theorem getL_of_mem {ms : List (α × β)} (hd : (ms.map (·.1)).Pairwise (· ≠ ·)) {k : α} {v : β} (h : (k, v) ∈ ms) : getL ms k = some v := by
  induction ms with
  | nil => cases h
  | cons p r ih =>
    obtain ⟨a, b⟩ := p
    obtain ⟨h1, h2⟩ := List.pairwise_cons.1 (by simpa using hd : (a :: r.map (·.1)).Pairwise (· ≠ ·))
    rcases List.mem_cons.1 h with e | h'
    · cases e; simp [getL]
    · have : a ≠ k := h1 k (List.mem_map.2 ⟨(k, v), h', rfl⟩)
      simp [getL, this, ih h2 h']

theorem putL_new {ms : List (α × β)} {k : α} (v : β) (h : ∀ p ∈ ms, p.1 ≠ k) : putL ms k v = ms ++ [(k, v)] := by
  induction ms with
  | nil => rfl
  | cons p r ih =>
    obtain ⟨a, b⟩ := p
    have h1 : a ≠ k := h (a, b) (by simp)
    simp [putL, h1, ih (fun p hp => h p (by simp [hp]))]

theorem putL_old {ms : List (α × β)} (hd : (ms.map (·.1)).Pairwise (· ≠ ·)) {j : Nat} {k : α} {v0 : β} (v : β) (h : ms[j]? = some (k, v0)) : putL ms k v = ms.set j (k, v) := by
  induction ms generalizing j with
  | nil => simp at h
  | cons p r ih =>
    obtain ⟨a, b⟩ := p
    obtain ⟨h1, h2⟩ := List.pairwise_cons.1 (by simpa using hd : (a :: r.map (·.1)).Pairwise (· ≠ ·))
    cases j with
    | zero => simp at h; simp [putL, h.1]
    | succ j =>
      have hm : (k, v0) ∈ r := List.mem_of_getElem? (by simpa using h)
      have : a ≠ k := h1 k (List.mem_map.2 ⟨(k, v0), hm, rfl⟩)
      simp [putL, this, ih h2 (by simpa using h)]

theorem getL_putL {ms : List (α × β)} {k k' : α} {v : β} : getL (putL ms k v) k' = if k = k' then some v else getL ms k' := by
  induction ms with
  | nil => simp [putL, getL]
  | cons p r ih =>
    obtain ⟨a, b⟩ := p
    by_cases h : a = k
    · subst h
      by_cases h2 : a = k' <;> simp [putL, getL, h2]
    · by_cases h2 : a = k'
      · subst h2
        simp [putL, getL, h, Ne.symm h]
      · simp [putL, getL, h, h2, ih]

def encM (mk : α → Value) (mv : β → Value) (ms : List (α × β)) : List (Value × Value) := ms.map fun p => (mk p.1, mv p.2)

variable {mk : α → Value} {mv : β → Value} {ms : List (α × β)}

theorem encM_keys {α' β' : Type} {mk : α' → Value} {mv : β' → Value} {ms : List (α' × β')} (h : mapIs w P k b (encM mk mv ms)) : (ms.map (·.1)).Pairwise (· ≠ ·) := by
  have := h.keys
  rw [encM, List.map_map] at this
  rw [List.pairwise_map] at *
  exact this.imp (fun hne e => hne (by simp [Function.comp, e]))

def lookVal (mv : β → Value) (z : Value) (ok : Bool) : Option β → Value
  | none => if ok then .tuple #[z, .bool false] else z
  | some v => if ok then .tuple #[mv v, .bool true] else mv v

theorem look_typed (h : mapIs w P k b (encM mk mv ms)) (K : Keyed P k) (ht : P.underlying t = some (.map k e)) {z : Value} (hz : (zeroValue e).run P w = .ok z w) (hinj : ∀ x y, mk x = mk y → x = y)
    {a : α} {kl : Lit} (hkey : keyOf P k (mk a) = some kl) (ok : Bool) : (Instr.lookup t (.map (some b)) (mk a) ok).run P w = .ok (lookVal mv z ok (getL ms a)) w := by
  rcases h.look K ht hz hkey ok with ⟨h1, hrun⟩ | ⟨j, v, hj, hrun⟩
  · have : getL ms a = none := getL_none.2 (fun p hp e => h1 (mk p.1, mv p.2) (List.mem_map.2 ⟨p, hp, rfl⟩) (by rw [e]))
    rw [this, hrun]; rfl
  · rw [encM, List.getElem?_map] at hj
    cases hm : ms[j]? with
    | none => simp [hm] at hj
    | some p =>
      obtain ⟨a', v'⟩ := p
      simp only [hm, Option.map_some, Option.some.injEq, Prod.mk.injEq] at hj
      obtain ⟨ha, rfl⟩ := hj
      obtain rfl := hinj _ _ ha
      have : getL ms a' = some v' := getL_of_mem (encM_keys h) (List.mem_of_getElem? hm)
      rw [this, hrun]; rfl

theorem store_typed (h : mapIs w P k b (encM mk mv ms)) (K : Keyed P k) (ht : P.underlying t = some (.map k e)) (hinj : ∀ x y, mk x = mk y → x = y)
    {a : α} {kl : Lit} (hkey : keyOf P k (mk a) = some kl) (v : β) :
    ∃ w', (Instr.mapUpdate t (.map (some b)) (mk a) (mv v)).run P w = .ok () w' ∧ mapIs w' P k b (encM mk mv (putL ms a v)) ∧ w.grownBy w' (some b) ∧ w'.heap.size = w.heap.size := by
  obtain ⟨w', m', hrun, hm', hg, hs, h1⟩ := h.store K ht hkey (mv v)
  refine ⟨w', hrun, ?_, hg, hs⟩
  rcases h1 with ⟨hn, rfl⟩ | ⟨j, v0, hj, rfl⟩
  · have : putL ms a v = ms ++ [(a, v)] := putL_new v (fun p hp e => hn (mk p.1, mv p.2) (List.mem_map.2 ⟨p, hp, rfl⟩) (by rw [e]))
    rw [this]
    simpa [encM] using hm'
  · rw [encM, List.getElem?_map] at hj
    cases hm : ms[j]? with
    | none => simp [hm] at hj
    | some p =>
      obtain ⟨a', v'⟩ := p
      simp only [hm, Option.map_some, Option.some.injEq, Prod.mk.injEq] at hj
      obtain ⟨ha, rfl⟩ := hj
      obtain rfl := hinj _ _ ha
      rw [putL_old (encM_keys h) v hm]
      simpa [encM, List.map_set] using hm'

end typed

/-! ### at the operation -/
section ops
variable {F : Fence} {nF : Nat} {ops : Array Oper} {rest : List Oper} {o : Oper} {a : Act} {Q : Exit → Act → World → Prop}

theorem wpListIn_lookup_run (w : World) (hg : o.guard = none) (m x : Operand) (t : TypeId) (ok : Bool) (hop : o.op = Op.lookup t m x ok) (mp key v : Value) (hm : a.eval m = mp) (hx : a.eval x = key)
    (hrun : (Instr.lookup t mp key ok).run P w = .ok v w) (hK : wpListIn F nF P ops Q rest (a.put o.dst v) w) : wpListIn F nF P ops Q (o :: rest) a w := by
  refine wpListIn_plain hg fun K' hK' => ?_
  unfold Oper.wpIn
  refine ⟨by simp [Oper.about, hop], ?_⟩
  rw [Oper.semAt_plain F _ _ (by rw [hop]; intro c hc'; cases hc')]
  simp [execOp, hop, hm, hx, hrun, Result.andThen]
  exact hK' _ _ hK

theorem wpListIn_mapUpdate_run (w : World) (hg : o.guard = none) (m x v : Operand) (t : TypeId) (hop : o.op = Op.mapUpdate t m x v) (mp key val : Value) (hm : a.eval m = mp) (hx : a.eval x = key) (hv : a.eval v = val)
    (R : World → Prop) (hrun : ∃ w', (Instr.mapUpdate t mp key val).run P w = .ok () w' ∧ R w') (hK : ∀ w', R w' → wpListIn F nF P ops Q rest (a.put o.dst undef) w') : wpListIn F nF P ops Q (o :: rest) a w := by
  refine wpListIn_plain hg fun K' hK' => ?_
  obtain ⟨w', hrun, hr⟩ := hrun
  unfold Oper.wpIn
  refine ⟨by simp [Oper.about, hop], ?_⟩
  rw [Oper.semAt_plain F _ _ (by rw [hop]; intro c hc'; cases hc')]
  simp [execOp, hop, hm, hx, hv, hrun, Result.andThen]
  exact hK' _ _ (hK w' hr)

theorem wpList_lookup_run (w : World) (hg : o.guard = none) (m x : Operand) (t : TypeId) (ok : Bool) (hop : o.op = Op.lookup t m x ok) (mp key v : Value) (hm : a.eval m = mp) (hx : a.eval x = key)
    (hrun : (Instr.lookup t mp key ok).run P w = .ok v w) (hK : wpList P ops Q rest (a.put o.dst v) w) : wpList P ops Q (o :: rest) a w := by
  refine wpList_plain hg fun K' hK' => ?_
  unfold Oper.wp
  simp [execOp, hop, hm, hx, hrun, Result.andThen]
  exact hK' _ _ hK

theorem wpList_mapUpdate_run (w : World) (hg : o.guard = none) (m x v : Operand) (t : TypeId) (hop : o.op = Op.mapUpdate t m x v) (mp key val : Value) (hm : a.eval m = mp) (hx : a.eval x = key) (hv : a.eval v = val)
    (R : World → Prop) (hrun : ∃ w', (Instr.mapUpdate t mp key val).run P w = .ok () w' ∧ R w') (hK : ∀ w', R w' → wpList P ops Q rest (a.put o.dst undef) w') : wpList P ops Q (o :: rest) a w := by
  refine wpList_plain hg fun K' hK' => ?_
  obtain ⟨w', hrun, hr⟩ := hrun
  unfold Oper.wp
  simp [execOp, hop, hm, hx, hv, hrun, Result.andThen]
  exact hK' _ _ (hK w' hr)

end ops

end Go.Proofs.Ytbcefiefeobmcaa
