/-
  scan's Best: what its two loops keep, plain; its iteration over the copies, typed.
-/
import Derived.Test.YtbcefiefeobmcaaOrd
namespace Go.Proofs.Ytbcefiefeobmcaa
open Go.RowKit Go.Shelf Go.Maps Go.WideElems

/-- A copy where it lies: its blob, its row's block, its places. -/
abbrev Cho := Blob × (Nat × List (Int × Int))
def cpy (c : Cho) : Cpy := (c.1, c.2.2)
def deadO (o : Option Int) (gen : Int) : Bool := match o with
  | some t => decide (gen ≤ t)
  | none => false
def deadT (T : List (ByteArray × Int)) (key : ByteArray) (gen : Int) : Bool := deadO (getL T key) gen
def elig (T : List (ByteArray × Int)) (c : Cpy) : Bool := decide (8 ≤ poorestOf c.2) && !deadT T c.1.1 c.1.2.1
def choVal (c : Cho) : Value := .agg #[.string c.1.1, .int .i64 c.1.2.1, .int .i64 c.1.2.2.1, .int .i64 c.1.2.2.2.1, .string c.1.2.2.2.2, sliceVal c.2, .int .i64 (poorestOf c.2.2)]

structure BestI (T : List (ByteArray × Int)) (done : List Cho) (B : List (ByteArray × Cho)) : Prop where
  has : ∀ p ∈ B, p.2 ∈ done ∧ elig T (cpy p.2) = true ∧ p.2.1.1 = p.1 ∧ ∀ q ∈ done, elig T (cpy q) = true → q.1.1 = p.1 → q = p.2 ∨ beats (cpy p.2) (cpy q) = true
  all : ∀ q ∈ done, elig T (cpy q) = true → ∃ p ∈ B, p.1 = q.1.1
  len : B.length ≤ done.length

theorem putL_length {α β : Type} [DecidableEq α] : ∀ (ms : List (α × β)) (k : α) (v : β), (putL ms k v).length ≤ ms.length + 1
  | [], _, _ => by simp [putL]
  | (a, x) :: r, k, v => by
    simp only [putL]
    split
    · simp
    · have := putL_length r k v
      simp
      omega

section
variable {T : List (ByteArray × Int)} {done : List Cho} {B : List (ByteArray × Cho)} {c : Cho}

theorem BestI.nil : BestI T [] [] := ⟨by simp, by simp, by simp⟩

theorem BestI.poor (h : BestI T done B) (hc : elig T (cpy c) = false) : BestI T (done ++ [c]) B where
  has := fun p hp => by
    obtain ⟨h1, h2, h3, h4⟩ := h.has p hp
    refine ⟨List.mem_append_left _ h1, h2, h3, fun q hq he hk => ?_⟩
    rcases List.mem_append.1 hq with hq | hq
    · exact h4 q hq he hk
    · obtain rfl : q = c := by simpa using hq
      rw [hc] at he; cases he
  len := by have := h.len; simp; omega
  all := fun q hq he => by
    rcases List.mem_append.1 hq with hq | hq
    · exact h.all q hq he
    · obtain rfl : q = c := by simpa using hq
      rw [hc] at he; cases he

theorem mem_putL_of {α β : Type} [DecidableEq α] : ∀ {ms : List (α × β)} {k : α} {v : β}, (k, v) ∈ putL ms k v
  | [], _, _ => by simp [putL]
  | (a, x) :: r, k, v => by
    simp only [putL]
    split
    · rename_i h; subst h; simp
    · exact List.mem_cons_of_mem _ mem_putL_of
theorem mem_putL_other {α β : Type} [DecidableEq α] : ∀ {ms : List (α × β)} {k : α} {v : β} {p : α × β}, p ∈ ms → p.1 ≠ k → p ∈ putL ms k v
  | (a, x) :: r, k, v, p, hp, hne => by
    simp only [putL]
    rcases List.mem_cons.1 hp with hp | hp
    · subst hp
      rw [if_neg hne]
      simp
    · split
      · exact List.mem_cons_of_mem _ hp
      · exact List.mem_cons_of_mem _ (mem_putL_other hp hne)

theorem BestI.first (h : BestI T done B) (hc : elig T (cpy c) = true) (hn : getL B c.1.1 = none) : BestI T (done ++ [c]) (putL B c.1.1 c) where
  has := fun p hp => by
    have hno := getL_none.1 hn
    rcases mem_putL hp with rfl | hp2
    · refine ⟨by simp, hc, rfl, fun q hq he hk => ?_⟩
      rcases List.mem_append.1 hq with hq | hq
      · obtain ⟨p, hp, e⟩ := h.all q hq he
        exact absurd (e.trans hk) (hno p hp)
      · obtain rfl : q = c := by simpa using hq
        exact .inl rfl
    · obtain ⟨h1, h2, h3, h4⟩ := h.has p hp2
      refine ⟨List.mem_append_left _ h1, h2, h3, fun q hq he hk => ?_⟩
      rcases List.mem_append.1 hq with hq | hq
      · exact h4 q hq he hk
      · obtain rfl : q = c := by simpa using hq
        exact absurd hk.symm (hno p hp2)
  len := by have := h.len; have := putL_length B c.1.1 c; simp; omega
  all := fun q hq he => by
    rcases List.mem_append.1 hq with hq | hq
    · obtain ⟨p, hp, e⟩ := h.all q hq he
      exact ⟨p, mem_putL_other hp (getL_none.1 hn p hp), e⟩
    · obtain rfl : q = c := by simpa using hq
      exact ⟨_, mem_putL_of, rfl⟩

theorem BestI.won (h : BestI T done B) (hd : (B.map (·.1)).Pairwise (· ≠ ·)) (hc : elig T (cpy c) = true) {was : Cho} (hn : getL B c.1.1 = some was) (hb : beats (cpy c) (cpy was) = true) : BestI T (done ++ [c]) (putL B c.1.1 c) where
  has := fun p hp => by
    have hw := h.has _ (getL_some hn)
    rcases mem_putL' hd hn hp with rfl | ⟨hp, hne⟩
    · refine ⟨by simp, hc, rfl, fun q hq he hk => ?_⟩
      rcases List.mem_append.1 hq with hq | hq
      · rcases hw.2.2.2 q hq he hk with rfl | hbq
        · exact .inr hb
        · exact .inr (beats_trans hb hbq)
      · obtain rfl : q = c := by simpa using hq
        exact .inl rfl
    · obtain ⟨h1, h2, h3, h4⟩ := h.has p hp
      refine ⟨List.mem_append_left _ h1, h2, h3, fun q hq he hk => ?_⟩
      rcases List.mem_append.1 hq with hq | hq
      · exact h4 q hq he hk
      · obtain rfl : q = c := by simpa using hq
        exact absurd hk.symm hne
  len := by have := h.len; have := putL_length B c.1.1 c; simp; omega
  all := fun q hq he => by
    rcases List.mem_append.1 hq with hq | hq
    · obtain ⟨p, hp, e⟩ := h.all q hq he
      by_cases hk : p.1 = c.1.1
      · exact ⟨_, mem_putL_of, by rw [← e, hk]⟩
      · exact ⟨p, mem_putL_other hp hk, e⟩
    · obtain rfl : q = c := by simpa using hq
      exact ⟨_, mem_putL_of, rfl⟩

theorem BestI.lost (h : BestI T done B) (hd : (B.map (·.1)).Pairwise (· ≠ ·)) {was : Cho} (hn : getL B c.1.1 = some was) (hb : beats (cpy c) (cpy was) = false)
    (hg : ∀ q ∈ done, q.1.2.2.1 = groupsOf q.1.2.2.2.1) (hgc : c.1.2.2.1 = groupsOf c.1.2.2.2.1) (hnew : ∀ q ∈ done, q.1 ≠ c.1) : BestI T (done ++ [c]) B where
  has := fun p hp => by
    obtain ⟨h1, h2, h3, h4⟩ := h.has p hp
    refine ⟨List.mem_append_left _ h1, h2, h3, fun q hq he hk => ?_⟩
    rcases List.mem_append.1 hq with hq | hq
    · exact h4 q hq he hk
    · obtain rfl : q = c := by simpa using hq
      have hpw : p = (q.1.1, was) := pair_same (·.1) hd hp (getL_some hn) hk.symm
      subst hpw
      right
      cases hbw : beats (cpy was) (cpy q) with
      | true => rfl
      | false =>
        have := beats_tri (a := cpy q) (b := cpy was) (by show q.1.1 = was.1.1; rw [h3]) hgc (hg _ h1) hb hbw
        exact absurd this.symm (hnew _ h1)
  len := by have := h.len; simp; omega
  all := fun q hq he => by
    rcases List.mem_append.1 hq with hq | hq
    · exact h.all q hq he
    · obtain rfl : q = c := by simpa using hq
      exact ⟨_, getL_some hn, rfl⟩
end

/-! ### iteration, typed -/
section
variable {α β : Type} [DecidableEq α] [DecidableEq β] {P : Program} {k : TypeId} {b r : Nat} {mk : α → Value} {mv : β → Value} {ms rest : List (α × β)} {w : World} {m : List (Value × Value)}

/-- How many are still to come. -/
def leftN (b r : Nat) (w : World) : Nat := match w.heap[r]?, w.heap[b]? with
  | some (.mapIter _ _ seen _), some (.map es _) => (leftOf es seen).toList.length
  | _, _ => 0
theorem iterIs.leftN {rest : List (Value × Value)} (h : iterIs w P k b r m rest) : leftN b r w = rest.length := by
  obtain ⟨es, clock, since, seen, c0, hb, _, _, _, hr, _, _, _, hp⟩ := h
  simp only [Ytbcefiefeobmcaa.leftN, hb, hr]
  rw [← hp.length_eq]
  simp

theorem iterIs.nextT (h : iterIs w P k b r m (encM mk mv rest)) (ty : TypeId) :
    (rest = [] ∧ (Instr.next (.pointer (some ⟨r, 0, none⟩)) false ty).run P w = .ok (.tuple #[.bool false]) w) ∨
    ∃ (p : α × β) (rest' : List (α × β)) (w' : World), rest.Perm (p :: rest') ∧ (Instr.next (.pointer (some ⟨r, 0, none⟩)) false ty).run P w = .ok (.tuple #[.bool true, mk p.1, mv p.2]) w' ∧
      iterIs w' P k b r m (encM mk mv rest') ∧ w.grownBy w' (some r) ∧ w'.heap.size = w.heap.size ∧ (Instr.entry (.pointer (some ⟨r, 0, none⟩))).run P w' = .ok (.tuple #[mk p.1, mv p.2]) w' := by
  rcases h.next ty with ⟨h0, hrun⟩ | ⟨q, rest', w', hp, hrun, hi, hg, hs, he⟩
  · left
    refine ⟨?_, hrun⟩
    cases rest with
    | nil => rfl
    | cons a l => simp [encM] at h0
  · right
    have hq : q ∈ encM mk mv rest := hp.mem_iff.2 (by simp)
    obtain ⟨p, hpm, rfl⟩ := List.mem_map.1 hq
    have h1 : rest.Perm (p :: rest.erase p) := List.perm_cons_erase hpm
    have h2 : (encM mk mv rest).Perm ((mk p.1, mv p.2) :: encM mk mv (rest.erase p)) := by
      have := h1.map (fun p : α × β => (mk p.1, mv p.2))
      simpa [encM] using this
    exact ⟨p, rest.erase p, w', h1, hrun, hi.perm ((List.perm_cons _).1 (hp.symm.trans h2)), hg, hs, he⟩
end

end Go.Proofs.Ytbcefiefeobmcaa
