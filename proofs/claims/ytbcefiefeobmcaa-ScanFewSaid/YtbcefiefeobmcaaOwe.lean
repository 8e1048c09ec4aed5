/-
  Lists of entries that a call owns; parts of lists of records as slices.
-/
import Derived.Test.YtbcefiefeobmcaaMor
namespace Go.Proofs.Ytbcefiefeobmcaa
open Go.RowKit Go.Shelf Go.Maps Go.WideElems

/-- A list of entries that the call owns. -/
def OwnE (base : Nat) (W : World) (v : Value) (es : List Pr) : Prop := W.ownsRow base 32 5 v es.length (es.flatMap entCells)
def zero32 : Value := .agg #[.string { data := #[] }, .int .i64 0, .int .i64 0, .string { data := #[] }, .slice none 0 0]
theorem info32 : (Try.prog.info? 32).map (fun i => (i.zero, i.size, i.bytes)) = some (some zero32, 5, 72) := by kernel_rfl

theorem OwnE.below {base : Nat} {A B : World} {v : Value} {zs : List Pr} (h : OwnE base A v zs) (hb : Below A.heap.size A B) : OwnE base B v zs := World.ownsRow.kept h (grown_none hb) (by cases hv : v.ownBlock <;> simp)
theorem own_emptyE (W : World) : OwnE W.heap.size (W.alloc (.cells #[] 32)) (.slice (some ⟨W.heap.size, 0, none⟩) 0 0) [] := World.ownsRow_made W #[] 0 (Nat.le_refl _) (by unfold maxLen; omega) (by simp)

theorem append_ent {base : Nat} {w : World} {v : Value} {es : List Pr} {p : Pr} (hown : OwnE base w v es) (hv : v ≠ .slice none 0 0) (b : Nat)
    (hc : ∀ j u, (entCells p)[j]? = some u → w.cell? ((⟨b, 0, none⟩ : Addr).add j) = some u) (hlen : es.length ≤ 1000000) (hbase : base ≤ w.heap.size) (ty : TypeId) :
    ∃ v' w', (Builtin.append_ #[24, 24] ty #[v, .slice (some ⟨b, 0, none⟩) 1 1]).run Try.prog w = .ok v' w' ∧ (OwnE base w' v' (es ++ [p]) ∧ v' ≠ .slice none 0 0 ∧ w.grownBy w' v.ownBlock) := by
  obtain ⟨i0, hi0, hz0, hz1, hz2⟩ := info_parts info32
  obtain ⟨v', w', hr, h1, h2, h3⟩ := run_append_own (P := Try.prog) w base 24 ty 32 i0 zero32 5 72 Try.underlying24 hi0 hz0 hz1 hz2 rfl (by decide) v es.length (es.flatMap entCells) hown ⟨b, 0, none⟩ 1 1 (entCells p) rfl hc
    (ent_one p) (by unfold maxLen; omega) (by omega) hbase
  refine ⟨v', w', hr, ?_, fun e => hv (h3.1 e).1, h2⟩
  unfold OwnE
  rw [List.length_append, List.flatMap_append]
  simpa using h1

/-- The five cells of an entry, in a block of their own. -/
theorem ent_new (W : World) (p : Pr) (t : TypeId) : ∀ j u, (entCells p)[j]? = some u → (W.alloc (.cells #[.string p.1, .int .i64 p.2.1.2.1, .int .i64 p.2.1.2.2.2.1, .string p.2.1.2.2.2.2, sliceVal p.2.2] t)).cell? ((⟨W.heap.size, 0, none⟩ : Addr).add j) = some u := by
  intro j u hu
  have hj : j < 5 := by
    rcases Nat.lt_or_ge j 5 with h | h
    · exact h
    · rw [List.getElem?_eq_none (show (entCells p).length ≤ j from h)] at hu; cases hu
  have : j = 0 ∨ j = 1 ∨ j = 2 ∨ j = 3 ∨ j = 4 := by omega
  rcases this with rfl | rfl | rfl | rfl | rfl <;> simp [entCells] at hu <;> subst hu <;> simp [go_sem, Addr.add]

theorem OwnE.entsIn {base : Nat} {W : World} {v : Value} {es : List Pr} (h : OwnE base W v es) (hr : ∀ p ∈ es, PRow W p.2.2.1 p.2.2.2) (hl : ∀ p ∈ es, p.2.2.2.length ≤ 40) : EntsIn W v (es.map ent5) := by
  rcases h.2 with ⟨rfl, hn⟩ | ⟨g, cap, cur, rfl, hb, hg, hle, hcm, hcs, htake⟩
  · exact .inl ⟨by rw [List.eq_nil_of_length_eq_zero hn]; rfl, none, 0, rfl⟩
  · refine .inr ⟨g, cap, by rw [List.length_map], (Array.getElem?_eq_some_iff.1 hg).1, fun i hi => ?_⟩
    have hi' : i < es.length := by simpa using hi
    have hx := entAt_holds (holds_row hg htake) i (by simpa using hi')
    simp only [List.getElem_toArray] at hx
    have hm := List.getElem_mem hi'
    have hrw := hr _ hm
    rw [List.getElem_map]
    exact ⟨es[i].2.2.1, es[i].2.2.2.length, ⟨hx.c0, hx.c1, hx.c2, hx.c3, hx.c4⟩, hrw.lt, by have := hl _ hm; show (es[i].2.2.2).length ≤ 1000; omega, hrw.places⟩

/-- s[:k] and s[k:] of a list of records. -/
theorem Founds.upto {n₀ : Nat} {W : World} {a : Option Addr} {cap : Nat} {zs : List Fnd} (h : Founds n₀ W (.slice a zs.length cap) zs) (k c : Nat) (hk : k ≤ zs.length) : Founds n₀ W (.slice a k c) (zs.take k) := by
  rcases h with ⟨a', cap', e, rfl⟩ | ⟨b', off', cap', e, hb, h⟩
  · obtain rfl : k = 0 := by simpa using hk
    exact .inl ⟨_, c, rfl, rfl⟩
  · simp only [Value.slice.injEq] at e
    obtain ⟨rfl, _, rfl⟩ := e
    exact Founds.take (.inr ⟨b', off', cap, rfl, hb, h⟩) k c hk
theorem Founds.fromK {n₀ : Nat} {W : World} {a : Option Addr} {cap : Nat} {zs : List Fnd} (h : Founds n₀ W (.slice a zs.length cap) zs) (k : Nat) (hk : k ≤ zs.length) (hc : zs.length ≤ cap) : Founds n₀ W (sliced a k zs.length cap 12) (zs.drop k) := by
  unfold sliced
  by_cases hkl : k = zs.length
  · rw [List.drop_eq_nil_of_le (by omega), hkl]
    exact .inl ⟨_, _, by rw [Nat.sub_self], rfl⟩
  · rw [if_neg (by omega)]
    rcases h with ⟨a', cap', e, rfl⟩ | ⟨b', off', cap', e, hb, h⟩
    · simp at hk hkl; omega
    · simp only [Value.slice.injEq] at e
      obtain ⟨rfl, _, rfl⟩ := e
      have := Founds.drop (.inr ⟨b', off', cap, rfl, hb, h⟩) k (cap - k) hk
      have hadd : (⟨b', off', none⟩ : Addr).add (k * 12) = ⟨b', off' + k * 12, none⟩ := by unfold Addr.add; split <;> simp_all
      rw [Option.map_some, hadd]
      exact this

theorem filter_cpy {es : List Pr} (hk : ∀ p ∈ es, p.2.1.1 = p.1) (key : ByteArray) : (es.map (fun p => cpy p.2)).filter (fun c => decide (c.1.1 ≠ key)) = (es.filter (fun p => decide (p.1 ≠ key))).map (fun p => cpy p.2) := by
  rw [List.filter_map]
  congr 1
  refine List.filter_congr fun p hp => ?_
  show decide (p.2.1.1 ≠ key) = _
  rw [hk p hp]

end Go.Proofs.Ytbcefiefeobmcaa
