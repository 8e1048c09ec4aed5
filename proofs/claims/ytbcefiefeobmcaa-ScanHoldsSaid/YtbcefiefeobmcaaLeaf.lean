/-
  The contracts of package label's tests on a record (within, key, none, shard, groups, Good) and of kistref09's (in, Groups), of scan's of, none.
-/
import Derived.Test.YtbcefiefeobmcaaRows
import Derived.WalkKit
import Derived.WalkSpells
import Derived.WalkLawsBesides
import Derived.Lib.Hide
import Derived.Deep.QuietTactic
import Derived.BigQuiet
namespace Go.Proofs.Ytbcefiefeobmcaa
open Go.RowKit

/-- A record, as the program holds it: the bytes of Data stand behind an address. -/
structure Rec where
  kind : Int
  cart : Int
  key : ByteArray
  gen : Int
  group : Int
  groups : Int
  index : Int
  size : Int
  sum : ByteArray
  da : Option Addr
  dn : Nat
  dc : Nat

def Rec.val (r : Rec) : Value := .agg #[.int .i64 r.kind, .int .i64 r.cart, .string r.key, .int .i64 r.gen, .int .i64 r.group, .int .i64 r.groups, .int .i64 r.index, .int .i64 r.size, .string r.sum, .slice r.da r.dn r.dc]

def withinB (n m : Int) : Bool := decide (0 ≤ n) && decide (n ≤ m)
def keyB (s : ByteArray) : Bool := decide (1 ≤ s.size) && decide (s.size ≤ 16)
def groupsOf (size : Int) : Int := if (size + 127) / 128 < 1 then 1 else (size + 127) / 128
def Rec.noneB (r : Rec) : Bool := decide (r.group = 0) && decide (r.groups = 0) && decide (r.index = 0) && decide (r.size = 0) && r.sum.toList.isEmpty && decide (r.dn = 0)
def Rec.shardB (r : Rec) : Bool := withinB r.size 512 && decide (r.groups = groupsOf r.size) && withinB r.group (r.groups - 1) && withinB r.index 9 && decide (r.sum.size = 32) && decide (r.dn = 16)
def Rec.goodB (r : Rec) : Bool :=
  if r.kind = 1 then withinB r.cart 31 && r.key.toList.isEmpty && decide (r.gen = 0) && r.noneB
  else if r.kind = 3 then decide (r.cart = 0) && keyB r.key && withinB r.gen 1099511627776 && r.noneB
  else if r.kind = 2 then decide (r.cart = 0) && keyB r.key && withinB r.gen 1099511627776 && r.shardB
  else false

/-- Its texts and its list are no longer than what lies in memory; its numbers are ints. -/
structure Rec.fits (r : Rec) : Prop where
  key : r.key.size ≤ 9223372036854775807
  sum : r.sum.size ≤ 9223372036854775807
  dn : r.dn ≤ 9223372036854775807

theorem ret_bool {a b : Bool} (h : a = b) : Ending.returned (.bool a) = .returned (.bool b) := by rw [h]
theorem ret_int {k : IntKind} {a b : Int} (h : a = b) : Ending.returned (.int k a) = .returned (.int k b) := by rw [h]

set_option maxHeartbeats 400000 in
theorem within_any (n m : Int) (w : World) :
    Calls Try.prog 33 #[.int .i64 n, .int .i64 m] w fun e w' => e = .returned (.bool (withinB n m)) ∧ w = w' := by
  go_enter Try.func33, Try.ntmps33
  go_wp2
  all_goals (go_ret; refine ⟨?_, rfl⟩; simp [withinB]; try omega)

set_option maxHeartbeats 400000 in
theorem key_any (s : ByteArray) (w : World) (hs : s.size ≤ 9223372036854775807) :
    Calls Try.prog 35 #[.string s] w fun e w' => e = .returned (.bool (keyB s)) ∧ w = w' := by
  go_enter Try.func35, Try.ntmps35
  go_wp2
  all_goals go_ret
  · refine ⟨?_, rfl⟩
    have h : 1 ≤ s.size := by omega
    have e : (decide ((s.size : Int) ≤ 16)) = decide (s.size ≤ 16) := by simp; omega
    simp [keyB, h, e]
  · refine ⟨?_, rfl⟩
    have h : ¬ 1 ≤ s.size := by omega
    simp [keyB, h]

theorem cast_beq_zero (n : Nat) : ((n : Int) == 0) = decide (n = 0) := by
  by_cases h : n = 0 <;> simp [h]

def noneX (gr grs ix sz : Int) (sum : ByteArray) (dn : Nat) : Bool := decide (gr = 0) && decide (grs = 0) && decide (ix = 0) && decide (sz = 0) && sum.toList.isEmpty && decide (dn = 0)

set_option maxHeartbeats 400000 in
theorem none_any (k c g gr grs ix sz : Int) (key sum : ByteArray) (da : Option Addr) (dn dc : Nat) (_h3 : dn ≤ 9223372036854775807) (w : World) :
    Calls Try.prog 34 #[.agg #[.int .i64 k, .int .i64 c, .string key, .int .i64 g, .int .i64 gr, .int .i64 grs, .int .i64 ix, .int .i64 sz, .string sum, .slice da dn dc]] w fun e w' => e = .returned (.bool (noneX gr grs ix sz sum dn)) ∧ Below w.heap.size w w' := by
  go_enter Try.func34, Try.ntmps34
  go_wp2
  all_goals go_ret
  all_goals refine ⟨ret_bool ?_, (Below.refl _ _).alloc (Nat.le_refl _) _⟩
  all_goals simp [noneX, *]
  exact cast_beq_zero dn

set_option maxHeartbeats 400000 in
theorem groups_any (n : Int) (w : World) (h0 : 0 ≤ n) (h1 : n ≤ 512) :
    Calls Try.prog 50 #[.int .i64 n] w fun e w' => e = .returned (.int .i64 (groupsOf n)) ∧ w = w' := by
  go_enter Try.func50, Try.ntmps50
  go_wp2
  all_goals go_ret
  all_goals refine ⟨ret_int ?_, rfl⟩
  all_goals (unfold groupsOf; split <;> omega)

theorem within_iff {n m : Int} : withinB n m = true ↔ 0 ≤ n ∧ n ≤ m := by simp [withinB]
theorem within_not {n m : Int} : withinB n m = false ↔ ¬ (0 ≤ n ∧ n ≤ m) := by rw [← within_iff]; simp

/-- A callee's contract that says 'the world is as it was', met inside a region that draws its order. -/
theorem quiet_eq {P : Program} {f : FuncId} {args : Array Value} {w : World} {n : Nat} {v : Value}
    (h : Calls P f args (w.drewN n) fun e w' => e = .returned v ∧ w.drewN n = w') : Calls P f args (w.drewN n) fun e w'' => e = .returned v ∧ ∃ m, w'' = w.drewN m :=
  h.mono fun _ _ ⟨he, hm⟩ => ⟨he, n, hm.symm⟩

theorem below_box (w : World) (o : Obj) (n : Nat) : Below w.heap.size w ((w.alloc o).drewN n) :=
  ((Below.refl _ w).alloc (Nat.le_refl _) o).trans ⟨rfl, rfl, rfl, Nat.le_refl _, fun _ _ => rfl⟩

def shardX (gr grs ix sz : Int) (sum : ByteArray) (dn : Nat) : Bool := withinB sz 512 && decide (grs = groupsOf sz) && withinB gr (grs - 1) && withinB ix 9 && decide (sum.size = 32) && decide (dn = 16)

set_option maxHeartbeats 400000 in
theorem shard_any (k c g gr grs ix sz : Int) (key sum : ByteArray) (da : Option Addr) (dn dc : Nat) (_h2 : sum.size ≤ 9223372036854775807) (_h3 : dn ≤ 9223372036854775807) (w : World) :
    Calls Try.prog 36 #[.agg #[.int .i64 k, .int .i64 c, .string key, .int .i64 g, .int .i64 gr, .int .i64 grs, .int .i64 ix, .int .i64 sz, .string sum, .slice da dn dc]] w fun e w' => e = .returned (.bool (shardX gr grs ix sz sum dn)) ∧ Below w.heap.size w w' := by
  by_cases hs : withinB sz 512 = true
  · obtain ⟨s0, s1⟩ := within_iff.1 hs
    by_cases hgs : grs = groupsOf sz
    · subst hgs
      have g0 : 1 ≤ groupsOf sz := by unfold groupsOf; split <;> omega
      have g1 : groupsOf sz ≤ 4 := by unfold groupsOf; split <;> omega
      generalize hG : groupsOf sz = G at *
      have hG' := Lib.hid hG
      clear hG
      have hc : ∀ w, Calls Try.prog 50 #[.int .i64 sz] w fun e w' => e = .returned (.int .i64 G) ∧ w = w' := fun w => by
        rw [← hG'.out]; exact groups_any sz w s0 s1
      have hcH := Lib.hid hc
      clear hc
      go_enter Try.func36, Try.ntmps36
      go_wp2_with fail
      go_quiet ((first | (go_at_call 33; exact quiet_eq (within_any _ _ _)) | (go_at_call 50; exact quiet_eq (hcH.out _))))
      go_wp2
      all_goals go_ret
      all_goals refine ⟨ret_bool ?_, below_box _ _ _⟩
      all_goals (rw [Bool.eq_iff_iff]; simp [shardX, withinB, hG'.out]; try omega)
    · have hne : (grs != groupsOf sz) = true := by simpa using hgs
      go_enter Try.func36, Try.ntmps36
      go_wp2_with fail
      go_quiet ((first | (go_at_call 33; exact quiet_eq (within_any _ _ _)) | (go_at_call 50; exact quiet_eq (groups_any _ _ s0 s1))))
      go_wp2
      go_ret
      exact ⟨ret_bool (by simp [shardX, hgs]), below_box _ _ _⟩
  · have hsB : withinB sz 512 = false := by simpa using hs
    go_enter Try.func36, Try.ntmps36
    go_wp2_with fail
    go_quiet ((first | (go_at_call 33; exact quiet_eq (within_any _ _ _)) | fail))
    go_wp2
    go_ret
    exact ⟨ret_bool (by simp [shardX, hsB]), below_box _ _ _⟩

theorem Rec.noneB_eq (r : Rec) : r.noneB = noneX r.group r.groups r.index r.size r.sum r.dn := rfl
theorem Rec.shardB_eq (r : Rec) : r.shardB = shardX r.group r.groups r.index r.size r.sum r.dn := rfl

theorem below_of_box {w w' : World} (o : Obj) (h : Below (w.alloc o).heap.size (w.alloc o) w') : Below w.heap.size w w' :=
  ((Below.refl _ w).alloc (Nat.le_refl _) o).trans (h.mono (by simp))

set_option maxHeartbeats 800000 in
theorem good_any (r : Rec) (hr : r.fits) (w : World) :
    Calls Try.prog 14 #[r.val] w fun e w' => e = .returned (.bool r.goodB) ∧ Below w.heap.size w w' := by
  obtain ⟨k, c, key, g, gr, grs, ix, sz, sum, da, dn, dc⟩ := r
  obtain ⟨h1, h2, h3⟩ := hr
  unfold Rec.val Rec.goodB
  simp only [Rec.noneB_eq, Rec.shardB_eq]
  dsimp only at *
  by_cases k1 : k = 1
  · subst k1
    go_enter Try.func14, Try.ntmps14
    go_wp2_with (first | (go_at_call 33; refine (within_any _ _ _).mono ?_; rintro e w' ⟨rfl, rfl⟩) | (go_at_call 34; refine (none_any _ _ _ _ _ _ _ _ _ _ _ _ h3 _).mono ?_; rintro e w' ⟨rfl, hb⟩))
    all_goals go_ret
    · exact ⟨ret_bool rfl, below_of_box _ ‹_›⟩
    · exact ⟨ret_bool rfl, (Below.refl _ _).alloc (Nat.le_refl _) _⟩
    · exact ⟨ret_bool (by simp [*]), (Below.refl _ _).alloc (Nat.le_refl _) _⟩
    · exact ⟨ret_bool rfl, (Below.refl _ _).alloc (Nat.le_refl _) _⟩
  · have hk1 : (k == 1) = false := by simpa using k1
    have m1 : -9223372036854775808 ≤ (1099511627776 : Int) := by decide
    by_cases k3 : k = 3
    · subst k3
      go_enter Try.func14, Try.ntmps14
      go_wp2_with (first | (go_at_call 33; refine (within_any _ _ _).mono ?_; rintro e w' ⟨rfl, rfl⟩) | (go_at_call 35; refine (key_any _ _ h1).mono ?_; rintro e w' ⟨rfl, rfl⟩) | (go_at_call 34; refine (none_any _ _ _ _ _ _ _ _ _ _ _ _ h3 _).mono ?_; rintro e w' ⟨rfl, hb⟩))
      all_goals go_ret
      · exact ⟨ret_bool rfl, below_of_box _ ‹_›⟩
      all_goals exact ⟨ret_bool rfl, (Below.refl _ _).alloc (Nat.le_refl _) _⟩
    · have hk3 : (k == 3) = false := by simpa using k3
      by_cases k2 : k = 2
      · subst k2
        go_enter Try.func14, Try.ntmps14
        go_wp2_with (first | (go_at_call 33; refine (within_any _ _ _).mono ?_; rintro e w' ⟨rfl, rfl⟩) | (go_at_call 35; refine (key_any _ _ h1).mono ?_; rintro e w' ⟨rfl, rfl⟩) | (go_at_call 36; refine (shard_any _ _ _ _ _ _ _ _ _ _ _ _ h2 h3 _).mono ?_; rintro e w' ⟨rfl, hb⟩))
        all_goals go_ret
        · exact ⟨ret_bool rfl, below_of_box _ ‹_›⟩
        all_goals exact ⟨ret_bool rfl, (Below.refl _ _).alloc (Nat.le_refl _) _⟩
      · have hk2 : (k == 2) = false := by simpa using k2
        go_enter Try.func14, Try.ntmps14
        go_wp2_with fail
        go_ret
        exact ⟨ret_bool rfl, (Below.refl _ _).alloc (Nat.le_refl _) _⟩

def cmpI (x y : Int) : Int := if x < y then -1 else if y < x then 1 else 0

set_option maxHeartbeats 400000 in
theorem cmpInt_any (x y : Int) (w : World) :
    Calls Try.prog 45 #[.int .i64 x, .int .i64 y] w fun e w' => e = .returned (.int .i64 (cmpI x y)) ∧ w = w' := by
  by_cases h1 : x < y
  · go_enter Try.func45, Try.ntmps45
    go_wp2
    go_ret
    exact ⟨ret_int (by simp [cmpI, h1]), rfl⟩
  · by_cases h2 : y < x
    · go_enter Try.func45, Try.ntmps45
      go_wp2
      go_ret
      exact ⟨ret_int (by rw [cmpI, if_neg (by omega), if_pos h2]), rfl⟩
    · go_enter Try.func45, Try.ntmps45
      go_wp2
      go_ret
      exact ⟨ret_int (by rw [cmpI, if_neg (by omega), if_neg (by omega)]), rfl⟩

def cmpS (x y : ByteArray) : Int := if Op.bytesLess x.toList y.toList then -1 else if (!x.toList == y.toList) then 1 else 0

set_option maxHeartbeats 400000 in
theorem cmpStr_any (x y : ByteArray) (w : World) :
    Calls Try.prog 24 #[.string x, .string y] w fun e w' => e = .returned (.int .i64 (cmpS x y)) ∧ w = w' := by
  cases h1 : Op.bytesLess x.toList y.toList
  · cases h2 : (!x.toList == y.toList)
    · go_enter Try.func24, Try.ntmps24
      go_wp2
      go_ret
      exact ⟨ret_int (by rw [cmpS, h1, h2]; rfl), rfl⟩
    · go_enter Try.func24, Try.ntmps24
      go_wp2
      go_ret
      exact ⟨ret_int (by rw [cmpS, h1, h2]; rfl), rfl⟩
  · go_enter Try.func24, Try.ntmps24
    go_wp2
    go_ret
    exact ⟨ret_int (by rw [cmpS, h1]; rfl), rfl⟩

set_option maxHeartbeats 400000 in
theorem of_any (k c g gr grs ix sz : Int) (key sum : ByteArray) (da : Option Addr) (dn dc : Nat) (w : World) :
    Calls Try.prog 40 #[.agg #[.int .i64 k, .int .i64 c, .string key, .int .i64 g, .int .i64 gr, .int .i64 grs, .int .i64 ix, .int .i64 sz, .string sum, .slice da dn dc]] w fun e w' => e = .returned (.agg #[.string key, .int .i64 g, .int .i64 grs, .int .i64 sz, .string sum]) ∧ Below w.heap.size w w' := by
  go_enter Try.func40, Try.ntmps40
  go_wp2
  refine bodyPost_ret (v := .agg #[.string key, .int .i64 g, .int .i64 grs, .int .i64 sz, .string sum]) (by simp [results, Try.results40, go_sem]) rfl ⟨rfl, ?_⟩
  exact ((Below.refl _ _).alloc (Nat.le_refl _) _).alloc (by simp) _

set_option maxHeartbeats 400000 in
theorem nowhere_any (w : World) :
    Calls Try.prog 42 #[] w fun e w' => e = .returned (.agg #[.int .i64 0, .int .i64 1024]) ∧ Below w.heap.size w w' := by
  go_enter Try.func42, Try.ntmps42
  go_wp2
  refine bodyPost_ret (v := .agg #[.int .i64 0, .int .i64 1024]) (by simp [results, Try.results42, go_sem]) rfl ⟨rfl, ?_⟩
  exact ((Below.refl _ _).alloc (Nat.le_refl _) _)

end Go.Proofs.Ytbcefiefeobmcaa
