/-
  The laws' own copyOf.
-/
import Derived.Test.YtbcefiefeobmcaaDig
namespace Go.Proofs.Ytbcefiefeobmcaa
open Go.RowKit Go.Shelf Go.Maps Go.WideElems

theorem wide_fn8 (f : FuncId) : Fence.wide.fn f = True := rfl
attribute [local go_sem] Oper.semAt_some wide_fn8

/-- The twelve cells of an element of a list. -/
def fndCells (f : Fnd) : List Value := [.int .i64 f.ac, .int .i64 f.ap, .int .i64 f.r.kind, .int .i64 f.r.cart, .string f.r.key, .int .i64 f.r.gen, .int .i64 f.r.group, .int .i64 f.r.groups, .int .i64 f.r.index, .int .i64 f.r.size, .string f.r.sum, .slice f.r.da f.r.dn f.r.dc]
theorem fnd_one (f : Fnd) : ∀ v ∈ fndCells f, v.oneCell' = true := by
  intro v hv
  simp [fndCells] at hv
  rcases hv with rfl | rfl | rfl | rfl | rfl | rfl | rfl | rfl | rfl | rfl | rfl | rfl <;> rfl
/-- .. but for where its bytes stand. -/
def core (f : Fnd) : Fnd := ⟨f.ac, f.ap, ⟨f.r.kind, f.r.cart, f.r.key, f.r.gen, f.r.group, f.r.groups, f.r.index, f.r.size, f.r.sum, none, f.r.dn, 0⟩⟩

/-- A shard as copyOf makes it. -/
def shardF (key : ByteArray) (gen n size frm : Int) (g i : Nat) : Fnd := ⟨i, frm + g, ⟨2, 0, key, gen, g, n, i, size, digB size, none, 16, 0⟩⟩
def groupF (key : ByteArray) (gen n size frm : Int) (g k : Nat) : List Fnd := (List.range k).map (shardF key gen n size frm g)
def copyTo (key : ByteArray) (gen n size frm : Int) (k : Nat) : List Fnd := (List.range k).flatMap fun g => groupF key gen n size frm g 10
def copyL (key : ByteArray) (gen size frm : Int) : List Fnd := copyTo key gen (groupsOf size) size frm (groupsOf size).toNat
theorem groupF_succ (key : ByteArray) (gen n size frm : Int) (g k : Nat) : groupF key gen n size frm g (k + 1) = groupF key gen n size frm g k ++ [shardF key gen n size frm g k] := by simp [groupF, List.range_succ]
theorem copyTo_succ (key : ByteArray) (gen n size frm : Int) (k : Nat) : copyTo key gen n size frm (k + 1) = copyTo key gen n size frm k ++ groupF key gen n size frm k 10 := by simp [copyTo, List.range_succ]
theorem groupF_length (key : ByteArray) (gen n size frm : Int) (g k : Nat) : (groupF key gen n size frm g k).length = k := by simp [groupF]
theorem copyTo_length (key : ByteArray) (gen n size frm : Int) : ∀ k, (copyTo key gen n size frm k).length = k * 10
  | 0 => rfl
  | k + 1 => by rw [copyTo_succ, List.length_append, copyTo_length key gen n size frm k, groupF_length]; omega

/-- A list of records that the call owns. -/
def OwnF (base : Nat) (W : World) (v : Value) (zs : List Fnd) : Prop := W.ownsRow base 39 12 v zs.length (zs.flatMap fndCells)

def zero39 : Value := .agg #[.int .i64 0, .int .i64 0, .int .i64 0, .int .i64 0, .string { data := #[] }, .int .i64 0, .int .i64 0, .int .i64 0, .int .i64 0, .int .i64 0, .string { data := #[] }, .slice none 0 0]
theorem info39 : (Try.prog.info? 39).map (fun i => (i.zero, i.size, i.bytes)) = some (some zero39, 12, 128) := by kernel_rfl

theorem carry {A B : World} {b n : Nat} {t : TypeId} (h : ∃ cs : Array Value, cs.size = n ∧ A.heap[b]? = some (.cells cs t (0, 0))) (hb : Below A.heap.size A B) : ∃ cs : Array Value, cs.size = n ∧ B.heap[b]? = some (.cells cs t (0, 0)) := by
  obtain ⟨cs, hs, hh⟩ := h
  exact ⟨cs, hs, (hb.block b (Array.getElem?_eq_some_iff.1 hh).1).trans hh⟩

/-- The ten cells of a shard. -/
structure ShAt (W : World) (B : Nat) (key : ByteArray) (gen k ng j size : Int) (b : Nat) : Prop where
  c0 : W.cell? ⟨B, 0, none⟩ = some (.int .i64 2)
  c1 : W.cell? ⟨B, 1, none⟩ = some (.int .i64 0)
  c2 : W.cell? ⟨B, 2, none⟩ = some (.string key)
  c3 : W.cell? ⟨B, 3, none⟩ = some (.int .i64 gen)
  c4 : W.cell? ⟨B, 4, none⟩ = some (.int .i64 k)
  c5 : W.cell? ⟨B, 5, none⟩ = some (.int .i64 ng)
  c6 : W.cell? ⟨B, 6, none⟩ = some (.int .i64 j)
  c7 : W.cell? ⟨B, 7, none⟩ = some (.int .i64 size)
  c8 : W.cell? ⟨B, 8, none⟩ = some (.string (digB size))
  c9 : W.cell? ⟨B, 9, none⟩ = some (.slice (some ⟨b, 0, none⟩) 16 16)

set_option maxRecDepth 100000 in
set_option maxHeartbeats 4000000 in
theorem copyOf_in (n : Nat) (key : ByteArray) (gen size frm : Int) (h0 : 0 ≤ size) (h1 : size ≤ 512) (hf0 : 0 ≤ frm) (hf1 : frm ≤ 1000) (w : World) :
    CallsIn Fence.wide n Try.prog 17 #[.string key, .int .i64 gen, .int .i64 size, .int .i64 frm] w fun e W' => ∃ v zs, e = .returned v ∧ OwnF w.heap.size W' v zs ∧ zs.map core = copyL key gen size frm ∧ Below w.heap.size w W' := by
  refine callsIn_of_wp Try.func17 rfl trivial ?_ rfl
  simp only [Try.ntmps17, List.size_toArray, List.length_cons, List.length_nil, Nat.reduceAdd, Nat.reduceSub, Array.replicate_succ, Array.replicate_zero, List.push_toArray, List.append_toArray, List.nil_append, List.cons_append]
  obtain ⟨i0, hi0, hz0, hz1, hz2⟩ := info_parts info39
  obtain ⟨ng, hng⟩ : ∃ ng : Nat, groupsOf size = ng := ⟨(groupsOf size).toNat, by have : 1 ≤ groupsOf size := by { unfold groupsOf; split <;> omega }; omega⟩
  have hng4 : ng ≤ 4 := by have : groupsOf size ≤ 4 := by { unfold groupsOf; split <;> omega }; omega
  have hz5 : (Try.prog.info? 5).map (fun i => (i.zero, i.size, i.bytes)) = some (some (.int .u8 0), 1, 1) := by kernel_rfl
  obtain ⟨j0, hj0, hjz0, hjz1, hjz2⟩ := info_parts hz5
  have hmk : ∀ W, (Instr.makeSlice 35 (.int .i64 16) (.int .i64 16)).run Try.prog W = .ok (.slice (some ⟨W.heap.size, 0, none⟩) 16 16) (W.alloc (.cells (madeCells #[.int .u8 0] 16) 5)) := fun W => by
    have h := run_make (P := Try.prog) W 35 5 j0 _ Try.underlying35 hj0 hjz0 .i64 .i64 16 16 (by omega) (by omega) (by rw [hjz2]; omega) (by omega)
    rw [hjz1] at h
    exact h
  generalize madeCells #[.int .u8 0] 16 = z16 at hmk
  gi_wp2_with fail
  refine ⟨fun h => (by cases h), (callsIn_wide.2 (groups09_any _ h0 h1 _)).mono ?_⟩
  rintro e w' ⟨rfl, rfl⟩
  have hbL : copyL key gen size frm = copyTo key gen ng size frm ng := by unfold copyL; rw [hng, Int.toNat_natCast]
  have hb0 : Below w.heap.size w (w.alloc (.cells #[] 39)) := (Below.refl _ w).alloc (Nat.le_refl _) _
  have hown0 : OwnF w.heap.size (w.alloc (.cells #[] 39)) (.slice (some ⟨w.heap.size, 0, none⟩) 0 0) [] := World.ownsRow_made w #[] 0 (Nat.le_refl _) (by unfold maxLen; omega) (by simp)
  have HbL := Lib.hid hbL
  clear hbL
  rw [hng]
  gi_wp2_with fail
  gi_loopw [9, 11] (fun v i wr => ∃ (zs : List Fnd) (k : Nat), k ≤ ng ∧ i = .int .i64 k ∧ OwnF w.heap.size wr v zs ∧ zs.map core = copyTo key gen ng size frm k ∧ Below w.heap.size w wr) (fun _ i _ => ng - (intOf i).toNat)
  case atStart => exact ⟨[], 0, Nat.zero_le _, rfl, hown0, rfl, hb0⟩
  case round =>
    obtain ⟨zs, k, hk, rfl, hown, hzs, hB⟩ := hrel
    have Hown := Lib.hid hown
    have Hzs := Lib.hid hzs
    clear hown hzs
    by_cases hlt : k < ng
    · have hkw : IntKind.i64.wrap ((k : Int) + 1) = k + 1 := IntWalk.i64_in _ (by omega)
      have hfw : IntKind.i64.wrap (frm + k) = frm + k := IntWalk.i64_in _ (by omega)
      gi_wp2_with fail
      gi_loopw [9, 12] (fun v i wr2 => ∃ (zs2 : List Fnd) (j : Nat), j ≤ 10 ∧ i = .int .i64 j ∧ OwnF w.heap.size wr2 v zs2 ∧ zs2.map core = copyTo key gen ng size frm k ++ groupF key gen ng size frm k j ∧ Below w.heap.size w wr2) (fun _ i _ => 10 - (intOf i).toNat)
      case atStart => exact ⟨zs, 0, Nat.zero_le _, rfl, Hown.out, by rw [Hzs.out]; simp [groupF], hB⟩
      case round =>
        obtain ⟨zs2, j, hj, rfl, hown2, hzs2, hB2⟩ := hrel
        have Hown2 := Lib.hid hown2
        have Hzs2 := Lib.hid hzs2
        have hlen2 : zs2.length = k * 10 + j := by
          have := congrArg List.length hzs2
          rw [List.length_map, List.length_append, copyTo_length, groupF_length] at this
          exact this
        have Hlen2 := Lib.hid hlen2
        clear hown2 hzs2 hlen2
        by_cases hj10 : j < 10
        · have hjI : (j : Int) < 10 := by omega
          have hjw : IntKind.i64.wrap ((j : Int) + 1) = j + 1 := IntWalk.i64_in _ (by omega)
          gi_wp2_with fail
          obtain ⟨wx, rfl⟩ : ∃ x, x = wr := ⟨_, rfl⟩
          gi_cut [13] from 101 (fun v13 wd => ∃ Bx b, v13 = Value.pointer (some ⟨Bx, 0, none⟩) ∧ Below wx.heap.size wx wd ∧ ShAt wd Bx key gen k ng j size b)
          case first J K' hJ hK' =>
            have hbd : Below wx.heap.size wx wx.drew := (Below.refl _ wx).drew
            refine wpIn_region_held (S := fun w' => Below wx.heap.size wx w') (by kernel_rfl) ?_
            refine wpAnyInH_take (i := 0) (v := .string key) (by kernel_rfl) rfl (by kernel_rfl) (by kernel_rfl) (by kernel_rfl) (fun _ _ _ h => h) ⟨.inl ⟨rfl, fun w' hS => ?_⟩, fun _ => rfl⟩ hbd ?_
            · go_simp
            refine wpAnyInH_take (i := 1) (v := .int .i64 gen) (by kernel_rfl) rfl (by kernel_rfl) (by kernel_rfl) (by kernel_rfl) (fun _ _ _ h => h) ⟨.inl ⟨rfl, fun w' hS => ?_⟩, fun _ => rfl⟩ hbd ?_
            · go_simp
            refine wpAnyInH_take (i := 2) (v := .int .i64 k) (by kernel_rfl) rfl (by kernel_rfl) (by kernel_rfl) (by kernel_rfl) (fun _ _ _ h => h) ⟨.inl ⟨rfl, fun w' hS => ?_⟩, fun _ => rfl⟩ hbd ?_
            · go_simp
            refine wpAnyInH_take (i := 3) (v := .int .i64 ng) (by kernel_rfl) rfl (by kernel_rfl) (by kernel_rfl) (by kernel_rfl) (fun _ _ _ h => h) ⟨.inl ⟨rfl, fun w' hS => ?_⟩, fun _ => rfl⟩ hbd ?_
            · go_simp
            refine wpAnyInH_take (i := 4) (v := .int .i64 j) (by kernel_rfl) rfl (by kernel_rfl) (by kernel_rfl) (by kernel_rfl) (fun _ _ _ h => h) ⟨.inl ⟨rfl, fun w' hS => ?_⟩, fun _ => rfl⟩ hbd ?_
            · go_simp
            refine wpAnyInH_take (i := 5) (v := .int .i64 size) (by kernel_rfl) rfl (by kernel_rfl) (by kernel_rfl) (by kernel_rfl) (fun _ _ _ h => h) ⟨.inl ⟨rfl, fun w' hS => ?_⟩, fun _ => rfl⟩ hbd ?_
            · go_simp
            refine wpAnyInH_take (i := 6) (v := .int .i64 size) (by kernel_rfl) rfl (by kernel_rfl) (by kernel_rfl) (by kernel_rfl) (fun _ _ _ h => h) ⟨.inl ⟨rfl, fun w' hS => ?_⟩, fun _ => rfl⟩ hbd ?_
            · go_simp
            refine wpAnyInH_all (rs := [7, 8, 10]) (by kernel_rfl) (by simp) ?_
            intro i hi
            rcases List.mem_cons.1 hi with rfl | hi
            · refine wpOpIn_does rfl rfl ?_
              go_simp
              refine ⟨fun h => (by cases h), (callsIn_wide.2 (digest_any _ _)).mono ?_⟩
              rintro e w0a ⟨rfl, hb0a⟩
              have hc0 : Below wx.heap.size wx w0a := (hbd).trans (hb0a.mono (hbd).size)
              refine ⟨hc0, ?_⟩
              refine wpAnyInH_all (rs := [8, 10]) (by kernel_rfl) (by simp) ?_
              intro i hi
              rcases List.mem_cons.1 hi with rfl | hi
              · refine wpOpIn_does rfl rfl ?_
                go_simp
                obtain ⟨w1a, hw1a⟩ : ∃ x, x = (World.alloc w0a (.cells z16 5)) := ⟨_, rfl⟩
                have hc1 : Below wx.heap.size wx w1a := by rw [hw1a]; exact (hc0).alloc (hc0).size _
                rw [← hw1a]
                clear hw1a
                refine ⟨hc1, ?_⟩
                refine wpAnyInH_take (i := 9) (v := .agg #[.int .i64 2, .int .i64 0, .string key, .int .i64 gen, .int .i64 k, .int .i64 ng, .int .i64 j, .int .i64 size, .string (digB size), .slice (some ⟨((World.heap w0a).size), 0, none⟩) 16 16]) (by kernel_rfl) rfl (by kernel_rfl) (by kernel_rfl) (by kernel_rfl) (fun _ _ _ h => h) ⟨.inl ⟨rfl, fun w' hS => ?_⟩, fun _ => rfl⟩ hc1 ?_
                · go_simp
                refine wpAnyInH_all (rs := [10]) (by kernel_rfl) (by simp) ?_
                intro i hi
                obtain rfl : i = 10 := by simpa using hi
                refine wpOpIn_does rfl rfl ?_
                go_simp
                obtain ⟨w2a, hw2a⟩ : ∃ x, x = (World.alloc w1a (.cells #[.int .i64 0, .int .i64 0, .string { data := #[] }, .int .i64 0, .int .i64 0, .int .i64 0, .int .i64 0, .int .i64 0, .string { data := #[] }, .slice none 0 0] 37)) := ⟨_, rfl⟩
                have hc2 : Below wx.heap.size wx w2a := by rw [hw2a]; exact (hc1).alloc (hc1).size _
                have hwr : ∃ cs : Array Value, cs.size = 10 ∧ w2a.heap[(World.heap w1a).size]? = some (.cells cs 37 (0, 0)) := by rw [hw2a]; exact ⟨_, rfl, (MapKept.heap_alloc w1a _).1⟩
                have hbxle : wx.heap.size ≤ (World.heap w1a).size := (hc1).size
                rw [← hw2a]
                clear hw2a
                refine ⟨hc2, ?_⟩
                obtain ⟨cs, hcs, hwb⟩ := hwr
                have hcl : ∀ i, i < 10 → ∃ v, World.cell? w2a ⟨((World.heap w1a).size), i, none⟩ = some v := fun i hi => ⟨cs[i]'(by omega), by simp [World.cell?, hwb, hcs, hi]⟩
                have hfz : ∀ i, World.frozen? w2a ⟨((World.heap w1a).size), i, none⟩ = false := fun i => by simp [World.frozen?, hwb]
                obtain ⟨v0, y0⟩ := hcl 0 (by omega)
                obtain ⟨v1, y1⟩ := hcl 1 (by omega)
                obtain ⟨v2, y2⟩ := hcl 2 (by omega)
                obtain ⟨v3, y3⟩ := hcl 3 (by omega)
                obtain ⟨v4, y4⟩ := hcl 4 (by omega)
                obtain ⟨v5, y5⟩ := hcl 5 (by omega)
                obtain ⟨v6, y6⟩ := hcl 6 (by omega)
                obtain ⟨v7, y7⟩ := hcl 7 (by omega)
                obtain ⟨v8, y8⟩ := hcl 8 (by omega)
                obtain ⟨v9, y9⟩ := hcl 9 (by omega)
                have f0' := hfz 0
                have f1' := hfz 1
                have f2' := hfz 2
                have f3' := hfz 3
                have f4' := hfz 4
                have f5' := hfz 5
                have f6' := hfz 6
                have f7' := hfz 7
                have f8' := hfz 8
                have f9' := hfz 9
                have hbW : ∀ u0 u1 u2 u3 u4 u5 u6 u7 u8 u9, Below wx.heap.size wx (World.setCell (World.setCell (World.setCell (World.setCell (World.setCell (World.setCell (World.setCell (World.setCell (World.setCell (World.setCell w2a ⟨((World.heap w1a).size), 0, none⟩ u0) ⟨((World.heap w1a).size), 1, none⟩ u1) ⟨((World.heap w1a).size), 2, none⟩ u2) ⟨((World.heap w1a).size), 3, none⟩ u3) ⟨((World.heap w1a).size), 4, none⟩ u4) ⟨((World.heap w1a).size), 5, none⟩ u5) ⟨((World.heap w1a).size), 6, none⟩ u6) ⟨((World.heap w1a).size), 7, none⟩ u7) ⟨((World.heap w1a).size), 8, none⟩ u8) ⟨((World.heap w1a).size), 9, none⟩ u9) := fun u0 u1 u2 u3 u4 u5 u6 u7 u8 u9 => ((((((((((hc2.setCell (p := ⟨((World.heap w1a).size), 0, none⟩) hbxle u0).setCell (p := ⟨((World.heap w1a).size), 1, none⟩) hbxle u1).setCell (p := ⟨((World.heap w1a).size), 2, none⟩) hbxle u2).setCell (p := ⟨((World.heap w1a).size), 3, none⟩) hbxle u3).setCell (p := ⟨((World.heap w1a).size), 4, none⟩) hbxle u4).setCell (p := ⟨((World.heap w1a).size), 5, none⟩) hbxle u5).setCell (p := ⟨((World.heap w1a).size), 6, none⟩) hbxle u6).setCell (p := ⟨((World.heap w1a).size), 7, none⟩) hbxle u7).setCell (p := ⟨((World.heap w1a).size), 8, none⟩) hbxle u8).setCell (p := ⟨((World.heap w1a).size), 9, none⟩) hbxle u9)
                have HbW := Lib.hid hbW
                clear hbW hcl hfz hwb
                refine wpAnyInH_all (rs := [11]) (by kernel_rfl) (by simp) ?_
                intro i hi
                obtain rfl : i = 11 := by simpa using hi
                refine wpOpIn_does rfl rfl ?_
                go_simp
                refine ⟨HbW.out _ _ _ _ _ _ _ _ _ _, wpAnyInH_done (by kernel_rfl) ?_ _⟩
                refine hK' _ _ (Met.intro (hJ _ _ ?_))
                repeat apply Exists.intro
                refine ⟨?_, rfl⟩
                exact ⟨((World.heap w1a).size), ((World.heap w0a).size), rfl, HbW.out _ _ _ _ _ _ _ _ _ _, ⟨by go_simp, by go_simp, by go_simp, by go_simp, by go_simp, by go_simp, by go_simp, by go_simp, by go_simp, by go_simp⟩⟩
              · obtain rfl : i = 10 := by simpa using hi
                refine wpOpIn_does rfl rfl ?_
                go_simp
                obtain ⟨w1a, hw1a⟩ : ∃ x, x = (World.alloc w0a (.cells #[.int .i64 0, .int .i64 0, .string { data := #[] }, .int .i64 0, .int .i64 0, .int .i64 0, .int .i64 0, .int .i64 0, .string { data := #[] }, .slice none 0 0] 37)) := ⟨_, rfl⟩
                have hc1 : Below wx.heap.size wx w1a := by rw [hw1a]; exact (hc0).alloc (hc0).size _
                have hwr : ∃ cs : Array Value, cs.size = 10 ∧ w1a.heap[(World.heap w0a).size]? = some (.cells cs 37 (0, 0)) := by rw [hw1a]; exact ⟨_, rfl, (MapKept.heap_alloc w0a _).1⟩
                have hbxle : wx.heap.size ≤ (World.heap w0a).size := (hc0).size
                rw [← hw1a]
                clear hw1a
                refine ⟨hc1, ?_⟩
                refine wpAnyInH_all (rs := [8]) (by kernel_rfl) (by simp) ?_
                intro i hi
                obtain rfl : i = 8 := by simpa using hi
                refine wpOpIn_does rfl rfl ?_
                go_simp
                obtain ⟨w2a, hw2a⟩ : ∃ x, x = (World.alloc w1a (.cells z16 5)) := ⟨_, rfl⟩
                have hc2 : Below wx.heap.size wx w2a := by rw [hw2a]; exact (hc1).alloc (hc1).size _
                have hwr : ∃ cs : Array Value, cs.size = 10 ∧ w2a.heap[((World.heap w0a).size)]? = some (.cells cs 37 (0, 0)) := by rw [hw2a]; exact carry hwr ((Below.refl _ _).alloc (Nat.le_refl _) _)
                rw [← hw2a]
                clear hw2a
                refine ⟨hc2, ?_⟩
                refine wpAnyInH_take (i := 9) (v := .agg #[.int .i64 2, .int .i64 0, .string key, .int .i64 gen, .int .i64 k, .int .i64 ng, .int .i64 j, .int .i64 size, .string (digB size), .slice (some ⟨((World.heap w1a).size), 0, none⟩) 16 16]) (by kernel_rfl) rfl (by kernel_rfl) (by kernel_rfl) (by kernel_rfl) (fun _ _ _ h => h) ⟨.inl ⟨rfl, fun w' hS => ?_⟩, fun _ => rfl⟩ hc2 ?_
                · go_simp
                obtain ⟨cs, hcs, hwb⟩ := hwr
                have hcl : ∀ i, i < 10 → ∃ v, World.cell? w2a ⟨((World.heap w0a).size), i, none⟩ = some v := fun i hi => ⟨cs[i]'(by omega), by simp [World.cell?, hwb, hcs, hi]⟩
                have hfz : ∀ i, World.frozen? w2a ⟨((World.heap w0a).size), i, none⟩ = false := fun i => by simp [World.frozen?, hwb]
                obtain ⟨v0, y0⟩ := hcl 0 (by omega)
                obtain ⟨v1, y1⟩ := hcl 1 (by omega)
                obtain ⟨v2, y2⟩ := hcl 2 (by omega)
                obtain ⟨v3, y3⟩ := hcl 3 (by omega)
                obtain ⟨v4, y4⟩ := hcl 4 (by omega)
                obtain ⟨v5, y5⟩ := hcl 5 (by omega)
                obtain ⟨v6, y6⟩ := hcl 6 (by omega)
                obtain ⟨v7, y7⟩ := hcl 7 (by omega)
                obtain ⟨v8, y8⟩ := hcl 8 (by omega)
                obtain ⟨v9, y9⟩ := hcl 9 (by omega)
                have f0' := hfz 0
                have f1' := hfz 1
                have f2' := hfz 2
                have f3' := hfz 3
                have f4' := hfz 4
                have f5' := hfz 5
                have f6' := hfz 6
                have f7' := hfz 7
                have f8' := hfz 8
                have f9' := hfz 9
                have hbW : ∀ u0 u1 u2 u3 u4 u5 u6 u7 u8 u9, Below wx.heap.size wx (World.setCell (World.setCell (World.setCell (World.setCell (World.setCell (World.setCell (World.setCell (World.setCell (World.setCell (World.setCell w2a ⟨((World.heap w0a).size), 0, none⟩ u0) ⟨((World.heap w0a).size), 1, none⟩ u1) ⟨((World.heap w0a).size), 2, none⟩ u2) ⟨((World.heap w0a).size), 3, none⟩ u3) ⟨((World.heap w0a).size), 4, none⟩ u4) ⟨((World.heap w0a).size), 5, none⟩ u5) ⟨((World.heap w0a).size), 6, none⟩ u6) ⟨((World.heap w0a).size), 7, none⟩ u7) ⟨((World.heap w0a).size), 8, none⟩ u8) ⟨((World.heap w0a).size), 9, none⟩ u9) := fun u0 u1 u2 u3 u4 u5 u6 u7 u8 u9 => ((((((((((hc2.setCell (p := ⟨((World.heap w0a).size), 0, none⟩) hbxle u0).setCell (p := ⟨((World.heap w0a).size), 1, none⟩) hbxle u1).setCell (p := ⟨((World.heap w0a).size), 2, none⟩) hbxle u2).setCell (p := ⟨((World.heap w0a).size), 3, none⟩) hbxle u3).setCell (p := ⟨((World.heap w0a).size), 4, none⟩) hbxle u4).setCell (p := ⟨((World.heap w0a).size), 5, none⟩) hbxle u5).setCell (p := ⟨((World.heap w0a).size), 6, none⟩) hbxle u6).setCell (p := ⟨((World.heap w0a).size), 7, none⟩) hbxle u7).setCell (p := ⟨((World.heap w0a).size), 8, none⟩) hbxle u8).setCell (p := ⟨((World.heap w0a).size), 9, none⟩) hbxle u9)
                have HbW := Lib.hid hbW
                clear hbW hcl hfz hwb
                refine wpAnyInH_all (rs := [11]) (by kernel_rfl) (by simp) ?_
                intro i hi
                obtain rfl : i = 11 := by simpa using hi
                refine wpOpIn_does rfl rfl ?_
                go_simp
                refine ⟨HbW.out _ _ _ _ _ _ _ _ _ _, wpAnyInH_done (by kernel_rfl) ?_ _⟩
                refine hK' _ _ (Met.intro (hJ _ _ ?_))
                repeat apply Exists.intro
                refine ⟨?_, rfl⟩
                exact ⟨((World.heap w0a).size), ((World.heap w1a).size), rfl, HbW.out _ _ _ _ _ _ _ _ _ _, ⟨by go_simp, by go_simp, by go_simp, by go_simp, by go_simp, by go_simp, by go_simp, by go_simp, by go_simp, by go_simp⟩⟩
            rcases List.mem_cons.1 hi with rfl | hi
            · refine wpOpIn_does rfl rfl ?_
              go_simp
              obtain ⟨w0a, hw0a⟩ : ∃ x, x = (World.alloc wx (.cells z16 5)).drew := ⟨_, rfl⟩
              have hc0 : Below wx.heap.size wx w0a := by rw [hw0a]; exact ((Below.refl _ wx).alloc (Nat.le_refl _) _).drew
              rw [← hw0a]
              clear hw0a
              refine ⟨hc0, ?_⟩
              refine wpAnyInH_all (rs := [7, 10]) (by kernel_rfl) (by simp) ?_
              intro i hi
              rcases List.mem_cons.1 hi with rfl | hi
              · refine wpOpIn_does rfl rfl ?_
                go_simp
                refine ⟨fun h => (by cases h), (callsIn_wide.2 (digest_any _ _)).mono ?_⟩
                rintro e w1a ⟨rfl, hb1a⟩
                have hc1 : Below wx.heap.size wx w1a := (hc0).trans (hb1a.mono (hc0).size)
                refine ⟨hc1, ?_⟩
                refine wpAnyInH_take (i := 9) (v := .agg #[.int .i64 2, .int .i64 0, .string key, .int .i64 gen, .int .i64 k, .int .i64 ng, .int .i64 j, .int .i64 size, .string (digB size), .slice (some ⟨((World.heap wx).size), 0, none⟩) 16 16]) (by kernel_rfl) rfl (by kernel_rfl) (by kernel_rfl) (by kernel_rfl) (fun _ _ _ h => h) ⟨.inl ⟨rfl, fun w' hS => ?_⟩, fun _ => rfl⟩ hc1 ?_
                · go_simp
                refine wpAnyInH_all (rs := [10]) (by kernel_rfl) (by simp) ?_
                intro i hi
                obtain rfl : i = 10 := by simpa using hi
                refine wpOpIn_does rfl rfl ?_
                go_simp
                obtain ⟨w2a, hw2a⟩ : ∃ x, x = (World.alloc w1a (.cells #[.int .i64 0, .int .i64 0, .string { data := #[] }, .int .i64 0, .int .i64 0, .int .i64 0, .int .i64 0, .int .i64 0, .string { data := #[] }, .slice none 0 0] 37)) := ⟨_, rfl⟩
                have hc2 : Below wx.heap.size wx w2a := by rw [hw2a]; exact (hc1).alloc (hc1).size _
                have hwr : ∃ cs : Array Value, cs.size = 10 ∧ w2a.heap[(World.heap w1a).size]? = some (.cells cs 37 (0, 0)) := by rw [hw2a]; exact ⟨_, rfl, (MapKept.heap_alloc w1a _).1⟩
                have hbxle : wx.heap.size ≤ (World.heap w1a).size := (hc1).size
                rw [← hw2a]
                clear hw2a
                refine ⟨hc2, ?_⟩
                obtain ⟨cs, hcs, hwb⟩ := hwr
                have hcl : ∀ i, i < 10 → ∃ v, World.cell? w2a ⟨((World.heap w1a).size), i, none⟩ = some v := fun i hi => ⟨cs[i]'(by omega), by simp [World.cell?, hwb, hcs, hi]⟩
                have hfz : ∀ i, World.frozen? w2a ⟨((World.heap w1a).size), i, none⟩ = false := fun i => by simp [World.frozen?, hwb]
                obtain ⟨v0, y0⟩ := hcl 0 (by omega)
                obtain ⟨v1, y1⟩ := hcl 1 (by omega)
                obtain ⟨v2, y2⟩ := hcl 2 (by omega)
                obtain ⟨v3, y3⟩ := hcl 3 (by omega)
                obtain ⟨v4, y4⟩ := hcl 4 (by omega)
                obtain ⟨v5, y5⟩ := hcl 5 (by omega)
                obtain ⟨v6, y6⟩ := hcl 6 (by omega)
                obtain ⟨v7, y7⟩ := hcl 7 (by omega)
                obtain ⟨v8, y8⟩ := hcl 8 (by omega)
                obtain ⟨v9, y9⟩ := hcl 9 (by omega)
                have f0' := hfz 0
                have f1' := hfz 1
                have f2' := hfz 2
                have f3' := hfz 3
                have f4' := hfz 4
                have f5' := hfz 5
                have f6' := hfz 6
                have f7' := hfz 7
                have f8' := hfz 8
                have f9' := hfz 9
                have hbW : ∀ u0 u1 u2 u3 u4 u5 u6 u7 u8 u9, Below wx.heap.size wx (World.setCell (World.setCell (World.setCell (World.setCell (World.setCell (World.setCell (World.setCell (World.setCell (World.setCell (World.setCell w2a ⟨((World.heap w1a).size), 0, none⟩ u0) ⟨((World.heap w1a).size), 1, none⟩ u1) ⟨((World.heap w1a).size), 2, none⟩ u2) ⟨((World.heap w1a).size), 3, none⟩ u3) ⟨((World.heap w1a).size), 4, none⟩ u4) ⟨((World.heap w1a).size), 5, none⟩ u5) ⟨((World.heap w1a).size), 6, none⟩ u6) ⟨((World.heap w1a).size), 7, none⟩ u7) ⟨((World.heap w1a).size), 8, none⟩ u8) ⟨((World.heap w1a).size), 9, none⟩ u9) := fun u0 u1 u2 u3 u4 u5 u6 u7 u8 u9 => ((((((((((hc2.setCell (p := ⟨((World.heap w1a).size), 0, none⟩) hbxle u0).setCell (p := ⟨((World.heap w1a).size), 1, none⟩) hbxle u1).setCell (p := ⟨((World.heap w1a).size), 2, none⟩) hbxle u2).setCell (p := ⟨((World.heap w1a).size), 3, none⟩) hbxle u3).setCell (p := ⟨((World.heap w1a).size), 4, none⟩) hbxle u4).setCell (p := ⟨((World.heap w1a).size), 5, none⟩) hbxle u5).setCell (p := ⟨((World.heap w1a).size), 6, none⟩) hbxle u6).setCell (p := ⟨((World.heap w1a).size), 7, none⟩) hbxle u7).setCell (p := ⟨((World.heap w1a).size), 8, none⟩) hbxle u8).setCell (p := ⟨((World.heap w1a).size), 9, none⟩) hbxle u9)
                have HbW := Lib.hid hbW
                clear hbW hcl hfz hwb
                refine wpAnyInH_all (rs := [11]) (by kernel_rfl) (by simp) ?_
                intro i hi
                obtain rfl : i = 11 := by simpa using hi
                refine wpOpIn_does rfl rfl ?_
                go_simp
                refine ⟨HbW.out _ _ _ _ _ _ _ _ _ _, wpAnyInH_done (by kernel_rfl) ?_ _⟩
                refine hK' _ _ (Met.intro (hJ _ _ ?_))
                repeat apply Exists.intro
                refine ⟨?_, rfl⟩
                exact ⟨((World.heap w1a).size), ((World.heap wx).size), rfl, HbW.out _ _ _ _ _ _ _ _ _ _, ⟨by go_simp, by go_simp, by go_simp, by go_simp, by go_simp, by go_simp, by go_simp, by go_simp, by go_simp, by go_simp⟩⟩
              · obtain rfl : i = 10 := by simpa using hi
                refine wpOpIn_does rfl rfl ?_
                go_simp
                obtain ⟨w1a, hw1a⟩ : ∃ x, x = (World.alloc w0a (.cells #[.int .i64 0, .int .i64 0, .string { data := #[] }, .int .i64 0, .int .i64 0, .int .i64 0, .int .i64 0, .int .i64 0, .string { data := #[] }, .slice none 0 0] 37)) := ⟨_, rfl⟩
                have hc1 : Below wx.heap.size wx w1a := by rw [hw1a]; exact (hc0).alloc (hc0).size _
                have hwr : ∃ cs : Array Value, cs.size = 10 ∧ w1a.heap[(World.heap w0a).size]? = some (.cells cs 37 (0, 0)) := by rw [hw1a]; exact ⟨_, rfl, (MapKept.heap_alloc w0a _).1⟩
                have hbxle : wx.heap.size ≤ (World.heap w0a).size := (hc0).size
                rw [← hw1a]
                clear hw1a
                refine ⟨hc1, ?_⟩
                refine wpAnyInH_all (rs := [7]) (by kernel_rfl) (by simp) ?_
                intro i hi
                obtain rfl : i = 7 := by simpa using hi
                refine wpOpIn_does rfl rfl ?_
                go_simp
                refine ⟨fun h => (by cases h), (callsIn_wide.2 (digest_any _ _)).mono ?_⟩
                rintro e w2a ⟨rfl, hb2a⟩
                have hc2 : Below wx.heap.size wx w2a := (hc1).trans (hb2a.mono (hc1).size)
                have hwr : ∃ cs : Array Value, cs.size = 10 ∧ w2a.heap[((World.heap w0a).size)]? = some (.cells cs 37 (0, 0)) := carry hwr hb2a
                refine ⟨hc2, ?_⟩
                refine wpAnyInH_take (i := 9) (v := .agg #[.int .i64 2, .int .i64 0, .string key, .int .i64 gen, .int .i64 k, .int .i64 ng, .int .i64 j, .int .i64 size, .string (digB size), .slice (some ⟨((World.heap wx).size), 0, none⟩) 16 16]) (by kernel_rfl) rfl (by kernel_rfl) (by kernel_rfl) (by kernel_rfl) (fun _ _ _ h => h) ⟨.inl ⟨rfl, fun w' hS => ?_⟩, fun _ => rfl⟩ hc2 ?_
                · go_simp
                obtain ⟨cs, hcs, hwb⟩ := hwr
                have hcl : ∀ i, i < 10 → ∃ v, World.cell? w2a ⟨((World.heap w0a).size), i, none⟩ = some v := fun i hi => ⟨cs[i]'(by omega), by simp [World.cell?, hwb, hcs, hi]⟩
                have hfz : ∀ i, World.frozen? w2a ⟨((World.heap w0a).size), i, none⟩ = false := fun i => by simp [World.frozen?, hwb]
                obtain ⟨v0, y0⟩ := hcl 0 (by omega)
                obtain ⟨v1, y1⟩ := hcl 1 (by omega)
                obtain ⟨v2, y2⟩ := hcl 2 (by omega)
                obtain ⟨v3, y3⟩ := hcl 3 (by omega)
                obtain ⟨v4, y4⟩ := hcl 4 (by omega)
                obtain ⟨v5, y5⟩ := hcl 5 (by omega)
                obtain ⟨v6, y6⟩ := hcl 6 (by omega)
                obtain ⟨v7, y7⟩ := hcl 7 (by omega)
                obtain ⟨v8, y8⟩ := hcl 8 (by omega)
                obtain ⟨v9, y9⟩ := hcl 9 (by omega)
                have f0' := hfz 0
                have f1' := hfz 1
                have f2' := hfz 2
                have f3' := hfz 3
                have f4' := hfz 4
                have f5' := hfz 5
                have f6' := hfz 6
                have f7' := hfz 7
                have f8' := hfz 8
                have f9' := hfz 9
                have hbW : ∀ u0 u1 u2 u3 u4 u5 u6 u7 u8 u9, Below wx.heap.size wx (World.setCell (World.setCell (World.setCell (World.setCell (World.setCell (World.setCell (World.setCell (World.setCell (World.setCell (World.setCell w2a ⟨((World.heap w0a).size), 0, none⟩ u0) ⟨((World.heap w0a).size), 1, none⟩ u1) ⟨((World.heap w0a).size), 2, none⟩ u2) ⟨((World.heap w0a).size), 3, none⟩ u3) ⟨((World.heap w0a).size), 4, none⟩ u4) ⟨((World.heap w0a).size), 5, none⟩ u5) ⟨((World.heap w0a).size), 6, none⟩ u6) ⟨((World.heap w0a).size), 7, none⟩ u7) ⟨((World.heap w0a).size), 8, none⟩ u8) ⟨((World.heap w0a).size), 9, none⟩ u9) := fun u0 u1 u2 u3 u4 u5 u6 u7 u8 u9 => ((((((((((hc2.setCell (p := ⟨((World.heap w0a).size), 0, none⟩) hbxle u0).setCell (p := ⟨((World.heap w0a).size), 1, none⟩) hbxle u1).setCell (p := ⟨((World.heap w0a).size), 2, none⟩) hbxle u2).setCell (p := ⟨((World.heap w0a).size), 3, none⟩) hbxle u3).setCell (p := ⟨((World.heap w0a).size), 4, none⟩) hbxle u4).setCell (p := ⟨((World.heap w0a).size), 5, none⟩) hbxle u5).setCell (p := ⟨((World.heap w0a).size), 6, none⟩) hbxle u6).setCell (p := ⟨((World.heap w0a).size), 7, none⟩) hbxle u7).setCell (p := ⟨((World.heap w0a).size), 8, none⟩) hbxle u8).setCell (p := ⟨((World.heap w0a).size), 9, none⟩) hbxle u9)
                have HbW := Lib.hid hbW
                clear hbW hcl hfz hwb
                refine wpAnyInH_all (rs := [11]) (by kernel_rfl) (by simp) ?_
                intro i hi
                obtain rfl : i = 11 := by simpa using hi
                refine wpOpIn_does rfl rfl ?_
                go_simp
                refine ⟨HbW.out _ _ _ _ _ _ _ _ _ _, wpAnyInH_done (by kernel_rfl) ?_ _⟩
                refine hK' _ _ (Met.intro (hJ _ _ ?_))
                repeat apply Exists.intro
                refine ⟨?_, rfl⟩
                exact ⟨((World.heap w0a).size), ((World.heap wx).size), rfl, HbW.out _ _ _ _ _ _ _ _ _ _, ⟨by go_simp, by go_simp, by go_simp, by go_simp, by go_simp, by go_simp, by go_simp, by go_simp, by go_simp, by go_simp⟩⟩
            · obtain rfl : i = 10 := by simpa using hi
              refine wpOpIn_does rfl rfl ?_
              go_simp
              obtain ⟨w0a, hw0a⟩ : ∃ x, x = (World.alloc wx (.cells #[.int .i64 0, .int .i64 0, .string { data := #[] }, .int .i64 0, .int .i64 0, .int .i64 0, .int .i64 0, .int .i64 0, .string { data := #[] }, .slice none 0 0] 37)).drew := ⟨_, rfl⟩
              have hc0 : Below wx.heap.size wx w0a := by rw [hw0a]; exact ((Below.refl _ wx).alloc (Nat.le_refl _) _).drew
              have hwr : ∃ cs : Array Value, cs.size = 10 ∧ w0a.heap[(World.heap wx).size]? = some (.cells cs 37 (0, 0)) := by rw [hw0a]; exact ⟨_, rfl, (MapKept.heap_alloc wx _).1⟩
              have hbxle : wx.heap.size ≤ (World.heap wx).size := Nat.le_refl _
              rw [← hw0a]
              clear hw0a
              refine ⟨hc0, ?_⟩
              refine wpAnyInH_all (rs := [7, 8]) (by kernel_rfl) (by simp) ?_
              intro i hi
              rcases List.mem_cons.1 hi with rfl | hi
              · refine wpOpIn_does rfl rfl ?_
                go_simp
                refine ⟨fun h => (by cases h), (callsIn_wide.2 (digest_any _ _)).mono ?_⟩
                rintro e w1a ⟨rfl, hb1a⟩
                have hc1 : Below wx.heap.size wx w1a := (hc0).trans (hb1a.mono (hc0).size)
                have hwr : ∃ cs : Array Value, cs.size = 10 ∧ w1a.heap[((World.heap wx).size)]? = some (.cells cs 37 (0, 0)) := carry hwr hb1a
                refine ⟨hc1, ?_⟩
                refine wpAnyInH_all (rs := [8]) (by kernel_rfl) (by simp) ?_
                intro i hi
                obtain rfl : i = 8 := by simpa using hi
                refine wpOpIn_does rfl rfl ?_
                go_simp
                obtain ⟨w2a, hw2a⟩ : ∃ x, x = (World.alloc w1a (.cells z16 5)) := ⟨_, rfl⟩
                have hc2 : Below wx.heap.size wx w2a := by rw [hw2a]; exact (hc1).alloc (hc1).size _
                have hwr : ∃ cs : Array Value, cs.size = 10 ∧ w2a.heap[((World.heap wx).size)]? = some (.cells cs 37 (0, 0)) := by rw [hw2a]; exact carry hwr ((Below.refl _ _).alloc (Nat.le_refl _) _)
                rw [← hw2a]
                clear hw2a
                refine ⟨hc2, ?_⟩
                refine wpAnyInH_take (i := 9) (v := .agg #[.int .i64 2, .int .i64 0, .string key, .int .i64 gen, .int .i64 k, .int .i64 ng, .int .i64 j, .int .i64 size, .string (digB size), .slice (some ⟨((World.heap w1a).size), 0, none⟩) 16 16]) (by kernel_rfl) rfl (by kernel_rfl) (by kernel_rfl) (by kernel_rfl) (fun _ _ _ h => h) ⟨.inl ⟨rfl, fun w' hS => ?_⟩, fun _ => rfl⟩ hc2 ?_
                · go_simp
                obtain ⟨cs, hcs, hwb⟩ := hwr
                have hcl : ∀ i, i < 10 → ∃ v, World.cell? w2a ⟨((World.heap wx).size), i, none⟩ = some v := fun i hi => ⟨cs[i]'(by omega), by simp [World.cell?, hwb, hcs, hi]⟩
                have hfz : ∀ i, World.frozen? w2a ⟨((World.heap wx).size), i, none⟩ = false := fun i => by simp [World.frozen?, hwb]
                obtain ⟨v0, y0⟩ := hcl 0 (by omega)
                obtain ⟨v1, y1⟩ := hcl 1 (by omega)
                obtain ⟨v2, y2⟩ := hcl 2 (by omega)
                obtain ⟨v3, y3⟩ := hcl 3 (by omega)
                obtain ⟨v4, y4⟩ := hcl 4 (by omega)
                obtain ⟨v5, y5⟩ := hcl 5 (by omega)
                obtain ⟨v6, y6⟩ := hcl 6 (by omega)
                obtain ⟨v7, y7⟩ := hcl 7 (by omega)
                obtain ⟨v8, y8⟩ := hcl 8 (by omega)
                obtain ⟨v9, y9⟩ := hcl 9 (by omega)
                have f0' := hfz 0
                have f1' := hfz 1
                have f2' := hfz 2
                have f3' := hfz 3
                have f4' := hfz 4
                have f5' := hfz 5
                have f6' := hfz 6
                have f7' := hfz 7
                have f8' := hfz 8
                have f9' := hfz 9
                have hbW : ∀ u0 u1 u2 u3 u4 u5 u6 u7 u8 u9, Below wx.heap.size wx (World.setCell (World.setCell (World.setCell (World.setCell (World.setCell (World.setCell (World.setCell (World.setCell (World.setCell (World.setCell w2a ⟨((World.heap wx).size), 0, none⟩ u0) ⟨((World.heap wx).size), 1, none⟩ u1) ⟨((World.heap wx).size), 2, none⟩ u2) ⟨((World.heap wx).size), 3, none⟩ u3) ⟨((World.heap wx).size), 4, none⟩ u4) ⟨((World.heap wx).size), 5, none⟩ u5) ⟨((World.heap wx).size), 6, none⟩ u6) ⟨((World.heap wx).size), 7, none⟩ u7) ⟨((World.heap wx).size), 8, none⟩ u8) ⟨((World.heap wx).size), 9, none⟩ u9) := fun u0 u1 u2 u3 u4 u5 u6 u7 u8 u9 => ((((((((((hc2.setCell (p := ⟨((World.heap wx).size), 0, none⟩) hbxle u0).setCell (p := ⟨((World.heap wx).size), 1, none⟩) hbxle u1).setCell (p := ⟨((World.heap wx).size), 2, none⟩) hbxle u2).setCell (p := ⟨((World.heap wx).size), 3, none⟩) hbxle u3).setCell (p := ⟨((World.heap wx).size), 4, none⟩) hbxle u4).setCell (p := ⟨((World.heap wx).size), 5, none⟩) hbxle u5).setCell (p := ⟨((World.heap wx).size), 6, none⟩) hbxle u6).setCell (p := ⟨((World.heap wx).size), 7, none⟩) hbxle u7).setCell (p := ⟨((World.heap wx).size), 8, none⟩) hbxle u8).setCell (p := ⟨((World.heap wx).size), 9, none⟩) hbxle u9)
                have HbW := Lib.hid hbW
                clear hbW hcl hfz hwb
                refine wpAnyInH_all (rs := [11]) (by kernel_rfl) (by simp) ?_
                intro i hi
                obtain rfl : i = 11 := by simpa using hi
                refine wpOpIn_does rfl rfl ?_
                go_simp
                refine ⟨HbW.out _ _ _ _ _ _ _ _ _ _, wpAnyInH_done (by kernel_rfl) ?_ _⟩
                refine hK' _ _ (Met.intro (hJ _ _ ?_))
                repeat apply Exists.intro
                refine ⟨?_, rfl⟩
                exact ⟨((World.heap wx).size), ((World.heap w1a).size), rfl, HbW.out _ _ _ _ _ _ _ _ _ _, ⟨by go_simp, by go_simp, by go_simp, by go_simp, by go_simp, by go_simp, by go_simp, by go_simp, by go_simp, by go_simp⟩⟩
              · obtain rfl : i = 8 := by simpa using hi
                refine wpOpIn_does rfl rfl ?_
                go_simp
                obtain ⟨w1a, hw1a⟩ : ∃ x, x = (World.alloc w0a (.cells z16 5)) := ⟨_, rfl⟩
                have hc1 : Below wx.heap.size wx w1a := by rw [hw1a]; exact (hc0).alloc (hc0).size _
                have hwr : ∃ cs : Array Value, cs.size = 10 ∧ w1a.heap[((World.heap wx).size)]? = some (.cells cs 37 (0, 0)) := by rw [hw1a]; exact carry hwr ((Below.refl _ _).alloc (Nat.le_refl _) _)
                rw [← hw1a]
                clear hw1a
                refine ⟨hc1, ?_⟩
                refine wpAnyInH_all (rs := [7]) (by kernel_rfl) (by simp) ?_
                intro i hi
                obtain rfl : i = 7 := by simpa using hi
                refine wpOpIn_does rfl rfl ?_
                go_simp
                refine ⟨fun h => (by cases h), (callsIn_wide.2 (digest_any _ _)).mono ?_⟩
                rintro e w2a ⟨rfl, hb2a⟩
                have hc2 : Below wx.heap.size wx w2a := (hc1).trans (hb2a.mono (hc1).size)
                have hwr : ∃ cs : Array Value, cs.size = 10 ∧ w2a.heap[((World.heap wx).size)]? = some (.cells cs 37 (0, 0)) := carry hwr hb2a
                refine ⟨hc2, ?_⟩
                refine wpAnyInH_take (i := 9) (v := .agg #[.int .i64 2, .int .i64 0, .string key, .int .i64 gen, .int .i64 k, .int .i64 ng, .int .i64 j, .int .i64 size, .string (digB size), .slice (some ⟨((World.heap w0a).size), 0, none⟩) 16 16]) (by kernel_rfl) rfl (by kernel_rfl) (by kernel_rfl) (by kernel_rfl) (fun _ _ _ h => h) ⟨.inl ⟨rfl, fun w' hS => ?_⟩, fun _ => rfl⟩ hc2 ?_
                · go_simp
                obtain ⟨cs, hcs, hwb⟩ := hwr
                have hcl : ∀ i, i < 10 → ∃ v, World.cell? w2a ⟨((World.heap wx).size), i, none⟩ = some v := fun i hi => ⟨cs[i]'(by omega), by simp [World.cell?, hwb, hcs, hi]⟩
                have hfz : ∀ i, World.frozen? w2a ⟨((World.heap wx).size), i, none⟩ = false := fun i => by simp [World.frozen?, hwb]
                obtain ⟨v0, y0⟩ := hcl 0 (by omega)
                obtain ⟨v1, y1⟩ := hcl 1 (by omega)
                obtain ⟨v2, y2⟩ := hcl 2 (by omega)
                obtain ⟨v3, y3⟩ := hcl 3 (by omega)
                obtain ⟨v4, y4⟩ := hcl 4 (by omega)
                obtain ⟨v5, y5⟩ := hcl 5 (by omega)
                obtain ⟨v6, y6⟩ := hcl 6 (by omega)
                obtain ⟨v7, y7⟩ := hcl 7 (by omega)
                obtain ⟨v8, y8⟩ := hcl 8 (by omega)
                obtain ⟨v9, y9⟩ := hcl 9 (by omega)
                have f0' := hfz 0
                have f1' := hfz 1
                have f2' := hfz 2
                have f3' := hfz 3
                have f4' := hfz 4
                have f5' := hfz 5
                have f6' := hfz 6
                have f7' := hfz 7
                have f8' := hfz 8
                have f9' := hfz 9
                have hbW : ∀ u0 u1 u2 u3 u4 u5 u6 u7 u8 u9, Below wx.heap.size wx (World.setCell (World.setCell (World.setCell (World.setCell (World.setCell (World.setCell (World.setCell (World.setCell (World.setCell (World.setCell w2a ⟨((World.heap wx).size), 0, none⟩ u0) ⟨((World.heap wx).size), 1, none⟩ u1) ⟨((World.heap wx).size), 2, none⟩ u2) ⟨((World.heap wx).size), 3, none⟩ u3) ⟨((World.heap wx).size), 4, none⟩ u4) ⟨((World.heap wx).size), 5, none⟩ u5) ⟨((World.heap wx).size), 6, none⟩ u6) ⟨((World.heap wx).size), 7, none⟩ u7) ⟨((World.heap wx).size), 8, none⟩ u8) ⟨((World.heap wx).size), 9, none⟩ u9) := fun u0 u1 u2 u3 u4 u5 u6 u7 u8 u9 => ((((((((((hc2.setCell (p := ⟨((World.heap wx).size), 0, none⟩) hbxle u0).setCell (p := ⟨((World.heap wx).size), 1, none⟩) hbxle u1).setCell (p := ⟨((World.heap wx).size), 2, none⟩) hbxle u2).setCell (p := ⟨((World.heap wx).size), 3, none⟩) hbxle u3).setCell (p := ⟨((World.heap wx).size), 4, none⟩) hbxle u4).setCell (p := ⟨((World.heap wx).size), 5, none⟩) hbxle u5).setCell (p := ⟨((World.heap wx).size), 6, none⟩) hbxle u6).setCell (p := ⟨((World.heap wx).size), 7, none⟩) hbxle u7).setCell (p := ⟨((World.heap wx).size), 8, none⟩) hbxle u8).setCell (p := ⟨((World.heap wx).size), 9, none⟩) hbxle u9)
                have HbW := Lib.hid hbW
                clear hbW hcl hfz hwb
                refine wpAnyInH_all (rs := [11]) (by kernel_rfl) (by simp) ?_
                intro i hi
                obtain rfl : i = 11 := by simpa using hi
                refine wpOpIn_does rfl rfl ?_
                go_simp
                refine ⟨HbW.out _ _ _ _ _ _ _ _ _ _, wpAnyInH_done (by kernel_rfl) ?_ _⟩
                refine hK' _ _ (Met.intro (hJ _ _ ?_))
                repeat apply Exists.intro
                refine ⟨?_, rfl⟩
                exact ⟨((World.heap wx).size), ((World.heap w0a).size), rfl, HbW.out _ _ _ _ _ _ _ _ _ _, ⟨by go_simp, by go_simp, by go_simp, by go_simp, by go_simp, by go_simp, by go_simp, by go_simp, by go_simp, by go_simp⟩⟩
          case rest =>
            obtain ⟨Bx, b, rfl, hwd, hsh⟩ := hcut
            obtain ⟨wd, rfl⟩ : ∃ x, x = wc := ⟨_, rfl⟩
            have hownd : OwnF w.heap.size wd u9 zs2 := World.ownsRow.kept Hown2.out (grown_none hwd) (by cases hv : Value.ownBlock u9 <;> simp)
            have hBd : Below w.heap.size w wd := hB2.trans (hwd.mono hB2.size)
            have hBxl : Bx < wd.heap.size := World.block_lt_of_cell? wd ⟨Bx, 0, none⟩ hsh.c0
            obtain ⟨c0, c1, c2, c3, c4, c5, c6, c7, c8, c9⟩ := hsh
            have Hownd := Lib.hid hownd
            clear hownd
            gi_wp2_with (gi_at_builtin; refine wpListIn_append_own _ rfl _ _ 22 rfl w.heap.size 39 i0 zero39 12 128 Try.underlying22 hi0 hz0 hz1 hz2 rfl (by decide) _ _ _ rfl (Hownd.out.alloc _) ⟨wd.heap.size, 0, none⟩ 1 1 [.int .i64 j, .int .i64 (frm + k), .int .i64 2, .int .i64 0, .string key, .int .i64 gen, .int .i64 k, .int .i64 ng, .int .i64 j, .int .i64 size, .string (digB size), .slice (some ⟨b, 0, none⟩) 16 16] rfl rfl ?c1 ?c2 ?c3 ?c4 ?c5 ?_)
            case c1 =>
              intro t u hu
              have ht : t < 12 := by
                rcases Nat.lt_or_ge t 12 with h | h
                · exact h
                · rw [List.getElem?_eq_none (by simpa using h)] at hu; cases hu
              have : t = 0 ∨ t = 1 ∨ t = 2 ∨ t = 3 ∨ t = 4 ∨ t = 5 ∨ t = 6 ∨ t = 7 ∨ t = 8 ∨ t = 9 ∨ t = 10 ∨ t = 11 := by omega
              rcases this with rfl | rfl | rfl | rfl | rfl | rfl | rfl | rfl | rfl | rfl | rfl | rfl <;> simp at hu <;> subst hu <;> simp [go_sem, Addr.add]
            case c2 => exact fnd_one ⟨j, frm + k, ⟨2, 0, key, gen, k, ng, j, size, digB size, some ⟨b, 0, none⟩, 16, 16⟩⟩
            case c3 => have := Hlen2.out; unfold maxLen; omega
            case c4 => have := Hlen2.out; omega
            case c5 => have := hBd.size; simp; omega
            intro v' w12 hown' hg12 hnil'
            have hfin : OwnF w.heap.size w12 v' (zs2 ++ [⟨j, frm + k, ⟨2, 0, key, gen, k, ng, j, size, digB size, some ⟨b, 0, none⟩, 16, 16⟩⟩]) := by
              unfold OwnF
              rw [List.length_append, List.flatMap_append]
              exact hown'
            have hbf : Below w.heap.size w w12 := (hBd.alloc hBd.size _).grown hg12 (by have := hBd.size; simp; omega) (fun q e => (Hownd.out.lt q e).1)
            have Hfin := Lib.hid hfin
            have Hbf := Lib.hid hbf
            clear hfin hbf hown' hg12 hnil'
            gi_wp2_with fail
            go_roundw
            case rel => exact ⟨_, j + 1, by omega, rfl, Hfin.out, by rw [List.map_append, Hzs2.out, groupF_succ, List.append_assoc]; rfl, Hbf.out⟩
            case measure => simp [intOf]; omega
        · obtain rfl : j = 10 := by omega
          gi_wp2_with fail
          go_roundw
          case rel => exact ⟨zs2, k + 1, by omega, rfl, Hown2.out, by rw [Hzs2.out, copyTo_succ], hB2⟩
          case measure => simp [intOf]; omega
    · obtain rfl : k = ng := by omega
      gi_wp2_with fail
      go_ret
      exact ⟨_, zs, rfl, Hown.out, by rw [Hzs.out, HbL.out], hB⟩

end Go.Proofs.Ytbcefiefeobmcaa
