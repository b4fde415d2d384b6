/- The texts Ord, MapA, MapK, Late, LedA, FrA in one. -/
import Derived.Test.YtlamogpdkmbeoaaGreatDoorZbNote
import Derived.Shelf.SlSortCmp.NoneTotal
import Derived.Maps.RangeWalk
import Derived.Sort.MapsRangeIn
import Derived.RangeFuncGives
import Derived.OrdersHeld
import Derived.Test.YtlamogpdkmbeoaaGreatDoorProg
import Derived.DeepKeys4
import Derived.Carry
import Derived.Deep.RegionHeld
import Derived.Deep.AppendLies
import Derived.Shelf.SlIter.Collect
set_option linter.unusedVariables false
set_option linter.unusedSimpArgs false
set_option linter.unusedSectionVars false
section PartOrd
/- The walks of comparisons: 'cmp.Or', 'nameOf', 'compareNames'. -/
set_option maxRecDepth 100000
namespace Go.Proofs.YtlamogpdkmbeoaaGreatDoor
open Go.RowKit Go.Lib Go.Shelf

/-- Some draws on, some blocks laid: nothing else has turned. -/
def Grown (w w' : World) : Prop := ∃ (q : Nat) (os : Array Obj), w' = Sort.grow (w.drewN q) os
theorem Grown.refl (w : World) : Grown w w := ⟨0, #[], by simp [Sort.grow_empty]; rfl⟩
theorem Grown.alloc {w w' : World} (h : Grown w w') (o : Obj) : Grown w (w'.alloc o) := by
  obtain ⟨q, os, rfl⟩ := h
  exact ⟨q, os ++ #[o], by rw [Sort.alloc_eq_grow, Sort.grow_grow]⟩
theorem drewN_grow (w : World) (os : Array Obj) (m : Nat) : (Sort.grow w os).drewN m = Sort.grow (w.drewN m) os := rfl
theorem Grown.drewN {w w' : World} (h : Grown w w') (m : Nat) : Grown w (w'.drewN m) := by
  obtain ⟨q, os, rfl⟩ := h
  exact ⟨q + m, os, by rw [drewN_grow, World.drewN_drewN]⟩
theorem Grown.drew {w w' : World} (h : Grown w w') : Grown w w'.drew := h.drewN 1
theorem Grown.trans {a b c : World} (h : Grown a b) (k : Grown b c) : Grown a c := by
  obtain ⟨q, os, rfl⟩ := h
  obtain ⟨m, os', rfl⟩ := k
  exact ⟨q + m, os ++ os', by rw [drewN_grow, World.drewN_drewN, Sort.grow_grow]⟩
theorem Grown.below {w w' : World} (h : Grown w w') : Below w.heap.size w w' := by
  obtain ⟨q, os, rfl⟩ := h
  exact below_grown w q os

def orI (x y : Int) : Int := if x = 0 then y else x
theorem Or_any (x y : Int) (g : Nat) (w : World) (c0 : w.cell? ⟨g, 0, none⟩ = some (.int .i64 x)) (c1 : w.cell? ⟨g, 1, none⟩ = some (.int .i64 y)) :
    Calls Tryz.prog 68 #[.slice (some ⟨g, 0, none⟩) 2 2] w fun e w' => e = .returned (.int .i64 (orI x y)) ∧ w = w' := by
  unfold orI
  by_cases hx : x = 0
  · subst hx
    rw [if_pos rfl]
    by_cases hy : y = 0
    · subst hy
      go_enter Tryz.func68, Tryz.ntmps68
      go_wp2
      refine wp_loop_rounds 3 ?_
      rw [rounds_succ]
      go_wp2
      rw [rounds_succ]
      go_wp2
      rw [rounds_succ]
      go_wp2
      go_ret
      exact ⟨rfl, rfl⟩
    · have h1 : (y != 0) = true := by simp [hy]
      have h2 : (y == 0) = false := by simp [hy]
      go_enter Tryz.func68, Tryz.ntmps68
      go_wp2
      refine wp_loop_rounds 3 ?_
      rw [rounds_succ]
      go_wp2
      rw [rounds_succ]
      go_wp2
      go_ret
      exact ⟨rfl, rfl⟩
  · have h1 : (x != 0) = true := by simp [hx]
    have h2 : (x == 0) = false := by simp [hx]
    rw [if_neg hx]
    go_enter Tryz.func68, Tryz.ntmps68
    go_wp2
    refine wp_loop_rounds 3 ?_
    rw [rounds_succ]
    go_wp2
    go_ret
    exact ⟨rfl, rfl⟩

theorem nameOf_any (n : Nt) (w : World) : Calls Tryz.prog 54 #[n.val] w fun e w' => e = .returned (.agg #[.int .i64 n.judge, .int .i64 n.num]) ∧ Grown w w' := by
  obtain ⟨judge, num, clock, kind, call, version, ⟨lcall, cat, pow, cl, vj, vl⟩, aC, aN, bC, bN, rJ, rN, hash, prev⟩ := n
  dsimp only [Nt.val, Nt.enc]
  go_enter Tryz.func54, Tryz.ntmps54
  go_wp2
  have hB := Blk.new (w.alloc (.cells #[.int .i64 judge, .int .i64 num, .int .i64 clock, .int .i64 kind, .string call, .int .i64 version, .string lcall, .int .i64 cat, .int .i64 pow, .int .i64 cl, vj, vl, .string aC, .int .i64 aN, .string bC, .int .i64 bN, .int .i64 rJ, .int .i64 rN, .int .i64 hash, .int .i64 prev] 46)) 37 #[.int .i64 judge, .int .i64 num]
  rw [World.size_alloc] at hB
  exact bodyPost_ret (results_cell1b Tryz.results54 rfl hB Tryz.underlying37 rfl (by kernel_rfl)) rfl ⟨rfl, ((Grown.refl w).alloc _).alloc _⟩

def cmpName (a b c d : Int) : Int := orI (Lib.compareInt a c) (Lib.compareInt b d)
set_option maxHeartbeats 2000000 in
theorem compareNames_any (a b c d : Int) (w : World) : Calls Tryz.prog 36 #[.agg #[.int .i64 a, .int .i64 b], .agg #[.int .i64 c, .int .i64 d]] w fun e w' => e = .returned (.int .i64 (cmpName a b c d)) ∧ Grown w w' := by
  have h1 := fun W => Tryz.cmp_Compare_int a c W
  have h2 := fun W => Tryz.cmp_Compare_int b d W
  unfold cmpName
  generalize Lib.compareInt a c = x at h1 ⊢
  generalize Lib.compareInt b d = y at h2 ⊢
  obtain ⟨W, hW⟩ : ∃ W, (w.alloc (.cells #[.int .i64 a, .int .i64 b] 37)).alloc (.cells #[.int .i64 c, .int .i64 d] 37) = W := ⟨_, rfl⟩
  have hg : Grown w W := by rw [← hW]; exact ((Grown.refl w).alloc _).alloc _
  have hA : Blk W w.heap.size 37 #[.int .i64 a, .int .i64 b] := by rw [← hW]; exact (Blk.new w _ _).alloc _
  have hB : Blk W (w.heap.size + 1) 37 #[.int .i64 c, .int .i64 d] := by rw [← hW]; have := Blk.new (w.alloc (.cells #[.int .i64 a, .int .i64 b] 37)) 37 #[.int .i64 c, .int .i64 d]; rwa [World.size_alloc] at this
  have a0 : W.cell? ⟨w.heap.size, 0, none⟩ = some (.int .i64 a) := hA.cell 0
  have a1 : W.cell? ⟨w.heap.size, 1, none⟩ = some (.int .i64 b) := hA.cell 1
  have b0 : W.cell? ⟨w.heap.size + 1, 0, none⟩ = some (.int .i64 c) := hB.cell 0
  have b1 : W.cell? ⟨w.heap.size + 1, 1, none⟩ = some (.int .i64 d) := hB.cell 1
  have n0 : ¬ W.heap.size = w.heap.size := by have := hA.lt; omega
  have n1 : ¬ W.heap.size = w.heap.size + 1 := by have := hB.lt; omega
  have HG := Lib.hid hg
  clear hg hA hB
  go_enter Tryz.func36, Tryz.ntmps36
  go_wp2
  clear hW
  go_region_held3 (fun w' => w'.cell? ⟨w.heap.size, 0, none⟩ = some (.int .i64 a) ∧ w'.cell? ⟨w.heap.size, 1, none⟩ = some (.int .i64 b) ∧ w'.cell? ⟨w.heap.size + 1, 0, none⟩ = some (.int .i64 c) ∧ w'.cell? ⟨w.heap.size + 1, 1, none⟩ = some (.int .i64 d)) (go_keep) (first
    | (go_at_call 69; ((with_reducible refine (h1 _).mono ?_); rintro e w1 ⟨rfl, rfl⟩))
    | (go_at_call 69; ((with_reducible refine (h2 _).mono ?_); rintro e w1 ⟨rfl, rfl⟩))
    | (go_at_call 68; refine (Or_any x y W.heap.size _ (by simp) (by simp)).mono ?_; rintro e w1 ⟨rfl, rfl⟩))
  all_goals
    go_wp2
    go_ret
    exact ⟨rfl, (HG.out.alloc _).drew⟩

def cmpStr (a b : ByteArray) : Int := if Op.bytesLess a.toList b.toList then -1 else if a.toList == b.toList then 0 else 1
theorem isNaNS_any (s : ByteArray) (w : World) : Calls Tryz.prog 153 #[.string s] w fun e w' => e = .returned (.bool false) ∧ w = w' := by
  go_enter Tryz.func153, Tryz.ntmps153
  go_wp2
  go_ret
  exact ⟨by simp, rfl⟩
set_option maxHeartbeats 1000000 in
theorem CmpS_any (a b : ByteArray) (w : World) : Calls Tryz.prog 129 #[.string a, .string b] w fun e w' => e = .returned (.int .i64 (cmpStr a b)) ∧ w = w' := by
  unfold cmpStr
  cases h1 : Op.bytesLess a.toList b.toList
  · cases h2 : (a.toList == b.toList)
    · go_enter Tryz.func129, Tryz.ntmps129
      go_wp2_with (go_at_call 153; refine (isNaNS_any _ _).mono ?_; rintro e w1 ⟨rfl, rfl⟩)
      all_goals (first | (go_ret; exact ⟨by simp, rfl⟩) | (exfalso; simp_all))
    · go_enter Tryz.func129, Tryz.ntmps129
      go_wp2_with (go_at_call 153; refine (isNaNS_any _ _).mono ?_; rintro e w1 ⟨rfl, rfl⟩)
      all_goals (first | (go_ret; exact ⟨by simp, rfl⟩) | (exfalso; simp_all))
  · go_enter Tryz.func129, Tryz.ntmps129
    go_wp2_with (go_at_call 153; refine (isNaNS_any _ _).mono ?_; rintro e w1 ⟨rfl, rfl⟩)
    all_goals (first | (go_ret; exact ⟨by simp, rfl⟩) | (exfalso; simp_all))

def cmpMark (a : ByteArray) (b : Int) (c : ByteArray) (d : Int) : Int := orI (cmpStr a c) (Lib.compareInt b d)

set_option maxHeartbeats 2000000 in
theorem compareMarks_any (a : ByteArray) (b : Int) (c : ByteArray) (d : Int) (w : World) : Calls Tryz.prog 87 #[.agg #[.string a, .int .i64 b], .agg #[.string c, .int .i64 d]] w fun e w' => e = .returned (.int .i64 (cmpMark a b c d)) ∧ Grown w w' := by
  have h1 := fun W => CmpS_any a c W
  have h2 := fun W => Tryz.cmp_Compare_int b d W
  unfold cmpMark
  generalize cmpStr a c = x at h1 ⊢
  generalize Lib.compareInt b d = y at h2 ⊢
  obtain ⟨W, hW⟩ : ∃ W, (w.alloc (.cells #[.string a, .int .i64 b] 44)).alloc (.cells #[.string c, .int .i64 d] 44) = W := ⟨_, rfl⟩
  have hg : Grown w W := by rw [← hW]; exact ((Grown.refl w).alloc _).alloc _
  have hA : Blk W w.heap.size 44 #[.string a, .int .i64 b] := by rw [← hW]; exact (Blk.new w _ _).alloc _
  have hB : Blk W (w.heap.size + 1) 44 #[.string c, .int .i64 d] := by rw [← hW]; have := Blk.new (w.alloc (.cells #[.string a, .int .i64 b] 44)) 44 #[.string c, .int .i64 d]; rwa [World.size_alloc] at this
  have a0 : W.cell? ⟨w.heap.size, 0, none⟩ = some (.string a) := hA.cell 0
  have a1 : W.cell? ⟨w.heap.size, 1, none⟩ = some (.int .i64 b) := hA.cell 1
  have b0 : W.cell? ⟨w.heap.size + 1, 0, none⟩ = some (.string c) := hB.cell 0
  have b1 : W.cell? ⟨w.heap.size + 1, 1, none⟩ = some (.int .i64 d) := hB.cell 1
  have lt0 := hA.lt
  have lt1 := hB.lt
  have n0 : ¬ W.heap.size = w.heap.size := by omega
  have n1 : ¬ W.heap.size = w.heap.size + 1 := by omega
  have HG := Lib.hid hg
  clear hg hA hB
  go_enter Tryz.func87, Tryz.ntmps87
  go_wp2
  clear hW
  go_region_held3 (fun w' => w'.cell? ⟨w.heap.size, 0, none⟩ = some (.string a) ∧ w'.cell? ⟨w.heap.size, 1, none⟩ = some (.int .i64 b) ∧ w'.cell? ⟨w.heap.size + 1, 0, none⟩ = some (.string c) ∧ w'.cell? ⟨w.heap.size + 1, 1, none⟩ = some (.int .i64 d)) (go_keep) (first
    | (go_at_call 129; ((with_reducible refine (h1 _).mono ?_); rintro e w1 ⟨rfl, rfl⟩))
    | (go_at_call 69; ((with_reducible refine (h2 _).mono ?_); rintro e w1 ⟨rfl, rfl⟩))
    | (go_at_call 68; refine (Or_any x y W.heap.size _ (by simp) (by simp)).mono ?_; rintro e w1 ⟨rfl, rfl⟩))
  all_goals
    go_wp2
    go_ret
    exact ⟨rfl, (HG.out.alloc _).drew⟩

theorem duo_cells {W w1 : World} (h : Grown W w1) {g : Nat} {v0 v1 v2 v3 : Value} (hl : g < W.heap.size) (c0 : W.cell? ⟨g, 0, none⟩ = some v0) (c1 : W.cell? ⟨g, 1, none⟩ = some v1) (c2 : W.cell? ⟨g, 2, none⟩ = some v2) (c3 : W.cell? ⟨g, 3, none⟩ = some v3) :
    w1.cell? ⟨g, 0, none⟩ = some v0 ∧ w1.cell? ⟨g, 1, none⟩ = some v1 ∧ w1.cell? ⟨g, 2, none⟩ = some v2 ∧ w1.cell? ⟨g, 3, none⟩ = some v3 :=
  ⟨(h.below.cell (p := ⟨g, 0, none⟩) hl).trans c0, (h.below.cell (p := ⟨g, 1, none⟩) hl).trans c1, (h.below.cell (p := ⟨g, 2, none⟩) hl).trans c2, (h.below.cell (p := ⟨g, 3, none⟩) hl).trans c3⟩

def cmpDuo (a : ByteArray) (b : Int) (c : ByteArray) (d : Int) (a2 : ByteArray) (b2 : Int) (c2 : ByteArray) (d2 : Int) : Int := orI (cmpMark a b a2 b2) (cmpMark c d c2 d2)

set_option maxHeartbeats 2000000 in
theorem compareDuos_any (a : ByteArray) (b : Int) (c : ByteArray) (d : Int) (a2 : ByteArray) (b2 : Int) (c2 : ByteArray) (d2 : Int) (w : World) : Calls Tryz.prog 90 #[.agg #[.string a, .int .i64 b, .string c, .int .i64 d], .agg #[.string a2, .int .i64 b2, .string c2, .int .i64 d2]] w fun e w' => e = .returned (.int .i64 (cmpDuo a b c d a2 b2 c2 d2)) ∧ Grown w w' := by
  have h1 := fun W => compareMarks_any a b a2 b2 W
  have h2 := fun W => compareMarks_any c d c2 d2 W
  unfold cmpDuo
  generalize cmpMark a b a2 b2 = x at h1 ⊢
  generalize cmpMark c d c2 d2 = y at h2 ⊢
  obtain ⟨W, hW⟩ : ∃ W, (w.alloc (.cells #[.string a, .int .i64 b, .string c, .int .i64 d] 48)).alloc (.cells #[.string a2, .int .i64 b2, .string c2, .int .i64 d2] 48) = W := ⟨_, rfl⟩
  have hg : Grown w W := by rw [← hW]; exact ((Grown.refl w).alloc _).alloc _
  have hA : Blk W w.heap.size 48 #[.string a, .int .i64 b, .string c, .int .i64 d] := by rw [← hW]; exact (Blk.new w _ _).alloc _
  have hB : Blk W (w.heap.size + 1) 48 #[.string a2, .int .i64 b2, .string c2, .int .i64 d2] := by rw [← hW]; have := Blk.new (w.alloc (.cells #[.string a, .int .i64 b, .string c, .int .i64 d] 48)) 48 #[.string a2, .int .i64 b2, .string c2, .int .i64 d2]; rwa [World.size_alloc] at this
  have a0 : W.cell? ⟨w.heap.size, 0, none⟩ = some (.string a) := hA.cell 0
  have a1 : W.cell? ⟨w.heap.size, 1, none⟩ = some (.int .i64 b) := hA.cell 1
  have a2' : W.cell? ⟨w.heap.size, 2, none⟩ = some (.string c) := hA.cell 2
  have a3 : W.cell? ⟨w.heap.size, 3, none⟩ = some (.int .i64 d) := hA.cell 3
  have b0 : W.cell? ⟨w.heap.size + 1, 0, none⟩ = some (.string a2) := hB.cell 0
  have b1 : W.cell? ⟨w.heap.size + 1, 1, none⟩ = some (.int .i64 b2) := hB.cell 1
  have b2' : W.cell? ⟨w.heap.size + 1, 2, none⟩ = some (.string c2) := hB.cell 2
  have b3 : W.cell? ⟨w.heap.size + 1, 3, none⟩ = some (.int .i64 d2) := hB.cell 3
  have lt0 := hA.lt
  have lt1 := hB.lt
  have n0 : ¬ W.heap.size = w.heap.size := by omega
  have n1 : ¬ W.heap.size = w.heap.size + 1 := by omega
  have HG := Lib.hid hg
  clear hg hA hB
  go_enter Tryz.func90, Tryz.ntmps90
  go_wp2
  clear hW
  go_region_held3 (fun w' => w'.cell? ⟨w.heap.size, 0, none⟩ = some (.string a) ∧ w'.cell? ⟨w.heap.size, 1, none⟩ = some (.int .i64 b) ∧ w'.cell? ⟨w.heap.size, 2, none⟩ = some (.string c) ∧ w'.cell? ⟨w.heap.size, 3, none⟩ = some (.int .i64 d) ∧ w'.cell? ⟨w.heap.size + 1, 0, none⟩ = some (.string a2) ∧ w'.cell? ⟨w.heap.size + 1, 1, none⟩ = some (.int .i64 b2) ∧ w'.cell? ⟨w.heap.size + 1, 2, none⟩ = some (.string c2) ∧ w'.cell? ⟨w.heap.size + 1, 3, none⟩ = some (.int .i64 d2)) (go_keep) (first
    | (go_at_call 87; ((with_reducible refine (h1 _).mono ?_); rintro e w1 ⟨rfl, hg1⟩); obtain ⟨k1, k2, k3, k4⟩ := duo_cells hg1 lt0 a0 a1 a2' a3; obtain ⟨j1, j2, j3, j4⟩ := duo_cells hg1 lt1 b0 b1 b2' b3; have z1 := hg1.below.size; have m0 : ¬ w1.heap.size = w.heap.size := (by simp at z1; omega); have m1 : ¬ w1.heap.size = w.heap.size + 1 := (by simp at z1; omega))
    | (go_at_call 87; ((with_reducible refine (h2 _).mono ?_); rintro e w2 ⟨rfl, hg2⟩); have lq0 : w.heap.size < w1.heap.size := (by have := hg1.below.size; simp at this; omega); have lq1 : w.heap.size + 1 < w1.heap.size := (by have := hg1.below.size; simp at this; omega); obtain ⟨k5, k6, k7, k8⟩ := duo_cells hg2 lq0 k1 k2 k3 k4; obtain ⟨j5, j6, j7, j8⟩ := duo_cells hg2 lq1 j1 j2 j3 j4; have z2 := hg2.below.size; have m2 : ¬ w2.heap.size = w.heap.size := (by omega); have m3 : ¬ w2.heap.size = w.heap.size + 1 := (by omega))
    | (go_at_call 68; refine (Or_any x y w2.heap.size _ (by simp) (by simp)).mono ?_; rintro e w3 ⟨rfl, rfl⟩))
  all_goals
    go_wp2
    go_ret
    exact ⟨rfl, (((HG.out.drew.trans hg1).trans hg2).alloc _)⟩

def cmpWhen (n m : Nt) : Int := orI (Lib.compareInt n.clock m.clock) (cmpName n.judge n.num m.judge m.num)
set_option maxHeartbeats 4000000 in
theorem when_any (n m : Nt) (w : World) : Calls Tryz.prog 63 #[n.val, m.val] w fun e w' => e = .returned (.int .i64 (cmpWhen n m)) ∧ Grown w w' := by
  have h1 := fun W => Tryz.cmp_Compare_int n.clock m.clock W
  have h2 := fun W => nameOf_any n W
  have h3 := fun W => nameOf_any m W
  have h4 := fun W => compareNames_any n.judge n.num m.judge m.num W
  unfold cmpWhen
  generalize Lib.compareInt n.clock m.clock = x at h1 ⊢
  generalize cmpName n.judge n.num m.judge m.num = y at h4 ⊢
  obtain ⟨judge, num, clock, kind, call, version, ⟨lcall, cat, pow, cl, vj, vl⟩, aC, aN, bC, bN, rJ, rN, hash, prev⟩ := n
  obtain ⟨judge2, num2, clock2, kind2, call2, version2, ⟨lcall2, cat2, pow2, cl2, vj2, vl2⟩, aC2, aN2, bC2, bN2, rJ2, rN2, hash2, prev2⟩ := m
  dsimp only [Nt.val, Nt.enc] at h1 h2 h3 h4 ⊢
  have U46 := Tryz.underlying46
  obtain ⟨W, hW⟩ : ∃ W, (w.alloc (.cells #[.int .i64 judge, .int .i64 num, .int .i64 clock, .int .i64 kind, .string call, .int .i64 version, .string lcall, .int .i64 cat, .int .i64 pow, .int .i64 cl, vj, vl, .string aC, .int .i64 aN, .string bC, .int .i64 bN, .int .i64 rJ, .int .i64 rN, .int .i64 hash, .int .i64 prev] 46)).alloc (.cells #[.int .i64 judge2, .int .i64 num2, .int .i64 clock2, .int .i64 kind2, .string call2, .int .i64 version2, .string lcall2, .int .i64 cat2, .int .i64 pow2, .int .i64 cl2, vj2, vl2, .string aC2, .int .i64 aN2, .string bC2, .int .i64 bN2, .int .i64 rJ2, .int .i64 rN2, .int .i64 hash2, .int .i64 prev2] 46) = W := ⟨_, rfl⟩
  have hg : Grown w W := by rw [← hW]; exact ((Grown.refl w).alloc _).alloc _
  have hA : Blk W w.heap.size 46 #[.int .i64 judge, .int .i64 num, .int .i64 clock, .int .i64 kind, .string call, .int .i64 version, .string lcall, .int .i64 cat, .int .i64 pow, .int .i64 cl, vj, vl, .string aC, .int .i64 aN, .string bC, .int .i64 bN, .int .i64 rJ, .int .i64 rN, .int .i64 hash, .int .i64 prev] := by rw [← hW]; exact (Blk.new w _ _).alloc _
  have hB : Blk W (w.heap.size + 1) 46 #[.int .i64 judge2, .int .i64 num2, .int .i64 clock2, .int .i64 kind2, .string call2, .int .i64 version2, .string lcall2, .int .i64 cat2, .int .i64 pow2, .int .i64 cl2, vj2, vl2, .string aC2, .int .i64 aN2, .string bC2, .int .i64 bN2, .int .i64 rJ2, .int .i64 rN2, .int .i64 hash2, .int .i64 prev2] := by rw [← hW]; have := Blk.new (w.alloc (.cells #[.int .i64 judge, .int .i64 num, .int .i64 clock, .int .i64 kind, .string call, .int .i64 version, .string lcall, .int .i64 cat, .int .i64 pow, .int .i64 cl, vj, vl, .string aC, .int .i64 aN, .string bC, .int .i64 bN, .int .i64 rJ, .int .i64 rN, .int .i64 hash, .int .i64 prev] 46)) 46 #[.int .i64 judge2, .int .i64 num2, .int .i64 clock2, .int .i64 kind2, .string call2, .int .i64 version2, .string lcall2, .int .i64 cat2, .int .i64 pow2, .int .i64 cl2, vj2, vl2, .string aC2, .int .i64 aN2, .string bC2, .int .i64 bN2, .int .i64 rJ2, .int .i64 rN2, .int .i64 hash2, .int .i64 prev2]; rwa [World.size_alloc] at this
  go_enter Tryz.func63, Tryz.ntmps63
  go_upto_region 1 with fail
  clear hW
  have HG := Lib.hid hg
  clear hg
  refine wp_region_held_drew (S := (fun w' => Blk w' w.heap.size 46 #[.int .i64 judge, .int .i64 num, .int .i64 clock, .int .i64 kind, .string call, .int .i64 version, .string lcall, .int .i64 cat, .int .i64 pow, .int .i64 cl, vj, vl, .string aC, .int .i64 aN, .string bC, .int .i64 bN, .int .i64 rJ, .int .i64 rN, .int .i64 hash, .int .i64 prev] ∧ Blk w' (w.heap.size + 1) 46 #[.int .i64 judge2, .int .i64 num2, .int .i64 clock2, .int .i64 kind2, .string call2, .int .i64 version2, .string lcall2, .int .i64 cat2, .int .i64 pow2, .int .i64 cl2, vj2, vl2, .string aC2, .int .i64 aN2, .string bC2, .int .i64 bN2, .int .i64 rJ2, .int .i64 rN2, .int .i64 hash2, .int .i64 prev2])) (by kernel_rfl) ?hS1 (fun hHeld => ?_)
  case hS1 => exact ⟨hA.drew, hB.drew⟩
  refine tk3 (i := 0) ?_; try simp only [Act.put, zq]
  refine tk1 (i := 1) (v := ?v1_2) ?hy1_2 ?_
  case hy1_2 => ((intro w9 hSw; have e0 : w9.cell? ⟨w.heap.size, 2, none⟩ = some (.int .i64 clock) := hSw.1.cell 2; go_simp) <;> with_reducible rfl)
  (try simp only [Act.put, zq])
  refine tk3 (i := 2) ?_; try simp only [Act.put, zq]
  refine tk1 (i := 3) (v := ?v1_4) ?hy1_4 ?_
  case hy1_4 => ((intro w9 hSw; have e0 : w9.cell? ⟨w.heap.size + 1, 2, none⟩ = some (.int .i64 clock2) := hSw.2.cell 2; go_simp) <;> with_reducible rfl)
  (try simp only [Act.put, zq])
  refine tk4 (i := 5) (fun w9 hSw => hSw.1) ?_; try simp only [Act.put, zq]
  refine tk4 (i := 7) (fun w9 hSw => hSw.2) ?_; try simp only [Act.put, zq]
  refine wpAnyH_ready (rs := [4]) (by kernel_rfl) (by simp) ?_
  refine AllReadyH.cons rfl (fun K hK => ?_) AllReadyH.nil
  go_simp
  (go_at_call 69; refine (h1 _).mono ?_; rintro e w0 ⟨rfl, rfl⟩)
  go_wp2_with fail
  refine hK.out _ _ ?hS1_7 (fun hHeld => ?_)
  case hS1_7 => ((try dsimp only); exact ⟨hA.drew, hB.drew⟩)
  clear hK K
  (try simp only [Act.put, zq])
  refine wpAnyH_ready (rs := [6]) (by kernel_rfl) (by simp) ?_
  refine AllReadyH.cons rfl (fun K hK => ?_) AllReadyH.nil
  go_simp
  (go_at_call 54; ((with_reducible refine (h2 _).mono ?_); rintro e w1 ⟨rfl, hg1⟩); have hA1 := hA.drew.later hg1.below; have hB1 := hB.drew.later hg1.below)
  go_wp2_with fail
  refine hK.out _ _ ?hS1_8 (fun hHeld => ?_)
  case hS1_8 => ((try dsimp only); exact ⟨hA1, hB1⟩)
  clear hK K
  (try simp only [Act.put, zq])
  refine wpAnyH_ready (rs := [8]) (by kernel_rfl) (by simp) ?_
  refine AllReadyH.cons rfl (fun K hK => ?_) AllReadyH.nil
  go_simp
  (go_at_call 54; ((with_reducible refine (h3 _).mono ?_); rintro e w2 ⟨rfl, hg2⟩); have hA2 := hA1.later hg2.below; have hB2 := hB1.later hg2.below)
  go_wp2_with fail
  refine hK.out _ _ ?hS1_9 (fun hHeld => ?_)
  case hS1_9 => ((try dsimp only); exact ⟨hA2, hB2⟩)
  clear hK K
  (try simp only [Act.put, zq])
  refine wpAnyH_ready (rs := [9]) (by kernel_rfl) (by simp) ?_
  refine AllReadyH.cons rfl (fun K hK => ?_) AllReadyH.nil
  go_simp
  (go_at_call 36; refine (h4 _).mono ?_; rintro e w3 ⟨rfl, hg3⟩; have hA3 := hA2.later hg3.below; have hB3 := hB2.later hg3.below)
  go_wp2_with fail
  refine hK.out _ _ ?hS1_10 (fun hHeld => ?_)
  case hS1_10 => ((try dsimp only); exact ⟨hA3, hB3⟩)
  clear hK K
  (try simp only [Act.put, zq])
  refine wpAnyH_ready (rs := [10]) (by kernel_rfl) (by simp) ?_
  refine AllReadyH.cons rfl (fun K hK => ?_) AllReadyH.nil
  go_simp
  refine hK.out _ _ ?hS1_11 (fun hHeld => ?_)
  case hS1_11 => ((try dsimp only); exact ⟨hA3.alloc _, hB3.alloc _⟩)
  clear hK K
  (try simp only [Act.put, zq])
  refine wpAnyH_ready (rs := [11]) (by kernel_rfl) (by simp) ?_
  refine AllReadyH.cons rfl (fun K hK => ?_) AllReadyH.nil
  go_simp
  (go_at_call 68; refine (Or_any x y w3.heap.size _ (by simp) (by simp)).mono ?_; rintro e w4 ⟨rfl, rfl⟩)
  go_wp2_with fail
  refine hK.out _ _ ?hS1_12 (fun hHeld => ?_)
  case hS1_12 => ((try dsimp only); exact ⟨hA3.alloc _, hB3.alloc _⟩)
  clear hK K
  (try simp only [Act.put, zq])
  refine tk3 (i := 12) ?_; try simp only [Act.put, zq]
  refine wpAnyH_done (by kernel_rfl) ?_ _
  go_wp2
  go_ret
  exact ⟨rfl, ((((HG.out.drew).trans hg1).trans hg2).trans hg3).alloc _⟩
end Go.Proofs.YtlamogpdkmbeoaaGreatDoor
end PartOrd

section PartMapA
/- A map's block as a list of pairs: what a lookup finds, what a store leaves, what a range hands out. -/
namespace Go.Proofs.YtlamogpdkmbeoaaGreatDoor
open Go.RowKit Go.Maps Go.MapKept
open Go.ChangeMaps (setBlock modify_eq_set heap_setBlock_same heap_setBlock_other)

section
variable {P : Program} {κ ν : Type} [DecidableEq κ]

def putM : List (κ × ν) → κ → ν → List (κ × ν)
  | [], x, y => [(x, y)]
  | p :: r, x, y => if p.1 = x then (x, y) :: r else p :: putM r x y
def getM : List (κ × ν) → κ → Option ν
  | [], _ => none
  | p :: r, x => if p.1 = x then some p.2 else getM r x

theorem getM_none : ∀ {m : List (κ × ν)} {x : κ}, (∀ p ∈ m, p.1 ≠ x) → getM m x = none
  | [], _, _ => rfl
  | p :: r, x, h => by
    unfold getM
    rw [if_neg (h p (by simp))]
    exact getM_none (fun q hq => h q (by simp [hq]))
theorem putM_none : ∀ {m : List (κ × ν)} {x : κ} (y : ν), (∀ p ∈ m, p.1 ≠ x) → putM m x y = m ++ [(x, y)]
  | [], _, _, _ => rfl
  | p :: r, x, y, h => by
    unfold putM
    rw [if_neg (h p (by simp)), putM_none y (fun q hq => h q (by simp [hq]))]
    rfl
theorem getM_at : ∀ {m : List (κ × ν)} {x : κ} {j : Nat} {p : κ × ν}, m.Pairwise (fun a b => a.1 ≠ b.1) → m[j]? = some p → p.1 = x → getM m x = some p.2
  | [], x, j, p, _, h, _ => by simp at h
  | q :: r, x, 0, p, _, h, hp => by
    simp at h
    subst h
    unfold getM
    rw [if_pos hp]
  | q :: r, x, j + 1, p, hd, h, hp => by
    obtain ⟨h1, h2⟩ := List.pairwise_cons.1 hd
    simp at h
    unfold getM
    rw [if_neg (fun e => h1 p (List.mem_of_getElem? h) (e.trans hp.symm))]
    exact getM_at h2 h hp
theorem putM_at : ∀ {m : List (κ × ν)} {x : κ} {j : Nat} {p : κ × ν} (y : ν), m.Pairwise (fun a b => a.1 ≠ b.1) → m[j]? = some p → p.1 = x → putM m x y = m.set j (x, y)
  | [], x, j, p, _, _, h, _ => by simp at h
  | q :: r, x, 0, p, y, _, h, hp => by
    simp at h
    subst h
    unfold putM
    rw [if_pos hp]
    rfl
  | q :: r, x, j + 1, p, y, hd, h, hp => by
    obtain ⟨h1, h2⟩ := List.pairwise_cons.1 hd
    simp at h
    unfold putM
    rw [if_neg (fun e => h1 p (List.mem_of_getElem? h) (e.trans hp.symm)), putM_at y h2 h hp]
    rfl

/-- Block b is a map whose entries are m, in the order of their laying. -/
structure MapIs (w : World) (P : Program) (k : TypeId) (kenc : κ → Value) (venc : ν → Value) (b : Nat) (m : List (κ × ν)) (es : Array MapEntry) (clock : Nat) : Prop where
  at_ : w.heap[b]? = some (.map es clock)
  stamped : Stamped es clock
  shape : es.toList.map (fun e => (e.key, e.val)) = m.map (fun p => (kenc p.1, venc p.2))
  keys : ∀ p ∈ m, ∃ l, keyOf P k (kenc p.1) = some l
  inj : ∀ x y, kenc x = kenc y → x = y
def MapOf (w : World) (P : Program) (k : TypeId) (kenc : κ → Value) (venc : ν → Value) (b : Nat) (m : List (κ × ν)) : Prop := ∃ es clock, MapIs w P k kenc venc b m es clock

variable {w w' : World} {k : TypeId} {kenc : κ → Value} {venc : ν → Value} {b : Nat} {m : List (κ × ν)}

theorem MapOf.made (w : World) (hinj : ∀ x y, kenc x = kenc y → x = y) : MapOf (w.alloc (.map #[] 0)) P k kenc venc w.heap.size [] :=
  ⟨#[], 0, (MapKept.heap_alloc w _).1, stamped_empty 0, rfl, by simp, hinj⟩
theorem MapOf.lt (h : MapOf w P k kenc venc b m) : b < w.heap.size := by
  obtain ⟨es, clock, hb, _⟩ := h
  exact (Array.getElem?_eq_some_iff.1 hb).1
theorem MapOf.walk (h : MapOf w P k kenc venc b m) : ∃ o : Obj, w.heap[b]? = some o ∧ o.isWalk = true := by
  obtain ⟨es, clock, h⟩ := h
  exact ⟨_, h.at_, rfl⟩
theorem MapOf.kept {row : Option Nat} (h : MapOf w P k kenc venc b m) (hg : w.grownBy w' row) (hne : some b ≠ row) : MapOf w' P k kenc venc b m := by
  have hlt := h.lt
  obtain ⟨es, clock, h⟩ := h
  exact ⟨es, clock, (hg.block b hlt hne).trans h.at_, h.stamped, h.shape, h.keys, h.inj⟩
theorem MapOf.block (h : MapOf w P k kenc venc b m) (hb : w'.heap[b]? = w.heap[b]?) : MapOf w' P k kenc venc b m := by
  obtain ⟨es, clock, h⟩ := h
  exact ⟨es, clock, hb.trans h.at_, h.stamped, h.shape, h.keys, h.inj⟩
theorem MapOf.walks (h : MapOf w P k kenc venc b m) (hk : KeepsWalks w w') : MapOf w' P k kenc venc b m := by
  obtain ⟨es, clock, h⟩ := h
  exact ⟨es, clock, hk.same b _ h.at_ rfl, h.stamped, h.shape, h.keys, h.inj⟩
theorem MapIs.size {es : Array MapEntry} {clock : Nat} (h : MapIs w P k kenc venc b m es clock) : es.size = m.length := by
  have := congrArg List.length h.shape
  simpa using this
theorem MapIs.get {es : Array MapEntry} {clock : Nat} (h : MapIs w P k kenc venc b m es clock) {j : Nat} {e : MapEntry} (he : es.toList[j]? = some e) : ∃ p, m[j]? = some p ∧ e.key = kenc p.1 ∧ e.val = venc p.2 := by
  have := congrArg (fun l : List (Value × Value) => l[j]?) h.shape
  simp only [List.getElem?_map, he, Option.map_some] at this
  cases hm : m[j]? with
  | none => rw [hm] at this; simp at this
  | some p =>
    rw [hm] at this
    simp at this
    exact ⟨p, rfl, this.1, this.2⟩
theorem MapIs.get' {es : Array MapEntry} {clock : Nat} (h : MapIs w P k kenc venc b m es clock) {j : Nat} {p : κ × ν} (hp : m[j]? = some p) : ∃ e, es.toList[j]? = some e ∧ e.key = kenc p.1 ∧ e.val = venc p.2 := by
  have := congrArg (fun l : List (Value × Value) => l[j]?) h.shape
  simp only [List.getElem?_map, hp, Option.map_some] at this
  cases hm : es.toList[j]? with
  | none => rw [hm] at this; simp at this
  | some e =>
    rw [hm] at this
    simp at this
    exact ⟨e, rfl, this.1, this.2⟩
theorem MapIs.apart {es : Array MapEntry} {clock : Nat} (h : MapIs w P k kenc venc b m es clock) : m.Pairwise (fun a b => a.1 ≠ b.1) := by
  have hst := h.stamped.2.2
  have e1 : es.toList.map (·.key) = m.map (fun p => kenc p.1) := by
    have := congrArg (List.map Prod.fst) h.shape
    simpa [Function.comp_def] using this
  rw [e1] at hst
  exact ((List.pairwise_map.1 hst).imp (fun {a b} hab e => hab (by rw [e])))
theorem MapOf.apart (h : MapOf w P k kenc venc b m) : m.Pairwise (fun a b => a.1 ≠ b.1) := by
  obtain ⟨es, clock, h⟩ := h
  exact h.apart
theorem MapIs.all_keys {es : Array MapEntry} {clock : Nat} (h : MapIs w P k kenc venc b m es clock) : ∀ e ∈ es.toList, ∃ l, keyOf P k e.key = some l := fun e he => by
  obtain ⟨j, hj⟩ := List.getElem?_of_mem he
  obtain ⟨p, hp, hk, _⟩ := h.get hj
  rw [hk]
  exact h.keys p (List.mem_of_getElem? hp)

/-- The two ways of a search. -/
theorem MapIs.find {es : Array MapEntry} {clock : Nat} (h : MapIs w P k kenc venc b m es clock) (K : Keyed P k) (W : World) (x : κ) {lx : Lit} (hx : keyOf P k (kenc x) = some lx) :
    ((Instr.findKey k (kenc x) es.toList).run P W = .ok none W ∧ (∀ e ∈ es.toList, e.key ≠ kenc x) ∧ ∀ p ∈ m, p.1 ≠ x) ∨
    ∃ j e p, (Instr.findKey k (kenc x) es.toList).run P W = .ok (some (j, e.val)) W ∧ es.toList[j]? = some e ∧ m[j]? = some p ∧ e.key = kenc x ∧ p.1 = x ∧ e.val = venc p.2 := by
  rcases K.find W hx es.toList h.all_keys with ⟨h1, h2⟩ | ⟨j, e0, h1, h2, h3⟩
  · refine .inl ⟨h1, h2, fun p hp e => ?_⟩
    obtain ⟨j, hj⟩ := List.getElem?_of_mem hp
    obtain ⟨e', he', hk', _⟩ := h.get' hj
    exact h2 e' (List.mem_of_getElem? he') (by rw [hk', e])
  · obtain ⟨p, hp, hk, hv⟩ := h.get h2
    exact .inr ⟨j, e0, p, h1, h2, hp, h3, h.inj _ _ (by rw [← hk, h3]), hv⟩

/-- What a lookup hands out. -/
def lookV (venc : ν → Value) (z : Value) (c : Bool) (r : Option ν) : Value :=
  match r with
  | some y => if c then .tuple #[venc y, .bool true] else venc y
  | none => if c then .tuple #[z, .bool false] else z
theorem MapOf.lookup {t e : TypeId} (c : Bool) (h : MapOf w P k kenc venc b m) (K : Keyed P k) (ht : P.underlying t = some (.map k e)) {z : Value} (hz : (zeroValue e).run P w = .ok z w) (x : κ) (hx : ∃ l, keyOf P k (kenc x) = some l) :
    (Instr.lookup t (.map (some b)) (kenc x) c).run P w = .ok (lookV venc z c (getM m x)) w := by
  obtain ⟨es, clock, h⟩ := h
  obtain ⟨lx, hx⟩ := hx
  rcases h.find K w x hx with ⟨h1, h2, h3⟩ | ⟨j, e0, p, h1, h2, h3, h4, h5, h6⟩
  · rw [getM_none h3]
    simp [Instr.lookup, run_underlying ht, MapKept.run_getObj_map h.at_, K.check w _ hx, h1, hz, Result.andThen, lookV]
  · rw [getM_at h.apart h3 h5]
    simp [Instr.lookup, run_underlying ht, MapKept.run_getObj_map h.at_, K.check w _ hx, h1, h6, Result.andThen, lookV]
theorem MapOf.update {t e : TypeId} (h : MapOf w P k kenc venc b m) (K : Keyed P k) (ht : P.underlying t = some (.map k e)) (x : κ) (y : ν) (hx : ∃ l, keyOf P k (kenc x) = some l) :
    ∃ w', (Instr.mapUpdate t (.map (some b)) (kenc x) (venc y)).run P w = .ok () w' ∧ MapOf w' P k kenc venc b (putM m x y) ∧ w.grownBy w' (some b) ∧ w'.heap.size = w.heap.size := by
  obtain ⟨es, clock, h⟩ := h
  obtain ⟨lx, hx⟩ := hx
  have hb := h.at_
  rcases h.find K w x hx with ⟨h1, h2, h3⟩ | ⟨j, e0, p, h1, h2, h3, h4, h5, h6⟩
  · refine ⟨setBlock w b (.map (es.push ⟨kenc x, venc y, clock⟩) (clock + 1)), ?_, ⟨_, _, heap_setBlock_same hb _, stamped_push h.stamped h2, ?_, ?_, h.inj⟩, ⟨rfl, rfl, rfl, by simp [setBlock], fun i _ hi => heap_setBlock_other hb _ (fun e => hi (by rw [e]))⟩, by simp [setBlock]⟩
    · simp [Instr.mapUpdate, run_underlying ht, MapKept.run_getObj_map hb, K.check w false hx, h1, MapKept.run_setObj_map _ hb, Result.andThen, setBlock]
    · rw [putM_none y h3]
      simp [h.shape]
    · intro q hq
      rw [putM_none y h3] at hq
      rcases List.mem_append.1 hq with hq | hq
      · exact h.keys q hq
      · simp at hq
        subst hq
        exact ⟨lx, hx⟩
  · have hj : es[j]? = some e0 := by simpa using h2
    have hlist : (es.modify j (fun e' => { e' with key := kenc x, val := venc y })).toList = es.toList.set j { e0 with key := kenc x, val := venc y } := by rw [Array.toList_modify, modify_eq_set _ _ _ _ h2]
    have hkeyf : ∀ e', es[j]? = some e' → ({ e' with key := kenc x, val := venc y } : MapEntry).key = e'.key := fun e' he' => by rw [hj] at he'; cases he'; exact h4.symm
    refine ⟨setBlock w b (.map (es.modify j (fun e' => { e' with key := kenc x, val := venc y })) clock), ?_, ⟨_, _, heap_setBlock_same hb _, stamped_modify h.stamped _ _ (fun _ _ => rfl) (fun e' _ he' => hkeyf e' he'), ?_, ?_, h.inj⟩, ⟨rfl, rfl, rfl, by simp [setBlock], fun i _ hi => heap_setBlock_other hb _ (fun e => hi (by rw [e]))⟩, by simp [setBlock]⟩
    · simp [Instr.mapUpdate, run_underlying ht, MapKept.run_getObj_map hb, K.check w false hx, h1, hj, h4, K.stays w hx, MapKept.run_setObj_map _ hb, Result.andThen, setBlock]
    · rw [putM_at y h.apart h3 h5, hlist, List.map_set, List.map_set, h.shape]
    · intro q hq
      rw [putM_at y h.apart h3 h5] at hq
      rcases List.mem_or_eq_of_mem_set hq with hq | rfl
      · exact h.keys q hq
      · exact ⟨lx, hx⟩
theorem putM_length_le (m : List (κ × ν)) (x : κ) (y : ν) : (putM m x y).length ≤ m.length + 1 := by
  induction m with
  | nil => simp [putM]
  | cons p r ih =>
    unfold putM
    split
    · simp
    · simpa using ih
theorem mem_putM {m : List (κ × ν)} {x : κ} {y : ν} {q : κ × ν} (h : q ∈ putM m x y) : q = (x, y) ∨ q ∈ m := by
  induction m with
  | nil => simp [putM] at h; exact .inl h
  | cons p r ih =>
    unfold putM at h
    split at h
    · rcases List.mem_cons.1 h with h | h
      · exact .inl h
      · exact .inr (by simp [h])
    · rcases List.mem_cons.1 h with rfl | h
      · exact .inr (by simp)
      · rcases ih h with h | h
        · exact .inl h
        · exact .inr (by simp [h])
theorem getM_put (m : List (κ × ν)) (x z : κ) (y : ν) : getM (putM m x y) z = if x = z then some y else getM m z := by
  induction m with
  | nil => simp [putM, getM]
  | cons p r ih =>
    unfold putM
    by_cases hp : p.1 = x
    · rw [if_pos hp]
      unfold getM
      by_cases hz : x = z
      · simp [hz]
      · have : p.1 ≠ z := fun e => hz (hp.symm.trans e)
        simp [hz, this]
    · rw [if_neg hp]
      unfold getM
      by_cases hz : p.1 = z
      · have : x ≠ z := fun e => hp (hz.trans e.symm)
        simp [hz, this]
      · simp only [if_neg hz]
        exact ih

/-! At the operation -/
theorem wp_mapUpdate_of {w : World} {o : Oper} {a : Act} {K' : Act → World → Prop} {Q : Exit → Act → World → Prop}
    (mm x v : Operand) (t : TypeId) (hop : o.op = Op.mapUpdate t mm x v) (e : TypeId) (K : Keyed P k) (ht : P.underlying t = some (.map k e))
    (hm : a.eval mm = .map (some b)) (hown : MapOf w P k kenc venc b m) (key : κ) (val : ν) (hx : a.eval x = kenc key) (hv : a.eval v = venc val) (hkey : ∃ l, keyOf P k (kenc key) = some l)
    (hK : ∀ w', MapOf w' P k kenc venc b (putM m key val) → w.grownBy w' (some b) → w'.heap.size = w.heap.size → K' (a.put o.dst undef) w') : o.wp P a w K' Q := by
  obtain ⟨w', hrun, r1, r2, r3⟩ := hown.update K ht key val hkey
  unfold Oper.wp
  simp [execOp, hop, hm, hx, hv, hrun, Result.andThen]
  exact hK w' r1 r2 r3
theorem wpList_mapUpdate_of {w : World} {ops : Array Oper} {rest : List Oper} {o : Oper} {a : Act} {Q : Exit → Act → World → Prop} (hg : o.guard = none)
    (mm x v : Operand) (t : TypeId) (hop : o.op = Op.mapUpdate t mm x v) (e : TypeId) (K : Keyed P k) (ht : P.underlying t = some (.map k e))
    (hm : a.eval mm = .map (some b)) (hown : MapOf w P k kenc venc b m) (key : κ) (val : ν) (hx : a.eval x = kenc key) (hv : a.eval v = venc val) (hkey : ∃ l, keyOf P k (kenc key) = some l)
    (hK : ∀ w', MapOf w' P k kenc venc b (putM m key val) → w.grownBy w' (some b) → w'.heap.size = w.heap.size → wpList P ops Q rest (a.put o.dst undef) w') :
    wpList P ops Q (o :: rest) a w :=
  wpList_plain hg fun _ hK' => wp_mapUpdate_of mm x v t hop e K ht hm hown key val hx hv hkey (fun w' r1 r2 r3 => hK' _ _ (hK w' r1 r2 r3))
theorem wpList_insert_of {w : World} {ops : Array Oper} {rest : List Oper} {o : Oper} {a : Act} {Q : Exit → Act → World → Prop} (hg : o.guard = none)
    (mm x v : Operand) (t : TypeId) (hop : o.op = Op.insert t mm x v) (e : TypeId) (K : Keyed P k) (ht : P.underlying t = some (.map k e))
    (hm : a.eval mm = .map (some b)) (hown : MapOf w P k kenc venc b m) (key : κ) (val : ν) (hx : a.eval x = kenc key) (hv : a.eval v = venc val) (hkey : ∃ l, keyOf P k (kenc key) = some l)
    (hK : ∀ w', MapOf w' P k kenc venc b (putM m key val) → w.grownBy w' (some b) → w'.heap.size = w.heap.size → wpList P ops Q rest (a.put o.dst undef) w') :
    wpList P ops Q (o :: rest) a w := by
  obtain ⟨w', hrun, r1, r2, r3⟩ := hown.update K ht key val hkey
  refine wpList_plain hg fun _ hK' => ?_
  unfold Oper.wp
  simp [execOp, hop, hm, hx, hv, hrun, Result.andThen]
  exact hK' _ _ (hK w' r1 r2 r3)
theorem wp_lookup_of {w : World} {o : Oper} {a : Act} {K' : Act → World → Prop} {Q : Exit → Act → World → Prop} (c : Bool)
    (mm x : Operand) (t : TypeId) (hop : o.op = Op.lookup t mm x c) (e : TypeId) (K : Keyed P k) (ht : P.underlying t = some (.map k e)) (z : Value) (hz : ∀ w, (zeroValue e).run P w = .ok z w)
    (hm : a.eval mm = .map (some b)) (hown : MapOf w P k kenc venc b m) (key : κ) (hx : a.eval x = kenc key) (hkey : ∃ l, keyOf P k (kenc key) = some l)
    (hK : K' (a.put o.dst (lookV venc z c (getM m key))) w) : o.wp P a w K' Q := by
  have hrun := hown.lookup c K ht (hz w) key hkey
  unfold Oper.wp
  simp [execOp, hop, hm, hx, hrun, Result.andThen]
  exact hK
theorem wpList_lookup_of {w : World} {ops : Array Oper} {rest : List Oper} {o : Oper} {a : Act} {Q : Exit → Act → World → Prop} (hg : o.guard = none) (c : Bool)
    (mm x : Operand) (t : TypeId) (hop : o.op = Op.lookup t mm x c) (e : TypeId) (K : Keyed P k) (ht : P.underlying t = some (.map k e)) (z : Value) (hz : ∀ w, (zeroValue e).run P w = .ok z w)
    (hm : a.eval mm = .map (some b)) (hown : MapOf w P k kenc venc b m) (key : κ) (hx : a.eval x = kenc key) (hkey : ∃ l, keyOf P k (kenc key) = some l)
    (hK : wpList P ops Q rest (a.put o.dst (lookV venc z c (getM m key))) w) :
    wpList P ops Q (o :: rest) a w :=
  wpList_plain hg fun _ hK' => wp_lookup_of c mm x t hop e K ht z hz hm hown key hx hkey (hK' _ _ hK)
theorem yieldsIf_lookup_of {ops : Array Oper} {S : World → Prop} {o : Oper} {a : Act} (hw : Region.wanted o (yielded ops a.tmps) = true) (c : Bool)
    (mm x : Operand) (t : TypeId) (hop : o.op = Op.lookup t mm x c) (e : TypeId) (K : Keyed P k) (ht : P.underlying t = some (.map k e)) (z : Value) (hz : ∀ w, (zeroValue e).run P w = .ok z w)
    (hm : a.eval mm = .map (some b)) (hS : ∀ w, S w → MapOf w P k kenc venc b m) (key : κ) (hx : a.eval x = kenc key) (hkey : ∃ l, keyOf P k (kenc key) = some l) :
    YieldsIf P ops S o (lookV venc z c (getM m key)) a :=
  .inl ⟨hw, fun w hw' => by
    have hrun := (hS w hw').lookup c K ht (hz w) key hkey
    simp [execOp, hop, hm, hx, hrun, Result.andThen]⟩

/-! Ranges -/
/-- A range over the map b is under way in block r; 'rest' is still to come. -/
def IterOf (w : World) (P : Program) (k : TypeId) (kenc : κ → Value) (venc : ν → Value) (b r : Nat) (m rest : List (κ × ν)) : Prop :=
  ∃ es clock since seen c0, MapIs w P k kenc venc b m es clock ∧ w.heap[r]? = some (.mapIter (some b) since seen c0) ∧ (∀ x ∈ es.toList, x.born < since) ∧ since ≤ c0 ∧ since ≤ clock ∧
    (leftOf es seen).toList.map (fun e => (e.key, e.val)) = rest.map (fun p => (kenc p.1, venc p.2)) ∧ ∀ p ∈ rest, p ∈ m
variable {rest : List (κ × ν)} {r : Nat}
theorem IterOf.of (h : IterOf w P k kenc venc b r m rest) : MapOf w P k kenc venc b m := by
  obtain ⟨es, clock, _, _, _, h, _⟩ := h
  exact ⟨es, clock, h⟩
def leftNum (w : World) (b r : Nat) : Nat :=
  match w.heap[b]?, w.heap[r]? with
  | some (.map es _), some (.mapIter _ _ seen _) => (leftOf es seen).size
  | _, _ => 0
theorem IterOf.left (h : IterOf w P k kenc venc b r m rest) : leftNum w b r = rest.length := by
  obtain ⟨es, clock, since, seen, c0, h, hr, _, _, _, h2, _⟩ := h
  have := congrArg List.length h2
  simp only [leftNum, h.at_, hr]
  simpa using this
theorem IterOf.iter_walk (h : IterOf w P k kenc venc b r m rest) : ∃ o : Obj, w.heap[r]? = some o ∧ o.isWalk = true := by
  obtain ⟨es, clock, _, _, _, _, hr, _⟩ := h
  exact ⟨_, hr, rfl⟩
theorem IterOf.lt (h : IterOf w P k kenc venc b r m rest) : r < w.heap.size := by
  obtain ⟨es, clock, _, _, _, _, hr, _⟩ := h
  exact (Array.getElem?_eq_some_iff.1 hr).1
theorem IterOf.ne (h : IterOf w P k kenc venc b r m rest) : r ≠ b := by
  obtain ⟨es, clock, _, _, _, h, hr, _⟩ := h
  intro e
  rw [e, h.at_] at hr
  cases hr
theorem IterOf.block (h : IterOf w P k kenc venc b r m rest) (hb : w'.heap[b]? = w.heap[b]?) (hr' : w'.heap[r]? = w.heap[r]?) : IterOf w' P k kenc venc b r m rest := by
  obtain ⟨es, clock, since, seen, c0, h, hr, hrest⟩ := h
  exact ⟨es, clock, since, seen, c0, ⟨hb.trans h.at_, h.stamped, h.shape, h.keys, h.inj⟩, hr'.trans hr, hrest⟩
theorem IterOf.walks (h : IterOf w P k kenc venc b r m rest) (hk : KeepsWalks w w') : IterOf w' P k kenc venc b r m rest := by
  obtain ⟨es, clock, since, seen, c0, h, hr, hrest⟩ := h
  exact ⟨es, clock, since, seen, c0, ⟨hk.same b _ h.at_ rfl, h.stamped, h.shape, h.keys, h.inj⟩, hk.same r _ hr rfl, hrest⟩
theorem IterOf.kept {row : Option Nat} (h : IterOf w P k kenc venc b r m rest) (hg : w.grownBy w' row) (hb : some b ≠ row) (hr : some r ≠ row) : IterOf w' P k kenc venc b r m rest :=
  h.block (hg.block b h.of.lt hb) (hg.block r h.lt hr)
theorem MapOf.range {t e : TypeId} (h : MapOf w P k kenc venc b m) (ht : P.underlying t = some (.map k e)) :
    ∃ w', (Instr.range t (.map (some b))).run P w = .ok (.pointer (some ⟨w.heap.size, 0, none⟩)) w' ∧ IterOf w' P k kenc venc b w.heap.size m m ∧ w.grownBy w' none ∧ w'.heap.size = w.heap.size + 1 := by
  have hlt := h.lt
  obtain ⟨es, clock, h⟩ := h
  refine ⟨_, run_range_map w t k e b es clock ht h.at_, ⟨es, clock, clock, #[], clock, ⟨((MapKept.heap_alloc w _).2 b hlt).trans h.at_, h.stamped, h.shape, h.keys, h.inj⟩, (MapKept.heap_alloc w _).1, h.stamped.1, Nat.le_refl _, Nat.le_refl _, ?_⟩, World.grownBy_alloc w _ none, by simp⟩
  refine ⟨?_, fun p hp => hp⟩
  rw [← h.shape, show leftOf es #[] = es from Array.filter_eq_self.2 (fun x _ => by simp)]
theorem filter_one {α : Type} {f : α → Nat} : ∀ {l : List α} {e : α}, (l.map f).Nodup → e ∈ l → ∃ a c, l = a ++ e :: c ∧ l.filter (fun x => !(f x == f e)) = a ++ c
  | [], _, _, h => by simp at h
  | x :: l, e, hn, h => by
    rw [List.map_cons, List.nodup_cons] at hn
    rcases List.mem_cons.1 h with rfl | h
    · refine ⟨[], l, rfl, ?_⟩
      rw [List.filter_cons, if_neg (by simp)]
      refine List.filter_eq_self.2 (fun y hy => ?_)
      have : f y ≠ f e := fun he => hn.1 (List.mem_map.2 ⟨y, hy, he⟩)
      simp [this]
    · obtain ⟨a, c, h1, h2⟩ := filter_one hn.2 h
      have : f x ≠ f e := fun he => hn.1 (List.mem_map.2 ⟨e, h, he.symm⟩)
      refine ⟨x :: a, c, by rw [h1]; rfl, ?_⟩
      rw [List.filter_cons, if_pos (by simp [this]), h2]
      rfl
theorem IterOf.next (h : IterOf w P k kenc venc b r m rest) (ty : TypeId) :
    (rest = [] ∧ (Instr.next (.pointer (some ⟨r, 0, none⟩)) false ty).run P w = .ok (.tuple #[.bool false]) w) ∨
    ∃ a p c w', rest = a ++ p :: c ∧ p ∈ m ∧ (Instr.next (.pointer (some ⟨r, 0, none⟩)) false ty).run P w = .ok (.tuple #[.bool true, kenc p.1, venc p.2]) w' ∧
      IterOf w' P k kenc venc b r m (a ++ c) ∧ w.grownBy w' (some r) ∧ w'.heap.size = w.heap.size ∧ (Instr.entry (.pointer (some ⟨r, 0, none⟩))).run P w' = .ok (.tuple #[kenc p.1, venc p.2]) w' := by
  have hne := h.ne
  obtain ⟨es, clock, since, seen, c0, hm, hr, hold, hsc, hsk, hrest, hsub⟩ := h
  rcases run_next_at (P := P) w ty r b since c0 seen es clock hr hm.at_ hold hsc with ⟨h0, hrun⟩ | ⟨e, he, w1, hal, hrun⟩
  · refine .inl ⟨?_, hrun⟩
    have : (leftOf es seen).toList = [] := by simpa using h0
    rw [this] at hrest
    simpa using hrest.symm
  · obtain ⟨hem, hes⟩ := mem_left he
    have hr1 : w1.heap[r]? = some (.mapIter (some b) since seen c0) := by rcases hal with rfl | rfl <;> exact hr
    have hb1 : w1.heap[b]? = some (.map es clock) := by rcases hal with rfl | rfl <;> exact hm.at_
    have hset := heap_set (o' := .mapIter (some b) since (seen.push e.born) clock) hr1
    have hb' : (setBlock w1 r (.mapIter (some b) since (seen.push e.born) clock)).heap[b]? = some (.map es clock) := (hset.2 b (fun e1 => hne e1.symm)).trans hb1
    obtain ⟨j, hj⟩ := List.getElem?_of_mem hem
    obtain ⟨p, hp, hpk, hpv⟩ := hm.get hj
    have hnd : ((leftOf es seen).toList.map (·.born)).Nodup := by
      unfold leftOf
      rw [Array.toList_filter]
      exact List.Nodup.sublist (List.Sublist.map _ List.filter_sublist) hm.stamped.2.1
    obtain ⟨A, C, e1, e2⟩ := filter_one hnd he
    have e3 : (leftOf es (seen.push e.born)).toList = A ++ C := by
      rw [← e2]
      unfold leftOf
      rw [Array.toList_filter, Array.toList_filter, List.filter_filter]
      refine List.filter_congr (fun x _ => ?_)
      rw [contains_push]
      cases seen.contains x.born <;> cases (x.born == e.born) <;> rfl
    rw [e1, List.map_append, List.map_cons] at hrest
    obtain ⟨a, q, hq1, hq2, hq3⟩ := List.map_eq_append_iff.1 hrest.symm
    obtain ⟨p', c, rfl, hq4, hq5⟩ := List.map_eq_cons_iff.1 hq3
    have hpm : p' ∈ m := hsub _ (by rw [hq1]; simp)
    have hk' : e.key = kenc p'.1 := by have := congrArg Prod.fst hq4; simpa using this.symm
    have hv' : e.val = venc p'.2 := by have := congrArg Prod.snd hq4; simpa using this.symm
    refine .inr ⟨a, p', c, _, hq1, hpm, by rw [← hk', ← hv']; exact hrun, ⟨es, clock, since, seen.push e.born, clock, ⟨hb', hm.stamped, hm.shape, hm.keys, hm.inj⟩, hset.1, hold, hsk, hsk, ?_⟩, ?_, ?_, by rw [← hk', ← hv']; exact run_entry_at _ r b since seen es clock e hset.1 hb' hem hm.stamped.2.1⟩
    · refine ⟨by rw [e3, List.map_append, List.map_append, hq2, hq5], fun q hq => hsub q ?_⟩
      rw [hq1]
      rcases List.mem_append.1 hq with hq | hq
      · simp [hq]
      · simp [hq]
    · rcases hal with rfl | rfl <;> exact ⟨rfl, rfl, rfl, by simp [setBlock], fun i _ hi => hset.2 i (fun e1 => hi (by rw [e1]))⟩
    · rcases hal with rfl | rfl <;> simp [setBlock]

theorem wpList_range_of {w : World} {ops : Array Oper} {rs : List Oper} {o : Oper} {a : Act} {Q : Exit → Act → World → Prop} (hg : o.guard = none) (mm : Operand) (t : TypeId) (hop : o.op = Op.range t mm) (e : TypeId) (ht : P.underlying t = some (.map k e))
    (hm : a.eval mm = .map (some b)) (hown : MapOf w P k kenc venc b m)
    (hK : ∀ w', IterOf w' P k kenc venc b w.heap.size m m → w.grownBy w' none → w'.heap.size = w.heap.size + 1 → wpList P ops Q rs (a.put o.dst (.pointer (some ⟨w.heap.size, 0, none⟩))) w') :
    wpList P ops Q (o :: rs) a w := by
  refine wpList_plain hg fun K' hK' => ?_
  obtain ⟨w', hrun, r1, r2, r3⟩ := hown.range ht
  unfold Oper.wp
  simp [execOp, hop, hm, hrun, Result.andThen]
  exact hK' _ _ (hK w' r1 r2 r3)
theorem wpListIn_range_of {F : Fence} {n : Nat} {w : World} {ops : Array Oper} {rs : List Oper} {o : Oper} {a : Act} {Q : Exit → Act → World → Prop} (hg : o.guard = none) (mm : Operand) (t : TypeId) (hop : o.op = Op.range t mm) (e : TypeId) (ht : P.underlying t = some (.map k e))
    (hm : a.eval mm = .map (some b)) (hown : MapOf w P k kenc venc b m)
    (hK : ∀ w', IterOf w' P k kenc venc b w.heap.size m m → w.grownBy w' none → w'.heap.size = w.heap.size + 1 → wpListIn F n P ops Q rs (a.put o.dst (.pointer (some ⟨w.heap.size, 0, none⟩))) w') :
    wpListIn F n P ops Q (o :: rs) a w := by
  refine wpListIn_plain hg fun K' hK' => ?_
  obtain ⟨w', hrun, r1, r2, r3⟩ := hown.range ht
  unfold Oper.wpIn
  refine ⟨by simp [Oper.about, hop], ?_⟩
  rw [Oper.semAt_plain F _ _ (by rw [hop]; intro c hc'; cases hc')]
  simp [execOp, hop, hm, hrun, Result.andThen]
  exact hK' _ _ (hK w' r1 r2 r3)
theorem wpList_next_of {w : World} {ops : Array Oper} {rs : List Oper} {o : Oper} {a : Act} {Q : Exit → Act → World → Prop} (hg : o.guard = none) (it : Operand) (hop : o.op = Op.next it false)
    (hit : a.eval it = .pointer (some ⟨r, 0, none⟩)) (h : IterOf w P k kenc venc b r m rest)
    (hDone : rest = [] → wpList P ops Q rs (a.put o.dst (.tuple #[.bool false])) w)
    (hMore : ∀ x p y w', rest = x ++ p :: y → p ∈ m → IterOf w' P k kenc venc b r m (x ++ y) → w.grownBy w' (some r) → w'.heap.size = w.heap.size → (Instr.entry (.pointer (some ⟨r, 0, none⟩))).run P w' = .ok (.tuple #[kenc p.1, venc p.2]) w' →
      wpList P ops Q rs (a.put o.dst (.tuple #[.bool true, kenc p.1, venc p.2])) w') :
    wpList P ops Q (o :: rs) a w := by
  refine wpList_plain hg fun K' hK' => ?_
  unfold Oper.wp
  rcases h.next o.type with ⟨h0, hrun⟩ | ⟨x, p, y, w', h1, h2, hrun, h3, h4, h5, h6⟩
  · simp [execOp, hop, hit, hrun, Result.andThen]
    exact hK' _ _ (hDone h0)
  · simp [execOp, hop, hit, hrun, Result.andThen]
    exact hK' _ _ (hMore x p y w' h1 h2 h3 h4 h5 h6)
theorem wpListIn_next_of {F : Fence} {n : Nat} {w : World} {ops : Array Oper} {rs : List Oper} {o : Oper} {a : Act} {Q : Exit → Act → World → Prop} (hg : o.guard = none) (it : Operand) (hop : o.op = Op.next it false)
    (hit : a.eval it = .pointer (some ⟨r, 0, none⟩)) (h : IterOf w P k kenc venc b r m rest)
    (hDone : rest = [] → wpListIn F n P ops Q rs (a.put o.dst (.tuple #[.bool false])) w)
    (hMore : ∀ x p y w', rest = x ++ p :: y → p ∈ m → IterOf w' P k kenc venc b r m (x ++ y) → w.grownBy w' (some r) → w'.heap.size = w.heap.size → (Instr.entry (.pointer (some ⟨r, 0, none⟩))).run P w' = .ok (.tuple #[kenc p.1, venc p.2]) w' →
      wpListIn F n P ops Q rs (a.put o.dst (.tuple #[.bool true, kenc p.1, venc p.2])) w') :
    wpListIn F n P ops Q (o :: rs) a w := by
  refine wpListIn_plain hg fun K' hK' => ?_
  unfold Oper.wpIn
  refine ⟨by simp [Oper.about, hop], ?_⟩
  rw [Oper.semAt_plain F _ _ (by rw [hop]; intro c hc'; cases hc')]
  rcases h.next o.type with ⟨h0, hrun⟩ | ⟨x, p, y, w', h1, h2, hrun, h3, h4, h5, h6⟩
  · simp [execOp, hop, hit, hrun, Result.andThen]
    exact hK' _ _ (hDone h0)
  · simp [execOp, hop, hit, hrun, Result.andThen]
    exact hK' _ _ (hMore x p y w' h1 h2 h3 h4 h5 h6)
end
end Go.Proofs.YtlamogpdkmbeoaaGreatDoor
end PartMapA

section PartMapK
/- The keys of the ledger's maps: issues, marks, duos, names. -/
set_option maxRecDepth 100000
namespace Go.Proofs.YtlamogpdkmbeoaaGreatDoor
open Go.RowKit Go.Maps Go.WideMaps

theorem laid_out : laidOutB Tryz.prog = true := by kernel_rfl
theorem fuel3 : ∃ m, Tryz.prog.types.size = m + 3 := by
  have h : Nat.ble 3 Tryz.prog.types.size = true := by kernel_rfl
  exact ⟨Tryz.prog.types.size - 3, by have := Nat.le_of_ble_eq_true h; omega⟩
abbrev okI (n : Int) : Prop := (Lit.int .i64 n).wf = true
abbrev okS (s : ByteArray) : Prop := s.size ≤ maxLen

theorem cellsS : Tryz.prog.cellsOf 9 = 1 := by kernel_rfl
theorem cellsI : Tryz.prog.cellsOf 3 = 1 := by kernel_rfl
theorem cellsMark : Tryz.prog.cellsOf 44 = 2 := by kernel_rfl
theorem cellsName : Tryz.prog.cellsOf 37 = 2 := by kernel_rfl
theorem cellsIssue : Tryz.prog.cellsOf 180 = 2 := by kernel_rfl
theorem cellsDuo : Tryz.prog.cellsOf 48 = 4 := by kernel_rfl

theorem lits_s (m : Nat) (s : ByteArray) (h : okS s) : Tryz.prog.keyLits (m + 1) 9 [.string s] = some [.string s.data.toList] := by
  unfold Program.keyLits
  rw [Tryz.underlying9]
  exact if_pos h
theorem lits_i (m : Nat) (n : Int) (h : okI n) : Tryz.prog.keyLits (m + 1) 3 [.int .i64 n] = some [.int .i64 n] := by
  unfold Program.keyLits
  rw [Tryz.underlying3]
  exact if_pos ⟨rfl, h⟩
theorem lits_mark (m : Nat) (s : ByteArray) (n : Int) (hs : okS s) (hn : okI n) : ∃ l, Tryz.prog.keyLits (m + 2) 44 [.string s, .int .i64 n] = some l := by
  unfold Program.keyLits
  rw [Tryz.underlying44]
  simp [cellsMark, cellsS, cellsI, lits_s m s hs, lits_i m n hn]
theorem lits_issue (m : Nat) (s : ByteArray) (n : Int) (hs : okS s) (hn : okI n) : ∃ l, Tryz.prog.keyLits (m + 2) 180 [.string s, .int .i64 n] = some l := by
  unfold Program.keyLits
  rw [Tryz.underlying180]
  simp [cellsIssue, cellsS, cellsI, lits_s m s hs, lits_i m n hn]
theorem lits_name (m : Nat) (s n : Int) (hs : okI s) (hn : okI n) : ∃ l, Tryz.prog.keyLits (m + 2) 37 [.int .i64 s, .int .i64 n] = some l := by
  unfold Program.keyLits
  rw [Tryz.underlying37]
  simp [cellsName, cellsS, cellsI, lits_i m s hs, lits_i m n hn]
theorem lits_duo (m : Nat) (s t : ByteArray) (n k : Int) (hs : okS s) (hn : okI n) (ht : okS t) (hk : okI k) : ∃ l, Tryz.prog.keyLits (m + 3) 48 [.string s, .int .i64 n, .string t, .int .i64 k] = some l := by
  obtain ⟨l1, h1⟩ := lits_mark m s n hs hn
  obtain ⟨l2, h2⟩ := lits_mark m t k ht hk
  unfold Program.keyLits
  rw [Tryz.underlying48]
  simp [cellsDuo, cellsMark, List.range, List.range.loop, h1, h2]
theorem row_lt (k : TypeId) (h : Nat.ble (k + 1) Tryz.prog.types.size = true) : k < Tryz.prog.types.size := Nat.le_of_ble_eq_true h

abbrev MarkK := ByteArray × Int
abbrev NameK := Int × Int
abbrev DuoK := MarkK × MarkK
abbrev encMk (x : MarkK) : Value := .agg #[.string x.1, .int .i64 x.2]
abbrev encNm (x : NameK) : Value := .agg #[.int .i64 x.1, .int .i64 x.2]
abbrev encDuo (x : DuoK) : Value := .agg #[.string x.1.1, .int .i64 x.1.2, .string x.2.1, .int .i64 x.2.2]
theorem encMk_inj (x y : MarkK) (h : encMk x = encMk y) : x = y := by
  simp [encMk] at h
  exact Prod.ext h.1 h.2
theorem encNm_inj (x y : NameK) (h : encNm x = encNm y) : x = y := by
  simp [encNm] at h
  exact Prod.ext h.1 h.2
theorem encDuo_inj (x y : DuoK) (h : encDuo x = encDuo y) : x = y := by
  simp [encDuo] at h
  exact Prod.ext (Prod.ext h.1 h.2.1) (Prod.ext h.2.2.1 h.2.2.2)

theorem keyedMark : Keyed Tryz.prog 44 := Keyed.of_law (deep_law_laid laid_out (m := 3) (by omega) (row_lt _ (by kernel_rfl)) (by kernel_rfl) (by rw [Tryz.underlying44]))
theorem keyedName : Keyed Tryz.prog 37 := Keyed.of_law (deep_law_laid laid_out (m := 3) (by omega) (row_lt _ (by kernel_rfl)) (by kernel_rfl) (by rw [Tryz.underlying37]))
theorem keyedIssue : Keyed Tryz.prog 180 := Keyed.of_law (deep_law_laid laid_out (m := 3) (by omega) (row_lt _ (by kernel_rfl)) (by kernel_rfl) (by rw [Tryz.underlying180]))
theorem keyedDuo : Keyed Tryz.prog 48 := Keyed.of_law (deep_law_laid laid_out (m := 4) (by omega) (row_lt _ (by kernel_rfl)) (by kernel_rfl) (by rw [Tryz.underlying48]))
theorem keyedInt : Keyed Tryz.prog 3 := int_keyed Tryz.underlying3
theorem keyedStr : Keyed Tryz.prog 9 := string_keyed Tryz.underlying9

theorem key_mark (x : MarkK) (hs : okS x.1) (hn : okI x.2) : ∃ l, keyOf Tryz.prog 44 (encMk x) = some l := by
  obtain ⟨m, hm⟩ := fuel3
  obtain ⟨l, hl⟩ := lits_mark (m + 2) x.1 x.2 hs hn
  unfold keyOf
  rw [Tryz.underlying44]
  simp only []
  rw [show Tryz.prog.keyType 44 = true by kernel_rfl, hm, show (encMk x).formed Tryz.prog 44 = true by simp [Value.formed, Tryz.underlying44, cellsMark]]
  simp only [Value.cells, Bool.true_and, if_true, encMk]
  rw [show m + 3 + 1 = m + 2 + 2 by omega, hl]
  exact ⟨_, rfl⟩
theorem key_issue (x : MarkK) (hs : okS x.1) (hn : okI x.2) : ∃ l, keyOf Tryz.prog 180 (encMk x) = some l := by
  obtain ⟨m, hm⟩ := fuel3
  obtain ⟨l, hl⟩ := lits_issue (m + 2) x.1 x.2 hs hn
  unfold keyOf
  rw [Tryz.underlying180]
  simp only []
  rw [show Tryz.prog.keyType 180 = true by kernel_rfl, hm, show (encMk x).formed Tryz.prog 180 = true by simp [Value.formed, Tryz.underlying180, cellsIssue]]
  simp only [Value.cells, Bool.true_and, if_true, encMk]
  rw [show m + 3 + 1 = m + 2 + 2 by omega, hl]
  exact ⟨_, rfl⟩
theorem key_name (x : NameK) (hs : okI x.1) (hn : okI x.2) : ∃ l, keyOf Tryz.prog 37 (encNm x) = some l := by
  obtain ⟨m, hm⟩ := fuel3
  obtain ⟨l, hl⟩ := lits_name (m + 2) x.1 x.2 hs hn
  unfold keyOf
  rw [Tryz.underlying37]
  simp only []
  rw [show Tryz.prog.keyType 37 = true by kernel_rfl, hm, show (encNm x).formed Tryz.prog 37 = true by simp [Value.formed, Tryz.underlying37, cellsName]]
  simp only [Value.cells, Bool.true_and, if_true, encNm]
  rw [show m + 3 + 1 = m + 2 + 2 by omega, hl]
  exact ⟨_, rfl⟩
theorem key_duo (x : DuoK) (hs : okS x.1.1) (hn : okI x.1.2) (ht : okS x.2.1) (hk : okI x.2.2) : ∃ l, keyOf Tryz.prog 48 (encDuo x) = some l := by
  obtain ⟨m, hm⟩ := fuel3
  obtain ⟨l, hl⟩ := lits_duo (m + 1) x.1.1 x.2.1 x.1.2 x.2.2 hs hn ht hk
  unfold keyOf
  rw [Tryz.underlying48]
  simp only []
  rw [show Tryz.prog.keyType 48 = true by kernel_rfl, hm, show (encDuo x).formed Tryz.prog 48 = true by simp [Value.formed, Tryz.underlying48, cellsDuo]]
  simp only [Value.cells, Bool.true_and, if_true, encDuo]
  rw [show m + 3 + 1 = m + 1 + 3 by omega, hl]
  exact ⟨_, rfl⟩
theorem key_int (x : Int) (hx : okI x) : ∃ l, keyOf Tryz.prog 3 (.int .i64 x) = some l := ⟨_, keyOf_int_mk Tryz.underlying3 hx⟩
theorem key_str (x : ByteArray) (hx : okS x) : ∃ l, keyOf Tryz.prog 9 (.string x) = some l := ⟨_, keyOf_string_mk Tryz.underlying9 hx⟩
end Go.Proofs.YtlamogpdkmbeoaaGreatDoor
end PartMapK

section PartLate
/- A region that draws its order: what holds until its last stores come up. -/
namespace Go.Proofs.YtlamogpdkmbeoaaGreatDoor
open Go

section
variable {P : Program} {ops : Array Oper} {Q : Exit → Act → World → Prop} {md : Region.Mode} {S : World → Prop} {T : List Nat} {listed : Array Bool}

/-- None of the late operations has come up yet. -/
def freshB (T : List Nat) (listed : Array Bool) : Bool := T.all fun t => !(listed.getD t true)
/-- Operation t waits for i, itself or by others. -/
def awaits (md : Region.Mode) (ops : Array Oper) : Nat → Nat → Nat → Bool
  | 0, _, _ => false
  | f + 1, t, i => match ops[t]? with | some o => o.after.toList.any (fun e => Region.binds md e && (e.on == i || awaits md ops f e.on i)) | none => false
/-- Each of the late operations waits for i. -/
def awaitedB (md : Region.Mode) (ops : Array Oper) (T : List Nat) (i : Nat) : Bool := T.all fun t => awaits md ops 6 t i
/-- Whatever has come up, what it waits for has come up. -/
def closedB (md : Region.Mode) (ops : Array Oper) (listed : Array Bool) : Bool := (List.range ops.size).all fun c => !(listed.getD c true) || (match ops[c]? with | some o => o.after.toList.all (fun e => !(Region.binds md e) || listed.getD e.on false) | none => true)
def Cl (md : Region.Mode) (ops : Array Oper) (listed : Array Bool) : Prop := ∀ c oc, ops[c]? = some oc → listed.getD c true = true → ∀ e ∈ oc.after, Region.binds md e = true → listed.getD e.on false = true
theorem closed_of (h : closedB md ops listed = true) : Cl md ops listed := fun c oc hc hl e he hb => by
  have hlt : c < ops.size := (Array.getElem?_eq_some_iff.1 hc).1
  have := List.all_eq_true.1 h c (List.mem_range.2 hlt)
  rw [hl, hc] at this
  simp only [Bool.not_true, Bool.false_or] at this
  have h2 := List.all_eq_true.1 this e (Array.mem_toList_iff.2 he)
  rw [hb] at h2
  simpa using h2
theorem getD_set_mono {listed : Array Bool} {j k : Nat} (h : listed.getD k false = true) : (listed.setIfInBounds j true).getD k false = true := by
  by_cases hjk : j = k
  · subst hjk
    by_cases hj : j < listed.size
    · simp [hj]
    · simp [Array.getElem?_eq_none (Nat.le_of_not_lt hj)] at h
  · rw [getD_set_ne false hjk]; exact h
theorem Cl.set {listed : Array Bool} {j : Nat} {oj : Oper} (h : Cl md ops listed) (hoj : ops[j]? = some oj) (hall : ∀ e ∈ oj.after, Region.binds md e = true → listed.getD e.on false = true) : Cl md ops (listed.setIfInBounds j true) := fun c oc hc hl e he hb => by
  by_cases hjc : j = c
  · subst hjc
    rw [hoj] at hc
    cases hc
    exact getD_set_mono (hall e he hb)
  · rw [getD_set_ne true hjc] at hl
    exact getD_set_mono (h c oc hc hl e he hb)
theorem awaits_no {listed : Array Bool} {i : Nat} (h : Cl md ops listed) (hi : listed.getD i false = false) : ∀ (f t : Nat) (ot : Oper), ops[t]? = some ot → (∀ e ∈ ot.after, Region.binds md e = true → listed.getD e.on false = true) → awaits md ops f t i = false
  | 0, _, _, _, _ => rfl
  | f + 1, t, ot, ht, hall => by
    unfold awaits
    rw [ht]
    simp only []
    rw [List.any_eq_false]
    intro e he
    replace he := Array.mem_toList_iff.1 he
    intro hb
    simp only [Bool.and_eq_true, Bool.or_eq_true, beq_iff_eq] at hb
    have hl := hall e he hb.1
    rcases hb.2 with h2 | h2
    · rw [h2, hi] at hl; cases hl
    · cases ho : ops[e.on]? with
      | none =>
        cases f with
        | zero => cases h2
        | succ f => unfold awaits at h2; rw [ho] at h2; cases h2
      | some oc =>
        have hl' : listed.getD e.on true = true := by
          by_cases hj : e.on < listed.size
          · simp [hj] at hl ⊢; exact hl
          · simp [Array.getElem?_eq_none (Nat.le_of_not_lt hj)]
        rw [awaits_no h hi f e.on oc ho (fun e' he' hb' => h e.on oc ho hl' e' he' hb')] at h2
        cases h2

def wpAnyL (P : Program) (md : Region.Mode) (ops : Array Oper) (Q : Exit → Act → World → Prop) (S : World → Prop) (T : List Nat) : Nat → Array Bool → Act → World → Prop
  | 0, listed, a, w => Region.ready md ops listed = [] ∧ Q .normal a w
  | fuel + 1, listed, a, w =>
    (Region.ready md ops listed = [] → Q .normal a w) ∧
    ∀ i ∈ Region.ready md ops listed, wpOp P ops Q i (fun a' w' => (freshB T (listed.setIfInBounds i true) = true → S w') ∧ wpAnyL P md ops Q S T fuel (listed.setIfInBounds i true) a' w') a w
theorem wpAny_of_late : ∀ (fuel : Nat) (listed : Array Bool) (a : Act) (w : World), wpAnyL P md ops Q S T fuel listed a w → wpAny P md ops Q fuel listed a w
  | 0, _, _, _, h => h
  | fuel + 1, _, _, _, h => ⟨h.1, fun i hi => wpOp_mono (fun a' w' h' => wpAny_of_late fuel _ a' w' h'.2) (h.2 i hi)⟩

theorem fresh_set {listed : Array Bool} {j : Nat} (h : freshB T listed = true) (hj : j ∉ T) : freshB T (listed.setIfInBounds j true) = true := by
  unfold freshB at *
  rw [List.all_eq_true] at *
  intro t ht
  have h1 := h t ht
  rw [getD_set_ne true (fun e => hj (by rw [e]; exact ht))]
  exact h1
theorem fresh_unset {listed : Array Bool} {i : Nat} (hi : i ∉ T) : freshB T (listed.setIfInBounds i true) = freshB T listed := by
  unfold freshB
  induction T with
  | nil => rfl
  | cons t r ih =>
    simp only [List.mem_cons, not_or] at hi
    rw [List.all_cons, List.all_cons, ih hi.2, getD_set_ne true hi.1]

theorem wpAnyL_first {i : Nat} {oi : Oper} {v : Value} (hi : ops[i]? = some oi) (hsel : ∀ (j : Nat) (o : Oper) cs b, ops[j]? = some o → o.op ≠ .select cs b)
    (hQ : ∀ c a w, Q (.panic c) (a.put oi.dst v) w → Q (.panic c) a w) (hlate : awaitedB md ops T i = true) :
    ∀ (fuel : Nat) (listed : Array Bool) (a : Act) (w : World), Cl md ops listed →
      (∀ j oj, ops[j]? = some oj → j ≠ i → listed.getD j true = false → (∀ e ∈ oj.after, Region.binds md e = true → e.on ≠ i) → oi.apart ops oj = true) →
      i ∈ Region.ready md ops listed → freshB T listed = true → YieldsIf P ops S oi v a → S w →
      wpAnyL P md ops Q S T fuel (listed.setIfInBounds i true) (a.put oi.dst v) w → wpAnyL P md ops Q S T (fuel + 1) listed a w := by
  intro fuel
  induction fuel with
  | zero =>
    intro listed a w _ _ hr hfr hy hS H
    refine ⟨fun h => (by rw [h] at hr; cases hr), fun j hj => ?_⟩
    by_cases hji : j = i
    · subst hji; exact hy.wpOp hi hS ⟨fun _ => hS, H⟩
    · have := ready_mono hj hji
      rw [H.1] at this
      cases this
  | succ fuel ih =>
    intro listed a w hcl hfree hr hfr hy hS H
    refine ⟨fun h => (by rw [h] at hr; cases hr), fun j hj => ?_⟩
    by_cases hji : j = i
    · subst hji; exact hy.wpOp hi hS ⟨fun _ => hS, H⟩
    · have h1 := H.2 j (ready_mono hj hji)
      obtain ⟨hjun, oj, hoj, hall⟩ := mem_ready.1 hj
      have hin : listed.getD i false = false := by
        have h0 := (mem_ready.1 hr).1
        rcases Nat.lt_or_ge i listed.size with h' | h'
        · simp [h'] at h0 ⊢; exact h0
        · simp [Array.getElem?_eq_none h']
      have hnot : ∀ e ∈ oj.after, Region.binds md e = true → e.on ≠ i := fun e he hb heq => by
        have h1 := hall e he hb
        rw [heq, hin] at h1
        cases h1
      have hjT : j ∉ T := fun hjt => by
        have := List.all_eq_true.1 hlate j hjt
        rw [awaits_no hcl hin 6 j oj hoj hall] at this
        cases this
      have hfrj := fresh_set hfr hjT
      have h2 := wpOp_putIf hoj (hfree j oj hoj hji hjun hnot) (fun cs b => hsel i oi cs b hi) (fun cs b => hsel j oj cs b hoj) hQ hy h1
      have hfree' : ∀ k ok, ops[k]? = some ok → k ≠ i → (listed.setIfInBounds j true).getD k true = false →
          (∀ e ∈ ok.after, Region.binds md e = true → e.on ≠ i) → oi.apart ops ok = true := fun k ok hk hki hun hno => by
        refine hfree k ok hk hki ?_ hno
        by_cases hjk : j = k
        · subst hjk; exact hjun
        · rw [getD_set_ne true hjk] at hun; exact hun
      by_cases hi' : i ∈ T
      · have hw := List.all_eq_true.1 hlate i hi'
        obtain ⟨h0, oi', hoi', hall'⟩ := mem_ready.1 hr
        rw [awaits_no hcl hin 6 i oi' hoi' hall'] at hw
        cases hw
      · have hS' : freshB T ((listed.setIfInBounds i true).setIfInBounds j true) = true := fresh_set (by rw [fresh_unset hi']; exact hfr) hjT
        refine wpOp_mono (fun a' w' h3 => ⟨fun _ => h3.2.1 hS', ih (listed.setIfInBounds j true) a' w' (hcl.set hoj hall) hfree' (ready_mono hr (Ne.symm hji)) hfrj h3.1 (h3.2.1 hS') ?_⟩) h2
        rw [Array.setIfInBounds_comm _ _ hji]
        exact h3.2.2

/-- Take a load first, ahead of the late operations, which wait for it. -/
theorem wpAnyL_take {i : Nat} {oi : Oper} {v : Value} {fuel : Nat} {listed : Array Bool} {a : Act} {w : World} (hi : ops[i]? = some oi)
    (hs : Region.noSelect ops = true) (hf : Region.free md ops listed i = true) (hr : (Region.ready md ops listed).contains i = true) (hlate : awaitedB md ops T i = true) (hfr : freshB T listed = true) (hcl : closedB md ops listed = true)
    (hQ : ∀ c a w, Q (.panic c) (a.put oi.dst v) w → Q (.panic c) a w) (hy : YieldsIf P ops S oi v a) (hS : S w)
    (h : wpAnyL P md ops Q S T fuel (listed.setIfInBounds i true) (a.put oi.dst v) w) : wpAnyL P md ops Q S T (fuel + 1) listed a w :=
  wpAnyL_first hi (Region.noSelect_spec hs) hQ hlate fuel listed a w (closed_of hcl) (Region.free_spec hi hf) (by simpa using hr) hfr hy hS h

theorem wpAnyL_firstP {i : Nat} {oi : Oper} {v : Value} (hi : ops[i]? = some oi) (hsel : ∀ (j : Nat) (o : Oper) cs b, ops[j]? = some o → o.op ≠ .select cs b)
    (hQ : ∀ c a w, Q (.panic c) (a.put oi.dst v) w → Q (.panic c) a w) (hiT : i ∉ T) :
    ∀ (fuel : Nat) (listed : Array Bool) (a : Act) (w : World),
      (∀ j oj, ops[j]? = some oj → j ≠ i → listed.getD j true = false → (∀ e ∈ oj.after, Region.binds md e = true → e.on ≠ i) → oi.apart ops oj = true) →
      i ∈ Region.ready md ops listed → YieldsIf P ops (fun _ => True) oi v a → (freshB T listed = true → S w) →
      wpAnyL P md ops Q S T fuel (listed.setIfInBounds i true) (a.put oi.dst v) w → wpAnyL P md ops Q S T (fuel + 1) listed a w := by
  intro fuel
  induction fuel with
  | zero =>
    intro listed a w _ hr hy hS H
    refine ⟨fun h => (by rw [h] at hr; cases hr), fun j hj => ?_⟩
    by_cases hji : j = i
    · subst hji; exact hy.wpOp hi trivial ⟨fun h => hS (by rw [fresh_unset hiT] at h; exact h), H⟩
    · have := ready_mono hj hji
      rw [H.1] at this
      cases this
  | succ fuel ih =>
    intro listed a w hfree hr hy hS H
    refine ⟨fun h => (by rw [h] at hr; cases hr), fun j hj => ?_⟩
    by_cases hji : j = i
    · subst hji; exact hy.wpOp hi trivial ⟨fun h => hS (by rw [fresh_unset hiT] at h; exact h), H⟩
    · have h1 := H.2 j (ready_mono hj hji)
      obtain ⟨hjun, oj, hoj, hall⟩ := mem_ready.1 hj
      have hnot : ∀ e ∈ oj.after, Region.binds md e = true → e.on ≠ i := fun e he hb heq => by
        have h1 := hall e he hb
        have h0 := (mem_ready.1 hr).1
        rw [heq] at h1
        rcases Nat.lt_or_ge i listed.size with h' | h'
        · simp [h'] at h0 h1; rw [h0] at h1; cases h1
        · simp [Array.getElem?_eq_none h'] at h1
      have h2 := wpOp_putIf hoj (hfree j oj hoj hji hjun hnot) (fun cs b => hsel i oi cs b hi) (fun cs b => hsel j oj cs b hoj) hQ hy h1
      have hfree' : ∀ k ok, ops[k]? = some ok → k ≠ i → (listed.setIfInBounds j true).getD k true = false →
          (∀ e ∈ ok.after, Region.binds md e = true → e.on ≠ i) → oi.apart ops ok = true := fun k ok hk hki hun hno => by
        refine hfree k ok hk hki ?_ hno
        by_cases hjk : j = k
        · subst hjk; exact hjun
        · rw [getD_set_ne true hjk] at hun; exact hun
      have hS' : freshB T (listed.setIfInBounds j true) = true → freshB T ((listed.setIfInBounds i true).setIfInBounds j true) = true := fun h => by
        rw [Array.setIfInBounds_comm _ _ (Ne.symm hji), fresh_unset hiT]
        exact h
      refine wpOp_mono (fun a' w' h3 => ⟨fun h => h3.2.1 (hS' h), ih (listed.setIfInBounds j true) a' w' hfree' (ready_mono hr (Ne.symm hji)) h3.1 (fun h => h3.2.1 (hS' h)) ?_⟩) h2
      rw [Array.setIfInBounds_comm _ _ hji]
      exact h3.2.2
/-- Take first what yields in whatever world. -/
theorem wpAnyL_pure {i : Nat} {oi : Oper} {v : Value} {fuel : Nat} {listed : Array Bool} {a : Act} {w : World} (hi : ops[i]? = some oi)
    (hs : Region.noSelect ops = true) (hf : Region.free md ops listed i = true) (hr : (Region.ready md ops listed).contains i = true) (hT : T.contains i = false)
    (hQ : ∀ c a w, Q (.panic c) (a.put oi.dst v) w → Q (.panic c) a w) (hy : YieldsIf P ops (fun _ => True) oi v a) (hS : S w)
    (h : wpAnyL P md ops Q S T fuel (listed.setIfInBounds i true) (a.put oi.dst v) w) : wpAnyL P md ops Q S T (fuel + 1) listed a w :=
  wpAnyL_firstP hi (Region.noSelect_spec hs) hQ (by simpa using hT) fuel listed a w (Region.free_spec hi hf) (by simpa using hr) hy (fun _ => hS) h
/-- .. behind a late operation. -/
theorem wpAnyL_pureL {i : Nat} {oi : Oper} {v : Value} {fuel : Nat} {listed : Array Bool} {a : Act} {w : World} (hi : ops[i]? = some oi)
    (hs : Region.noSelect ops = true) (hf : Region.free md ops listed i = true) (hr : (Region.ready md ops listed).contains i = true) (hT : T.contains i = false) (hfr : freshB T listed = false)
    (hQ : ∀ c a w, Q (.panic c) (a.put oi.dst v) w → Q (.panic c) a w) (hy : YieldsIf P ops (fun _ => True) oi v a)
    (h : wpAnyL P md ops Q S T fuel (listed.setIfInBounds i true) (a.put oi.dst v) w) : wpAnyL P md ops Q S T (fuel + 1) listed a w :=
  wpAnyL_firstP hi (Region.noSelect_spec hs) hQ (by simpa using hT) fuel listed a w (Region.free_spec hi hf) (by simpa using hr) hy (fun h => by rw [hfr] at h; cases h) h

theorem tl1 {i : Nat} {oi : Oper} {v : Value} {fuel : Nat} {listed : Array Bool} {a : Act} {w : World} (h : wpAnyL P md ops Q S T fuel (listed.setIfInBounds i true) (a.put oi.dst v) w) (hi : ops[i]? = some oi := by exact rfl) (hy : ∀ w, (fun _ => True) w → (execOp a.eval oi).run P w = .ok (.value v) w := by ((intro w hSw; (try dsimp only at hSw); go_simp) <;> with_reducible rfl))
    (hs : Region.noSelect ops = true := by kernel_rfl) (hf : Region.free md ops listed i = true := by kernel_rfl) (hr : (Region.ready md ops listed).contains i = true := by kernel_rfl) (hT : T.contains i = false := by kernel_rfl) (hw : Region.wanted oi (yielded ops a.tmps) = true := by kernel_rfl)
    (hQ : ∀ c a w, Q (.panic c) (a.put oi.dst v) w → Q (.panic c) a w := by exact fun _ _ _ h => h) (hS : S w := by assumption) : wpAnyL P md ops Q S T (fuel + 1) listed a w :=
  wpAnyL_pure hi hs hf hr hT hQ (.inl ⟨hw, hy⟩) hS h
theorem tl2 {i : Nat} {oi : Oper} {v : Value} {fuel : Nat} {listed : Array Bool} {a : Act} {w : World} (h : wpAnyL P md ops Q S T fuel (listed.setIfInBounds i true) (a.put oi.dst v) w) (hi : ops[i]? = some oi := by exact rfl) (hy : ∀ w, S w → (execOp a.eval oi).run P w = .ok (.value v) w := by ((intro w hSw; (try dsimp only at hSw); go_simp) <;> with_reducible rfl))
    (hs : Region.noSelect ops = true := by kernel_rfl) (hf : Region.free md ops listed i = true := by kernel_rfl) (hr : (Region.ready md ops listed).contains i = true := by kernel_rfl) (hlate : awaitedB md ops T i = true := by kernel_rfl) (hfr : freshB T listed = true := by kernel_rfl) (hcl : closedB md ops listed = true := by kernel_rfl) (hw : Region.wanted oi (yielded ops a.tmps) = true := by kernel_rfl)
    (hQ : ∀ c a w, Q (.panic c) (a.put oi.dst v) w → Q (.panic c) a w := by exact fun _ _ _ h => h) (hS : S w := by assumption) : wpAnyL P md ops Q S T (fuel + 1) listed a w :=
  wpAnyL_take hi hs hf hr hlate hfr hcl hQ (.inl ⟨hw, hy⟩) hS h
def AllReadyL (P : Program) (md : Region.Mode) (ops : Array Oper) (Q : Exit → Act → World → Prop) (S : World → Prop) (T : List Nat) (fuel : Nat) (listed : Array Bool) (a : Act) (w : World) (rs : List Nat) : Prop :=
  ∀ i ∈ rs, wpOp P ops Q i (fun a' w' => (freshB T (listed.setIfInBounds i true) = true → S w') ∧ wpAnyL P md ops Q S T fuel (listed.setIfInBounds i true) a' w') a w
theorem AllReadyL.nil {fuel : Nat} {listed : Array Bool} {a : Act} {w : World} : AllReadyL P md ops Q S T fuel listed a w [] := fun _ h => by cases h
theorem AllReadyL.cons {fuel : Nat} {listed : Array Bool} {a : Act} {w : World} {i : Nat} {o : Oper} {rs : List Nat} (ho : ops[i]? = some o)
    (h : ∀ K' : Act → World → Prop, Shut (∀ a w, S w → (S w → wpAnyL P md ops Q S T fuel (listed.setIfInBounds i true) a w) → K' a w) → if Region.wanted o (yielded ops a.tmps) = true then Oper.wp P o a w K' Q else K' (a.put o.dst undef) w)
    (hs : AllReadyL P md ops Q S T fuel listed a w rs) : AllReadyL P md ops Q S T fuel listed a w (i :: rs) := fun j hj => by
  rcases List.mem_cons.1 hj with rfl | hj
  · exact wpOp_step ho (fun K' hK => h K' (fun a w hS hW => hK a w ⟨fun _ => hS, hW hS⟩))
  · exact hs j hj
theorem AllReadyL.late {fuel : Nat} {listed : Array Bool} {a : Act} {w : World} {i : Nat} {o : Oper} {rs : List Nat} (ho : ops[i]? = some o) (hfr : freshB T (listed.setIfInBounds i true) = false)
    (h : ∀ K' : Act → World → Prop, Shut (∀ a w, wpAnyL P md ops Q S T fuel (listed.setIfInBounds i true) a w → K' a w) → if Region.wanted o (yielded ops a.tmps) = true then Oper.wp P o a w K' Q else K' (a.put o.dst undef) w)
    (hs : AllReadyL P md ops Q S T fuel listed a w rs) : AllReadyL P md ops Q S T fuel listed a w (i :: rs) := fun j hj => by
  rcases List.mem_cons.1 hj with rfl | hj
  · refine wpOp_step ho (fun K' hK => h K' (fun a w hW => hK a w ⟨fun h' => ?_, hW⟩))
    rw [hfr] at h'
    cases h'
  · exact hs j hj
theorem wpAnyL_ready {rs : List Nat} {fuel : Nat} {listed : Array Bool} {a : Act} {w : World} (hr : Region.ready md ops listed = rs) (hne : rs ≠ [])
    (h : AllReadyL P md ops Q S T fuel listed a w rs) : wpAnyL P md ops Q S T (fuel + 1) listed a w := ⟨fun h0 => absurd (hr ▸ h0) hne, hr ▸ h⟩
theorem wpAnyL_done {listed : Array Bool} {a : Act} {w : World} (hr : Region.ready md ops listed = []) (h : Q .normal a w) :
    ∀ fuel, wpAnyL P md ops Q S T fuel listed a w
  | 0 => ⟨hr, h⟩
  | _ + 1 => ⟨fun _ => h, by rw [hr]; simp⟩
theorem wp_region_late (T : List Nat) {id : Nat} {a : Act} {w : World} (hm : P.follows .mixedOrders = true) (hS : S w.drew)
    (h : S w.drew → wpAnyL P .any ops Q S T ops.size (Array.replicate ops.size false) a w.drew) : (Code.region id ops true).wp P Q a w :=
  wp_region_any hm (wpAny_of_late (S := S) (T := T) _ _ _ _ (h hS))
end
end Go.Proofs.YtlamogpdkmbeoaaGreatDoor
end PartLate

section PartLedA
/- The ledger in memory: its maps, rows and rulings; what stays of it when one part is written. -/
set_option maxRecDepth 100000
namespace Go.Proofs.YtlamogpdkmbeoaaGreatDoor
open Go.RowKit Go.Lib Go.Shelf Go.Maps

/-- What lies outside F is as it was. -/
structure Kept (F : Nat → Prop) (w w' : World) : Prop where
  os : w'.os = w.os
  tape : w'.tape = w.tape
  output : w'.output = w.output
  size : w.heap.size ≤ w'.heap.size
  block : ∀ k, k < w.heap.size → ¬ F k → w'.heap[k]? = w.heap[k]?
theorem Kept.refl (F : Nat → Prop) (w : World) : Kept F w w := ⟨rfl, rfl, rfl, Nat.le_refl _, fun _ _ _ => rfl⟩
theorem Kept.trans {F : Nat → Prop} {a b c : World} (h : Kept F a b) (k : Kept F b c) : Kept F a c :=
  ⟨k.os.trans h.os, k.tape.trans h.tape, k.output.trans h.output, Nat.le_trans h.size k.size, fun i hi hn => (k.block i (Nat.lt_of_lt_of_le hi h.size) hn).trans (h.block i hi hn)⟩
theorem Kept.of_below {F : Nat → Prop} {w w' : World} (h : Below w.heap.size w w') : Kept F w w' := ⟨h.os, h.tape, h.output, h.size, fun k hk _ => h.block k hk⟩
theorem Kept.of_grown {F : Nat → Prop} {w w' : World} {row : Option Nat} (h : w.grownBy w' row) (hF : ∀ k, row = some k → F k) : Kept F w w' :=
  ⟨h.os, h.tape, h.output, h.size, fun k hk hn => h.block k hk (fun e => hn (hF k e.symm))⟩
theorem Kept.below {F : Nat → Prop} {w w' : World} {B : Nat} (h : Kept F w w') (hB : B ≤ w.heap.size) (hF : ∀ k, k < B → ¬ F k) : Below B w w' := ⟨h.os, h.tape, h.output, h.size, fun k hk => h.block k (Nat.lt_of_lt_of_le hk hB) (hF k hk)⟩
theorem Kept.blk {F : Nat → Prop} {w w' : World} {b : Nat} {t : TypeId} {cs : Array Value} (h : Kept F w w') (hb : Blk w b t cs) (hn : ¬ F b) : Blk w' b t cs := (h.block b hb.lt hn).trans hb
theorem Kept.drew {F : Nat → Prop} {w w' : World} (h : Kept F w w') : Kept F w w'.drew := ⟨h.os, h.tape, h.output, h.size, h.block⟩
theorem Kept.drewN {F : Nat → Prop} {w w' : World} (h : Kept F w w') (n : Nat) : Kept F w (w'.drewN n) := ⟨h.os, h.tape, h.output, h.size, h.block⟩
theorem Kept.alloc {F : Nat → Prop} {w w' : World} (h : Kept F w w') (o : Obj) : Kept F w (w'.alloc o) := h.trans (Kept.of_below (below_alloc0 o))
theorem Kept.mono {F G : Nat → Prop} {w w' : World} (h : Kept F w w') (hFG : ∀ k, F k → G k) : Kept G w w' := ⟨h.os, h.tape, h.output, h.size, fun k hk hn => h.block k hk (fun hf => hn (hFG k hf))⟩

/-- A ruling: its block, its judges' block, what they hold. -/
structure RulB where
  r : Nat
  j : Nat
  note : Note
  judges : List (Int × Bool)
structure Led where
  issues : List (MarkK × Note)
  withdrawn : List (ByteArray × Int)
  rulings : List RulB
  byName : List (NameK × Nat)
  published : List NameK
  hash : Int
  history : List Note
  conflicts : List (NameK × Bool)
abbrev encN (x : Note) : Value := .agg x.enc.toArray
abbrev encI' (n : Int) : Value := .int .i64 n
abbrev encP (r : Nat) : Value := .pointer (some ⟨r, 0, none⟩)
abbrev NameK.cells (x : NameK) : List Value := [.int .i64 x.1, .int .i64 x.2]
abbrev RulB.cells (x : RulB) : Array Value := (x.note.enc ++ [Value.map (some x.j)]).toArray
theorem encI'_inj (x y : Int) (h : encI' x = encI' y) : x = y := by simpa [encI'] using h
theorem encS_inj (x y : ByteArray) (h : Value.string x = Value.string y) : x = y := by simpa using h

theorem grown_put (w : World) (b i : Nat) (v : Value) : w.grownBy (w.setCell ⟨b, i, none⟩ v) (some b) := ⟨rfl, rfl, rfl, by simp, fun k hk hne => Below.heap_setCell w _ v k (fun e => hne (by rw [e]))⟩
/-- What kind of block k is. -/
def tag (w : World) (k : Nat) : Option Nat :=
  match w.heap[k]? with
  | some (.cells _ t _) => some (t + 1)
  | some (.map ..) => some 0
  | _ => none
theorem Blk.tag {w : World} {b : Nat} {t : TypeId} {cs : Array Value} (h : Blk w b t cs) : tag w b = some (t + 1) := by unfold Blk at h; simp [Proofs.YtlamogpdkmbeoaaGreatDoor.tag, h]
theorem MapOf.tag {κ ν : Type} [DecidableEq κ] {w : World} {P : Program} {k : TypeId} {kenc : κ → Value} {venc : ν → Value} {b : Nat} {m : List (κ × ν)} (h : MapOf w P k kenc venc b m) : tag w b = some 0 := by
  obtain ⟨es, clock, h⟩ := h
  simp [Proofs.YtlamogpdkmbeoaaGreatDoor.tag, h.at_]
theorem own_tag {w : World} {base : Nat} {e : TypeId} {size : Nat} {v : Value} {n : Nat} {xs : List Value} (h : w.ownsRow base e size v n xs) {k : Nat} (hk : v.ownBlock = some k) : tag w k = some (e + 1) := by
  rcases h.2 with ⟨rfl, _⟩ | ⟨g, cap, cur, rfl, _, hgb, _⟩
  · simp [Value.ownBlock] at hk
  · have : g = k := by simpa [Value.ownBlock] using hk
    subst this
    simp [tag, hgb]
/-- Only blocks of this kind are written. -/
def Only (w : World) (t : Nat) (row : Option Nat) : Prop := ∀ k, row = some k → tag w k = some t
theorem Only.ne {w : World} {t t' : Nat} {row : Option Nat} (h : Only w t row) {b : Nat} (hb : tag w b = some t') (hne : t' ≠ t) : some b ≠ row := fun e => by
  have := h b e.symm
  rw [hb] at this
  exact hne (by injection this)
theorem Only.own {w : World} {t : Nat} {row : Option Nat} (h : Only w t row) {base : Nat} {e : TypeId} {size : Nat} {v : Value} {n : Nat} {xs : List Value} (ho : w.ownsRow base e size v n xs) (hne : e + 1 ≠ t) : v.ownBlock = none ∨ v.ownBlock ≠ row := by
  cases hv : v.ownBlock with
  | none => exact .inl rfl
  | some k => exact .inr (fun e' => h.ne (own_tag ho hv) hne e')
theorem Only.of_own {w : World} {base : Nat} {e : TypeId} {size : Nat} {v : Value} {n : Nat} {xs : List Value} (ho : w.ownsRow base e size v n xs) : Only w (e + 1) v.ownBlock := fun k hk => own_tag ho hk
theorem Only.of_blk {w : World} {b : Nat} {t : TypeId} {cs : Array Value} (h : Blk w b t cs) : Only w (t + 1) (some b) := fun k hk => by cases hk; exact h.tag
theorem Only.none {w : World} {t : Nat} : Only w t none := fun k hk => by cases hk

structure LedIn (F : Nat → Prop) (base : Nat) (w : World) (g : Nat) (L : Led) (bI bW bN bC : Nat) (rv pv hv : Value) : Prop where
  cells : Blk w g 90 #[.map (some bI), .map (some bW), rv, .map (some bN), pv, .int .i64 L.hash, hv, .map (some bC)]
  issues : MapOf w Tryz.prog 180 encMk encN bI L.issues
  withdrawn : MapOf w Tryz.prog 9 Value.string encI' bW L.withdrawn
  byName : MapOf w Tryz.prog 37 encNm encP bN L.byName
  conflicts : MapOf w Tryz.prog 37 encNm Value.bool bC L.conflicts
  rulings : w.ownsRow base 93 1 rv L.rulings.length (L.rulings.map (fun x => encP x.r))
  published : w.ownsRow base 37 2 pv L.published.length (L.published.flatMap NameK.cells)
  history : w.ownsRow base 46 20 hv L.history.length (L.history.flatMap Note.enc)
  rul : ∀ x ∈ L.rulings, Blk w x.r 139 x.cells
  jud : ∀ x ∈ L.rulings, MapOf w Tryz.prog 3 encI' Value.bool x.j x.judges
  apart : (bI :: bW :: bN :: bC :: L.rulings.map (·.j)).Nodup
  names : ∀ p ∈ L.byName, ∃ x ∈ L.rulings, x.r = p.2
  own : F g ∧ F bI ∧ F bW ∧ F bN ∧ F bC ∧ ∀ x ∈ L.rulings, F x.j
  rows : (∀ k, rv.ownBlock = some k → F k) ∧ (∀ k, pv.ownBlock = some k → F k) ∧ ∀ k, hv.ownBlock = some k → F k
def LedAt (F : Nat → Prop) (base : Nat) (w : World) (g : Nat) (L : Led) : Prop := ∃ bI bW bN bC rv pv hv, LedIn F base w g L bI bW bN bC rv pv hv

section
variable {F : Nat → Prop} {base : Nat} {w w' : World} {g : Nat} {L : Led} {bI bW bN bC : Nat} {rv pv hv : Value}
theorem LedIn.later (h : LedIn F base w g L bI bW bN bC rv pv hv) (hb : Below w.heap.size w w') : LedIn F base w' g L bI bW bN bC rv pv hv := by
  have hg : w.grownBy w' none := ⟨hb.os, hb.tape, hb.output, hb.size, fun i hi _ => hb.block i hi⟩
  exact ⟨h.cells.later hb, h.issues.kept hg (by simp), h.withdrawn.kept hg (by simp), h.byName.kept hg (by simp), h.conflicts.kept hg (by simp), h.rulings.kept hg (by cases rv.ownBlock <;> simp), h.published.kept hg (by cases pv.ownBlock <;> simp), h.history.kept hg (by cases hv.ownBlock <;> simp),
    fun x hx => (h.rul x hx).later hb, fun x hx => (h.jud x hx).kept hg (by simp), h.apart, h.names, h.own, h.rows⟩
/-- One of the ledger's own cells is written: the hash. -/
theorem LedIn.setHash (h : LedIn F base w g L bI bW bN bC rv pv hv) (n : Int) : LedIn F base (w.setCell ⟨g, 5, none⟩ (.int .i64 n)) g { L with hash := n } bI bW bN bC rv pv hv := by
  have hg : w.grownBy (w.setCell ⟨g, 5, none⟩ (.int .i64 n)) (some g) := grown_put _ _ _ _
  have ho := Only.of_blk h.cells
  exact ⟨h.cells.put 5 _, h.issues.kept hg (ho.ne h.issues.tag (by decide)), h.withdrawn.kept hg (ho.ne h.withdrawn.tag (by decide)), h.byName.kept hg (ho.ne h.byName.tag (by decide)), h.conflicts.kept hg (ho.ne h.conflicts.tag (by decide)),
    h.rulings.kept hg (ho.own h.rulings (by decide)), h.published.kept hg (ho.own h.published (by decide)), h.history.kept hg (ho.own h.history (by decide)),
    fun x hx => (h.rul x hx).kept hg (ho.ne (h.rul x hx).tag (by decide)), fun x hx => (h.jud x hx).kept hg (ho.ne (h.jud x hx).tag (by decide)), h.apart, h.names, h.own, h.rows⟩
/-- A name is appended to the published ones. -/
theorem LedIn.publish {w1 w2 : World} {v' : Value} (h : LedIn F base w g L bI bW bN bC rv pv hv) (hF : ∀ k, w.heap.size ≤ k → F k) (x : NameK) (hb : Below w.heap.size w w1) (hg1 : w1.grownBy w2 pv.ownBlock)
    (hown : w2.ownsRow base 37 2 v' (L.published.length + 1) (L.published.flatMap NameK.cells ++ x.cells)) (hloc : ∀ k, v'.ownBlock = some k → F k) :
    LedIn F base (w2.setCell ⟨g, 4, none⟩ v') g { L with published := L.published ++ [x] } bI bW bN bC rv v' hv := by
  have h1 := h.later hb
  have hp := Only.of_own h1.published
  have c2 := h1.cells.kept hg1 (hp.ne h1.cells.tag (by decide))
  have hg2 : w2.grownBy (w2.setCell ⟨g, 4, none⟩ v') (some g) := grown_put _ _ _ _
  have ho := Only.of_blk c2
  have i2 := h1.issues.kept hg1 (hp.ne h1.issues.tag (by decide))
  have w2' := h1.withdrawn.kept hg1 (hp.ne h1.withdrawn.tag (by decide))
  have n2 := h1.byName.kept hg1 (hp.ne h1.byName.tag (by decide))
  have k2 := h1.conflicts.kept hg1 (hp.ne h1.conflicts.tag (by decide))
  have r2 := h1.rulings.kept hg1 (hp.own h1.rulings (by decide))
  have y2 := h1.history.kept hg1 (hp.own h1.history (by decide))
  have u2 : ∀ x ∈ L.rulings, Blk w2 x.r 139 x.cells := fun x hx => (h1.rul x hx).kept hg1 (hp.ne (h1.rul x hx).tag (by decide))
  have j2 : ∀ x ∈ L.rulings, MapOf w2 Tryz.prog 3 encI' Value.bool x.j x.judges := fun x hx => (h1.jud x hx).kept hg1 (hp.ne (h1.jud x hx).tag (by decide))
  refine ⟨c2.put 4 _, i2.kept hg2 (ho.ne i2.tag (by decide)), w2'.kept hg2 (ho.ne w2'.tag (by decide)), n2.kept hg2 (ho.ne n2.tag (by decide)), k2.kept hg2 (ho.ne k2.tag (by decide)),
    r2.kept hg2 (ho.own r2 (by decide)), ?_, y2.kept hg2 (ho.own y2 (by decide)),
    fun x hx => (u2 x hx).kept hg2 (ho.ne (u2 x hx).tag (by decide)), fun x hx => (j2 x hx).kept hg2 (ho.ne (j2 x hx).tag (by decide)), h.apart, h.names, h.own, h.rows.1, hloc, h.rows.2.2⟩
  have := hown.kept hg2 (ho.own hown (by decide))
  simpa using this
/-- A note is appended to the history. -/
theorem LedIn.setHist {w1 w2 : World} {v' : Value} (h : LedIn F base w g L bI bW bN bC rv pv hv) (hF : ∀ k, w.heap.size ≤ k → F k) (x : Note) (hb : Below w.heap.size w w1) (hg1 : w1.grownBy w2 hv.ownBlock)
    (hown : w2.ownsRow base 46 20 v' (L.history.length + 1) (L.history.flatMap Note.enc ++ x.enc)) (hloc : ∀ k, v'.ownBlock = some k → F k) :
    LedIn F base (w2.setCell ⟨g, 6, none⟩ v') g { L with history := L.history ++ [x] } bI bW bN bC rv pv v' := by
  have h1 := h.later hb
  have hp := Only.of_own h1.history
  have c2 := h1.cells.kept hg1 (hp.ne h1.cells.tag (by decide))
  have hg2 : w2.grownBy (w2.setCell ⟨g, 6, none⟩ v') (some g) := grown_put _ _ _ _
  have ho := Only.of_blk c2
  have i2 := h1.issues.kept hg1 (hp.ne h1.issues.tag (by decide))
  have w2' := h1.withdrawn.kept hg1 (hp.ne h1.withdrawn.tag (by decide))
  have n2 := h1.byName.kept hg1 (hp.ne h1.byName.tag (by decide))
  have k2 := h1.conflicts.kept hg1 (hp.ne h1.conflicts.tag (by decide))
  have r2 := h1.rulings.kept hg1 (hp.own h1.rulings (by decide))
  have y2 := h1.published.kept hg1 (hp.own h1.published (by decide))
  have u2 : ∀ x ∈ L.rulings, Blk w2 x.r 139 x.cells := fun x hx => (h1.rul x hx).kept hg1 (hp.ne (h1.rul x hx).tag (by decide))
  have j2 : ∀ x ∈ L.rulings, MapOf w2 Tryz.prog 3 encI' Value.bool x.j x.judges := fun x hx => (h1.jud x hx).kept hg1 (hp.ne (h1.jud x hx).tag (by decide))
  refine ⟨c2.put 6 _, i2.kept hg2 (ho.ne i2.tag (by decide)), w2'.kept hg2 (ho.ne w2'.tag (by decide)), n2.kept hg2 (ho.ne n2.tag (by decide)), k2.kept hg2 (ho.ne k2.tag (by decide)),
    r2.kept hg2 (ho.own r2 (by decide)), y2.kept hg2 (ho.own y2 (by decide)), ?_,
    fun x hx => (u2 x hx).kept hg2 (ho.ne (u2 x hx).tag (by decide)), fun x hx => (j2 x hx).kept hg2 (ho.ne (j2 x hx).tag (by decide)), h.apart, h.names, h.own, h.rows.1, h.rows.2.1, hloc⟩
  have := hown.kept hg2 (ho.own hown (by decide))
  simpa using this

/-- A map is written. -/
theorem LedIn.setIssues {m : List (MarkK × Note)} (h : LedIn F base w g L bI bW bN bC rv pv hv) (hg : w.grownBy w' (some bI)) (hm : MapOf w' Tryz.prog 180 encMk encN bI m) : LedIn F base w' g { L with issues := m } bI bW bN bC rv pv hv := by
  have ho : Only w 0 (some bI) := fun k hk => by cases hk; exact h.issues.tag
  have ha := h.apart
  simp only [List.nodup_cons, List.mem_cons, not_or, List.mem_map, not_exists, not_and] at ha
  exact ⟨h.cells.kept hg (ho.ne h.cells.tag (by decide)), hm, h.withdrawn.kept hg (fun e => ha.1.1 (by injection e with e; exact e.symm)), h.byName.kept hg (fun e => ha.1.2.1 (by injection e with e; exact e.symm)), h.conflicts.kept hg (fun e => ha.1.2.2.1 (by injection e with e; exact e.symm)),
    h.rulings.kept hg (ho.own h.rulings (by decide)), h.published.kept hg (ho.own h.published (by decide)), h.history.kept hg (ho.own h.history (by decide)),
    fun x hx => (h.rul x hx).kept hg (ho.ne (h.rul x hx).tag (by decide)), fun x hx => (h.jud x hx).kept hg (fun e => ha.1.2.2.2 x hx (by injection e)), h.apart, h.names, h.own, h.rows⟩
theorem LedIn.setWithdrawn {m : List (ByteArray × Int)} (h : LedIn F base w g L bI bW bN bC rv pv hv) (hg : w.grownBy w' (some bW)) (hm : MapOf w' Tryz.prog 9 Value.string encI' bW m) : LedIn F base w' g { L with withdrawn := m } bI bW bN bC rv pv hv := by
  have ho : Only w 0 (some bW) := fun k hk => by cases hk; exact h.withdrawn.tag
  have ha := h.apart
  simp only [List.nodup_cons, List.mem_cons, not_or, List.mem_map, not_exists, not_and] at ha
  exact ⟨h.cells.kept hg (ho.ne h.cells.tag (by decide)), h.issues.kept hg (fun e => ha.1.1 (by injection e)), hm, h.byName.kept hg (fun e => ha.2.1.1 (by injection e with e; exact e.symm)), h.conflicts.kept hg (fun e => ha.2.1.2.1 (by injection e with e; exact e.symm)),
    h.rulings.kept hg (ho.own h.rulings (by decide)), h.published.kept hg (ho.own h.published (by decide)), h.history.kept hg (ho.own h.history (by decide)),
    fun x hx => (h.rul x hx).kept hg (ho.ne (h.rul x hx).tag (by decide)), fun x hx => (h.jud x hx).kept hg (fun e => ha.2.1.2.2 x hx (by injection e)), h.apart, h.names, h.own, h.rows⟩
theorem LedIn.setConflicts {m : List (NameK × Bool)} (h : LedIn F base w g L bI bW bN bC rv pv hv) (hg : w.grownBy w' (some bC)) (hm : MapOf w' Tryz.prog 37 encNm Value.bool bC m) : LedIn F base w' g { L with conflicts := m } bI bW bN bC rv pv hv := by
  have ho : Only w 0 (some bC) := fun k hk => by cases hk; exact h.conflicts.tag
  have ha := h.apart
  simp only [List.nodup_cons, List.mem_cons, not_or, List.mem_map, not_exists, not_and] at ha
  exact ⟨h.cells.kept hg (ho.ne h.cells.tag (by decide)), h.issues.kept hg (fun e => ha.1.2.2.1 (by injection e)), h.withdrawn.kept hg (fun e => ha.2.1.2.1 (by injection e)), h.byName.kept hg (fun e => ha.2.2.1.1 (by injection e)), hm,
    h.rulings.kept hg (ho.own h.rulings (by decide)), h.published.kept hg (ho.own h.published (by decide)), h.history.kept hg (ho.own h.history (by decide)),
    fun x hx => (h.rul x hx).kept hg (ho.ne (h.rul x hx).tag (by decide)), fun x hx => (h.jud x hx).kept hg (fun e => ha.2.2.2.1 x hx (by injection e)), h.apart, h.names, h.own, h.rows⟩
theorem LedIn.setByName {m : List (NameK × Nat)} (h : LedIn F base w g L bI bW bN bC rv pv hv) (hg : w.grownBy w' (some bN)) (hm : MapOf w' Tryz.prog 37 encNm encP bN m) (hn : ∀ p ∈ m, ∃ x ∈ L.rulings, x.r = p.2) : LedIn F base w' g { L with byName := m } bI bW bN bC rv pv hv := by
  have ho : Only w 0 (some bN) := fun k hk => by cases hk; exact h.byName.tag
  have ha := h.apart
  simp only [List.nodup_cons, List.mem_cons, not_or, List.mem_map, not_exists, not_and] at ha
  exact ⟨h.cells.kept hg (ho.ne h.cells.tag (by decide)), h.issues.kept hg (fun e => ha.1.2.1 (by injection e)), h.withdrawn.kept hg (fun e => ha.2.1.1 (by injection e)), hm, h.conflicts.kept hg (fun e => ha.2.2.1.1 (by injection e with e; exact e.symm)),
    h.rulings.kept hg (ho.own h.rulings (by decide)), h.published.kept hg (ho.own h.published (by decide)), h.history.kept hg (ho.own h.history (by decide)),
    fun x hx => (h.rul x hx).kept hg (ho.ne (h.rul x hx).tag (by decide)), fun x hx => (h.jud x hx).kept hg (fun e => ha.2.2.1.2 x hx (by injection e)), h.apart, hn, h.own, h.rows⟩
end
end Go.Proofs.YtlamogpdkmbeoaaGreatDoor
end PartLedA

section PartFrA
/- 'low' and 'check': the parts of a record. -/
set_option maxRecDepth 100000
namespace Go.Proofs.YtlamogpdkmbeoaaGreatDoor
open Go.RowKit Go.Lib Go.Shelf

abbrev encU (x : Int) : List Value := [.int .u8 x]
abbrev OwnU (w : World) (base : Nat) (v : Value) (bs : List Int) : Prop := w.ownsRow base 5 1 v bs.length (bs.flatMap encU)
abbrev BytesAt (w : World) (v : Value) (bs : List Int) : Prop := RowsAt encU 1 w v bs
def lowL (v : Int) (k : Nat) : List Int := (List.range k).map (fun i => v / 256 ^ i % 256)
theorem lowL_succ (v : Int) (k : Nat) : lowL v (k + 1) = lowL v k ++ [v / 256 ^ k % 256] := by unfold lowL; rw [List.range_succ, List.map_append]; rfl
theorem lowL_length (v : Int) (k : Nat) : (lowL v k).length = k := by simp [lowL]
theorem lowL_3 (v : Int) : lowL v 3 = hd3 v := by simp [lowL, hd3, List.range_succ]
theorem lowL_4 (v : Int) : lowL v 4 = low4 v := by simp [lowL, low4, List.range_succ]
theorem pow_div (v : Int) (k : Nat) : v / 256 ^ (k + 1) = v / 256 ^ k / 256 := by rw [Int.pow_succ, Int.ediv_ediv_of_nonneg (Int.pow_nonneg (by decide))]
theorem own_ge {w : World} {base : Nat} {e : TypeId} {size : Nat} {v : Value} {n : Nat} {xs : List Value} (h : w.ownsRow base e size v n xs) {k : Nat} (hk : v.ownBlock = some k) : base ≤ k := by
  rcases h.2 with ⟨rfl, _⟩ | ⟨g, cap, cur, rfl, hb, _⟩
  · simp [Value.ownBlock] at hk
  · have : g = k := by simpa [Value.ownBlock] using hk
    omega
theorem infoByte : ∃ i, Tryz.prog.info? 5 = some i ∧ i.zero = some (.int .u8 0) ∧ i.size = 1 ∧ i.bytes = 1 := ⟨_, rfl, rfl, rfl, rfl⟩
theorem low_any (v : Int) (k : Nat) (w : World) (hv : 0 ≤ v) (hvm : v ≤ 9223372036854775807) (hk : k ≤ 8) :
    Calls Tryz.prog 70 #[.int .i64 v, .int .i64 k] w fun e w' => ∃ u, e = .returned u ∧ OwnU w' w.heap.size u (lowL v k) ∧ Below w.heap.size w w' := by
  have US := Tryz.underlying57
  obtain ⟨i0, hi, hz0, hz1, hz2⟩ := infoByte
  go_enter Tryz.func70, Tryz.ntmps70
  go_upto_region 3 with fail
  go_loopw [0, 5, 7] (fun s0 s5 s7 wr => ∃ i : Nat, i ≤ k ∧ s0 = .int .i64 (v / 256 ^ i) ∧ s7 = .int .i64 i ∧ OwnU wr w.heap.size s5 (lowL v i) ∧ Below w.heap.size w wr) (fun _ _ s7 _ => k - (intOf s7).toNat)
  case atStart => exact ⟨0, by omega, by simp, rfl, World.ownsRow_nil _ _ _ _, Below.refl _ _⟩
  case round =>
    obtain ⟨i, hik, rfl, rfl, hown, hb⟩ := hrel
    have hsz := hb.size
    have HOWN := Lib.hid hown
    have HB := Lib.hid hb
    have hlen : (lowL v i).length = i := lowL_length v i
    have HLEN := Lib.hid hlen
    clear hown hb hlen
    by_cases hlt : i < k
    · go_upto_region 5 with (at_builtin; refine wpList_append_lies _ rfl _ _ 57 rfl w.heap.size 5 i0 (.int .u8 0) 1 1 US hi hz0 hz1 hz2 rfl (by decide) u5 _ _ rfl (HOWN.out.alloc _) ⟨wr.heap.size, 0, none⟩ 1 1 [.int .u8 (v / 256 ^ i % 256)] rfl rfl (World.news_of_block (Blk.new _ _ _)) (by intro u hu; simp at hu; subst hu; rfl) (by decide) (by rw [HLEN.out]; unfold maxLen; omega) (by rw [HLEN.out]; omega) (by simp; omega) _ rfl ?_; intro g cap w1 hown1 hg1 hat hlt1)
      have HO1 : Hid (OwnU w1 w.heap.size (.slice (some ⟨g, 0, none⟩) ((lowL v i).length + 1) cap) (lowL v (i + 1))) := Lib.hid (by unfold OwnU; rw [lowL_succ, List.length_append, List.flatMap_append]; exact hown1)
      have HB1 : Hid (Below w.heap.size w w1) := Lib.hid ((HB.out.alloc hsz _).grown hg1 (by simp; omega) (fun j e => own_ge HOWN.out e))
      have HD := Lib.hid (pow_div v i)
      clear hown1 hg1 hat hlt1
      go_wp2
      exact ⟨⟨i + 1, by omega, by rw [HD.out], by simp, HO1.out, HB1.out⟩, by simp [intOf]; omega⟩
    · have e : i = k := by omega
      subst e
      go_wp2
      go_ret
      exact ⟨_, rfl, by rw [show i = (lowL v i).length from HLEN.out.symm] ; rw [HLEN.out]; exact HOWN.out, HB.out⟩
/-- The check of bytes. -/
theorem check_any (b : List Int) (v : Value) (w : World) (h : BytesAt w v b) (hb : AreBytes b) : Calls Tryz.prog 73 #[v] w fun e w' => e = .returned (.int .i64 (chk b)) ∧ w = w' := by
  have hm := h.max
  unfold maxLen at hm
  rcases h.place with ⟨rfl, A, c, rfl⟩ | ⟨g, o, c, rfl, h0, _, hbb, hcell⟩
  · go_enter Tryz.func73, Tryz.ntmps73
    go_wp2
    refine wp_loop_rounds 1 ?_
    rw [rounds_succ]
    go_wp2
    go_ret
    exact ⟨rfl, rfl⟩
  · have HCELL := Lib.hid hcell
    clear hcell h
    go_enter Tryz.func73, Tryz.ntmps73
    go_upto_region 3 with fail
    go_loop [3, 8] (fun s3 s8 => ∃ k : Nat, k ≤ b.length ∧ s8 = .int .i64 k ∧ s3 = .int .i64 (chk (b.take k))) (fun _ s8 => b.length - (intOf s8).toNat)
    case atStart => exact ⟨0, Nat.zero_le _, rfl, rfl⟩
    case round =>
      obtain ⟨k, hk, rfl, rfl⟩ := hrel
      have hbd := chk_bd (b.take k)
      by_cases hlt : k < b.length
      · obtain ⟨x, hx⟩ : ∃ x, x = b[k] := ⟨_, rfl⟩
        have hxb : 0 ≤ x ∧ x < 256 := by rw [hx]; exact hb _ (List.getElem_mem hlt)
        have hxc : w.cell? ⟨g, o + k, none⟩ = some (.int .u8 x) := by have := HCELL.out k hlt 0 _ rfl; rw [Nat.mul_one] at this; rw [hx]; exact this
        have HS : Hid (chk (b.take (k + 1)) = (chk (b.take k) * 31 + x) % 4294967291) := Lib.hid (by rw [List.take_succ_eq_append_getElem hlt, ← hx]; exact chkFrom_snoc _ _ _)
        obtain ⟨s, hs⟩ : ∃ s, s = chk (b.take k) := ⟨_, rfl⟩
        rw [← hs] at hbd HS ⊢
        clear hx hs
        go_wp2
        exact ⟨⟨k + 1, by omega, by simp, by rw [HS.out]⟩, by simp [intOf]; omega⟩
      · have e : k = b.length := by omega
        have HT : Hid (b.take k = b) := Lib.hid (by rw [e]; exact List.take_length)
        go_wp2
        go_ret
        exact ⟨by first | rfl | rw [HT.out], rfl⟩
end Go.Proofs.YtlamogpdkmbeoaaGreatDoor
end PartFrA
