/- The map of the costs, and the function by which the nearest texts are compared. -/
import Derived.Test.YtgcddjgkieambaaGreatDoorNearP
import Derived.Test.YtgcddjgkieambaaGreatDoorSymD
import Derived.Maps.OwnSet
set_option linter.unusedVariables false
set_option linter.unusedSimpArgs false
namespace Go.Proofs.YtgcddjgkieambaaGreatDoor
open Go.RowKit Go.Maps

theorem law3 : Keyed Tryz.prog 3 := int_keyed Tryz.underlying3
theorem zero3 (w : World) : (zeroValue 3).run Tryz.prog w = .ok (.int .i64 0) w := by kernel_rfl
/-- The map of the first costs. -/
def mapN (cst : Nat → Int) : Nat → DataW Unit
  | 0 => .map []
  | k + 1 => (mapN cst k).put (.int .i64 (k : Int)) (.lit (.int .i64 (cst k)))
theorem mapN_isMap (cst : Nat → Int) : ∀ k, IsMap (mapN cst k)
  | 0 => isMap_empty
  | k + 1 => (mapN_isMap cst k).put _ _
theorem mapN_at (cst : Nat → Int) (x : Nat) : ∀ k, (mapN cst k).atKey (.int .i64 (x : Int)) (.lit (.int .i64 0)) = .lit (.int .i64 (if x < k then cst x else 0))
  | 0 => by rw [if_neg (by omega)]; rfl
  | k + 1 => by
    rw [mapN]
    by_cases e : x = k
    · subst e
      rw [atKey_put_same (mapN_isMap cst _) (show WideAt.IsKeyLit (.int .i64 (x : Int)) from trivial), if_pos (by omega)]
    · have hne : (Lit.int .i64 (x : Int)) ≠ .int .i64 (k : Int) := fun h => e (by injection h with _ h; omega)
      rw [atKey_put_other hne, mapN_at cst x k]
      by_cases h : x < k
      · rw [if_pos h, if_pos (by omega)]
      · rw [if_neg h, if_neg (by omega)]
theorem wf3 {z : Int} (h : -9223372036854775808 ≤ z ∧ z ≤ 9223372036854775807) : (Lit.int .i64 z).wf = true := WalkArith.wf_i64 h
abbrev OwnsN (W : World) (mb n : Nat) (cst : Nat → Int) : Prop := W.ownsMap Tryz.prog 3 (plainElem (H := Unit) Tryz.prog 3) mb n (mapN cst n)
theorem lit_inj {a b : Int} (h : (DataW.lit (.int .i64 a) : DataW Unit) = .lit (.int .i64 b)) : a = b := by
  injection h with h
  injection h
theorem look_run {W : World} {mb n : Nat} {cst : Nat → Int} (hown : OwnsN W mb n cst) (x : Nat) (hx : x ≤ 1000000) : (Instr.lookup 111 (.map (some mb)) (.int .i64 (x : Int)) false).run Tryz.prog W = .ok (.int .i64 (if x < n then cst x else 0)) W := by
  obtain ⟨c, hrun, hat, _⟩ := hown.lookup_int law3 Tryz.underlying111 Tryz.underlying3 (zero3 W) (keyOf_int_mk Tryz.underlying3 (wf3 (by omega) : (Lit.int .i64 (x : Int)).wf = true))
  rw [mapN_at] at hat
  rw [hrun, ← lit_inj hat]
/-- The key of the comparison. -/
def nk (cst : Nat → Int) (n : Nat) (x : Int) : Int := if x.toNat < n then cst x.toNat else 0

set_option maxRecDepth 100000 in
set_option maxHeartbeats 2000000 in
theorem cmp98 (W : World) (bx mb n : Nat) (cst : Nat → Int) (hbx : W.cell? ⟨bx, 0, none⟩ = some (.map (some mb))) (hown : OwnsN W mb n cst) (x y : Int) (x0 : 0 ≤ x) (x1 : x ≤ 1000000) (y0 : 0 ≤ y) (y1 : y ≤ 1000000) :
    Calls Tryz.prog 98 #[.int .i64 x, .int .i64 y, .pointer (some ⟨bx, 0, none⟩)] W fun e w' => e = .returned (.int .i64 (cmpK (nk cst n) x y)) ∧ ∃ q, w' = W.drewN q := by
  obtain ⟨i, rfl⟩ := Int.eq_ofNat_of_zero_le x0
  obtain ⟨k, rfl⟩ := Int.eq_ofNat_of_zero_le y0
  have r1 := look_run hown i (by omega)
  have r2 := look_run hown k (by omega)
  have e1 : nk cst n (i : Int) = if i < n then cst i else 0 := by unfold nk; rw [Int.toNat_natCast]
  have e2 : nk cst n (k : Int) = if k < n then cst k else 0 := by unfold nk; rw [Int.toNat_natCast]
  rw [← e1] at r1
  rw [← e2] at r2
  have hc : cmpK (nk cst n) (i : Int) (k : Int) = Lib.compareInt (nk cst n (i : Int)) (nk cst n (k : Int)) := by
    unfold cmpK Lib.compareInt
    simp only [gt_iff_lt]
  rw [hc]
  generalize nk cst n (i : Int) = u at r1
  generalize nk cst n (k : Int) = v at r2
  clear e1 e2 hc hown x0 x1 y0 y1
  go_enter Tryz.func98, Tryz.ntmps98
  go_wp2_with (go_at_call 99; refine (Tryz.cmp_Compare_int _ _ _).mono ?_; rintro e w1 ⟨rfl, rfl⟩)
  go_ret
  exact ⟨rfl, 0, rfl⟩
theorem cmpOK_of (w : World) (g bx mb n : Nat) (cst : Nat → Int) (hbx : w.cell? ⟨bx, 0, none⟩ = some (.map (some mb))) (hown : OwnsN w mb n cst) (h1 : bx ≠ g) (h2 : mb ≠ g) : CmpOK w g (nk cst n) (.pointer (some ⟨bx, 0, none⟩)) := by
  intro W hg x y x0 x1 y0 y1
  have hlt := World.block_lt_of_cell? w _ hbx
  refine cmp98 W bx mb n cst ((hg.cell_far ⟨bx, 0, none⟩ hlt (by simpa using h1)).trans hbx) (hown.kept hg (by simpa using h2)) x y x0 x1 y0 y1
end Go.Proofs.YtgcddjgkieambaaGreatDoor
