/- The walks of the library's 'swapRangeCmpFunc' and 'rotateCmpFunc' over a row of numbers. -/
import Derived.Test.YtgcddjgkieambaaGreatDoorMergeP
import Derived.Test.YtgcddjgkieambaaGreatDoorIndices2
import Derived.BigRegion
set_option linter.unusedVariables false
set_option linter.unusedSimpArgs false
namespace Go.Proofs.YtgcddjgkieambaaGreatDoor
open Go.RowKit

/-- The row in block g holds the numbers d; all other blocks are as in w. -/
def SR (w W : World) (g sz n : Nat) (d : Nat → Int) : Prop := RowK W g 3 sz n (fun j => .int .i64 (d j)) ∧ w.grownBy W (some g)
theorem RowK.put {w : World} {b : Nat} {t : TypeId} {size K : Nat} {f f' : Nat → Value} (H : RowK w b t size K f) {k : Nat} {u : Value} (hk : K ≤ size) (hf : ∀ j, j < K → f' j = if j = k then u else f j) : RowK (w.setCell ⟨b, k, none⟩ u) b t size K f' := by
  obtain ⟨cs, hb, hs, hc⟩ := H
  refine ⟨_, hb.put k _, by simpa using hs, fun j hj => ?_⟩
  rw [Array.getElem?_setIfInBounds, hf j hj]
  by_cases e : k = j
  · subst e; rw [if_pos rfl, if_pos (by omega), if_pos rfl]
  · rw [if_neg e, if_neg (fun h => e h.symm)]; exact hc j hj
theorem SR.cell {w W : World} {g sz n : Nat} {d : Nat → Int} (h : SR w W g sz n d) {k : Nat} (hk : k < n) : W.cell? ⟨g, k, none⟩ = some (.int .i64 (d k)) := h.1.cell hk
theorem SR.drew {w W : World} {g sz n : Nat} {d : Nat → Int} (h : SR w W g sz n d) : SR w W.drew g sz n d := ⟨h.1.drew, only_drew h.2⟩
theorem SR.drewN {w W : World} {g sz n : Nat} {d : Nat → Int} (h : SR w W g sz n d) : ∀ q, SR w (W.drewN q) g sz n d
  | 0 => h
  | q + 1 => (SR.drewN h q).drew
theorem SR.put {w W : World} {g sz n : Nat} {d d' : Nat → Int} (h : SR w W g sz n d) (hn : n ≤ sz) {k : Nat} {u : Int} (hd : ∀ j, j < n → d' j = if j = k then u else d j) : SR w (W.setCell ⟨g, k, none⟩ (.int .i64 u)) g sz n d' :=
  ⟨h.1.put hn fun j hj => by rw [hd j hj]; split <;> rfl, only_set h.2 k _⟩
theorem SR.congr {w W : World} {g sz n : Nat} {d d' : Nat → Int} (h : SR w W g sz n d) (hd : ∀ j, j < n → d j = d' j) : SR w W g sz n d' := ⟨h.1.congr fun j hj => by rw [hd j hj], h.2⟩

set_option maxRecDepth 100000 in
set_option maxHeartbeats 4000000 in
theorem swapRange_any (w W : World) (g sz n c a b k : Nat) (d : Nat → Int) (fv : Value) (hS : SR w W g sz n d) (hsz : n ≤ sz) (hn : n ≤ 1000000) (hab : a + k ≤ b) (hb : b + k ≤ n) :
    Calls Tryz.prog 174 #[.slice (some ⟨g, 0, none⟩) n c, .int .i64 a, .int .i64 b, .int .i64 k, fv] W fun e w' => e = .returned (.tuple #[]) ∧ SR w w' g sz n (St.swF d a b k) := by
  have HS := Lib.hid hS
  clear hS
  go_enter Tryz.func174, Tryz.ntmps174
  go_wp2
  go_loopw [10] (fun v10 wx => ∃ i : Nat, i ≤ k ∧ v10 = .int .i64 i ∧ SR w wx g sz n (St.swF d a b i)) (fun v10 _ => k - (intOf v10).toNat)
  case atStart => exact ⟨0, by omega, rfl, by rw [St.swF_zero]; exact HS.out⟩
  case round =>
    obtain ⟨i, hi, rfl, hR⟩ := hrel
    by_cases hlt : i < k
    · have f1 : decide ((i : Int) < (k : Int)) = true := by simp; omega
      have q1 : IntKind.i64.wrap ((i : Int) + 1) = (i : Int) + 1 := IntWalk.i64_in _ (by omega)
      obtain ⟨s1, s2⟩ := St.swF_at (d := d) (a := a) (b := b) (k := i) (by omega)
      obtain ⟨x, hx⟩ : ∃ x, x = a + i := ⟨_, rfl⟩
      obtain ⟨y, hy⟩ : ∃ y, y = b + i := ⟨_, rfl⟩
      have ex : (a : Int) + (i : Int) = (x : Int) := by omega
      have ey : (b : Int) + (i : Int) = (y : Int) := by omega
      have qx : IntKind.i64.wrap (x : Int) = (x : Int) := IntWalk.i64_in _ (by omega)
      have qy : IntKind.i64.wrap (y : Int) = (y : Int) := IntWalk.i64_in _ (by omega)
      have gx : (x : Int) < (n : Int) := by omega
      have gy : (y : Int) < (n : Int) := by omega
      have gx0 : (0 : Int) ≤ (x : Int) := by omega
      have gy0 : (0 : Int) ≤ (y : Int) := by omega
      have cx := hR.cell (k := x) (by omega)
      have cy := hR.cell (k := y) (by omega)
      rw [← hx] at s1
      rw [← hy] at s2
      rw [s1] at cx
      rw [s2] at cy
      have fx := hR.1.frozen x
      have fy := hR.1.frozen y
      have hne : ¬ x = y := by omega
      have hne' : ¬ y = x := by omega
      have HN := Lib.hid (fun q : Nat => ((hR.drewN q).put hsz (k := x) (u := d y) (d' := fun j => if j = x then d y else St.swF d a b i j) (fun j _ => rfl)).put hsz (k := y) (u := d x) (d' := St.swF d a b (i + 1)) (fun j _ => by
        rw [← St.swF_step (d := d) (a := a) (b := b) (k := i) (by omega) j, ← hx, ← hy]))
      clear hR s1 s2 hx hy
      generalize d x = u at cx HN
      generalize d y = v at cy HN
      obtain ⟨wq, hwq⟩ : ∃ wq : World, wq = wr := ⟨_, rfl⟩
      rw [← hwq] at cx cy fx fy HN ⊢
      clear hwq
      go_wp2
      go_region
      go_wp2
      go_roundw
      case rel => exact ⟨i + 1, by omega, by go_num, (HN.out 0).drew⟩
      case measure => simp [intOf] <;> omega
    · obtain rfl : i = k := by omega
      have f1 : decide ((i : Int) < (i : Int)) = false := by simp
      have HR := Lib.hid hR
      clear hR
      go_wp2
      go_end0
      exact ⟨rfl, HR.out⟩

set_option maxRecDepth 100000 in
set_option maxHeartbeats 4000000 in
theorem rotate_any (w W : World) (g sz n c a m b : Nat) (d : Nat → Int) (fv : Value) (hS : SR w W g sz n d) (hsz : n ≤ sz) (hn : n ≤ 1000000) (ham : a < m) (hmb : m < b) (hb : b ≤ n) :
    Calls Tryz.prog 158 #[.slice (some ⟨g, 0, none⟩) n c, .int .i64 a, .int .i64 m, .int .i64 b, fv] W fun e w' => e = .returned (.tuple #[]) ∧ SR w w' g sz n (St.rotF d a m b) := by
  have HSW := Lib.hid (fun wx a b k d hS h1 h2 => swapRange_any w wx g sz n c a b k d fv hS hsz hn h1 h2)
  have HS := Lib.hid hS
  have e1 : (m : Int) - (a : Int) = ((m - a : Nat) : Int) := by omega
  have e2 : (b : Int) - (m : Int) = ((b - m : Nat) : Int) := by omega
  have q1 : IntKind.i64.wrap ((m - a : Nat) : Int) = ((m - a : Nat) : Int) := IntWalk.i64_in _ (by omega)
  have q2 : IntKind.i64.wrap ((b - m : Nat) : Int) = ((b - m : Nat) : Int) := IntWalk.i64_in _ (by omega)
  clear hS
  go_enter Tryz.func158, Tryz.ntmps158
  go_wp2
  go_loopw [10, 11] (fun v10 v11 wx => ∃ (i j : Nat) (cur : Nat → Int), 1 ≤ i ∧ 1 ≤ j ∧ i ≤ m - a ∧ j ≤ b - m ∧ v10 = .int .i64 i ∧ v11 = .int .i64 j ∧ SR w wx g sz n cur ∧ St.rotF cur (m - i) m (m + j) = St.rotF d a m b) (fun v10 v11 _ => (intOf v10).toNat + (intOf v11).toNat)
  case atStart => exact ⟨m - a, b - m, d, by omega, by omega, Nat.le_refl _, Nat.le_refl _, rfl, rfl, HS.out, by rw [show m - (m - a) = a by omega, show m + (b - m) = b by omega]⟩
  case round =>
    obtain ⟨i, j, cur, hi, hj, him, hjb, rfl, rfl, hR, hrot⟩ := hrel
    have HR := Lib.hid hR
    have HT := Lib.hid hrot
    have x1 : (m : Int) - (i : Int) = ((m - i : Nat) : Int) := by omega
    have p1 : IntKind.i64.wrap ((m - i : Nat) : Int) = ((m - i : Nat) : Int) := IntWalk.i64_in _ (by omega)
    clear hR hrot
    by_cases hij : i = j
    · subst hij
      have f1 : ((i : Int) != (i : Int)) = false := by simp
      go_wp2_with (go_at_call 174; refine (HSW.out _ (m - i) m i cur HR.out (by omega) (by omega)).mono ?_; rintro e w2 ⟨rfl, hR2⟩)
      go_end0
      rw [← HT.out, ← St.rot_end cur (by omega)]
      exact ⟨rfl, hR2⟩
    · have f1 : ((i : Int) != (j : Int)) = true := by simp; omega
      by_cases hlt : j < i
      · have f2 : decide ((i : Int) > (j : Int)) = true := by simp; omega
        have f2' : decide ((j : Int) < (i : Int)) = true := by simp; omega
        have x2 : (i : Int) - (j : Int) = ((i - j : Nat) : Int) := by omega
        have p2 : IntKind.i64.wrap ((i - j : Nat) : Int) = ((i - j : Nat) : Int) := IntWalk.i64_in _ (by omega)
        go_wp2_with (go_at_call 174; refine (HSW.out _ (m - i) m j cur HR.out (by omega) (by omega)).mono ?_; rintro e w2 ⟨rfl, hR2⟩)
        go_roundw
        case rel => exact ⟨i - j, j, _, by omega, by omega, by omega, by omega, rfl, rfl, hR2, (St.rot_left cur (by omega) hlt).trans HT.out⟩
        case measure => simp [intOf] <;> omega
      · have f2 : decide ((i : Int) > (j : Int)) = false := by simp; omega
        have f2' : decide ((j : Int) < (i : Int)) = false := by simp; omega
        have x2 : (j : Int) - (i : Int) = ((j - i : Nat) : Int) := by omega
        obtain ⟨y, hy⟩ : ∃ y, y = m + (j - i) := ⟨_, rfl⟩
        have x3 : (m : Int) + (j : Int) - (i : Int) = (y : Int) := by omega
        have p2 : IntKind.i64.wrap ((j - i : Nat) : Int) = ((j - i : Nat) : Int) := IntWalk.i64_in _ (by omega)
        have p3 : IntKind.i64.wrap ((m : Int) + (j : Int)) = (m : Int) + (j : Int) := IntWalk.i64_in _ (by omega)
        have p4 : IntKind.i64.wrap (y : Int) = (y : Int) := IntWalk.i64_in _ (by omega)
        have Hy := Lib.hid hy
        have hy1 : m - i + i ≤ y := by omega
        have hy2 : y + i ≤ n := by omega
        clear hy
        go_wp2_with (go_at_call 174; refine (HSW.out _ (m - i) y i cur HR.out hy1 hy2).mono ?_; rintro e w2 ⟨rfl, hR2⟩)
        go_roundw
        case rel => exact ⟨i, j - i, _, by omega, by omega, by omega, by omega, rfl, rfl, hR2, by rw [Hy.out]; exact (St.rot_right cur (by omega) (by omega)).trans HT.out⟩
        case measure => simp [intOf] <;> omega
end Go.Proofs.YtgcddjgkieambaaGreatDoor
