/- CopyingNumbers: the walk of the statement's function. -/
import Derived.Test.YtgcddjgkieambaaGreatDoorReadW
import Derived.Test.YtgcddjgkieambaaGreatDoorRises
set_option linter.unusedVariables false
set_option linter.unusedSimpArgs false
namespace Go.Proofs.YtgcddjgkieambaaGreatDoor
open Go.RowKit

theorem Digits_any (m n : Int) (w : World) (hP : Pow w) : Calls Tryz.prog 58 #[.int .i64 m, .int .i64 n] w fun e w' => e = .returned (.tuple #[.string (digS m n), .int .i64 (digErr m n)]) ∧ Below w.heap.size w w' := by
  by_cases he : digErr m n = 0
  · unfold digS
    rw [if_pos he, he]
    exact Digits_ok m n w hP he
  · unfold digS
    rw [if_neg he]
    exact Digits_no m n w he

set_option maxRecDepth 100000 in
set_option maxHeartbeats 8000000 in
theorem Numbers_any (m : Int) (x y code : ByteArray) (a b most : Int) (v7 v8 v9 v10 v11 : Value) (w : World) (hP : Pow w) :
    Calls Tryz.prog 16 #[.agg (askV m x y code a b most v7 v8 v9 v10 v11)] w fun e w' => e = .returned (.bool true) ∧ Below w.heap.size w w' := by
  have HB0 := Lib.hid (Blk.new w 40 (askV m x y code a b most v7 v8 v9 v10 v11))
  have HA := Lib.hid (fun o => awake_any (w.alloc o) (hP.later (below_alloc0 _)))
  by_cases hx : x.size ≤ 200
  · have H58 := Lib.hid (fun W (hb : Below w.heap.size w W) => Digits_any m a W (hP.later hb))
    have H59 := Lib.hid (fun W (hb : Below w.heap.size w W) => refDigits_any m a W (hP.later hb))
    have H60 := Lib.hid (fun W => Number_any m x W (by omega))
    have H61 := Lib.hid (fun W => refNumber_any m x W)
    have H62 := Lib.hid (fun W (hb : Below w.heap.size w W) => CopyNumber_any m a b W (hP.later hb))
    have H63 := Lib.hid (fun W (hb : Below w.heap.size w W) => refCopyNumber_any m a b W (hP.later hb))
    generalize digS m a = s at H58 H59
    generalize digErr m a = n1 at H58 H59
    generalize nuV m x = n2 at H60 H61
    generalize nuE m x = n3 at H60 H61
    generalize cnC m a b = n4 at H62 H63
    generalize cnE m a b = n5 at H62 H63
    have d1 : decide ((x.size : Int) ≤ 200) = true := by simp; omega
    clear hP hx
    go_enter Tryz.func16, Tryz.ntmps16
    go_wp2_with (first
      | (go_at_call 18; refine (HA.out _).mono ?_; rintro e w1 ⟨rfl, hb1⟩; have hB := HB0.out.later hb1; have hbt := below_trans' (below_alloc0 _) hb1; obtain ⟨k0, k1, k2, k3, k4, k5, _⟩ := blk12 hB)
      | (go_at_call 19; refine (brief_any _ _).mono ?_; rintro e w2 ⟨rfl, rfl⟩)
      | (go_at_call 58; refine (H58.out _ hbt).mono ?_; rintro e w2 ⟨rfl, hb2⟩; have hB := hB.later hb2; have hbt := below_trans' hbt hb2; obtain ⟨k0, k1, k2, k3, k4, k5, _⟩ := blk12 hB)
      | (go_at_call 59; refine (H59.out _ hbt).mono ?_; rintro e w3 ⟨rfl, hb3⟩; have hB := hB.later hb3; have hbt := below_trans' hbt hb3; obtain ⟨k0, k1, k2, k3, k4, k5, _⟩ := blk12 hB)
      | (go_at_call 60; refine (H60.out _).mono ?_; rintro e w4 ⟨rfl, hb4⟩; have hB := hB.later hb4; have hbt := below_trans' hbt hb4; obtain ⟨k0, k1, k2, k3, k4, k5, _⟩ := blk12 hB)
      | (go_at_call 61; refine (H61.out _).mono ?_; rintro e w5 ⟨rfl, rfl⟩)
      | (go_at_call 62; refine (H62.out _ hbt).mono ?_; rintro e w6 ⟨rfl, hb6⟩; have hB := hB.later hb6; have hbt := below_trans' hbt hb6; obtain ⟨k0, k1, k2, k3, k4, k5, _⟩ := blk12 hB)
      | (go_at_call 63; refine (H63.out _ hbt).mono ?_; rintro e w7 ⟨rfl, hb7⟩; have hB := hB.later hb7; have hbt := below_trans' hbt hb7; obtain ⟨k0, k1, k2, k3, k4, k5, _⟩ := blk12 hB))
    go_ret
    exact ⟨by simp, hbt⟩
  · have d1 : decide ((x.size : Int) ≤ 200) = false := by simp; omega
    clear hP hx
    go_enter Tryz.func16, Tryz.ntmps16
    go_wp2_with (first
      | (go_at_call 18; refine (HA.out _).mono ?_; rintro e w1 ⟨rfl, hb1⟩; have hB := HB0.out.later hb1; have hbt := below_trans' (below_alloc0 _) hb1; obtain ⟨k0, k1, k2, k3, k4, k5, _⟩ := blk12 hB)
      | (go_at_call 19; refine (brief_any _ _).mono ?_; rintro e w2 ⟨rfl, rfl⟩))
    go_ret
    exact ⟨rfl, hbt⟩
end Go.Proofs.YtgcddjgkieambaaGreatDoor
