/- CopyingChars: the walk of the statement's function. -/
import Derived.Test.YtgcddjgkieambaaGreatDoorCharW
import Derived.Test.YtgcddjgkieambaaGreatDoorRises
set_option linter.unusedVariables false
set_option linter.unusedSimpArgs false
namespace Go.Proofs.YtgcddjgkieambaaGreatDoor
open Go.RowKit

set_option maxRecDepth 100000 in
set_option maxHeartbeats 8000000 in
theorem CharsQ_any (m : Int) (x y code : ByteArray) (a b most : Int) (v7 v8 v9 v10 v11 : Value) (w : World) (hP : Pow w) :
    Calls Tryz.prog 9 #[.agg (askV m x y code a b most v7 v8 v9 v10 v11)] w fun e w' => e = .returned (.bool true) ∧ Below w.heap.size w w' := by
  have HB0 := Lib.hid (Blk.new w 40 (askV m x y code a b most v7 v8 v9 v10 v11))
  have HA := Lib.hid (fun o => awake_any (w.alloc o) (hP.later (below_alloc0 _)))
  clear hP
  by_cases hl : x.size ≤ 200 ∧ y.size ≤ 200 ∧ code.size ≤ 200
  · obtain ⟨hx, hy, hc⟩ := hl
    have d1 : decide ((x.size : Int) ≤ 200) = true := by simp; omega
    have d2 : decide ((y.size : Int) ≤ 200) = true := by simp; omega
    have d3 : decide ((code.size : Int) ≤ 200) = true := by simp; omega
    obtain ⟨cc, zz, hY⟩ := chr_some code
    have H35 := Lib.hid (fun W => Code_any x W (by omega))
    have H39 := Lib.hid (fun W => refCode_any x W (by omega))
    have H37 := Lib.hid (fun W => Char_loop code W (by omega) cc zz hY)
    have H40 := Lib.hid (fun W => refChar_any code cc zz W hY)
    have H36 := Lib.hid (fun W => Family_any x W (by omega))
    have H41 := Lib.hid (fun W => refFamily_any x W (by omega))
    have H42 := Lib.hid (fun W => Swap_any m x y W (by omega) (by omega))
    have H43 := Lib.hid (fun W => refSwap_any m x y W (by omega) (by omega))
    have H44 := Lib.hid (fun W => Miss_any m W)
    have H45 := Lib.hid (fun W => refMiss_any m W)
    have H46 := Lib.hid (fun W => Extra_any m W)
    have H47 := Lib.hid (fun W => refExtra_any m W)
    generalize codeS x = n1 at H35 H39
    generalize keyE x = n2 at H35 H39 H36 H41
    generalize famS x = n3 at H36 H41
    generalize swC m x y = n4 at H42 H43
    generalize swE m x y = n5 at H42 H43
    generalize moM m = n6 at H44 H45
    generalize moE m = n7 at H44 H45 H46 H47
    generalize moX m = n8 at H46 H47
    clear hx hy hc hY
    go_enter Tryz.func9, Tryz.ntmps9
    go_wp2_with (first
      | (go_at_call 18; refine (HA.out _).mono ?_; rintro e w1 ⟨rfl, hb1⟩; have hB := HB0.out.later hb1; have hbt := below_trans' (below_alloc0 _) hb1; obtain ⟨k0, k1, k2, k3, _⟩ := blk12 hB)
      | (go_at_call 19; refine (brief_any _ _).mono ?_; rintro e w2 ⟨rfl, rfl⟩)
      | (go_at_call 35; refine (H35.out _).mono ?_; rintro e w2 ⟨rfl, hb2⟩; have hB := hB.later hb2; have hbt := below_trans' hbt hb2; obtain ⟨k0, k1, k2, k3, _⟩ := blk12 hB)
      | (go_at_call 39; refine (H39.out _).mono ?_; rintro e w3 ⟨rfl, hb3⟩; have hB := hB.later hb3; have hbt := below_trans' hbt hb3; obtain ⟨k0, k1, k2, k3, _⟩ := blk12 hB)
      | (go_at_call 37; refine (H37.out _).mono ?_; rintro e w4 ⟨rfl, hb4⟩; have hB := hB.later hb4; have hbt := below_trans' hbt hb4; obtain ⟨k0, k1, k2, k3, _⟩ := blk12 hB)
      | (go_at_call 40; refine (H40.out _).mono ?_; rintro e w5 ⟨rfl, hb5⟩; have hB := hB.later hb5; have hbt := below_trans' hbt hb5; obtain ⟨k0, k1, k2, k3, _⟩ := blk12 hB)
      | (go_at_call 36; refine (H36.out _).mono ?_; rintro e w6 ⟨rfl, hb6⟩; have hB := hB.later hb6; have hbt := below_trans' hbt hb6; obtain ⟨k0, k1, k2, k3, _⟩ := blk12 hB)
      | (go_at_call 41; refine (H41.out _).mono ?_; rintro e w7 ⟨rfl, hb7⟩; have hB := hB.later hb7; have hbt := below_trans' hbt hb7; obtain ⟨k0, k1, k2, k3, _⟩ := blk12 hB)
      | (go_at_call 42; refine (H42.out _).mono ?_; rintro e w8 ⟨rfl, hb8⟩; have hB := hB.later hb8; have hbt := below_trans' hbt hb8; obtain ⟨k0, k1, k2, k3, _⟩ := blk12 hB)
      | (go_at_call 43; refine (H43.out _).mono ?_; rintro e w9 ⟨rfl, hb9⟩; have hB := hB.later hb9; have hbt := below_trans' hbt hb9; obtain ⟨k0, k1, k2, k3, _⟩ := blk12 hB)
      | (go_at_call 44; refine (H44.out _).mono ?_; rintro e w10 ⟨rfl, hb10⟩; have hB := hB.later hb10; have hbt := below_trans' hbt hb10; obtain ⟨k0, k1, k2, k3, _⟩ := blk12 hB)
      | (go_at_call 45; refine (H45.out _).mono ?_; rintro e w11 ⟨rfl, rfl⟩)
      | (go_at_call 46; refine (H46.out _).mono ?_; rintro e w12 ⟨rfl, hb12⟩; have hB := hB.later hb12; have hbt := below_trans' hbt hb12; obtain ⟨k0, k1, k2, k3, _⟩ := blk12 hB)
      | (go_at_call 47; refine (H47.out _).mono ?_; rintro e w13 ⟨rfl, rfl⟩))
    go_ret
    exact ⟨by simp, hbt⟩
  · by_cases hx : x.size ≤ 200
    · have d1 : decide ((x.size : Int) ≤ 200) = true := by simp; omega
      by_cases hy : y.size ≤ 200
      · have d2 : decide ((y.size : Int) ≤ 200) = true := by simp; omega
        have d3 : decide ((code.size : Int) ≤ 200) = false := by simp; omega
        clear hl hx hy
        go_enter Tryz.func9, Tryz.ntmps9
        go_wp2_with (first
          | (go_at_call 18; refine (HA.out _).mono ?_; rintro e w1 ⟨rfl, hb1⟩; have hB := HB0.out.later hb1; have hbt := below_trans' (below_alloc0 _) hb1; obtain ⟨k0, k1, k2, k3, _⟩ := blk12 hB)
          | (go_at_call 19; refine (brief_any _ _).mono ?_; rintro e w2 ⟨rfl, rfl⟩))
        go_ret
        exact ⟨rfl, hbt⟩
      · have d2 : decide ((y.size : Int) ≤ 200) = false := by simp; omega
        clear hl hx hy
        go_enter Tryz.func9, Tryz.ntmps9
        go_wp2_with (first
          | (go_at_call 18; refine (HA.out _).mono ?_; rintro e w1 ⟨rfl, hb1⟩; have hB := HB0.out.later hb1; have hbt := below_trans' (below_alloc0 _) hb1; obtain ⟨k0, k1, k2, k3, _⟩ := blk12 hB)
          | (go_at_call 19; refine (brief_any _ _).mono ?_; rintro e w2 ⟨rfl, rfl⟩))
        go_ret
        exact ⟨rfl, hbt⟩
    · have d1 : decide ((x.size : Int) ≤ 200) = false := by simp; omega
      clear hl hx
      go_enter Tryz.func9, Tryz.ntmps9
      go_wp2_with (first
        | (go_at_call 18; refine (HA.out _).mono ?_; rintro e w1 ⟨rfl, hb1⟩; have hB := HB0.out.later hb1; have hbt := below_trans' (below_alloc0 _) hb1; obtain ⟨k0, k1, k2, k3, _⟩ := blk12 hB)
        | (go_at_call 19; refine (brief_any _ _).mono ?_; rintro e w2 ⟨rfl, rfl⟩))
      go_ret
      exact ⟨rfl, hbt⟩
end Go.Proofs.YtgcddjgkieambaaGreatDoor
