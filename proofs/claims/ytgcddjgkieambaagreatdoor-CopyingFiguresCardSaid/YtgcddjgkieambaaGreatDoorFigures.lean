/- CopyingFigures: the walk of the statement's function. -/
import Derived.Test.YtgcddjgkieambaaGreatDoorReadW
import Derived.Test.YtgcddjgkieambaaGreatDoorRises
set_option linter.unusedVariables false
set_option linter.unusedSimpArgs false
namespace Go.Proofs.YtgcddjgkieambaaGreatDoor
open Go.RowKit

set_option maxRecDepth 100000 in
set_option maxHeartbeats 8000000 in
theorem Figures_no (m : Int) (x y code : ByteArray) (a b most : Int) (v7 v8 v9 v10 v11 : Value) (w : World) (hP : Pow w) (he : digErr m a ≠ 0) :
    Calls Tryz.prog 17 #[.agg (askV m x y code a b most v7 v8 v9 v10 v11)] w fun e w' => e = .returned (.bool true) ∧ Below w.heap.size w w' := by
  have HB0 := Lib.hid (Blk.new w 40 (askV m x y code a b most v7 v8 v9 v10 v11))
  have HA := Lib.hid (fun o => awake_any (w.alloc o) (hP.later (below_alloc0 _)))
  have H58 := Lib.hid (fun W => Digits_no m a W he)
  generalize digErr m a = n at H58 he
  have d0 : (n != 0) = true := by simpa using he
  clear hP he
  go_enter Tryz.func17, Tryz.ntmps17
  go_wp2_with (first
    | (go_at_call 18; refine (HA.out _).mono ?_; rintro e w1 ⟨rfl, hb1⟩; have hB := HB0.out.later hb1; have hbt := below_trans' (below_alloc0 _) hb1; obtain ⟨k0, k1, k2, k3, k4, k5, _⟩ := blk12 hB)
    | (go_at_call 58; refine (H58.out _).mono ?_; rintro e w2 ⟨rfl, hb2⟩; have hB := hB.later hb2; have hbt := below_trans' hbt hb2; obtain ⟨k0, k1, k2, k3, k4, k5, _⟩ := blk12 hB))
  go_ret
  exact ⟨rfl, hbt⟩

set_option maxRecDepth 100000 in
set_option maxHeartbeats 8000000 in
theorem Figures_ok (m : Int) (x y code : ByteArray) (a b most : Int) (v7 v8 v9 v10 v11 : Value) (w : World) (hP : Pow w) (he : digErr m a = 0) :
    Calls Tryz.prog 17 #[.agg (askV m x y code a b most v7 v8 v9 v10 v11)] w fun e w' => e = .returned (.bool true) ∧ Below w.heap.size w w' := by
  have HB0 := Lib.hid (Blk.new w 40 (askV m x y code a b most v7 v8 v9 v10 v11))
  have HA := Lib.hid (fun o => awake_any (w.alloc o) (hP.later (below_alloc0 _)))
  obtain ⟨e1, e2⟩ := nu_back he
  obtain ⟨hm, h0, h9⟩ := digErr_ok he
  obtain ⟨z1, z5⟩ := sentNum_five (m := m) h0 h9
  have H58 := Lib.hid (fun W (hb : Below w.heap.size w W) => Digits_ok m a W (hP.later hb) he)
  have h60 := fun W => Number_any m (sentNum m a) W (by omega)
  rw [e1, e2] at h60
  have H60 := Lib.hid h60
  have h62 := fun W (hb : Below w.heap.size w W) => CopyNumber_any m a a W (hP.later hb)
  rw [cnE_of he he, (cnC_zero he he).2 rfl] at h62
  have H62 := Lib.hid h62
  have H63 := Lib.hid (fun W (hb : Below w.heap.size w W) => CopyNumber_any m a b W (hP.later hb))
  have hz : cnE m a b = 0 → (cnC m a b = 0 ↔ a = b) := fun h => cnC_zero (cnE_ok h).1 (cnE_ok h).2
  generalize sentNum m a = s at H58 H60 z1 z5
  generalize cnE m a b = n2 at H63 hz
  generalize cnC m a b = n1 at H63 hz
  have d1 : decide ((s.size : Int) < 1) = false := by simp; omega
  have d2 : decide ((s.size : Int) > 5) = false := by simp; omega
  have d2' : decide (5 < (s.size : Int)) = false := by simp; omega
  clear hP he h60 h62 e1 e2 hm h0 h9 z1 z5
  by_cases h2 : n2 = 0
  · subst h2
    have hab : ((n1 == 0) == (a == b)) = true := by
      have := hz rfl
      by_cases h : a = b
      · rw [this.2 h, h]; simp
      · have h1 : ¬ n1 = 0 := fun e => h (this.1 e)
        rw [beq_eq_false_iff_ne.2 h1, beq_eq_false_iff_ne.2 h]; rfl
    obtain ⟨u, hu⟩ : ∃ u, u = (n1 == 0) := ⟨_, rfl⟩
    obtain ⟨v, hv⟩ : ∃ v, v = (a == b) := ⟨_, rfl⟩
    have Hab := Lib.hid hab
    clear hz hab hu hv
    go_enter Tryz.func17, Tryz.ntmps17
    go_wp2_with (first
      | (go_at_call 18; refine (HA.out _).mono ?_; rintro e w1 ⟨rfl, hb1⟩; have hB := HB0.out.later hb1; have hbt := below_trans' (below_alloc0 _) hb1; obtain ⟨k0, k1, k2, k3, k4, k5, _⟩ := blk12 hB)
      | (go_at_call 58; refine (H58.out _ hbt).mono ?_; rintro e w2 ⟨rfl, hb2⟩; have hB := hB.later hb2; have hbt := below_trans' hbt hb2; obtain ⟨k0, k1, k2, k3, k4, k5, _⟩ := blk12 hB)
      | (go_at_call 60; refine (H60.out _).mono ?_; rintro e w4 ⟨rfl, hb4⟩; have hB := hB.later hb4; have hbt := below_trans' hbt hb4; obtain ⟨k0, k1, k2, k3, k4, k5, _⟩ := blk12 hB)
      | (go_at_call 62; (with_reducible refine (H62.out _ hbt).mono ?_); rintro e w6 ⟨rfl, hb6⟩; have hB := hB.later hb6; have hbt := below_trans' hbt hb6; obtain ⟨k0, k1, k2, k3, k4, k5, _⟩ := blk12 hB)
      | (go_at_call 62; (with_reducible refine (H63.out _ hbt).mono ?_); rintro e w7 ⟨rfl, hb7⟩; have hB := hB.later hb7; have hbt := below_trans' hbt hb7; obtain ⟨k0, k1, k2, k3, k4, k5, _⟩ := blk12 hB))
    go_ret
    exact ⟨by have := Hab.out; simp_all, hbt⟩
  · have d0 : (n2 != 0) = true := by simpa using h2
    clear hz h2
    go_enter Tryz.func17, Tryz.ntmps17
    go_wp2_with (first
      | (go_at_call 18; refine (HA.out _).mono ?_; rintro e w1 ⟨rfl, hb1⟩; have hB := HB0.out.later hb1; have hbt := below_trans' (below_alloc0 _) hb1; obtain ⟨k0, k1, k2, k3, k4, k5, _⟩ := blk12 hB)
      | (go_at_call 58; refine (H58.out _ hbt).mono ?_; rintro e w2 ⟨rfl, hb2⟩; have hB := hB.later hb2; have hbt := below_trans' hbt hb2; obtain ⟨k0, k1, k2, k3, k4, k5, _⟩ := blk12 hB)
      | (go_at_call 60; refine (H60.out _).mono ?_; rintro e w4 ⟨rfl, hb4⟩; have hB := hB.later hb4; have hbt := below_trans' hbt hb4; obtain ⟨k0, k1, k2, k3, k4, k5, _⟩ := blk12 hB)
      | (go_at_call 62; (with_reducible refine (H62.out _ hbt).mono ?_); rintro e w6 ⟨rfl, hb6⟩; have hB := hB.later hb6; have hbt := below_trans' hbt hb6; obtain ⟨k0, k1, k2, k3, k4, k5, _⟩ := blk12 hB)
      | (go_at_call 62; (with_reducible refine (H63.out _ hbt).mono ?_); rintro e w7 ⟨rfl, hb7⟩; have hB := hB.later hb7; have hbt := below_trans' hbt hb7; obtain ⟨k0, k1, k2, k3, k4, k5, _⟩ := blk12 hB))
    go_ret
    exact ⟨rfl, hbt⟩

theorem Figures_any (m : Int) (x y code : ByteArray) (a b most : Int) (v7 v8 v9 v10 v11 : Value) (w : World) (hP : Pow w) :
    Calls Tryz.prog 17 #[.agg (askV m x y code a b most v7 v8 v9 v10 v11)] w fun e w' => e = .returned (.bool true) ∧ Below w.heap.size w w' := by
  by_cases he : digErr m a = 0
  · exact Figures_ok m x y code a b most v7 v8 v9 v10 v11 w hP he
  · exact Figures_no m x y code a b most v7 v8 v9 v10 v11 w hP he
end Go.Proofs.YtgcddjgkieambaaGreatDoor
