/- The walks of 'CopyNumber', 'part', 'valid'. -/
import Derived.Test.YtgcddjgkieambaaGreatDoorNumP
set_option linter.unusedVariables false
set_option linter.unusedSimpArgs false
namespace Go.Proofs.YtgcddjgkieambaaGreatDoor
open Go.RowKit

set_option maxRecDepth 100000 in
set_option maxHeartbeats 2000000 in
theorem CopyNumber_any (m a b : Int) (w : World) (hP : Pow w) : Calls Tryz.prog 62 #[.int .i64 m, .int .i64 a, .int .i64 b] w fun e w' => e = .returned (.tuple #[.int .i64 (cnC m a b), .int .i64 (cnE m a b)]) ∧ Below w.heap.size w w' := by
  by_cases e1 : digErr m a = 0
  · have D1 := Lib.hid (fun W (hb : Below w.heap.size w W) => Digits_ok m a W (hP.later hb) e1)
    by_cases e2 : digErr m b = 0
    · have D2 := Lib.hid (fun W (hb : Below w.heap.size w W) => Digits_ok m b W (hP.later hb) e2)
      have HC := Lib.hid (fun W => Cost_ok m (sentNum m a) (sentNum m b) W (cn_err e1 e2))
      have f1 : cnE m a b = 0 := cnE_of e1 e2
      have f2 : cnC m a b = costOf m (sentNum m a) (sentNum m b) := by unfold cnC; rw [if_pos f1]
      rw [f1, f2]
      clear f1 f2 e1 e2 hP
      obtain ⟨s, hs⟩ : ∃ s, s = sentNum m a := ⟨_, rfl⟩
      obtain ⟨t, ht⟩ : ∃ s, s = sentNum m b := ⟨_, rfl⟩
      rw [← hs] at D1 HC ⊢
      rw [← ht] at D2 HC ⊢
      clear hs ht
      go_enter Tryz.func62, Tryz.ntmps62
      go_wp2_with (first
        | (go_at_call 58; (with_reducible refine (D1.out _ (Below.refl _ _)).mono ?_); rintro e w1 ⟨rfl, hb1⟩)
        | (go_at_call 58; (with_reducible refine (D2.out _ hb1).mono ?_); rintro e w2 ⟨rfl, hb2⟩; have hb2 := below_trans' hb1 hb2)
        | (go_at_call 20; refine (HC.out _).mono ?_; rintro e w3 ⟨rfl, hb3⟩; have hb3 := below_trans' hb2 hb3))
      go_ret2
      exact ⟨rfl, hb3⟩
    · have D2 := Lib.hid (fun W (hb : Below w.heap.size w W) => Digits_no m b W e2)
      have f1 : cnE m a b = digErr m b := by unfold cnE; rw [if_neg (fun h => h e1)]
      have f2 : cnC m a b = 0 := by unfold cnC; rw [f1, if_neg e2]
      rw [f1, f2]
      obtain ⟨z, hz⟩ : ∃ z, z = digErr m b := ⟨_, rfl⟩
      rw [← hz] at D2 e2 ⊢
      have d0 : (z != 0) = true := by simpa using e2
      clear f1 f2 e1 e2 hP hz
      go_enter Tryz.func62, Tryz.ntmps62
      go_wp2_with (first
        | (go_at_call 58; (with_reducible refine (D1.out _ (Below.refl _ _)).mono ?_); rintro e w1 ⟨rfl, hb1⟩)
        | (go_at_call 58; (with_reducible refine (D2.out _ hb1).mono ?_); rintro e w2 ⟨rfl, hb2⟩; have hb2 := below_trans' hb1 hb2))
      go_ret2
      exact ⟨rfl, hb2⟩
  · have D1 := Lib.hid (fun W => Digits_no m a W e1)
    have f1 : cnE m a b = digErr m a := by unfold cnE; rw [if_pos e1]
    have f2 : cnC m a b = 0 := by unfold cnC; rw [f1, if_neg e1]
    rw [f1, f2]
    obtain ⟨z, hz⟩ : ∃ z, z = digErr m a := ⟨_, rfl⟩
    rw [← hz] at D1 e1 ⊢
    have d0 : (z != 0) = true := by simpa using e1
    clear f1 f2 e1 hP hz
    go_enter Tryz.func62, Tryz.ntmps62
    go_wp2_with (go_at_call 58; (with_reducible refine (D1.out _).mono ?_); rintro e w1 ⟨rfl, hb1⟩)
    go_ret2
    exact ⟨rfl, hb1⟩

theorem part_any (has : Bool) (n most : Int) (w : World) : Calls Tryz.prog 118 #[.bool has, .int .i64 n, .int .i64 most] w fun e w' => e = .returned (.bool (partB has n most)) ∧ w = w' := by
  cases has
  · have e : partB false n most = (n == 0) := by
      show decide (n = 0) = (n == 0)
      rw [Bool.eq_iff_iff, decide_eq_true_iff, beq_iff_eq]
    rw [e]
    go_enter Tryz.func118, Tryz.ntmps118
    go_wp2
    go_ret
    exact ⟨rfl, rfl⟩
  · have e : partB true n most = (decide (1 ≤ n) && decide (n ≤ most)) := rfl
    rw [e]
    by_cases h : 1 ≤ n
    · have d0 : decide (1 ≤ n) = true := by simpa using h
      have d1 : decide (n ≥ 1) = true := by simpa using h
      rw [d0]
      clear h e
      go_enter Tryz.func118, Tryz.ntmps118
      go_wp2
      go_ret
      exact ⟨rfl, rfl⟩
    · have d0 : decide (1 ≤ n) = false := by simpa using h
      have d1 : decide (n ≥ 1) = false := by simpa using h
      rw [d0]
      clear h e
      go_enter Tryz.func118, Tryz.ntmps118
      go_wp2
      go_ret
      exact ⟨rfl, rfl⟩

theorem blk3' {w : World} {g : Nat} {t : TypeId} {x y z : Value} (h : Blk w g t #[x, y, z]) : w.cell? ⟨g, 0, none⟩ = some x ∧ w.cell? ⟨g, 1, none⟩ = some y ∧ w.cell? ⟨g, 2, none⟩ = some z := ⟨h.cell 0, h.cell 1, h.cell 2⟩

set_option maxRecDepth 100000 in
set_option maxHeartbeats 2000000 in
theorem valid_any (o1 o2 o3 : Bool) (r s z : Int) (w : World) : Calls Tryz.prog 94 #[.agg #[.bool o1, .bool o2, .bool o3], .agg #[.int .i64 r, .int .i64 s, .int .i64 z]] w fun e w' => e = .returned (.bool (validB o1 o2 o3 r s z)) ∧ Below w.heap.size w w' := by
  have P1 := Lib.hid (fun W => part_any o1 r 599 W)
  have P2 := Lib.hid (fun W => part_any o2 s 99999 W)
  have P3 := Lib.hid (fun W => part_any o3 z 99 W)
  unfold validB
  obtain ⟨b1, hb1⟩ : ∃ b, b = partB o1 r 599 := ⟨_, rfl⟩
  obtain ⟨b2, hb2⟩ : ∃ b, b = partB o2 s 99999 := ⟨_, rfl⟩
  obtain ⟨b3, hb3⟩ : ∃ b, b = partB o3 z 99 := ⟨_, rfl⟩
  rw [← hb1] at P1 ⊢
  rw [← hb2] at P2 ⊢
  rw [← hb3] at P3 ⊢
  clear hb1 hb2 hb3
  cases b1
  · go_enter Tryz.func94, Tryz.ntmps94
    go_wp2_with (first
      | (go_at_call 118; (with_reducible refine (P1.out _).mono ?_); rintro e w1 ⟨rfl, rfl⟩) | (go_at_call 118; (with_reducible refine (P2.out _).mono ?_); rintro e w1 ⟨rfl, rfl⟩) | (go_at_call 118; (with_reducible refine (P3.out _).mono ?_); rintro e w1 ⟨rfl, rfl⟩))
    go_ret
    exact ⟨rfl, (below_alloc0 _).alloc (by simp) _⟩
  · cases b2
    · go_enter Tryz.func94, Tryz.ntmps94
      go_wp2_with (first
        | (go_at_call 118; (with_reducible refine (P1.out _).mono ?_); rintro e w1 ⟨rfl, rfl⟩) | (go_at_call 118; (with_reducible refine (P2.out _).mono ?_); rintro e w1 ⟨rfl, rfl⟩) | (go_at_call 118; (with_reducible refine (P3.out _).mono ?_); rintro e w1 ⟨rfl, rfl⟩))
      go_ret
      exact ⟨rfl, (below_alloc0 _).alloc (by simp) _⟩
    · go_enter Tryz.func94, Tryz.ntmps94
      go_wp2_with (first
        | (go_at_call 118; (with_reducible refine (P1.out _).mono ?_); rintro e w1 ⟨rfl, rfl⟩) | (go_at_call 118; (with_reducible refine (P2.out _).mono ?_); rintro e w1 ⟨rfl, rfl⟩) | (go_at_call 118; (with_reducible refine (P3.out _).mono ?_); rintro e w1 ⟨rfl, rfl⟩))
      go_ret
      exact ⟨by simp, (below_alloc0 _).alloc (by simp) _⟩
end Go.Proofs.YtgcddjgkieambaaGreatDoor
