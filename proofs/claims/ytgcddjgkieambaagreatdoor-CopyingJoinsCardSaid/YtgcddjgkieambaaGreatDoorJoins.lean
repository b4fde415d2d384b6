/- CopyingJoins: the walk of the statement's function. -/
import Derived.Test.YtgcddjgkieambaaGreatDoorJoinsP
import Derived.Test.YtgcddjgkieambaaGreatDoorApart
set_option linter.unusedVariables false
set_option linter.unusedSimpArgs false
namespace Go.Proofs.YtgcddjgkieambaaGreatDoor
open Go.RowKit

set_option maxRecDepth 100000 in
set_option maxHeartbeats 8000000 in
theorem Joins_long (m : Int) (s t u v : ByteArray) (at_ : Int) (w : World) (hP : Pow w) (hl : ¬ (s.size ≤ 200 ∧ t.size ≤ 200 ∧ u.size ≤ 200 ∧ v.size ≤ 200)) :
    Calls Tryz.prog 4 #[.agg #[.int .i64 m, .string s, .string t, .string u], .string v, .int .i64 at_] w fun e w' => e = .returned (.bool true) ∧ Below w.heap.size w w' := by
  have HB0 := Lib.hid (Blk.new w 23 #[.int .i64 m, .string s, .string t, .string u])
  have HA := Lib.hid (fun o => awake_any (w.alloc o) (hP.later (below_alloc0 _)))
  clear hP
  by_cases h1 : s.size ≤ 200
  · have d1 : decide ((s.size : Int) ≤ 200) = true := by simp; omega
    by_cases h2 : t.size ≤ 200
    · have d2 : decide ((t.size : Int) ≤ 200) = true := by simp; omega
      by_cases h3 : u.size ≤ 200
      · have d3 : decide ((u.size : Int) ≤ 200) = true := by simp; omega
        have d4 : decide ((v.size : Int) ≤ 200) = false := by simp; omega
        clear hl h1 h2 h3
        go_enter Tryz.func4, Tryz.ntmps4
        go_wp2_with (first
          | (go_at_call 18; refine (HA.out _).mono ?_; rintro e w1 ⟨rfl, hb1⟩; have hB := HB0.out.later hb1; have hbt := below_trans' (below_alloc0 _) hb1; obtain ⟨k0, k1, k2, k3⟩ := blk4 hB)
          | (go_at_call 19; refine (brief_any _ _).mono ?_; rintro e w2 ⟨rfl, rfl⟩))
        go_ret
        exact ⟨rfl, hbt⟩
      · have d3 : decide ((u.size : Int) ≤ 200) = false := by simp; omega
        clear hl h1 h2 h3
        go_enter Tryz.func4, Tryz.ntmps4
        go_wp2_with (first
          | (go_at_call 18; refine (HA.out _).mono ?_; rintro e w1 ⟨rfl, hb1⟩; have hB := HB0.out.later hb1; have hbt := below_trans' (below_alloc0 _) hb1; obtain ⟨k0, k1, k2, k3⟩ := blk4 hB)
          | (go_at_call 19; refine (brief_any _ _).mono ?_; rintro e w2 ⟨rfl, rfl⟩))
        go_ret
        exact ⟨rfl, hbt⟩
    · have d2 : decide ((t.size : Int) ≤ 200) = false := by simp; omega
      clear hl h1 h2
      go_enter Tryz.func4, Tryz.ntmps4
      go_wp2_with (first
        | (go_at_call 18; refine (HA.out _).mono ?_; rintro e w1 ⟨rfl, hb1⟩; have hB := HB0.out.later hb1; have hbt := below_trans' (below_alloc0 _) hb1; obtain ⟨k0, k1, k2, k3⟩ := blk4 hB)
        | (go_at_call 19; refine (brief_any _ _).mono ?_; rintro e w2 ⟨rfl, rfl⟩))
      go_ret
      exact ⟨rfl, hbt⟩
  · have d1 : decide ((s.size : Int) ≤ 200) = false := by simp; omega
    clear hl h1
    go_enter Tryz.func4, Tryz.ntmps4
    go_wp2_with (first
      | (go_at_call 18; refine (HA.out _).mono ?_; rintro e w1 ⟨rfl, hb1⟩; have hB := HB0.out.later hb1; have hbt := below_trans' (below_alloc0 _) hb1; obtain ⟨k0, k1, k2, k3⟩ := blk4 hB)
      | (go_at_call 19; refine (brief_any _ _).mono ?_; rintro e w2 ⟨rfl, rfl⟩))
    go_ret
    exact ⟨rfl, hbt⟩

set_option maxRecDepth 100000 in
set_option maxHeartbeats 8000000 in
theorem Joins_no (m : Int) (s t u v : ByteArray) (at_ : Int) (w : World) (hP : Pow w) (hl : s.size ≤ 200 ∧ t.size ≤ 200 ∧ u.size ≤ 200 ∧ v.size ≤ 200) (e1 : errOf m s t ≠ 0) :
    Calls Tryz.prog 4 #[.agg #[.int .i64 m, .string s, .string t, .string u], .string v, .int .i64 at_] w fun e w' => e = .returned (.bool true) ∧ Below w.heap.size w w' := by
  have HB0 := Lib.hid (Blk.new w 23 #[.int .i64 m, .string s, .string t, .string u])
  have HA := Lib.hid (fun o => awake_any (w.alloc o) (hP.later (below_alloc0 _)))
  clear hP
  have d1 : decide ((s.size : Int) ≤ 200) = true := by simp; omega
  have d2 : decide ((t.size : Int) ≤ 200) = true := by simp; omega
  have d3 : decide ((u.size : Int) ≤ 200) = true := by simp; omega
  have d4 : decide ((v.size : Int) ≤ 200) = true := by simp; omega
  have w1 : ¬ 9223372036854775807 < s.size + u.size := by omega
  have w2 : ¬ 9223372036854775807 < t.size + v.size := by omega
  clear hl
  have f1 : (errOf m s t == 0) = false := by simpa using e1
  have f1' : (errOf m s t != 0) = true := by simpa using e1
  go_enter Tryz.func4, Tryz.ntmps4
  go_wp2_with (first
    | (go_at_call 18; refine (HA.out _).mono ?_; rintro e w1 ⟨rfl, hb1⟩; have hB := HB0.out.later hb1; have hbt := below_trans' (below_alloc0 _) hb1; obtain ⟨k0, k1, k2, k3⟩ := blk4 hB)
    | (go_at_call 19; refine (brief_any _ _).mono ?_; rintro e w2 ⟨rfl, rfl⟩)
    | (go_at_call 20; refine (Cost_any _ _ _ _).mono ?_; rintro e w2 ⟨rfl, hb2⟩; have hB := hB.later hb2; have hbt := below_trans' hbt hb2; obtain ⟨k0, k1, k2, k3⟩ := blk4 hB)
    | (go_at_call 21; refine (Align_no m s t _ e1).mono ?_; rintro e w3 ⟨rfl, hb3⟩; have hB := hB.later hb3; have hbt := below_trans' hbt hb3; obtain ⟨k0, k1, k2, k3⟩ := blk4 hB))
  go_ret
  exact ⟨rfl, hbt⟩

set_option maxRecDepth 100000 in
set_option maxHeartbeats 8000000 in
theorem Joins_ok0 (m : Int) (s t u v : ByteArray) (at_ : Int) (w : World) (hP : Pow w) (hl : s.size ≤ 200 ∧ t.size ≤ 200 ∧ u.size ≤ 200 ∧ v.size ≤ 200) (e1 : errOf m s t = 0) (e2 : errOf m u v ≠ 0) :
    Calls Tryz.prog 4 #[.agg #[.int .i64 m, .string s, .string t, .string u], .string v, .int .i64 at_] w fun e w' => e = .returned (.bool true) ∧ Below w.heap.size w w' := by
  have HB0 := Lib.hid (Blk.new w 23 #[.int .i64 m, .string s, .string t, .string u])
  have HA := Lib.hid (fun o => awake_any (w.alloc o) (hP.later (below_alloc0 _)))
  clear hP
  have d1 : decide ((s.size : Int) ≤ 200) = true := by simp; omega
  have d2 : decide ((t.size : Int) ≤ 200) = true := by simp; omega
  have d3 : decide ((u.size : Int) ≤ 200) = true := by simp; omega
  have d4 : decide ((v.size : Int) ≤ 200) = true := by simp; omega
  have w1 : ¬ 9223372036854775807 < s.size + u.size := by omega
  have w2 : ¬ 9223372036854775807 < t.size + v.size := by omega
  clear hl
  have f1 : (errOf m s t == 0) = true := by simpa using e1
  have f1' : (errOf m s t != 0) = false := by simpa using e1
  have hj := fun h2 h3 => costOf_join (u := u) (v := v) e1 h2 h3
  have hcut := fun n => cut_at e1 n
  have hal := ali_length e1
  have hs64 := (errOf_ok e1).2.1
  have ht64 := (errOf_ok e1).2.2.1
  have b1 := costOf_bd m s t
  have b2 := costOf_bd m u v
  have HAl := Lib.hid (fun W => Align_ok m s t W e1)
  have HCut := Lib.hid hcut
  clear hcut
  obtain ⟨l, hl'⟩ : ∃ l, l = Cm.ali m (row s) (row t) := ⟨_, rfl⟩
  rw [← hl'] at HCut HAl hal
  clear hl'
  have f2 : (errOf m u v == 0) = false := by simpa using e2
  clear e2 hj
  by_cases ha : at_ < 0
  · have g1 : decide (at_ < 0) = true := by simpa using ha
    go_enter Tryz.func4, Tryz.ntmps4
    go_wp2_with (first
      | (go_at_call 18; refine (HA.out _).mono ?_; rintro e w1 ⟨rfl, hb1⟩; have hB := HB0.out.later hb1; have hbt := below_trans' (below_alloc0 _) hb1; obtain ⟨k0, k1, k2, k3⟩ := blk4 hB)
      | (go_at_call 19; refine (brief_any _ _).mono ?_; rintro e w2 ⟨rfl, rfl⟩)
      | (go_at_call 20; refine (Cost_any _ _ _ _).mono ?_; rintro e w2 ⟨rfl, hb2⟩; have hB := hB.later hb2; have hbt := below_trans' hbt hb2; obtain ⟨k0, k1, k2, k3⟩ := blk4 hB)
      | (go_at_call 21; refine (HAl.out _).mono ?_; rintro e w3 ⟨v0, rfl, hSt, hb3⟩; obtain ⟨A, c0, rfl, hSA⟩ := hSt.form; have hB := hB.later hb3; have hbt := below_trans' hbt hb3; obtain ⟨k0, k1, k2, k3⟩ := blk4 hB))
    go_ret
    exact ⟨rfl, hbt⟩
  · have g1 : decide (at_ < 0) = false := by simpa using ha
    by_cases hb : (l.length : Int) < at_
    · have g2 : decide ((l.length : Int) < at_) = true := by simpa using hb
      have g2' : decide (at_ > (l.length : Int)) = true := by simpa using hb
      go_enter Tryz.func4, Tryz.ntmps4
      go_wp2_with (first
        | (go_at_call 18; refine (HA.out _).mono ?_; rintro e w1 ⟨rfl, hb1⟩; have hB := HB0.out.later hb1; have hbt := below_trans' (below_alloc0 _) hb1; obtain ⟨k0, k1, k2, k3⟩ := blk4 hB)
        | (go_at_call 19; refine (brief_any _ _).mono ?_; rintro e w2 ⟨rfl, rfl⟩)
        | (go_at_call 20; refine (Cost_any _ _ _ _).mono ?_; rintro e w2 ⟨rfl, hb2⟩; have hB := hB.later hb2; have hbt := below_trans' hbt hb2; obtain ⟨k0, k1, k2, k3⟩ := blk4 hB)
        | (go_at_call 21; refine (HAl.out _).mono ?_; rintro e w3 ⟨v0, rfl, hSt, hb3⟩; obtain ⟨A, c0, rfl, hSA⟩ := hSt.form; have hB := hB.later hb3; have hbt := below_trans' hbt hb3; obtain ⟨k0, k1, k2, k3⟩ := blk4 hB))
      go_ret
      exact ⟨rfl, hbt⟩
    · have g2 : decide ((l.length : Int) < at_) = false := by simpa using hb
      have g2' : decide (at_ > (l.length : Int)) = false := by simpa using hb
      obtain ⟨a, rfl⟩ := Int.eq_ofNat_of_zero_le (show 0 ≤ at_ by omega)
      have hal2 : a ≤ l.length := by omega
      clear ha hb
      go_enter Tryz.func4, Tryz.ntmps4
      go_wp2_with (first
        | (go_at_call 18; refine (HA.out _).mono ?_; rintro e w1 ⟨rfl, hb1⟩; have hB := HB0.out.later hb1; have hbt := below_trans' (below_alloc0 _) hb1; obtain ⟨k0, k1, k2, k3⟩ := blk4 hB)
        | (go_at_call 19; refine (brief_any _ _).mono ?_; rintro e w2 ⟨rfl, rfl⟩)
        | (go_at_call 20; refine (Cost_any _ _ _ _).mono ?_; rintro e w2 ⟨rfl, hb2⟩; have hB := hB.later hb2; have hbt := below_trans' hbt hb2; obtain ⟨k0, k1, k2, k3⟩ := blk4 hB)
        | (go_at_call 21; refine (HAl.out _).mono ?_; rintro e w3 ⟨v0, rfl, hSt, hb3⟩; obtain ⟨A, c0, rfl, hSA⟩ := hSt.form; have hB := hB.later hb3; have hbt := below_trans' hbt hb3; obtain ⟨k0, k1, k2, k3⟩ := blk4 hB))
      have HS := Lib.hid hSA
      have HB := Lib.hid hB
      have Hbt := Lib.hid hbt
      clear hSA hSt hB hbt HB0 HA HAl
      go_loop [16, 17, 18, 19] (fun v16 v17 v18 v19 => ∃ n : Nat, n ≤ a ∧ v16 = .int .i64 (Cm.led (l.take n) 0 0 0).1 ∧ v17 = .int .i64 (Cm.led (l.take n) 0 0 0).2.1 ∧ v18 = .int .i64 (Cm.led (l.take n) 0 0 0).2.2 ∧ v19 = .int .i64 n) (fun _ _ _ v19 => a - (intOf v19).toNat)
      case atStart => exact ⟨0, by omega, rfl, rfl, rfl, rfl⟩
      case round =>
        obtain ⟨n, hn, rfl, rfl, rfl, rfl⟩ := hrel
        obtain ⟨i, k, c, e, hi, hk, hc1, hc2, x1, x2, x3, x4⟩ := HCut.out n
        by_cases hlt : n < a
        · have r1 : decide ((n : Int) < (a : Int)) = true := by simp; omega
          have r2 : (n : Int) < (l.length : Int) := by omega
          have r3 : (0 : Int) ≤ (n : Int) := by omega
          have hstp := led_step l n (by omega)
          obtain ⟨i', k', c', e', hi', hk', hc1', hc2', _⟩ := HCut.out (n + 1)
          rw [e', e] at hstp
          rw [e]
          obtain ⟨g, rfl, _, y0, y1, y2⟩ := HS.out n (by omega)
          obtain ⟨x, hx⟩ : ∃ x, x = l.getD n (0, 0, 0) := ⟨_, rfl⟩
          rw [← hx] at y0 y1 y2 hstp
          obtain ⟨x0, x1', x2'⟩ := x
          simp only [Prod.mk.injEq] at y0 y1 y2 hstp
          obtain ⟨s1, s2, s3⟩ := hstp
          have q0 : IntKind.i64.wrap ((n : Int) + 1) = (n : Int) + 1 := IntWalk.i64_in _ (by omega)
          have q1 : IntKind.i64.wrap ((i : Int) + 1) = (i : Int) + 1 := IntWalk.i64_in _ (by omega)
          have q2 : IntKind.i64.wrap ((k : Int) + 1) = (k : Int) + 1 := IntWalk.i64_in _ (by omega)
          have q3 : IntKind.i64.wrap (c + x2') = c + x2' := IntWalk.i64_in _ (by omega)
          have He := Lib.hid e'
          clear hx x1 x2 x3 x4 e e'
          by_cases p0 : 0 ≤ x0
          · have t0 : decide (x0 ≥ 0) = true := by simpa using p0
            rw [if_pos p0] at s1
            by_cases p1 : 0 ≤ x1'
            · have t1 : decide (x1' ≥ 0) = true := by simpa using p1
              rw [if_pos p1] at s2
              have S := Lib.hid (And.intro s1 (And.intro s2 s3))
              clear s1 s2 s3 p0 p1 hi' hk' hc1' hc2'
              go_wp2
              go_round
              case rel => exact ⟨n + 1, by omega, by rw [He.out]; exact congrArg (Value.int .i64) (by have := S.out.1; simp only; omega), by rw [He.out]; exact congrArg (Value.int .i64) (by have := S.out.2.1; simp only; omega), by rw [He.out]; exact congrArg (Value.int .i64) (by have := S.out.2.2; simp only; omega), by go_num⟩
              case measure => simp [intOf]; omega
            · have t1 : decide (x1' ≥ 0) = false := by simpa using p1
              rw [if_neg p1] at s2
              have S := Lib.hid (And.intro s1 (And.intro s2 s3))
              clear s1 s2 s3 p0 p1 hi' hk' hc1' hc2'
              go_wp2
              go_round
              case rel => exact ⟨n + 1, by omega, by rw [He.out]; exact congrArg (Value.int .i64) (by have := S.out.1; simp only; omega), by rw [He.out]; exact congrArg (Value.int .i64) (by have := S.out.2.1; simp only; omega), by rw [He.out]; exact congrArg (Value.int .i64) (by have := S.out.2.2; simp only; omega), by go_num⟩
              case measure => simp [intOf]; omega
          · have t0 : decide (x0 ≥ 0) = false := by simpa using p0
            rw [if_neg p0] at s1
            by_cases p1 : 0 ≤ x1'
            · have t1 : decide (x1' ≥ 0) = true := by simpa using p1
              rw [if_pos p1] at s2
              have S := Lib.hid (And.intro s1 (And.intro s2 s3))
              clear s1 s2 s3 p0 p1 hi' hk' hc1' hc2'
              go_wp2
              go_round
              case rel => exact ⟨n + 1, by omega, by rw [He.out]; exact congrArg (Value.int .i64) (by have := S.out.1; simp only; omega), by rw [He.out]; exact congrArg (Value.int .i64) (by have := S.out.2.1; simp only; omega), by rw [He.out]; exact congrArg (Value.int .i64) (by have := S.out.2.2; simp only; omega), by go_num⟩
              case measure => simp [intOf]; omega
            · have t1 : decide (x1' ≥ 0) = false := by simpa using p1
              rw [if_neg p1] at s2
              have S := Lib.hid (And.intro s1 (And.intro s2 s3))
              clear s1 s2 s3 p0 p1 hi' hk' hc1' hc2'
              go_wp2
              go_round
              case rel => exact ⟨n + 1, by omega, by rw [He.out]; exact congrArg (Value.int .i64) (by have := S.out.1; simp only; omega), by rw [He.out]; exact congrArg (Value.int .i64) (by have := S.out.2.1; simp only; omega), by rw [He.out]; exact congrArg (Value.int .i64) (by have := S.out.2.2; simp only; omega), by go_num⟩
              case measure => simp [intOf]; omega
        · obtain rfl : n = a := by omega
          rw [e]
          have z1 : decide ((s.size : Int) < (i : Int)) = false := by simp; omega
          have z2 : decide ((t.size : Int) < (k : Int)) = false := by simp; omega
          have z3 : (i : Int) ≤ (s.size : Int) := by omega
          have z4 : (k : Int) ≤ (t.size : Int) := by omega
          have z5 : (0 : Int) ≤ (i : Int) := by omega
          have z6 : (0 : Int) ≤ (k : Int) := by omega
          have hB := HB.out
          obtain ⟨k0, k1, k2, k3⟩ := blk4 hB
          have lW := hB.lt
          clear e
          have C1 := Lib.hid (fun W => Cost_any m (s.extract 0 i) (t.extract 0 k) W)
          have C2 := Lib.hid (fun W => Cost_any m (s.extract i s.size) (t.extract k t.size) W)
          rw [x1, x3] at C1
          rw [x2] at C2
          obtain ⟨nn, hnn⟩ : ∃ z, z = costOf m (s.extract i s.size) (t.extract k t.size) := ⟨_, rfl⟩
          rw [← hnn] at C2 x4
          have q4 : IntKind.i64.wrap (c + nn) = c + nn := IntWalk.i64_in _ (by omega)
          have Hx4 := Lib.hid x4
          obtain ⟨tot, htot⟩ : ∃ z, z = costOf m s t := ⟨_, rfl⟩
          have t9 : (c + nn == costOf m s t) = true := by simpa using x4
          clear x1 x2 x3 x4 hnn htot b1 b2
          go_wp2
          go_region_held3 (fun w' => w'.cell? ⟨w.heap.size, 0, none⟩ = some (.int .i64 m) ∧ w'.cell? ⟨w.heap.size, 1, none⟩ = some (.string s) ∧ w'.cell? ⟨w.heap.size, 2, none⟩ = some (.string t)) (simp [*]) (first | (go_at_call 20; refine (C1.out _).mono ?_; rintro e w4 ⟨rfl, hb4⟩; have hB4 := (HB.out.drew).later hb4; obtain ⟨j0, j1, j2, j3⟩ := blk4 hB4; have hbt4 := below_trans' Hbt.out ((Below.refl _ _).drew.trans hb4)))
          all_goals
            go_wp2
            go_region_held3 (fun w' => w'.cell? ⟨w.heap.size, 0, none⟩ = some (.int .i64 m) ∧ w'.cell? ⟨w.heap.size, 1, none⟩ = some (.string s) ∧ w'.cell? ⟨w.heap.size, 2, none⟩ = some (.string t)) (simp [*]) (first | (go_at_call 20; refine (C2.out _).mono ?_; rintro e w5 ⟨rfl, hb5⟩; have hB5 := (hB4.drew).later hb5; obtain ⟨l0, l1, l2, l3⟩ := blk4 hB5; have hbt5 := below_trans' hbt4 ((Below.refl _ _).drew.trans hb5)))
            all_goals
              go_wp2
              go_ret
              exact ⟨rfl, hbt5⟩

end Go.Proofs.YtgcddjgkieambaaGreatDoor
