/- CopyingApart: the walk of the statement's function. -/
import Derived.Test.YtgcddjgkieambaaGreatDoorApartP
set_option linter.unusedVariables false
set_option linter.unusedSimpArgs false
namespace Go.Proofs.YtgcddjgkieambaaGreatDoor
open Go.RowKit

theorem blk4 {w : World} {b : Nat} {t : TypeId} {x0 x1 x2 x3 : Value} (h : Blk w b t #[x0, x1, x2, x3]) : w.cell? ⟨b, 0, none⟩ = some x0 ∧ w.cell? ⟨b, 1, none⟩ = some x1 ∧ w.cell? ⟨b, 2, none⟩ = some x2 ∧ w.cell? ⟨b, 3, none⟩ = some x3 :=
  ⟨h.cell 0, h.cell 1, h.cell 2, h.cell 3⟩

set_option maxRecDepth 100000 in
set_option maxHeartbeats 4000000 in
/-- Where a text is too long, what 'awake' says. -/
theorem Apart_long (m : Int) (s t u : ByteArray) (w : World) (hP : Pow w) (hl : ¬ (s.size ≤ 200 ∧ t.size ≤ 200 ∧ u.size ≤ 200)) :
    Calls Tryz.prog 3 #[.agg #[.int .i64 m, .string s, .string t, .string u]] w fun e w' => e = .returned (.bool true) ∧ Below w.heap.size w w' := by
  have HA := Lib.hid (fun o => awake_any (w.alloc o) (hP.later (below_alloc0 _)))
  clear hP
  obtain ⟨W, hW⟩ : ∃ W, W = w.alloc (.cells #[.int .i64 m, .string s, .string t, .string u] 23) := ⟨_, rfl⟩
  by_cases h1 : s.size ≤ 200
  · have d1 : decide ((s.size : Int) ≤ 200) = true := by simp; omega
    by_cases h2 : t.size ≤ 200
    · have d2 : decide ((t.size : Int) ≤ 200) = true := by simp; omega
      have d3 : decide ((u.size : Int) ≤ 200) = false := by simp; omega
      clear hl h1 h2
      go_enter Tryz.func3, Tryz.ntmps3
      go_wp2_with (first | (go_at_call 18; refine (HA.out _).mono ?_; rintro e w1 ⟨rfl, hb1⟩; have hB := (Blk.new w 23 #[.int .i64 m, .string s, .string t, .string u]).later hb1; obtain ⟨k0, k1, k2, k3⟩ := blk4 hB) | (go_at_call 19; refine (brief_any _ _).mono ?_; rintro e w2 ⟨rfl, rfl⟩))
      go_ret
      exact ⟨rfl, below_trans' (below_alloc0 _) hb1⟩
    · have d2 : decide ((t.size : Int) ≤ 200) = false := by simp; omega
      clear hl h1 h2
      go_enter Tryz.func3, Tryz.ntmps3
      go_wp2_with (first | (go_at_call 18; refine (HA.out _).mono ?_; rintro e w1 ⟨rfl, hb1⟩; have hB := (Blk.new w 23 #[.int .i64 m, .string s, .string t, .string u]).later hb1; obtain ⟨k0, k1, k2, k3⟩ := blk4 hB) | (go_at_call 19; refine (brief_any _ _).mono ?_; rintro e w2 ⟨rfl, rfl⟩))
      go_ret
      exact ⟨rfl, below_trans' (below_alloc0 _) hb1⟩
  · have d1 : decide ((s.size : Int) ≤ 200) = false := by simp; omega
    clear hl h1
    go_enter Tryz.func3, Tryz.ntmps3
    go_wp2_with (first | (go_at_call 18; refine (HA.out _).mono ?_; rintro e w1 ⟨rfl, hb1⟩; have hB := (Blk.new w 23 #[.int .i64 m, .string s, .string t, .string u]).later hb1; obtain ⟨k0, k1, k2, k3⟩ := blk4 hB) | (go_at_call 19; refine (brief_any _ _).mono ?_; rintro e w2 ⟨rfl, rfl⟩))
    go_ret
    exact ⟨rfl, below_trans' (below_alloc0 _) hb1⟩

set_option maxRecDepth 100000 in
set_option maxHeartbeats 4000000 in
/-- CopyingApart: whatever the texts. -/
theorem Apart_any (m : Int) (s t u : ByteArray) (w : World) (hP : Pow w) :
    Calls Tryz.prog 3 #[.agg #[.int .i64 m, .string s, .string t, .string u]] w fun e w' => e = .returned (.bool true) ∧ Below w.heap.size w w' := by
  by_cases hl : ¬ (s.size ≤ 200 ∧ t.size ≤ 200 ∧ u.size ≤ 200)
  · exact Apart_long m s t u w hP hl
  have hl := Classical.not_not.1 hl
  have HB0 := Lib.hid (Blk.new w 23 #[.int .i64 m, .string s, .string t, .string u])
  have HA := Lib.hid (fun o => awake_any (w.alloc o) (hP.later (below_alloc0 _)))
  clear hP
  have d1 : decide ((s.size : Int) ≤ 200) = true := by simp; omega
  have d2 : decide ((t.size : Int) ≤ 200) = true := by simp; omega
  have d3 : decide ((u.size : Int) ≤ 200) = true := by simp; omega
  have b1 := costOf_bd m s t
  have b2 := costOf_bd m t u
  have n1 : decide (costOf m s t ≥ 0) = true := by simp; omega
  have n1' : decide (0 ≤ costOf m s t) = true := by simp; omega
  clear hl
  by_cases e1 : errOf m s t = 0
  · have f1 : (errOf m s t != 0) = false := by simp [e1]
    by_cases e2 : errOf m t u = 0
    · have f2 : (errOf m t u != 0) = false := by simp [e2]
      by_cases e3 : errOf m s u = 0
      · have f3 : (errOf m s u != 0) = false := by simp [e3]
        have e4 := errOf_swap e1
        have htri := costOf_tri e1 e2 e3
        have q1 : IntKind.i64.wrap (costOf m s t + costOf m t u) = costOf m s t + costOf m t u := IntWalk.i64_in _ (by omega)
        have n2 : decide (costOf m s u ≤ costOf m s t + costOf m t u) = true := by simpa using htri
        have hzero := costOf_zero e1
        have hsym := fun h => costOf_symm e1 h
        clear htri
        by_cases hst : s = t
        · subst hst
          have z : costOf m s s = 0 := hzero.2 rfl
          clear hzero hsym
          by_cases hm : m = 2
          · have hm' : (m != 2) = false := by simpa using hm
            clear hm
            go_enter Tryz.func3, Tryz.ntmps3
            go_wp2_with (first
                  | (go_at_call 18; refine (HA.out _).mono ?_; rintro e w1 ⟨rfl, hb1⟩; have hB := HB0.out.later hb1; have hbt := below_trans' (below_alloc0 _) hb1; obtain ⟨k0, k1, k2, k3⟩ := blk4 hB)
                  | (go_at_call 19; refine (brief_any _ _).mono ?_; rintro e w2 ⟨rfl, rfl⟩)
                  | (go_at_call 20; refine (Cost_any _ _ _ _).mono ?_; rintro e w2 ⟨rfl, hb2⟩; have hB := hB.later hb2; have hbt := below_trans' hbt hb2; obtain ⟨k0, k1, k2, k3⟩ := blk4 hB))
            go_ret
            exact ⟨rfl, hbt⟩
          · have hm' : (m != 2) = true := by simpa using hm
            clear hm
            go_enter Tryz.func3, Tryz.ntmps3
            go_wp2_with (first
                  | (go_at_call 18; refine (HA.out _).mono ?_; rintro e w1 ⟨rfl, hb1⟩; have hB := HB0.out.later hb1; have hbt := below_trans' (below_alloc0 _) hb1; obtain ⟨k0, k1, k2, k3⟩ := blk4 hB)
                  | (go_at_call 19; refine (brief_any _ _).mono ?_; rintro e w2 ⟨rfl, rfl⟩)
                  | (go_at_call 20; refine (Cost_any _ _ _ _).mono ?_; rintro e w2 ⟨rfl, hb2⟩; have hB := hB.later hb2; have hbt := below_trans' hbt hb2; obtain ⟨k0, k1, k2, k3⟩ := blk4 hB))
            go_ret
            exact ⟨rfl, hbt⟩
        · have hst1 := bytes_ne' hst
          have hst2 := bytes_ne hst
          have z0 : ¬ costOf m s t = 0 := fun h => hst (hzero.1 h)
          have z : (costOf m s t == 0) = false := by simpa using z0
          clear hzero hst z0
          by_cases hm : m = 2
          · have hm' : (m != 2) = false := by simpa using hm
            clear hsym hm
            go_enter Tryz.func3, Tryz.ntmps3
            go_wp2_with (first
                  | (go_at_call 18; refine (HA.out _).mono ?_; rintro e w1 ⟨rfl, hb1⟩; have hB := HB0.out.later hb1; have hbt := below_trans' (below_alloc0 _) hb1; obtain ⟨k0, k1, k2, k3⟩ := blk4 hB)
                  | (go_at_call 19; refine (brief_any _ _).mono ?_; rintro e w2 ⟨rfl, rfl⟩)
                  | (go_at_call 20; refine (Cost_any _ _ _ _).mono ?_; rintro e w2 ⟨rfl, hb2⟩; have hB := hB.later hb2; have hbt := below_trans' hbt hb2; obtain ⟨k0, k1, k2, k3⟩ := blk4 hB))
            go_ret
            exact ⟨rfl, hbt⟩
          · have hm' : (m != 2) = true := by simpa using hm
            have hs := hsym hm
            clear hm hsym
            go_enter Tryz.func3, Tryz.ntmps3
            go_wp2_with (first
                  | (go_at_call 18; refine (HA.out _).mono ?_; rintro e w1 ⟨rfl, hb1⟩; have hB := HB0.out.later hb1; have hbt := below_trans' (below_alloc0 _) hb1; obtain ⟨k0, k1, k2, k3⟩ := blk4 hB)
                  | (go_at_call 19; refine (brief_any _ _).mono ?_; rintro e w2 ⟨rfl, rfl⟩)
                  | (go_at_call 20; refine (Cost_any _ _ _ _).mono ?_; rintro e w2 ⟨rfl, hb2⟩; have hB := hB.later hb2; have hbt := below_trans' hbt hb2; obtain ⟨k0, k1, k2, k3⟩ := blk4 hB))
            go_ret
            exact ⟨rfl, hbt⟩
      · have f3 : (errOf m s u != 0) = true := by simpa using e3
        clear e3
        go_enter Tryz.func3, Tryz.ntmps3
        go_wp2_with (first
              | (go_at_call 18; refine (HA.out _).mono ?_; rintro e w1 ⟨rfl, hb1⟩; have hB := HB0.out.later hb1; have hbt := below_trans' (below_alloc0 _) hb1; obtain ⟨k0, k1, k2, k3⟩ := blk4 hB)
              | (go_at_call 19; refine (brief_any _ _).mono ?_; rintro e w2 ⟨rfl, rfl⟩)
              | (go_at_call 20; refine (Cost_any _ _ _ _).mono ?_; rintro e w2 ⟨rfl, hb2⟩; have hB := hB.later hb2; have hbt := below_trans' hbt hb2; obtain ⟨k0, k1, k2, k3⟩ := blk4 hB))
        go_ret
        exact ⟨rfl, hbt⟩
    · have f2 : (errOf m t u != 0) = true := by simpa using e2
      clear e2
      go_enter Tryz.func3, Tryz.ntmps3
      go_wp2_with (first
            | (go_at_call 18; refine (HA.out _).mono ?_; rintro e w1 ⟨rfl, hb1⟩; have hB := HB0.out.later hb1; have hbt := below_trans' (below_alloc0 _) hb1; obtain ⟨k0, k1, k2, k3⟩ := blk4 hB)
            | (go_at_call 19; refine (brief_any _ _).mono ?_; rintro e w2 ⟨rfl, rfl⟩)
            | (go_at_call 20; refine (Cost_any _ _ _ _).mono ?_; rintro e w2 ⟨rfl, hb2⟩; have hB := hB.later hb2; have hbt := below_trans' hbt hb2; obtain ⟨k0, k1, k2, k3⟩ := blk4 hB))
      go_ret
      exact ⟨rfl, hbt⟩
  · have f1 : (errOf m s t != 0) = true := by simpa using e1
    clear e1
    go_enter Tryz.func3, Tryz.ntmps3
    go_wp2_with (first
          | (go_at_call 18; refine (HA.out _).mono ?_; rintro e w1 ⟨rfl, hb1⟩; have hB := HB0.out.later hb1; have hbt := below_trans' (below_alloc0 _) hb1; obtain ⟨k0, k1, k2, k3⟩ := blk4 hB)
          | (go_at_call 19; refine (brief_any _ _).mono ?_; rintro e w2 ⟨rfl, rfl⟩)
          | (go_at_call 20; refine (Cost_any _ _ _ _).mono ?_; rintro e w2 ⟨rfl, hb2⟩; have hB := hB.later hb2; have hbt := below_trans' hbt hb2; obtain ⟨k0, k1, k2, k3⟩ := blk4 hB))
    go_ret
    exact ⟨rfl, hbt⟩
end Go.Proofs.YtgcddjgkieambaaGreatDoor
