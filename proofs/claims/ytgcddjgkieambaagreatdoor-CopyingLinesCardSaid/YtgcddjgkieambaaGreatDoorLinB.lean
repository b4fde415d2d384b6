/- The walks of the reference's 'part', 'exchange', 'CopyExchange', 'CopyLine'. -/
import Derived.Test.YtgcddjgkieambaaGreatDoorLinA
import Derived.Test.YtgcddjgkieambaaGreatDoorExchW
set_option linter.unusedVariables false
set_option linter.unusedSimpArgs false
namespace Go.Proofs.YtgcddjgkieambaaGreatDoor
open Go.RowKit

theorem mode_yes {m : Int} (h : isMode m) (w : World) : Calls Tryz.prog 88 #[.int .i64 m] w fun e w' => e = .returned (.bool true) ∧ w = w' := by
  have e : (decide (1 ≤ m) && decide (m ≤ 3)) = true := by have h' : m = 1 ∨ m = 2 ∨ m = 3 := h; simp; omega
  have := ref_isMode m w
  rwa [e] at this
theorem mode_no {m : Int} (h : ¬ isMode m) (w : World) : Calls Tryz.prog 88 #[.int .i64 m] w fun e w' => e = .returned (.bool false) ∧ w = w' := by
  have e : (decide (1 ≤ m) && decide (m ≤ 3)) = false := by
    have h' : ¬ (m = 1 ∨ m = 2 ∨ m = 3) := h
    rw [Bool.and_eq_false_iff, decide_eq_false_iff_not, decide_eq_false_iff_not]; omega
  have := ref_isMode m w
  rwa [e] at this

theorem refPart_any (has : Bool) (n most : Int) (w : World) : Calls Tryz.prog 119 #[.bool has, .int .i64 n, .int .i64 most] w fun e w' => e = .returned (.bool (partB has n most)) ∧ w = w' := by
  cases has
  · have e : partB false n most = (n == 0) := by
      show decide (n = 0) = (n == 0)
      rw [Bool.eq_iff_iff, decide_eq_true_iff, beq_iff_eq]
    rw [e]
    go_enter Tryz.func119, Tryz.ntmps119
    go_wp2
    go_ret
    exact ⟨rfl, rfl⟩
  · have e : partB true n most = (decide (1 ≤ n) && decide (n ≤ most)) := rfl
    rw [e]
    by_cases h : 1 ≤ n
    · have d0 : decide (1 ≤ n) = true := by simpa using h
      have d1 : decide (n ≥ 1) = true := by simpa using h
      rw [d0]
      clear h e
      go_enter Tryz.func119, Tryz.ntmps119
      go_wp2
      go_ret
      exact ⟨rfl, rfl⟩
    · have d0 : decide (1 ≤ n) = false := by simpa using h
      have d1 : decide (n ≥ 1) = false := by simpa using h
      rw [d0]
      clear h e
      go_enter Tryz.func119, Tryz.ntmps119
      go_wp2
      go_ret
      exact ⟨rfl, rfl⟩


set_option maxRecDepth 100000 in
set_option maxHeartbeats 2000000 in
theorem refExchange_any (o1 o2 o3 : Bool) (r s z : Int) (w : World) : Calls Tryz.prog 95 #[.agg #[.bool o1, .bool o2, .bool o3], .agg #[.int .i64 r, .int .i64 s, .int .i64 z]] w fun e w' => e = .returned (.bool (validB o1 o2 o3 r s z)) ∧ Below w.heap.size w w' := by
  have P1 := Lib.hid (fun W => refPart_any o1 r 599 W)
  have P2 := Lib.hid (fun W => refPart_any o2 s 99999 W)
  have P3 := Lib.hid (fun W => refPart_any o3 z 99 W)
  unfold validB
  obtain ⟨b1, hb1⟩ : ∃ b, b = partB o1 r 599 := ⟨_, rfl⟩
  obtain ⟨b2, hb2⟩ : ∃ b, b = partB o2 s 99999 := ⟨_, rfl⟩
  obtain ⟨b3, hb3⟩ : ∃ b, b = partB o3 z 99 := ⟨_, rfl⟩
  rw [← hb1] at P1 ⊢
  rw [← hb2] at P2 ⊢
  rw [← hb3] at P3 ⊢
  clear hb1 hb2 hb3
  cases b1
  · go_enter Tryz.func95, Tryz.ntmps95
    go_wp2_with (first
      | (go_at_call 119; (with_reducible refine (P1.out _).mono ?_); rintro e w1 ⟨rfl, rfl⟩) | (go_at_call 119; (with_reducible refine (P2.out _).mono ?_); rintro e w1 ⟨rfl, rfl⟩) | (go_at_call 119; (with_reducible refine (P3.out _).mono ?_); rintro e w1 ⟨rfl, rfl⟩))
    go_ret
    exact ⟨rfl, (below_alloc0 _).alloc (by simp) _⟩
  · cases b2
    · go_enter Tryz.func95, Tryz.ntmps95
      go_wp2_with (first
        | (go_at_call 119; (with_reducible refine (P1.out _).mono ?_); rintro e w1 ⟨rfl, rfl⟩) | (go_at_call 119; (with_reducible refine (P2.out _).mono ?_); rintro e w1 ⟨rfl, rfl⟩) | (go_at_call 119; (with_reducible refine (P3.out _).mono ?_); rintro e w1 ⟨rfl, rfl⟩))
      go_ret
      exact ⟨rfl, (below_alloc0 _).alloc (by simp) _⟩
    · go_enter Tryz.func95, Tryz.ntmps95
      go_wp2_with (first
        | (go_at_call 119; (with_reducible refine (P1.out _).mono ?_); rintro e w1 ⟨rfl, rfl⟩) | (go_at_call 119; (with_reducible refine (P2.out _).mono ?_); rintro e w1 ⟨rfl, rfl⟩) | (go_at_call 119; (with_reducible refine (P3.out _).mono ?_); rintro e w1 ⟨rfl, rfl⟩))
      go_ret
      exact ⟨by simp, (below_alloc0 _).alloc (by simp) _⟩

set_option maxRecDepth 100000 in
set_option maxHeartbeats 8000000 in
theorem refCopyExchange_ok (o1 o2 o3 : Bool) (m r s z r' s' z' : Int) (w : World) (hP : Pow w) (he : cxE o1 o2 o3 m r s z r' s' z' = 0) :
    Calls Tryz.prog 53 #[.agg #[.bool o1, .bool o2, .bool o3], .int .i64 m, .agg #[.int .i64 r, .int .i64 s, .int .i64 z], .agg #[.int .i64 r', .int .i64 s', .int .i64 z']] w fun e w' =>
      e = .returned (.tuple #[.int .i64 (cxC o1 o2 o3 m r s z r' s' z'), .int .i64 (cxE o1 o2 o3 m r s z r' s' z')]) ∧ Below w.heap.size w w' := by
  obtain ⟨hm, v1, v2⟩ := cxE_ok he
  have f1 : cxC o1 o2 o3 m r s z r' s' z' = (if o1 then cnC m r r' else 0) + (if o2 then cnC m s s' else 0) + (if o3 then cnC m z z' else 0) := by unfold cxC; rw [if_pos he]
  rw [f1, he]
  have V1 := Lib.hid (fun W => refExchange_any o1 o2 o3 r s z W)
  have V2 := Lib.hid (fun W => refExchange_any o1 o2 o3 r' s' z' W)
  rw [v1] at V1
  rw [v2] at V2
  have HM := Lib.hid (ExMem.new w o1 o2 o3 r s z r' s' z')
  have HB3 := Lib.hid (below_three w (.cells #[.bool o1, .bool o2, .bool o3] 58) (.cells #[.int .i64 r, .int .i64 s, .int .i64 z] 60) (.cells #[.int .i64 r', .int .i64 s', .int .i64 z'] 60))
  have HI := Lib.hid (fun W => mode_yes hm W)
  have C1 := Lib.hid (fun W (hb : Below w.heap.size w W) => refCopyNumber_any m r r' W (hP.later hb))
  have C2 := Lib.hid (fun W (hb : Below w.heap.size w W) => refCopyNumber_any m s s' W (hP.later hb))
  have C3 := Lib.hid (fun W (hb : Below w.heap.size w W) => refCopyNumber_any m z z' W (hP.later hb))
  have b1 := cnC_bd m r r'
  have b2 := cnC_bd m s s'
  have b3 := cnC_bd m z z'
  generalize cnC m r r' = n1 at C1 b1 ⊢
  generalize cnC m s s' = n2 at C2 b2 ⊢
  generalize cnC m z z' = n3 at C3 b3 ⊢
  generalize cnE m r r' = y1 at C1
  generalize cnE m s s' = y2 at C2
  generalize cnE m z z' = y3 at C3
  have q1 : IntKind.i64.wrap n1 = n1 := IntWalk.i64_in _ (by omega)
  have q2 : IntKind.i64.wrap n2 = n2 := IntWalk.i64_in _ (by omega)
  have q3 : IntKind.i64.wrap n3 = n3 := IntWalk.i64_in _ (by omega)
  have q4 : IntKind.i64.wrap (n1 + n2) = n1 + n2 := IntWalk.i64_in _ (by omega)
  have q5 : IntKind.i64.wrap (n1 + n3) = n1 + n3 := IntWalk.i64_in _ (by omega)
  have q6 : IntKind.i64.wrap (n2 + n3) = n2 + n3 := IntWalk.i64_in _ (by omega)
  have q7 : IntKind.i64.wrap (n1 + n2 + n3) = n1 + n2 + n3 := IntWalk.i64_in _ (by omega)
  clear v1 v2 f1 he hP hm b1 b2 b3
  cases o1 <;> cases o2 <;> cases o3
  all_goals
    go_enter Tryz.func53, Tryz.ntmps53
    go_wp2_with (first
      | (go_at_call 88; refine (HI.out _).mono ?_; rintro e w1 ⟨rfl, rfl⟩; have hM := HM.out; have hbt := HB3.out; obtain ⟨⟨a0, a1, a2⟩, ⟨b0, b1, b2⟩, ⟨c0, c1, c2⟩⟩ := hM.cells)
      | (go_at_call 95; (with_reducible refine (V1.out _).mono ?_); rintro e w2 ⟨rfl, hb2⟩; have hM := hM.later hb2; have hbt := below_trans' hbt hb2; obtain ⟨⟨a0, a1, a2⟩, ⟨b0, b1, b2⟩, ⟨c0, c1, c2⟩⟩ := hM.cells)
      | (go_at_call 95; (with_reducible refine (V2.out _).mono ?_); rintro e w3 ⟨rfl, hb3⟩; have hM := hM.later hb3; have hbt := below_trans' hbt hb3; obtain ⟨⟨a0, a1, a2⟩, ⟨b0, b1, b2⟩, ⟨c0, c1, c2⟩⟩ := hM.cells)
      | (go_at_call 63; (with_reducible refine (C1.out _ hbt).mono ?_); rintro e w4 ⟨rfl, hb4⟩; have hM := hM.later hb4; have hbt := below_trans' hbt hb4; obtain ⟨⟨a0, a1, a2⟩, ⟨b0, b1, b2⟩, ⟨c0, c1, c2⟩⟩ := hM.cells)
      | (go_at_call 63; (with_reducible refine (C2.out _ hbt).mono ?_); rintro e w5 ⟨rfl, hb5⟩; have hM := hM.later hb5; have hbt := below_trans' hbt hb5; obtain ⟨⟨a0, a1, a2⟩, ⟨b0, b1, b2⟩, ⟨c0, c1, c2⟩⟩ := hM.cells)
      | (go_at_call 63; (with_reducible refine (C3.out _ hbt).mono ?_); rintro e w6 ⟨rfl, hb6⟩; have hM := hM.later hb6; have hbt := below_trans' hbt hb6; obtain ⟨⟨a0, a1, a2⟩, ⟨b0, b1, b2⟩, ⟨c0, c1, c2⟩⟩ := hM.cells))
    go_ret2
    exact ⟨by simp, hbt⟩

set_option maxRecDepth 100000 in
set_option maxHeartbeats 4000000 in
theorem refCopyExchange_no (o1 o2 o3 : Bool) (m r s z r' s' z' : Int) (w : World) (he : cxE o1 o2 o3 m r s z r' s' z' ≠ 0) :
    Calls Tryz.prog 53 #[.agg #[.bool o1, .bool o2, .bool o3], .int .i64 m, .agg #[.int .i64 r, .int .i64 s, .int .i64 z], .agg #[.int .i64 r', .int .i64 s', .int .i64 z']] w fun e w' =>
      e = .returned (.tuple #[.int .i64 (cxC o1 o2 o3 m r s z r' s' z'), .int .i64 (cxE o1 o2 o3 m r s z r' s' z')]) ∧ Below w.heap.size w w' := by
  have f1 : cxC o1 o2 o3 m r s z r' s' z' = 0 := by unfold cxC; rw [if_neg he]
  rw [f1]
  have V1 := Lib.hid (fun W => refExchange_any o1 o2 o3 r s z W)
  have V2 := Lib.hid (fun W => refExchange_any o1 o2 o3 r' s' z' W)
  have HM := Lib.hid (ExMem.new w o1 o2 o3 r s z r' s' z')
  have HB3 := Lib.hid (below_three w (.cells #[.bool o1, .bool o2, .bool o3] 58) (.cells #[.int .i64 r, .int .i64 s, .int .i64 z] 60) (.cells #[.int .i64 r', .int .i64 s', .int .i64 z'] 60))
  by_cases hm : isMode m
  · have f2 : cxE o1 o2 o3 m r s z r' s' z' = if validB o1 o2 o3 r s z && validB o1 o2 o3 r' s' z' then 0 else 1 := by unfold cxE; rw [if_neg (show ¬ ¬ (m = 1 ∨ m = 2 ∨ m = 3) from fun h => h hm)]
    rw [f2] at he ⊢
    have HI := Lib.hid (fun W => mode_yes hm W)
    obtain ⟨b1, hb1⟩ : ∃ b, b = validB o1 o2 o3 r s z := ⟨_, rfl⟩
    obtain ⟨b2, hb2⟩ : ∃ b, b = validB o1 o2 o3 r' s' z' := ⟨_, rfl⟩
    rw [← hb1] at V1 he ⊢
    rw [← hb2] at V2 he ⊢
    clear f1 f2 hb1 hb2 hm
    cases b1
    · clear he
      go_enter Tryz.func53, Tryz.ntmps53
      go_wp2_with (first
        | (go_at_call 88; refine (HI.out _).mono ?_; rintro e w1 ⟨rfl, rfl⟩; have hM := HM.out; have hbt := HB3.out; obtain ⟨⟨a0, a1, a2⟩, ⟨b0, b1, b2⟩, ⟨c0, c1, c2⟩⟩ := hM.cells)
        | (go_at_call 95; (with_reducible refine (V1.out _).mono ?_); rintro e w2 ⟨rfl, hb2⟩; have hM := hM.later hb2; have hbt := below_trans' hbt hb2; obtain ⟨⟨a0, a1, a2⟩, ⟨b0, b1, b2⟩, ⟨c0, c1, c2⟩⟩ := hM.cells))
      go_ret2
      exact ⟨rfl, hbt⟩
    · cases b2
      · clear he
        go_enter Tryz.func53, Tryz.ntmps53
        go_wp2_with (first
          | (go_at_call 88; refine (HI.out _).mono ?_; rintro e w1 ⟨rfl, rfl⟩; have hM := HM.out; have hbt := HB3.out; obtain ⟨⟨a0, a1, a2⟩, ⟨b0, b1, b2⟩, ⟨c0, c1, c2⟩⟩ := hM.cells)
          | (go_at_call 95; (with_reducible refine (V1.out _).mono ?_); rintro e w2 ⟨rfl, hb2⟩; have hM := hM.later hb2; have hbt := below_trans' hbt hb2; obtain ⟨⟨a0, a1, a2⟩, ⟨b0, b1, b2⟩, ⟨c0, c1, c2⟩⟩ := hM.cells)
          | (go_at_call 95; (with_reducible refine (V2.out _).mono ?_); rintro e w3 ⟨rfl, hb3⟩; have hM := hM.later hb3; have hbt := below_trans' hbt hb3; obtain ⟨⟨a0, a1, a2⟩, ⟨b0, b1, b2⟩, ⟨c0, c1, c2⟩⟩ := hM.cells))
        go_ret2
        exact ⟨rfl, hbt⟩
      · exact absurd rfl he
  · have f2 : cxE o1 o2 o3 m r s z r' s' z' = 40 := by unfold cxE; rw [if_pos (show ¬ (m = 1 ∨ m = 2 ∨ m = 3) from hm)]
    rw [f2]
    have HI := Lib.hid (fun W => mode_no hm W)
    clear f1 f2 he V1 V2 HM hm
    go_enter Tryz.func53, Tryz.ntmps53
    go_wp2_with (first | (go_at_call 88; refine (HI.out _).mono ?_; rintro e w1 ⟨rfl, rfl⟩))
    go_ret2
    exact ⟨rfl, below_three w _ _ _⟩

theorem refCopyExchange_any (o1 o2 o3 : Bool) (m r s z r' s' z' : Int) (w : World) (hP : Pow w) :
    Calls Tryz.prog 53 #[.agg #[.bool o1, .bool o2, .bool o3], .int .i64 m, .agg #[.int .i64 r, .int .i64 s, .int .i64 z], .agg #[.int .i64 r', .int .i64 s', .int .i64 z']] w fun e w' =>
      e = .returned (.tuple #[.int .i64 (cxC o1 o2 o3 m r s z r' s' z'), .int .i64 (cxE o1 o2 o3 m r s z r' s' z')]) ∧ Below w.heap.size w w' := by
  by_cases he : cxE o1 o2 o3 m r s z r' s' z' = 0
  · exact refCopyExchange_ok o1 o2 o3 m r s z r' s' z' w hP he
  · exact refCopyExchange_no o1 o2 o3 m r s z r' s' z' w he


set_option maxRecDepth 100000 in
set_option maxHeartbeats 4000000 in
theorem refCopyLine_any (o1 o2 o3 : Bool) (c : ByteArray) (r s z nu kh m mi : Int) (c' : ByteArray) (r2 s2 z2 r' s' z' : Int) (w : World) (hP : Pow w) :
    Calls Tryz.prog 55 #[.agg #[.bool o1, .bool o2, .bool o3], .string c, .agg #[.int .i64 r, .int .i64 s, .int .i64 z], .agg #[.int .i64 nu, .int .i64 kh, .int .i64 m, .int .i64 mi, .string c', .int .i64 r2, .int .i64 s2, .int .i64 z2, .int .i64 r', .int .i64 s', .int .i64 z']] w fun e w' =>
      e = .returned (.tuple #[.int .i64 (clC o1 o2 o3 m c c' r s z r' s' z'), .int .i64 (clE o1 o2 o3 m c c' r s z r' s' z')]) ∧ Below w.heap.size w w' := by
  have HM := Lib.hid (LnMem.new w o1 o2 o3 r s z nu kh m mi c' r2 s2 z2 r' s' z')
  have HC := Lib.hid (fun W => refCost_any m c c' W)
  have HX := Lib.hid (fun W (hb : Below w.heap.size w W) => refCopyExchange_any o1 o2 o3 m r s z r' s' z' W (hP.later hb))
  have hclE : clE o1 o2 o3 m c c' r s z r' s' z' = if errOf m c c' ≠ 0 then errOf m c c' else cxE o1 o2 o3 m r s z r' s' z' := rfl
  have hclC : clC o1 o2 o3 m c c' r s z r' s' z' = if clE o1 o2 o3 m c c' r s z r' s' z' = 0 then costOf m c c' + cxC o1 o2 o3 m r s z r' s' z' else 0 := rfl
  have b1 := costOf_bd m c c'
  have b2 := cxC_bd o1 o2 o3 m r s z r' s' z'
  rw [hclC, hclE]
  generalize costOf m c c' = n1 at HC b1 ⊢
  generalize errOf m c c' = n2 at HC ⊢
  generalize cxC o1 o2 o3 m r s z r' s' z' = n3 at HX b2 ⊢
  generalize cxE o1 o2 o3 m r s z r' s' z' = n4 at HX ⊢
  have q1 : IntKind.i64.wrap (n1 + n3) = n1 + n3 := IntWalk.i64_in _ (by omega)
  clear hclC hclE hP b1 b2
  by_cases h2 : n2 = 0
  · subst h2
    rw [if_neg (show ¬ ((0 : Int) ≠ 0) from fun h => h rfl)]
    by_cases h4 : n4 = 0
    · subst h4
      rw [if_pos rfl]
      go_enter Tryz.func55, Tryz.ntmps55
      go_wp2_with (first
        | (go_at_call 22; refine (HC.out _).mono ?_; rintro e w1 ⟨rfl, hb1⟩; have hM := HM.out.later hb1; have hbt := below_trans' (below_three w _ _ _) hb1; obtain ⟨⟨a0, a1, a2⟩, ⟨b0, b1, b2⟩, ⟨c0, c1, c2, c3, c4⟩⟩ := hM.cells)
        | (go_at_call 53; refine (HX.out _ hbt).mono ?_; rintro e w2 ⟨rfl, hb2⟩; have hM := hM.later hb2; have hbt := below_trans' hbt hb2; obtain ⟨⟨a0, a1, a2⟩, ⟨b0, b1, b2⟩, ⟨c0, c1, c2, c3, c4⟩⟩ := hM.cells))
      go_ret2
      exact ⟨rfl, hbt⟩
    · rw [if_neg h4]
      have d1 : (n4 != 0) = true := by simpa using h4
      clear h4
      go_enter Tryz.func55, Tryz.ntmps55
      go_wp2_with (first
        | (go_at_call 22; refine (HC.out _).mono ?_; rintro e w1 ⟨rfl, hb1⟩; have hM := HM.out.later hb1; have hbt := below_trans' (below_three w _ _ _) hb1; obtain ⟨⟨a0, a1, a2⟩, ⟨b0, b1, b2⟩, ⟨c0, c1, c2, c3, c4⟩⟩ := hM.cells)
        | (go_at_call 53; refine (HX.out _ hbt).mono ?_; rintro e w2 ⟨rfl, hb2⟩; have hM := hM.later hb2; have hbt := below_trans' hbt hb2; obtain ⟨⟨a0, a1, a2⟩, ⟨b0, b1, b2⟩, ⟨c0, c1, c2, c3, c4⟩⟩ := hM.cells))
      go_ret2
      exact ⟨rfl, hbt⟩
  · rw [if_pos h2, if_neg h2]
    have d1 : (n2 != 0) = true := by simpa using h2
    clear h2
    go_enter Tryz.func55, Tryz.ntmps55
    go_wp2_with (first
      | (go_at_call 22; refine (HC.out _).mono ?_; rintro e w1 ⟨rfl, hb1⟩; have hM := HM.out.later hb1; have hbt := below_trans' (below_three w _ _ _) hb1; obtain ⟨⟨a0, a1, a2⟩, ⟨b0, b1, b2⟩, ⟨c0, c1, c2, c3, c4⟩⟩ := hM.cells))
    go_ret2
    exact ⟨rfl, hbt⟩
end Go.Proofs.YtgcddjgkieambaaGreatDoor
