/- CopyingCosts: the walk of the statement's function. -/
import Derived.Test.YtgcddjgkieambaaGreatDoorRefF
import Derived.Test.YtgcddjgkieambaaGreatDoorRefH
import Derived.Test.YtgcddjgkieambaaGreatDoorRefI
import Derived.Test.YtgcddjgkieambaaGreatDoorRises
import Derived.Test.YtgcddjgkieambaaGreatDoorJoinsP
set_option linter.unusedVariables false
set_option linter.unusedSimpArgs false
namespace Go.Proofs.YtgcddjgkieambaaGreatDoor
open Go.RowKit

set_option maxRecDepth 100000 in
set_option maxHeartbeats 4000000 in
theorem CostsQ_long (m : Int) (x y code : ByteArray) (a b most : Int) (v7 v8 v9 v10 v11 : Value) (w : World) (hP : Pow w) (hl : ¬ (x.size ≤ 200 ∧ y.size ≤ 200)) :
    Calls Tryz.prog 5 #[.agg (askV m x y code a b most v7 v8 v9 v10 v11)] w fun e w' => e = .returned (.bool true) ∧ Below w.heap.size w w' := by
  have HB0 := Lib.hid (Blk.new w 40 (askV m x y code a b most v7 v8 v9 v10 v11))
  have HA := Lib.hid (fun o => awake_any (w.alloc o) (hP.later (below_alloc0 _)))
  clear hP
  by_cases h1 : x.size ≤ 200
  · have d1 : decide ((x.size : Int) ≤ 200) = true := by simp; omega
    have d2 : decide ((y.size : Int) ≤ 200) = false := by simp; omega
    clear hl h1
    go_enter Tryz.func5, Tryz.ntmps5
    go_wp2_with (first
      | (go_at_call 18; refine (HA.out _).mono ?_; rintro e w1 ⟨rfl, hb1⟩; have hB := HB0.out.later hb1; have hbt := below_trans' (below_alloc0 _) hb1; obtain ⟨k0, k1, k2, _⟩ := blk12 hB)
      | (go_at_call 19; refine (brief_any _ _).mono ?_; rintro e w2 ⟨rfl, rfl⟩))
    go_ret
    exact ⟨rfl, hbt⟩
  · have d1 : decide ((x.size : Int) ≤ 200) = false := by simp; omega
    clear hl h1
    go_enter Tryz.func5, Tryz.ntmps5
    go_wp2_with (first
      | (go_at_call 18; refine (HA.out _).mono ?_; rintro e w1 ⟨rfl, hb1⟩; have hB := HB0.out.later hb1; have hbt := below_trans' (below_alloc0 _) hb1; obtain ⟨k0, k1, k2, _⟩ := blk12 hB)
      | (go_at_call 19; refine (brief_any _ _).mono ?_; rintro e w2 ⟨rfl, rfl⟩))
    go_ret
    exact ⟨rfl, hbt⟩

set_option maxRecDepth 100000 in
set_option maxHeartbeats 8000000 in
theorem CostsQ_go (m : Int) (x y code : ByteArray) (a b most : Int) (v7 v8 v9 v10 v11 : Value) (w : World) (hP : Pow w) (hx : x.size ≤ 200) (hy : y.size ≤ 200) (xs : List (Int × Int × Int)) (co er : Int) (TE : World → Value → Prop) (hxs : xs.length ≤ 1000000)
    (h20 : ∀ W, Calls Tryz.prog 20 #[.int .i64 m, .string x, .string y] W fun e w' => e = .returned (.tuple #[.int .i64 co, .int .i64 er]) ∧ Below W.heap.size W w')
    (h22 : ∀ W, Calls Tryz.prog 22 #[.int .i64 m, .string x, .string y] W fun e w' => e = .returned (.tuple #[.int .i64 co, .int .i64 er]) ∧ Below W.heap.size W w')
    (h21 : ∀ W, Calls Tryz.prog 21 #[.int .i64 m, .string x, .string y] W fun e w' => ∃ R cr, e = .returned (.tuple #[.slice R xs.length cr, .int .i64 er]) ∧ StepsAt w' R xs ∧ Below W.heap.size W w')
    (h23 : ∀ W, Calls Tryz.prog 23 #[.int .i64 m, .string x, .string y] W fun e w' => ∃ R cr, e = .returned (.tuple #[.slice R xs.length cr, .int .i64 er]) ∧ StepsAt w' R xs ∧ Below W.heap.size W w')
    (h24 : ∀ W, Calls Tryz.prog 24 #[.int .i64 m, .string x, .string y] W fun e w' => ∃ v, e = .returned (.tuple #[v, .int .i64 er]) ∧ TE w' v ∧ Below W.heap.size W w')
    (h25 : ∀ W, Calls Tryz.prog 25 #[.int .i64 m, .string x, .string y] W fun e w' => ∃ v, e = .returned (.tuple #[v, .int .i64 er]) ∧ TE w' v ∧ Below W.heap.size W w')
    (h27 : ∀ W v v', TE W v → TE W v' → Calls Tryz.prog 27 #[v, v'] W fun e w' => e = .returned (.bool true) ∧ ∃ q, w' = W.drewN q)
    (hTE : ∀ W W' v, TE W v → Below W.heap.size W W' → TE W' v) :
    Calls Tryz.prog 5 #[.agg (askV m x y code a b most v7 v8 v9 v10 v11)] w fun e w' => e = .returned (.bool true) ∧ Below w.heap.size w w' := by
  have HB0 := Lib.hid (Blk.new w 40 (askV m x y code a b most v7 v8 v9 v10 v11))
  have HA := Lib.hid (fun o => awake_any (w.alloc o) (hP.later (below_alloc0 _)))
  have H20 := Lib.hid h20
  have H21 := Lib.hid h21
  have H22 := Lib.hid h22
  have H23 := Lib.hid h23
  have H24 := Lib.hid h24
  have H25 := Lib.hid h25
  have H27 := Lib.hid h27
  have HTE := Lib.hid hTE
  have HSx := Lib.hid (fun (R R' : Option Addr) (cr cr' : Nat) W (h : StepsAt W R xs) (h' : StepsAt W R' xs) => same_steps R R' cr cr' xs xs W h h' hxs)
  rw [decide_eq_true (rfl : xs = xs)] at HSx
  have d1 : decide ((x.size : Int) ≤ 200) = true := by simp; omega
  have d2 : decide ((y.size : Int) ≤ 200) = true := by simp; omega
  clear hP h20 h21 h22 h23 h24 h25 h27 hTE hxs hx hy
  go_enter Tryz.func5, Tryz.ntmps5
  go_wp2_with (first
    | (go_at_call 18; refine (HA.out _).mono ?_; rintro e w1 ⟨rfl, hb1⟩; have hB := HB0.out.later hb1; have hbt := below_trans' (below_alloc0 _) hb1; obtain ⟨k0, k1, k2, _⟩ := blk12 hB)
    | (go_at_call 19; refine (brief_any _ _).mono ?_; rintro e w2 ⟨rfl, rfl⟩)
    | (go_at_call 20; refine (H20.out _).mono ?_; rintro e w2 ⟨rfl, hb2⟩; have hB := hB.later hb2; have hbt := below_trans' hbt hb2; obtain ⟨k0, k1, k2, _⟩ := blk12 hB)
    | (go_at_call 22; refine (H22.out _).mono ?_; rintro e w3 ⟨rfl, hb3⟩; have hB := hB.later hb3; have hbt := below_trans' hbt hb3; obtain ⟨k0, k1, k2, _⟩ := blk12 hB)
    | (go_at_call 21; refine (H21.out _).mono ?_; rintro e w4 ⟨R1, c1, rfl, n1, hb4⟩; have hB := hB.later hb4; have hbt := below_trans' hbt hb4; obtain ⟨k0, k1, k2, _⟩ := blk12 hB)
    | (go_at_call 23; refine (H23.out _).mono ?_; rintro e w5 ⟨R2, c2, rfl, n2, hb5⟩; have hB := hB.later hb5; have hbt := below_trans' hbt hb5; have n1 := n1.later hb5; obtain ⟨k0, k1, k2, _⟩ := blk12 hB)
    | (go_at_call 24; refine (H24.out _).mono ?_; rintro e w6 ⟨v1, rfl, t1, hb6⟩; have hB := hB.later hb6; have hbt := below_trans' hbt hb6; have n1 := n1.later hb6; have n2 := n2.later hb6; obtain ⟨k0, k1, k2, _⟩ := blk12 hB)
    | (go_at_call 25; refine (H25.out _).mono ?_; rintro e w7 ⟨v2, rfl, t2, hb7⟩; have hB := hB.later hb7; have hbt := below_trans' hbt hb7; have n1 := n1.later hb7; have n2 := n2.later hb7; have t1 := HTE.out _ _ _ t1 hb7; obtain ⟨k0, k1, k2, _⟩ := blk12 hB)
    | (go_at_call 26; refine (HSx.out R1 R2 c1 c2 _ n1 n2).mono ?_; rintro e w8 ⟨rfl, q8, hw8⟩; have hb8 := below_of_drew hw8; clear hw8; have hB := hB.later hb8; have hbt := below_trans' hbt hb8; have t1 := HTE.out _ _ _ t1 hb8; have t2 := HTE.out _ _ _ t2 hb8)
    | (go_at_call 27; refine (H27.out _ _ _ t1 t2).mono ?_; rintro e w9 ⟨rfl, q9, hw9⟩; have hb9 := below_of_drew hw9; clear hw9; have hB := hB.later hb9; have hbt := below_trans' hbt hb9))
  go_ret
  exact ⟨by simp, hbt⟩

theorem CostsQ_any (m : Int) (x y code : ByteArray) (a b most : Int) (v7 v8 v9 v10 v11 : Value) (w : World) (hP : Pow w) :
    Calls Tryz.prog 5 #[.agg (askV m x y code a b most v7 v8 v9 v10 v11)] w fun e w' => e = .returned (.bool true) ∧ Below w.heap.size w w' := by
  by_cases hl : x.size ≤ 200 ∧ y.size ≤ 200
  · by_cases he : errOf m x y = 0
    · obtain ⟨_, l1, l2, _, _⟩ := errOf_ok he
      refine CostsQ_go m x y code a b most v7 v8 v9 v10 v11 w hP hl.1 hl.2 (Cm.ali m (row x) (row y)) (costOf m x y) 0 (fun W v => Tab W 0 v (x.size + 1) (y.size + 1) (Cm.T (Cm.missC m) (Cm.extraC m) (atC m (row x) (row y)))) ?_
        (fun W => Cost_ok m x y W he) (fun W => refCost_ok m x y W he) ?_ ?_ ?_ ?_ ?_ ?_
      · exact ali_length he
      · exact fun W => (Align_ok m x y W he).mono fun e w' ⟨v, h1, h2, h3⟩ => by obtain ⟨R, cr, rfl, hR⟩ := h2.form; exact ⟨R, cr, h1, hR, h3⟩
      · exact fun W => (refAlign_ok m x y W he).mono fun e w' ⟨v, h1, h2, h3⟩ => by obtain ⟨R, cr, rfl, hR⟩ := h2.form; exact ⟨R, cr, h1, hR, h3⟩
      · exact fun W => (Table_ok m x y W he).mono fun e w' ⟨v, h1, h2, h3⟩ => ⟨v, h1, h2.less (Nat.zero_le _), h3⟩
      · exact fun W => (refTable_ok m x y W he).mono fun e w' ⟨v, h1, h2, h3⟩ => ⟨v, h1, h2.less (Nat.zero_le _), h3⟩
      · exact fun W v v' h h' => same_tabs v v' _ _ _ 0 0 W (by omega) (by omega) h h'
      · exact fun W W' v h hb => h.later hb
    · refine CostsQ_go m x y code a b most v7 v8 v9 v10 v11 w hP hl.1 hl.2 [] 0 (errOf m x y) (fun W v => v = .slice none 0 0) (by simp)
        (fun W => Cost_no m x y W he) (fun W => refCost_no m x y W he) ?_ ?_ ?_ ?_ ?_ ?_
      · exact fun W => (Align_no m x y W he).mono fun e w' ⟨h1, h2⟩ => ⟨none, 0, h1, fun j hj => by simp at hj, h2⟩
      · exact fun W => (refAlign_no m x y W he).mono fun e w' ⟨h1, h2⟩ => ⟨none, 0, h1, fun j hj => by simp at hj, h2⟩
      · exact fun W => (Table_no m x y W he).mono fun e w' ⟨h1, h2⟩ => ⟨_, h1, rfl, h2⟩
      · exact fun W => (refTable_no m x y W he).mono fun e w' ⟨h1, h2⟩ => ⟨_, h1, rfl, h2⟩
      · rintro W v v' rfl rfl; exact same_nil W
      · exact fun W W' v h hb => h
  · exact CostsQ_long m x y code a b most v7 v8 v9 v10 v11 w hP hl
end Go.Proofs.YtgcddjgkieambaaGreatDoor
