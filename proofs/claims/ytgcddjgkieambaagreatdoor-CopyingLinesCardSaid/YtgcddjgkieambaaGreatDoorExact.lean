/- CopyingExact: the walk of the statement's function. -/
import Derived.Test.YtgcddjgkieambaaGreatDoorExchW
import Derived.Laws.StructEq
set_option linter.unusedVariables false
set_option linter.unusedSimpArgs false
namespace Go.Proofs.YtgcddjgkieambaaGreatDoor
open Go.RowKit

/-- A layout, and what is sent with a line, boxed one behind the other. -/
def SnMem (W : World) (g : Nat) (o1 o2 o3 : Bool) (c : ByteArray) (r s z nu kh m mi : Int) (c' : ByteArray) (r2 s2 z2 r' s' z' : Int) : Prop := Blk W g 58 #[.bool o1, .bool o2, .bool o3] ∧
  Blk W (g + 1) 64 #[.string c, .int .i64 r, .int .i64 s, .int .i64 z, .int .i64 nu, .int .i64 kh, .int .i64 m, .int .i64 mi, .string c', .int .i64 r2, .int .i64 s2, .int .i64 z2, .int .i64 r', .int .i64 s', .int .i64 z']
theorem SnMem.later {W W' : World} {g : Nat} {o1 o2 o3 : Bool} {c : ByteArray} {r s z nu kh m mi : Int} {c' : ByteArray} {r2 s2 z2 r' s' z' : Int} (h : SnMem W g o1 o2 o3 c r s z nu kh m mi c' r2 s2 z2 r' s' z') (hb : Below W.heap.size W W') : SnMem W' g o1 o2 o3 c r s z nu kh m mi c' r2 s2 z2 r' s' z' :=
  ⟨h.1.later hb, h.2.later hb⟩
theorem SnMem.cells {W : World} {g : Nat} {o1 o2 o3 : Bool} {c : ByteArray} {r s z nu kh m mi : Int} {c' : ByteArray} {r2 s2 z2 r' s' z' : Int} (h : SnMem W g o1 o2 o3 c r s z nu kh m mi c' r2 s2 z2 r' s' z') :
    (W.cell? ⟨g, 0, none⟩ = some (.bool o1) ∧ W.cell? ⟨g, 1, none⟩ = some (.bool o2) ∧ W.cell? ⟨g, 2, none⟩ = some (.bool o3)) ∧
    (W.cell? ⟨g + 1, 0, none⟩ = some (.string c) ∧ W.cell? ⟨g + 1, 1, none⟩ = some (.int .i64 r) ∧ W.cell? ⟨g + 1, 2, none⟩ = some (.int .i64 s) ∧ W.cell? ⟨g + 1, 3, none⟩ = some (.int .i64 z) ∧ W.cell? ⟨g + 1, 4, none⟩ = some (.int .i64 nu) ∧ W.cell? ⟨g + 1, 5, none⟩ = some (.int .i64 kh) ∧
      W.cell? ⟨g + 1, 6, none⟩ = some (.int .i64 m) ∧ W.cell? ⟨g + 1, 7, none⟩ = some (.int .i64 mi) ∧ W.cell? ⟨g + 1, 8, none⟩ = some (.string c') ∧ W.cell? ⟨g + 1, 9, none⟩ = some (.int .i64 r2) ∧ W.cell? ⟨g + 1, 10, none⟩ = some (.int .i64 s2) ∧ W.cell? ⟨g + 1, 11, none⟩ = some (.int .i64 z2) ∧
      W.cell? ⟨g + 1, 12, none⟩ = some (.int .i64 r') ∧ W.cell? ⟨g + 1, 13, none⟩ = some (.int .i64 s') ∧ W.cell? ⟨g + 1, 14, none⟩ = some (.int .i64 z')) :=
  ⟨blk3' h.1, h.2.cell 0, h.2.cell 1, h.2.cell 2, h.2.cell 3, h.2.cell 4, h.2.cell 5, h.2.cell 6, h.2.cell 7, h.2.cell 8, h.2.cell 9, h.2.cell 10, h.2.cell 11, h.2.cell 12, h.2.cell 13, h.2.cell 14⟩
theorem SnMem.new (w : World) (o1 o2 o3 : Bool) (c : ByteArray) (r s z nu kh m mi : Int) (c' : ByteArray) (r2 s2 z2 r' s' z' : Int) :
    SnMem ((w.alloc (.cells #[.bool o1, .bool o2, .bool o3] 58)).alloc (.cells #[.string c, .int .i64 r, .int .i64 s, .int .i64 z, .int .i64 nu, .int .i64 kh, .int .i64 m, .int .i64 mi, .string c', .int .i64 r2, .int .i64 s2, .int .i64 z2, .int .i64 r', .int .i64 s', .int .i64 z'] 64)) w.heap.size o1 o2 o3 c r s z nu kh m mi c' r2 s2 z2 r' s' z' := by
  refine ⟨(Blk.new w 58 _).alloc _, ?_⟩
  have := Blk.new (w.alloc (.cells #[.bool o1, .bool o2, .bool o3] 58)) 64 #[.string c, .int .i64 r, .int .i64 s, .int .i64 z, .int .i64 nu, .int .i64 kh, .int .i64 m, .int .i64 mi, .string c', .int .i64 r2, .int .i64 s2, .int .i64 z2, .int .i64 r', .int .i64 s', .int .i64 z']
  simpa using this
theorem below_two (w : World) (a b : Obj) : Below w.heap.size w ((w.alloc a).alloc b) := (below_alloc0 _).alloc (by simp) _

set_option maxRecDepth 100000 in
theorem eql60 (a b c a' b' c' : Int) (W : World) : (binOp .eql 60 (.agg #[.int .i64 a, .int .i64 b, .int .i64 c]) (.agg #[.int .i64 a', .int .i64 b', .int .i64 c'])).run Tryz.prog W = .ok (.bool (a == a' && (b == b' && c == c'))) W := by
  rw [run_eql_struct, run_equalIn_agg W 9999 60 _ _ (by kernel_rfl) (by kernel_rfl)]
  simp only [Program.fieldsOf, Tryz.underlying60]
  cases h1 : (a == a') <;> cases h2 : (b == b') <;> cases h3 : (c == c') <;> simp [Op.eqFields, go_sem, Tryz.underlying3, h1, h2, h3]

set_option maxRecDepth 100000 in
set_option maxHeartbeats 8000000 in
theorem Exact_long (o1 o2 o3 : Bool) (c : ByteArray) (r s z nu kh m mi : Int) (c' : ByteArray) (r2 s2 z2 r' s' z' : Int) (w : World) (hP : Pow w) (hl : ¬ (c.size ≤ 200 ∧ c'.size ≤ 200)) :
    Calls Tryz.prog 12 #[.agg #[.bool o1, .bool o2, .bool o3], .agg #[.string c, .int .i64 r, .int .i64 s, .int .i64 z, .int .i64 nu, .int .i64 kh, .int .i64 m, .int .i64 mi, .string c', .int .i64 r2, .int .i64 s2, .int .i64 z2, .int .i64 r', .int .i64 s', .int .i64 z']] w fun e w' =>
      e = .returned (.bool true) ∧ Below w.heap.size w w' := by
  have HM := Lib.hid (SnMem.new w o1 o2 o3 c r s z nu kh m mi c' r2 s2 z2 r' s' z')
  have HA := Lib.hid (fun o o' => awake_any ((w.alloc o).alloc o') (hP.later (below_two _ _ _)))
  clear hP
  by_cases h1 : c.size ≤ 200
  · have d1 : decide ((c.size : Int) ≤ 200) = true := by simp; omega
    have d2 : decide ((c'.size : Int) ≤ 200) = false := by simp; omega
    clear hl h1
    go_enter Tryz.func12, Tryz.ntmps12
    go_wp2_with (first
      | (go_at_call 18; refine (HA.out _ _).mono ?_; rintro e w1 ⟨rfl, hb1⟩; have hM := HM.out.later hb1; have hbt := below_trans' (below_two _ _ _) hb1; obtain ⟨⟨a0, a1, a2⟩, b0, b1, b2, b3, b4, b5, b6, b7, b8, b9, b10, b11, b12, b13, b14⟩ := hM.cells)
      | (go_at_call 19; refine (brief_any _ _).mono ?_; rintro e w2 ⟨rfl, rfl⟩))
    go_ret
    exact ⟨rfl, hbt⟩
  · have d1 : decide ((c.size : Int) ≤ 200) = false := by simp; omega
    clear hl h1
    go_enter Tryz.func12, Tryz.ntmps12
    go_wp2_with (first
      | (go_at_call 18; refine (HA.out _ _).mono ?_; rintro e w1 ⟨rfl, hb1⟩; have hM := HM.out.later hb1; have hbt := below_trans' (below_two _ _ _) hb1; obtain ⟨⟨a0, a1, a2⟩, b0, b1, b2, b3, b4, b5, b6, b7, b8, b9, b10, b11, b12, b13, b14⟩ := hM.cells)
      | (go_at_call 19; refine (brief_any _ _).mono ?_; rintro e w2 ⟨rfl, rfl⟩))
    go_ret
    exact ⟨rfl, hbt⟩

set_option maxRecDepth 100000 in
set_option maxHeartbeats 8000000 in
theorem Exact_no (o1 o2 o3 : Bool) (c : ByteArray) (r s z nu kh m mi : Int) (c' : ByteArray) (r2 s2 z2 r' s' z' : Int) (w : World) (hP : Pow w) (hl : c.size ≤ 200 ∧ c'.size ≤ 200) (he : clE o1 o2 o3 m c c' r s z r' s' z' ≠ 0) :
    Calls Tryz.prog 12 #[.agg #[.bool o1, .bool o2, .bool o3], .agg #[.string c, .int .i64 r, .int .i64 s, .int .i64 z, .int .i64 nu, .int .i64 kh, .int .i64 m, .int .i64 mi, .string c', .int .i64 r2, .int .i64 s2, .int .i64 z2, .int .i64 r', .int .i64 s', .int .i64 z']] w fun e w' =>
      e = .returned (.bool true) ∧ Below w.heap.size w w' := by
  have HM := Lib.hid (SnMem.new w o1 o2 o3 c r s z nu kh m mi c' r2 s2 z2 r' s' z')
  have HA := Lib.hid (fun o o' => awake_any ((w.alloc o).alloc o') (hP.later (below_two _ _ _)))
  have hL := fun W (hb : Below w.heap.size w W) => CopyLine_any o1 o2 o3 c r s z nu kh m mi c' r2 s2 z2 r' s' z' W (hP.later hb)
  have f1 : clC o1 o2 o3 m c c' r s z r' s' z' = 0 := by unfold clC; rw [if_neg he]
  rw [f1] at hL
  have HL := Lib.hid hL
  clear hL f1
  generalize clE o1 o2 o3 m c c' r s z r' s' z' = n at HL he
  have d0 : (n != 0) = true := by simpa using he
  have d1 : decide ((c.size : Int) ≤ 200) = true := by simp; omega
  have d2 : decide ((c'.size : Int) ≤ 200) = true := by simp; omega
  clear hP hl he
  go_enter Tryz.func12, Tryz.ntmps12
  go_wp2_with (first
    | (go_at_call 18; refine (HA.out _ _).mono ?_; rintro e w1 ⟨rfl, hb1⟩; have hM := HM.out.later hb1; have hbt := below_trans' (below_two _ _ _) hb1; obtain ⟨⟨a0, a1, a2⟩, b0, b1, b2, b3, b4, b5, b6, b7, b8, b9, b10, b11, b12, b13, b14⟩ := hM.cells)
    | (go_at_call 19; refine (brief_any _ _).mono ?_; rintro e w2 ⟨rfl, rfl⟩)
    | (go_at_call 54; ((with_reducible refine (HL.out _ hbt).mono ?_); rintro e w3 ⟨rfl, hb3⟩; have hM := hM.later hb3; have hbt := below_trans' hbt hb3; obtain ⟨⟨a0, a1, a2⟩, b0, b1, b2, b3, b4, b5, b6, b7, b8, b9, b10, b11, b12, b13, b14⟩ := hM.cells)))
  go_ret
  exact ⟨rfl, hbt⟩

set_option maxRecDepth 100000 in
set_option maxHeartbeats 8000000 in
theorem Exact_ok (o1 o2 o3 : Bool) (c : ByteArray) (r s z nu kh m mi : Int) (c' : ByteArray) (r2 s2 z2 r' s' z' : Int) (w : World) (hP : Pow w) (hl : c.size ≤ 200 ∧ c'.size ≤ 200) (he : clE o1 o2 o3 m c c' r s z r' s' z' = 0) :
    Calls Tryz.prog 12 #[.agg #[.bool o1, .bool o2, .bool o3], .agg #[.string c, .int .i64 r, .int .i64 s, .int .i64 z, .int .i64 nu, .int .i64 kh, .int .i64 m, .int .i64 mi, .string c', .int .i64 r2, .int .i64 s2, .int .i64 z2, .int .i64 r', .int .i64 s', .int .i64 z']] w fun e w' =>
      e = .returned (.bool true) ∧ Below w.heap.size w w' := by
  have HM := Lib.hid (SnMem.new w o1 o2 o3 c r s z nu kh m mi c' r2 s2 z2 r' s' z')
  have HA := Lib.hid (fun o o' => awake_any ((w.alloc o).alloc o') (hP.later (below_two _ _ _)))
  have hL := fun W (hb : Below w.heap.size w W) => CopyLine_any o1 o2 o3 c r s z nu kh m mi c' r2 s2 z2 r' s' z' W (hP.later hb)
  have hL2 := fun W (hb : Below w.heap.size w W) => CopyLine_any o1 o2 o3 c r s z nu kh m mi c r2 s2 z2 r s z W (hP.later hb)
  have hC := fun W => Cost_any m c c' W
  have hX := fun W (hb : Below w.heap.size w W) => CopyExchange_any o1 o2 o3 m r s z r' s' z' W (hP.later hb)
  obtain ⟨e1, e2⟩ := clE_ok he
  have f1 : clC o1 o2 o3 m c c' r s z r' s' z' = costOf m c c' + cxC o1 o2 o3 m r s z r' s' z' := by unfold clC; rw [if_pos he]
  have e3 : errOf m c c = 0 := by
    obtain ⟨a, b, _, d, _⟩ := errOf_ok e1
    exact errOf_of ⟨a, b, b, d, d⟩
  have e4 := cxE_self e2
  have f2 : clE o1 o2 o3 m c c r s z r s z = 0 := by unfold clE; rw [if_neg (fun h => h e3)]; exact e4
  have f3 : clC o1 o2 o3 m c c r s z r s z = 0 := by
    unfold clC; rw [if_pos f2, (costOf_zero e3).2 rfl, (cxC_zero e4).2 ⟨rfl, rfl, rfl⟩]; rfl
  have g1 := costOf_zero e1
  have g2 := cxC_zero e2
  have b1 := costOf_bd m c c'
  have b2 := cxC_bd o1 o2 o3 m r s z r' s' z'
  rw [f1, he] at hL
  rw [f3, f2] at hL2
  rw [e1] at hC
  rw [e2] at hX
  have hE := fun W => eql60 r s z r' s' z' W
  have g3 : (r == r' && (s == s' && z == z')) = decide (cxC o1 o2 o3 m r s z r' s' z' = 0) := by
    rw [Bool.eq_iff_iff, decide_eq_true_iff, g2]; simp
  have g5 : (c.toList == c'.toList) = decide (costOf m c c' = 0) := by
    by_cases h : c = c'
    · rw [decide_eq_true (g1.2 h), h, beq_self_eq_true]
    · rw [decide_eq_false (fun e => h (g1.1 e))]; exact bytes_ne h
  have g4 : (c == c') = decide (costOf m c c' = 0) := by rw [beq_toListBytes]; exact g5
  rw [g3] at hE
  clear f1 f2 f3 e1 e2 e3 e4 g1 g2 g3 he hP
  generalize costOf m c c' = n1 at hL hC b1 g4 g5
  generalize cxC o1 o2 o3 m r s z r' s' z' = n2 at hL hX b2 hE
  have q1 : IntKind.i64.wrap (n1 + n2) = n1 + n2 := IntWalk.i64_in _ (by omega)
  have d1 : decide ((c.size : Int) ≤ 200) = true := by simp; omega
  have d2 : decide ((c'.size : Int) ≤ 200) = true := by simp; omega
  have HL := Lib.hid hL
  have HL2 := Lib.hid hL2
  have HC := Lib.hid hC
  have HX := Lib.hid hX
  clear hL hL2 hC hX hl
  by_cases h1 : n1 = 0
  · rw [decide_eq_true h1] at g4 g5
    by_cases h2 : n2 = 0
    · have hz : (n1 + n2 == 0) = true := by rw [beq_iff_eq]; omega
      rw [decide_eq_true h2] at hE
      clear h1 h2 b1 b2
      go_enter Tryz.func12, Tryz.ntmps12
      go_wp2_with (first
        | (go_at_call 18; refine (HA.out _ _).mono ?_; rintro e w1 ⟨rfl, hb1⟩; have hM := HM.out.later hb1; have hbt := below_trans' (below_two _ _ _) hb1; obtain ⟨⟨a0, a1, a2⟩, b0, b1, b2, b3, b4, b5, b6, b7, b8, b9, b10, b11, b12, b13, b14⟩ := hM.cells)
        | (go_at_call 19; refine (brief_any _ _).mono ?_; rintro e w2 ⟨rfl, rfl⟩)
        | (go_at_call 54; ((with_reducible refine (HL.out _ hbt).mono ?_); rintro e w3 ⟨rfl, hb3⟩; have hM := hM.later hb3; have hbt := below_trans' hbt hb3; obtain ⟨⟨a0, a1, a2⟩, b0, b1, b2, b3, b4, b5, b6, b7, b8, b9, b10, b11, b12, b13, b14⟩ := hM.cells))
        | (go_at_call 20; refine (HC.out _).mono ?_; rintro e w4 ⟨rfl, hb4⟩; have hM := hM.later hb4; have hbt := below_trans' hbt hb4; obtain ⟨⟨a0, a1, a2⟩, b0, b1, b2, b3, b4, b5, b6, b7, b8, b9, b10, b11, b12, b13, b14⟩ := hM.cells)
        | (go_at_call 52; refine (HX.out _ hbt).mono ?_; rintro e w5 ⟨rfl, hb5⟩; have hM := hM.later hb5; have lt0 := hM.1.lt; have lt1 := hM.2.lt; have ne0 := Nat.ne_of_gt lt0; have ne1 := Nat.ne_of_gt lt1; have hbt := below_trans' hbt hb5; obtain ⟨⟨a0, a1, a2⟩, b0, b1, b2, b3, b4, b5, b6, b7, b8, b9, b10, b11, b12, b13, b14⟩ := hM.cells)
        | (go_at_call 54; ((with_reducible refine (HL2.out _ (hbt.alloc hbt.size _)).mono ?_); rintro e w6 ⟨rfl, hb6⟩; have hM := (hM.later (below_alloc0 _)).later hb6; have hbt := below_trans' (hbt.alloc hbt.size _) hb6; obtain ⟨⟨a0, a1, a2⟩, b0, b1, b2, b3, b4, b5, b6, b7, b8, b9, b10, b11, b12, b13, b14⟩ := hM.cells)))
      go_ret
      exact ⟨rfl, hbt⟩
    · have hz : (n1 + n2 == 0) = false := by rw [beq_eq_false_iff_ne]; omega
      rw [decide_eq_false h2] at hE
      clear h1 h2 b1 b2
      go_enter Tryz.func12, Tryz.ntmps12
      go_wp2_with (first
        | (go_at_call 18; refine (HA.out _ _).mono ?_; rintro e w1 ⟨rfl, hb1⟩; have hM := HM.out.later hb1; have hbt := below_trans' (below_two _ _ _) hb1; obtain ⟨⟨a0, a1, a2⟩, b0, b1, b2, b3, b4, b5, b6, b7, b8, b9, b10, b11, b12, b13, b14⟩ := hM.cells)
        | (go_at_call 19; refine (brief_any _ _).mono ?_; rintro e w2 ⟨rfl, rfl⟩)
        | (go_at_call 54; ((with_reducible refine (HL.out _ hbt).mono ?_); rintro e w3 ⟨rfl, hb3⟩; have hM := hM.later hb3; have hbt := below_trans' hbt hb3; obtain ⟨⟨a0, a1, a2⟩, b0, b1, b2, b3, b4, b5, b6, b7, b8, b9, b10, b11, b12, b13, b14⟩ := hM.cells))
        | (go_at_call 20; refine (HC.out _).mono ?_; rintro e w4 ⟨rfl, hb4⟩; have hM := hM.later hb4; have hbt := below_trans' hbt hb4; obtain ⟨⟨a0, a1, a2⟩, b0, b1, b2, b3, b4, b5, b6, b7, b8, b9, b10, b11, b12, b13, b14⟩ := hM.cells)
        | (go_at_call 52; refine (HX.out _ hbt).mono ?_; rintro e w5 ⟨rfl, hb5⟩; have hM := hM.later hb5; have lt0 := hM.1.lt; have lt1 := hM.2.lt; have ne0 := Nat.ne_of_gt lt0; have ne1 := Nat.ne_of_gt lt1; have hbt := below_trans' hbt hb5; obtain ⟨⟨a0, a1, a2⟩, b0, b1, b2, b3, b4, b5, b6, b7, b8, b9, b10, b11, b12, b13, b14⟩ := hM.cells)
        | (go_at_call 54; ((with_reducible refine (HL2.out _ (hbt.alloc hbt.size _)).mono ?_); rintro e w6 ⟨rfl, hb6⟩; have hM := (hM.later (below_alloc0 _)).later hb6; have hbt := below_trans' (hbt.alloc hbt.size _) hb6; obtain ⟨⟨a0, a1, a2⟩, b0, b1, b2, b3, b4, b5, b6, b7, b8, b9, b10, b11, b12, b13, b14⟩ := hM.cells)))
      go_ret
      exact ⟨rfl, hbt⟩
  · have hz : (n1 + n2 == 0) = false := by rw [beq_eq_false_iff_ne]; omega
    rw [decide_eq_false h1] at g4 g5
    clear h1 b1 b2 hE
    go_enter Tryz.func12, Tryz.ntmps12
    go_wp2_with (first
      | (go_at_call 18; refine (HA.out _ _).mono ?_; rintro e w1 ⟨rfl, hb1⟩; have hM := HM.out.later hb1; have hbt := below_trans' (below_two _ _ _) hb1; obtain ⟨⟨a0, a1, a2⟩, b0, b1, b2, b3, b4, b5, b6, b7, b8, b9, b10, b11, b12, b13, b14⟩ := hM.cells)
      | (go_at_call 19; refine (brief_any _ _).mono ?_; rintro e w2 ⟨rfl, rfl⟩)
      | (go_at_call 54; ((with_reducible refine (HL.out _ hbt).mono ?_); rintro e w3 ⟨rfl, hb3⟩; have hM := hM.later hb3; have hbt := below_trans' hbt hb3; obtain ⟨⟨a0, a1, a2⟩, b0, b1, b2, b3, b4, b5, b6, b7, b8, b9, b10, b11, b12, b13, b14⟩ := hM.cells))
      | (go_at_call 20; refine (HC.out _).mono ?_; rintro e w4 ⟨rfl, hb4⟩; have hM := hM.later hb4; have hbt := below_trans' hbt hb4; obtain ⟨⟨a0, a1, a2⟩, b0, b1, b2, b3, b4, b5, b6, b7, b8, b9, b10, b11, b12, b13, b14⟩ := hM.cells)
      | (go_at_call 52; refine (HX.out _ hbt).mono ?_; rintro e w5 ⟨rfl, hb5⟩; have hM := hM.later hb5; have lt0 := hM.1.lt; have lt1 := hM.2.lt; have ne0 := Nat.ne_of_gt lt0; have ne1 := Nat.ne_of_gt lt1; have hbt := below_trans' hbt hb5; obtain ⟨⟨a0, a1, a2⟩, b0, b1, b2, b3, b4, b5, b6, b7, b8, b9, b10, b11, b12, b13, b14⟩ := hM.cells)
      | (go_at_call 54; ((with_reducible refine (HL2.out _ (hbt.alloc hbt.size _)).mono ?_); rintro e w6 ⟨rfl, hb6⟩; have hM := (hM.later (below_alloc0 _)).later hb6; have hbt := below_trans' (hbt.alloc hbt.size _) hb6; obtain ⟨⟨a0, a1, a2⟩, b0, b1, b2, b3, b4, b5, b6, b7, b8, b9, b10, b11, b12, b13, b14⟩ := hM.cells)))
    go_ret
    exact ⟨rfl, hbt⟩

theorem Exact_any (o1 o2 o3 : Bool) (c : ByteArray) (r s z nu kh m mi : Int) (c' : ByteArray) (r2 s2 z2 r' s' z' : Int) (w : World) (hP : Pow w) :
    Calls Tryz.prog 12 #[.agg #[.bool o1, .bool o2, .bool o3], .agg #[.string c, .int .i64 r, .int .i64 s, .int .i64 z, .int .i64 nu, .int .i64 kh, .int .i64 m, .int .i64 mi, .string c', .int .i64 r2, .int .i64 s2, .int .i64 z2, .int .i64 r', .int .i64 s', .int .i64 z']] w fun e w' =>
      e = .returned (.bool true) ∧ Below w.heap.size w w' := by
  by_cases hl : c.size ≤ 200 ∧ c'.size ≤ 200
  · by_cases he : clE o1 o2 o3 m c c' r s z r' s' z' = 0
    · exact Exact_ok o1 o2 o3 c r s z nu kh m mi c' r2 s2 z2 r' s' z' w hP hl he
    · exact Exact_no o1 o2 o3 c r s z nu kh m mi c' r2 s2 z2 r' s' z' w hP hl he
  · exact Exact_long o1 o2 o3 c r s z nu kh m mi c' r2 s2 z2 r' s' z' w hP hl
end Go.Proofs.YtgcddjgkieambaaGreatDoor
