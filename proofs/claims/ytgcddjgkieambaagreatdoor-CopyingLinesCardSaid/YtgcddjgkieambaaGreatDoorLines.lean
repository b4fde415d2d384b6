/- CopyingLines: the walk of the statement's function. -/
import Derived.Test.YtgcddjgkieambaaGreatDoorLinB
import Derived.Test.YtgcddjgkieambaaGreatDoorExact
set_option linter.unusedVariables false
set_option linter.unusedSimpArgs false
namespace Go.Proofs.YtgcddjgkieambaaGreatDoor
open Go.RowKit

set_option maxRecDepth 100000 in
set_option maxHeartbeats 8000000 in
theorem Lines_long (o1 o2 o3 : Bool) (c : ByteArray) (r s z nu kh m mi : Int) (c' : ByteArray) (r2 s2 z2 r' s' z' : Int) (w : World) (hP : Pow w) (hl : ¬ (c.size ≤ 200 ∧ c'.size ≤ 200)) :
    Calls Tryz.prog 11 #[.agg #[.bool o1, .bool o2, .bool o3], .agg #[.string c, .int .i64 r, .int .i64 s, .int .i64 z, .int .i64 nu, .int .i64 kh, .int .i64 m, .int .i64 mi, .string c', .int .i64 r2, .int .i64 s2, .int .i64 z2, .int .i64 r', .int .i64 s', .int .i64 z']] w fun e w' =>
      e = .returned (.bool true) ∧ Below w.heap.size w w' := by
  have HM := Lib.hid (SnMem.new w o1 o2 o3 c r s z nu kh m mi c' r2 s2 z2 r' s' z')
  have HA := Lib.hid (fun o o' => awake_any ((w.alloc o).alloc o') (hP.later (below_two _ _ _)))
  clear hP
  by_cases h1 : c.size ≤ 200
  · have d1 : decide ((c.size : Int) ≤ 200) = true := by simp; omega
    have d2 : decide ((c'.size : Int) ≤ 200) = false := by simp; omega
    clear hl h1
    go_enter Tryz.func11, Tryz.ntmps11
    go_wp2_with (first
      | (go_at_call 18; refine (HA.out _ _).mono ?_; rintro e w1 ⟨rfl, hb1⟩; have hM := HM.out.later hb1; have hbt := below_trans' (below_two _ _ _) hb1; obtain ⟨⟨a0, a1, a2⟩, b0, b1, b2, b3, b4, b5, b6, b7, b8, b9, b10, b11, b12, b13, b14⟩ := hM.cells)
      | (go_at_call 19; refine (brief_any _ _).mono ?_; rintro e w2 ⟨rfl, rfl⟩))
    go_ret
    exact ⟨rfl, hbt⟩
  · have d1 : decide ((c.size : Int) ≤ 200) = false := by simp; omega
    clear hl h1
    go_enter Tryz.func11, Tryz.ntmps11
    go_wp2_with (first
      | (go_at_call 18; refine (HA.out _ _).mono ?_; rintro e w1 ⟨rfl, hb1⟩; have hM := HM.out.later hb1; have hbt := below_trans' (below_two _ _ _) hb1; obtain ⟨⟨a0, a1, a2⟩, b0, b1, b2, b3, b4, b5, b6, b7, b8, b9, b10, b11, b12, b13, b14⟩ := hM.cells)
      | (go_at_call 19; refine (brief_any _ _).mono ?_; rintro e w2 ⟨rfl, rfl⟩))
    go_ret
    exact ⟨rfl, hbt⟩

set_option maxRecDepth 100000 in
set_option maxHeartbeats 8000000 in
theorem Lines_ok (o1 o2 o3 : Bool) (c : ByteArray) (r s z nu kh m mi : Int) (c' : ByteArray) (r2 s2 z2 r' s' z' : Int) (w : World) (hP : Pow w) (hl : c.size ≤ 200 ∧ c'.size ≤ 200) :
    Calls Tryz.prog 11 #[.agg #[.bool o1, .bool o2, .bool o3], .agg #[.string c, .int .i64 r, .int .i64 s, .int .i64 z, .int .i64 nu, .int .i64 kh, .int .i64 m, .int .i64 mi, .string c', .int .i64 r2, .int .i64 s2, .int .i64 z2, .int .i64 r', .int .i64 s', .int .i64 z']] w fun e w' =>
      e = .returned (.bool true) ∧ Below w.heap.size w w' := by
  have HM := Lib.hid (SnMem.new w o1 o2 o3 c r s z nu kh m mi c' r2 s2 z2 r' s' z')
  have HA := Lib.hid (fun o o' => awake_any ((w.alloc o).alloc o') (hP.later (below_two _ _ _)))
  have HX := Lib.hid (fun W (hb : Below w.heap.size w W) => CopyExchange_any o1 o2 o3 m r s z r' s' z' W (hP.later hb))
  have HY := Lib.hid (fun W (hb : Below w.heap.size w W) => refCopyExchange_any o1 o2 o3 m r s z r' s' z' W (hP.later hb))
  have HL := Lib.hid (fun W (hb : Below w.heap.size w W) => CopyLine_any o1 o2 o3 c r s z nu kh m mi c' r2 s2 z2 r' s' z' W (hP.later hb))
  have HK := Lib.hid (fun W (hb : Below w.heap.size w W) => refCopyLine_any o1 o2 o3 c r s z nu kh m mi c' r2 s2 z2 r' s' z' W (hP.later hb))
  generalize cxC o1 o2 o3 m r s z r' s' z' = n1 at HX HY
  generalize cxE o1 o2 o3 m r s z r' s' z' = n2 at HX HY
  generalize clC o1 o2 o3 m c c' r s z r' s' z' = n3 at HL HK
  generalize clE o1 o2 o3 m c c' r s z r' s' z' = n4 at HL HK
  have d1 : decide ((c.size : Int) ≤ 200) = true := by simp; omega
  have d2 : decide ((c'.size : Int) ≤ 200) = true := by simp; omega
  clear hP hl
  go_enter Tryz.func11, Tryz.ntmps11
  go_wp2_with (first
    | (go_at_call 18; refine (HA.out _ _).mono ?_; rintro e w1 ⟨rfl, hb1⟩; have hM := HM.out.later hb1; have hbt := below_trans' (below_two _ _ _) hb1; obtain ⟨⟨a0, a1, a2⟩, b0, b1, b2, b3, b4, b5, b6, b7, b8, b9, b10, b11, b12, b13, b14⟩ := hM.cells)
    | (go_at_call 19; refine (brief_any _ _).mono ?_; rintro e w2 ⟨rfl, rfl⟩)
    | (go_at_call 52; refine (HX.out _ hbt).mono ?_; rintro e w3 ⟨rfl, hb3⟩; have hM := hM.later hb3; have hbt := below_trans' hbt hb3; obtain ⟨⟨a0, a1, a2⟩, b0, b1, b2, b3, b4, b5, b6, b7, b8, b9, b10, b11, b12, b13, b14⟩ := hM.cells)
    | (go_at_call 53; refine (HY.out _ hbt).mono ?_; rintro e w4 ⟨rfl, hb4⟩; have hM := hM.later hb4; have hbt := below_trans' hbt hb4; obtain ⟨⟨a0, a1, a2⟩, b0, b1, b2, b3, b4, b5, b6, b7, b8, b9, b10, b11, b12, b13, b14⟩ := hM.cells)
    | (go_at_call 54; refine (HL.out _ hbt).mono ?_; rintro e w5 ⟨rfl, hb5⟩; have hM := hM.later hb5; have hbt := below_trans' hbt hb5; obtain ⟨⟨a0, a1, a2⟩, b0, b1, b2, b3, b4, b5, b6, b7, b8, b9, b10, b11, b12, b13, b14⟩ := hM.cells)
    | (go_at_call 55; refine (HK.out _ hbt).mono ?_; rintro e w6 ⟨rfl, hb6⟩; have hM := hM.later hb6; have hbt := below_trans' hbt hb6; obtain ⟨⟨a0, a1, a2⟩, b0, b1, b2, b3, b4, b5, b6, b7, b8, b9, b10, b11, b12, b13, b14⟩ := hM.cells))
  go_ret
  exact ⟨by simp, hbt⟩

theorem Lines_any (o1 o2 o3 : Bool) (c : ByteArray) (r s z nu kh m mi : Int) (c' : ByteArray) (r2 s2 z2 r' s' z' : Int) (w : World) (hP : Pow w) :
    Calls Tryz.prog 11 #[.agg #[.bool o1, .bool o2, .bool o3], .agg #[.string c, .int .i64 r, .int .i64 s, .int .i64 z, .int .i64 nu, .int .i64 kh, .int .i64 m, .int .i64 mi, .string c', .int .i64 r2, .int .i64 s2, .int .i64 z2, .int .i64 r', .int .i64 s', .int .i64 z']] w fun e w' =>
      e = .returned (.bool true) ∧ Below w.heap.size w w' := by
  by_cases hl : c.size ≤ 200 ∧ c'.size ≤ 200
  · exact Lines_ok o1 o2 o3 c r s z nu kh m mi c' r2 s2 z2 r' s' z' w hP hl
  · exact Lines_long o1 o2 o3 c r s z nu kh m mi c' r2 s2 z2 r' s' z' w hP hl
end Go.Proofs.YtgcddjgkieambaaGreatDoor
