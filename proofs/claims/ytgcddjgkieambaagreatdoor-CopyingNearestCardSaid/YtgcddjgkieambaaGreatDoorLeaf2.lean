/- The walks of the leaves, second part: Code, Family, and the costs of a mode as a value. -/
import Derived.Test.YtgcddjgkieambaaGreatDoorLeaf
set_option linter.unusedVariables false
set_option linter.unusedSimpArgs false
namespace Go.Proofs.YtgcddjgkieambaaGreatDoor
open Go.RowKit

theorem field96_0 (s : ByteArray) (n : Int) (w : World) : (Instr.field 96 (.agg #[.string s, .int .i64 n]) 0).run Tryz.prog w = .ok (.string s) w := by kernel_rfl
theorem field96_1 (s : ByteArray) (n : Int) (w : World) : (Instr.field 96 (.agg #[.string s, .int .i64 n]) 1).run Tryz.prog w = .ok (.int .i64 n) w := by kernel_rfl

set_option maxRecDepth 100000 in
theorem code_one (c : UInt8) (w : World) (h : 0 ≤ Cm.ixc c) : Calls Tryz.prog 35 #[.string ⟨#[c]⟩] w fun e w' => e = .returned (.tuple #[.string (Cm.codeB (Cm.ixc c).toNat), .int .i64 0]) ∧ Below w.heap.size w w' := by
  have hb := Cm.ixc_bd c
  have hi := sent_at (Cm.ixc c) h (by omega)
  have hd : decide (0 ≤ Cm.ixc c) = true := by simpa using h
  have f0 := field96_0
  have f1 := field96_1
  go_enter Tryz.func35, Tryz.ntmps35
  go_wp2_with (first | (go_at_call 84; refine (index_one _ _).mono ?_; rintro e w' ⟨rfl, rfl⟩) | (go_at_call 85; refine (table_any _).mono ?_; rintro e w1 ⟨rfl, hb1⟩))
  go_ret2
  exact ⟨rfl, by assumption⟩
set_option maxRecDepth 100000 in
theorem family_one (c : UInt8) (w : World) (h : 0 ≤ Cm.ixc c) : Calls Tryz.prog 36 #[.string ⟨#[c]⟩] w fun e w' => e = .returned (.tuple #[.int .i64 (Cm.famZ (Cm.ixc c).toNat), .int .i64 0]) ∧ Below w.heap.size w w' := by
  have hb := Cm.ixc_bd c
  have hi := sent_at (Cm.ixc c) h (by omega)
  have hd : decide (0 ≤ Cm.ixc c) = true := by simpa using h
  have f0 := field96_0
  have f1 := field96_1
  go_enter Tryz.func36, Tryz.ntmps36
  go_wp2_with (first | (go_at_call 84; refine (index_one _ _).mono ?_; rintro e w' ⟨rfl, rfl⟩) | (go_at_call 85; refine (table_any _).mono ?_; rintro e w1 ⟨rfl, hb1⟩))
  go_ret2
  exact ⟨rfl, by assumption⟩

/-- A text that is no character. -/
def NoChar (s : ByteArray) : Prop := ∀ c, s = ⟨#[c]⟩ → Cm.ixc c < 0
theorem index_no (s : ByteArray) (w : World) (h : NoChar s) (hs : s.size ≤ 9223372036854775807) : Calls Tryz.prog 84 #[.string s] w fun e w' => (∃ z : Int, e = .returned (.tuple #[.int .i64 z, .bool false])) ∧ w = w' := by
  by_cases h1 : s.size = 1
  · obtain ⟨c, rfl⟩ := data_of_one h1
    have hc := h c rfl
    refine (index_one c w).mono fun e w' ⟨he, hw⟩ => ⟨⟨Cm.ixc c, ?_⟩, hw⟩
    rw [he, decide_eq_false (by omega)]
  · exact (index_bad s w h1 hs).mono fun e w' ⟨he, hw⟩ => ⟨⟨_, he⟩, hw⟩
theorem code_no (s : ByteArray) (w : World) (h : NoChar s) (hs : s.size ≤ 9223372036854775807) : Calls Tryz.prog 35 #[.string s] w fun e w' => e = .returned (.tuple #[.string ⟨#[]⟩, .int .i64 41]) ∧ w = w' := by
  go_enter Tryz.func35, Tryz.ntmps35
  go_wp2_with (go_at_call 84; refine (index_no _ _ h hs).mono ?_; rintro e w' ⟨⟨z, rfl⟩, rfl⟩)
  go_ret2
  exact ⟨rfl, rfl⟩
theorem family_no (s : ByteArray) (w : World) (h : NoChar s) (hs : s.size ≤ 9223372036854775807) : Calls Tryz.prog 36 #[.string s] w fun e w' => e = .returned (.tuple #[.int .i64 0, .int .i64 41]) ∧ w = w' := by
  go_enter Tryz.func36, Tryz.ntmps36
  go_wp2_with (go_at_call 84; refine (index_no _ _ h hs).mono ?_; rintro e w' ⟨⟨z, rfl⟩, rfl⟩)
  go_ret2
  exact ⟨rfl, rfl⟩

/-- The value of the costs of a mode. -/
def WaysV (w : World) (mode : Int) (v : Value) : Prop :=
  (mode = 1 ∧ ∃ b, v = .iface 130 (.pointer (some ⟨b, 0, none⟩)) ∧ Blk w b 132 Cm.sents) ∨
  (mode = 2 ∧ ∃ b, v = .iface 133 (.pointer (some ⟨b, 0, none⟩)) ∧ Blk w b 134 Cm.sents) ∨ (mode = 3 ∧ v = .iface 136 (.agg #[]))
theorem WaysV.later {w w' : World} {mode : Int} {v : Value} (h : WaysV w mode v) (hb : Below w.heap.size w w') : WaysV w' mode v := by
  rcases h with ⟨h, b, e, k⟩ | ⟨h, b, e, k⟩ | h
  · exact .inl ⟨h, b, e, k.later hb⟩
  · exact .inr (.inl ⟨h, b, e, k.later hb⟩)
  · exact .inr (.inr h)

theorem waysOf_1 (w : World) : Calls Tryz.prog 87 #[.int .i64 1] w fun e w' => ∃ v, e = .returned (.tuple #[v, .bool true]) ∧ WaysV w' 1 v ∧ Below w.heap.size w w' := by
  go_enter Tryz.func87, Tryz.ntmps87
  go_wp2_with (first | (refine wpList_build_known rfl 132 _ rfl Cm.sents (by kernel_rfl) ?_) | (go_at_call 85; refine (table_any _).mono ?_; rintro e w1 ⟨rfl, hb1⟩))
  go_ret2
  exact ⟨_, rfl, .inl ⟨rfl, _, rfl, Blk.new _ _ _⟩, (by assumption : Below w.heap.size w _).alloc (Below.size (by assumption)) _⟩
theorem waysOf_2 (w : World) : Calls Tryz.prog 87 #[.int .i64 2] w fun e w' => ∃ v, e = .returned (.tuple #[v, .bool true]) ∧ WaysV w' 2 v ∧ Below w.heap.size w w' := by
  go_enter Tryz.func87, Tryz.ntmps87
  go_wp2_with (first | (refine wpList_build_known rfl 134 _ rfl Cm.sents (by kernel_rfl) ?_) | (go_at_call 85; refine (table_any _).mono ?_; rintro e w1 ⟨rfl, hb1⟩))
  go_ret2
  exact ⟨_, rfl, .inr (.inl ⟨rfl, _, rfl, Blk.new _ _ _⟩), (by assumption : Below w.heap.size w _).alloc (Below.size (by assumption)) _⟩
theorem waysOf_3 (w : World) : Calls Tryz.prog 87 #[.int .i64 3] w fun e w' => ∃ v, e = .returned (.tuple #[v, .bool true]) ∧ WaysV w' 3 v ∧ Below w.heap.size w w' := by
  go_enter Tryz.func87, Tryz.ntmps87
  go_wp2
  go_ret2
  exact ⟨_, rfl, .inr (.inr ⟨rfl, rfl⟩), Below.refl _ _⟩

/-- Is there such a mode? -/
def isMode (m : Int) : Prop := m = 1 ∨ m = 2 ∨ m = 3
theorem waysOf_ok (m : Int) (w : World) (h : isMode m) : Calls Tryz.prog 87 #[.int .i64 m] w fun e w' => ∃ v, e = .returned (.tuple #[v, .bool true]) ∧ WaysV w' m v ∧ Below w.heap.size w w' := by
  rcases h with rfl | rfl | rfl
  · exact waysOf_1 w
  · exact waysOf_2 w
  · exact waysOf_3 w
theorem waysOf_no (m : Int) (w : World) (h : ¬ isMode m) : Calls Tryz.prog 87 #[.int .i64 m] w fun e w' => e = .returned (.tuple #[.nilIface, .bool false]) ∧ w = w' := by
  have h1 : (m == 1) = false := by simp only [beq_eq_false_iff_ne]; exact fun e => h (.inl e)
  have h2 : (m == 2) = false := by simp only [beq_eq_false_iff_ne]; exact fun e => h (.inr (.inl e))
  have h3 : (m == 3) = false := by simp only [beq_eq_false_iff_ne]; exact fun e => h (.inr (.inr e))
  go_enter Tryz.func87, Tryz.ntmps87
  go_wp2
  go_ret2
  exact ⟨rfl, rfl⟩
end Go.Proofs.YtgcddjgkieambaaGreatDoor
