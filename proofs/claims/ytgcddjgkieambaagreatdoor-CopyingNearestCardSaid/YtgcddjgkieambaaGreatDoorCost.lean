/- The walks of 'Cost' and 'Table'. -/
import Derived.Test.YtgcddjgkieambaaGreatDoorHearing
set_option linter.unusedVariables false
set_option linter.unusedSimpArgs false
namespace Go.Proofs.YtgcddjgkieambaaGreatDoor
open Go.RowKit

theorem errOf_cases (m : Int) (s h : ByteArray) :
    (errOf m s h = 40 ∧ ¬ isMode m) ∨ (errOf m s h = 2 ∧ isMode m ∧ (64 < s.size ∨ 64 < h.size)) ∨ (errOf m s h = 41 ∧ isMode m ∧ s.size ≤ 64 ∧ h.size ≤ 64 ∧ ¬ (allChars s ∧ allChars h)) ∨
      (errOf m s h = 0 ∧ isMode m ∧ s.size ≤ 64 ∧ h.size ≤ 64 ∧ allChars s ∧ allChars h) := by
  unfold errOf
  by_cases h1 : m = 1 ∨ m = 2 ∨ m = 3
  · by_cases h2 : 64 < s.size ∨ 64 < h.size
    · exact .inr (.inl ⟨by simp [h1, h2], h1, h2⟩)
    · by_cases h3 : okText s = true ∧ okText h = true
      · exact .inr (.inr (.inr ⟨by simp [h1, h2, h3], h1, by omega, by omega, (okText_iff s).1 h3.1, (okText_iff h).1 h3.2⟩))
      · exact .inr (.inr (.inl ⟨by simp [h1, h2, h3], h1, by omega, by omega, fun ⟨a, b⟩ => h3 ⟨(okText_iff s).2 a, (okText_iff h).2 b⟩⟩))
  · exact .inl ⟨by simp [h1], h1⟩

theorem hearing_no (m : Int) (s h : ByteArray) (w : World) (he : errOf m s h ≠ 0) :
    Calls Tryz.prog 64 #[.int .i64 m, .string s, .string h] w fun e w' => e = .returned (.tuple #[zeroHeard, .int .i64 (errOf m s h)]) ∧ Below w.heap.size w w' := by
  rcases errOf_cases m s h with ⟨e, hm⟩ | ⟨e, hm, hl⟩ | ⟨e, hm, l1, l2, hc⟩ | ⟨e, _⟩
  · rw [e]; exact hearing_mode m s h w hm
  · rw [e]
    refine hearing_err m s h w hm 2 (.inl rfl) fun W b c hS => (indices_long b c [s, h] W (by simp) hS ?_).mono fun e w' ⟨he, hw⟩ => ⟨he, hw ▸ Below.refl _ _⟩
    rcases hl with hl | hl
    · exact ⟨s, by simp, hl⟩
    · exact ⟨h, by simp, hl⟩
  · rw [e]
    refine hearing_err m s h w hm 41 (.inr rfl) fun W b c hS => (indices_short b c [s, h] W (by simp) hS (fun j hj => by
      match j, hj with
      | 0, _ => exact l1
      | 1, _ => exact l2)).mono fun e w' ⟨ho, hb⟩ => ?_
    rcases ho with ⟨hall, _⟩ | ⟨_, he⟩
    · exact absurd ⟨hall 0 (by simp), hall 1 (by simp)⟩ hc
    · exact ⟨he, hb⟩
  · exact absurd e he

/-- What it costs to hear a text for another one. -/
def costOf (m : Int) (s h : ByteArray) : Int := if errOf m s h = 0 then Cm.T (Cm.missC m) (Cm.extraC m) (atC m (row s) (row h)) s.size h.size else 0

set_option maxRecDepth 100000 in
set_option maxHeartbeats 1000000 in
theorem Cost_no (m : Int) (s h : ByteArray) (w : World) (he : errOf m s h ≠ 0) :
    Calls Tryz.prog 20 #[.int .i64 m, .string s, .string h] w fun e w' => e = .returned (.tuple #[.int .i64 0, .int .i64 (errOf m s h)]) ∧ Below w.heap.size w w' := by
  have hc := fun W => hearing_no m s h W he
  obtain ⟨er, her⟩ : ∃ er, er = errOf m s h := ⟨_, rfl⟩
  rw [← her] at hc he ⊢
  have h0 : (er != 0) = true := by simpa using he
  have HC := Lib.hid hc
  clear hc her he
  unfold zeroHeard at HC
  go_enter Tryz.func20, Tryz.ntmps20
  go_wp2_with (first | (go_at_call 64; refine (HC.out _).mono ?_; rintro e w1 ⟨rfl, hb1⟩))
  go_ret2
  exact ⟨rfl, (hb1.alloc hb1.size _)⟩

set_option maxRecDepth 100000 in
set_option maxHeartbeats 1000000 in
theorem Cost_ok (m : Int) (s h : ByteArray) (w : World) (he : errOf m s h = 0) :
    Calls Tryz.prog 20 #[.int .i64 m, .string s, .string h] w fun e w' => e = .returned (.tuple #[.int .i64 (costOf m s h), .int .i64 0]) ∧ Below w.heap.size w w' := by
  have hco : costOf m s h = Cm.T (Cm.missC m) (Cm.extraC m) (atC m (row s) (row h)) (row s).length (row h).length := by rw [costOf, if_pos he, row_length, row_length]
  rw [hco]
  rcases errOf_cases m s h with ⟨e, _⟩ | ⟨e, _⟩ | ⟨e, _⟩ | ⟨_, hm, l1, l2, c1, c2⟩
  · omega
  · omega
  · omega
  clear he hco
  go_enter Tryz.func20, Tryz.ntmps20
  go_wp2_with (first | (go_at_call 64; refine (hearing_ok m s h _ hm l1 l2 c1 c2).mono ?_; rintro e w1 ⟨T, x, A, B, ca, cb, rfl, hH, hb1⟩) | (go_at_call 65; refine (cost_heard m T x A B _ _ ca cb _ _ _ (hH.later (below_alloc0 _))).mono ?_; rintro e w2 ⟨rfl, hb2⟩))
  go_ret2
  exact ⟨rfl, below_trans' (hb1.alloc hb1.size _) hb2⟩

/-- 'Cost', whatever the texts. -/
theorem Cost_any (m : Int) (s h : ByteArray) (w : World) :
    Calls Tryz.prog 20 #[.int .i64 m, .string s, .string h] w fun e w' => e = .returned (.tuple #[.int .i64 (costOf m s h), .int .i64 (errOf m s h)]) ∧ Below w.heap.size w w' := by
  by_cases he : errOf m s h = 0
  · rw [he]; exact Cost_ok m s h w he
  · rw [costOf, if_neg he]; exact Cost_no m s h w he

set_option maxRecDepth 100000 in
set_option maxHeartbeats 1000000 in
theorem Table_no (m : Int) (s h : ByteArray) (w : World) (he : errOf m s h ≠ 0) :
    Calls Tryz.prog 24 #[.int .i64 m, .string s, .string h] w fun e w' => e = .returned (.tuple #[.slice none 0 0, .int .i64 (errOf m s h)]) ∧ Below w.heap.size w w' := by
  have hc := fun W => hearing_no m s h W he
  obtain ⟨er, her⟩ : ∃ er, er = errOf m s h := ⟨_, rfl⟩
  rw [← her] at hc he ⊢
  have h0 : (er != 0) = true := by simpa using he
  have HC := Lib.hid hc
  clear hc her he
  unfold zeroHeard at HC
  go_enter Tryz.func24, Tryz.ntmps24
  go_wp2_with (first | (go_at_call 64; refine (HC.out _).mono ?_; rintro e w1 ⟨rfl, hb1⟩))
  go_ret2
  exact ⟨rfl, (hb1.alloc hb1.size _)⟩

set_option maxRecDepth 100000 in
set_option maxHeartbeats 1000000 in
theorem Table_ok (m : Int) (s h : ByteArray) (w : World) (he : errOf m s h = 0) :
    Calls Tryz.prog 24 #[.int .i64 m, .string s, .string h] w fun e w' => ∃ v, e = .returned (.tuple #[v, .int .i64 0]) ∧ Tab w' w.heap.size v (s.size + 1) (h.size + 1) (Cm.T (Cm.missC m) (Cm.extraC m) (atC m (row s) (row h))) ∧ Below w.heap.size w w' := by
  rw [← row_length s, ← row_length h]
  rcases errOf_cases m s h with ⟨e, _⟩ | ⟨e, _⟩ | ⟨e, _⟩ | ⟨_, hm, l1, l2, c1, c2⟩
  · omega
  · omega
  · omega
  clear he
  go_enter Tryz.func24, Tryz.ntmps24
  go_wp2_with (first | (go_at_call 64; refine (hearing_ok m s h _ hm l1 l2 c1 c2).mono ?_; rintro e w1 ⟨T, x, A, B, ca, cb, rfl, hH, hb1⟩) | (go_at_call 67; refine (table_heard m T x A B _ _ ca cb _ _ _ (hH.later (below_alloc0 _))).mono ?_; rintro e w2 ⟨v, rfl, hT, hb2⟩))
  go_ret2
  exact ⟨_, rfl, hT.less (by have := (hb1.alloc hb1.size (Obj.cells #[.iface T x, .slice A s.size ca, .slice B h.size cb] 75)).size; exact this), below_trans' (hb1.alloc hb1.size _) hb2⟩
end Go.Proofs.YtgcddjgkieambaaGreatDoor
