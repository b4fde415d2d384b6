/- The walks of the reference's 'Cost' and 'Table'. -/
import Derived.Test.YtgcddjgkieambaaGreatDoorRefE
set_option linter.unusedVariables false
set_option linter.unusedSimpArgs false
namespace Go.Proofs.YtgcddjgkieambaaGreatDoor
open Go.RowKit

set_option maxRecDepth 100000 in
set_option maxHeartbeats 1000000 in
theorem refCost_no (m : Int) (s h : ByteArray) (w : World) (he : errOf m s h ≠ 0) :
    Calls Tryz.prog 22 #[.int .i64 m, .string s, .string h] w fun e w' => e = .returned (.tuple #[.int .i64 0, .int .i64 (errOf m s h)]) ∧ Below w.heap.size w w' := by
  have HT := Lib.hid (fun W => ref_texts m s h W)
  obtain ⟨er, her⟩ : ∃ er, er = errOf m s h := ⟨_, rfl⟩
  rw [← her] at HT he ⊢
  have h0 : (er != 0) = true := by simpa using he
  clear he her
  go_enter Tryz.func22, Tryz.ntmps22
  go_wp2_with (go_at_call 70; refine (HT.out _).mono ?_; rintro e w1 ⟨rfl, hb1⟩)
  go_ret2
  exact ⟨rfl, hb1⟩

set_option maxRecDepth 100000 in
set_option maxHeartbeats 4000000 in
theorem refCost_ok (m : Int) (s h : ByteArray) (w : World) (he : errOf m s h = 0) :
    Calls Tryz.prog 22 #[.int .i64 m, .string s, .string h] w fun e w' => e = .returned (.tuple #[.int .i64 (costOf m s h), .int .i64 0]) ∧ Below w.heap.size w w' := by
  have hco : costOf m s h = Cm.T (Cm.missC m) (Cm.extraC m) (atC m (row s) (row h)) s.size h.size := by rw [costOf, if_pos he]
  rw [hco]
  have HT := Lib.hid (fun W => ref_texts m s h W)
  rw [he] at HT
  have HB := Lib.hid (fun W => ref_table m s h W he)
  obtain ⟨_, l1, l2, _, _⟩ := errOf_okR he
  obtain ⟨f, hf⟩ : ∃ f, f = Cm.T (Cm.missC m) (Cm.extraC m) (atC m (row s) (row h)) := ⟨_, rfl⟩
  rw [← hf] at HB ⊢
  have p1 : (s.size : Int) < (s.size : Int) + 1 := by omega
  have p2 : (h.size : Int) < (h.size : Int) + 1 := by omega
  clear hf hco he
  go_enter Tryz.func22, Tryz.ntmps22
  go_wp2_with (first
    | (go_at_call 70; refine (HT.out _).mono ?_; rintro e w1 ⟨rfl, hb1⟩)
    | (go_at_call 71; refine (HB.out _).mono ?_; rintro e w2 ⟨v, rfl, ⟨g, r, rfl, hg0, hg, hr⟩, hb2⟩; have cg := hg.cell (k := s.size) (by omega); have cr := (hr s.size (by omega)).2.cell (k := h.size) (by omega)))
  go_ret2
  exact ⟨rfl, below_trans' hb1 hb2⟩
theorem refCost_any (m : Int) (s h : ByteArray) (w : World) :
    Calls Tryz.prog 22 #[.int .i64 m, .string s, .string h] w fun e w' => e = .returned (.tuple #[.int .i64 (costOf m s h), .int .i64 (errOf m s h)]) ∧ Below w.heap.size w w' := by
  by_cases he : errOf m s h = 0
  · rw [he]; exact refCost_ok m s h w he
  · rw [costOf, if_neg he]; exact refCost_no m s h w he

set_option maxRecDepth 100000 in
set_option maxHeartbeats 1000000 in
theorem refTable_no (m : Int) (s h : ByteArray) (w : World) (he : errOf m s h ≠ 0) :
    Calls Tryz.prog 25 #[.int .i64 m, .string s, .string h] w fun e w' => e = .returned (.tuple #[.slice none 0 0, .int .i64 (errOf m s h)]) ∧ Below w.heap.size w w' := by
  have HT := Lib.hid (fun W => ref_texts m s h W)
  obtain ⟨er, her⟩ : ∃ er, er = errOf m s h := ⟨_, rfl⟩
  rw [← her] at HT he ⊢
  have h0 : (er != 0) = true := by simpa using he
  clear he her
  go_enter Tryz.func25, Tryz.ntmps25
  go_wp2_with (go_at_call 70; refine (HT.out _).mono ?_; rintro e w1 ⟨rfl, hb1⟩)
  go_ret2
  exact ⟨rfl, hb1⟩
set_option maxRecDepth 100000 in
set_option maxHeartbeats 4000000 in
theorem refTable_ok (m : Int) (s h : ByteArray) (w : World) (he : errOf m s h = 0) :
    Calls Tryz.prog 25 #[.int .i64 m, .string s, .string h] w fun e w' => ∃ v, e = .returned (.tuple #[v, .int .i64 0]) ∧ Tab w' w.heap.size v (s.size + 1) (h.size + 1) (Cm.T (Cm.missC m) (Cm.extraC m) (atC m (row s) (row h))) ∧ Below w.heap.size w w' := by
  have HT := Lib.hid (fun W => ref_texts m s h W)
  rw [he] at HT
  have HB := Lib.hid (fun W => ref_table m s h W he)
  obtain ⟨f, hf⟩ : ∃ f, f = Cm.T (Cm.missC m) (Cm.extraC m) (atC m (row s) (row h)) := ⟨_, rfl⟩
  rw [← hf] at HB ⊢
  clear hf he
  go_enter Tryz.func25, Tryz.ntmps25
  go_wp2_with (first
    | (go_at_call 70; refine (HT.out _).mono ?_; rintro e w1 ⟨rfl, hb1⟩)
    | (go_at_call 71; refine (HB.out _).mono ?_; rintro e w2 ⟨v, rfl, hT, hb2⟩))
  go_ret2
  exact ⟨_, rfl, hT.less hb1.size, below_trans' hb1 hb2⟩
end Go.Proofs.YtgcddjgkieambaaGreatDoor
