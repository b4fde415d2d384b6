/- The walk of the reference's 'CheckTable'. Printed by proc.py. -/
import Derived.Test.YtgcddjgkieambaaGreatDoorWitP
import Derived.Test.YtgcddjgkieambaaGreatDoorProB
import Derived.Test.YtgcddjgkieambaaGreatDoorRefG
import Derived.Test.YtgcddjgkieambaaGreatDoorApartP
set_option linter.unusedVariables false
set_option linter.unusedSimpArgs false
namespace Go.Proofs.YtgcddjgkieambaaGreatDoor
open Go.RowKit

set_option maxRecDepth 100000 in
set_option maxHeartbeats 1000000 in
theorem refCkTb_no (m : Int) (s h : ByteArray) (v : Value) (w : World) (he : errOf m s h ≠ 0) :
    Calls Tryz.prog 51 #[.int .i64 m, .string s, .string h, v] w fun e w' => e = .returned (.tuple #[.int .i64 0, .int .i64 (errOf m s h)]) ∧ Below w.heap.size w w' := by
  have HT := Lib.hid (fun W => ref_texts m s h W)
  obtain ⟨er, her⟩ : ∃ er, er = errOf m s h := ⟨_, rfl⟩
  rw [← her] at HT he ⊢
  have h0 : (er != 0) = true := by simpa using he
  clear he her
  go_enter Tryz.func51, Tryz.ntmps51
  go_wp2_with (go_at_call 70; refine (HT.out _).mono ?_; rintro e w1 ⟨rfl, hb1⟩)
  go_ret2
  exact ⟨rfl, hb1⟩
theorem tab_bad {n m : Nat} {at_ : Nat → Nat → Int} {ms ex : Int} {f : Nat → Nat → Int} {i k : Nat} (hi : i ≤ n) (hk : k ≤ m) (h : Cm.cellOk n m at_ ms ex f i k = false) : Cm.tabOk n m at_ ms ex f = false := by
  cases e : Cm.tabOk n m at_ ms ex f
  · rfl
  · rw [((Cm.tabOk_iff f).1 e).2 i hi k hk] at h; cases h
theorem tab_zero {n m : Nat} {at_ : Nat → Nat → Int} {ms ex : Int} {f : Nat → Nat → Int} (h : ¬ f 0 0 = 0) : Cm.tabOk n m at_ ms ex f = false := by
  unfold Cm.tabOk; rw [decide_eq_false h]; rfl

set_option maxRecDepth 100000 in
set_option maxHeartbeats 16000000 in
theorem refCkTb_ok (m : Int) (s h : ByteArray) (R : Option Addr) (cr : Nat) (L : List (List Int)) (w : World) (hS : RowsG w R L) (hl : L.length ≤ 1000000) (he : errOf m s h = 0) :
    Calls Tryz.prog 51 #[.int .i64 m, .string s, .string h, .slice R L.length cr] w fun e w' => e = .returned (.tuple #[.int .i64 (ckN2 m s h L), .int .i64 (ckE2 m s h L)]) ∧ Below w.heap.size w w' := by
  obtain ⟨hm, l1, l2, c1, c2⟩ := errOf_ok he
  have I1 := Lib.hid (fun W => ref_ixok s W (by omega) c1)
  have I2 := Lib.hid (fun W => ref_ixok h W (by omega) c2)
  have HT := Lib.hid (fun W => ref_texts m s h W)
  rw [he] at HT
  have HR1 := Lib.hid (fun j hj => row_lt c1 j hj)
  have HR2 := Lib.hid (fun j hj => row_lt c2 j hj)
  rw [← row_length s] at I1 l1
  rw [← row_length h] at I2 l2
  have hN1 : ckN2 m s h L = (ckTb m (row s) (row h) L).getD 0 := by rw [ckN2, if_neg (fun h => h he)]
  have hE1 : ckE2 m s h L = if (ckTb m (row s) (row h) L).isSome then 0 else 42 := by rw [ckE2, if_neg (fun h => h he)]
  obtain ⟨xs, hxs⟩ : ∃ xs, xs = row s := ⟨_, rfl⟩
  obtain ⟨ys, hys⟩ : ∃ ys, ys = row h := ⟨_, rfl⟩
  rw [← hxs] at I1 l1 HR1 hN1 hE1
  rw [← hys] at I2 l2 HR2 hN1 hE1
  have HN := Lib.hid (tb_law m xs ys L _ _ hN1 hE1)
  obtain ⟨N, hNN⟩ : ∃ N, N = ckN2 m s h L := ⟨_, rfl⟩
  obtain ⟨E, hEE⟩ : ∃ E, E = ckE2 m s h L := ⟨_, rfl⟩
  rw [← hNN, ← hEE] at HN ⊢
  obtain ⟨at_, hat_⟩ : ∃ a, a = Cm.atL m xs ys := ⟨_, rfl⟩
  obtain ⟨ms, hms0⟩ : ∃ a, a = Cm.missC m := ⟨_, rfl⟩
  obtain ⟨ex, hex0⟩ : ∃ a, a = Cm.extraC m := ⟨_, rfl⟩
  rw [← hat_, ← hms0, ← hex0] at HN
  have hmsb : 0 ≤ ms ∧ ms ≤ 10 := by rw [hms0]; exact Cm.missC_bd m
  have hexb : 0 ≤ ex ∧ ex ≤ 10 := by rw [hex0]; exact Cm.extraC_bd m
  have hat : ∀ i k, 0 ≤ at_ i k ∧ at_ i k ≤ 1000 := fun i k => by rw [hat_]; exact Cm.atL_bd
  have HM := Lib.hid (fun W => show Calls Tryz.prog 76 #[.int .i64 m] W fun e w' => e = .returned (.int .i64 (Cm.missC m)) ∧ w' = W from (ref_miss m W).mono fun _ _ h => ⟨h.1, h.2.symm⟩)
  have HE := Lib.hid (fun W => show Calls Tryz.prog 77 #[.int .i64 m] W fun e w' => e = .returned (.int .i64 (Cm.extraC m)) ∧ w' = W from (ref_extra m W).mono fun _ _ h => ⟨h.1, h.2.symm⟩)
  rw [← hms0] at HM
  rw [← hex0] at HE
  have Hat := Lib.hid hat
  have Hat_ := Lib.hid hat_
  have HS := Lib.hid hS
  have Hm := Lib.hid hm
  have HFm := Lib.hid (fun W (hb : Below w.heap.size w W) => formed_any R cr L xs.length ys.length W (hS.later hb) (by omega) (by omega))
  obtain ⟨F, hF⟩ : ∃ F, F = formedB xs.length ys.length L := ⟨_, rfl⟩
  rw [← hF] at HFm HN
  have g0 : IntKind.i64.wrap ((xs.length : Int) + 1) = (xs.length : Int) + 1 := IntWalk.i64_in _ (by omega)
  have g5 : IntKind.i64.wrap ((ys.length : Int) + 1) = (ys.length : Int) + 1 := IntWalk.i64_in _ (by omega)
  clear hxs hys c1 c2 hm hN1 hE1 hNN hEE hS hat_ hms0 hex0 hat he
  cases F
  case false =>
    have Hno := Lib.hid (HN.out.1 rfl)
    clear hF
    go_enter Tryz.func51, Tryz.ntmps51
    go_wp2_with (first
      | (go_at_call 70; refine (HT.out _).mono ?_; rintro e w0 ⟨rfl, hb0⟩)
      | (go_at_call 72; ((with_reducible refine (I1.out _).mono ?_); rintro e w1 ⟨A, ca, rfl, n1, hb1⟩; have hbt := below_trans' hb0 hb1))
      | (go_at_call 72; ((with_reducible refine (I2.out _).mono ?_); rintro e w2 ⟨B, cb, rfl, n2, hb2⟩; have n1 := n1.later hb2; have hbt := below_trans' hbt hb2))
      | (go_at_call 73; refine (ref_codes _).mono ?_; rintro e w3 ⟨rfl, hC, hb3⟩; have n1 := n1.later hb3; have n2 := n2.later hb3; have hbt := below_trans' hbt hb3)
      | (go_at_call 93; refine (HFm.out _ hbt).mono ?_; rintro e w4 ⟨rfl, rfl⟩))
    go_ret2
    exact ⟨by rw [Hno.out.1, Hno.out.2]; rfl, hbt⟩
  have hform : formedB xs.length ys.length L = true := hF.symm
  have HFb := Lib.hid (fun i k hi hk => formed_bd hform (i := i) (k := k) hi hk)
  have HN2 := Lib.hid (HN.out.2 rfl _ rfl)
  have hLl : L.length = xs.length + 1 := by
    unfold formedB at hform; rw [Bool.and_eq_true, decide_eq_true_iff] at hform; exact hform.1
  have hrows : ∀ i, i < L.length → (L.getD i []).length = ys.length + 1 := by
    unfold formedB at hform; rw [Bool.and_eq_true, Bool.and_eq_true] at hform; exact (sized_iff _ L).1 hform.2.1
  have HLen := Lib.hid hLl
  obtain ⟨ga, oa, R00, rr00, rfl, hga, _, _⟩ := HS.out.place (i := 0) (by omega)
  have HrowAt : ∀ wr : World, Below w.heap.size w wr → ∀ i, i < L.length → ∃ (gp op r0 : Nat), wr.cell? ⟨ga, oa + i, none⟩ = some (.slice (some ⟨gp, op, none⟩) (ys.length + 1) r0) ∧ ga < wr.heap.size ∧ gp < wr.heap.size ∧ ∀ k, k < ys.length + 1 → wr.cell? ⟨gp, op + k, none⟩ = some (.int .i64 ((L.getD i []).getD k 0)) := by
    intro wr hbr i hi
    obtain ⟨g', o', R0, r0, ha', hla, hcl, hnu⟩ := (HS.out.later hbr).place hi
    cases ha'
    rw [hrows i hi] at hcl
    obtain ⟨gp, op, rfl, hp0, _⟩ := hnu.place (k := 0) (by rw [hrows i hi]; omega)
    refine ⟨gp, op, r0, hcl, hla, hp0, fun k hk => ?_⟩
    obtain ⟨g2, o2, hp, _, hck⟩ := hnu.place (k := k) (by rw [hrows i hi]; exact hk)
    cases hp
    exact hck
  have HRowAt := Lib.hid HrowAt
  have f0 : (0 : Int) < (L.length : Int) := by omega
  have f0' : 0 < L.length := by omega
  have f0n : L ≠ [] := by intro e; rw [e] at f0'; simp at f0'
  have f1 : (0 : Int) < (ys.length : Int) + 1 := by omega
  obtain ⟨t00, ht00⟩ : ∃ x, x = fL L 0 0 := ⟨_, rfl⟩
  have H00 := Lib.hid (fun (W : World) (hb : Below w.heap.size w W) => show ∃ (gp op r0 : Nat), W.cell? ⟨ga, oa, none⟩ = some (.slice (some ⟨gp, op, none⟩) (ys.length + 1) r0) ∧ W.cell? ⟨gp, op, none⟩ = some (.int .i64 t00) from by
    obtain ⟨gp0, op0, r0, co0, _, lp0, hrow0⟩ := HrowAt W hb 0 (by omega)
    refine ⟨gp0, op0, r0, by simpa using co0, ?_⟩
    have := hrow0 0 (by omega)
    rw [show ((L.getD 0 []).getD 0 0) = fL L 0 0 from rfl, ← ht00] at this
    simpa using this)
  clear HrowAt hrows hga hF hLl
  by_cases h00 : t00 = 0
  case neg =>
    have f2 : (t00 != 0) = true := by simpa using h00
    have Hno := Lib.hid (HN2.out.1 (tab_zero (by rw [← ht00]; exact h00)))
    clear h00 ht00 hform
    go_enter Tryz.func51, Tryz.ntmps51
    go_wp2_with (first
      | (go_at_call 70; refine (HT.out _).mono ?_; rintro e w0 ⟨rfl, hb0⟩)
      | (go_at_call 72; ((with_reducible refine (I1.out _).mono ?_); rintro e w1 ⟨A, ca, rfl, n1, hb1⟩; have hbt := below_trans' hb0 hb1))
      | (go_at_call 72; ((with_reducible refine (I2.out _).mono ?_); rintro e w2 ⟨B, cb, rfl, n2, hb2⟩; have n1 := n1.later hb2; have hbt := below_trans' hbt hb2))
      | (go_at_call 73; refine (ref_codes _).mono ?_; rintro e w3 ⟨rfl, hC, hb3⟩; have n1 := n1.later hb3; have n2 := n2.later hb3; have hbt := below_trans' hbt hb3; obtain ⟨gp, op, r0, k1, k2⟩ := H00.out _ hbt)
      | (go_at_call 93; refine (HFm.out _ hbt).mono ?_; rintro e w4 ⟨rfl, rfl⟩))
    go_ret2
    exact ⟨by rw [Hno.out.1, Hno.out.2]; rfl, hbt⟩
  have f2 : (t00 != 0) = false := by simpa using h00
  have HX0 := Lib.hid (ht00.symm.trans h00)
  clear h00 ht00 hform
  go_enter Tryz.func51, Tryz.ntmps51
  go_wp2_with (first
    | (go_at_call 70; refine (HT.out _).mono ?_; rintro e w0 ⟨rfl, hb0⟩)
    | (go_at_call 72; ((with_reducible refine (I1.out _).mono ?_); rintro e w1 ⟨A, ca, rfl, n1, hb1⟩; have hbt := below_trans' hb0 hb1))
    | (go_at_call 72; ((with_reducible refine (I2.out _).mono ?_); rintro e w2 ⟨B, cb, rfl, n2, hb2⟩; have n1 := n1.later hb2; have hbt := below_trans' hbt hb2))
    | (go_at_call 73; refine (ref_codes _).mono ?_; rintro e w3 ⟨rfl, hC, hb3⟩; have n1 := n1.later hb3; have n2 := n2.later hb3; have hbt := below_trans' hbt hb3; obtain ⟨gp, op, r0, k1, k2⟩ := H00.out _ hbt)
    | (go_at_call 93; refine (HFm.out _ hbt).mono ?_; rintro e w4 ⟨rfl, rfl⟩))
  have N1 := Lib.hid n1
  have N2 := Lib.hid n2
  have HC := Lib.hid hC
  have Hb1 := Lib.hid hbt
  obtain ⟨gc, hgc⟩ : ∃ g, g = w2.heap.size := ⟨_, rfl⟩
  rw [← hgc] at HC ⊢
  clear n1 n2 hC hbt hb0 hb1 hb2 hb3 hgc I1 I2 HT HS f0 f0' f0n f1 f2 k1 k2 HFm H00
  go_loopw [16] (fun v16 wx => ∃ i : Nat, i ≤ xs.length + 1 ∧ v16 = .int .i64 i ∧ Cm.rowsOk xs.length ys.length at_ ms ex (fL L) i = true ∧ Below w3.heap.size w3 wx) (fun v16 _ => xs.length + 1 - (intOf v16).toNat)
  case atStart => exact ⟨0, by omega, rfl, rfl, Below.refl _ _⟩
  case round =>
  obtain ⟨i, hi, rfl, hrowsok, hb⟩ := hrel
  have Hro := Lib.hid hrowsok
  have Hbo := Lib.hid hb
  by_cases hit : i < xs.length + 1
  case neg =>
    obtain rfl : i = xs.length + 1 := by omega
    have e1 : decide ((xs.length : Int) + 1 ≤ (xs.length : Int)) = false := by simp; omega
    have e1' : decide (((xs.length + 1 : Nat) : Int) ≤ (xs.length : Int)) = false := by simp; omega
    obtain ⟨gp0, op0, r0, co0, _, lp0, hrow0⟩ := HRowAt.out wr (below_trans' Hb1.out hb) xs.length (by have := HLen.out; omega)
    have ce00 := hrow0 ys.length (by omega)
    obtain ⟨y00, hy00⟩ : ∃ x, x = fL L xs.length ys.length := ⟨_, rfl⟩
    rw [show ((L.getD xs.length []).getD ys.length 0) = fL L xs.length ys.length from rfl, ← hy00] at ce00
    have f0 : (xs.length : Int) < (L.length : Int) := by have := HLen.out; omega
    have f1 : (ys.length : Int) < (ys.length : Int) + 1 := by omega
    have HX := Lib.hid hy00
    have Hyes := Lib.hid (HN2.out.2 (by unfold Cm.tabOk; rw [HX0.out, hrowsok]; rfl))
    clear hrow0 hy00 hrowsok hb
    go_wp2
    go_ret2
    exact ⟨by rw [Hyes.out.1, Hyes.out.2, ← HX.out]; rfl, below_trans' Hb1.out Hbo.out⟩
  have e1 : decide ((i : Int) ≤ (xs.length : Int)) = true := by simp; omega
  have e1' : decide (i ≤ xs.length) = true := by simp; omega
  have e3 : (0 : Int) ≤ (i : Int) := by omega
  have e4 : IntKind.i64.wrap ((i : Int) + 1) = (i : Int) + 1 := IntWalk.i64_in _ (by omega)
  have e5 : (i : Int) < (L.length : Int) := by have := HLen.out; omega
  obtain ⟨wo, rfl⟩ : ∃ wo : World, wo = wr := ⟨_, rfl⟩
  clear hrowsok hb
  go_wp2
  go_loopw [17] (fun v17 wx => ∃ k : Nat, k ≤ ys.length + 1 ∧ v17 = .int .i64 k ∧ Cm.rowOk xs.length ys.length at_ ms ex (fL L) i k = true ∧ Below w3.heap.size w3 wx) (fun v17 _ => ys.length + 1 - (intOf v17).toNat)
  case atStart => exact ⟨0, by omega, rfl, rfl, Hbo.out⟩
  case round =>
    obtain ⟨k, hk, rfl, hrowok, hb⟩ := hrel
    have Hb := Lib.hid hb
    have Hrow := Lib.hid hrowok
    by_cases hkt : k < ys.length + 1
    case neg =>
      obtain rfl : k = ys.length + 1 := by omega
      have f1 : decide ((ys.length : Int) + 1 ≤ (ys.length : Int)) = false := by simp; omega
      have f1' : decide (((ys.length + 1 : Nat) : Int) ≤ (ys.length : Int)) = false := by simp; omega
      clear hrowok hb
      go_wp2
      go_roundw
      case rel => exact ⟨i + 1, by omega, by go_num, by rw [Cm.rowsOk_succ, Hro.out, Hrow.out]; rfl, Hb.out⟩
      case measure => simp [intOf] <;> omega
    have q1 : decide ((k : Int) ≤ (ys.length : Int)) = true := by simp; omega
    have q1' : decide (k ≤ ys.length) = true := by simp; omega
    have q3 : (0 : Int) ≤ (k : Int) := by omega
    have q4 : IntKind.i64.wrap ((k : Int) + 1) = (k : Int) + 1 := IntWalk.i64_in _ (by omega)
    have q5 : (k : Int) < (ys.length : Int) + 1 := by omega
    have hrowAt := HRowAt.out wr (below_trans' Hb1.out hb)
    have hLl := HLen.out
    obtain ⟨gp0, op0, r0, co0, la, lp0, hrow0⟩ := hrowAt i (by omega)
    have ce00 := hrow0 k (by omega)
    have bx00 := HFb.out i k (by omega) (by omega)
    obtain ⟨x00, hx00⟩ : ∃ x, x = fL L i k := ⟨_, rfl⟩
    rw [show ((L.getD i []).getD k 0) = fL L i k from rfl, ← hx00] at ce00
    rw [← hx00] at bx00
    have hbw := Lib.hid hb
    have h0 : Below wr.heap.size wr wr := Below.refl _ _
    clear hrowok hb
    by_cases hin : i = xs.length
    · have d1 : decide ((i : Int) < (xs.length : Int)) = false := by simp; omega
      have d1' : decide (i < xs.length) = false := by simp; omega
      by_cases hkm : k = ys.length
      · have d2 : decide ((k : Int) < (ys.length : Int)) = false := by simp; omega
        have d2' : decide (k < ys.length) = false := by simp; omega
        have Hnz : Hid (Cm.rowOk xs.length ys.length at_ ms ex (fL L) i (k + 1) = true) := Lib.hid (by rw [Cm.rowOk_succ, Hrow.out, Bool.true_and]; unfold Cm.cellOk; rw [decide_eq_true hin, decide_eq_true hkm]; rfl)
        clear hLl hrowAt hrow0 hx00
        clear hin hkm
        go_wp2
        go_quiet (first | (go_at_call 76; exact Calls.quiet_of_same (HM.out _)) | (go_at_call 77; exact Calls.quiet_of_same (HE.out _)))
        have hQ1 := below_drewN' h0 nq
        obtain ⟨wq, hwq⟩ : ∃ wq, wq = wr.drewN nq := ⟨_, rfl⟩
        rw [← hwq]
        have co0q : wq.cell? ⟨ga, oa + i, none⟩ = some (.slice (some ⟨gp0, op0, none⟩) (ys.length + 1) r0) := by rw [hwq]; exact co0
        have ce00q : wq.cell? ⟨gp0, op0 + k, none⟩ = some (.int .i64 x00) := by rw [hwq]; exact ce00
        have hQw : Below wr.heap.size wr wq := by rw [hwq]; exact hQ1
        clear hwq hQ1
        go_wp2
        go_quiet (first | (go_at_call 76; exact Calls.quiet_of_same (HM.out _)) | (go_at_call 77; exact Calls.quiet_of_same (HE.out _)))
        have hQ2 := below_drewN' hQw nq
        go_wp2
        go_quiet (fail)
        go_wp2
        go_roundw
        case rel => exact ⟨k + 1, by omega, by go_num, Hnz.out, (by first | exact below_trans' Hb.out (below_drewN' hQw _) | exact below_trans' Hb.out (below_drewN' hQ2 _))⟩
        case measure => simp [intOf] <;> omega
      · have d2 : decide ((k : Int) < (ys.length : Int)) = true := by simp; omega
        have d2' : decide (k < ys.length) = true := by simp; omega
        have ce01 := hrow0 (k + 1) (by omega)
        have bx01 := HFb.out i (k + 1) (by omega) (by omega)
        obtain ⟨x01, hx01⟩ : ∃ x, x = fL L i (k + 1) := ⟨_, rfl⟩
        rw [show ((L.getD i []).getD (k + 1) 0) = fL L i (k + 1) from rfl, ← hx01] at ce01
        rw [← hx01] at bx01
        have g2 : IntKind.i64.wrap (x00 + ex) = x00 + ex := IntWalk.i64_in _ (by omega)
        have y2 : (k : Int) + 1 < (ys.length : Int) + 1 := by omega
        have y7 : (k : Int) < (ys.length : Int) := by omega
        have y3 : ((k : Int) + 1).toNat = k + 1 := by omega
        have y4 : (0 : Int) ≤ (k : Int) + 1 := by omega
        by_cases h2 : x01 ≤ x00 + ex
        · have f2 : decide (x00 + ex < x01) = false := by simp; omega
          have Hnz : Hid (Cm.rowOk xs.length ys.length at_ ms ex (fL L) i (k + 1) = true) := Lib.hid (by rw [Cm.rowOk_succ, Hrow.out, Bool.true_and]; unfold Cm.cellOk; rw [← hx00, ← hx01, decide_eq_true hin, decide_eq_false hkm, decide_eq_true h2]; rfl)
          clear hLl hrowAt hrow0 hx00 hx01
          clear hin hkm h2
          go_wp2
          go_quiet (first | (go_at_call 76; exact Calls.quiet_of_same (HM.out _)) | (go_at_call 77; exact Calls.quiet_of_same (HE.out _)))
          have hQ1 := below_drewN' h0 nq
          obtain ⟨wq, hwq⟩ : ∃ wq, wq = wr.drewN nq := ⟨_, rfl⟩
          rw [← hwq]
          have co0q : wq.cell? ⟨ga, oa + i, none⟩ = some (.slice (some ⟨gp0, op0, none⟩) (ys.length + 1) r0) := by rw [hwq]; exact co0
          have ce00q : wq.cell? ⟨gp0, op0 + k, none⟩ = some (.int .i64 x00) := by rw [hwq]; exact ce00
          have ce01q : wq.cell? ⟨gp0, op0 + (k + 1), none⟩ = some (.int .i64 x01) := by rw [hwq]; exact ce01
          have hQw : Below wr.heap.size wr wq := by rw [hwq]; exact hQ1
          clear hwq hQ1
          go_wp2
          go_quiet (first | (go_at_call 76; exact Calls.quiet_of_same (HM.out _)) | (go_at_call 77; exact Calls.quiet_of_same (HE.out _)))
          have hQ2 := below_drewN' hQw nq
          go_wp2
          go_quiet (fail)
          go_wp2
          go_roundw
          case rel => exact ⟨k + 1, by omega, by go_num, Hnz.out, (by first | exact below_trans' Hb.out (below_drewN' hQw _) | exact below_trans' Hb.out (below_drewN' hQ2 _))⟩
          case measure => simp [intOf] <;> omega
        · have f2 : decide (x00 + ex < x01) = true := by simp; omega
          have Hno := Lib.hid (HN2.out.1 (tab_bad (i := i) (k := k) (by omega) (by omega) (by unfold Cm.cellOk; rw [← hx00, ← hx01, decide_eq_true hin, decide_eq_false hkm, decide_eq_false h2]; rfl)))
          clear hLl hrowAt hrow0 hx00 hx01
          clear hin hkm h2
          go_wp2
          go_quiet (first | (go_at_call 76; exact Calls.quiet_of_same (HM.out _)) | (go_at_call 77; exact Calls.quiet_of_same (HE.out _)))
          have hQ1 := below_drewN' h0 nq
          obtain ⟨wq, hwq⟩ : ∃ wq, wq = wr.drewN nq := ⟨_, rfl⟩
          rw [← hwq]
          have co0q : wq.cell? ⟨ga, oa + i, none⟩ = some (.slice (some ⟨gp0, op0, none⟩) (ys.length + 1) r0) := by rw [hwq]; exact co0
          have ce00q : wq.cell? ⟨gp0, op0 + k, none⟩ = some (.int .i64 x00) := by rw [hwq]; exact ce00
          have ce01q : wq.cell? ⟨gp0, op0 + (k + 1), none⟩ = some (.int .i64 x01) := by rw [hwq]; exact ce01
          have hQw : Below wr.heap.size wr wq := by rw [hwq]; exact hQ1
          clear hwq hQ1
          go_wp2
          go_quiet (first | (go_at_call 76; exact Calls.quiet_of_same (HM.out _)) | (go_at_call 77; exact Calls.quiet_of_same (HE.out _)))
          have hQ2 := below_drewN' hQw nq
          go_wp2
          go_quiet (fail)
          go_wp2
          go_ret2
          exact ⟨by rw [Hno.out.1, Hno.out.2]; rfl, below_trans' Hb1.out (by first | exact below_trans' Hb.out (below_drewN' hQw _) | exact below_trans' Hb.out (below_drewN' hQ2 _))⟩
    · have d1 : decide ((i : Int) < (xs.length : Int)) = true := by simp; omega
      have d1' : decide (i < xs.length) = true := by simp; omega
      obtain ⟨gp1, op1, r1, co1, _, lp1, hrow1⟩ := hrowAt (i + 1) (by omega)
      have ce10 := hrow1 k (by omega)
      have bx10 := HFb.out (i + 1) k (by omega) (by omega)
      obtain ⟨x10, hx10⟩ : ∃ x, x = fL L (i + 1) k := ⟨_, rfl⟩
      rw [show ((L.getD (i + 1) []).getD k 0) = fL L (i + 1) k from rfl, ← hx10] at ce10
      rw [← hx10] at bx10
      have g1 : IntKind.i64.wrap (x00 + ms) = x00 + ms := IntWalk.i64_in _ (by omega)
      have y1 : (i : Int) + 1 < (L.length : Int) := by omega
      have y5 : ((i : Int) + 1).toNat = i + 1 := by omega
      have y6 : (0 : Int) ≤ (i : Int) + 1 := by omega
      by_cases h1 : x10 ≤ x00 + ms
      · have f1 : decide (x00 + ms < x10) = false := by simp; omega
        by_cases hkm : k = ys.length
        · have d2 : decide ((k : Int) < (ys.length : Int)) = false := by simp; omega
          have d2' : decide (k < ys.length) = false := by simp; omega
          have Hnz : Hid (Cm.rowOk xs.length ys.length at_ ms ex (fL L) i (k + 1) = true) := Lib.hid (by rw [Cm.rowOk_succ, Hrow.out, Bool.true_and]; unfold Cm.cellOk; rw [← hx00, ← hx10, decide_eq_false hin, decide_eq_true hkm, decide_eq_true h1]; rfl)
          clear hLl hrowAt hrow0 hx00 hrow1 hx10
          clear hin hkm h1
          go_wp2
          go_quiet (first | (go_at_call 76; exact Calls.quiet_of_same (HM.out _)) | (go_at_call 77; exact Calls.quiet_of_same (HE.out _)))
          have hQ1 := below_drewN' h0 nq
          obtain ⟨wq, hwq⟩ : ∃ wq, wq = wr.drewN nq := ⟨_, rfl⟩
          rw [← hwq]
          have co0q : wq.cell? ⟨ga, oa + i, none⟩ = some (.slice (some ⟨gp0, op0, none⟩) (ys.length + 1) r0) := by rw [hwq]; exact co0
          have ce00q : wq.cell? ⟨gp0, op0 + k, none⟩ = some (.int .i64 x00) := by rw [hwq]; exact ce00
          have co1q : wq.cell? ⟨ga, oa + (i + 1), none⟩ = some (.slice (some ⟨gp1, op1, none⟩) (ys.length + 1) r1) := by rw [hwq]; exact co1
          have ce10q : wq.cell? ⟨gp1, op1 + k, none⟩ = some (.int .i64 x10) := by rw [hwq]; exact ce10
          have hQw : Below wr.heap.size wr wq := by rw [hwq]; exact hQ1
          clear hwq hQ1
          go_wp2
          go_quiet (first | (go_at_call 76; exact Calls.quiet_of_same (HM.out _)) | (go_at_call 77; exact Calls.quiet_of_same (HE.out _)))
          have hQ2 := below_drewN' hQw nq
          go_wp2
          go_quiet (fail)
          go_wp2
          go_roundw
          case rel => exact ⟨k + 1, by omega, by go_num, Hnz.out, (by first | exact below_trans' Hb.out (below_drewN' hQw _) | exact below_trans' Hb.out (below_drewN' hQ2 _))⟩
          case measure => simp [intOf] <;> omega
        · have d2 : decide ((k : Int) < (ys.length : Int)) = true := by simp; omega
          have d2' : decide (k < ys.length) = true := by simp; omega
          have ce01 := hrow0 (k + 1) (by omega)
          have bx01 := HFb.out i (k + 1) (by omega) (by omega)
          obtain ⟨x01, hx01⟩ : ∃ x, x = fL L i (k + 1) := ⟨_, rfl⟩
          rw [show ((L.getD i []).getD (k + 1) 0) = fL L i (k + 1) from rfl, ← hx01] at ce01
          rw [← hx01] at bx01
          have g2 : IntKind.i64.wrap (x00 + ex) = x00 + ex := IntWalk.i64_in _ (by omega)
          have y2 : (k : Int) + 1 < (ys.length : Int) + 1 := by omega
          have y7 : (k : Int) < (ys.length : Int) := by omega
          have y3 : ((k : Int) + 1).toNat = k + 1 := by omega
          have y4 : (0 : Int) ≤ (k : Int) + 1 := by omega
          by_cases h2 : x01 ≤ x00 + ex
          · have f2 : decide (x00 + ex < x01) = false := by simp; omega
            have ce11 := hrow1 (k + 1) (by omega)
            have bx11 := HFb.out (i + 1) (k + 1) (by omega) (by omega)
            obtain ⟨x11, hx11⟩ : ∃ x, x = fL L (i + 1) (k + 1) := ⟨_, rfl⟩
            rw [show ((L.getD (i + 1) []).getD (k + 1) 0) = fL L (i + 1) (k + 1) from rfl, ← hx11] at ce11
            rw [← hx11] at bx11
            have ba := Hat.out i k
            have g3 : IntKind.i64.wrap (x00 + at_ i k) = x00 + at_ i k := IntWalk.i64_in _ (by omega)
            obtain ⟨gx, ox, rfl, _, cx⟩ := (N1.out.later hbw.out).place (k := i) (by rw [List.length_map]; omega)
            obtain ⟨gy, oy, rfl, _, cy⟩ := (N2.out.later hbw.out).place (k := k) (by rw [List.length_map]; omega)
            have lgx : gx < wr.heap.size := World.block_lt_of_cell? wr _ cx
            have lgy : gy < wr.heap.size := World.block_lt_of_cell? wr _ cy
            obtain ⟨xa, hxa⟩ : ∃ x, x = xs.getD i 0 := ⟨_, rfl⟩
            obtain ⟨xb, hxb⟩ : ∃ x, x = ys.getD k 0 := ⟨_, rfl⟩
            have ca0 : wr.cell? ⟨gx, ox + i, none⟩ = some (.int .i64 (xa : Int)) := by rw [cx, getD_get _ _ (by rw [List.length_map]; omega), List.getElem_map, hxa, getD_get xs 0 (by omega : i < xs.length)]
            have cb0 : wr.cell? ⟨gy, oy + k, none⟩ = some (.int .i64 (xb : Int)) := by rw [cy, getD_get _ _ (by rw [List.length_map]; omega), List.getElem_map, hxb, getD_get ys 0 (by omega : k < ys.length)]
            have HCr := HC.out.later hbw.out
            have HW := Lib.hid (fun W (hW : Below wr.heap.size wr W) => ref_swap gc m _ _ W Hm.out (HR1.out i (by omega)) (HR2.out k (by omega)) (HCr.later hW))
            have hswe : Cm.sw m (xs.getD i 0) (ys.getD k 0) = at_ i k := by rw [Hat_.out]; rfl
            rw [hswe, ← hxa, ← hxb] at HW
            have z6 : (i : Int) < (xs.length : Int) := by omega
            have z7 : (k : Int) < (ys.length : Int) := by omega
            clear HCr hswe hxa hxb cx cy
            by_cases h3 : x11 ≤ x00 + at_ i k
            · have f3 : decide (x00 + at_ i k < x11) = false := by simp; omega
              have Hnz : Hid (Cm.rowOk xs.length ys.length at_ ms ex (fL L) i (k + 1) = true) := Lib.hid (by rw [Cm.rowOk_succ, Hrow.out, Bool.true_and]; unfold Cm.cellOk; rw [← hx00, ← hx01, ← hx10, ← hx11, decide_eq_false hin, decide_eq_false hkm, decide_eq_true h1, decide_eq_true h2, decide_eq_true h3]; rfl)
              clear hLl hrowAt hrow0 hx00 hrow1 hx10 hx01 hx11
              clear hin hkm h1 h2 h3
              go_wp2
              go_quiet (first | (go_at_call 76; exact Calls.quiet_of_same (HM.out _)) | (go_at_call 77; exact Calls.quiet_of_same (HE.out _)))
              have hQ1 := below_drewN' h0 nq
              obtain ⟨wq, hwq⟩ : ∃ wq, wq = wr.drewN nq := ⟨_, rfl⟩
              rw [← hwq]
              have co0q : wq.cell? ⟨ga, oa + i, none⟩ = some (.slice (some ⟨gp0, op0, none⟩) (ys.length + 1) r0) := by rw [hwq]; exact co0
              have ce00q : wq.cell? ⟨gp0, op0 + k, none⟩ = some (.int .i64 x00) := by rw [hwq]; exact ce00
              have co1q : wq.cell? ⟨ga, oa + (i + 1), none⟩ = some (.slice (some ⟨gp1, op1, none⟩) (ys.length + 1) r1) := by rw [hwq]; exact co1
              have ce10q : wq.cell? ⟨gp1, op1 + k, none⟩ = some (.int .i64 x10) := by rw [hwq]; exact ce10
              have ce01q : wq.cell? ⟨gp0, op0 + (k + 1), none⟩ = some (.int .i64 x01) := by rw [hwq]; exact ce01
              have ce11q : wq.cell? ⟨gp1, op1 + (k + 1), none⟩ = some (.int .i64 x11) := by rw [hwq]; exact ce11
              have ca0q : wq.cell? ⟨gx, ox + i, none⟩ = some (.int .i64 (xa : Int)) := by rw [hwq]; exact ca0
              have cb0q : wq.cell? ⟨gy, oy + k, none⟩ = some (.int .i64 (xb : Int)) := by rw [hwq]; exact cb0
              have hQw : Below wr.heap.size wr wq := by rw [hwq]; exact hQ1
              have hsq : wr.heap.size = wq.heap.size := by rw [hwq]; rfl
              clear hwq hQ1
              go_wp2
              go_quiet (first | (go_at_call 76; exact Calls.quiet_of_same (HM.out _)) | (go_at_call 77; exact Calls.quiet_of_same (HE.out _)))
              have hQ2 := below_drewN' hQw nq
              go_wp2
              go_region_held3 (fun w' => w'.cell? ⟨ga, oa + i, none⟩ = some (.slice (some ⟨gp0, op0, none⟩) (ys.length + 1) r0) ∧ w'.cell? ⟨ga, oa + (i + 1), none⟩ = some (.slice (some ⟨gp1, op1, none⟩) (ys.length + 1) r1) ∧ w'.cell? ⟨gp0, op0 + k, none⟩ = some (.int .i64 x00) ∧ w'.cell? ⟨gp1, op1 + (k + 1), none⟩ = some (.int .i64 x11) ∧ w'.cell? ⟨gx, ox + i, none⟩ = some (.int .i64 (xa : Int)) ∧ w'.cell? ⟨gy, oy + k, none⟩ = some (.int .i64 (xb : Int))) (simp [*]) (first | (go_at_call 75; refine (HW.out _ (by first | exact hQ2.drew | exact below_drewN' hQw _)).mono ?_; rintro e wa ⟨rfl, hwa⟩; have ha := below_trans' (by first | exact hQ2.drew | exact below_drewN' hQw _) hwa; have j0 := (ha.cell (p := ⟨ga, oa + i, none⟩) la).trans co0; have j1 := (ha.cell (p := ⟨ga, oa + (i + 1), none⟩) la).trans co1; have j2 := (ha.cell (p := ⟨gp0, op0 + k, none⟩) lp0).trans ce00; have j3 := (ha.cell (p := ⟨gp1, op1 + (k + 1), none⟩) lp1).trans ce11; have j4 := (ha.cell (p := ⟨gx, ox + i, none⟩) lgx).trans ca0; have j5 := (ha.cell (p := ⟨gy, oy + k, none⟩) lgy).trans cb0))
              all_goals
                have hEnd := Lib.hid (below_trans' Hb.out ha)
                go_wp2
                go_roundw
                case rel => exact ⟨k + 1, by omega, by go_num, Hnz.out, hEnd.out⟩
                case measure => simp [intOf] <;> omega
            · have f3 : decide (x00 + at_ i k < x11) = true := by simp; omega
              have Hno := Lib.hid (HN2.out.1 (tab_bad (i := i) (k := k) (by omega) (by omega) (by unfold Cm.cellOk; rw [← hx00, ← hx01, ← hx10, ← hx11, decide_eq_false hin, decide_eq_false hkm, decide_eq_true h1, decide_eq_true h2, decide_eq_false h3]; rfl)))
              clear hLl hrowAt hrow0 hx00 hrow1 hx10 hx01 hx11
              clear hin hkm h1 h2 h3
              go_wp2
              go_quiet (first | (go_at_call 76; exact Calls.quiet_of_same (HM.out _)) | (go_at_call 77; exact Calls.quiet_of_same (HE.out _)))
              have hQ1 := below_drewN' h0 nq
              obtain ⟨wq, hwq⟩ : ∃ wq, wq = wr.drewN nq := ⟨_, rfl⟩
              rw [← hwq]
              have co0q : wq.cell? ⟨ga, oa + i, none⟩ = some (.slice (some ⟨gp0, op0, none⟩) (ys.length + 1) r0) := by rw [hwq]; exact co0
              have ce00q : wq.cell? ⟨gp0, op0 + k, none⟩ = some (.int .i64 x00) := by rw [hwq]; exact ce00
              have co1q : wq.cell? ⟨ga, oa + (i + 1), none⟩ = some (.slice (some ⟨gp1, op1, none⟩) (ys.length + 1) r1) := by rw [hwq]; exact co1
              have ce10q : wq.cell? ⟨gp1, op1 + k, none⟩ = some (.int .i64 x10) := by rw [hwq]; exact ce10
              have ce01q : wq.cell? ⟨gp0, op0 + (k + 1), none⟩ = some (.int .i64 x01) := by rw [hwq]; exact ce01
              have ce11q : wq.cell? ⟨gp1, op1 + (k + 1), none⟩ = some (.int .i64 x11) := by rw [hwq]; exact ce11
              have ca0q : wq.cell? ⟨gx, ox + i, none⟩ = some (.int .i64 (xa : Int)) := by rw [hwq]; exact ca0
              have cb0q : wq.cell? ⟨gy, oy + k, none⟩ = some (.int .i64 (xb : Int)) := by rw [hwq]; exact cb0
              have hQw : Below wr.heap.size wr wq := by rw [hwq]; exact hQ1
              have hsq : wr.heap.size = wq.heap.size := by rw [hwq]; rfl
              clear hwq hQ1
              go_wp2
              go_quiet (first | (go_at_call 76; exact Calls.quiet_of_same (HM.out _)) | (go_at_call 77; exact Calls.quiet_of_same (HE.out _)))
              have hQ2 := below_drewN' hQw nq
              go_wp2
              go_region_held3 (fun w' => w'.cell? ⟨ga, oa + i, none⟩ = some (.slice (some ⟨gp0, op0, none⟩) (ys.length + 1) r0) ∧ w'.cell? ⟨ga, oa + (i + 1), none⟩ = some (.slice (some ⟨gp1, op1, none⟩) (ys.length + 1) r1) ∧ w'.cell? ⟨gp0, op0 + k, none⟩ = some (.int .i64 x00) ∧ w'.cell? ⟨gp1, op1 + (k + 1), none⟩ = some (.int .i64 x11) ∧ w'.cell? ⟨gx, ox + i, none⟩ = some (.int .i64 (xa : Int)) ∧ w'.cell? ⟨gy, oy + k, none⟩ = some (.int .i64 (xb : Int))) (simp [*]) (first | (go_at_call 75; refine (HW.out _ (by first | exact hQ2.drew | exact below_drewN' hQw _)).mono ?_; rintro e wa ⟨rfl, hwa⟩; have ha := below_trans' (by first | exact hQ2.drew | exact below_drewN' hQw _) hwa; have j0 := (ha.cell (p := ⟨ga, oa + i, none⟩) la).trans co0; have j1 := (ha.cell (p := ⟨ga, oa + (i + 1), none⟩) la).trans co1; have j2 := (ha.cell (p := ⟨gp0, op0 + k, none⟩) lp0).trans ce00; have j3 := (ha.cell (p := ⟨gp1, op1 + (k + 1), none⟩) lp1).trans ce11; have j4 := (ha.cell (p := ⟨gx, ox + i, none⟩) lgx).trans ca0; have j5 := (ha.cell (p := ⟨gy, oy + k, none⟩) lgy).trans cb0))
              all_goals
                have hEnd := Lib.hid (below_trans' Hb.out ha)
                go_wp2
                go_ret2
                exact ⟨by rw [Hno.out.1, Hno.out.2]; rfl, below_trans' Hb1.out hEnd.out⟩
          · have f2 : decide (x00 + ex < x01) = true := by simp; omega
            have Hno := Lib.hid (HN2.out.1 (tab_bad (i := i) (k := k) (by omega) (by omega) (by unfold Cm.cellOk; rw [← hx00, ← hx01, ← hx10, decide_eq_false hin, decide_eq_false hkm, decide_eq_true h1, decide_eq_false h2]; rfl)))
            clear hLl hrowAt hrow0 hx00 hrow1 hx10 hx01
            clear hin hkm h1 h2
            go_wp2
            go_quiet (first | (go_at_call 76; exact Calls.quiet_of_same (HM.out _)) | (go_at_call 77; exact Calls.quiet_of_same (HE.out _)))
            have hQ1 := below_drewN' h0 nq
            obtain ⟨wq, hwq⟩ : ∃ wq, wq = wr.drewN nq := ⟨_, rfl⟩
            rw [← hwq]
            have co0q : wq.cell? ⟨ga, oa + i, none⟩ = some (.slice (some ⟨gp0, op0, none⟩) (ys.length + 1) r0) := by rw [hwq]; exact co0
            have ce00q : wq.cell? ⟨gp0, op0 + k, none⟩ = some (.int .i64 x00) := by rw [hwq]; exact ce00
            have co1q : wq.cell? ⟨ga, oa + (i + 1), none⟩ = some (.slice (some ⟨gp1, op1, none⟩) (ys.length + 1) r1) := by rw [hwq]; exact co1
            have ce10q : wq.cell? ⟨gp1, op1 + k, none⟩ = some (.int .i64 x10) := by rw [hwq]; exact ce10
            have ce01q : wq.cell? ⟨gp0, op0 + (k + 1), none⟩ = some (.int .i64 x01) := by rw [hwq]; exact ce01
            have hQw : Below wr.heap.size wr wq := by rw [hwq]; exact hQ1
            clear hwq hQ1
            go_wp2
            go_quiet (first | (go_at_call 76; exact Calls.quiet_of_same (HM.out _)) | (go_at_call 77; exact Calls.quiet_of_same (HE.out _)))
            have hQ2 := below_drewN' hQw nq
            go_wp2
            go_quiet (fail)
            go_wp2
            go_ret2
            exact ⟨by rw [Hno.out.1, Hno.out.2]; rfl, below_trans' Hb1.out (by first | exact below_trans' Hb.out (below_drewN' hQw _) | exact below_trans' Hb.out (below_drewN' hQ2 _))⟩
      · have f1 : decide (x00 + ms < x10) = true := by simp; omega
        have Hno := Lib.hid (HN2.out.1 (tab_bad (i := i) (k := k) (by omega) (by omega) (by unfold Cm.cellOk; rw [← hx00, ← hx10, decide_eq_false hin, decide_eq_false h1]; rfl)))
        clear hLl hrowAt hrow0 hx00 hrow1 hx10
        clear hin h1
        go_wp2
        go_quiet (first | (go_at_call 76; exact Calls.quiet_of_same (HM.out _)) | (go_at_call 77; exact Calls.quiet_of_same (HE.out _)))
        have hQ1 := below_drewN' h0 nq
        obtain ⟨wq, hwq⟩ : ∃ wq, wq = wr.drewN nq := ⟨_, rfl⟩
        rw [← hwq]
        have co0q : wq.cell? ⟨ga, oa + i, none⟩ = some (.slice (some ⟨gp0, op0, none⟩) (ys.length + 1) r0) := by rw [hwq]; exact co0
        have ce00q : wq.cell? ⟨gp0, op0 + k, none⟩ = some (.int .i64 x00) := by rw [hwq]; exact ce00
        have co1q : wq.cell? ⟨ga, oa + (i + 1), none⟩ = some (.slice (some ⟨gp1, op1, none⟩) (ys.length + 1) r1) := by rw [hwq]; exact co1
        have ce10q : wq.cell? ⟨gp1, op1 + k, none⟩ = some (.int .i64 x10) := by rw [hwq]; exact ce10
        have hQw : Below wr.heap.size wr wq := by rw [hwq]; exact hQ1
        clear hwq hQ1
        go_wp2
        go_quiet (first | (go_at_call 76; exact Calls.quiet_of_same (HM.out _)) | (go_at_call 77; exact Calls.quiet_of_same (HE.out _)))
        have hQ2 := below_drewN' hQw nq
        go_wp2
        go_quiet (fail)
        go_wp2
        go_ret2
        exact ⟨by rw [Hno.out.1, Hno.out.2]; rfl, below_trans' Hb1.out (by first | exact below_trans' Hb.out (below_drewN' hQw _) | exact below_trans' Hb.out (below_drewN' hQ2 _))⟩

theorem refCkTb_any (m : Int) (s h : ByteArray) (R : Option Addr) (cr : Nat) (L : List (List Int)) (w : World) (hS : RowsG w R L) (hl : L.length ≤ 1000000) :
    Calls Tryz.prog 51 #[.int .i64 m, .string s, .string h, .slice R L.length cr] w fun e w' => e = .returned (.tuple #[.int .i64 (ckN2 m s h L), .int .i64 (ckE2 m s h L)]) ∧ Below w.heap.size w w' := by
  by_cases he : errOf m s h = 0
  · exact refCkTb_ok m s h R cr L w hS hl he
  · rw [ckN2, ckE2, if_pos he, if_pos he]; exact refCkTb_no m s h _ w he
end Go.Proofs.YtgcddjgkieambaaGreatDoor
