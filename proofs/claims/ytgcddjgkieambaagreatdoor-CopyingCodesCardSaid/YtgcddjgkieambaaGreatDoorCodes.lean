/- CopyingCodes: the walk of the statement's function. -/
import Derived.Test.YtgcddjgkieambaaGreatDoorCharW
set_option linter.unusedVariables false
set_option linter.unusedSimpArgs false
namespace Go.Proofs.YtgcddjgkieambaaGreatDoor
open Go.RowKit

theorem fam_in (i : Nat) (h : i < 37) : 1 ≤ Cm.famZ i ∧ Cm.famZ i ≤ 7 := by
  have : (List.range 37).all (fun i => decide (1 ≤ Cm.famZ i ∧ Cm.famZ i ≤ 7)) = true := by decide +kernel
  exact of_decide_eq_true (List.all_eq_true.1 this i (List.mem_range.2 h))
theorem chB_eq (s : ByteArray) (k : Nat) (hk : k < 37) : ((chB k).toList == s.toList) = decide (oneIx s = (k : Int)) ∧ (chB k == s) = decide (oneIx s = (k : Int)) := by
  by_cases h : oneIx s = (k : Int)
  · have e : chB k = s := by
      rcases one_or s with ⟨i, hi, h1, h2⟩ | ⟨h1, _⟩
      · have : i = k := by omega
        rw [h2, this]
      · omega
    rw [decide_eq_true h, beq_toListBytes, e, beq_self_eq_true]
    exact ⟨rfl, rfl⟩
  · have e : chB k ≠ s := fun e => h (by rw [← e]; exact oneIx_chB k hk)
    rw [decide_eq_false h]
    exact ⟨bytes_ne e, bytes_ne' e⟩
/-- Is one of the first characters the text? -/
def isK (z : Int) (k : Nat) : Bool := decide (0 ≤ z) && decide (z < (k : Int))

set_option maxRecDepth 100000 in
set_option maxHeartbeats 8000000 in
theorem Codes_brief (s : ByteArray) (w : World) (hP : Pow w) (hs : s.size ≤ 200) : Calls Tryz.prog 7 #[.string s] w fun e w' => e = .returned (.bool true) ∧ Below w.heap.size w w' := by
  have HA := Lib.hid (awake_any w hP)
  have HC := Lib.hid (fun W => Code_any s W (by omega))
  have HF := Lib.hid (fun W => Family_any s W (by omega))
  have HE := Lib.hid (fun k (h : k < 37) => chB_eq s k h)
  have HO := Lib.hid (one_or s)
  have d1 : decide ((s.size : Int) ≤ 200) = true := by simp; omega
  obtain ⟨z, hz⟩ : ∃ z, z = oneIx s := ⟨_, rfl⟩
  rw [← hz] at HE HO
  have Hz := Lib.hid hz
  clear hP hs hz
  go_enter Tryz.func7, Tryz.ntmps7
  go_wp2_with (first
    | (go_at_call 18; refine HA.out.mono ?_; rintro e w1 ⟨rfl, hb1⟩; have Hb1 := Lib.hid hb1; clear hb1)
    | (go_at_call 19; refine (brief_any _ _).mono ?_; rintro e w2 ⟨rfl, rfl⟩))
  go_loop [4, 5] (fun v4 v5 => ∃ k : Nat, k ≤ 37 ∧ v5 = .int .i64 k ∧ v4 = .bool (isK z k)) (fun _ v5 => 37 - (intOf v5).toNat)
  case atStart => exact ⟨0, by omega, rfl, by unfold isK; by_cases h : 0 ≤ z <;> simp <;> omega⟩
  case round =>
    obtain ⟨k, hk, rfl, rfl⟩ := hrel
    by_cases hlt : k < 37
    · have f1 : decide ((k : Int) < 37) = true := by simp; omega
      have f2 : (k : Int) < 37 := by omega
      have f3 : (0 : Int) ≤ (k : Int) := by omega
      have f4 : (k : Int) + 1 ≤ 37 := by omega
      have f5 : (k : Int) ≤ (k : Int) + 1 := by omega
      have f6 : (0 : Int) ≤ (k : Int) + 1 := by omega
      have q1 : IntKind.i64.wrap ((k : Int) + 1) = (k : Int) + 1 := IntWalk.i64_in _ (by omega)
      have hsl := char_slice k hlt
      unfold charsB at hsl
      obtain ⟨g1, g2⟩ := HE.out k hlt
      obtain ⟨ch, hch⟩ : ∃ c, c = chB k := ⟨_, rfl⟩
      rw [← hch] at hsl g1 g2
      clear hch
      cases hb : isK z k
      · have hnx : isK z (k + 1) = decide (z = (k : Int)) := by
          unfold isK at hb ⊢
          by_cases h0 : 0 ≤ z
          · rw [decide_eq_true h0, Bool.true_and] at hb ⊢
            have h1 : ¬ z < (k : Int) := of_decide_eq_false hb
            by_cases h2 : z = (k : Int)
            · rw [decide_eq_true h2, decide_eq_true (by omega)]
            · rw [decide_eq_false h2, decide_eq_false (by omega)]
          · rw [decide_eq_false h0, Bool.false_and, decide_eq_false (by omega)]
        have Hnx := Lib.hid hnx
        clear hnx hb
        obtain ⟨u, hu⟩ : ∃ u, u = decide (z = (k : Int)) := ⟨_, rfl⟩
        rw [← hu] at g1 g2 Hnx
        clear hu
        go_wp2
        go_round
        case rel => exact ⟨k + 1, by omega, by go_num, by rw [Hnx.out]⟩
        case measure => simp [intOf] <;> omega
      · have hnx : isK z (k + 1) = true := by
          unfold isK at hb ⊢
          simp only [Bool.and_eq_true, decide_eq_true_eq] at hb ⊢
          omega
        have Hnx := Lib.hid hnx
        clear hnx hb g1 g2
        go_wp2
        go_round
        case rel => exact ⟨k + 1, by omega, by go_num, by rw [Hnx.out]⟩
        case measure => simp [intOf] <;> omega
    · obtain rfl : k = 37 := by omega
      have f1 : decide (((37 : Nat) : Int) < 37) = false := by simp
      rcases HO.out with ⟨i, hi, h1, h2⟩ | ⟨h1, h2⟩
      · obtain ⟨k1, k2, k3⟩ := keyE_yes (s := s) (i := i) (by rw [← Hz.out, h1])
        rw [k1, k2] at HC
        rw [k1, k3] at HF
        have HX := Lib.hid (fun W => Char_loop (Cm.codeB i) W (by have := codeB_small i; omega) (chB i) 0 (.inl ⟨i, hi, rfl, rfl, rfl⟩))
        rw [← h2] at HX
        have hk1 : isK z 37 = true := by unfold isK; simp only [Bool.and_eq_true, decide_eq_true_eq]; omega
        rw [hk1]
        obtain ⟨fm1, fm2⟩ := fam_in i hi
        generalize Cm.famZ i = f at HF fm1 fm2
        generalize Cm.codeB i = cd at HC HX
        have g3 : decide (f ≥ 1) = true := by simpa using fm1
        have g3' : decide (1 ≤ f) = true := by simpa using fm1
        have g4 : decide (f ≤ 7) = true := by simpa using fm2
        clear k1 k2 k3 h1 h2 hk1 fm1 fm2 hi
        go_wp2_with (first
          | (go_at_call 35; refine (HC.out _).mono ?_; rintro e w3 ⟨rfl, hb3⟩; have hb3 := below_trans' Hb1.out hb3)
          | (go_at_call 36; refine (HF.out _).mono ?_; rintro e w4 ⟨rfl, hb4⟩; have hb4 := below_trans' hb3 hb4)
          | (go_at_call 37; refine (HX.out _).mono ?_; rintro e w5 ⟨rfl, hb5⟩; have hb5 := below_trans' hb4 hb5))
        go_ret
        exact ⟨by simp, hb5⟩
      · obtain ⟨k1, k2, k3⟩ := keyE_no (s := s) (by rw [← Hz.out, h1])
        rw [k1, k2] at HC
        rw [k1, k3] at HF
        have hk1 : isK z 37 = false := by unfold isK; rw [h1]; rfl
        rw [hk1]
        clear k1 k2 k3 h1 h2 hk1
        go_wp2_with (first
          | (go_at_call 35; refine (HC.out _).mono ?_; rintro e w3 ⟨rfl, hb3⟩; have hb3 := below_trans' Hb1.out hb3)
          | (go_at_call 36; refine (HF.out _).mono ?_; rintro e w4 ⟨rfl, hb4⟩; have hb4 := below_trans' hb3 hb4))
        go_ret
        exact ⟨by simp, hb4⟩

set_option maxRecDepth 100000 in
theorem Codes_any (s : ByteArray) (w : World) (hP : Pow w) : Calls Tryz.prog 7 #[.string s] w fun e w' => e = .returned (.bool true) ∧ Below w.heap.size w w' := by
  by_cases hs : s.size ≤ 200
  · exact Codes_brief s w hP hs
  · have HA := Lib.hid (awake_any w hP)
    have d1 : decide ((s.size : Int) ≤ 200) = false := by simp; omega
    clear hP hs
    go_enter Tryz.func7, Tryz.ntmps7
    go_wp2_with (first
      | (go_at_call 18; refine HA.out.mono ?_; rintro e w1 ⟨rfl, hb1⟩)
      | (go_at_call 19; refine (brief_any _ _).mono ?_; rintro e w2 ⟨rfl, rfl⟩))
    go_ret
    exact ⟨rfl, hb1⟩
end Go.Proofs.YtgcddjgkieambaaGreatDoor
