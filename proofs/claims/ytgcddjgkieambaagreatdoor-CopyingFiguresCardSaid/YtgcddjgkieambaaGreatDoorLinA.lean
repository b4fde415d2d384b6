/- The walks of the reference's 'digits', 'Digits', 'CopyNumber'. -/
import Derived.Test.YtgcddjgkieambaaGreatDoorRefF
import Derived.Test.YtgcddjgkieambaaGreatDoorNumW
set_option linter.unusedVariables false
set_option linter.unusedSimpArgs false
namespace Go.Proofs.YtgcddjgkieambaaGreatDoor
open Go.RowKit

/-- The first k bytes of a number as they are sent in Morse. -/
def preD (s : ByteArray) (k : Nat) : ByteArray := ⟨((s.data.toList.take k).map (rp pD qD 3)).toArray⟩
theorem preD_zero (s : ByteArray) : preD s 0 = ⟨#[]⟩ := rfl
theorem preD_all (s : ByteArray) : preD s s.size = mapB (rp pD qD 3) s := by
  unfold preD mapB
  rw [List.take_of_length_le (by simp)]
theorem preD_size (s : ByteArray) (k : Nat) : (preD s k).size ≤ k := by
  show ((s.data.toList.take k).map (rp pD qD 3)).toArray.size ≤ k
  rw [List.size_toArray, List.length_map, List.length_take]
  omega
theorem preD_next (s : ByteArray) (k : Nat) (h : k < s.size) : preD s (k + 1) = preD s k ++ ⟨#[rp pD qD 3 (s[k]'h)]⟩ := by
  have hl : k < s.data.toList.length := by simpa using h
  have e : s[k] = s.data.toList[k]'hl := rfl
  unfold preD
  rw [ByteArray.mk_append_mk, List.take_add_one, List.getElem?_eq_getElem hl, List.map_append, e]
  simp
set_option maxRecDepth 100000 in
set_option maxHeartbeats 4000000 in
theorem ref_digits (m n : Int) (w : World) (hP : Pow w) (h0 : 0 ≤ n) (h9 : n ≤ 99999) : Calls Tryz.prog 102 #[.int .i64 m, .int .i64 n] w fun e w' => e = .returned (.string (sentNum m n)) ∧ Below w.heap.size w w' := by
  have hz := itoaB_size n h0 h9
  have HI := Lib.hid (fun (W : World) (hb : Below w.heap.size w W) => Tryz.strconv_Itoa n (by omega) (by omega) W (hP.later hb))
  rw [show (⟨(Lib.itoa n).toArray⟩ : ByteArray) = itoaB n from rfl] at HI
  unfold sentNum
  obtain ⟨s, hs⟩ : ∃ s, s = itoaB n := ⟨_, rfl⟩
  rw [← hs] at HI hz ⊢
  clear hs hP h0 h9
  by_cases h1 : m = 1
  · subst h1
    rw [if_pos rfl]
    go_enter Tryz.func102, Tryz.ntmps102
    go_wp2_with (go_at_call 101; refine (HI.out _ (Below.refl _ _)).mono ?_; rintro e w2 ⟨rfl, k, os, hw2⟩; have Hb2 := Lib.hid (show Below w.heap.size w w2 from hw2 ▸ below_grow (Below.refl _ _) (Nat.le_refl _) k os); clear hw2)
    go_loop [6, 7] (fun v6 v7 => ∃ k : Nat, k ≤ s.size ∧ v7 = .int .i64 k ∧ v6 = .string (preD s k)) (fun _ v7 => s.size - (intOf v7).toNat)
    case atStart => exact ⟨0, by omega, rfl, rfl⟩
    case round =>
      obtain ⟨k, hk, rfl, rfl⟩ := hrel
      by_cases hlt : k < s.size
      · have f1 : decide ((k : Int) < (s.size : Int)) = true := by simp; omega
        have f2 : (k : Int) < (s.size : Int) := by omega
        have f3 : (0 : Int) ≤ (k : Int) := by omega
        have q1 : IntKind.i64.wrap ((k : Int) + 1) = (k : Int) + 1 := IntWalk.i64_in _ (by omega)
        have hpz := preD_size s k
        have hnx := preD_next s k hlt
        have hex := extract_one s k hlt
        obtain ⟨o, ho⟩ : ∃ o, o = preD s k := ⟨_, rfl⟩
        rw [← ho] at hnx hpz ⊢
        have w1 : ¬ 9223372036854775807 < o.size + 1 := by omega
        obtain ⟨x, hx⟩ : ∃ x, x = s[k]'hlt := ⟨_, rfl⟩
        rw [← hx] at hnx hex
        by_cases c0 : x = 48
        · have g1 : (((s[k]'hlt).toNat : Int) == 48) = true := by rw [← hx, c0]; rfl
          have Hn := Lib.hid (show preD s (k + 1) = o ++ ⟨#[84]⟩ by rw [hnx, c0]; rfl)
          clear c0 hnx hex ho hx
          go_wp2
          go_round
          case rel => exact ⟨k + 1, by omega, by go_num, by rw [Hn.out]⟩
          case measure => simp [intOf] <;> omega
        · have g1 : (((s[k]'hlt).toNat : Int) == 48) = false := by
            rw [← hx, beq_eq_false_iff_ne]; exact fun e => c0 (UInt8.toNat_inj.1 (by simpa using (by omega : x.toNat = 48)))
          by_cases c1 : x = 49
          · have g2 : (((s[k]'hlt).toNat : Int) == 49) = true := by rw [← hx, c1]; rfl
            have Hn := Lib.hid (show preD s (k + 1) = o ++ ⟨#[65]⟩ by rw [hnx, c1]; rfl)
            clear c0 c1 hnx hex ho hx
            go_wp2
            go_round
            case rel => exact ⟨k + 1, by omega, by go_num, by rw [Hn.out]⟩
            case measure => simp [intOf] <;> omega
          · have g2 : (((s[k]'hlt).toNat : Int) == 49) = false := by
              rw [← hx, beq_eq_false_iff_ne]; exact fun e => c1 (UInt8.toNat_inj.1 (by simpa using (by omega : x.toNat = 49)))
            by_cases c2 : x = 57
            · have g3 : (((s[k]'hlt).toNat : Int) == 57) = true := by rw [← hx, c2]; rfl
              have Hn := Lib.hid (show preD s (k + 1) = o ++ ⟨#[78]⟩ by rw [hnx, c2]; rfl)
              clear c0 c1 c2 hnx hex ho hx
              go_wp2
              go_round
              case rel => exact ⟨k + 1, by omega, by go_num, by rw [Hn.out]⟩
              case measure => simp [intOf] <;> omega
            · have g3 : (((s[k]'hlt).toNat : Int) == 57) = false := by
                rw [← hx, beq_eq_false_iff_ne]; exact fun e => c2 (UInt8.toNat_inj.1 (by simpa using (by omega : x.toNat = 57)))
              have Hn := Lib.hid (show preD s (k + 1) = o ++ s.extract k (k + 1) by rw [hnx, hex, rpD, if_neg c0, if_neg c1, if_neg c2])
              have hes : (s.extract k (k + 1)).size = 1 := by rw [hex]; rfl
              have w2 : ¬ 9223372036854775807 < o.size + (s.extract k (k + 1)).size := by rw [hes]; exact w1
              have w3 : ¬ 9223372036854775807 < o.size + (min (k + 1) s.size - k) := by omega
              have f4 : (k : Int) + 1 ≤ (s.size : Int) := by omega
              clear c0 c1 c2 hnx hex ho hx hes
              go_wp2
              go_round
              case rel => exact ⟨k + 1, by omega, by go_num, by rw [Hn.out]⟩
              case measure => simp [intOf] <;> omega
      · obtain rfl : k = s.size := by omega
        have f1 : decide ((s.size : Int) < (s.size : Int)) = false := by simp
        rw [preD_all]
        go_wp2
        go_ret
        exact ⟨rfl, Hb2.out⟩
  · rw [if_neg h1]
    have d1 : (m != 1) = true := by simpa using h1
    clear h1
    go_enter Tryz.func102, Tryz.ntmps102
    go_wp2_with (go_at_call 101; refine (HI.out _ (Below.refl _ _)).mono ?_; rintro e w2 ⟨rfl, k, os, hw2⟩; have Hb2 := Lib.hid (show Below w.heap.size w w2 from hw2 ▸ below_grow (Below.refl _ _) (Nat.le_refl _) k os); clear hw2)
    go_ret
    exact ⟨rfl, Hb2.out⟩

/-- What both texts of a number are, or nothing where there is an error. -/
def digS (m n : Int) : ByteArray := if digErr m n = 0 then sentNum m n else ⟨#[]⟩
set_option maxRecDepth 100000 in
set_option maxHeartbeats 4000000 in
theorem refDigits_any (m n : Int) (w : World) (hP : Pow w) : Calls Tryz.prog 59 #[.int .i64 m, .int .i64 n] w fun e w' => e = .returned (.tuple #[.string (digS m n), .int .i64 (digErr m n)]) ∧ Below w.heap.size w w' := by
  by_cases hm : m = 1 ∨ m = 2 ∨ m = 3
  · have hmd : (decide (1 ≤ m) && decide (m ≤ 3)) = true := by simp; omega
    have HM := Lib.hid (fun W => ref_isMode m W)
    rw [hmd] at HM
    by_cases hn : n < 0 ∨ 99999 < n
    · have e1 : digErr m n = 1 := by unfold digErr; rw [if_neg (fun h => h hm), if_pos hn]
      have e2 : digS m n = ⟨#[]⟩ := by unfold digS; rw [e1]; rfl
      rw [e1, e2]
      clear e1 e2 hmd hP
      by_cases h1 : n < 0
      · have d1 : decide (n < 0) = true := by simpa using h1
        clear hn h1
        go_enter Tryz.func59, Tryz.ntmps59
        go_wp2_with (go_at_call 88; refine (HM.out _).mono ?_; rintro e w1 ⟨rfl, rfl⟩)
        go_ret2
        exact ⟨rfl, Below.refl _ _⟩
      · have d1 : decide (n < 0) = false := by simpa using h1
        have d2 : decide (99999 < n) = true := by simp; omega
        clear hn h1
        go_enter Tryz.func59, Tryz.ntmps59
        go_wp2_with (go_at_call 88; refine (HM.out _).mono ?_; rintro e w1 ⟨rfl, rfl⟩)
        go_ret2
        exact ⟨rfl, Below.refl _ _⟩
    · have e1 : digErr m n = 0 := by unfold digErr; rw [if_neg (fun h => h hm), if_neg hn]
      have e2 : digS m n = sentNum m n := by unfold digS; rw [if_pos e1]
      rw [e1, e2]
      have d1 : decide (n < 0) = false := by simp; omega
      have d2 : decide (99999 < n) = false := by simp; omega
      have HD := Lib.hid (fun W (hb : Pow W) => ref_digits m n W hb (by omega) (by omega))
      generalize sentNum m n = s at HD ⊢
      have HP := Lib.hid hP
      clear e1 e2 hmd hP hn hm
      go_enter Tryz.func59, Tryz.ntmps59
      go_wp2_with (first
        | (go_at_call 88; refine (HM.out _).mono ?_; rintro e w1 ⟨rfl, rfl⟩)
        | (go_at_call 102; refine (HD.out _ HP.out).mono ?_; rintro e w2 ⟨rfl, hb2⟩))
      go_ret2
      exact ⟨rfl, hb2⟩
  · have hmd : (decide (1 ≤ m) && decide (m ≤ 3)) = false := by rw [Bool.and_eq_false_iff, decide_eq_false_iff_not, decide_eq_false_iff_not]; omega
    have HM := Lib.hid (fun W => ref_isMode m W)
    rw [hmd] at HM
    have e1 : digErr m n = 40 := by unfold digErr; rw [if_pos hm]
    have e2 : digS m n = ⟨#[]⟩ := by unfold digS; rw [e1]; rfl
    rw [e1, e2]
    clear e1 e2 hmd hP hm
    go_enter Tryz.func59, Tryz.ntmps59
    go_wp2_with (go_at_call 88; refine (HM.out _).mono ?_; rintro e w1 ⟨rfl, rfl⟩)
    go_ret2
    exact ⟨rfl, Below.refl _ _⟩

set_option maxRecDepth 100000 in
set_option maxHeartbeats 4000000 in
theorem refCopyNumber_any (m a b : Int) (w : World) (hP : Pow w) : Calls Tryz.prog 63 #[.int .i64 m, .int .i64 a, .int .i64 b] w fun e w' => e = .returned (.tuple #[.int .i64 (cnC m a b), .int .i64 (cnE m a b)]) ∧ Below w.heap.size w w' := by
  have D1 := Lib.hid (fun W (hb : Below w.heap.size w W) => refDigits_any m a W (hP.later hb))
  have D2 := Lib.hid (fun W (hb : Below w.heap.size w W) => refDigits_any m b W (hP.later hb))
  by_cases e1 : digErr m a = 0
  · by_cases e2 : digErr m b = 0
    · have HC := Lib.hid (fun W => refCost_any m (sentNum m a) (sentNum m b) W)
      rw [cn_err e1 e2] at HC
      have f1 : cnE m a b = 0 := cnE_of e1 e2
      have f2 : cnC m a b = costOf m (sentNum m a) (sentNum m b) := by unfold cnC; rw [if_pos f1]
      have f3 : digS m a = sentNum m a := by unfold digS; rw [if_pos e1]
      have f4 : digS m b = sentNum m b := by unfold digS; rw [if_pos e2]
      rw [f1, f2]
      rw [f3, e1] at D1
      rw [f4, e2] at D2
      clear f1 f2 f3 f4 e1 e2 hP
      generalize costOf m (sentNum m a) (sentNum m b) = z at HC ⊢
      obtain ⟨s, hs⟩ : ∃ s, s = sentNum m a := ⟨_, rfl⟩
      obtain ⟨t, ht⟩ : ∃ s, s = sentNum m b := ⟨_, rfl⟩
      rw [← hs] at D1 HC
      rw [← ht] at D2 HC
      clear hs ht
      go_enter Tryz.func63, Tryz.ntmps63
      go_wp2_with (first
        | (go_at_call 59; (with_reducible refine (D1.out _ (Below.refl _ _)).mono ?_); rintro e w1 ⟨rfl, hb1⟩)
        | (go_at_call 59; (with_reducible refine (D2.out _ hb1).mono ?_); rintro e w2 ⟨rfl, hb2⟩; have hb2 := below_trans' hb1 hb2)
        | (go_at_call 22; refine (HC.out _).mono ?_; rintro e w3 ⟨rfl, hb3⟩; have hb3 := below_trans' hb2 hb3))
      go_ret2
      exact ⟨rfl, hb3⟩
    · have f1 : cnE m a b = digErr m b := by unfold cnE; rw [if_neg (fun h => h e1)]
      have f2 : cnC m a b = 0 := by unfold cnC; rw [f1, if_neg e2]
      rw [f1, f2]
      rw [e1] at D1
      obtain ⟨z, hz⟩ : ∃ z, z = digErr m b := ⟨_, rfl⟩
      rw [← hz] at D2 e2 ⊢
      have d0 : (z != 0) = true := by simpa using e2
      clear f1 f2 e1 e2 hP hz
      generalize digS m a = s at D1
      generalize digS m b = t at D2
      go_enter Tryz.func63, Tryz.ntmps63
      go_wp2_with (first
        | (go_at_call 59; (with_reducible refine (D1.out _ (Below.refl _ _)).mono ?_); rintro e w1 ⟨rfl, hb1⟩)
        | (go_at_call 59; (with_reducible refine (D2.out _ hb1).mono ?_); rintro e w2 ⟨rfl, hb2⟩; have hb2 := below_trans' hb1 hb2))
      go_ret2
      exact ⟨rfl, hb2⟩
  · have f1 : cnE m a b = digErr m a := by unfold cnE; rw [if_pos e1]
    have f2 : cnC m a b = 0 := by unfold cnC; rw [f1, if_neg e1]
    rw [f1, f2]
    obtain ⟨z, hz⟩ : ∃ z, z = digErr m a := ⟨_, rfl⟩
    rw [← hz] at D1 e1 ⊢
    have d0 : (z != 0) = true := by simpa using e1
    clear f1 f2 e1 hP hz
    generalize digS m a = s at D1
    generalize digS m b = t at D2
    generalize digErr m b = y at D2
    go_enter Tryz.func63, Tryz.ntmps63
    go_wp2_with (first
      | (go_at_call 59; (with_reducible refine (D1.out _ (Below.refl _ _)).mono ?_); rintro e w1 ⟨rfl, hb1⟩)
      | (go_at_call 59; (with_reducible refine (D2.out _ hb1).mono ?_); rintro e w2 ⟨rfl, hb2⟩; have hb2 := below_trans' hb1 hb2))
    go_ret2
    exact ⟨rfl, hb2⟩
end Go.Proofs.YtgcddjgkieambaaGreatDoor
