/- The walks of the reference's leaves: 'at', 'one', 'isMode', 'miss', 'extra'. -/
import Derived.Test.YtgcddjgkieambaaGreatDoorLeaf2
set_option linter.unusedVariables false
set_option linter.unusedSimpArgs false
namespace Go.Proofs.YtgcddjgkieambaaGreatDoor
open Go.RowKit

theorem ref_isMode (m : Int) (w : World) : Calls Tryz.prog 88 #[.int .i64 m] w fun e w' => e = .returned (.bool (decide (1 ≤ m) && decide (m ≤ 3))) ∧ w = w' := by
  by_cases h : 1 ≤ m
  · have d0 : decide (1 ≤ m) = true := by simpa using h
    have d1 : decide (m ≥ 1) = true := by simpa using h
    rw [d0]
    clear h
    go_enter Tryz.func88, Tryz.ntmps88
    go_wp2
    go_ret
    exact ⟨rfl, rfl⟩
  · have d0 : decide (1 ≤ m) = false := by simpa using h
    have d1 : decide (m ≥ 1) = false := by simpa using h
    rw [d0]
    clear h
    go_enter Tryz.func88, Tryz.ntmps88
    go_wp2
    go_ret
    exact ⟨rfl, rfl⟩
theorem ref_miss (m : Int) (w : World) : Calls Tryz.prog 76 #[.int .i64 m] w fun e w' => e = .returned (.int .i64 (Cm.missC m)) ∧ w = w' := by
  by_cases h : m = 1
  · have d0 : (m == 1) = true := by simpa using h
    rw [show Cm.missC m = 3 by unfold Cm.missC; rw [if_pos h]]
    clear h
    go_enter Tryz.func76, Tryz.ntmps76
    go_wp2
    go_ret
    exact ⟨rfl, rfl⟩
  · have d0 : (m == 1) = false := by simpa using h
    rw [show Cm.missC m = 2 by unfold Cm.missC; rw [if_neg h]]
    clear h
    go_enter Tryz.func76, Tryz.ntmps76
    go_wp2
    go_ret
    exact ⟨rfl, rfl⟩
theorem ref_extra (m : Int) (w : World) : Calls Tryz.prog 77 #[.int .i64 m] w fun e w' => e = .returned (.int .i64 (Cm.extraC m)) ∧ w = w' := by
  by_cases h : m = 3
  · have d0 : (m == 3) = true := by simpa using h
    rw [show Cm.extraC m = 2 by unfold Cm.extraC; rw [if_pos h]]
    clear h
    go_enter Tryz.func77, Tryz.ntmps77
    go_wp2
    go_ret
    exact ⟨rfl, rfl⟩
  · have d0 : (m == 3) = false := by simpa using h
    rw [show Cm.extraC m = 3 by unfold Cm.extraC; rw [if_neg h]]
    clear h
    go_enter Tryz.func77, Tryz.ntmps77
    go_wp2
    go_ret
    exact ⟨rfl, rfl⟩

theorem ixc_char (k : Nat) (hk : k < 37) : Cm.ixc (Cm.chars.getD k 0) = (k : Int) := by
  have : (List.range 37).all (fun k => decide (Cm.ixc (Cm.chars.getD k 0) = (k : Int))) = true := by decide +kernel
  exact of_decide_eq_true (List.all_eq_true.1 this k (List.mem_range.2 hk))
theorem char_ixc (c : UInt8) (h : 0 ≤ Cm.ixc c) : Cm.chars.getD (Cm.ixc c).toNat 0 = c := by
  have : (List.range 256).all (fun n => decide (0 ≤ Cm.ixc (UInt8.ofNat n) → Cm.chars.getD (Cm.ixc (UInt8.ofNat n)).toNat 0 = UInt8.ofNat n)) = true := by decide +kernel
  have h1 := of_decide_eq_true (List.all_eq_true.1 this c.toNat (List.mem_range.2 c.toNat_lt))
  rw [UInt8.ofNat_toNat] at h1
  exact h1 h
theorem ixc_none (c : UInt8) (h : ∀ j, j < 37 → Cm.chars.getD j 0 ≠ c) : Cm.ixc c = -1 := by
  have hb := Cm.ixc_bd c
  by_cases h0 : 0 ≤ Cm.ixc c
  · exact absurd (char_ixc c h0) (h _ (by omega))
  · omega
/-- The text of all characters. -/
def charsB : ByteArray := { data := #[65, 66, 67, 68, 69, 70, 71, 72, 73, 74, 75, 76, 77, 78, 79, 80, 81, 82, 83, 84, 85, 86, 87, 88, 89, 90, 48, 49, 50, 51, 52, 53, 54, 55, 56, 57, 47] }
theorem charsB_at (k : Nat) (h : k < charsB.size) : charsB[k] = Cm.chars.getD k 0 := by
  have e : charsB.data.toList = Cm.chars := rfl
  have hk : k < Cm.chars.length := h
  rw [List.getD, List.getElem?_eq_getElem hk]
  rfl

set_option maxHeartbeats 1000000 in
theorem ref_at (c : UInt8) (w : World) : Calls Tryz.prog 111 #[.int .u8 c.toNat] w fun e w' => e = .returned (.int .i64 (Cm.ixc c)) ∧ w = w' := by
  obtain ⟨z, hz⟩ : ∃ z, z = Cm.ixc c := ⟨_, rfl⟩
  rw [← hz]
  have HZ := Lib.hid hz
  clear hz
  go_enter Tryz.func111, Tryz.ntmps111
  go_wp2
  go_loop [3] (fun v => ∃ k : Nat, k ≤ 37 ∧ v = .int .i64 k ∧ ∀ j, j < k → Cm.chars.getD j 0 ≠ c) (fun v => 37 - (intOf v).toNat)
  case atStart => exact ⟨0, by omega, rfl, fun j hj => by omega⟩
  case round =>
    obtain ⟨k, hk, rfl, hr⟩ := hrel
    have Hr := Lib.hid hr
    clear hr
    by_cases hlt : k < 37
    · have f1 : decide ((k : Int) < 37) = true := by simp; omega
      have f2 : (k : Int) < 37 := by omega
      have f3 : (0 : Int) ≤ (k : Int) := by omega
      have q1 : IntKind.i64.wrap ((k : Int) + 1) = (k : Int) + 1 := IntWalk.i64_in _ (by omega)
      have Hc := Lib.hid (charsB_at k hlt)
      have hcb : ((charsB[k]'hlt).toNat : Int) = ((Cm.chars.getD k 0).toNat : Int) := by rw [Hc.out]
      unfold charsB at hcb
      obtain ⟨x, hx⟩ : ∃ x, x = Cm.chars.getD k 0 := ⟨_, rfl⟩
      rw [← hx] at hcb
      have Hx := Lib.hid hx
      clear hx
      by_cases he : x = c
      · have g1 : ((x.toNat : Int) == (c.toNat : Int)) = true := by rw [he]; simp
        have Hz : Hid (z = (k : Int)) := Lib.hid (by rw [HZ.out, ← he, Hx.out]; exact ixc_char k hlt)
        clear he
        go_wp2
        go_ret
        exact ⟨by rw [Hz.out]; rfl, rfl⟩
      · have g1 : ((x.toNat : Int) == (c.toNat : Int)) = false := by
          rw [beq_eq_false_iff_ne]
          exact fun e => he (UInt8.toNat_inj.1 (by omega))
        have He := Lib.hid he
        clear he
        go_wp2
        go_round
        case rel => exact ⟨k + 1, by omega, by go_num, fun j hj => by
          by_cases e : j = k
          · subst e; rw [← Hx.out]; exact He.out
          · exact Hr.out j (by omega)⟩
        case measure => simp [intOf] <;> omega
    · obtain rfl : k = 37 := by omega
      have Hz : Hid (z = -1) := Lib.hid (HZ.out.trans (ixc_none c Hr.out))
      go_wp2
      go_ret
      exact ⟨by rw [Hz.out]; rfl, rfl⟩

/-- The index of a text that is one character, -1 of any other one. -/
def oneIx (s : ByteArray) : Int := match s.data.toList with | [c] => Cm.ixc c | _ => -1
theorem ref_one (s : ByteArray) (w : World) (hs : s.size ≤ 9223372036854775807) : Calls Tryz.prog 86 #[.string s] w fun e w' => e = .returned (.int .i64 (oneIx s)) ∧ w = w' := by
  by_cases h1 : s.size = 1
  · obtain ⟨c, rfl⟩ := data_of_one h1
    have e : oneIx ⟨#[c]⟩ = Cm.ixc c := rfl
    rw [e]
    have HA := Lib.hid (fun W => ref_at c W)
    generalize Cm.ixc c = z at HA
    clear h1 e
    go_enter Tryz.func86, Tryz.ntmps86
    go_wp2_with (go_at_call 111; refine (HA.out _).mono ?_; rintro e w1 ⟨rfl, rfl⟩)
    go_ret
    exact ⟨rfl, rfl⟩
  · have e : oneIx s = -1 := by
      have hl : s.data.toList.length ≠ 1 := by simpa using h1
      unfold oneIx
      split
      · rename_i c hc; rw [hc] at hl; exact absurd rfl hl
      · rfl
    have d1 : ((s.size : Int) != 1) = true := by rw [bne_iff_ne]; omega
    rw [e]
    clear e h1
    go_enter Tryz.func86, Tryz.ntmps86
    go_wp2
    go_ret
    exact ⟨rfl, rfl⟩
end Go.Proofs.YtgcddjgkieambaaGreatDoor
