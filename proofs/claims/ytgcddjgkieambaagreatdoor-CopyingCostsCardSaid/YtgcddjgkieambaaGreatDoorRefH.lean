/- The walk of 'SameTables', for two tables of the same numbers. -/
import Derived.Test.YtgcddjgkieambaaGreatDoorHeard
import Derived.Test.YtgcddjgkieambaaGreatDoorAwake
set_option linter.unusedVariables false
set_option linter.unusedSimpArgs false
namespace Go.Proofs.YtgcddjgkieambaaGreatDoor
open Go.RowKit

set_option maxRecDepth 100000 in
set_option maxHeartbeats 4000000 in
theorem same_tabs (v v' : Value) (n m : Nat) (f : Nat → Nat → Int) (B B' : Nat) (w : World) (hn : n ≤ 1000) (hm : m ≤ 1000) (h : Tab w B v n m f) (h' : Tab w B' v' n m f) :
    Calls Tryz.prog 27 #[v, v'] w fun e w' => e = .returned (.bool true) ∧ ∃ q, w' = w.drewN q := by
  obtain ⟨g, r, rfl, _, hg, hr⟩ := h
  obtain ⟨g', r', rfl, _, hg', hr'⟩ := h'
  have HG := Lib.hid (And.intro hg hr)
  have HG' := Lib.hid (And.intro hg' hr')
  have d0 : ((n : Int) != (n : Int)) = false := by simp
  have d5 : ((m : Int) != (m : Int)) = false := by simp
  clear hg hr hg' hr'
  go_enter Tryz.func27, Tryz.ntmps27
  go_wp2
  go_loopw [5] (fun v5 wx => ∃ k q : Nat, k ≤ n ∧ v5 = .int .i64 k ∧ wx = w.drewN q) (fun v5 _ => n - (intOf v5).toNat)
  case atStart => exact ⟨0, 0, by omega, rfl, rfl⟩
  case round =>
    obtain ⟨k, q, hk, rfl, rfl⟩ := hrel
    by_cases hlt : k < n
    · have d1 : decide ((k : Int) < (n : Int)) = true := by simp; omega
      have d2 : (k : Int) < (n : Int) := by omega
      have d4 : (0 : Int) ≤ (k : Int) := by omega
      have q1 : IntKind.i64.wrap ((k : Int) + 1) = (k : Int) + 1 := IntWalk.i64_in _ (by omega)
      have cg := HG.out.1.cell hlt
      have cg' := HG'.out.1.cell hlt
      have HR := Lib.hid (HG.out.2 k hlt).2
      have HR' := Lib.hid (HG'.out.2 k hlt).2
      obtain ⟨b, hb⟩ : ∃ b, b = r k := ⟨_, rfl⟩
      obtain ⟨b', hb'⟩ : ∃ b, b = r' k := ⟨_, rfl⟩
      rw [← hb] at cg HR
      rw [← hb'] at cg' HR'
      clear hb hb'
      go_wp2
      go_quiet (fail)
      go_wp2
      go_loopw [6] (fun v6 wx => ∃ j q : Nat, j ≤ m ∧ v6 = .int .i64 j ∧ wx = w.drewN q) (fun v6 _ => m - (intOf v6).toNat)
      case atStart => exact ⟨0, q + nq, by omega, rfl, by first | rfl | exact drewN_two w q nq⟩
      case round =>
        obtain ⟨j, q', hj, rfl, rfl⟩ := hrel
        by_cases hjt : j < m
        · have f1 : decide ((j : Int) < (m : Int)) = true := by simp; omega
          have f2 : (j : Int) < (m : Int) := by omega
          have f4 : (0 : Int) ≤ (j : Int) := by omega
          have p1 : IntKind.i64.wrap ((j : Int) + 1) = (j : Int) + 1 := IntWalk.i64_in _ (by omega)
          have c1 := HR.out.cell hjt
          have c2 := HR'.out.cell hjt
          obtain ⟨z, hz⟩ : ∃ z, z = f k j := ⟨_, rfl⟩
          rw [← hz] at c1 c2
          have e0 : (z != z) = false := by simp
          clear hz
          go_wp2
          go_quiet (fail)
          go_wp2
          go_roundw
          case rel => exact ⟨j + 1, q' + nq, by omega, by go_num, by first | rfl | exact drewN_two w q' nq⟩
          case measure => simp [intOf] <;> omega
        · obtain rfl : j = m := by omega
          have f1 : decide ((j : Int) < (j : Int)) = false := by simp
          go_wp2
          go_roundw
          case rel => exact ⟨k + 1, q', by omega, by go_num, rfl⟩
          case measure => simp [intOf] <;> omega
    · obtain rfl : k = n := by omega
      have d1 : decide ((k : Int) < (k : Int)) = false := by simp
      go_wp2
      go_ret
      exact ⟨rfl, _, rfl⟩
theorem same_nil (w : World) : Calls Tryz.prog 27 #[.slice none 0 0, .slice none 0 0] w fun e w' => e = .returned (.bool true) ∧ ∃ q, w' = w.drewN q := by
  go_enter Tryz.func27, Tryz.ntmps27
  go_wp2
  go_loopw [5] (fun v5 wx => v5 = .int .i64 0 ∧ wx = w) (fun v5 _ => 0)
  case atStart => exact ⟨rfl, rfl⟩
  case round =>
    obtain ⟨rfl, rfl⟩ := hrel
    go_wp2
    go_ret
    exact ⟨rfl, 0, rfl⟩
end Go.Proofs.YtgcddjgkieambaaGreatDoor
