/- The walks of 'indices': the texts of characters as their indices, or the error of the texts. -/
import Derived.Test.YtgcddjgkieambaaGreatDoorHeard
set_option linter.unusedVariables false
set_option linter.unusedSimpArgs false
namespace Go.Proofs.YtgcddjgkieambaaGreatDoor
open Go.RowKit

/-- A slice of texts in memory, from the head of a block. -/
def Strs (w : World) (b : Nat) (L : List ByteArray) : Prop := b < w.heap.size ∧ ∀ j, j < L.length → w.cell? ⟨b, j, none⟩ = some (.string (L.getD j ByteArray.empty))
theorem Strs.later {w w' : World} {b : Nat} {L : List ByteArray} (h : Strs w b L) (hb : Below w.heap.size w w') : Strs w' b L :=
  ⟨Nat.lt_of_lt_of_le h.1 hb.size, fun j hj => (hb.cell (p := ⟨b, j, none⟩) h.1).trans (h.2 j hj)⟩

theorem long_any (s : ByteArray) (w : World) : Calls Tryz.prog 121 #[.string s] w fun e w' => e = .returned (.bool (decide (64 < (s.size : Int)))) ∧ w = w' := by
  go_enter Tryz.func121, Tryz.ntmps121
  go_wp2
  go_ret
  exact ⟨rfl, rfl⟩

theorem getD_get {α : Type} (l : List α) (d : α) {j : Nat} (h : j < l.length) : l.getD j d = l[j] := by simp [List.getD, List.getElem?_eq_getElem h]
/-- The first text that is too long, or -1. -/
def firstLong (L : List ByteArray) : Int := match L.findIdx? (fun s => decide (64 < s.size)) with | some i => (i : Int) | none => -1

theorem firstLong_at {L : List ByteArray} {k : Nat} (hk : k < L.length) (h : ∀ j, j < k → (L.getD j ByteArray.empty).size ≤ 64) (hl : 64 < (L.getD k ByteArray.empty).size) : (k : Int) = firstLong L := by
  have e : L.findIdx? (fun s => decide (64 < s.size)) = some k := by
    rw [List.findIdx?_eq_some_iff_getElem]
    refine ⟨hk, ?_, fun j hj => ?_⟩
    · rw [getD_get _ _ hk] at hl; simpa using hl
    · have := h j hj
      rw [getD_get _ _ (by omega)] at this
      simpa using this
  rw [firstLong, e]
theorem firstLong_none {L : List ByteArray} (h : ∀ j, j < L.length → (L.getD j ByteArray.empty).size ≤ 64) : firstLong L = -1 := by
  have e : L.findIdx? (fun s => decide (64 < s.size)) = none := by
    rw [List.findIdx?_eq_none_iff]
    intro s hs
    obtain ⟨j, hj, rfl⟩ := List.getElem_of_mem hs
    have := h j hj
    rw [getD_get _ _ hj] at this
    simpa using this
  rw [firstLong, e]

theorem indexFunc_strs (b c : Nat) (L : List ByteArray) (w : World) (hL : L.length ≤ 1000000) (h : Strs w b L) :
    Calls Tryz.prog 138 #[.slice (some ⟨b, 0, none⟩) L.length c, .func (.func 121) #[] #[]] w fun e w' => e = .returned (.int .i64 (firstLong L)) ∧ w = w' := by
  go_enter Tryz.func138, Tryz.ntmps138
  go_wp2
  go_loop [8] (fun i => ∃ k : Nat, k ≤ L.length ∧ i = .int .i64 k ∧ ∀ j, j < k → (L.getD j ByteArray.empty).size ≤ 64) (fun i => L.length - (intOf i).toNat)
  case atStart => exact ⟨0, Nat.zero_le _, rfl, fun j hj => absurd hj (by omega)⟩
  case round =>
    obtain ⟨k, hk, rfl, hr⟩ := hrel
    by_cases hlt : k < L.length
    · obtain ⟨s, hs⟩ : ∃ s, s = L.getD k ByteArray.empty := ⟨_, rfl⟩
      have hc := h.2 k hlt
      rw [← hs] at hc
      have Hs := Lib.hid hs
      have Hr := Lib.hid hr
      clear hs hr
      by_cases hl : 64 < s.size
      · have hd : decide (64 < (s.size : Int)) = true := by simp; omega
        go_wp2_with (go_at_call 121; refine (long_any _ _).mono ?_; rintro e w' ⟨rfl, rfl⟩)
        go_ret
        exact ⟨ret_int (firstLong_at hlt (fun j hj => Hr.out j hj) (by rw [← Hs.out]; exact hl)), rfl⟩
      · have hd : decide (64 < (s.size : Int)) = false := by simp; omega
        go_wp2_with (go_at_call 121; refine (long_any _ _).mono ?_; rintro e w' ⟨rfl, rfl⟩)
        go_round
        case rel => exact ⟨k + 1, by omega, by go_num, fun j hj => by
          by_cases e : j = k
          · subst e; rw [← Hs.out]; omega
          · exact Hr.out j (by omega)⟩
        case measure => simp [intOf]; omega
    · have hk' : k = L.length := by omega
      have Hr := Lib.hid hr
      have Hk := Lib.hid hk'
      clear hr hk'
      go_wp2
      go_ret
      exact ⟨ret_int ((firstLong_none (L := L) (fun j hj => Hr.out j (by rw [Hk.out]; exact hj))).symm), rfl⟩

theorem containsLong (b c : Nat) (L : List ByteArray) (w : World) (hL : L.length ≤ 1000000) (h : Strs w b L) (B : Bool) (hB : decide (0 ≤ firstLong L) = B) :
    Calls Tryz.prog 120 #[.slice (some ⟨b, 0, none⟩) L.length c, .func (.func 121) #[] #[]] w fun e w' => e = .returned (.bool B) ∧ w = w' := by
  have hc := indexFunc_strs b c L w hL h
  obtain ⟨z, hz⟩ : ∃ z, z = firstLong L := ⟨_, rfl⟩
  rw [← hz] at hc hB
  have HC := Lib.hid hc
  clear hc hz h
  go_enter Tryz.func120, Tryz.ntmps120
  go_wp2_with (go_at_call 138; refine HC.out.mono ?_; rintro e w' ⟨rfl, rfl⟩)
  go_ret
  exact ⟨rfl, rfl⟩

set_option maxRecDepth 100000 in
theorem indices_long (b c : Nat) (L : List ByteArray) (w : World) (hL : L.length ≤ 1000000) (h : Strs w b L) (hl : ∃ s ∈ L, 64 < s.size) :
    Calls Tryz.prog 96 #[.slice (some ⟨b, 0, none⟩) L.length c] w fun e w' => e = .returned (.tuple #[.slice none 0 0, .int .i64 2]) ∧ w = w' := by
  have hd : decide (0 ≤ firstLong L) = true := by
    have : firstLong L ≠ -1 := fun e => by
      obtain ⟨s, hs, hl⟩ := hl
      unfold firstLong at e
      split at e
      · omega
      · rename_i hn
        have := List.findIdx?_eq_none_iff.1 hn s hs
        simp at this; omega
    have h2 : firstLong L = -1 ∨ 0 ≤ firstLong L := by unfold firstLong; split <;> omega
    simp; omega
  have hc := Lib.hid (containsLong b c L w hL h true hd)
  clear h hl hd
  go_enter Tryz.func96, Tryz.ntmps96
  go_wp2_with (go_at_call 120; refine hc.out.mono ?_; rintro e w' ⟨rfl, rfl⟩)
  go_ret2
  exact ⟨rfl, rfl⟩
end Go.Proofs.YtgcddjgkieambaaGreatDoor
