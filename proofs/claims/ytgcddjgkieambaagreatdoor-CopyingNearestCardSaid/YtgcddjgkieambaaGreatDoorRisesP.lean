/- Plain facts for CopyingRises and CopyingChains: how many numbers differ, what is rising. No program in sight. -/
import Derived.Test.YtgcddjgkieambaaGreatDoorRise
set_option linter.unusedVariables false
set_option linter.unusedSimpArgs false
namespace Go.Proofs.YtgcddjgkieambaaGreatDoor
open Go.RowKit

/-- The number ahead of place k, 0 ahead of the first. -/
def lastN (r : List Int) : Nat → Int
  | 0 => 0
  | k + 1 => r.getD k 0
/-- At how many of the first k places two lists differ. -/
def cnt (l r : List Int) : Nat → Nat
  | 0 => 0
  | k + 1 => if r.getD k 0 = l.getD k 0 then cnt l r k else cnt l r k + 1
theorem cnt_le (l r : List Int) : ∀ k, cnt l r k ≤ k
  | 0 => Nat.le_refl _
  | k + 1 => by have := cnt_le l r k; rw [cnt]; split <;> omega
theorem cnt_differ (l r : List Int) : ∀ k, k ≤ l.length → cnt l r k + Cm.differ l r (l.length - k) = Cm.differ l r l.length
  | 0, _ => by simp [cnt]
  | k + 1, h => by
    rw [← cnt_differ l r k (by omega), show l.length - k = (l.length - (k + 1)) + 1 by omega, Cm.differ, cnt, show l.length - (l.length - (k + 1) + 1) = k by omega]
    by_cases e : r.getD k 0 = l.getD k 0
    · rw [if_pos e, if_pos e.symm]
    · rw [if_neg e, if_neg (fun h => e h.symm)]; omega
theorem cnt_all (l r : List Int) : cnt l r l.length = Cm.differ l r l.length := by
  have := cnt_differ l r l.length (Nat.le_refl _)
  rwa [Nat.sub_self, Cm.differ, Nat.add_zero] at this

/-- Is the number at place k greater than the one ahead of it, and at most 99999? -/
def risAt (r : List Int) (k : Nat) : Bool := decide (lastN r k < r.getD k 0) && decide (r.getD k 0 ≤ 99999)
/-- Is a list rising? -/
def risB (r : List Int) : Bool := (List.range r.length).all (risAt r)
theorem risB_iff (r : List Int) : risB r = true ↔ ∀ k, k < r.length → risAt r k = true := by
  unfold risB; rw [List.all_eq_true]; simp only [List.mem_range]
theorem risB_no {r : List Int} {k : Nat} (hk : k < r.length) (h : risAt r k = false) : risB r = false := by
  cases e : risB r
  · rfl
  · have := (risB_iff r).1 e k hk
    rw [h] at this; exact absurd this (by decide)
theorem risB_nonneg {r : List Int} {n : Nat} (h : ∀ k, k < n → risAt r k = true) : ∀ k, k ≤ n → 0 ≤ lastN r k := by
  intro k
  induction k with
  | zero => intro _; exact Int.le_refl _
  | succ k ih =>
    intro hk
    have h1 := ih (by omega)
    have h2 := h k (by omega)
    unfold risAt at h2
    simp only [Bool.and_eq_true, decide_eq_true_eq] at h2
    show 0 ≤ r.getD k 0
    omega
theorem risB_rising (r : List Int) : risB r = true ↔ Cm.Rising r := by
  rw [risB_iff]
  constructor
  · intro h i hi
    have h1 := h i hi
    have h0 := risB_nonneg (n := r.length) h i (by omega)
    unfold risAt at h1
    simp only [Bool.and_eq_true, decide_eq_true_eq] at h1
    refine ⟨by omega, h1.2, fun hp => ?_⟩
    obtain ⟨j, rfl⟩ : ∃ j, i = j + 1 := ⟨i - 1, by omega⟩
    exact h1.1
  · intro h k hk
    have h1 := h k hk
    unfold risAt
    simp only [Bool.and_eq_true, decide_eq_true_eq]
    refine ⟨?_, h1.2.1⟩
    cases k with
    | zero => show 0 < _; omega
    | succ k => exact h1.2.2 (by omega)

/-- The error of a check of changed numbers, and how many differ. -/
def ckE (l r : List Int) : Int := if serErr l ≠ 0 then serErr l else if l.length = r.length then (if risB r then 0 else 43) else 43
def ckN (l r : List Int) : Int := if ckE l r = 0 then (cnt l r l.length : Nat) else 0
theorem ckE_ok {l r : List Int} (h : ckE l r = 0) : serErr l = 0 ∧ l.length = r.length ∧ risB r = true := by
  unfold ckE at h
  split at h
  · exact absurd h ‹_›
  · split at h
    · split at h
      · exact ⟨Classical.not_not.1 ‹_›, ‹_›, ‹_›⟩
      · omega
    · omega
theorem ckE_mk {l r : List Int} (h : serErr l = 0) (h1 : l.length = r.length) (h2 : risB r = true) : ckE l r = 0 := by
  unfold ckE; rw [if_neg (fun e => e h), if_pos h1, if_pos h2]
theorem serErr_len {l : List Int} (h : serErr l = 0) : l.length ≤ 400 := by unfold serErr at h; split at h <;> omega
/-- The rising list that is returned is accepted, and differs at as many places as there are numbers that do not stay. -/
theorem rises_own {l : List Int} (h : serErr l = 0) : ckE l (Cm.rise l (Cm.chain l)) = 0 ∧ ckN l (Cm.rise l (Cm.chain l)) = (l.length : Int) - ((Cm.chain l).length : Int) := by
  have hl := serErr_len h
  have h1 : ckE l (Cm.rise l (Cm.chain l)) = 0 := ckE_mk h (Cm.rise_length _).symm ((risB_rising _).2 (Cm.rise_rising hl))
  refine ⟨h1, ?_⟩
  have h2 := Cm.rise_differ (l := l) hl
  have h3 := Cm.chain_length (l := l)
  have h4 := Cm.best_le (l := l)
  rw [ckN, if_pos h1, cnt_all, h2]; omega
/-- No rising list differs at fewer places. -/
theorem rises_least {l r : List Int} (h : ckE l r = 0) : (l.length : Int) - ((Cm.chain l).length : Int) ≤ ckN l r := by
  obtain ⟨h1, h2, h3⟩ := ckE_ok h
  have h4 := Cm.differ_ge ((risB_rising r).1 h3) h2.symm
  have h5 := Cm.chain_length (l := l)
  have h6 := Cm.best_le (l := l)
  rw [ckN, if_pos h, cnt_all]; omega
end Go.Proofs.YtgcddjgkieambaaGreatDoor
