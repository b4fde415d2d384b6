/- Plain facts about the first alignment of least cost: what is left, step by step; where it is cut in two. No program in sight. -/
import Derived.Test.YtgcddjgkieambaaGreatDoorAlignA
import Derived.Test.YtgcddjgkieambaaGreatDoorPlain
set_option linter.unusedVariables false
set_option linter.unusedSimpArgs false
namespace Go.Proofs.YtgcddjgkieambaaGreatDoor.Cm

section
variable {mode : Int} {s h : List Nat} {i k : Nat}
def atL (mode : Int) (s h : List Nat) (i k : Nat) : Int := sw mode (s.getD i 0) (h.getD k 0)
theorem Lf_ss (hi : i < s.length) (hk : k < h.length) : Lf mode s h i k = min (min (missC mode + Lf mode s h (i + 1) k) (extraC mode + Lf mode s h i (k + 1))) (atL mode s h i k + Lf mode s h (i + 1) (k + 1)) := by
  unfold Lf atL
  rw [show s.length - i = (s.length - (i + 1)) + 1 by omega, show h.length - k = (h.length - (k + 1)) + 1 by omega, T_ss]
  rw [show s.length - (i + 1) = s.length - 1 - i by omega, show h.length - (k + 1) = h.length - 1 - k by omega, getD_rev s i hi, getD_rev h k hk]
  omega
theorem Lf_miss (hi : i < s.length) (hk : h.length ≤ k) : Lf mode s h i k = missC mode + Lf mode s h (i + 1) k := by
  unfold Lf
  rw [show s.length - i = (s.length - (i + 1)) + 1 by omega, show h.length - k = 0 by omega, T_s0]
  omega
theorem Lf_extra (hi : s.length ≤ i) (hk : k < h.length) : Lf mode s h i k = extraC mode + Lf mode s h i (k + 1) := by
  unfold Lf
  rw [show s.length - i = 0 by omega, show h.length - k = (h.length - (k + 1)) + 1 by omega, T_0s]
  omega
theorem Lf_end (hi : s.length ≤ i) (hk : h.length ≤ k) : Lf mode s h i k = 0 := by
  unfold Lf
  rw [show s.length - i = 0 by omega, show h.length - k = 0 by omega, T_00]
theorem Lf_lc (hi : i ≤ s.length) (hk : k ≤ h.length) : Lf mode s h i k = mc mode (s.drop i) (h.drop k) := T_left s h i k hi hk
theorem Lf_bd (hs : s.length ≤ 64) (hh : h.length ≤ 64) : 0 ≤ Lf mode s h i k ∧ Lf mode s h i k ≤ 20000 :=
  T_bd _ _ _ (missC_bd mode) (extraC_bd mode) (fun _ _ => sw_bd _ _ _) _ _ (by omega) (by omega)
theorem atL_bd : 0 ≤ atL mode s h i k ∧ atL mode s h i k ≤ 1000 := sw_bd _ _ _
end

/-- The first alignment of least cost of two texts. -/
def ali (mode : Int) (s h : List Nat) : List (Int × Int × Int) := alFrom s.length h.length (Lf mode s h) (atL mode s h) (missC mode) (extraC mode) (s.length + h.length) 0 0

/-- Where the first steps of an alignment lead: both places, and what they cost. -/
def led : List (Int × Int × Int) → Nat → Nat → Int → Nat × Nat × Int
  | [], i, k, c => (i, k, c)
  | x :: l, i, k, c => led l (if 0 ≤ x.1 then i + 1 else i) (if 0 ≤ x.2.1 then k + 1 else k) (c + x.2.2)

theorem led_al (mode : Int) (s h : List Nat) : ∀ (f i k : Nat) (c : Int) (j : Nat), i ≤ s.length → k ≤ h.length → (s.length - i) + (h.length - k) ≤ f → Path (missC mode) (extraC mode) (atL mode s h) 0 0 i k c → c + Lf mode s h i k = Lf mode s h 0 0 →
    ∃ i' k' c', led ((alFrom s.length h.length (Lf mode s h) (atL mode s h) (missC mode) (extraC mode) f i k).take j) i k c = (i', k', c') ∧ i' ≤ s.length ∧ k' ≤ h.length ∧ Path (missC mode) (extraC mode) (atL mode s h) 0 0 i' k' c' ∧ c' + Lf mode s h i' k' = Lf mode s h 0 0 := by
  intro f
  induction f with
  | zero =>
    intro i k c j hi hk hf hp hc
    exact ⟨i, k, c, by simp [alFrom, led], hi, hk, hp, hc⟩
  | succ f ih =>
    intro i k c j hi hk hf hp hc
    cases j with
    | zero => exact ⟨i, k, c, by simp [led], hi, hk, hp, hc⟩
    | succ j =>
      by_cases h1 : i < s.length ∧ k < h.length ∧ Lf mode s h i k = atL mode s h i k + Lf mode s h (i + 1) (k + 1)
      · rw [alFrom_swap h1.1 h1.2.1 h1.2.2, List.take_succ_cons, led]
        simp only [Int.natCast_nonneg, if_true]
        exact ih (i + 1) (k + 1) _ j (by omega) (by omega) (by omega) (.swap hp) (by omega)
      · by_cases h2 : i < s.length ∧ Lf mode s h i k = missC mode + Lf mode s h (i + 1) k
        · rw [alFrom_miss h2.1 (fun e => h1 ⟨h2.1, e.1, e.2⟩) h2.2, List.take_succ_cons, led]
          simp only [Int.natCast_nonneg, if_true, show ¬ (0 : Int) ≤ -1 by omega, if_false]
          exact ih (i + 1) k _ j (by omega) (by omega) (by omega) (.miss hp) (by omega)
        · by_cases h3 : k < h.length
          · rw [alFrom_extra h3 (fun e => h1 ⟨e.1, h3, e.2⟩) h2, List.take_succ_cons, led]
            simp only [Int.natCast_nonneg, if_true, show ¬ (0 : Int) ≤ -1 by omega, if_false]
            refine ih i (k + 1) _ j (by omega) (by omega) (by omega) (.extra hp) ?_
            by_cases h4 : i < s.length
            · have := Lf_ss (mode := mode) (s := s) (h := h) h4 h3
              omega
            · have := Lf_extra (mode := mode) (s := s) (h := h) (i := i) (k := k) (by omega) h3
              omega
          · by_cases h4 : i < s.length
            · exact absurd ⟨h4, Lf_miss h4 (by omega)⟩ h2
            · rw [alFrom_end h4 h3, List.take_nil, led]
              exact ⟨i, k, c, rfl, hi, hk, hp, hc⟩

/-- Where an alignment of least cost is cut in two, both parts cost least. -/
theorem ali_cut (mode : Int) (s h : List Nat) (j : Nat) : ∃ i k c, led ((ali mode s h).take j) 0 0 0 = (i, k, c) ∧ i ≤ s.length ∧ k ≤ h.length ∧ c = mc mode (s.take i) (h.take k) ∧ c + mc mode (s.drop i) (h.drop k) = mc mode s h := by
  obtain ⟨i, k, c, h1, h2, h3, h4, h5⟩ := led_al mode s h (s.length + h.length) 0 0 0 j (by omega) (by omega) (by omega) .nil (by omega)
  have e0 := Lf_lc (mode := mode) (s := s) (h := h) (i := 0) (k := 0) (by omega) (by omega)
  rw [List.drop_zero, List.drop_zero] at e0
  have e1 := Lf_lc (mode := mode) (s := s) (h := h) h2 h3
  refine ⟨i, k, c, h1, h2, h3, ?_, by omega⟩
  have hp : mc mode (s.take i) (h.take k) ≤ c := by
    unfold mc lc
    rw [List.length_take, List.length_take, Nat.min_eq_left h2, Nat.min_eq_left h3]
    refine T_le_path (h4.congr fun x y hx hy => ?_)
    unfold atL
    simp only [List.getD, List.getElem?_take, hx, hy, if_true]
  have hj := mc_join mode (s.take i) (h.take k) (s.drop i) (h.drop k)
  rw [List.take_append_drop, List.take_append_drop] at hj
  omega
/-- The whole alignment. -/
theorem ali_all (mode : Int) (s h : List Nat) : ∃ f, ali mode s h = alFrom s.length h.length (Lf mode s h) (atL mode s h) (missC mode) (extraC mode) f 0 0 ∧ s.length + h.length ≤ f := ⟨_, rfl, Nat.le_refl _⟩
end Go.Proofs.YtgcddjgkieambaaGreatDoor.Cm
