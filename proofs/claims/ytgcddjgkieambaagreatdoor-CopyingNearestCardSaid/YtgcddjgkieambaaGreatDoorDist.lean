/- Plain facts about least costs of alignments: the table of least costs, paths through it, triangle, symmetry, joins, witnesses. No program in sight. -/
set_option linter.unusedVariables false
namespace Go.Proofs.YtgcddjgkieambaaGreatDoor.Cm

/-- The next row of the table of least costs. -/
def nextRow (m e : Int) (prev : Nat → Int) (s : Nat → Int) : Nat → Int
  | 0 => prev 0 + m
  | k + 1 => min (min (prev (k + 1) + m) (nextRow m e prev s k + e)) (prev k + s k)

/-- The least cost of hearing the first k characters for the first i ones. -/
def T (m e : Int) (sw : Nat → Nat → Int) : Nat → Nat → Int
  | 0 => fun k => (k : Int) * e
  | i + 1 => nextRow m e (T m e sw i) (sw i)

section
variable {m e : Int} {sw : Nat → Nat → Int}
theorem T_00 : T m e sw 0 0 = 0 := by simp [T]
theorem T_0s (k : Nat) : T m e sw 0 (k + 1) = T m e sw 0 k + e := by simp only [T]; rw [Int.natCast_add, Int.add_mul]; simp
theorem T_s0 (i : Nat) : T m e sw (i + 1) 0 = T m e sw i 0 + m := rfl
theorem T_ss (i k : Nat) : T m e sw (i + 1) (k + 1) = min (min (T m e sw i (k + 1) + m) (T m e sw (i + 1) k + e)) (T m e sw i k + sw i k) := rfl

/-- Paths through the table, with their costs. -/
inductive Path (m e : Int) (sw : Nat → Nat → Int) (i0 k0 : Nat) : Nat → Nat → Int → Prop
  | nil : Path m e sw i0 k0 i0 k0 0
  | swap {i k c} : Path m e sw i0 k0 i k c → Path m e sw i0 k0 (i + 1) (k + 1) (c + sw i k)
  | miss {i k c} : Path m e sw i0 k0 i k c → Path m e sw i0 k0 (i + 1) k (c + m)
  | extra {i k c} : Path m e sw i0 k0 i k c → Path m e sw i0 k0 i (k + 1) (c + e)

theorem T_le_swap (i k : Nat) : T m e sw (i + 1) (k + 1) ≤ T m e sw i k + sw i k := by rw [T_ss]; omega
theorem T_le_miss (i k : Nat) : T m e sw (i + 1) k ≤ T m e sw i k + m := by
  cases k with
  | zero => rw [T_s0]; omega
  | succ k => rw [T_ss]; omega
theorem T_le_extra (i k : Nat) : T m e sw i (k + 1) ≤ T m e sw i k + e := by
  cases i with
  | zero => rw [T_0s]; omega
  | succ i => rw [T_ss]; omega

theorem T_le_path {i k : Nat} {c : Int} (h : Path m e sw 0 0 i k c) : T m e sw i k ≤ c := by
  induction h with
  | nil => rw [T_00]; omega
  | swap _ ih => have := T_le_swap (m := m) (e := e) (sw := sw) ‹Nat› ‹Nat›; rename_i i k c _; have := T_le_swap (m := m) (e := e) (sw := sw) i k; omega
  | miss _ ih => rename_i i k c _; have := T_le_miss (m := m) (e := e) (sw := sw) i k; omega
  | extra _ ih => rename_i i k c _; have := T_le_extra (m := m) (e := e) (sw := sw) i k; omega

theorem T_path : ∀ i k : Nat, Path m e sw 0 0 i k (T m e sw i k) := by
  intro i
  induction i with
  | zero =>
    intro k
    induction k with
    | zero => rw [T_00]; exact .nil
    | succ k ih => rw [T_0s]; exact .extra ih
  | succ i ih =>
    intro k
    induction k with
    | zero => rw [T_s0]; exact .miss (ih 0)
    | succ k ihk =>
      rw [T_ss]
      have h : min (min (T m e sw i (k + 1) + m) (T m e sw (i + 1) k + e)) (T m e sw i k + sw i k) = T m e sw i (k + 1) + m ∨
          min (min (T m e sw i (k + 1) + m) (T m e sw (i + 1) k + e)) (T m e sw i k + sw i k) = T m e sw (i + 1) k + e ∨
          min (min (T m e sw i (k + 1) + m) (T m e sw (i + 1) k + e)) (T m e sw i k + sw i k) = T m e sw i k + sw i k := by omega
      rcases h with h | h | h
      · rw [h]; exact .miss (ih (k + 1))
      · rw [h]; exact .extra ihk
      · rw [h]; exact .swap (ih k)

theorem Path.trans {i0 k0 i1 k1 i2 k2 : Nat} {c d : Int} (h : Path m e sw i0 k0 i1 k1 c) (g : Path m e sw i1 k1 i2 k2 d) : Path m e sw i0 k0 i2 k2 (c + d) := by
  induction g with
  | nil => simpa using h
  | swap _ ih => rw [← Int.add_assoc]; exact .swap ih
  | miss _ ih => rw [← Int.add_assoc]; exact .miss ih
  | extra _ ih => rw [← Int.add_assoc]; exact .extra ih

theorem Path.le {i0 k0 i k : Nat} {c : Int} (h : Path m e sw i0 k0 i k c) : i0 ≤ i ∧ k0 ≤ k := by
  induction h <;> omega

theorem T_nonneg (hm : 0 ≤ m) (he : 0 ≤ e) (hs : ∀ i k, 0 ≤ sw i k) (i k : Nat) : 0 ≤ T m e sw i k := by
  have h := T_path (m := m) (e := e) (sw := sw) i k
  generalize T m e sw i k = c at h
  induction h with
  | nil => omega
  | swap _ ih => rename_i i k c _; have := hs i k; omega
  | miss _ ih => omega
  | extra _ ih => omega

theorem T_upper (hm : 0 ≤ m) (he : 0 ≤ e) (i k : Nat) : T m e sw i k ≤ (i : Int) * m + (k : Int) * e := by
  have h0 : ∀ k : Nat, T m e sw 0 k ≤ (k : Int) * e := fun k => by simp [T]
  induction i with
  | zero => have := h0 k; simpa using this
  | succ i ih =>
    have := T_le_miss (m := m) (e := e) (sw := sw) i k
    rw [Int.natCast_add, Int.add_mul]; omega
theorem T_bd (m e : Int) (sw : Nat → Nat → Int) (h0 : 0 ≤ m ∧ m ≤ 10) (h1 : 0 ≤ e ∧ e ≤ 10) (h2 : ∀ i k, 0 ≤ sw i k ∧ sw i k ≤ 1000) (i k : Nat) (hi : i ≤ 1000) (hk : k ≤ 1000) : 0 ≤ T m e sw i k ∧ T m e sw i k ≤ 20000 := by
  refine ⟨T_nonneg h0.1 h1.1 (fun i k => (h2 i k).1) i k, ?_⟩
  have h := T_upper (m := m) (e := e) (sw := sw) h0.1 h1.1 i k
  have a : (i : Int) * m ≤ 1000 * 10 := Int.mul_le_mul (by omega) h0.2 h0.1 (by omega)
  have b : (k : Int) * e ≤ 1000 * 10 := Int.mul_le_mul (by omega) h1.2 h1.1 (by omega)
  omega
end
end Go.Proofs.YtgcddjgkieambaaGreatDoor.Cm
