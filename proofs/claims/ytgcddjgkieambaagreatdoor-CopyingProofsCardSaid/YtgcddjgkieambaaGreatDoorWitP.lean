/- Plain facts for CopyingWitness and CopyingProofs: which alignments and which tables are accepted, and what they prove. No program in sight. -/
import Derived.Test.YtgcddjgkieambaaGreatDoorAlignP
set_option linter.unusedVariables false
set_option linter.unusedSimpArgs false
namespace Go.Proofs.YtgcddjgkieambaaGreatDoor.Cm

/-- Where one step of an alignment leads from the places i and k; none: it is not correct. -/
def ckStep (n m : Nat) (at_ : Nat → Nat → Int) (ms ex : Int) (i k : Nat) (x : Int × Int × Int) : Option (Nat × Nat) :=
  if i < n ∧ k < m ∧ x = ((i : Int), (k : Int), at_ i k) then some (i + 1, k + 1)
  else if i < n ∧ x = ((i : Int), -1, ms) then some (i + 1, k)
  else if k < m ∧ x = (-1, (k : Int), ex) then some (i, k + 1) else none
def ckNext (n m : Nat) (at_ : Nat → Nat → Int) (ms ex : Int) (p : Nat × Nat × Int) (x : Int × Int × Int) : Option (Nat × Nat × Int) :=
  (ckStep n m at_ ms ex p.1 p.2.1 x).map fun q => (q.1, q.2, p.2.2 + x.2.2)
def ckFrom (n m : Nat) (at_ : Nat → Nat → Int) (ms ex : Int) : List (Int × Int × Int) → Nat × Nat × Int → Option (Nat × Nat × Int)
  | [], p => some p
  | x :: l, p => (ckNext n m at_ ms ex p x).bind (ckFrom n m at_ ms ex l)

section
variable {n m : Nat} {at_ : Nat → Nat → Int} {ms ex : Int}
theorem ckFrom_append (l l' : List (Int × Int × Int)) : ∀ p, ckFrom n m at_ ms ex (l ++ l') p = (ckFrom n m at_ ms ex l p).bind (ckFrom n m at_ ms ex l') := by
  induction l with
  | nil => intro p; rfl
  | cons x l ih =>
    intro p
    show (ckNext n m at_ ms ex p x).bind (ckFrom n m at_ ms ex (l ++ l')) = ((ckNext n m at_ ms ex p x).bind (ckFrom n m at_ ms ex l)).bind _
    cases ckNext n m at_ ms ex p x with
    | none => rfl
    | some q => exact ih q
theorem take_next {α : Type} (l : List α) (d : α) (j : Nat) (h : j < l.length) : l.take (j + 1) = l.take j ++ [l.getD j d] := by
  rw [List.take_add_one, List.getElem?_eq_getElem h, List.getD, List.getElem?_eq_getElem h]; rfl
theorem ckFrom_next (l : List (Int × Int × Int)) (j : Nat) (h : j < l.length) (p : Nat × Nat × Int) : ckFrom n m at_ ms ex (l.take (j + 1)) p = (ckFrom n m at_ ms ex (l.take j) p).bind fun q => ckNext n m at_ ms ex q (l.getD j (0, 0, 0)) := by
  rw [take_next l (0, 0, 0) j h, ckFrom_append]
  congr 1
  funext q
  show (ckNext n m at_ ms ex q _).bind (fun r => some r) = _
  cases ckNext n m at_ ms ex q (l.getD j (0, 0, 0)) <;> rfl
theorem ckFrom_fail (l : List (Int × Int × Int)) (j : Nat) (p : Nat × Nat × Int) (h : ckFrom n m at_ ms ex (l.take j) p = none) : ckFrom n m at_ ms ex l p = none := by
  rw [← List.take_append_drop j l, ckFrom_append, h]; rfl
theorem ckStep_some {i k i' k' : Nat} {x : Int × Int × Int} (h : ckStep n m at_ ms ex i k x = some (i', k')) :
    (i < n ∧ k < m ∧ x = ((i : Int), (k : Int), at_ i k) ∧ i' = i + 1 ∧ k' = k + 1) ∨ (i < n ∧ x = ((i : Int), -1, ms) ∧ i' = i + 1 ∧ k' = k) ∨ (k < m ∧ x = (-1, (k : Int), ex) ∧ i' = i ∧ k' = k + 1) := by
  unfold ckStep at h
  split at h
  · rename_i h1; cases h; exact .inl ⟨h1.1, h1.2.1, h1.2.2, rfl, rfl⟩
  · split at h
    · rename_i h1; cases h; exact .inr (.inl ⟨h1.1, h1.2, rfl, rfl⟩)
    · split at h
      · rename_i h1; cases h; exact .inr (.inr ⟨h1.1, h1.2, rfl, rfl⟩)
      · cases h
theorem ckNext_path {p q : Nat × Nat × Int} {x : Int × Int × Int} (h : ckNext n m at_ ms ex p x = some q) (hp : Path ms ex at_ 0 0 p.1 p.2.1 p.2.2) (hi : p.1 ≤ n ∧ p.2.1 ≤ m) : Path ms ex at_ 0 0 q.1 q.2.1 q.2.2 ∧ q.1 ≤ n ∧ q.2.1 ≤ m := by
  unfold ckNext at h
  rw [Option.map_eq_some_iff] at h
  obtain ⟨⟨i', k'⟩, h1, rfl⟩ := h
  rcases ckStep_some h1 with ⟨a, b, rfl, rfl, rfl⟩ | ⟨a, rfl, rfl, rfl⟩ | ⟨a, rfl, rfl, rfl⟩
  · exact ⟨.swap hp, a, b⟩
  · exact ⟨.miss hp, a, hi.2⟩
  · exact ⟨.extra hp, hi.1, a⟩
theorem ckFrom_path : ∀ (l : List (Int × Int × Int)) {p q : Nat × Nat × Int}, ckFrom n m at_ ms ex l p = some q → Path ms ex at_ 0 0 p.1 p.2.1 p.2.2 → p.1 ≤ n ∧ p.2.1 ≤ m → Path ms ex at_ 0 0 q.1 q.2.1 q.2.2 ∧ q.1 ≤ n ∧ q.2.1 ≤ m
  | [], p, q, h, hp, hi => by cases h; exact ⟨hp, hi⟩
  | x :: l, p, q, h, hp, hi => by
    rw [ckFrom, Option.bind_eq_some_iff] at h
    obtain ⟨r, h1, h2⟩ := h
    obtain ⟨a, b⟩ := ckNext_path h1 hp hi
    exact ckFrom_path l h2 a b
theorem path_bd {i k : Nat} {c : Int} (h : Path ms ex at_ 0 0 i k c) (hm : 0 ≤ ms ∧ ms ≤ 10) (he : 0 ≤ ex ∧ ex ≤ 10) (ha : ∀ i k, 0 ≤ at_ i k ∧ at_ i k ≤ 1000) : 0 ≤ c ∧ c ≤ 1000 * ((i : Int) + k) := by
  induction h with
  | nil => omega
  | swap _ ih => rename_i i k c _; have := ha i k; omega
  | miss _ ih => omega
  | extra _ ih => omega

/-- Are the three inequalities at one cell of a table kept? -/
def cellOk (n m : Nat) (at_ : Nat → Nat → Int) (ms ex : Int) (f : Nat → Nat → Int) (i k : Nat) : Bool :=
  (decide (i = n) || decide (f (i + 1) k ≤ f i k + ms)) && (decide (k = m) || decide (f i (k + 1) ≤ f i k + ex)) && (decide (i = n) || (decide (k = m) || decide (f (i + 1) (k + 1) ≤ f i k + at_ i k)))
def rowOk (n m : Nat) (at_ : Nat → Nat → Int) (ms ex : Int) (f : Nat → Nat → Int) (i K : Nat) : Bool := (List.range K).all (cellOk n m at_ ms ex f i)
def rowsOk (n m : Nat) (at_ : Nat → Nat → Int) (ms ex : Int) (f : Nat → Nat → Int) (I : Nat) : Bool := (List.range I).all fun i => rowOk n m at_ ms ex f i (m + 1)
def tabOk (n m : Nat) (at_ : Nat → Nat → Int) (ms ex : Int) (f : Nat → Nat → Int) : Bool := decide (f 0 0 = 0) && rowsOk n m at_ ms ex f (n + 1)
theorem all_range_succ (K : Nat) (p : Nat → Bool) : (List.range (K + 1)).all p = ((List.range K).all p && p K) := by rw [List.range_succ, List.all_append]; simp
theorem rowOk_succ (f : Nat → Nat → Int) (i K : Nat) : rowOk n m at_ ms ex f i (K + 1) = (rowOk n m at_ ms ex f i K && cellOk n m at_ ms ex f i K) := all_range_succ _ _
theorem rowsOk_succ (f : Nat → Nat → Int) (I : Nat) : rowsOk n m at_ ms ex f (I + 1) = (rowsOk n m at_ ms ex f I && rowOk n m at_ ms ex f I (m + 1)) := all_range_succ _ _
theorem rowOk_iff (f : Nat → Nat → Int) (i K : Nat) : rowOk n m at_ ms ex f i K = true ↔ ∀ k, k < K → cellOk n m at_ ms ex f i k = true := by unfold rowOk; rw [List.all_eq_true]; simp only [List.mem_range]
theorem rowsOk_iff (f : Nat → Nat → Int) (I : Nat) : rowsOk n m at_ ms ex f I = true ↔ ∀ i, i < I → ∀ k, k < m + 1 → cellOk n m at_ ms ex f i k = true := by unfold rowsOk; rw [List.all_eq_true]; simp only [List.mem_range, rowOk_iff]
theorem tabOk_iff (f : Nat → Nat → Int) : tabOk n m at_ ms ex f = true ↔ f 0 0 = 0 ∧ ∀ i, i ≤ n → ∀ k, k ≤ m → cellOk n m at_ ms ex f i k = true := by
  unfold tabOk
  rw [Bool.and_eq_true, decide_eq_true_iff, rowsOk_iff]
  constructor
  · rintro ⟨a, b⟩; exact ⟨a, fun i hi k hk => b i (by omega) k (by omega)⟩
  · rintro ⟨a, b⟩; exact ⟨a, fun i hi k hk => b i (by omega) k (by omega)⟩
theorem tabOk_path {f : Nat → Nat → Int} (h : tabOk n m at_ ms ex f = true) {i k : Nat} {c : Int} (hp : Path ms ex at_ 0 0 i k c) : i ≤ n → k ≤ m → f i k ≤ c := by
  obtain ⟨h0, h1⟩ := (tabOk_iff f).1 h
  induction hp with
  | nil => intro _ _; omega
  | swap _ ih =>
    rename_i i k c _
    intro hi hk
    have := h1 i (by omega) k (by omega)
    unfold cellOk at this
    simp only [Bool.and_eq_true, Bool.or_eq_true, decide_eq_true_eq] at this
    have := ih (by omega) (by omega)
    omega
  | miss _ ih =>
    rename_i i k c _
    intro hi hk
    have := h1 i (by omega) k (by omega)
    unfold cellOk at this
    simp only [Bool.and_eq_true, Bool.or_eq_true, decide_eq_true_eq] at this
    have := ih (by omega) (by omega)
    omega
  | extra _ ih =>
    rename_i i k c _
    intro hi hk
    have := h1 i (by omega) k (by omega)
    unfold cellOk at this
    simp only [Bool.and_eq_true, Bool.or_eq_true, decide_eq_true_eq] at this
    have := ih (by omega) (by omega)
    omega
/-- A table that keeps the inequalities is at most the least cost. -/
theorem tabOk_le {f : Nat → Nat → Int} (h : tabOk n m at_ ms ex f = true) : f n m ≤ T ms ex at_ n m := tabOk_path h (T_path n m) (Nat.le_refl _) (Nat.le_refl _)
/-- The table of least costs keeps them. -/
theorem tabOk_T : tabOk n m at_ ms ex (T ms ex at_) = true := by
  rw [tabOk_iff]
  refine ⟨T_00, fun i _ k _ => ?_⟩
  have h1 := T_le_miss (m := ms) (e := ex) (sw := at_) i k
  have h2 := T_le_extra (m := ms) (e := ex) (sw := at_) i k
  have h3 := T_le_swap (m := ms) (e := ex) (sw := at_) i k
  unfold cellOk
  simp [h1, h2, h3]
theorem cellOk_congr {f g : Nat → Nat → Int} (h : ∀ i k, i ≤ n → k ≤ m → f i k = g i k) {i k : Nat} (hi : i ≤ n) (hk : k ≤ m) : cellOk n m at_ ms ex f i k = cellOk n m at_ ms ex g i k := by
  unfold cellOk
  rw [h i k hi hk]
  by_cases e1 : i = n
  · by_cases e2 : k = m
    · simp [e1, e2]
    · rw [h i (k + 1) hi (by omega)]; simp [e1, e2]
  · rw [h (i + 1) k (by omega) hk]
    by_cases e2 : k = m
    · simp [e1, e2]
    · rw [h i (k + 1) hi (by omega), h (i + 1) (k + 1) (by omega) (by omega)]
end

/-- What an alignment that is offered costs; none: it is not correct. -/
def ckAl (mode : Int) (s h : List Nat) (l : List (Int × Int × Int)) : Option Int :=
  match ckFrom s.length h.length (atL mode s h) (missC mode) (extraC mode) l (0, 0, 0) with
  | some (i, k, c) => if i < s.length ∨ k < h.length then none else some c
  | none => none
/-- No correct alignment costs less than the least cost. -/
theorem ckAl_ge {mode : Int} {s h : List Nat} {l : List (Int × Int × Int)} {c : Int} (e : ckAl mode s h l = some c) : mc mode s h ≤ c := by
  unfold ckAl at e
  split at e
  · rename_i i k c' he
    split at e
    · cases e
    · cases e
      have := ckFrom_path l he (.nil) ⟨Nat.zero_le _, Nat.zero_le _⟩
      have hi : i = s.length := by have := this.2.1; simp only at this; omega
      have hk : k = h.length := by have := this.2.2; simp only at this; omega
      subst hi hk
      exact T_le_path this.1
  · cases e

theorem ckNext_swap {n m : Nat} {at_ : Nat → Nat → Int} {ms ex : Int} {i k : Nat} (c : Int) (h1 : i < n) (h2 : k < m) : ckNext n m at_ ms ex (i, k, c) ((i : Int), (k : Int), at_ i k) = some (i + 1, k + 1, c + at_ i k) := by
  unfold ckNext ckStep
  rw [if_pos ⟨h1, h2, rfl⟩]; rfl
theorem ckNext_miss {n m : Nat} {at_ : Nat → Nat → Int} {ms ex : Int} {i k : Nat} (c : Int) (h1 : i < n) : ckNext n m at_ ms ex (i, k, c) ((i : Int), -1, ms) = some (i + 1, k, c + ms) := by
  unfold ckNext ckStep
  rw [if_neg (fun h => by have := h.2.2; simp only [Prod.mk.injEq] at this; omega), if_pos ⟨h1, rfl⟩]; rfl
theorem ckNext_extra {n m : Nat} {at_ : Nat → Nat → Int} {ms ex : Int} {i k : Nat} (c : Int) (h1 : k < m) : ckNext n m at_ ms ex (i, k, c) (-1, (k : Int), ex) = some (i, k + 1, c + ex) := by
  unfold ckNext ckStep
  rw [if_neg (fun h => by have := h.2.2; simp only [Prod.mk.injEq] at this; omega), if_neg (fun h => by have := h.2; simp only [Prod.mk.injEq] at this; omega), if_pos ⟨h1, rfl⟩]; rfl
theorem ck_al (mode : Int) (s h : List Nat) : ∀ (f i k : Nat) (c : Int), i ≤ s.length → k ≤ h.length → (s.length - i) + (h.length - k) ≤ f →
    ckFrom s.length h.length (atL mode s h) (missC mode) (extraC mode) (alFrom s.length h.length (Lf mode s h) (atL mode s h) (missC mode) (extraC mode) f i k) (i, k, c) = some (s.length, h.length, c + Lf mode s h i k) := by
  intro f
  induction f with
  | zero =>
    intro i k c hi hk hf
    obtain rfl : i = s.length := by omega
    obtain rfl : k = h.length := by omega
    rw [Lf_end (Nat.le_refl _) (Nat.le_refl _)]
    simp [alFrom, ckFrom]
  | succ f ih =>
    intro i k c hi hk hf
    by_cases h1 : i < s.length ∧ k < h.length ∧ Lf mode s h i k = atL mode s h i k + Lf mode s h (i + 1) (k + 1)
    · rw [alFrom_swap h1.1 h1.2.1 h1.2.2, ckFrom, ckNext_swap c h1.1 h1.2.1, Option.bind_some, ih (i + 1) (k + 1) _ (by omega) (by omega) (by omega), h1.2.2, Int.add_assoc]
    · by_cases h2 : i < s.length ∧ Lf mode s h i k = missC mode + Lf mode s h (i + 1) k
      · rw [alFrom_miss h2.1 (fun e => h1 ⟨h2.1, e.1, e.2⟩) h2.2, ckFrom, ckNext_miss c h2.1, Option.bind_some, ih (i + 1) k _ (by omega) (by omega) (by omega), h2.2, Int.add_assoc]
      · by_cases h3 : k < h.length
        · have hL : Lf mode s h i k = extraC mode + Lf mode s h i (k + 1) := by
            by_cases h4 : i < s.length
            · have := Lf_ss (mode := mode) (s := s) (h := h) h4 h3
              have g1 : ¬ Lf mode s h i k = atL mode s h i k + Lf mode s h (i + 1) (k + 1) := fun e => h1 ⟨h4, h3, e⟩
              have g2 : ¬ Lf mode s h i k = missC mode + Lf mode s h (i + 1) k := fun e => h2 ⟨h4, e⟩
              omega
            · exact Lf_extra (by omega) h3
          rw [alFrom_extra h3 (fun e => h1 ⟨e.1, h3, e.2⟩) h2, ckFrom, ckNext_extra c h3, Option.bind_some, ih i (k + 1) _ (by omega) (by omega) (by omega), hL, Int.add_assoc]
        · by_cases h4 : i < s.length
          · exact absurd ⟨h4, Lf_miss h4 (by omega)⟩ h2
          · obtain rfl : i = s.length := by omega
            obtain rfl : k = h.length := by omega
            rw [alFrom_end h4 h3, Lf_end (Nat.le_refl _) (Nat.le_refl _)]
            simp [ckFrom]
/-- The first alignment of least cost is correct, and costs just that. -/
theorem ckAl_ali (mode : Int) (s h : List Nat) : ckAl mode s h (ali mode s h) = some (mc mode s h) := by
  have h1 := ck_al mode s h (s.length + h.length) 0 0 0 (by omega) (by omega) (by omega)
  have h2 := Lf_lc (mode := mode) (s := s) (h := h) (i := 0) (k := 0) (by omega) (by omega)
  rw [List.drop_zero, List.drop_zero] at h2
  unfold ckAl ali
  rw [h1, h2]
  simp
end Go.Proofs.YtgcddjgkieambaaGreatDoor.Cm
