/- Plain facts about least costs: triangle, symmetry, reversal, joins, zero exactly at equal texts. No program in sight. -/
import Derived.Test.YtgcddjgkieambaaGreatDoorChars
set_option linter.unusedVariables false
namespace Go.Proofs.YtgcddjgkieambaaGreatDoor.Cm

section
variable {m e : Int} {sw sw1 sw2 sw3 : Nat → Nat → Int}
theorem T_last (i k : Nat) : (i = 0 ∧ k = 0 ∧ T m e sw i k = 0) ∨ (∃ i', i = i' + 1 ∧ T m e sw i k = T m e sw i' k + m) ∨ (∃ k', k = k' + 1 ∧ T m e sw i k = T m e sw i k' + e) ∨
    (∃ i' k', i = i' + 1 ∧ k = k' + 1 ∧ T m e sw i k = T m e sw i' k' + sw i' k') := by
  cases i with
  | zero =>
    cases k with
    | zero => exact .inl ⟨rfl, rfl, T_00⟩
    | succ k => exact .inr (.inr (.inl ⟨k, rfl, T_0s k⟩))
  | succ i =>
    cases k with
    | zero => exact .inr (.inl ⟨i, rfl, T_s0 i⟩)
    | succ k =>
      have h : T m e sw (i + 1) (k + 1) = T m e sw i (k + 1) + m ∨ T m e sw (i + 1) (k + 1) = T m e sw (i + 1) k + e ∨ T m e sw (i + 1) (k + 1) = T m e sw i k + sw i k := by rw [T_ss]; omega
      rcases h with h | h | h
      · exact .inr (.inl ⟨i, rfl, h⟩)
      · exact .inr (.inr (.inl ⟨k, rfl, h⟩))
      · exact .inr (.inr (.inr ⟨i, k, rfl, rfl, h⟩))
theorem T_0 (k : Nat) : T m e sw 0 k = (k : Int) * e := rfl
theorem T_z (i : Nat) : T m e sw i 0 = (i : Int) * m := by
  induction i with
  | zero => simp [T]
  | succ i ih => rw [T_s0, ih, Int.natCast_add, Int.add_mul]; simp

/-- What was heard by way of a third text costs no more than both ways together. -/
theorem T_triangle (hm : 0 ≤ m) (he : 0 ≤ e) (n1 n2 n3 : Nat) (h1 : ∀ x y, x < n1 → y < n2 → 0 ≤ sw1 x y) (h2 : ∀ x y, x < n2 → y < n3 → 0 ≤ sw2 x y) (h : ∀ x y z, x < n1 → y < n2 → z < n3 → sw3 x z ≤ sw1 x y + sw2 y z) :
    ∀ (f i j k : Nat), i + j + k ≤ f → i ≤ n1 → j ≤ n2 → k ≤ n3 → T m e sw3 i k ≤ T m e sw1 i j + T m e sw2 j k := by
  intro f
  induction f with
  | zero =>
    intro i j k hf _ _ _
    obtain rfl : i = 0 := by omega
    obtain rfl : j = 0 := by omega
    obtain rfl : k = 0 := by omega
    simp [T_00]
  | succ f ih =>
    intro i j k hf hi hj hk
    rcases T_last (m := m) (e := e) (sw := sw1) i j with ⟨rfl, rfl, e1⟩ | ⟨i', rfl, e1⟩ | ⟨j', rfl, e1⟩ | ⟨i', j', rfl, rfl, e1⟩
    · rw [e1, T_0, T_0]; omega
    · have := ih i' j k (by omega) (by omega) hj hk
      have := T_le_miss (m := m) (e := e) (sw := sw3) i' k
      omega
    · rcases T_last (m := m) (e := e) (sw := sw2) (j' + 1) k with ⟨e3, _, _⟩ | ⟨j'', ej, e2⟩ | ⟨k', rfl, e2⟩ | ⟨j'', k', ej, rfl, e2⟩
      · omega
      · obtain rfl : j' = j'' := by omega
        have := ih i j' k (by omega) hi (by omega) hk
        omega
      · have := ih i (j' + 1) k' (by omega) hi hj (by omega)
        have := T_le_extra (m := m) (e := e) (sw := sw3) i k'
        omega
      · obtain rfl : j' = j'' := by omega
        have := ih i j' k' (by omega) hi (by omega) (by omega)
        have := T_le_extra (m := m) (e := e) (sw := sw3) i k'
        have := h2 j' k' (by omega) (by omega)
        omega
    · rcases T_last (m := m) (e := e) (sw := sw2) (j' + 1) k with ⟨e3, _, _⟩ | ⟨j'', ej, e2⟩ | ⟨k', rfl, e2⟩ | ⟨j'', k', ej, rfl, e2⟩
      · omega
      · obtain rfl : j' = j'' := by omega
        have := ih i' j' k (by omega) (by omega) (by omega) hk
        have := T_le_miss (m := m) (e := e) (sw := sw3) i' k
        have := h1 i' j' (by omega) (by omega)
        omega
      · have := ih (i' + 1) (j' + 1) k' (by omega) hi hj (by omega)
        have := T_le_extra (m := m) (e := e) (sw := sw3) (i' + 1) k'
        omega
      · obtain rfl : j' = j'' := by omega
        have := ih i' j' k' (by omega) (by omega) (by omega) (by omega)
        have := T_le_swap (m := m) (e := e) (sw := sw3) i' k'
        have := h i' j' k' (by omega) (by omega) (by omega)
        omega

/-- The table turned over: what is missed one way is extra the other way. -/
theorem T_flip (h : ∀ x y, sw1 x y = sw2 y x) (i k : Nat) : T m e sw1 i k = T e m sw2 k i := by
  induction i generalizing k with
  | zero => rw [T_0, T_z]
  | succ i ih =>
    induction k with
    | zero => rw [T_0, T_z]
    | succ k ihk => rw [T_ss, T_ss, ih, ih, ihk, h]; omega
theorem T_congr {n1 n2 : Nat} (h : ∀ x y, x < n1 → y < n2 → sw1 x y = sw2 x y) (i k : Nat) (hi : i ≤ n1) (hk : k ≤ n2) : T m e sw1 i k = T m e sw2 i k := by
  induction i generalizing k with
  | zero => rw [T_0, T_0]
  | succ i ih =>
    induction k with
    | zero => rw [T_z, T_z]
    | succ k ihk => rw [T_ss, T_ss, ih _ (by omega) hk, ih _ (by omega) (by omega), ihk (by omega), h i k (by omega) (by omega)]
theorem Path.congr {i k : Nat} {c : Int} (h : Path m e sw1 0 0 i k c) : (∀ x y, x < i → y < k → sw1 x y = sw2 x y) → Path m e sw2 0 0 i k c := by
  induction h with
  | nil => exact fun _ => .nil
  | swap _ ih => rename_i i k c _; intro h; rw [h i k (by omega) (by omega)]; exact .swap (ih (fun x y a b => h x y (by omega) (by omega)))
  | miss _ ih => intro h; exact .miss (ih (fun x y a b => h x y (by omega) b))
  | extra _ ih => intro h; exact .extra (ih (fun x y a b => h x y a (by omega)))
theorem Path.shift {n l i k : Nat} {c : Int} (h : Path m e sw1 0 0 i k c) (hs : ∀ x y, sw2 (n + x) (l + y) = sw1 x y) : Path m e sw2 n l (n + i) (l + k) c := by
  induction h with
  | nil => exact .nil
  | swap _ ih => rename_i i k c _; rw [← hs i k]; exact .swap ih
  | miss _ ih => exact .miss ih
  | extra _ ih => exact .extra ih
/-- Backward: a path through the lists turned round. -/
theorem Path.rev {n l i k : Nat} {c : Int} (h : Path m e sw1 0 0 i k c) : i ≤ n → k ≤ l → (∀ x y, x < n → y < l → sw2 (n - 1 - x) (l - 1 - y) = sw1 x y) → Path m e sw2 (n - i) (l - k) n l c := by
  induction h with
  | nil => intro _ _ _; exact .nil
  | swap _ ih =>
    rename_i i k c _
    intro hi hk hs
    have h1 : Path m e sw2 (n - (i + 1)) (l - (k + 1)) (n - (i + 1) + 1) (l - (k + 1) + 1) (0 + sw2 (n - (i + 1)) (l - (k + 1))) := .swap .nil
    rw [show n - (i + 1) + 1 = n - i by omega, show l - (k + 1) + 1 = l - k by omega] at h1
    have h2 := h1.trans (ih (by omega) (by omega) hs)
    have h3 := hs i k (by omega) (by omega)
    rw [show n - 1 - i = n - (i + 1) by omega, show l - 1 - k = l - (k + 1) by omega] at h3
    rw [h3] at h2
    rwa [show c + sw1 i k = 0 + sw1 i k + c by omega]
  | miss _ ih =>
    rename_i i k c _
    intro hi hk hs
    have h1 : Path m e sw2 (n - (i + 1)) (l - k) (n - (i + 1) + 1) (l - k) (0 + m) := .miss .nil
    rw [show n - (i + 1) + 1 = n - i by omega] at h1
    have h2 := h1.trans (ih (by omega) (by omega) hs)
    rwa [show c + m = 0 + m + c by omega]
  | extra _ ih =>
    rename_i i k c _
    intro hi hk hs
    have h1 : Path m e sw2 (n - i) (l - (k + 1)) (n - i) (l - (k + 1) + 1) (0 + e) := .extra .nil
    rw [show l - (k + 1) + 1 = l - k by omega] at h1
    have h2 := h1.trans (ih (by omega) (by omega) hs)
    rwa [show c + e = 0 + e + c by omega]
theorem T_rev (n l : Nat) (hs : ∀ x y, x < n → y < l → sw2 (n - 1 - x) (l - 1 - y) = sw1 x y) : T m e sw1 n l = T m e sw2 n l := by
  apply Int.le_antisymm
  · have h := (T_path (m := m) (e := e) (sw := sw2) n l).rev (n := n) (l := l) (sw2 := sw1) (Nat.le_refl _) (Nat.le_refl _) (fun x y hx hy => by
      have := hs (n - 1 - x) (l - 1 - y) (by omega) (by omega)
      rw [show n - 1 - (n - 1 - x) = x by omega, show l - 1 - (l - 1 - y) = y by omega] at this
      exact this.symm)
    rw [Nat.sub_self, Nat.sub_self] at h
    exact T_le_path h
  · have h := (T_path (m := m) (e := e) (sw := sw1) n l).rev (n := n) (l := l) (Nat.le_refl _) (Nat.le_refl _) hs
    rw [Nat.sub_self, Nat.sub_self] at h
    exact T_le_path h

/-- No cost: equal lists. -/
theorem T_zero (hm : 0 < m) (he : 0 < e) (n1 n2 : Nat) (h0 : ∀ x y, x < n1 → y < n2 → 0 ≤ sw x y) : ∀ (i k : Nat), i ≤ n1 → k ≤ n2 → 0 ≤ T m e sw i k ∧ (T m e sw i k = 0 → i = k ∧ ∀ j, j < i → sw j j = 0) := by
  intro i
  induction i with
  | zero =>
    intro k _ _
    rw [T_0]
    refine ⟨Int.mul_nonneg (by omega) (by omega), fun h => ⟨?_, fun j hj => absurd hj (by omega)⟩⟩
    rcases Int.mul_eq_zero.1 h with h | h <;> omega
  | succ i ih =>
    intro k
    induction k with
    | zero =>
      intro _ _
      rw [T_z]
      refine ⟨Int.mul_nonneg (by omega) (by omega), fun h => ?_⟩
      rcases Int.mul_eq_zero.1 h with h | h <;> omega
    | succ k ihk =>
      intro hi hk
      have a1 := (ih (k + 1) (by omega) hk).1
      have a2 := (ihk hi (by omega)).1
      have a3 := ih k (by omega) (by omega)
      have a4 := h0 i k (by omega) (by omega)
      rw [T_ss]
      refine ⟨by omega, fun h => ?_⟩
      have h1 : T m e sw i k = 0 := by omega
      have h2 : sw i k = 0 := by omega
      obtain ⟨rfl, h3⟩ := a3.2 h1
      refine ⟨rfl, fun j hj => ?_⟩
      rcases Nat.lt_or_ge j i with h4 | h4
      · exact h3 j h4
      · obtain rfl : j = i := by omega
        exact h2
theorem T_diag (h : ∀ x, sw x x ≤ 0) (i : Nat) : T m e sw i i ≤ 0 := by
  induction i with
  | zero => simp [T_00]
  | succ i ih => have := T_le_swap (m := m) (e := e) (sw := sw) i i; have := h i; omega
end

/-- What it costs to hear the characters h for the characters s. -/
def lc (m e : Int) (c : Nat → Nat → Int) (s h : List Nat) : Int := T m e (fun i k => c (s.getD i 0) (h.getD k 0)) s.length h.length
section
variable {m e : Int} {c : Nat → Nat → Int}
theorem getD_lt (s : List Nat) (P : Nat → Prop) (h : ∀ x ∈ s, P x) (i : Nat) (hi : i < s.length) : P (s.getD i 0) := by
  have : s.getD i 0 = s[i] := by simp [List.getD, List.getElem?_eq_getElem hi]
  rw [this]; exact h _ (List.getElem_mem hi)
theorem lc_nonneg (hm : 0 < m) (he : 0 < e) (hc : ∀ a b, 0 ≤ c a b) (s h : List Nat) : 0 ≤ lc m e c s h := T_nonneg (by omega) (by omega) (fun _ _ => hc _ _) _ _
theorem lc_zero (hm : 0 < m) (he : 0 < e) (hc : ∀ a b, 0 ≤ c a b) (P : Nat → Prop) (h0 : ∀ a b, P a → P b → c a b = 0 → a = b) (hd : ∀ a, c a a = 0) (s h : List Nat) (hs : ∀ x ∈ s, P x) (hh : ∀ x ∈ h, P x) : lc m e c s h = 0 ↔ s = h := by
  constructor
  · intro hz
    obtain ⟨hl, hj⟩ := (T_zero hm he s.length h.length (fun x y _ _ => hc _ _) s.length h.length (Nat.le_refl _) (Nat.le_refl _)).2 hz
    apply List.ext_getElem hl
    intro i h1 h2
    have := h0 _ _ (getD_lt s P hs i h1) (getD_lt h P hh i h2) (hj i h1)
    simpa [List.getD, List.getElem?_eq_getElem h1, List.getElem?_eq_getElem h2] using this
  · rintro rfl
    have h1 := T_diag (m := m) (e := e) (sw := fun i k => c (s.getD i 0) (s.getD k 0)) (fun x => by rw [hd]; omega) s.length
    have h2 := lc_nonneg hm he hc s s
    unfold lc at h2 ⊢
    omega
theorem lc_triangle (hm : 0 ≤ m) (he : 0 ≤ e) (hc : ∀ a b, 0 ≤ c a b) (ht : ∀ a b d, c a d ≤ c a b + c b d) (s t u : List Nat) : lc m e c s u ≤ lc m e c s t + lc m e c t u :=
  T_triangle (sw1 := fun i k => c (s.getD i 0) (t.getD k 0)) (sw2 := fun i k => c (t.getD i 0) (u.getD k 0)) (sw3 := fun i k => c (s.getD i 0) (u.getD k 0)) hm he s.length t.length u.length (fun x y _ _ => hc _ _) (fun x y _ _ => hc _ _) (fun x y z _ _ _ => ht _ _ _) _ _ _ _ (Nat.le_refl _) (Nat.le_refl _) (Nat.le_refl _) (Nat.le_refl _)
theorem lc_symm (hc : ∀ a b, c a b = c b a) (s h : List Nat) : lc m e c s h = lc e m c h s := T_flip (fun _ _ => hc _ _) _ _
theorem lc_join (s t u v : List Nat) : lc m e c (s ++ u) (t ++ v) ≤ lc m e c s t + lc m e c u v := by
  unfold lc
  rw [List.length_append, List.length_append]
  refine T_le_path (Path.trans ((T_path s.length t.length).congr (fun x y hx hy => ?_)) ((T_path u.length v.length).shift (fun x y => ?_)))
  · have h1 : (s ++ u).getD x 0 = s.getD x 0 := by simp [List.getD, List.getElem?_append_left hx]
    have h2 : (t ++ v).getD y 0 = t.getD y 0 := by simp [List.getD, List.getElem?_append_left hy]
    rw [h1, h2]
  · have h1 : (s ++ u).getD (s.length + x) 0 = u.getD x 0 := by simp [List.getD, List.getElem?_append_right]
    have h2 : (t ++ v).getD (t.length + y) 0 = v.getD y 0 := by simp [List.getD, List.getElem?_append_right]
    rw [h1, h2]
theorem getD_rev (s : List Nat) (x : Nat) (hx : x < s.length) : s.reverse.getD (s.length - 1 - x) 0 = s.getD x 0 := by
  have h1 : s.length - 1 - x < s.reverse.length := by simp; omega
  rw [show s.reverse.getD (s.length - 1 - x) 0 = s.reverse[s.length - 1 - x] by simp [List.getD, List.getElem?_eq_getElem h1], List.getElem_reverse,
    show s.getD x 0 = s[x] by simp [List.getD, List.getElem?_eq_getElem hx]]
  congr 1; omega
theorem lc_rev (s h : List Nat) : lc m e c s.reverse h.reverse = lc m e c s h := by
  unfold lc
  rw [List.length_reverse, List.length_reverse]
  exact (T_rev s.length h.length (fun x y hx hy => by rw [getD_rev s x hx, getD_rev h y hy])).symm
/-- The table of the reversed lists has the costs of what is left. -/
theorem T_left (s h : List Nat) (i k : Nat) (hi : i ≤ s.length) (hk : k ≤ h.length) :
    T m e (fun x y => c (s.reverse.getD x 0) (h.reverse.getD y 0)) (s.length - i) (h.length - k) = lc m e c (s.drop i) (h.drop k) := by
  rw [← lc_rev]
  unfold lc
  rw [List.length_reverse, List.length_reverse, List.length_drop, List.length_drop]
  refine T_congr (n1 := s.length - i) (n2 := h.length - k) (fun x y hx hy => ?_) _ _ (Nat.le_refl _) (Nat.le_refl _)
  have key : ∀ (l : List Nat) (i x : Nat), x < l.length - i → l.reverse.getD x 0 = (l.drop i).reverse.getD x 0 := by
    intro l i x hx
    have h1 := getD_rev l (l.length - 1 - x) (by omega)
    have h2 := getD_rev (l.drop i) ((l.drop i).length - 1 - x) (by rw [List.length_drop]; omega)
    rw [List.length_drop] at h2
    rw [show l.length - 1 - (l.length - 1 - x) = x by omega] at h1
    rw [show l.length - i - 1 - (l.length - i - 1 - x) = x by omega] at h2
    rw [h1, h2]
    simp only [List.getD, List.getElem?_drop]
    congr 2; omega
  rw [key s i x hx, key h k y hy]
end

/-- Signs of codes, as numbers. -/
def codeN (i : Nat) : List Nat := (codeL.getD i []).map UInt8.toNat
def bit (a b : Nat) : Int := if a = b then 0 else 1
theorem codeN_getD (i x : Nat) : (codeN i).getD x 0 = ((codeL.getD i []).getD x 0).toNat := by
  unfold codeN
  simp only [List.getD, List.getElem?_map]
  cases (codeL[i]?.getD [])[x]? <;> rfl
theorem cdist_lc (i k : Nat) : cdist i k = lc 1 1 bit (codeN i) (codeN k) := by
  unfold cdist lc clen
  rw [show (codeN i).length = (codeL.getD i []).length by simp [codeN], show (codeN k).length = (codeL.getD k []).length by simp [codeN]]
  refine T_congr (n1 := (codeL.getD i []).length) (n2 := (codeL.getD k []).length) (fun x y _ _ => ?_) _ _ (Nat.le_refl _) (Nat.le_refl _)
  unfold sign bit
  rw [codeN_getD, codeN_getD]
  simp only [UInt8.toNat_inj]
theorem bit_nonneg (a b : Nat) : 0 ≤ bit a b := by unfold bit; split <;> omega
theorem bit_self (a : Nat) : bit a a = 0 := by simp [bit]
theorem bit_zero (a b : Nat) (h : bit a b = 0) : a = b := by
  unfold bit at h; split at h
  · assumption
  · omega
theorem bit_symm (a b : Nat) : bit a b = bit b a := by unfold bit; simp only [eq_comm]
theorem bit_tri (a b d : Nat) : bit a d ≤ bit a b + bit b d := by
  unfold bit
  split <;> split <;> split <;> omega
theorem codes_apart : (List.range 37).all (fun i => (List.range 37).all (fun k => decide (codeN i = codeN k → i = k))) = true := by decide +kernel
theorem cdist_self (i : Nat) : cdist i i = 0 := by
  rw [cdist_lc]
  exact (lc_zero (by omega) (by omega) bit_nonneg (fun _ => True) (fun a b _ _ h => bit_zero a b h) bit_self _ _ (fun _ _ => trivial) (fun _ _ => trivial)).2 rfl
theorem swM_cdist (i k : Nat) : swM i k = cdist i k := by
  unfold swM; split
  · rename_i h; subst h; rw [cdist_self]
  · rfl
theorem sw_self (mode : Int) (i : Nat) : sw mode i i = 0 := by
  unfold sw; split
  · simp [swM]
  · split
    · simp [swV]
    · simp [swD]
theorem sw_zero (mode : Int) (i k : Nat) (hi : i < 37) (hk : k < 37) (h : sw mode i k = 0) : i = k := by
  unfold sw at h; split at h
  · rw [swM_cdist, cdist_lc] at h
    have := (lc_zero (by omega) (by omega) bit_nonneg (fun _ => True) (fun a b _ _ h => bit_zero a b h) bit_self _ _ (fun _ _ => trivial) (fun _ _ => trivial)).1 h
    have ha := List.all_eq_true.1 (List.all_eq_true.1 codes_apart i (List.mem_range.2 hi)) k (List.mem_range.2 hk)
    exact (of_decide_eq_true ha) this
  · split at h
    · unfold swV at h; split at h
      · assumption
      · split at h <;> omega
    · unfold swD at h; split at h
      · assumption
      · omega
theorem sw_tri (mode : Int) (a b d : Nat) : sw mode a d ≤ sw mode a b + sw mode b d := by
  unfold sw; split
  · rw [swM_cdist, swM_cdist, swM_cdist, cdist_lc, cdist_lc, cdist_lc]
    exact lc_triangle (by omega) (by omega) bit_nonneg bit_tri _ _ _
  · split
    · unfold swV
      by_cases h1 : a = b
      · subst h1; simp
      · by_cases h2 : b = d
        · subst h2; simp
        · by_cases h3 : famZ a = famZ b
          · rw [h3]; simp only [h1, h2, if_false]; split <;> split <;> omega
          · simp only [h1, h2, h3, if_false]; split <;> (try split) <;> (try split) <;> omega
    · unfold swD
      split <;> split <;> split <;> omega
theorem sw_symm (mode : Int) (hm : mode ≠ 2) (a b : Nat) : sw mode a b = sw mode b a := by
  unfold sw; split
  · rw [swM_cdist, swM_cdist, cdist_lc, cdist_lc]; exact lc_symm bit_symm _ _
  · unfold swD; simp only [eq_comm]
theorem miss_extra (mode : Int) (h : mode = 1 ∨ mode = 3) : missC mode = extraC mode := by
  rcases h with rfl | rfl <;> rfl
theorem missC_pos (mode : Int) : 0 < missC mode := by unfold missC; split <;> omega
theorem extraC_pos (mode : Int) : 0 < extraC mode := by unfold extraC; split <;> omega
/-- The cost of hearing the characters h for the characters s, in a mode. -/
def mc (mode : Int) (s h : List Nat) : Int := lc (missC mode) (extraC mode) (sw mode) s h
theorem mc_nonneg (mode : Int) (s h : List Nat) : 0 ≤ mc mode s h := lc_nonneg (missC_pos mode) (extraC_pos mode) (fun a b => (sw_bd mode a b).1) s h
theorem mc_zero (mode : Int) (s h : List Nat) (hs : ∀ x ∈ s, x < 37) (hh : ∀ x ∈ h, x < 37) : mc mode s h = 0 ↔ s = h :=
  lc_zero (missC_pos mode) (extraC_pos mode) (fun a b => (sw_bd mode a b).1) (fun x => x < 37) (fun a b ha hb => sw_zero mode a b ha hb) (sw_self mode) s h hs hh
theorem mc_triangle (mode : Int) (s t u : List Nat) : mc mode s u ≤ mc mode s t + mc mode t u :=
  lc_triangle (missC_bd mode).1 (extraC_bd mode).1 (fun a b => (sw_bd mode a b).1) (sw_tri mode) s t u
theorem mc_symm (mode : Int) (h : mode = 1 ∨ mode = 3) (s t : List Nat) : mc mode s t = mc mode t s := by
  unfold mc
  rw [lc_symm (sw_symm mode (by omega)), miss_extra mode h]
theorem mc_join (mode : Int) (s t u v : List Nat) : mc mode (s ++ u) (t ++ v) ≤ mc mode s t + mc mode u v := lc_join s t u v
end Go.Proofs.YtgcddjgkieambaaGreatDoor.Cm
