/- Plain facts about numbers that can stay, the longest chain of them, and the rising list that keeps them. No program in sight. -/
import Derived.Test.YtgcddjgkieambaaGreatDoorDist
set_option linter.unusedVariables false
set_option linter.unusedSimpArgs false
namespace Go.Proofs.YtgcddjgkieambaaGreatDoor.Cm

/-- The number at i can stay. -/
def stay (l : List Int) (i : Nat) : Bool := decide ((i : Int) + 1 ≤ l.getD i 0) && decide (l.getD i 0 ≤ 99999 - ((l.length : Int) - 1 - i))
/-- The number at k can stay behind the one at i (none: -1). -/
def fol (l : List Int) (i : Int) (k : Nat) : Bool := stay l k && (decide (i < 0) || decide ((k : Int) - i ≤ l.getD k 0 - l.getD i.toNat 0))
/-- The greatest of F, of the c places from a on at which p. -/
def mx (F : Nat → Nat) (p : Nat → Bool) (a : Nat) : Nat → Nat
  | 0 => 0
  | c + 1 => if p (a + c) then max (mx F p a c) (F (a + c)) else mx F p a c
def gf (l : List Int) : Nat → Nat → Nat
  | 0, _ => 0
  | f + 1, i => mx (gf l f) (fol l i) (i + 1) (l.length - 1 - i) + 1
/-- How many numbers can stay from i on, with it. -/
def gg (l : List Int) (i : Nat) : Nat := gf l (l.length - i) i
def best (l : List Int) : Nat := mx (gg l) (stay l) 0 l.length

section
variable {F F' : Nat → Nat} {p p' : Nat → Bool} {a c : Nat}
theorem mx_congr (h : ∀ x, a ≤ x → x < a + c → p x = p' x ∧ (p x = true → F x = F' x)) : mx F p a c = mx F' p' a c := by
  induction c with
  | zero => rfl
  | succ c ih =>
    obtain ⟨h1, h2⟩ := h (a + c) (by omega) (by omega)
    have h3 := ih (fun x h4 h5 => h x h4 (by omega))
    simp only [mx]
    rw [← h1, h3]
    by_cases hp : p (a + c) = true
    · rw [if_pos hp, if_pos hp, h2 hp]
    · rw [if_neg hp, if_neg hp]
theorem mx_le (x : Nat) (h1 : a ≤ x) (h2 : x < a + c) (h3 : p x = true) : F x ≤ mx F p a c := by
  induction c with
  | zero => omega
  | succ c ih =>
    simp only [mx]
    rcases Nat.lt_or_ge x (a + c) with h4 | h4
    · have := ih h4
      split <;> omega
    · obtain rfl : x = a + c := by omega
      rw [if_pos h3]; omega
theorem mx_at (h : 0 < mx F p a c) : ∃ x, a ≤ x ∧ x < a + c ∧ p x = true ∧ F x = mx F p a c := by
  induction c with
  | zero => simp [mx] at h
  | succ c ih =>
    simp only [mx] at h ⊢
    by_cases hp : p (a + c) = true
    · rw [if_pos hp] at h ⊢
      rcases Nat.le_total (mx F p a c) (F (a + c)) with h1 | h1
      · exact ⟨a + c, by omega, by omega, hp, by omega⟩
      · obtain ⟨x, h2, h3, h4, h5⟩ := ih (by omega)
        exact ⟨x, h2, by omega, h4, by omega⟩
    · rw [if_neg hp] at h ⊢
      obtain ⟨x, h2, h3, h4, h5⟩ := ih h
      exact ⟨x, h2, by omega, h4, h5⟩
theorem mx_first : mx F p a (c + 1) = max (if p a then F a else 0) (mx F p (a + 1) c) := by
  induction c with
  | zero => simp only [mx, Nat.add_zero]; split <;> omega
  | succ c ih =>
    rw [mx, ih, mx, show a + 1 + c = a + (c + 1) by omega]
    split <;> omega
theorem mx_ub {B : Nat} (h : ∀ x, a ≤ x → x < a + c → p x = true → F x ≤ B) : mx F p a c ≤ B := by
  rcases Nat.eq_zero_or_pos (mx F p a c) with h0 | h0
  · omega
  · obtain ⟨x, h1, h2, h3, h4⟩ := mx_at h0
    rw [← h4]; exact h x h1 h2 h3
end

section
variable {l : List Int}
theorem gf_fuel : ∀ (f f' k : Nat), k < l.length → l.length - k ≤ f → l.length - k ≤ f' → gf l f k = gf l f' k := by
  intro f
  induction f with
  | zero => intro f' k h1 h2; omega
  | succ f ih =>
    intro f' k h1 h2 h3
    cases f' with
    | zero => omega
    | succ f' =>
      simp only [gf]
      rw [mx_congr (F' := gf l f') (p' := fol l k) (fun x h4 h5 => ⟨rfl, fun _ => ih f' x (by omega) (by omega) (by omega)⟩)]
theorem gg_eq (i : Nat) (hi : i < l.length) : gg l i = mx (gg l) (fol l i) (i + 1) (l.length - 1 - i) + 1 := by
  unfold gg
  rw [show l.length - i = (l.length - 1 - i) + 1 by omega, gf]
  rw [mx_congr (F' := fun i => gf l (l.length - i) i) (p' := fol l i) (fun x h1 h2 => ⟨rfl, fun _ => gf_fuel _ _ x (by omega) (by omega) (by omega)⟩)]
theorem gg_pos (i : Nat) (hi : i < l.length) : 0 < gg l i := by rw [gg_eq i hi]; omega
theorem gg_le (i : Nat) (hi : i < l.length) : gg l i ≤ l.length - i := by
  have : ∀ f i, i < l.length → l.length - i ≤ f → gf l f i ≤ l.length - i := by
    intro f
    induction f with
    | zero => intro i h1 h2; omega
    | succ f ih =>
      intro i h1 h2
      rw [gf]
      have := mx_ub (F := gf l f) (p := fol l i) (a := i + 1) (c := l.length - 1 - i) (B := l.length - (i + 1)) (fun x h3 h4 _ => by have := ih x (by omega) (by omega); omega)
      omega
  exact this _ i hi (Nat.le_refl _)
theorem best_le : best l ≤ l.length := mx_ub fun x h1 h2 h3 => by have := gg_le (l := l) x (by omega); omega
theorem fol_stay {i : Int} {k : Nat} (h : fol l i k = true) : stay l k = true := by unfold fol at h; simp only [Bool.and_eq_true] at h; exact h.1
theorem fol_neg {i : Int} (hi : i < 0) (k : Nat) : fol l i k = stay l k := by simp [fol, hi]
/-- How many may follow behind i. -/
def rest (l : List Int) (i : Int) : Nat := if i < 0 then best l else gg l i.toNat - 1
end

/-- The chain: from place n - c on, behind place i, t numbers being kept already. -/
def chn (l : List Int) (b : Nat) : Nat → Int → Nat → List Nat
  | 0, _, _ => []
  | c + 1, i, t => if fol l i (l.length - (c + 1)) && decide ((gg l (l.length - (c + 1)) : Int) = (b : Int) - t) then (l.length - (c + 1)) :: chn l b c ((l.length - (c + 1) : Nat) : Int) (t + 1) else chn l b c i t
def chain (l : List Int) : List Nat := chn l (best l) l.length (-1) 0

/-- A chain behind i, of places from a on. -/
inductive Chained (l : List Int) : Nat → Int → List Nat → Prop
  | nil {a i} : Chained l a i []
  | cons {a i k ks} : a ≤ k → k < l.length → fol l i k = true → Chained l (k + 1) k ks → Chained l a i (k :: ks)
section
variable {l : List Int}
theorem Chained.less {a a' : Nat} {i : Int} {ks : List Nat} (h : Chained l a i ks) (ha : a' ≤ a) : Chained l a' i ks := by
  cases h with
  | nil => exact .nil
  | cons h1 h2 h3 h4 => exact .cons (by omega) h2 h3 h4
theorem chn_chained (b : Nat) : ∀ (c : Nat) (i : Int) (t : Nat), c ≤ l.length → Chained l (l.length - c) i (chn l b c i t) := by
  intro c
  induction c with
  | zero => intro i t _; exact .nil
  | succ c ih =>
    intro i t hc
    rw [chn]
    split
    · rename_i h
      simp only [Bool.and_eq_true] at h
      refine .cons (Nat.le_refl _) (by omega) h.1 ?_
      have := ih ((l.length - (c + 1) : Nat) : Int) (t + 1) (by omega)
      rwa [show l.length - (c + 1) + 1 = l.length - c by omega]
    · exact (ih i t (by omega)).less (by omega)
theorem chn_length (b : Nat) : ∀ (c : Nat) (i : Int) (t : Nat), c ≤ l.length → t ≤ b → (b - t = 0 ∨ ∃ k, l.length - c ≤ k ∧ k < l.length ∧ fol l i k = true ∧ gg l k = b - t) → (chn l b c i t).length = b - t := by
  intro c
  induction c with
  | zero =>
    intro i t hc ht h
    rcases h with h | ⟨k, h1, h2, _⟩
    · rw [chn, h]; rfl
    · omega
  | succ c ih =>
    intro i t hc ht h
    rw [chn]
    split
    · rename_i hf
      simp only [Bool.and_eq_true, decide_eq_true_eq] at hf
      have hg := gg_eq (l := l) (l.length - (c + 1)) (by omega)
      have hr : 0 < b - t := by have := hf.2; omega
      rw [List.length_cons, ih _ (t + 1) (by omega) (by omega) ?_]
      · omega
      · rcases Nat.eq_zero_or_pos (b - (t + 1)) with h0 | h0
        · exact .inl h0
        · have := hf.2
          obtain ⟨x, h1, h2, h3, h4⟩ := mx_at (F := gg l) (p := fol l ((l.length - (c + 1) : Nat) : Int)) (a := l.length - (c + 1) + 1) (c := l.length - 1 - (l.length - (c + 1))) (by omega)
          exact .inr ⟨x, by omega, by omega, h3, by omega⟩
    · rename_i hf
      refine ih i t (by omega) ht ?_
      rcases h with h | ⟨k, h1, h2, h3, h4⟩
      · exact .inl h
      · refine .inr ⟨k, ?_, h2, h3, h4⟩
        rcases Nat.lt_or_ge k (l.length - c) with h5 | h5
        · exfalso
          obtain rfl : k = l.length - (c + 1) := by omega
          apply hf
          simp only [Bool.and_eq_true, decide_eq_true_eq]
          exact ⟨h3, by omega⟩
        · exact h5
theorem chain_chained : Chained l 0 (-1) (chain l) := by
  have := chn_chained (l := l) (best l) l.length (-1) 0 (Nat.le_refl _)
  rwa [Nat.sub_self] at this
theorem chain_length : (chain l).length = best l := by
  refine chn_length (l := l) (best l) l.length (-1) 0 (Nat.le_refl _) (Nat.zero_le _) ?_
  rcases Nat.eq_zero_or_pos (best l) with h0 | h0
  · exact .inl h0
  · obtain ⟨x, h1, h2, h3, h4⟩ := mx_at h0
    exact .inr ⟨x, by omega, by omega, by rw [fol_neg (by omega)]; exact h3, h4⟩
/-- No chain is longer. -/
theorem chained_le {a : Nat} {i : Int} {ks : List Nat} (h : Chained l a i ks) : (∀ j : Nat, i = j → j < l.length ∧ j < a) → ks.length ≤ rest l i := by
  induction h with
  | nil => intro _; exact Nat.zero_le _
  | cons h1 h2 h3 h4 ih =>
    rename_i a i k ks
    intro hi
    have h5 := ih (fun j e => ⟨by omega, by omega⟩)
    have h6 : rest l (k : Int) = gg l k - 1 := by simp [rest, show ¬ ((k : Int) < 0) by omega]
    have h7 := gg_pos (l := l) k h2
    rw [h6] at h5
    rw [List.length_cons]
    unfold rest
    by_cases h8 : i < 0
    · rw [if_pos h8]
      have := mx_le (F := gg l) (p := stay l) (a := 0) (c := l.length) k (by omega) (by omega) (fol_stay h3)
      unfold best; omega
    · rw [if_neg h8]
      obtain ⟨h9, h10⟩ := hi i.toNat (by omega)
      rw [gg_eq i.toNat h9]
      have := mx_le (F := gg l) (p := fol l (i.toNat : Int)) (a := i.toNat + 1) (c := l.length - 1 - i.toNat) k (by omega) (by omega) (by rw [show (i.toNat : Int) = i by omega]; exact h3)
      omega
theorem chained_best {ks : List Nat} (h : Chained l 0 (-1) ks) : ks.length ≤ best l := by
  have := chained_le h (fun j e => by omega)
  simpa [rest] using this
end

/-- The last number ahead of place i, where the numbers at the places 'keep' stay and each other one is the next. -/
def rv (l : List Int) (keep : List Nat) : Nat → Int
  | 0 => 0
  | i + 1 => if i ∈ keep then l.getD i 0 else rv l keep i + 1
def rise (l : List Int) (keep : List Nat) : List Int := (List.range l.length).map fun i => rv l keep (i + 1)

/-- A rising list. -/
def Rising (r : List Int) : Prop := ∀ i, i < r.length → 1 ≤ r.getD i 0 ∧ r.getD i 0 ≤ 99999 ∧ (0 < i → r.getD (i - 1) 0 < r.getD i 0)

section
variable {l : List Int}
theorem Chained.ge {a : Nat} {i : Int} {ks : List Nat} (h : Chained l a i ks) : ∀ k ∈ ks, a ≤ k ∧ k < l.length := by
  induction h with
  | nil => intro k hk; cases hk
  | cons h1 h2 h3 h4 ih =>
    intro k hk
    rcases List.mem_cons.1 hk with rfl | hk
    · exact ⟨h1, h2⟩
    · have := ih k hk; omega
/-- What the numbers are from place a on, behind place i, where ks are the places that stay from there on. -/
theorem rv_step {keep : List Nat} {a : Nat} {i : Int} {ks : List Nat} (h : Chained l a i ks) (hk : ∀ x, a ≤ x → (x ∈ keep ↔ x ∈ ks)) (hi : -1 ≤ i ∧ i < a) (ha : rv l keep a = (if i < 0 then 0 else l.getD i.toNat 0) + (a - 1 - i)) (hs : 0 ≤ i → stay l i.toNat = true)
    (hn : (l.length : Int) ≤ 99999) : ∀ d, a + d < l.length → rv l keep (a + d) < rv l keep (a + d + 1) ∧ rv l keep (a + d + 1) ≤ 99999 - ((l.length : Int) - 1 - (a + d)) := by
  induction h with
  | nil =>
    rename_i a i
    intro d hd
    have hrv : ∀ d, rv l keep (a + d) = rv l keep a + d := by
      intro d
      induction d with
      | zero => simp
      | succ d ih =>
        have : a + d ∉ keep := fun hx => by have := (hk (a + d) (by omega)).1 hx; cases this
        rw [← Nat.add_assoc, rv, if_neg this, ih]; omega
    have h1 := hrv d
    have h2 := hrv (d + 1)
    rw [← Nat.add_assoc] at h2
    refine ⟨by omega, ?_⟩
    rw [h2, ha]
    split
    · omega
    · have := hs (by omega)
      simp only [stay, Bool.and_eq_true, decide_eq_true_eq] at this
      omega
  | cons h1 h2 h3 h4 ih =>
    rename_i a i k ks
    have hst := fol_stay h3
    have hst' := hst
    simp only [stay, Bool.and_eq_true, decide_eq_true_eq] at hst
    have hge := h4.ge
    have hrv : ∀ d, a + d ≤ k → rv l keep (a + d) = rv l keep a + d := by
      intro d
      induction d with
      | zero => intro _; simp
      | succ d ih =>
        intro hd
        have : a + d ∉ keep := fun hx => by
          rcases List.mem_cons.1 ((hk (a + d) (by omega)).1 hx) with e | e
          · omega
          · have := hge _ e; omega
        rw [← Nat.add_assoc, rv, if_neg this, ih (by omega)]; omega
    have hkk : rv l keep (k + 1) = l.getD k 0 := by rw [rv, if_pos ((hk k h1).2 (List.mem_cons_self))]
    have hbk : rv l keep k = rv l keep a + (k - a : Nat) := by have := hrv (k - a) (by omega); rwa [show a + (k - a) = k by omega] at this
    have hlt : rv l keep k < rv l keep (k + 1) := by
      rw [hkk, hbk, ha]
      unfold fol at h3
      simp only [Bool.and_eq_true, Bool.or_eq_true, decide_eq_true_eq] at h3
      by_cases hneg : i < 0
      · rw [if_pos hneg]; omega
      · rw [if_neg hneg]
        rcases h3.2 with h5 | h5
        · omega
        · omega
    intro d hd
    rcases Nat.lt_or_ge (a + d) k with h5 | h5
    · have e1 := hrv d (by omega)
      have e2 := hrv (d + 1) (by omega)
      rw [← Nat.add_assoc] at e2
      rw [hkk] at hlt
      exact ⟨by omega, by omega⟩
    · rcases Nat.lt_or_ge k (a + d) with h6 | h6
      · have hx := ih (fun x hx => by
          rw [hk x (by omega)]
          constructor
          · intro hm
            rcases List.mem_cons.1 hm with e | e
            · omega
            · exact e
          · exact fun hm => List.mem_cons_of_mem _ hm) ⟨by omega, by omega⟩ (by rw [hkk, if_neg (by omega)]; simp) (fun _ => by simpa using hst') (a + d - (k + 1)) (by omega)
        rw [show k + 1 + (a + d - (k + 1)) = a + d by omega] at hx
        refine ⟨hx.1, ?_⟩
        have := hx.2
        have e : ((k + 1 : Nat) : Int) + ((a + d - (k + 1) : Nat) : Int) = (a : Int) + d := by omega
        rw [e] at this
        exact this
      · obtain rfl : k = a + d := by omega
        refine ⟨hlt, ?_⟩
        rw [hkk]
        have := hst.2
        omega

theorem rv_rise (hn : l.length ≤ 400) (i : Nat) (hi : i < l.length) : rv l (chain l) i < rv l (chain l) (i + 1) ∧ rv l (chain l) (i + 1) ≤ 99999 := by
  have h := rv_step (keep := chain l) (chain_chained (l := l)) (fun x _ => Iff.rfl) (by omega) (by simp [rv]) (fun h => absurd h (by omega)) (by omega) i (by omega)
  rw [Nat.zero_add] at h
  exact ⟨h.1, by have := h.2; omega⟩
theorem rv_nonneg (hn : l.length ≤ 400) (i : Nat) (hi : i ≤ l.length) : (0 : Int) ≤ rv l (chain l) i := by
  induction i with
  | zero => exact Int.le_refl _
  | succ i ih => have := ih (by omega); have := (rv_rise hn i (by omega)).1; omega
theorem rise_length (keep : List Nat) : (rise l keep).length = l.length := by simp [rise]
theorem rise_getD (keep : List Nat) (i : Nat) (hi : i < l.length) : (rise l keep).getD i 0 = rv l keep (i + 1) := by
  simp [rise, List.getD, List.getElem?_map, List.getElem?_range hi]
theorem rise_rising (hn : l.length ≤ 400) : Rising (rise l (chain l)) := by
  intro i hi
  rw [rise_length] at hi
  have h1 := rv_rise hn i hi
  have h2 := rv_nonneg hn i (by omega)
  rw [rise_getD _ _ hi]
  refine ⟨by omega, h1.2, fun h0 => ?_⟩
  rw [rise_getD _ _ (by omega), show i - 1 + 1 = i by omega]
  exact h1.1
theorem rise_keeps (k : Nat) (hk : k ∈ chain l) : k < l.length ∧ (rise l (chain l)).getD k 0 = l.getD k 0 := by
  have h1 := (chain_chained (l := l)).ge k hk
  refine ⟨h1.2, ?_⟩
  rw [rise_getD _ _ h1.2, rv, if_pos hk]

/-- The places from n - c on at which two lists agree. -/
def agree (l r : List Int) : Nat → List Nat
  | 0 => []
  | c + 1 => if l.getD (l.length - (c + 1)) 0 = r.getD (l.length - (c + 1)) 0 then (l.length - (c + 1)) :: agree l r c else agree l r c
/-- The number of places from n - c on at which two lists differ. -/
def differ (l r : List Int) : Nat → Nat
  | 0 => 0
  | c + 1 => if l.getD (l.length - (c + 1)) 0 = r.getD (l.length - (c + 1)) 0 then differ l r c else differ l r c + 1
theorem agree_differ (r : List Int) (c : Nat) : (agree l r c).length + differ l r c = c := by
  induction c with
  | zero => rfl
  | succ c ih => rw [agree, differ]; split <;> (try simp only [List.length_cons]) <;> omega
theorem Rising.diff {r : List Int} (h : Rising r) (i : Nat) : ∀ d, i + d < r.length → r.getD i 0 + d ≤ r.getD (i + d) 0 := by
  intro d
  induction d with
  | zero => intro _; simp
  | succ d ih =>
    intro hd
    have h1 := ih (by omega)
    have h2 := (h (i + (d + 1)) hd).2.2 (by omega)
    rw [show i + (d + 1) - 1 = i + d by omega] at h2
    omega
theorem Rising.stay {r : List Int} (h : Rising r) (hl : r.length = l.length) (k : Nat) (hk : k < l.length) (he : l.getD k 0 = r.getD k 0) : stay l k = true := by
  have h1 := h.diff 0 k (by omega)
  have h2 := h.diff k (l.length - 1 - k) (by omega)
  have h3 := h 0 (by omega)
  have h4 := h (k + (l.length - 1 - k)) (by omega)
  rw [Nat.zero_add] at h1
  simp only [Cm.stay, Bool.and_eq_true, decide_eq_true_eq]
  rw [he]
  omega
theorem agree_chained {r : List Int} (h : Rising r) (hl : r.length = l.length) : ∀ (c : Nat) (i : Int), c ≤ l.length → -1 ≤ i → i < ((l.length - c : Nat) : Int) → (0 ≤ i → l.getD i.toNat 0 = r.getD i.toNat 0) → Chained l (l.length - c) i (agree l r c) := by
  intro c
  induction c with
  | zero => intro i _ _ _ _; exact .nil
  | succ c ih =>
    intro i hc h1 h2 h3
    rw [agree]
    split
    · rename_i he
      refine .cons (Nat.le_refl _) (by omega) ?_ ?_
      · unfold fol
        simp only [Bool.and_eq_true, Bool.or_eq_true, decide_eq_true_eq]
        refine ⟨h.stay hl _ (by omega) he, ?_⟩
        by_cases h0 : i < 0
        · exact .inl h0
        · right
          have := h3 (by omega)
          have h5 := h.diff i.toNat (l.length - (c + 1) - i.toNat) (by omega)
          rw [show i.toNat + (l.length - (c + 1) - i.toNat) = l.length - (c + 1) by omega] at h5
          omega
      · rw [show l.length - (c + 1) + 1 = l.length - c by omega]
        exact ih _ (by omega) (by omega) (by omega) (fun _ => by simpa using he)
    · exact (ih i (by omega) h1 (by omega) h3).less (by omega)
/-- No rising list differs at fewer places than there are places that are not in the chain. -/
theorem differ_ge {r : List Int} (h : Rising r) (hl : r.length = l.length) : l.length - (chain l).length ≤ differ l r l.length := by
  have h1 := agree_chained h hl l.length (-1) (Nat.le_refl _) (by omega) (by omega) (fun h => absurd h (by omega))
  rw [Nat.sub_self] at h1
  have h2 := chained_best h1
  have h3 := agree_differ (l := l) r l.length
  rw [chain_length]; omega
theorem agree_mem (r : List Int) : ∀ (c : Nat), c ≤ l.length → ∀ k, l.length - c ≤ k → k < l.length → l.getD k 0 = r.getD k 0 → k ∈ agree l r c := by
  intro c
  induction c with
  | zero => intro _ k h1 h2; omega
  | succ c ih =>
    intro hc k h1 h2 h3
    rw [agree]
    by_cases e : k = l.length - (c + 1)
    · subst e; rw [if_pos h3]; exact List.mem_cons_self
    · have := ih (by omega) k (by omega) h2 h3
      split
      · exact List.mem_cons_of_mem _ this
      · exact this
theorem Chained.sub {a : Nat} {i : Int} {ks : List Nat} (h : Chained l a i ks) : ∀ (c : Nat) (r : List Int), c ≤ l.length → l.length - c ≤ a → (∀ k ∈ ks, l.getD k 0 = r.getD k 0) → ks.length ≤ (agree l r c).length := by
  induction h with
  | nil => intro c r _ _ _; exact Nat.zero_le _
  | cons h1 h2 h3 h4 ih =>
    rename_i a i k ks
    intro c r hc
    induction c with
    | zero => intro ha _; omega
    | succ c ihc =>
      intro ha hk
      rw [agree]
      by_cases e : k = l.length - (c + 1)
      · rw [if_pos (by rw [← e]; exact hk k List.mem_cons_self), List.length_cons, List.length_cons]
        have := ih c r (by omega) (by omega) (fun x hx => hk x (List.mem_cons_of_mem _ hx))
        omega
      · have hrec : (k :: ks).length ≤ (agree l r c).length := by
          by_cases ha' : l.length - c ≤ a
          · exact ihc (by omega) ha' hk
          · have hx : Chained l (l.length - c) i (k :: ks) := .cons (by omega) h2 h3 h4
            clear ihc
            have : ∀ (c : Nat), c ≤ l.length → l.length - c ≤ k → (k :: ks).length ≤ (agree l r c).length := by
              intro c
              induction c with
              | zero => intro _ _; omega
              | succ c ihc =>
                intro hc ha
                rw [agree]
                by_cases e : k = l.length - (c + 1)
                · rw [if_pos (by rw [← e]; exact hk k List.mem_cons_self), List.length_cons, List.length_cons]
                  have := ih c r (by omega) (by omega) (fun x hx => hk x (List.mem_cons_of_mem _ hx))
                  omega
                · have := ihc (by omega) (by omega)
                  split
                  · simp only [List.length_cons] at this ⊢; omega
                  · exact this
            exact this c (by omega) (by omega)
        split
        · simp only [List.length_cons] at hrec ⊢; omega
        · exact hrec
/-- The rising list differs just where the chain does not go. -/
theorem rise_differ (hn : l.length ≤ 400) : differ l (rise l (chain l)) l.length = l.length - (chain l).length := by
  have h1 := differ_ge (l := l) (rise_rising hn) (rise_length _)
  have h2 := (chain_chained (l := l)).sub l.length (rise l (chain l)) (Nat.le_refl _) (by omega) (fun k hk => (rise_keeps k hk).2.symm)
  have h3 := agree_differ (l := l) (rise l (chain l)) l.length
  omega
end
end Go.Proofs.YtgcddjgkieambaaGreatDoor.Cm
