/- Plain facts on numbers as they are sent: their texts are of characters, at most five, and different numbers have different texts. No program in sight. -/
import Derived.Test.YtgcddjgkieambaaGreatDoorApartP
set_option linter.unusedVariables false
set_option linter.unusedSimpArgs false
namespace Go.Proofs.YtgcddjgkieambaaGreatDoor
open Go.RowKit

/-- The number of a row of digits. -/
def valD (l : List UInt8) : Nat := l.foldl (fun a c => 10 * a + (c.toNat - 48)) 0
theorem valD_snoc (l : List UInt8) (c : UInt8) : valD (l ++ [c]) = 10 * valD l + (c.toNat - 48) := by unfold valD; rw [List.foldl_append]; rfl
theorem digit_nat (i : Nat) (h : i < 10) : (UInt8.ofNat (48 + i)).toNat = 48 + i := by rw [UInt8.toNat_ofNat']; omega
theorem decDigits_val (u : Nat) : valD (Lib.decDigits u) = u := by
  induction u using Nat.strongRecOn with
  | _ u ih =>
    rw [Lib.decDigits]
    by_cases h : u < 10
    · rw [dif_pos h]; simp only [valD, List.foldl_cons, List.foldl_nil, digit_nat u h]; omega
    · rw [dif_neg h, valD_snoc, ih (u / 10) (by omega), digit_nat _ (by omega)]; omega
theorem decDigits_mem (u : Nat) : ∀ c ∈ Lib.decDigits u, 48 ≤ c.toNat ∧ c.toNat ≤ 57 := by
  induction u using Nat.strongRecOn with
  | _ u ih =>
    rw [Lib.decDigits]
    by_cases h : u < 10
    · rw [dif_pos h]
      intro c hc
      rw [List.mem_singleton] at hc
      subst hc
      rw [digit_nat u h]; omega
    · rw [dif_neg h]
      intro c hc
      rcases List.mem_append.1 hc with hc | hc
      · exact ih (u / 10) (by omega) c hc
      · rw [List.mem_singleton] at hc
        subst hc
        rw [digit_nat _ (by omega)]; omega
theorem nDigits_le : ∀ (k u : Nat), u < 10 ^ (k + 1) → Lib.nDigits u ≤ k + 1
  | 0, u, h => by rw [Lib.nDigits_small (by simpa using h)]; omega
  | k + 1, u, h => by
    by_cases h1 : u < 10
    · rw [Lib.nDigits_small h1]; omega
    · rw [Lib.nDigits_big h1]
      have := nDigits_le k (u / 10) (by rw [Nat.pow_succ] at h; omega)
      omega
theorem itoa_digits {n : Int} (h0 : 0 ≤ n) : Lib.itoa n = Lib.decDigits n.toNat := by unfold Lib.itoa; rw [if_neg (by omega)]
theorem itoaB_list {n : Int} (h0 : 0 ≤ n) : (itoaB n).data.toList = Lib.decDigits n.toNat := by unfold itoaB; rw [itoa_digits h0]
theorem itoaB_five {n : Int} (h0 : 0 ≤ n) (h1 : n ≤ 99999) : 1 ≤ (itoaB n).size ∧ (itoaB n).size ≤ 5 := by
  have e : (itoaB n).size = (itoaB n).data.toList.length := by simp
  rw [e, itoaB_list h0, Lib.decDigits_length]
  exact ⟨Lib.nDigits_pos _, nDigits_le 4 _ (by omega)⟩
theorem itoaB_inj {a b : Int} (ha : 0 ≤ a) (hb : 0 ≤ b) (h : itoaB a = itoaB b) : a = b := by
  have e : Lib.decDigits a.toNat = Lib.decDigits b.toNat := by rw [← itoaB_list ha, ← itoaB_list hb, h]
  have := congrArg valD e
  rw [decDigits_val, decDigits_val] at this
  omega
/-- What digits are sent as in Morse. -/
theorem rpD (c : UInt8) : rp pD qD 3 c = if c = 48 then 84 else if c = 49 then 65 else if c = 57 then 78 else c := rfl
theorem rpD_dig (i : Nat) (h : i < 10) : rp pD qD 3 (UInt8.ofNat (48 + i)) = if i = 0 then 84 else if i = 1 then 65 else if i = 9 then 78 else UInt8.ofNat (48 + i) := by
  have : (List.range 10).all (fun i => decide (rp pD qD 3 (UInt8.ofNat (48 + i)) = if i = 0 then 84 else if i = 1 then 65 else if i = 9 then 78 else UInt8.ofNat (48 + i))) = true := by decide +kernel
  simpa using List.all_eq_true.1 this i (List.mem_range.2 h)
theorem dig_of {c : UInt8} (h : 48 ≤ c.toNat ∧ c.toNat ≤ 57) : ∃ i, i < 10 ∧ c = UInt8.ofNat (48 + i) := by
  refine ⟨c.toNat - 48, by omega, ?_⟩
  apply UInt8.toNat_inj.1
  rw [digit_nat _ (by omega)]; omega
theorem rpD_inj {a b : UInt8} (ha : 48 ≤ a.toNat ∧ a.toNat ≤ 57) (hb : 48 ≤ b.toNat ∧ b.toNat ≤ 57) (h : rp pD qD 3 a = rp pD qD 3 b) : a = b := by
  obtain ⟨i, hi, rfl⟩ := dig_of ha
  obtain ⟨j, hj, rfl⟩ := dig_of hb
  have : (List.range 10).all (fun i => (List.range 10).all fun j => decide (rp pD qD 3 (UInt8.ofNat (48 + i)) = rp pD qD 3 (UInt8.ofNat (48 + j)) → UInt8.ofNat (48 + i) = UInt8.ofNat (48 + j))) = true := by decide +kernel
  have h1 := List.all_eq_true.1 this i (List.mem_range.2 hi)
  have h2 := List.all_eq_true.1 h1 j (List.mem_range.2 hj)
  exact of_decide_eq_true h2 h
theorem rpD_char {a : UInt8} (ha : 48 ≤ a.toNat ∧ a.toNat ≤ 57) : 0 ≤ Cm.ixc (rp pD qD 3 a) ∧ 0 ≤ Cm.ixc a := by
  obtain ⟨i, hi, rfl⟩ := dig_of ha
  have : (List.range 10).all (fun i => decide (0 ≤ Cm.ixc (rp pD qD 3 (UInt8.ofNat (48 + i))) ∧ 0 ≤ Cm.ixc (UInt8.ofNat (48 + i)))) = true := by decide +kernel
  exact of_decide_eq_true (List.all_eq_true.1 this i (List.mem_range.2 hi))
theorem mapB_list (f : UInt8 → UInt8) (s : ByteArray) : (mapB f s).data.toList = s.data.toList.map f := by simp [mapB]
theorem size_list (s : ByteArray) : s.size = s.data.toList.length := by simp
theorem mapB_size (f : UInt8 → UInt8) (s : ByteArray) : (mapB f s).size = s.size := by rw [size_list, mapB_list, List.length_map, ← size_list]
theorem map_inj_on {f : UInt8 → UInt8} {p : UInt8 → Prop} (hf : ∀ a b, p a → p b → f a = f b → a = b) : ∀ (l l' : List UInt8), (∀ c ∈ l, p c) → (∀ c ∈ l', p c) → l.map f = l'.map f → l = l'
  | [], [], _, _, _ => rfl
  | [], _ :: _, _, _, h => by simp at h
  | _ :: _, [], _, _, h => by simp at h
  | a :: l, b :: l', h1, h2, h => by
    simp only [List.map_cons, List.cons.injEq] at h
    rw [hf a b (h1 a List.mem_cons_self) (h2 b List.mem_cons_self) h.1, map_inj_on hf l l' (fun c hc => h1 c (List.mem_cons_of_mem _ hc)) (fun c hc => h2 c (List.mem_cons_of_mem _ hc)) h.2]
theorem itoaB_mem {n : Int} (h0 : 0 ≤ n) : ∀ c ∈ (itoaB n).data.toList, 48 ≤ c.toNat ∧ c.toNat ≤ 57 := by rw [itoaB_list h0]; exact decDigits_mem _
theorem sentNum_five {m n : Int} (h0 : 0 ≤ n) (h1 : n ≤ 99999) : 1 ≤ (sentNum m n).size ∧ (sentNum m n).size ≤ 5 := by
  have := itoaB_five h0 h1
  unfold sentNum
  split
  · rw [mapB_size]; exact this
  · exact this
theorem sentNum_chars {m n : Int} (h0 : 0 ≤ n) : allChars (sentNum m n) := by
  intro c hc
  unfold sentNum at hc
  split at hc
  · rw [mapB_list, List.mem_map] at hc
    obtain ⟨d, hd, rfl⟩ := hc
    exact (rpD_char (itoaB_mem h0 d hd)).1
  · exact (rpD_char (itoaB_mem h0 c hc)).2
theorem sentNum_inj {m a b : Int} (ha : 0 ≤ a) (hb : 0 ≤ b) (h : sentNum m a = sentNum m b) : a = b := by
  unfold sentNum at h
  split at h
  · refine itoaB_inj ha hb (ByteArray.ext (Array.ext' ?_))
    have e := congrArg (fun s : ByteArray => s.data.toList) h
    simp only [mapB_list] at e
    exact map_inj_on (p := fun c => 48 ≤ c.toNat ∧ c.toNat ≤ 57) (fun a b => rpD_inj) _ _ (itoaB_mem ha) (itoaB_mem hb) e
  · exact itoaB_inj ha hb h
theorem digErr_ok {m n : Int} (h : digErr m n = 0) : isMode m ∧ 0 ≤ n ∧ n ≤ 99999 := by
  unfold digErr at h
  split at h
  · omega
  · split at h
    · omega
    · exact ⟨Classical.not_not.1 ‹_›, by omega, by omega⟩
theorem digErr_of {m n : Int} (h : isMode m) (h0 : 0 ≤ n) (h1 : n ≤ 99999) : digErr m n = 0 := by unfold digErr; rw [if_neg (fun e => e h), if_neg (by omega)]

/-- The error of hearing a number for another one, and the cost. -/
def cnE (m a b : Int) : Int := if digErr m a ≠ 0 then digErr m a else digErr m b
def cnC (m a b : Int) : Int := if cnE m a b = 0 then costOf m (sentNum m a) (sentNum m b) else 0
theorem cnE_ok {m a b : Int} (h : cnE m a b = 0) : digErr m a = 0 ∧ digErr m b = 0 := by
  unfold cnE at h
  split at h
  · exact absurd h ‹_›
  · exact ⟨Classical.not_not.1 ‹_›, h⟩
theorem cnE_of {m a b : Int} (ha : digErr m a = 0) (hb : digErr m b = 0) : cnE m a b = 0 := by unfold cnE; rw [if_neg (fun e => e ha), hb]
theorem cn_err {m a b : Int} (ha : digErr m a = 0) (hb : digErr m b = 0) : errOf m (sentNum m a) (sentNum m b) = 0 := by
  obtain ⟨h1, h2, h3⟩ := digErr_ok ha
  obtain ⟨_, h4, h5⟩ := digErr_ok hb
  have s1 := sentNum_five (m := m) h2 h3
  have s2 := sentNum_five (m := m) h4 h5
  exact errOf_of ⟨h1, by omega, by omega, sentNum_chars h2, sentNum_chars h4⟩
theorem cnC_bd (m a b : Int) : 0 ≤ cnC m a b ∧ cnC m a b ≤ 20000 := by
  unfold cnC
  split
  · exact costOf_bd _ _ _
  · omega
theorem cnC_zero {m a b : Int} (ha : digErr m a = 0) (hb : digErr m b = 0) : cnC m a b = 0 ↔ a = b := by
  obtain ⟨h1, h2, h3⟩ := digErr_ok ha
  obtain ⟨_, h4, h5⟩ := digErr_ok hb
  unfold cnC
  rw [if_pos (cnE_of ha hb), costOf_zero (cn_err ha hb)]
  exact ⟨sentNum_inj h2 h4, fun e => by rw [e]⟩

/-- Is a part of an exchange as the layout says? -/
def partB (has : Bool) (n most : Int) : Bool := if has then decide (1 ≤ n) && decide (n ≤ most) else decide (n = 0)
/-- Is an exchange valid for a layout? -/
def validB (o1 o2 o3 : Bool) (r s z : Int) : Bool := partB o1 r 599 && (partB o2 s 99999 && partB o3 z 99)
/-- The error of hearing an exchange for another one. -/
def cxE (o1 o2 o3 : Bool) (m r s z r' s' z' : Int) : Int := if ¬ (m = 1 ∨ m = 2 ∨ m = 3) then 40 else if validB o1 o2 o3 r s z && validB o1 o2 o3 r' s' z' then 0 else 1
def cxC (o1 o2 o3 : Bool) (m r s z r' s' z' : Int) : Int := if cxE o1 o2 o3 m r s z r' s' z' = 0 then (if o1 then cnC m r r' else 0) + (if o2 then cnC m s s' else 0) + (if o3 then cnC m z z' else 0) else 0
theorem partB_dig {has : Bool} {m n most : Int} (hm : isMode m) (hb : most ≤ 99999) (h : partB has n most = true) : digErr m n = 0 := by
  unfold partB at h
  split at h
  · simp only [Bool.and_eq_true, decide_eq_true_eq] at h
    exact digErr_of hm (by omega) (by omega)
  · simp only [decide_eq_true_eq] at h
    exact digErr_of hm (by omega) (by omega)
theorem cxE_ok {o1 o2 o3 : Bool} {m r s z r' s' z' : Int} (h : cxE o1 o2 o3 m r s z r' s' z' = 0) : isMode m ∧ validB o1 o2 o3 r s z = true ∧ validB o1 o2 o3 r' s' z' = true := by
  unfold cxE at h
  split at h
  · omega
  · split at h
    · rename_i h1 h2
      rw [Bool.and_eq_true] at h2
      exact ⟨Classical.not_not.1 h1, h2.1, h2.2⟩
    · omega
theorem cxE_of {o1 o2 o3 : Bool} {m r s z r' s' z' : Int} (hm : isMode m) (h1 : validB o1 o2 o3 r s z = true) (h2 : validB o1 o2 o3 r' s' z' = true) : cxE o1 o2 o3 m r s z r' s' z' = 0 := by
  unfold cxE; rw [if_neg (fun e => e hm), h1, h2]; rfl
theorem cxC_bd (o1 o2 o3 : Bool) (m r s z r' s' z' : Int) : 0 ≤ cxC o1 o2 o3 m r s z r' s' z' ∧ cxC o1 o2 o3 m r s z r' s' z' ≤ 60000 := by
  have b1 := cnC_bd m r r'
  have b2 := cnC_bd m s s'
  have b3 := cnC_bd m z z'
  unfold cxC
  split
  · cases o1 <;> cases o2 <;> cases o3 <;> simp only [if_true, if_false, Bool.false_eq_true] <;> omega
  · omega
theorem part_zero {has : Bool} {m n n' most : Int} (hm : isMode m) (hb : most ≤ 99999) (h : partB has n most = true) (h' : partB has n' most = true) : (if has then cnC m n n' else 0) = 0 ↔ n = n' := by
  have d := partB_dig hm hb h
  have d' := partB_dig hm hb h'
  cases has
  · have e1 : n = 0 := of_decide_eq_true h
    have e2 : n' = 0 := of_decide_eq_true h'
    rw [e1, e2]
    exact ⟨fun _ => rfl, fun _ => rfl⟩
  · rw [if_pos rfl]; exact cnC_zero d d'
/-- An exchange costs nothing exactly as a copy of itself. -/
theorem cxC_zero {o1 o2 o3 : Bool} {m r s z r' s' z' : Int} (h : cxE o1 o2 o3 m r s z r' s' z' = 0) : cxC o1 o2 o3 m r s z r' s' z' = 0 ↔ r = r' ∧ s = s' ∧ z = z' := by
  obtain ⟨hm, h1, h2⟩ := cxE_ok h
  have h1' := h1
  have h2' := h2
  unfold validB at h1' h2'
  simp only [Bool.and_eq_true] at h1' h2'
  have a := part_zero hm (by omega) h1'.1 h2'.1
  have b := part_zero hm (by omega) h1'.2.1 h2'.2.1
  have c := part_zero hm (by omega) h1'.2.2 h2'.2.2
  have key : ∀ x y z : Int, 0 ≤ x → 0 ≤ y → 0 ≤ z → (x + y + z = 0 ↔ x = 0 ∧ y = 0 ∧ z = 0) := by intros; omega
  have nn : ∀ (o : Bool) (x y : Int), 0 ≤ (if o then cnC m x y else 0) := fun o x y => by
    split
    · exact (cnC_bd m x y).1
    · exact Int.le_refl _
  unfold cxC
  rw [if_pos h, key _ _ _ (nn _ _ _) (nn _ _ _) (nn _ _ _), a, b, c]
theorem cxE_self {o1 o2 o3 : Bool} {m r s z r' s' z' : Int} (h : cxE o1 o2 o3 m r s z r' s' z' = 0) : cxE o1 o2 o3 m r s z r s z = 0 := by
  obtain ⟨hm, h1, h2⟩ := cxE_ok h
  exact cxE_of hm h1 h1
end Go.Proofs.YtgcddjgkieambaaGreatDoor
