/- Plain facts on the codes as the keys of a map. No program in sight. -/
import Derived.Test.YtgcddjgkieambaaGreatDoorChW
import Derived.Maps.OwnSet
import Derived.Maps.StringElems
set_option linter.unusedVariables false
set_option linter.unusedSimpArgs false
namespace Go.Proofs.YtgcddjgkieambaaGreatDoor
open Go.RowKit Go.Maps

abbrev codeK (i : Nat) : Lit := .string (Cm.codeB i).data.toList
abbrev charV (i : Nat) : DataW Unit := .lit (.string [Cm.chars.getD i 0])
/-- The map of the first codes. -/
def mapC : Nat → DataW Unit
  | 0 => .map []
  | k + 1 => (mapC k).put (codeK k) (charV k)
theorem codes_apart {i j : Nat} (hi : i < 37) (hj : j < 37) (h : Cm.codeB i = Cm.codeB j) : i = j := by
  have : (List.range 37).all (fun i => (List.range 37).all fun j => decide ((Cm.codeB i).data.toList = (Cm.codeB j).data.toList → i = j)) = true := by decide +kernel
  have h1 := List.all_eq_true.1 this i (List.mem_range.2 hi)
  have h2 := List.all_eq_true.1 h1 j (List.mem_range.2 hj)
  exact of_decide_eq_true h2 (by rw [h])
theorem lit_apart {s t : ByteArray} (h : s ≠ t) : (Lit.string s.data.toList) ≠ .string t.data.toList := fun e => h (ByteArray.ext (Array.ext' (by injection e)))
theorem mapC_isMap : ∀ k, IsMap (mapC k)
  | 0 => isMap_empty
  | k + 1 => (mapC_isMap k).put _ _
theorem mapC_has (i : Nat) : ∀ k, k ≤ 37 → i < k → has (mapC k) (codeK i) = true ∧ ∀ z, (mapC k).atKey (codeK i) z = charV i
  | 0, _, h => absurd h (by omega)
  | k + 1, hk, h => by
    rw [mapC]
    by_cases e : i = k
    · subst e
      exact ⟨has_put_same (mapC_isMap _) (show WideAt.IsKeyLit (codeK i) from trivial) _, fun z => atKey_put_same (mapC_isMap _) (show WideAt.IsKeyLit (codeK i) from trivial) _ z⟩
    · have hne : codeK i ≠ codeK k := lit_apart fun h => e (codes_apart (by omega) (by omega) h)
      obtain ⟨h1, h2⟩ := mapC_has i k (by omega) (by omega)
      exact ⟨by rw [has_put_other hne]; exact h1, fun z => by rw [atKey_put_other hne]; exact h2 z⟩
theorem mapC_not (s : ByteArray) (hs : ∀ i, i < 37 → Cm.codeB i ≠ s) : ∀ k, k ≤ 37 → has (mapC k) (.string s.data.toList) = false
  | 0, _ => rfl
  | k + 1, hk => by
    rw [mapC, has_put_other (lit_apart (Ne.symm (hs k (by omega))))]
    exact mapC_not s hs k (by omega)
theorem codeB_small (i : Nat) : (Cm.codeB i).size ≤ 5 := by
  by_cases h : i < 37
  · have : (List.range 37).all (fun i => decide ((Cm.codeB i).size ≤ 5)) = true := by decide +kernel
    exact of_decide_eq_true (List.all_eq_true.1 this i (List.mem_range.2 h))
  · have e : Cm.codeB i = ⟨#[]⟩ := by
      unfold Cm.codeB
      rw [List.getD, List.getElem?_eq_none (by show 37 ≤ i; omega)]
      rfl
    rw [e]
    decide
theorem char_slice (k : Nat) (h : k < 37) : charsB.extract k (k + 1) = chB k := by
  have h1 : k < charsB.size := h
  rw [extract_one charsB k h1, charsB_at k h1]
  rfl
theorem chB_list (k : Nat) : (chB k).data.toList = [Cm.chars.getD k 0] := rfl
/-- Is there a character of this code? -/
theorem code_or (s : ByteArray) : (∃ i, i < 37 ∧ Cm.codeB i = s) ∨ ∀ i, i < 37 → Cm.codeB i ≠ s := by
  by_cases h : ∃ i, i < 37 ∧ Cm.codeB i = s
  · exact .inl h
  · exact .inr fun i hi e => h ⟨i, hi, e⟩
end Go.Proofs.YtgcddjgkieambaaGreatDoor
