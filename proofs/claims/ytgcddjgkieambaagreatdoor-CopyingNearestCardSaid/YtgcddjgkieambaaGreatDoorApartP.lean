/- Plain facts on the costs of texts. No program in sight. -/
import Derived.Test.YtgcddjgkieambaaGreatDoorAwake
set_option linter.unusedVariables false
set_option linter.unusedSimpArgs false
namespace Go.Proofs.YtgcddjgkieambaaGreatDoor
open Go.RowKit

theorem costOf_mc {m : Int} {s t : ByteArray} (h : errOf m s t = 0) : costOf m s t = Cm.mc m (row s) (row t) := by
  rw [costOf, if_pos h, ← row_length s, ← row_length t]; rfl
theorem costOf_bd (m : Int) (s t : ByteArray) : 0 ≤ costOf m s t ∧ costOf m s t ≤ 20000 := by
  unfold costOf
  split
  · rename_i h
    rcases errOf_cases m s t with ⟨e, _⟩ | ⟨e, _⟩ | ⟨e, _⟩ | ⟨_, hm, l1, l2, _⟩
    · omega
    · omega
    · omega
    · exact Cm.T_bd _ _ _ (Cm.missC_bd m) (Cm.extraC_bd m) (fun _ _ => Cm.sw_bd _ _ _) _ _ (by omega) (by omega)
  · omega
theorem errOf_ok {m : Int} {s t : ByteArray} (h : errOf m s t = 0) : isMode m ∧ s.size ≤ 64 ∧ t.size ≤ 64 ∧ allChars s ∧ allChars t := by
  rcases errOf_cases m s t with ⟨e, _⟩ | ⟨e, _⟩ | ⟨e, _⟩ | ⟨_, h⟩
  · omega
  · omega
  · omega
  · exact h
theorem errOf_of {m : Int} {s t : ByteArray} (h : isMode m ∧ s.size ≤ 64 ∧ t.size ≤ 64 ∧ allChars s ∧ allChars t) : errOf m s t = 0 := by
  obtain ⟨h1, h2, h3, h4, h5⟩ := h
  unfold errOf
  rw [if_neg (fun e => e h1), if_neg (by omega), if_pos ⟨(okText_iff s).2 h4, (okText_iff t).2 h5⟩]
theorem errOf_swap {m : Int} {s t : ByteArray} (h : errOf m s t = 0) : errOf m t s = 0 := by
  obtain ⟨h1, h2, h3, h4, h5⟩ := errOf_ok h
  exact errOf_of ⟨h1, h3, h2, h5, h4⟩
theorem row_mem {s : ByteArray} (h : allChars s) : ∀ x ∈ row s, x < 37 := fun x hx => by
  obtain ⟨j, hj, rfl⟩ := List.getElem_of_mem hx
  have := row_lt h j hj
  rwa [getD_get _ _ hj] at this
theorem row_inj {s t : ByteArray} (hs : allChars s) (ht : allChars t) (h : row s = row t) : s = t := by
  have hl : s.data.toList.length = t.data.toList.length := by
    have := congrArg List.length h
    simpa [row] using this
  apply ByteArray.ext
  apply Array.ext'
  apply List.ext_getElem hl
  intro j h1 h2
  have e1 : (row s)[j]'(by simpa [row] using h1) = (row t)[j]'(by simpa [row] using h2) := by simp only [h]
  simp only [row, List.getElem_map] at e1
  have a1 := hs _ (List.getElem_mem h1)
  have a2 := ht _ (List.getElem_mem h2)
  exact Cm.ixc_inj a1 (by omega)
/-- A cost is 0 exactly for equal texts. -/
theorem costOf_zero {m : Int} {s t : ByteArray} (h : errOf m s t = 0) : costOf m s t = 0 ↔ s = t := by
  obtain ⟨_, _, _, h1, h2⟩ := errOf_ok h
  rw [costOf_mc h, Cm.mc_zero m _ _ (row_mem h1) (row_mem h2)]
  exact ⟨row_inj h1 h2, fun e => by rw [e]⟩
theorem costOf_tri {m : Int} {s t u : ByteArray} (h1 : errOf m s t = 0) (h2 : errOf m t u = 0) (h3 : errOf m s u = 0) : costOf m s u ≤ costOf m s t + costOf m t u := by
  rw [costOf_mc h1, costOf_mc h2, costOf_mc h3]; exact Cm.mc_triangle _ _ _ _
theorem costOf_symm {m : Int} {s t : ByteArray} (h : errOf m s t = 0) (hm : m ≠ 2) : costOf m t s = costOf m s t := by
  have hmo := (errOf_ok h).1
  rw [costOf_mc h, costOf_mc (errOf_swap h)]
  exact Cm.mc_symm _ (by unfold isMode at hmo; omega) _ _
theorem bytes_ne {s t : ByteArray} (h : s ≠ t) : (s.toList == t.toList) = false := by
  rw [ByteArray.toList_eq, ByteArray.toList_eq, beq_eq_false_iff_ne]
  exact fun e => h (ByteArray.ext (Array.ext' e))
theorem bytes_ne' {s t : ByteArray} (h : s ≠ t) : (s == t) = false := by rw [beq_toListBytes]; exact bytes_ne h
end Go.Proofs.YtgcddjgkieambaaGreatDoor
