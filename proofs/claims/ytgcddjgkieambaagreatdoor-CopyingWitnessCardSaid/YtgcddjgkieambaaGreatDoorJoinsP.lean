/- Plain facts for CopyingJoins. No program in sight. -/
import Derived.Test.YtgcddjgkieambaaGreatDoorApartP
set_option linter.unusedVariables false
set_option linter.unusedSimpArgs false
namespace Go.Proofs.YtgcddjgkieambaaGreatDoor
open Go.RowKit

theorem Cm.led_snoc (x : Int × Int × Int) : ∀ (l : List (Int × Int × Int)) (i k : Nat) (c : Int), Cm.led (l ++ [x]) i k c =
    ((if 0 ≤ x.1 then (Cm.led l i k c).1 + 1 else (Cm.led l i k c).1), (if 0 ≤ x.2.1 then (Cm.led l i k c).2.1 + 1 else (Cm.led l i k c).2.1), (Cm.led l i k c).2.2 + x.2.2)
  | [], i, k, c => rfl
  | y :: l, i, k, c => by rw [List.cons_append, Cm.led, Cm.led, Cm.led_snoc x l]
theorem take_snoc {α : Type} (l : List α) (d : α) (n : Nat) (h : n < l.length) : l.take (n + 1) = l.take n ++ [l.getD n d] := by
  rw [getD_get _ _ h, List.take_add_one, List.getElem?_eq_getElem h]; rfl
theorem led_step (l : List (Int × Int × Int)) (n : Nat) (h : n < l.length) : Cm.led (l.take (n + 1)) 0 0 0 =
    ((if 0 ≤ (l.getD n (0, 0, 0)).1 then (Cm.led (l.take n) 0 0 0).1 + 1 else (Cm.led (l.take n) 0 0 0).1), (if 0 ≤ (l.getD n (0, 0, 0)).2.1 then (Cm.led (l.take n) 0 0 0).2.1 + 1 else (Cm.led (l.take n) 0 0 0).2.1),
      (Cm.led (l.take n) 0 0 0).2.2 + (l.getD n (0, 0, 0)).2.2) := by
  rw [take_snoc l (0, 0, 0) n h, Cm.led_snoc]

theorem ext_list (s : ByteArray) (a b : Nat) : (s.extract a b).data.toList = (s.data.toList.take b).drop a := by
  rw [ByteArray.data_extract, Array.toList_extract, List.extract_eq_take_drop, List.drop_take]
theorem row_take (s : ByteArray) (i : Nat) : row (s.extract 0 i) = (row s).take i := by
  unfold row; rw [ext_list, List.drop_zero, List.map_take]
theorem row_drop (s : ByteArray) (i : Nat) : row (s.extract i s.size) = (row s).drop i := by
  unfold row; rw [ext_list, show s.size = s.data.toList.length by simp, List.take_length, List.map_drop]
theorem chars_take {s : ByteArray} (h : allChars s) (a b : Nat) : allChars (s.extract a b) := fun c hc => by
  rw [ext_list] at hc
  exact h c (List.mem_of_mem_take (List.mem_of_mem_drop hc))
theorem size_ext (s : ByteArray) (a b : Nat) : (s.extract a b).size ≤ s.size := by
  rw [ByteArray.size_extract]; omega
theorem row_append (s t : ByteArray) : row (s ++ t) = row s ++ row t := by
  unfold row; rw [ByteArray.data_append]; simp
/-- The cost of two texts put together is at most the sum of the costs of the parts. -/
theorem costOf_join {m : Int} {s t u v : ByteArray} (h1 : errOf m s t = 0) (h2 : errOf m u v = 0) (h3 : errOf m (s ++ u) (t ++ v) = 0) : costOf m (s ++ u) (t ++ v) ≤ costOf m s t + costOf m u v := by
  rw [costOf_mc h1, costOf_mc h2, costOf_mc h3, row_append, row_append]; exact Cm.mc_join _ _ _ _ _
/-- Where an alignment of least cost is cut: both parts cost least. -/
theorem cut_at {m : Int} {s t : ByteArray} (h : errOf m s t = 0) (n : Nat) : ∃ i k c, Cm.led ((Cm.ali m (row s) (row t)).take n) 0 0 0 = (i, k, c) ∧ i ≤ s.size ∧ k ≤ t.size ∧ 0 ≤ c ∧ c ≤ 20000 ∧
    errOf m (s.extract 0 i) (t.extract 0 k) = 0 ∧ errOf m (s.extract i s.size) (t.extract k t.size) = 0 ∧ costOf m (s.extract 0 i) (t.extract 0 k) = c ∧ c + costOf m (s.extract i s.size) (t.extract k t.size) = costOf m s t := by
  obtain ⟨h1, h2, h3, h4, h5⟩ := errOf_ok h
  obtain ⟨i, k, c, e, hi, hk, hc, hs⟩ := Cm.ali_cut m (row s) (row t) n
  rw [row_length] at hi hk
  have e1 : errOf m (s.extract 0 i) (t.extract 0 k) = 0 := errOf_of ⟨h1, Nat.le_trans (size_ext _ _ _) h2, Nat.le_trans (size_ext _ _ _) h3, chars_take h4 _ _, chars_take h5 _ _⟩
  have e2 : errOf m (s.extract i s.size) (t.extract k t.size) = 0 := errOf_of ⟨h1, Nat.le_trans (size_ext _ _ _) h2, Nat.le_trans (size_ext _ _ _) h3, chars_take h4 _ _, chars_take h5 _ _⟩
  have f1 : costOf m (s.extract 0 i) (t.extract 0 k) = c := by rw [costOf_mc e1, row_take, row_take]; exact hc.symm
  have f2 : c + costOf m (s.extract i s.size) (t.extract k t.size) = costOf m s t := by rw [costOf_mc e2, costOf_mc h, row_drop, row_drop]; exact hs
  have b1 := costOf_bd m (s.extract 0 i) (t.extract 0 k)
  exact ⟨i, k, c, e, hi, hk, by omega, by omega, e1, e2, f1, f2⟩
theorem ali_length {m : Int} {s t : ByteArray} (h : errOf m s t = 0) : (Cm.ali m (row s) (row t)).length ≤ 1000000 := by
  obtain ⟨h1, h2, h3, _⟩ := errOf_ok h
  have key : ∀ (n m' : Nat) (L a : Nat → Nat → Int) (ms ex : Int) (f i k : Nat), (Cm.alFrom n m' L a ms ex f i k).length ≤ f := by
    intro n m' L a ms ex f
    induction f with
    | zero => intro i k; simp [Cm.alFrom]
    | succ f ih =>
      intro i k
      rw [Cm.alFrom]
      split
      · split
        · have := ih (i + 1) (k + 1); simp; omega
        · split
          · have := ih (i + 1) k; simp; omega
          · have := ih i (k + 1); simp; omega
      · simp
  have := key (row s).length (row t).length (Cm.Lf m (row s) (row t)) (Cm.atL m (row s) (row t)) (Cm.missC m) (Cm.extraC m) ((row s).length + (row t).length) 0 0
  unfold Cm.ali
  rw [row_length, row_length] at this ⊢
  omega
end Go.Proofs.YtgcddjgkieambaaGreatDoor
