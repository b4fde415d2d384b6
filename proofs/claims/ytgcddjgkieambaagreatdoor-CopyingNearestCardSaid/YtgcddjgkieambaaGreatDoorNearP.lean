/- Plain facts on the nearest texts: the list that both programs return. No program in sight. -/
import Derived.Test.YtgcddjgkieambaaGreatDoorMergeP
import Derived.Test.YtgcddjgkieambaaGreatDoorApartP
set_option linter.unusedVariables false
set_option linter.unusedSimpArgs false
namespace Go.Proofs.YtgcddjgkieambaaGreatDoor
open Go.RowKit

/-- The cost of a text of a list, by its number. -/
def nkey (m : Int) (h : ByteArray) (L : List ByteArray) (i : Int) : Int := if i.toNat < L.length then costOf m (L.getD i.toNat ByteArray.empty) h else 0
/-- The numbers below k whose texts cost at most 'most'. -/
def nfil (key : Int → Int) (most : Int) (k : Nat) : List Int := ((List.range k).filter fun i => decide (key ((i : Nat) : Int) ≤ most)).map fun (i : Nat) => (i : Int)
theorem nfil_succ (key : Int → Int) (most : Int) (k : Nat) : nfil key most (k + 1) = nfil key most k ++ (if key (k : Int) ≤ most then [(k : Int)] else []) := by
  unfold nfil
  rw [List.range_succ, List.filter_append, List.map_append]
  congr 1
  by_cases h : key (k : Int) ≤ most
  · rw [if_pos h, List.filter_cons_of_pos (by simpa using h)]; rfl
  · rw [if_neg h, List.filter_cons_of_neg (by simpa using h)]; rfl
theorem nfil_mem {key : Int → Int} {most : Int} {k : Nat} {x : Int} (h : x ∈ nfil key most k) : 0 ≤ x ∧ x < k ∧ key x ≤ most := by
  unfold nfil at h
  obtain ⟨i, hi, rfl⟩ := List.mem_map.1 h
  obtain ⟨h1, h2⟩ := List.mem_filter.1 hi
  rw [List.mem_range] at h1
  exact ⟨by omega, by omega, by simpa using h2⟩
theorem nfil_of {key : Int → Int} {most : Int} {k i : Nat} (h1 : i < k) (h2 : key (i : Int) ≤ most) : (i : Int) ∈ nfil key most k :=
  List.mem_map.2 ⟨i, List.mem_filter.2 ⟨List.mem_range.2 h1, by simpa using h2⟩, rfl⟩
theorem nfil_length (key : Int → Int) (most : Int) (k : Nat) : (nfil key most k).length ≤ k := by
  unfold nfil
  rw [List.length_map]
  exact Nat.le_trans (List.length_filter_le _ _) (by simp)
theorem nfil_rise (key : Int → Int) (most : Int) : ∀ k, (nfil key most k).Pairwise (· < ·)
  | 0 => List.Pairwise.nil
  | k + 1 => by
    rw [nfil_succ]
    refine List.pairwise_append.2 ⟨nfil_rise key most k, ?_, fun x hx y hy => ?_⟩
    · split
      · exact List.pairwise_singleton _ _
      · exact List.Pairwise.nil
    · split at hy
      · rw [List.mem_singleton] at hy
        rw [hy]
        exact (nfil_mem hx).2.1
      · simp at hy
/-- The list is the nearest ones of the first k. -/
def Near (key : Int → Int) (most : Int) (k : Nat) (r : List Int) : Prop := St.Up key r ∧ r.Perm (nfil key most k)
theorem Near.unique {key : Int → Int} {most : Int} {k : Nat} {r r' : List Int} (h : Near key most k r) (h' : Near key most k r') : r = r' := St.up_unique h.1 h'.1 (h.2.trans h'.2.symm)
theorem Near.mem {key : Int → Int} {most : Int} {k : Nat} {r : List Int} (h : Near key most k r) {x : Int} (hx : x ∈ r) : 0 ≤ x ∧ x < k ∧ key x ≤ most := nfil_mem (h.2.mem_iff.1 hx)
theorem Near.length {key : Int → Int} {most : Int} {k : Nat} {r : List Int} (h : Near key most k r) : r.length ≤ k := by rw [h.2.length_eq]; exact nfil_length _ _ _
theorem Near.zero (key : Int → Int) (most : Int) : Near key most 0 [] := ⟨List.Pairwise.nil, List.Perm.refl _⟩
theorem Near.skip {key : Int → Int} {most : Int} {k : Nat} {r : List Int} (h : Near key most k r) (hk : ¬ key (k : Int) ≤ most) : Near key most (k + 1) r := ⟨h.1, by rw [nfil_succ, if_neg hk, List.append_nil]; exact h.2⟩
/-- The next number is put in at its place. -/
theorem Near.put {key : Int → Int} {most : Int} {k p : Nat} {r : List Int} (h : Near key most k r) (hk : key (k : Int) ≤ most) (hp : p ≤ r.length)
    (h1 : p = 0 ∨ key (r.getD (p - 1) 0) ≤ key (k : Int)) (h2 : p = r.length ∨ key (k : Int) < key (r.getD p 0)) : Near key most (k + 1) (r.take p ++ (k : Int) :: r.drop p) := by
  have hu := h.1
  have hget : ∀ (i j : Nat) (hi : i < j) (hj : j < r.length), St.lx key (r[i]'(by omega)) (r[j]'hj) := fun i j hi hj => List.pairwise_iff_getElem.1 hu i j (by omega) hj hi
  have hgd : ∀ (i : Nat) (hi : i < r.length), r.getD i 0 = r[i]'hi := fun i hi => by simp [List.getD, List.getElem?_eq_getElem hi]
  have hL : ∀ x ∈ r.take p, St.lx key x (k : Int) := fun x hx => by
    obtain ⟨i, hi, rfl⟩ := List.getElem_of_mem hx
    rw [List.length_take] at hi
    rw [List.getElem_take]
    have hm := h.mem (List.getElem_mem (l := r) (n := i) (by omega))
    have h0 : key (r[p - 1]'(by omega)) ≤ key (k : Int) := by
      rcases h1 with e | e
      · omega
      · rwa [hgd (p - 1) (by omega)] at e
    have h3 : key (r[i]'(by omega)) ≤ key (r[p - 1]'(by omega)) := by
      rcases Nat.lt_or_ge i (p - 1) with h4 | h4
      · have := hget i (p - 1) h4 (by omega)
        unfold St.lx at this; omega
      · have : i = p - 1 := by omega
        subst this; exact Int.le_refl _
    unfold St.lx
    omega
  have hR : ∀ x ∈ r.drop p, St.lx key (k : Int) x := fun x hx => by
    obtain ⟨i, hi, rfl⟩ := List.getElem_of_mem hx
    rw [List.length_drop] at hi
    rw [List.getElem_drop]
    have h0 : key (k : Int) < key (r[p]'(by omega)) := by
      rcases h2 with e | e
      · omega
      · rwa [hgd p (by omega)] at e
    rcases Nat.eq_zero_or_pos i with h4 | h4
    · subst h4
      left; exact h0
    · have := hget p (p + i) (by omega) (by omega)
      unfold St.lx at this ⊢
      omega
  have hsub : (r.take p ++ r.drop p).Pairwise (St.lx key) := by rw [List.take_append_drop]; exact hu
  obtain ⟨u1, u2, u3⟩ := List.pairwise_append.1 hsub
  refine ⟨List.pairwise_append.2 ⟨u1, List.pairwise_cons.2 ⟨hR, u2⟩, fun x hx y hy => ?_⟩, ?_⟩
  · rcases List.mem_cons.1 hy with e | hy
    · rw [e]; exact hL x hx
    · exact u3 x hx y hy
  · rw [nfil_succ, if_pos hk]
    refine List.Perm.trans List.perm_middle ?_
    rw [List.take_append_drop]
    exact (List.perm_append_comm (l₁ := [(k : Int)]) (l₂ := r)).trans (List.Perm.append_right _ h.2)
/-- A row that is the merge of the first numbers is the nearest ones. -/
theorem Near.of_merged {key : Int → Int} {most : Int} {k n : Nat} {d d' : Nat → Int} (hd : St.seg d 0 n = nfil key most k) (h : St.Merged key d d' 0 n) : Near key most k (St.seg d' 0 n) := ⟨h.2.2, hd ▸ h.2.1⟩

/-- The error of the nearest texts. -/
def nrE (m : Int) (h : ByteArray) (L : List ByteArray) : Int :=
  if ¬ (m = 1 ∨ m = 2 ∨ m = 3) then 40 else if 64 < h.size ∨ 400 < L.length ∨ L.any (fun s => decide (64 < s.size)) = true then 2 else if okText h = true ∧ L.all okText = true then 0 else 41
end Go.Proofs.YtgcddjgkieambaaGreatDoor
