/- Plain facts on alignments, and the walk of the closure that reads the table of what is left. -/
import Derived.Test.YtgcddjgkieambaaGreatDoorRev
set_option linter.unusedVariables false
set_option linter.unusedSimpArgs false
namespace Go.Proofs.YtgcddjgkieambaaGreatDoor
namespace Cm
/-- The first alignment of least cost, from the places i and k on: L is the least cost of what is left, f the fuel. -/
def alFrom (n m : Nat) (L at_ : Nat → Nat → Int) (ms ex : Int) : Nat → Nat → Nat → List (Int × Int × Int)
  | 0, _, _ => []
  | f + 1, i, k =>
    if i < n ∨ k < m then
      if i < n ∧ k < m ∧ L i k = at_ i k + L (i + 1) (k + 1) then ((i : Int), (k : Int), at_ i k) :: alFrom n m L at_ ms ex f (i + 1) (k + 1)
      else if i < n ∧ L i k = ms + L (i + 1) k then ((i : Int), -1, ms) :: alFrom n m L at_ ms ex f (i + 1) k
      else (-1, (k : Int), ex) :: alFrom n m L at_ ms ex f i (k + 1)
    else []
section
variable {n m : Nat} {L at_ : Nat → Nat → Int} {ms ex : Int} {f i k : Nat}
theorem alFrom_swap (h1 : i < n) (h2 : k < m) (h : L i k = at_ i k + L (i + 1) (k + 1)) : alFrom n m L at_ ms ex (f + 1) i k = ((i : Int), (k : Int), at_ i k) :: alFrom n m L at_ ms ex f (i + 1) (k + 1) := by
  rw [alFrom, if_pos (.inl h1), if_pos ⟨h1, h2, h⟩]
theorem alFrom_miss (h1 : i < n) (h : ¬ (k < m ∧ L i k = at_ i k + L (i + 1) (k + 1))) (h' : L i k = ms + L (i + 1) k) : alFrom n m L at_ ms ex (f + 1) i k = ((i : Int), -1, ms) :: alFrom n m L at_ ms ex f (i + 1) k := by
  rw [alFrom, if_pos (.inl h1), if_neg (fun e => h e.2), if_pos ⟨h1, h'⟩]
theorem alFrom_extra (h1 : k < m) (h : ¬ (i < n ∧ L i k = at_ i k + L (i + 1) (k + 1))) (h' : ¬ (i < n ∧ L i k = ms + L (i + 1) k)) : alFrom n m L at_ ms ex (f + 1) i k = (-1, (k : Int), ex) :: alFrom n m L at_ ms ex f i (k + 1) := by
  rw [alFrom, if_pos (.inr h1), if_neg (fun e => h ⟨e.1, e.2.2⟩), if_neg h']
theorem alFrom_end (h1 : ¬ i < n) (h2 : ¬ k < m) : alFrom n m L at_ ms ex f i k = [] := by
  cases f with
  | zero => rfl
  | succ f => rw [alFrom, if_neg (by omega)]
end
/-- The least cost of what is left behind the places i and k. -/
def Lf (mode : Int) (s h : List Nat) (i k : Nat) : Int := T (missC mode) (extraC mode) (fun x y => sw mode (s.reverse.getD x 0) (h.reverse.getD y 0)) (s.length - i) (h.length - k)
end Cm
open Go.RowKit

set_option maxRecDepth 100000 in
theorem left_any (pt pn pm : Nat) (v : Value) (n m B : Nat) (F : Nat → Nat → Int) (i k : Int) (w : World) (h0 : 0 ≤ i) (h1 : i ≤ n) (h2 : 0 ≤ k) (h3 : k ≤ m) (hn : n ≤ 64) (hm : m ≤ 64)
    (ct : w.cell? ⟨pt, 0, none⟩ = some v) (cn : w.cell? ⟨pn, 0, none⟩ = some (.int .i64 n)) (cm : w.cell? ⟨pm, 0, none⟩ = some (.int .i64 m)) (hT : Tab w B v (n + 1) (m + 1) F) :
    Calls Tryz.prog 68 #[.int .i64 i, .int .i64 k, .pointer (some ⟨pt, 0, none⟩), .pointer (some ⟨pn, 0, none⟩), .pointer (some ⟨pm, 0, none⟩)] w fun e w' => e = .returned (.int .i64 (F (n - i.toNat) (m - k.toNat))) ∧ ∃ q, w' = w.drewN q := by
  obtain ⟨i, rfl⟩ := Int.eq_ofNat_of_zero_le h0
  obtain ⟨k, rfl⟩ := Int.eq_ofNat_of_zero_le h2
  simp only [Int.toNat_natCast]
  obtain ⟨g, r, rfl, _, hg, hr⟩ := hT
  have c1 := hg.cell (k := n - i) (by omega)
  have c2 := (hr (n - i) (by omega)).2.cell (k := m - k) (by omega)
  obtain ⟨z, hz⟩ : ∃ z, z = F (n - i) (m - k) := ⟨_, rfl⟩
  rw [← hz] at c2 ⊢
  clear hg hr hz
  have a1 : IntKind.i64.wrap ((n : Int) - (i : Int)) = (n : Int) - (i : Int) := IntWalk.i64_in _ (by omega)
  have a2 : IntKind.i64.wrap ((m : Int) - (k : Int)) = (m : Int) - (k : Int) := IntWalk.i64_in _ (by omega)
  have a3 : (0 : Int) ≤ (n : Int) - (i : Int) := by omega
  have a4 : (0 : Int) ≤ (m : Int) - (k : Int) := by omega
  have a5 : ((n : Int) - (i : Int)).toNat = n - i := by omega
  have a6 : ((m : Int) - (k : Int)).toNat = m - k := by omega
  have a7 : (n : Int) - (i : Int) < (n : Int) + 1 := by omega
  have a8 : (m : Int) - (k : Int) < (m : Int) + 1 := by omega
  have a9 : (i : Int) ≤ (n : Int) := by omega
  have a10 : (k : Int) ≤ (m : Int) := by omega
  go_enter Tryz.func68, Tryz.ntmps68
  go_wp2
  go_quiet (fail)
  go_wp2
  go_ret
  exact ⟨rfl, _, rfl⟩
end Go.Proofs.YtgcddjgkieambaaGreatDoor
