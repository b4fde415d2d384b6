/- The walks of the closures of 'Chain': which numbers can stay, which can follow, and how many can stay from a place on. -/
import Derived.Test.YtgcddjgkieambaaGreatDoorShelf
import Derived.Test.YtgcddjgkieambaaGreatDoorFill
import Derived.Test.YtgcddjgkieambaaGreatDoorChainP
set_option linter.unusedVariables false
set_option linter.unusedSimpArgs false
namespace Go.Proofs.YtgcddjgkieambaaGreatDoor
open Go.RowKit

/-- A slice of numbers in memory, wherever it lies. -/
def Nums (w : World) (A : Option Addr) (l : List Int) : Prop := ∀ j, j < l.length → ∃ a, A = some a ∧ a.block < w.heap.size ∧ w.cell? (a.add j) = some (.int .i64 (l.getD j 0))
theorem add_block (a : Addr) (j : Nat) : (a.add j).block = a.block := by unfold Addr.add; split <;> rfl
theorem Nums.later {w w' : World} {A : Option Addr} {l : List Int} (h : Nums w A l) (hb : Below w.heap.size w w') : Nums w' A l := fun j hj => by
  obtain ⟨a, e, hl, hc⟩ := h j hj
  exact ⟨a, e, Nat.lt_of_lt_of_le hl hb.size, (hb.cell (p := a.add j) (by rw [add_block]; exact hl)).trans hc⟩

/-- All numbers are from 0 to 99999, and there are at most 400. -/
def Serial (l : List Int) : Prop := l.length ≤ 400 ∧ ∀ j, j < l.length → 0 ≤ l.getD j 0 ∧ l.getD j 0 ≤ 99999

set_option maxRecDepth 100000 in
set_option maxHeartbeats 1000000 in
theorem stays_any (pl pn : Nat) (A : Option Addr) (c : Nat) (l : List Int) (k : Nat) (w : World) (hk : k < l.length) (hS : Serial l)
    (cl : w.cell? ⟨pl, 0, none⟩ = some (.slice A l.length c)) (cn : w.cell? ⟨pn, 0, none⟩ = some (.int .i64 l.length)) (hN : Nums w A l) :
    Calls Tryz.prog 79 #[.int .i64 k, .pointer (some ⟨pl, 0, none⟩), .pointer (some ⟨pn, 0, none⟩)] w fun e w' => e = .returned (.bool (Cm.stay l k)) ∧ ∃ q, w' = w.drewN q := by
  obtain ⟨a, rfl, _, ca⟩ := hN k hk
  have hv := hS.2 k hk
  have hl := hS.1
  have hst : Cm.stay l k = (decide ((k : Int) + 1 ≤ l.getD k 0) && decide (l.getD k 0 ≤ 99999 - ((l.length : Int) - 1 - k))) := rfl
  rw [hst]
  obtain ⟨z, hz⟩ : ∃ z, z = l.getD k 0 := ⟨_, rfl⟩
  rw [← hz] at ca hv ⊢
  clear hz hN hS hst
  have d0 : (0 : Int) ≤ (k : Int) := by omega
  have d1 : (k : Int) < (l.length : Int) := by omega
  have q1 : IntKind.i64.wrap ((k : Int) + 1) = (k : Int) + 1 := IntWalk.i64_in _ (by omega)
  have q2 : IntKind.i64.wrap ((l.length : Int) - 1) = (l.length : Int) - 1 := IntWalk.i64_in _ (by omega)
  have q3 : IntKind.i64.wrap ((l.length : Int) - 1 - (k : Int)) = (l.length : Int) - 1 - (k : Int) := IntWalk.i64_in _ (by omega)
  have q4 : IntKind.i64.wrap (99999 - ((l.length : Int) - 1 - (k : Int))) = 99999 - ((l.length : Int) - 1 - (k : Int)) := IntWalk.i64_in _ (by omega)
  by_cases h1 : (k : Int) + 1 ≤ z
  · have h1' : decide ((k : Int) + 1 ≤ z) = true := by simpa using h1
    have h2' : decide (z ≥ (k : Int) + 1) = true := by simpa using h1
    rw [h1']
    clear h1
    go_enter Tryz.func79, Tryz.ntmps79
    go_wp2
    go_quiet (fail)
    go_wp2
    go_ret
    exact ⟨by simp, _, rfl⟩
  · have h1' : decide ((k : Int) + 1 ≤ z) = false := by simpa using h1
    have h2' : decide (z ≥ (k : Int) + 1) = false := by simpa using h1
    rw [h1']
    clear h1
    go_enter Tryz.func79, Tryz.ntmps79
    go_wp2
    go_quiet (fail)
    go_wp2
    go_ret
    exact ⟨by simp, _, rfl⟩

/-- The number at k can stay behind the one at i, i being -1 or a place. -/
theorem fol_le {l : List Int} {i : Int} {k : Nat} : Cm.fol l i k = (Cm.stay l k && (decide (i < 0) || decide ((k : Int) - i ≤ l.getD k 0 - l.getD i.toNat 0))) := rfl

set_option maxRecDepth 100000 in
set_option maxHeartbeats 2000000 in
theorem follows_neg (ps pl pn : Nat) (A : Option Addr) (c : Nat) (l : List Int) (i : Int) (k : Nat) (w : World) (hi : i < 0) (hk : k < l.length) (hS : Serial l)
    (cs : w.cell? ⟨ps, 0, none⟩ = some (.func (.func 79) #[] #[.pointer (some ⟨pl, 0, none⟩), .pointer (some ⟨pn, 0, none⟩)]))
    (cl : w.cell? ⟨pl, 0, none⟩ = some (.slice A l.length c)) (cn : w.cell? ⟨pn, 0, none⟩ = some (.int .i64 l.length)) (hN : Nums w A l) :
    Calls Tryz.prog 80 #[.int .i64 i, .int .i64 k, .pointer (some ⟨ps, 0, none⟩), .pointer (some ⟨pl, 0, none⟩)] w fun e w' => e = .returned (.bool (Cm.fol l i k)) ∧ ∃ q, w' = w.drewN q := by
  have hf : Cm.fol l i k = Cm.stay l k := Cm.fol_neg hi k
  rw [hf]
  have d0 : decide (i < 0) = true := by simpa using hi
  have HS := Lib.hid (fun q => stays_any pl pn A c l k (w.drewN q) hk hS (by simpa using cl) (by simpa using cn) (hN.later (below_drewN0 q)))
  clear hN hS cl cn hf hi
  obtain ⟨z, hz⟩ : ∃ z, z = Cm.stay l k := ⟨_, rfl⟩
  rw [← hz] at HS ⊢
  clear hz
  cases z
  · go_enter Tryz.func80, Tryz.ntmps80
    go_wp2
    go_quiet (first | (go_at_call 79; exact Calls.quiet_of (HS.out _)))
    go_wp2
    go_ret
    exact ⟨rfl, _, rfl⟩
  · go_enter Tryz.func80, Tryz.ntmps80
    go_wp2
    go_quiet (first | (go_at_call 79; exact Calls.quiet_of (HS.out _)))
    go_wp2
    go_ret
    exact ⟨rfl, _, rfl⟩

set_option maxRecDepth 100000 in
set_option maxHeartbeats 2000000 in
theorem follows_pos (ps pl pn : Nat) (A : Option Addr) (c : Nat) (l : List Int) (i : Nat) (k : Nat) (w : World) (hi : i < l.length) (hk : k < l.length) (hS : Serial l)
    (cs : w.cell? ⟨ps, 0, none⟩ = some (.func (.func 79) #[] #[.pointer (some ⟨pl, 0, none⟩), .pointer (some ⟨pn, 0, none⟩)]))
    (cl : w.cell? ⟨pl, 0, none⟩ = some (.slice A l.length c)) (cn : w.cell? ⟨pn, 0, none⟩ = some (.int .i64 l.length)) (hN : Nums w A l) :
    Calls Tryz.prog 80 #[.int .i64 i, .int .i64 k, .pointer (some ⟨ps, 0, none⟩), .pointer (some ⟨pl, 0, none⟩)] w fun e w' => e = .returned (.bool (Cm.fol l i k)) ∧ ∃ q, w' = w.drewN q := by
  have hf : Cm.fol l i k = (Cm.stay l k && decide ((k : Int) - (i : Int) ≤ l.getD k 0 - l.getD i 0)) := by
    rw [fol_le]; simp only [Int.toNat_natCast]
    rw [show decide ((i : Int) < 0) = false by simp, Bool.false_or]
  rw [hf]
  have d0 : decide ((i : Int) < 0) = false := by simp
  have HS := Lib.hid (fun q => stays_any pl pn A c l k (w.drewN q) hk hS (by simpa using cl) (by simpa using cn) (hN.later (below_drewN0 q)))
  obtain ⟨a, rfl, _, c1⟩ := hN k hk
  obtain ⟨a', e', _, c2⟩ := hN i hi
  injection e' with e'
  subst e'
  have hl := hS.1
  have hv1 := hS.2 k hk
  have hv2 := hS.2 i hi
  obtain ⟨z1, hz1⟩ : ∃ z, z = l.getD k 0 := ⟨_, rfl⟩
  obtain ⟨z2, hz2⟩ : ∃ z, z = l.getD i 0 := ⟨_, rfl⟩
  rw [← hz1] at c1 hv1 ⊢
  rw [← hz2] at c2 hv2 ⊢
  clear hN hS cn hf hz1 hz2
  have q1 : IntKind.i64.wrap (z1 - z2) = z1 - z2 := IntWalk.i64_in _ (by omega)
  have q2 : IntKind.i64.wrap ((k : Int) - (i : Int)) = (k : Int) - (i : Int) := IntWalk.i64_in _ (by omega)
  have p1 : (0 : Int) ≤ (k : Int) := by omega
  have p2 : (k : Int) < (l.length : Int) := by omega
  have p3 : (0 : Int) ≤ (i : Int) := by omega
  have p4 : (i : Int) < (l.length : Int) := by omega
  obtain ⟨z, hz⟩ : ∃ z, z = Cm.stay l k := ⟨_, rfl⟩
  rw [← hz] at HS ⊢
  clear hz
  cases z
  · go_enter Tryz.func80, Tryz.ntmps80
    go_wp2
    go_quiet (first | (go_at_call 79; exact Calls.quiet_of (HS.out _)))
    go_wp2
    go_ret
    exact ⟨rfl, _, rfl⟩
  · go_enter Tryz.func80, Tryz.ntmps80
    go_wp2
    go_quiet (first | (go_at_call 79; exact Calls.quiet_of (HS.out _)))
    go_wp2
    go_ret
    exact ⟨by simp, _, rfl⟩
end Go.Proofs.YtgcddjgkieambaaGreatDoor
