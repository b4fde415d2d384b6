/- The walks of what 'CheckTable' asks of a table's rows: rows of another length, numbers that are too great. -/
import Derived.Test.YtgcddjgkieambaaGreatDoorAsk2
import Derived.Test.YtgcddjgkieambaaGreatDoorWitP
import Derived.Test.YtgcddjgkieambaaGreatDoorChainC
import Derived.Laws.EntriesVeiled
set_option linter.unusedVariables false
set_option linter.unusedSimpArgs false
namespace Go.Proofs.YtgcddjgkieambaaGreatDoor
open Go.RowKit

def bigNum (x : Int) : Bool := decide (x < -1000000) || decide (1000000 < x)
theorem big_any (x : Int) (w : World) : Calls Tryz.prog 92 #[.int .i64 x] w fun e w' => e = .returned (.bool (bigNum x)) ∧ w = w' := by
  unfold bigNum
  by_cases h : x < -1000000
  · have hd : decide (x < -1000000) = true := by simpa using h
    rw [hd]
    go_enter Tryz.func92, Tryz.ntmps92
    go_wp2
    go_ret
    exact ⟨by simp, rfl⟩
  · have hd : decide (x < -1000000) = false := by simpa using h
    rw [hd]
    go_enter Tryz.func92, Tryz.ntmps92
    go_wp2
    go_ret
    exact ⟨by simp, rfl⟩
/-- No number is too great. -/
def noBig (l : List Int) : Bool := !l.any bigNum
theorem noBig_iff (l : List Int) : noBig l = true ↔ ∀ j, j < l.length → bigNum (l.getD j 0) = false := by
  unfold noBig
  rw [Bool.not_eq_true', List.any_eq_false]
  constructor
  · intro h j hj
    rw [getD_get _ _ hj]
    simpa using h _ (List.getElem_mem hj)
  · intro h x hx
    obtain ⟨j, hj, rfl⟩ := List.getElem_of_mem hx
    have := h j hj
    rw [getD_get _ _ hj] at this
    simp [this]
theorem noBig_no {l : List Int} {k : Nat} (hk : k < l.length) (h : bigNum (l.getD k 0) = true) : noBig l = false := by
  cases ho : noBig l
  · rfl
  · have := (noBig_iff l).1 ho k hk
    rw [h] at this; exact this

theorem indexFunc_big (A : Option Addr) (c : Nat) (l : List Int) (w : World) (hL : l.length ≤ 1000000) (h : Nums w A l) :
    Calls Tryz.prog 117 #[.slice A l.length c, .func (.func 92) #[] #[]] w fun e w' => ∃ z : Int, e = .returned (.int .i64 z) ∧ decide (0 ≤ z) = !noBig l ∧ w = w' := by
  go_enter Tryz.func117, Tryz.ntmps117
  go_wp2
  go_loop [8] (fun i => ∃ k : Nat, k ≤ l.length ∧ i = .int .i64 k ∧ ∀ j, j < k → bigNum (l.getD j 0) = false) (fun i => l.length - (intOf i).toNat)
  case atStart => exact ⟨0, Nat.zero_le _, rfl, fun j hj => absurd hj (by omega)⟩
  case round =>
    obtain ⟨k, hk, rfl, hr⟩ := hrel
    by_cases hlt : k < l.length
    · obtain ⟨a, rfl, _, hc⟩ := h k hlt
      obtain ⟨x, hx⟩ : ∃ x, x = l.getD k 0 := ⟨_, rfl⟩
      rw [← hx] at hc
      have Hx := Lib.hid hx
      have Hr := Lib.hid hr
      have HN := Lib.hid h
      clear hx hr h
      have d0 : (k : Int) < (l.length : Int) := by omega
      have d1 : (0 : Int) ≤ (k : Int) := by omega
      have Hbn := Lib.hid (fun w => big_any x w)
      cases hl : bigNum x with
      | true =>
        rw [hl] at Hbn
        go_wp2_with (go_at_call 92; refine (Hbn.out _).mono ?_; rintro e w' ⟨rfl, rfl⟩)
        go_ret
        exact ⟨_, rfl, by rw [noBig_no hlt (by rw [← Hx.out]; exact hl)]; simp, rfl⟩
      | false =>
        rw [hl] at Hbn
        go_wp2_with (go_at_call 92; refine (Hbn.out _).mono ?_; rintro e w' ⟨rfl, rfl⟩)
        go_round
        case rel => exact ⟨k + 1, by omega, by go_num, fun j hj => by
          by_cases e : j = k
          · subst e; rw [← Hx.out]; exact hl
          · exact Hr.out j (by omega)⟩
        case measure => simp [intOf]; omega
    · have hk' : k = l.length := by omega
      have Hr := Lib.hid hr
      have Hk := Lib.hid hk'
      clear hr hk'
      go_wp2
      go_ret
      exact ⟨_, rfl, by rw [(noBig_iff l).2 (fun j hj => Hr.out j (by rw [Hk.out]; exact hj))]; rfl, rfl⟩
theorem contains_big (A : Option Addr) (c : Nat) (l : List Int) (w : World) (hL : l.length ≤ 1000000) (h : Nums w A l) :
    Calls Tryz.prog 91 #[.slice A l.length c, .func (.func 92) #[] #[]] w fun e w' => e = .returned (.bool (!noBig l)) ∧ w = w' := by
  have HC := Lib.hid (indexFunc_big A c l w hL h)
  clear h
  go_enter Tryz.func91, Tryz.ntmps91
  go_wp2_with (go_at_call 117; refine HC.out.mono ?_; rintro e w' ⟨z, rfl, hz, rfl⟩)
  go_ret
  exact ⟨by simp [hz], rfl⟩

theorem off_any (A : Option Addr) (n c pm m : Nat) (w : World) (hc : w.cell? ⟨pm, 0, none⟩ = some (.int .i64 m)) (hm : m ≤ 1000) :
    Calls Tryz.prog 90 #[.slice A n c, .pointer (some ⟨pm, 0, none⟩)] w fun e w' => e = .returned (.bool (!decide (n = m + 1))) ∧ w = w' := by
  have q1 : IntKind.i64.wrap ((m : Int) + 1) = (m : Int) + 1 := IntWalk.i64_in _ (by omega)
  by_cases h : n = m + 1
  · have hd : ((n : Int) != (m : Int) + 1) = false := by simp; omega
    have hz : decide (n = m + 1) = true := by simpa using h
    rw [hz]
    clear h hz
    go_enter Tryz.func90, Tryz.ntmps90
    go_wp2
    go_ret
    exact ⟨rfl, rfl⟩
  · have hd : ((n : Int) != (m : Int) + 1) = true := by rw [bne_iff_ne]; omega
    have hz : decide (n = m + 1) = false := by simpa using h
    rw [hz]
    clear h hz
    go_enter Tryz.func90, Tryz.ntmps90
    go_wp2
    go_ret
    exact ⟨rfl, rfl⟩
/-- All rows have so many columns. -/
def sized (m : Nat) (L : List (List Int)) : Bool := L.all fun r => decide (r.length = m + 1)
theorem sized_iff (m : Nat) (L : List (List Int)) : sized m L = true ↔ ∀ j, j < L.length → (L.getD j []).length = m + 1 := by
  unfold sized
  rw [List.all_eq_true]
  constructor
  · intro h j hj
    rw [getD_get _ _ hj]
    simpa using h _ (List.getElem_mem hj)
  · intro h x hx
    obtain ⟨j, hj, rfl⟩ := List.getElem_of_mem hx
    have := h j hj
    rw [getD_get _ _ hj] at this
    simpa using this
theorem sized_no {m : Nat} {L : List (List Int)} {k : Nat} (hk : k < L.length) (h : ¬ (L.getD k []).length = m + 1) : sized m L = false := by
  cases ho : sized m L
  · rfl
  · exact absurd ((sized_iff m L).1 ho k hk) h

theorem indexFunc_rows (A : Option Addr) (c : Nat) (L : List (List Int)) (pm m : Nat) (w : World) (hL : L.length ≤ 1000000) (h : RowsG w A L) (hc : w.cell? ⟨pm, 0, none⟩ = some (.int .i64 m)) (hm : m ≤ 1000) :
    Calls Tryz.prog 116 #[.slice A L.length c, .func (.func 90) #[] #[.pointer (some ⟨pm, 0, none⟩)]] w fun e w' => ∃ z : Int, e = .returned (.int .i64 z) ∧ decide (0 ≤ z) = !sized m L ∧ w = w' := by
  have HF := Lib.hid (fun A n c => off_any A n c pm m w hc hm)
  clear hc
  go_enter Tryz.func116, Tryz.ntmps116
  go_wp2
  go_loop [8] (fun i => ∃ k : Nat, k ≤ L.length ∧ i = .int .i64 k ∧ ∀ j, j < k → (L.getD j []).length = m + 1) (fun i => L.length - (intOf i).toNat)
  case atStart => exact ⟨0, Nat.zero_le _, rfl, fun j hj => absurd hj (by omega)⟩
  case round =>
    obtain ⟨k, hk, rfl, hr⟩ := hrel
    by_cases hlt : k < L.length
    · obtain ⟨a, rfl, _, R, cr, hcl, _⟩ := h k hlt
      obtain ⟨x, hx⟩ : ∃ x, x = (L.getD k []).length := ⟨_, rfl⟩
      rw [← hx] at hcl
      have Hx := Lib.hid hx
      have Hr := Lib.hid hr
      have HN := Lib.hid h
      clear hx hr h
      have d0 : (k : Int) < (L.length : Int) := by omega
      have d1 : (0 : Int) ≤ (k : Int) := by omega
      have Hbn := Lib.hid (HF.out R x cr)
      by_cases hl : x = m + 1
      · have hz : decide (x = m + 1) = true := by simpa using hl
        rw [hz] at Hbn
        have Hl := Lib.hid hl
        clear hl hz
        go_wp2_with (go_at_call 90; refine Hbn.out.mono ?_; rintro e w' ⟨rfl, rfl⟩)
        go_round
        case rel => exact ⟨k + 1, by omega, by go_num, fun j hj => by
          by_cases e : j = k
          · subst e; rw [← Hx.out]; exact Hl.out
          · exact Hr.out j (by omega)⟩
        case measure => simp [intOf]; omega
      · have hz : decide (x = m + 1) = false := by simpa using hl
        rw [hz] at Hbn
        have Hl := Lib.hid hl
        clear hl hz
        go_wp2_with (go_at_call 90; refine Hbn.out.mono ?_; rintro e w' ⟨rfl, rfl⟩)
        go_ret
        exact ⟨_, rfl, by rw [sized_no hlt (by rw [← Hx.out]; exact Hl.out)]; simp, rfl⟩
    · have hk' : k = L.length := by omega
      have Hr := Lib.hid hr
      have Hk := Lib.hid hk'
      clear hr hk'
      go_wp2
      go_ret
      exact ⟨_, rfl, by rw [(sized_iff m L).2 (fun j hj => Hr.out j (by rw [Hk.out]; exact hj))]; rfl, rfl⟩
theorem contains_rows (A : Option Addr) (c : Nat) (L : List (List Int)) (pm m : Nat) (w : World) (hL : L.length ≤ 1000000) (h : RowsG w A L) (hc : w.cell? ⟨pm, 0, none⟩ = some (.int .i64 m)) (hm : m ≤ 1000) :
    Calls Tryz.prog 89 #[.slice A L.length c, .func (.func 90) #[] #[.pointer (some ⟨pm, 0, none⟩)]] w fun e w' => e = .returned (.bool (!sized m L)) ∧ w = w' := by
  have HC := Lib.hid (indexFunc_rows A c L pm m w hL h hc hm)
  clear h hc
  go_enter Tryz.func89, Tryz.ntmps89
  go_wp2_with (go_at_call 116; refine HC.out.mono ?_; rintro e w' ⟨z, rfl, hz, rfl⟩)
  go_ret
  exact ⟨by simp [hz], rfl⟩

/-- The number at a place of a table. -/
def fL (L : List (List Int)) (i k : Nat) : Int := (L.getD i []).getD k 0
/-- A table has so many rows and columns, and no number that is too great. -/
def formedB (n m : Nat) (L : List (List Int)) : Bool := decide (L.length = n + 1) && (sized m L && L.all noBig)
theorem allBig_iff (L : List (List Int)) : L.all noBig = true ↔ ∀ j, j < L.length → noBig (L.getD j []) = true := by
  rw [List.all_eq_true]
  constructor
  · intro h j hj
    rw [getD_get _ _ hj]
    exact h _ (List.getElem_mem hj)
  · intro h x hx
    obtain ⟨j, hj, rfl⟩ := List.getElem_of_mem hx
    have := h j hj
    rwa [getD_get _ _ hj] at this
theorem formed_bd {n m : Nat} {L : List (List Int)} (h : formedB n m L = true) {i k : Nat} (hi : i ≤ n) (hk : k ≤ m) : -1000000 ≤ fL L i k ∧ fL L i k ≤ 1000000 := by
  unfold formedB at h
  rw [Bool.and_eq_true, Bool.and_eq_true, decide_eq_true_iff] at h
  obtain ⟨h1, h2, h3⟩ := h
  have a := (allBig_iff L).1 h3 i (by omega)
  have b := (sized_iff m L).1 h2 i (by omega)
  have c := (noBig_iff _).1 a k (by omega)
  unfold bigNum at c
  rw [Bool.or_eq_false_iff, decide_eq_false_iff_not, decide_eq_false_iff_not] at c
  unfold fL
  omega
/-- What a table that is offered proves; none: it is not correct. -/
def ckTb (mode : Int) (xs ys : List Nat) (L : List (List Int)) : Option Int :=
  if formedB xs.length ys.length L && Cm.tabOk xs.length ys.length (Cm.atL mode xs ys) (Cm.missC mode) (Cm.extraC mode) (fL L) then some (fL L xs.length ys.length) else none
def ckN2 (m : Int) (s h : ByteArray) (L : List (List Int)) : Int := if errOf m s h ≠ 0 then 0 else (ckTb m (row s) (row h) L).getD 0
def ckE2 (m : Int) (s h : ByteArray) (L : List (List Int)) : Int := if errOf m s h ≠ 0 then errOf m s h else if (ckTb m (row s) (row h) L).isSome then 0 else 42
theorem tb_law (m : Int) (xs ys : List Nat) (L : List (List Int)) (N E : Int) (hN : N = (ckTb m xs ys L).getD 0) (hE : E = if (ckTb m xs ys L).isSome then 0 else 42) :
    (formedB xs.length ys.length L = false → N = 0 ∧ E = 42) ∧ (formedB xs.length ys.length L = true → ∀ b, b = Cm.tabOk xs.length ys.length (Cm.atL m xs ys) (Cm.missC m) (Cm.extraC m) (fL L) → (b = false → N = 0 ∧ E = 42) ∧ (b = true → N = fL L xs.length ys.length ∧ E = 0)) := by
  unfold ckTb at hN hE
  refine ⟨fun h => ?_, fun h b hb => ⟨fun h' => ?_, fun h' => ?_⟩⟩
  · rw [h] at hN hE; exact ⟨by simpa using hN, by simpa using hE⟩
  · rw [h, ← hb, h'] at hN hE; exact ⟨by simpa using hN, by simpa using hE⟩
  · rw [h, ← hb, h'] at hN hE; exact ⟨by simpa using hN, by simpa using hE⟩
end Go.Proofs.YtgcddjgkieambaaGreatDoor
