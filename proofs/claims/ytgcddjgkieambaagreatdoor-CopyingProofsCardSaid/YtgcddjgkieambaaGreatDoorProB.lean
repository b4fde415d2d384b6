/- The walk of the reference's 'formed'. -/
import Derived.Test.YtgcddjgkieambaaGreatDoorWitB
set_option linter.unusedVariables false
set_option linter.unusedSimpArgs false
namespace Go.Proofs.YtgcddjgkieambaaGreatDoor
open Go.RowKit

theorem RowsG.place {w : World} {A : Option Addr} {L : List (List Int)} (h : RowsG w A L) {i : Nat} (hi : i < L.length) :
    ∃ (g o : Nat) (R : Option Addr) (c : Nat), A = some ⟨g, o, none⟩ ∧ g < w.heap.size ∧ w.cell? ⟨g, o + i, none⟩ = some (.slice R (L.getD i []).length c) ∧ Nums w R (L.getD i []) := by
  obtain ⟨a, rfl, hb, R, c, hc, hn⟩ := h i hi
  have hsp : a.spot = none := by
    obtain ⟨a', ha', _, R', c', hc', _⟩ := h 0 (by omega)
    cases ha'
    have := World.cell?_spot hc'
    simpa [Addr.add] using this
  obtain ⟨g, o, sp⟩ := a
  simp only at hsp
  subst hsp
  rw [Addr.add_lit] at hc
  exact ⟨g, o, R, c, rfl, hb, hc, hn⟩
theorem Nums.place {w : World} {A : Option Addr} {l : List Int} (h : Nums w A l) {k : Nat} (hk : k < l.length) :
    ∃ (g o : Nat), A = some ⟨g, o, none⟩ ∧ g < w.heap.size ∧ w.cell? ⟨g, o + k, none⟩ = some (.int .i64 (l.getD k 0)) := by
  obtain ⟨a, rfl, hb, hc⟩ := h k hk
  have hsp : a.spot = none := by
    obtain ⟨a', ha', _, hc'⟩ := h 0 (by omega)
    cases ha'
    have := World.cell?_spot hc'
    simpa [Addr.add] using this
  obtain ⟨g, o, sp⟩ := a
  simp only at hsp
  subst hsp
  rw [Addr.add_lit] at hc
  exact ⟨g, o, rfl, hb, hc⟩
theorem formed_len {n m : Nat} {L : List (List Int)} (h : ¬ L.length = n + 1) : formedB n m L = false := by unfold formedB; rw [decide_eq_false h]; rfl
theorem formed_row {n m : Nat} {L : List (List Int)} {i : Nat} (hi : i < L.length) (h : ¬ (L.getD i []).length = m + 1) : formedB n m L = false := by unfold formedB; rw [sized_no hi h]; simp
theorem formed_big {n m : Nat} {L : List (List Int)} {i k : Nat} (hi : i < L.length) (hk : k < (L.getD i []).length) (h : bigNum ((L.getD i []).getD k 0) = true) : formedB n m L = false := by
  have : L.all noBig = false := by
    cases ho : L.all noBig
    · rfl
    · have h2 := (allBig_iff L).1 ho i hi
      rw [noBig_no hk h] at h2; cases h2
  unfold formedB; rw [this]; simp
theorem formed_yes {n m : Nat} {L : List (List Int)} (h1 : L.length = n + 1) (h : ∀ i, i < n + 1 → (L.getD i []).length = m + 1 ∧ ∀ k, k < m + 1 → bigNum ((L.getD i []).getD k 0) = false) : formedB n m L = true := by
  unfold formedB
  rw [decide_eq_true h1, (sized_iff m L).2 (fun j hj => (h j (by omega)).1), (allBig_iff L).2 (fun j hj => (noBig_iff _).2 (fun k hk => (h j (by omega)).2 k (by rw [(h j (by omega)).1] at hk; exact hk)))]
  rfl

set_option maxRecDepth 100000 in
set_option maxHeartbeats 4000000 in
theorem formed_any (R : Option Addr) (cr : Nat) (L : List (List Int)) (n m : Nat) (w : World) (hS : RowsG w R L) (hn : n ≤ 1000) (hm : m ≤ 1000) :
    Calls Tryz.prog 93 #[.slice R L.length cr, .int .i64 ((n : Int) + 1), .int .i64 ((m : Int) + 1)] w fun e w' => e = .returned (.bool (formedB n m L)) ∧ w = w' := by
  obtain ⟨F, hF⟩ : ∃ F, F = formedB n m L := ⟨_, rfl⟩
  rw [← hF]
  by_cases hlen : L.length = n + 1
  · have HS := Lib.hid hS
    have HL := Lib.hid hlen
    have HF := Lib.hid hF
    have d0 : ((L.length : Int) != (n : Int) + 1) = false := by simp; omega
    have d0' : (L.length : Int) = (n : Int) + 1 := by omega
    clear hS hF
    rw [hlen]
    have d0'' : (((n + 1 : Nat) : Int) != (n : Int) + 1) = false := by simp
    have d0z : ((n : Int) + 1 != (n : Int) + 1) = false := by simp
    clear hlen d0 d0'
    go_enter Tryz.func93, Tryz.ntmps93
    go_wp2
    go_loop [7] (fun v7 => ∃ i : Nat, i ≤ n + 1 ∧ v7 = .int .i64 i ∧ ∀ i', i' < i → (L.getD i' []).length = m + 1 ∧ ∀ k, k < m + 1 → bigNum ((L.getD i' []).getD k 0) = false) (fun v7 => n + 1 - (intOf v7).toNat)
    case atStart => exact ⟨0, by omega, rfl, fun i hi => absurd hi (by omega)⟩
    case round =>
      obtain ⟨i, hi, rfl, hr⟩ := hrel
      have Hr := Lib.hid hr
      clear hr
      by_cases hit : i < n + 1
      · have e1 : decide ((i : Int) < (n : Int) + 1) = true := by simp; omega
        have e2 : (i : Int) < (n : Int) + 1 := by omega
        have e3 : (0 : Int) ≤ (i : Int) := by omega
        have e4 : IntKind.i64.wrap ((i : Int) + 1) = (i : Int) + 1 := IntWalk.i64_in _ (by omega)
        obtain ⟨g, o, Ri, ci, rfl, _, hc, hnu⟩ := HS.out.place (i := i) (by have := HL.out; omega)
        obtain ⟨ri, hri⟩ : ∃ r, r = L.getD i [] := ⟨_, rfl⟩
        rw [← hri] at hc hnu
        have Hri := Lib.hid hri
        clear hri
        by_cases hrl : ri.length = m + 1
        · rw [hrl] at hc
          have f0 : ((m : Int) + 1 != (m : Int) + 1) = false := by simp
          have f0' : (((m + 1 : Nat) : Int) != (m : Int) + 1) = false := by simp
          have Hrl := Lib.hid hrl
          have Hnu := Lib.hid hnu
          clear hrl hnu
          go_wp2
          go_loop [8] (fun v8 => ∃ k : Nat, k ≤ m + 1 ∧ v8 = .int .i64 k ∧ ∀ k', k' < k → bigNum (ri.getD k' 0) = false) (fun v8 => m + 1 - (intOf v8).toNat)
          case atStart => exact ⟨0, by omega, rfl, fun i hi => absurd hi (by omega)⟩
          case round =>
            obtain ⟨k, hk, rfl, hq⟩ := hrel
            have Hq := Lib.hid hq
            clear hq
            by_cases hkt : k < m + 1
            · have g1 : decide ((k : Int) < (m : Int) + 1) = true := by simp; omega
              have g2 : (k : Int) < (m : Int) + 1 := by omega
              have g3 : (0 : Int) ≤ (k : Int) := by omega
              have g4 : IntKind.i64.wrap ((k : Int) + 1) = (k : Int) + 1 := IntWalk.i64_in _ (by omega)
              obtain ⟨gp, op, rfl, _, hck⟩ := Hnu.out.place (k := k) (by have := Hrl.out; omega)
              obtain ⟨z, hz⟩ : ∃ z, z = ri.getD k 0 := ⟨_, rfl⟩
              rw [← hz] at hck
              have Hz := Lib.hid hz
              clear hz
              by_cases h1 : z < -1000000
              · have p1 : decide (z < -1000000) = true := by simpa using h1
                have Hno : Hid (F = false) := Lib.hid (by
                  rw [HF.out]
                  exact formed_big (i := i) (k := k) (by have := HL.out; omega) (by rw [← Hri.out, Hrl.out]; omega) (by rw [← Hri.out, ← Hz.out]; unfold bigNum; rw [p1]; rfl))
                clear h1
                go_wp2
                go_ret
                exact ⟨by rw [Hno.out]; rfl, rfl⟩
              · have p1 : decide (z < -1000000) = false := by simpa using h1
                by_cases h2 : 1000000 < z
                · have p2 : decide (1000000 < z) = true := by simpa using h2
                  have Hno : Hid (F = false) := Lib.hid (by
                    rw [HF.out]
                    exact formed_big (i := i) (k := k) (by have := HL.out; omega) (by rw [← Hri.out, Hrl.out]; omega) (by rw [← Hri.out, ← Hz.out]; unfold bigNum; rw [p2, Bool.or_true]))
                  clear h1 h2
                  go_wp2
                  go_ret
                  exact ⟨by rw [Hno.out]; rfl, rfl⟩
                · have p2 : decide (1000000 < z) = false := by simpa using h2
                  have Hok : Hid (bigNum z = false) := Lib.hid (by unfold bigNum; rw [p1, p2]; rfl)
                  clear h1 h2
                  go_wp2
                  go_round
                  case rel => exact ⟨k + 1, by omega, by go_num, fun k' hk' => by
                    by_cases e : k' = k
                    · subst e; rw [← Hz.out]; exact Hok.out
                    · exact Hq.out k' (by omega)⟩
                  case measure => simp [intOf] <;> omega
            · obtain rfl : k = m + 1 := by omega
              have g1 : decide ((m : Int) + 1 < (m : Int) + 1) = false := by simp
              have g1' : decide (((m + 1 : Nat) : Int) < (m : Int) + 1) = false := by simp
              go_wp2
              go_round
              case rel => exact ⟨i + 1, by omega, by go_num, fun i' hi' => by
                by_cases e : i' = i
                · subst e; rw [← Hri.out]; exact ⟨Hrl.out, Hq.out⟩
                · exact Hr.out i' (by omega)⟩
              case measure => simp [intOf] <;> omega
        · have f0 : ((ri.length : Int) != (m : Int) + 1) = true := by rw [bne_iff_ne]; omega
          have Hno : Hid (F = false) := Lib.hid (by rw [HF.out]; exact formed_row (i := i) (by have := HL.out; omega) (by rw [← Hri.out]; exact hrl))
          clear hrl hnu
          go_wp2
          go_ret
          exact ⟨by rw [Hno.out]; rfl, rfl⟩
      · obtain rfl : i = n + 1 := by omega
        have e1 : decide ((n : Int) + 1 < (n : Int) + 1) = false := by simp
        have e1' : decide (((n + 1 : Nat) : Int) < (n : Int) + 1) = false := by simp
        have Hyes : Hid (F = true) := Lib.hid (by rw [HF.out]; exact formed_yes HL.out Hr.out)
        go_wp2
        go_ret
        exact ⟨by rw [Hyes.out]; rfl, rfl⟩
  · have d0 : ((L.length : Int) != (n : Int) + 1) = true := by rw [bne_iff_ne]; omega
    have Hno : Hid (F = false) := Lib.hid (by rw [hF]; exact formed_len hlen)
    clear hS hlen hF
    go_enter Tryz.func93, Tryz.ntmps93
    go_wp2
    go_ret
    exact ⟨by rw [Hno.out]; rfl, rfl⟩
end Go.Proofs.YtgcddjgkieambaaGreatDoor
