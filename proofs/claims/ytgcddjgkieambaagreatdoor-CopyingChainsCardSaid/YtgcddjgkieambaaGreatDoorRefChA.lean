/- The walks of the reference's 'serials' and of the first loops of its 'Chain'. -/
import Derived.Test.YtgcddjgkieambaaGreatDoorRisesA
import Derived.Test.YtgcddjgkieambaaGreatDoorRefChP
import Derived.BigRegion
set_option linter.unusedVariables false
set_option linter.unusedSimpArgs false
namespace Go.Proofs.YtgcddjgkieambaaGreatDoor
open Go.RowKit

set_option maxHeartbeats 1000000 in
theorem refSer_any (A : Option Addr) (c : Nat) (l : List Int) (w : World) (h : Nums w A l) : Calls Tryz.prog 82 #[.slice A l.length c] w fun e w' => e = .returned (.int .i64 (serErr l)) ∧ w = w' := by
  by_cases hl : 400 < l.length
  · have hd : decide (400 < (l.length : Int)) = true := by simp; omega
    rw [serErr, if_pos hl]
    clear h
    go_enter Tryz.func82, Tryz.ntmps82
    go_wp2
    go_ret
    exact ⟨rfl, rfl⟩
  · have hd : decide (400 < (l.length : Int)) = false := by simp; omega
    have HN := Lib.hid h
    obtain ⟨z, hz⟩ : ∃ z, z = serErr l := ⟨_, rfl⟩
    rw [← hz]
    have hz0 : okNums l = true → z = 0 := fun e => by rw [hz, serErr, if_neg hl, if_pos e]
    have hz1 : okNums l = false → z = 1 := fun e => by rw [hz, serErr, if_neg hl, if_neg (by rw [e]; decide)]
    have HZ0 := Lib.hid hz0
    have HZ1 := Lib.hid hz1
    clear h hz hz0 hz1
    go_enter Tryz.func82, Tryz.ntmps82
    go_wp2
    go_loop [3] (fun i => ∃ k : Nat, k ≤ l.length ∧ i = .int .i64 k ∧ ∀ j, j < k → badNum (l.getD j 0) = false) (fun i => l.length - (intOf i).toNat)
    case atStart => exact ⟨0, Nat.zero_le _, rfl, fun j hj => absurd hj (by omega)⟩
    case round =>
      obtain ⟨k, hk, rfl, hr⟩ := hrel
      by_cases hlt : k < l.length
      · obtain ⟨a, rfl, _, hc⟩ := HN.out k hlt
        obtain ⟨x, hx⟩ : ∃ x, x = l.getD k 0 := ⟨_, rfl⟩
        rw [← hx] at hc
        have Hx := Lib.hid hx
        have Hr := Lib.hid hr
        clear hx hr
        have d0 : (k : Int) < (l.length : Int) := by omega
        have d1 : (0 : Int) ≤ (k : Int) := by omega
        have d2 : decide ((k : Int) < (l.length : Int)) = true := by simp; omega
        have q1 : IntKind.i64.wrap ((k : Int) + 1) = (k : Int) + 1 := IntWalk.i64_in _ (by omega)
        by_cases h1 : x < 0
        · have e1 : decide (x < 0) = true := by simpa using h1
          have Hz : Hid (z = 1) := Lib.hid (HZ1.out (okNums_no hlt (by rw [← Hx.out]; unfold badNum; rw [e1]; rfl)))
          clear h1
          go_wp2
          go_ret
          exact ⟨by rw [Hz.out]; rfl, rfl⟩
        · have e1 : decide (x < 0) = false := by simpa using h1
          by_cases h2 : 99999 < x
          · have e2 : decide (99999 < x) = true := by simpa using h2
            have e2' : decide (x > 99999) = true := by simpa using h2
            have Hz : Hid (z = 1) := Lib.hid (HZ1.out (okNums_no hlt (by rw [← Hx.out]; unfold badNum; rw [e2]; simp)))
            clear h1 h2
            go_wp2
            go_ret
            exact ⟨by rw [Hz.out]; rfl, rfl⟩
          · have e2 : decide (99999 < x) = false := by simpa using h2
            have e2' : decide (x > 99999) = false := by simpa using h2
            have Hb := Lib.hid (show badNum x = false by unfold badNum; rw [e1, e2]; rfl)
            clear h1 h2
            go_wp2
            go_round
            case rel => exact ⟨k + 1, by omega, by go_num, fun j hj => by
              by_cases e : j = k
              · subst e; rw [← Hx.out]; exact Hb.out
              · exact Hr.out j (by omega)⟩
            case measure => simp [intOf]; omega
      · obtain rfl : k = l.length := by omega
        have d2 : decide ((l.length : Int) < (l.length : Int)) = false := by simp
        have Hz : Hid (z = 0) := Lib.hid (HZ0.out ((okNums_iff l).2 hr))
        clear hr
        go_wp2
        go_ret
        exact ⟨by rw [Hz.out]; rfl, rfl⟩

set_option maxRecDepth 100000 in
set_option maxHeartbeats 2000000 in
theorem refChain_no (A : Option Addr) (c : Nat) (l : List Int) (w : World) (h : Nums w A l) (he : serErr l ≠ 0) : Calls Tryz.prog 29 #[.slice A l.length c] w fun e w' => e = .returned (.tuple #[.slice none 0 0, .int .i64 (serErr l)]) ∧ w = w' := by
  have HS := Lib.hid (refSer_any A c l w h)
  obtain ⟨z, hz⟩ : ∃ z, z = serErr l := ⟨_, rfl⟩
  rw [← hz] at HS he ⊢
  have d0 : (z != 0) = true := by simpa using he
  clear h he hz
  go_enter Tryz.func29, Tryz.ntmps29
  go_wp2_with (go_at_call 82; refine HS.out.mono ?_; rintro e w1 ⟨rfl, rfl⟩)
  go_ret2
  exact ⟨rfl, rfl⟩

/-- The table of the reference: done from place j on. -/
def TabO (l : List Int) (g j : Nat) (wx : World) : Prop := RowA wx g 3 (l.length + 1) (fun x => .int .i64 ((if j ≤ x ∧ x < l.length then Cm.bst l x else 0 : Nat) : Int))
/-- Place i under way, the places up to k being looked at. -/
def TabI (l : List Int) (g i k : Nat) (wx : World) : Prop := RowA wx g 3 (l.length + 1) (fun x => .int .i64 ((if x = i then Cm.pb l i k else if i < x ∧ x < l.length then Cm.bst l x else 0 : Nat) : Int))
theorem TabO.skip {l : List Int} {g i : Nat} {wx : World} (h : TabO l g (i + 1) wx) (hs : Cm.stay l i = false) : TabO l g i wx := by
  refine RowK.congr h fun x hx => ?_
  by_cases e : x = i
  · subst e
    have : Cm.bst l x = 0 := by unfold Cm.bst; rw [hs]; rfl
    rw [if_neg (by omega), this]; simp
  · by_cases e2 : i ≤ x ∧ x < l.length
    · rw [if_pos (by omega), if_pos e2]
    · rw [if_neg (by omega), if_neg e2]
theorem TabO.begin {l : List Int} {g i : Nat} {wx : World} (h : TabO l g (i + 1) wx) : TabI l g i (i + 1) (wx.setCell ⟨g, i, none⟩ (.int .i64 1)) := by
  refine RowA.put h fun x hx => ?_
  by_cases e : x = i
  · subst e; rw [if_pos rfl, if_pos rfl, Cm.pb_start]; rfl
  · rw [if_neg e, if_neg e]
    by_cases e2 : i < x ∧ x < l.length
    · rw [if_pos e2, if_pos (by omega)]
    · rw [if_neg e2, if_neg (by omega)]
theorem TabI.done {l : List Int} {g i : Nat} {wx : World} (h : TabI l g i l.length wx) (hi : i < l.length) (hs : Cm.stay l i = true) : TabO l g i wx := by
  refine RowK.congr h fun x hx => ?_
  by_cases e : x = i
  · subst e; rw [if_pos rfl, if_pos (by omega), Cm.pb_end hi hs]
  · rw [if_neg e]
    by_cases e2 : i < x ∧ x < l.length
    · rw [if_pos e2, if_pos (by omega)]
    · rw [if_neg e2, if_neg (by omega)]
theorem TabI.stays {l : List Int} {g i k : Nat} {wx : World} (h : TabI l g i k wx) (hk : i < k) (hf : Cm.fol l i k = false) : TabI l g i (k + 1) wx := by
  unfold TabI
  rw [Cm.pb_succ hk, hf]
  exact h
theorem TabI.step {l : List Int} {g i k : Nat} {wx : World} (h : TabI l g i k wx) (hk : i < k) (hf : Cm.fol l i k = true) (u : Int) (hu : u = (max (Cm.pb l i k) (Cm.bst l k + 1) : Nat)) : TabI l g i (k + 1) (wx.setCell ⟨g, i, none⟩ (.int .i64 u)) := by
  subst hu
  refine RowA.put h fun x hx => ?_
  by_cases e : x = i
  · subst e; rw [if_pos rfl, if_pos rfl, Cm.pb_succ hk, hf, if_pos rfl, Cm.fol_gg hf]
  · rw [if_neg e, if_neg e, if_neg e]
end Go.Proofs.YtgcddjgkieambaaGreatDoor
