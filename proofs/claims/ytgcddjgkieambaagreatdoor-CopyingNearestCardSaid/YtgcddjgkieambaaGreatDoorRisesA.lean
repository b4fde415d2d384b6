/- The walks of 'CheckRise', 'Rising' and 'same'. -/
import Derived.Test.YtgcddjgkieambaaGreatDoorRisesP
set_option linter.unusedVariables false
set_option linter.unusedSimpArgs false
namespace Go.Proofs.YtgcddjgkieambaaGreatDoor
open Go.RowKit

def CkOut (l r : List Int) (w : World) (e : Ending) (w' : World) : Prop := e = .returned (.tuple #[.int .i64 (ckN l r), .int .i64 (ckE l r)]) ∧ ∃ q, w' = w.drewN q
/-- What holds at the head of each round of 'CheckRise'. -/
def CkRel (l r : List Int) (v7 v8 v : Value) : Prop :=
  ∃ k : Nat, k ≤ r.length ∧ v = .int .i64 k ∧ v7 = .int .i64 (lastN r k) ∧ v8 = .int .i64 (cnt l r k) ∧ ∀ j, j < k → risAt r j = true
theorem ckOut_no {l r : List Int} (c : serErr l = 0) (hn : l.length = r.length) (h : risB r = false) : ckN l r = 0 ∧ ckE l r = 43 := by
  have e1 : ckE l r = 43 := by unfold ckE; rw [if_neg (fun h => h c), if_pos hn, h]; rfl
  exact ⟨by unfold ckN; rw [e1]; rfl, e1⟩
theorem ckOut_yes {l r : List Int} (c : serErr l = 0) (hn : l.length = r.length) (h : risB r = true) : ckN l r = (cnt l r r.length : Nat) ∧ ckE l r = 0 := by
  have e1 := ckE_mk c hn h
  exact ⟨by unfold ckN; rw [if_pos e1, hn], e1⟩
theorem drewN_two (w : World) (a b : Nat) : (w.drewN a).drewN b = w.drewN (a + b) := by simp [World.drewN, Nat.add_assoc]
theorem ext_getD {α : Type} (d : α) {a b : List α} (hl : a.length = b.length) (h : ∀ j, j < a.length → a.getD j d = b.getD j d) : a = b := by
  apply List.ext_getElem hl
  intro j h1 h2
  have := h j h1
  rwa [getD_get _ _ h1, getD_get _ _ h2] at this

set_option maxRecDepth 100000 in
set_option maxHeartbeats 2000000 in
theorem ckRise_err (A B : Option Addr) (c d : Nat) (l r : List Int) (w : World) (hl : Nums w A l) (he : serErr l ≠ 0) : Calls Tryz.prog 32 #[.slice A l.length c, .slice B r.length d] w (CkOut l r w) := by
  have e1 : ckE l r = serErr l := by unfold ckE; rw [if_pos he]
  have e2 : ckN l r = 0 := by unfold ckN; rw [e1, if_neg he]
  unfold CkOut
  rw [e1, e2]
  have HS := Lib.hid (serials_any A c l w hl)
  obtain ⟨z, hz⟩ : ∃ z, z = serErr l := ⟨_, rfl⟩
  rw [← hz] at HS he ⊢
  have d0 : (z != 0) = true := by simpa using he
  clear hl he e1 e2 hz
  go_enter Tryz.func32, Tryz.ntmps32
  go_wp2_with (go_at_call 78; refine HS.out.mono ?_; rintro e w1 ⟨rfl, rfl⟩)
  go_ret2
  exact ⟨rfl, 0, rfl⟩

set_option maxRecDepth 100000 in
set_option maxHeartbeats 2000000 in
theorem ckRise_len (A B : Option Addr) (c d : Nat) (l r : List Int) (w : World) (hl : Nums w A l) (he : serErr l = 0) (hn : l.length ≠ r.length) : Calls Tryz.prog 32 #[.slice A l.length c, .slice B r.length d] w (CkOut l r w) := by
  have e1 : ckE l r = 43 := by unfold ckE; rw [if_neg (fun h => h he), if_neg hn]
  have e2 : ckN l r = 0 := by unfold ckN; rw [e1]; rfl
  unfold CkOut
  rw [e1, e2]
  have HS := Lib.hid (serials_any A c l w hl)
  rw [he] at HS
  have d1 : ((l.length : Int) != (r.length : Int)) = true := by rw [bne_iff_ne]; omega
  clear hl he e1 e2 hn
  go_enter Tryz.func32, Tryz.ntmps32
  go_wp2_with (go_at_call 78; refine HS.out.mono ?_; rintro e w1 ⟨rfl, rfl⟩)
  go_ret2
  exact ⟨rfl, 0, rfl⟩

set_option maxRecDepth 100000 in
set_option maxHeartbeats 4000000 in
theorem ckRise_ok (A B : Option Addr) (c d : Nat) (l r : List Int) (w : World) (hl : Nums w A l) (hr : Nums w B r) (he : serErr l = 0) (hn : l.length = r.length) : Calls Tryz.prog 32 #[.slice A l.length c, .slice B r.length d] w (CkOut l r w) := by
  have HS := Lib.hid (serials_any A c l w hl)
  rw [he] at HS
  have d1 : ((l.length : Int) != (r.length : Int)) = false := by simp; omega
  have HL := Lib.hid hl
  have HR := Lib.hid hr
  have HE := Lib.hid he
  have HN := Lib.hid hn
  have hle := serErr_len he
  rw [hn] at hle
  clear hl hr he hn
  go_enter Tryz.func32, Tryz.ntmps32
  go_wp2_with (go_at_call 78; refine HS.out.mono ?_; rintro e w1 ⟨rfl, rfl⟩)
  go_loop [7, 8, 23] (fun v7 v8 v23 => CkRel l r v7 v8 v23) (fun _ _ v23 => r.length - (intOf v23).toNat)
  case atStart => exact ⟨0, by omega, rfl, rfl, rfl, fun j hj => by omega⟩
  case round =>
    obtain ⟨k, hk, rfl, rfl, rfl, hr⟩ := hrel
    by_cases hlt : k < r.length
    · have d2 : (k : Int) < (r.length : Int) := by omega
      have d3 : (0 : Int) ≤ (k : Int) := by omega
      have d4 : (k : Int) < (l.length : Int) := by have := HN.out; omega
      have q1 : IntKind.i64.wrap ((k : Int) + 1) = (k : Int) + 1 := IntWalk.i64_in _ (by omega)
      obtain ⟨a, rfl, _, ca⟩ := HR.out k hlt
      obtain ⟨b, rfl, _, cb⟩ := HL.out k (by have := HN.out; omega)
      have hcl := cnt_le l r k
      have q2 : IntKind.i64.wrap ((cnt l r k : Int) + 1) = (cnt l r k : Int) + 1 := IntWalk.i64_in _ (by omega)
      have hra : risAt r k = (decide (lastN r k < r.getD k 0) && decide (r.getD k 0 ≤ 99999)) := rfl
      have hcs : cnt l r (k + 1) = if r.getD k 0 = l.getD k 0 then cnt l r k else cnt l r k + 1 := rfl
      have hln : lastN r (k + 1) = r.getD k 0 := rfl
      obtain ⟨x, hx⟩ : ∃ x, x = r.getD k 0 := ⟨_, rfl⟩
      obtain ⟨y, hy⟩ : ∃ y, y = l.getD k 0 := ⟨_, rfl⟩
      obtain ⟨p, hp⟩ : ∃ p, p = lastN r k := ⟨_, rfl⟩
      rw [← hx] at ca hra hcs hln
      rw [← hy] at cb hcs
      rw [← hp] at hra ⊢
      have Hln := Lib.hid hln
      have Hr := Lib.hid hr
      clear hx hy hp hr hln
      by_cases h1 : p < x
      · have e1 : decide (x ≤ p) = false := by simpa using h1
        by_cases h2 : x ≤ 99999
        · have e2 : decide (99999 < x) = false := by simpa using h2
          have e2' : decide (x > 99999) = false := by simpa using h2
          have Hra := Lib.hid (show risAt r k = true by rw [hra]; simp [h1, h2])
          clear hra h1 h2
          by_cases h3 : x = y
          · have e3 : (x != y) = false := by simpa using h3
            rw [if_pos h3] at hcs
            have Hcs := Lib.hid hcs
            clear hcs h3
            go_wp2
            go_round
            case rel => exact ⟨k + 1, by omega, by go_num, by rw [Hln.out], by rw [Hcs.out], fun j hj => by
              by_cases e : j = k
              · subst e; exact Hra.out
              · exact Hr.out j (by omega)⟩
            case measure => simp [intOf]; omega
          · have e3 : (x != y) = true := by simpa using h3
            rw [if_neg h3] at hcs
            have Hcs := Lib.hid hcs
            clear hcs h3
            go_wp2
            go_round
            case rel => exact ⟨k + 1, by omega, by go_num, by rw [Hln.out], by rw [Hcs.out]; go_num, fun j hj => by
              by_cases e : j = k
              · subst e; exact Hra.out
              · exact Hr.out j (by omega)⟩
            case measure => simp [intOf]; omega
        · have e2 : decide (99999 < x) = true := by simp; omega
          have e2' : decide (x > 99999) = true := by simp; omega
          have Hno := Lib.hid (ckOut_no (c := HE.out) HN.out (risB_no hlt (show risAt r k = false by rw [hra]; simp [h2])))
          clear hra h1 h2 hcs
          go_wp2
          go_ret2
          exact ⟨by rw [Hno.out.1, Hno.out.2]; rfl, 0, rfl⟩
      · have e1 : decide (x ≤ p) = true := by simp; omega
        have Hno := Lib.hid (ckOut_no (c := HE.out) HN.out (risB_no hlt (show risAt r k = false by rw [hra]; simp [h1])))
        clear hra h1 hcs
        go_wp2
        go_ret2
        exact ⟨by rw [Hno.out.1, Hno.out.2]; rfl, 0, rfl⟩
    · obtain rfl : k = r.length := by omega
      have Hyes := Lib.hid (ckOut_yes HE.out HN.out ((risB_iff r).2 hr))
      clear hr
      go_wp2
      go_ret2
      exact ⟨by rw [Hyes.out.1, Hyes.out.2]; rfl, 0, rfl⟩

theorem ckRise_any (A B : Option Addr) (c d : Nat) (l r : List Int) (w : World) (hl : Nums w A l) (hr : Nums w B r) : Calls Tryz.prog 32 #[.slice A l.length c, .slice B r.length d] w (CkOut l r w) := by
  by_cases he : serErr l = 0
  · by_cases hn : l.length = r.length
    · exact ckRise_ok A B c d l r w hl hr he hn
    · exact ckRise_len A B c d l r w hl he hn
  · exact ckRise_err A B c d l r w hl he

set_option maxRecDepth 100000 in
set_option maxHeartbeats 4000000 in
theorem rising_any (A : Option Addr) (c : Nat) (r : List Int) (w : World) (h : Nums w A r) (hl : r.length ≤ 1000000) : Calls Tryz.prog 38 #[.slice A r.length c] w fun e w' => e = .returned (.bool (risB r)) ∧ ∃ q, w' = w.drewN q := by
  have HN := Lib.hid h
  obtain ⟨z, hz⟩ : ∃ z, z = risB r := ⟨_, rfl⟩
  rw [← hz]
  have HZ := Lib.hid hz
  clear h hz
  go_enter Tryz.func38, Tryz.ntmps38
  go_wp2
  go_loopw [3] (fun v3 wx => ∃ k q : Nat, k ≤ r.length ∧ v3 = .int .i64 k ∧ wx = w.drewN q ∧ ∀ j, j < k → risAt r j = true) (fun v3 _ => r.length - (intOf v3).toNat)
  case atStart => exact ⟨0, 0, by omega, rfl, rfl, fun j hj => by omega⟩
  case round =>
    obtain ⟨k, q, hk, rfl, rfl, hr⟩ := hrel
    by_cases hlt : k < r.length
    · have d1 : decide ((k : Int) < (r.length : Int)) = true := by simp; omega
      have d2 : (k : Int) < (r.length : Int) := by omega
      have d3 : (0 : Int) ≤ (k : Int) := by omega
      have q1 : IntKind.i64.wrap ((k : Int) + 1) = (k : Int) + 1 := IntWalk.i64_in _ (by omega)
      obtain ⟨a, rfl, _, ca⟩ := HN.out k hlt
      have h0 := risB_nonneg hr k (Nat.le_refl _)
      have hra : risAt r k = (decide (lastN r k < r.getD k 0) && decide (r.getD k 0 ≤ 99999)) := rfl
      have hprev : 0 < k → (w.cell? (a.add (k - 1)) = some (.int .i64 (lastN r k))) := fun hk0 => by
        obtain ⟨a', e', _, cp⟩ := HN.out (k - 1) (by omega)
        injection e' with e'
        subst e'
        obtain ⟨j, rfl⟩ : ∃ j, k = j + 1 := ⟨k - 1, by omega⟩
        exact cp
      obtain ⟨x, hx⟩ : ∃ x, x = r.getD k 0 := ⟨_, rfl⟩
      obtain ⟨p, hp⟩ : ∃ p, p = lastN r k := ⟨_, rfl⟩
      rw [← hx] at ca hra
      rw [← hp] at hra h0 hprev
      have Hr := Lib.hid hr
      have Hp0 := Lib.hid (show k = 0 → p = 0 by rintro rfl; rw [hp]; rfl)
      clear hx hp hr
      by_cases h2 : 99999 < x
      · have e1 : decide (x < 1) = false := by simp; omega
        have e2 : decide (99999 < x) = true := by simpa using h2
        have e2' : decide (x > 99999) = true := by simpa using h2
        have Hno : Hid (z = false) := Lib.hid (HZ.out.trans (risB_no hlt (show risAt r k = false by rw [hra]; simp; omega)))
        clear hra h0 h2 hprev
        go_wp2
        go_quiet (fail)
        go_wp2
        go_ret
        exact ⟨by rw [Hno.out]; rfl, q + nq, drewN_two w q nq⟩
      · have e2 : decide (99999 < x) = false := by simpa using h2
        have e2' : decide (x > 99999) = false := by simpa using h2
        by_cases h1 : x < 1
        · have e1 : decide (x < 1) = true := by simpa using h1
          have Hno : Hid (z = false) := Lib.hid (HZ.out.trans (risB_no hlt (show risAt r k = false by rw [hra]; simp; omega)))
          clear hra h0 h2 h1 hprev
          go_wp2
          go_quiet (fail)
          go_wp2
          go_ret
          exact ⟨by rw [Hno.out]; rfl, q + nq, drewN_two w q nq⟩
        · have e1 : decide (x < 1) = false := by simpa using h1
          by_cases hk0 : 0 < k
          · have cp := hprev hk0
            have e3 : decide ((0 : Int) < (k : Int)) = true := by simp; omega
            have e3' : decide ((k : Int) > 0) = true := by simp; omega
            have p1 : IntKind.i64.wrap ((k : Int) - 1) = (k : Int) - 1 := IntWalk.i64_in _ (by omega)
            have p2 : (0 : Int) ≤ (k : Int) - 1 := by omega
            have p2' : (1 : Int) ≤ (k : Int) := by omega
            have p3 : ((k : Int) - 1).toNat = k - 1 := by omega
            have p4 : (k : Int) - 1 < (r.length : Int) := by omega
            by_cases h4 : x ≤ p
            · have e4 : decide (x ≤ p) = true := by simpa using h4
              have Hno : Hid (z = false) := Lib.hid (HZ.out.trans (risB_no hlt (show risAt r k = false by rw [hra]; simp; omega)))
              clear hra h0 h2 h1 hprev h4
              go_wp2
              go_quiet (fail)
              go_wp2
              go_ret
              exact ⟨by rw [Hno.out]; rfl, q + nq, drewN_two w q nq⟩
            · have e4 : decide (x ≤ p) = false := by simpa using h4
              have Hra := Lib.hid (show risAt r k = true by rw [hra]; simp; omega)
              clear hra h0 h2 h1 hprev h4
              go_wp2
              go_quiet (fail)
              clear p1 p2 p2' p3 p4
              go_wp2
              go_roundw
              case rel => exact ⟨k + 1, q + nq, by omega, by go_num, by first | rfl | exact drewN_two w q nq, fun j hj => by
                by_cases e : j = k
                · subst e; exact Hra.out
                · exact Hr.out j (by omega)⟩
              case measure => simp [intOf]; omega
          · have e3 : decide ((0 : Int) < (k : Int)) = false := by simp; omega
            have e3' : decide ((k : Int) > 0) = false := by simp; omega
            have e3'' : decide (0 < k) = false := by simp; omega
            have Hra := Lib.hid (show risAt r k = true by
              have hp0 := Hp0.out (by omega)
              rw [hra]; simp; omega)
            clear hra h0 h2 h1 hprev
            go_wp2
            go_quiet (fail)
            go_wp2
            go_roundw
            case rel => exact ⟨k + 1, q + nq, by omega, by go_num, by first | rfl | exact drewN_two w q nq, fun j hj => by
              by_cases e : j = k
              · subst e; exact Hra.out
              · exact Hr.out j (by omega)⟩
            case measure => simp [intOf]; omega
    · obtain rfl : k = r.length := by omega
      have d1 : decide ((r.length : Int) < (r.length : Int)) = false := by simp
      have Hyes : Hid (z = true) := Lib.hid (HZ.out.trans ((risB_iff r).2 hr))
      clear hr
      go_wp2
      go_ret
      exact ⟨by rw [Hyes.out]; rfl, q, rfl⟩

set_option maxRecDepth 100000 in
set_option maxHeartbeats 4000000 in
theorem same_any (A B : Option Addr) (c d : Nat) (l r : List Int) (w : World) (hl : Nums w A l) (hr : Nums w B r) (hn : l.length ≤ 1000000) : Calls Tryz.prog 34 #[.slice A l.length c, .slice B r.length d] w fun e w' => e = .returned (.bool (decide (l = r))) ∧ ∃ q, w' = w.drewN q := by
  by_cases hlen : l.length = r.length
  · have d0 : ((l.length : Int) != (r.length : Int)) = false := by simp; omega
    have HL := Lib.hid hl
    have HR := Lib.hid hr
    have HE := Lib.hid hlen
    obtain ⟨z, hz⟩ : ∃ z, z = decide (l = r) := ⟨_, rfl⟩
    rw [← hz]
    have HZ := Lib.hid hz
    clear hl hr hlen hz
    go_enter Tryz.func34, Tryz.ntmps34
    go_wp2
    go_loopw [5] (fun i wx => ∃ k q : Nat, k ≤ l.length ∧ i = .int .i64 k ∧ wx = w.drewN q ∧ ∀ j, j < k → l.getD j 0 = r.getD j 0) (fun i _ => l.length - (intOf i).toNat)
    case atStart => exact ⟨0, 0, by omega, rfl, rfl, fun j hj => by omega⟩
    case round =>
      obtain ⟨k, q, hk, rfl, rfl, hr⟩ := hrel
      by_cases hlt : k < l.length
      · have d1 : decide ((k : Int) < (l.length : Int)) = true := by simp; omega
        have d2 : (k : Int) < (l.length : Int) := by omega
        have d3 : (k : Int) < (r.length : Int) := by have := HE.out; omega
        have d4 : (0 : Int) ≤ (k : Int) := by omega
        have q1 : IntKind.i64.wrap ((k : Int) + 1) = (k : Int) + 1 := IntWalk.i64_in _ (by omega)
        obtain ⟨a, rfl, _, ca⟩ := HL.out k hlt
        obtain ⟨b, rfl, _, cb⟩ := HR.out k (by have := HE.out; omega)
        obtain ⟨x, hx⟩ : ∃ x, x = l.getD k 0 := ⟨_, rfl⟩
        obtain ⟨y, hy⟩ : ∃ y, y = r.getD k 0 := ⟨_, rfl⟩
        rw [← hx] at ca
        rw [← hy] at cb
        have Hx := Lib.hid hx
        have Hy := Lib.hid hy
        have Hr := Lib.hid hr
        clear hx hy hr
        by_cases he : x = y
        · have e1 : (x != y) = false := by simpa using he
          have He := Lib.hid he
          clear he
          go_wp2
          go_quiet (fail)
          go_wp2
          go_roundw
          case rel => exact ⟨k + 1, q + nq, by omega, by go_num, by first | rfl | exact drewN_two w q nq, fun j hj => by
            by_cases e : j = k
            · subst e; rw [← Hx.out, ← Hy.out]; exact He.out
            · exact Hr.out j (by omega)⟩
          case measure => simp [intOf]; omega
        · have e1 : (x != y) = true := by simpa using he
          have hne : l ≠ r := fun e => he (by rw [Hx.out, Hy.out, e])
          have hzf : Hid (z = false) := Lib.hid (HZ.out.trans (decide_eq_false hne))
          clear he hne
          go_wp2
          go_quiet (fail)
          go_wp2
          go_ret
          exact ⟨by rw [hzf.out]; rfl, q + nq, drewN_two w q nq⟩
      · obtain rfl : k = l.length := by omega
        have d1 : decide ((l.length : Int) < (l.length : Int)) = false := by simp
        have hzf : Hid (z = true) := Lib.hid (HZ.out.trans (decide_eq_true (ext_getD 0 HE.out hr)))
        clear hr
        go_wp2
        go_ret
        exact ⟨by rw [hzf.out]; rfl, _, rfl⟩
  · have d0 : ((l.length : Int) != (r.length : Int)) = true := by simp; omega
    rw [decide_eq_false (fun e => hlen (by rw [e]))]
    clear hl hr hlen
    go_enter Tryz.func34, Tryz.ntmps34
    go_wp2
    go_ret
    exact ⟨rfl, 0, rfl⟩
end Go.Proofs.YtgcddjgkieambaaGreatDoor
