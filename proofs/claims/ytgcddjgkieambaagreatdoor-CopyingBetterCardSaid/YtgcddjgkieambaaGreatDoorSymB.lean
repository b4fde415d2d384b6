/- The walk of the library's 'symMergeCmpFunc' over a row of numbers that are compared by a key. -/
import Derived.Test.YtgcddjgkieambaaGreatDoorSymA
import Derived.BigRegion
set_option linter.unusedVariables false
set_option linter.unusedSimpArgs false
namespace Go.Proofs.YtgcddjgkieambaaGreatDoor
open Go.RowKit

/-- What the comparison of two numbers says. -/
def cmpK (key : Int → Int) (x y : Int) : Int := if key x < key y then -1 else if key y < key x then 1 else 0
/-- What is asked of the comparison: it answers by the key in all worlds that the sort passes through. -/
def CmpOK (w : World) (g : Nat) (key : Int → Int) (cb : Value) : Prop := ∀ W : World, w.grownBy W (some g) → ∀ x y : Int, 0 ≤ x → x ≤ 1000000 → 0 ≤ y → y ≤ 1000000 →
  Calls Tryz.prog 98 #[.int .i64 x, .int .i64 y, cb] W fun e w' => e = .returned (.int .i64 (cmpK key x y)) ∧ ∃ q, w' = W.drewN q
def OkRow (d : Nat → Int) (n : Nat) : Prop := ∀ j, j < n → 0 ≤ d j ∧ d j ≤ 1000000
theorem OkRow.merged {d d' : Nat → Int} {key : Int → Int} {n a b : Nat} (h : OkRow d n) (hM : St.Merged key d d' a b) (hb : b ≤ n) : OkRow d' n := by
  intro j hj
  by_cases e : a ≤ j ∧ j < b
  · have hm : d' j ∈ St.seg d' a b := St.mem_seg.2 ⟨j, e.1, e.2, rfl⟩
    obtain ⟨i, h1, h2, h3⟩ := St.mem_seg.1 (hM.2.1.mem_iff.1 hm)
    rw [← h3]
    exact h i (by omega)
  · rw [hM.1 j (by omega)]
    exact h j hj
theorem OkRow.rot {d : Nat → Int} {n a m b : Nat} (h : OkRow d n) (h1 : a ≤ m) (h2 : m ≤ b) (hb : b ≤ n) : OkRow (St.rotF d a m b) n := by
  intro j hj
  unfold St.rotF
  split
  · exact h _ (by omega)
  · split
    · exact h _ (by omega)
    · exact h j hj
theorem cmpK_lt {key : Int → Int} {x y : Int} : decide (cmpK key x y < 0) = decide (key x < key y) := by
  unfold cmpK
  by_cases h : key x < key y
  · rw [if_pos h, decide_eq_true h]; rfl
  · rw [if_neg h, decide_eq_false h]
    split <;> rfl

set_option maxRecDepth 100000 in
set_option maxHeartbeats 8000000 in
theorem sym_first (w W : World) (g sz n c a m b : Nat) (d : Nat → Int) (key : Int → Int) (cb : Value) (HC0 : CmpOK w g key cb) (hS : SR w W g sz n d) (hsz : n ≤ sz) (hn : n ≤ 1000000) (hO : OkRow d n) (hm : m = a + 1) (hmb : m < b) (hb : b ≤ n) :
    Calls Tryz.prog 140 #[.slice (some ⟨g, 0, none⟩) n c, .int .i64 a, .int .i64 m, .int .i64 b, .func (.func 98) #[] #[cb]] W fun e w' => e = .returned (.tuple #[]) ∧
      ∃ i, m ≤ i ∧ i ≤ b ∧ (i = m ∨ key (d (i - 1)) < key (d a)) ∧ (i = b ∨ key (d a) ≤ key (d i)) ∧ SR w w' g sz n (St.rotF d a m i) := by
  have eg := enters_of Tryz.func98 (by kernel_rfl) rfl
  unfold Enters at eg
  have HC := Lib.hid HC0
  have HS := Lib.hid hS
  have HO := Lib.hid hO
  have Hm := Lib.hid hm
  have e1 : (m : Int) - (a : Int) = 1 := by omega
  have la : a < n := by omega
  clear HC0 hS hO hm
  go_enter Tryz.func140, Tryz.ntmps140
  go_wp2
  go_loopw [10, 11] (fun v10 v11 wx => ∃ i j : Nat, m ≤ i ∧ i ≤ j ∧ j ≤ b ∧ v10 = .int .i64 i ∧ v11 = .int .i64 j ∧ (i = m ∨ key (d (i - 1)) < key (d a)) ∧ (j = b ∨ key (d a) ≤ key (d j)) ∧ SR w wx g sz n d) (fun v10 v11 _ => (intOf v11).toNat - (intOf v10).toNat)
  case atStart => exact ⟨m, b, Nat.le_refl _, by omega, Nat.le_refl _, rfl, rfl, .inl rfl, .inl rfl, HS.out⟩
  case round =>
    obtain ⟨i, j, hmi, hij0, hjb, rfl, rfl, hl, hr, hR⟩ := hrel
    have HL := Lib.hid hl
    have HR := Lib.hid hr
    clear hl hr
    by_cases hij : i < j
    · have f1 : decide ((i : Int) < (j : Int)) = true := by simp; omega
      obtain ⟨h, hh⟩ : ∃ h, h = (i + j) / 2 := ⟨_, rfl⟩
      have x1 : ((i : Int) + (j : Int)) / 2 = (h : Int) := by omega
      have q1 : IntKind.i64.wrap ((i : Int) + (j : Int)) = (i : Int) + (j : Int) := IntWalk.i64_in _ (by omega)
      have q2 : IntKind.u64.wrap ((i : Int) + (j : Int)) = (i : Int) + (j : Int) := IntWalk.u64_in _ (by omega)
      have q3 : IntKind.i64.wrap (h : Int) = (h : Int) := IntWalk.i64_in _ (by omega)
      have q4 : IntKind.i64.wrap ((h : Int) + 1) = (h : Int) + 1 := IntWalk.i64_in _ (by omega)
      have lh : h < n := by omega
      have b1 : (h : Int) < (n : Int) := by omega
      have b2 : (0 : Int) ≤ (h : Int) := by omega
      have b3 : (a : Int) < (n : Int) := by omega
      have b4 : (0 : Int) ≤ (a : Int) := by omega
      have hih : i ≤ h ∧ h < j := by omega
      have ch := hR.cell lh
      have ca := hR.cell la
      have o1 := HO.out h lh
      have o2 := HO.out a la
      have hc := fun q => HC.out (wr.drewN q) (hR.drewN q).2 (d h) (d a) o1.1 o1.2 o2.1 o2.2
      have HRW := Lib.hid hR
      obtain ⟨u, hu⟩ : ∃ u, u = d h := ⟨_, rfl⟩
      obtain ⟨v, hv⟩ : ∃ v, v = d a := ⟨_, rfl⟩
      rw [← hu] at ch hc
      rw [← hv] at ca hc
      obtain ⟨z, hz⟩ : ∃ z, z = cmpK key u v := ⟨_, rfl⟩
      have hzl : decide (z < 0) = decide (key u < key v) := by rw [hz]; exact cmpK_lt
      rw [← hz] at hc
      have HCC := Lib.hid hc
      have Hh := Lib.hid hh
      have Hu := Lib.hid hu
      have Hv := Lib.hid hv
      by_cases hlt : key u < key v
      · rw [decide_eq_true hlt] at hzl
        have Hlt := Lib.hid hlt
        clear hlt hc hz hR hh o1 o2 hu hv x1
        have x1 : ((i : Int) + (j : Int)) / 2 = (h : Int) := by have := Hh.out; omega
        go_wp2
        go_quiet (first | (go_at_call 98; exact Calls.quiet_of (HCC.out _)))
        go_wp2
        go_roundw
        case rel => exact ⟨h + 1, j, by omega, by omega, by omega, by go_num, rfl, .inr (by rw [Nat.add_sub_cancel, ← Hu.out, ← Hv.out]; exact Hlt.out), HR.out, HRW.out.drewN _⟩
        case measure => simp [intOf] <;> omega
      · rw [decide_eq_false hlt] at hzl
        have Hlt := Lib.hid (Int.not_lt.1 hlt)
        clear hlt hc hz hR hh o1 o2 hu hv
        go_wp2
        go_quiet (first | (go_at_call 98; exact Calls.quiet_of (HCC.out _)))
        go_wp2
        go_roundw
        case rel => exact ⟨i, h, by omega, by omega, by omega, rfl, rfl, HL.out, .inr (by rw [← Hu.out, ← Hv.out]; exact Hlt.out), HRW.out.drewN _⟩
        case measure => simp [intOf] <;> omega
    · obtain rfl : i = j := by omega
      have f1 : decide ((i : Int) < (i : Int)) = false := by simp
      have HRW := Lib.hid hR
      obtain ⟨p, hp⟩ : ∃ p, p = i - 1 := ⟨_, rfl⟩
      have x1 : (i : Int) - 1 = (p : Int) := by have := Hm.out; omega
      have q1 : IntKind.i64.wrap (p : Int) = (p : Int) := IntWalk.i64_in _ (by omega)
      have Hp := Lib.hid hp
      have hmp : a ≤ p ∧ p < b := by have := Hm.out; omega
      clear hR hp
      go_wp2
      go_loopw [13] (fun v13 wx => ∃ k : Nat, a ≤ k ∧ k ≤ p ∧ v13 = .int .i64 k ∧ SR w wx g sz n (St.rotF d a m (k + 1))) (fun v13 _ => p - (intOf v13).toNat)
      case atStart => exact ⟨a, Nat.le_refl _, hmp.1, rfl, by rw [← Hm.out, St.rotF_right]; exact HRW.out⟩
      case round =>
        obtain ⟨k, hak, hkp, rfl, hR⟩ := hrel
        by_cases hlt : k < p
        · have f2 : decide ((k : Int) < (p : Int)) = true := by simp; omega
          obtain ⟨y, hy⟩ : ∃ y, y = k + 1 := ⟨_, rfl⟩
          have ey : (k : Int) + 1 = (y : Int) := by omega
          have qy : IntKind.i64.wrap (y : Int) = (y : Int) := IntWalk.i64_in _ (by omega)
          have gx : (k : Int) < (n : Int) := by omega
          have gy : (y : Int) < (n : Int) := by omega
          have gx0 : (0 : Int) ≤ (k : Int) := by omega
          have gy0 : (0 : Int) ≤ (y : Int) := by omega
          have cx := hR.cell (k := k) (by omega)
          have cy := hR.cell (k := y) (by omega)
          have fx := hR.1.frozen k
          have fy := hR.1.frozen y
          have hne : ¬ k = y := by omega
          have hne' : ¬ y = k := by omega
          have HN := Lib.hid ((hR.put hsz (k := k) (u := St.rotF d a m (k + 1) y) (d' := fun j => if j = k then St.rotF d a m (k + 1) y else St.rotF d a m (k + 1) j) (fun j _ => rfl)).put hsz (k := y) (u := St.rotF d a m (k + 1) k) (d' := St.rotF d a m (y + 1)) (fun j _ => by
            have := St.rot_one_step d (a := a) (k := k) hak j
            rw [← Hm.out] at this
            rw [hy]
            exact this.symm))
          have Hy := Lib.hid hy
          clear hR hy
          generalize St.rotF d a m (k + 1) k = u at cx HN
          generalize St.rotF d a m (k + 1) y = v at cy HN
          obtain ⟨wq, hwq⟩ : ∃ wq : World, wq = wr := ⟨_, rfl⟩
          rw [← hwq] at cx cy fx fy HN ⊢
          clear hwq
          go_wp2
          go_region
          go_wp2
          go_roundw
          case rel => exact ⟨y, by omega, by omega, rfl, HN.out.drew⟩
          case measure => simp [intOf] <;> omega
        · obtain rfl : k = p := by omega
          have f2 : decide ((k : Int) < (k : Int)) = false := by simp
          have HRR := Lib.hid hR
          clear hR
          go_wp2
          (try simp only [Exit.inBlock, Exit.then])
          refine bodyPost_ret (results_none rfl _ _ _) rfl ?_
          have e2 : k + 1 = i := by have := Hp.out; have := Hm.out; omega
          exact ⟨rfl, i, hmi, hjb, HL.out, HR.out, e2 ▸ HRR.out⟩
end Go.Proofs.YtgcddjgkieambaaGreatDoor
