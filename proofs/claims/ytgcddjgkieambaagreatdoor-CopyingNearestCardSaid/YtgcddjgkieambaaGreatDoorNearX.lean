/- Printed by merge.py out of SymA, SymB, SymC, SymD, NearA. -/
import Derived.Test.YtgcddjgkieambaaGreatDoorMergeP
import Derived.Test.YtgcddjgkieambaaGreatDoorIndices2
import Derived.BigRegion
import Derived.Test.YtgcddjgkieambaaGreatDoorNearP
import Derived.Maps.OwnSet
section PartSymA
/- The walks of the library's 'swapRangeCmpFunc' and 'rotateCmpFunc' over a row of numbers. -/
set_option linter.unusedVariables false
set_option linter.unusedSimpArgs false
namespace Go.Proofs.YtgcddjgkieambaaGreatDoor
open Go.RowKit

/-- The row in block g holds the numbers d; all other blocks are as in w. -/
def SR (w W : World) (g sz n : Nat) (d : Nat → Int) : Prop := RowK W g 3 sz n (fun j => .int .i64 (d j)) ∧ w.grownBy W (some g)
theorem RowK.put {w : World} {b : Nat} {t : TypeId} {size K : Nat} {f f' : Nat → Value} (H : RowK w b t size K f) {k : Nat} {u : Value} (hk : K ≤ size) (hf : ∀ j, j < K → f' j = if j = k then u else f j) : RowK (w.setCell ⟨b, k, none⟩ u) b t size K f' := by
  obtain ⟨cs, hb, hs, hc⟩ := H
  refine ⟨_, hb.put k _, by simpa using hs, fun j hj => ?_⟩
  rw [Array.getElem?_setIfInBounds, hf j hj]
  by_cases e : k = j
  · subst e; rw [if_pos rfl, if_pos (by omega), if_pos rfl]
  · rw [if_neg e, if_neg (fun h => e h.symm)]; exact hc j hj
theorem SR.cell {w W : World} {g sz n : Nat} {d : Nat → Int} (h : SR w W g sz n d) {k : Nat} (hk : k < n) : W.cell? ⟨g, k, none⟩ = some (.int .i64 (d k)) := h.1.cell hk
theorem SR.drew {w W : World} {g sz n : Nat} {d : Nat → Int} (h : SR w W g sz n d) : SR w W.drew g sz n d := ⟨h.1.drew, only_drew h.2⟩
theorem SR.drewN {w W : World} {g sz n : Nat} {d : Nat → Int} (h : SR w W g sz n d) : ∀ q, SR w (W.drewN q) g sz n d
  | 0 => h
  | q + 1 => (SR.drewN h q).drew
theorem SR.put {w W : World} {g sz n : Nat} {d d' : Nat → Int} (h : SR w W g sz n d) (hn : n ≤ sz) {k : Nat} {u : Int} (hd : ∀ j, j < n → d' j = if j = k then u else d j) : SR w (W.setCell ⟨g, k, none⟩ (.int .i64 u)) g sz n d' :=
  ⟨h.1.put hn fun j hj => by rw [hd j hj]; split <;> rfl, only_set h.2 k _⟩
theorem SR.congr {w W : World} {g sz n : Nat} {d d' : Nat → Int} (h : SR w W g sz n d) (hd : ∀ j, j < n → d j = d' j) : SR w W g sz n d' := ⟨h.1.congr fun j hj => by rw [hd j hj], h.2⟩

set_option maxRecDepth 100000 in
set_option maxHeartbeats 4000000 in
theorem swapRange_any (w W : World) (g sz n c a b k : Nat) (d : Nat → Int) (fv : Value) (hS : SR w W g sz n d) (hsz : n ≤ sz) (hn : n ≤ 1000000) (hab : a + k ≤ b) (hb : b + k ≤ n) :
    Calls Tryz.prog 174 #[.slice (some ⟨g, 0, none⟩) n c, .int .i64 a, .int .i64 b, .int .i64 k, fv] W fun e w' => e = .returned (.tuple #[]) ∧ SR w w' g sz n (St.swF d a b k) := by
  have HS := Lib.hid hS
  clear hS
  go_enter Tryz.func174, Tryz.ntmps174
  go_wp2
  go_loopw [10] (fun v10 wx => ∃ i : Nat, i ≤ k ∧ v10 = .int .i64 i ∧ SR w wx g sz n (St.swF d a b i)) (fun v10 _ => k - (intOf v10).toNat)
  case atStart => exact ⟨0, by omega, rfl, by rw [St.swF_zero]; exact HS.out⟩
  case round =>
    obtain ⟨i, hi, rfl, hR⟩ := hrel
    by_cases hlt : i < k
    · have f1 : decide ((i : Int) < (k : Int)) = true := by simp; omega
      have q1 : IntKind.i64.wrap ((i : Int) + 1) = (i : Int) + 1 := IntWalk.i64_in _ (by omega)
      obtain ⟨s1, s2⟩ := St.swF_at (d := d) (a := a) (b := b) (k := i) (by omega)
      obtain ⟨x, hx⟩ : ∃ x, x = a + i := ⟨_, rfl⟩
      obtain ⟨y, hy⟩ : ∃ y, y = b + i := ⟨_, rfl⟩
      have ex : (a : Int) + (i : Int) = (x : Int) := by omega
      have ey : (b : Int) + (i : Int) = (y : Int) := by omega
      have qx : IntKind.i64.wrap (x : Int) = (x : Int) := IntWalk.i64_in _ (by omega)
      have qy : IntKind.i64.wrap (y : Int) = (y : Int) := IntWalk.i64_in _ (by omega)
      have gx : (x : Int) < (n : Int) := by omega
      have gy : (y : Int) < (n : Int) := by omega
      have gx0 : (0 : Int) ≤ (x : Int) := by omega
      have gy0 : (0 : Int) ≤ (y : Int) := by omega
      have cx := hR.cell (k := x) (by omega)
      have cy := hR.cell (k := y) (by omega)
      rw [← hx] at s1
      rw [← hy] at s2
      rw [s1] at cx
      rw [s2] at cy
      have fx := hR.1.frozen x
      have fy := hR.1.frozen y
      have hne : ¬ x = y := by omega
      have hne' : ¬ y = x := by omega
      have HN := Lib.hid (fun q : Nat => ((hR.drewN q).put hsz (k := x) (u := d y) (d' := fun j => if j = x then d y else St.swF d a b i j) (fun j _ => rfl)).put hsz (k := y) (u := d x) (d' := St.swF d a b (i + 1)) (fun j _ => by
        rw [← St.swF_step (d := d) (a := a) (b := b) (k := i) (by omega) j, ← hx, ← hy]))
      clear hR s1 s2 hx hy
      generalize d x = u at cx HN
      generalize d y = v at cy HN
      obtain ⟨wq, hwq⟩ : ∃ wq : World, wq = wr := ⟨_, rfl⟩
      rw [← hwq] at cx cy fx fy HN ⊢
      clear hwq
      go_wp2
      go_region
      go_wp2
      go_roundw
      case rel => exact ⟨i + 1, by omega, by go_num, (HN.out 0).drew⟩
      case measure => simp [intOf] <;> omega
    · obtain rfl : i = k := by omega
      have f1 : decide ((i : Int) < (i : Int)) = false := by simp
      have HR := Lib.hid hR
      clear hR
      go_wp2
      go_end0
      exact ⟨rfl, HR.out⟩

set_option maxRecDepth 100000 in
set_option maxHeartbeats 4000000 in
theorem rotate_any (w W : World) (g sz n c a m b : Nat) (d : Nat → Int) (fv : Value) (hS : SR w W g sz n d) (hsz : n ≤ sz) (hn : n ≤ 1000000) (ham : a < m) (hmb : m < b) (hb : b ≤ n) :
    Calls Tryz.prog 158 #[.slice (some ⟨g, 0, none⟩) n c, .int .i64 a, .int .i64 m, .int .i64 b, fv] W fun e w' => e = .returned (.tuple #[]) ∧ SR w w' g sz n (St.rotF d a m b) := by
  have HSW := Lib.hid (fun wx a b k d hS h1 h2 => swapRange_any w wx g sz n c a b k d fv hS hsz hn h1 h2)
  have HS := Lib.hid hS
  have e1 : (m : Int) - (a : Int) = ((m - a : Nat) : Int) := by omega
  have e2 : (b : Int) - (m : Int) = ((b - m : Nat) : Int) := by omega
  have q1 : IntKind.i64.wrap ((m - a : Nat) : Int) = ((m - a : Nat) : Int) := IntWalk.i64_in _ (by omega)
  have q2 : IntKind.i64.wrap ((b - m : Nat) : Int) = ((b - m : Nat) : Int) := IntWalk.i64_in _ (by omega)
  clear hS
  go_enter Tryz.func158, Tryz.ntmps158
  go_wp2
  go_loopw [10, 11] (fun v10 v11 wx => ∃ (i j : Nat) (cur : Nat → Int), 1 ≤ i ∧ 1 ≤ j ∧ i ≤ m - a ∧ j ≤ b - m ∧ v10 = .int .i64 i ∧ v11 = .int .i64 j ∧ SR w wx g sz n cur ∧ St.rotF cur (m - i) m (m + j) = St.rotF d a m b) (fun v10 v11 _ => (intOf v10).toNat + (intOf v11).toNat)
  case atStart => exact ⟨m - a, b - m, d, by omega, by omega, Nat.le_refl _, Nat.le_refl _, rfl, rfl, HS.out, by rw [show m - (m - a) = a by omega, show m + (b - m) = b by omega]⟩
  case round =>
    obtain ⟨i, j, cur, hi, hj, him, hjb, rfl, rfl, hR, hrot⟩ := hrel
    have HR := Lib.hid hR
    have HT := Lib.hid hrot
    have x1 : (m : Int) - (i : Int) = ((m - i : Nat) : Int) := by omega
    have p1 : IntKind.i64.wrap ((m - i : Nat) : Int) = ((m - i : Nat) : Int) := IntWalk.i64_in _ (by omega)
    clear hR hrot
    by_cases hij : i = j
    · subst hij
      have f1 : ((i : Int) != (i : Int)) = false := by simp
      go_wp2_with (go_at_call 174; refine (HSW.out _ (m - i) m i cur HR.out (by omega) (by omega)).mono ?_; rintro e w2 ⟨rfl, hR2⟩)
      go_end0
      rw [← HT.out, ← St.rot_end cur (by omega)]
      exact ⟨rfl, hR2⟩
    · have f1 : ((i : Int) != (j : Int)) = true := by simp; omega
      by_cases hlt : j < i
      · have f2 : decide ((i : Int) > (j : Int)) = true := by simp; omega
        have f2' : decide ((j : Int) < (i : Int)) = true := by simp; omega
        have x2 : (i : Int) - (j : Int) = ((i - j : Nat) : Int) := by omega
        have p2 : IntKind.i64.wrap ((i - j : Nat) : Int) = ((i - j : Nat) : Int) := IntWalk.i64_in _ (by omega)
        go_wp2_with (go_at_call 174; refine (HSW.out _ (m - i) m j cur HR.out (by omega) (by omega)).mono ?_; rintro e w2 ⟨rfl, hR2⟩)
        go_roundw
        case rel => exact ⟨i - j, j, _, by omega, by omega, by omega, by omega, rfl, rfl, hR2, (St.rot_left cur (by omega) hlt).trans HT.out⟩
        case measure => simp [intOf] <;> omega
      · have f2 : decide ((i : Int) > (j : Int)) = false := by simp; omega
        have f2' : decide ((j : Int) < (i : Int)) = false := by simp; omega
        have x2 : (j : Int) - (i : Int) = ((j - i : Nat) : Int) := by omega
        obtain ⟨y, hy⟩ : ∃ y, y = m + (j - i) := ⟨_, rfl⟩
        have x3 : (m : Int) + (j : Int) - (i : Int) = (y : Int) := by omega
        have p2 : IntKind.i64.wrap ((j - i : Nat) : Int) = ((j - i : Nat) : Int) := IntWalk.i64_in _ (by omega)
        have p3 : IntKind.i64.wrap ((m : Int) + (j : Int)) = (m : Int) + (j : Int) := IntWalk.i64_in _ (by omega)
        have p4 : IntKind.i64.wrap (y : Int) = (y : Int) := IntWalk.i64_in _ (by omega)
        have Hy := Lib.hid hy
        have hy1 : m - i + i ≤ y := by omega
        have hy2 : y + i ≤ n := by omega
        clear hy
        go_wp2_with (go_at_call 174; refine (HSW.out _ (m - i) y i cur HR.out hy1 hy2).mono ?_; rintro e w2 ⟨rfl, hR2⟩)
        go_roundw
        case rel => exact ⟨i, j - i, _, by omega, by omega, by omega, by omega, rfl, rfl, hR2, by rw [Hy.out]; exact (St.rot_right cur (by omega) (by omega)).trans HT.out⟩
        case measure => simp [intOf] <;> omega
end Go.Proofs.YtgcddjgkieambaaGreatDoor
end PartSymA

section PartSymB
/- The walk of the library's 'symMergeCmpFunc' over a row of numbers that are compared by a key. -/
set_option linter.unusedVariables false
set_option linter.unusedSimpArgs false
namespace Go.Proofs.YtgcddjgkieambaaGreatDoor
open Go.RowKit

/-- What the comparison of two numbers says. -/
def cmpK (key : Int → Int) (x y : Int) : Int := if key x < key y then -1 else if key y < key x then 1 else 0
/-- What is asked of the comparison: it answers by the key in all worlds that the sort passes through. -/
def CmpOK (w : World) (g : Nat) (key : Int → Int) (cb : Value) : Prop := ∀ W : World, w.grownBy W (some g) → ∀ x y : Int, 0 ≤ x → x ≤ 1000000 → 0 ≤ y → y ≤ 1000000 →
  Calls Tryz.prog 98 #[.int .i64 x, .int .i64 y, cb] W fun e w' => e = .returned (.int .i64 (cmpK key x y)) ∧ ∃ q, w' = W.drewN q
def OkRow (d : Nat → Int) (n : Nat) : Prop := ∀ j, j < n → 0 ≤ d j ∧ d j ≤ 1000000
theorem OkRow.merged {d d' : Nat → Int} {key : Int → Int} {n a b : Nat} (h : OkRow d n) (hM : St.Merged key d d' a b) (hb : b ≤ n) : OkRow d' n := by
  intro j hj
  by_cases e : a ≤ j ∧ j < b
  · have hm : d' j ∈ St.seg d' a b := St.mem_seg.2 ⟨j, e.1, e.2, rfl⟩
    obtain ⟨i, h1, h2, h3⟩ := St.mem_seg.1 (hM.2.1.mem_iff.1 hm)
    rw [← h3]
    exact h i (by omega)
  · rw [hM.1 j (by omega)]
    exact h j hj
theorem OkRow.rot {d : Nat → Int} {n a m b : Nat} (h : OkRow d n) (h1 : a ≤ m) (h2 : m ≤ b) (hb : b ≤ n) : OkRow (St.rotF d a m b) n := by
  intro j hj
  unfold St.rotF
  split
  · exact h _ (by omega)
  · split
    · exact h _ (by omega)
    · exact h j hj
theorem cmpK_lt {key : Int → Int} {x y : Int} : decide (cmpK key x y < 0) = decide (key x < key y) := by
  unfold cmpK
  by_cases h : key x < key y
  · rw [if_pos h, decide_eq_true h]; rfl
  · rw [if_neg h, decide_eq_false h]
    split <;> rfl

set_option maxRecDepth 100000 in
set_option maxHeartbeats 8000000 in
theorem sym_first (w W : World) (g sz n c a m b : Nat) (d : Nat → Int) (key : Int → Int) (cb : Value) (HC0 : CmpOK w g key cb) (hS : SR w W g sz n d) (hsz : n ≤ sz) (hn : n ≤ 1000000) (hO : OkRow d n) (hm : m = a + 1) (hmb : m < b) (hb : b ≤ n) :
    Calls Tryz.prog 140 #[.slice (some ⟨g, 0, none⟩) n c, .int .i64 a, .int .i64 m, .int .i64 b, .func (.func 98) #[] #[cb]] W fun e w' => e = .returned (.tuple #[]) ∧
      ∃ i, m ≤ i ∧ i ≤ b ∧ (i = m ∨ key (d (i - 1)) < key (d a)) ∧ (i = b ∨ key (d a) ≤ key (d i)) ∧ SR w w' g sz n (St.rotF d a m i) := by
  have eg := enters_of Tryz.func98 (by kernel_rfl) rfl
  unfold Enters at eg
  have HC := Lib.hid HC0
  have HS := Lib.hid hS
  have HO := Lib.hid hO
  have Hm := Lib.hid hm
  have e1 : (m : Int) - (a : Int) = 1 := by omega
  have la : a < n := by omega
  clear HC0 hS hO hm
  go_enter Tryz.func140, Tryz.ntmps140
  go_wp2
  go_loopw [10, 11] (fun v10 v11 wx => ∃ i j : Nat, m ≤ i ∧ i ≤ j ∧ j ≤ b ∧ v10 = .int .i64 i ∧ v11 = .int .i64 j ∧ (i = m ∨ key (d (i - 1)) < key (d a)) ∧ (j = b ∨ key (d a) ≤ key (d j)) ∧ SR w wx g sz n d) (fun v10 v11 _ => (intOf v11).toNat - (intOf v10).toNat)
  case atStart => exact ⟨m, b, Nat.le_refl _, by omega, Nat.le_refl _, rfl, rfl, .inl rfl, .inl rfl, HS.out⟩
  case round =>
    obtain ⟨i, j, hmi, hij0, hjb, rfl, rfl, hl, hr, hR⟩ := hrel
    have HL := Lib.hid hl
    have HR := Lib.hid hr
    clear hl hr
    by_cases hij : i < j
    · have f1 : decide ((i : Int) < (j : Int)) = true := by simp; omega
      obtain ⟨h, hh⟩ : ∃ h, h = (i + j) / 2 := ⟨_, rfl⟩
      have x1 : ((i : Int) + (j : Int)) / 2 = (h : Int) := by omega
      have q1 : IntKind.i64.wrap ((i : Int) + (j : Int)) = (i : Int) + (j : Int) := IntWalk.i64_in _ (by omega)
      have q2 : IntKind.u64.wrap ((i : Int) + (j : Int)) = (i : Int) + (j : Int) := IntWalk.u64_in _ (by omega)
      have q3 : IntKind.i64.wrap (h : Int) = (h : Int) := IntWalk.i64_in _ (by omega)
      have q4 : IntKind.i64.wrap ((h : Int) + 1) = (h : Int) + 1 := IntWalk.i64_in _ (by omega)
      have lh : h < n := by omega
      have b1 : (h : Int) < (n : Int) := by omega
      have b2 : (0 : Int) ≤ (h : Int) := by omega
      have b3 : (a : Int) < (n : Int) := by omega
      have b4 : (0 : Int) ≤ (a : Int) := by omega
      have hih : i ≤ h ∧ h < j := by omega
      have ch := hR.cell lh
      have ca := hR.cell la
      have o1 := HO.out h lh
      have o2 := HO.out a la
      have hc := fun q => HC.out (wr.drewN q) (hR.drewN q).2 (d h) (d a) o1.1 o1.2 o2.1 o2.2
      have HRW := Lib.hid hR
      obtain ⟨u, hu⟩ : ∃ u, u = d h := ⟨_, rfl⟩
      obtain ⟨v, hv⟩ : ∃ v, v = d a := ⟨_, rfl⟩
      rw [← hu] at ch hc
      rw [← hv] at ca hc
      obtain ⟨z, hz⟩ : ∃ z, z = cmpK key u v := ⟨_, rfl⟩
      have hzl : decide (z < 0) = decide (key u < key v) := by rw [hz]; exact cmpK_lt
      rw [← hz] at hc
      have HCC := Lib.hid hc
      have Hh := Lib.hid hh
      have Hu := Lib.hid hu
      have Hv := Lib.hid hv
      by_cases hlt : key u < key v
      · rw [decide_eq_true hlt] at hzl
        have Hlt := Lib.hid hlt
        clear hlt hc hz hR hh o1 o2 hu hv x1
        have x1 : ((i : Int) + (j : Int)) / 2 = (h : Int) := by have := Hh.out; omega
        go_wp2
        go_quiet (first | (go_at_call 98; exact Calls.quiet_of (HCC.out _)))
        go_wp2
        go_roundw
        case rel => exact ⟨h + 1, j, by omega, by omega, by omega, by go_num, rfl, .inr (by rw [Nat.add_sub_cancel, ← Hu.out, ← Hv.out]; exact Hlt.out), HR.out, HRW.out.drewN _⟩
        case measure => simp [intOf] <;> omega
      · rw [decide_eq_false hlt] at hzl
        have Hlt := Lib.hid (Int.not_lt.1 hlt)
        clear hlt hc hz hR hh o1 o2 hu hv
        go_wp2
        go_quiet (first | (go_at_call 98; exact Calls.quiet_of (HCC.out _)))
        go_wp2
        go_roundw
        case rel => exact ⟨i, h, by omega, by omega, by omega, rfl, rfl, HL.out, .inr (by rw [← Hu.out, ← Hv.out]; exact Hlt.out), HRW.out.drewN _⟩
        case measure => simp [intOf] <;> omega
    · obtain rfl : i = j := by omega
      have f1 : decide ((i : Int) < (i : Int)) = false := by simp
      have HRW := Lib.hid hR
      obtain ⟨p, hp⟩ : ∃ p, p = i - 1 := ⟨_, rfl⟩
      have x1 : (i : Int) - 1 = (p : Int) := by have := Hm.out; omega
      have q1 : IntKind.i64.wrap (p : Int) = (p : Int) := IntWalk.i64_in _ (by omega)
      have Hp := Lib.hid hp
      have hmp : a ≤ p ∧ p < b := by have := Hm.out; omega
      clear hR hp
      go_wp2
      go_loopw [13] (fun v13 wx => ∃ k : Nat, a ≤ k ∧ k ≤ p ∧ v13 = .int .i64 k ∧ SR w wx g sz n (St.rotF d a m (k + 1))) (fun v13 _ => p - (intOf v13).toNat)
      case atStart => exact ⟨a, Nat.le_refl _, hmp.1, rfl, by rw [← Hm.out, St.rotF_right]; exact HRW.out⟩
      case round =>
        obtain ⟨k, hak, hkp, rfl, hR⟩ := hrel
        by_cases hlt : k < p
        · have f2 : decide ((k : Int) < (p : Int)) = true := by simp; omega
          obtain ⟨y, hy⟩ : ∃ y, y = k + 1 := ⟨_, rfl⟩
          have ey : (k : Int) + 1 = (y : Int) := by omega
          have qy : IntKind.i64.wrap (y : Int) = (y : Int) := IntWalk.i64_in _ (by omega)
          have gx : (k : Int) < (n : Int) := by omega
          have gy : (y : Int) < (n : Int) := by omega
          have gx0 : (0 : Int) ≤ (k : Int) := by omega
          have gy0 : (0 : Int) ≤ (y : Int) := by omega
          have cx := hR.cell (k := k) (by omega)
          have cy := hR.cell (k := y) (by omega)
          have fx := hR.1.frozen k
          have fy := hR.1.frozen y
          have hne : ¬ k = y := by omega
          have hne' : ¬ y = k := by omega
          have HN := Lib.hid ((hR.put hsz (k := k) (u := St.rotF d a m (k + 1) y) (d' := fun j => if j = k then St.rotF d a m (k + 1) y else St.rotF d a m (k + 1) j) (fun j _ => rfl)).put hsz (k := y) (u := St.rotF d a m (k + 1) k) (d' := St.rotF d a m (y + 1)) (fun j _ => by
            have := St.rot_one_step d (a := a) (k := k) hak j
            rw [← Hm.out] at this
            rw [hy]
            exact this.symm))
          have Hy := Lib.hid hy
          clear hR hy
          generalize St.rotF d a m (k + 1) k = u at cx HN
          generalize St.rotF d a m (k + 1) y = v at cy HN
          obtain ⟨wq, hwq⟩ : ∃ wq : World, wq = wr := ⟨_, rfl⟩
          rw [← hwq] at cx cy fx fy HN ⊢
          clear hwq
          go_wp2
          go_region
          go_wp2
          go_roundw
          case rel => exact ⟨y, by omega, by omega, rfl, HN.out.drew⟩
          case measure => simp [intOf] <;> omega
        · obtain rfl : k = p := by omega
          have f2 : decide ((k : Int) < (k : Int)) = false := by simp
          have HRR := Lib.hid hR
          clear hR
          go_wp2
          (try simp only [Exit.inBlock, Exit.then])
          refine bodyPost_ret (results_none rfl _ _ _) rfl ?_
          have e2 : k + 1 = i := by have := Hp.out; have := Hm.out; omega
          exact ⟨rfl, i, hmi, hjb, HL.out, HR.out, e2 ▸ HRR.out⟩
end Go.Proofs.YtgcddjgkieambaaGreatDoor
end PartSymB

section PartSymC
/- The walk of the library's 'symMergeCmpFunc': the last number alone, and the general case. -/
set_option linter.unusedVariables false
set_option linter.unusedSimpArgs false
namespace Go.Proofs.YtgcddjgkieambaaGreatDoor
open Go.RowKit

set_option maxRecDepth 100000 in
set_option maxHeartbeats 8000000 in
theorem sym_last (w W : World) (g sz n c a m b : Nat) (d : Nat → Int) (key : Int → Int) (cb : Value) (HC0 : CmpOK w g key cb) (hS : SR w W g sz n d) (hsz : n ≤ sz) (hn : n ≤ 1000000) (hO : OkRow d n) (hb : b = m + 1) (ham : a + 1 < m) (hbn : b ≤ n) :
    Calls Tryz.prog 140 #[.slice (some ⟨g, 0, none⟩) n c, .int .i64 a, .int .i64 m, .int .i64 b, .func (.func 98) #[] #[cb]] W fun e w' => e = .returned (.tuple #[]) ∧
      ∃ i, a ≤ i ∧ i ≤ m ∧ (i = a ∨ key (d (i - 1)) ≤ key (d m)) ∧ (i = m ∨ key (d m) < key (d i)) ∧ SR w w' g sz n (St.rotF d i m b) := by
  have eg := enters_of Tryz.func98 (by kernel_rfl) rfl
  unfold Enters at eg
  have HC := Lib.hid HC0
  have HS := Lib.hid hS
  have HO := Lib.hid hO
  have Hb := Lib.hid hb
  obtain ⟨ma, hma⟩ : ∃ x, x = m - a := ⟨_, rfl⟩
  have e1 : (m : Int) - (a : Int) = (ma : Int) := by omega
  have qma : IntKind.i64.wrap (ma : Int) = (ma : Int) := IntWalk.i64_in _ (by omega)
  have gma : ((ma : Int) == 1) = false := by simp; omega
  have e2 : (b : Int) - (m : Int) = 1 := by omega
  have lm : m < n := by omega
  clear HC0 hS hO hb hma
  go_enter Tryz.func140, Tryz.ntmps140
  go_wp2
  go_loopw [14, 15] (fun v14 v15 wx => ∃ i j : Nat, a ≤ i ∧ i ≤ j ∧ j ≤ m ∧ v14 = .int .i64 i ∧ v15 = .int .i64 j ∧ (i = a ∨ key (d (i - 1)) ≤ key (d m)) ∧ (j = m ∨ key (d m) < key (d j)) ∧ SR w wx g sz n d) (fun v14 v15 _ => (intOf v15).toNat - (intOf v14).toNat)
  case atStart => exact ⟨a, m, Nat.le_refl _, by omega, Nat.le_refl _, rfl, rfl, .inl rfl, .inl rfl, HS.out⟩
  case round =>
    obtain ⟨i, j, hmi, hij0, hjb, rfl, rfl, hl, hr, hR⟩ := hrel
    have HL := Lib.hid hl
    have HR := Lib.hid hr
    clear hl hr
    by_cases hij : i < j
    · have f1 : decide ((i : Int) < (j : Int)) = true := by simp; omega
      obtain ⟨h, hh⟩ : ∃ h, h = (i + j) / 2 := ⟨_, rfl⟩
      have x1 : ((i : Int) + (j : Int)) / 2 = (h : Int) := by omega
      have q1 : IntKind.i64.wrap ((i : Int) + (j : Int)) = (i : Int) + (j : Int) := IntWalk.i64_in _ (by omega)
      have q2 : IntKind.u64.wrap ((i : Int) + (j : Int)) = (i : Int) + (j : Int) := IntWalk.u64_in _ (by omega)
      have q3 : IntKind.i64.wrap (h : Int) = (h : Int) := IntWalk.i64_in _ (by omega)
      have q4 : IntKind.i64.wrap ((h : Int) + 1) = (h : Int) + 1 := IntWalk.i64_in _ (by omega)
      have lh : h < n := by omega
      have b1 : (h : Int) < (n : Int) := by omega
      have b2 : (0 : Int) ≤ (h : Int) := by omega
      have b3 : (m : Int) < (n : Int) := by omega
      have b4 : (0 : Int) ≤ (m : Int) := by omega
      have hih : i ≤ h ∧ h < j := by omega
      have ch := hR.cell lh
      have cm := hR.cell lm
      have o1 := HO.out h lh
      have o2 := HO.out m lm
      have hc := fun q => HC.out (wr.drewN q) (hR.drewN q).2 (d m) (d h) o2.1 o2.2 o1.1 o1.2
      have HRW := Lib.hid hR
      obtain ⟨u, hu⟩ : ∃ u, u = d h := ⟨_, rfl⟩
      obtain ⟨v, hv⟩ : ∃ v, v = d m := ⟨_, rfl⟩
      rw [← hu] at ch hc
      rw [← hv] at cm hc
      obtain ⟨z, hz⟩ : ∃ z, z = cmpK key v u := ⟨_, rfl⟩
      have hzl : decide (z < 0) = decide (key v < key u) := by rw [hz]; exact cmpK_lt
      rw [← hz] at hc
      have HCC := Lib.hid hc
      have Hu := Lib.hid hu
      have Hv := Lib.hid hv
      by_cases hlt : key v < key u
      · rw [decide_eq_true hlt] at hzl
        have Hlt := Lib.hid hlt
        clear hlt hc hz hR hh o1 o2 hu hv
        go_wp2
        go_quiet (first | (go_at_call 98; exact Calls.quiet_of (HCC.out _)))
        go_wp2
        go_roundw
        case rel => exact ⟨i, h, by omega, by omega, by omega, rfl, rfl, HL.out, .inr (by rw [← Hu.out, ← Hv.out]; exact Hlt.out), HRW.out.drewN _⟩
        case measure => simp [intOf] <;> omega
      · rw [decide_eq_false hlt] at hzl
        have Hlt := Lib.hid (Int.not_lt.1 hlt)
        clear hlt hc hz hR hh o1 o2 hu hv
        go_wp2
        go_quiet (first | (go_at_call 98; exact Calls.quiet_of (HCC.out _)))
        go_wp2
        go_roundw
        case rel => exact ⟨h + 1, j, by omega, by omega, by omega, by go_num, rfl, .inr (by rw [Nat.add_sub_cancel, ← Hu.out, ← Hv.out]; exact Hlt.out), HR.out, HRW.out.drewN _⟩
        case measure => simp [intOf] <;> omega
    · obtain rfl : i = j := by omega
      have f1 : decide ((i : Int) < (i : Int)) = false := by simp
      have HRW := Lib.hid hR
      clear hR
      go_wp2
      go_loopw [17] (fun v17 wx => ∃ k : Nat, i ≤ k ∧ k ≤ m ∧ v17 = .int .i64 k ∧ SR w wx g sz n (St.rotF d k m b)) (fun v17 _ => (intOf v17).toNat - i)
      case atStart => exact ⟨m, hjb, Nat.le_refl _, rfl, by rw [St.rotF_left]; exact HRW.out⟩
      case round =>
        obtain ⟨k, hak, hkp, rfl, hR⟩ := hrel
        by_cases hlt : i < k
        · have f2 : decide ((k : Int) > (i : Int)) = true := by simp; omega
          have f2' : decide ((i : Int) < (k : Int)) = true := by simp; omega
          obtain ⟨p, hp⟩ : ∃ p, p = k - 1 := ⟨_, rfl⟩
          have ep : (k : Int) - 1 = (p : Int) := by omega
          have qp : IntKind.i64.wrap (p : Int) = (p : Int) := IntWalk.i64_in _ (by omega)
          have gx : (k : Int) < (n : Int) := by omega
          have gp : (p : Int) < (n : Int) := by omega
          have gx0 : (0 : Int) ≤ (k : Int) := by omega
          have gp0 : (0 : Int) ≤ (p : Int) := by omega
          have cx := hR.cell (k := k) (by omega)
          have cp := hR.cell (k := p) (by omega)
          have fx := hR.1.frozen k
          have fp := hR.1.frozen p
          have hne : ¬ k = p := by omega
          have hne' : ¬ p = k := by omega
          have HN := Lib.hid ((hR.put hsz (k := k) (u := St.rotF d k m b p) (d' := fun j => if j = k then St.rotF d k m b p else St.rotF d k m b j) (fun j _ => rfl)).put hsz (k := p) (u := St.rotF d k m b k) (d' := St.rotF d p m b) (fun j _ => by
            have := St.rot_back_step d (m := m) (k := p) (by omega) j
            rw [← Hb.out, show p + 1 = k by omega] at this
            exact this.symm))
          have hpk : i ≤ p ∧ p ≤ m ∧ p < k := by omega
          clear hR hp
          generalize St.rotF d k m b k = u at cx HN
          generalize St.rotF d k m b p = v at cp HN
          obtain ⟨wq, hwq⟩ : ∃ wq : World, wq = wr := ⟨_, rfl⟩
          rw [← hwq] at cx cp fx fp HN ⊢
          clear hwq
          go_wp2
          go_region
          go_wp2
          go_roundw
          case rel => exact ⟨p, hpk.1, hpk.2.1, rfl, HN.out.drew⟩
          case measure => simp [intOf] <;> omega
        · obtain rfl : k = i := by omega
          have f2 : decide ((k : Int) > (k : Int)) = false := by simp
          have f2' : decide ((k : Int) < (k : Int)) = false := by simp
          have HRR := Lib.hid hR
          clear hR
          go_wp2
          (try simp only [Exit.inBlock, Exit.then])
          refine bodyPost_ret (results_none rfl _ _ _) rfl ?_
          exact ⟨rfl, k, hmi, hjb, HL.out, HR.out, HRR.out⟩

set_option maxRecDepth 100000 in
set_option maxHeartbeats 8000000 in
theorem sym_hi (w W : World) (g sz n c a m b : Nat) (d : Nat → Int) (key : Int → Int) (cb : Value) (HC0 : CmpOK w g key cb) (hS : SR w W g sz n d) (hsz : n ≤ sz) (hn : n ≤ 1000000) (hO : OkRow d n) (hH : St.Halves key d a m b) (ham : a + 1 < m) (hmb : m + 1 < b) (hbn : b ≤ n) (mid nn s0 r0 pp : Nat) (hmid : mid = (a + b) / 2) (hnn : nn = mid + m) (hpp : pp = nn - 1) (hgt : mid < m) (hs0 : s0 = nn - b) (hr0 : r0 = mid)
    (hI : ∀ (a' m' b' : Nat) (d' : Nat → Int) (W' : World), b' - a' < b - a → SR w W' g sz n d' → OkRow d' n → St.Halves key d' a' m' b' → a' < m' → m' < b' → b' ≤ n →
      Calls Tryz.prog 140 #[.slice (some ⟨g, 0, none⟩) n c, .int .i64 a', .int .i64 m', .int .i64 b', .func (.func 98) #[] #[cb]] W' fun e w' => e = .returned (.tuple #[]) ∧ ∃ d'', SR w w' g sz n d'' ∧ St.Merged key d' d'' a' b') :
    Calls Tryz.prog 140 #[.slice (some ⟨g, 0, none⟩) n c, .int .i64 a, .int .i64 m, .int .i64 b, .func (.func 98) #[] #[cb]] W fun e w' => e = .returned (.tuple #[]) ∧
      ∃ d', SR w w' g sz n d' ∧ St.Merged key d d' a b := by
  have eg := enters_of Tryz.func98 (by kernel_rfl) rfl
  unfold Enters at eg
  have HC := Lib.hid HC0
  have HS := Lib.hid hS
  have HO := Lib.hid hO
  have HI := Lib.hid hI
  have HH := Lib.hid hH
  have Hnn := Lib.hid hnn
  have Hmid := Lib.hid hmid
  have HROT := Lib.hid (fun (s e : Nat) W' hS h1 h2 h3 => rotate_any w W' g sz n c s m e d (.func (.func 98) #[] #[cb]) hS hsz hn h1 h2 h3)
  obtain ⟨ma, hma⟩ : ∃ x, x = m - a := ⟨_, rfl⟩
  have e1 : (m : Int) - (a : Int) = (ma : Int) := by omega
  have qma : IntKind.i64.wrap (ma : Int) = (ma : Int) := IntWalk.i64_in _ (by omega)
  have gma : ((ma : Int) == 1) = false := by simp; omega
  obtain ⟨bm, hbm⟩ : ∃ x, x = b - m := ⟨_, rfl⟩
  have e2 : (b : Int) - (m : Int) = (bm : Int) := by omega
  have qbm : IntKind.i64.wrap (bm : Int) = (bm : Int) := IntWalk.i64_in _ (by omega)
  have gbm : ((bm : Int) == 1) = false := by simp; omega
  have e3 : ((a : Int) + (b : Int)) / 2 = (mid : Int) := by omega
  have q31 : IntKind.i64.wrap ((a : Int) + (b : Int)) = (a : Int) + (b : Int) := IntWalk.i64_in _ (by omega)
  have q32 : IntKind.u64.wrap ((a : Int) + (b : Int)) = (a : Int) + (b : Int) := IntWalk.u64_in _ (by omega)
  have q33 : IntKind.i64.wrap (mid : Int) = (mid : Int) := IntWalk.i64_in _ (by omega)
  have e4 : (mid : Int) + (m : Int) = (nn : Int) := by omega
  have q4 : IntKind.i64.wrap (nn : Int) = (nn : Int) := IntWalk.i64_in _ (by omega)
  have e5 : (nn : Int) - 1 = (pp : Int) := by omega
  have q5 : IntKind.i64.wrap (pp : Int) = (pp : Int) := IntWalk.i64_in _ (by omega)
  have g0 : decide ((m : Int) > (mid : Int)) = true := by simp; omega
  have g0' : decide ((mid : Int) < (m : Int)) = true := by simp; omega
  have e6 : (nn : Int) - (b : Int) = (s0 : Int) := by omega
  have q6 : IntKind.i64.wrap (s0 : Int) = (s0 : Int) := IntWalk.i64_in _ (by omega)
  have hbds : mid < b ∧ a < mid ∧ m < b ∧ a ≤ s0 ∧ s0 ≤ r0 ∧ r0 ≤ m := by omega
  have hx0 : nn ≤ b + s0 ∧ r0 + m ≤ nn ∧ nn ≤ pp + 1 ∧ pp + 1 ≤ nn := by omega
  have HS0 := Lib.hid hs0
  have HR0 := Lib.hid hr0
  have Hgt := Lib.hid hgt
  clear HC0 hS hO hI hH hnn hmid hpp hma hbm hs0 hr0 hgt
  go_enter Tryz.func140, Tryz.ntmps140
  go_wp2
  go_loopw [20, 21] (fun v20 v21 wx => ∃ i j : Nat, s0 ≤ i ∧ i ≤ j ∧ j ≤ r0 ∧ v20 = .int .i64 i ∧ v21 = .int .i64 j ∧ (i = s0 ∨ key (d (i - 1)) ≤ key (d (pp - (i - 1)))) ∧ (j = r0 ∨ key (d (pp - j)) < key (d j)) ∧ SR w wx g sz n d) (fun v20 v21 _ => (intOf v21).toNat - (intOf v20).toNat)
  case atStart => exact ⟨s0, r0, Nat.le_refl _, hbds.2.2.2.2.1, Nat.le_refl _, rfl, by rw [HR0.out], .inl rfl, .inl rfl, HS.out⟩
  case round =>
    obtain ⟨i, j, hmi, hij0, hjb, rfl, rfl, hl, hr, hR⟩ := hrel
    have HL := Lib.hid hl
    have HR := Lib.hid hr
    clear hl hr
    by_cases hij : i < j
    · have f1 : decide ((i : Int) < (j : Int)) = true := by simp; omega
      obtain ⟨h, hh⟩ : ∃ h, h = (i + j) / 2 := ⟨_, rfl⟩
      have x1 : ((i : Int) + (j : Int)) / 2 = (h : Int) := by omega
      have q7 : IntKind.i64.wrap ((i : Int) + (j : Int)) = (i : Int) + (j : Int) := IntWalk.i64_in _ (by omega)
      have q8 : IntKind.u64.wrap ((i : Int) + (j : Int)) = (i : Int) + (j : Int) := IntWalk.u64_in _ (by omega)
      have q9 : IntKind.i64.wrap (h : Int) = (h : Int) := IntWalk.i64_in _ (by omega)
      have q10 : IntKind.i64.wrap ((h : Int) + 1) = (h : Int) + 1 := IntWalk.i64_in _ (by omega)
      obtain ⟨x, hx⟩ : ∃ x, x = pp - h := ⟨_, rfl⟩
      have x2 : (pp : Int) - (h : Int) = (x : Int) := by omega
      have q11 : IntKind.i64.wrap (x : Int) = (x : Int) := IntWalk.i64_in _ (by omega)
      have lh : h < n := by omega
      have lx : x < n := by omega
      have b1 : (h : Int) < (n : Int) := by omega
      have b2 : (0 : Int) ≤ (h : Int) := by omega
      have b3 : (x : Int) < (n : Int) := by omega
      have b4 : (0 : Int) ≤ (x : Int) := by omega
      have hih : i ≤ h ∧ h < j := by omega
      have ch := hR.cell lh
      have cx := hR.cell lx
      have o1 := HO.out h lh
      have o2 := HO.out x lx
      have hc := fun q => HC.out (wr.drewN q) (hR.drewN q).2 (d x) (d h) o2.1 o2.2 o1.1 o1.2
      have HRW := Lib.hid hR
      have Hx := Lib.hid hx
      obtain ⟨u, hu⟩ : ∃ u, u = d h := ⟨_, rfl⟩
      obtain ⟨v, hv⟩ : ∃ v, v = d x := ⟨_, rfl⟩
      rw [← hu] at ch hc
      rw [← hv] at cx hc
      obtain ⟨z, hz⟩ : ∃ z, z = cmpK key v u := ⟨_, rfl⟩
      have hzl : decide (z < 0) = decide (key v < key u) := by rw [hz]; exact cmpK_lt
      rw [← hz] at hc
      have HCC := Lib.hid hc
      have Hu := Lib.hid hu
      have Hv := Lib.hid hv
      by_cases hlt : key v < key u
      · rw [decide_eq_true hlt] at hzl
        have Hlt := Lib.hid hlt
        clear hlt hc hz hR hh o1 o2 hu hv hx
        go_wp2
        go_quiet (first | (go_at_call 98; exact Calls.quiet_of (HCC.out _)))
        go_wp2
        go_roundw
        case rel => exact ⟨i, h, by omega, by omega, by omega, rfl, rfl, HL.out, .inr (by rw [← Hx.out, ← Hu.out, ← Hv.out]; exact Hlt.out), HRW.out.drewN _⟩
        case measure => simp [intOf] <;> omega
      · rw [decide_eq_false hlt] at hzl
        have Hlt := Lib.hid (Int.not_lt.1 hlt)
        clear hlt hc hz hR hh o1 o2 hu hv hx
        go_wp2
        go_quiet (first | (go_at_call 98; exact Calls.quiet_of (HCC.out _)))
        go_wp2
        go_roundw
        case rel => exact ⟨h + 1, j, by omega, by omega, by omega, by go_num, rfl, .inr (by rw [Nat.add_sub_cancel, ← Hx.out, ← Hu.out, ← Hv.out]; exact Hlt.out), HR.out, HRW.out.drewN _⟩
        case measure => simp [intOf] <;> omega
    · obtain rfl : i = j := by omega
      have f1 : decide ((i : Int) < (i : Int)) = false := by simp
      obtain ⟨s, hs⟩ : ∃ s, s = i := ⟨_, rfl⟩
      rw [← hs] at hmi hjb HL HR hij f1 ⊢
      clear hs hij hij0
      obtain ⟨e, he⟩ : ∃ e, e = nn - s := ⟨_, rfl⟩
      have ee : (nn : Int) - (s : Int) = (e : Int) := by omega
      have qe : IntKind.i64.wrap (e : Int) = (e : Int) := IntWalk.i64_in _ (by omega)
      have hC : St.Cut key d a m b s e := by
        have := St.cut_search (mid := mid) (s0 := s0) (r0 := r0) (s := s) HH.out (by omega) (by omega) Hmid.out (.inl ⟨Hgt.out, by rw [HS0.out, Hnn.out], HR0.out⟩) hmi hjb (by
          rcases HL.out with h | h
          · exact .inl h
          · right; rw [← Hnn.out, show nn - 1 = pp by omega]; exact Int.not_lt.2 h) (by
          rcases HR.out with h | h
          · exact .inl h
          · right; rw [← Hnn.out, show nn - 1 = pp by omega]; exact h)
        rw [← Hnn.out, ← he] at this
        exact this
      have hmid2 : mid = s + (e - m) := by have := hC.as; have := hC.sm; have := hC.me; have := Hnn.out; omega
      have c1 := hC.as
      have c2 := hC.sm
      have c3 := hC.me
      have c4 := hC.eb
      have HCut := Lib.hid hC
      obtain ⟨h1, h2⟩ := St.rot_halves HH.out hC hmid2
      have HH1 := Lib.hid h1
      have HH2 := Lib.hid h2
      have hok := HO.out.rot (a := s) c2 c3 (by omega)
      have IH1 := Lib.hid (fun W' hS (k1 : a < s) (k2 : s < mid) => HI.out a s mid (St.rotF d s m e) W' (by omega) hS hok h1 k1 k2 (by omega))
      have IH2 := Lib.hid (fun d2 (hM : St.Merged key (St.rotF d s m e) d2 a mid) W' hS (k1 : mid < e) (k2 : e < b) => HI.out mid e b d2 W' (by omega) hS (hok.merged hM (by omega)) (h2.later (fun x z1 z2 => St.merged_out hM x (.inr z1))) k1 k2 hbn)
      have HRot := Lib.hid (fun W' hS k1 k2 => HROT.out s e W' hS k1 k2 (by omega))
      have HD := Lib.hid hR
      clear hC h1 h2 hok he
      by_cases hsm : s < m
      · by_cases hme : m < e
        · by_cases k1 : a < s
          · by_cases k2 : e < b
            · skip
              have k_s_m : s < m := by omega
              have g_s_m : decide ((s : Int) < (m : Int)) = true := by simp; omega
              have k_m_e : m < e := by omega
              have g_m_e : decide ((m : Int) < (e : Int)) = true := by simp; omega
              have k_s_mid : s < mid := by omega
              have g_s_mid : decide ((s : Int) < (mid : Int)) = true := by simp; omega
              have k_mid_e : mid < e := by omega
              have g_mid_e : decide ((mid : Int) < (e : Int)) = true := by simp; omega
              have k_a_s : a < s := by omega
              have g_a_s : decide ((a : Int) < (s : Int)) = true := by simp; omega
              have k_e_b : e < b := by omega
              have g_e_b : decide ((e : Int) < (b : Int)) = true := by simp; omega
              have Hm2 := Lib.hid hmid2
              clear hR hmid2
              go_wp2_with (first | (go_at_call 158; refine (HRot.out _ HD.out k_s_m k_m_e).mono ?_; rintro e5 w5 ⟨rfl, hS5⟩) | (go_at_call 140; ((with_reducible refine (IH1.out _ hS5 k_a_s k_s_mid).mono ?_); rintro e6 w6 ⟨rfl, d2, hS6, hM1⟩)) | (go_at_call 140; ((with_reducible refine (IH2.out _ hM1 _ hS6 k_mid_e k_e_b).mono ?_); rintro e7 w7 ⟨rfl, d3, hS7, hM2⟩)))
              go_end0
              exact ⟨rfl, d3, hS7, St.merged_all HH.out HCut.out Hm2.out hM1 hM2⟩
            · skip
              have k_s_m : s < m := by omega
              have g_s_m : decide ((s : Int) < (m : Int)) = true := by simp; omega
              have k_m_e : m < e := by omega
              have g_m_e : decide ((m : Int) < (e : Int)) = true := by simp; omega
              have k_s_mid : s < mid := by omega
              have g_s_mid : decide ((s : Int) < (mid : Int)) = true := by simp; omega
              have k_mid_e : mid < e := by omega
              have g_mid_e : decide ((mid : Int) < (e : Int)) = true := by simp; omega
              have k_a_s : a < s := by omega
              have g_a_s : decide ((a : Int) < (s : Int)) = true := by simp; omega
              have k_e_b : ¬ e < b := by omega
              have g_e_b : decide ((e : Int) < (b : Int)) = false := by simp; omega
              have Z7 := Lib.hid (show mid = e ∨ e = b from (.inr (by omega)))
              have Hm2 := Lib.hid hmid2
              clear hR hmid2
              go_wp2_with (first | (go_at_call 158; refine (HRot.out _ HD.out k_s_m k_m_e).mono ?_; rintro e5 w5 ⟨rfl, hS5⟩) | (go_at_call 140; ((with_reducible refine (IH1.out _ hS5 k_a_s k_s_mid).mono ?_); rintro e6 w6 ⟨rfl, d2, hS6, hM1⟩)))
              go_end0
              exact ⟨rfl, _, hS6, St.merged_all HH.out HCut.out Hm2.out hM1 (St.merged_self ((HH2.out.later (fun x h1 h2 => (St.merged_out hM1 x (.inr h1)))) ) Z7.out)⟩
          · by_cases k2 : e < b
            · skip
              have k_s_m : s < m := by omega
              have g_s_m : decide ((s : Int) < (m : Int)) = true := by simp; omega
              have k_m_e : m < e := by omega
              have g_m_e : decide ((m : Int) < (e : Int)) = true := by simp; omega
              have k_s_mid : s < mid := by omega
              have g_s_mid : decide ((s : Int) < (mid : Int)) = true := by simp; omega
              have k_mid_e : mid < e := by omega
              have g_mid_e : decide ((mid : Int) < (e : Int)) = true := by simp; omega
              have k_a_s : ¬ a < s := by omega
              have g_a_s : decide ((a : Int) < (s : Int)) = false := by simp; omega
              have k_e_b : e < b := by omega
              have g_e_b : decide ((e : Int) < (b : Int)) = true := by simp; omega
              have HM1 := Lib.hid (St.merged_self HH1.out (.inl (by omega)))
              have Hm2 := Lib.hid hmid2
              clear hR hmid2
              go_wp2_with (first | (go_at_call 158; refine (HRot.out _ HD.out k_s_m k_m_e).mono ?_; rintro e5 w5 ⟨rfl, hS5⟩) | (go_at_call 140; ((with_reducible refine (IH2.out _ HM1.out _ hS5 k_mid_e k_e_b).mono ?_); rintro e7 w7 ⟨rfl, d3, hS7, hM2⟩)))
              go_end0
              exact ⟨rfl, d3, hS7, St.merged_all HH.out HCut.out Hm2.out HM1.out hM2⟩
            · skip
              have k_s_m : s < m := by omega
              have g_s_m : decide ((s : Int) < (m : Int)) = true := by simp; omega
              have k_m_e : m < e := by omega
              have g_m_e : decide ((m : Int) < (e : Int)) = true := by simp; omega
              have k_s_mid : s < mid := by omega
              have g_s_mid : decide ((s : Int) < (mid : Int)) = true := by simp; omega
              have k_mid_e : mid < e := by omega
              have g_mid_e : decide ((mid : Int) < (e : Int)) = true := by simp; omega
              have k_a_s : ¬ a < s := by omega
              have g_a_s : decide ((a : Int) < (s : Int)) = false := by simp; omega
              have k_e_b : ¬ e < b := by omega
              have g_e_b : decide ((e : Int) < (b : Int)) = false := by simp; omega
              have HM1 := Lib.hid (St.merged_self HH1.out (.inl (by omega)))
              have Z7 := Lib.hid (show mid = e ∨ e = b from (.inr (by omega)))
              have Hm2 := Lib.hid hmid2
              clear hR hmid2
              go_wp2_with (first | (go_at_call 158; refine (HRot.out _ HD.out k_s_m k_m_e).mono ?_; rintro e5 w5 ⟨rfl, hS5⟩))
              go_end0
              exact ⟨rfl, _, hS5, St.merged_all HH.out HCut.out Hm2.out HM1.out (St.merged_self ((HH2.out.later (fun x h1 h2 => (St.merged_out HM1.out x (.inr h1)))) ) Z7.out)⟩
        · by_cases k1 : a < s
          · skip
            have k_s_m : s < m := by omega
            have g_s_m : decide ((s : Int) < (m : Int)) = true := by simp; omega
            have k_m_e : ¬ m < e := by omega
            have g_m_e : decide ((m : Int) < (e : Int)) = false := by simp; omega
            have k_s_mid : ¬ s < mid := by omega
            have g_s_mid : decide ((s : Int) < (mid : Int)) = false := by simp; omega
            have k_mid_e : mid < e := by omega
            have g_mid_e : decide ((mid : Int) < (e : Int)) = true := by simp; omega
            have k_e_b : e < b := by omega
            have g_e_b : decide ((e : Int) < (b : Int)) = true := by simp; omega
            have k_a_s : a < s := by omega
            have g_a_s : decide ((a : Int) < (s : Int)) = true := by simp; omega
            have hS5 : SR w wr g sz n (St.rotF d s m e) := by rw [show e = m by omega, St.rotF_right]; exact HD.out
            have HM1 := Lib.hid (St.merged_self HH1.out (.inr (by omega)))
            have Hm2 := Lib.hid hmid2
            clear hR hmid2
            go_wp2_with (first | (go_at_call 140; ((with_reducible refine (IH2.out _ HM1.out _ hS5 k_mid_e k_e_b).mono ?_); rintro e7 w7 ⟨rfl, d3, hS7, hM2⟩)))
            go_end0
            exact ⟨rfl, d3, hS7, St.merged_all HH.out HCut.out Hm2.out HM1.out hM2⟩
          · skip
            have k_s_m : s < m := by omega
            have g_s_m : decide ((s : Int) < (m : Int)) = true := by simp; omega
            have k_m_e : ¬ m < e := by omega
            have g_m_e : decide ((m : Int) < (e : Int)) = false := by simp; omega
            have k_s_mid : ¬ s < mid := by omega
            have g_s_mid : decide ((s : Int) < (mid : Int)) = false := by simp; omega
            have k_mid_e : mid < e := by omega
            have g_mid_e : decide ((mid : Int) < (e : Int)) = true := by simp; omega
            have k_e_b : e < b := by omega
            have g_e_b : decide ((e : Int) < (b : Int)) = true := by simp; omega
            have k_a_s : ¬ a < s := by omega
            have g_a_s : decide ((a : Int) < (s : Int)) = false := by simp; omega
            have hS5 : SR w wr g sz n (St.rotF d s m e) := by rw [show e = m by omega, St.rotF_right]; exact HD.out
            have HM1 := Lib.hid (St.merged_self HH1.out (.inr (by omega)))
            have Hm2 := Lib.hid hmid2
            clear hR hmid2
            go_wp2_with (first | (go_at_call 140; ((with_reducible refine (IH2.out _ HM1.out _ hS5 k_mid_e k_e_b).mono ?_); rintro e7 w7 ⟨rfl, d3, hS7, hM2⟩)))
            go_end0
            exact ⟨rfl, d3, hS7, St.merged_all HH.out HCut.out Hm2.out HM1.out hM2⟩
      · exact absurd hmid2 (by have := Hgt.out; have := HR0.out; omega)

set_option maxRecDepth 100000 in
set_option maxHeartbeats 8000000 in
theorem sym_lo (w W : World) (g sz n c a m b : Nat) (d : Nat → Int) (key : Int → Int) (cb : Value) (HC0 : CmpOK w g key cb) (hS : SR w W g sz n d) (hsz : n ≤ sz) (hn : n ≤ 1000000) (hO : OkRow d n) (hH : St.Halves key d a m b) (ham : a + 1 < m) (hmb : m + 1 < b) (hbn : b ≤ n) (mid nn s0 r0 pp : Nat) (hmid : mid = (a + b) / 2) (hnn : nn = mid + m) (hpp : pp = nn - 1) (hgt : m ≤ mid) (hs0 : s0 = a) (hr0 : r0 = m)
    (hI : ∀ (a' m' b' : Nat) (d' : Nat → Int) (W' : World), b' - a' < b - a → SR w W' g sz n d' → OkRow d' n → St.Halves key d' a' m' b' → a' < m' → m' < b' → b' ≤ n →
      Calls Tryz.prog 140 #[.slice (some ⟨g, 0, none⟩) n c, .int .i64 a', .int .i64 m', .int .i64 b', .func (.func 98) #[] #[cb]] W' fun e w' => e = .returned (.tuple #[]) ∧ ∃ d'', SR w w' g sz n d'' ∧ St.Merged key d' d'' a' b') :
    Calls Tryz.prog 140 #[.slice (some ⟨g, 0, none⟩) n c, .int .i64 a, .int .i64 m, .int .i64 b, .func (.func 98) #[] #[cb]] W fun e w' => e = .returned (.tuple #[]) ∧
      ∃ d', SR w w' g sz n d' ∧ St.Merged key d d' a b := by
  have eg := enters_of Tryz.func98 (by kernel_rfl) rfl
  unfold Enters at eg
  have HC := Lib.hid HC0
  have HS := Lib.hid hS
  have HO := Lib.hid hO
  have HI := Lib.hid hI
  have HH := Lib.hid hH
  have Hnn := Lib.hid hnn
  have Hmid := Lib.hid hmid
  have HROT := Lib.hid (fun (s e : Nat) W' hS h1 h2 h3 => rotate_any w W' g sz n c s m e d (.func (.func 98) #[] #[cb]) hS hsz hn h1 h2 h3)
  obtain ⟨ma, hma⟩ : ∃ x, x = m - a := ⟨_, rfl⟩
  have e1 : (m : Int) - (a : Int) = (ma : Int) := by omega
  have qma : IntKind.i64.wrap (ma : Int) = (ma : Int) := IntWalk.i64_in _ (by omega)
  have gma : ((ma : Int) == 1) = false := by simp; omega
  obtain ⟨bm, hbm⟩ : ∃ x, x = b - m := ⟨_, rfl⟩
  have e2 : (b : Int) - (m : Int) = (bm : Int) := by omega
  have qbm : IntKind.i64.wrap (bm : Int) = (bm : Int) := IntWalk.i64_in _ (by omega)
  have gbm : ((bm : Int) == 1) = false := by simp; omega
  have e3 : ((a : Int) + (b : Int)) / 2 = (mid : Int) := by omega
  have q31 : IntKind.i64.wrap ((a : Int) + (b : Int)) = (a : Int) + (b : Int) := IntWalk.i64_in _ (by omega)
  have q32 : IntKind.u64.wrap ((a : Int) + (b : Int)) = (a : Int) + (b : Int) := IntWalk.u64_in _ (by omega)
  have q33 : IntKind.i64.wrap (mid : Int) = (mid : Int) := IntWalk.i64_in _ (by omega)
  have e4 : (mid : Int) + (m : Int) = (nn : Int) := by omega
  have q4 : IntKind.i64.wrap (nn : Int) = (nn : Int) := IntWalk.i64_in _ (by omega)
  have e5 : (nn : Int) - 1 = (pp : Int) := by omega
  have q5 : IntKind.i64.wrap (pp : Int) = (pp : Int) := IntWalk.i64_in _ (by omega)
  have g0 : decide ((m : Int) > (mid : Int)) = false := by simp; omega
  have g0' : decide ((mid : Int) < (m : Int)) = false := by simp; omega
  have gN : ¬ mid < m := by omega
  have gN' : decide (mid < m) = false := by simp; omega
  have hbds : mid < b ∧ a < mid ∧ m < b ∧ a ≤ s0 ∧ s0 ≤ r0 ∧ r0 ≤ m := by omega
  have hx0 : nn ≤ b + s0 ∧ r0 + m ≤ nn ∧ nn ≤ pp + 1 ∧ pp + 1 ≤ nn := by omega
  have HS0 := Lib.hid hs0
  have HR0 := Lib.hid hr0
  have Hgt := Lib.hid hgt
  clear HC0 hS hO hI hH hnn hmid hpp hma hbm hs0 hr0 hgt
  go_enter Tryz.func140, Tryz.ntmps140
  go_wp2
  go_loopw [20, 21] (fun v20 v21 wx => ∃ i j : Nat, s0 ≤ i ∧ i ≤ j ∧ j ≤ r0 ∧ v20 = .int .i64 i ∧ v21 = .int .i64 j ∧ (i = s0 ∨ key (d (i - 1)) ≤ key (d (pp - (i - 1)))) ∧ (j = r0 ∨ key (d (pp - j)) < key (d j)) ∧ SR w wx g sz n d) (fun v20 v21 _ => (intOf v21).toNat - (intOf v20).toNat)
  case atStart => exact ⟨s0, r0, Nat.le_refl _, hbds.2.2.2.2.1, Nat.le_refl _, by rw [HS0.out], by rw [HR0.out], .inl rfl, .inl rfl, HS.out⟩
  case round =>
    obtain ⟨i, j, hmi, hij0, hjb, rfl, rfl, hl, hr, hR⟩ := hrel
    have HL := Lib.hid hl
    have HR := Lib.hid hr
    clear hl hr
    by_cases hij : i < j
    · have f1 : decide ((i : Int) < (j : Int)) = true := by simp; omega
      obtain ⟨h, hh⟩ : ∃ h, h = (i + j) / 2 := ⟨_, rfl⟩
      have x1 : ((i : Int) + (j : Int)) / 2 = (h : Int) := by omega
      have q7 : IntKind.i64.wrap ((i : Int) + (j : Int)) = (i : Int) + (j : Int) := IntWalk.i64_in _ (by omega)
      have q8 : IntKind.u64.wrap ((i : Int) + (j : Int)) = (i : Int) + (j : Int) := IntWalk.u64_in _ (by omega)
      have q9 : IntKind.i64.wrap (h : Int) = (h : Int) := IntWalk.i64_in _ (by omega)
      have q10 : IntKind.i64.wrap ((h : Int) + 1) = (h : Int) + 1 := IntWalk.i64_in _ (by omega)
      obtain ⟨x, hx⟩ : ∃ x, x = pp - h := ⟨_, rfl⟩
      have x2 : (pp : Int) - (h : Int) = (x : Int) := by omega
      have q11 : IntKind.i64.wrap (x : Int) = (x : Int) := IntWalk.i64_in _ (by omega)
      have lh : h < n := by omega
      have lx : x < n := by omega
      have b1 : (h : Int) < (n : Int) := by omega
      have b2 : (0 : Int) ≤ (h : Int) := by omega
      have b3 : (x : Int) < (n : Int) := by omega
      have b4 : (0 : Int) ≤ (x : Int) := by omega
      have hih : i ≤ h ∧ h < j := by omega
      have ch := hR.cell lh
      have cx := hR.cell lx
      have o1 := HO.out h lh
      have o2 := HO.out x lx
      have hc := fun q => HC.out (wr.drewN q) (hR.drewN q).2 (d x) (d h) o2.1 o2.2 o1.1 o1.2
      have HRW := Lib.hid hR
      have Hx := Lib.hid hx
      obtain ⟨u, hu⟩ : ∃ u, u = d h := ⟨_, rfl⟩
      obtain ⟨v, hv⟩ : ∃ v, v = d x := ⟨_, rfl⟩
      rw [← hu] at ch hc
      rw [← hv] at cx hc
      obtain ⟨z, hz⟩ : ∃ z, z = cmpK key v u := ⟨_, rfl⟩
      have hzl : decide (z < 0) = decide (key v < key u) := by rw [hz]; exact cmpK_lt
      rw [← hz] at hc
      have HCC := Lib.hid hc
      have Hu := Lib.hid hu
      have Hv := Lib.hid hv
      by_cases hlt : key v < key u
      · rw [decide_eq_true hlt] at hzl
        have Hlt := Lib.hid hlt
        clear hlt hc hz hR hh o1 o2 hu hv hx
        go_wp2
        go_quiet (first | (go_at_call 98; exact Calls.quiet_of (HCC.out _)))
        go_wp2
        go_roundw
        case rel => exact ⟨i, h, by omega, by omega, by omega, rfl, rfl, HL.out, .inr (by rw [← Hx.out, ← Hu.out, ← Hv.out]; exact Hlt.out), HRW.out.drewN _⟩
        case measure => simp [intOf] <;> omega
      · rw [decide_eq_false hlt] at hzl
        have Hlt := Lib.hid (Int.not_lt.1 hlt)
        clear hlt hc hz hR hh o1 o2 hu hv hx
        go_wp2
        go_quiet (first | (go_at_call 98; exact Calls.quiet_of (HCC.out _)))
        go_wp2
        go_roundw
        case rel => exact ⟨h + 1, j, by omega, by omega, by omega, by go_num, rfl, .inr (by rw [Nat.add_sub_cancel, ← Hx.out, ← Hu.out, ← Hv.out]; exact Hlt.out), HR.out, HRW.out.drewN _⟩
        case measure => simp [intOf] <;> omega
    · obtain rfl : i = j := by omega
      have f1 : decide ((i : Int) < (i : Int)) = false := by simp
      obtain ⟨s, hs⟩ : ∃ s, s = i := ⟨_, rfl⟩
      rw [← hs] at hmi hjb HL HR hij f1 ⊢
      clear hs hij hij0
      obtain ⟨e, he⟩ : ∃ e, e = nn - s := ⟨_, rfl⟩
      have ee : (nn : Int) - (s : Int) = (e : Int) := by omega
      have qe : IntKind.i64.wrap (e : Int) = (e : Int) := IntWalk.i64_in _ (by omega)
      have hC : St.Cut key d a m b s e := by
        have := St.cut_search (mid := mid) (s0 := s0) (r0 := r0) (s := s) HH.out (by omega) (by omega) Hmid.out (.inr ⟨Hgt.out, HS0.out, HR0.out⟩) hmi hjb (by
          rcases HL.out with h | h
          · exact .inl h
          · right; rw [← Hnn.out, show nn - 1 = pp by omega]; exact Int.not_lt.2 h) (by
          rcases HR.out with h | h
          · exact .inl h
          · right; rw [← Hnn.out, show nn - 1 = pp by omega]; exact h)
        rw [← Hnn.out, ← he] at this
        exact this
      have hmid2 : mid = s + (e - m) := by have := hC.as; have := hC.sm; have := hC.me; have := Hnn.out; omega
      have c1 := hC.as
      have c2 := hC.sm
      have c3 := hC.me
      have c4 := hC.eb
      have HCut := Lib.hid hC
      obtain ⟨h1, h2⟩ := St.rot_halves HH.out hC hmid2
      have HH1 := Lib.hid h1
      have HH2 := Lib.hid h2
      have hok := HO.out.rot (a := s) c2 c3 (by omega)
      have IH1 := Lib.hid (fun W' hS (k1 : a < s) (k2 : s < mid) => HI.out a s mid (St.rotF d s m e) W' (by omega) hS hok h1 k1 k2 (by omega))
      have IH2 := Lib.hid (fun d2 (hM : St.Merged key (St.rotF d s m e) d2 a mid) W' hS (k1 : mid < e) (k2 : e < b) => HI.out mid e b d2 W' (by omega) hS (hok.merged hM (by omega)) (h2.later (fun x z1 z2 => St.merged_out hM x (.inr z1))) k1 k2 hbn)
      have HRot := Lib.hid (fun W' hS k1 k2 => HROT.out s e W' hS k1 k2 (by omega))
      have HD := Lib.hid hR
      clear hC h1 h2 hok he
      by_cases hsm : s < m
      · by_cases hme : m < e
        · by_cases k1 : a < s
          · by_cases k2 : e < b
            · skip
              have k_s_m : s < m := by omega
              have g_s_m : decide ((s : Int) < (m : Int)) = true := by simp; omega
              have k_m_e : m < e := by omega
              have g_m_e : decide ((m : Int) < (e : Int)) = true := by simp; omega
              have k_s_mid : s < mid := by omega
              have g_s_mid : decide ((s : Int) < (mid : Int)) = true := by simp; omega
              have k_mid_e : mid < e := by omega
              have g_mid_e : decide ((mid : Int) < (e : Int)) = true := by simp; omega
              have k_a_s : a < s := by omega
              have g_a_s : decide ((a : Int) < (s : Int)) = true := by simp; omega
              have k_e_b : e < b := by omega
              have g_e_b : decide ((e : Int) < (b : Int)) = true := by simp; omega
              have Hm2 := Lib.hid hmid2
              clear hR hmid2
              go_wp2_with (first | (go_at_call 158; refine (HRot.out _ HD.out k_s_m k_m_e).mono ?_; rintro e5 w5 ⟨rfl, hS5⟩) | (go_at_call 140; ((with_reducible refine (IH1.out _ hS5 k_a_s k_s_mid).mono ?_); rintro e6 w6 ⟨rfl, d2, hS6, hM1⟩)) | (go_at_call 140; ((with_reducible refine (IH2.out _ hM1 _ hS6 k_mid_e k_e_b).mono ?_); rintro e7 w7 ⟨rfl, d3, hS7, hM2⟩)))
              go_end0
              exact ⟨rfl, d3, hS7, St.merged_all HH.out HCut.out Hm2.out hM1 hM2⟩
            · skip
              have k_s_m : s < m := by omega
              have g_s_m : decide ((s : Int) < (m : Int)) = true := by simp; omega
              have k_m_e : m < e := by omega
              have g_m_e : decide ((m : Int) < (e : Int)) = true := by simp; omega
              have k_s_mid : s < mid := by omega
              have g_s_mid : decide ((s : Int) < (mid : Int)) = true := by simp; omega
              have k_mid_e : mid < e := by omega
              have g_mid_e : decide ((mid : Int) < (e : Int)) = true := by simp; omega
              have k_a_s : a < s := by omega
              have g_a_s : decide ((a : Int) < (s : Int)) = true := by simp; omega
              have k_e_b : ¬ e < b := by omega
              have g_e_b : decide ((e : Int) < (b : Int)) = false := by simp; omega
              have Z7 := Lib.hid (show mid = e ∨ e = b from (.inr (by omega)))
              have Hm2 := Lib.hid hmid2
              clear hR hmid2
              go_wp2_with (first | (go_at_call 158; refine (HRot.out _ HD.out k_s_m k_m_e).mono ?_; rintro e5 w5 ⟨rfl, hS5⟩) | (go_at_call 140; ((with_reducible refine (IH1.out _ hS5 k_a_s k_s_mid).mono ?_); rintro e6 w6 ⟨rfl, d2, hS6, hM1⟩)))
              go_end0
              exact ⟨rfl, _, hS6, St.merged_all HH.out HCut.out Hm2.out hM1 (St.merged_self ((HH2.out.later (fun x h1 h2 => (St.merged_out hM1 x (.inr h1)))) ) Z7.out)⟩
          · by_cases k2 : e < b
            · skip
              have k_s_m : s < m := by omega
              have g_s_m : decide ((s : Int) < (m : Int)) = true := by simp; omega
              have k_m_e : m < e := by omega
              have g_m_e : decide ((m : Int) < (e : Int)) = true := by simp; omega
              have k_s_mid : s < mid := by omega
              have g_s_mid : decide ((s : Int) < (mid : Int)) = true := by simp; omega
              have k_mid_e : mid < e := by omega
              have g_mid_e : decide ((mid : Int) < (e : Int)) = true := by simp; omega
              have k_a_s : ¬ a < s := by omega
              have g_a_s : decide ((a : Int) < (s : Int)) = false := by simp; omega
              have k_e_b : e < b := by omega
              have g_e_b : decide ((e : Int) < (b : Int)) = true := by simp; omega
              have HM1 := Lib.hid (St.merged_self HH1.out (.inl (by omega)))
              have Hm2 := Lib.hid hmid2
              clear hR hmid2
              go_wp2_with (first | (go_at_call 158; refine (HRot.out _ HD.out k_s_m k_m_e).mono ?_; rintro e5 w5 ⟨rfl, hS5⟩) | (go_at_call 140; ((with_reducible refine (IH2.out _ HM1.out _ hS5 k_mid_e k_e_b).mono ?_); rintro e7 w7 ⟨rfl, d3, hS7, hM2⟩)))
              go_end0
              exact ⟨rfl, d3, hS7, St.merged_all HH.out HCut.out Hm2.out HM1.out hM2⟩
            · skip
              have k_s_m : s < m := by omega
              have g_s_m : decide ((s : Int) < (m : Int)) = true := by simp; omega
              have k_m_e : m < e := by omega
              have g_m_e : decide ((m : Int) < (e : Int)) = true := by simp; omega
              have k_s_mid : s < mid := by omega
              have g_s_mid : decide ((s : Int) < (mid : Int)) = true := by simp; omega
              have k_mid_e : mid < e := by omega
              have g_mid_e : decide ((mid : Int) < (e : Int)) = true := by simp; omega
              have k_a_s : ¬ a < s := by omega
              have g_a_s : decide ((a : Int) < (s : Int)) = false := by simp; omega
              have k_e_b : ¬ e < b := by omega
              have g_e_b : decide ((e : Int) < (b : Int)) = false := by simp; omega
              have HM1 := Lib.hid (St.merged_self HH1.out (.inl (by omega)))
              have Z7 := Lib.hid (show mid = e ∨ e = b from (.inr (by omega)))
              have Hm2 := Lib.hid hmid2
              clear hR hmid2
              go_wp2_with (first | (go_at_call 158; refine (HRot.out _ HD.out k_s_m k_m_e).mono ?_; rintro e5 w5 ⟨rfl, hS5⟩))
              go_end0
              exact ⟨rfl, _, hS5, St.merged_all HH.out HCut.out Hm2.out HM1.out (St.merged_self ((HH2.out.later (fun x h1 h2 => (St.merged_out HM1.out x (.inr h1)))) ) Z7.out)⟩
        · exact absurd hmid2 (by have := Hgt.out; omega)
      · by_cases hme : m < e
        · skip
          have k_s_m : ¬ s < m := by omega
          have g_s_m : decide ((s : Int) < (m : Int)) = false := by simp; omega
          have k_a_s : a < s := by omega
          have g_a_s : decide ((a : Int) < (s : Int)) = true := by simp; omega
          have k_mid_e : ¬ mid < e := by omega
          have g_mid_e : decide ((mid : Int) < (e : Int)) = false := by simp; omega
          have k_s_mid : s < mid := by omega
          have g_s_mid : decide ((s : Int) < (mid : Int)) = true := by simp; omega
          have hS5 : SR w wr g sz n (St.rotF d s m e) := by rw [show s = m by omega, St.rotF_left]; exact HD.out
          have Z7 := Lib.hid (show mid = e ∨ e = b from (.inl (by omega)))
          have Hm2 := Lib.hid hmid2
          clear hR hmid2
          go_wp2_with (first | (go_at_call 140; ((with_reducible refine (IH1.out _ hS5 k_a_s k_s_mid).mono ?_); rintro e6 w6 ⟨rfl, d2, hS6, hM1⟩)))
          go_end0
          exact ⟨rfl, _, hS6, St.merged_all HH.out HCut.out Hm2.out hM1 (St.merged_self ((HH2.out.later (fun x h1 h2 => (St.merged_out hM1 x (.inr h1)))) ) Z7.out)⟩
        · skip
          have k_s_m : ¬ s < m := by omega
          have g_s_m : decide ((s : Int) < (m : Int)) = false := by simp; omega
          have k_a_s : a < s := by omega
          have g_a_s : decide ((a : Int) < (s : Int)) = true := by simp; omega
          have k_mid_e : ¬ mid < e := by omega
          have g_mid_e : decide ((mid : Int) < (e : Int)) = false := by simp; omega
          have k_s_mid : ¬ s < mid := by omega
          have g_s_mid : decide ((s : Int) < (mid : Int)) = false := by simp; omega
          have hS5 : SR w wr g sz n (St.rotF d s m e) := by rw [show s = m by omega, St.rotF_left]; exact HD.out
          have HM1 := Lib.hid (St.merged_self HH1.out (.inr (by omega)))
          have Z7 := Lib.hid (show mid = e ∨ e = b from (.inl (by omega)))
          have Hm2 := Lib.hid hmid2
          clear hR hmid2
          go_wp2
          go_end0
          exact ⟨rfl, _, hS5, St.merged_all HH.out HCut.out Hm2.out HM1.out (St.merged_self ((HH2.out.later (fun x h1 h2 => (St.merged_out HM1.out x (.inr h1)))) ) Z7.out)⟩

/-- The merge, at every segment. -/
theorem symMerge_any (w : World) (g sz n c : Nat) (key : Int → Int) (cb : Value) (HC0 : CmpOK w g key cb) (hsz : n ≤ sz) (hn : n ≤ 1000000) : ∀ (N a m b : Nat) (d : Nat → Int) (W : World), b - a < N → SR w W g sz n d → OkRow d n → St.Halves key d a m b → a < m → m < b → b ≤ n →
    Calls Tryz.prog 140 #[.slice (some ⟨g, 0, none⟩) n c, .int .i64 a, .int .i64 m, .int .i64 b, .func (.func 98) #[] #[cb]] W fun e w' => e = .returned (.tuple #[]) ∧ ∃ d', SR w w' g sz n d' ∧ St.Merged key d d' a b
  | 0, _, _, _, _, _, h, _, _, _, _, _, _ => absurd h (by omega)
  | N + 1, a, m, b, d, W, hN, hS, hO, hH, ham, hmb, hb => by
    by_cases h1 : m = a + 1
    · refine (sym_first w W g sz n c a m b d key cb HC0 hS hsz hn hO h1 hmb hb).mono fun e w' h => ?_
      obtain ⟨he, i, i1, i2, i3, i4, hS'⟩ := h
      subst h1
      exact ⟨he, _, hS', St.insert_first hH i1 i2 i3 (i4.imp id Int.not_lt.2)⟩
    · by_cases h2 : b = m + 1
      · refine (sym_last w W g sz n c a m b d key cb HC0 hS hsz hn hO h2 (by omega) hb).mono fun e w' h => ?_
        obtain ⟨he, i, i1, i2, i3, i4, hS'⟩ := h
        subst h2
        exact ⟨he, _, hS', St.insert_last hH i1 i2 (i3.imp id Int.not_lt.2) i4⟩
      · have hI : ∀ (a' m' b' : Nat) (d' : Nat → Int) (W' : World), b' - a' < b - a → SR w W' g sz n d' → OkRow d' n → St.Halves key d' a' m' b' → a' < m' → m' < b' → b' ≤ n → _ := fun a' m' b' d' W' hlt hS' hO' hH' h3 h4 h5 => symMerge_any w g sz n c key cb HC0 hsz hn N a' m' b' d' W' (by omega) hS' hO' hH' h3 h4 h5
        by_cases h3 : (a + b) / 2 < m
        · exact sym_hi w W g sz n c a m b d key cb HC0 hS hsz hn hO hH (by omega) (by omega) hb _ _ _ _ _ rfl rfl rfl h3 rfl rfl hI
        · exact sym_lo w W g sz n c a m b d key cb HC0 hS hsz hn hO hH (by omega) (by omega) hb _ _ _ _ _ rfl rfl rfl (by omega) rfl rfl hI
end Go.Proofs.YtgcddjgkieambaaGreatDoor
end PartSymC

section PartSymD
/- The walks of the library's 'insertionSortCmpFunc', 'stableCmpFunc' and 'SortStableFunc' over at most 40 numbers. -/
set_option linter.unusedVariables false
set_option linter.unusedSimpArgs false
namespace Go.Proofs.YtgcddjgkieambaaGreatDoor
open Go.RowKit

theorem St.up_one {key : Int → Int} (d : Nat → Int) (a : Nat) : St.Up key (St.seg d a (a + 1)) := by
  have e : St.seg d a (a + 1) = [d a] := by
    unfold St.seg
    rw [show a + 1 - a = 1 by omega]
    rfl
  rw [e]
  exact List.pairwise_singleton _ _
theorem St.merged_one {key : Int → Int} (d : Nat → Int) (a : Nat) : St.Merged key d d a (a + 1) := ⟨fun _ _ => rfl, List.Perm.refl _, St.up_one d a⟩
theorem St.merged_nil {key : Int → Int} (d : Nat → Int) {a b : Nat} (h : b ≤ a) : St.Merged key d d a b := ⟨fun _ _ => rfl, List.Perm.refl _, by rw [St.seg_nil d h]; exact List.Pairwise.nil⟩
theorem St.mem_merged {key : Int → Int} {d d' : Nat → Int} {a b : Nat} (h : St.Merged key d d' a b) {x : Nat} (h1 : a ≤ x) (h2 : x < b) : ∃ z, a ≤ z ∧ z < b ∧ d z = d' x := St.mem_seg.1 (h.2.1.mem_iff.1 (St.mem_seg.2 ⟨x, h1, h2, rfl⟩))
/-- One number more is put in. -/
theorem St.insert_step {key : Int → Int} {d0 cur : Nat → Int} {a b i j : Nat} (hM : St.Merged key d0 cur a i) (hai : a < i) (hib : i < b) (hasc : ∀ x y, a ≤ x → x < y → y < b → d0 x < d0 y)
    (h1 : a ≤ j) (h2 : j ≤ i) (hl : j = a ∨ key (cur (j - 1)) ≤ key (cur i)) (hr : j = i ∨ key (cur i) < key (cur j)) : St.Merged key d0 (St.rotF cur j i (i + 1)) a (i + 1) := by
  have H : St.Halves key cur a i (i + 1) := ⟨Nat.le_of_lt hai, Nat.le_succ i, hM.2.2, St.up_one cur i, fun x y x1 x2 y1 y2 => by
    obtain rfl : y = i := by omega
    obtain ⟨z, z1, z2, z3⟩ := St.mem_merged hM x1 x2
    rw [← z3, hM.1 y (.inr (Nat.le_refl _))]
    exact hasc z y z1 z2 hib⟩
  obtain ⟨o1, p1, u1⟩ := St.insert_last H h1 h2 (hl.imp id Int.not_lt.2) hr
  refine ⟨fun x hx => ?_, p1.trans ?_, u1⟩
  · rw [o1 x hx, hM.1 x (by omega)]
  · rw [St.seg_append cur (Nat.le_of_lt hai) (Nat.le_succ i), St.seg_append d0 (Nat.le_of_lt hai) (Nat.le_succ i), St.seg_congr (d := cur) (d' := d0) (a := i) (b := i + 1) fun x x1 _ => hM.1 x (.inr x1)]
    exact List.Perm.append_right _ hM.2.1
/-- Two sorted parts, merged. -/
theorem St.two_halves {key : Int → Int} {d0 d1 d2 : Nat → Int} {a m b : Nat} (h1 : St.Merged key d0 d1 a m) (h2 : St.Merged key d1 d2 m b) (ham : a ≤ m) (hmb : m ≤ b) (hasc : ∀ x y, a ≤ x → x < y → y < b → d0 x < d0 y) : St.Halves key d2 a m b := by
  have e1 : St.seg d2 a m = St.seg d1 a m := St.seg_congr fun x _ x2 => h2.1 x (.inl x2)
  refine ⟨ham, hmb, e1 ▸ h1.2.2, h2.2.2, fun x y x1 x2 y1 y2 => ?_⟩
  rw [h2.1 x (.inl x2)]
  obtain ⟨z, z1, z2, z3⟩ := St.mem_merged h1 x1 x2
  obtain ⟨u, u1, u2, u3⟩ := St.mem_merged h2 y1 y2
  rw [← z3, ← u3, h1.1 u (.inr u1)]
  exact hasc z u z1 (by omega) u2
theorem St.two_merged {key : Int → Int} {d0 d1 d2 d3 : Nat → Int} {a m b : Nat} (h1 : St.Merged key d0 d1 a m) (h2 : St.Merged key d1 d2 m b) (h3 : St.Merged key d2 d3 a b) (ham : a ≤ m) (hmb : m ≤ b) : St.Merged key d0 d3 a b := by
  refine ⟨fun x hx => by rw [h3.1 x hx, h2.1 x (by omega), h1.1 x (by omega)], h3.2.1.trans ?_, h3.2.2⟩
  rw [St.seg_append d2 ham hmb, St.seg_append d0 ham hmb, St.seg_congr (d := d2) (d' := d1) (a := a) (b := m) fun x _ x2 => h2.1 x (.inl x2)]
  refine List.Perm.append h1.2.1 (h2.2.1.trans ?_)
  rw [St.seg_congr (d := d1) (d' := d0) (a := m) (b := b) fun x x1 _ => h1.1 x (.inr x1)]

set_option maxRecDepth 100000 in
set_option maxHeartbeats 8000000 in
theorem insertion_nil (w W : World) (g sz n c a : Nat) (d : Nat → Int) (fv : Value) (hS : SR w W g sz n d) (hn : n ≤ 1000000) (ha : a ≤ n) :
    Calls Tryz.prog 139 #[.slice (some ⟨g, 0, none⟩) n c, .int .i64 a, .int .i64 a, fv] W fun e w' => e = .returned (.tuple #[]) ∧ SR w w' g sz n d := by
  have HS := Lib.hid hS
  have q1 : IntKind.i64.wrap ((a : Int) + 1) = (a : Int) + 1 := IntWalk.i64_in _ (by omega)
  have f1 : decide ((a : Int) + 1 < (a : Int)) = false := decide_eq_false (by omega)
  clear hS
  go_enter Tryz.func139, Tryz.ntmps139
  go_wp2
  refine wp_loop_rounds 1 ?_
  rw [rounds_succ]
  go_wp2
  go_end0
  exact ⟨rfl, HS.out⟩

set_option maxRecDepth 100000 in
set_option maxHeartbeats 8000000 in
theorem insertion_some (w W : World) (g sz n c a b : Nat) (d0 : Nat → Int) (key : Int → Int) (cb : Value) (HC0 : CmpOK w g key cb) (hS : SR w W g sz n d0) (hsz : n ≤ sz) (hn : n ≤ 1000000) (hO : OkRow d0 n) (hab : a < b) (hb : b ≤ n)
    (hasc : ∀ x y, a ≤ x → x < y → y < b → d0 x < d0 y) :
    Calls Tryz.prog 139 #[.slice (some ⟨g, 0, none⟩) n c, .int .i64 a, .int .i64 b, .func (.func 98) #[] #[cb]] W fun e w' => e = .returned (.tuple #[]) ∧ ∃ d', SR w w' g sz n d' ∧ St.Merged key d0 d' a b := by
  have eg := enters_of Tryz.func98 (by kernel_rfl) rfl
  unfold Enters at eg
  have HC := Lib.hid HC0
  have HS := Lib.hid hS
  have HO := Lib.hid hO
  have HA := Lib.hid hasc
  have q0 : IntKind.i64.wrap ((a : Int) + 1) = (a : Int) + 1 := IntWalk.i64_in _ (by omega)
  clear HC0 hS hO hasc
  go_enter Tryz.func139, Tryz.ntmps139
  go_wp2
  go_loopw [8] (fun v8 wx => ∃ (i : Nat) (cur : Nat → Int), a + 1 ≤ i ∧ i ≤ b ∧ v8 = .int .i64 i ∧ SR w wx g sz n cur ∧ St.Merged key d0 cur a i) (fun v8 _ => b - (intOf v8).toNat)
  case atStart => exact ⟨a + 1, d0, Nat.le_refl _, hab, by go_num, HS.out, St.merged_one d0 a⟩
  case round =>
    obtain ⟨i, cur, hai, hib, rfl, hR, hM⟩ := hrel
    have HM := Lib.hid hM
    have HRW := Lib.hid hR
    clear hR hM
    by_cases hlt : i < b
    · have f1 : decide ((i : Int) < (b : Int)) = true := by simp; omega
      have q1 : IntKind.i64.wrap ((i : Int) + 1) = (i : Int) + 1 := IntWalk.i64_in _ (by omega)
      have HOC := Lib.hid (HO.out.merged HM.out (by omega))
      have oi := HOC.out i (by omega)
      obtain ⟨v, hv⟩ : ∃ v, v = cur i := ⟨_, rfl⟩
      rw [← hv] at oi
      have Hv := Lib.hid hv
      clear hv
      go_wp2
      go_loopw [9] (fun v9 wx => ∃ j : Nat, a ≤ j ∧ j ≤ i ∧ v9 = .int .i64 j ∧ (j = i ∨ key v < key (cur j)) ∧ SR w wx g sz n (St.rotF cur j i (i + 1))) (fun v9 _ => (intOf v9).toNat - a)
      case atStart => exact ⟨i, by omega, Nat.le_refl _, rfl, .inl rfl, by rw [St.rotF_left]; exact HRW.out⟩
      case round =>
        obtain ⟨j, haj, hji, rfl, hr, hR⟩ := hrel
        have HR := Lib.hid hr
        have HRR := Lib.hid hR
        clear hr
        by_cases hja : a < j
        · have f2 : decide ((j : Int) > (a : Int)) = true := by simp; omega
          have f2' : decide ((a : Int) < (j : Int)) = true := by simp; omega
          obtain ⟨p, hp⟩ : ∃ p, p = j - 1 := ⟨_, rfl⟩
          have ep : (j : Int) - 1 = (p : Int) := by omega
          have qp : IntKind.i64.wrap (p : Int) = (p : Int) := IntWalk.i64_in _ (by omega)
          have gx : (j : Int) < (n : Int) := by omega
          have gp : (p : Int) < (n : Int) := by omega
          have gx0 : (0 : Int) ≤ (j : Int) := by omega
          have gp0 : (0 : Int) ≤ (p : Int) := by omega
          have ej : St.rotF cur j i (i + 1) j = v := by
            rw [Hv.out]
            unfold St.rotF
            rw [if_pos (by omega)]; congr 1; omega
          have eu : St.rotF cur j i (i + 1) p = cur p := St.rotF_out hji (by omega) (.inl (by omega))
          have cx := hR.cell (k := j) (by omega)
          have cp := hR.cell (k := p) (by omega)
          rw [ej] at cx
          rw [eu] at cp
          have fx := hR.1.frozen j
          have fp := hR.1.frozen p
          have hne : ¬ j = p := by omega
          have hne' : ¬ p = j := by omega
          have ou := HOC.out p (by omega)
          obtain ⟨u, hu⟩ : ∃ u, u = cur p := ⟨_, rfl⟩
          rw [← hu] at cp ou eu
          have hc := fun q => HC.out (wr.drewN q) (hR.drewN q).2 v u oi.1 oi.2 ou.1 ou.2
          have HN := Lib.hid (fun q : Nat => ((hR.drewN q).put hsz (k := j) (u := u) (d' := fun x => if x = j then u else St.rotF cur j i (i + 1) x) (fun x _ => rfl)).put hsz (k := p) (u := v) (d' := St.rotF cur p i (i + 1)) (fun x _ => by
            have h0 := St.rot_back_step cur (m := i) (k := p) (by omega) x
            rw [show p + 1 = j by omega, ej, eu] at h0
            exact h0.symm))
          obtain ⟨z, hz⟩ : ∃ z, z = cmpK key v u := ⟨_, rfl⟩
          have hzl : decide (z < 0) = decide (key v < key u) := by rw [hz]; exact cmpK_lt
          rw [← hz] at hc
          have HCC := Lib.hid hc
          have Hu := Lib.hid hu
          have Hp := Lib.hid hp
          have hpk : a ≤ p ∧ p ≤ i ∧ p < j := by omega
          by_cases hl : key v < key u
          · rw [decide_eq_true hl] at hzl
            have Hlt := Lib.hid hl
            clear hl hc hz hR hu hp ej eu oi ou
            go_wp2
            go_quiet (first | (go_at_call 98; exact Calls.quiet_of (HCC.out _)))
            go_wp2
            go_region
            go_wp2
            go_roundw
            case rel => exact ⟨p, hpk.1, hpk.2.1, rfl, .inr (by rw [← Hu.out]; exact Hlt.out), HN.out _⟩
            case measure => simp [intOf] <;> omega
          · rw [decide_eq_false hl] at hzl
            have Hlt := Lib.hid (Int.not_lt.1 hl)
            have hnext := St.insert_step HM.out (by omega) hlt HA.out haj hji (.inr (by rw [← Hp.out, ← Hu.out, ← Hv.out]; exact Hlt.out)) (by rw [← Hv.out]; exact HR.out)
            have Hnext := Lib.hid hnext
            clear hl hc hz hR hu hp ej eu oi ou hnext
            go_wp2
            go_quiet (first | (go_at_call 98; exact Calls.quiet_of (HCC.out _)))
            go_wp2
            go_roundw
            case rel => exact ⟨i + 1, _, by omega, by omega, by go_num, HRR.out.drewN _, Hnext.out⟩
            case measure => simp [intOf] <;> omega
        · obtain rfl : j = a := by omega
          have f2 : decide ((j : Int) > (j : Int)) = false := by simp
          have f2' : decide ((j : Int) < (j : Int)) = false := by simp
          have hnext := St.insert_step HM.out (by omega) hlt HA.out haj hji (.inl rfl) (by rw [← Hv.out]; exact HR.out)
          have Hnext := Lib.hid hnext
          clear hR hnext oi
          go_wp2
          go_quiet (fail)
          go_wp2
          go_roundw
          case rel => exact ⟨i + 1, _, by omega, by omega, by go_num, HRR.out.drewN _, Hnext.out⟩
          case measure => simp [intOf] <;> omega
    · obtain rfl : i = b := by omega
      have f1 : decide ((i : Int) < (i : Int)) = false := by simp
      go_wp2
      go_end0
      exact ⟨rfl, cur, HRW.out, HM.out⟩

theorem insertion_any (w W : World) (g sz n c a b : Nat) (d0 : Nat → Int) (key : Int → Int) (cb : Value) (HC0 : CmpOK w g key cb) (hS : SR w W g sz n d0) (hsz : n ≤ sz) (hn : n ≤ 1000000) (hO : OkRow d0 n) (hab : a ≤ b) (hb : b ≤ n)
    (hasc : ∀ x y, a ≤ x → x < y → y < b → d0 x < d0 y) :
    Calls Tryz.prog 139 #[.slice (some ⟨g, 0, none⟩) n c, .int .i64 a, .int .i64 b, .func (.func 98) #[] #[cb]] W fun e w' => e = .returned (.tuple #[]) ∧ ∃ d', SR w w' g sz n d' ∧ St.Merged key d0 d' a b := by
  rcases Nat.eq_or_lt_of_le hab with h | h
  · subst h
    exact (insertion_nil w W g sz n c a d0 _ hS hn hb).mono fun e w' h => ⟨h.1, d0, h.2, St.merged_nil d0 (Nat.le_refl _)⟩
  · exact insertion_some w W g sz n c a b d0 key cb HC0 hS hsz hn hO h hb hasc

set_option maxRecDepth 100000 in
set_option maxHeartbeats 8000000 in
theorem stable_a (w W : World) (g sz n c : Nat) (d0 : Nat → Int) (key : Int → Int) (cb : Value) (HC0 : CmpOK w g key cb) (hS : SR w W g sz n d0) (hsz : n ≤ sz) (h20 : n < 20) (hO : OkRow d0 n) (hasc : ∀ x y, x < y → y < n → d0 x < d0 y) :
    Calls Tryz.prog 122 #[.slice (some ⟨g, 0, none⟩) n c, .int .i64 n, .func (.func 98) #[] #[cb]] W fun e w' => e = .returned (.tuple #[]) ∧ ∃ d', SR w w' g sz n d' ∧ St.Merged key d0 d' 0 n := by
  have H1 : Hid (Calls Tryz.prog 139 #[.slice (some ⟨g, 0, none⟩) n c, .int .i64 0, .int .i64 n, .func (.func 98) #[] #[cb]] W fun e w' => e = .returned (.tuple #[]) ∧ ∃ d', SR w w' g sz n d' ∧ St.Merged key d0 d' 0 n) :=
    Lib.hid (insertion_any w W g sz n c 0 n d0 key cb HC0 hS hsz (by omega) hO (by omega) (Nat.le_refl _) (fun x y _ h1 h2 => hasc x y h1 h2))
  have f1 : decide ((20 : Int) ≤ (n : Int)) = false := by simp; omega
  have f2 : decide ((20 : Int) < (n : Int)) = false := by simp; omega
  have k1 : ¬ 20 ≤ n := by omega
  have k2 : ¬ 20 < n := by omega
  clear HC0 hS hO hasc
  go_enter Tryz.func122, Tryz.ntmps122
  go_wp2
  refine wp_loop_rounds 1 ?_
  rw [rounds_succ]
  go_wp2_with (go_at_call 139; refine H1.out.mono ?_; rintro e w1 ⟨rfl, d1, hS1, hM1⟩)
  refine wp_loop_rounds 1 ?_
  rw [rounds_succ]
  go_wp2
  go_end0
  exact ⟨rfl, d1, hS1, hM1⟩

set_option maxRecDepth 100000 in
set_option maxHeartbeats 8000000 in
theorem stable_b (w W : World) (g sz n c : Nat) (d0 : Nat → Int) (key : Int → Int) (cb : Value) (HC0 : CmpOK w g key cb) (hS : SR w W g sz n d0) (hsz : n ≤ sz) (h20 : 20 ≤ n) (h40 : n < 40) (hO : OkRow d0 n) (hasc : ∀ x y, x < y → y < n → d0 x < d0 y) :
    Calls Tryz.prog 122 #[.slice (some ⟨g, 0, none⟩) n c, .int .i64 n, .func (.func 98) #[] #[cb]] W fun e w' => e = .returned (.tuple #[]) ∧ ∃ d', SR w w' g sz n d' ∧ St.Merged key d0 d' 0 n := by
  have H1 : Hid (Calls Tryz.prog 139 #[.slice (some ⟨g, 0, none⟩) n c, .int .i64 0, .int .i64 20, .func (.func 98) #[] #[cb]] W fun e w' => e = .returned (.tuple #[]) ∧ ∃ d', SR w w' g sz n d' ∧ St.Merged key d0 d' 0 20) :=
    Lib.hid (insertion_any w W g sz n c 0 20 d0 key cb HC0 hS hsz (by omega) hO (by omega) h20 (fun x y _ h1 h2 => hasc x y h1 (by omega)))
  have H2 : Hid (∀ (d1 : Nat → Int) (W1 : World), St.Merged key d0 d1 0 20 → SR w W1 g sz n d1 → Calls Tryz.prog 139 #[.slice (some ⟨g, 0, none⟩) n c, .int .i64 20, .int .i64 n, .func (.func 98) #[] #[cb]] W1 fun e w' => e = .returned (.tuple #[]) ∧ ∃ d', SR w w' g sz n d' ∧ St.Merged key d1 d' 20 n) :=
    Lib.hid (fun d1 W1 hM hS1 => insertion_any w W1 g sz n c 20 n d1 key cb HC0 hS1 hsz (by omega) (hO.merged hM h20) h20 (Nat.le_refl _) (fun x y h0 h1 h2 => by rw [hM.1 x (.inr h0), hM.1 y (.inr (by omega))]; exact hasc x y h1 h2))
  have H3 : Hid (20 < n → ∀ (d1 d2 : Nat → Int) (W1 : World), St.Merged key d0 d1 0 20 → St.Merged key d1 d2 20 n → SR w W1 g sz n d2 → Calls Tryz.prog 140 #[.slice (some ⟨g, 0, none⟩) n c, .int .i64 0, .int .i64 20, .int .i64 n, .func (.func 98) #[] #[cb]] W1 fun e w' => e = .returned (.tuple #[]) ∧ ∃ d', SR w w' g sz n d' ∧ St.Merged key d2 d' 0 n) :=
    Lib.hid (fun hlt d1 d2 W1 hM1 hM2 hS2 => symMerge_any w g sz n c key cb HC0 hsz (by omega) 41 0 20 n d2 W1 (by omega) hS2 ((hO.merged hM1 h20).merged hM2 (Nat.le_refl _)) (St.two_halves hM1 hM2 (by omega) h20 (fun x y _ h1 h2 => hasc x y h1 h2)) (by omega) hlt (Nat.le_refl _))
  have f1 : decide ((20 : Int) ≤ (n : Int)) = true := by simp; omega
  have f3 : decide ((40 : Int) ≤ (n : Int)) = false := by simp; omega
  have f4 : decide ((40 : Int) < (n : Int)) = false := by simp; omega
  have k1 : 20 ≤ n := h20
  have k3 : ¬ 40 ≤ n := by omega
  have k4 : ¬ 40 < n := by omega
  clear HC0 hS hO hasc
  by_cases hlt : 20 < n
  · have f2 : decide ((20 : Int) < (n : Int)) = true := by simp; omega
    go_enter Tryz.func122, Tryz.ntmps122
    go_wp2
    refine wp_loop_rounds 2 ?_
    rw [rounds_succ]
    go_wp2_with (go_at_call 139; refine H1.out.mono ?_; rintro e w1 ⟨rfl, d1, hS1, hM1⟩)
    rw [rounds_succ]
    go_wp2_with (go_at_call 139; refine (H2.out _ _ hM1 hS1).mono ?_; rintro e w2 ⟨rfl, d2, hS2, hM2⟩)
    refine wp_loop_rounds 2 ?_
    rw [rounds_succ]
    go_wp2
    refine wp_loop_rounds 1 ?_
    rw [rounds_succ]
    go_wp2_with (go_at_call 140; refine (H3.out hlt _ _ _ hM1 hM2 hS2).mono ?_; rintro e w3 ⟨rfl, d3, hS3, hM3⟩)
    rw [rounds_succ]
    go_wp2
    go_end0
    exact ⟨rfl, d3, hS3, St.two_merged hM1 hM2 hM3 (by omega) h20⟩
  · have f2 : decide ((20 : Int) < (n : Int)) = false := by simp; omega
    go_enter Tryz.func122, Tryz.ntmps122
    go_wp2
    refine wp_loop_rounds 2 ?_
    rw [rounds_succ]
    go_wp2_with (go_at_call 139; refine H1.out.mono ?_; rintro e w1 ⟨rfl, d1, hS1, hM1⟩)
    rw [rounds_succ]
    go_wp2_with (go_at_call 139; refine (H2.out _ _ hM1 hS1).mono ?_; rintro e w2 ⟨rfl, d2, hS2, hM2⟩)
    refine wp_loop_rounds 1 ?_
    rw [rounds_succ]
    go_wp2
    go_end0
    have e : d2 = d1 := funext fun x => hM2.1 x (by omega)
    have en : n = 20 := by omega
    refine ⟨rfl, d2, hS2, ?_⟩
    rw [e, en]
    exact hM1

set_option maxRecDepth 100000 in
set_option maxHeartbeats 8000000 in
theorem stable_c (w W : World) (g sz c : Nat) (d0 : Nat → Int) (key : Int → Int) (cb : Value) (HC0 : CmpOK w g key cb) (hS : SR w W g sz 40 d0) (hsz : 40 ≤ sz) (hO : OkRow d0 40) (hasc : ∀ x y, x < y → y < 40 → d0 x < d0 y) :
    Calls Tryz.prog 122 #[.slice (some ⟨g, 0, none⟩) 40 c, .int .i64 40, .func (.func 98) #[] #[cb]] W fun e w' => e = .returned (.tuple #[]) ∧ ∃ d', SR w w' g sz 40 d' ∧ St.Merged key d0 d' 0 40 := by
  have H1 : Hid (Calls Tryz.prog 139 #[.slice (some ⟨g, 0, none⟩) 40 c, .int .i64 0, .int .i64 20, .func (.func 98) #[] #[cb]] W fun e w' => e = .returned (.tuple #[]) ∧ ∃ d', SR w w' g sz 40 d' ∧ St.Merged key d0 d' 0 20) :=
    Lib.hid (insertion_any w W g sz 40 c 0 20 d0 key cb HC0 hS hsz (by omega) hO (by omega) (by omega) (fun x y _ h1 h2 => hasc x y h1 (by omega)))
  have H2 : Hid (∀ (d1 : Nat → Int) (W1 : World), St.Merged key d0 d1 0 20 → SR w W1 g sz 40 d1 → Calls Tryz.prog 139 #[.slice (some ⟨g, 0, none⟩) 40 c, .int .i64 20, .int .i64 40, .func (.func 98) #[] #[cb]] W1 fun e w' => e = .returned (.tuple #[]) ∧ ∃ d', SR w w' g sz 40 d' ∧ St.Merged key d1 d' 20 40) :=
    Lib.hid (fun d1 W1 hM hS1 => insertion_any w W1 g sz 40 c 20 40 d1 key cb HC0 hS1 hsz (by omega) (hO.merged hM (by omega)) (by omega) (Nat.le_refl _) (fun x y h0 h1 h2 => by rw [hM.1 x (.inr h0), hM.1 y (.inr (by omega))]; exact hasc x y h1 h2))
  have H4 : Hid (∀ (d1 : Nat → Int) (W1 : World), SR w W1 g sz 40 d1 → Calls Tryz.prog 139 #[.slice (some ⟨g, 0, none⟩) 40 c, .int .i64 40, .int .i64 40, .func (.func 98) #[] #[cb]] W1 fun e w' => e = .returned (.tuple #[]) ∧ SR w w' g sz 40 d1) :=
    Lib.hid (fun d1 W1 hS1 => insertion_nil w W1 g sz 40 c 40 d1 _ hS1 (by omega) (Nat.le_refl _))
  have H3 : Hid (∀ (d1 d2 : Nat → Int) (W1 : World), St.Merged key d0 d1 0 20 → St.Merged key d1 d2 20 40 → SR w W1 g sz 40 d2 → Calls Tryz.prog 140 #[.slice (some ⟨g, 0, none⟩) 40 c, .int .i64 0, .int .i64 20, .int .i64 40, .func (.func 98) #[] #[cb]] W1 fun e w' => e = .returned (.tuple #[]) ∧ ∃ d', SR w w' g sz 40 d' ∧ St.Merged key d2 d' 0 40) :=
    Lib.hid (fun d1 d2 W1 hM1 hM2 hS2 => symMerge_any w g sz 40 c key cb HC0 hsz (by omega) 41 0 20 40 d2 W1 (by omega) hS2 ((hO.merged hM1 (by omega)).merged hM2 (Nat.le_refl _)) (St.two_halves hM1 hM2 (by omega) (by omega) (fun x y _ h1 h2 => hasc x y h1 h2)) (by omega) (by omega) (Nat.le_refl _))
  clear HC0 hS hO hasc
  go_enter Tryz.func122, Tryz.ntmps122
  go_wp2
  refine wp_loop_rounds 3 ?_
  rw [rounds_succ]
  go_wp2_with (go_at_call 139; refine H1.out.mono ?_; rintro e w1 ⟨rfl, d1, hS1, hM1⟩)
  rw [rounds_succ]
  go_wp2_with (go_at_call 139; refine (H2.out _ _ hM1 hS1).mono ?_; rintro e w2 ⟨rfl, d2, hS2, hM2⟩)
  rw [rounds_succ]
  go_wp2_with (go_at_call 139; refine (H4.out _ _ hS2).mono ?_; rintro e w3 ⟨rfl, hS3⟩)
  refine wp_loop_rounds 2 ?_
  rw [rounds_succ]
  go_wp2
  refine wp_loop_rounds 2 ?_
  rw [rounds_succ]
  go_wp2_with (go_at_call 140; refine (H3.out _ _ _ hM1 hM2 hS3).mono ?_; rintro e w4 ⟨rfl, d4, hS4, hM4⟩)
  rw [rounds_succ]
  go_wp2
  rw [rounds_succ]
  go_wp2
  go_end0
  exact ⟨rfl, d4, hS4, St.two_merged hM1 hM2 hM4 (by omega) (by omega)⟩

theorem stable_any (w W : World) (g sz n c : Nat) (d0 : Nat → Int) (key : Int → Int) (cb : Value) (HC0 : CmpOK w g key cb) (hS : SR w W g sz n d0) (hsz : n ≤ sz) (h40 : n ≤ 40) (hO : OkRow d0 n) (hasc : ∀ x y, x < y → y < n → d0 x < d0 y) :
    Calls Tryz.prog 122 #[.slice (some ⟨g, 0, none⟩) n c, .int .i64 n, .func (.func 98) #[] #[cb]] W fun e w' => e = .returned (.tuple #[]) ∧ ∃ d', SR w w' g sz n d' ∧ St.Merged key d0 d' 0 n := by
  by_cases h1 : n < 20
  · exact stable_a w W g sz n c d0 key cb HC0 hS hsz h1 hO hasc
  · by_cases h2 : n < 40
    · exact stable_b w W g sz n c d0 key cb HC0 hS hsz (by omega) h2 hO hasc
    · obtain rfl : n = 40 := by omega
      exact stable_c w W g sz c d0 key cb HC0 hS hsz hO hasc
set_option maxRecDepth 100000 in
set_option maxHeartbeats 2000000 in
/-- The library's stable sort of at most 40 numbers by a key. -/
theorem sortStable_any (w W : World) (g sz n c : Nat) (d0 : Nat → Int) (key : Int → Int) (cb : Value) (HC0 : CmpOK w g key cb) (hS : SR w W g sz n d0) (hsz : n ≤ sz) (h40 : n ≤ 40) (hO : OkRow d0 n) (hasc : ∀ x y, x < y → y < n → d0 x < d0 y) :
    Calls Tryz.prog 97 #[.slice (some ⟨g, 0, none⟩) n c, .func (.func 98) #[] #[cb]] W fun e w' => e = .returned (.tuple #[]) ∧ ∃ d', SR w w' g sz n d' ∧ St.Merged key d0 d' 0 n := by
  have HT := Lib.hid (stable_any w W g sz n c d0 key cb HC0 hS hsz h40 hO hasc)
  clear HC0 hS hO hasc
  go_enter Tryz.func97, Tryz.ntmps97
  go_wp2_with (go_at_call 122; refine HT.out.mono ?_; rintro e w1 ⟨rfl, d1, hS1, hM1⟩)
  go_end0
  exact ⟨rfl, d1, hS1, hM1⟩
end Go.Proofs.YtgcddjgkieambaaGreatDoor
end PartSymD

section PartNearA
/- The map of the costs, and the function by which the nearest texts are compared. -/
set_option linter.unusedVariables false
set_option linter.unusedSimpArgs false
namespace Go.Proofs.YtgcddjgkieambaaGreatDoor
open Go.RowKit Go.Maps

theorem law3 : Keyed Tryz.prog 3 := int_keyed Tryz.underlying3
theorem zero3 (w : World) : (zeroValue 3).run Tryz.prog w = .ok (.int .i64 0) w := by kernel_rfl
/-- The map of the first costs. -/
def mapN (cst : Nat → Int) : Nat → DataW Unit
  | 0 => .map []
  | k + 1 => (mapN cst k).put (.int .i64 (k : Int)) (.lit (.int .i64 (cst k)))
theorem mapN_isMap (cst : Nat → Int) : ∀ k, IsMap (mapN cst k)
  | 0 => isMap_empty
  | k + 1 => (mapN_isMap cst k).put _ _
theorem mapN_at (cst : Nat → Int) (x : Nat) : ∀ k, (mapN cst k).atKey (.int .i64 (x : Int)) (.lit (.int .i64 0)) = .lit (.int .i64 (if x < k then cst x else 0))
  | 0 => by rw [if_neg (by omega)]; rfl
  | k + 1 => by
    rw [mapN]
    by_cases e : x = k
    · subst e
      rw [atKey_put_same (mapN_isMap cst _) (show WideAt.IsKeyLit (.int .i64 (x : Int)) from trivial), if_pos (by omega)]
    · have hne : (Lit.int .i64 (x : Int)) ≠ .int .i64 (k : Int) := fun h => e (by injection h with _ h; omega)
      rw [atKey_put_other hne, mapN_at cst x k]
      by_cases h : x < k
      · rw [if_pos h, if_pos (by omega)]
      · rw [if_neg h, if_neg (by omega)]
theorem wf3 {z : Int} (h : -9223372036854775808 ≤ z ∧ z ≤ 9223372036854775807) : (Lit.int .i64 z).wf = true := WalkArith.wf_i64 h
abbrev OwnsN (W : World) (mb n : Nat) (cst : Nat → Int) : Prop := W.ownsMap Tryz.prog 3 (plainElem (H := Unit) Tryz.prog 3) mb n (mapN cst n)
theorem lit_inj {a b : Int} (h : (DataW.lit (.int .i64 a) : DataW Unit) = .lit (.int .i64 b)) : a = b := by
  injection h with h
  injection h
theorem look_run {W : World} {mb n : Nat} {cst : Nat → Int} (hown : OwnsN W mb n cst) (x : Nat) (hx : x ≤ 1000000) : (Instr.lookup 111 (.map (some mb)) (.int .i64 (x : Int)) false).run Tryz.prog W = .ok (.int .i64 (if x < n then cst x else 0)) W := by
  obtain ⟨c, hrun, hat, _⟩ := hown.lookup_int law3 Tryz.underlying111 Tryz.underlying3 (zero3 W) (keyOf_int_mk Tryz.underlying3 (wf3 (by omega) : (Lit.int .i64 (x : Int)).wf = true))
  rw [mapN_at] at hat
  rw [hrun, ← lit_inj hat]
/-- The key of the comparison. -/
def nk (cst : Nat → Int) (n : Nat) (x : Int) : Int := if x.toNat < n then cst x.toNat else 0

set_option maxRecDepth 100000 in
set_option maxHeartbeats 2000000 in
theorem cmp98 (W : World) (bx mb n : Nat) (cst : Nat → Int) (hbx : W.cell? ⟨bx, 0, none⟩ = some (.map (some mb))) (hown : OwnsN W mb n cst) (x y : Int) (x0 : 0 ≤ x) (x1 : x ≤ 1000000) (y0 : 0 ≤ y) (y1 : y ≤ 1000000) :
    Calls Tryz.prog 98 #[.int .i64 x, .int .i64 y, .pointer (some ⟨bx, 0, none⟩)] W fun e w' => e = .returned (.int .i64 (cmpK (nk cst n) x y)) ∧ ∃ q, w' = W.drewN q := by
  obtain ⟨i, rfl⟩ := Int.eq_ofNat_of_zero_le x0
  obtain ⟨k, rfl⟩ := Int.eq_ofNat_of_zero_le y0
  have r1 := look_run hown i (by omega)
  have r2 := look_run hown k (by omega)
  have e1 : nk cst n (i : Int) = if i < n then cst i else 0 := by unfold nk; rw [Int.toNat_natCast]
  have e2 : nk cst n (k : Int) = if k < n then cst k else 0 := by unfold nk; rw [Int.toNat_natCast]
  rw [← e1] at r1
  rw [← e2] at r2
  have hc : cmpK (nk cst n) (i : Int) (k : Int) = Lib.compareInt (nk cst n (i : Int)) (nk cst n (k : Int)) := by
    unfold cmpK Lib.compareInt
    simp only [gt_iff_lt]
  rw [hc]
  generalize nk cst n (i : Int) = u at r1
  generalize nk cst n (k : Int) = v at r2
  clear e1 e2 hc hown x0 x1 y0 y1
  go_enter Tryz.func98, Tryz.ntmps98
  go_wp2_with (go_at_call 99; refine (Tryz.cmp_Compare_int _ _ _).mono ?_; rintro e w1 ⟨rfl, rfl⟩)
  go_ret
  exact ⟨rfl, 0, rfl⟩
theorem cmpOK_of (w : World) (g bx mb n : Nat) (cst : Nat → Int) (hbx : w.cell? ⟨bx, 0, none⟩ = some (.map (some mb))) (hown : OwnsN w mb n cst) (h1 : bx ≠ g) (h2 : mb ≠ g) : CmpOK w g (nk cst n) (.pointer (some ⟨bx, 0, none⟩)) := by
  intro W hg x y x0 x1 y0 y1
  have hlt := World.block_lt_of_cell? w _ hbx
  refine cmp98 W bx mb n cst ((hg.cell_far ⟨bx, 0, none⟩ hlt (by simpa using h1)).trans hbx) (hown.kept hg (by simpa using h2)) x y x0 x1 y0 y1
end Go.Proofs.YtgcddjgkieambaaGreatDoor
end PartNearA
