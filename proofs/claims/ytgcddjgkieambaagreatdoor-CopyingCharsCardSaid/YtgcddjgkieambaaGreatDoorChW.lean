/- The walks of 'Code', 'Family', 'Swap', 'Miss', 'Extra' and of the reference's, at every text. -/
import Derived.Test.YtgcddjgkieambaaGreatDoorRefD
import Derived.Test.YtgcddjgkieambaaGreatDoorHearing
set_option linter.unusedVariables false
set_option linter.unusedSimpArgs false
namespace Go.Proofs.YtgcddjgkieambaaGreatDoor
open Go.RowKit

/-- The text of one character. -/
def chB (k : Nat) : ByteArray := ⟨#[Cm.chars.getD k 0]⟩
/-- A text is a character, or none. -/
theorem one_or (s : ByteArray) : (∃ i : Nat, i < 37 ∧ oneIx s = (i : Int) ∧ s = chB i) ∨ (oneIx s = -1 ∧ NoChar s) := by
  by_cases h1 : s.size = 1
  · obtain ⟨c, rfl⟩ := data_of_one h1
    have e : oneIx ⟨#[c]⟩ = Cm.ixc c := rfl
    have hb := Cm.ixc_bd c
    by_cases h0 : 0 ≤ Cm.ixc c
    · refine .inl ⟨(Cm.ixc c).toNat, by omega, by rw [e]; omega, ?_⟩
      unfold chB
      rw [char_ixc c h0]
    · refine .inr ⟨by rw [e]; omega, fun d hd => ?_⟩
      have : c = d := by
        have := congrArg (fun s : ByteArray => s.data.toList) hd
        simpa using this
      rw [← this]; omega
  · have hl : s.data.toList.length ≠ 1 := by simpa using h1
    refine .inr ⟨?_, fun c hc => absurd (by rw [hc]; rfl) h1⟩
    unfold oneIx
    split
    · rename_i c hc; rw [hc] at hl; exact absurd rfl hl
    · rfl
theorem oneIx_chB (i : Nat) (h : i < 37) : oneIx (chB i) = (i : Int) := ixc_char i h

def keyE (s : ByteArray) : Int := if 0 ≤ oneIx s then 0 else 41
def codeS (s : ByteArray) : ByteArray := if 0 ≤ oneIx s then Cm.codeB (oneIx s).toNat else ⟨#[]⟩
def famS (s : ByteArray) : Int := if 0 ≤ oneIx s then Cm.famZ (oneIx s).toNat else 0
theorem keyE_yes {s : ByteArray} {i : Nat} (h : oneIx s = (i : Int)) : keyE s = 0 ∧ codeS s = Cm.codeB i ∧ famS s = Cm.famZ i := by
  unfold keyE codeS famS
  rw [h, if_pos (by omega), if_pos (by omega), if_pos (by omega)]
  exact ⟨rfl, rfl, rfl⟩
theorem keyE_no {s : ByteArray} (h : oneIx s = -1) : keyE s = 41 ∧ codeS s = ⟨#[]⟩ ∧ famS s = 0 := by
  unfold keyE codeS famS
  rw [h]
  exact ⟨rfl, rfl, rfl⟩

theorem Code_any (s : ByteArray) (w : World) (hs : s.size ≤ 9223372036854775807) : Calls Tryz.prog 35 #[.string s] w fun e w' => e = .returned (.tuple #[.string (codeS s), .int .i64 (keyE s)]) ∧ Below w.heap.size w w' := by
  rcases one_or s with ⟨i, hi, h1, h2⟩ | ⟨h1, h2⟩
  · obtain ⟨k1, k2, k3⟩ := keyE_yes h1
    rw [k1, k2, h2]
    have hx : Cm.ixc (Cm.chars.getD i 0) = (i : Int) := ixc_char i hi
    have := code_one (Cm.chars.getD i 0) w (by omega)
    rw [hx] at this
    exact this
  · obtain ⟨k1, k2, k3⟩ := keyE_no h1
    rw [k1, k2]
    exact quiet_below ((code_no s w h2 hs).mono fun e w' h => ⟨h.1, h.2⟩)
theorem Family_any (s : ByteArray) (w : World) (hs : s.size ≤ 9223372036854775807) : Calls Tryz.prog 36 #[.string s] w fun e w' => e = .returned (.tuple #[.int .i64 (famS s), .int .i64 (keyE s)]) ∧ Below w.heap.size w w' := by
  rcases one_or s with ⟨i, hi, h1, h2⟩ | ⟨h1, h2⟩
  · obtain ⟨k1, k2, k3⟩ := keyE_yes h1
    rw [k1, k3, h2]
    have hx : Cm.ixc (Cm.chars.getD i 0) = (i : Int) := ixc_char i hi
    have := family_one (Cm.chars.getD i 0) w (by omega)
    rw [hx] at this
    exact this
  · obtain ⟨k1, k2, k3⟩ := keyE_no h1
    rw [k1, k3]
    exact quiet_below ((family_no s w h2 hs).mono fun e w' h => ⟨h.1, h.2⟩)

set_option maxRecDepth 100000 in
set_option maxHeartbeats 2000000 in
theorem refCode_any (s : ByteArray) (w : World) (hs : s.size ≤ 9223372036854775807) : Calls Tryz.prog 39 #[.string s] w fun e w' => e = .returned (.tuple #[.string (codeS s), .int .i64 (keyE s)]) ∧ Below w.heap.size w w' := by
  have HO := Lib.hid (fun W => ref_one s W hs)
  rcases one_or s with ⟨i, hi, h1, h2⟩ | ⟨h1, h2⟩
  · obtain ⟨k1, k2, k3⟩ := keyE_yes h1
    rw [k1, k2]
    rw [h1] at HO
    have f1 : (i : Int) < 37 := by omega
    have f2 : (0 : Int) ≤ (i : Int) := by omega
    have d0 : decide ((i : Int) < 0) = false := by simp
    clear k1 k2 k3 h1 h2
    go_enter Tryz.func39, Tryz.ntmps39
    go_wp2_with (first
      | (go_at_call 86; refine (HO.out _).mono ?_; rintro e w1 ⟨rfl, rfl⟩)
      | (go_at_call 73; refine (ref_codes _).mono ?_; rintro e w2 ⟨rfl, hC, hb2⟩; have c1 := hC.2 i hi; have lg := hC.1))
    go_ret2
    exact ⟨rfl, hb2⟩
  · obtain ⟨k1, k2, k3⟩ := keyE_no h1
    rw [k1, k2]
    rw [h1] at HO
    clear k1 k2 k3 h1 h2
    go_enter Tryz.func39, Tryz.ntmps39
    go_wp2_with (first | (go_at_call 86; refine (HO.out _).mono ?_; rintro e w1 ⟨rfl, rfl⟩))
    go_ret2
    exact ⟨rfl, Below.refl _ _⟩
theorem fam_bd (i : Nat) : 0 ≤ Cm.famZ i ∧ Cm.famZ i ≤ 7 := by
  by_cases h : i < 37
  · have : (List.range 37).all (fun i => decide (0 ≤ Cm.famZ i ∧ Cm.famZ i ≤ 7)) = true := by decide +kernel
    exact of_decide_eq_true (List.all_eq_true.1 this i (List.mem_range.2 h))
  · have h1 : Cm.famL.length = 37 := rfl
    unfold Cm.famZ
    rw [List.getD, List.getElem?_eq_none (by omega)]
    decide
set_option maxRecDepth 100000 in
set_option maxHeartbeats 2000000 in
theorem refFamily_any (s : ByteArray) (w : World) (hs : s.size ≤ 9223372036854775807) : Calls Tryz.prog 41 #[.string s] w fun e w' => e = .returned (.tuple #[.int .i64 (famS s), .int .i64 (keyE s)]) ∧ Below w.heap.size w w' := by
  have HO := Lib.hid (fun W => ref_one s W hs)
  rcases one_or s with ⟨i, hi, h1, h2⟩ | ⟨h1, h2⟩
  · obtain ⟨k1, k2, k3⟩ := keyE_yes h1
    rw [k1, k3]
    rw [h1] at HO
    have f1 : (i : Int) < 37 := by omega
    have f2 : (0 : Int) ≤ (i : Int) := by omega
    have d0 : decide ((i : Int) < 0) = false := by simp
    have a1 := famB_at i hi
    have b1 := fam_bd i
    unfold famB at a1
    generalize Cm.famZ i = x at a1 b1 ⊢
    have q0 : (48 + x : Int) - 48 = x := by omega
    have q1 : IntKind.u8.wrap (48 + x - 48) = x := by rw [q0]; exact IntWalk.u8_in _ (by omega)
    have q2 : IntKind.i64.wrap x = x := IntWalk.i64_in _ (by omega)
    have q3 : IntKind.u8.wrap x = x := IntWalk.u8_in _ (by omega)
    clear k1 k2 k3 h1 h2 b1
    go_enter Tryz.func41, Tryz.ntmps41
    go_wp2_with (go_at_call 86; refine (HO.out _).mono ?_; rintro e w1 ⟨rfl, rfl⟩)
    go_ret2
    exact ⟨rfl, Below.refl _ _⟩
  · obtain ⟨k1, k2, k3⟩ := keyE_no h1
    rw [k1, k3]
    rw [h1] at HO
    clear k1 k2 k3 h1 h2
    go_enter Tryz.func41, Tryz.ntmps41
    go_wp2_with (first | (go_at_call 86; refine (HO.out _).mono ?_; rintro e w1 ⟨rfl, rfl⟩))
    go_ret2
    exact ⟨rfl, Below.refl _ _⟩

/-- The error of a mode; what a miss and an extra character cost. -/
def moE (m : Int) : Int := if m = 1 ∨ m = 2 ∨ m = 3 then 0 else 40
def moM (m : Int) : Int := if m = 1 ∨ m = 2 ∨ m = 3 then Cm.missC m else 0
def moX (m : Int) : Int := if m = 1 ∨ m = 2 ∨ m = 3 then Cm.extraC m else 0
theorem mode1 {m : Int} (h : isMode m) (w : World) : Calls Tryz.prog 88 #[.int .i64 m] w fun e w' => e = .returned (.bool true) ∧ w = w' := by
  have e : (decide (1 ≤ m) && decide (m ≤ 3)) = true := by have h' : m = 1 ∨ m = 2 ∨ m = 3 := h; simp; omega
  have := ref_isMode m w
  rwa [e] at this
theorem mode0 {m : Int} (h : ¬ isMode m) (w : World) : Calls Tryz.prog 88 #[.int .i64 m] w fun e w' => e = .returned (.bool false) ∧ w = w' := by
  have e : (decide (1 ≤ m) && decide (m ≤ 3)) = false := by
    have h' : ¬ (m = 1 ∨ m = 2 ∨ m = 3) := h
    rw [Bool.and_eq_false_iff, decide_eq_false_iff_not, decide_eq_false_iff_not]; omega
  have := ref_isMode m w
  rwa [e] at this

set_option maxRecDepth 100000 in
set_option maxHeartbeats 2000000 in
theorem Miss_any (m : Int) (w : World) : Calls Tryz.prog 44 #[.int .i64 m] w fun e w' => e = .returned (.tuple #[.int .i64 (moM m), .int .i64 (moE m)]) ∧ Below w.heap.size w w' := by
  by_cases hm : isMode m
  · have e1 : moE m = 0 := if_pos hm
    have e2 : moM m = Cm.missC m := if_pos hm
    rw [e1, e2]
    generalize hz : Cm.missC m = z
    have HK := Lib.hid (fun (W : World) fm fe fs T x (h : Costs W m T x fm fe fs) => h.cm W (Below.refl _ _))
    rw [hz] at HK
    clear e1 e2 hz
    go_enter Tryz.func44, Tryz.ntmps44
    go_wp2_with (first
      | (go_at_call 87; refine (costsOf m _ hm).mono ?_; rintro e w1 ⟨T, x, fm, fe, fs, rfl, hC, hb1⟩; have hmm := hC.mm; have hem := hC.em; unfold Enters at hem; have hcm := Lib.hid (HK.out w1 fm fe fs T x hC); clear hC)
      | (go_at_fn fm; refine hcm.out.mono ?_; rintro e w2 ⟨rfl, hb2⟩))
    go_ret2
    exact ⟨rfl, below_trans' hb1 hb2⟩
  · have e1 : moE m = 40 := if_neg hm
    have e2 : moM m = 0 := if_neg hm
    rw [e1, e2]
    clear e1 e2
    go_enter Tryz.func44, Tryz.ntmps44
    go_wp2_with (go_at_call 87; refine (waysOf_no m _ hm).mono ?_; rintro e w' ⟨rfl, rfl⟩)
    go_ret2
    exact ⟨rfl, Below.refl _ _⟩
set_option maxRecDepth 100000 in
set_option maxHeartbeats 2000000 in
theorem Extra_any (m : Int) (w : World) : Calls Tryz.prog 46 #[.int .i64 m] w fun e w' => e = .returned (.tuple #[.int .i64 (moX m), .int .i64 (moE m)]) ∧ Below w.heap.size w w' := by
  by_cases hm : isMode m
  · have e1 : moE m = 0 := if_pos hm
    have e2 : moX m = Cm.extraC m := if_pos hm
    rw [e1, e2]
    generalize hz : Cm.extraC m = z
    have HK := Lib.hid (fun (W : World) fm fe fs T x (h : Costs W m T x fm fe fs) => h.ce W (Below.refl _ _))
    rw [hz] at HK
    clear e1 e2 hz
    go_enter Tryz.func46, Tryz.ntmps46
    go_wp2_with (first
      | (go_at_call 87; refine (costsOf m _ hm).mono ?_; rintro e w1 ⟨T, x, fm, fe, fs, rfl, hC, hb1⟩; have hmm := hC.me; have hem := hC.ee; unfold Enters at hem; have hcm := Lib.hid (HK.out w1 fm fe fs T x hC); clear hC)
      | (go_at_fn fe; refine hcm.out.mono ?_; rintro e w2 ⟨rfl, hb2⟩))
    go_ret2
    exact ⟨rfl, below_trans' hb1 hb2⟩
  · have e1 : moE m = 40 := if_neg hm
    have e2 : moX m = 0 := if_neg hm
    rw [e1, e2]
    clear e1 e2
    go_enter Tryz.func46, Tryz.ntmps46
    go_wp2_with (go_at_call 87; refine (waysOf_no m _ hm).mono ?_; rintro e w' ⟨rfl, rfl⟩)
    go_ret2
    exact ⟨rfl, Below.refl _ _⟩
set_option maxRecDepth 100000 in
set_option maxHeartbeats 2000000 in
theorem refMiss_any (m : Int) (w : World) : Calls Tryz.prog 45 #[.int .i64 m] w fun e w' => e = .returned (.tuple #[.int .i64 (moM m), .int .i64 (moE m)]) ∧ w = w' := by
  by_cases hm : isMode m
  · have e1 : moE m = 0 := if_pos hm
    have e2 : moM m = Cm.missC m := if_pos hm
    rw [e1, e2]
    have HI := Lib.hid (fun W => mode1 hm W)
    have HM := Lib.hid (fun W => ref_miss m W)
    generalize Cm.missC m = z at HM
    clear e1 e2 hm
    go_enter Tryz.func45, Tryz.ntmps45
    go_wp2_with (first | (go_at_call 88; refine (HI.out _).mono ?_; rintro e w1 ⟨rfl, rfl⟩) | (go_at_call 76; refine (HM.out _).mono ?_; rintro e w1 ⟨rfl, rfl⟩))
    go_ret2
    exact ⟨rfl, rfl⟩
  · have e1 : moE m = 40 := if_neg hm
    have e2 : moM m = 0 := if_neg hm
    rw [e1, e2]
    have HI := Lib.hid (fun W => mode0 hm W)
    clear e1 e2 hm
    go_enter Tryz.func45, Tryz.ntmps45
    go_wp2_with (first | (go_at_call 88; refine (HI.out _).mono ?_; rintro e w1 ⟨rfl, rfl⟩))
    go_ret2
    exact ⟨rfl, rfl⟩
set_option maxRecDepth 100000 in
set_option maxHeartbeats 2000000 in
theorem refExtra_any (m : Int) (w : World) : Calls Tryz.prog 47 #[.int .i64 m] w fun e w' => e = .returned (.tuple #[.int .i64 (moX m), .int .i64 (moE m)]) ∧ w = w' := by
  by_cases hm : isMode m
  · have e1 : moE m = 0 := if_pos hm
    have e2 : moX m = Cm.extraC m := if_pos hm
    rw [e1, e2]
    have HI := Lib.hid (fun W => mode1 hm W)
    have HM := Lib.hid (fun W => ref_extra m W)
    generalize Cm.extraC m = z at HM
    clear e1 e2 hm
    go_enter Tryz.func47, Tryz.ntmps47
    go_wp2_with (first | (go_at_call 88; refine (HI.out _).mono ?_; rintro e w1 ⟨rfl, rfl⟩) | (go_at_call 77; refine (HM.out _).mono ?_; rintro e w1 ⟨rfl, rfl⟩))
    go_ret2
    exact ⟨rfl, rfl⟩
  · have e1 : moE m = 40 := if_neg hm
    have e2 : moX m = 0 := if_neg hm
    rw [e1, e2]
    have HI := Lib.hid (fun W => mode0 hm W)
    clear e1 e2 hm
    go_enter Tryz.func47, Tryz.ntmps47
    go_wp2_with (first | (go_at_call 88; refine (HI.out _).mono ?_; rintro e w1 ⟨rfl, rfl⟩))
    go_ret2
    exact ⟨rfl, rfl⟩

/-- The error of a swap, and what it costs. -/
def swE (m : Int) (x y : ByteArray) : Int := if ¬ (m = 1 ∨ m = 2 ∨ m = 3) then 40 else if 0 ≤ oneIx x ∧ 0 ≤ oneIx y then 0 else 41
def swC (m : Int) (x y : ByteArray) : Int := if swE m x y = 0 then Cm.sw m (oneIx x).toNat (oneIx y).toNat else 0
/-- What 'index' tells of a text. -/
theorem index_any (s : ByteArray) (w : World) (hs : s.size ≤ 9223372036854775807) : Calls Tryz.prog 84 #[.string s] w fun e w' => (∃ z : Int, (0 ≤ oneIx s → z = oneIx s) ∧ e = .returned (.tuple #[.int .i64 z, .bool (decide (0 ≤ oneIx s))])) ∧ w = w' := by
  rcases one_or s with ⟨i, hi, h1, h2⟩ | ⟨h1, h2⟩
  · have hx : Cm.ixc (Cm.chars.getD i 0) = (i : Int) := ixc_char i hi
    have h := index_one (Cm.chars.getD i 0) w
    rw [hx] at h
    rw [h1, h2]
    exact h.mono fun e w' h => ⟨⟨_, fun _ => rfl, h.1⟩, h.2⟩
  · rw [h1]
    exact (index_no s w h2 hs).mono fun e w' ⟨⟨z, h3⟩, h4⟩ => ⟨⟨z, fun h => absurd h (by decide), h3⟩, h4⟩

set_option maxRecDepth 100000 in
set_option maxHeartbeats 2000000 in
theorem Swap_ok (m : Int) (i k : Nat) (x y : ByteArray) (w : World) (hm : isMode m) (hi : i < 37) (hk : k < 37) (hx : oneIx x = (i : Int)) (hy : oneIx y = (k : Int)) (hxs : x.size ≤ 9223372036854775807) (hys : y.size ≤ 9223372036854775807) :
    Calls Tryz.prog 42 #[.int .i64 m, .string x, .string y] w fun e w' => e = .returned (.tuple #[.int .i64 (Cm.sw m i k), .int .i64 0]) ∧ Below w.heap.size w w' := by
  have h1 := fun W => index_any x W hxs
  rw [hx] at h1
  have h2 := fun W => index_any y W hys
  rw [hy] at h2
  have H1 : Hid (∀ W, Calls Tryz.prog 84 #[.string x] W fun e w' => e = .returned (.tuple #[.int .i64 (i : Int), .bool true]) ∧ W = w') := Lib.hid fun W => (h1 W).mono fun e w' ⟨⟨z, e1, e2⟩, e3⟩ => ⟨by rw [e2, e1 (by omega), decide_eq_true (by omega)], e3⟩
  have H2 : Hid (∀ W, Calls Tryz.prog 84 #[.string y] W fun e w' => e = .returned (.tuple #[.int .i64 (k : Int), .bool true]) ∧ W = w') := Lib.hid fun W => (h2 W).mono fun e w' ⟨⟨z, e1, e2⟩, e3⟩ => ⟨by rw [e2, e1 (by omega), decide_eq_true (by omega)], e3⟩
  generalize hz : Cm.sw m i k = z
  have HK := Lib.hid (fun (W : World) fm fe fs T x (h : Costs W m T x fm fe fs) => h.cs W i k hi hk (Below.refl _ _))
  rw [hz] at HK
  clear h1 h2 hx hy hxs hys hz hi hk
  go_enter Tryz.func42, Tryz.ntmps42
  go_wp2_with (first
    | (go_at_call 87; refine (costsOf m _ hm).mono ?_; rintro e w1 ⟨T, v, fm, fe, fs, rfl, hC, hb1⟩; have hmm := hC.ms; have hem := hC.es; unfold Enters at hem; have hcm := Lib.hid (HK.out w1 fm fe fs T v hC); clear hC)
    | (go_at_call 84; (with_reducible refine (H1.out _).mono ?_); rintro e w2 ⟨rfl, rfl⟩)
    | (go_at_call 84; (with_reducible refine (H2.out _).mono ?_); rintro e w2 ⟨rfl, rfl⟩)
    | (go_at_fn fs; refine hcm.out.mono ?_; rintro e w2 ⟨rfl, hb2⟩))
  go_ret2
  exact ⟨rfl, below_trans' hb1 hb2⟩
set_option maxRecDepth 100000 in
set_option maxHeartbeats 2000000 in
theorem Swap_key (m : Int) (x y : ByteArray) (w : World) (hm : isMode m) (h : ¬ (0 ≤ oneIx x ∧ 0 ≤ oneIx y)) (hxs : x.size ≤ 9223372036854775807) (hys : y.size ≤ 9223372036854775807) :
    Calls Tryz.prog 42 #[.int .i64 m, .string x, .string y] w fun e w' => e = .returned (.tuple #[.int .i64 0, .int .i64 41]) ∧ Below w.heap.size w w' := by
  have H1 := Lib.hid fun W => index_any x W hxs
  have H2 := Lib.hid fun W => index_any y W hys
  by_cases hx : 0 ≤ oneIx x
  · have hy : ¬ 0 ≤ oneIx y := fun e => h ⟨hx, e⟩
    rw [decide_eq_true hx] at H1
    rw [decide_eq_false hy] at H2
    clear h hx hy hxs hys
    go_enter Tryz.func42, Tryz.ntmps42
    go_wp2_with (first
      | (go_at_call 87; refine (waysT m _ hm).mono ?_; rintro e w1 ⟨T, v, rfl, hC, hb1⟩)
      | (go_at_call 84; (with_reducible refine (H1.out _).mono ?_); rintro e w2 ⟨⟨z1, _, rfl⟩, rfl⟩)
      | (go_at_call 84; (with_reducible refine (H2.out _).mono ?_); rintro e w2 ⟨⟨z2, _, rfl⟩, rfl⟩))
    go_ret2
    exact ⟨rfl, hb1⟩
  · rw [decide_eq_false hx] at H1
    clear h hx hxs hys
    go_enter Tryz.func42, Tryz.ntmps42
    go_wp2_with (first
      | (go_at_call 87; refine (waysT m _ hm).mono ?_; rintro e w1 ⟨T, v, rfl, hC, hb1⟩)
      | (go_at_call 84; (with_reducible refine (H1.out _).mono ?_); rintro e w2 ⟨⟨z1, _, rfl⟩, rfl⟩)
      | (go_at_call 84; (with_reducible refine (H2.out _).mono ?_); rintro e w2 ⟨⟨z2, _, rfl⟩, rfl⟩))
    go_ret2
    exact ⟨rfl, hb1⟩
set_option maxRecDepth 100000 in
set_option maxHeartbeats 2000000 in
theorem Swap_any (m : Int) (x y : ByteArray) (w : World) (hxs : x.size ≤ 9223372036854775807) (hys : y.size ≤ 9223372036854775807) :
    Calls Tryz.prog 42 #[.int .i64 m, .string x, .string y] w fun e w' => e = .returned (.tuple #[.int .i64 (swC m x y), .int .i64 (swE m x y)]) ∧ Below w.heap.size w w' := by
  by_cases hm : isMode m
  · have e0 : swE m x y = if 0 ≤ oneIx x ∧ 0 ≤ oneIx y then 0 else 41 := if_neg (fun h => h hm)
    by_cases h : 0 ≤ oneIx x ∧ 0 ≤ oneIx y
    · rcases one_or x with ⟨i, hi, h1, _⟩ | ⟨h1, _⟩
      · rcases one_or y with ⟨k, hk, h2, _⟩ | ⟨h2, _⟩
        · have e1 : swE m x y = 0 := by rw [e0, if_pos h]
          have e2 : swC m x y = Cm.sw m i k := by unfold swC; rw [if_pos e1, h1, h2]; rfl
          rw [e1, e2]
          exact Swap_ok m i k x y w hm hi hk h1 h2 hxs hys
        · omega
      · omega
    · have e1 : swE m x y = 41 := by rw [e0, if_neg h]
      have e2 : swC m x y = 0 := by unfold swC; rw [e1]; rfl
      rw [e1, e2]
      exact Swap_key m x y w hm h hxs hys
  · have e1 : swE m x y = 40 := if_pos hm
    have e2 : swC m x y = 0 := by unfold swC; rw [e1]; rfl
    rw [e1, e2]
    clear e1 e2 hxs hys
    go_enter Tryz.func42, Tryz.ntmps42
    go_wp2_with (go_at_call 87; refine (waysOf_no m _ hm).mono ?_; rintro e w' ⟨rfl, rfl⟩)
    go_ret2
    exact ⟨rfl, Below.refl _ _⟩

set_option maxRecDepth 100000 in
set_option maxHeartbeats 2000000 in
theorem refSwap_any (m : Int) (x y : ByteArray) (w : World) (hxs : x.size ≤ 9223372036854775807) (hys : y.size ≤ 9223372036854775807) :
    Calls Tryz.prog 43 #[.int .i64 m, .string x, .string y] w fun e w' => e = .returned (.tuple #[.int .i64 (swC m x y), .int .i64 (swE m x y)]) ∧ Below w.heap.size w w' := by
  by_cases hm : isMode m
  · have HI := Lib.hid (fun W => mode1 hm W)
    have H1 := Lib.hid (fun W => ref_one x W hxs)
    have H2 := Lib.hid (fun W => ref_one y W hys)
    have e0 : swE m x y = if 0 ≤ oneIx x ∧ 0 ≤ oneIx y then 0 else 41 := if_neg (fun h => h hm)
    by_cases h : 0 ≤ oneIx x ∧ 0 ≤ oneIx y
    · have e1 : swE m x y = 0 := by rw [e0, if_pos h]
      have e2 : swC m x y = Cm.sw m (oneIx x).toNat (oneIx y).toNat := by unfold swC; rw [if_pos e1]
      rw [e1, e2]
      obtain ⟨i, hi, h1⟩ : ∃ i : Nat, i < 37 ∧ oneIx x = (i : Int) := by
        rcases one_or x with ⟨i, hi, h1, _⟩ | ⟨h1, _⟩
        · exact ⟨i, hi, h1⟩
        · omega
      obtain ⟨k, hk, h2⟩ : ∃ i : Nat, i < 37 ∧ oneIx y = (i : Int) := by
        rcases one_or y with ⟨i, hi, h1, _⟩ | ⟨h1, _⟩
        · exact ⟨i, hi, h1⟩
        · omega
      rw [h1] at H1 ⊢
      rw [h2] at H2 ⊢
      rw [Int.toNat_natCast, Int.toNat_natCast]
      have HS := Lib.hid (fun g W hC => ref_swap g m i k W hm hi hk hC)
      generalize Cm.sw m i k = z at HS
      have d1 : decide ((i : Int) < 0) = false := by simp
      have d2 : decide ((k : Int) < 0) = false := by simp
      clear e0 e1 e2 h h1 h2 hm hxs hys
      go_enter Tryz.func43, Tryz.ntmps43
      go_wp2_with (first
        | (go_at_call 88; refine (HI.out _).mono ?_; rintro e w1 ⟨rfl, rfl⟩)
        | (go_at_call 86; (with_reducible refine (H1.out _).mono ?_); rintro e w1 ⟨rfl, rfl⟩)
        | (go_at_call 86; (with_reducible refine (H2.out _).mono ?_); rintro e w1 ⟨rfl, rfl⟩)
        | (go_at_call 73; refine (ref_codes _).mono ?_; rintro e w2 ⟨rfl, hC, hb2⟩)
        | (go_at_call 75; refine (HS.out _ _ hC).mono ?_; rintro e w3 ⟨rfl, hb3⟩))
      go_ret2
      exact ⟨rfl, below_trans' hb2 hb3⟩
    · have e1 : swE m x y = 41 := by rw [e0, if_neg h]
      have e2 : swC m x y = 0 := by unfold swC; rw [e1]; rfl
      rw [e1, e2]
      generalize oneIx x = i at H1 h
      generalize oneIx y = k at H2 h
      by_cases h1 : i < 0
      · have d1 : decide (i < 0) = true := by simpa using h1
        clear e0 e1 e2 h h1 hm hxs hys
        go_enter Tryz.func43, Tryz.ntmps43
        go_wp2_with (first
          | (go_at_call 88; refine (HI.out _).mono ?_; rintro e w1 ⟨rfl, rfl⟩)
          | (go_at_call 86; (with_reducible refine (H1.out _).mono ?_); rintro e w1 ⟨rfl, rfl⟩)
          | (go_at_call 86; (with_reducible refine (H2.out _).mono ?_); rintro e w1 ⟨rfl, rfl⟩))
        go_ret2
        exact ⟨rfl, Below.refl _ _⟩
      · have d1 : decide (i < 0) = false := by simpa using h1
        have d2 : decide (k < 0) = true := by simp; omega
        clear e0 e1 e2 h h1 hm hxs hys
        go_enter Tryz.func43, Tryz.ntmps43
        go_wp2_with (first
          | (go_at_call 88; refine (HI.out _).mono ?_; rintro e w1 ⟨rfl, rfl⟩)
          | (go_at_call 86; (with_reducible refine (H1.out _).mono ?_); rintro e w1 ⟨rfl, rfl⟩)
          | (go_at_call 86; (with_reducible refine (H2.out _).mono ?_); rintro e w1 ⟨rfl, rfl⟩))
        go_ret2
        exact ⟨rfl, Below.refl _ _⟩
  · have HI := Lib.hid (fun W => mode0 hm W)
    have e1 : swE m x y = 40 := if_pos hm
    have e2 : swC m x y = 0 := by unfold swC; rw [e1]; rfl
    rw [e1, e2]
    clear e1 e2 hxs hys hm
    go_enter Tryz.func43, Tryz.ntmps43
    go_wp2_with (go_at_call 88; refine (HI.out _).mono ?_; rintro e w1 ⟨rfl, rfl⟩)
    go_ret2
    exact ⟨rfl, Below.refl _ _⟩
end Go.Proofs.YtgcddjgkieambaaGreatDoor
