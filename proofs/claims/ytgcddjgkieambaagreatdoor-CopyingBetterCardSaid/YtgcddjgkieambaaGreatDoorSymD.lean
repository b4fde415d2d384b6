/- The walks of the library's 'insertionSortCmpFunc', 'stableCmpFunc' and 'SortStableFunc' over at most 40 numbers. -/
import Derived.Test.YtgcddjgkieambaaGreatDoorSymC
set_option linter.unusedVariables false
set_option linter.unusedSimpArgs false
namespace Go.Proofs.YtgcddjgkieambaaGreatDoor
open Go.RowKit

theorem St.up_one {key : Int → Int} (d : Nat → Int) (a : Nat) : St.Up key (St.seg d a (a + 1)) := by
  have e : St.seg d a (a + 1) = [d a] := by
    unfold St.seg
    rw [show a + 1 - a = 1 by omega]
    rfl
  rw [e]
  exact List.pairwise_singleton _ _
theorem St.merged_one {key : Int → Int} (d : Nat → Int) (a : Nat) : St.Merged key d d a (a + 1) := ⟨fun _ _ => rfl, List.Perm.refl _, St.up_one d a⟩
theorem St.merged_nil {key : Int → Int} (d : Nat → Int) {a b : Nat} (h : b ≤ a) : St.Merged key d d a b := ⟨fun _ _ => rfl, List.Perm.refl _, by rw [St.seg_nil d h]; exact List.Pairwise.nil⟩
theorem St.mem_merged {key : Int → Int} {d d' : Nat → Int} {a b : Nat} (h : St.Merged key d d' a b) {x : Nat} (h1 : a ≤ x) (h2 : x < b) : ∃ z, a ≤ z ∧ z < b ∧ d z = d' x := St.mem_seg.1 (h.2.1.mem_iff.1 (St.mem_seg.2 ⟨x, h1, h2, rfl⟩))
/-- One number more is put in. -/
theorem St.insert_step {key : Int → Int} {d0 cur : Nat → Int} {a b i j : Nat} (hM : St.Merged key d0 cur a i) (hai : a < i) (hib : i < b) (hasc : ∀ x y, a ≤ x → x < y → y < b → d0 x < d0 y)
    (h1 : a ≤ j) (h2 : j ≤ i) (hl : j = a ∨ key (cur (j - 1)) ≤ key (cur i)) (hr : j = i ∨ key (cur i) < key (cur j)) : St.Merged key d0 (St.rotF cur j i (i + 1)) a (i + 1) := by
  have H : St.Halves key cur a i (i + 1) := ⟨Nat.le_of_lt hai, Nat.le_succ i, hM.2.2, St.up_one cur i, fun x y x1 x2 y1 y2 => by
    obtain rfl : y = i := by omega
    obtain ⟨z, z1, z2, z3⟩ := St.mem_merged hM x1 x2
    rw [← z3, hM.1 y (.inr (Nat.le_refl _))]
    exact hasc z y z1 z2 hib⟩
  obtain ⟨o1, p1, u1⟩ := St.insert_last H h1 h2 (hl.imp id Int.not_lt.2) hr
  refine ⟨fun x hx => ?_, p1.trans ?_, u1⟩
  · rw [o1 x hx, hM.1 x (by omega)]
  · rw [St.seg_append cur (Nat.le_of_lt hai) (Nat.le_succ i), St.seg_append d0 (Nat.le_of_lt hai) (Nat.le_succ i), St.seg_congr (d := cur) (d' := d0) (a := i) (b := i + 1) fun x x1 _ => hM.1 x (.inr x1)]
    exact List.Perm.append_right _ hM.2.1
/-- Two sorted parts, merged. -/
theorem St.two_halves {key : Int → Int} {d0 d1 d2 : Nat → Int} {a m b : Nat} (h1 : St.Merged key d0 d1 a m) (h2 : St.Merged key d1 d2 m b) (ham : a ≤ m) (hmb : m ≤ b) (hasc : ∀ x y, a ≤ x → x < y → y < b → d0 x < d0 y) : St.Halves key d2 a m b := by
  have e1 : St.seg d2 a m = St.seg d1 a m := St.seg_congr fun x _ x2 => h2.1 x (.inl x2)
  refine ⟨ham, hmb, e1 ▸ h1.2.2, h2.2.2, fun x y x1 x2 y1 y2 => ?_⟩
  rw [h2.1 x (.inl x2)]
  obtain ⟨z, z1, z2, z3⟩ := St.mem_merged h1 x1 x2
  obtain ⟨u, u1, u2, u3⟩ := St.mem_merged h2 y1 y2
  rw [← z3, ← u3, h1.1 u (.inr u1)]
  exact hasc z u z1 (by omega) u2
theorem St.two_merged {key : Int → Int} {d0 d1 d2 d3 : Nat → Int} {a m b : Nat} (h1 : St.Merged key d0 d1 a m) (h2 : St.Merged key d1 d2 m b) (h3 : St.Merged key d2 d3 a b) (ham : a ≤ m) (hmb : m ≤ b) : St.Merged key d0 d3 a b := by
  refine ⟨fun x hx => by rw [h3.1 x hx, h2.1 x (by omega), h1.1 x (by omega)], h3.2.1.trans ?_, h3.2.2⟩
  rw [St.seg_append d2 ham hmb, St.seg_append d0 ham hmb, St.seg_congr (d := d2) (d' := d1) (a := a) (b := m) fun x _ x2 => h2.1 x (.inl x2)]
  refine List.Perm.append h1.2.1 (h2.2.1.trans ?_)
  rw [St.seg_congr (d := d1) (d' := d0) (a := m) (b := b) fun x x1 _ => h1.1 x (.inr x1)]

set_option maxRecDepth 100000 in
set_option maxHeartbeats 8000000 in
theorem insertion_nil (w W : World) (g sz n c a : Nat) (d : Nat → Int) (fv : Value) (hS : SR w W g sz n d) (hn : n ≤ 1000000) (ha : a ≤ n) :
    Calls Tryz.prog 139 #[.slice (some ⟨g, 0, none⟩) n c, .int .i64 a, .int .i64 a, fv] W fun e w' => e = .returned (.tuple #[]) ∧ SR w w' g sz n d := by
  have HS := Lib.hid hS
  have q1 : IntKind.i64.wrap ((a : Int) + 1) = (a : Int) + 1 := IntWalk.i64_in _ (by omega)
  have f1 : decide ((a : Int) + 1 < (a : Int)) = false := decide_eq_false (by omega)
  clear hS
  go_enter Tryz.func139, Tryz.ntmps139
  go_wp2
  refine wp_loop_rounds 1 ?_
  rw [rounds_succ]
  go_wp2
  go_end0
  exact ⟨rfl, HS.out⟩

set_option maxRecDepth 100000 in
set_option maxHeartbeats 8000000 in
theorem insertion_some (w W : World) (g sz n c a b : Nat) (d0 : Nat → Int) (key : Int → Int) (cb : Value) (HC0 : CmpOK w g key cb) (hS : SR w W g sz n d0) (hsz : n ≤ sz) (hn : n ≤ 1000000) (hO : OkRow d0 n) (hab : a < b) (hb : b ≤ n)
    (hasc : ∀ x y, a ≤ x → x < y → y < b → d0 x < d0 y) :
    Calls Tryz.prog 139 #[.slice (some ⟨g, 0, none⟩) n c, .int .i64 a, .int .i64 b, .func (.func 98) #[] #[cb]] W fun e w' => e = .returned (.tuple #[]) ∧ ∃ d', SR w w' g sz n d' ∧ St.Merged key d0 d' a b := by
  have eg := enters_of Tryz.func98 (by kernel_rfl) rfl
  unfold Enters at eg
  have HC := Lib.hid HC0
  have HS := Lib.hid hS
  have HO := Lib.hid hO
  have HA := Lib.hid hasc
  have q0 : IntKind.i64.wrap ((a : Int) + 1) = (a : Int) + 1 := IntWalk.i64_in _ (by omega)
  clear HC0 hS hO hasc
  go_enter Tryz.func139, Tryz.ntmps139
  go_wp2
  go_loopw [8] (fun v8 wx => ∃ (i : Nat) (cur : Nat → Int), a + 1 ≤ i ∧ i ≤ b ∧ v8 = .int .i64 i ∧ SR w wx g sz n cur ∧ St.Merged key d0 cur a i) (fun v8 _ => b - (intOf v8).toNat)
  case atStart => exact ⟨a + 1, d0, Nat.le_refl _, hab, by go_num, HS.out, St.merged_one d0 a⟩
  case round =>
    obtain ⟨i, cur, hai, hib, rfl, hR, hM⟩ := hrel
    have HM := Lib.hid hM
    have HRW := Lib.hid hR
    clear hR hM
    by_cases hlt : i < b
    · have f1 : decide ((i : Int) < (b : Int)) = true := by simp; omega
      have q1 : IntKind.i64.wrap ((i : Int) + 1) = (i : Int) + 1 := IntWalk.i64_in _ (by omega)
      have HOC := Lib.hid (HO.out.merged HM.out (by omega))
      have oi := HOC.out i (by omega)
      obtain ⟨v, hv⟩ : ∃ v, v = cur i := ⟨_, rfl⟩
      rw [← hv] at oi
      have Hv := Lib.hid hv
      clear hv
      go_wp2
      go_loopw [9] (fun v9 wx => ∃ j : Nat, a ≤ j ∧ j ≤ i ∧ v9 = .int .i64 j ∧ (j = i ∨ key v < key (cur j)) ∧ SR w wx g sz n (St.rotF cur j i (i + 1))) (fun v9 _ => (intOf v9).toNat - a)
      case atStart => exact ⟨i, by omega, Nat.le_refl _, rfl, .inl rfl, by rw [St.rotF_left]; exact HRW.out⟩
      case round =>
        obtain ⟨j, haj, hji, rfl, hr, hR⟩ := hrel
        have HR := Lib.hid hr
        have HRR := Lib.hid hR
        clear hr
        by_cases hja : a < j
        · have f2 : decide ((j : Int) > (a : Int)) = true := by simp; omega
          have f2' : decide ((a : Int) < (j : Int)) = true := by simp; omega
          obtain ⟨p, hp⟩ : ∃ p, p = j - 1 := ⟨_, rfl⟩
          have ep : (j : Int) - 1 = (p : Int) := by omega
          have qp : IntKind.i64.wrap (p : Int) = (p : Int) := IntWalk.i64_in _ (by omega)
          have gx : (j : Int) < (n : Int) := by omega
          have gp : (p : Int) < (n : Int) := by omega
          have gx0 : (0 : Int) ≤ (j : Int) := by omega
          have gp0 : (0 : Int) ≤ (p : Int) := by omega
          have ej : St.rotF cur j i (i + 1) j = v := by
            rw [Hv.out]
            unfold St.rotF
            rw [if_pos (by omega)]; congr 1; omega
          have eu : St.rotF cur j i (i + 1) p = cur p := St.rotF_out hji (by omega) (.inl (by omega))
          have cx := hR.cell (k := j) (by omega)
          have cp := hR.cell (k := p) (by omega)
          rw [ej] at cx
          rw [eu] at cp
          have fx := hR.1.frozen j
          have fp := hR.1.frozen p
          have hne : ¬ j = p := by omega
          have hne' : ¬ p = j := by omega
          have ou := HOC.out p (by omega)
          obtain ⟨u, hu⟩ : ∃ u, u = cur p := ⟨_, rfl⟩
          rw [← hu] at cp ou eu
          have hc := fun q => HC.out (wr.drewN q) (hR.drewN q).2 v u oi.1 oi.2 ou.1 ou.2
          have HN := Lib.hid (fun q : Nat => ((hR.drewN q).put hsz (k := j) (u := u) (d' := fun x => if x = j then u else St.rotF cur j i (i + 1) x) (fun x _ => rfl)).put hsz (k := p) (u := v) (d' := St.rotF cur p i (i + 1)) (fun x _ => by
            have h0 := St.rot_back_step cur (m := i) (k := p) (by omega) x
            rw [show p + 1 = j by omega, ej, eu] at h0
            exact h0.symm))
          obtain ⟨z, hz⟩ : ∃ z, z = cmpK key v u := ⟨_, rfl⟩
          have hzl : decide (z < 0) = decide (key v < key u) := by rw [hz]; exact cmpK_lt
          rw [← hz] at hc
          have HCC := Lib.hid hc
          have Hu := Lib.hid hu
          have Hp := Lib.hid hp
          have hpk : a ≤ p ∧ p ≤ i ∧ p < j := by omega
          by_cases hl : key v < key u
          · rw [decide_eq_true hl] at hzl
            have Hlt := Lib.hid hl
            clear hl hc hz hR hu hp ej eu oi ou
            go_wp2
            go_quiet (first | (go_at_call 98; exact Calls.quiet_of (HCC.out _)))
            go_wp2
            go_region
            go_wp2
            go_roundw
            case rel => exact ⟨p, hpk.1, hpk.2.1, rfl, .inr (by rw [← Hu.out]; exact Hlt.out), HN.out _⟩
            case measure => simp [intOf] <;> omega
          · rw [decide_eq_false hl] at hzl
            have Hlt := Lib.hid (Int.not_lt.1 hl)
            have hnext := St.insert_step HM.out (by omega) hlt HA.out haj hji (.inr (by rw [← Hp.out, ← Hu.out, ← Hv.out]; exact Hlt.out)) (by rw [← Hv.out]; exact HR.out)
            have Hnext := Lib.hid hnext
            clear hl hc hz hR hu hp ej eu oi ou hnext
            go_wp2
            go_quiet (first | (go_at_call 98; exact Calls.quiet_of (HCC.out _)))
            go_wp2
            go_roundw
            case rel => exact ⟨i + 1, _, by omega, by omega, by go_num, HRR.out.drewN _, Hnext.out⟩
            case measure => simp [intOf] <;> omega
        · obtain rfl : j = a := by omega
          have f2 : decide ((j : Int) > (j : Int)) = false := by simp
          have f2' : decide ((j : Int) < (j : Int)) = false := by simp
          have hnext := St.insert_step HM.out (by omega) hlt HA.out haj hji (.inl rfl) (by rw [← Hv.out]; exact HR.out)
          have Hnext := Lib.hid hnext
          clear hR hnext oi
          go_wp2
          go_quiet (fail)
          go_wp2
          go_roundw
          case rel => exact ⟨i + 1, _, by omega, by omega, by go_num, HRR.out.drewN _, Hnext.out⟩
          case measure => simp [intOf] <;> omega
    · obtain rfl : i = b := by omega
      have f1 : decide ((i : Int) < (i : Int)) = false := by simp
      go_wp2
      go_end0
      exact ⟨rfl, cur, HRW.out, HM.out⟩

theorem insertion_any (w W : World) (g sz n c a b : Nat) (d0 : Nat → Int) (key : Int → Int) (cb : Value) (HC0 : CmpOK w g key cb) (hS : SR w W g sz n d0) (hsz : n ≤ sz) (hn : n ≤ 1000000) (hO : OkRow d0 n) (hab : a ≤ b) (hb : b ≤ n)
    (hasc : ∀ x y, a ≤ x → x < y → y < b → d0 x < d0 y) :
    Calls Tryz.prog 139 #[.slice (some ⟨g, 0, none⟩) n c, .int .i64 a, .int .i64 b, .func (.func 98) #[] #[cb]] W fun e w' => e = .returned (.tuple #[]) ∧ ∃ d', SR w w' g sz n d' ∧ St.Merged key d0 d' a b := by
  rcases Nat.eq_or_lt_of_le hab with h | h
  · subst h
    exact (insertion_nil w W g sz n c a d0 _ hS hn hb).mono fun e w' h => ⟨h.1, d0, h.2, St.merged_nil d0 (Nat.le_refl _)⟩
  · exact insertion_some w W g sz n c a b d0 key cb HC0 hS hsz hn hO h hb hasc

set_option maxRecDepth 100000 in
set_option maxHeartbeats 8000000 in
theorem stable_a (w W : World) (g sz n c : Nat) (d0 : Nat → Int) (key : Int → Int) (cb : Value) (HC0 : CmpOK w g key cb) (hS : SR w W g sz n d0) (hsz : n ≤ sz) (h20 : n < 20) (hO : OkRow d0 n) (hasc : ∀ x y, x < y → y < n → d0 x < d0 y) :
    Calls Tryz.prog 122 #[.slice (some ⟨g, 0, none⟩) n c, .int .i64 n, .func (.func 98) #[] #[cb]] W fun e w' => e = .returned (.tuple #[]) ∧ ∃ d', SR w w' g sz n d' ∧ St.Merged key d0 d' 0 n := by
  have H1 : Hid (Calls Tryz.prog 139 #[.slice (some ⟨g, 0, none⟩) n c, .int .i64 0, .int .i64 n, .func (.func 98) #[] #[cb]] W fun e w' => e = .returned (.tuple #[]) ∧ ∃ d', SR w w' g sz n d' ∧ St.Merged key d0 d' 0 n) :=
    Lib.hid (insertion_any w W g sz n c 0 n d0 key cb HC0 hS hsz (by omega) hO (by omega) (Nat.le_refl _) (fun x y _ h1 h2 => hasc x y h1 h2))
  have f1 : decide ((20 : Int) ≤ (n : Int)) = false := by simp; omega
  have f2 : decide ((20 : Int) < (n : Int)) = false := by simp; omega
  have k1 : ¬ 20 ≤ n := by omega
  have k2 : ¬ 20 < n := by omega
  clear HC0 hS hO hasc
  go_enter Tryz.func122, Tryz.ntmps122
  go_wp2
  refine wp_loop_rounds 1 ?_
  rw [rounds_succ]
  go_wp2_with (go_at_call 139; refine H1.out.mono ?_; rintro e w1 ⟨rfl, d1, hS1, hM1⟩)
  refine wp_loop_rounds 1 ?_
  rw [rounds_succ]
  go_wp2
  go_end0
  exact ⟨rfl, d1, hS1, hM1⟩

set_option maxRecDepth 100000 in
set_option maxHeartbeats 8000000 in
theorem stable_b (w W : World) (g sz n c : Nat) (d0 : Nat → Int) (key : Int → Int) (cb : Value) (HC0 : CmpOK w g key cb) (hS : SR w W g sz n d0) (hsz : n ≤ sz) (h20 : 20 ≤ n) (h40 : n < 40) (hO : OkRow d0 n) (hasc : ∀ x y, x < y → y < n → d0 x < d0 y) :
    Calls Tryz.prog 122 #[.slice (some ⟨g, 0, none⟩) n c, .int .i64 n, .func (.func 98) #[] #[cb]] W fun e w' => e = .returned (.tuple #[]) ∧ ∃ d', SR w w' g sz n d' ∧ St.Merged key d0 d' 0 n := by
  have H1 : Hid (Calls Tryz.prog 139 #[.slice (some ⟨g, 0, none⟩) n c, .int .i64 0, .int .i64 20, .func (.func 98) #[] #[cb]] W fun e w' => e = .returned (.tuple #[]) ∧ ∃ d', SR w w' g sz n d' ∧ St.Merged key d0 d' 0 20) :=
    Lib.hid (insertion_any w W g sz n c 0 20 d0 key cb HC0 hS hsz (by omega) hO (by omega) h20 (fun x y _ h1 h2 => hasc x y h1 (by omega)))
  have H2 : Hid (∀ (d1 : Nat → Int) (W1 : World), St.Merged key d0 d1 0 20 → SR w W1 g sz n d1 → Calls Tryz.prog 139 #[.slice (some ⟨g, 0, none⟩) n c, .int .i64 20, .int .i64 n, .func (.func 98) #[] #[cb]] W1 fun e w' => e = .returned (.tuple #[]) ∧ ∃ d', SR w w' g sz n d' ∧ St.Merged key d1 d' 20 n) :=
    Lib.hid (fun d1 W1 hM hS1 => insertion_any w W1 g sz n c 20 n d1 key cb HC0 hS1 hsz (by omega) (hO.merged hM h20) h20 (Nat.le_refl _) (fun x y h0 h1 h2 => by rw [hM.1 x (.inr h0), hM.1 y (.inr (by omega))]; exact hasc x y h1 h2))
  have H3 : Hid (20 < n → ∀ (d1 d2 : Nat → Int) (W1 : World), St.Merged key d0 d1 0 20 → St.Merged key d1 d2 20 n → SR w W1 g sz n d2 → Calls Tryz.prog 140 #[.slice (some ⟨g, 0, none⟩) n c, .int .i64 0, .int .i64 20, .int .i64 n, .func (.func 98) #[] #[cb]] W1 fun e w' => e = .returned (.tuple #[]) ∧ ∃ d', SR w w' g sz n d' ∧ St.Merged key d2 d' 0 n) :=
    Lib.hid (fun hlt d1 d2 W1 hM1 hM2 hS2 => symMerge_any w g sz n c key cb HC0 hsz (by omega) 41 0 20 n d2 W1 (by omega) hS2 ((hO.merged hM1 h20).merged hM2 (Nat.le_refl _)) (St.two_halves hM1 hM2 (by omega) h20 (fun x y _ h1 h2 => hasc x y h1 h2)) (by omega) hlt (Nat.le_refl _))
  have f1 : decide ((20 : Int) ≤ (n : Int)) = true := by simp; omega
  have f3 : decide ((40 : Int) ≤ (n : Int)) = false := by simp; omega
  have f4 : decide ((40 : Int) < (n : Int)) = false := by simp; omega
  have k1 : 20 ≤ n := h20
  have k3 : ¬ 40 ≤ n := by omega
  have k4 : ¬ 40 < n := by omega
  clear HC0 hS hO hasc
  by_cases hlt : 20 < n
  · have f2 : decide ((20 : Int) < (n : Int)) = true := by simp; omega
    go_enter Tryz.func122, Tryz.ntmps122
    go_wp2
    refine wp_loop_rounds 2 ?_
    rw [rounds_succ]
    go_wp2_with (go_at_call 139; refine H1.out.mono ?_; rintro e w1 ⟨rfl, d1, hS1, hM1⟩)
    rw [rounds_succ]
    go_wp2_with (go_at_call 139; refine (H2.out _ _ hM1 hS1).mono ?_; rintro e w2 ⟨rfl, d2, hS2, hM2⟩)
    refine wp_loop_rounds 2 ?_
    rw [rounds_succ]
    go_wp2
    refine wp_loop_rounds 1 ?_
    rw [rounds_succ]
    go_wp2_with (go_at_call 140; refine (H3.out hlt _ _ _ hM1 hM2 hS2).mono ?_; rintro e w3 ⟨rfl, d3, hS3, hM3⟩)
    rw [rounds_succ]
    go_wp2
    go_end0
    exact ⟨rfl, d3, hS3, St.two_merged hM1 hM2 hM3 (by omega) h20⟩
  · have f2 : decide ((20 : Int) < (n : Int)) = false := by simp; omega
    go_enter Tryz.func122, Tryz.ntmps122
    go_wp2
    refine wp_loop_rounds 2 ?_
    rw [rounds_succ]
    go_wp2_with (go_at_call 139; refine H1.out.mono ?_; rintro e w1 ⟨rfl, d1, hS1, hM1⟩)
    rw [rounds_succ]
    go_wp2_with (go_at_call 139; refine (H2.out _ _ hM1 hS1).mono ?_; rintro e w2 ⟨rfl, d2, hS2, hM2⟩)
    refine wp_loop_rounds 1 ?_
    rw [rounds_succ]
    go_wp2
    go_end0
    have e : d2 = d1 := funext fun x => hM2.1 x (by omega)
    have en : n = 20 := by omega
    refine ⟨rfl, d2, hS2, ?_⟩
    rw [e, en]
    exact hM1

set_option maxRecDepth 100000 in
set_option maxHeartbeats 8000000 in
theorem stable_c (w W : World) (g sz c : Nat) (d0 : Nat → Int) (key : Int → Int) (cb : Value) (HC0 : CmpOK w g key cb) (hS : SR w W g sz 40 d0) (hsz : 40 ≤ sz) (hO : OkRow d0 40) (hasc : ∀ x y, x < y → y < 40 → d0 x < d0 y) :
    Calls Tryz.prog 122 #[.slice (some ⟨g, 0, none⟩) 40 c, .int .i64 40, .func (.func 98) #[] #[cb]] W fun e w' => e = .returned (.tuple #[]) ∧ ∃ d', SR w w' g sz 40 d' ∧ St.Merged key d0 d' 0 40 := by
  have H1 : Hid (Calls Tryz.prog 139 #[.slice (some ⟨g, 0, none⟩) 40 c, .int .i64 0, .int .i64 20, .func (.func 98) #[] #[cb]] W fun e w' => e = .returned (.tuple #[]) ∧ ∃ d', SR w w' g sz 40 d' ∧ St.Merged key d0 d' 0 20) :=
    Lib.hid (insertion_any w W g sz 40 c 0 20 d0 key cb HC0 hS hsz (by omega) hO (by omega) (by omega) (fun x y _ h1 h2 => hasc x y h1 (by omega)))
  have H2 : Hid (∀ (d1 : Nat → Int) (W1 : World), St.Merged key d0 d1 0 20 → SR w W1 g sz 40 d1 → Calls Tryz.prog 139 #[.slice (some ⟨g, 0, none⟩) 40 c, .int .i64 20, .int .i64 40, .func (.func 98) #[] #[cb]] W1 fun e w' => e = .returned (.tuple #[]) ∧ ∃ d', SR w w' g sz 40 d' ∧ St.Merged key d1 d' 20 40) :=
    Lib.hid (fun d1 W1 hM hS1 => insertion_any w W1 g sz 40 c 20 40 d1 key cb HC0 hS1 hsz (by omega) (hO.merged hM (by omega)) (by omega) (Nat.le_refl _) (fun x y h0 h1 h2 => by rw [hM.1 x (.inr h0), hM.1 y (.inr (by omega))]; exact hasc x y h1 h2))
  have H4 : Hid (∀ (d1 : Nat → Int) (W1 : World), SR w W1 g sz 40 d1 → Calls Tryz.prog 139 #[.slice (some ⟨g, 0, none⟩) 40 c, .int .i64 40, .int .i64 40, .func (.func 98) #[] #[cb]] W1 fun e w' => e = .returned (.tuple #[]) ∧ SR w w' g sz 40 d1) :=
    Lib.hid (fun d1 W1 hS1 => insertion_nil w W1 g sz 40 c 40 d1 _ hS1 (by omega) (Nat.le_refl _))
  have H3 : Hid (∀ (d1 d2 : Nat → Int) (W1 : World), St.Merged key d0 d1 0 20 → St.Merged key d1 d2 20 40 → SR w W1 g sz 40 d2 → Calls Tryz.prog 140 #[.slice (some ⟨g, 0, none⟩) 40 c, .int .i64 0, .int .i64 20, .int .i64 40, .func (.func 98) #[] #[cb]] W1 fun e w' => e = .returned (.tuple #[]) ∧ ∃ d', SR w w' g sz 40 d' ∧ St.Merged key d2 d' 0 40) :=
    Lib.hid (fun d1 d2 W1 hM1 hM2 hS2 => symMerge_any w g sz 40 c key cb HC0 hsz (by omega) 41 0 20 40 d2 W1 (by omega) hS2 ((hO.merged hM1 (by omega)).merged hM2 (Nat.le_refl _)) (St.two_halves hM1 hM2 (by omega) (by omega) (fun x y _ h1 h2 => hasc x y h1 h2)) (by omega) (by omega) (Nat.le_refl _))
  clear HC0 hS hO hasc
  go_enter Tryz.func122, Tryz.ntmps122
  go_wp2
  refine wp_loop_rounds 3 ?_
  rw [rounds_succ]
  go_wp2_with (go_at_call 139; refine H1.out.mono ?_; rintro e w1 ⟨rfl, d1, hS1, hM1⟩)
  rw [rounds_succ]
  go_wp2_with (go_at_call 139; refine (H2.out _ _ hM1 hS1).mono ?_; rintro e w2 ⟨rfl, d2, hS2, hM2⟩)
  rw [rounds_succ]
  go_wp2_with (go_at_call 139; refine (H4.out _ _ hS2).mono ?_; rintro e w3 ⟨rfl, hS3⟩)
  refine wp_loop_rounds 2 ?_
  rw [rounds_succ]
  go_wp2
  refine wp_loop_rounds 2 ?_
  rw [rounds_succ]
  go_wp2_with (go_at_call 140; refine (H3.out _ _ _ hM1 hM2 hS3).mono ?_; rintro e w4 ⟨rfl, d4, hS4, hM4⟩)
  rw [rounds_succ]
  go_wp2
  rw [rounds_succ]
  go_wp2
  go_end0
  exact ⟨rfl, d4, hS4, St.two_merged hM1 hM2 hM4 (by omega) (by omega)⟩

theorem stable_any (w W : World) (g sz n c : Nat) (d0 : Nat → Int) (key : Int → Int) (cb : Value) (HC0 : CmpOK w g key cb) (hS : SR w W g sz n d0) (hsz : n ≤ sz) (h40 : n ≤ 40) (hO : OkRow d0 n) (hasc : ∀ x y, x < y → y < n → d0 x < d0 y) :
    Calls Tryz.prog 122 #[.slice (some ⟨g, 0, none⟩) n c, .int .i64 n, .func (.func 98) #[] #[cb]] W fun e w' => e = .returned (.tuple #[]) ∧ ∃ d', SR w w' g sz n d' ∧ St.Merged key d0 d' 0 n := by
  by_cases h1 : n < 20
  · exact stable_a w W g sz n c d0 key cb HC0 hS hsz h1 hO hasc
  · by_cases h2 : n < 40
    · exact stable_b w W g sz n c d0 key cb HC0 hS hsz (by omega) h2 hO hasc
    · obtain rfl : n = 40 := by omega
      exact stable_c w W g sz c d0 key cb HC0 hS hsz hO hasc
set_option maxRecDepth 100000 in
set_option maxHeartbeats 2000000 in
/-- The library's stable sort of at most 40 numbers by a key. -/
theorem sortStable_any (w W : World) (g sz n c : Nat) (d0 : Nat → Int) (key : Int → Int) (cb : Value) (HC0 : CmpOK w g key cb) (hS : SR w W g sz n d0) (hsz : n ≤ sz) (h40 : n ≤ 40) (hO : OkRow d0 n) (hasc : ∀ x y, x < y → y < n → d0 x < d0 y) :
    Calls Tryz.prog 97 #[.slice (some ⟨g, 0, none⟩) n c, .func (.func 98) #[] #[cb]] W fun e w' => e = .returned (.tuple #[]) ∧ ∃ d', SR w w' g sz n d' ∧ St.Merged key d0 d' 0 n := by
  have HT := Lib.hid (stable_any w W g sz n c d0 key cb HC0 hS hsz h40 hO hasc)
  clear HC0 hS hO hasc
  go_enter Tryz.func97, Tryz.ntmps97
  go_wp2_with (go_at_call 122; refine HT.out.mono ?_; rintro e w1 ⟨rfl, d1, hS1, hM1⟩)
  go_end0
  exact ⟨rfl, d1, hS1, hM1⟩
end Go.Proofs.YtgcddjgkieambaaGreatDoor
