/- 'sameNote' at any two notes. -/
import Derived.Test.YtlamogpdkmbeoaaGreatDoorZbMerA
set_option linter.unusedVariables false
set_option linter.unusedSimpArgs false
set_option maxRecDepth 100000
namespace Go.Proofs.YtlamogpdkmbeoaaGreatDoor
open Go.RowKit Go.Lib Go.Shelf Go.Maps

set_option maxHeartbeats 16000000 in
theorem sameNote_any (x y : Note) (w : World) (hx : x.At w) (hy : y.At w) :
    Calls Tryz.prog 79 #[x.nt.val, y.nt.val] w fun e w' => Said (SameN x y) e ∧ Below w.heap.size w w' := by
  obtain ⟨⟨ju1, nu1, ck1, kd1, ca1, ve1, ⟨lc1, lg1, lp1, ll1, vj1, vl1⟩, aC1, aN1, bC1, bN1, rJ1, rN1, ha1, pv1⟩, js1, ls1⟩ := x
  obtain ⟨⟨ju2, nu2, ck2, kd2, ca2, ve2, ⟨lc2, lg2, lp2, ll2, vj2, vl2⟩, aC2, aN2, bC2, bN2, rJ2, rN2, ha2, pv2⟩, js2, ls2⟩ := y
  obtain ⟨hx1, hx2, _⟩ := hx
  obtain ⟨hy1, hy2, _⟩ := hy
  dsimp only at hx1 hx2 hy1 hy2
  obtain ⟨A1, k1, rfl⟩ := hx1.len
  obtain ⟨A2, k2, rfl⟩ := hy1.len
  obtain ⟨B1, m1, rfl⟩ := hx2.len
  obtain ⟨B2, m2, rfl⟩ := hy2.len
  have h1 := fun W => numbers_any ju1 nu1 ck1 kd1 ca1 ve1 lc1 lg1 lp1 ll1 A1 js1.length k1 B1 ls1.length m1 aC1 aN1 bC1 bN1 rJ1 rN1 ha1 pv1 W
  have h2 := fun W => numbers_any ju2 nu2 ck2 kd2 ca2 ve2 lc2 lg2 lp2 ll2 A2 js2.length k2 B2 ls2.length m2 aC2 aN2 bC2 bN2 rJ2 rN2 ha2 pv2 W
  have H3 : Hid (∀ W, Below w.heap.size w W → Calls Tryz.prog 122 #[.agg #[.string lc1, .int .i64 lg1, .int .i64 lp1, .int .i64 ll1, .slice A1 js1.length k1, .slice B1 ls1.length m1], .agg #[.string lc2, .int .i64 lg2, .int .i64 lp2, .int .i64 ll2, .slice A2 js2.length k2, .slice B2 ls2.length m2]] W fun e w' => Said (SameL ⟨lc1, lg1, lp1, ll1, .slice A1 js1.length k1, .slice B1 ls1.length m1⟩ ⟨lc2, lg2, lp2, ll2, .slice A2 js2.length k2, .slice B2 ls2.length m2⟩ js1 js2 ls1 ls2) e ∧ Below W.heap.size W w') := Lib.hid fun W hW => lSame_any ⟨lc1, lg1, lp1, ll1, .slice A1 js1.length k1, .slice B1 ls1.length m1⟩ ⟨lc2, lg2, lp2, ll2, .slice A2 js2.length k2, .slice B2 ls2.length m2⟩ js1 js2 ls1 ls2 W (hx1.later hW) (hy1.later hW) (hx2.later hW) (hy2.later hW)
  have q1 : ∀ w, (binOp .eql 202 (.agg #[.int .i64 ju1, .int .i64 nu1, .int .i64 ck1, .int .i64 kd1, .int .i64 ve1, .int .i64 ha1, .int .i64 pv1]) (.agg #[.int .i64 ju2, .int .i64 nu2, .int .i64 ck2, .int .i64 kd2, .int .i64 ve2, .int .i64 ha2, .int .i64 pv2])).run Tryz.prog w = .ok (.bool (ju1 == ju2 && nu1 == nu2 && ck1 == ck2 && kd1 == kd2 && ve1 == ve2 && ha1 == ha2 && pv1 == pv2)) w := fun w => eqSeven _ _ _ _ _ _ _ _ _ _ _ _ _ _ w
  have q3 := fun w => eqMark aC1 aC2 aN1 aN2 w
  have q4 := fun w => eqMark bC1 bC2 bN1 bN2 w
  have q5 := fun w => eqName rJ1 rN1 rJ2 rN2 w
  clear hx1 hx2 hy1 hy2
  obtain ⟨P, hP⟩ : ∃ P, P = SameN ⟨⟨ju1, nu1, ck1, kd1, ca1, ve1, ⟨lc1, lg1, lp1, ll1, .slice A1 js1.length k1, .slice B1 ls1.length m1⟩, aC1, aN1, bC1, bN1, rJ1, rN1, ha1, pv1⟩, js1, ls1⟩ ⟨⟨ju2, nu2, ck2, kd2, ca2, ve2, ⟨lc2, lg2, lp2, ll2, .slice A2 js2.length k2, .slice B2 ls2.length m2⟩, aC2, aN2, bC2, bN2, rJ2, rN2, ha2, pv2⟩, js2, ls2⟩ := ⟨_, rfl⟩
  rw [← hP]
  have HA : Hid ((ju1 == ju2 && nu1 == nu2 && ck1 == ck2 && kd1 == kd2 && ve1 == ve2 && ha1 == ha2 && pv1 == pv2) = true → (ca1.toList == ca2.toList) = true → (aC1.toList == aC2.toList && aN1 == aN2) = true → (bC1.toList == bC2.toList && bN1 == bN2) = true → (rJ1 == rJ2 && rN1 == rN2) = true → SameL ⟨lc1, lg1, lp1, ll1, .slice A1 js1.length k1, .slice B1 ls1.length m1⟩ ⟨lc2, lg2, lp2, ll2, .slice A2 js2.length k2, .slice B2 ls2.length m2⟩ js1 js2 ls1 ls2 → P) := Lib.hid (by
    intro a1 a2 a3 a4 a5 a6
    rw [hP]
    simp only [Bool.and_eq_true, beq_iff_eq] at a1 a3 a4 a5
    obtain ⟨⟨⟨⟨⟨⟨s1, s2⟩, s3⟩, s4⟩, s5⟩, s6⟩, s7⟩ := a1
    exact ⟨s1, s2, s3, s4, toList_inj a2, s5, ⟨toList_inj (by simp [a3.1]), a3.2⟩, ⟨toList_inj (by simp [a4.1]), a4.2⟩, a5, s6, s7, a6⟩)
  have HB1 : Hid (P → (ju1 == ju2 && nu1 == nu2 && ck1 == ck2 && kd1 == kd2 && ve1 == ve2 && ha1 == ha2 && pv1 == pv2) = true) := Lib.hid (fun h => by rw [hP] at h; have := h.judge; have := h.num; have := h.clock; have := h.kind; have := h.version; have := h.hash; have := h.prev; simp_all)
  have HB2 : Hid (P → (ca1.toList == ca2.toList) = true) := Lib.hid (fun h => by rw [hP] at h; have e : ca1 = ca2 := h.call; rw [e]; exact beq_self_eq_true _)
  have HB3 : Hid (P → (aC1.toList == aC2.toList && aN1 == aN2) = true) := Lib.hid (fun h => by rw [hP] at h; have e : aC1 = aC2 := h.a.1; have e2 : aN1 = aN2 := h.a.2; rw [e, e2]; simp)
  have HB4 : Hid (P → (bC1.toList == bC2.toList && bN1 == bN2) = true) := Lib.hid (fun h => by rw [hP] at h; have e : bC1 = bC2 := h.b.1; have e2 : bN1 = bN2 := h.b.2; rw [e, e2]; simp)
  have HB5 : Hid (P → (rJ1 == rJ2 && rN1 == rN2) = true) := Lib.hid (fun h => by rw [hP] at h; have e : rJ1 = rJ2 := h.ref.1; have e2 : rN1 = rN2 := h.ref.2; rw [e, e2]; simp)
  have HB6 : Hid (P → SameL ⟨lc1, lg1, lp1, ll1, .slice A1 js1.length k1, .slice B1 ls1.length m1⟩ ⟨lc2, lg2, lp2, ll2, .slice A2 js2.length k2, .slice B2 ls2.length m2⟩ js1 js2 ls1 ls2) := Lib.hid (fun h => by rw [hP] at h; exact h.log)
  clear hP
  generalize (ju1 == ju2 && nu1 == nu2 && ck1 == ck2 && kd1 == kd2 && ve1 == ve2 && ha1 == ha2 && pv1 == pv2) = z1 at q1 HA HB1
  generalize (aC1.toList == aC2.toList && aN1 == aN2) = z3 at q3 HA HB3
  generalize (bC1.toList == bC2.toList && bN1 == bN2) = z4 at q4 HA HB4
  generalize (rJ1 == rJ2 && rN1 == rN2) = z5 at q5 HA HB5
  obtain ⟨z2, hz2⟩ : ∃ z2, z2 = (ca1.toList == ca2.toList) := ⟨_, rfl⟩
  rw [← hz2] at HA HB2
  have HC2 := Lib.hid hz2
  clear hz2
  have gM : Tryz.prog.eqGuardType Tryz.prog.depth 44 = false := by kernel_rfl
  have gN : Tryz.prog.eqGuardType Tryz.prog.depth 37 = false := by kernel_rfl
  have gS : Tryz.prog.eqGuardType Tryz.prog.depth 202 = false := by kernel_rfl
  have U46 := Tryz.underlying46
  go_enter Tryz.func79, Tryz.ntmps79
  go_upto_region 2 with fail
  obtain ⟨W, hW⟩ : ∃ W, (w.alloc (.cells #[.int .i64 ju1, .int .i64 nu1, .int .i64 ck1, .int .i64 kd1, .string ca1, .int .i64 ve1, .string lc1, .int .i64 lg1, .int .i64 lp1, .int .i64 ll1, .slice A1 js1.length k1, .slice B1 ls1.length m1, .string aC1, .int .i64 aN1, .string bC1, .int .i64 bN1, .int .i64 rJ1, .int .i64 rN1, .int .i64 ha1, .int .i64 pv1] 46)).alloc (.cells #[.int .i64 ju2, .int .i64 nu2, .int .i64 ck2, .int .i64 kd2, .string ca2, .int .i64 ve2, .string lc2, .int .i64 lg2, .int .i64 lp2, .int .i64 ll2, .slice A2 js2.length k2, .slice B2 ls2.length m2, .string aC2, .int .i64 aN2, .string bC2, .int .i64 bN2, .int .i64 rJ2, .int .i64 rN2, .int .i64 ha2, .int .i64 pv2] 46) = W := ⟨_, rfl⟩
  have hA : Blk W w.heap.size 46 #[.int .i64 ju1, .int .i64 nu1, .int .i64 ck1, .int .i64 kd1, .string ca1, .int .i64 ve1, .string lc1, .int .i64 lg1, .int .i64 lp1, .int .i64 ll1, .slice A1 js1.length k1, .slice B1 ls1.length m1, .string aC1, .int .i64 aN1, .string bC1, .int .i64 bN1, .int .i64 rJ1, .int .i64 rN1, .int .i64 ha1, .int .i64 pv1] := by rw [← hW]; exact (Blk.new w _ _).alloc _
  have hB : Blk W (w.heap.size + 1) 46 #[.int .i64 ju2, .int .i64 nu2, .int .i64 ck2, .int .i64 kd2, .string ca2, .int .i64 ve2, .string lc2, .int .i64 lg2, .int .i64 lp2, .int .i64 ll2, .slice A2 js2.length k2, .slice B2 ls2.length m2, .string aC2, .int .i64 aN2, .string bC2, .int .i64 bN2, .int .i64 rJ2, .int .i64 rN2, .int .i64 ha2, .int .i64 pv2] := by rw [← hW]; have := Blk.new (w.alloc (.cells #[.int .i64 ju1, .int .i64 nu1, .int .i64 ck1, .int .i64 kd1, .string ca1, .int .i64 ve1, .string lc1, .int .i64 lg1, .int .i64 lp1, .int .i64 ll1, .slice A1 js1.length k1, .slice B1 ls1.length m1, .string aC1, .int .i64 aN1, .string bC1, .int .i64 bN1, .int .i64 rJ1, .int .i64 rN1, .int .i64 ha1, .int .i64 pv1] 46)) 46 #[.int .i64 ju2, .int .i64 nu2, .int .i64 ck2, .int .i64 kd2, .string ca2, .int .i64 ve2, .string lc2, .int .i64 lg2, .int .i64 lp2, .int .i64 ll2, .slice A2 js2.length k2, .slice B2 ls2.length m2, .string aC2, .int .i64 aN2, .string bC2, .int .i64 bN2, .int .i64 rJ2, .int .i64 rN2, .int .i64 ha2, .int .i64 pv2]; rwa [World.size_alloc] at this
  have hb : Below w.heap.size w W := by rw [← hW]; exact ((Below.refl _ w).alloc (Nat.le_refl _) _).alloc (by simp) _
  rw [hW]
  clear hW
  have HB := Lib.hid hb.drew
  clear hb
  cases z1
  · as_aux_lemma =>
      refine wp_region_held_drew (S := (fun w' => Blk w' w.heap.size 46 #[.int .i64 ju1, .int .i64 nu1, .int .i64 ck1, .int .i64 kd1, .string ca1, .int .i64 ve1, .string lc1, .int .i64 lg1, .int .i64 lp1, .int .i64 ll1, .slice A1 js1.length k1, .slice B1 ls1.length m1, .string aC1, .int .i64 aN1, .string bC1, .int .i64 bN1, .int .i64 rJ1, .int .i64 rN1, .int .i64 ha1, .int .i64 pv1] ∧ Blk w' (w.heap.size + 1) 46 #[.int .i64 ju2, .int .i64 nu2, .int .i64 ck2, .int .i64 kd2, .string ca2, .int .i64 ve2, .string lc2, .int .i64 lg2, .int .i64 lp2, .int .i64 ll2, .slice A2 js2.length k2, .slice B2 ls2.length m2, .string aC2, .int .i64 aN2, .string bC2, .int .i64 bN2, .int .i64 rJ2, .int .i64 rN2, .int .i64 ha2, .int .i64 pv2])) (by kernel_rfl) ?hS1 (fun hHeld => ?_)
      case hS1 => exact ⟨hA.drew, hB.drew⟩
      refine tk3 (i := 0) ?_; try simp only [Act.put, zq]
      refine tk4 (i := 1) (fun w9 hSw => hSw.1) ?_; try simp only [Act.put, zq]
      refine tk3 (i := 3) ?_; try simp only [Act.put, zq]
      refine tk4 (i := 4) (fun w9 hSw => hSw.2) ?_; try simp only [Act.put, zq]
      refine wpAnyH_ready (rs := [2]) (by kernel_rfl) (by simp) ?_
      refine AllReadyH.cons rfl (fun K hK => ?_) AllReadyH.nil
      go_simp
      (go_at_call 121; ((with_reducible refine (h1 _).mono ?_); rintro e w1 ⟨rfl, hx1⟩); have hA1 := hA.drew.later hx1; have hB1 := hB.drew.later hx1; have hb1 : Below w.heap.size w w1 := HB.out.trans (hx1.mono HB.out.size))
      go_wp2_with fail
      refine hK.out _ _ ?hS1_5 (fun hHeld => ?_)
      case hS1_5 => ((try dsimp only); exact ⟨hA1, hB1⟩)
      clear hK K
      (try simp only [Act.put, zq])
      refine wpAnyH_ready (rs := [5]) (by kernel_rfl) (by simp) ?_
      refine AllReadyH.cons rfl (fun K hK => ?_) AllReadyH.nil
      go_simp
      (go_at_call 121; ((with_reducible refine (h2 _).mono ?_); rintro e w2 ⟨rfl, hx2⟩); have hA2 := hA1.later hx2; have hB2 := hB1.later hx2; have hb2 : Below w.heap.size w w2 := hb1.trans (hx2.mono hb1.size))
      go_wp2_with fail
      refine hK.out _ _ ?hS1_6 (fun hHeld => ?_)
      case hS1_6 => ((try dsimp only); exact ⟨hA2, hB2⟩)
      clear hK K
      (try simp only [Act.put, zq])
      refine tk3 (i := 6) ?_; try simp only [Act.put, zq]
      refine tk3 (i := 7) ?_; try simp only [Act.put, zq]
      refine tk2 (i := 8) ?_; try simp only [Act.put, zq]
      refine tk2 (i := 9) ?_; try simp only [Act.put, zq]
      refine tk2 (i := 10) ?_; try simp only [Act.put, zq]
      refine tk2 (i := 11) ?_; try simp only [Act.put, zq]
      refine tk2 (i := 12) ?_; try simp only [Act.put, zq]
      refine tk3 (i := 13) ?_; try simp only [Act.put, zq]
      refine tk3 (i := 14) ?_; try simp only [Act.put, zq]
      refine tk2 (i := 15) ?_; try simp only [Act.put, zq]
      refine tk2 (i := 16) ?_; try simp only [Act.put, zq]
      refine tk2 (i := 17) ?_; try simp only [Act.put, zq]
      refine tk2 (i := 18) ?_; try simp only [Act.put, zq]
      refine tk2 (i := 19) ?_; try simp only [Act.put, zq]
      refine tk3 (i := 20) ?_; try simp only [Act.put, zq]
      refine tk3 (i := 21) ?_; try simp only [Act.put, zq]
      refine tk2 (i := 22) ?_; try simp only [Act.put, zq]
      refine tk2 (i := 23) ?_; try simp only [Act.put, zq]
      refine tk2 (i := 24) ?_; try simp only [Act.put, zq]
      refine tk2 (i := 25) ?_; try simp only [Act.put, zq]
      refine tk2 (i := 26) ?_; try simp only [Act.put, zq]
      refine tk3 (i := 27) ?_; try simp only [Act.put, zq]
      refine tk3 (i := 28) ?_; try simp only [Act.put, zq]
      refine tk2 (i := 29) ?_; try simp only [Act.put, zq]
      refine tk2 (i := 30) ?_; try simp only [Act.put, zq]
      refine tk2 (i := 31) ?_; try simp only [Act.put, zq]
      refine tk2 (i := 32) ?_; try simp only [Act.put, zq]
      refine tk2 (i := 33) ?_; try simp only [Act.put, zq]
      refine tk3 (i := 34) ?_; try simp only [Act.put, zq]
      refine tk3 (i := 35) ?_; try simp only [Act.put, zq]
      refine tk2 (i := 36) ?_; try simp only [Act.put, zq]
      refine tk2 (i := 37) ?_; try simp only [Act.put, zq]
      refine tk2 (i := 38) ?_; try simp only [Act.put, zq]
      refine tk2 (i := 39) ?_; try simp only [Act.put, zq]
      refine tk2 (i := 40) ?_; try simp only [Act.put, zq]
      refine tk3 (i := 41) ?_; try simp only [Act.put, zq]
      refine tk3 (i := 42) ?_; try simp only [Act.put, zq]
      refine wpAnyH_done (by kernel_rfl) ?_ _
      go_wp2
      go_ret
      exact ⟨⟨_, rfl, ⟨fun h => (by cases h), fun h => absurd (HB1.out h) (by simp)⟩⟩, hb2⟩
  · cases z2
    · have hce2 := HC2.out.symm
      have hce : ¬ ca1.toList = ca2.toList := fun e => by rw [e] at hce2; simp at hce2
      as_aux_lemma =>
        refine wp_region_held_drew (S := (fun w' => Blk w' w.heap.size 46 #[.int .i64 ju1, .int .i64 nu1, .int .i64 ck1, .int .i64 kd1, .string ca1, .int .i64 ve1, .string lc1, .int .i64 lg1, .int .i64 lp1, .int .i64 ll1, .slice A1 js1.length k1, .slice B1 ls1.length m1, .string aC1, .int .i64 aN1, .string bC1, .int .i64 bN1, .int .i64 rJ1, .int .i64 rN1, .int .i64 ha1, .int .i64 pv1] ∧ Blk w' (w.heap.size + 1) 46 #[.int .i64 ju2, .int .i64 nu2, .int .i64 ck2, .int .i64 kd2, .string ca2, .int .i64 ve2, .string lc2, .int .i64 lg2, .int .i64 lp2, .int .i64 ll2, .slice A2 js2.length k2, .slice B2 ls2.length m2, .string aC2, .int .i64 aN2, .string bC2, .int .i64 bN2, .int .i64 rJ2, .int .i64 rN2, .int .i64 ha2, .int .i64 pv2])) (by kernel_rfl) ?hS2 (fun hHeld => ?_)
        case hS2 => exact ⟨hA.drew, hB.drew⟩
        refine tk3 (i := 0) ?_; try simp only [Act.put, zq]
        refine tk4 (i := 1) (fun w9 hSw => hSw.1) ?_; try simp only [Act.put, zq]
        refine tk3 (i := 3) ?_; try simp only [Act.put, zq]
        refine tk4 (i := 4) (fun w9 hSw => hSw.2) ?_; try simp only [Act.put, zq]
        refine wpAnyH_ready (rs := [2]) (by kernel_rfl) (by simp) ?_
        refine AllReadyH.cons rfl (fun K hK => ?_) AllReadyH.nil
        go_simp
        (go_at_call 121; ((with_reducible refine (h1 _).mono ?_); rintro e w1 ⟨rfl, hx1⟩); have hA1 := hA.drew.later hx1; have hB1 := hB.drew.later hx1; have hb1 : Below w.heap.size w w1 := HB.out.trans (hx1.mono HB.out.size))
        go_wp2_with fail
        refine hK.out _ _ ?hS2_5 (fun hHeld => ?_)
        case hS2_5 => ((try dsimp only); exact ⟨hA1, hB1⟩)
        clear hK K
        (try simp only [Act.put, zq])
        refine wpAnyH_ready (rs := [5]) (by kernel_rfl) (by simp) ?_
        refine AllReadyH.cons rfl (fun K hK => ?_) AllReadyH.nil
        go_simp
        (go_at_call 121; ((with_reducible refine (h2 _).mono ?_); rintro e w2 ⟨rfl, hx2⟩); have hA2 := hA1.later hx2; have hB2 := hB1.later hx2; have hb2 : Below w.heap.size w w2 := hb1.trans (hx2.mono hb1.size))
        go_wp2_with fail
        refine hK.out _ _ ?hS2_6 (fun hHeld => ?_)
        case hS2_6 => ((try dsimp only); exact ⟨hA2, hB2⟩)
        clear hK K
        (try simp only [Act.put, zq])
        refine tk3 (i := 6) ?_; try simp only [Act.put, zq]
        refine tk3 (i := 7) ?_; try simp only [Act.put, zq]
        refine tk3 (i := 8) ?_; try simp only [Act.put, zq]
        refine tk1 (i := 9) (v := ?v2_10) ?hy2_10 ?_
        case hy2_10 => ((intro w9 hSw; have e0 : w9.cell? ⟨w.heap.size, 4, none⟩ = some (.string ca1) := hSw.1.cell 4; go_simp) <;> with_reducible rfl)
        (try simp only [Act.put, zq])
        refine tk3 (i := 10) ?_; try simp only [Act.put, zq]
        refine tk1 (i := 11) (v := ?v2_12) ?hy2_12 ?_
        case hy2_12 => ((intro w9 hSw; have e0 : w9.cell? ⟨(w.heap.size + 1), 4, none⟩ = some (.string ca2) := hSw.2.cell 4; go_simp) <;> with_reducible rfl)
        (try simp only [Act.put, zq])
        refine tk3 (i := 12) ?_; try simp only [Act.put, zq]
        refine tk3 (i := 13) ?_; try simp only [Act.put, zq]
        refine tk3 (i := 14) ?_; try simp only [Act.put, zq]
        refine tk2 (i := 15) ?_; try simp only [Act.put, zq]
        refine tk2 (i := 16) ?_; try simp only [Act.put, zq]
        refine tk2 (i := 17) ?_; try simp only [Act.put, zq]
        refine tk2 (i := 18) ?_; try simp only [Act.put, zq]
        refine tk2 (i := 19) ?_; try simp only [Act.put, zq]
        refine tk3 (i := 20) ?_; try simp only [Act.put, zq]
        refine tk3 (i := 21) ?_; try simp only [Act.put, zq]
        refine tk2 (i := 22) ?_; try simp only [Act.put, zq]
        refine tk2 (i := 23) ?_; try simp only [Act.put, zq]
        refine tk2 (i := 24) ?_; try simp only [Act.put, zq]
        refine tk2 (i := 25) ?_; try simp only [Act.put, zq]
        refine tk2 (i := 26) ?_; try simp only [Act.put, zq]
        refine tk3 (i := 27) ?_; try simp only [Act.put, zq]
        refine tk3 (i := 28) ?_; try simp only [Act.put, zq]
        refine tk2 (i := 29) ?_; try simp only [Act.put, zq]
        refine tk2 (i := 30) ?_; try simp only [Act.put, zq]
        refine tk2 (i := 31) ?_; try simp only [Act.put, zq]
        refine tk2 (i := 32) ?_; try simp only [Act.put, zq]
        refine tk2 (i := 33) ?_; try simp only [Act.put, zq]
        refine tk3 (i := 34) ?_; try simp only [Act.put, zq]
        refine tk3 (i := 35) ?_; try simp only [Act.put, zq]
        refine tk2 (i := 36) ?_; try simp only [Act.put, zq]
        refine tk2 (i := 37) ?_; try simp only [Act.put, zq]
        refine tk2 (i := 38) ?_; try simp only [Act.put, zq]
        refine tk2 (i := 39) ?_; try simp only [Act.put, zq]
        refine tk2 (i := 40) ?_; try simp only [Act.put, zq]
        refine tk3 (i := 41) ?_; try simp only [Act.put, zq]
        refine tk3 (i := 42) ?_; try simp only [Act.put, zq]
        refine wpAnyH_done (by kernel_rfl) ?_ _
        go_wp2
        go_ret
        exact ⟨⟨_, rfl, ⟨fun h => (by cases h), fun h => absurd (HB2.out h) (by simp)⟩⟩, hb2⟩
    · have hce2 := HC2.out.symm
      have hce : ca1.toList = ca2.toList := by simpa using hce2
      cases z3
      · as_aux_lemma =>
          refine wp_region_held_drew (S := (fun w' => Blk w' w.heap.size 46 #[.int .i64 ju1, .int .i64 nu1, .int .i64 ck1, .int .i64 kd1, .string ca1, .int .i64 ve1, .string lc1, .int .i64 lg1, .int .i64 lp1, .int .i64 ll1, .slice A1 js1.length k1, .slice B1 ls1.length m1, .string aC1, .int .i64 aN1, .string bC1, .int .i64 bN1, .int .i64 rJ1, .int .i64 rN1, .int .i64 ha1, .int .i64 pv1] ∧ Blk w' (w.heap.size + 1) 46 #[.int .i64 ju2, .int .i64 nu2, .int .i64 ck2, .int .i64 kd2, .string ca2, .int .i64 ve2, .string lc2, .int .i64 lg2, .int .i64 lp2, .int .i64 ll2, .slice A2 js2.length k2, .slice B2 ls2.length m2, .string aC2, .int .i64 aN2, .string bC2, .int .i64 bN2, .int .i64 rJ2, .int .i64 rN2, .int .i64 ha2, .int .i64 pv2])) (by kernel_rfl) ?hS3 (fun hHeld => ?_)
          case hS3 => exact ⟨hA.drew, hB.drew⟩
          refine tk3 (i := 0) ?_; try simp only [Act.put, zq]
          refine tk4 (i := 1) (fun w9 hSw => hSw.1) ?_; try simp only [Act.put, zq]
          refine tk3 (i := 3) ?_; try simp only [Act.put, zq]
          refine tk4 (i := 4) (fun w9 hSw => hSw.2) ?_; try simp only [Act.put, zq]
          refine wpAnyH_ready (rs := [2]) (by kernel_rfl) (by simp) ?_
          refine AllReadyH.cons rfl (fun K hK => ?_) AllReadyH.nil
          go_simp
          (go_at_call 121; ((with_reducible refine (h1 _).mono ?_); rintro e w1 ⟨rfl, hx1⟩); have hA1 := hA.drew.later hx1; have hB1 := hB.drew.later hx1; have hb1 : Below w.heap.size w w1 := HB.out.trans (hx1.mono HB.out.size))
          go_wp2_with fail
          refine hK.out _ _ ?hS3_5 (fun hHeld => ?_)
          case hS3_5 => ((try dsimp only); exact ⟨hA1, hB1⟩)
          clear hK K
          (try simp only [Act.put, zq])
          refine wpAnyH_ready (rs := [5]) (by kernel_rfl) (by simp) ?_
          refine AllReadyH.cons rfl (fun K hK => ?_) AllReadyH.nil
          go_simp
          (go_at_call 121; ((with_reducible refine (h2 _).mono ?_); rintro e w2 ⟨rfl, hx2⟩); have hA2 := hA1.later hx2; have hB2 := hB1.later hx2; have hb2 : Below w.heap.size w w2 := hb1.trans (hx2.mono hb1.size))
          go_wp2_with fail
          refine hK.out _ _ ?hS3_6 (fun hHeld => ?_)
          case hS3_6 => ((try dsimp only); exact ⟨hA2, hB2⟩)
          clear hK K
          (try simp only [Act.put, zq])
          refine tk3 (i := 6) ?_; try simp only [Act.put, zq]
          refine tk3 (i := 7) ?_; try simp only [Act.put, zq]
          refine tk3 (i := 8) ?_; try simp only [Act.put, zq]
          refine tk1 (i := 9) (v := ?v3_10) ?hy3_10 ?_
          case hy3_10 => ((intro w9 hSw; have e0 : w9.cell? ⟨w.heap.size, 4, none⟩ = some (.string ca1) := hSw.1.cell 4; go_simp) <;> with_reducible rfl)
          (try simp only [Act.put, zq])
          refine tk3 (i := 10) ?_; try simp only [Act.put, zq]
          refine tk1 (i := 11) (v := ?v3_12) ?hy3_12 ?_
          case hy3_12 => ((intro w9 hSw; have e0 : w9.cell? ⟨(w.heap.size + 1), 4, none⟩ = some (.string ca2) := hSw.2.cell 4; go_simp) <;> with_reducible rfl)
          (try simp only [Act.put, zq])
          refine tk3 (i := 12) ?_; try simp only [Act.put, zq]
          refine tk3 (i := 13) ?_; try simp only [Act.put, zq]
          refine tk3 (i := 14) ?_; try simp only [Act.put, zq]
          refine tk3 (i := 15) ?_; try simp only [Act.put, zq]
          refine tk1 (i := 16) (v := ?v3_17) ?hy3_17 ?_
          case hy3_17 => ((intro w9 hSw; have e0 : w9.cell? ⟨w.heap.size, 12, none⟩ = some (.string aC1) := hSw.1.cell 12; have e1 : w9.cell? ⟨w.heap.size, 13, none⟩ = some (.int .i64 aN1) := hSw.1.cell 13; go_simp) <;> with_reducible rfl)
          (try simp only [Act.put, zq])
          refine tk3 (i := 17) ?_; try simp only [Act.put, zq]
          refine tk1 (i := 18) (v := ?v3_19) ?hy3_19 ?_
          case hy3_19 => ((intro w9 hSw; have e0 : w9.cell? ⟨(w.heap.size + 1), 12, none⟩ = some (.string aC2) := hSw.2.cell 12; have e1 : w9.cell? ⟨(w.heap.size + 1), 13, none⟩ = some (.int .i64 aN2) := hSw.2.cell 13; go_simp) <;> with_reducible rfl)
          (try simp only [Act.put, zq])
          refine tk3 (i := 19) ?_; try simp only [Act.put, zq]
          refine tk3 (i := 20) ?_; try simp only [Act.put, zq]
          refine tk3 (i := 21) ?_; try simp only [Act.put, zq]
          refine tk2 (i := 22) ?_; try simp only [Act.put, zq]
          refine tk2 (i := 23) ?_; try simp only [Act.put, zq]
          refine tk2 (i := 24) ?_; try simp only [Act.put, zq]
          refine tk2 (i := 25) ?_; try simp only [Act.put, zq]
          refine tk2 (i := 26) ?_; try simp only [Act.put, zq]
          refine tk3 (i := 27) ?_; try simp only [Act.put, zq]
          refine tk3 (i := 28) ?_; try simp only [Act.put, zq]
          refine tk2 (i := 29) ?_; try simp only [Act.put, zq]
          refine tk2 (i := 30) ?_; try simp only [Act.put, zq]
          refine tk2 (i := 31) ?_; try simp only [Act.put, zq]
          refine tk2 (i := 32) ?_; try simp only [Act.put, zq]
          refine tk2 (i := 33) ?_; try simp only [Act.put, zq]
          refine tk3 (i := 34) ?_; try simp only [Act.put, zq]
          refine tk3 (i := 35) ?_; try simp only [Act.put, zq]
          refine tk2 (i := 36) ?_; try simp only [Act.put, zq]
          refine tk2 (i := 37) ?_; try simp only [Act.put, zq]
          refine tk2 (i := 38) ?_; try simp only [Act.put, zq]
          refine tk2 (i := 39) ?_; try simp only [Act.put, zq]
          refine tk2 (i := 40) ?_; try simp only [Act.put, zq]
          refine tk3 (i := 41) ?_; try simp only [Act.put, zq]
          refine tk3 (i := 42) ?_; try simp only [Act.put, zq]
          refine wpAnyH_done (by kernel_rfl) ?_ _
          go_wp2
          go_ret
          exact ⟨⟨_, rfl, ⟨fun h => (by cases h), fun h => absurd (HB3.out h) (by simp)⟩⟩, hb2⟩
      · cases z4
        · as_aux_lemma =>
            refine wp_region_held_drew (S := (fun w' => Blk w' w.heap.size 46 #[.int .i64 ju1, .int .i64 nu1, .int .i64 ck1, .int .i64 kd1, .string ca1, .int .i64 ve1, .string lc1, .int .i64 lg1, .int .i64 lp1, .int .i64 ll1, .slice A1 js1.length k1, .slice B1 ls1.length m1, .string aC1, .int .i64 aN1, .string bC1, .int .i64 bN1, .int .i64 rJ1, .int .i64 rN1, .int .i64 ha1, .int .i64 pv1] ∧ Blk w' (w.heap.size + 1) 46 #[.int .i64 ju2, .int .i64 nu2, .int .i64 ck2, .int .i64 kd2, .string ca2, .int .i64 ve2, .string lc2, .int .i64 lg2, .int .i64 lp2, .int .i64 ll2, .slice A2 js2.length k2, .slice B2 ls2.length m2, .string aC2, .int .i64 aN2, .string bC2, .int .i64 bN2, .int .i64 rJ2, .int .i64 rN2, .int .i64 ha2, .int .i64 pv2])) (by kernel_rfl) ?hS4 (fun hHeld => ?_)
            case hS4 => exact ⟨hA.drew, hB.drew⟩
            refine tk3 (i := 0) ?_; try simp only [Act.put, zq]
            refine tk4 (i := 1) (fun w9 hSw => hSw.1) ?_; try simp only [Act.put, zq]
            refine tk3 (i := 3) ?_; try simp only [Act.put, zq]
            refine tk4 (i := 4) (fun w9 hSw => hSw.2) ?_; try simp only [Act.put, zq]
            refine wpAnyH_ready (rs := [2]) (by kernel_rfl) (by simp) ?_
            refine AllReadyH.cons rfl (fun K hK => ?_) AllReadyH.nil
            go_simp
            (go_at_call 121; ((with_reducible refine (h1 _).mono ?_); rintro e w1 ⟨rfl, hx1⟩); have hA1 := hA.drew.later hx1; have hB1 := hB.drew.later hx1; have hb1 : Below w.heap.size w w1 := HB.out.trans (hx1.mono HB.out.size))
            go_wp2_with fail
            refine hK.out _ _ ?hS4_5 (fun hHeld => ?_)
            case hS4_5 => ((try dsimp only); exact ⟨hA1, hB1⟩)
            clear hK K
            (try simp only [Act.put, zq])
            refine wpAnyH_ready (rs := [5]) (by kernel_rfl) (by simp) ?_
            refine AllReadyH.cons rfl (fun K hK => ?_) AllReadyH.nil
            go_simp
            (go_at_call 121; ((with_reducible refine (h2 _).mono ?_); rintro e w2 ⟨rfl, hx2⟩); have hA2 := hA1.later hx2; have hB2 := hB1.later hx2; have hb2 : Below w.heap.size w w2 := hb1.trans (hx2.mono hb1.size))
            go_wp2_with fail
            refine hK.out _ _ ?hS4_6 (fun hHeld => ?_)
            case hS4_6 => ((try dsimp only); exact ⟨hA2, hB2⟩)
            clear hK K
            (try simp only [Act.put, zq])
            refine tk3 (i := 6) ?_; try simp only [Act.put, zq]
            refine tk3 (i := 7) ?_; try simp only [Act.put, zq]
            refine tk3 (i := 8) ?_; try simp only [Act.put, zq]
            refine tk1 (i := 9) (v := ?v4_10) ?hy4_10 ?_
            case hy4_10 => ((intro w9 hSw; have e0 : w9.cell? ⟨w.heap.size, 4, none⟩ = some (.string ca1) := hSw.1.cell 4; go_simp) <;> with_reducible rfl)
            (try simp only [Act.put, zq])
            refine tk3 (i := 10) ?_; try simp only [Act.put, zq]
            refine tk1 (i := 11) (v := ?v4_12) ?hy4_12 ?_
            case hy4_12 => ((intro w9 hSw; have e0 : w9.cell? ⟨(w.heap.size + 1), 4, none⟩ = some (.string ca2) := hSw.2.cell 4; go_simp) <;> with_reducible rfl)
            (try simp only [Act.put, zq])
            refine tk3 (i := 12) ?_; try simp only [Act.put, zq]
            refine tk3 (i := 13) ?_; try simp only [Act.put, zq]
            refine tk3 (i := 14) ?_; try simp only [Act.put, zq]
            refine tk3 (i := 15) ?_; try simp only [Act.put, zq]
            refine tk1 (i := 16) (v := ?v4_17) ?hy4_17 ?_
            case hy4_17 => ((intro w9 hSw; have e0 : w9.cell? ⟨w.heap.size, 12, none⟩ = some (.string aC1) := hSw.1.cell 12; have e1 : w9.cell? ⟨w.heap.size, 13, none⟩ = some (.int .i64 aN1) := hSw.1.cell 13; go_simp) <;> with_reducible rfl)
            (try simp only [Act.put, zq])
            refine tk3 (i := 17) ?_; try simp only [Act.put, zq]
            refine tk1 (i := 18) (v := ?v4_19) ?hy4_19 ?_
            case hy4_19 => ((intro w9 hSw; have e0 : w9.cell? ⟨(w.heap.size + 1), 12, none⟩ = some (.string aC2) := hSw.2.cell 12; have e1 : w9.cell? ⟨(w.heap.size + 1), 13, none⟩ = some (.int .i64 aN2) := hSw.2.cell 13; go_simp) <;> with_reducible rfl)
            (try simp only [Act.put, zq])
            refine tk3 (i := 19) ?_; try simp only [Act.put, zq]
            refine tk3 (i := 20) ?_; try simp only [Act.put, zq]
            refine tk3 (i := 21) ?_; try simp only [Act.put, zq]
            refine tk3 (i := 22) ?_; try simp only [Act.put, zq]
            refine tk1 (i := 23) (v := ?v4_24) ?hy4_24 ?_
            case hy4_24 => ((intro w9 hSw; have e0 : w9.cell? ⟨w.heap.size, 14, none⟩ = some (.string bC1) := hSw.1.cell 14; have e1 : w9.cell? ⟨w.heap.size, 15, none⟩ = some (.int .i64 bN1) := hSw.1.cell 15; go_simp) <;> with_reducible rfl)
            (try simp only [Act.put, zq])
            refine tk3 (i := 24) ?_; try simp only [Act.put, zq]
            refine tk1 (i := 25) (v := ?v4_26) ?hy4_26 ?_
            case hy4_26 => ((intro w9 hSw; have e0 : w9.cell? ⟨(w.heap.size + 1), 14, none⟩ = some (.string bC2) := hSw.2.cell 14; have e1 : w9.cell? ⟨(w.heap.size + 1), 15, none⟩ = some (.int .i64 bN2) := hSw.2.cell 15; go_simp) <;> with_reducible rfl)
            (try simp only [Act.put, zq])
            refine tk3 (i := 26) ?_; try simp only [Act.put, zq]
            refine tk3 (i := 27) ?_; try simp only [Act.put, zq]
            refine tk3 (i := 28) ?_; try simp only [Act.put, zq]
            refine tk2 (i := 29) ?_; try simp only [Act.put, zq]
            refine tk2 (i := 30) ?_; try simp only [Act.put, zq]
            refine tk2 (i := 31) ?_; try simp only [Act.put, zq]
            refine tk2 (i := 32) ?_; try simp only [Act.put, zq]
            refine tk2 (i := 33) ?_; try simp only [Act.put, zq]
            refine tk3 (i := 34) ?_; try simp only [Act.put, zq]
            refine tk3 (i := 35) ?_; try simp only [Act.put, zq]
            refine tk2 (i := 36) ?_; try simp only [Act.put, zq]
            refine tk2 (i := 37) ?_; try simp only [Act.put, zq]
            refine tk2 (i := 38) ?_; try simp only [Act.put, zq]
            refine tk2 (i := 39) ?_; try simp only [Act.put, zq]
            refine tk2 (i := 40) ?_; try simp only [Act.put, zq]
            refine tk3 (i := 41) ?_; try simp only [Act.put, zq]
            refine tk3 (i := 42) ?_; try simp only [Act.put, zq]
            refine wpAnyH_done (by kernel_rfl) ?_ _
            go_wp2
            go_ret
            exact ⟨⟨_, rfl, ⟨fun h => (by cases h), fun h => absurd (HB4.out h) (by simp)⟩⟩, hb2⟩
        · cases z5
          · as_aux_lemma =>
              refine wp_region_held_drew (S := (fun w' => Blk w' w.heap.size 46 #[.int .i64 ju1, .int .i64 nu1, .int .i64 ck1, .int .i64 kd1, .string ca1, .int .i64 ve1, .string lc1, .int .i64 lg1, .int .i64 lp1, .int .i64 ll1, .slice A1 js1.length k1, .slice B1 ls1.length m1, .string aC1, .int .i64 aN1, .string bC1, .int .i64 bN1, .int .i64 rJ1, .int .i64 rN1, .int .i64 ha1, .int .i64 pv1] ∧ Blk w' (w.heap.size + 1) 46 #[.int .i64 ju2, .int .i64 nu2, .int .i64 ck2, .int .i64 kd2, .string ca2, .int .i64 ve2, .string lc2, .int .i64 lg2, .int .i64 lp2, .int .i64 ll2, .slice A2 js2.length k2, .slice B2 ls2.length m2, .string aC2, .int .i64 aN2, .string bC2, .int .i64 bN2, .int .i64 rJ2, .int .i64 rN2, .int .i64 ha2, .int .i64 pv2])) (by kernel_rfl) ?hS5 (fun hHeld => ?_)
              case hS5 => exact ⟨hA.drew, hB.drew⟩
              refine tk3 (i := 0) ?_; try simp only [Act.put, zq]
              refine tk4 (i := 1) (fun w9 hSw => hSw.1) ?_; try simp only [Act.put, zq]
              refine tk3 (i := 3) ?_; try simp only [Act.put, zq]
              refine tk4 (i := 4) (fun w9 hSw => hSw.2) ?_; try simp only [Act.put, zq]
              refine wpAnyH_ready (rs := [2]) (by kernel_rfl) (by simp) ?_
              refine AllReadyH.cons rfl (fun K hK => ?_) AllReadyH.nil
              go_simp
              (go_at_call 121; ((with_reducible refine (h1 _).mono ?_); rintro e w1 ⟨rfl, hx1⟩); have hA1 := hA.drew.later hx1; have hB1 := hB.drew.later hx1; have hb1 : Below w.heap.size w w1 := HB.out.trans (hx1.mono HB.out.size))
              go_wp2_with fail
              refine hK.out _ _ ?hS5_5 (fun hHeld => ?_)
              case hS5_5 => ((try dsimp only); exact ⟨hA1, hB1⟩)
              clear hK K
              (try simp only [Act.put, zq])
              refine wpAnyH_ready (rs := [5]) (by kernel_rfl) (by simp) ?_
              refine AllReadyH.cons rfl (fun K hK => ?_) AllReadyH.nil
              go_simp
              (go_at_call 121; ((with_reducible refine (h2 _).mono ?_); rintro e w2 ⟨rfl, hx2⟩); have hA2 := hA1.later hx2; have hB2 := hB1.later hx2; have hb2 : Below w.heap.size w w2 := hb1.trans (hx2.mono hb1.size))
              go_wp2_with fail
              refine hK.out _ _ ?hS5_6 (fun hHeld => ?_)
              case hS5_6 => ((try dsimp only); exact ⟨hA2, hB2⟩)
              clear hK K
              (try simp only [Act.put, zq])
              refine tk3 (i := 6) ?_; try simp only [Act.put, zq]
              refine tk3 (i := 7) ?_; try simp only [Act.put, zq]
              refine tk3 (i := 8) ?_; try simp only [Act.put, zq]
              refine tk1 (i := 9) (v := ?v5_10) ?hy5_10 ?_
              case hy5_10 => ((intro w9 hSw; have e0 : w9.cell? ⟨w.heap.size, 4, none⟩ = some (.string ca1) := hSw.1.cell 4; go_simp) <;> with_reducible rfl)
              (try simp only [Act.put, zq])
              refine tk3 (i := 10) ?_; try simp only [Act.put, zq]
              refine tk1 (i := 11) (v := ?v5_12) ?hy5_12 ?_
              case hy5_12 => ((intro w9 hSw; have e0 : w9.cell? ⟨(w.heap.size + 1), 4, none⟩ = some (.string ca2) := hSw.2.cell 4; go_simp) <;> with_reducible rfl)
              (try simp only [Act.put, zq])
              refine tk3 (i := 12) ?_; try simp only [Act.put, zq]
              refine tk3 (i := 13) ?_; try simp only [Act.put, zq]
              refine tk3 (i := 14) ?_; try simp only [Act.put, zq]
              refine tk3 (i := 15) ?_; try simp only [Act.put, zq]
              refine tk1 (i := 16) (v := ?v5_17) ?hy5_17 ?_
              case hy5_17 => ((intro w9 hSw; have e0 : w9.cell? ⟨w.heap.size, 12, none⟩ = some (.string aC1) := hSw.1.cell 12; have e1 : w9.cell? ⟨w.heap.size, 13, none⟩ = some (.int .i64 aN1) := hSw.1.cell 13; go_simp) <;> with_reducible rfl)
              (try simp only [Act.put, zq])
              refine tk3 (i := 17) ?_; try simp only [Act.put, zq]
              refine tk1 (i := 18) (v := ?v5_19) ?hy5_19 ?_
              case hy5_19 => ((intro w9 hSw; have e0 : w9.cell? ⟨(w.heap.size + 1), 12, none⟩ = some (.string aC2) := hSw.2.cell 12; have e1 : w9.cell? ⟨(w.heap.size + 1), 13, none⟩ = some (.int .i64 aN2) := hSw.2.cell 13; go_simp) <;> with_reducible rfl)
              (try simp only [Act.put, zq])
              refine tk3 (i := 19) ?_; try simp only [Act.put, zq]
              refine tk3 (i := 20) ?_; try simp only [Act.put, zq]
              refine tk3 (i := 21) ?_; try simp only [Act.put, zq]
              refine tk3 (i := 22) ?_; try simp only [Act.put, zq]
              refine tk1 (i := 23) (v := ?v5_24) ?hy5_24 ?_
              case hy5_24 => ((intro w9 hSw; have e0 : w9.cell? ⟨w.heap.size, 14, none⟩ = some (.string bC1) := hSw.1.cell 14; have e1 : w9.cell? ⟨w.heap.size, 15, none⟩ = some (.int .i64 bN1) := hSw.1.cell 15; go_simp) <;> with_reducible rfl)
              (try simp only [Act.put, zq])
              refine tk3 (i := 24) ?_; try simp only [Act.put, zq]
              refine tk1 (i := 25) (v := ?v5_26) ?hy5_26 ?_
              case hy5_26 => ((intro w9 hSw; have e0 : w9.cell? ⟨(w.heap.size + 1), 14, none⟩ = some (.string bC2) := hSw.2.cell 14; have e1 : w9.cell? ⟨(w.heap.size + 1), 15, none⟩ = some (.int .i64 bN2) := hSw.2.cell 15; go_simp) <;> with_reducible rfl)
              (try simp only [Act.put, zq])
              refine tk3 (i := 26) ?_; try simp only [Act.put, zq]
              refine tk3 (i := 27) ?_; try simp only [Act.put, zq]
              refine tk3 (i := 28) ?_; try simp only [Act.put, zq]
              refine tk3 (i := 29) ?_; try simp only [Act.put, zq]
              refine tk1 (i := 30) (v := ?v5_31) ?hy5_31 ?_
              case hy5_31 => ((intro w9 hSw; have e0 : w9.cell? ⟨w.heap.size, 16, none⟩ = some (.int .i64 rJ1) := hSw.1.cell 16; have e1 : w9.cell? ⟨w.heap.size, 17, none⟩ = some (.int .i64 rN1) := hSw.1.cell 17; go_simp) <;> with_reducible rfl)
              (try simp only [Act.put, zq])
              refine tk3 (i := 31) ?_; try simp only [Act.put, zq]
              refine tk1 (i := 32) (v := ?v5_33) ?hy5_33 ?_
              case hy5_33 => ((intro w9 hSw; have e0 : w9.cell? ⟨(w.heap.size + 1), 16, none⟩ = some (.int .i64 rJ2) := hSw.2.cell 16; have e1 : w9.cell? ⟨(w.heap.size + 1), 17, none⟩ = some (.int .i64 rN2) := hSw.2.cell 17; go_simp) <;> with_reducible rfl)
              (try simp only [Act.put, zq])
              refine tk3 (i := 33) ?_; try simp only [Act.put, zq]
              refine tk3 (i := 34) ?_; try simp only [Act.put, zq]
              refine tk3 (i := 35) ?_; try simp only [Act.put, zq]
              refine tk2 (i := 36) ?_; try simp only [Act.put, zq]
              refine tk2 (i := 37) ?_; try simp only [Act.put, zq]
              refine tk2 (i := 38) ?_; try simp only [Act.put, zq]
              refine tk2 (i := 39) ?_; try simp only [Act.put, zq]
              refine tk2 (i := 40) ?_; try simp only [Act.put, zq]
              refine tk3 (i := 41) ?_; try simp only [Act.put, zq]
              refine tk3 (i := 42) ?_; try simp only [Act.put, zq]
              refine wpAnyH_done (by kernel_rfl) ?_ _
              go_wp2
              go_ret
              exact ⟨⟨_, rfl, ⟨fun h => (by cases h), fun h => absurd (HB5.out h) (by simp)⟩⟩, hb2⟩
          · as_aux_lemma =>
              refine wp_region_held_drew (S := (fun w' => Blk w' w.heap.size 46 #[.int .i64 ju1, .int .i64 nu1, .int .i64 ck1, .int .i64 kd1, .string ca1, .int .i64 ve1, .string lc1, .int .i64 lg1, .int .i64 lp1, .int .i64 ll1, .slice A1 js1.length k1, .slice B1 ls1.length m1, .string aC1, .int .i64 aN1, .string bC1, .int .i64 bN1, .int .i64 rJ1, .int .i64 rN1, .int .i64 ha1, .int .i64 pv1] ∧ Blk w' (w.heap.size + 1) 46 #[.int .i64 ju2, .int .i64 nu2, .int .i64 ck2, .int .i64 kd2, .string ca2, .int .i64 ve2, .string lc2, .int .i64 lg2, .int .i64 lp2, .int .i64 ll2, .slice A2 js2.length k2, .slice B2 ls2.length m2, .string aC2, .int .i64 aN2, .string bC2, .int .i64 bN2, .int .i64 rJ2, .int .i64 rN2, .int .i64 ha2, .int .i64 pv2])) (by kernel_rfl) ?hS6 (fun hHeld => ?_)
              case hS6 => exact ⟨hA.drew, hB.drew⟩
              refine tk3 (i := 0) ?_; try simp only [Act.put, zq]
              refine tk4 (i := 1) (fun w9 hSw => hSw.1) ?_; try simp only [Act.put, zq]
              refine tk3 (i := 3) ?_; try simp only [Act.put, zq]
              refine tk4 (i := 4) (fun w9 hSw => hSw.2) ?_; try simp only [Act.put, zq]
              refine wpAnyH_ready (rs := [2]) (by kernel_rfl) (by simp) ?_
              refine AllReadyH.cons rfl (fun K hK => ?_) AllReadyH.nil
              go_simp
              (go_at_call 121; ((with_reducible refine (h1 _).mono ?_); rintro e w1 ⟨rfl, hx1⟩); have hA1 := hA.drew.later hx1; have hB1 := hB.drew.later hx1; have hb1 : Below w.heap.size w w1 := HB.out.trans (hx1.mono HB.out.size))
              go_wp2_with fail
              refine hK.out _ _ ?hS6_5 (fun hHeld => ?_)
              case hS6_5 => ((try dsimp only); exact ⟨hA1, hB1⟩)
              clear hK K
              (try simp only [Act.put, zq])
              refine wpAnyH_ready (rs := [5]) (by kernel_rfl) (by simp) ?_
              refine AllReadyH.cons rfl (fun K hK => ?_) AllReadyH.nil
              go_simp
              (go_at_call 121; ((with_reducible refine (h2 _).mono ?_); rintro e w2 ⟨rfl, hx2⟩); have hA2 := hA1.later hx2; have hB2 := hB1.later hx2; have hb2 : Below w.heap.size w w2 := hb1.trans (hx2.mono hb1.size))
              go_wp2_with fail
              refine hK.out _ _ ?hS6_6 (fun hHeld => ?_)
              case hS6_6 => ((try dsimp only); exact ⟨hA2, hB2⟩)
              clear hK K
              (try simp only [Act.put, zq])
              refine tk3 (i := 6) ?_; try simp only [Act.put, zq]
              refine tk3 (i := 7) ?_; try simp only [Act.put, zq]
              refine tk3 (i := 8) ?_; try simp only [Act.put, zq]
              refine tk1 (i := 9) (v := ?v6_10) ?hy6_10 ?_
              case hy6_10 => ((intro w9 hSw; have e0 : w9.cell? ⟨w.heap.size, 4, none⟩ = some (.string ca1) := hSw.1.cell 4; go_simp) <;> with_reducible rfl)
              (try simp only [Act.put, zq])
              refine tk3 (i := 10) ?_; try simp only [Act.put, zq]
              refine tk1 (i := 11) (v := ?v6_12) ?hy6_12 ?_
              case hy6_12 => ((intro w9 hSw; have e0 : w9.cell? ⟨(w.heap.size + 1), 4, none⟩ = some (.string ca2) := hSw.2.cell 4; go_simp) <;> with_reducible rfl)
              (try simp only [Act.put, zq])
              refine tk3 (i := 12) ?_; try simp only [Act.put, zq]
              refine tk3 (i := 13) ?_; try simp only [Act.put, zq]
              refine tk3 (i := 14) ?_; try simp only [Act.put, zq]
              refine tk3 (i := 15) ?_; try simp only [Act.put, zq]
              refine tk1 (i := 16) (v := ?v6_17) ?hy6_17 ?_
              case hy6_17 => ((intro w9 hSw; have e0 : w9.cell? ⟨w.heap.size, 12, none⟩ = some (.string aC1) := hSw.1.cell 12; have e1 : w9.cell? ⟨w.heap.size, 13, none⟩ = some (.int .i64 aN1) := hSw.1.cell 13; go_simp) <;> with_reducible rfl)
              (try simp only [Act.put, zq])
              refine tk3 (i := 17) ?_; try simp only [Act.put, zq]
              refine tk1 (i := 18) (v := ?v6_19) ?hy6_19 ?_
              case hy6_19 => ((intro w9 hSw; have e0 : w9.cell? ⟨(w.heap.size + 1), 12, none⟩ = some (.string aC2) := hSw.2.cell 12; have e1 : w9.cell? ⟨(w.heap.size + 1), 13, none⟩ = some (.int .i64 aN2) := hSw.2.cell 13; go_simp) <;> with_reducible rfl)
              (try simp only [Act.put, zq])
              refine tk3 (i := 19) ?_; try simp only [Act.put, zq]
              refine tk3 (i := 20) ?_; try simp only [Act.put, zq]
              refine tk3 (i := 21) ?_; try simp only [Act.put, zq]
              refine tk3 (i := 22) ?_; try simp only [Act.put, zq]
              refine tk1 (i := 23) (v := ?v6_24) ?hy6_24 ?_
              case hy6_24 => ((intro w9 hSw; have e0 : w9.cell? ⟨w.heap.size, 14, none⟩ = some (.string bC1) := hSw.1.cell 14; have e1 : w9.cell? ⟨w.heap.size, 15, none⟩ = some (.int .i64 bN1) := hSw.1.cell 15; go_simp) <;> with_reducible rfl)
              (try simp only [Act.put, zq])
              refine tk3 (i := 24) ?_; try simp only [Act.put, zq]
              refine tk1 (i := 25) (v := ?v6_26) ?hy6_26 ?_
              case hy6_26 => ((intro w9 hSw; have e0 : w9.cell? ⟨(w.heap.size + 1), 14, none⟩ = some (.string bC2) := hSw.2.cell 14; have e1 : w9.cell? ⟨(w.heap.size + 1), 15, none⟩ = some (.int .i64 bN2) := hSw.2.cell 15; go_simp) <;> with_reducible rfl)
              (try simp only [Act.put, zq])
              refine tk3 (i := 26) ?_; try simp only [Act.put, zq]
              refine tk3 (i := 27) ?_; try simp only [Act.put, zq]
              refine tk3 (i := 28) ?_; try simp only [Act.put, zq]
              refine tk3 (i := 29) ?_; try simp only [Act.put, zq]
              refine tk1 (i := 30) (v := ?v6_31) ?hy6_31 ?_
              case hy6_31 => ((intro w9 hSw; have e0 : w9.cell? ⟨w.heap.size, 16, none⟩ = some (.int .i64 rJ1) := hSw.1.cell 16; have e1 : w9.cell? ⟨w.heap.size, 17, none⟩ = some (.int .i64 rN1) := hSw.1.cell 17; go_simp) <;> with_reducible rfl)
              (try simp only [Act.put, zq])
              refine tk3 (i := 31) ?_; try simp only [Act.put, zq]
              refine tk1 (i := 32) (v := ?v6_33) ?hy6_33 ?_
              case hy6_33 => ((intro w9 hSw; have e0 : w9.cell? ⟨(w.heap.size + 1), 16, none⟩ = some (.int .i64 rJ2) := hSw.2.cell 16; have e1 : w9.cell? ⟨(w.heap.size + 1), 17, none⟩ = some (.int .i64 rN2) := hSw.2.cell 17; go_simp) <;> with_reducible rfl)
              (try simp only [Act.put, zq])
              refine tk3 (i := 33) ?_; try simp only [Act.put, zq]
              refine tk3 (i := 34) ?_; try simp only [Act.put, zq]
              refine tk3 (i := 35) ?_; try simp only [Act.put, zq]
              refine tk3 (i := 36) ?_; try simp only [Act.put, zq]
              refine tk1 (i := 37) (v := ?v6_38) ?hy6_38 ?_
              case hy6_38 => ((intro w9 hSw; have e0 : w9.cell? ⟨w.heap.size, 6, none⟩ = some (.string lc1) := hSw.1.cell 6; have e1 : w9.cell? ⟨w.heap.size, 7, none⟩ = some (.int .i64 lg1) := hSw.1.cell 7; have e2 : w9.cell? ⟨w.heap.size, 8, none⟩ = some (.int .i64 lp1) := hSw.1.cell 8; have e3 : w9.cell? ⟨w.heap.size, 9, none⟩ = some (.int .i64 ll1) := hSw.1.cell 9; have e4 : w9.cell? ⟨w.heap.size, 10, none⟩ = some (.slice A1 js1.length k1) := hSw.1.cell 10; have e5 : w9.cell? ⟨w.heap.size, 11, none⟩ = some (.slice B1 ls1.length m1) := hSw.1.cell 11; go_simp) <;> with_reducible rfl)
              (try simp only [Act.put, zq])
              refine tk3 (i := 38) ?_; try simp only [Act.put, zq]
              refine tk1 (i := 39) (v := ?v6_40) ?hy6_40 ?_
              case hy6_40 => ((intro w9 hSw; have e0 : w9.cell? ⟨(w.heap.size + 1), 6, none⟩ = some (.string lc2) := hSw.2.cell 6; have e1 : w9.cell? ⟨(w.heap.size + 1), 7, none⟩ = some (.int .i64 lg2) := hSw.2.cell 7; have e2 : w9.cell? ⟨(w.heap.size + 1), 8, none⟩ = some (.int .i64 lp2) := hSw.2.cell 8; have e3 : w9.cell? ⟨(w.heap.size + 1), 9, none⟩ = some (.int .i64 ll2) := hSw.2.cell 9; have e4 : w9.cell? ⟨(w.heap.size + 1), 10, none⟩ = some (.slice A2 js2.length k2) := hSw.2.cell 10; have e5 : w9.cell? ⟨(w.heap.size + 1), 11, none⟩ = some (.slice B2 ls2.length m2) := hSw.2.cell 11; go_simp) <;> with_reducible rfl)
              (try simp only [Act.put, zq])
              refine wpAnyH_ready (rs := [40]) (by kernel_rfl) (by simp) ?_
              refine AllReadyH.cons rfl (fun K hK => ?_) AllReadyH.nil
              go_simp
              (go_at_call 122; refine (H3.out _ hb2).mono ?_; rintro e w3 ⟨⟨b, rfl, hbb⟩, hx3⟩; have hA3 := hA2.later hx3; have hB3 := hB2.later hx3; have hb3 : Below w.heap.size w w3 := hb2.trans (hx3.mono hb2.size))
              go_wp2_with fail
              refine hK.out _ _ ?hS6_41 (fun hHeld => ?_)
              case hS6_41 => ((try dsimp only); exact ⟨hA3, hB3⟩)
              clear hK K
              (try simp only [Act.put, zq])
              refine tk3 (i := 41) ?_; try simp only [Act.put, zq]
              refine tk3 (i := 42) ?_; try simp only [Act.put, zq]
              refine wpAnyH_done (by kernel_rfl) ?_ _
              go_wp2
              go_ret
              exact ⟨⟨_, rfl, ⟨fun h => HA.out (by first | rfl | trivial) (by first | rfl | trivial) (by first | rfl | trivial) (by first | rfl | trivial) (by first | rfl | trivial) (hbb.1 h), fun h => hbb.2 (HB6.out h)⟩⟩, hb3⟩
end Go.Proofs.YtlamogpdkmbeoaaGreatDoor
