/- The texts MerA, MerB, MerD in one. -/
import Derived.Test.YtlamogpdkmbeoaaGreatDoorZbChJ
import Derived.Test.YtlamogpdkmbeoaaGreatDoorZbNoteC
set_option linter.unusedVariables false
set_option linter.unusedSimpArgs false
section PartMerA
/- Equality of lines, logs, notes: the reference's 'SameLog', 'SameNote', 'SameNotes'. -/
set_option maxRecDepth 100000
namespace Go.Proofs.YtlamogpdkmbeoaaGreatDoor
open Go.RowKit Go.Lib Go.Shelf Go.Maps

theorem neqLine_same (x : Ln) (w : World) : (binOp .neq 126 x.val x.val).run Tryz.prog w = .ok (.bool false) w := by
  have u3 := Tryz.underlying3
  have a3 := Tryz.isAgg3
  have z3 := Tryz.sizeOf3
  have u9 := Tryz.underlying9
  have a9 := Tryz.isAgg9
  have z9 := Tryz.sizeOf9
  have aE := Tryz.isAgg124
  have zE := Tryz.sizeOf124
  have uE := Tryz.underlying124
  have hS : Tryz.prog.underlying 126 = some (.struct (Tryz.prog.fieldsOf 126)) := by kernel_rfl
  have hp : Tryz.prog.stoodInHeld 126 = false := by kernel_rfl
  obtain ⟨n1, k1, m1, t1, c1, ⟨r1, s1, z1⟩, ⟨p1, q1, o1⟩⟩ := x
  rw [run_neq_struct, show (10000 : Nat) = 9999 + 1 from rfl, run_equalIn_agg w 9999 126 _ _ hS hp]
  simp only [Program.fieldsOf, Tryz.underlying126]
  go_simp
theorem neqLine_ne (x y : Ln) (hne : x ≠ y) (w : World) : (binOp .neq 126 x.val y.val).run Tryz.prog w = .ok (.bool true) w := by
  have u3 := Tryz.underlying3
  have a3 := Tryz.isAgg3
  have z3 := Tryz.sizeOf3
  have u9 := Tryz.underlying9
  have a9 := Tryz.isAgg9
  have z9 := Tryz.sizeOf9
  have aE := Tryz.isAgg124
  have zE := Tryz.sizeOf124
  have uE := Tryz.underlying124
  have hS : Tryz.prog.underlying 126 = some (.struct (Tryz.prog.fieldsOf 126)) := by kernel_rfl
  have hp : Tryz.prog.stoodInHeld 126 = false := by kernel_rfl
  obtain ⟨n1, k1, m1, t1, c1, ⟨r1, s1, z1⟩, ⟨p1, q1, o1⟩⟩ := x
  obtain ⟨n2, k2, m2, t2, c2, ⟨r2, s2, z2⟩, ⟨p2, q2, o2⟩⟩ := y
  have hc : ∀ a b : ByteArray, a.toList = b.toList → a = b := fun a b h => toList_inj (by simp [h])
  clear hS
  rw [run_neq_struct, show (10000 : Nat) = 9999 + 1 from rfl, run_equalIn_agg w 9999 126 _ _ (by kernel_rfl) hp]
  simp only [Program.fieldsOf, Tryz.underlying126]
  go_simp
  intro e1 e2 e3 e4 e5 e6 e7 e8 e9 e10 e11
  exact hne (by rw [e1, e2, e3, e4, hc c1 c2 e5, e6, e7, e8, e9, e10, e11])
/-- Two logs of the same content. -/
structure SameL (x y : Lg) (js js' : List Int) (ls ls' : List Ln) : Prop where
  call : x.call = y.call
  cat : x.cat = y.cat
  pow : x.pow = y.pow
  cl : x.cl = y.cl
  js : js = js'
  ls : ls = ls'
set_option maxHeartbeats 8000000 in
theorem SameLog_any (x y : Lg) (js js' : List Int) (ls ls' : List Ln) (w : World) (hx : RowsAt encI 1 w x.jumps js) (hy : RowsAt encI 1 w y.jumps js') (hu : RowsAt Ln.enc 11 w x.lines ls) (hv : RowsAt Ln.enc 11 w y.lines ls') :
    Calls Tryz.prog 55 #[x.val, y.val] w fun e w' => ∃ b, e = .returned (.bool b) ∧ (b = true ↔ SameL x y js js' ls ls') ∧ Below w.heap.size w w' := by
  obtain ⟨c1, a1, p1, l1, vj1, vl1⟩ := x
  obtain ⟨c2, a2, p2, l2, vj2, vl2⟩ := y
  dsimp only at hx hy hu hv
  obtain ⟨A1, k1, rfl⟩ := hx.len
  obtain ⟨A2, k2, rfl⟩ := hy.len
  obtain ⟨B1, m1, rfl⟩ := hu.len
  obtain ⟨B2, m2, rfl⟩ := hv.len
  obtain ⟨W1, hW1⟩ : ∃ W1, (w.alloc (.cells #[.string c1, .int .i64 a1, .int .i64 p1, .int .i64 l1, .slice A1 js.length k1, .slice B1 ls.length m1] 42)).alloc (.cells #[.string c2, .int .i64 a2, .int .i64 p2, .int .i64 l2, .slice A2 js'.length k2, .slice B2 ls'.length m2] 42) = W1 := ⟨_, rfl⟩
  have hb0 : Below w.heap.size w W1 := by rw [← hW1]; exact ((Below.refl _ w).alloc (Nat.le_refl _) _).alloc (by simp) _
  have hbX : Blk W1 w.heap.size 42 #[.string c1, .int .i64 a1, .int .i64 p1, .int .i64 l1, .slice A1 js.length k1, .slice B1 ls.length m1] := by rw [← hW1]; exact (Blk.new w _ _).alloc _
  have hbY : Blk W1 (w.heap.size + 1) 42 #[.string c2, .int .i64 a2, .int .i64 p2, .int .i64 l2, .slice A2 js'.length k2, .slice B2 ls'.length m2] := by rw [← hW1]; have := Blk.new (w.alloc (.cells #[.string c1, .int .i64 a1, .int .i64 p1, .int .i64 l1, .slice A1 js.length k1, .slice B1 ls.length m1] 42)) 42 #[.string c2, .int .i64 a2, .int .i64 p2, .int .i64 l2, .slice A2 js'.length k2, .slice B2 ls'.length m2]; simpa using this
  have hz1 : W1.heap.size = w.heap.size + 1 + 1 := by rw [← hW1]; simp
  have HBX := Lib.hid hbX
  have HBY := Lib.hid hbY
  have HB0 := Lib.hid hb0
  have HX := Lib.hid hx
  have HY := Lib.hid hy
  have HU := Lib.hid hu
  have HV := Lib.hid hv
  have hle : w.heap.size ≤ W1.heap.size := by omega
  have hmj := hx.max
  have hml := hu.max
  unfold maxLen at hmj hml
  have X0 : W1.cell? ⟨w.heap.size, 0, none⟩ = some (.string c1) := hbX.cell 0
  have X1 : W1.cell? ⟨w.heap.size, 1, none⟩ = some (.int .i64 a1) := hbX.cell 1
  have X2 : W1.cell? ⟨w.heap.size, 2, none⟩ = some (.int .i64 p1) := hbX.cell 2
  have X3 : W1.cell? ⟨w.heap.size, 3, none⟩ = some (.int .i64 l1) := hbX.cell 3
  have X4 : W1.cell? ⟨w.heap.size, 4, none⟩ = some (.slice A1 js.length k1) := hbX.cell 4
  have X5 : W1.cell? ⟨w.heap.size, 5, none⟩ = some (.slice B1 ls.length m1) := hbX.cell 5
  have Y0 : W1.cell? ⟨w.heap.size + 1, 0, none⟩ = some (.string c2) := hbY.cell 0
  have Y1 : W1.cell? ⟨w.heap.size + 1, 1, none⟩ = some (.int .i64 a2) := hbY.cell 1
  have Y2 : W1.cell? ⟨w.heap.size + 1, 2, none⟩ = some (.int .i64 p2) := hbY.cell 2
  have Y3 : W1.cell? ⟨w.heap.size + 1, 3, none⟩ = some (.int .i64 l2) := hbY.cell 3
  have Y4 : W1.cell? ⟨w.heap.size + 1, 4, none⟩ = some (.slice A2 js'.length k2) := hbY.cell 4
  have Y5 : W1.cell? ⟨w.heap.size + 1, 5, none⟩ = some (.slice B2 ls'.length m2) := hbY.cell 5
  clear hb0 hbX hbY hz1 hx hy hu hv
  by_cases g1 : c1 = c2
  rotate_left
  · have e1 : (c1.toList == c2.toList) = false := by
      cases h : (c1.toList == c2.toList) with
      | false => rfl
      | true => exact absurd (toList_inj h) g1
    have G1 := Lib.hid g1
    clear g1
    go_enter Tryz.func55, Tryz.ntmps55
    go_wp2
    go_ret
    exact ⟨_, rfl, ⟨fun h => (by cases h), fun h => absurd h.call G1.out⟩, HB0.out⟩
  by_cases g2 : a1 = a2
  rotate_left
  · subst g1
    go_enter Tryz.func55, Tryz.ntmps55
    go_wp2
    go_ret
    exact ⟨_, rfl, ⟨fun h => (by cases h), fun h => absurd h.cat g2⟩, HB0.out⟩
  by_cases g3 : p1 = p2
  rotate_left
  · subst g1 g2
    go_enter Tryz.func55, Tryz.ntmps55
    go_wp2
    go_ret
    exact ⟨_, rfl, ⟨fun h => (by cases h), fun h => absurd h.pow g3⟩, HB0.out⟩
  by_cases g4 : l1 = l2
  rotate_left
  · subst g1 g2 g3
    go_enter Tryz.func55, Tryz.ntmps55
    go_wp2
    go_ret
    exact ⟨_, rfl, ⟨fun h => (by cases h), fun h => absurd h.cl g4⟩, HB0.out⟩
  by_cases g5 : js.length = js'.length
  rotate_left
  · subst g1 g2 g3 g4
    have e5 : ¬ (js.length : Int) = js'.length := by omega
    go_enter Tryz.func55, Tryz.ntmps55
    go_wp2
    go_ret
    exact ⟨_, rfl, ⟨fun h => (by cases h), fun h => absurd (congrArg List.length h.js) g5⟩, HB0.out⟩
  rw [← g5] at Y4
  by_cases g6 : ls.length = ls'.length
  rotate_left
  · subst g1 g2 g3 g4
    have e6 : ¬ (ls.length : Int) = ls'.length := by omega
    have G5 := Lib.hid g5
    rw [← g5] at hW1 ⊢
    clear g5
    go_enter Tryz.func55, Tryz.ntmps55
    go_wp2
    go_ret
    exact ⟨_, rfl, ⟨fun h => (by cases h), fun h => absurd (congrArg List.length h.ls) g6⟩, HB0.out⟩
  rw [← g6] at Y5
  have G5 := Lib.hid g5
  have G6 := Lib.hid g6
  rw [← g5, ← g6] at hW1 ⊢
  obtain ⟨n, hn⟩ : ∃ n, n = js.length := ⟨_, rfl⟩
  obtain ⟨m, hm⟩ : ∃ m, m = ls.length := ⟨_, rfl⟩
  have HN := Lib.hid hn
  have HM := Lib.hid hm
  rw [← hn] at hmj X4 Y4 hW1 ⊢
  rw [← hm] at hml X5 Y5 hW1 ⊢
  clear g5 g6 hn hm
  subst g1 g2 g3 g4
  have HCX : Hid (∀ W, Below W1.heap.size W1 W → W.cell? ⟨w.heap.size, 4, none⟩ = some (.slice A1 n k1) ∧ W.cell? ⟨w.heap.size, 5, none⟩ = some (.slice B1 m m1) ∧ W.cell? ⟨w.heap.size + 1, 4, none⟩ = some (.slice A2 n k2) ∧ W.cell? ⟨w.heap.size + 1, 5, none⟩ = some (.slice B2 m m2)) := by
    have i1 : w.heap.size < W1.heap.size := by rw [← hW1]; simp; omega
    have i2 : w.heap.size + 1 < W1.heap.size := by rw [← hW1]; simp
    exact Lib.hid fun W hW => ⟨(hW.cell (p := ⟨w.heap.size, 4, none⟩) i1).trans X4, (hW.cell (p := ⟨w.heap.size, 5, none⟩) i1).trans X5, (hW.cell (p := ⟨w.heap.size + 1, 4, none⟩) i2).trans Y4, (hW.cell (p := ⟨w.heap.size + 1, 5, none⟩) i2).trans Y5⟩
  go_enter Tryz.func55, Tryz.ntmps55
  go_upto_region 4 with fail
  clear X0 X1 X2 X3 X4 X5 Y0 Y1 Y2 Y3 Y4 Y5
  go_loopw [5] (fun s5 wr => ∃ k : Nat, k ≤ n ∧ s5 = .int .i64 k ∧ Hid (js.take k = js'.take k) ∧ Hid (Below W1.heap.size W1 wr)) (fun s5 _ => n - (intOf s5).toNat)
  case atStart => exact ⟨0, Nat.zero_le _, rfl, Lib.hid rfl, Lib.hid (Below.refl _ _)⟩
  case round =>
    obtain ⟨k, hk, rfl, htk, hb⟩ := hrel
    obtain ⟨x4, x5, y4, y5⟩ := HCX.out wr hb.out
    have hBw := Lib.hid (HB0.out.trans (hb.out.mono hle))
    by_cases hlt : k < n
    · have hk1 : k < js.length := by have := HN.out; omega
      have hk2 : k < js'.length := by have := HN.out; have := G5.out; omega
      obtain ⟨p, hp⟩ : ∃ p, p = js[k] := ⟨_, rfl⟩
      obtain ⟨q, hq⟩ : ∃ q, q = js'[k] := ⟨_, rfl⟩
      have HJS : Hid (p = q → js.take (k + 1) = js'.take (k + 1)) := Lib.hid fun e => take_succ_eq' hk1 hk2 htk.out (by rw [← hp, ← hq, e])
      have HJD : Hid (p ≠ q → js ≠ js') := Lib.hid fun hne e => by
        apply hne
        rw [hp, hq]
        subst e
        rfl
      rcases HX.out.place with ⟨e0, _⟩ | ⟨gx, ox, cx', ex, _, _, hgx, hcellx⟩
      · rw [e0] at hk1; simp at hk1
      rcases HY.out.place with ⟨e0, _⟩ | ⟨gy, oy, cy', ey, _, _, hgy, hcelly⟩
      · rw [e0] at hk2; simp at hk2
      injection ex with ex e11 e12
      injection ey with ey e21 e22
      clear e11 e12 e21 e22
      subst ex
      subst ey
      have cp : wr.cell? ⟨gx, ox + k, none⟩ = some (.int .i64 p) := (hBw.out.cell (p := ⟨gx, ox + k, none⟩) hgx).trans (by have := hcellx k hk1 0 _ rfl; rw [Nat.mul_one] at this; rw [hp]; exact this)
      have cq : wr.cell? ⟨gy, oy + k, none⟩ = some (.int .i64 q) := (hBw.out.cell (p := ⟨gy, oy + k, none⟩) hgy).trans (by have := hcelly k hk2 0 _ rfl; rw [Nat.mul_one] at this; rw [hq]; exact this)
      clear hp hq hcellx hcelly hk1 hk2
      by_cases hpq : p = q
      · have hj3 := Lib.hid (HJS.out hpq)
        subst hpq
        go_upto_region 6 with fail
        go_quiet (fail)
        go_wp2
        exact ⟨⟨k + 1, by omega, by simp, hj3, Lib.hid (below_drewN' hb.out _)⟩, by simp [intOf]; omega⟩
      · have hne := Lib.hid (HJD.out hpq)
        go_upto_region 6 with fail
        go_quiet (fail)
        go_wp2
        go_ret
        exact ⟨_, rfl, ⟨fun h => (by cases h), fun h => absurd h.js hne.out⟩, below_drewN' hBw.out _⟩
    · have HEQ : Hid (js = js') := Lib.hid (by
        have e1 : k = js.length := by have := HN.out; omega
        have := htk.out
        rw [e1, List.take_length, G5.out, List.take_length] at this
        exact this)
      obtain ⟨W2, hW2⟩ : ∃ W2, W2 = wr := ⟨_, rfl⟩
      have HB2 : Hid (Below W1.heap.size W1 W2) := by rw [hW2]; exact hb
      go_upto_region 9 with fail
      go_loopw [6] (fun s6 wi => ∃ j : Nat, j ≤ m ∧ s6 = .int .i64 j ∧ Hid (ls.take j = ls'.take j) ∧ Hid (Below W1.heap.size W1 wi)) (fun s6 _ => m - (intOf s6).toNat)
      case atStart => exact ⟨0, Nat.zero_le _, rfl, Lib.hid rfl, hb⟩
      case round =>
        obtain ⟨j, hj, rfl, htj, hbi⟩ := hrel
        clear x4 x5 y4 y5 hBw
        obtain ⟨x4, x5, y4, y5⟩ := HCX.out wr hbi.out
        have hBw := Lib.hid (HB0.out.trans (hbi.out.mono hle))
        by_cases hjl : j < m
        · have hk1 : j < ls.length := by have := HM.out; omega
          have hk2 : j < ls'.length := by have := HM.out; have := G6.out; omega
          obtain ⟨p, hp⟩ : ∃ p, p = ls[j] := ⟨_, rfl⟩
          obtain ⟨q, hq⟩ : ∃ q, q = ls'[j] := ⟨_, rfl⟩
          have HJS : Hid (p = q → ls.take (j + 1) = ls'.take (j + 1)) := Lib.hid fun e => by
            rw [List.take_succ_eq_append_getElem hk1, List.take_succ_eq_append_getElem hk2, htj.out, ← hp, ← hq, e]
          have HJD : Hid (p ≠ q → ls ≠ ls') := Lib.hid fun hne e => by
            apply hne
            rw [hp, hq]
            subst e
            rfl
          rcases HU.out.place with ⟨e0, _⟩ | ⟨gx, ox, cx', ex, _, _, hgx, hcellx⟩
          · rw [e0] at hk1; simp at hk1
          rcases HV.out.place with ⟨e0, _⟩ | ⟨gy, oy, cy', ey, _, _, hgy, hcelly⟩
          · rw [e0] at hk2; simp at hk2
          injection ex with ex e11 e12
          injection ey with ey e21 e22
          clear e11 e12 e21 e22
          subst ex
          subst ey
          have rx : wr.rangeAt gx (ox + j * 11) p.enc := fun i u hi => (hBw.out.cell (p := ⟨gx, ox + j * 11 + i, none⟩) hgx).trans (hcellx j hk1 i u (by rw [← hp]; exact hi))
          have ry : wr.rangeAt gy (oy + j * 11) q.enc := fun i u hi => (hBw.out.cell (p := ⟨gy, oy + j * 11 + i, none⟩) hgy).trans (hcelly j hk2 i u (by rw [← hq]; exact hi))
          have d0 : wr.cell? ⟨gx, ox + j * 11, none⟩ = some (.int .i64 p.num) := rx 0 _ rfl
          have f0 : wr.cell? ⟨gy, oy + j * 11, none⟩ = some (.int .i64 q.num) := ry 0 _ rfl
          have d1 : wr.cell? ⟨gx, ox + j * 11 + 1, none⟩ = some (.int .i64 p.khz) := rx 1 _ rfl
          have f1 : wr.cell? ⟨gy, oy + j * 11 + 1, none⟩ = some (.int .i64 q.khz) := ry 1 _ rfl
          have d2 : wr.cell? ⟨gx, ox + j * 11 + 2, none⟩ = some (.int .i64 p.mode) := rx 2 _ rfl
          have f2 : wr.cell? ⟨gy, oy + j * 11 + 2, none⟩ = some (.int .i64 q.mode) := ry 2 _ rfl
          have d3 : wr.cell? ⟨gx, ox + j * 11 + 3, none⟩ = some (.int .i64 p.minute) := rx 3 _ rfl
          have f3 : wr.cell? ⟨gy, oy + j * 11 + 3, none⟩ = some (.int .i64 q.minute) := ry 3 _ rfl
          have d4 : wr.cell? ⟨gx, ox + j * 11 + 4, none⟩ = some (.string p.call) := rx 4 _ rfl
          have f4 : wr.cell? ⟨gy, oy + j * 11 + 4, none⟩ = some (.string q.call) := ry 4 _ rfl
          have d5 : wr.cell? ⟨gx, ox + j * 11 + 5, none⟩ = some (.int .i64 p.sent.r) := rx 5 _ rfl
          have f5 : wr.cell? ⟨gy, oy + j * 11 + 5, none⟩ = some (.int .i64 q.sent.r) := ry 5 _ rfl
          have d6 : wr.cell? ⟨gx, ox + j * 11 + 6, none⟩ = some (.int .i64 p.sent.s) := rx 6 _ rfl
          have f6 : wr.cell? ⟨gy, oy + j * 11 + 6, none⟩ = some (.int .i64 q.sent.s) := ry 6 _ rfl
          have d7 : wr.cell? ⟨gx, ox + j * 11 + 7, none⟩ = some (.int .i64 p.sent.z) := rx 7 _ rfl
          have f7 : wr.cell? ⟨gy, oy + j * 11 + 7, none⟩ = some (.int .i64 q.sent.z) := ry 7 _ rfl
          have d8 : wr.cell? ⟨gx, ox + j * 11 + 8, none⟩ = some (.int .i64 p.got.r) := rx 8 _ rfl
          have f8 : wr.cell? ⟨gy, oy + j * 11 + 8, none⟩ = some (.int .i64 q.got.r) := ry 8 _ rfl
          have d9 : wr.cell? ⟨gx, ox + j * 11 + 9, none⟩ = some (.int .i64 p.got.s) := rx 9 _ rfl
          have f9 : wr.cell? ⟨gy, oy + j * 11 + 9, none⟩ = some (.int .i64 q.got.s) := ry 9 _ rfl
          have d10 : wr.cell? ⟨gx, ox + j * 11 + 10, none⟩ = some (.int .i64 p.got.z) := rx 10 _ rfl
          have f10 : wr.cell? ⟨gy, oy + j * 11 + 10, none⟩ = some (.int .i64 q.got.z) := ry 10 _ rfl
          clear hp hq hcellx hcelly hk1 hk2 rx ry
          by_cases hpq : p = q
          · have hj3 := Lib.hid (HJS.out hpq)
            subst hpq
            have qn := fun W => neqLine_same p W
            go_upto_region 11 with fail
            go_quiet (fail)
            go_wp2
            exact ⟨⟨j + 1, by omega, by simp, hj3, Lib.hid (below_drewN' hbi.out _)⟩, by simp [intOf]; omega⟩
          · have hne := Lib.hid (HJD.out hpq)
            have qn := fun W => neqLine_ne p q hpq W
            clear hpq
            go_upto_region 11 with fail
            go_quiet (fail)
            go_wp2
            go_ret
            exact ⟨_, rfl, ⟨fun h => (by cases h), fun h => absurd h.ls hne.out⟩, below_drewN' hBw.out _⟩
        · have HEL : Hid (ls = ls') := Lib.hid (by
            have e1 : j = ls.length := by have := HM.out; omega
            have := htj.out
            rw [e1, List.take_length, G6.out, List.take_length] at this
            exact this)
          go_wp2
          go_ret
          exact ⟨_, rfl, ⟨fun _ => ⟨rfl, rfl, rfl, rfl, HEQ.out, HEL.out⟩, fun _ => rfl⟩, hBw.out⟩
end Go.Proofs.YtlamogpdkmbeoaaGreatDoor
end PartMerA

section PartMerB
/- The reference's 'SameNote'. -/
set_option maxRecDepth 100000
namespace Go.Proofs.YtlamogpdkmbeoaaGreatDoor
open Go.RowKit Go.Lib Go.Shelf Go.Maps

theorem bytes_ne {a b : ByteArray} (h : ¬ a = b) : (a.toList == b.toList) = false := by
  cases e : (a.toList == b.toList) with
  | false => rfl
  | true => exact absurd (toList_inj e) h
theorem eqName_same (a b : Int) (w : World) : (binOp .eql 37 (.agg #[.int .i64 a, .int .i64 b]) (.agg #[.int .i64 a, .int .i64 b])).run Tryz.prog w = .ok (.bool true) w := by
  rw [eqName]; simp
theorem eqName_ne (a b a' b' : Int) (h : ¬ (a = a' ∧ b = b')) (w : World) : (binOp .eql 37 (.agg #[.int .i64 a, .int .i64 b]) (.agg #[.int .i64 a', .int .i64 b'])).run Tryz.prog w = .ok (.bool false) w := by
  rw [eqName]
  by_cases h1 : a = a'
  · have h2 : ¬ b = b' := fun e => h ⟨h1, e⟩
    simp [h2]
  · simp [h1]
/-- What is handed back tells whether S holds. -/
def Said (S : Prop) (e : Ending) : Prop := ∃ b, e = .returned (.bool b) ∧ (b = true ↔ S)
/-- Two notes of the same content. -/
structure SameN (x y : Note) : Prop where
  judge : x.nt.judge = y.nt.judge
  num : x.nt.num = y.nt.num
  clock : x.nt.clock = y.nt.clock
  kind : x.nt.kind = y.nt.kind
  call : x.nt.call = y.nt.call
  version : x.nt.version = y.nt.version
  a : x.nt.aC = y.nt.aC ∧ x.nt.aN = y.nt.aN
  b : x.nt.bC = y.nt.bC ∧ x.nt.bN = y.nt.bN
  ref : x.nt.rJ = y.nt.rJ ∧ x.nt.rN = y.nt.rN
  hash : x.nt.hash = y.nt.hash
  prev : x.nt.prev = y.nt.prev
  log : SameL x.nt.log y.nt.log x.js y.js x.ls y.ls
end Go.Proofs.YtlamogpdkmbeoaaGreatDoor
end PartMerB

section PartMerD
/- slices.Equal at numbers and at lines; 'logs.Same' at any two logs. -/
set_option maxRecDepth 100000
namespace Go.Proofs.YtlamogpdkmbeoaaGreatDoor
open Go.RowKit Go.Lib Go.Shelf Go.Maps

set_option maxHeartbeats 4000000 in
theorem EqInts_any (v1 v2 : Value) (xs ys : List Int) (w : World) (h1 : RowsAt encI 1 w v1 xs) (h2 : RowsAt encI 1 w v2 ys) :
    Calls Tryz.prog 146 #[v1, v2] w fun e w' => Said (xs = ys) e ∧ Below w.heap.size w w' := by
  have hm := h1.max
  unfold maxLen at hm
  have H1 := Lib.hid h1
  have H2 := Lib.hid h2
  obtain ⟨A1, c1, rfl⟩ := h1.len
  obtain ⟨A2, c2, rfl⟩ := h2.len
  clear h1 h2
  by_cases hn : xs.length = ys.length
  rotate_left
  · have hz : ¬ (xs.length : Int) = ys.length := by omega
    go_enter Tryz.func146, Tryz.ntmps146
    go_wp2
    go_ret
    exact ⟨⟨_, rfl, ⟨fun h => (by cases h), fun h => absurd (congrArg List.length h) hn⟩⟩, Below.refl _ _⟩
  have HN := Lib.hid hn
  rw [← hn]
  obtain ⟨n, hnn⟩ : ∃ n, n = xs.length := ⟨_, rfl⟩
  have HNN := Lib.hid hnn
  rw [← hnn] at hm ⊢
  clear hn hnn
  go_enter Tryz.func146, Tryz.ntmps146
  go_upto_region 4 with fail
  go_loopw [5, 13] (fun s5 s13 wr => ∃ k : Nat, k ≤ n ∧ s13 = .int .i64 k ∧ Hid (xs.take k = ys.take k) ∧ Hid (Below w.heap.size w wr)) (fun _ s13 _ => n - (intOf s13).toNat)
  case atStart => exact ⟨0, Nat.zero_le _, rfl, Lib.hid rfl, Lib.hid (Below.refl _ _)⟩
  case round =>
    obtain ⟨k, hk, rfl, htk, hb⟩ := hrel
    by_cases hlt : k < n
    · have hk1 : k < xs.length := by have := HNN.out; omega
      have hk2 : k < ys.length := by have := HNN.out; have := HN.out; omega
      obtain ⟨p, hp⟩ : ∃ p, p = xs[k] := ⟨_, rfl⟩
      obtain ⟨q, hq⟩ : ∃ q, q = ys[k] := ⟨_, rfl⟩
      have HJS : Hid (p = q → xs.take (k + 1) = ys.take (k + 1)) := Lib.hid fun e => by
        rw [List.take_succ_eq_append_getElem hk1, List.take_succ_eq_append_getElem hk2, htk.out, ← hp, ← hq, e]
      have HJD : Hid (p ≠ q → xs ≠ ys) := Lib.hid fun hne e => by
        apply hne
        rw [hp, hq]
        subst e
        rfl
      rcases H1.out.place with ⟨e0, _⟩ | ⟨gx, ox, cx', ex, _, _, hgx, hcellx⟩
      · rw [e0] at hk1; simp at hk1
      rcases H2.out.place with ⟨e0, _⟩ | ⟨gy, oy, cy', ey, _, _, hgy, hcelly⟩
      · rw [e0] at hk2; simp at hk2
      injection ex with ex e11 e12
      injection ey with ey e21 e22
      clear e11 e12 e21 e22
      subst ex
      subst ey
      have cp : wr.cell? ⟨gx, ox + k, none⟩ = some (.int .i64 p) := (hb.out.cell (p := ⟨gx, ox + k, none⟩) hgx).trans (by have := hcellx k hk1 0 _ rfl; rw [Nat.mul_one] at this; rw [hp]; exact this)
      have cq : wr.cell? ⟨gy, oy + k, none⟩ = some (.int .i64 q) := (hb.out.cell (p := ⟨gy, oy + k, none⟩) hgy).trans (by have := hcelly k hk2 0 _ rfl; rw [Nat.mul_one] at this; rw [hq]; exact this)
      clear hp hq hcellx hcelly hk1 hk2
      by_cases hpq : p = q
      · have hj3 := Lib.hid (HJS.out hpq)
        subst hpq
        go_upto_region 6 with fail
        go_quiet (fail)
        go_wp2
        exact ⟨⟨k + 1, by omega, by simp, hj3, Lib.hid (below_drewN' hb.out _)⟩, by simp [intOf]; omega⟩
      · have hne := Lib.hid (HJD.out hpq)
        go_upto_region 6 with fail
        go_quiet (fail)
        go_wp2
        go_ret
        exact ⟨⟨_, rfl, ⟨fun h => (by cases h), fun h => absurd h hne.out⟩⟩, below_drewN' hb.out _⟩
    · have HEQ : Hid (xs = ys) := Lib.hid (by
        have e1 : k = xs.length := by have := HNN.out; omega
        have := htk.out
        rw [e1, List.take_length, HN.out, List.take_length] at this
        exact this)
      go_wp2
      go_ret
      exact ⟨⟨_, rfl, ⟨fun _ => HEQ.out, fun _ => rfl⟩⟩, hb.out⟩
set_option maxHeartbeats 4000000 in
theorem EqLines_any (v1 v2 : Value) (xs ys : List Ln) (w : World) (h1 : RowsAt Ln.enc 11 w v1 xs) (h2 : RowsAt Ln.enc 11 w v2 ys) :
    Calls Tryz.prog 147 #[v1, v2] w fun e w' => Said (xs = ys) e ∧ Below w.heap.size w w' := by
  have hm := h1.max
  unfold maxLen at hm
  have H1 := Lib.hid h1
  have H2 := Lib.hid h2
  obtain ⟨A1, c1, rfl⟩ := h1.len
  obtain ⟨A2, c2, rfl⟩ := h2.len
  clear h1 h2
  by_cases hn : xs.length = ys.length
  rotate_left
  · have hz : ¬ (xs.length : Int) = ys.length := by omega
    go_enter Tryz.func147, Tryz.ntmps147
    go_wp2
    go_ret
    exact ⟨⟨_, rfl, ⟨fun h => (by cases h), fun h => absurd (congrArg List.length h) hn⟩⟩, Below.refl _ _⟩
  have HN := Lib.hid hn
  rw [← hn]
  obtain ⟨n, hnn⟩ : ∃ n, n = xs.length := ⟨_, rfl⟩
  have HNN := Lib.hid hnn
  rw [← hnn] at hm ⊢
  clear hn hnn
  go_enter Tryz.func147, Tryz.ntmps147
  go_upto_region 4 with fail
  go_loopw [5, 13] (fun s5 s13 wr => ∃ k : Nat, k ≤ n ∧ s13 = .int .i64 k ∧ Hid (xs.take k = ys.take k) ∧ Hid (Below w.heap.size w wr)) (fun _ s13 _ => n - (intOf s13).toNat)
  case atStart => exact ⟨0, Nat.zero_le _, rfl, Lib.hid rfl, Lib.hid (Below.refl _ _)⟩
  case round =>
    obtain ⟨k, hk, rfl, htk, hb⟩ := hrel
    by_cases hlt : k < n
    · have hk1 : k < xs.length := by have := HNN.out; omega
      have hk2 : k < ys.length := by have := HNN.out; have := HN.out; omega
      obtain ⟨p, hp⟩ : ∃ p, p = xs[k] := ⟨_, rfl⟩
      obtain ⟨q, hq⟩ : ∃ q, q = ys[k] := ⟨_, rfl⟩
      have HJS : Hid (p = q → xs.take (k + 1) = ys.take (k + 1)) := Lib.hid fun e => by
        rw [List.take_succ_eq_append_getElem hk1, List.take_succ_eq_append_getElem hk2, htk.out, ← hp, ← hq, e]
      have HJD : Hid (p ≠ q → xs ≠ ys) := Lib.hid fun hne e => by
        apply hne
        rw [hp, hq]
        subst e
        rfl
      rcases H1.out.place with ⟨e0, _⟩ | ⟨gx, ox, cx', ex, _, _, hgx, hcellx⟩
      · rw [e0] at hk1; simp at hk1
      rcases H2.out.place with ⟨e0, _⟩ | ⟨gy, oy, cy', ey, _, _, hgy, hcelly⟩
      · rw [e0] at hk2; simp at hk2
      injection ex with ex e11 e12
      injection ey with ey e21 e22
      clear e11 e12 e21 e22
      subst ex
      subst ey
      have rx : wr.rangeAt gx (ox + k * 11) p.enc := fun i u hi => (hb.out.cell (p := ⟨gx, ox + k * 11 + i, none⟩) hgx).trans (hcellx k hk1 i u (by rw [← hp]; exact hi))
      have ry : wr.rangeAt gy (oy + k * 11) q.enc := fun i u hi => (hb.out.cell (p := ⟨gy, oy + k * 11 + i, none⟩) hgy).trans (hcelly k hk2 i u (by rw [← hq]; exact hi))
      have d0 : wr.cell? ⟨gx, ox + k * 11, none⟩ = some (.int .i64 p.num) := rx 0 _ rfl
      have f0 : wr.cell? ⟨gy, oy + k * 11, none⟩ = some (.int .i64 q.num) := ry 0 _ rfl
      have d1 : wr.cell? ⟨gx, ox + k * 11 + 1, none⟩ = some (.int .i64 p.khz) := rx 1 _ rfl
      have f1 : wr.cell? ⟨gy, oy + k * 11 + 1, none⟩ = some (.int .i64 q.khz) := ry 1 _ rfl
      have d2 : wr.cell? ⟨gx, ox + k * 11 + 2, none⟩ = some (.int .i64 p.mode) := rx 2 _ rfl
      have f2 : wr.cell? ⟨gy, oy + k * 11 + 2, none⟩ = some (.int .i64 q.mode) := ry 2 _ rfl
      have d3 : wr.cell? ⟨gx, ox + k * 11 + 3, none⟩ = some (.int .i64 p.minute) := rx 3 _ rfl
      have f3 : wr.cell? ⟨gy, oy + k * 11 + 3, none⟩ = some (.int .i64 q.minute) := ry 3 _ rfl
      have d4 : wr.cell? ⟨gx, ox + k * 11 + 4, none⟩ = some (.string p.call) := rx 4 _ rfl
      have f4 : wr.cell? ⟨gy, oy + k * 11 + 4, none⟩ = some (.string q.call) := ry 4 _ rfl
      have d5 : wr.cell? ⟨gx, ox + k * 11 + 5, none⟩ = some (.int .i64 p.sent.r) := rx 5 _ rfl
      have f5 : wr.cell? ⟨gy, oy + k * 11 + 5, none⟩ = some (.int .i64 q.sent.r) := ry 5 _ rfl
      have d6 : wr.cell? ⟨gx, ox + k * 11 + 6, none⟩ = some (.int .i64 p.sent.s) := rx 6 _ rfl
      have f6 : wr.cell? ⟨gy, oy + k * 11 + 6, none⟩ = some (.int .i64 q.sent.s) := ry 6 _ rfl
      have d7 : wr.cell? ⟨gx, ox + k * 11 + 7, none⟩ = some (.int .i64 p.sent.z) := rx 7 _ rfl
      have f7 : wr.cell? ⟨gy, oy + k * 11 + 7, none⟩ = some (.int .i64 q.sent.z) := ry 7 _ rfl
      have d8 : wr.cell? ⟨gx, ox + k * 11 + 8, none⟩ = some (.int .i64 p.got.r) := rx 8 _ rfl
      have f8 : wr.cell? ⟨gy, oy + k * 11 + 8, none⟩ = some (.int .i64 q.got.r) := ry 8 _ rfl
      have d9 : wr.cell? ⟨gx, ox + k * 11 + 9, none⟩ = some (.int .i64 p.got.s) := rx 9 _ rfl
      have f9 : wr.cell? ⟨gy, oy + k * 11 + 9, none⟩ = some (.int .i64 q.got.s) := ry 9 _ rfl
      have d10 : wr.cell? ⟨gx, ox + k * 11 + 10, none⟩ = some (.int .i64 p.got.z) := rx 10 _ rfl
      have f10 : wr.cell? ⟨gy, oy + k * 11 + 10, none⟩ = some (.int .i64 q.got.z) := ry 10 _ rfl
      clear hp hq hcellx hcelly hk1 hk2 rx ry
      by_cases hpq : p = q
      · have hj3 := Lib.hid (HJS.out hpq)
        subst hpq
        have qn := fun W => neqLine_same p W
        go_upto_region 6 with fail
        go_quiet (fail)
        go_wp2
        exact ⟨⟨k + 1, by omega, by simp, hj3, Lib.hid (below_drewN' hb.out _)⟩, by simp [intOf]; omega⟩
      · have hne := Lib.hid (HJD.out hpq)
        have qn := fun W => neqLine_ne p q hpq W
        clear hpq
        go_upto_region 6 with fail
        go_quiet (fail)
        go_wp2
        go_ret
        exact ⟨⟨_, rfl, ⟨fun h => (by cases h), fun h => absurd h hne.out⟩⟩, below_drewN' hb.out _⟩
    · have HEQ : Hid (xs = ys) := Lib.hid (by
        have e1 : k = xs.length := by have := HNN.out; omega
        have := htk.out
        rw [e1, List.take_length, HN.out, List.take_length] at this
        exact this)
      go_wp2
      go_ret
      exact ⟨⟨_, rfl, ⟨fun _ => HEQ.out, fun _ => rfl⟩⟩, hb.out⟩
set_option maxHeartbeats 8000000 in
theorem lSame_any (x y : Lg) (js js' : List Int) (ls ls' : List Ln) (w : World) (hx : RowsAt encI 1 w x.jumps js) (hy : RowsAt encI 1 w y.jumps js') (hu : RowsAt Ln.enc 11 w x.lines ls) (hv : RowsAt Ln.enc 11 w y.lines ls') :
    Calls Tryz.prog 122 #[x.val, y.val] w fun e w' => Said (SameL x y js js' ls ls') e ∧ Below w.heap.size w w' := by
  obtain ⟨c1, a1, p1, l1, vj1, vl1⟩ := x
  obtain ⟨c2, a2, p2, l2, vj2, vl2⟩ := y
  dsimp only at hx hy hu hv
  obtain ⟨A1, k1, rfl⟩ := hx.len
  obtain ⟨A2, k2, rfl⟩ := hy.len
  obtain ⟨B1, m1, rfl⟩ := hu.len
  obtain ⟨B2, m2, rfl⟩ := hv.len
  obtain ⟨W1, hW1⟩ : ∃ W1, (w.alloc (.cells #[.string c1, .int .i64 a1, .int .i64 p1, .int .i64 l1, .slice A1 js.length k1, .slice B1 ls.length m1] 42)).alloc (.cells #[.string c2, .int .i64 a2, .int .i64 p2, .int .i64 l2, .slice A2 js'.length k2, .slice B2 ls'.length m2] 42) = W1 := ⟨_, rfl⟩
  have hb0 : Below w.heap.size w W1 := by rw [← hW1]; exact ((Below.refl _ w).alloc (Nat.le_refl _) _).alloc (by simp) _
  have hbX : Blk W1 w.heap.size 42 #[.string c1, .int .i64 a1, .int .i64 p1, .int .i64 l1, .slice A1 js.length k1, .slice B1 ls.length m1] := by rw [← hW1]; exact (Blk.new w _ _).alloc _
  have hbY : Blk W1 (w.heap.size + 1) 42 #[.string c2, .int .i64 a2, .int .i64 p2, .int .i64 l2, .slice A2 js'.length k2, .slice B2 ls'.length m2] := by rw [← hW1]; have := Blk.new (w.alloc (.cells #[.string c1, .int .i64 a1, .int .i64 p1, .int .i64 l1, .slice A1 js.length k1, .slice B1 ls.length m1] 42)) 42 #[.string c2, .int .i64 a2, .int .i64 p2, .int .i64 l2, .slice A2 js'.length k2, .slice B2 ls'.length m2]; simpa using this
  have hle : w.heap.size ≤ W1.heap.size := hb0.size
  have h5 := EqInts_any _ _ js js' W1 (hx.later hb0) (hy.later hb0)
  have H6 : Hid (∀ W, Below W1.heap.size W1 W → Calls Tryz.prog 147 #[.slice B1 ls.length m1, .slice B2 ls'.length m2] W fun e w' => Said (ls = ls') e ∧ Below W.heap.size W w') := Lib.hid fun W hW => EqLines_any _ _ ls ls' W (hu.later (hb0.trans (hW.mono hle))) (hv.later (hb0.trans (hW.mono hle)))
  have H5 := Lib.hid h5
  have HB0 := Lib.hid hb0
  have i1 : w.heap.size < W1.heap.size := by rw [← hW1]; simp; omega
  have i2 : w.heap.size + 1 < W1.heap.size := by rw [← hW1]; simp
  have X0 : W1.cell? ⟨w.heap.size, 0, none⟩ = some (.string c1) := hbX.cell 0
  have X1 : W1.cell? ⟨w.heap.size, 1, none⟩ = some (.int .i64 a1) := hbX.cell 1
  have X2 : W1.cell? ⟨w.heap.size, 2, none⟩ = some (.int .i64 p1) := hbX.cell 2
  have X3 : W1.cell? ⟨w.heap.size, 3, none⟩ = some (.int .i64 l1) := hbX.cell 3
  have X4 : W1.cell? ⟨w.heap.size, 4, none⟩ = some (.slice A1 js.length k1) := hbX.cell 4
  have X5 : W1.cell? ⟨w.heap.size, 5, none⟩ = some (.slice B1 ls.length m1) := hbX.cell 5
  have Y0 : W1.cell? ⟨w.heap.size + 1, 0, none⟩ = some (.string c2) := hbY.cell 0
  have Y1 : W1.cell? ⟨w.heap.size + 1, 1, none⟩ = some (.int .i64 a2) := hbY.cell 1
  have Y2 : W1.cell? ⟨w.heap.size + 1, 2, none⟩ = some (.int .i64 p2) := hbY.cell 2
  have Y3 : W1.cell? ⟨w.heap.size + 1, 3, none⟩ = some (.int .i64 l2) := hbY.cell 3
  have Y4 : W1.cell? ⟨w.heap.size + 1, 4, none⟩ = some (.slice A2 js'.length k2) := hbY.cell 4
  have Y5 : W1.cell? ⟨w.heap.size + 1, 5, none⟩ = some (.slice B2 ls'.length m2) := hbY.cell 5
  have HL : Hid (∀ W, Below W1.heap.size W1 W → W.cell? ⟨w.heap.size, 5, none⟩ = some (.slice B1 ls.length m1) ∧ W.cell? ⟨w.heap.size + 1, 5, none⟩ = some (.slice B2 ls'.length m2)) := Lib.hid fun W hW =>
    ⟨(hW.cell (p := ⟨w.heap.size, 5, none⟩) i1).trans X5, (hW.cell (p := ⟨w.heap.size + 1, 5, none⟩) i2).trans Y5⟩
  clear hb0 hbX hbY hx hy hu hv h5 i1 i2
  by_cases g1 : c1 = c2
  rotate_left
  · have e1 := bytes_ne g1
    have G1 := Lib.hid g1
    clear g1
    go_enter Tryz.func122, Tryz.ntmps122
    go_wp2
    go_ret
    exact ⟨⟨_, rfl, ⟨fun h => (by cases h), fun h => absurd h.call G1.out⟩⟩, HB0.out⟩
  by_cases g2 : a1 = a2
  rotate_left
  · subst g1
    go_enter Tryz.func122, Tryz.ntmps122
    go_wp2
    go_ret
    exact ⟨⟨_, rfl, ⟨fun h => (by cases h), fun h => absurd h.cat g2⟩⟩, HB0.out⟩
  by_cases g3 : p1 = p2
  rotate_left
  · subst g1 g2
    go_enter Tryz.func122, Tryz.ntmps122
    go_wp2
    go_ret
    exact ⟨⟨_, rfl, ⟨fun h => (by cases h), fun h => absurd h.pow g3⟩⟩, HB0.out⟩
  by_cases g4 : l1 = l2
  rotate_left
  · subst g1 g2 g3
    go_enter Tryz.func122, Tryz.ntmps122
    go_wp2
    go_ret
    exact ⟨⟨_, rfl, ⟨fun h => (by cases h), fun h => absurd h.cl g4⟩⟩, HB0.out⟩
  subst g1 g2 g3 g4
  have h5 := H5.out
  by_cases g5 : js = js'
  rotate_left
  · have G5 := Lib.hid g5
    have h5' := Lib.hid (h5.mono (fun e w' (h : Said (js = js') e ∧ Below W1.heap.size W1 w') => (show e = .returned (.bool false) ∧ Below W1.heap.size W1 w' from by
      obtain ⟨⟨b, rfl, hbb⟩, h2⟩ := h
      cases b
      · exact ⟨rfl, h2⟩
      · exact absurd (hbb.1 rfl) g5)))
    clear g5 h5
    go_enter Tryz.func122, Tryz.ntmps122
    go_wp2_with (go_at_call 146; (with_reducible refine h5'.out.mono ?_); rintro e w2 ⟨rfl, hb2⟩)
    go_ret
    exact ⟨⟨_, rfl, ⟨fun h => (by cases h), fun h => absurd h.js G5.out⟩⟩, HB0.out.trans (hb2.mono hle)⟩
  have G5 := Lib.hid g5
  have h5' := Lib.hid (h5.mono (fun e w' (h : Said (js = js') e ∧ Below W1.heap.size W1 w') => (show e = .returned (.bool true) ∧ Below W1.heap.size W1 w' from by
    obtain ⟨⟨b, rfl, hbb⟩, h2⟩ := h
    obtain rfl := hbb.2 g5
    exact ⟨rfl, h2⟩)))
  clear g5 h5
  go_enter Tryz.func122, Tryz.ntmps122
  go_wp2_with (first
    | (go_at_call 146; (with_reducible refine h5'.out.mono ?_); rintro e w2 ⟨rfl, hb2⟩; obtain ⟨x5, y5⟩ := HL.out w2 hb2; have h6 := H6.out w2 hb2)
    | (go_at_call 147; (with_reducible refine h6.mono ?_); rintro e w3 ⟨⟨b, rfl, hbb⟩, hb3⟩))
  go_ret
  exact ⟨⟨_, rfl, ⟨fun h => ⟨rfl, rfl, rfl, rfl, G5.out, hbb.1 h⟩, fun h => hbb.2 h.ls⟩⟩, HB0.out.trans ((hb2.trans (hb3.mono hb2.size)).mono hle)⟩
end Go.Proofs.YtlamogpdkmbeoaaGreatDoor
end PartMerD
