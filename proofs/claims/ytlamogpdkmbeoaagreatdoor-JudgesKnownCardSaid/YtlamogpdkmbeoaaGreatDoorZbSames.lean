/- The texts SamesA, SamesB, SamesC in one. -/
import Derived.Test.YtlamogpdkmbeoaaGreatDoorZbQuo
import Derived.Test.YtlamogpdkmbeoaaGreatDoorZbNoteC
import Derived.Test.YtlamogpdkmbeoaaGreatDoorZbMerA
import Derived.Test.YtlamogpdkmbeoaaGreatDoorZbRegP
set_option linter.unusedVariables false
set_option linter.unusedSimpArgs false
section PartSamesA
/- The reference's 'SameMarks', 'SameDuos', 'SameNames' at equal lists. -/
set_option maxRecDepth 100000
namespace Go.Proofs.YtlamogpdkmbeoaaGreatDoor
open Go.RowKit Go.Lib Go.Shelf Go.Maps

theorem neqMark_same (c : ByteArray) (n : Int) (w : World) : (binOp .neq 44 (.agg #[.string c, .int .i64 n]) (.agg #[.string c, .int .i64 n])).run Tryz.prog w = .ok (.bool false) w := by
  have u3 := Tryz.underlying3
  have a3 := Tryz.isAgg3
  have z3 := Tryz.sizeOf3
  have u9 := Tryz.underlying9
  have a9 := Tryz.isAgg9
  have z9 := Tryz.sizeOf9
  have hS : Tryz.prog.underlying 44 = some (.struct (Tryz.prog.fieldsOf 44)) := by kernel_rfl
  have hp : Tryz.prog.stoodInHeld 44 = false := by kernel_rfl
  rw [run_neq_struct, show (10000 : Nat) = 9999 + 1 from rfl, run_equalIn_agg w 9999 44 _ _ hS hp]
  simp only [Program.fieldsOf, Tryz.underlying44]
  go_simp
theorem neqDuo_same (a : ByteArray) (b : Int) (c : ByteArray) (d : Int) (w : World) : (binOp .neq 48 (.agg #[.string a, .int .i64 b, .string c, .int .i64 d]) (.agg #[.string a, .int .i64 b, .string c, .int .i64 d])).run Tryz.prog w = .ok (.bool false) w := by
  have am := Tryz.isAgg44
  have zm := Tryz.sizeOf44
  obtain ⟨i, hi⟩ : ∃ i, Tryz.prog.info? 44 = some i := by
    have h : (Tryz.prog.info? 44).isSome = true := by kernel_rfl
    exact Option.isSome_iff_exists.1 h
  have hc : Tryz.prog.cellsOf 44 = 2 := by kernel_rfl
  rw [run_neq_struct, show (10000 : Nat) = 9999 + 1 from rfl, run_equalIn_array w 9999 _ _ Tryz.underlying48 hi, hc]
  simp only [List.range, List.range.loop, Op.eqItems]
  go_simp
theorem neqName_same (a b : Int) (w : World) : (binOp .neq 37 (.agg #[.int .i64 a, .int .i64 b]) (.agg #[.int .i64 a, .int .i64 b])).run Tryz.prog w = .ok (.bool false) w := by
  have := neqName a b a b w
  simpa using this
set_option maxHeartbeats 4000000 in
theorem SameMarks_true (v1 v2 : Value) (xs : List MarkK) (w : World) (h1 : RowsAt cellsMk 2 w v1 xs) (h2 : RowsAt cellsMk 2 w v2 xs) :
    Calls Tryz.prog 50 #[v1, v2] w fun e w' => e = .returned (.bool true) ∧ Below w.heap.size w w' := by
  have hm := h1.max
  unfold maxLen at hm
  have UNm := Tryz.underlying44
  have H1 := Lib.hid h1
  have H2 := Lib.hid h2
  obtain ⟨A1, c1, rfl⟩ := h1.len
  obtain ⟨A2, c2, rfl⟩ := h2.len
  obtain ⟨n, hnn⟩ : ∃ n, n = xs.length := ⟨_, rfl⟩
  have HNN := Lib.hid hnn
  rw [← hnn] at hm ⊢
  clear h1 h2 hnn
  go_enter Tryz.func50, Tryz.ntmps50
  go_upto_region 4 with fail
  go_loopw [5] (fun s5 wr => ∃ k : Nat, k ≤ n ∧ s5 = .int .i64 k ∧ Hid (Below w.heap.size w wr)) (fun s5 _ => n - (intOf s5).toNat)
  case atStart => exact ⟨0, Nat.zero_le _, rfl, Lib.hid (Below.refl _ _)⟩
  case round =>
    obtain ⟨k, hk, rfl, hb⟩ := hrel
    by_cases hlt : k < n
    · have hk1 : k < xs.length := by have := HNN.out; omega
      obtain ⟨x, hx⟩ : ∃ x, x = xs[k] := ⟨_, rfl⟩
      rcases H1.out.place with ⟨e0, _⟩ | ⟨g1, o1, c1', e1, _, _, hg1, hcell1⟩
      · rw [e0] at hk1; simp at hk1
      rcases H2.out.place with ⟨e0, _⟩ | ⟨g2, o2, c2', e2, _, _, hg2, hcell2⟩
      · rw [e0] at hk1; simp at hk1
      injection e1 with e1 e11 e12
      injection e2 with e2 e21 e22
      clear e11 e12 e21 e22
      subst e1
      subst e2
      obtain ⟨xa, xb⟩ := x
      have hcx : ∀ W, Below w.heap.size w W → W.cell? ⟨g1, o1 + k * 2, none⟩ = some (.string xa) ∧ W.cell? ⟨g1, o1 + k * 2 + 1, none⟩ = some (.int .i64 xb) := fun W hW => ⟨(hW.cell (p := ⟨g1, o1 + k * 2, none⟩) hg1).trans (hcell1 k hk1 0 _ (by rw [← hx]; rfl)), (hW.cell (p := ⟨g1, o1 + k * 2 + 1, none⟩) hg1).trans (hcell1 k hk1 1 _ (by rw [← hx]; rfl))⟩
      have hcy : ∀ W, Below w.heap.size w W → W.cell? ⟨g2, o2 + k * 2, none⟩ = some (.string xa) ∧ W.cell? ⟨g2, o2 + k * 2 + 1, none⟩ = some (.int .i64 xb) := fun W hW => ⟨(hW.cell (p := ⟨g2, o2 + k * 2, none⟩) hg2).trans (hcell2 k hk1 0 _ (by rw [← hx]; rfl)), (hW.cell (p := ⟨g2, o2 + k * 2 + 1, none⟩) hg2).trans (hcell2 k hk1 1 _ (by rw [← hx]; rfl))⟩
      obtain ⟨x0, x1⟩ := hcx wr hb.out
      obtain ⟨y0, y1⟩ := hcy wr hb.out
      have qn := fun W => neqMark_same xa xb W
      clear hx hcell1 hcell2 hcx hcy hk1
      go_upto_region 6 with fail
      go_quiet (fail)
      obtain ⟨w1, hw1⟩ : ∃ w1, wr.drewN nq = w1 := ⟨_, rfl⟩
      have hb1 : Below w.heap.size w w1 := by rw [← hw1]; exact below_drewN' hb.out _
      rw [hw1]
      have HB1 := Lib.hid hb1
      clear hw1 hb1
      go_wp2
      exact ⟨⟨k + 1, by omega, by simp, HB1⟩, by simp [intOf]; omega⟩
    · go_wp2
      go_ret
      exact ⟨rfl, hb.out⟩
set_option maxHeartbeats 4000000 in
theorem SameDuos_true (v1 v2 : Value) (xs : List DuoK) (w : World) (h1 : RowsAt cellsDu 4 w v1 xs) (h2 : RowsAt cellsDu 4 w v2 xs) :
    Calls Tryz.prog 51 #[v1, v2] w fun e w' => e = .returned (.bool true) ∧ Below w.heap.size w w' := by
  have hm := h1.max
  unfold maxLen at hm
  have UNm := Tryz.underlying48
  have H1 := Lib.hid h1
  have H2 := Lib.hid h2
  obtain ⟨A1, c1, rfl⟩ := h1.len
  obtain ⟨A2, c2, rfl⟩ := h2.len
  obtain ⟨n, hnn⟩ : ∃ n, n = xs.length := ⟨_, rfl⟩
  have HNN := Lib.hid hnn
  rw [← hnn] at hm ⊢
  clear h1 h2 hnn
  go_enter Tryz.func51, Tryz.ntmps51
  go_upto_region 4 with fail
  go_loopw [5] (fun s5 wr => ∃ k : Nat, k ≤ n ∧ s5 = .int .i64 k ∧ Hid (Below w.heap.size w wr)) (fun s5 _ => n - (intOf s5).toNat)
  case atStart => exact ⟨0, Nat.zero_le _, rfl, Lib.hid (Below.refl _ _)⟩
  case round =>
    obtain ⟨k, hk, rfl, hb⟩ := hrel
    by_cases hlt : k < n
    · have hk1 : k < xs.length := by have := HNN.out; omega
      obtain ⟨x, hx⟩ : ∃ x, x = xs[k] := ⟨_, rfl⟩
      rcases H1.out.place with ⟨e0, _⟩ | ⟨g1, o1, c1', e1, _, _, hg1, hcell1⟩
      · rw [e0] at hk1; simp at hk1
      rcases H2.out.place with ⟨e0, _⟩ | ⟨g2, o2, c2', e2, _, _, hg2, hcell2⟩
      · rw [e0] at hk1; simp at hk1
      injection e1 with e1 e11 e12
      injection e2 with e2 e21 e22
      clear e11 e12 e21 e22
      subst e1
      subst e2
      obtain ⟨⟨xa, xb⟩, ⟨xc, xd⟩⟩ := x
      have hcx : ∀ W, Below w.heap.size w W → W.cell? ⟨g1, o1 + k * 4, none⟩ = some (.string xa) ∧ W.cell? ⟨g1, o1 + k * 4 + 1, none⟩ = some (.int .i64 xb) ∧ W.cell? ⟨g1, o1 + k * 4 + 2, none⟩ = some (.string xc) ∧ W.cell? ⟨g1, o1 + k * 4 + 3, none⟩ = some (.int .i64 xd) := fun W hW => ⟨(hW.cell (p := ⟨g1, o1 + k * 4, none⟩) hg1).trans (hcell1 k hk1 0 _ (by rw [← hx]; rfl)), (hW.cell (p := ⟨g1, o1 + k * 4 + 1, none⟩) hg1).trans (hcell1 k hk1 1 _ (by rw [← hx]; rfl)), (hW.cell (p := ⟨g1, o1 + k * 4 + 2, none⟩) hg1).trans (hcell1 k hk1 2 _ (by rw [← hx]; rfl)), (hW.cell (p := ⟨g1, o1 + k * 4 + 3, none⟩) hg1).trans (hcell1 k hk1 3 _ (by rw [← hx]; rfl))⟩
      have hcy : ∀ W, Below w.heap.size w W → W.cell? ⟨g2, o2 + k * 4, none⟩ = some (.string xa) ∧ W.cell? ⟨g2, o2 + k * 4 + 1, none⟩ = some (.int .i64 xb) ∧ W.cell? ⟨g2, o2 + k * 4 + 2, none⟩ = some (.string xc) ∧ W.cell? ⟨g2, o2 + k * 4 + 3, none⟩ = some (.int .i64 xd) := fun W hW => ⟨(hW.cell (p := ⟨g2, o2 + k * 4, none⟩) hg2).trans (hcell2 k hk1 0 _ (by rw [← hx]; rfl)), (hW.cell (p := ⟨g2, o2 + k * 4 + 1, none⟩) hg2).trans (hcell2 k hk1 1 _ (by rw [← hx]; rfl)), (hW.cell (p := ⟨g2, o2 + k * 4 + 2, none⟩) hg2).trans (hcell2 k hk1 2 _ (by rw [← hx]; rfl)), (hW.cell (p := ⟨g2, o2 + k * 4 + 3, none⟩) hg2).trans (hcell2 k hk1 3 _ (by rw [← hx]; rfl))⟩
      obtain ⟨x0, x1, x2, x3⟩ := hcx wr hb.out
      obtain ⟨y0, y1, y2, y3⟩ := hcy wr hb.out
      have qn := fun W => neqDuo_same xa xb xc xd W
      clear hx hcell1 hcell2 hcx hcy hk1
      go_upto_region 6 with fail
      go_quiet (fail)
      obtain ⟨w1, hw1⟩ : ∃ w1, wr.drewN nq = w1 := ⟨_, rfl⟩
      have hb1 : Below w.heap.size w w1 := by rw [← hw1]; exact below_drewN' hb.out _
      rw [hw1]
      have HB1 := Lib.hid hb1
      clear hw1 hb1
      go_wp2
      exact ⟨⟨k + 1, by omega, by simp, HB1⟩, by simp [intOf]; omega⟩
    · go_wp2
      go_ret
      exact ⟨rfl, hb.out⟩
set_option maxHeartbeats 4000000 in
theorem SameNames_true (v1 v2 : Value) (xs : List NameK) (w : World) (h1 : RowsAt NameK.cells 2 w v1 xs) (h2 : RowsAt NameK.cells 2 w v2 xs) :
    Calls Tryz.prog 52 #[v1, v2] w fun e w' => e = .returned (.bool true) ∧ Below w.heap.size w w' := by
  have hm := h1.max
  unfold maxLen at hm
  have UNm := Tryz.underlying37
  have H1 := Lib.hid h1
  have H2 := Lib.hid h2
  obtain ⟨A1, c1, rfl⟩ := h1.len
  obtain ⟨A2, c2, rfl⟩ := h2.len
  obtain ⟨n, hnn⟩ : ∃ n, n = xs.length := ⟨_, rfl⟩
  have HNN := Lib.hid hnn
  rw [← hnn] at hm ⊢
  clear h1 h2 hnn
  go_enter Tryz.func52, Tryz.ntmps52
  go_upto_region 4 with fail
  go_loopw [5] (fun s5 wr => ∃ k : Nat, k ≤ n ∧ s5 = .int .i64 k ∧ Hid (Below w.heap.size w wr)) (fun s5 _ => n - (intOf s5).toNat)
  case atStart => exact ⟨0, Nat.zero_le _, rfl, Lib.hid (Below.refl _ _)⟩
  case round =>
    obtain ⟨k, hk, rfl, hb⟩ := hrel
    by_cases hlt : k < n
    · have hk1 : k < xs.length := by have := HNN.out; omega
      obtain ⟨x, hx⟩ : ∃ x, x = xs[k] := ⟨_, rfl⟩
      rcases H1.out.place with ⟨e0, _⟩ | ⟨g1, o1, c1', e1, _, _, hg1, hcell1⟩
      · rw [e0] at hk1; simp at hk1
      rcases H2.out.place with ⟨e0, _⟩ | ⟨g2, o2, c2', e2, _, _, hg2, hcell2⟩
      · rw [e0] at hk1; simp at hk1
      injection e1 with e1 e11 e12
      injection e2 with e2 e21 e22
      clear e11 e12 e21 e22
      subst e1
      subst e2
      obtain ⟨xa, xb⟩ := x
      have hcx : ∀ W, Below w.heap.size w W → W.cell? ⟨g1, o1 + k * 2, none⟩ = some (.int .i64 xa) ∧ W.cell? ⟨g1, o1 + k * 2 + 1, none⟩ = some (.int .i64 xb) := fun W hW => ⟨(hW.cell (p := ⟨g1, o1 + k * 2, none⟩) hg1).trans (hcell1 k hk1 0 _ (by rw [← hx]; rfl)), (hW.cell (p := ⟨g1, o1 + k * 2 + 1, none⟩) hg1).trans (hcell1 k hk1 1 _ (by rw [← hx]; rfl))⟩
      have hcy : ∀ W, Below w.heap.size w W → W.cell? ⟨g2, o2 + k * 2, none⟩ = some (.int .i64 xa) ∧ W.cell? ⟨g2, o2 + k * 2 + 1, none⟩ = some (.int .i64 xb) := fun W hW => ⟨(hW.cell (p := ⟨g2, o2 + k * 2, none⟩) hg2).trans (hcell2 k hk1 0 _ (by rw [← hx]; rfl)), (hW.cell (p := ⟨g2, o2 + k * 2 + 1, none⟩) hg2).trans (hcell2 k hk1 1 _ (by rw [← hx]; rfl))⟩
      obtain ⟨x0, x1⟩ := hcx wr hb.out
      obtain ⟨y0, y1⟩ := hcy wr hb.out
      have qn := fun W => neqName_same xa xb W
      clear hx hcell1 hcell2 hcx hcy hk1
      go_upto_region 6 with fail
      go_quiet (fail)
      obtain ⟨w1, hw1⟩ : ∃ w1, wr.drewN nq = w1 := ⟨_, rfl⟩
      have hb1 : Below w.heap.size w w1 := by rw [← hw1]; exact below_drewN' hb.out _
      rw [hw1]
      have HB1 := Lib.hid hb1
      clear hw1 hb1
      go_wp2
      exact ⟨⟨k + 1, by omega, by simp, HB1⟩, by simp [intOf]; omega⟩
    · go_wp2
      go_ret
      exact ⟨rfl, hb.out⟩
end Go.Proofs.YtlamogpdkmbeoaaGreatDoor
end PartSamesA

section PartSamesB
/- The reference's 'SameEntry' and 'SameRegister' at registers of the same content. -/
set_option maxRecDepth 100000
namespace Go.Proofs.YtlamogpdkmbeoaaGreatDoor
open Go.RowKit Go.Lib Go.Shelf Go.Maps

set_option maxHeartbeats 4000000 in
theorem sameEntry_raw (lc : ByteArray) (ca po cl : Int) (vj vl vj' vl' : Value) (ve j n : Int) (js : List Int) (ls : List Ln) (w : World) (hj : RowsAt encI 1 w vj js) (hj' : RowsAt encI 1 w vj' js) (hl : RowsAt Ln.enc 11 w vl ls) (hl' : RowsAt Ln.enc 11 w vl' ls) :
    Calls Tryz.prog 29 #[.agg #[.string lc, .int .i64 ca, .int .i64 po, .int .i64 cl, vj, vl, .int .i64 ve, .int .i64 j, .int .i64 n], .agg #[.string lc, .int .i64 ca, .int .i64 po, .int .i64 cl, vj', vl', .int .i64 ve, .int .i64 j, .int .i64 n]] w fun e w' => e = .returned (.bool true) ∧ Below w.heap.size w w' := by
  obtain ⟨Aj, cj, rfl⟩ := hj.len
  obtain ⟨Bj, dj, rfl⟩ := hj'.len
  obtain ⟨Al, el, rfl⟩ := hl.len
  obtain ⟨Bl, dl, rfl⟩ := hl'.len
  obtain ⟨W, hW⟩ : ∃ W, (w.alloc (.cells #[.string lc, .int .i64 ca, .int .i64 po, .int .i64 cl, .slice Aj js.length cj, .slice Al ls.length el, .int .i64 ve, .int .i64 j, .int .i64 n] 75)).alloc (.cells #[.string lc, .int .i64 ca, .int .i64 po, .int .i64 cl, .slice Bj js.length dj, .slice Bl ls.length dl, .int .i64 ve, .int .i64 j, .int .i64 n] 75) = W := ⟨_, rfl⟩
  have hb : Below w.heap.size w W := by rw [← hW]; exact ((Below.refl _ w).alloc (Nat.le_refl _) _).alloc (by simp) _
  have hX : Blk W w.heap.size 75 #[.string lc, .int .i64 ca, .int .i64 po, .int .i64 cl, .slice Aj js.length cj, .slice Al ls.length el, .int .i64 ve, .int .i64 j, .int .i64 n] := by rw [← hW]; exact (Blk.new w _ _).alloc _
  have hY : Blk W (w.heap.size + 1) 75 #[.string lc, .int .i64 ca, .int .i64 po, .int .i64 cl, .slice Bj js.length dj, .slice Bl ls.length dl, .int .i64 ve, .int .i64 j, .int .i64 n] := by
    rw [← hW]
    have := Blk.new (w.alloc (.cells #[.string lc, .int .i64 ca, .int .i64 po, .int .i64 cl, .slice Aj js.length cj, .slice Al ls.length el, .int .i64 ve, .int .i64 j, .int .i64 n] 75)) 75 #[.string lc, .int .i64 ca, .int .i64 po, .int .i64 cl, .slice Bj js.length dj, .slice Bl ls.length dl, .int .i64 ve, .int .i64 j, .int .i64 n]
    rwa [World.size_alloc] at this
  have hs := SameLog_any ⟨lc, ca, po, cl, .slice Aj js.length cj, .slice Al ls.length el⟩ ⟨lc, ca, po, cl, .slice Bj js.length dj, .slice Bl ls.length dl⟩ js js ls ls W (hj.later hb) (hj'.later hb) (hl.later hb) (hl'.later hb)
  dsimp only [Lg.val, Lg.enc] at hs
  have qn := fun W => eqName_same j n W
  have HX := Lib.hid hX
  have HY := Lib.hid hY
  have HB := Lib.hid hb
  obtain ⟨nj, hnj⟩ : ∃ k, k = js.length := ⟨_, rfl⟩
  obtain ⟨nl, hnl⟩ : ∃ k, k = ls.length := ⟨_, rfl⟩
  have x0 : W.cell? ⟨w.heap.size, 0, none⟩ = some (.string lc) := hX.cell 0
  have x1 : W.cell? ⟨w.heap.size, 1, none⟩ = some (.int .i64 ca) := hX.cell 1
  have x2 : W.cell? ⟨w.heap.size, 2, none⟩ = some (.int .i64 po) := hX.cell 2
  have x3 : W.cell? ⟨w.heap.size, 3, none⟩ = some (.int .i64 cl) := hX.cell 3
  have x4 : W.cell? ⟨w.heap.size, 4, none⟩ = some (.slice Aj js.length cj) := hX.cell 4
  have x5 : W.cell? ⟨w.heap.size, 5, none⟩ = some (.slice Al ls.length el) := hX.cell 5
  have y0 : W.cell? ⟨w.heap.size + 1, 0, none⟩ = some (.string lc) := hY.cell 0
  have y1 : W.cell? ⟨w.heap.size + 1, 1, none⟩ = some (.int .i64 ca) := hY.cell 1
  have y2 : W.cell? ⟨w.heap.size + 1, 2, none⟩ = some (.int .i64 po) := hY.cell 2
  have y3 : W.cell? ⟨w.heap.size + 1, 3, none⟩ = some (.int .i64 cl) := hY.cell 3
  have y4 : W.cell? ⟨w.heap.size + 1, 4, none⟩ = some (.slice Bj js.length dj) := hY.cell 4
  have y5 : W.cell? ⟨w.heap.size + 1, 5, none⟩ = some (.slice Bl ls.length dl) := hY.cell 5
  rw [← hnj] at x4 y4 hs ⊢
  rw [← hnl] at x5 y5 hs ⊢
  have HSL : Hid (SameL ⟨lc, ca, po, cl, .slice Aj nj cj, .slice Al nl el⟩ ⟨lc, ca, po, cl, .slice Bj nj dj, .slice Bl nl dl⟩ js js ls ls) := Lib.hid ⟨rfl, rfl, rfl, rfl, rfl, rfl⟩
  have UL := Tryz.underlying42
  have UN := Tryz.underlying37
  clear hj hj' hl hl' hb hX hY
  rw [← hnj, ← hnl] at hW
  clear hnj hnl
  go_enter Tryz.func29, Tryz.ntmps29
  go_upto_region 1 with fail
  clear hW
  go_wp2_with (go_at_call 55; (with_reducible refine hs.mono ?_); rintro e w1 ⟨b, rfl, hbb, hb1⟩; obtain rfl : b = true := hbb.2 HSL.out; clear hbb; have p6 : w1.cell? ⟨w.heap.size, 6, none⟩ = some (.int .i64 ve) := (HX.out.later hb1).cell 6; have p7 : w1.cell? ⟨w.heap.size, 7, none⟩ = some (.int .i64 j) := (HX.out.later hb1).cell 7; have p8 : w1.cell? ⟨w.heap.size, 8, none⟩ = some (.int .i64 n) := (HX.out.later hb1).cell 8; have r6 : w1.cell? ⟨w.heap.size + 1, 6, none⟩ = some (.int .i64 ve) := (HY.out.later hb1).cell 6; have r7 : w1.cell? ⟨w.heap.size + 1, 7, none⟩ = some (.int .i64 j) := (HY.out.later hb1).cell 7; have r8 : w1.cell? ⟨w.heap.size + 1, 8, none⟩ = some (.int .i64 n) := (HY.out.later hb1).cell 8)
  go_ret
  exact ⟨rfl, HB.out.trans (hb1.mono HB.out.size)⟩
theorem can_same {x y : Note} (h : can x = can y) : SameN x y := by
  have h1 : SameN (can x) x := sameN_with x _ _
  have h2 : SameN (can y) y := sameN_with y _ _
  rw [h] at h1
  exact h1.symm.trans h2
theorem SameEntry_true (x y : Ent) (w : World) (hc : can x.note = can y.note) (hj : RowsAt encI 1 w x.vj x.note.js) (hl : RowsAt Ln.enc 11 w x.vl x.note.ls) (hj' : RowsAt encI 1 w y.vj y.note.js) (hl' : RowsAt Ln.enc 11 w y.vl y.note.ls) :
    Calls Tryz.prog 29 #[.agg x.enc.toArray, .agg y.enc.toArray] w fun e w' => e = .returned (.bool true) ∧ Below w.heap.size w w' := by
  have hs := can_same hc
  rw [← hs.log.js] at hj'
  rw [← hs.log.ls] at hl'
  have := sameEntry_raw x.note.nt.log.call x.note.nt.log.cat x.note.nt.log.pow x.note.nt.log.cl x.vj x.vl y.vj y.vl x.note.nt.version x.note.nt.judge x.note.nt.num x.note.js x.note.ls w hj hj' hl hl'
  dsimp only [Ent.enc]
  rw [← hs.log.call, ← hs.log.cat, ← hs.log.pow, ← hs.log.cl, ← hs.version, ← hs.judge, ← hs.num]
  exact this
end Go.Proofs.YtlamogpdkmbeoaaGreatDoor
end PartSamesB

section PartSamesC
/- The reference's 'SameRegister' at registers of the same content. -/
set_option maxRecDepth 100000
namespace Go.Proofs.YtlamogpdkmbeoaaGreatDoor
open Go.RowKit Go.Lib Go.Shelf Go.Maps

/-- A register's lists in memory. -/
structure RegMem (w : World) (ev u1 u2 u3 pv pb u4 : Value) (es : List Ent) (x1 : List MarkK) (x2 x3 : List DuoK) (rs : List RL) (pn x4 : List NameK) : Prop where
  ents : RowsAt Ent.enc 9 w ev es
  each : ∀ x ∈ es, RowsAt encI 1 w x.vj x.note.js ∧ RowsAt Ln.enc 11 w x.vl x.note.ls
  struck : RowsAt cellsMk 2 w u1 x1
  force : RowsAt cellsDu 4 w u2 x2
  forbid : RowsAt cellsDu 4 w u3 x3
  pend : RulsAt w pv rs
  published : RowsAt NameK.cells 2 w pb pn
  conflicts : RowsAt NameK.cells 2 w u4 x4
theorem RegMem.later {w w' : World} {ev u1 u2 u3 pv pb u4 : Value} {es : List Ent} {x1 : List MarkK} {x2 x3 : List DuoK} {rs : List RL} {pn x4 : List NameK} (h : RegMem w ev u1 u2 u3 pv pb u4 es x1 x2 x3 rs pn x4) (hb : Below w.heap.size w w') : RegMem w' ev u1 u2 u3 pv pb u4 es x1 x2 x3 rs pn x4 :=
  ⟨h.ents.later hb, fun x hx => ⟨(h.each x hx).1.later hb, (h.each x hx).2.later hb⟩, h.struck.later hb, h.force.later hb, h.forbid.later hb, h.pend.later hb, h.published.later hb, h.conflicts.later hb⟩
set_option maxHeartbeats 8000000 in
theorem SameRegister_true (w : World) (ev u1 u2 u3 pv pb u4 ev' u1' u2' u3' pv' pb' u4' : Value) (hs : Int) (es es' : List Ent) (x1 : List MarkK) (x2 x3 : List DuoK) (rs rs' : List RL) (pn x4 : List NameK)
    (h : RegMem w ev u1 u2 u3 pv pb u4 es x1 x2 x3 rs pn x4) (h' : RegMem w ev' u1' u2' u3' pv' pb' u4' es' x1 x2 x3 rs' pn x4) (he : es.map (fun e => can e.note) = es'.map fun e => can e.note) (hd : rs.map RL.dat = rs'.map RL.dat) :
    Calls Tryz.prog 23 #[.agg #[ev, u1, u2, u3, pv, pb, .int .i64 hs, u4], .agg #[ev', u1', u2', u3', pv', pb', .int .i64 hs, u4']] w fun e w' => e = .returned (.bool true) ∧ Below w.heap.size w w' := by
  have hm := h.ents.max
  unfold maxLen at hm
  have UE := Tryz.underlying75
  have hln : es.length = es'.length := by have := congrArg List.length he; simpa using this
  have hrn : rs.length = rs'.length := by have := congrArg List.length hd; simpa using this
  have H1 := Lib.hid h
  have H2 := Lib.hid h'
  obtain ⟨A, ac, rfl⟩ := h.ents.len
  obtain ⟨A', ac', rfl⟩ := h'.ents.len
  obtain ⟨B, bc, rfl⟩ := h.struck.len
  obtain ⟨B', bc', rfl⟩ := h'.struck.len
  obtain ⟨C, cc, rfl⟩ := h.force.len
  obtain ⟨C', cc', rfl⟩ := h'.force.len
  obtain ⟨D, dc, rfl⟩ := h.forbid.len
  obtain ⟨D', dc', rfl⟩ := h'.forbid.len
  obtain ⟨E, ec, rfl⟩ := h.pend.row.len
  obtain ⟨E', ec', rfl⟩ := h'.pend.row.len
  obtain ⟨F, fc, rfl⟩ := h.published.len
  obtain ⟨F', fc', rfl⟩ := h'.published.len
  obtain ⟨G, gc, rfl⟩ := h.conflicts.len
  obtain ⟨G', gc', rfl⟩ := h'.conflicts.len
  rw [← hln, ← hrn]
  rw [← hln, ← hrn] at H2
  obtain ⟨nA, hnA⟩ : ∃ k, k = es.length := ⟨_, rfl⟩
  obtain ⟨nB, hnB⟩ : ∃ k, k = x1.length := ⟨_, rfl⟩
  obtain ⟨nC, hnC⟩ : ∃ k, k = x2.length := ⟨_, rfl⟩
  obtain ⟨nD, hnD⟩ : ∃ k, k = x3.length := ⟨_, rfl⟩
  obtain ⟨nE, hnE⟩ : ∃ k, k = rs.length := ⟨_, rfl⟩
  obtain ⟨nF, hnF⟩ : ∃ k, k = pn.length := ⟨_, rfl⟩
  obtain ⟨nG, hnG⟩ : ∃ k, k = x4.length := ⟨_, rfl⟩
  rw [← hnA, ← hnB, ← hnC, ← hnD, ← hnE, ← hnF, ← hnG]
  rw [← hnA] at hm
  rw [← hnA, ← hnB, ← hnC, ← hnD, ← hnE, ← hnF, ← hnG] at H1 H2
  have HNN := Lib.hid (And.intro hnA hln)
  have HDAT := Lib.hid hd
  have HCAN := Lib.hid he
  clear h h' he hd hln hrn hnA hnB hnC hnD hnE hnF hnG
  obtain ⟨W, hW⟩ : ∃ W, (w.alloc (.cells #[.slice A nA ac, .slice B nB bc, .slice C nC cc, .slice D nD dc, .slice E nE ec, .slice F nF fc, .int .i64 hs, .slice G nG gc] 32)).alloc (.cells #[.slice A' nA ac', .slice B' nB bc', .slice C' nC cc', .slice D' nD dc', .slice E' nE ec', .slice F' nF fc', .int .i64 hs, .slice G' nG gc'] 32) = W := ⟨_, rfl⟩
  have hb : Below w.heap.size w W := by rw [← hW]; exact ((Below.refl _ w).alloc (Nat.le_refl _) _).alloc (by simp) _
  have hX : Blk W w.heap.size 32 #[.slice A nA ac, .slice B nB bc, .slice C nC cc, .slice D nD dc, .slice E nE ec, .slice F nF fc, .int .i64 hs, .slice G nG gc] := by rw [← hW]; exact (Blk.new w _ _).alloc _
  have hY : Blk W (w.heap.size + 1) 32 #[.slice A' nA ac', .slice B' nB bc', .slice C' nC cc', .slice D' nD dc', .slice E' nE ec', .slice F' nF fc', .int .i64 hs, .slice G' nG gc'] := by
    rw [← hW]
    have := Blk.new (w.alloc (.cells #[.slice A nA ac, .slice B nB bc, .slice C nC cc, .slice D nD dc, .slice E nE ec, .slice F nF fc, .int .i64 hs, .slice G nG gc] 32)) 32 #[.slice A' nA ac', .slice B' nB bc', .slice C' nC cc', .slice D' nD dc', .slice E' nE ec', .slice F' nF fc', .int .i64 hs, .slice G' nG gc']
    rwa [World.size_alloc] at this
  have HX := Lib.hid hX
  have HY := Lib.hid hY
  have HB := Lib.hid hb
  have lX := hX.lt
  have lY := hY.lt
  have hs0 : w.heap.size ≤ W.heap.size := hb.size
  have px0 : W.cell? ⟨w.heap.size, 0, none⟩ = some (.slice A nA ac) := HX.out.cell 0
  have py0 : W.cell? ⟨w.heap.size + 1, 0, none⟩ = some (.slice A' nA ac') := HY.out.cell 0
  clear hb hX hY
  go_enter Tryz.func23, Tryz.ntmps23
  go_upto_region 4 with fail
  clear hW
  go_loopw [5] (fun s5 wr => ∃ k : Nat, k ≤ nA ∧ s5 = .int .i64 k ∧ Hid (Below W.heap.size W wr)) (fun s5 _ => nA - (intOf s5).toNat)
  case atStart => exact ⟨0, Nat.zero_le _, rfl, Lib.hid (Below.refl _ _)⟩
  case round =>
    obtain ⟨k, hk, rfl, hb⟩ := hrel
    clear px0 py0
    have px0 : wr.cell? ⟨w.heap.size, 0, none⟩ = some (.slice A nA ac) := (HX.out.later hb.out).cell 0
    have py0 : wr.cell? ⟨w.heap.size + 1, 0, none⟩ = some (.slice A' nA ac') := (HY.out.later hb.out).cell 0
    have hsr : W.heap.size ≤ wr.heap.size := hb.out.size
    have HBW : Hid (Below w.heap.size w wr) := Lib.hid (HB.out.trans (hb.out.mono hs0))
    by_cases hlt : k < nA
    · have hk1 : k < es.length := by have := HNN.out; omega
      have hk2 : k < es'.length := by have := HNN.out; omega
      obtain ⟨x, hx⟩ : ∃ x, x = es[k] := ⟨_, rfl⟩
      obtain ⟨y, hy⟩ : ∃ y, y = es'[k] := ⟨_, rfl⟩
      have hxm : x ∈ es := by rw [hx]; exact List.getElem_mem hk1
      have hym : y ∈ es' := by rw [hy]; exact List.getElem_mem hk2
      have hcn : can x.note = can y.note := by
        have := congrArg (fun l => l[k]?) HCAN.out
        simp only [List.getElem?_map, List.getElem?_eq_getElem hk1, List.getElem?_eq_getElem hk2, Option.map_some, Option.some.injEq] at this
        rw [hx, hy]; exact this
      rcases H1.out.ents.place with ⟨e0, _⟩ | ⟨g1, o1, c1', e1, _, _, hg1, hcell1⟩
      · rw [e0] at hk1; simp at hk1
      rcases H2.out.ents.place with ⟨e0, _⟩ | ⟨g2, o2, c2', e2, _, _, hg2, hcell2⟩
      · rw [e0] at hk2; simp at hk2
      injection e1 with e1 e11 e12
      injection e2 with e2 e21 e22
      clear e11 e12 e21 e22
      subst e1
      subst e2
      have HRNG : Hid (∀ W', Below w.heap.size w W' → W'.rangeAt g1 (o1 + k * 9) x.enc ∧ W'.rangeAt g2 (o2 + k * 9) y.enc) := Lib.hid fun W' hW' =>
        ⟨fun q u hu => (hW'.cell (p := ⟨g1, o1 + k * 9 + q, none⟩) hg1).trans (hcell1 k hk1 q u (by rw [← hx]; exact hu)), fun q u hu => (hW'.cell (p := ⟨g2, o2 + k * 9 + q, none⟩) hg2).trans (hcell2 k hk2 q u (by rw [← hy]; exact hu))⟩
      have HBD := Lib.hid HBW.out.drew
      have HS := Lib.hid (SameEntry_true x y wr.drew hcn ((H1.out.each x hxm).1.later HBD.out) ((H1.out.each x hxm).2.later HBD.out) ((H2.out.each y hym).1.later HBD.out) ((H2.out.each y hym).2.later HBD.out))
      have hsd : W.heap.size ≤ wr.drew.heap.size := hsr
      have HK : Hid (∀ W', Below W.heap.size W W' → W'.cell? ⟨w.heap.size, 0, none⟩ = some (.slice (some ⟨g1, o1, none⟩) nA ac) ∧ W'.cell? ⟨w.heap.size + 1, 0, none⟩ = some (.slice (some ⟨g2, o2, none⟩) nA ac')) := Lib.hid fun W' hW' => ⟨(HX.out.later hW').cell 0, (HY.out.later hW').cell 0⟩
      clear hx hy hxm hym hcell1 hcell2 hk1 hk2 hcn
      go_upto_region 6 with fail
      refine wp_region_held_drew (S := (fun w' => w'.cell? ⟨w.heap.size, 0, none⟩ = some (.slice (some ⟨g1, o1, none⟩) nA ac) ∧ w'.cell? ⟨w.heap.size + 1, 0, none⟩ = some (.slice (some ⟨g2, o2, none⟩) nA ac') ∧ w'.rangeAt g1 (o1 + k * 9) x.enc ∧ w'.rangeAt g2 (o2 + k * 9) y.enc)) (by kernel_rfl) ?hS1 (fun hHeld => ?_)
      case hS1 => exact ⟨(HK.out _ hb.out.drew).1, (HK.out _ hb.out.drew).2, (HRNG.out _ HBD.out).1, (HRNG.out _ HBD.out).2⟩
      refine tk3 (i := 0) ?_; try simp only [Act.put, zq]
      refine tk3 (i := 1) ?_; try simp only [Act.put, zq]
      refine tk3 (i := 2) ?_; try simp only [Act.put, zq]
      refine tk3 (i := 3) ?_; try simp only [Act.put, zq]
      refine' wpAnyH_take (i := 4) rfl (by kernel_rfl) (by kernel_rfl) (by kernel_rfl) (fun _ _ _ h => h) (yieldsIf_load_mid (by kernel_rfl) _ _ rfl _ _ rfl _ _ (fun w9 hSw => hSw.2.2.1) ?hu1_5 ?hd1_5 ?hi1_5) (by assumption) ?_
      case hu1_5 => assumption
      case hd1_5 => rfl
      case hi1_5 => (first | assumption | kernel_rfl)
      (try simp only [Act.put, zq])
      refine tk3 (i := 5) ?_; try simp only [Act.put, zq]
      refine tk3 (i := 6) ?_; try simp only [Act.put, zq]
      refine tk3 (i := 7) ?_; try simp only [Act.put, zq]
      refine tk3 (i := 8) ?_; try simp only [Act.put, zq]
      refine' wpAnyH_take (i := 9) rfl (by kernel_rfl) (by kernel_rfl) (by kernel_rfl) (fun _ _ _ h => h) (yieldsIf_load_mid (by kernel_rfl) _ _ rfl _ _ rfl _ _ (fun w9 hSw => hSw.2.2.2) ?hu1_10 ?hd1_10 ?hi1_10) (by assumption) ?_
      case hu1_10 => assumption
      case hd1_10 => rfl
      case hi1_10 => (first | assumption | kernel_rfl)
      (try simp only [Act.put, zq])
      refine wpAnyH_ready (rs := [10]) (by kernel_rfl) (by simp) ?_
      refine AllReadyH.cons rfl (fun K hK => ?_) AllReadyH.nil
      go_simp
      (go_at_call 29; ((with_reducible refine HS.out.mono ?_); rintro e w4 ⟨rfl, hb4⟩))
      go_wp2_with fail
      refine hK.out _ _ ?hS1_11 (fun hHeld => ?_)
      case hS1_11 => ((try dsimp only); exact ⟨(HK.out _ (hb.out.drew.trans (hb4.mono hsd))).1, (HK.out _ (hb.out.drew.trans (hb4.mono hsd))).2, (HRNG.out _ (HBD.out.trans (hb4.mono HBD.out.size))).1, (HRNG.out _ (HBD.out.trans (hb4.mono HBD.out.size))).2⟩)
      clear hK K
      (try simp only [Act.put, zq])
      refine tk3 (i := 11) ?_; try simp only [Act.put, zq]
      refine wpAnyH_done (by kernel_rfl) ?_ _
      have HB4 := Lib.hid (hb.out.drew.trans (hb4.mono hsd))
      clear hHeld hb4
      go_wp2
      exact ⟨⟨k + 1, by omega, by simp, HB4⟩, by simp [intOf]; omega⟩
    · have HM := Lib.hid (H1.out.later HBW.out)
      have HM' := Lib.hid (H2.out.later HBW.out)
      have px1 : wr.cell? ⟨w.heap.size, 1, none⟩ = some (.slice B nB bc) := (HX.out.later hb.out).cell 1
      have py1 : wr.cell? ⟨w.heap.size + 1, 1, none⟩ = some (.slice B' nB bc') := (HY.out.later hb.out).cell 1
      have c1 := SameMarks_true _ _ x1 wr HM.out.struck HM'.out.struck
      go_wp2_with (first
        | (go_at_call 50; (with_reducible refine c1.mono ?_); rintro e w1 ⟨rfl, b1⟩; have B1 : Below W.heap.size W w1 := hb.out.trans (b1.mono hsr); have M1 := H1.out.later (HB.out.trans (B1.mono hs0)); have Q1 := H2.out.later (HB.out.trans (B1.mono hs0)); have c2 := SameDuos_true _ _ x2 w1 M1.force Q1.force; have px2 : w1.cell? ⟨w.heap.size, 2, none⟩ = some (.slice C nC cc) := (HX.out.later B1).cell 2; have py2 : w1.cell? ⟨w.heap.size + 1, 2, none⟩ = some (.slice C' nC cc') := (HY.out.later B1).cell 2; clear M1 Q1)
        | (go_at_call 51; (with_reducible refine c2.mono ?_); rintro e w2 ⟨rfl, b2⟩; have B2 : Below W.heap.size W w2 := B1.trans (b2.mono B1.size); have M2 := H1.out.later (HB.out.trans (B2.mono hs0)); have Q2 := H2.out.later (HB.out.trans (B2.mono hs0)); have c3 := SameDuos_true _ _ x3 w2 M2.forbid Q2.forbid; have px3 : w2.cell? ⟨w.heap.size, 3, none⟩ = some (.slice D nD dc) := (HX.out.later B2).cell 3; have py3 : w2.cell? ⟨w.heap.size + 1, 3, none⟩ = some (.slice D' nD dc') := (HY.out.later B2).cell 3; clear M2 Q2)
        | (go_at_call 51; (with_reducible refine c3.mono ?_); rintro e w3 ⟨rfl, b3⟩; have B3 : Below W.heap.size W w3 := B2.trans (b3.mono B2.size); have M3 := H1.out.later (HB.out.trans (B3.mono hs0)); have Q3 := H2.out.later (HB.out.trans (B3.mono hs0)); have c4 := SameRulings_any _ _ rs rs' w3 M3.pend Q3.pend; have px4 : w3.cell? ⟨w.heap.size, 4, none⟩ = some (.slice E nE ec) := (HX.out.later B3).cell 4; have py4 : w3.cell? ⟨w.heap.size + 1, 4, none⟩ = some (.slice E' nE ec') := (HY.out.later B3).cell 4; clear M3 Q3)
        | (go_at_call 15; (with_reducible refine c4.mono ?_); rintro e w4 ⟨rfl, b4⟩; have B4 : Below W.heap.size W w4 := B3.trans (b4.mono B3.size); rw [decide_eq_true HDAT.out]; have M4 := H1.out.later (HB.out.trans (B4.mono hs0)); have Q4 := H2.out.later (HB.out.trans (B4.mono hs0)); have c5 := SameNames_true _ _ pn w4 M4.published Q4.published; have px5 : w4.cell? ⟨w.heap.size, 5, none⟩ = some (.slice F nF fc) := (HX.out.later B4).cell 5; have py5 : w4.cell? ⟨w.heap.size + 1, 5, none⟩ = some (.slice F' nF fc') := (HY.out.later B4).cell 5; clear M4 Q4)
        | (go_at_call 52; (with_reducible refine c5.mono ?_); rintro e w5 ⟨rfl, b5⟩; have B5 : Below W.heap.size W w5 := B4.trans (b5.mono B4.size); have M5 := H1.out.later (HB.out.trans (B5.mono hs0)); have Q5 := H2.out.later (HB.out.trans (B5.mono hs0)); have c6 := SameNames_true _ _ x4 w5 M5.conflicts Q5.conflicts; have px6 : w5.cell? ⟨w.heap.size, 6, none⟩ = some (.int .i64 hs) := (HX.out.later B5).cell 6; have py6 : w5.cell? ⟨w.heap.size + 1, 6, none⟩ = some (.int .i64 hs) := (HY.out.later B5).cell 6; have px7 : w5.cell? ⟨w.heap.size, 7, none⟩ = some (.slice G nG gc) := (HX.out.later B5).cell 7; have py7 : w5.cell? ⟨w.heap.size + 1, 7, none⟩ = some (.slice G' nG gc') := (HY.out.later B5).cell 7; clear M5 Q5)
        | (go_at_call 52; (with_reducible refine c6.mono ?_); rintro e w6 ⟨rfl, b6⟩; have B6 : Below W.heap.size W w6 := B5.trans (b6.mono B5.size)))
      go_ret
      exact ⟨rfl, HB.out.trans (B6.mono hs0)⟩
end Go.Proofs.YtlamogpdkmbeoaaGreatDoor
end PartSamesC
