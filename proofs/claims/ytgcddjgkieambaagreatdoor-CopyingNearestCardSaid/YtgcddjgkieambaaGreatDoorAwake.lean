/- The walks of 'brief', 'SameSteps' and 'awake'. -/
import Derived.Test.YtgcddjgkieambaaGreatDoorRepl4
import Derived.Test.YtgcddjgkieambaaGreatDoorAlignB
import Derived.Laws.StructEq
set_option linter.unusedVariables false
set_option linter.unusedSimpArgs false
namespace Go.Proofs.YtgcddjgkieambaaGreatDoor
open Go.RowKit

theorem brief_any (s : ByteArray) (w : World) : Calls Tryz.prog 19 #[.string s] w fun e w' => e = .returned (.bool (decide ((s.size : Int) ≤ 200))) ∧ w = w' := by
  go_enter Tryz.func19, Tryz.ntmps19
  go_wp2
  go_ret
  exact ⟨rfl, rfl⟩

set_option maxRecDepth 100000 in
theorem neq34 (a b c a' b' c' : Int) (W : World) : (binOp .neq 34 (.agg #[.int .i64 a, .int .i64 b, .int .i64 c]) (.agg #[.int .i64 a', .int .i64 b', .int .i64 c'])).run Tryz.prog W = .ok (.bool (!(a == a' && (b == b' && c == c')))) W := by
  rw [run_neq_struct, run_equalIn_agg W 9999 34 _ _ (by kernel_rfl) (by kernel_rfl)]
  simp only [Program.fieldsOf, Tryz.underlying34]
  cases h1 : (a == a') <;> cases h2 : (b == b') <;> cases h3 : (c == c') <;> simp [Op.eqFields, go_sem, Tryz.underlying3, h1, h2, h3]

/-- A list of steps in memory, as a slice from the head of its block. -/
def StepsAt (w : World) (A : Option Addr) (l : List (Int × Int × Int)) : Prop := ∀ j, j < l.length → ∃ g, A = some ⟨g, 0, none⟩ ∧ g < w.heap.size ∧
  w.cell? ⟨g, j * 3, none⟩ = some (.int .i64 (l.getD j (0, 0, 0)).1) ∧ w.cell? ⟨g, j * 3 + 1, none⟩ = some (.int .i64 (l.getD j (0, 0, 0)).2.1) ∧ w.cell? ⟨g, j * 3 + 2, none⟩ = some (.int .i64 (l.getD j (0, 0, 0)).2.2)
theorem StepsAt.later {w w' : World} {A : Option Addr} {l : List (Int × Int × Int)} (h : StepsAt w A l) (hb : Below w.heap.size w w') : StepsAt w' A l := fun j hj => by
  obtain ⟨g, e, hl, h0, h1, h2⟩ := h j hj
  exact ⟨g, e, Nat.lt_of_lt_of_le hl hb.size, (hb.cell (p := ⟨g, j * 3, none⟩) hl).trans h0, (hb.cell (p := ⟨g, j * 3 + 1, none⟩) hl).trans h1, (hb.cell (p := ⟨g, j * 3 + 2, none⟩) hl).trans h2⟩
theorem stepsV_at : ∀ (l : List (Int × Int × Int)) (j : Nat), j < l.length → (stepsV l)[j * 3]? = some (.int .i64 (l.getD j (0, 0, 0)).1) ∧ (stepsV l)[j * 3 + 1]? = some (.int .i64 (l.getD j (0, 0, 0)).2.1) ∧ (stepsV l)[j * 3 + 2]? = some (.int .i64 (l.getD j (0, 0, 0)).2.2)
  | [], j, h => by simp at h
  | x :: l, 0, _ => ⟨rfl, rfl, rfl⟩
  | x :: l, j + 1, h => by
    have := stepsV_at l j (by simpa using h)
    have e : stepsV (x :: l) = stepV x ++ stepsV l := rfl
    rw [e]
    have e0 : (j + 1) * 3 = 3 + j * 3 := by omega
    have e1 : ∀ r, (stepV x ++ stepsV l)[3 + r]? = (stepsV l)[r]? := fun r => by
      rw [List.getElem?_append_right (by simp [stepV])]
      simp [stepV]
    rw [e0, e1, Nat.add_assoc, e1, Nat.add_assoc, e1]
    simpa using this
theorem Steps.form {w : World} {v : Value} {l : List (Int × Int × Int)} (h : Steps w v l) : ∃ A c, v = .slice A l.length c ∧ StepsAt w A l := by
  obtain ⟨B, h⟩ := h
  rcases Go.Joins.ownsRow_forms h with ⟨rfl, hn⟩ | ⟨g, cap, rfl⟩
  · exact ⟨none, 0, by rw [hn], fun j hj => by omega⟩
  · refine ⟨some ⟨g, 0, none⟩, cap, rfl, fun j hj => ?_⟩
    obtain ⟨h0, h1, h2⟩ := stepsV_at l j hj
    exact ⟨g, rfl, (h.lt g rfl).2, (h.cellAt _ (by omega)).trans h0, (h.cellAt _ (by omega)).trans h1, (h.cellAt _ (by omega)).trans h2⟩

theorem drewN_two (w : World) (a b : Nat) : (w.drewN a).drewN b = w.drewN (a + b) := by simp [World.drewN, Nat.add_assoc]
theorem ext_getD {α : Type} (d : α) {a b : List α} (hl : a.length = b.length) (h : ∀ j, j < a.length → a.getD j d = b.getD j d) : a = b := by
  apply List.ext_getElem hl
  intro j h1 h2
  have := h j h1
  rwa [getD_get _ _ h1, getD_get _ _ h2] at this

set_option maxRecDepth 100000 in
set_option maxHeartbeats 2000000 in
theorem same_steps (A B : Option Addr) (c d : Nat) (a b : List (Int × Int × Int)) (w : World) (ha : StepsAt w A a) (hb : StepsAt w B b) (hl : a.length ≤ 1000000) :
    Calls Tryz.prog 26 #[.slice A a.length c, .slice B b.length d] w fun e w' => e = .returned (.bool (decide (a = b))) ∧ ∃ q, w' = w.drewN q := by
  by_cases hlen : a.length = b.length
  · have d0 : ((a.length : Int) != (b.length : Int)) = false := by simp; omega
    have hnq := fun W a b c a' b' c' => neq34 a b c a' b' c' W
    have HA := Lib.hid ha
    have HB := Lib.hid hb
    have HL := Lib.hid hlen
    obtain ⟨z, hz⟩ : ∃ z, z = decide (a = b) := ⟨_, rfl⟩
    rw [← hz]
    have HZ := Lib.hid hz
    clear ha hb hlen hz
    go_enter Tryz.func26, Tryz.ntmps26
    go_wp2
    go_loopw [5] (fun i wx => ∃ k q : Nat, k ≤ a.length ∧ i = .int .i64 k ∧ wx = w.drewN q ∧ ∀ j, j < k → a.getD j (0, 0, 0) = b.getD j (0, 0, 0)) (fun i _ => a.length - (intOf i).toNat)
    case atStart => exact ⟨0, 0, by omega, rfl, rfl, fun j hj => by omega⟩
    case round =>
      obtain ⟨k, q, hk, rfl, rfl, hr⟩ := hrel
      by_cases hlt : k < a.length
      · have d1 : decide ((k : Int) < (a.length : Int)) = true := by simp; omega
        have d2 : (k : Int) < (a.length : Int) := by omega
        have d3 : (k : Int) < (b.length : Int) := by have := HL.out; omega
        have d4 : (0 : Int) ≤ (k : Int) := by omega
        have q1 : IntKind.i64.wrap ((k : Int) + 1) = (k : Int) + 1 := IntWalk.i64_in _ (by omega)
        obtain ⟨g, rfl, _, x0, x1, x2⟩ := HA.out k hlt
        obtain ⟨g', rfl, _, y0, y1, y2⟩ := HB.out k (by have := HL.out; omega)
        obtain ⟨x, hx⟩ : ∃ x, x = a.getD k (0, 0, 0) := ⟨_, rfl⟩
        obtain ⟨y, hy⟩ : ∃ y, y = b.getD k (0, 0, 0) := ⟨_, rfl⟩
        rw [← hx] at x0 x1 x2
        rw [← hy] at y0 y1 y2
        obtain ⟨a1, a2, a3⟩ := x
        obtain ⟨b1, b2, b3⟩ := y
        simp only at x0 x1 x2 y0 y1 y2
        have Hx := Lib.hid hx
        have Hy := Lib.hid hy
        have Hr := Lib.hid hr
        clear hx hy hr
        by_cases he : a1 = b1 ∧ a2 = b2 ∧ a3 = b3
        · obtain ⟨rfl, rfl, rfl⟩ := he
          go_wp2
          go_quiet (fail)
          go_wp2
          go_roundw
          case rel => exact ⟨k + 1, q + nq, by omega, by go_num, by first | rfl | exact drewN_two w q nq, fun j hj => by
            by_cases e : j = k
            · subst e; rw [← Hx.out, ← Hy.out]
            · exact Hr.out j (by omega)⟩
          case measure => simp [intOf]; omega
        · have dz : (a1 == b1 && (a2 == b2 && a3 == b3)) = false := by
            cases hz : (a1 == b1 && (a2 == b2 && a3 == b3))
            · rfl
            · simp at hz; exact absurd hz he
          have hne : a ≠ b := fun e => he (by
            have h1 := Hx.out
            have h2 := Hy.out
            rw [e, ← h2] at h1
            injection h1 with h1 h3
            injection h3 with h3 h4
            exact ⟨h1, h3, h4⟩)
          have hzf : Hid (z = false) := Lib.hid (HZ.out.trans (decide_eq_false hne))
          have hnz := fun W => neq34 a1 a2 a3 b1 b2 b3 W
          rw [dz] at hnz
          clear he hne hnq dz
          go_wp2
          go_quiet (fail)
          go_wp2
          go_ret
          exact ⟨by rw [hzf.out]; rfl, q + nq, drewN_two w q nq⟩
      · obtain rfl : k = a.length := by omega
        have hzf : Hid (z = true) := Lib.hid (HZ.out.trans (decide_eq_true (ext_getD (0, 0, 0) HL.out hr)))
        clear hr hnq
        go_wp2
        go_ret
        exact ⟨by rw [hzf.out]; rfl, _, rfl⟩
  · have d0 : ((a.length : Int) != (b.length : Int)) = true := by simp; omega
    rw [decide_eq_false (fun e => hlen (by rw [e]))]
    clear ha hb hlen
    go_enter Tryz.func26, Tryz.ntmps26
    go_wp2
    go_ret
    exact ⟨rfl, 0, rfl⟩

theorem awake_code : Cm.codeB (Cm.ixc 75).toNat = ⟨#[45, 46, 45]⟩ := by decide +kernel
theorem awake_cost : costOf 1 ⟨#[75, 49, 65, 66, 67]⟩ ⟨#[75, 49, 65, 66, 83]⟩ = 2 := by decide +kernel
theorem awake_err1 : errOf 1 ⟨#[75, 49, 65, 66, 67]⟩ ⟨#[75, 49, 65, 66, 83]⟩ = 0 := by decide +kernel
theorem awake_err2 : errOf 2 ⟨#[68, 76, 49]⟩ ⟨#[76, 49]⟩ = 0 := by decide +kernel
theorem awake_ali : Cm.ali 2 (row ⟨#[68, 76, 49]⟩) (row ⟨#[76, 49]⟩) = [(0, -1, 2), (1, 0, 0), (2, 1, 0)] := by decide +kernel
theorem itoa599 : itoaB 599 = ⟨#[53, 57, 57]⟩ := by
  unfold itoaB Lib.itoa
  simp [Lib.decDigits]
theorem awake_dig : sentNum 1 599 = ⟨#[53, 78, 78]⟩ := by
  unfold sentNum
  rw [if_pos rfl, itoa599]
  decide +kernel
theorem awake_ser : serErr [1, 5, 2, 3, 9] = 0 := by decide +kernel
theorem nums_lit5 (w : World) (a b c d e : Int) (t : TypeId) : Nums (w.alloc (.cells #[.int .i64 a, .int .i64 b, .int .i64 c, .int .i64 d, .int .i64 e] t)) (some ⟨w.heap.size, 0, none⟩) [a, b, c, d, e] := fun j hj => by
  have hB := Blk.new w t #[.int .i64 a, .int .i64 b, .int .i64 c, .int .i64 d, .int .i64 e]
  refine ⟨_, rfl, hB.lt, ?_⟩
  rw [show (⟨w.heap.size, 0, none⟩ : Addr).add j = ⟨w.heap.size, j, none⟩ by cases j <;> simp [Addr.add]]
  match j, hj with
  | 0, _ => exact hB.cell 0
  | 1, _ => exact hB.cell 1
  | 2, _ => exact hB.cell 2
  | 3, _ => exact hB.cell 3
  | 4, _ => exact hB.cell 4
theorem steps_lit3 (w : World) (x y z : Int × Int × Int) (t : TypeId) : StepsAt (w.alloc (.cells #[.int .i64 x.1, .int .i64 x.2.1, .int .i64 x.2.2, .int .i64 y.1, .int .i64 y.2.1, .int .i64 y.2.2, .int .i64 z.1, .int .i64 z.2.1, .int .i64 z.2.2] t)) (some ⟨w.heap.size, 0, none⟩) [x, y, z] := fun j hj => by
  have hB := Blk.new w t #[.int .i64 x.1, .int .i64 x.2.1, .int .i64 x.2.2, .int .i64 y.1, .int .i64 y.2.1, .int .i64 y.2.2, .int .i64 z.1, .int .i64 z.2.1, .int .i64 z.2.2]
  refine ⟨_, rfl, hB.lt, ?_⟩
  match j, hj with
  | 0, _ => exact ⟨hB.cell 0, hB.cell 1, hB.cell 2⟩
  | 1, _ => exact ⟨hB.cell 3, hB.cell 4, hB.cell 5⟩
  | 2, _ => exact ⟨hB.cell 6, hB.cell 7, hB.cell 8⟩
theorem awake_rise : Cm.rise [1, 5, 2, 3, 9] (Cm.chain [1, 5, 2, 3, 9]) = [1, 5, 6, 7, 9] := by decide +kernel

/-- What 'awake' needs of 'Rise': the numbers at the places 2 and 3. -/
theorem rise_awake (w : World) : Calls Tryz.prog 30 #[.slice (some ⟨w.heap.size, 0, none⟩) 5 5] (w.alloc (.cells #[.int .i64 1, .int .i64 5, .int .i64 2, .int .i64 3, .int .i64 9] 3)) fun e w' =>
    ∃ g c, e = .returned (.tuple #[.slice (some ⟨g, 0, none⟩) 5 c, .int .i64 0]) ∧ w'.cell? ⟨g, 2, none⟩ = some (.int .i64 6) ∧ w'.cell? ⟨g, 3, none⟩ = some (.int .i64 7) ∧ g < w'.heap.size ∧ Below w.heap.size w w' := by
  refine (Rise_ok (some ⟨w.heap.size, 0, none⟩) 5 [1, 5, 2, 3, 9] _ (nums_lit5 w 1 5 2 3 9 3) awake_ser).mono fun e w' ⟨v, he, hO, hb⟩ => ?_
  rw [awake_rise] at hO
  obtain ⟨B, hO⟩ := hO
  rcases Go.Joins.ownsRow_forms hO with ⟨_, hn⟩ | ⟨g, cap, rfl⟩
  · exact absurd hn (by decide)
  · exact ⟨g, cap, he, hO.cellAt 2 (by decide), hO.cellAt 3 (by decide), (hO.lt g rfl).2, (below_alloc0 _).trans (hb.mono (by simp))⟩
theorem align_awake (w : World) : Calls Tryz.prog 21 #[.int .i64 2, .string ⟨#[68, 76, 49]⟩, .string ⟨#[76, 49]⟩] w fun e w' => ∃ A c, e = .returned (.tuple #[.slice A 3 c, .int .i64 0]) ∧ StepsAt w' A [(0, -1, 2), (1, 0, 0), (2, 1, 0)] ∧ Below w.heap.size w w' := by
  refine (Align_ok 2 ⟨#[68, 76, 49]⟩ ⟨#[76, 49]⟩ w awake_err2).mono fun e w' ⟨v, he, hO, hb⟩ => ?_
  rw [awake_ali] at hO
  obtain ⟨A, c, rfl, hN⟩ := hO.form
  exact ⟨A, c, he, hN, hb⟩

theorem same_awake (A : Option Addr) (c : Nat) (w : World) (hA : StepsAt w A [(0, -1, 2), (1, 0, 0), (2, 1, 0)]) :
    Calls Tryz.prog 26 #[.slice A 3 c, .slice (some ⟨w.heap.size, 0, none⟩) 3 3] (w.alloc (.cells #[.int .i64 0, .int .i64 (-1), .int .i64 2, .int .i64 1, .int .i64 0, .int .i64 0, .int .i64 2, .int .i64 1, .int .i64 0] 34)) fun e w' =>
      e = .returned (.bool true) ∧ Below w.heap.size w w' := by
  refine (same_steps A (some ⟨w.heap.size, 0, none⟩) c 3 [(0, -1, 2), (1, 0, 0), (2, 1, 0)] [(0, -1, 2), (1, 0, 0), (2, 1, 0)] _ (hA.later (below_alloc0 _)) (steps_lit3 w (0, -1, 2) (1, 0, 0) (2, 1, 0) 34) (by decide)).mono fun e w' ⟨he, q, hw⟩ => ⟨he, ?_⟩
  rw [hw]
  exact below_drewN' (below_alloc0 _) q
set_option maxRecDepth 100000 in
set_option maxHeartbeats 2000000 in
/-- The examples of the document hold. -/
theorem awake_any (w : World) (hP : Pow w) : Calls Tryz.prog 18 #[] w fun e w' => e = .returned (.bool true) ∧ Below w.heap.size w w' := by
  have H1 := Lib.hid (code_one 75 w (by decide))
  rw [awake_code] at H1
  have H2 := Lib.hid (fun W => Cost_any 1 ⟨#[75, 49, 65, 66, 67]⟩ ⟨#[75, 49, 65, 66, 83]⟩ W)
  rw [awake_cost, awake_err1] at H2
  have H4 := Lib.hid (fun W (hb : Below w.heap.size w W) => Digits_ok 1 599 W (hP.later hb) (by decide))
  rw [awake_dig] at H4
  clear hP
  go_enter Tryz.func18, Tryz.ntmps18
  go_wp2_with (first
    | (go_at_call 35; refine H1.out.mono ?_; rintro e w1 ⟨rfl, hb1⟩)
    | (go_at_call 20; refine (H2.out _).mono ?_; rintro e w2 ⟨rfl, hb2⟩; have hb2 := below_trans' hb1 hb2)
    | (go_at_call 21; refine (align_awake _).mono ?_; rintro e w3 ⟨A, c, rfl, hA, hb3⟩; have hb3 := below_trans' hb2 hb3)
    | (go_at_call 58; refine (H4.out _ hb3).mono ?_; rintro e w4 ⟨rfl, hb4⟩; have hA4 := hA.later hb4; have hb4 := below_trans' hb3 hb4)
    | (go_at_call 30; refine (rise_awake _).mono ?_; rintro e w5 ⟨g, c2, rfl, k2, k3, hal, hb5⟩; have hA5 := hA4.later hb5; have hb5 := below_trans' hb4 hb5)
    | (go_at_call 26; refine (same_awake A c w5 hA5).mono ?_; rintro e w6 ⟨rfl, hb6⟩; have k2 := (hb6.cell (p := ⟨g, 2, none⟩) hal).trans k2; have k3 := (hb6.cell (p := ⟨g, 3, none⟩) hal).trans k3; have hb6 := below_trans' hb5 hb6))
  go_ret
  exact ⟨rfl, hb6⟩
end Go.Proofs.YtgcddjgkieambaaGreatDoor
