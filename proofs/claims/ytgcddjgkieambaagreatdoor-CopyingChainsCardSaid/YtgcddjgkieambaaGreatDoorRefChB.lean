/- The walk of the reference's 'Chain'. -/
import Derived.Test.YtgcddjgkieambaaGreatDoorRefChA
import Derived.Laws.OwnMore
import Derived.Lib.SmallJoins
set_option linter.unusedVariables false
set_option linter.unusedSimpArgs false
namespace Go.Proofs.YtgcddjgkieambaaGreatDoor
open Go.RowKit

theorem cast_max (a b : Nat) : ((max a b : Nat) : Int) = max (a : Int) b := by omega
theorem chn_skip {l : List Int} (b : Nat) (ks : List Nat) (k : Nat) (hk : k < l.length) (h : ¬ (Cm.fol l (Cm.lastK ks) k = true ∧ (Cm.bst l k : Int) = (b : Int) - ks.length)) :
    Cm.chn l b (l.length - k) (Cm.lastK ks) ks.length = Cm.chn l b (l.length - (k + 1)) (Cm.lastK ks) ks.length := by
  rw [Cm.chn_next b _ _ k hk, if_neg]
  intro e
  rw [Bool.and_eq_true, decide_eq_true_iff] at e
  exact h ⟨e.1, by rw [← Cm.fol_gg e.1]; exact e.2⟩
theorem chn_take {l : List Int} (b : Nat) (ks : List Nat) (k : Nat) (hk : k < l.length) (h1 : Cm.fol l (Cm.lastK ks) k = true) (h2 : (Cm.bst l k : Int) = (b : Int) - ks.length) :
    Cm.chn l b (l.length - k) (Cm.lastK ks) ks.length = k :: Cm.chn l b (l.length - (k + 1)) (Cm.lastK (ks ++ [k])) (ks ++ [k]).length := by
  rw [Cm.chn_next b _ _ k hk, if_pos (by rw [h1, Bool.true_and]; exact decide_eq_true (by rw [Cm.fol_gg h1]; exact h2)), Cm.lastK_snoc, List.length_append]
  rfl
/-- What holds at the head of each round of the last loop. -/
def RcRel (l : List Int) (wo : World) (v11 v12 : Value) (wx : World) : Prop :=
  ∃ (k : Nat) (ks : List Nat) (ao : Option Addr) (cap : Nat), k ≤ l.length ∧ v12 = .int .i64 k ∧ v11 = .slice ao ks.length cap ∧ ks.length ≤ k ∧ (∀ x ∈ ks, x < k) ∧ Cm.chain l = ks ++ Cm.chn l (Cm.best l) (l.length - k) (Cm.lastK ks) ks.length ∧
    wx.ownsRow wo.heap.size 3 1 (.slice ao ks.length cap) ks.length (ks.map fun (x : Nat) => Value.int .i64 (x : Int)) ∧ Below wo.heap.size wo wx
theorem RcRel.take {l : List Int} {wo w1 : World} {k : Nat} {ks : List Nat} {ao : Option Addr} {cap : Nat} (hk : k < l.length) (hkl : ks.length ≤ k) (hmem : ∀ x ∈ ks, x < k) (hall : Cm.chain l = ks ++ Cm.chn l (Cm.best l) (l.length - k) (Cm.lastK ks) ks.length)
    (h1 : Cm.fol l (Cm.lastK ks) k = true) (h2 : (Cm.bst l k : Int) = (Cm.best l : Int) - ks.length) (hown : w1.ownsRow wo.heap.size 3 1 (.slice ao (ks.length + 1) cap) (ks.length + 1) ((ks.map fun (x : Nat) => Value.int .i64 (x : Int)) ++ [.int .i64 k])) (hb : Below wo.heap.size wo w1)
    (v12 : Value) (hv : v12 = .int .i64 ((k + 1 : Nat) : Int)) : RcRel l wo (.slice ao (ks.length + 1) cap) v12 w1 :=
  ⟨k + 1, ks ++ [k], ao, cap, by omega, hv, by simp, by simp; omega, fun x hx => by
    rcases List.mem_append.1 hx with e | e
    · have := hmem x e; omega
    · rw [List.mem_singleton] at e; omega, by rw [hall, chn_take _ ks k hk h1 h2]; simp, by simpa using hown, hb⟩
theorem RcRel.skip {l : List Int} {wo w1 : World} {k : Nat} {ks : List Nat} {ao : Option Addr} {cap : Nat} (hk : k < l.length) (hkl : ks.length ≤ k) (hmem : ∀ x ∈ ks, x < k) (hall : Cm.chain l = ks ++ Cm.chn l (Cm.best l) (l.length - k) (Cm.lastK ks) ks.length)
    (h : ¬ (Cm.fol l (Cm.lastK ks) k = true ∧ (Cm.bst l k : Int) = (Cm.best l : Int) - ks.length)) (hown : w1.ownsRow wo.heap.size 3 1 (.slice ao ks.length cap) ks.length (ks.map fun (x : Nat) => Value.int .i64 (x : Int))) (hb : Below wo.heap.size wo w1)
    (v12 : Value) (hv : v12 = .int .i64 ((k + 1 : Nat) : Int)) : RcRel l wo (.slice ao ks.length cap) v12 w1 :=
  ⟨k + 1, ks, ao, cap, by omega, hv, rfl, by omega, fun x hx => by have := hmem x hx; omega, by rw [hall, chn_skip _ ks k hk h], hown, hb⟩

set_option maxRecDepth 100000 in
set_option maxHeartbeats 8000000 in
theorem refChain_ok (A : Option Addr) (c : Nat) (l : List Int) (w : World) (h : Nums w A l) (he : serErr l = 0) : Calls Tryz.prog 29 #[.slice A l.length c] w fun e w' => ∃ v, e = .returned (.tuple #[v, .int .i64 0]) ∧ OwnI w' v ((Cm.chain l).map fun (k : Nat) => (k : Int)) ∧ Below w.heap.size w w' := by
  have HS := Lib.hid (refSer_any A c l w h)
  rw [he] at HS
  have hl := serErr_len he
  have hSer : Serial l := okNums_serial hl (by
    unfold serErr at he
    rw [if_neg (by omega)] at he
    cases e : okNums l
    · rw [e] at he; simp at he
    · rfl)
  have HN := Lib.hid h
  have HV := Lib.hid hSer
  have hmk := fun W => run_mk (P := Tryz.prog) 38 3 _ _ Tryz.underlying38 info3 (l.length + 1) ((l.length : Int) + 1) (by omega) (by omega) (by omega) W
  have q0 : IntKind.i64.wrap ((l.length : Int) + 1) = (l.length : Int) + 1 := IntWalk.i64_in _ (by omega)
  have q1 : IntKind.i64.wrap ((l.length : Int) - 1) = (l.length : Int) - 1 := IntWalk.i64_in _ (by omega)
  have H0 := Lib.hid (RowA.made w 3 (.int .i64 0) (l.length + 1) rfl)
  clear h he hSer
  go_enter Tryz.func29, Tryz.ntmps29
  go_wp2_with (go_at_call 82; refine HS.out.mono ?_; rintro e w1 ⟨rfl, rfl⟩)
  go_loopw [7] (fun v7 wx => ∃ (j : Nat) (z : Int), j ≤ l.length ∧ z = (j : Int) - 1 ∧ v7 = .int .i64 z ∧ TabO l w.heap.size j wx ∧ Below w.heap.size w wx) (fun v7 _ => (intOf v7 + 1).toNat)
  case atStart => exact ⟨l.length, (l.length : Int) - 1, Nat.le_refl _, rfl, rfl, RowK.congr H0.out (fun x hx => by rw [if_neg (by omega)]; rfl), below_alloc0 _⟩
  case round =>
    obtain ⟨j, z, hj, hz, rfl, hT, hb⟩ := hrel
    clear hmk q0 q1
    by_cases hj0 : j = 0
    · subst hj0
      obtain rfl : z = -1 := by omega
      clear hz
      have HT := Lib.hid hT
      have Hb := Lib.hid hb
      have hbe := Cm.best_le (l := l)
      clear hT hb
      obtain ⟨w0, rfl⟩ : ∃ w0 : World, w0 = wr := ⟨_, rfl⟩
      go_wp2
      go_loop [9, 10] (fun v9 v10 => ∃ k : Nat, k ≤ l.length ∧ v10 = .int .i64 k ∧ v9 = .int .i64 (Cm.mx (Cm.gg l) (Cm.stay l) 0 k : Nat)) (fun _ v10 => l.length - (intOf v10).toNat)
      case atStart => exact ⟨0, by omega, rfl, rfl⟩
      case round =>
        obtain ⟨k, hk, rfl, rfl⟩ := hrel
        by_cases hlt : k < l.length
        · have f1 : decide ((k : Int) < (l.length : Int)) = true := by simp; omega
          have f2 : (k : Int) < (l.length : Int) + 1 := by omega
          have f4 : (0 : Int) ≤ (k : Int) := by omega
          have q1 : IntKind.i64.wrap ((k : Int) + 1) = (k : Int) + 1 := IntWalk.i64_in _ (by omega)
          have bk : w0.cell? ⟨w.heap.size, k, none⟩ = some (.int .i64 (Cm.bst l k : Nat)) := (HT.out.cell (by omega)).trans (by rw [if_pos (by omega)])
          have hmx := Cm.mx_bst (l := l) k hlt
          obtain ⟨B, hB⟩ : ∃ B : Int, B = (Cm.bst l k : Nat) := ⟨_, rfl⟩
          obtain ⟨M, hM⟩ : ∃ M : Int, M = (Cm.mx (Cm.gg l) (Cm.stay l) 0 k : Nat) := ⟨_, rfl⟩
          rw [← hB] at bk
          rw [← hM]
          have Hmx := Lib.hid hmx
          have HB := Lib.hid hB
          have HM := Lib.hid hM
          clear hmx hB hM
          go_wp2
          go_round
          case rel => exact ⟨k + 1, by omega, by go_num, by rw [Hmx.out, cast_max, ← HB.out, ← HM.out]⟩
          case measure => simp [intOf] <;> omega
        · obtain rfl : k = l.length := by omega
          have f1 : decide ((l.length : Int) < (l.length : Int)) = false := by simp
          have eb : Cm.mx (Cm.gg l) (Cm.stay l) 0 l.length = Cm.best l := rfl
          rw [eb]
          obtain ⟨i0, hi, hz0, hz1, hz2⟩ := info_parts info3
          clear eb
          go_wp2
          go_loopw [11, 12] (fun v11 v12 wx => RcRel l w0 v11 v12 wx) (fun _ v12 _ => l.length - (intOf v12).toNat)
          case atStart => exact ⟨0, [], none, 0, by omega, rfl, rfl, by simp, by simp, rfl, World.ownsRow_nil _ _ _ _, Below.refl _ _⟩
          case round =>
            obtain ⟨k, ks, ao, cap, hk, rfl, rfl, hkl, hmem, hall, hown, hb2⟩ := hrel
            clear f1
            by_cases hlt : k < l.length
            · have f1 : decide ((k : Int) < (l.length : Int)) = true := by simp; omega
              have f2 : (k : Int) < (l.length : Int) + 1 := by omega
              have f3 : (k : Int) < (l.length : Int) := by omega
              have f4 : (0 : Int) ≤ (k : Int) := by omega
              have q1 : IntKind.i64.wrap ((k : Int) + 1) = (k : Int) + 1 := IntWalk.i64_in _ (by omega)
              have q2 : IntKind.i64.wrap ((ks.length : Int) - 1) = (ks.length : Int) - 1 := IntWalk.i64_in _ (by omega)
              have hT2 := HT.out.later hb2
              have lg := hT2.lt
              have bk : wr.cell? ⟨w.heap.size, k, none⟩ = some (.int .i64 (Cm.bst l k : Nat)) := (hT2.cell (by omega)).trans (by rw [if_pos (by omega)])
              have hfo := Cm.fol_last (l := l) (ks := ks) hlt
              obtain ⟨B, hB⟩ : ∃ B : Int, B = (Cm.bst l k : Nat) := ⟨_, rfl⟩
              obtain ⟨b, hbb⟩ : ∃ b : Int, b = (Cm.best l : Nat) := ⟨_, rfl⟩
              have hB0 : decide (0 < Cm.bst l k) = decide (0 < B) := by rw [Bool.eq_iff_iff]; simp; omega
              rw [hB0] at hfo
              rw [← hB] at bk
              rw [← hbb]
              have hb0 : 0 ≤ b ∧ b ≤ 400 := by omega
              have q3 : IntKind.i64.wrap (b - (ks.length : Int)) = b - (ks.length : Int) := IntWalk.i64_in _ (by omega)
              have HMem := Lib.hid hmem
              have HAll := Lib.hid hall
              have Hown := Lib.hid hown
              have Hb2 := Lib.hid hb2
              have HB := Lib.hid hB
              have Hbb := Lib.hid hbb
              clear hall hown hT2 hB hbb hB0 hb0
              by_cases h1 : 0 < B
              · have g1 : decide (0 < B) = true := by simpa using h1
                have g1' : decide (B > 0) = true := by simpa using h1
                by_cases h2 : B = b - (ks.length : Int)
                · have g2 : (B == b - (ks.length : Int)) = true := by simpa using h2
                  have HEq := Lib.hid (show (Cm.bst l k : Int) = (Cm.best l : Int) - ks.length by rw [← HB.out, ← Hbb.out]; exact h2)
                  by_cases h3 : ks.length = 0
                  · have g3 : decide ((ks.length : Int) - 1 < 0) = true := by simp; omega
                    have HFo := Lib.hid (show Cm.fol l (Cm.lastK ks) k = true by rw [hfo, g1, g3]; rfl)
                    clear h1 h2 h3 hfo hmem hb2
                    go_wp2
                    go_quiet (fail)
                    have hown2 := own_keep Hown.out (below_drewN0 (w := wr) nq)
                    have hs2 := Hb2.out.size
                    go_wp2_with (first
                      | (at_builtin; refine wpList_append_own _ rfl _ _ 38 rfl w0.heap.size 3 i0 (.int .i64 0) 1 8 Tryz.underlying38 hi hz0 hz1 hz2 rfl (by decide) _ _ _ rfl (hown2.alloc _) ⟨wr.heap.size, 0, none⟩ 1 1 [.int .i64 (k : Int)] rfl rfl ?c1 ?c2 ?c3 ?c4 ?c5 ?_))
                    case c1 =>
                      intro j u hj
                      match j, hj with
                      | 0, hj => simp at hj; subst hj; simp [Addr.add]; exact (Blk.new (wr.drewN nq) 3 #[.int .i64 (k : Int)]).cell 0
                    case c2 => intro u hu; simp at hu; subst hu; rfl
                    case c3 => unfold maxLen; omega
                    case c4 => omega
                    case c5 => simp; omega
                    · intro v' w3 hown' hgrow _
                      have hbk := ((below_drewN' Hb2.out nq).alloc (by simpa using hs2) _).grown hgrow (by simp; omega) (fun g hg => (hown2.lt g hg).1)
                      obtain ⟨gg, cap', hv, _, _⟩ := hown'.form (by omega)
                      subst hv
                      have HN := Lib.hid (And.intro hown' hbk)
                      clear hown' hgrow hbk hown2
                      go_wp2
                      go_roundw
                      case rel => exact RcRel.take hlt hkl HMem.out HAll.out HFo.out HEq.out HN.out.1 HN.out.2 _ (by go_num)
                      case measure => simp [intOf] <;> omega
                  · have g3 : decide ((ks.length : Int) - 1 < 0) = false := by simp; omega
                    obtain ⟨i, hii⟩ : ∃ i, i = ks.getD (ks.length - 1) 0 := ⟨_, rfl⟩
                    have hik : i < k := by rw [hii, getD_get _ _ (by omega)]; exact hmem _ (List.getElem_mem _)
                    rcases Go.Joins.ownsRow_forms Hown.out with ⟨_, hn⟩ | ⟨go, cap0, hfm⟩
                    · exact absurd hn h3
                    obtain ⟨rfl, rfl⟩ : ao = some ⟨go, 0, none⟩ ∧ cap = cap0 := by injection hfm with e1 e2 e3; exact ⟨e1, e3⟩
                    clear hfm
                    have co : wr.cell? ⟨go, ks.length - 1, none⟩ = some (.int .i64 (i : Int)) := by
                      rw [Hown.out.cellAt (ks.length - 1) (by omega), List.getElem?_map, List.getElem?_eq_getElem (by omega), hii, getD_get _ _ (by omega)]
                      rfl
                    rw [← hii] at hfo
                    obtain ⟨a, rfl, la, ck0⟩ := HN.out k hlt
                    obtain ⟨a', e', _, ci0⟩ := HN.out i (by omega)
                    injection e' with e'
                    subst e'
                    have hbw := below_trans' Hb.out hb2
                    have ck := (hbw.cell (p := a.add k) (by rw [add_block]; exact la)).trans ck0
                    have ci := (hbw.cell (p := a.add i) (by rw [add_block]; exact la)).trans ci0
                    have hvk := HV.out.2 k hlt
                    have hvi := HV.out.2 i (by omega)
                    obtain ⟨y, hy⟩ : ∃ y, y = l.getD k 0 := ⟨_, rfl⟩
                    obtain ⟨x, hx⟩ : ∃ y, y = l.getD i 0 := ⟨_, rfl⟩
                    rw [← hy] at hfo ck hvk
                    rw [← hx] at hfo ci hvi
                    have q4 : IntKind.i64.wrap (y - x) = y - x := IntWalk.i64_in _ (by omega)
                    have q5 : IntKind.i64.wrap ((k : Int) - (i : Int)) = (k : Int) - (i : Int) := IntWalk.i64_in _ (by omega)
                    have p1 : (0 : Int) ≤ (ks.length : Int) - 1 := by omega
                    have p1' : (1 : Int) ≤ (ks.length : Int) := by omega
                    have p2 : ((ks.length : Int) - 1).toNat = ks.length - 1 := by omega
                    have p3 : (ks.length : Int) - 1 < (ks.length : Int) := by omega
                    have p4 : (0 : Int) ≤ (i : Int) := by omega
                    have p5 : (i : Int) < (l.length : Int) := by omega
                    by_cases h4 : (k : Int) - i ≤ y - x
                    · have g4 : decide ((k : Int) - i ≤ y - x) = true := by simpa using h4
                      have g4' : decide (y - x ≥ (k : Int) - i) = true := by simpa using h4
                      have HFo := Lib.hid (show Cm.fol l (Cm.lastK ks) k = true by rw [hfo, g1, g4]; simp)
                      clear h1 h2 h3 h4 hfo hmem hb2 hii hy hx ck0 ci0 hvk hvi hbw
                      go_wp2
                      go_quiet (fail)
                      have hown2 := own_keep Hown.out (below_drewN0 (w := wr) nq)
                      have hs2 := Hb2.out.size
                      go_wp2_with (first
                        | (at_builtin; refine wpList_append_own _ rfl _ _ 38 rfl w0.heap.size 3 i0 (.int .i64 0) 1 8 Tryz.underlying38 hi hz0 hz1 hz2 rfl (by decide) _ _ _ rfl (hown2.alloc _) ⟨wr.heap.size, 0, none⟩ 1 1 [.int .i64 (k : Int)] rfl rfl ?c1 ?c2 ?c3 ?c4 ?c5 ?_))
                      case c1 =>
                        intro j u hj
                        match j, hj with
                        | 0, hj => simp at hj; subst hj; simp [Addr.add]; exact (Blk.new (wr.drewN nq) 3 #[.int .i64 (k : Int)]).cell 0
                      case c2 => intro u hu; simp at hu; subst hu; rfl
                      case c3 => unfold maxLen; omega
                      case c4 => omega
                      case c5 => simp; omega
                      · intro v' w3 hown' hgrow _
                        have hbk := ((below_drewN' Hb2.out nq).alloc (by simpa using hs2) _).grown hgrow (by simp; omega) (fun g hg => (hown2.lt g hg).1)
                        obtain ⟨gg, cap', hv, _, _⟩ := hown'.form (by omega)
                        subst hv
                        have HN := Lib.hid (And.intro hown' hbk)
                        clear hown' hgrow hbk hown2
                        go_wp2
                        go_roundw
                        case rel => exact RcRel.take hlt hkl HMem.out HAll.out HFo.out HEq.out HN.out.1 HN.out.2 _ (by go_num)
                        case measure => simp [intOf] <;> omega
                    · have g4 : decide ((k : Int) - i ≤ y - x) = false := by simpa using h4
                      have g4' : decide (y - x ≥ (k : Int) - i) = false := by simpa using h4
                      have HNo := Lib.hid (show ¬ (Cm.fol l (Cm.lastK ks) k = true ∧ (Cm.bst l k : Int) = (Cm.best l : Int) - ks.length) from fun e => by rw [hfo, g3, g4] at e; simp at e)
                      clear h1 h2 h3 h4 hfo hmem hb2 hii hy hx ck0 ci0 hvk hvi hbw
                      go_wp2
                      go_quiet (fail)
                      go_wp2
                      go_roundw
                      case rel => exact RcRel.skip hlt hkl HMem.out HAll.out HNo.out (own_keep Hown.out (below_drewN0 _)) (below_drewN' Hb2.out _) _ (by go_num)
                      case measure => simp [intOf] <;> omega
                · have g2 : (B == b - (ks.length : Int)) = false := by simpa using h2
                  have HNo := Lib.hid (show ¬ (Cm.fol l (Cm.lastK ks) k = true ∧ (Cm.bst l k : Int) = (Cm.best l : Int) - ks.length) from fun e => h2 (by rw [HB.out, Hbb.out]; exact e.2))
                  clear h1 h2 hfo hmem hb2
                  go_wp2
                  go_quiet (fail)
                  go_wp2
                  go_roundw
                  case rel => exact RcRel.skip hlt hkl HMem.out HAll.out HNo.out (own_keep Hown.out (below_drewN0 _)) (below_drewN' Hb2.out _) _ (by go_num)
                  case measure => simp [intOf] <;> omega
              · have g1 : decide (0 < B) = false := by simpa using h1
                have g1' : decide (B > 0) = false := by simpa using h1
                have HNo := Lib.hid (show ¬ (Cm.fol l (Cm.lastK ks) k = true ∧ (Cm.bst l k : Int) = (Cm.best l : Int) - ks.length) from fun e => by rw [hfo, g1] at e; simp at e)
                clear h1 hfo hmem hb2
                go_wp2
                go_quiet (fail)
                go_wp2
                go_roundw
                case rel => exact RcRel.skip hlt hkl HMem.out HAll.out HNo.out (own_keep Hown.out (below_drewN0 _)) (below_drewN' Hb2.out _) _ (by go_num)
                case measure => simp [intOf] <;> omega
            · obtain rfl : k = l.length := by omega
              have f1 : decide ((l.length : Int) < (l.length : Int)) = false := by simp
              have Hall := Lib.hid hall
              have Hown := Lib.hid hown
              have Hbe := Lib.hid (below_trans' Hb.out hb2)
              clear hall hown hb2 hmem
              go_wp2
              go_ret2
              exact ⟨_, rfl, ⟨_, by rw [Hall.out, Nat.sub_self]; simp only [Cm.chn, List.append_nil, List.length_map, List.map_map]; exact Hown.out⟩, Hbe.out⟩
    · obtain ⟨i, rfl⟩ : ∃ i, j = i + 1 := ⟨j - 1, by omega⟩
      obtain rfl : z = (i : Int) := by omega
      clear hz hj0
      have d1 : decide ((0 : Int) ≤ (i : Int)) = true := by simp
      have d1' : decide ((i : Int) ≥ 0) = true := by simp
      have d2 : (0 : Int) ≤ (i : Int) := by omega
      have d3 : (i : Int) < (l.length : Int) := by omega
      have d4 : (i : Int) < (l.length : Int) + 1 := by omega
      obtain ⟨a, rfl, la, ca⟩ := HN.out i (by omega)
      have ci := (hb.cell (p := a.add i) (by rw [add_block]; exact la)).trans ca
      have hv := HV.out.2 i (by omega)
      have hst : Cm.stay l i = (decide ((i : Int) + 1 ≤ l.getD i 0) && decide (l.getD i 0 ≤ 99999 - ((l.length : Int) - 1 - i))) := rfl
      obtain ⟨x, hx⟩ : ∃ x, x = l.getD i 0 := ⟨_, rfl⟩
      rw [← hx] at ci hst hv
      have Hx := Lib.hid hx
      clear hx ca
      have p1 : IntKind.i64.wrap ((i : Int) + 1) = (i : Int) + 1 := IntWalk.i64_in _ (by omega)
      have p2 : IntKind.i64.wrap ((l.length : Int) - 1) = (l.length : Int) - 1 := IntWalk.i64_in _ (by omega)
      have p3 : IntKind.i64.wrap ((l.length : Int) - 1 - (i : Int)) = (l.length : Int) - 1 - (i : Int) := IntWalk.i64_in _ (by omega)
      have p4 : IntKind.i64.wrap (99999 - ((l.length : Int) - 1 - (i : Int))) = 99999 - ((l.length : Int) - 1 - (i : Int)) := IntWalk.i64_in _ (by omega)
      have p5 : IntKind.i64.wrap ((i : Int) - 1) = (i : Int) - 1 := IntWalk.i64_in _ (by omega)
      have HT := Lib.hid hT
      have Hb := Lib.hid hb
      clear hT hb
      by_cases h1 : x < (i : Int) + 1
      · have e1 : decide (x < (i : Int) + 1) = true := by simpa using h1
        have Hs := Lib.hid (show Cm.stay l i = false by rw [hst]; simp <;> omega)
        clear h1 hst hv
        go_wp2
        go_roundw
        case rel => exact ⟨i, (i : Int) - 1, by omega, rfl, rfl, HT.out.skip Hs.out, Hb.out⟩
        case measure => simp [intOf] <;> omega
      · have e1 : decide (x < (i : Int) + 1) = false := by simpa using h1
        by_cases h2 : 99999 - ((l.length : Int) - 1 - (i : Int)) < x
        · have e2 : decide (99999 - ((l.length : Int) - 1 - (i : Int)) < x) = true := by simpa using h2
          have e2' : decide (x > 99999 - ((l.length : Int) - 1 - (i : Int))) = true := by simpa using h2
          have Hs := Lib.hid (show Cm.stay l i = false by rw [hst]; simp <;> omega)
          clear h1 h2 hst hv
          go_wp2
          go_roundw
          case rel => exact ⟨i, (i : Int) - 1, by omega, rfl, rfl, HT.out.skip Hs.out, Hb.out⟩
          case measure => simp [intOf] <;> omega
        · have e2 : decide (99999 - ((l.length : Int) - 1 - (i : Int)) < x) = false := by simpa using h2
          have e2' : decide (x > 99999 - ((l.length : Int) - 1 - (i : Int))) = false := by simpa using h2
          have Hs := Lib.hid (show Cm.stay l i = true by rw [hst]; simp <;> omega)
          have lg := HT.out.lt
          obtain ⟨cv, cg⟩ : ∃ v, wr.cell? ⟨w.heap.size, i, none⟩ = some v := HT.out.has (by omega)
          have cf := HT.out.frozen i
          have HI := Lib.hid HT.out.begin
          have HB1 := Lib.hid (Hb.out.setCell (p := ⟨w.heap.size, i, none⟩) (Nat.le_refl _) (.int .i64 1))
          clear h1 h2 hst
          go_wp2
          clear cg cf ci e1 e2 e2' p2 p3 p4
          obtain ⟨wo, rfl⟩ : ∃ wo : World, wo = wr := ⟨_, rfl⟩
          go_loopw [8] (fun v8 wx => ∃ k : Nat, i < k ∧ k ≤ l.length ∧ v8 = .int .i64 k ∧ TabI l w.heap.size i k wx ∧ Below w.heap.size w wx) (fun v8 _ => l.length - (intOf v8).toNat)
          case atStart => exact ⟨i + 1, by omega, by omega, by go_num, HI.out, HB1.out⟩
          case round =>
            obtain ⟨k, hik, hk, rfl, hT, hb⟩ := hrel
            by_cases hlt : k < l.length
            · have f1 : decide ((k : Int) < (l.length : Int)) = true := by simp; omega
              have f2 : (k : Int) < (l.length : Int) := by omega
              have f3 : (k : Int) < (l.length : Int) + 1 := by omega
              have f4 : (0 : Int) ≤ (k : Int) := by omega
              have q1 : IntKind.i64.wrap ((k : Int) + 1) = (k : Int) + 1 := IntWalk.i64_in _ (by omega)
              obtain ⟨a', e', _, ck0⟩ := HN.out k hlt
              injection e' with e'
              subst e'
              obtain ⟨a', e', _, ci0⟩ := HN.out i (by omega)
              injection e' with e'
              subst e'
              have ck := (hb.cell (p := a.add k) (by rw [add_block]; exact la)).trans ck0
              have ci := (hb.cell (p := a.add i) (by rw [add_block]; exact la)).trans ci0
              have hvk := HV.out.2 k hlt
              have bk : wr.cell? ⟨w.heap.size, k, none⟩ = some (.int .i64 (Cm.bst l k : Nat)) := (hT.cell (by omega)).trans (by rw [if_neg (by omega), if_pos (by omega)])
              have bi : wr.cell? ⟨w.heap.size, i, none⟩ = some (.int .i64 (Cm.pb l i k : Nat)) := (hT.cell (by omega)).trans (by rw [if_pos rfl])
              have hfz := hT.frozen i
              have lg2 := hT.lt
              have hfo := Cm.fol_bst (l := l) (i := i) hlt
              have hbl := Cm.bst_le (l := l) hlt
              have hpl := Cm.pb_le (l := l) hik (by omega)
              rw [← Hx.out] at hfo ci
              obtain ⟨y, hy⟩ : ∃ y, y = l.getD k 0 := ⟨_, rfl⟩
              obtain ⟨B, hB⟩ : ∃ B : Int, B = (Cm.bst l k : Nat) := ⟨_, rfl⟩
              obtain ⟨M, hM⟩ : ∃ M : Int, M = (Cm.pb l i k : Nat) := ⟨_, rfl⟩
              have hB0 : decide (0 < Cm.bst l k) = decide (0 < B) := by rw [Bool.eq_iff_iff]; simp; omega
              rw [← hy] at hfo ck hvk
              rw [← hB] at bk
              rw [← hM] at bi
              rw [hB0] at hfo
              have q2 : IntKind.i64.wrap (y - x) = y - x := IntWalk.i64_in _ (by omega)
              have q3 : IntKind.i64.wrap ((k : Int) - (i : Int)) = (k : Int) - (i : Int) := IntWalk.i64_in _ (by omega)
              have q4 : IntKind.i64.wrap (B + 1) = B + 1 := IntWalk.i64_in _ (by omega)
              have HT := Lib.hid hT
              have Hb := Lib.hid hb
              have HB := Lib.hid hB
              have HM := Lib.hid hM
              have hne : ¬ k = i := by omega
              clear hT hb hy hB hM hB0 ck0 ci0 hbl hpl hvk hv
              by_cases h1 : 0 < B
              · have g1 : decide (0 < B) = true := by simpa using h1
                have g1' : decide (B > 0) = true := by simpa using h1
                by_cases h2 : (k : Int) - i ≤ y - x
                · have g2 : decide ((k : Int) - i ≤ y - x) = true := by simpa using h2
                  have g2' : decide (y - x ≥ (k : Int) - i) = true := by simpa using h2
                  have Hf := Lib.hid (show Cm.fol l i k = true by rw [hfo, g1, g2]; rfl)
                  clear h1 h2 hfo
                  go_wp2
                  go_quiet (fail)
                  go_wp2
                  go_region
                  all_goals
                    go_wp2
                    go_roundw
                    case rel => exact ⟨k + 1, by omega, by omega, by go_num, TabI.step (RowK.drewN HT.out _) hik Hf.out _ (by have h1 := HM.out; have h2 := HB.out; rw [h1, h2, cast_max]; rfl), (below_drewN' Hb.out _).setCell (Nat.le_refl _) _⟩
                    case measure => simp [intOf] <;> omega
                · have g2 : decide ((k : Int) - i ≤ y - x) = false := by simpa using h2
                  have g2' : decide (y - x ≥ (k : Int) - i) = false := by simpa using h2
                  have Hf := Lib.hid (show Cm.fol l i k = false by rw [hfo, g2]; simp)
                  clear h1 h2 hfo
                  go_wp2
                  go_quiet (fail)
                  go_wp2
                  go_roundw
                  case rel => exact ⟨k + 1, by omega, by omega, by go_num, HT.out.stays hik Hf.out, below_drewN' Hb.out _⟩
                  case measure => simp [intOf] <;> omega
              · have g1 : decide (0 < B) = false := by simpa using h1
                have g1' : decide (B > 0) = false := by simpa using h1
                have Hf := Lib.hid (show Cm.fol l i k = false by rw [hfo, g1]; simp)
                clear h1 hfo
                go_wp2
                go_quiet (fail)
                go_wp2
                go_roundw
                case rel => exact ⟨k + 1, by omega, by omega, by go_num, HT.out.stays hik Hf.out, below_drewN' Hb.out _⟩
                case measure => simp [intOf] <;> omega
            · obtain rfl : k = l.length := by omega
              have f1 : decide ((l.length : Int) < (l.length : Int)) = false := by simp
              have HD := Lib.hid (hT.done (by omega) Hs.out)
              have Hb := Lib.hid hb
              clear hT hb
              go_wp2
              go_roundw
              case rel => exact ⟨i, (i : Int) - 1, by omega, rfl, rfl, HD.out, Hb.out⟩
              case measure => simp [intOf] <;> omega
end Go.Proofs.YtgcddjgkieambaaGreatDoor
