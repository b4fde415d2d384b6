/- The walk of 'Rise'. -/
import Derived.Test.YtgcddjgkieambaaGreatDoorChainC
import Derived.Laws.OwnMore
import Derived.Lib.SmallJoins
set_option linter.unusedVariables false
set_option linter.unusedSimpArgs false
namespace Go.Proofs.YtgcddjgkieambaaGreatDoor
open Go.RowKit

theorem OwnI.later {w w' : World} {v : Value} {zs : List Int} (h : OwnI w v zs) (hb : Below w.heap.size w w') : OwnI w' v zs := by
  obtain ⟨B, h⟩ := h; exact ⟨B, own_keep h hb⟩
/-- A list that a function has made, as a slice in memory. -/
theorem OwnI.form {w : World} {v : Value} {zs : List Int} (h : OwnI w v zs) : ∃ A c, v = .slice A zs.length c ∧ Nums w A zs := by
  obtain ⟨B, h⟩ := h
  rcases Go.Joins.ownsRow_forms h with ⟨rfl, hn⟩ | ⟨g, cap, rfl⟩
  · exact ⟨none, 0, by rw [hn], fun j hj => by omega⟩
  · refine ⟨some ⟨g, 0, none⟩, cap, rfl, fun j hj => ⟨_, rfl, (h.lt g rfl).2, ?_⟩⟩
    have hc := h.cellAt j (by omega)
    rw [show (⟨g, 0, none⟩ : Addr).add j = ⟨g, j, none⟩ by cases j <;> simp [Addr.add], hc, List.getElem?_map, List.getElem?_eq_getElem hj, getD_get _ _ hj]
    rfl
theorem contains_own (v : Value) (zs : List Int) (x : Int) (w : World) (h : OwnI w v zs) (hl : zs.length ≤ 1000000) : Calls Tryz.prog 83 #[v, .int .i64 x] w fun e w' => e = .returned (.bool (zs.contains x)) ∧ w = w' := by
  obtain ⟨B, h⟩ := h
  rcases Go.Joins.ownsRow_forms h with ⟨rfl, hn⟩ | ⟨g, cap, rfl⟩
  · obtain rfl : zs = [] := by simpa using hn
    exact (Tryz.slices_Contains_int_empty none 0 x w).mono fun e w' ⟨h1, h2⟩ => ⟨h1, h2.symm⟩
  · have := Tryz.slices_Contains_int g 0 zs.length cap zs x w (Nat.le_refl _) (by omega) (fun j hj => by
      have hc := h.cellAt j (by omega)
      rw [Nat.zero_add, hc, List.getElem?_map, List.getElem?_eq_getElem hj, getD_get _ _ hj]
      rfl)
    rw [List.take_length] at this
    exact this.mono fun e w' ⟨h1, h2⟩ => ⟨h1, h2.symm⟩

set_option maxRecDepth 100000 in
set_option maxHeartbeats 1000000 in
theorem Rise_no (A : Option Addr) (c : Nat) (l : List Int) (w : World) (h : Nums w A l) (he : serErr l ≠ 0) :
    Calls Tryz.prog 30 #[.slice A l.length c] w fun e w' => e = .returned (.tuple #[.slice none 0 0, .int .i64 (serErr l)]) ∧ Below w.heap.size w w' := by
  have HC := Lib.hid (Chain_no A c l w h he)
  obtain ⟨er, her⟩ : ∃ z, z = serErr l := ⟨_, rfl⟩
  rw [← her] at HC he ⊢
  have h0 : (er != 0) = true := by simpa using he
  clear h her he
  go_enter Tryz.func30, Tryz.ntmps30
  go_wp2_with (go_at_call 28; refine HC.out.mono ?_; rintro e w1 ⟨rfl, hb1⟩)
  go_ret2
  exact ⟨rfl, hb1⟩

theorem contains_cast (ks : List Nat) (k : Nat) : (ks.map fun (k : Nat) => (k : Int)).contains (k : Int) = decide (k ∈ ks) := by
  rw [Bool.eq_iff_iff, List.contains_iff_mem, decide_eq_true_iff, List.mem_map]
  constructor
  · rintro ⟨a, h1, h2⟩
    obtain rfl : a = k := by omega
    exact h1
  · intro h
    exact ⟨k, h, rfl⟩
/-- What holds at the head of each round: the list so far, and its last number. -/
def RiRel (l : List Int) (wo : World) (v6 v7 v20 : Value) (wx : World) : Prop :=
  ∃ k : Nat, k ≤ l.length ∧ v20 = .int .i64 k ∧ v7 = .int .i64 (Cm.rv l (Cm.chain l) k) ∧ wx.ownsRow wo.heap.size 3 1 v6 k ((List.range k).map fun i => .int .i64 (Cm.rv l (Cm.chain l) (i + 1))) ∧ Below wo.heap.size wo wx

set_option maxRecDepth 100000 in
set_option maxHeartbeats 4000000 in
theorem Rise_ok (A : Option Addr) (c : Nat) (l : List Int) (w : World) (h : Nums w A l) (he : serErr l = 0) :
    Calls Tryz.prog 30 #[.slice A l.length c] w fun e w' => ∃ v, e = .returned (.tuple #[v, .int .i64 0]) ∧ OwnI w' v (Cm.rise l (Cm.chain l)) ∧ Below w.heap.size w w' := by
  have HC := Lib.hid (Chain_ok A c l w h he)
  have hl : l.length ≤ 400 := by unfold serErr at he; split at he <;> omega
  obtain ⟨i0, hi, hz0, hz1, hz2⟩ := info_parts info3
  have HN := Lib.hid h
  clear h he
  go_enter Tryz.func30, Tryz.ntmps30
  go_wp2_with (go_at_call 28; refine HC.out.mono ?_; rintro e w1 ⟨v, rfl, hO, hb1⟩)
  have HO := Lib.hid hO
  have Hb1 := Lib.hid hb1
  clear hO hb1 HC
  go_loopw [6, 7, 20] (fun v6 v7 v20 wx => RiRel l w1 v6 v7 v20 wx) (fun _ _ v20 _ => l.length - (intOf v20).toNat)
  case atStart => exact ⟨0, by omega, rfl, rfl, World.ownsRow_nil _ _ _ _, Below.refl _ _⟩
  case round =>
    obtain ⟨k, hk, rfl, rfl, hown, hb⟩ := hrel
    by_cases hlt : k < l.length
    · have hN := (HN.out.later Hb1.out).later hb
      obtain ⟨a, rfl, _, ca⟩ := hN k hlt
      have d0 : (k : Int) < (l.length : Int) := by omega
      have d1 : (0 : Int) ≤ (k : Int) := by omega
      have hr := Cm.rv_rise hl k hlt
      have hn0 := Cm.rv_nonneg hl k hk
      have hcl := Cm.chain_length (l := l)
      have hbb := Cm.best_le (l := l)
      have Hct := Lib.hid (contains_own v ((Cm.chain l).map fun (k : Nat) => (k : Int)) k wr (HO.out.later hb) (by rw [List.length_map]; omega))
      rw [contains_cast] at Hct
      have hrv : Cm.rv l (Cm.chain l) (k + 1) = if k ∈ Cm.chain l then l.getD k 0 else Cm.rv l (Cm.chain l) k + 1 := rfl
      obtain ⟨x, hx⟩ : ∃ x, x = l.getD k 0 := ⟨_, rfl⟩
      obtain ⟨y, hy⟩ : ∃ y, y = Cm.rv l (Cm.chain l) k := ⟨_, rfl⟩
      rw [← hx] at ca hrv
      rw [← hy] at hrv hr hn0 ⊢
      have q1 : IntKind.i64.wrap (y + 1) = y + 1 := IntWalk.i64_in _ (by omega)
      have hsz := hb.size
      have Hb := Lib.hid hb
      have Hown := Lib.hid hown
      clear hN hb hx hy hcl hbb hown hr
      by_cases hin : k ∈ Cm.chain l
      · rw [if_pos hin] at hrv
        rw [decide_eq_true hin] at Hct
        have Hrv := Lib.hid hrv
        clear hrv hin
        have hown := Hown.out
        go_wp2_with (first
          | (at_builtin; refine wpList_append_own _ rfl _ _ 38 rfl w1.heap.size 3 i0 (.int .i64 0) 1 8 Tryz.underlying38 hi hz0 hz1 hz2 rfl (by decide) _ _ _ rfl (hown.alloc _) ⟨wr.heap.size, 0, none⟩ 1 1 [.int .i64 x] rfl rfl ?c1 ?c2 ?c3 ?c4 ?c5 ?_)
          | (go_at_call 83; refine Hct.out.mono ?_; rintro e w2 ⟨rfl, rfl⟩))
        case c1 =>
          intro j u hj
          match j, hj with
          | 0, hj => simp at hj; subst hj; simp [Addr.add]
        case c2 => intro u hu; simp at hu; subst hu; rfl
        case c3 => unfold maxLen; omega
        case c4 => omega
        case c5 => simp; omega
        · intro v' w3 hown' hgrow _
          have hB := (Hb.out.alloc hsz (Obj.cells #[.int .i64 x] 3)).grown hgrow (by simp; omega) (fun g hg => (hown.lt g hg).1)
          have HR := Lib.hid (And.intro hown' hB)
          clear hown' hgrow hB hown
          go_wp2
          go_roundw
          case rel => exact ⟨k + 1, by omega, by go_num, by rw [Hrv.out], by rw [List.range_succ, List.map_append, List.map_singleton, Hrv.out]; exact HR.out.1, HR.out.2⟩
          case measure => simp [intOf]; omega
      · rw [if_neg hin] at hrv
        rw [decide_eq_false hin] at Hct
        have Hrv := Lib.hid hrv
        clear hrv hin
        have hown := Hown.out
        go_wp2_with (first
          | (at_builtin; refine wpList_append_own _ rfl _ _ 38 rfl w1.heap.size 3 i0 (.int .i64 0) 1 8 Tryz.underlying38 hi hz0 hz1 hz2 rfl (by decide) _ _ _ rfl (hown.alloc _) ⟨wr.heap.size, 0, none⟩ 1 1 [.int .i64 (y + 1)] rfl rfl ?c1 ?c2 ?c3 ?c4 ?c5 ?_)
          | (go_at_call 83; refine Hct.out.mono ?_; rintro e w2 ⟨rfl, rfl⟩))
        case c1 =>
          intro j u hj
          match j, hj with
          | 0, hj => simp at hj; subst hj; simp [Addr.add]
        case c2 => intro u hu; simp at hu; subst hu; rfl
        case c3 => unfold maxLen; omega
        case c4 => omega
        case c5 => simp; omega
        · intro v' w3 hown' hgrow _
          have hB := (Hb.out.alloc hsz (Obj.cells #[.int .i64 (y + 1)] 3)).grown hgrow (by simp; omega) (fun g hg => (hown.lt g hg).1)
          have HR := Lib.hid (And.intro hown' hB)
          clear hown' hgrow hB hown
          go_wp2
          go_roundw
          case rel => exact ⟨k + 1, by omega, by go_num, by rw [Hrv.out], by rw [List.range_succ, List.map_append, List.map_singleton, Hrv.out]; exact HR.out.1, HR.out.2⟩
          case measure => simp [intOf]; omega
    · obtain rfl : k = l.length := by omega
      have Hown := Lib.hid hown
      have Hb := Lib.hid hb
      clear hown hb
      go_wp2
      go_ret2
      exact ⟨_, rfl, ⟨_, by rw [Cm.rise_length, Cm.rise, List.map_map]; exact Hown.out⟩, below_trans' Hb1.out Hb.out⟩
end Go.Proofs.YtgcddjgkieambaaGreatDoor
