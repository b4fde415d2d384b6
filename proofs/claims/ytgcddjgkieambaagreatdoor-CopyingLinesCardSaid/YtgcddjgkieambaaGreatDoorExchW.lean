/- The walks of 'CopyExchange' and 'CopyLine'. -/
import Derived.Test.YtgcddjgkieambaaGreatDoorNumW
set_option linter.unusedVariables false
set_option linter.unusedSimpArgs false
namespace Go.Proofs.YtgcddjgkieambaaGreatDoor
open Go.RowKit

/-- A layout and two exchanges, boxed one behind the other. -/
def ExMem (W : World) (g : Nat) (o1 o2 o3 : Bool) (r s z r' s' z' : Int) : Prop := Blk W g 58 #[.bool o1, .bool o2, .bool o3] ∧ Blk W (g + 1) 60 #[.int .i64 r, .int .i64 s, .int .i64 z] ∧ Blk W (g + 1 + 1) 60 #[.int .i64 r', .int .i64 s', .int .i64 z']
theorem ExMem.later {W W' : World} {g : Nat} {o1 o2 o3 : Bool} {r s z r' s' z' : Int} (h : ExMem W g o1 o2 o3 r s z r' s' z') (hb : Below W.heap.size W W') : ExMem W' g o1 o2 o3 r s z r' s' z' := ⟨h.1.later hb, h.2.1.later hb, h.2.2.later hb⟩
theorem ExMem.cells {W : World} {g : Nat} {o1 o2 o3 : Bool} {r s z r' s' z' : Int} (h : ExMem W g o1 o2 o3 r s z r' s' z') :
    (W.cell? ⟨g, 0, none⟩ = some (.bool o1) ∧ W.cell? ⟨g, 1, none⟩ = some (.bool o2) ∧ W.cell? ⟨g, 2, none⟩ = some (.bool o3)) ∧
    (W.cell? ⟨g + 1, 0, none⟩ = some (.int .i64 r) ∧ W.cell? ⟨g + 1, 1, none⟩ = some (.int .i64 s) ∧ W.cell? ⟨g + 1, 2, none⟩ = some (.int .i64 z)) ∧
    (W.cell? ⟨g + 1 + 1, 0, none⟩ = some (.int .i64 r') ∧ W.cell? ⟨g + 1 + 1, 1, none⟩ = some (.int .i64 s') ∧ W.cell? ⟨g + 1 + 1, 2, none⟩ = some (.int .i64 z')) := ⟨blk3' h.1, blk3' h.2.1, blk3' h.2.2⟩
theorem ExMem.new (w : World) (o1 o2 o3 : Bool) (r s z r' s' z' : Int) : ExMem (((w.alloc (.cells #[.bool o1, .bool o2, .bool o3] 58)).alloc (.cells #[.int .i64 r, .int .i64 s, .int .i64 z] 60)).alloc (.cells #[.int .i64 r', .int .i64 s', .int .i64 z'] 60)) w.heap.size o1 o2 o3 r s z r' s' z' := by
  refine ⟨((Blk.new w 58 _).alloc _).alloc _, ?_, ?_⟩
  · have := (Blk.new (w.alloc (.cells #[.bool o1, .bool o2, .bool o3] 58)) 60 #[.int .i64 r, .int .i64 s, .int .i64 z]).alloc (.cells #[.int .i64 r', .int .i64 s', .int .i64 z'] 60)
    simpa using this
  · have := Blk.new ((w.alloc (.cells #[.bool o1, .bool o2, .bool o3] 58)).alloc (.cells #[.int .i64 r, .int .i64 s, .int .i64 z] 60)) 60 #[.int .i64 r', .int .i64 s', .int .i64 z']
    simpa using this
theorem below_three (w : World) (a b c : Obj) : Below w.heap.size w (((w.alloc a).alloc b).alloc c) := ((below_alloc0 _).alloc (by simp) _).alloc (by simp; omega) _

/-- The parts of both exchanges, one by one. -/
def exH (o1 o2 o3 : Bool) : Nat → Bool | 0 => o1 | 1 => o2 | _ => o3
def exN (r s z : Int) : Nat → Int | 0 => r | 1 => s | _ => z
def exSum (o1 o2 o3 : Bool) (m r s z r' s' z' : Int) : Nat → Int
  | 0 => 0
  | k + 1 => exSum o1 o2 o3 m r s z r' s' z' k + if exH o1 o2 o3 k then cnC m (exN r s z k) (exN r' s' z' k) else 0
theorem exSum_three (o1 o2 o3 : Bool) (m r s z r' s' z' : Int) : exSum o1 o2 o3 m r s z r' s' z' 3 = (if o1 then cnC m r r' else 0) + (if o2 then cnC m s s' else 0) + (if o3 then cnC m z z' else 0) := by
  simp [exSum, exH, exN]
theorem exSum_bd (o1 o2 o3 : Bool) (m r s z r' s' z' : Int) : ∀ k : Nat, 0 ≤ exSum o1 o2 o3 m r s z r' s' z' k ∧ exSum o1 o2 o3 m r s z r' s' z' k ≤ 20000 * k
  | 0 => by simp [exSum]
  | k + 1 => by
    have h := exSum_bd o1 o2 o3 m r s z r' s' z' k
    have b := cnC_bd m (exN r s z k) (exN r' s' z' k)
    rw [exSum]
    split <;> omega

theorem exCells {W : World} {g : Nat} {o1 o2 o3 : Bool} {r s z r' s' z' : Int} (h : Blk W g 108 #[.bool o1, .int .i64 r, .int .i64 r', .bool o2, .int .i64 s, .int .i64 s', .bool o3, .int .i64 z, .int .i64 z']) :
    ∀ k : Nat, k < 3 → W.cell? ⟨g, k * 3, none⟩ = some (.bool (exH o1 o2 o3 k)) ∧ W.cell? ⟨g, k * 3 + 1, none⟩ = some (.int .i64 (exN r s z k)) ∧ W.cell? ⟨g, k * 3 + 2, none⟩ = some (.int .i64 (exN r' s' z' k))
  | 0, _ => ⟨h.cell 0, h.cell 1, h.cell 2⟩
  | 1, _ => ⟨h.cell 3, h.cell 4, h.cell 5⟩
  | 2, _ => ⟨h.cell 6, h.cell 7, h.cell 8⟩
  | n + 3, h => absurd h (by omega)

set_option maxRecDepth 100000 in
set_option maxHeartbeats 4000000 in
theorem CopyExchange_ok (o1 o2 o3 : Bool) (m r s z r' s' z' : Int) (w : World) (hP : Pow w) (he : cxE o1 o2 o3 m r s z r' s' z' = 0) :
    Calls Tryz.prog 52 #[.agg #[.bool o1, .bool o2, .bool o3], .int .i64 m, .agg #[.int .i64 r, .int .i64 s, .int .i64 z], .agg #[.int .i64 r', .int .i64 s', .int .i64 z']] w fun e w' =>
      e = .returned (.tuple #[.int .i64 (cxC o1 o2 o3 m r s z r' s' z'), .int .i64 (cxE o1 o2 o3 m r s z r' s' z')]) ∧ Below w.heap.size w w' := by
  obtain ⟨hm, v1, v2⟩ := cxE_ok he
  have f1 : cxC o1 o2 o3 m r s z r' s' z' = exSum o1 o2 o3 m r s z r' s' z' 3 := by unfold cxC; rw [if_pos he, exSum_three]
  rw [f1, he]
  have V1 := Lib.hid (fun W => valid_any o1 o2 o3 r s z W)
  have V2 := Lib.hid (fun W => valid_any o1 o2 o3 r' s' z' W)
  rw [v1] at V1
  rw [v2] at V2
  have HM := Lib.hid (ExMem.new w o1 o2 o3 r s z r' s' z')
  have HP := Lib.hid hP
  have Hm := Lib.hid hm
  clear v1 v2 f1 he hP hm
  go_enter Tryz.func52, Tryz.ntmps52
  go_wp2_with (first
    | (go_at_call 87; refine (waysT m _ Hm.out).mono ?_; rintro e w1 ⟨T, x, rfl, hC, hb1⟩; have hM := HM.out.later hb1; have hbt := below_trans' (below_three w _ _ _) hb1; obtain ⟨⟨a0, a1, a2⟩, ⟨b0, b1, b2⟩, ⟨c0, c1, c2⟩⟩ := hM.cells)
    | (go_at_call 94; (with_reducible refine (V1.out _).mono ?_); rintro e w2 ⟨rfl, hb2⟩; have hM := hM.later hb2; have hbt := below_trans' hbt hb2; obtain ⟨⟨a0, a1, a2⟩, ⟨b0, b1, b2⟩, ⟨c0, c1, c2⟩⟩ := hM.cells)
    | (go_at_call 94; (with_reducible refine (V2.out _).mono ?_); rintro e w3 ⟨rfl, hb3⟩; have hM := hM.later hb3; have hbt := below_trans' hbt hb3; obtain ⟨⟨a0, a1, a2⟩, ⟨b0, b1, b2⟩, ⟨c0, c1, c2⟩⟩ := hM.cells))
  have hA := Blk.new w3 108 #[.bool o1, .int .i64 r, .int .i64 r', .bool o2, .int .i64 s, .int .i64 s', .bool o3, .int .i64 z, .int .i64 z']
  have hb4 := hbt.alloc hbt.size (Obj.cells #[.bool o1, .int .i64 r, .int .i64 r', .bool o2, .int .i64 s, .int .i64 s', .bool o3, .int .i64 z, .int .i64 z'] 108)
  obtain ⟨g, hg⟩ : ∃ g, g = w3.heap.size := ⟨_, rfl⟩
  obtain ⟨W4, hW4⟩ : ∃ W, W = w3.alloc (Obj.cells #[.bool o1, .int .i64 r, .int .i64 r', .bool o2, .int .i64 s, .int .i64 s', .bool o3, .int .i64 z, .int .i64 z'] 108) := ⟨_, rfl⟩
  rw [← hW4] at hA hb4 ⊢
  rw [← hg] at hA ⊢
  have HA := Lib.hid hA
  have Hb4 := Lib.hid hb4
  have HCN := Lib.hid (fun (a b : Int) W (hb : Below W4.heap.size W4 W) => CopyNumber_any m a b W (HP.out.later (below_trans' hb4 hb)))
  have hm : isMode m := Hm.out
  clear hA hb4 hbt hW4 hg hM a0 a1 a2 b0 b1 b2 c0 c1 c2 hb1 hb2 hb3 V1 V2 HM
  go_loopw [12, 57] (fun v12 v57 wx => ∃ k : Nat, k ≤ 3 ∧ v57 = .int .i64 k ∧ v12 = .int .i64 (exSum o1 o2 o3 m r s z r' s' z' k) ∧ Below W4.heap.size W4 wx) (fun _ v57 _ => 3 - (intOf v57).toNat)
  case atStart => exact ⟨0, by omega, rfl, rfl, Below.refl _ _⟩
  case round =>
    obtain ⟨k, hk, rfl, rfl, hb⟩ := hrel
    have hsb := exSum_bd o1 o2 o3 m r s z r' s' z' k
    by_cases hlt : k < 3
    · have e1 : decide ((k : Int) < 3) = true := by simp; omega
      have e2 : (k : Int) < 3 := by omega
      have e3 : (0 : Int) ≤ (k : Int) := by omega
      have p1 : IntKind.i64.wrap ((k : Int) + 1) = (k : Int) + 1 := IntWalk.i64_in _ (by omega)
      have hAr := HA.out.later hb
      obtain ⟨x0, x1, x2⟩ := exCells hAr k hlt
      have lg := hAr.lt
      have hss : exSum o1 o2 o3 m r s z r' s' z' (k + 1) = exSum o1 o2 o3 m r s z r' s' z' k + if exH o1 o2 o3 k then cnC m (exN r s z k) (exN r' s' z' k) else 0 := rfl
      obtain ⟨S, hS⟩ : ∃ S, S = exSum o1 o2 o3 m r s z r' s' z' k := ⟨_, rfl⟩
      obtain ⟨a, ha⟩ : ∃ a, a = exN r s z k := ⟨_, rfl⟩
      obtain ⟨b, hbb⟩ : ∃ a, a = exN r' s' z' k := ⟨_, rfl⟩
      obtain ⟨hh, hhh⟩ : ∃ a, a = exH o1 o2 o3 k := ⟨_, rfl⟩
      rw [← hS] at hss hsb ⊢
      rw [← ha] at hss x1
      rw [← hbb] at hss x2
      rw [← hhh] at hss x0
      have bc := cnC_bd m a b
      have q1 : IntKind.i64.wrap (S + cnC m a b) = S + cnC m a b := IntWalk.i64_in _ (by omega)
      have Hb := Lib.hid hb
      have hsz := hb.size
      have hn : ¬ wr.heap.size = g := by omega
      clear hS ha hbb hhh hb hAr hsb
      cases hh
      · have Hss := Lib.hid hss
        clear hss
        go_wp2_with fail
        go_roundw
        case rel => exact ⟨k + 1, by omega, by go_num, by rw [Hss.out]; simp, Hb.out.alloc hsz _⟩
        case measure => simp [intOf]; omega
      · have Hss := Lib.hid hss
        clear hss
        go_wp2_with (first | (go_at_call 62; refine (HCN.out a b _ (Hb.out.alloc hsz _)).mono ?_; rintro e w5 ⟨rfl, hb5⟩))
        go_roundw
        case rel => exact ⟨k + 1, by omega, by go_num, by rw [Hss.out]; simp, below_trans' (Hb.out.alloc hsz _) hb5⟩
        case measure => simp [intOf]; omega
    · obtain rfl : k = 3 := by omega
      have Hbe := Lib.hid (below_trans' Hb4.out hb)
      obtain ⟨S, hS⟩ : ∃ S, S = exSum o1 o2 o3 m r s z r' s' z' 3 := ⟨_, rfl⟩
      rw [← hS]
      have HS := Lib.hid hS
      clear hb hsb hS
      go_wp2
      go_ret2
      exact ⟨by rw [← HS.out]; rfl, Hbe.out⟩

set_option maxRecDepth 100000 in
set_option maxHeartbeats 4000000 in
theorem CopyExchange_no (o1 o2 o3 : Bool) (m r s z r' s' z' : Int) (w : World) (he : cxE o1 o2 o3 m r s z r' s' z' ≠ 0) :
    Calls Tryz.prog 52 #[.agg #[.bool o1, .bool o2, .bool o3], .int .i64 m, .agg #[.int .i64 r, .int .i64 s, .int .i64 z], .agg #[.int .i64 r', .int .i64 s', .int .i64 z']] w fun e w' =>
      e = .returned (.tuple #[.int .i64 (cxC o1 o2 o3 m r s z r' s' z'), .int .i64 (cxE o1 o2 o3 m r s z r' s' z')]) ∧ Below w.heap.size w w' := by
  have f1 : cxC o1 o2 o3 m r s z r' s' z' = 0 := by unfold cxC; rw [if_neg he]
  rw [f1]
  have V1 := Lib.hid (fun W => valid_any o1 o2 o3 r s z W)
  have V2 := Lib.hid (fun W => valid_any o1 o2 o3 r' s' z' W)
  have HM := Lib.hid (ExMem.new w o1 o2 o3 r s z r' s' z')
  by_cases hm : isMode m
  · have f2 : cxE o1 o2 o3 m r s z r' s' z' = if validB o1 o2 o3 r s z && validB o1 o2 o3 r' s' z' then 0 else 1 := by unfold cxE; rw [if_neg (show ¬ ¬ (m = 1 ∨ m = 2 ∨ m = 3) from fun h => h hm)]
    rw [f2] at he ⊢
    have Hm := Lib.hid hm
    obtain ⟨b1, hb1⟩ : ∃ b, b = validB o1 o2 o3 r s z := ⟨_, rfl⟩
    obtain ⟨b2, hb2⟩ : ∃ b, b = validB o1 o2 o3 r' s' z' := ⟨_, rfl⟩
    rw [← hb1] at V1 he ⊢
    rw [← hb2] at V2 he ⊢
    clear f1 f2 hb1 hb2 hm
    cases b1
    · clear he
      go_enter Tryz.func52, Tryz.ntmps52
      go_wp2_with (first
        | (go_at_call 87; refine (waysT m _ Hm.out).mono ?_; rintro e w1 ⟨T, x, rfl, hC, hb1⟩; have hM := HM.out.later hb1; have hbt := below_trans' (below_three w _ _ _) hb1; obtain ⟨⟨a0, a1, a2⟩, ⟨b0, b1, b2⟩, ⟨c0, c1, c2⟩⟩ := hM.cells)
        | (go_at_call 94; (with_reducible refine (V1.out _).mono ?_); rintro e w2 ⟨rfl, hb2⟩; have hM := hM.later hb2; have hbt := below_trans' hbt hb2; obtain ⟨⟨a0, a1, a2⟩, ⟨b0, b1, b2⟩, ⟨c0, c1, c2⟩⟩ := hM.cells))
      go_ret2
      exact ⟨rfl, hbt⟩
    · cases b2
      · clear he
        go_enter Tryz.func52, Tryz.ntmps52
        go_wp2_with (first
          | (go_at_call 87; refine (waysT m _ Hm.out).mono ?_; rintro e w1 ⟨T, x, rfl, hC, hb1⟩; have hM := HM.out.later hb1; have hbt := below_trans' (below_three w _ _ _) hb1; obtain ⟨⟨a0, a1, a2⟩, ⟨b0, b1, b2⟩, ⟨c0, c1, c2⟩⟩ := hM.cells)
          | (go_at_call 94; (with_reducible refine (V1.out _).mono ?_); rintro e w2 ⟨rfl, hb2⟩; have hM := hM.later hb2; have hbt := below_trans' hbt hb2; obtain ⟨⟨a0, a1, a2⟩, ⟨b0, b1, b2⟩, ⟨c0, c1, c2⟩⟩ := hM.cells)
          | (go_at_call 94; (with_reducible refine (V2.out _).mono ?_); rintro e w3 ⟨rfl, hb3⟩; have hM := hM.later hb3; have hbt := below_trans' hbt hb3; obtain ⟨⟨a0, a1, a2⟩, ⟨b0, b1, b2⟩, ⟨c0, c1, c2⟩⟩ := hM.cells))
        go_ret2
        exact ⟨rfl, hbt⟩
      · exact absurd rfl he
  · have f2 : cxE o1 o2 o3 m r s z r' s' z' = 40 := by unfold cxE; rw [if_pos (show ¬ (m = 1 ∨ m = 2 ∨ m = 3) from hm)]
    rw [f2]
    clear f1 f2 he V1 V2 HM
    go_enter Tryz.func52, Tryz.ntmps52
    go_wp2_with (first | (go_at_call 87; refine (waysOf_no m _ hm).mono ?_; rintro e w' ⟨rfl, rfl⟩))
    go_ret2
    exact ⟨rfl, below_three w _ _ _⟩

theorem CopyExchange_any (o1 o2 o3 : Bool) (m r s z r' s' z' : Int) (w : World) (hP : Pow w) :
    Calls Tryz.prog 52 #[.agg #[.bool o1, .bool o2, .bool o3], .int .i64 m, .agg #[.int .i64 r, .int .i64 s, .int .i64 z], .agg #[.int .i64 r', .int .i64 s', .int .i64 z']] w fun e w' =>
      e = .returned (.tuple #[.int .i64 (cxC o1 o2 o3 m r s z r' s' z'), .int .i64 (cxE o1 o2 o3 m r s z r' s' z')]) ∧ Below w.heap.size w w' := by
  by_cases he : cxE o1 o2 o3 m r s z r' s' z' = 0
  · exact CopyExchange_ok o1 o2 o3 m r s z r' s' z' w hP he
  · exact CopyExchange_no o1 o2 o3 m r s z r' s' z' w he

/-- The error of a line as a copy, and what it costs. -/
def clE (o1 o2 o3 : Bool) (m : Int) (c c' : ByteArray) (r s z r' s' z' : Int) : Int := if errOf m c c' ≠ 0 then errOf m c c' else cxE o1 o2 o3 m r s z r' s' z'
def clC (o1 o2 o3 : Bool) (m : Int) (c c' : ByteArray) (r s z r' s' z' : Int) : Int := if clE o1 o2 o3 m c c' r s z r' s' z' = 0 then costOf m c c' + cxC o1 o2 o3 m r s z r' s' z' else 0
theorem clE_ok {o1 o2 o3 : Bool} {m : Int} {c c' : ByteArray} {r s z r' s' z' : Int} (h : clE o1 o2 o3 m c c' r s z r' s' z' = 0) : errOf m c c' = 0 ∧ cxE o1 o2 o3 m r s z r' s' z' = 0 := by
  unfold clE at h
  split at h
  · exact absurd h ‹_›
  · exact ⟨Classical.not_not.1 ‹_›, h⟩

/-- A layout, an exchange and a line, boxed one behind the other. -/
def LnMem (W : World) (g : Nat) (o1 o2 o3 : Bool) (r s z nu kh m mi : Int) (c' : ByteArray) (r2 s2 z2 r' s' z' : Int) : Prop := Blk W g 58 #[.bool o1, .bool o2, .bool o3] ∧ Blk W (g + 1) 60 #[.int .i64 r, .int .i64 s, .int .i64 z] ∧
  Blk W (g + 1 + 1) 62 #[.int .i64 nu, .int .i64 kh, .int .i64 m, .int .i64 mi, .string c', .int .i64 r2, .int .i64 s2, .int .i64 z2, .int .i64 r', .int .i64 s', .int .i64 z']
theorem LnMem.later {W W' : World} {g : Nat} {o1 o2 o3 : Bool} {r s z nu kh m mi : Int} {c' : ByteArray} {r2 s2 z2 r' s' z' : Int} (h : LnMem W g o1 o2 o3 r s z nu kh m mi c' r2 s2 z2 r' s' z') (hb : Below W.heap.size W W') : LnMem W' g o1 o2 o3 r s z nu kh m mi c' r2 s2 z2 r' s' z' :=
  ⟨h.1.later hb, h.2.1.later hb, h.2.2.later hb⟩
theorem blk11 {w : World} {g : Nat} {t : TypeId} {c0 c1 c2 c3 c4 c5 c6 c7 c8 c9 c10 : Value} (h : Blk w g t #[c0, c1, c2, c3, c4, c5, c6, c7, c8, c9, c10]) :
    w.cell? ⟨g, 2, none⟩ = some c2 ∧ w.cell? ⟨g, 4, none⟩ = some c4 ∧ w.cell? ⟨g, 8, none⟩ = some c8 ∧ w.cell? ⟨g, 9, none⟩ = some c9 ∧ w.cell? ⟨g, 10, none⟩ = some c10 := ⟨h.cell 2, h.cell 4, h.cell 8, h.cell 9, h.cell 10⟩
theorem LnMem.cells {W : World} {g : Nat} {o1 o2 o3 : Bool} {r s z nu kh m mi : Int} {c' : ByteArray} {r2 s2 z2 r' s' z' : Int} (h : LnMem W g o1 o2 o3 r s z nu kh m mi c' r2 s2 z2 r' s' z') :
    (W.cell? ⟨g, 0, none⟩ = some (.bool o1) ∧ W.cell? ⟨g, 1, none⟩ = some (.bool o2) ∧ W.cell? ⟨g, 2, none⟩ = some (.bool o3)) ∧
    (W.cell? ⟨g + 1, 0, none⟩ = some (.int .i64 r) ∧ W.cell? ⟨g + 1, 1, none⟩ = some (.int .i64 s) ∧ W.cell? ⟨g + 1, 2, none⟩ = some (.int .i64 z)) ∧
    (W.cell? ⟨g + 1 + 1, 2, none⟩ = some (.int .i64 m) ∧ W.cell? ⟨g + 1 + 1, 4, none⟩ = some (.string c') ∧ W.cell? ⟨g + 1 + 1, 8, none⟩ = some (.int .i64 r') ∧ W.cell? ⟨g + 1 + 1, 9, none⟩ = some (.int .i64 s') ∧ W.cell? ⟨g + 1 + 1, 10, none⟩ = some (.int .i64 z')) :=
  ⟨blk3' h.1, blk3' h.2.1, blk11 h.2.2⟩
theorem LnMem.new (w : World) (o1 o2 o3 : Bool) (r s z nu kh m mi : Int) (c' : ByteArray) (r2 s2 z2 r' s' z' : Int) :
    LnMem (((w.alloc (.cells #[.bool o1, .bool o2, .bool o3] 58)).alloc (.cells #[.int .i64 r, .int .i64 s, .int .i64 z] 60)).alloc (.cells #[.int .i64 nu, .int .i64 kh, .int .i64 m, .int .i64 mi, .string c', .int .i64 r2, .int .i64 s2, .int .i64 z2, .int .i64 r', .int .i64 s', .int .i64 z'] 62)) w.heap.size o1 o2 o3 r s z nu kh m mi c' r2 s2 z2 r' s' z' := by
  refine ⟨((Blk.new w 58 _).alloc _).alloc _, ?_, ?_⟩
  · have := (Blk.new (w.alloc (.cells #[.bool o1, .bool o2, .bool o3] 58)) 60 #[.int .i64 r, .int .i64 s, .int .i64 z]).alloc (.cells #[.int .i64 nu, .int .i64 kh, .int .i64 m, .int .i64 mi, .string c', .int .i64 r2, .int .i64 s2, .int .i64 z2, .int .i64 r', .int .i64 s', .int .i64 z'] 62)
    simpa using this
  · have := Blk.new ((w.alloc (.cells #[.bool o1, .bool o2, .bool o3] 58)).alloc (.cells #[.int .i64 r, .int .i64 s, .int .i64 z] 60)) 62 #[.int .i64 nu, .int .i64 kh, .int .i64 m, .int .i64 mi, .string c', .int .i64 r2, .int .i64 s2, .int .i64 z2, .int .i64 r', .int .i64 s', .int .i64 z']
    simpa using this

set_option maxRecDepth 100000 in
set_option maxHeartbeats 4000000 in
theorem CopyLine_any (o1 o2 o3 : Bool) (c : ByteArray) (r s z nu kh m mi : Int) (c' : ByteArray) (r2 s2 z2 r' s' z' : Int) (w : World) (hP : Pow w) :
    Calls Tryz.prog 54 #[.agg #[.bool o1, .bool o2, .bool o3], .string c, .agg #[.int .i64 r, .int .i64 s, .int .i64 z], .agg #[.int .i64 nu, .int .i64 kh, .int .i64 m, .int .i64 mi, .string c', .int .i64 r2, .int .i64 s2, .int .i64 z2, .int .i64 r', .int .i64 s', .int .i64 z']] w fun e w' =>
      e = .returned (.tuple #[.int .i64 (clC o1 o2 o3 m c c' r s z r' s' z'), .int .i64 (clE o1 o2 o3 m c c' r s z r' s' z')]) ∧ Below w.heap.size w w' := by
  have HM := Lib.hid (LnMem.new w o1 o2 o3 r s z nu kh m mi c' r2 s2 z2 r' s' z')
  have HC := Lib.hid (fun W => Cost_any m c c' W)
  have HX := Lib.hid (fun W (hb : Below w.heap.size w W) => CopyExchange_any o1 o2 o3 m r s z r' s' z' W (hP.later hb))
  have hclE : clE o1 o2 o3 m c c' r s z r' s' z' = if errOf m c c' ≠ 0 then errOf m c c' else cxE o1 o2 o3 m r s z r' s' z' := rfl
  have hclC : clC o1 o2 o3 m c c' r s z r' s' z' = if clE o1 o2 o3 m c c' r s z r' s' z' = 0 then costOf m c c' + cxC o1 o2 o3 m r s z r' s' z' else 0 := rfl
  have b1 := costOf_bd m c c'
  have b2 := cxC_bd o1 o2 o3 m r s z r' s' z'
  rw [hclC, hclE]
  generalize costOf m c c' = n1 at HC b1 ⊢
  generalize errOf m c c' = n2 at HC ⊢
  generalize cxC o1 o2 o3 m r s z r' s' z' = n3 at HX b2 ⊢
  generalize cxE o1 o2 o3 m r s z r' s' z' = n4 at HX ⊢
  have q1 : IntKind.i64.wrap (n1 + n3) = n1 + n3 := IntWalk.i64_in _ (by omega)
  clear hclC hclE hP b1 b2
  by_cases h2 : n2 = 0
  · subst h2
    rw [if_neg (show ¬ ((0 : Int) ≠ 0) from fun h => h rfl)]
    by_cases h4 : n4 = 0
    · subst h4
      rw [if_pos rfl]
      go_enter Tryz.func54, Tryz.ntmps54
      go_wp2_with (first
        | (go_at_call 20; refine (HC.out _).mono ?_; rintro e w1 ⟨rfl, hb1⟩; have hM := HM.out.later hb1; have hbt := below_trans' (below_three w _ _ _) hb1; obtain ⟨⟨a0, a1, a2⟩, ⟨b0, b1, b2⟩, ⟨c0, c1, c2, c3, c4⟩⟩ := hM.cells)
        | (go_at_call 52; refine (HX.out _ hbt).mono ?_; rintro e w2 ⟨rfl, hb2⟩; have hM := hM.later hb2; have hbt := below_trans' hbt hb2; obtain ⟨⟨a0, a1, a2⟩, ⟨b0, b1, b2⟩, ⟨c0, c1, c2, c3, c4⟩⟩ := hM.cells))
      go_ret2
      exact ⟨rfl, hbt⟩
    · rw [if_neg h4]
      have d1 : (n4 != 0) = true := by simpa using h4
      clear h4
      go_enter Tryz.func54, Tryz.ntmps54
      go_wp2_with (first
        | (go_at_call 20; refine (HC.out _).mono ?_; rintro e w1 ⟨rfl, hb1⟩; have hM := HM.out.later hb1; have hbt := below_trans' (below_three w _ _ _) hb1; obtain ⟨⟨a0, a1, a2⟩, ⟨b0, b1, b2⟩, ⟨c0, c1, c2, c3, c4⟩⟩ := hM.cells)
        | (go_at_call 52; refine (HX.out _ hbt).mono ?_; rintro e w2 ⟨rfl, hb2⟩; have hM := hM.later hb2; have hbt := below_trans' hbt hb2; obtain ⟨⟨a0, a1, a2⟩, ⟨b0, b1, b2⟩, ⟨c0, c1, c2, c3, c4⟩⟩ := hM.cells))
      go_ret2
      exact ⟨rfl, hbt⟩
  · rw [if_pos h2, if_neg h2]
    have d1 : (n2 != 0) = true := by simpa using h2
    clear h2
    go_enter Tryz.func54, Tryz.ntmps54
    go_wp2_with (first
      | (go_at_call 20; refine (HC.out _).mono ?_; rintro e w1 ⟨rfl, hb1⟩; have hM := HM.out.later hb1; have hbt := below_trans' (below_three w _ _ _) hb1; obtain ⟨⟨a0, a1, a2⟩, ⟨b0, b1, b2⟩, ⟨c0, c1, c2, c3, c4⟩⟩ := hM.cells))
    go_ret2
    exact ⟨rfl, hbt⟩
end Go.Proofs.YtgcddjgkieambaaGreatDoor
