/- The walks of 'serials' and 'Chain'. -/
import Derived.Test.YtgcddjgkieambaaGreatDoorChainB
import Derived.Laws.EntriesVeiled
set_option linter.unusedVariables false
set_option linter.unusedSimpArgs false
namespace Go.Proofs.YtgcddjgkieambaaGreatDoor
open Go.RowKit

theorem bad_any (x : Int) (w : World) : Calls Tryz.prog 113 #[.int .i64 x] w fun e w' => e = .returned (.bool (decide (x < 0) || decide (99999 < x))) ∧ w = w' := by
  by_cases h : x < 0
  · have hd : decide (x < 0) = true := by simpa using h
    rw [hd]
    go_enter Tryz.func113, Tryz.ntmps113
    go_wp2
    go_ret
    exact ⟨by simp, rfl⟩
  · have hd : decide (x < 0) = false := by simpa using h
    rw [hd]
    go_enter Tryz.func113, Tryz.ntmps113
    go_wp2
    go_ret
    exact ⟨by simp, rfl⟩

def badNum (x : Int) : Bool := decide (x < 0) || decide (99999 < x)
/-- All numbers are from 0 to 99999. -/
def okNums (l : List Int) : Bool := !l.any badNum
theorem okNums_iff (l : List Int) : okNums l = true ↔ ∀ j, j < l.length → badNum (l.getD j 0) = false := by
  unfold okNums
  rw [Bool.not_eq_true', List.any_eq_false]
  constructor
  · intro h j hj
    rw [getD_get _ _ hj]
    simpa using h _ (List.getElem_mem hj)
  · intro h x hx
    obtain ⟨j, hj, rfl⟩ := List.getElem_of_mem hx
    have := h j hj
    rw [getD_get _ _ hj] at this
    simp [this]
theorem okNums_serial {l : List Int} (hl : l.length ≤ 400) (h : okNums l = true) : Serial l := ⟨hl, fun j hj => by
  have := (okNums_iff l).1 h j hj
  unfold badNum at this
  rw [Bool.or_eq_false_iff, decide_eq_false_iff_not, decide_eq_false_iff_not] at this
  omega⟩
theorem okNums_no {l : List Int} {k : Nat} (hk : k < l.length) (h : badNum (l.getD k 0) = true) : okNums l = false := by
  cases ho : okNums l
  · rfl
  · have := (okNums_iff l).1 ho k hk
    rw [h] at this; exact this

theorem indexFunc_nums (A : Option Addr) (c : Nat) (l : List Int) (w : World) (hL : l.length ≤ 1000000) (h : Nums w A l) :
    Calls Tryz.prog 117 #[.slice A l.length c, .func (.func 113) #[] #[]] w fun e w' => ∃ z : Int, e = .returned (.int .i64 z) ∧ decide (0 ≤ z) = !okNums l ∧ w = w' := by
  go_enter Tryz.func117, Tryz.ntmps117
  go_wp2
  go_loop [8] (fun i => ∃ k : Nat, k ≤ l.length ∧ i = .int .i64 k ∧ ∀ j, j < k → badNum (l.getD j 0) = false) (fun i => l.length - (intOf i).toNat)
  case atStart => exact ⟨0, Nat.zero_le _, rfl, fun j hj => absurd hj (by omega)⟩
  case round =>
    obtain ⟨k, hk, rfl, hr⟩ := hrel
    by_cases hlt : k < l.length
    · obtain ⟨a, rfl, _, hc⟩ := h k hlt
      obtain ⟨x, hx⟩ : ∃ x, x = l.getD k 0 := ⟨_, rfl⟩
      rw [← hx] at hc
      have Hx := Lib.hid hx
      have Hr := Lib.hid hr
      have HN := Lib.hid h
      clear hx hr h
      have d0 : (k : Int) < (l.length : Int) := by omega
      have d1 : (0 : Int) ≤ (k : Int) := by omega
      have hbn := fun w => bad_any x w
      rw [show (decide (x < 0) || decide (99999 < x)) = badNum x from rfl] at hbn
      have Hbn := Lib.hid hbn
      clear hbn
      cases hl : badNum x with
      | true =>
        rw [hl] at Hbn
        go_wp2_with (go_at_call 113; refine (Hbn.out _).mono ?_; rintro e w' ⟨rfl, rfl⟩)
        go_ret
        exact ⟨_, rfl, by rw [okNums_no hlt (by rw [← Hx.out]; exact hl)]; simp, rfl⟩
      | false =>
        rw [hl] at Hbn
        go_wp2_with (go_at_call 113; refine (Hbn.out _).mono ?_; rintro e w' ⟨rfl, rfl⟩)
        go_round
        case rel => exact ⟨k + 1, by omega, by go_num, fun j hj => by
          by_cases e : j = k
          · subst e; rw [← Hx.out]; exact hl
          · exact Hr.out j (by omega)⟩
        case measure => simp [intOf]; omega
    · have hk' : k = l.length := by omega
      have Hr := Lib.hid hr
      have Hk := Lib.hid hk'
      clear hr hk'
      go_wp2
      go_ret
      exact ⟨_, rfl, by rw [(okNums_iff l).2 (fun j hj => Hr.out j (by rw [Hk.out]; exact hj))]; rfl, rfl⟩

theorem contains_nums (A : Option Addr) (c : Nat) (l : List Int) (w : World) (hL : l.length ≤ 1000000) (h : Nums w A l) :
    Calls Tryz.prog 91 #[.slice A l.length c, .func (.func 113) #[] #[]] w fun e w' => e = .returned (.bool (!okNums l)) ∧ w = w' := by
  have HC := Lib.hid (indexFunc_nums A c l w hL h)
  clear h
  go_enter Tryz.func91, Tryz.ntmps91
  go_wp2_with (go_at_call 117; refine HC.out.mono ?_; rintro e w' ⟨z, rfl, hz, rfl⟩)
  go_ret
  exact ⟨by simp [hz], rfl⟩

/-- The error of a list of serial numbers. -/
def serErr (l : List Int) : Int := if 400 < l.length then 2 else if okNums l then 0 else 1

set_option maxHeartbeats 1000000 in
theorem serials_any (A : Option Addr) (c : Nat) (l : List Int) (w : World) (h : Nums w A l) :
    Calls Tryz.prog 78 #[.slice A l.length c] w fun e w' => e = .returned (.int .i64 (serErr l)) ∧ w = w' := by
  by_cases hl : 400 < l.length
  · have hd : decide (400 < (l.length : Int)) = true := by simp; omega
    rw [serErr, if_pos hl]
    clear h
    go_enter Tryz.func78, Tryz.ntmps78
    go_wp2
    go_ret
    exact ⟨rfl, rfl⟩
  · have hd : decide (400 < (l.length : Int)) = false := by simp; omega
    rw [serErr, if_neg hl]
    have hc := contains_nums A c l w (by omega) h
    cases ho : okNums l with
    | true =>
      rw [ho] at hc
      have HC := Lib.hid hc
      clear h hc
      go_enter Tryz.func78, Tryz.ntmps78
      go_wp2_with (go_at_call 91; refine HC.out.mono ?_; rintro e w' ⟨rfl, rfl⟩)
      go_ret
      exact ⟨rfl, rfl⟩
    | false =>
      rw [ho] at hc
      have HC := Lib.hid hc
      clear h hc
      go_enter Tryz.func78, Tryz.ntmps78
      go_wp2_with (go_at_call 91; refine HC.out.mono ?_; rintro e w' ⟨rfl, rfl⟩)
      go_ret
      exact ⟨rfl, rfl⟩

set_option maxRecDepth 100000 in
set_option maxHeartbeats 1000000 in
theorem Chain_no (A : Option Addr) (c : Nat) (l : List Int) (w : World) (h : Nums w A l) (he : serErr l ≠ 0) :
    Calls Tryz.prog 28 #[.slice A l.length c] w fun e w' => e = .returned (.tuple #[.slice none 0 0, .int .i64 (serErr l)]) ∧ Below w.heap.size w w' := by
  have HS := Lib.hid (fun (o : Obj) => serials_any A c l (w.alloc o) (h.later (below_alloc0 _)))
  obtain ⟨er, her⟩ : ∃ z, z = serErr l := ⟨_, rfl⟩
  rw [← her] at HS he ⊢
  have h0 : (er != 0) = true := by simpa using he
  clear h her he
  go_enter Tryz.func28, Tryz.ntmps28
  go_wp2_with (go_at_call 78; refine (HS.out _).mono ?_; rintro e w' ⟨rfl, rfl⟩)
  go_ret2
  exact ⟨rfl, below_alloc0 _⟩

theorem size_al (w : World) (o : Obj) : (w.alloc o).heap.size = w.heap.size + 1 := by simp
/-- The world of 'Chain' ahead of its loops. -/
def chWorld (w : World) (A : Option Addr) (c : Nat) (l : List Int) : World :=
  ((((((w.alloc (.cells #[.slice A l.length c] 38)).alloc (.cells #[.int .i64 l.length] 3)).alloc (.cells #[fStays w.heap.size (w.heap.size + 1)] 90)).alloc (.cells (madeCells #[.int .i64 0] l.length) 3)).alloc
    (.cells #[.slice (some ⟨w.heap.size + 1 + 1 + 1, 0, none⟩) l.length l.length] 38)).alloc (.cells #[fMost (w.heap.size + 1 + 1 + 1 + 1) (w.heap.size + 1) (w.heap.size + 1 + 1 + 1 + 1 + 1 + 1) (w.heap.size + 1 + 1 + 1 + 1 + 1)] 88)).alloc
    (.cells #[fFollows (w.heap.size + 1 + 1) w.heap.size] 91)
abbrev ChH (h : Nat) : Option Addr → Nat → List Int → World → Prop := ChW h (h + 1) (h + 1 + 1) (h + 1 + 1 + 1 + 1) (h + 1 + 1 + 1 + 1 + 1 + 1) (h + 1 + 1 + 1 + 1 + 1) (h + 1 + 1 + 1)
theorem chWorld_below (w : World) (A : Option Addr) (c : Nat) (l : List Int) : Below w.heap.size w (chWorld w A c l) :=
  ((((((below_alloc0 _).alloc (by simp) _).alloc (by simp; omega) _).alloc (by simp; omega) _).alloc (by simp; omega) _).alloc (by simp; omega) _).alloc (by simp; omega) _
theorem chWorld_size (w : World) (A : Option Addr) (c : Nat) (l : List Int) : (chWorld w A c l).heap.size = w.heap.size + 7 := by simp [chWorld]
theorem chWorld_ok (w : World) (A : Option Addr) (c : Nat) (l : List Int) (h : Nums w A l) : ChH w.heap.size A c l (chWorld w A c l) := by
  have b0 := Blk.new w 38 #[.slice A l.length c]
  have b1 := Blk.new (w.alloc (.cells #[.slice A l.length c] 38)) 3 #[.int .i64 l.length]
  have b2 := Blk.new ((w.alloc (.cells #[.slice A l.length c] 38)).alloc (.cells #[.int .i64 l.length] 3)) 90 #[fStays w.heap.size (w.heap.size + 1)]
  have b3 := RowA.made (((w.alloc (.cells #[.slice A l.length c] 38)).alloc (.cells #[.int .i64 l.length] 3)).alloc (.cells #[fStays w.heap.size (w.heap.size + 1)] 90)) 3 (.int .i64 0) l.length rfl
  have b4 := Blk.new ((((w.alloc (.cells #[.slice A l.length c] 38)).alloc (.cells #[.int .i64 l.length] 3)).alloc (.cells #[fStays w.heap.size (w.heap.size + 1)] 90)).alloc (.cells (madeCells #[.int .i64 0] l.length) 3)) 38 #[.slice (some ⟨w.heap.size + 1 + 1 + 1, 0, none⟩) l.length l.length]
  have b5 := Blk.new (((((w.alloc (.cells #[.slice A l.length c] 38)).alloc (.cells #[.int .i64 l.length] 3)).alloc (.cells #[fStays w.heap.size (w.heap.size + 1)] 90)).alloc (.cells (madeCells #[.int .i64 0] l.length) 3)).alloc
    (.cells #[.slice (some ⟨w.heap.size + 1 + 1 + 1, 0, none⟩) l.length l.length] 38)) 88 #[fMost (w.heap.size + 1 + 1 + 1 + 1) (w.heap.size + 1) (w.heap.size + 1 + 1 + 1 + 1 + 1 + 1) (w.heap.size + 1 + 1 + 1 + 1 + 1)]
  have b6 := Blk.new ((((((w.alloc (.cells #[.slice A l.length c] 38)).alloc (.cells #[.int .i64 l.length] 3)).alloc (.cells #[fStays w.heap.size (w.heap.size + 1)] 90)).alloc (.cells (madeCells #[.int .i64 0] l.length) 3)).alloc
    (.cells #[.slice (some ⟨w.heap.size + 1 + 1 + 1, 0, none⟩) l.length l.length] 38)).alloc (.cells #[fMost (w.heap.size + 1 + 1 + 1 + 1) (w.heap.size + 1) (w.heap.size + 1 + 1 + 1 + 1 + 1 + 1) (w.heap.size + 1 + 1 + 1 + 1 + 1)] 88)) 91 #[fFollows (w.heap.size + 1 + 1) w.heap.size]
  simp only [size_al] at b1 b2 b3 b4 b5 b6
  have hN := h.later (chWorld_below w A c l)
  exact ⟨((((((b0.alloc _).alloc _).alloc _).alloc _).alloc _).alloc _).cell 0, (((((b1.alloc _).alloc _).alloc _).alloc _).alloc _).cell 0, ((((b2.alloc _).alloc _).alloc _).alloc _).cell 0, ((b4.alloc _).alloc _).cell 0, b6.cell 0, (b5.alloc _).cell 0,
    by omega, by omega, by omega, by omega, by omega, by omega, fun hl a e => by
      obtain ⟨a', e', hlt, _⟩ := h 0 hl
      rw [e] at e'; injection e' with e'; subst e'; omega,
    hN, fun _ => 0, ((b3.alloc _).alloc _).alloc _, fun j _ => .inl rfl⟩

theorem chn_step {l : List Int} {b : Nat} {i : Int} {t k : Nat} (hk : k < l.length) : Cm.chn l b (l.length - k) i t = if Cm.fol l i k && decide ((Cm.gg l k : Int) = (b : Int) - t) then k :: Cm.chn l b (l.length - (k + 1)) (k : Nat) (t + 1) else Cm.chn l b (l.length - (k + 1)) i t := by
  rw [show l.length - k = (l.length - (k + 1)) + 1 by omega, Cm.chn, show l.length - (l.length - (k + 1) + 1) = k by omega]

/-- A measure of a number that goes down to -1. -/
def below1 (z : Int) : Nat := (z + 1).toNat
theorem below1_lt (k : Nat) : below1 (intOf (.int .i64 ((k : Int) - 1))) < below1 (intOf (.int .i64 (k : Int))) := by unfold below1 intOf; simp only; omega
/-- What holds in the first loop: the longest chain from k on. -/
def Ch1 (w : World) (A : Option Addr) (c : Nat) (l : List Int) (v10 v11 : Value) (wx : World) : Prop :=
  ∃ (k : Nat) (z : Int), k ≤ l.length ∧ z = (k : Int) - 1 ∧ v11 = .int .i64 z ∧ v10 = .int .i64 (Cm.mx (Cm.gg l) (Cm.stay l) k (l.length - k) : Nat) ∧ ChH w.heap.size A c l wx ∧ Below w.heap.size w wx ∧ w.heap.size + 7 ≤ wx.heap.size
/-- What holds in the second loop: the chain so far. -/
def Ch2 (w : World) (A : Option Addr) (c : Nat) (l : List Int) (v12 v13 v14 : Value) (wx : World) : Prop :=
  ∃ (k : Nat) (i : Int) (pre : List Nat) (ao : Option Addr) (cap : Nat), k ≤ l.length ∧ v12 = .slice ao pre.length cap ∧ v13 = .int .i64 i ∧ v14 = .int .i64 k ∧ i < k ∧ pre.length ≤ k ∧ Cm.chain l = pre ++ Cm.chn l (Cm.best l) (l.length - k) i pre.length ∧
    wx.ownsRow (w.heap.size + 7) 3 1 (.slice ao pre.length cap) pre.length (pre.map fun (z : Nat) => .int .i64 z) ∧ ChH w.heap.size A c l wx ∧ Below w.heap.size w wx ∧ w.heap.size + 7 ≤ wx.heap.size
theorem own_keep {w w' : World} {B : Nat} {e : TypeId} {z n : Nat} {v : Value} {xs : List Value} (h : w.ownsRow B e z v n xs) (hb : Below w.heap.size w w') : w'.ownsRow B e z v n xs :=
  h.kept (row := none) ⟨hb.os, hb.tape, hb.output, hb.size, fun g hg _ => hb.block g hg⟩ (by cases hv : v.ownBlock <;> simp)
theorem own_ne {w : World} {B : Nat} {e : TypeId} {z n : Nat} {v : Value} {xs : List Value} (h : w.ownsRow B e z v n xs) {kb : Nat} (hk : kb < B) : v.ownBlock = none ∨ v.ownBlock ≠ some kb := by
  cases hv : v.ownBlock with
  | none => exact .inl rfl
  | some g => exact .inr (fun e => by injection e with e; have := (h.lt g hv).1; omega)
/-- A list of numbers that a function has made. -/
def OwnI (w : World) (v : Value) (zs : List Int) : Prop := ∃ B, w.ownsRow B 3 1 v zs.length (zs.map fun z => .int .i64 z)

set_option maxRecDepth 100000 in
set_option maxHeartbeats 4000000 in
theorem Chain_ok (A : Option Addr) (c : Nat) (l : List Int) (w : World) (h : Nums w A l) (he : serErr l = 0) :
    Calls Tryz.prog 28 #[.slice A l.length c] w fun e w' => ∃ v, e = .returned (.tuple #[v, .int .i64 0]) ∧ OwnI w' v ((Cm.chain l).map fun (k : Nat) => (k : Int)) ∧ Below w.heap.size w w' := by
  have HS := Lib.hid (fun (o : Obj) => serials_any A c l (w.alloc o) (h.later (below_alloc0 _)))
  rw [he] at HS
  have hl : l.length ≤ 400 := by unfold serErr at he; split at he <;> omega
  have hS : Serial l := okNums_serial hl (by
    unfold serErr at he
    rw [if_neg (by omega)] at he
    cases ho : okNums l
    · rw [ho] at he; exact absurd he (by decide)
    · rfl)
  have hmk := fun W => run_mk (P := Tryz.prog) 38 3 _ _ Tryz.underlying38 info3 l.length (l.length : Int) rfl (by omega) (by omega) W
  have hmf : ∀ (fn : Fn) (first cap : Array Value) (w : World), (Instr.makeFunc fn first cap).run Tryz.prog w = .ok (.func fn first cap) w := fun _ _ _ _ => rfl
  obtain ⟨i0, hi, hz0, hz1, hz2⟩ := info_parts info3
  have HC := Lib.hid (chWorld_ok w A c l h)
  have HB := Lib.hid (chWorld_below w A c l)
  have hAb : Hid (0 < l.length → ∀ a, A = some a → a.block < w.heap.size + 7) := Lib.hid (fun hp a e => by
    obtain ⟨a', e', hlt, _⟩ := h 0 hp
    rw [e] at e'; injection e' with e'; subst e'; omega)
  have HSr := Lib.hid hS
  have q1 : IntKind.i64.wrap ((l.length : Int) - 1) = (l.length : Int) - 1 := IntWalk.i64_in _ (by omega)
  clear h he hS
  go_enter Tryz.func28, Tryz.ntmps28
  go_wp2_with (go_at_call 78; refine (HS.out _).mono ?_; rintro e w' ⟨rfl, rfl⟩)
  obtain ⟨W, hW⟩ : ∃ W, W = chWorld w A c l := ⟨_, rfl⟩
  have hW' := hW
  unfold chWorld fStays fFollows fMost at hW'
  have hsz : W.heap.size = w.heap.size + 7 := by rw [hW]; exact chWorld_size w A c l
  rw [← hW] at HC HB
  rw [← hW']
  clear hW hW' hmk HS hmf
  go_loopw [10, 11] (fun v10 v11 wx => Ch1 w A c l v10 v11 wx) (fun _ v11 _ => below1 (intOf v11))
  case atStart => exact ⟨l.length, (l.length : Int) - 1, Nat.le_refl _, rfl, rfl, by rw [Nat.sub_self]; rfl, HC.out, HB.out, by omega⟩
  case round =>
    obtain ⟨k, z, hk, hz, rfl, rfl, hC, hb, hs7⟩ := hrel
    cases k with
    | succ k =>
      obtain rfl : z = (k : Int) := by omega
      have d1 : (0 : Int) ≤ (k : Int) := by omega
      have hmx := Cm.mx_first (F := Cm.gg l) (p := Cm.stay l) (a := k) (c := l.length - (k + 1))
      rw [show l.length - (k + 1) + 1 = l.length - k by omega] at hmx
      obtain ⟨b0, hb0⟩ : ∃ z, z = Cm.mx (Cm.gg l) (Cm.stay l) (k + 1) (l.length - (k + 1)) := ⟨_, rfl⟩
      rw [← hb0] at hmx ⊢
      have q2 : IntKind.i64.wrap ((k : Int) - 1) = (k : Int) - 1 := IntWalk.i64_in _ (by omega)
      have HSt := Lib.hid (stays_any _ _ A c l k wr (by omega) HSr.out hC.l0 hC.n0 hC.nums)
      have HM := Lib.hid (fun q => most_any _ _ _ _ _ _ _ A c l HSr.out (l.length - k) k (by omega) (Nat.le_refl _) (wr.drewN q) (hC.drewN q))
      have e1 := hC.s0
      have e2 := hC.m0
      unfold fStays at e1
      unfold fMost at e2
      have HCr := Lib.hid hC
      have Hb := Lib.hid hb
      clear hC hb hb0 hz
      cases hst : Cm.stay l k with
      | false =>
        rw [hst] at HSt hmx
        have Hmx := Lib.hid hmx
        clear hmx hst
        go_wp2_with (first | (go_at_call 79; refine HSt.out.mono ?_; rintro e w1 ⟨rfl, q, rfl⟩))
        go_roundw
        case rel => exact ⟨k, (k : Int) - 1, by omega, rfl, rfl, by rw [Hmx.out]; exact congrArg (Value.int .i64) (by simp), HCr.out.drewN _, below_drewN' Hb.out _, by simpa using hs7⟩
        case measure => exact below1_lt _
      | true =>
        rw [hst] at HSt hmx
        have Hmx := Lib.hid hmx
        clear hmx hst
        go_wp2_with (first | (go_at_call 79; refine HSt.out.mono ?_; rintro e w1 ⟨rfl, q, rfl⟩) | (go_at_call 81; refine (HM.out q).mono ?_; rintro e w2 ⟨rfl, hW2, hg2⟩))
        go_roundw
        case rel => exact ⟨k, (k : Int) - 1, by omega, rfl, rfl, by rw [Hmx.out]; simp only [if_true]; exact congrArg (Value.int .i64) (by omega), hW2, below_only (below_drewN' Hb.out _) hg2 (by omega) (by simpa using Hb.out.size), Nat.le_trans (by simpa using hs7) hg2.size⟩
        case measure => exact below1_lt _
    | zero =>
      have dz : decide (z ≥ 0) = false := by simp; omega
      have dz' : decide (0 ≤ z) = false := by simp; omega
      have hbl : Cm.mx (Cm.gg l) (Cm.stay l) 0 (l.length - 0) = Cm.best l := rfl
      rw [hbl]
      have hbb := Cm.best_le (l := l)
      obtain ⟨bst, hbst⟩ : ∃ b, b = Cm.best l := ⟨_, rfl⟩
      rw [← hbst] at hbb ⊢
      have HCr := Lib.hid hC
      have Hb := Lib.hid hb
      have Hbst := Lib.hid hbst
      clear hC hb hbl hbst HC HB hz
      obtain ⟨wo, rfl⟩ : ∃ wo : World, wo = wr := ⟨_, rfl⟩
      go_wp2
      go_loopw [12, 13, 14] (fun v12 v13 v14 wx => Ch2 w A c l v12 v13 v14 wx) (fun _ _ v14 _ => l.length - (intOf v14).toNat)
      case atStart => exact ⟨0, -1, [], none, 0, by omega, rfl, rfl, rfl, by omega, by simp, rfl, World.ownsRow_nil _ _ _ _, HCr.out, Hb.out, hs7⟩
      case round =>
        obtain ⟨k, i, pre, ao, cap, hk, rfl, rfl, rfl, hik, hpk, hch, hown, hC, hb, hs8⟩ := hrel
        have e0 := hC.n0
        have e1 := hC.f0
        have e2 := hC.m0
        unfold fFollows at e1
        unfold fMost at e2
        by_cases hlt : k < l.length
        · have d1 : decide ((k : Int) < (l.length : Int)) = true := by simp; omega
          have q2 : IntKind.i64.wrap ((k : Int) + 1) = (k : Int) + 1 := IntWalk.i64_in _ (by omega)
          have q3 : IntKind.i64.wrap ((bst : Int) - (pre.length : Int)) = (bst : Int) - (pre.length : Int) := IntWalk.i64_in _ (by omega)
          rw [chn_step hlt] at hch
          have HF := Lib.hid (hC.follows HSr.out i k (by omega) (by omega) (by omega))
          simp only [Int.toNat_natCast] at HF
          have HM := Lib.hid (fun q => most_any _ _ _ _ _ _ _ A c l HSr.out (l.length - k) k hlt (Nat.le_refl _) (wr.drewN q) (hC.drewN q))
          have HCk := Lib.hid hC
          have Hb2 := Lib.hid hb
          have Hown := Lib.hid hown
          clear hC hb hown
          cases hfo : Cm.fol l i k with
          | false =>
            rw [hfo] at HF hch
            have Hch := Lib.hid hch
            clear hch hfo
            go_wp2_with (first | (go_at_call 80; refine HF.out.mono ?_; rintro e w1 ⟨rfl, q, rfl⟩))
            go_roundw
            case rel => exact ⟨k + 1, i, pre, ao, cap, by omega, rfl, rfl, by go_num, by omega, by omega, by rw [Hch.out]; rfl, own_keep Hown.out (below_drewN0 _), HCk.out.drewN _, below_drewN' Hb2.out _, by simpa using hs8⟩
            case measure => simp [intOf]; omega
          | true =>
            rw [hfo, Bool.true_and, Hbst.out.symm] at hch
            rw [hfo] at HF
            obtain ⟨g, hg⟩ : ∃ g, g = Cm.gg l k := ⟨_, rfl⟩
            rw [← hg] at hch HM
            clear hfo hg
            by_cases heq : (g : Int) = (bst : Int) - (pre.length : Int)
            · have d2 : ((g : Int) == (bst : Int) - (pre.length : Int)) = true := by simpa using heq
              rw [decide_eq_true heq] at hch
              have Hch := Lib.hid hch
              clear hch heq
              go_wp2_with (first
                | (at_builtin; refine wpList_append_own _ rfl _ _ 38 rfl (w.heap.size + 7) 3 i0 (.int .i64 0) 1 8 Tryz.underlying38 hi hz0 hz1 hz2 rfl (by decide) _ _ _ rfl (hown2.alloc _) ⟨w2.heap.size, 0, none⟩ 1 1 [.int .i64 (k : Int)] rfl rfl ?c1 ?c2 ?c3 ?c4 ?c5 ?_)
                | (go_at_call 80; refine HF.out.mono ?_; rintro e w1 ⟨rfl, q, rfl⟩)
                | (go_at_call 81; refine (HM.out q).mono ?_; rintro e w2 ⟨rfl, hW2, hg2⟩; have hown2 := (own_keep Hown.out (below_drewN0 q)).kept hg2 (own_ne Hown.out (by omega))))
              case c1 =>
                intro j u hj
                match j, hj with
                | 0, hj => simp at hj; subst hj; simp [Addr.add]
              case c2 => intro u hu; simp at hu; subst hu; rfl
              case c3 => unfold maxLen; omega
              case c4 => omega
              case c5 => have := hg2.size; simp at this ⊢; omega
              · intro v' w3 hown' hgrow _
                have hs2 := hg2.size
                have hs9 : w.heap.size + 7 ≤ w2.heap.size := Nat.le_trans (by simpa using hs8) hs2
                have hb2 := below_only (below_drewN' Hb2.out q) hg2 (by omega) (by simpa using Hb2.out.size)
                have hbk : Below (w.heap.size + 7) w2 w3 := ((Below.refl _ _).alloc hs9 _).grown hgrow (by simp; omega) (fun g hg => (hown2.lt g hg).1)
                have hC3 := hW2.keep hbk (by omega) (by omega) (by omega) (by omega) (by omega) (by omega) (by omega) hAb.out
                have hb3 : Below w.heap.size w w3 := hb2.trans (hbk.mono (by omega))
                obtain ⟨gg, cap', hv, _, _⟩ := hown'.form (by omega)
                subst hv
                have HN := Lib.hid (And.intro hown' (And.intro hC3 (And.intro hb3 (Nat.le_trans hs9 hbk.size))))
                clear hown' hgrow hbk hC3 hb3 hb2 hW2 hg2 hown2
                go_wp2
                go_roundw
                case rel => exact ⟨k + 1, (k : Int), pre ++ [k], some ⟨gg, 0, none⟩, cap', by omega, by simp, rfl, by go_num, by omega, by simp; omega, by rw [Hch.out, ← Hbst.out]; simp, by simpa using HN.out.1, HN.out.2.1, HN.out.2.2.1, HN.out.2.2.2⟩
                case measure => simp [intOf]; omega
            · have d2 : ((g : Int) == (bst : Int) - (pre.length : Int)) = false := by simpa using heq
              rw [decide_eq_false heq] at hch
              have Hch := Lib.hid hch
              clear hch heq
              go_wp2_with (first | (go_at_call 80; refine HF.out.mono ?_; rintro e w1 ⟨rfl, q, rfl⟩) | (go_at_call 81; refine (HM.out q).mono ?_; rintro e w2 ⟨rfl, hW2, hg2⟩; have hown2 := (own_keep Hown.out (below_drewN0 q)).kept hg2 (own_ne Hown.out (by omega))))
              go_roundw
              case rel => exact ⟨k + 1, i, pre, ao, cap, by omega, rfl, rfl, by go_num, by omega, by omega, by rw [Hch.out, ← Hbst.out]; rfl, hown2, hW2, below_only (below_drewN' Hb2.out q) hg2 (by omega) (by simpa using Hb2.out.size), Nat.le_trans (by simpa using hs8) hg2.size⟩
              case measure => simp [intOf]; omega
        · obtain rfl : k = l.length := by omega
          rw [Nat.sub_self, Cm.chn, List.append_nil] at hch
          have Hch := Lib.hid hch
          have Hown := Lib.hid hown
          have Hb2 := Lib.hid hb
          clear hch hown hC hb
          go_wp2
          go_ret2
          exact ⟨_, rfl, ⟨_, by rw [Hch.out, List.length_map, List.map_map]; exact Hown.out⟩, Hb2.out⟩
end Go.Proofs.YtgcddjgkieambaaGreatDoor
