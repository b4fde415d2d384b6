/- CopyingProofs is proved: The statement holds for every input; the listed tables of Go's library are as the program's text lays them. -/
import Derived.Test.YtgcddjgkieambaaGreatDoorJoin2
import Derived.Test.YtgcddjgkieambaaGreatDoorAsk2
import Derived.Test.YtgcddjgkieambaaGreatDoorProA
import Derived.Test.YtgcddjgkieambaaGreatDoorProC
import Derived.Test.YtgcddjgkieambaaGreatDoorWitC
import Derived.Test.YtgcddjgkieambaaGreatDoorRises
import Derived.JoinedOf
set_option linter.unusedVariables false
set_option linter.unusedSimpArgs false
set_option maxRecDepth 100000
namespace Go.Proofs.YtgcddjgkieambaaGreatDoor
open Go.RowKit

set_option maxRecDepth 100000 in
set_option maxHeartbeats 4000000 in
theorem Pro_long (m : Int) (x y code : ByteArray) (a b most : Int) (v7 v10 v11 : Value) (A B : Option Addr) (c d : Nat) (L : List (List Int)) (l : List (Int × Int × Int)) (w : World) (hP : Pow w) (hl : ¬ (x.size ≤ 200 ∧ y.size ≤ 200 ∧ l.length ≤ 200 ∧ L.length ≤ 100)) :
    Calls Tryz.prog 10 #[.agg (askV m x y code a b most v7 (.slice A L.length c) (.slice B l.length d) v10 v11)] w fun e w' => e = .returned (.bool true) ∧ Below w.heap.size w w' := by
  have HB0 := Lib.hid (Blk.new w 40 (askV m x y code a b most v7 (.slice A L.length c) (.slice B l.length d) v10 v11))
  have HA := Lib.hid (fun o => awake_any (w.alloc o) (hP.later (below_alloc0 _)))
  clear hP
  by_cases h1 : x.size ≤ 200
  · have d1 : decide ((x.size : Int) ≤ 200) = true := by simp; omega
    by_cases h2 : y.size ≤ 200
    · have d2 : decide ((y.size : Int) ≤ 200) = true := by simp; omega
      by_cases h3 : l.length ≤ 200
      · have d3 : decide ((200 : Int) < (l.length : Int)) = false := by simp; omega
        have d4 : decide ((100 : Int) < (L.length : Int)) = true := by simp; omega
        clear hl h1 h2 h3
        go_enter Tryz.func10, Tryz.ntmps10
        go_wp2_with (first
          | (go_at_call 18; refine (HA.out _).mono ?_; rintro e w1 ⟨rfl, hb1⟩; have hB := HB0.out.later hb1; have hbt := below_trans' (below_alloc0 _) hb1; obtain ⟨k0, k1, k2, _, _, _, _, _, k8, k9, _⟩ := blk12 hB)
          | (go_at_call 19; refine (brief_any _ _).mono ?_; rintro e w2 ⟨rfl, rfl⟩))
        go_ret
        exact ⟨rfl, hbt⟩
      · have d3 : decide ((200 : Int) < (l.length : Int)) = true := by simp; omega
        clear hl h1 h2 h3
        go_enter Tryz.func10, Tryz.ntmps10
        go_wp2_with (first
          | (go_at_call 18; refine (HA.out _).mono ?_; rintro e w1 ⟨rfl, hb1⟩; have hB := HB0.out.later hb1; have hbt := below_trans' (below_alloc0 _) hb1; obtain ⟨k0, k1, k2, _, _, _, _, _, k8, k9, _⟩ := blk12 hB)
          | (go_at_call 19; refine (brief_any _ _).mono ?_; rintro e w2 ⟨rfl, rfl⟩))
        go_ret
        exact ⟨rfl, hbt⟩
    · have d2 : decide ((y.size : Int) ≤ 200) = false := by simp; omega
      clear hl h1 h2
      go_enter Tryz.func10, Tryz.ntmps10
      go_wp2_with (first
        | (go_at_call 18; refine (HA.out _).mono ?_; rintro e w1 ⟨rfl, hb1⟩; have hB := HB0.out.later hb1; have hbt := below_trans' (below_alloc0 _) hb1; obtain ⟨k0, k1, k2, _, _, _, _, _, k8, k9, _⟩ := blk12 hB)
        | (go_at_call 19; refine (brief_any _ _).mono ?_; rintro e w2 ⟨rfl, rfl⟩))
      go_ret
      exact ⟨rfl, hbt⟩
  · have d1 : decide ((x.size : Int) ≤ 200) = false := by simp; omega
    clear hl h1
    go_enter Tryz.func10, Tryz.ntmps10
    go_wp2_with (first
      | (go_at_call 18; refine (HA.out _).mono ?_; rintro e w1 ⟨rfl, hb1⟩; have hB := HB0.out.later hb1; have hbt := below_trans' (below_alloc0 _) hb1; obtain ⟨k0, k1, k2, _, _, _, _, _, k8, k9, _⟩ := blk12 hB)
      | (go_at_call 19; refine (brief_any _ _).mono ?_; rintro e w2 ⟨rfl, rfl⟩))
    go_ret
    exact ⟨rfl, hbt⟩

set_option maxRecDepth 100000 in
set_option maxHeartbeats 8000000 in
theorem Pro_go (m : Int) (x y code : ByteArray) (a b most : Int) (v7 v10 v11 : Value) (A B : Option Addr) (c d : Nat) (L : List (List Int)) (l : List (Int × Int × Int)) (w : World) (hP : Pow w) (hl : x.size ≤ 200 ∧ y.size ≤ 200 ∧ l.length ≤ 200 ∧ L.length ≤ 100) (hN : RowsG w A L)
    (n1 e1 n2 e2 : Int)
    (h48 : ∀ W, Below w.heap.size w W → Calls Tryz.prog 48 #[.int .i64 m, .string x, .string y, .slice B l.length d] W fun e w' => e = .returned (.tuple #[.int .i64 n1, .int .i64 e1]) ∧ Below W.heap.size W w')
    (h49 : ∀ W, Below w.heap.size w W → Calls Tryz.prog 49 #[.int .i64 m, .string x, .string y, .slice B l.length d] W fun e w' => e = .returned (.tuple #[.int .i64 n1, .int .i64 e1]) ∧ Below W.heap.size W w')
    (h50 : ∀ W, Below w.heap.size w W → Calls Tryz.prog 50 #[.int .i64 m, .string x, .string y, .slice A L.length c] W fun e w' => e = .returned (.tuple #[.int .i64 n2, .int .i64 e2]) ∧ Below W.heap.size W w')
    (h51 : ∀ W, Below w.heap.size w W → Calls Tryz.prog 51 #[.int .i64 m, .string x, .string y, .slice A L.length c] W fun e w' => e = .returned (.tuple #[.int .i64 n2, .int .i64 e2]) ∧ Below W.heap.size W w') :
    Calls Tryz.prog 10 #[.agg (askV m x y code a b most v7 (.slice A L.length c) (.slice B l.length d) v10 v11)] w fun e w' => e = .returned (.bool true) ∧ Below w.heap.size w w' := by
  have HB0 := Lib.hid (Blk.new w 40 (askV m x y code a b most v7 (.slice A L.length c) (.slice B l.length d) v10 v11))
  have HA := Lib.hid (fun o => awake_any (w.alloc o) (hP.later (below_alloc0 _)))
  have H48 := Lib.hid h48
  have H49 := Lib.hid h49
  have H50 := Lib.hid h50
  have H51 := Lib.hid h51
  have HN := Lib.hid hN
  have d1 : decide ((x.size : Int) ≤ 200) = true := by simp; omega
  have d2 : decide ((y.size : Int) ≤ 200) = true := by simp; omega
  have d3 : decide ((200 : Int) < (l.length : Int)) = false := by simp; omega
  have d4 : decide ((100 : Int) < (L.length : Int)) = false := by simp; omega
  have hLl : L.length ≤ 100 := hl.2.2.2
  clear hP hl h48 h49 h50 h51 hN
  go_enter Tryz.func10, Tryz.ntmps10
  go_wp2_with (first
    | (go_at_call 18; refine (HA.out _).mono ?_; rintro e w1 ⟨rfl, hb1⟩; have hB := HB0.out.later hb1; have hbt := below_trans' (below_alloc0 _) hb1; obtain ⟨k0, k1, k2, _, _, _, _, _, k8, k9, _⟩ := blk12 hB)
    | (go_at_call 19; refine (brief_any _ _).mono ?_; rintro e w2 ⟨rfl, rfl⟩))
  have HNw := Lib.hid (HN.out.later hbt)
  have Hbt := Lib.hid hbt
  have HBw := Lib.hid hB
  clear hbt hB hb1
  go_loop [4] (fun v4 => ∃ i : Nat, i ≤ L.length ∧ v4 = .int .i64 i) (fun v4 => L.length - (intOf v4).toNat)
  case atStart => exact ⟨0, by omega, rfl⟩
  case round =>
    obtain ⟨i, hi, rfl⟩ := hrel
    by_cases hit : i < L.length
    · have e1' : decide ((i : Int) < (L.length : Int)) = true := by simp; omega
      have e2' : (i : Int) < (L.length : Int) := by omega
      have e3' : (0 : Int) ≤ (i : Int) := by omega
      have e4' : IntKind.i64.wrap ((i : Int) + 1) = (i : Int) + 1 := IntWalk.i64_in _ (by omega)
      obtain ⟨g, o, Ri, ci, rfl, _, hc, _⟩ := HNw.out.place hit
      obtain ⟨q, hq⟩ : ∃ q, q = (L.getD i []).length := ⟨_, rfl⟩
      rw [← hq] at hc
      clear hq
      by_cases hr : 100 < q
      · have f1 : decide ((100 : Int) < (q : Int)) = true := by simp; omega
        have f1' : decide (100 < q) = true := by simp; omega
        clear hr
        go_wp2
        go_ret
        exact ⟨rfl, Hbt.out⟩
      · have f1 : decide ((100 : Int) < (q : Int)) = false := by simp; omega
        have f1' : decide (100 < q) = false := by simp; omega
        clear hr
        go_wp2
        go_round
        case rel => exact ⟨i + 1, by omega, by go_num⟩
        case measure => simp [intOf] <;> omega
    · obtain rfl : i = L.length := by omega
      have e1' : decide ((L.length : Int) < (L.length : Int)) = false := by simp
      have hB := HBw.out
      have hbt := Hbt.out
      go_wp2_with (first
        | (go_at_call 48; refine (H48.out _ hbt).mono ?_; rintro e w5 ⟨rfl, hb5⟩; have hB := hB.later hb5; have hbt := below_trans' hbt hb5; obtain ⟨k0, k1, k2, _, _, _, _, _, k8, k9, _⟩ := blk12 hB)
        | (go_at_call 49; refine (H49.out _ hbt).mono ?_; rintro e w6 ⟨rfl, hb6⟩; have hB := hB.later hb6; have hbt := below_trans' hbt hb6; obtain ⟨k0, k1, k2, _, _, _, _, _, k8, k9, _⟩ := blk12 hB)
        | (go_at_call 50; refine (H50.out _ hbt).mono ?_; rintro e w7 ⟨rfl, hb7⟩; have hB := hB.later hb7; have hbt := below_trans' hbt hb7; obtain ⟨k0, k1, k2, _, _, _, _, _, k8, k9, _⟩ := blk12 hB)
        | (go_at_call 51; refine (H51.out _ hbt).mono ?_; rintro e w8 ⟨rfl, hb8⟩; have hB := hB.later hb8; have hbt := below_trans' hbt hb8; obtain ⟨k0, k1, k2, _, _, _, _, _, k8, k9, _⟩ := blk12 hB))
      go_ret
      exact ⟨by simp, hbt⟩

theorem Proofs_any (m : Int) (x y code : ByteArray) (a b most : Int) (v7 v10 v11 : Value) (A B : Option Addr) (c d : Nat) (L : List (List Int)) (l : List (Int × Int × Int)) (w : World) (hP : Pow w) (hN : RowsG w A L) (hM : StepsG w B l) :
    Calls Tryz.prog 10 #[.agg (askV m x y code a b most v7 (.slice A L.length c) (.slice B l.length d) v10 v11)] w fun e w' => e = .returned (.bool true) ∧ Below w.heap.size w w' := by
  by_cases hl : x.size ≤ 200 ∧ y.size ≤ 200 ∧ l.length ≤ 200 ∧ L.length ≤ 100
  · exact Pro_go m x y code a b most v7 v10 v11 A B c d L l w hP hl hN (ckN1 m x y l) (ckE1 m x y l) (ckN2 m x y L) (ckE2 m x y L)
      (fun W hb => CkAlign_any m x y B d l W (hM.later hb) (by omega)) (fun W hb => refCkAl_any m x y B d l W (hM.later hb) (by omega))
      (fun W hb => CkTable_any m x y A c L W (hN.later hb) (by omega)) (fun W hb => refCkTb_any m x y A c L W (hN.later hb) (by omega))
  · exact Pro_long m x y code a b most v7 v10 v11 A B c d L l w hP hl
end Go.Proofs.YtgcddjgkieambaaGreatDoor
namespace Go.Proofs.YtgcddjgkieambaaGreatDoor.copyingProofs
open Go.ChangeShapes Go.WideShapes Go.ChangeAt Go.RowKit

theorem contract (H : Type) (enc : TypeId × Value → H) (W : World) (base : Nat) (args : Array Value) (ds gs : List (DataW H)) (before : List MemPlace)
    (hval : ∀ (j : Nat) t v, Tryz.f10.params[j]? = some t → args[j]? = some v → Value.okWide Tryz.prog W .any base t v)
    (hW : DataW.Whole enc Tryz.prog Tryz.f10.params.toList Rows.copyingProofsSpec.vars false W args.toList ds gs before) (hL : laidMetH Tryz.prog laid3 W) :
    Calls Tryz.prog 10 args W fun e W' => ∃ v, e = .returned v ∧ Rows.copyingProofsSpec.post enc Tryz.prog Tryz.f10 false true false false W args v W' := by
  have hP := pow_of_laid hL
  exact post1 (f := Tryz.f10) (t0 := 40) (spec := Rows.copyingProofsSpec) Tryz.params10 (by kernel_rfl) rfl (fun d0 => rfl) (by kernel_rfl) (of_decide_eq_true (by kernel_rfl)) hval hW
    (fun v0 d0 p0 hv0 hd0 => ask_open hv0 hd0 (fun m x y code a b most v7 v8 v9 v10 v11 n y7 y8 y9 y10 y11 _ _ _ _ h8 h9 _ _ => by obtain ⟨A, c, L, rfl, hN, _⟩ := rows_open h8; obtain ⟨B, d, l, rfl, hM⟩ := steps_open h9; exact Proofs_any m x y code a b most v7 v10 v11 A B c d L l W hP hN hM))

set_option maxRecDepth 100000 in
theorem laid_met (os : Os) : laidMet Tryz.prog laid3 ((laidWorld os).forCall (fun _ _ => 0) ⟨#[], #[.agg #[.int .i64 0, .string ⟨#[]⟩, .string ⟨#[]⟩, .string ⟨#[]⟩, .int .i64 0, .int .i64 0, .int .i64 0, .slice none 0 0, .slice none 0 0, .slice none 0 0, .slice none 0 0, .slice none 0 0]], []⟩).memory :=
  laidMet_of_run' 8 (by kernel_rfl) (by kernel_rfl)
set_option maxRecDepth 100000 in
theorem reads (os : Os) {H : Type} (enc : TypeId × Value → H) : ∃ places, DataW.whole enc Tryz.prog ((laidWorld os).forCall (fun _ _ => 0) ⟨#[], #[.agg #[.int .i64 0, .string ⟨#[]⟩, .string ⟨#[]⟩, .string ⟨#[]⟩, .int .i64 0, .int .i64 0, .int .i64 0, .slice none 0 0, .slice none 0 0, .slice none 0 0, .slice none 0 0, .slice none 0 0]], []⟩).memory Tryz.f10.params.toList Rows.copyingProofsSpec.vars false #[.agg #[.int .i64 0, .string ⟨#[]⟩, .string ⟨#[]⟩, .string ⟨#[]⟩, .int .i64 0, .int .i64 0, .int .i64 0, .slice none 0 0, .slice none 0 0, .slice none 0 0, .slice none 0 0, .slice none 0 0]].toList 8 = some ([.agg [.lit (.int .i64 0), .lit (.string []), .lit (.string []), .lit (.string []), .lit (.int .i64 0), .lit (.int .i64 0), .lit (.int .i64 0), .nil, .nil, .nil, .nil, .nil]], [], places) :=
  ⟨[], by kernel_rfl⟩

set_option maxRecDepth 100000 in
theorem lifted (os : Os) (started : os.Started) (H : Type) (enc : TypeId × Value → H) (F : Stop.Interp) :
    ReturnsInHanded {} Tryz.checked os 10 .any ((OpenSpec.ofChange Rows.copyingProofsSpec).preRow enc Tryz.prog Tryz.f10 Rows.copyingProofsRow.domain false Rows.copyingProofsRow.laid) (((OpenSpec.ofChange Rows.copyingProofsSpec).at F).post enc Tryz.prog Tryz.f10 false true false false) := by
  obtain ⟨places, hx⟩ := reads os enc
  refine returnsInHanded_of_row (C := Tryz.checked) (s := OpenSpec.ofChange Rows.copyingProofsSpec) ownKn started (by kernel_rfl) Tryz.func10
    (witness_row_at (enc := enc) (C := Tryz.checked) false (laidWorld os) #[.agg #[.int .i64 0, .string ⟨#[]⟩, .string ⟨#[]⟩, .string ⟨#[]⟩, .int .i64 0, .int .i64 0, .int .i64 0, .slice none 0 0, .slice none 0 0, .slice none 0 0, .slice none 0 0, .slice none 0 0]] rfl (by kernel_rfl) (by kernel_rfl) (by kernel_rfl)
      (OpenSpec.preRow_of_cond 8 hx (by kernel_rfl) (fun k hk => by cases hk) (by kernel_rfl) (laid_met os))) ?_
  intro W base args ds gs before hval hW _ _ _ hL _ _
  exact contract H enc W base args ds gs before hval hW hL

theorem andt {a b : Bool} (ha : a = true) (hb : b = true) : (a && b) = true := by rw [ha, hb]; rfl
set_option maxHeartbeats 100000000 in
theorem closed : joinedFacts Tryz.prog 10 Tryz.f10 Rows.copyingProofsSpec Rows.copyingProofsRow = true := by
  unfold joinedFacts
  repeat' (with_reducible refine andt ?_ ?_)
  all_goals as_aux_lemma => kernel_rfl
theorem said : Rows.CopyingProofsSaid :=
  OpenClaim.holds_of_cond 10 Tryz.f10 rfl rfl rfl rfl rfl rfl rfl ⟨rfl, rfl, rfl, rfl, rfl⟩ rfl rfl rfl rfl rfl (by kernel_rfl) Tryz.func10 closed
    (of_decide_eq_true (by kernel_rfl)) (by unfold Func.isWrapper; first | (rw [if_pos (by decide +kernel)]; kernel_rfl) | (rw [if_neg (by decide +kernel)]; exact ⟨rfl, rfl⟩))
    (fun os started H enc _ F => by rw [OpenClaim.pre_eq_preRow]; exact lifted os started H enc F)

theorem stand (j : Nat) (t : TypeId) (ht : (#[40] : Array TypeId)[j]? = some t) : Tryz.prog.wantsStandIn t = false := by
  match j, ht with
  | 0, ht => obtain rfl := Option.some.inj ht; exact (show Tryz.prog.wantsStandIn 40 = false by kernel_rfl)
  | k + 1, ht => simp at ht
theorem plain (f : FuncId) (fn : Func) (hf : Tryz.pinned.checked.prog.funcNamed "pileup/pileuplaw04.CopyingProofs" = some f) (hfn : Tryz.pinned.checked.prog.funcs[f]? = some fn) :
    true = Tryz.pinned.checked.prog.looks [] ∧ ∀ (j : Nat) t, fn.params[j]? = some t → Tryz.pinned.checked.prog.wantsStandIn t = false := by
  obtain rfl : f = 10 := Option.some.inj ((show Tryz.prog.funcNamed "pileup/pileuplaw04.CopyingProofs" = some 10 by kernel_rfl).symm.trans hf) |>.symm
  obtain rfl : fn = Tryz.f10 := (Option.some.inj (Tryz.func10.symm.trans hfn)).symm
  refine ⟨by kernel_rfl, fun j t ht => ?_⟩
  rw [Tryz.params10] at ht
  exact stand j t ht
end Go.Proofs.YtgcddjgkieambaaGreatDoor.copyingProofs
namespace Go.Proofs.YtgcddjgkieambaaGreatDoor
/-- The card. -/
theorem copyingProofs_holds : Rows.CopyingProofsCardSaid :=
  Claim7.holds_tied_plain_at .later [] _ _ _ _ copyingProofs.said (fun _ h => by cases h) (by kernel_rfl) (fun _ h => by cases h) copyingProofs_row_tie rfl ⟨rfl, rfl⟩ (by kernel_rfl) rfl copyingProofs.plain (by kernel_rfl)
end Go.Proofs.YtgcddjgkieambaaGreatDoor
#print axioms Go.Proofs.YtgcddjgkieambaaGreatDoor.copyingProofs_holds
