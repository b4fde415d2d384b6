/- CopyingExact is proved: The statement holds for every input; the listed tables of Go's library are as the program's text lays them. -/
import Derived.Test.YtgcddjgkieambaaGreatDoorJoin2
import Derived.Test.YtgcddjgkieambaaGreatDoorSent
import Derived.Test.YtgcddjgkieambaaGreatDoorExact
import Derived.JoinedOf
set_option linter.unusedVariables false
set_option maxRecDepth 100000
namespace Go.Proofs.YtgcddjgkieambaaGreatDoor.copyingExact
open Go.ChangeShapes Go.WideShapes Go.ChangeAt Go.RowKit

theorem contract (H : Type) (enc : TypeId × Value → H) (W : World) (base : Nat) (args : Array Value) (ds gs : List (DataW H)) (before : List MemPlace)
    (hval : ∀ (j : Nat) t v, Tryz.f12.params[j]? = some t → args[j]? = some v → Value.okWide Tryz.prog W .any base t v)
    (hW : DataW.Whole enc Tryz.prog Tryz.f12.params.toList Rows.copyingExactSpec.vars false W args.toList ds gs before) (hL : laidMetH Tryz.prog laid3 W) :
    Calls Tryz.prog 12 args W fun e W' => ∃ v, e = .returned v ∧ Rows.copyingExactSpec.post enc Tryz.prog Tryz.f12 false true false false W args v W' := by
  have hP := pow_of_laid hL
  exact post2 (f := Tryz.f12) (t0 := 58) (t1 := 64) (spec := Rows.copyingExactSpec) Tryz.params12 (by kernel_rfl) rfl (fun d0 d1 => rfl) (by kernel_rfl) (of_decide_eq_true (by kernel_rfl)) (by kernel_rfl) (of_decide_eq_true (by kernel_rfl)) hval hW
    (fun v0 d0 p0 v1 d1 p1 hv0 hd0 hv1 hd1 => by obtain ⟨o1, o2, o3, rfl⟩ := layout_form hv0 hd0; obtain ⟨c, r, s, z, nu, kh, m, mi, c2, r2, s2, z2, r3, s3, z3, rfl⟩ := sent_form hv1 hd1; exact Exact_any o1 o2 o3 c r s z nu kh m mi c2 r2 s2 z2 r3 s3 z3 W hP)

set_option maxRecDepth 100000 in
theorem laid_met (os : Os) : laidMet Tryz.prog laid3 ((laidWorld os).forCall (fun _ _ => 0) ⟨#[], #[.agg #[.bool false, .bool false, .bool false], .agg #[.string ⟨#[]⟩, .int .i64 0, .int .i64 0, .int .i64 0, .int .i64 0, .int .i64 0, .int .i64 0, .int .i64 0, .string ⟨#[]⟩, .int .i64 0, .int .i64 0, .int .i64 0, .int .i64 0, .int .i64 0, .int .i64 0]], []⟩).memory :=
  laidMet_of_run' 8 (by kernel_rfl) (by kernel_rfl)
set_option maxRecDepth 100000 in
theorem reads (os : Os) {H : Type} (enc : TypeId × Value → H) : ∃ places, DataW.whole enc Tryz.prog ((laidWorld os).forCall (fun _ _ => 0) ⟨#[], #[.agg #[.bool false, .bool false, .bool false], .agg #[.string ⟨#[]⟩, .int .i64 0, .int .i64 0, .int .i64 0, .int .i64 0, .int .i64 0, .int .i64 0, .int .i64 0, .string ⟨#[]⟩, .int .i64 0, .int .i64 0, .int .i64 0, .int .i64 0, .int .i64 0, .int .i64 0]], []⟩).memory Tryz.f12.params.toList Rows.copyingExactSpec.vars false #[.agg #[.bool false, .bool false, .bool false], .agg #[.string ⟨#[]⟩, .int .i64 0, .int .i64 0, .int .i64 0, .int .i64 0, .int .i64 0, .int .i64 0, .int .i64 0, .string ⟨#[]⟩, .int .i64 0, .int .i64 0, .int .i64 0, .int .i64 0, .int .i64 0, .int .i64 0]].toList 8 = some ([.agg [.lit (.bool false), .lit (.bool false), .lit (.bool false)], .agg [.lit (.string []), .agg [.lit (.int .i64 0), .lit (.int .i64 0), .lit (.int .i64 0)], .agg [.lit (.int .i64 0), .lit (.int .i64 0), .lit (.int .i64 0), .lit (.int .i64 0), .lit (.string []), .agg [.lit (.int .i64 0), .lit (.int .i64 0), .lit (.int .i64 0)], .agg [.lit (.int .i64 0), .lit (.int .i64 0), .lit (.int .i64 0)]]]], [], places) :=
  ⟨[], by kernel_rfl⟩

set_option maxRecDepth 100000 in
theorem lifted (os : Os) (started : os.Started) (H : Type) (enc : TypeId × Value → H) (F : Stop.Interp) :
    ReturnsInHanded {} Tryz.checked os 12 .any ((OpenSpec.ofChange Rows.copyingExactSpec).preRow enc Tryz.prog Tryz.f12 Rows.copyingExactRow.domain false Rows.copyingExactRow.laid) (((OpenSpec.ofChange Rows.copyingExactSpec).at F).post enc Tryz.prog Tryz.f12 false true false false) := by
  obtain ⟨places, hx⟩ := reads os enc
  refine returnsInHanded_of_row (C := Tryz.checked) (s := OpenSpec.ofChange Rows.copyingExactSpec) ownKn started (by kernel_rfl) Tryz.func12
    (witness_row_at (enc := enc) (C := Tryz.checked) false (laidWorld os) #[.agg #[.bool false, .bool false, .bool false], .agg #[.string ⟨#[]⟩, .int .i64 0, .int .i64 0, .int .i64 0, .int .i64 0, .int .i64 0, .int .i64 0, .int .i64 0, .string ⟨#[]⟩, .int .i64 0, .int .i64 0, .int .i64 0, .int .i64 0, .int .i64 0, .int .i64 0]] rfl (by kernel_rfl) (by kernel_rfl) (by kernel_rfl)
      (OpenSpec.preRow_of_cond 8 hx (by kernel_rfl) (fun k hk => by cases hk) (by kernel_rfl) (laid_met os))) ?_
  intro W base args ds gs before hval hW _ _ _ hL _ _
  exact contract H enc W base args ds gs before hval hW hL

theorem andt {a b : Bool} (ha : a = true) (hb : b = true) : (a && b) = true := by rw [ha, hb]; rfl
set_option maxHeartbeats 100000000 in
theorem closed : joinedFacts Tryz.prog 12 Tryz.f12 Rows.copyingExactSpec Rows.copyingExactRow = true := by
  unfold joinedFacts
  repeat' (with_reducible refine andt ?_ ?_)
  all_goals as_aux_lemma => kernel_rfl
theorem said : Rows.CopyingExactSaid :=
  OpenClaim.holds_of_cond 12 Tryz.f12 rfl rfl rfl rfl rfl rfl rfl ⟨rfl, rfl, rfl, rfl, rfl⟩ rfl rfl rfl rfl rfl (by kernel_rfl) Tryz.func12 closed
    (of_decide_eq_true (by kernel_rfl)) (by unfold Func.isWrapper; first | (rw [if_pos (by decide +kernel)]; kernel_rfl) | (rw [if_neg (by decide +kernel)]; exact ⟨rfl, rfl⟩))
    (fun os started H enc _ F => by rw [OpenClaim.pre_eq_preRow]; exact lifted os started H enc F)

theorem stand (j : Nat) (t : TypeId) (ht : (#[58, 64] : Array TypeId)[j]? = some t) : Tryz.prog.wantsStandIn t = false := by
  match j, ht with
  | 0, ht => obtain rfl := Option.some.inj ht; exact (show Tryz.prog.wantsStandIn 58 = false by kernel_rfl)
  | 1, ht => obtain rfl := Option.some.inj ht; exact (show Tryz.prog.wantsStandIn 64 = false by kernel_rfl)
  | k + 2, ht => simp at ht
theorem plain (f : FuncId) (fn : Func) (hf : Tryz.pinned.checked.prog.funcNamed "pileup/pileuplaw04.CopyingExact" = some f) (hfn : Tryz.pinned.checked.prog.funcs[f]? = some fn) :
    true = Tryz.pinned.checked.prog.looks [] ∧ ∀ (j : Nat) t, fn.params[j]? = some t → Tryz.pinned.checked.prog.wantsStandIn t = false := by
  obtain rfl : f = 12 := Option.some.inj ((show Tryz.prog.funcNamed "pileup/pileuplaw04.CopyingExact" = some 12 by kernel_rfl).symm.trans hf) |>.symm
  obtain rfl : fn = Tryz.f12 := (Option.some.inj (Tryz.func12.symm.trans hfn)).symm
  refine ⟨by kernel_rfl, fun j t ht => ?_⟩
  rw [Tryz.params12] at ht
  exact stand j t ht
end Go.Proofs.YtgcddjgkieambaaGreatDoor.copyingExact
namespace Go.Proofs.YtgcddjgkieambaaGreatDoor
/-- The card. -/
theorem copyingExact_holds : Rows.CopyingExactCardSaid :=
  Claim7.holds_tied_plain_at .later [] _ _ _ _ copyingExact.said (fun _ h => by cases h) (by kernel_rfl) (fun _ h => by cases h) copyingExact_row_tie rfl ⟨rfl, rfl⟩ (by kernel_rfl) rfl copyingExact.plain (by kernel_rfl)
end Go.Proofs.YtgcddjgkieambaaGreatDoor
#print axioms Go.Proofs.YtgcddjgkieambaaGreatDoor.copyingExact_holds
