/- What the card of the statement wants that does not hang on its walk. -/
import Derived.Test.YtgcddjgkieambaaGreatDoorJoin2
import Derived.JoinedOf
set_option linter.unusedVariables false
set_option maxRecDepth 100000
namespace Go.Proofs.YtgcddjgkieambaaGreatDoor.copyingLines
open Go.ChangeShapes Go.WideShapes Go.ChangeAt Go.RowKit

set_option maxRecDepth 100000 in
theorem laid_met (os : Os) : laidMet Tryz.prog laid3 ((laidWorld os).forCall (fun _ _ => 0) ⟨#[], #[.agg #[.bool false, .bool false, .bool false], .agg #[.string ⟨#[]⟩, .int .i64 0, .int .i64 0, .int .i64 0, .int .i64 0, .int .i64 0, .int .i64 0, .int .i64 0, .string ⟨#[]⟩, .int .i64 0, .int .i64 0, .int .i64 0, .int .i64 0, .int .i64 0, .int .i64 0]], []⟩).memory :=
  laidMet_of_run' 8 (by kernel_rfl) (by kernel_rfl)
set_option maxRecDepth 100000 in
theorem reads (os : Os) {H : Type} (enc : TypeId × Value → H) : ∃ places, DataW.whole enc Tryz.prog ((laidWorld os).forCall (fun _ _ => 0) ⟨#[], #[.agg #[.bool false, .bool false, .bool false], .agg #[.string ⟨#[]⟩, .int .i64 0, .int .i64 0, .int .i64 0, .int .i64 0, .int .i64 0, .int .i64 0, .int .i64 0, .string ⟨#[]⟩, .int .i64 0, .int .i64 0, .int .i64 0, .int .i64 0, .int .i64 0, .int .i64 0]], []⟩).memory Tryz.f11.params.toList Rows.copyingLinesSpec.vars false #[.agg #[.bool false, .bool false, .bool false], .agg #[.string ⟨#[]⟩, .int .i64 0, .int .i64 0, .int .i64 0, .int .i64 0, .int .i64 0, .int .i64 0, .int .i64 0, .string ⟨#[]⟩, .int .i64 0, .int .i64 0, .int .i64 0, .int .i64 0, .int .i64 0, .int .i64 0]].toList 8 = some ([.agg [.lit (.bool false), .lit (.bool false), .lit (.bool false)], .agg [.lit (.string []), .agg [.lit (.int .i64 0), .lit (.int .i64 0), .lit (.int .i64 0)], .agg [.lit (.int .i64 0), .lit (.int .i64 0), .lit (.int .i64 0), .lit (.int .i64 0), .lit (.string []), .agg [.lit (.int .i64 0), .lit (.int .i64 0), .lit (.int .i64 0)], .agg [.lit (.int .i64 0), .lit (.int .i64 0), .lit (.int .i64 0)]]]], [], places) :=
  ⟨[], by kernel_rfl⟩

theorem andt {a b : Bool} (ha : a = true) (hb : b = true) : (a && b) = true := by rw [ha, hb]; rfl
set_option maxHeartbeats 100000000 in
theorem closed : joinedFacts Tryz.prog 11 Tryz.f11 Rows.copyingLinesSpec Rows.copyingLinesRow = true := by
  unfold joinedFacts
  repeat' (with_reducible refine andt ?_ ?_)
  all_goals as_aux_lemma => kernel_rfl
theorem stand (j : Nat) (t : TypeId) (ht : (#[58, 64] : Array TypeId)[j]? = some t) : Tryz.prog.wantsStandIn t = false := by
  match j, ht with
  | 0, ht => obtain rfl := Option.some.inj ht; exact (show Tryz.prog.wantsStandIn 58 = false by kernel_rfl)
  | 1, ht => obtain rfl := Option.some.inj ht; exact (show Tryz.prog.wantsStandIn 64 = false by kernel_rfl)
  | k + 2, ht => simp at ht
theorem plain (f : FuncId) (fn : Func) (hf : Tryz.pinned.checked.prog.funcNamed "pileup/pileuplaw04.CopyingLines" = some f) (hfn : Tryz.pinned.checked.prog.funcs[f]? = some fn) :
    true = Tryz.pinned.checked.prog.looks [] ∧ ∀ (j : Nat) t, fn.params[j]? = some t → Tryz.pinned.checked.prog.wantsStandIn t = false := by
  obtain rfl : f = 11 := Option.some.inj ((show Tryz.prog.funcNamed "pileup/pileuplaw04.CopyingLines" = some 11 by kernel_rfl).symm.trans hf) |>.symm
  obtain rfl : fn = Tryz.f11 := (Option.some.inj (Tryz.func11.symm.trans hfn)).symm
  refine ⟨by kernel_rfl, fun j t ht => ?_⟩
  rw [Tryz.params11] at ht
  exact stand j t ht
end Go.Proofs.YtgcddjgkieambaaGreatDoor.copyingLines
