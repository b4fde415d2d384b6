/- What the card of JudgesKnown wants that does not hang on its walk. -/
import Derived.Test.YtlamogpdkmbeoaaGreatDoorZbJoin
import Derived.JoinedOf
set_option linter.unusedVariables false
set_option linter.unusedSimpArgs false
set_option maxRecDepth 100000
namespace Go.Proofs.YtlamogpdkmbeoaaGreatDoor.judgesKnown
open Go.ChangeShapes Go.WideShapes Go.ChangeAt Go.RowKit

set_option maxRecDepth 100000 in
theorem laid_met (os : Os) : laidMet Tryz.prog laid2 ((laidWorld os).forCall (fun _ _ => 0) ⟨#[], #[.agg #[.bool false, .bool false, .bool false], .int .i64 0, .slice none 0 0, .slice none 0 0, .int .i64 0], []⟩).memory :=
  laidMet_of_run' 8 (by kernel_rfl) (by kernel_rfl)
set_option maxRecDepth 100000 in
theorem reads (os : Os) {H : Type} (enc : TypeId × Value → H) : ∃ places, DataW.whole enc Tryz.prog ((laidWorld os).forCall (fun _ _ => 0) ⟨#[], #[.agg #[.bool false, .bool false, .bool false], .int .i64 0, .slice none 0 0, .slice none 0 0, .int .i64 0], []⟩).memory Tryz.f8.params.toList Rows.judgesKnownSpec.vars false #[.agg #[.bool false, .bool false, .bool false], .int .i64 0, .slice none 0 0, .slice none 0 0, .int .i64 0].toList 8 = some ([.agg [.lit (.bool false), .lit (.bool false), .lit (.bool false)], .lit (.int .i64 0), .nil, .nil, .lit (.int .i64 0)], [], places) :=
  ⟨[], by kernel_rfl⟩
theorem andt {a b : Bool} (ha : a = true) (hb : b = true) : (a && b) = true := by rw [ha, hb]; rfl
set_option maxHeartbeats 100000000 in
theorem closed : joinedFacts Tryz.prog 8 Tryz.f8 Rows.judgesKnownSpec Rows.judgesKnownRow = true := by
  unfold joinedFacts
  repeat' (with_reducible refine andt ?_ ?_)
  all_goals as_aux_lemma => kernel_rfl
theorem stand (j : Nat) (t : TypeId) (ht : (#[23, 3, 24, 24, 3] : Array TypeId)[j]? = some t) : Tryz.prog.wantsStandIn t = false := by
  match j, ht with
  | 0, ht => obtain rfl := Option.some.inj ht; exact (show Tryz.prog.wantsStandIn 23 = false by kernel_rfl)
  | 1, ht => obtain rfl := Option.some.inj ht; exact (show Tryz.prog.wantsStandIn 3 = false by kernel_rfl)
  | 2, ht => obtain rfl := Option.some.inj ht; exact (show Tryz.prog.wantsStandIn 24 = false by kernel_rfl)
  | 3, ht => obtain rfl := Option.some.inj ht; exact (show Tryz.prog.wantsStandIn 24 = false by kernel_rfl)
  | 4, ht => obtain rfl := Option.some.inj ht; exact (show Tryz.prog.wantsStandIn 3 = false by kernel_rfl)
  | k + 5, ht => simp at ht
theorem plain (f : FuncId) (fn : Func) (hf : Tryz.pinned.checked.prog.funcNamed "pileup/pileuplaw09.JudgesKnown" = some f) (hfn : Tryz.pinned.checked.prog.funcs[f]? = some fn) :
    true = Tryz.pinned.checked.prog.looks [] ∧ ∀ (j : Nat) t, fn.params[j]? = some t → Tryz.pinned.checked.prog.wantsStandIn t = false := by
  obtain rfl : f = 8 := Option.some.inj ((show Tryz.prog.funcNamed "pileup/pileuplaw09.JudgesKnown" = some 8 by kernel_rfl).symm.trans hf) |>.symm
  obtain rfl : fn = Tryz.f8 := (Option.some.inj (Tryz.func8.symm.trans hfn)).symm
  refine ⟨by kernel_rfl, fun j t ht => ?_⟩
  rw [Tryz.params8] at ht
  exact stand j t ht
end Go.Proofs.YtlamogpdkmbeoaaGreatDoor.judgesKnown
