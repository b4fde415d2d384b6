/- What the card of JudgesVersions wants that does not hang on its walk. -/
import Derived.Test.YtlamogpdkmbeoaaGreatDoorZbJoin
import Derived.JoinedOf
set_option linter.unusedVariables false
set_option linter.unusedSimpArgs false
set_option maxRecDepth 100000
namespace Go.Proofs.YtlamogpdkmbeoaaGreatDoor.judgesVersions
open Go.ChangeShapes Go.WideShapes Go.ChangeAt Go.RowKit

set_option maxRecDepth 100000 in
theorem laid_met (os : Os) : laidMet Tryz.prog laid2 ((laidWorld os).forCall (fun _ _ => 0) ⟨#[], #[.agg #[.bool false, .bool false, .bool false], .slice none 0 0, .slice none 0 0, .string ⟨#[]⟩], []⟩).memory :=
  laidMet_of_run' 8 (by kernel_rfl) (by kernel_rfl)
set_option maxRecDepth 100000 in
theorem reads (os : Os) {H : Type} (enc : TypeId × Value → H) : ∃ places, DataW.whole enc Tryz.prog ((laidWorld os).forCall (fun _ _ => 0) ⟨#[], #[.agg #[.bool false, .bool false, .bool false], .slice none 0 0, .slice none 0 0, .string ⟨#[]⟩], []⟩).memory Tryz.f10.params.toList Rows.judgesVersionsSpec.vars false #[.agg #[.bool false, .bool false, .bool false], .slice none 0 0, .slice none 0 0, .string ⟨#[]⟩].toList 8 = some ([.agg [.lit (.bool false), .lit (.bool false), .lit (.bool false)], .nil, .nil, .lit (.string [])], [], places) :=
  ⟨[], by kernel_rfl⟩
theorem andt {a b : Bool} (ha : a = true) (hb : b = true) : (a && b) = true := by rw [ha, hb]; rfl
set_option maxHeartbeats 100000000 in
theorem closed : joinedFacts Tryz.prog 10 Tryz.f10 Rows.judgesVersionsSpec Rows.judgesVersionsRow = true := by
  unfold joinedFacts
  repeat' (with_reducible refine andt ?_ ?_)
  all_goals as_aux_lemma => kernel_rfl
theorem stand (j : Nat) (t : TypeId) (ht : (#[23, 24, 24, 9] : Array TypeId)[j]? = some t) : Tryz.prog.wantsStandIn t = false := by
  match j, ht with
  | 0, ht => obtain rfl := Option.some.inj ht; exact (show Tryz.prog.wantsStandIn 23 = false by kernel_rfl)
  | 1, ht => obtain rfl := Option.some.inj ht; exact (show Tryz.prog.wantsStandIn 24 = false by kernel_rfl)
  | 2, ht => obtain rfl := Option.some.inj ht; exact (show Tryz.prog.wantsStandIn 24 = false by kernel_rfl)
  | 3, ht => obtain rfl := Option.some.inj ht; exact (show Tryz.prog.wantsStandIn 9 = false by kernel_rfl)
  | k + 4, ht => simp at ht
theorem plain (f : FuncId) (fn : Func) (hf : Tryz.pinned.checked.prog.funcNamed "pileup/pileuplaw09.JudgesVersions" = some f) (hfn : Tryz.pinned.checked.prog.funcs[f]? = some fn) :
    true = Tryz.pinned.checked.prog.looks [] ∧ ∀ (j : Nat) t, fn.params[j]? = some t → Tryz.pinned.checked.prog.wantsStandIn t = false := by
  obtain rfl : f = 10 := Option.some.inj ((show Tryz.prog.funcNamed "pileup/pileuplaw09.JudgesVersions" = some 10 by kernel_rfl).symm.trans hf) |>.symm
  obtain rfl : fn = Tryz.f10 := (Option.some.inj (Tryz.func10.symm.trans hfn)).symm
  refine ⟨by kernel_rfl, fun j t ht => ?_⟩
  rw [Tryz.params10] at ht
  exact stand j t ht
end Go.Proofs.YtlamogpdkmbeoaaGreatDoor.judgesVersions
