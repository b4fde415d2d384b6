/- JudgesChain is proved. The statement holds for every input; the listed tables of Go's library are as the program's text lays them. -/
import Derived.Test.YtlamogpdkmbeoaaGreatDoorZaJoin
import Derived.Test.YtlamogpdkmbeoaaGreatDoorZaChain
import Derived.Test.YtlamogpdkmbeoaaGreatDoorZaChPre
set_option linter.unusedVariables false
set_option maxRecDepth 100000
namespace Go.Proofs.YtlamogpdkmbeoaaGreatDoor.judgesChain
open Go.ChangeShapes Go.WideShapes Go.ChangeAt Go.RowKit

theorem contract (H : Type) (enc : TypeId × Value → H) (W : World) (base : Nat) (args : Array Value) (ds gs : List (DataW H)) (before : List MemPlace)
    (hval : ∀ (j : Nat) t v, Tryz.f3.params[j]? = some t → args[j]? = some v → Value.okWide Tryz.prog W .any base t v)
    (hW : DataW.Whole enc Tryz.prog Tryz.f3.params.toList Rows.judgesChainSpec.vars false W args.toList ds gs before) (hL : laidMetH Tryz.prog laid2 W) (hS : W.ShapedOpen Tryz.prog) :
    Calls Tryz.prog 3 args W fun e W' => ∃ v, e = .returned v ∧ Rows.judgesChainSpec.post enc Tryz.prog Tryz.f3 false true false false W args v W' := by
  have hP := env_of_laid hL hS
  exact post2 (f := Tryz.f3) (t0 := 23) (t1 := 24) (spec := Rows.judgesChainSpec) Tryz.params3 (by kernel_rfl) rfl (fun d0 d1 => rfl) (by kernel_rfl) (of_decide_eq_true (by kernel_rfl)) (by kernel_rfl) (of_decide_eq_true (by kernel_rfl)) hval hW
    (fun v0 d0 p0 v1 d1 p1 hv0 hd0 hv1 hd1 => by obtain ⟨o, rfl⟩ := layout_form hv0 hd0; obtain ⟨xs, h⟩ := notes_arg hv1 hd1; exact JChain_any o v1 xs W h hP)

set_option maxRecDepth 100000 in
theorem lifted (os : Os) (started : os.Started) (H : Type) (enc : TypeId × Value → H) (F : Stop.Interp) :
    ReturnsInHanded {} Tryz.checked os 3 .any ((OpenSpec.ofChange Rows.judgesChainSpec).preRow enc Tryz.prog Tryz.f3 Rows.judgesChainRow.domain false Rows.judgesChainRow.laid) (((OpenSpec.ofChange Rows.judgesChainSpec).at F).post enc Tryz.prog Tryz.f3 false true false false) := by
  obtain ⟨places, hx⟩ := reads os enc
  refine returnsInHanded_of_row (C := Tryz.checked) (s := OpenSpec.ofChange Rows.judgesChainSpec) ownKn started (by kernel_rfl) Tryz.func3
    (witness_row_at (enc := enc) (C := Tryz.checked) false (laidWorld os) #[.agg #[.bool false, .bool false, .bool false], .slice none 0 0] rfl (by kernel_rfl) (by kernel_rfl) (by kernel_rfl)
      (OpenSpec.preRow_of_cond 8 hx (by kernel_rfl) (fun k hk => by cases hk) (by kernel_rfl) (laid_met os))) ?_
  intro W base args ds gs before hval hW _ _ _ hL hS _
  exact contract H enc W base args ds gs before hval hW hL hS

theorem said : Rows.JudgesChainSaid :=
  OpenClaim.holds_of_cond 3 Tryz.f3 rfl rfl rfl rfl rfl rfl rfl ⟨rfl, rfl, rfl, rfl, rfl⟩ rfl rfl rfl rfl rfl (by kernel_rfl) Tryz.func3 closed
    (of_decide_eq_true (by kernel_rfl)) (by unfold Func.isWrapper; first | (rw [if_pos (by decide +kernel)]; kernel_rfl) | (rw [if_neg (by decide +kernel)]; exact ⟨rfl, rfl⟩))
    (fun os started H enc _ F => by rw [OpenClaim.pre_eq_preRow]; exact lifted os started H enc F)
end Go.Proofs.YtlamogpdkmbeoaaGreatDoor.judgesChain
namespace Go.Proofs.YtlamogpdkmbeoaaGreatDoor
/-- The card. -/
theorem judgesChain_holds : Rows.JudgesChainCardSaid :=
  Claim7.holds_tied_plain_at .later [] _ _ _ _ judgesChain.said (fun _ h => by cases h) (by kernel_rfl) (fun _ h => by cases h) judgesChain_row_tie rfl ⟨rfl, rfl⟩ (by kernel_rfl) rfl judgesChain.plain (by kernel_rfl)
end Go.Proofs.YtlamogpdkmbeoaaGreatDoor
