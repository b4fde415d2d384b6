/- JudgesVersions is proved. The statement holds for every input; the listed tables of Go's library are as the program's text lays them. -/
import Derived.Test.YtlamogpdkmbeoaaGreatDoorZbJoin
import Derived.Test.YtlamogpdkmbeoaaGreatDoorZbVeW
import Derived.Test.YtlamogpdkmbeoaaGreatDoorZbJoinQ
import Derived.Test.YtlamogpdkmbeoaaGreatDoorZbVePre
set_option linter.unusedVariables false
set_option linter.unusedSimpArgs false
set_option maxRecDepth 100000
namespace Go.Proofs.YtlamogpdkmbeoaaGreatDoor.judgesVersions
open Go.ChangeShapes Go.WideShapes Go.ChangeAt Go.RowKit

theorem contract (H : Type) (enc : TypeId × Value → H) (W : World) (base : Nat) (args : Array Value) (ds gs : List (DataW H)) (before : List MemPlace)
    (hval : ∀ (j : Nat) t v, Tryz.f10.params[j]? = some t → args[j]? = some v → Value.okWide Tryz.prog W .any base t v)
    (hW : DataW.Whole enc Tryz.prog Tryz.f10.params.toList Rows.judgesVersionsSpec.vars false W args.toList ds gs before) (hL : laidMetH Tryz.prog laid2 W) (hS : W.ShapedOpen Tryz.prog) :
    Calls Tryz.prog 10 args W fun e W' => ∃ v, e = .returned v ∧ Rows.judgesVersionsSpec.post enc Tryz.prog Tryz.f10 false true false false W args v W' := by
  have hP := env_of_laid hL hS
  exact post4 (f := Tryz.f10) (t0 := 23) (t1 := 24) (t2 := 24) (t3 := 9) (spec := Rows.judgesVersionsSpec) Tryz.params10 (by kernel_rfl) rfl (fun d0 d1 d2 d3 => rfl) (by kernel_rfl) (of_decide_eq_true (by kernel_rfl)) (by kernel_rfl) (of_decide_eq_true (by kernel_rfl)) (by kernel_rfl) (of_decide_eq_true (by kernel_rfl)) (by kernel_rfl) (of_decide_eq_true (by kernel_rfl)) hval hW
    (fun v0 d0 p0 v1 d1 p1 v2 d2 p2 v3 d3 p3 hv0 hd0 hv1 hd1 hv2 hd2 hv3 hd3 => by obtain ⟨o, rfl⟩ := layout_form hv0 hd0; obtain ⟨xs, h1⟩ := notes_arg hv1 hd1; obtain ⟨ys, h2⟩ := notes_arg hv2 hd2; obtain ⟨c, rfl⟩ := okWide_string Tryz.underlying9 hv3; exact JVersions_any o v1 v2 xs ys c W h1 h2 hP)

set_option maxRecDepth 100000 in
theorem lifted (os : Os) (started : os.Started) (H : Type) (enc : TypeId × Value → H) (F : Stop.Interp) :
    ReturnsInHanded {} Tryz.checked os 10 .any ((OpenSpec.ofChange Rows.judgesVersionsSpec).preRow enc Tryz.prog Tryz.f10 Rows.judgesVersionsRow.domain false Rows.judgesVersionsRow.laid) (((OpenSpec.ofChange Rows.judgesVersionsSpec).at F).post enc Tryz.prog Tryz.f10 false true false false) := by
  obtain ⟨places, hx⟩ := reads os enc
  refine returnsInHanded_of_row (C := Tryz.checked) (s := OpenSpec.ofChange Rows.judgesVersionsSpec) ownKn started (by kernel_rfl) Tryz.func10
    (witness_row_at (enc := enc) (C := Tryz.checked) false (laidWorld os) #[.agg #[.bool false, .bool false, .bool false], .slice none 0 0, .slice none 0 0, .string ⟨#[]⟩] rfl (by kernel_rfl) (by kernel_rfl) (by kernel_rfl)
      (OpenSpec.preRow_of_cond 8 hx (by kernel_rfl) (fun k hk => by cases hk) (by kernel_rfl) (laid_met os))) ?_
  intro W base args ds gs before hval hW _ _ _ hL hS _
  exact contract H enc W base args ds gs before hval hW hL hS

theorem said : Rows.JudgesVersionsSaid :=
  OpenClaim.holds_of_cond 10 Tryz.f10 rfl rfl rfl rfl rfl rfl rfl ⟨rfl, rfl, rfl, rfl, rfl⟩ rfl rfl rfl rfl rfl (by kernel_rfl) Tryz.func10 closed
    (of_decide_eq_true (by kernel_rfl)) (by unfold Func.isWrapper; first | (rw [if_pos (by decide +kernel)]; kernel_rfl) | (rw [if_neg (by decide +kernel)]; exact ⟨rfl, rfl⟩))
    (fun os started H enc _ F => by rw [OpenClaim.pre_eq_preRow]; exact lifted os started H enc F)
end Go.Proofs.YtlamogpdkmbeoaaGreatDoor.judgesVersions
namespace Go.Proofs.YtlamogpdkmbeoaaGreatDoor
/-- The card. -/
theorem judgesVersions_holds : Rows.JudgesVersionsCardSaid :=
  Claim7.holds_tied_plain_at .later [] _ _ _ _ judgesVersions.said (fun _ h => by cases h) (by kernel_rfl) (fun _ h => by cases h) judgesVersions_row_tie rfl ⟨rfl, rfl⟩ (by kernel_rfl) rfl judgesVersions.plain (by kernel_rfl)
end Go.Proofs.YtlamogpdkmbeoaaGreatDoor
