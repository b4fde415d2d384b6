/- JudgesUnion is proved. The statement holds for every input; the listed tables of Go's library are as the program's text lays them. -/
import Derived.Test.YtlamogpdkmbeoaaGreatDoorZaJoin
import Derived.Test.YtlamogpdkmbeoaaGreatDoorZaUnW
import Derived.Test.YtlamogpdkmbeoaaGreatDoorZaUnPre
set_option linter.unusedVariables false
set_option maxRecDepth 100000
namespace Go.Proofs.YtlamogpdkmbeoaaGreatDoor.judgesUnion
open Go.ChangeShapes Go.WideShapes Go.ChangeAt Go.RowKit

theorem contract (H : Type) (enc : TypeId × Value → H) (W : World) (base : Nat) (args : Array Value) (ds gs : List (DataW H)) (before : List MemPlace)
    (hval : ∀ (j : Nat) t v, Tryz.f9.params[j]? = some t → args[j]? = some v → Value.okWide Tryz.prog W .any base t v)
    (hW : DataW.Whole enc Tryz.prog Tryz.f9.params.toList Rows.judgesUnionSpec.vars false W args.toList ds gs before) (hL : laidMetH Tryz.prog laid2 W) (hS : W.ShapedOpen Tryz.prog) :
    Calls Tryz.prog 9 args W fun e W' => ∃ v, e = .returned v ∧ Rows.judgesUnionSpec.post enc Tryz.prog Tryz.f9 false true false false W args v W' := by
  have hP := env_of_laid hL hS
  exact post4 (f := Tryz.f9) (t0 := 23) (t1 := 24) (t2 := 24) (t3 := 24) (spec := Rows.judgesUnionSpec) Tryz.params9 (by kernel_rfl) rfl (fun d0 d1 d2 d3 => rfl) (by kernel_rfl) (of_decide_eq_true (by kernel_rfl)) (by kernel_rfl) (of_decide_eq_true (by kernel_rfl)) (by kernel_rfl) (of_decide_eq_true (by kernel_rfl)) (by kernel_rfl) (of_decide_eq_true (by kernel_rfl)) hval hW
    (fun v0 d0 p0 v1 d1 p1 v2 d2 p2 v3 d3 p3 hv0 hd0 hv1 hd1 hv2 hd2 hv3 hd3 => by obtain ⟨o, rfl⟩ := layout_form hv0 hd0; obtain ⟨xs, h1⟩ := notes_arg hv1 hd1; obtain ⟨ys, h2⟩ := notes_arg hv2 hd2; obtain ⟨zs, h3⟩ := notes_arg hv3 hd3; exact JUnion_any o v1 v2 v3 xs ys zs W h1 h2 h3 hP)

set_option maxRecDepth 100000 in
theorem lifted (os : Os) (started : os.Started) (H : Type) (enc : TypeId × Value → H) (F : Stop.Interp) :
    ReturnsInHanded {} Tryz.checked os 9 .any ((OpenSpec.ofChange Rows.judgesUnionSpec).preRow enc Tryz.prog Tryz.f9 Rows.judgesUnionRow.domain false Rows.judgesUnionRow.laid) (((OpenSpec.ofChange Rows.judgesUnionSpec).at F).post enc Tryz.prog Tryz.f9 false true false false) := by
  obtain ⟨places, hx⟩ := reads os enc
  refine returnsInHanded_of_row (C := Tryz.checked) (s := OpenSpec.ofChange Rows.judgesUnionSpec) ownKn started (by kernel_rfl) Tryz.func9
    (witness_row_at (enc := enc) (C := Tryz.checked) false (laidWorld os) #[.agg #[.bool false, .bool false, .bool false], .slice none 0 0, .slice none 0 0, .slice none 0 0] rfl (by kernel_rfl) (by kernel_rfl) (by kernel_rfl)
      (OpenSpec.preRow_of_cond 8 hx (by kernel_rfl) (fun k hk => by cases hk) (by kernel_rfl) (laid_met os))) ?_
  intro W base args ds gs before hval hW _ _ _ hL hS _
  exact contract H enc W base args ds gs before hval hW hL hS

theorem said : Rows.JudgesUnionSaid :=
  OpenClaim.holds_of_cond 9 Tryz.f9 rfl rfl rfl rfl rfl rfl rfl ⟨rfl, rfl, rfl, rfl, rfl⟩ rfl rfl rfl rfl rfl (by kernel_rfl) Tryz.func9 closed
    (of_decide_eq_true (by kernel_rfl)) (by unfold Func.isWrapper; first | (rw [if_pos (by decide +kernel)]; kernel_rfl) | (rw [if_neg (by decide +kernel)]; exact ⟨rfl, rfl⟩))
    (fun os started H enc _ F => by rw [OpenClaim.pre_eq_preRow]; exact lifted os started H enc F)
end Go.Proofs.YtlamogpdkmbeoaaGreatDoor.judgesUnion
namespace Go.Proofs.YtlamogpdkmbeoaaGreatDoor
/-- The card. -/
theorem judgesUnion_holds : Rows.JudgesUnionCardSaid :=
  Claim7.holds_tied_plain_at .later [] _ _ _ _ judgesUnion.said (fun _ h => by cases h) (by kernel_rfl) (fun _ h => by cases h) judgesUnion_row_tie rfl ⟨rfl, rfl⟩ (by kernel_rfl) rfl judgesUnion.plain (by kernel_rfl)
end Go.Proofs.YtlamogpdkmbeoaaGreatDoor
