/- JudgesByte is proved. The statement holds for every input; the listed tables of Go's library are as the program's text lays them. -/
import Derived.Test.YtlamogpdkmbeoaaGreatDoorZaJoin
import Derived.Test.YtlamogpdkmbeoaaGreatDoorZaByte
import Derived.Test.YtlamogpdkmbeoaaGreatDoorZaScan
import Derived.Test.YtlamogpdkmbeoaaGreatDoorZaByPre
set_option linter.unusedVariables false
set_option maxRecDepth 100000
namespace Go.Proofs.YtlamogpdkmbeoaaGreatDoor.judgesByte
open Go.ChangeShapes Go.WideShapes Go.ChangeAt Go.RowKit

theorem contract (H : Type) (enc : TypeId × Value → H) (W : World) (base : Nat) (args : Array Value) (ds gs : List (DataW H)) (before : List MemPlace)
    (hval : ∀ (j : Nat) t v, Tryz.f7.params[j]? = some t → args[j]? = some v → Value.okWide Tryz.prog W .any base t v)
    (hW : DataW.Whole enc Tryz.prog Tryz.f7.params.toList Rows.judgesByteSpec.vars false W args.toList ds gs before) (hL : laidMetH Tryz.prog laid2 W) (hS : W.ShapedOpen Tryz.prog) :
    Calls Tryz.prog 7 args W fun e W' => ∃ v, e = .returned v ∧ Rows.judgesByteSpec.post enc Tryz.prog Tryz.f7 false true false false W args v W' := by
  have hP := env_of_laid hL hS
  exact post3 (f := Tryz.f7) (t0 := 56) (t1 := 3) (t2 := 5) (spec := Rows.judgesByteSpec) Tryz.params7 (by kernel_rfl) rfl (fun d0 d1 d2 => rfl) (by kernel_rfl) (of_decide_eq_true (by kernel_rfl)) (by kernel_rfl) (of_decide_eq_true (by kernel_rfl)) (by kernel_rfl) (of_decide_eq_true (by kernel_rfl)) hval hW
    (fun v0 d0 p0 v1 d1 p1 v2 d2 p2 hv0 hd0 hv1 hd1 hv2 hd2 => by obtain ⟨ps, h⟩ := parts_arg hv0 hd0; obtain ⟨at_, rfl⟩ := int_arg hv1; obtain ⟨m, rfl, hm⟩ := byte_arg hv2 hd2; exact JByte_any v0 at_ m ps W h hm hP)

set_option maxRecDepth 100000 in
theorem lifted (os : Os) (started : os.Started) (H : Type) (enc : TypeId × Value → H) (F : Stop.Interp) :
    ReturnsInHanded {} Tryz.checked os 7 .any ((OpenSpec.ofChange Rows.judgesByteSpec).preRow enc Tryz.prog Tryz.f7 Rows.judgesByteRow.domain false Rows.judgesByteRow.laid) (((OpenSpec.ofChange Rows.judgesByteSpec).at F).post enc Tryz.prog Tryz.f7 false true false false) := by
  obtain ⟨places, hx⟩ := reads os enc
  refine returnsInHanded_of_row (C := Tryz.checked) (s := OpenSpec.ofChange Rows.judgesByteSpec) ownKn started (by kernel_rfl) Tryz.func7
    (witness_row_at (enc := enc) (C := Tryz.checked) false (laidWorld os) #[.slice none 0 0, .int .i64 0, .int .u8 0] rfl (by kernel_rfl) (by kernel_rfl) (by kernel_rfl)
      (OpenSpec.preRow_of_cond 8 hx (by kernel_rfl) (fun k hk => by cases hk) (by kernel_rfl) (laid_met os))) ?_
  intro W base args ds gs before hval hW _ _ _ hL hS _
  exact contract H enc W base args ds gs before hval hW hL hS

theorem said : Rows.JudgesByteSaid :=
  OpenClaim.holds_of_cond 7 Tryz.f7 rfl rfl rfl rfl rfl rfl rfl ⟨rfl, rfl, rfl, rfl, rfl⟩ rfl rfl rfl rfl rfl (by kernel_rfl) Tryz.func7 closed
    (of_decide_eq_true (by kernel_rfl)) (by unfold Func.isWrapper; first | (rw [if_pos (by decide +kernel)]; kernel_rfl) | (rw [if_neg (by decide +kernel)]; exact ⟨rfl, rfl⟩))
    (fun os started H enc _ F => by rw [OpenClaim.pre_eq_preRow]; exact lifted os started H enc F)
end Go.Proofs.YtlamogpdkmbeoaaGreatDoor.judgesByte
namespace Go.Proofs.YtlamogpdkmbeoaaGreatDoor
/-- The card. -/
theorem judgesByte_holds : Rows.JudgesByteCardSaid :=
  Claim7.holds_tied_plain_at .later [] _ _ _ _ judgesByte.said (fun _ h => by cases h) (by kernel_rfl) (fun _ h => by cases h) judgesByte_row_tie rfl ⟨rfl, rfl⟩ (by kernel_rfl) rfl judgesByte.plain (by kernel_rfl)
end Go.Proofs.YtlamogpdkmbeoaaGreatDoor
