/- JudgesRecords is proved. The statement holds for every input; the listed tables of Go's library are as the program's text lays them. -/
import Derived.Test.YtlamogpdkmbeoaaGreatDoorZaJoin
import Derived.Test.YtlamogpdkmbeoaaGreatDoorZaRec
import Derived.Test.YtlamogpdkmbeoaaGreatDoorZaScan
import Derived.Test.YtlamogpdkmbeoaaGreatDoorZaRePre
set_option linter.unusedVariables false
set_option maxRecDepth 100000
namespace Go.Proofs.YtlamogpdkmbeoaaGreatDoor.judgesRecords
open Go.ChangeShapes Go.WideShapes Go.ChangeAt Go.RowKit

theorem contract (H : Type) (enc : TypeId × Value → H) (W : World) (base : Nat) (args : Array Value) (ds gs : List (DataW H)) (before : List MemPlace)
    (hval : ∀ (j : Nat) t v, Tryz.f6.params[j]? = some t → args[j]? = some v → Value.okWide Tryz.prog W .any base t v)
    (hW : DataW.Whole enc Tryz.prog Tryz.f6.params.toList Rows.judgesRecordsSpec.vars false W args.toList ds gs before) (hL : laidMetH Tryz.prog laid2 W) (hS : W.ShapedOpen Tryz.prog) :
    Calls Tryz.prog 6 args W fun e W' => ∃ v, e = .returned v ∧ Rows.judgesRecordsSpec.post enc Tryz.prog Tryz.f6 false true false false W args v W' := by
  have hP := env_of_laid hL hS
  exact post3 (f := Tryz.f6) (t0 := 56) (t1 := 57) (t2 := 57) (spec := Rows.judgesRecordsSpec) Tryz.params6 (by kernel_rfl) rfl (fun d0 d1 d2 => rfl) (by kernel_rfl) (of_decide_eq_true (by kernel_rfl)) (by kernel_rfl) (of_decide_eq_true (by kernel_rfl)) (by kernel_rfl) (of_decide_eq_true (by kernel_rfl)) hval hW
    (fun v0 d0 p0 v1 d1 p1 v2 d2 p2 hv0 hd0 hv1 hd1 hv2 hd2 => by obtain ⟨ps, h⟩ := parts_arg hv0 hd0; obtain ⟨b1, h1, k1⟩ := bytes_arg hv1 hd1; obtain ⟨b2, h2, k2⟩ := bytes_arg hv2 hd2; exact JRecords_any v0 v1 v2 ps b1 b2 W h h1 k1 h2 k2 hP)

set_option maxRecDepth 100000 in
theorem lifted (os : Os) (started : os.Started) (H : Type) (enc : TypeId × Value → H) (F : Stop.Interp) :
    ReturnsInHanded {} Tryz.checked os 6 .any ((OpenSpec.ofChange Rows.judgesRecordsSpec).preRow enc Tryz.prog Tryz.f6 Rows.judgesRecordsRow.domain false Rows.judgesRecordsRow.laid) (((OpenSpec.ofChange Rows.judgesRecordsSpec).at F).post enc Tryz.prog Tryz.f6 false true false false) := by
  obtain ⟨places, hx⟩ := reads os enc
  refine returnsInHanded_of_row (C := Tryz.checked) (s := OpenSpec.ofChange Rows.judgesRecordsSpec) ownKn started (by kernel_rfl) Tryz.func6
    (witness_row_at (enc := enc) (C := Tryz.checked) false (laidWorld os) #[.slice none 0 0, .slice none 0 0, .slice none 0 0] rfl (by kernel_rfl) (by kernel_rfl) (by kernel_rfl)
      (OpenSpec.preRow_of_cond 8 hx (by kernel_rfl) (fun k hk => by cases hk) (by kernel_rfl) (laid_met os))) ?_
  intro W base args ds gs before hval hW _ _ _ hL hS _
  exact contract H enc W base args ds gs before hval hW hL hS

theorem said : Rows.JudgesRecordsSaid :=
  OpenClaim.holds_of_cond 6 Tryz.f6 rfl rfl rfl rfl rfl rfl rfl ⟨rfl, rfl, rfl, rfl, rfl⟩ rfl rfl rfl rfl rfl (by kernel_rfl) Tryz.func6 closed
    (of_decide_eq_true (by kernel_rfl)) (by unfold Func.isWrapper; first | (rw [if_pos (by decide +kernel)]; kernel_rfl) | (rw [if_neg (by decide +kernel)]; exact ⟨rfl, rfl⟩))
    (fun os started H enc _ F => by rw [OpenClaim.pre_eq_preRow]; exact lifted os started H enc F)
end Go.Proofs.YtlamogpdkmbeoaaGreatDoor.judgesRecords
namespace Go.Proofs.YtlamogpdkmbeoaaGreatDoor
/-- The card. -/
theorem judgesRecords_holds : Rows.JudgesRecordsCardSaid :=
  Claim7.holds_tied_plain_at .later [] _ _ _ _ judgesRecords.said (fun _ h => by cases h) (by kernel_rfl) (fun _ h => by cases h) judgesRecords_row_tie rfl ⟨rfl, rfl⟩ (by kernel_rfl) rfl judgesRecords.plain (by kernel_rfl)
end Go.Proofs.YtlamogpdkmbeoaaGreatDoor
