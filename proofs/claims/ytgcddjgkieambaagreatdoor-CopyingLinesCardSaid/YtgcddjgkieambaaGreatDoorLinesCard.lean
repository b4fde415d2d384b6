/- CopyingLines is proved: The statement holds for every input; the listed tables of Go's library are as the program's text lays them. -/
import Derived.Test.YtgcddjgkieambaaGreatDoorJoin2
import Derived.Test.YtgcddjgkieambaaGreatDoorSent
import Derived.Test.YtgcddjgkieambaaGreatDoorLines
import Derived.Test.YtgcddjgkieambaaGreatDoorLinesPre
import Derived.JoinedOf
set_option linter.unusedVariables false
set_option maxRecDepth 100000
namespace Go.Proofs.YtgcddjgkieambaaGreatDoor.copyingLines
open Go.ChangeShapes Go.WideShapes Go.ChangeAt Go.RowKit

theorem contract (H : Type) (enc : TypeId × Value → H) (W : World) (base : Nat) (args : Array Value) (ds gs : List (DataW H)) (before : List MemPlace)
    (hval : ∀ (j : Nat) t v, Tryz.f11.params[j]? = some t → args[j]? = some v → Value.okWide Tryz.prog W .any base t v)
    (hW : DataW.Whole enc Tryz.prog Tryz.f11.params.toList Rows.copyingLinesSpec.vars false W args.toList ds gs before) (hL : laidMetH Tryz.prog laid3 W) :
    Calls Tryz.prog 11 args W fun e W' => ∃ v, e = .returned v ∧ Rows.copyingLinesSpec.post enc Tryz.prog Tryz.f11 false true false false W args v W' := by
  have hP := pow_of_laid hL
  exact post2 (f := Tryz.f11) (t0 := 58) (t1 := 64) (spec := Rows.copyingLinesSpec) Tryz.params11 (by kernel_rfl) rfl (fun d0 d1 => rfl) (by kernel_rfl) (of_decide_eq_true (by kernel_rfl)) (by kernel_rfl) (of_decide_eq_true (by kernel_rfl)) hval hW
    (fun v0 d0 p0 v1 d1 p1 hv0 hd0 hv1 hd1 => by obtain ⟨o1, o2, o3, rfl⟩ := layout_form hv0 hd0; obtain ⟨c, r, s, z, nu, kh, m, mi, c2, r2, s2, z2, r3, s3, z3, rfl⟩ := sent_form hv1 hd1; exact Lines_any o1 o2 o3 c r s z nu kh m mi c2 r2 s2 z2 r3 s3 z3 W hP)

set_option maxRecDepth 100000 in
theorem lifted (os : Os) (started : os.Started) (H : Type) (enc : TypeId × Value → H) (F : Stop.Interp) :
    ReturnsInHanded {} Tryz.checked os 11 .any ((OpenSpec.ofChange Rows.copyingLinesSpec).preRow enc Tryz.prog Tryz.f11 Rows.copyingLinesRow.domain false Rows.copyingLinesRow.laid) (((OpenSpec.ofChange Rows.copyingLinesSpec).at F).post enc Tryz.prog Tryz.f11 false true false false) := by
  obtain ⟨places, hx⟩ := reads os enc
  refine returnsInHanded_of_row (C := Tryz.checked) (s := OpenSpec.ofChange Rows.copyingLinesSpec) ownKn started (by kernel_rfl) Tryz.func11
    (witness_row_at (enc := enc) (C := Tryz.checked) false (laidWorld os) #[.agg #[.bool false, .bool false, .bool false], .agg #[.string ⟨#[]⟩, .int .i64 0, .int .i64 0, .int .i64 0, .int .i64 0, .int .i64 0, .int .i64 0, .int .i64 0, .string ⟨#[]⟩, .int .i64 0, .int .i64 0, .int .i64 0, .int .i64 0, .int .i64 0, .int .i64 0]] rfl (by kernel_rfl) (by kernel_rfl) (by kernel_rfl)
      (OpenSpec.preRow_of_cond 8 hx (by kernel_rfl) (fun k hk => by cases hk) (by kernel_rfl) (laid_met os))) ?_
  intro W base args ds gs before hval hW _ _ _ hL _ _
  exact contract H enc W base args ds gs before hval hW hL

theorem said : Rows.CopyingLinesSaid :=
  OpenClaim.holds_of_cond 11 Tryz.f11 rfl rfl rfl rfl rfl rfl rfl ⟨rfl, rfl, rfl, rfl, rfl⟩ rfl rfl rfl rfl rfl (by kernel_rfl) Tryz.func11 closed
    (of_decide_eq_true (by kernel_rfl)) (by unfold Func.isWrapper; first | (rw [if_pos (by decide +kernel)]; kernel_rfl) | (rw [if_neg (by decide +kernel)]; exact ⟨rfl, rfl⟩))
    (fun os started H enc _ F => by rw [OpenClaim.pre_eq_preRow]; exact lifted os started H enc F)

end Go.Proofs.YtgcddjgkieambaaGreatDoor.copyingLines
namespace Go.Proofs.YtgcddjgkieambaaGreatDoor
/-- The card. -/
theorem copyingLines_holds : Rows.CopyingLinesCardSaid :=
  Claim7.holds_tied_plain_at .later [] _ _ _ _ copyingLines.said (fun _ h => by cases h) (by kernel_rfl) (fun _ h => by cases h) copyingLines_row_tie rfl ⟨rfl, rfl⟩ (by kernel_rfl) rfl copyingLines.plain (by kernel_rfl)
end Go.Proofs.YtgcddjgkieambaaGreatDoor
#print axioms Go.Proofs.YtgcddjgkieambaaGreatDoor.copyingLines_holds
