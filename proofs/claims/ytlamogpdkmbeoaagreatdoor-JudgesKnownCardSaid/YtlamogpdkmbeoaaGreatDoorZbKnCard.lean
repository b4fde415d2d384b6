/- JudgesKnown is proved. The statement holds for every input; the listed tables of Go's library are as the program's text lays them. -/
import Derived.Test.YtlamogpdkmbeoaaGreatDoorZbJoin
import Derived.Test.YtlamogpdkmbeoaaGreatDoorZbKnW
import Derived.Test.YtlamogpdkmbeoaaGreatDoorZbJoinR
import Derived.Test.YtlamogpdkmbeoaaGreatDoorZbKnPre
set_option linter.unusedVariables false
set_option linter.unusedSimpArgs false
set_option maxRecDepth 100000
namespace Go.Proofs.YtlamogpdkmbeoaaGreatDoor.judgesKnown
open Go.ChangeShapes Go.WideShapes Go.ChangeAt Go.RowKit

theorem contract (H : Type) (enc : TypeId × Value → H) (W : World) (base : Nat) (args : Array Value) (ds gs : List (DataW H)) (before : List MemPlace)
    (hval : ∀ (j : Nat) t v, Tryz.f8.params[j]? = some t → args[j]? = some v → Value.okWide Tryz.prog W .any base t v)
    (hW : DataW.Whole enc Tryz.prog Tryz.f8.params.toList Rows.judgesKnownSpec.vars false W args.toList ds gs before) (hL : laidMetH Tryz.prog laid2 W) (hS : W.ShapedOpen Tryz.prog) :
    Calls Tryz.prog 8 args W fun e W' => ∃ v, e = .returned v ∧ Rows.judgesKnownSpec.post enc Tryz.prog Tryz.f8 false true false false W args v W' := by
  have hP := env_of_laid hL hS
  exact post5 (f := Tryz.f8) (t0 := 23) (t1 := 3) (t2 := 24) (t3 := 24) (t4 := 3) (spec := Rows.judgesKnownSpec) Tryz.params8 (by kernel_rfl) rfl (fun d0 d1 d2 d3 d4 => rfl) (by kernel_rfl) (of_decide_eq_true (by kernel_rfl)) (by kernel_rfl) (of_decide_eq_true (by kernel_rfl)) (by kernel_rfl) (of_decide_eq_true (by kernel_rfl)) (by kernel_rfl) (of_decide_eq_true (by kernel_rfl)) (by kernel_rfl) (of_decide_eq_true (by kernel_rfl)) hval hW
    (fun v0 d0 p0 v1 d1 p1 v2 d2 p2 v3 d3 p3 v4 d4 p4 hv0 hd0 hv1 hd1 hv2 hd2 hv3 hd3 hv4 hd4 => by obtain ⟨o, rfl⟩ := layout_form hv0 hd0; obtain ⟨q, rfl⟩ := int_arg hv1; obtain ⟨xs, h2⟩ := notes_arg hv2 hd2; obtain ⟨ys, h3⟩ := notes_arg hv3 hd3; obtain ⟨t, rfl⟩ := int_arg hv4; exact JKnown_any o q v2 v3 xs ys t W h2 h3 hP)

set_option maxRecDepth 100000 in
theorem lifted (os : Os) (started : os.Started) (H : Type) (enc : TypeId × Value → H) (F : Stop.Interp) :
    ReturnsInHanded {} Tryz.checked os 8 .any ((OpenSpec.ofChange Rows.judgesKnownSpec).preRow enc Tryz.prog Tryz.f8 Rows.judgesKnownRow.domain false Rows.judgesKnownRow.laid) (((OpenSpec.ofChange Rows.judgesKnownSpec).at F).post enc Tryz.prog Tryz.f8 false true false false) := by
  obtain ⟨places, hx⟩ := reads os enc
  refine returnsInHanded_of_row (C := Tryz.checked) (s := OpenSpec.ofChange Rows.judgesKnownSpec) ownKn started (by kernel_rfl) Tryz.func8
    (witness_row_at (enc := enc) (C := Tryz.checked) false (laidWorld os) #[.agg #[.bool false, .bool false, .bool false], .int .i64 0, .slice none 0 0, .slice none 0 0, .int .i64 0] rfl (by kernel_rfl) (by kernel_rfl) (by kernel_rfl)
      (OpenSpec.preRow_of_cond 8 hx (by kernel_rfl) (fun k hk => by cases hk) (by kernel_rfl) (laid_met os))) ?_
  intro W base args ds gs before hval hW _ _ _ hL hS _
  exact contract H enc W base args ds gs before hval hW hL hS

theorem said : Rows.JudgesKnownSaid :=
  OpenClaim.holds_of_cond 8 Tryz.f8 rfl rfl rfl rfl rfl rfl rfl ⟨rfl, rfl, rfl, rfl, rfl⟩ rfl rfl rfl rfl rfl (by kernel_rfl) Tryz.func8 closed
    (of_decide_eq_true (by kernel_rfl)) (by unfold Func.isWrapper; first | (rw [if_pos (by decide +kernel)]; kernel_rfl) | (rw [if_neg (by decide +kernel)]; exact ⟨rfl, rfl⟩))
    (fun os started H enc _ F => by rw [OpenClaim.pre_eq_preRow]; exact lifted os started H enc F)
end Go.Proofs.YtlamogpdkmbeoaaGreatDoor.judgesKnown
namespace Go.Proofs.YtlamogpdkmbeoaaGreatDoor
/-- The card. -/
theorem judgesKnown_holds : Rows.JudgesKnownCardSaid :=
  Claim7.holds_tied_plain_at .later [] _ _ _ _ judgesKnown.said (fun _ h => by cases h) (by kernel_rfl) (fun _ h => by cases h) judgesKnown_row_tie rfl ⟨rfl, rfl⟩ (by kernel_rfl) rfl judgesKnown.plain (by kernel_rfl)
end Go.Proofs.YtlamogpdkmbeoaaGreatDoor
