/- CopyingNearest is proved: The statement holds for every input; the listed tables of Go's library are as the program's text lays them. -/
import Derived.Test.YtgcddjgkieambaaGreatDoorJoin2
import Derived.Test.YtgcddjgkieambaaGreatDoorAsk
import Derived.Test.YtgcddjgkieambaaGreatDoorNearZ
import Derived.Test.YtgcddjgkieambaaGreatDoorNearestPre
import Derived.JoinedOf
set_option linter.unusedVariables false
set_option maxRecDepth 100000
namespace Go.Proofs.YtgcddjgkieambaaGreatDoor.copyingNearest
open Go.ChangeShapes Go.WideShapes Go.ChangeAt Go.RowKit

theorem contract (H : Type) (enc : TypeId × Value → H) (W : World) (base : Nat) (args : Array Value) (ds gs : List (DataW H)) (before : List MemPlace)
    (hval : ∀ (j : Nat) t v, Tryz.f14.params[j]? = some t → args[j]? = some v → Value.okWide Tryz.prog W .any base t v)
    (hW : DataW.Whole enc Tryz.prog Tryz.f14.params.toList Rows.copyingNearestSpec.vars false W args.toList ds gs before) (hL : laidMetH Tryz.prog laid3 W) :
    Calls Tryz.prog 14 args W fun e W' => ∃ v, e = .returned v ∧ Rows.copyingNearestSpec.post enc Tryz.prog Tryz.f14 false true false false W args v W' := by
  have hP := pow_of_laid hL
  exact post1 (f := Tryz.f14) (t0 := 40) (spec := Rows.copyingNearestSpec) Tryz.params14 (by kernel_rfl) rfl (fun d0 => rfl) (by kernel_rfl) (of_decide_eq_true (by kernel_rfl)) hval hW
    (fun v0 d0 p0 hv0 hd0 => ask_open hv0 hd0 (fun m x y code a b most v7 v8 v9 v10 v11 n y7 y8 y9 y10 y11 _ _ _ h7 _ _ _ _ => by obtain ⟨A, c, L, rfl, hS⟩ := strs_open h7; exact NearQ_any m x y code a b most A L c v8 v9 v10 v11 W hP hS))

set_option maxRecDepth 100000 in
theorem lifted (os : Os) (started : os.Started) (H : Type) (enc : TypeId × Value → H) (F : Stop.Interp) :
    ReturnsInHanded {} Tryz.checked os 14 .any ((OpenSpec.ofChange Rows.copyingNearestSpec).preRow enc Tryz.prog Tryz.f14 Rows.copyingNearestRow.domain false Rows.copyingNearestRow.laid) (((OpenSpec.ofChange Rows.copyingNearestSpec).at F).post enc Tryz.prog Tryz.f14 false true false false) := by
  obtain ⟨places, hx⟩ := reads os enc
  refine returnsInHanded_of_row (C := Tryz.checked) (s := OpenSpec.ofChange Rows.copyingNearestSpec) ownKn started (by kernel_rfl) Tryz.func14
    (witness_row_at (enc := enc) (C := Tryz.checked) false (laidWorld os) #[.agg #[.int .i64 0, .string ⟨#[]⟩, .string ⟨#[]⟩, .string ⟨#[]⟩, .int .i64 0, .int .i64 0, .int .i64 0, .slice none 0 0, .slice none 0 0, .slice none 0 0, .slice none 0 0, .slice none 0 0]] rfl (by kernel_rfl) (by kernel_rfl) (by kernel_rfl)
      (OpenSpec.preRow_of_cond 8 hx (by kernel_rfl) (fun k hk => by cases hk) (by kernel_rfl) (laid_met os))) ?_
  intro W base args ds gs before hval hW _ _ _ hL _ _
  exact contract H enc W base args ds gs before hval hW hL

theorem said : Rows.CopyingNearestSaid :=
  OpenClaim.holds_of_cond 14 Tryz.f14 rfl rfl rfl rfl rfl rfl rfl ⟨rfl, rfl, rfl, rfl, rfl⟩ rfl rfl rfl rfl rfl (by kernel_rfl) Tryz.func14 closed
    (of_decide_eq_true (by kernel_rfl)) (by unfold Func.isWrapper; first | (rw [if_pos (by decide +kernel)]; kernel_rfl) | (rw [if_neg (by decide +kernel)]; exact ⟨rfl, rfl⟩))
    (fun os started H enc _ F => by rw [OpenClaim.pre_eq_preRow]; exact lifted os started H enc F)

end Go.Proofs.YtgcddjgkieambaaGreatDoor.copyingNearest
namespace Go.Proofs.YtgcddjgkieambaaGreatDoor
/-- The card. -/
theorem copyingNearest_holds : Rows.CopyingNearestCardSaid :=
  Claim7.holds_tied_plain_at .later [] _ _ _ _ copyingNearest.said (fun _ h => by cases h) (by kernel_rfl) (fun _ h => by cases h) copyingNearest_row_tie rfl ⟨rfl, rfl⟩ (by kernel_rfl) rfl copyingNearest.plain (by kernel_rfl)
end Go.Proofs.YtgcddjgkieambaaGreatDoor
#print axioms Go.Proofs.YtgcddjgkieambaaGreatDoor.copyingNearest_holds
