/- CopyingChains is proved: The statement holds for every input; the listed tables of Go's library are as the program's text lays them. -/
import Derived.Test.YtgcddjgkieambaaGreatDoorJoin2
import Derived.Test.YtgcddjgkieambaaGreatDoorAsk
import Derived.Test.YtgcddjgkieambaaGreatDoorChains
import Derived.JoinedOf
set_option linter.unusedVariables false
set_option maxRecDepth 100000
namespace Go.Proofs.YtgcddjgkieambaaGreatDoor.copyingChains
open Go.ChangeShapes Go.WideShapes Go.ChangeAt Go.RowKit

theorem contract (H : Type) (enc : TypeId × Value → H) (W : World) (base : Nat) (args : Array Value) (ds gs : List (DataW H)) (before : List MemPlace)
    (hval : ∀ (j : Nat) t v, Tryz.f6.params[j]? = some t → args[j]? = some v → Value.okWide Tryz.prog W .any base t v)
    (hW : DataW.Whole enc Tryz.prog Tryz.f6.params.toList Rows.copyingChainsSpec.vars false W args.toList ds gs before) (hL : laidMetH Tryz.prog laid3 W) :
    Calls Tryz.prog 6 args W fun e W' => ∃ v, e = .returned v ∧ Rows.copyingChainsSpec.post enc Tryz.prog Tryz.f6 false true false false W args v W' := by
  have hP := pow_of_laid hL
  exact post1 (f := Tryz.f6) (t0 := 40) (spec := Rows.copyingChainsSpec) Tryz.params6 (by kernel_rfl) rfl (fun d0 => rfl) (by kernel_rfl) (of_decide_eq_true (by kernel_rfl)) hval hW
    (fun v0 d0 p0 hv0 hd0 => ask_open hv0 hd0 (fun m x y code a b most v7 v8 v9 v10 v11 n y7 y8 y9 y10 y11 _ _ _ _ _ _ h10 h11 => by obtain ⟨A, c, l, rfl, hN⟩ := nums_open h10; obtain ⟨B, d, r, rfl, hM⟩ := nums_open h11; exact Chains_any m x y code a b most v7 v8 v9 A B c d l r W hP hN hM))

set_option maxRecDepth 100000 in
theorem laid_met (os : Os) : laidMet Tryz.prog laid3 ((laidWorld os).forCall (fun _ _ => 0) ⟨#[], #[.agg #[.int .i64 0, .string ⟨#[]⟩, .string ⟨#[]⟩, .string ⟨#[]⟩, .int .i64 0, .int .i64 0, .int .i64 0, .slice none 0 0, .slice none 0 0, .slice none 0 0, .slice none 0 0, .slice none 0 0]], []⟩).memory :=
  laidMet_of_run' 8 (by kernel_rfl) (by kernel_rfl)
set_option maxRecDepth 100000 in
theorem reads (os : Os) {H : Type} (enc : TypeId × Value → H) : ∃ places, DataW.whole enc Tryz.prog ((laidWorld os).forCall (fun _ _ => 0) ⟨#[], #[.agg #[.int .i64 0, .string ⟨#[]⟩, .string ⟨#[]⟩, .string ⟨#[]⟩, .int .i64 0, .int .i64 0, .int .i64 0, .slice none 0 0, .slice none 0 0, .slice none 0 0, .slice none 0 0, .slice none 0 0]], []⟩).memory Tryz.f6.params.toList Rows.copyingChainsSpec.vars false #[.agg #[.int .i64 0, .string ⟨#[]⟩, .string ⟨#[]⟩, .string ⟨#[]⟩, .int .i64 0, .int .i64 0, .int .i64 0, .slice none 0 0, .slice none 0 0, .slice none 0 0, .slice none 0 0, .slice none 0 0]].toList 8 = some ([.agg [.lit (.int .i64 0), .lit (.string []), .lit (.string []), .lit (.string []), .lit (.int .i64 0), .lit (.int .i64 0), .lit (.int .i64 0), .nil, .nil, .nil, .nil, .nil]], [], places) :=
  ⟨[], by kernel_rfl⟩

set_option maxRecDepth 100000 in
theorem lifted (os : Os) (started : os.Started) (H : Type) (enc : TypeId × Value → H) (F : Stop.Interp) :
    ReturnsInHanded {} Tryz.checked os 6 .any ((OpenSpec.ofChange Rows.copyingChainsSpec).preRow enc Tryz.prog Tryz.f6 Rows.copyingChainsRow.domain false Rows.copyingChainsRow.laid) (((OpenSpec.ofChange Rows.copyingChainsSpec).at F).post enc Tryz.prog Tryz.f6 false true false false) := by
  obtain ⟨places, hx⟩ := reads os enc
  refine returnsInHanded_of_row (C := Tryz.checked) (s := OpenSpec.ofChange Rows.copyingChainsSpec) ownKn started (by kernel_rfl) Tryz.func6
    (witness_row_at (enc := enc) (C := Tryz.checked) false (laidWorld os) #[.agg #[.int .i64 0, .string ⟨#[]⟩, .string ⟨#[]⟩, .string ⟨#[]⟩, .int .i64 0, .int .i64 0, .int .i64 0, .slice none 0 0, .slice none 0 0, .slice none 0 0, .slice none 0 0, .slice none 0 0]] rfl (by kernel_rfl) (by kernel_rfl) (by kernel_rfl)
      (OpenSpec.preRow_of_cond 8 hx (by kernel_rfl) (fun k hk => by cases hk) (by kernel_rfl) (laid_met os))) ?_
  intro W base args ds gs before hval hW _ _ _ hL _ _
  exact contract H enc W base args ds gs before hval hW hL

theorem andt {a b : Bool} (ha : a = true) (hb : b = true) : (a && b) = true := by rw [ha, hb]; rfl
set_option maxHeartbeats 100000000 in
theorem closed : joinedFacts Tryz.prog 6 Tryz.f6 Rows.copyingChainsSpec Rows.copyingChainsRow = true := by
  unfold joinedFacts
  repeat' (with_reducible refine andt ?_ ?_)
  all_goals as_aux_lemma => kernel_rfl
theorem said : Rows.CopyingChainsSaid :=
  OpenClaim.holds_of_cond 6 Tryz.f6 rfl rfl rfl rfl rfl rfl rfl ⟨rfl, rfl, rfl, rfl, rfl⟩ rfl rfl rfl rfl rfl (by kernel_rfl) Tryz.func6 closed
    (of_decide_eq_true (by kernel_rfl)) (by unfold Func.isWrapper; first | (rw [if_pos (by decide +kernel)]; kernel_rfl) | (rw [if_neg (by decide +kernel)]; exact ⟨rfl, rfl⟩))
    (fun os started H enc _ F => by rw [OpenClaim.pre_eq_preRow]; exact lifted os started H enc F)

theorem stand (j : Nat) (t : TypeId) (ht : (#[40] : Array TypeId)[j]? = some t) : Tryz.prog.wantsStandIn t = false := by
  match j, ht with
  | 0, ht => obtain rfl := Option.some.inj ht; exact (show Tryz.prog.wantsStandIn 40 = false by kernel_rfl)
  | k + 1, ht => simp at ht
theorem plain (f : FuncId) (fn : Func) (hf : Tryz.pinned.checked.prog.funcNamed "pileup/pileuplaw04.CopyingChains" = some f) (hfn : Tryz.pinned.checked.prog.funcs[f]? = some fn) :
    true = Tryz.pinned.checked.prog.looks [] ∧ ∀ (j : Nat) t, fn.params[j]? = some t → Tryz.pinned.checked.prog.wantsStandIn t = false := by
  obtain rfl : f = 6 := Option.some.inj ((show Tryz.prog.funcNamed "pileup/pileuplaw04.CopyingChains" = some 6 by kernel_rfl).symm.trans hf) |>.symm
  obtain rfl : fn = Tryz.f6 := (Option.some.inj (Tryz.func6.symm.trans hfn)).symm
  refine ⟨by kernel_rfl, fun j t ht => ?_⟩
  rw [Tryz.params6] at ht
  exact stand j t ht
end Go.Proofs.YtgcddjgkieambaaGreatDoor.copyingChains
namespace Go.Proofs.YtgcddjgkieambaaGreatDoor
/-- The card. -/
theorem copyingChains_holds : Rows.CopyingChainsCardSaid :=
  Claim7.holds_tied_plain_at .later [] _ _ _ _ copyingChains.said (fun _ h => by cases h) (by kernel_rfl) (fun _ h => by cases h) copyingChains_row_tie rfl ⟨rfl, rfl⟩ (by kernel_rfl) rfl copyingChains.plain (by kernel_rfl)
end Go.Proofs.YtgcddjgkieambaaGreatDoor
#print axioms Go.Proofs.YtgcddjgkieambaaGreatDoor.copyingChains_holds
