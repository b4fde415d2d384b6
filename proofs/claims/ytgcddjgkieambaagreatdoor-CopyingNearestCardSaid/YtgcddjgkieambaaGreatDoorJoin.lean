/- From a walk to a row's statement, for a function of one parameter that answers true; the table of powers of ten out of the row's list; the witness's world. -/
import Derived.Test.YtgcddjgkieambaaGreatDoorAwake
import Derived.Test.YtgcddjgkieambaaGreatDoorCards
import Derived.Test.YtgcddjgkieambaaGreatDoorTie
import Derived.ProofKit
import Derived.OpenShut
import Derived.Carry
import Derived.Deep.DeepHandedRow
import Derived.Lib.LaidTab
set_option linter.unusedVariables false
set_option linter.unusedSimpArgs false
namespace Go.Proofs.YtgcddjgkieambaaGreatDoor
open Go.ChangeShapes Go.WideShapes Go.ChangeAt Go.RowKit

theorem ownKn : ownKnob Tryz.prog.godebug = none := by kernel_rfl
theorem laidOutT : laidOutB Tryz.prog = true := by kernel_rfl
theorem cells191 : Tryz.prog.cellsOf 191 = 1 := by kernel_rfl
abbrev laid3 : List (String × DataW Unit) := [("math/bits.deBruijn32tab", Rows.laid_math_bits_deBruijn32tab), ("math/bits.deBruijn64tab", Rows.laid_math_bits_deBruijn64tab), ("internal/strconv.uint64pow10", Rows.laid_internal_strconv_uint64pow10)]
theorem gPow : Tryz.prog.globalNamed "internal/strconv.uint64pow10" = some 3 := by kernel_rfl
theorem gPowT : (Tryz.prog.globals[3]?).map (·.type) = some 220 := by kernel_rfl
theorem cells220 : Tryz.prog.cellsOf 220 = 20 := by kernel_rfl
theorem pow_data {H : Type} : (Rows.laid_internal_strconv_uint64pow10 : DataW H) = Lib.tabData .u64 Lib.pow10Tab := rfl
set_option maxRecDepth 100000 in
/-- What the row's list gives: the table of powers of ten lies in memory. -/
theorem pow_of_laid {W : World} (h : laidMetH Tryz.prog laid3 W) : Pow W := by
  have h' : laidMet Tryz.prog laid3 W := h
  obtain ⟨ps, ⟨_, _, _, _, _, _, _, _, _, _, ⟨_, _, _, _, _, _, _, _, _, _, ⟨g', t', cs, fuel, p, q, hg', ht', hvar, hd, _, _⟩, _⟩, _⟩, _⟩ := h'
  obtain rfl := Option.some.inj (gPow.symm.trans hg')
  obtain rfl := Option.some.inj (gPowT.symm.trans ht')
  rw [pow_data] at hd
  unfold Pow Lib.TabIs
  rw [hvar, ← Lib.cells_of_tab Tryz.underlying220 Tryz.underlying191 cells191 cells220 hd]

def litCells : DataW Unit → Array Value
  | .agg l => (l.map fun | .lit (.int k n) => Value.int k n | _ => undef).toArray
  | _ => #[]
def relaid (d : DataW Unit) : Obj → Obj
  | .cells _ t fz => .cells (litCells d) t fz
  | o => o
/-- A world for the witness: the settled one, the three tables holding what the row lists. -/
noncomputable def laidWorld (os : Os) : World :=
  { World.holding Tryz.prog os ⟨#[], #[], []⟩ with heap := (((World.holding Tryz.prog os ⟨#[], #[], []⟩).heap.modify 3 (relaid Rows.laid_internal_strconv_uint64pow10)).modify 6 (relaid Rows.laid_math_bits_deBruijn32tab)).modify 7 (relaid Rows.laid_math_bits_deBruijn64tab) }

set_option maxRecDepth 100000 in
/-- From a walk to the row's claim, for a function of one parameter. -/
theorem post1 {H : Type} {enc : TypeId × Value → H} {fid : FuncId} {f : Func} {t0 : TypeId} {spec : ChangeSpec} (hp : f.params = #[t0]) (hr : f.resultTypes = #[4]) (hv : spec.vars = [])
    (hfn : ∀ d : DataW H, spec.fn H [d] = { results := [.lit (.bool true)], args := [d] }) (hread : Tryz.prog.readableRec t0 = true) (hrow : t0 < Tryz.prog.types.size)
    {W : World} {base : Nat} {args : Array Value} {ds gs : List (DataW H)} {before : List MemPlace}
    (hval : ∀ (j : Nat) t v, f.params[j]? = some t → args[j]? = some v → Value.okWide Tryz.prog W .any base t v)
    (hW : DataW.Whole enc Tryz.prog f.params.toList spec.vars false W args.toList ds gs before)
    (walk : ∀ v0 d0 p0, Value.okWide Tryz.prog W .any base t0 v0 → DataW.Trod enc Tryz.prog W 0 (fun _ => true) true t0 v0 d0 p0 → Calls Tryz.prog fid #[v0] W fun e w' => e = .returned (.bool true) ∧ Below W.heap.size W w') :
    Calls Tryz.prog fid args W fun e W' => ∃ v, e = .returned v ∧ spec.post enc Tryz.prog f false true false false W args v W' := by
  have hW' := hW
  obtain ⟨p, q, hA, hV, rfl, hfz, hnd⟩ := hW
  rw [hp] at hA hval
  rw [hv] at hV
  obtain ⟨v0, vs0, d0, ds0, p0, q0, hargs, rfl, rfl, h0, r0⟩ := trodAll_cons hA
  obtain ⟨rfl, rfl, rfl⟩ := trodAll_nil r0
  obtain rfl : args = #[v0] := by cases args; simp_all
  obtain ⟨rfl, rfl⟩ := trodVars_none hV
  refine (walk v0 d0 p0 (hval 0 t0 v0 rfl rfl) h0).mono fun e W' ⟨he, hb⟩ => ?_
  subst he
  have hlt : ∀ x ∈ p0, x.block < W.heap.size := fun x hx => by simpa using hW'.lt x (by simp [hx])
  have h0' := Below.trod laidOutT hread hrow h0 hb hlt
  refine ⟨_, rfl, _, _, _, [], p0, [], hW', ?_, ?_, ?_, hb.frame _, fun h => by cases h⟩
  · rw [hr]
    show DataW.TrodAll _ _ _ _ _ _ [4] [Value.bool true] _ _
    rw [List.append_nil, hfn]
    exact trodAll_cons_mk (p := []) (p' := []) (shut_bool Tryz.underlying4 _) trodAll_mk0
  · rw [hp, List.append_nil, hfn]
    have := trodAll_cons_mk h0' (trodAll_mk0 (enc := enc) (P := Tryz.prog) (w := W'))
    simpa using this
  · rw [hv, List.append_nil, hfn]; rfl
end Go.Proofs.YtgcddjgkieambaaGreatDoor
