/- Four parameters. -/
import Derived.Test.YtlamogpdkmbeoaaGreatDoorZbJoin
set_option linter.unusedVariables false
set_option linter.unusedSimpArgs false
set_option maxRecDepth 100000
namespace Go.Proofs.YtlamogpdkmbeoaaGreatDoor
open Go.ChangeShapes Go.WideShapes Go.ChangeAt Go.RowKit Go.Deep Go.Shelf Go.Lib

theorem post4 {H : Type} {enc : TypeId × Value → H} {fid : FuncId} {f : Func} {t0 t1 t2 t3 : TypeId} {spec : ChangeSpec} (hp : f.params = #[t0, t1, t2, t3]) (hr : f.resultTypes = #[4]) (hv : spec.vars = [])
    (hfn : ∀ d d1 d2 d3 : DataW H, spec.fn H [d, d1, d2, d3] = { results := [.lit (.bool true)], args := [d, d1, d2, d3] }) (hread : Tryz.prog.readableRec t0 = true) (hrow : t0 < Tryz.prog.types.size) (hread1 : Tryz.prog.readableRec t1 = true) (hrow1 : t1 < Tryz.prog.types.size)
    (hread2 : Tryz.prog.readableRec t2 = true) (hrow2 : t2 < Tryz.prog.types.size) (hread3 : Tryz.prog.readableRec t3 = true) (hrow3 : t3 < Tryz.prog.types.size)
    {W : World} {base : Nat} {args : Array Value} {ds gs : List (DataW H)} {before : List MemPlace}
    (hval : ∀ (j : Nat) t v, f.params[j]? = some t → args[j]? = some v → Value.okWide Tryz.prog W .any base t v)
    (hW : DataW.Whole enc Tryz.prog f.params.toList spec.vars false W args.toList ds gs before)
    (walk : ∀ v0 d0 p0 v1 d1 p1 v2 d2 p2 v3 d3 p3, Value.okWide Tryz.prog W .any base t0 v0 → DataW.Trod enc Tryz.prog W 0 (fun _ => true) true t0 v0 d0 p0 → Value.okWide Tryz.prog W .any base t1 v1 → DataW.Trod enc Tryz.prog W 0 (fun _ => true) true t1 v1 d1 p1 →
      Value.okWide Tryz.prog W .any base t2 v2 → DataW.Trod enc Tryz.prog W 0 (fun _ => true) true t2 v2 d2 p2 →
      Value.okWide Tryz.prog W .any base t3 v3 → DataW.Trod enc Tryz.prog W 0 (fun _ => true) true t3 v3 d3 p3 →
      Calls Tryz.prog fid #[v0, v1, v2, v3] W fun e w' => e = .returned (.bool true) ∧ Below W.heap.size W w') :
    Calls Tryz.prog fid args W fun e W' => ∃ v, e = .returned v ∧ spec.post enc Tryz.prog f false true false false W args v W' := by
  have hW' := hW
  obtain ⟨p, q, hA, hV, rfl, hfz, hnd⟩ := hW
  rw [hp] at hA hval
  rw [hv] at hV
  obtain ⟨v0, vs0, d0, ds0, p0, q0, hargs, rfl, rfl, h0, r0⟩ := trodAll_cons hA
  obtain ⟨v1, vs1, d1, ds1, p1, q1, rfl, rfl, rfl, h1, r1⟩ := trodAll_cons r0
  obtain ⟨v2, vs2, d2, ds2, p2, q2, rfl, rfl, rfl, h2, r2⟩ := trodAll_cons r1
  obtain ⟨v3, vs3, d3, ds3, p3, q3, rfl, rfl, rfl, h3, r3⟩ := trodAll_cons r2
  obtain ⟨rfl, rfl, rfl⟩ := trodAll_nil r3
  obtain rfl : args = #[v0, v1, v2, v3] := by cases args; simp_all
  obtain ⟨rfl, rfl⟩ := trodVars_none hV
  refine (walk v0 d0 p0 v1 d1 p1 v2 d2 p2 v3 d3 p3 (hval 0 t0 v0 rfl rfl) h0 (hval 1 t1 v1 rfl rfl) h1 (hval 2 t2 v2 rfl rfl) h2 (hval 3 t3 v3 rfl rfl) h3).mono fun e W' ⟨he, hb⟩ => ?_
  subst he
  have hlt : ∀ x ∈ p0, x.block < W.heap.size := fun x hx => by simpa using hW'.lt x (by simp [hx])
  have hlt1 : ∀ x ∈ p1, x.block < W.heap.size := fun x hx => by simpa using hW'.lt x (by simp [hx])
  have hlt2 : ∀ x ∈ p2, x.block < W.heap.size := fun x hx => by simpa using hW'.lt x (by simp [hx])
  have hlt3 : ∀ x ∈ p3, x.block < W.heap.size := fun x hx => by simpa using hW'.lt x (by simp [hx])
  have h0' := Below.trod laidOutT hread hrow h0 hb hlt
  have h1' := Below.trod laidOutT hread1 hrow1 h1 hb hlt1
  have h2' := Below.trod laidOutT hread2 hrow2 h2 hb hlt2
  have h3' := Below.trod laidOutT hread3 hrow3 h3 hb hlt3
  refine ⟨_, rfl, _, _, _, [], p0 ++ (p1 ++ (p2 ++ p3)), [], by simpa using hW', ?_, ?_, ?_, hb.frame _, fun h => by cases h⟩
  · rw [hr]
    show DataW.TrodAll _ _ _ _ _ _ [4] [Value.bool true] _ _
    rw [List.append_nil, hfn]
    exact trodAll_cons_mk (p := []) (p' := []) (shut_bool Tryz.underlying4 _) trodAll_mk0
  · rw [hp, List.append_nil, hfn]
    have := trodAll_cons_mk h0' (trodAll_cons_mk h1' (trodAll_cons_mk h2' (trodAll_cons_mk h3' (trodAll_mk0 (enc := enc) (P := Tryz.prog) (w := W')))))
    simpa using this
  · rw [hv, List.append_nil, hfn]; rfl
end Go.Proofs.YtlamogpdkmbeoaaGreatDoor
