/- From a walk to the row's claim, for functions of two and of three parameters. -/
import Derived.Test.YtgcddjgkieambaaGreatDoorJoin
import Derived.Lib.SmallJoins
set_option linter.unusedVariables false
set_option maxRecDepth 100000
namespace Go.Proofs.YtgcddjgkieambaaGreatDoor
open Go.ChangeShapes Go.WideShapes Go.ChangeAt Go.RowKit

set_option maxRecDepth 100000 in
/-- From a walk to the row's claim, for a function of two parameters. -/
theorem post2 {H : Type} {enc : TypeId × Value → H} {fid : FuncId} {f : Func} {t0 t1 : TypeId} {spec : ChangeSpec} (hp : f.params = #[t0, t1]) (hr : f.resultTypes = #[4]) (hv : spec.vars = [])
    (hfn : ∀ d d1 : DataW H, spec.fn H [d, d1] = { results := [.lit (.bool true)], args := [d, d1] }) (hread : Tryz.prog.readableRec t0 = true) (hrow : t0 < Tryz.prog.types.size) (hread1 : Tryz.prog.readableRec t1 = true) (hrow1 : t1 < Tryz.prog.types.size)
    {W : World} {base : Nat} {args : Array Value} {ds gs : List (DataW H)} {before : List MemPlace}
    (hval : ∀ (j : Nat) t v, f.params[j]? = some t → args[j]? = some v → Value.okWide Tryz.prog W .any base t v)
    (hW : DataW.Whole enc Tryz.prog f.params.toList spec.vars false W args.toList ds gs before)
    (walk : ∀ v0 d0 p0 v1 d1 p1, Value.okWide Tryz.prog W .any base t0 v0 → DataW.Trod enc Tryz.prog W 0 (fun _ => true) true t0 v0 d0 p0 → Value.okWide Tryz.prog W .any base t1 v1 → DataW.Trod enc Tryz.prog W 0 (fun _ => true) true t1 v1 d1 p1 →
      Calls Tryz.prog fid #[v0, v1] W fun e w' => e = .returned (.bool true) ∧ Below W.heap.size W w') :
    Calls Tryz.prog fid args W fun e W' => ∃ v, e = .returned v ∧ spec.post enc Tryz.prog f false true false false W args v W' := by
  have hW' := hW
  obtain ⟨p, q, hA, hV, rfl, hfz, hnd⟩ := hW
  rw [hp] at hA hval
  rw [hv] at hV
  obtain ⟨v0, vs0, d0, ds0, p0, q0, hargs, rfl, rfl, h0, r0⟩ := trodAll_cons hA
  obtain ⟨v1, vs1, d1, ds1, p1, q1, rfl, rfl, rfl, h1, r1⟩ := trodAll_cons r0
  obtain ⟨rfl, rfl, rfl⟩ := trodAll_nil r1
  obtain rfl : args = #[v0, v1] := by cases args; simp_all
  obtain ⟨rfl, rfl⟩ := trodVars_none hV
  refine (walk v0 d0 p0 v1 d1 p1 (hval 0 t0 v0 rfl rfl) h0 (hval 1 t1 v1 rfl rfl) h1).mono fun e W' ⟨he, hb⟩ => ?_
  subst he
  have hlt : ∀ x ∈ p0, x.block < W.heap.size := fun x hx => by simpa using hW'.lt x (by simp [hx])
  have hlt1 : ∀ x ∈ p1, x.block < W.heap.size := fun x hx => by simpa using hW'.lt x (by simp [hx])
  have h0' := Below.trod laidOutT hread hrow h0 hb hlt
  have h1' := Below.trod laidOutT hread1 hrow1 h1 hb hlt1
  refine ⟨_, rfl, _, _, _, [], p0 ++ p1, [], by simpa using hW', ?_, ?_, ?_, hb.frame _, fun h => by cases h⟩
  · rw [hr]
    show DataW.TrodAll _ _ _ _ _ _ [4] [Value.bool true] _ _
    rw [List.append_nil, hfn]
    exact trodAll_cons_mk (p := []) (p' := []) (shut_bool Tryz.underlying4 _) trodAll_mk0
  · rw [hp, List.append_nil, hfn]
    have := trodAll_cons_mk h0' (trodAll_cons_mk h1' (trodAll_mk0 (enc := enc) (P := Tryz.prog) (w := W')))
    simpa using this
  · rw [hv, List.append_nil, hfn]; rfl

set_option maxRecDepth 100000 in
/-- From a walk to the row's claim, for a function of three parameters. -/
theorem post3 {H : Type} {enc : TypeId × Value → H} {fid : FuncId} {f : Func} {t0 t1 t2 : TypeId} {spec : ChangeSpec} (hp : f.params = #[t0, t1, t2]) (hr : f.resultTypes = #[4]) (hv : spec.vars = [])
    (hfn : ∀ d d1 d2 : DataW H, spec.fn H [d, d1, d2] = { results := [.lit (.bool true)], args := [d, d1, d2] }) (hread : Tryz.prog.readableRec t0 = true) (hrow : t0 < Tryz.prog.types.size) (hread1 : Tryz.prog.readableRec t1 = true) (hrow1 : t1 < Tryz.prog.types.size)
    (hread2 : Tryz.prog.readableRec t2 = true) (hrow2 : t2 < Tryz.prog.types.size)
    {W : World} {base : Nat} {args : Array Value} {ds gs : List (DataW H)} {before : List MemPlace}
    (hval : ∀ (j : Nat) t v, f.params[j]? = some t → args[j]? = some v → Value.okWide Tryz.prog W .any base t v)
    (hW : DataW.Whole enc Tryz.prog f.params.toList spec.vars false W args.toList ds gs before)
    (walk : ∀ v0 d0 p0 v1 d1 p1 v2 d2 p2, Value.okWide Tryz.prog W .any base t0 v0 → DataW.Trod enc Tryz.prog W 0 (fun _ => true) true t0 v0 d0 p0 → Value.okWide Tryz.prog W .any base t1 v1 → DataW.Trod enc Tryz.prog W 0 (fun _ => true) true t1 v1 d1 p1 →
      Value.okWide Tryz.prog W .any base t2 v2 → DataW.Trod enc Tryz.prog W 0 (fun _ => true) true t2 v2 d2 p2 →
      Calls Tryz.prog fid #[v0, v1, v2] W fun e w' => e = .returned (.bool true) ∧ Below W.heap.size W w') :
    Calls Tryz.prog fid args W fun e W' => ∃ v, e = .returned v ∧ spec.post enc Tryz.prog f false true false false W args v W' := by
  have hW' := hW
  obtain ⟨p, q, hA, hV, rfl, hfz, hnd⟩ := hW
  rw [hp] at hA hval
  rw [hv] at hV
  obtain ⟨v0, vs0, d0, ds0, p0, q0, hargs, rfl, rfl, h0, r0⟩ := trodAll_cons hA
  obtain ⟨v1, vs1, d1, ds1, p1, q1, rfl, rfl, rfl, h1, r1⟩ := trodAll_cons r0
  obtain ⟨v2, vs2, d2, ds2, p2, q2, rfl, rfl, rfl, h2, r2⟩ := trodAll_cons r1
  obtain ⟨rfl, rfl, rfl⟩ := trodAll_nil r2
  obtain rfl : args = #[v0, v1, v2] := by cases args; simp_all
  obtain ⟨rfl, rfl⟩ := trodVars_none hV
  refine (walk v0 d0 p0 v1 d1 p1 v2 d2 p2 (hval 0 t0 v0 rfl rfl) h0 (hval 1 t1 v1 rfl rfl) h1 (hval 2 t2 v2 rfl rfl) h2).mono fun e W' ⟨he, hb⟩ => ?_
  subst he
  have hlt : ∀ x ∈ p0, x.block < W.heap.size := fun x hx => by simpa using hW'.lt x (by simp [hx])
  have hlt1 : ∀ x ∈ p1, x.block < W.heap.size := fun x hx => by simpa using hW'.lt x (by simp [hx])
  have hlt2 : ∀ x ∈ p2, x.block < W.heap.size := fun x hx => by simpa using hW'.lt x (by simp [hx])
  have h0' := Below.trod laidOutT hread hrow h0 hb hlt
  have h1' := Below.trod laidOutT hread1 hrow1 h1 hb hlt1
  have h2' := Below.trod laidOutT hread2 hrow2 h2 hb hlt2
  refine ⟨_, rfl, _, _, _, [], p0 ++ (p1 ++ p2), [], by simpa using hW', ?_, ?_, ?_, hb.frame _, fun h => by cases h⟩
  · rw [hr]
    show DataW.TrodAll _ _ _ _ _ _ [4] [Value.bool true] _ _
    rw [List.append_nil, hfn]
    exact trodAll_cons_mk (p := []) (p' := []) (shut_bool Tryz.underlying4 _) trodAll_mk0
  · rw [hp, List.append_nil, hfn]
    have := trodAll_cons_mk h0' (trodAll_cons_mk h1' (trodAll_cons_mk h2' (trodAll_mk0 (enc := enc) (P := Tryz.prog) (w := W'))))
    simpa using this
  · rw [hv, List.append_nil, hfn]; rfl

theorem three_form {H : Type} {enc : TypeId × Value → H} {W : World} {base : Nat} {v0 : Value} {d0 : DataW H} {p0 : List MemPlace}
    (hv : Value.okWide Tryz.prog W .any base 23 v0) (hd : DataW.Trod enc Tryz.prog W 0 (fun _ => true) true 23 v0 d0 p0) : ∃ m s t u, v0 = .agg #[.int .i64 m, .string s, .string t, .string u] := by
  obtain ⟨w0, w1, w2, w3, y0, y1, y2, y3, n, rfl, _, _, h0, h1, h2, h3⟩ := Go.Joins.open_agg4 Tryz.underlying23 (by kernel_rfl) (by kernel_rfl) hv hd
  obtain ⟨m, e0, _⟩ := DataW.trod_int Tryz.underlying3 h0
  obtain ⟨s, e1, _⟩ := DataW.trod_string Tryz.underlying9 h1
  obtain ⟨t, e2, _⟩ := DataW.trod_string Tryz.underlying9 h2
  obtain ⟨u, e3, _⟩ := DataW.trod_string Tryz.underlying9 h3
  simp only [List.cons.injEq, and_true] at e0 e1 e2 e3
  subst e0 e1 e2 e3
  exact ⟨m, s, t, u, rfl⟩
theorem str_form {W : World} {base : Nat} {v : Value} (hv : Value.okWide Tryz.prog W .any base 9 v) : ∃ s, v = .string s := okWide_string Tryz.underlying9 hv
theorem int_form {W : World} {base : Nat} {v : Value} (hv : Value.okWide Tryz.prog W .any base 3 v) : ∃ n, v = .int .i64 n := okWide_int Tryz.underlying3 hv
end Go.Proofs.YtgcddjgkieambaaGreatDoor
