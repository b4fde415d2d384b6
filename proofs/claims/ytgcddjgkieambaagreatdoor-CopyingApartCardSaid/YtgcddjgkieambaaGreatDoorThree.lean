/- A parameter of the type Three: a mode and three texts. -/
import Derived.Test.YtgcddjgkieambaaGreatDoorJoin
import Derived.Lib.SmallJoins
set_option linter.unusedVariables false
set_option maxRecDepth 100000
namespace Go.Proofs.YtgcddjgkieambaaGreatDoor
open Go.ChangeShapes Go.WideShapes Go.ChangeAt Go.RowKit

theorem three_open {H : Type} {enc : TypeId × Value → H} {W : World} {base fid : Nat} {v0 : Value} {d0 : DataW H} {p0 : List MemPlace} {Q : Ending → World → Prop}
    (hv : Value.okWide Tryz.prog W .any base 23 v0) (hd : DataW.Trod enc Tryz.prog W 0 (fun _ => true) true 23 v0 d0 p0)
    (walk : ∀ m s t u, Calls Tryz.prog fid #[.agg #[.int .i64 m, .string s, .string t, .string u]] W Q) : Calls Tryz.prog fid #[v0] W Q := by
  obtain ⟨w0, w1, w2, w3, y0, y1, y2, y3, n, rfl, _, _, h0, h1, h2, h3⟩ := Go.Joins.open_agg4 Tryz.underlying23 (by kernel_rfl) (by kernel_rfl) hv hd
  obtain ⟨m, e0, _⟩ := DataW.trod_int Tryz.underlying3 h0
  obtain ⟨s, e1, _⟩ := DataW.trod_string Tryz.underlying9 h1
  obtain ⟨t, e2, _⟩ := DataW.trod_string Tryz.underlying9 h2
  obtain ⟨u, e3, _⟩ := DataW.trod_string Tryz.underlying9 h3
  simp only [List.cons.injEq, and_true] at e0 e1 e2 e3
  subst e0 e1 e2 e3
  exact walk m s t u
end Go.Proofs.YtgcddjgkieambaaGreatDoor
