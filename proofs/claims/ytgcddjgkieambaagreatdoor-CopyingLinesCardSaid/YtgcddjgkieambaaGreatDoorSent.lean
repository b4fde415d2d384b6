/- Parameters of the types Layout and Sent. -/
import Derived.Test.YtgcddjgkieambaaGreatDoorJoin
import Derived.Deep.Strs
import Derived.Lib.SmallJoins
set_option linter.unusedVariables false
set_option linter.unusedSimpArgs false
set_option maxRecDepth 100000
namespace Go.Proofs.YtgcddjgkieambaaGreatDoor
open Go.ChangeShapes Go.WideShapes Go.ChangeAt Go.RowKit Go.Deep

theorem array15 {α : Type} {cs : Array α} (h : cs.size = 15) : ∃ c0 c1 c2 c3 c4 c5 c6 c7 c8 c9 c10 c11 c12 c13 c14, cs = #[c0, c1, c2, c3, c4, c5, c6, c7, c8, c9, c10, c11, c12, c13, c14] := by
  obtain ⟨l⟩ := cs
  match l, h with
  | [c0, c1, c2, c3, c4, c5, c6, c7, c8, c9, c10, c11, c12, c13, c14], _ => exact ⟨c0, c1, c2, c3, c4, c5, c6, c7, c8, c9, c10, c11, c12, c13, c14, rfl⟩

section
variable {H : Type} {enc : TypeId × Value → H} {W : World} {n : Nat} {y : DataW H × List MemPlace}
theorem k3 : Tryz.prog.cellsOf 3 = 1 := by kernel_rfl
theorem k9 : Tryz.prog.cellsOf 9 = 1 := by kernel_rfl
theorem k60 : Tryz.prog.cellsOf 60 = 3 := by kernel_rfl
theorem k62 : Tryz.prog.cellsOf 62 = 11 := by kernel_rfl
theorem int_cell {c : Value} (h : DataW.trod enc Tryz.prog W 0 (fun _ => true) true n 3 [c] = some y) : ∃ z, c = .int .i64 z := by
  obtain ⟨z, e, _⟩ := DataW.trod_int Tryz.underlying3 h
  exact ⟨z, by simpa using e⟩
theorem str_cell {c : Value} (h : DataW.trod enc Tryz.prog W 0 (fun _ => true) true n 9 [c] = some y) : ∃ z, c = .string z := by
  obtain ⟨z, e, _⟩ := DataW.trod_string Tryz.underlying9 h
  exact ⟨z, by simpa using e⟩
theorem ex_form {a b c : Value} (h : DataW.trod enc Tryz.prog W 0 (fun _ => true) true n 60 [a, b, c] = some y) : ∃ r s z, a = .int .i64 r ∧ b = .int .i64 s ∧ c = .int .i64 z := by
  obtain ⟨xs, m, _, _, _, hlen, hfs⟩ := DataW.trod_struct Tryz.underlying60 h
  have g0 := hfs 0 _ rfl
  have g1 := hfs 1 _ rfl
  have g2 := hfs 2 _ rfl
  have l0 : xs[0]? = some (xs[0]'(by rw [hlen]; decide)) := List.getElem?_eq_getElem _
  have l1 : xs[1]? = some (xs[1]'(by rw [hlen]; decide)) := List.getElem?_eq_getElem _
  have l2 : xs[2]? = some (xs[2]'(by rw [hlen]; decide)) := List.getElem?_eq_getElem _
  rw [l0] at g0
  rw [l1] at g1
  rw [l2] at g2
  simp only [List.getElem_toArray, List.getElem_cons_zero, List.getElem_cons_succ, k3, List.drop, List.take] at g0 g1 g2
  obtain ⟨r, rfl⟩ := int_cell g0
  obtain ⟨s, rfl⟩ := int_cell g1
  obtain ⟨z, rfl⟩ := int_cell g2
  exact ⟨r, s, z, rfl, rfl, rfl⟩
theorem line_form {a0 a1 a2 a3 a4 a5 a6 a7 a8 a9 a10 : Value} (h : DataW.trod enc Tryz.prog W 0 (fun _ => true) true n 62 [a0, a1, a2, a3, a4, a5, a6, a7, a8, a9, a10] = some y) :
    ∃ nu kh m mi c r s z r' s' z', a0 = .int .i64 nu ∧ a1 = .int .i64 kh ∧ a2 = .int .i64 m ∧ a3 = .int .i64 mi ∧ a4 = .string c ∧ a5 = .int .i64 r ∧ a6 = .int .i64 s ∧ a7 = .int .i64 z ∧ a8 = .int .i64 r' ∧ a9 = .int .i64 s' ∧ a10 = .int .i64 z' := by
  obtain ⟨xs, m, _, _, _, hlen, hfs⟩ := DataW.trod_struct Tryz.underlying62 h
  have g0 := hfs 0 _ rfl
  have g1 := hfs 1 _ rfl
  have g2 := hfs 2 _ rfl
  have g3 := hfs 3 _ rfl
  have g4 := hfs 4 _ rfl
  have g5 := hfs 5 _ rfl
  have g6 := hfs 6 _ rfl
  have l0 : xs[0]? = some (xs[0]'(by rw [hlen]; decide)) := List.getElem?_eq_getElem _
  have l1 : xs[1]? = some (xs[1]'(by rw [hlen]; decide)) := List.getElem?_eq_getElem _
  have l2 : xs[2]? = some (xs[2]'(by rw [hlen]; decide)) := List.getElem?_eq_getElem _
  have l3 : xs[3]? = some (xs[3]'(by rw [hlen]; decide)) := List.getElem?_eq_getElem _
  have l4 : xs[4]? = some (xs[4]'(by rw [hlen]; decide)) := List.getElem?_eq_getElem _
  have l5 : xs[5]? = some (xs[5]'(by rw [hlen]; decide)) := List.getElem?_eq_getElem _
  have l6 : xs[6]? = some (xs[6]'(by rw [hlen]; decide)) := List.getElem?_eq_getElem _
  rw [l0] at g0
  rw [l1] at g1
  rw [l2] at g2
  rw [l3] at g3
  rw [l4] at g4
  rw [l5] at g5
  rw [l6] at g6
  simp only [List.getElem_toArray, List.getElem_cons_zero, List.getElem_cons_succ, k3, k9, k60, List.drop, List.take] at g0 g1 g2 g3 g4 g5 g6
  obtain ⟨nu, rfl⟩ := int_cell g0
  obtain ⟨kh, rfl⟩ := int_cell g1
  obtain ⟨mo, rfl⟩ := int_cell g2
  obtain ⟨mi, rfl⟩ := int_cell g3
  obtain ⟨c, rfl⟩ := str_cell g4
  obtain ⟨r, s, z, rfl, rfl, rfl⟩ := ex_form g5
  obtain ⟨r', s', z', rfl, rfl, rfl⟩ := ex_form g6
  exact ⟨nu, kh, mo, mi, c, r, s, z, r', s', z', rfl, rfl, rfl, rfl, rfl, rfl, rfl, rfl, rfl, rfl, rfl⟩
end

theorem sent_form {H : Type} {enc : TypeId × Value → H} {W : World} {base : Nat} {v : Value} {d : DataW H} {p : List MemPlace} (hv : Value.okWide Tryz.prog W .any base 64 v) (hd : DataW.Trod enc Tryz.prog W 0 (fun _ => true) true 64 v d p) :
    ∃ c r s z nu kh m mi c' r2 s2 z2 r' s' z', v = .agg #[.string c, .int .i64 r, .int .i64 s, .int .i64 z, .int .i64 nu, .int .i64 kh, .int .i64 m, .int .i64 mi, .string c', .int .i64 r2, .int .i64 s2, .int .i64 z2, .int .i64 r', .int .i64 s', .int .i64 z'] := by
  obtain ⟨cs, rfl, hsz⟩ := okWide_struct Tryz.underlying64 hv
  have hC : Tryz.prog.cellsOf 64 = 15 := by kernel_rfl
  obtain ⟨c0, c1, c2, c3, c4, c5, c6, c7, c8, c9, c10, c11, c12, c13, c14, rfl⟩ := array15 (hsz.trans hC)
  obtain ⟨fuel, hf⟩ := hd
  obtain ⟨xs, m, _, _, _, hlen, hfs⟩ := DataW.trod_struct Tryz.underlying64 hf
  have g0 := hfs 0 _ rfl
  have g1 := hfs 1 _ rfl
  have g2 := hfs 2 _ rfl
  have l0 : xs[0]? = some (xs[0]'(by rw [hlen]; decide)) := List.getElem?_eq_getElem _
  have l1 : xs[1]? = some (xs[1]'(by rw [hlen]; decide)) := List.getElem?_eq_getElem _
  have l2 : xs[2]? = some (xs[2]'(by rw [hlen]; decide)) := List.getElem?_eq_getElem _
  rw [l0] at g0
  rw [l1] at g1
  rw [l2] at g2
  simp only [List.getElem_toArray, List.getElem_cons_zero, List.getElem_cons_succ, k9, k60, k62, Value.cells, List.drop, List.take] at g0 g1 g2
  obtain ⟨c, rfl⟩ := str_cell g0
  obtain ⟨r, s, z, rfl, rfl, rfl⟩ := ex_form g1
  obtain ⟨nu, kh, mo, mi, c', r2, s2, z2, r', s', z', rfl, rfl, rfl, rfl, rfl, rfl, rfl, rfl, rfl, rfl, rfl⟩ := line_form g2
  exact ⟨c, r, s, z, nu, kh, mo, mi, c', r2, s2, z2, r', s', z', rfl⟩
theorem layout_form {H : Type} {enc : TypeId × Value → H} {W : World} {base : Nat} {v : Value} {d : DataW H} {p : List MemPlace} (hv : Value.okWide Tryz.prog W .any base 58 v) (hd : DataW.Trod enc Tryz.prog W 0 (fun _ => true) true 58 v d p) :
    ∃ o1 o2 o3, v = .agg #[.bool o1, .bool o2, .bool o3] := by
  obtain ⟨w0, w1, w2, y0, y1, y2, n, rfl, _, _, h0, h1, h2⟩ := Go.Joins.open_agg3 Tryz.underlying58 (by kernel_rfl) (by kernel_rfl) hv hd
  obtain ⟨o1, e0, _⟩ := DataW.trod_bool Tryz.underlying4 h0
  obtain ⟨o2, e1, _⟩ := DataW.trod_bool Tryz.underlying4 h1
  obtain ⟨o3, e2, _⟩ := DataW.trod_bool Tryz.underlying4 h2
  simp only [List.cons.injEq, and_true] at e0 e1 e2
  subst e0 e1 e2
  exact ⟨o1, o2, o3, rfl⟩
end Go.Proofs.YtgcddjgkieambaaGreatDoor
