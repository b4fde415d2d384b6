/- From a walk to the row's claim; the world's premises out of the row's list; parameters: layouts, numbers, bytes, notes. -/
import Derived.Test.YtlamogpdkmbeoaaGreatDoorZbNote
import Derived.Test.YtlamogpdkmbeoaaGreatDoorZbMem
import Derived.Test.YtlamogpdkmbeoaaGreatDoorZbLed
import Derived.Test.YtlamogpdkmbeoaaGreatDoorCards
import Derived.Test.YtlamogpdkmbeoaaGreatDoorTie
import Derived.ProofKit
import Derived.OpenShut
import Derived.Carry
import Derived.Deep.DeepHandedRow
import Derived.Lib.LaidTab
import Derived.Lib.LaidU8T
import Derived.Lib.SmallJoins
import Derived.Deep.Matrix
import Derived.Deep.Slices
set_option linter.unusedVariables false
set_option linter.unusedSimpArgs false
set_option maxRecDepth 100000
namespace Go.Proofs.YtlamogpdkmbeoaaGreatDoor
open Go.ChangeShapes Go.WideShapes Go.ChangeAt Go.RowKit Go.Deep Go.Shelf Go.Lib

theorem ownKn : ownKnob Tryz.prog.godebug = none := by kernel_rfl
theorem laidOutT : laidOutB Tryz.prog = true := by kernel_rfl
abbrev laid2 : List (String × DataW Unit) := [("unicode/utf8.acceptRanges", Rows.laid_unicode_utf8_acceptRanges), ("unicode/utf8.first", Rows.laid_unicode_utf8_first)]
theorem first_data : Rows.laid_unicode_utf8_first = Lib.firstData := by kernel_rfl
theorem accept_data : (Rows.laid_unicode_utf8_acceptRanges : DataW Unit) = Lib.acceptData := by kernel_rfl
/-- What the row's list and the world's shape give: what the walks need of the world. -/
theorem env_of_laid {W : World} (h : laidMetH Tryz.prog laid2 W) (hs : W.ShapedOpen Tryz.prog) : Env W := by
  have h' : laidMet Tryz.prog laid2 W := h
  unfold laid2 at h'
  rw [first_data, accept_data] at h'
  have ht : Lib.Utf8Tabs 1 2 W := utf8Tabs_of_readsT (U8Types.of260 Tryz.lays260) ⟨by kernel_rfl, by kernel_rfl, by kernel_rfl, by kernel_rfl, by kernel_rfl, by kernel_rfl, by kernel_rfl⟩ (Lib.laidMet.reads h' (.tail _ (.head _))) (Lib.laidMet.reads h' (.head _))
  obtain ⟨m, hm⟩ := Tryz.laysM146.s1_3 W hs
  have b1 := World.block_lt_of_cell? W _ (ht.1 0 (by decide))
  have b2 := World.block_lt_of_cell? W _ (ht.2 0 (by decide)).1
  have b3 := World.block_lt_of_cell? W _ hm
  exact ⟨ht, ⟨m, hm⟩, by dsimp only at b1 b2 b3; omega⟩
def litCells : DataW Unit → List Value
  | .agg l => l.flatMap fun | .lit (.int k n) => [Value.int k n] | .agg l => (l.flatMap fun | .lit (.int k n) => [Value.int k n] | _ => []) | _ => []
  | _ => []
def relaid (d : DataW Unit) : Obj → Obj
  | .cells _ t fz => .cells (litCells d).toArray t fz
  | o => o
/-- A world for the witness: the settled one, the two tables holding what the row lists. -/
noncomputable def laidWorld (os : Os) : World :=
  { World.holding Tryz.prog os ⟨#[], #[], []⟩ with heap := ((World.holding Tryz.prog os ⟨#[], #[], []⟩).heap.modify 1 (relaid Rows.laid_unicode_utf8_first)).modify 2 (relaid Rows.laid_unicode_utf8_acceptRanges) }
section
variable {H : Type} {enc : TypeId × Value → H} {W : World} {n : Nat}
theorem trod_field {P : Program} {w : World} {base fuel : Nat} {sp : Nat → Bool} {held : Bool} {t : TypeId} {fs : Array Field} {cs : List Value} {x : DataW H × List MemPlace} (ht : P.underlying t = some (.struct fs)) (h : DataW.trod enc P w base sp held fuel t cs = some x) :
    ∃ n, ∀ (i : Nat) (f : Field), fs[i]? = some f → ∃ y, DataW.trod enc P w base sp held n f.type ((cs.drop f.offset).take (P.cellsOf f.type)) = some y := by
  obtain ⟨xs, n, _, _, _, hlen, hfs⟩ := DataW.trod_struct ht h
  refine ⟨n, fun i f hf => ?_⟩
  have hi : i < xs.length := by rw [hlen]; exact (Array.getElem?_eq_some_iff.1 hf).1
  exact ⟨xs[i], (hfs i f hf).trans (List.getElem?_eq_getElem hi)⟩
theorem kI : Tryz.prog.cellsOf 3 = 1 := by kernel_rfl
theorem kS : Tryz.prog.cellsOf 9 = 1 := by kernel_rfl
theorem kEx : Tryz.prog.cellsOf 124 = 3 := by kernel_rfl
theorem kLine : Tryz.prog.cellsOf 126 = 11 := by kernel_rfl
theorem kMark : Tryz.prog.cellsOf 44 = 2 := by kernel_rfl
theorem kName : Tryz.prog.cellsOf 37 = 2 := by kernel_rfl
theorem kLog : Tryz.prog.cellsOf 42 = 6 := by kernel_rfl
theorem kNote : Tryz.prog.cellsOf 46 = 20 := by kernel_rfl
theorem kInts : Tryz.prog.cellsOf 39 = 1 := by kernel_rfl
theorem kLines : Tryz.prog.cellsOf 40 = 1 := by kernel_rfl
abbrev TR (enc : TypeId × Value → H) (W : World) (n : Nat) (t : TypeId) (cs : List Value) : Prop := ∃ y, DataW.trod enc Tryz.prog W 0 (fun _ => true) true n t cs = some y
theorem int_cell {c : Value} (h : TR enc W n 3 [c]) : ∃ z, c = .int .i64 z := by
  obtain ⟨y, h⟩ := h
  obtain ⟨z, e, _⟩ := DataW.trod_int Tryz.underlying3 h
  exact ⟨z, by simpa using e⟩
theorem str_cell {c : Value} (h : TR enc W n 9 [c]) : ∃ z : ByteArray, c = .string z ∧ z.size ≤ maxLen := by
  obtain ⟨y, h⟩ := h
  obtain ⟨z, e, _, hm⟩ := DataW.trod_string Tryz.underlying9 h
  exact ⟨z, by simpa using e, by first | exact hm | exact hm.1 | exact hm.2⟩
theorem rows_of {α : Type} {encA : α → List Value} {t e : TypeId} (k : Nat) (hk : 0 < k) (ht : Tryz.prog.underlying t = some (.slice e)) (ce : Tryz.prog.cellsOf e = k) (Q : α → Prop)
    (form : ∀ n (cs : List Value), cs.length = k → TR enc W n e cs → ∃ x : α, cs = encA x ∧ Q x) {v : Value} (h : TR enc W n t [v]) : ∃ xs : List α, RowsAt encA k W v xs ∧ ∀ x ∈ xs, Q x := by
  obtain ⟨y, h⟩ := h
  rcases open_slice ht h with ⟨hc, _⟩ | ⟨a, len, cap, m, n', D, Pl, hc, _, hl, hm, hmm, hx, hall⟩
  · simp only [List.cons.injEq, and_true] at hc
    exact ⟨[], by rw [hc]; exact RowsAt.nil _ _, by simp⟩
  · simp only [List.cons.injEq, and_true] at hc
    simp only [if_true] at hmm
    have each : ∀ i, i < len → ∃ x : α, (∀ j u, (encA x)[j]? = some u → W.cell? ((a.add (i * k)).add j) = some u) ∧ Q x ∧ (encA x).length = k := by
      intro i hi
      obtain ⟨cs', h1, h2⟩ := hall i (by omega)
      rw [ce] at h1
      obtain ⟨_, hlen, hcell⟩ := World.cells?_some h1
      obtain ⟨x, e, hq⟩ := form n' cs' hlen ⟨_, h2⟩
      subst e
      exact ⟨x, fun j u hu => by
        have hj : j < k := by rw [← hlen]; exact (List.getElem?_eq_some_iff.1 hu).1
        rw [hcell j hj]; exact hu, hq, hlen⟩
    have hmk : ∃ xs : List α, xs.length = len ∧ ∀ i (hi : i < xs.length), (∀ j u, (encA xs[i])[j]? = some u → W.cell? ((a.add (i * k)).add j) = some u) ∧ Q xs[i] ∧ (encA xs[i]).length = k := by
      clear hc hl hm hmm hx hall
      induction len with
      | zero => exact ⟨[], rfl, fun i hi => by simp at hi⟩
      | succ l ih =>
        obtain ⟨xs, h1, h2⟩ := ih (fun i hi => each i (by omega))
        obtain ⟨x, h3⟩ := each l (by omega)
        refine ⟨xs ++ [x], by simp [h1], fun i hi => ?_⟩
        rw [List.length_append, List.length_singleton] at hi
        by_cases e : i = xs.length
        · subst e
          rw [List.getElem_concat_length rfl]
          rw [h1]
          exact h3
        · rw [List.getElem_append_left (by omega)]
          exact h2 i (by omega)
    obtain ⟨xs, hxl, hxs⟩ := hmk
    refine ⟨xs, ⟨some a, cap, by rw [hxl]; exact hc, by omega, fun j hj => ?_⟩, fun x hx => ?_⟩
    · obtain ⟨h1, _, h3⟩ := hxs j hj
      obtain ⟨g, o, spot⟩ := a
      have h00 := (hxs 0 (by omega)).1 0 _ (List.getElem?_eq_getElem (by rw [(hxs 0 (by omega)).2.2]; omega))
      have hspot : spot = none := by simpa [Addr.add] using World.cell?_spot h00
      subst hspot
      have h0 := h1 0 _ (List.getElem?_eq_getElem (by omega))
      rw [Go.Deep.add_add] at h0
      rw [Addr.add_lit] at h0
      refine ⟨g, o, rfl, World.block_lt_of_cell? W _ h0, fun i u hu => ?_⟩
      have := h1 i u hu
      rw [Go.Deep.add_add, Addr.add_lit, ← Nat.add_assoc] at this
      exact this
    · obtain ⟨i, hi, rfl⟩ := List.getElem_of_mem hx
      exact (hxs i hi).2.1
theorem ints_row {v : Value} (h : TR enc W n 39 [v]) : ∃ xs : List Int, RowsAt encI 1 W v xs := by
  obtain ⟨xs, h, _⟩ := rows_of (encA := encI) 1 (by decide) Tryz.underlying39 kI (fun _ => True) (fun n cs hl hc => by
    match cs, hl with
    | [c], _ =>
      obtain ⟨z, rfl⟩ := int_cell hc
      exact ⟨z, rfl, trivial⟩) h
  exact ⟨xs, h⟩
theorem mark_form {a b : Value} (h : TR enc W n 44 [a, b]) : ∃ (s : ByteArray) (z : Int), a = .string s ∧ b = .int .i64 z := by
  obtain ⟨y, h⟩ := h
  obtain ⟨m, hf⟩ := trod_field Tryz.underlying44 h
  have g0 := hf 0 _ rfl
  have g1 := hf 1 _ rfl
  simp only [List.getElem_toArray, List.getElem_cons_zero, List.getElem_cons_succ, kI, kS, List.drop, List.take] at g0 g1
  obtain ⟨s, rfl, _⟩ := str_cell g0
  obtain ⟨z, rfl⟩ := int_cell g1
  exact ⟨s, z, rfl, rfl⟩
theorem name_form {a b : Value} (h : TR enc W n 37 [a, b]) : ∃ (s z : Int), a = .int .i64 s ∧ b = .int .i64 z := by
  obtain ⟨y, h⟩ := h
  obtain ⟨m, hf⟩ := trod_field Tryz.underlying37 h
  have g0 := hf 0 _ rfl
  have g1 := hf 1 _ rfl
  simp only [List.getElem_toArray, List.getElem_cons_zero, List.getElem_cons_succ, kI, kS, List.drop, List.take] at g0 g1
  obtain ⟨s, rfl⟩ := int_cell g0
  obtain ⟨z, rfl⟩ := int_cell g1
  exact ⟨s, z, rfl, rfl⟩
theorem ex_form {a b c : Value} (h : TR enc W n 124 [a, b, c]) : ∃ x : Exc, [a, b, c] = [.int .i64 x.r, .int .i64 x.s, .int .i64 x.z] := by
  obtain ⟨y, h⟩ := h
  obtain ⟨m, hf⟩ := trod_field Tryz.underlying124 h
  have g0 := hf 0 _ rfl
  have g1 := hf 1 _ rfl
  have g2 := hf 2 _ rfl
  simp only [List.getElem_toArray, List.getElem_cons_zero, List.getElem_cons_succ, kI, kS, List.drop, List.take] at g0 g1 g2
  obtain ⟨r, rfl⟩ := int_cell g0
  obtain ⟨s, rfl⟩ := int_cell g1
  obtain ⟨z, rfl⟩ := int_cell g2
  exact ⟨⟨r, s, z⟩, rfl⟩
theorem line_form {cs : List Value} (hl : cs.length = 11) (h : TR enc W n 126 cs) : ∃ x : Ln, cs = x.enc ∧ x.call.size ≤ 9223372036854775807 := by
  match cs, hl with
  | [c0, c1, c2, c3, c4, c5, c6, c7, c8, c9, c10], _ =>
    obtain ⟨y, h⟩ := h
    obtain ⟨m, hf⟩ := trod_field Tryz.underlying126 h
    have g0 := hf 0 _ rfl
    have g1 := hf 1 _ rfl
    have g2 := hf 2 _ rfl
    have g3 := hf 3 _ rfl
    have g4 := hf 4 _ rfl
    have g5 := hf 5 _ rfl
    have g6 := hf 6 _ rfl
    simp only [List.getElem_toArray, List.getElem_cons_zero, List.getElem_cons_succ, kI, kS, kEx, List.drop, List.take] at g0 g1 g2 g3 g4 g5 g6
    obtain ⟨z0, rfl⟩ := int_cell g0
    obtain ⟨z1, rfl⟩ := int_cell g1
    obtain ⟨z2, rfl⟩ := int_cell g2
    obtain ⟨z3, rfl⟩ := int_cell g3
    obtain ⟨s, rfl, hs⟩ := str_cell g4
    obtain ⟨x1, e1⟩ := ex_form g5
    obtain ⟨x2, e2⟩ := ex_form g6
    simp only [List.cons.injEq, and_true] at e1 e2
    obtain ⟨rfl, rfl, rfl⟩ := e1
    obtain ⟨rfl, rfl, rfl⟩ := e2
    exact ⟨⟨z0, z1, z2, z3, s, x1, x2⟩, rfl, by unfold maxLen at hs; exact hs⟩
theorem lines_row {v : Value} (h : TR enc W n 40 [v]) : ∃ xs : List Ln, RowsAt Ln.enc 11 W v xs ∧ ∀ x ∈ xs, x.call.size ≤ 9223372036854775807 :=
  rows_of (encA := Ln.enc) 11 (by decide) Tryz.underlying40 kLine _ (fun n cs hl hc => line_form hl hc) h
theorem note_form {cs : List Value} (hl : cs.length = 20) (h : TR enc W n 46 cs) : ∃ x : Note, cs = x.enc ∧ x.At W := by
  match cs, hl with
  | [c0, c1, c2, c3, c4, c5, c6, c7, c8, c9, c10, c11, c12, c13, c14, c15, c16, c17, c18, c19], _ =>
    obtain ⟨y, h⟩ := h
    obtain ⟨m, hf⟩ := trod_field Tryz.underlying46 h
    have g0 := hf 0 _ rfl
    have g1 := hf 1 _ rfl
    have g2 := hf 2 _ rfl
    have g3 := hf 3 _ rfl
    have g4 := hf 4 _ rfl
    have g5 := hf 5 _ rfl
    have g6 := hf 6 _ rfl
    have g7 := hf 7 _ rfl
    have g8 := hf 8 _ rfl
    have g9 := hf 9 _ rfl
    have g10 := hf 10 _ rfl
    have g11 := hf 11 _ rfl
    simp only [List.getElem_toArray, List.getElem_cons_zero, List.getElem_cons_succ, kI, kS, kMark, kName, kLog, List.drop, List.take] at g0 g1 g2 g3 g4 g5 g6 g7 g8 g9 g10 g11
    obtain ⟨judge, rfl⟩ := int_cell g0
    obtain ⟨num, rfl⟩ := int_cell g1
    obtain ⟨clock, rfl⟩ := int_cell g2
    obtain ⟨kind, rfl⟩ := int_cell g3
    obtain ⟨call, rfl, _⟩ := str_cell g4
    obtain ⟨version, rfl⟩ := int_cell g5
    obtain ⟨aC, aN, rfl, rfl⟩ := mark_form g7
    obtain ⟨bC, bN, rfl, rfl⟩ := mark_form g8
    obtain ⟨rJ, rN, rfl, rfl⟩ := name_form g9
    obtain ⟨hash, rfl⟩ := int_cell g10
    obtain ⟨prev, rfl⟩ := int_cell g11
    obtain ⟨y6, g6⟩ := g6
    obtain ⟨m2, hf2⟩ := trod_field Tryz.underlying42 g6
    have l0 := hf2 0 _ rfl
    have l1 := hf2 1 _ rfl
    have l2 := hf2 2 _ rfl
    have l3 := hf2 3 _ rfl
    have l4 := hf2 4 _ rfl
    have l5 := hf2 5 _ rfl
    simp only [List.getElem_toArray, List.getElem_cons_zero, List.getElem_cons_succ, kI, kS, kInts, kLines, List.drop, List.take] at l0 l1 l2 l3 l4 l5
    obtain ⟨lcall, rfl, _⟩ := str_cell l0
    obtain ⟨cat, rfl⟩ := int_cell l1
    obtain ⟨pow, rfl⟩ := int_cell l2
    obtain ⟨cl, rfl⟩ := int_cell l3
    obtain ⟨js, hjs⟩ := ints_row l4
    obtain ⟨ls, hls, hcs⟩ := lines_row l5
    exact ⟨⟨⟨judge, num, clock, kind, call, version, ⟨lcall, cat, pow, cl, c10, c11⟩, aC, aN, bC, bN, rJ, rN, hash, prev⟩, js, ls⟩, rfl, hjs, hls, hcs⟩
theorem notes_row {v : Value} (h : TR enc W n 24 [v]) : ∃ xs : List Note, NotesAt W v xs := by
  obtain ⟨xs, h1, h2⟩ := rows_of (encA := Note.enc) 20 (by decide) Tryz.underlying24 kNote (fun x : Note => x.At W) (fun n cs hl hc => note_form hl hc) h
  exact ⟨xs, h1, h2⟩
theorem layout_form {base : Nat} {v : Value} {d : DataW H} {p : List MemPlace} (hv : Value.okWide Tryz.prog W .any base 23 v) (hd : DataW.Trod enc Tryz.prog W 0 (fun _ => true) true 23 v d p) :
    ∃ o : Lay, v = o.val := by
  obtain ⟨w0, w1, w2, y0, y1, y2, n, rfl, _, _, h0, h1, h2⟩ := Go.Joins.open_agg3 Tryz.underlying23 (by kernel_rfl) (by kernel_rfl) hv hd
  obtain ⟨o1, e0, _⟩ := DataW.trod_bool Tryz.underlying4 h0
  obtain ⟨o2, e1, _⟩ := DataW.trod_bool Tryz.underlying4 h1
  obtain ⟨o3, e2, _⟩ := DataW.trod_bool Tryz.underlying4 h2
  simp only [List.cons.injEq, and_true] at e0 e1 e2
  subst e0 e1 e2
  exact ⟨⟨o1, o2, o3⟩, rfl⟩
theorem slice_trod {base : Nat} {t e : TypeId} {v : Value} {d : DataW H} {p : List MemPlace} (ht : Tryz.prog.underlying t = some (.slice e)) (hv : Value.okWide Tryz.prog W .any base t v) (hd : DataW.Trod enc Tryz.prog W 0 (fun _ => true) true t v d p) : ∃ n, TR enc W n t [v] := by
  obtain ⟨fuel, hf⟩ := hd
  obtain ⟨a, len, cap, rfl⟩ := okWide_slice ht hv
  exact ⟨fuel, (d, p), hf⟩
theorem notes_arg {base : Nat} {v : Value} {d : DataW H} {p : List MemPlace} (hv : Value.okWide Tryz.prog W .any base 24 v) (hd : DataW.Trod enc Tryz.prog W 0 (fun _ => true) true 24 v d p) : ∃ xs : List Note, NotesAt W v xs := by
  obtain ⟨n, h⟩ := slice_trod Tryz.underlying24 hv hd
  exact notes_row h
theorem int_arg {base : Nat} {v : Value} (hv : Value.okWide Tryz.prog W .any base 3 v) : ∃ n, v = .int .i64 n := okWide_int Tryz.underlying3 hv
end
end Go.Proofs.YtlamogpdkmbeoaaGreatDoor
