/- The texts JoinJ, JoinQ in one. -/
import Derived.Test.YtlamogpdkmbeoaaGreatDoorZaNote
import Derived.Test.YtlamogpdkmbeoaaGreatDoorZaMem
import Derived.Test.YtlamogpdkmbeoaaGreatDoorZaLed
import Derived.Test.YtlamogpdkmbeoaaGreatDoorCards
import Derived.Test.YtlamogpdkmbeoaaGreatDoorTie
import Derived.ProofKit
import Derived.OpenShut
import Derived.Carry
import Derived.Deep.DeepHandedRow
import Derived.Lib.LaidTab
import Derived.Lib.LaidU8T
import Derived.Lib.SmallJoins
import Derived.Deep.Matrix
import Derived.Deep.Slices
section PartJoinJ
/- From a walk to the row's claim; the world's premises out of the row's list; parameters: layouts, numbers, bytes, notes. -/
set_option linter.unusedVariables false
set_option linter.unusedSimpArgs false
set_option maxRecDepth 100000
namespace Go.Proofs.YtlamogpdkmbeoaaGreatDoor
open Go.ChangeShapes Go.WideShapes Go.ChangeAt Go.RowKit Go.Deep Go.Shelf Go.Lib

theorem ownKn : ownKnob Tryz.prog.godebug = none := by kernel_rfl
theorem laidOutT : laidOutB Tryz.prog = true := by kernel_rfl
abbrev laid2 : List (String × DataW Unit) := [("unicode/utf8.acceptRanges", Rows.laid_unicode_utf8_acceptRanges), ("unicode/utf8.first", Rows.laid_unicode_utf8_first)]
theorem first_data : Rows.laid_unicode_utf8_first = Lib.firstData := by kernel_rfl
theorem accept_data : (Rows.laid_unicode_utf8_acceptRanges : DataW Unit) = Lib.acceptData := by kernel_rfl
/-- What the row's list and the world's shape give: what the walks need of the world. -/
theorem env_of_laid {W : World} (h : laidMetH Tryz.prog laid2 W) (hs : W.ShapedOpen Tryz.prog) : Env W := by
  have h' : laidMet Tryz.prog laid2 W := h
  unfold laid2 at h'
  rw [first_data, accept_data] at h'
  have ht : Lib.Utf8Tabs 1 2 W := utf8Tabs_of_readsT (U8Types.of260 Tryz.lays260) ⟨by kernel_rfl, by kernel_rfl, by kernel_rfl, by kernel_rfl, by kernel_rfl, by kernel_rfl, by kernel_rfl⟩ (Lib.laidMet.reads h' (.tail _ (.head _))) (Lib.laidMet.reads h' (.head _))
  obtain ⟨m, hm⟩ := Tryz.laysM146.s1_3 W hs
  have b1 := World.block_lt_of_cell? W _ (ht.1 0 (by decide))
  have b2 := World.block_lt_of_cell? W _ (ht.2 0 (by decide)).1
  have b3 := World.block_lt_of_cell? W _ hm
  exact ⟨ht, ⟨m, hm⟩, by dsimp only at b1 b2 b3; omega⟩
def litCells : DataW Unit → List Value
  | .agg l => l.flatMap fun | .lit (.int k n) => [Value.int k n] | .agg l => (l.flatMap fun | .lit (.int k n) => [Value.int k n] | _ => []) | _ => []
  | _ => []
def relaid (d : DataW Unit) : Obj → Obj
  | .cells _ t fz => .cells (litCells d).toArray t fz
  | o => o
/-- A world for the witness: the settled one, the two tables holding what the row lists. -/
noncomputable def laidWorld (os : Os) : World :=
  { World.holding Tryz.prog os ⟨#[], #[], []⟩ with heap := ((World.holding Tryz.prog os ⟨#[], #[], []⟩).heap.modify 1 (relaid Rows.laid_unicode_utf8_first)).modify 2 (relaid Rows.laid_unicode_utf8_acceptRanges) }
set_option maxRecDepth 100000 in
/-- From a walk to the row's claim, for a function of two parameters. -/
theorem post2 {H : Type} {enc : TypeId × Value → H} {fid : FuncId} {f : Func} {t0 t1 : TypeId} {spec : ChangeSpec} (hp : f.params = #[t0, t1]) (hr : f.resultTypes = #[4]) (hv : spec.vars = [])
    (hfn : ∀ d d1 : DataW H, spec.fn H [d, d1] = { results := [.lit (.bool true)], args := [d, d1] }) (hread : Tryz.prog.readableRec t0 = true) (hrow : t0 < Tryz.prog.types.size) (hread1 : Tryz.prog.readableRec t1 = true) (hrow1 : t1 < Tryz.prog.types.size)
    {W : World} {base : Nat} {args : Array Value} {ds gs : List (DataW H)} {before : List MemPlace}
    (hval : ∀ (j : Nat) t v, f.params[j]? = some t → args[j]? = some v → Value.okWide Tryz.prog W .any base t v)
    (hW : DataW.Whole enc Tryz.prog f.params.toList spec.vars false W args.toList ds gs before)
    (walk : ∀ v0 d0 p0 v1 d1 p1, Value.okWide Tryz.prog W .any base t0 v0 → DataW.Trod enc Tryz.prog W 0 (fun _ => true) true t0 v0 d0 p0 → Value.okWide Tryz.prog W .any base t1 v1 → DataW.Trod enc Tryz.prog W 0 (fun _ => true) true t1 v1 d1 p1 →
      Calls Tryz.prog fid #[v0, v1] W fun e w' => e = .returned (.bool true) ∧ Below W.heap.size W w') :
    Calls Tryz.prog fid args W fun e W' => ∃ v, e = .returned v ∧ spec.post enc Tryz.prog f false true false false W args v W' := by
  have hW' := hW
  obtain ⟨p, q, hA, hV, rfl, hfz, hnd⟩ := hW
  rw [hp] at hA hval
  rw [hv] at hV
  obtain ⟨v0, vs0, d0, ds0, p0, q0, hargs, rfl, rfl, h0, r0⟩ := trodAll_cons hA
  obtain ⟨v1, vs1, d1, ds1, p1, q1, rfl, rfl, rfl, h1, r1⟩ := trodAll_cons r0
  obtain ⟨rfl, rfl, rfl⟩ := trodAll_nil r1
  obtain rfl : args = #[v0, v1] := by cases args; simp_all
  obtain ⟨rfl, rfl⟩ := trodVars_none hV
  refine (walk v0 d0 p0 v1 d1 p1 (hval 0 t0 v0 rfl rfl) h0 (hval 1 t1 v1 rfl rfl) h1).mono fun e W' ⟨he, hb⟩ => ?_
  subst he
  have hlt : ∀ x ∈ p0, x.block < W.heap.size := fun x hx => by simpa using hW'.lt x (by simp [hx])
  have hlt1 : ∀ x ∈ p1, x.block < W.heap.size := fun x hx => by simpa using hW'.lt x (by simp [hx])
  have h0' := Below.trod laidOutT hread hrow h0 hb hlt
  have h1' := Below.trod laidOutT hread1 hrow1 h1 hb hlt1
  refine ⟨_, rfl, _, _, _, [], p0 ++ p1, [], by simpa using hW', ?_, ?_, ?_, hb.frame _, fun h => by cases h⟩
  · rw [hr]
    show DataW.TrodAll _ _ _ _ _ _ [4] [Value.bool true] _ _
    rw [List.append_nil, hfn]
    exact trodAll_cons_mk (p := []) (p' := []) (shut_bool Tryz.underlying4 _) trodAll_mk0
  · rw [hp, List.append_nil, hfn]
    have := trodAll_cons_mk h0' (trodAll_cons_mk h1' (trodAll_mk0 (enc := enc) (P := Tryz.prog) (w := W')))
    simpa using this
  · rw [hv, List.append_nil, hfn]; rfl

set_option maxRecDepth 100000 in
/-- From a walk to the row's claim, for a function of three parameters. -/
theorem post3 {H : Type} {enc : TypeId × Value → H} {fid : FuncId} {f : Func} {t0 t1 t2 : TypeId} {spec : ChangeSpec} (hp : f.params = #[t0, t1, t2]) (hr : f.resultTypes = #[4]) (hv : spec.vars = [])
    (hfn : ∀ d d1 d2 : DataW H, spec.fn H [d, d1, d2] = { results := [.lit (.bool true)], args := [d, d1, d2] }) (hread : Tryz.prog.readableRec t0 = true) (hrow : t0 < Tryz.prog.types.size) (hread1 : Tryz.prog.readableRec t1 = true) (hrow1 : t1 < Tryz.prog.types.size)
    (hread2 : Tryz.prog.readableRec t2 = true) (hrow2 : t2 < Tryz.prog.types.size)
    {W : World} {base : Nat} {args : Array Value} {ds gs : List (DataW H)} {before : List MemPlace}
    (hval : ∀ (j : Nat) t v, f.params[j]? = some t → args[j]? = some v → Value.okWide Tryz.prog W .any base t v)
    (hW : DataW.Whole enc Tryz.prog f.params.toList spec.vars false W args.toList ds gs before)
    (walk : ∀ v0 d0 p0 v1 d1 p1 v2 d2 p2, Value.okWide Tryz.prog W .any base t0 v0 → DataW.Trod enc Tryz.prog W 0 (fun _ => true) true t0 v0 d0 p0 → Value.okWide Tryz.prog W .any base t1 v1 → DataW.Trod enc Tryz.prog W 0 (fun _ => true) true t1 v1 d1 p1 →
      Value.okWide Tryz.prog W .any base t2 v2 → DataW.Trod enc Tryz.prog W 0 (fun _ => true) true t2 v2 d2 p2 →
      Calls Tryz.prog fid #[v0, v1, v2] W fun e w' => e = .returned (.bool true) ∧ Below W.heap.size W w') :
    Calls Tryz.prog fid args W fun e W' => ∃ v, e = .returned v ∧ spec.post enc Tryz.prog f false true false false W args v W' := by
  have hW' := hW
  obtain ⟨p, q, hA, hV, rfl, hfz, hnd⟩ := hW
  rw [hp] at hA hval
  rw [hv] at hV
  obtain ⟨v0, vs0, d0, ds0, p0, q0, hargs, rfl, rfl, h0, r0⟩ := trodAll_cons hA
  obtain ⟨v1, vs1, d1, ds1, p1, q1, rfl, rfl, rfl, h1, r1⟩ := trodAll_cons r0
  obtain ⟨v2, vs2, d2, ds2, p2, q2, rfl, rfl, rfl, h2, r2⟩ := trodAll_cons r1
  obtain ⟨rfl, rfl, rfl⟩ := trodAll_nil r2
  obtain rfl : args = #[v0, v1, v2] := by cases args; simp_all
  obtain ⟨rfl, rfl⟩ := trodVars_none hV
  refine (walk v0 d0 p0 v1 d1 p1 v2 d2 p2 (hval 0 t0 v0 rfl rfl) h0 (hval 1 t1 v1 rfl rfl) h1 (hval 2 t2 v2 rfl rfl) h2).mono fun e W' ⟨he, hb⟩ => ?_
  subst he
  have hlt : ∀ x ∈ p0, x.block < W.heap.size := fun x hx => by simpa using hW'.lt x (by simp [hx])
  have hlt1 : ∀ x ∈ p1, x.block < W.heap.size := fun x hx => by simpa using hW'.lt x (by simp [hx])
  have hlt2 : ∀ x ∈ p2, x.block < W.heap.size := fun x hx => by simpa using hW'.lt x (by simp [hx])
  have h0' := Below.trod laidOutT hread hrow h0 hb hlt
  have h1' := Below.trod laidOutT hread1 hrow1 h1 hb hlt1
  have h2' := Below.trod laidOutT hread2 hrow2 h2 hb hlt2
  refine ⟨_, rfl, _, _, _, [], p0 ++ (p1 ++ p2), [], by simpa using hW', ?_, ?_, ?_, hb.frame _, fun h => by cases h⟩
  · rw [hr]
    show DataW.TrodAll _ _ _ _ _ _ [4] [Value.bool true] _ _
    rw [List.append_nil, hfn]
    exact trodAll_cons_mk (p := []) (p' := []) (shut_bool Tryz.underlying4 _) trodAll_mk0
  · rw [hp, List.append_nil, hfn]
    have := trodAll_cons_mk h0' (trodAll_cons_mk h1' (trodAll_cons_mk h2' (trodAll_mk0 (enc := enc) (P := Tryz.prog) (w := W'))))
    simpa using this
  · rw [hv, List.append_nil, hfn]; rfl


section
variable {H : Type} {enc : TypeId × Value → H} {W : World} {n : Nat}
theorem trod_field {P : Program} {w : World} {base fuel : Nat} {sp : Nat → Bool} {held : Bool} {t : TypeId} {fs : Array Field} {cs : List Value} {x : DataW H × List MemPlace} (ht : P.underlying t = some (.struct fs)) (h : DataW.trod enc P w base sp held fuel t cs = some x) :
    ∃ n, ∀ (i : Nat) (f : Field), fs[i]? = some f → ∃ y, DataW.trod enc P w base sp held n f.type ((cs.drop f.offset).take (P.cellsOf f.type)) = some y := by
  obtain ⟨xs, n, _, _, _, hlen, hfs⟩ := DataW.trod_struct ht h
  refine ⟨n, fun i f hf => ?_⟩
  have hi : i < xs.length := by rw [hlen]; exact (Array.getElem?_eq_some_iff.1 hf).1
  exact ⟨xs[i], (hfs i f hf).trans (List.getElem?_eq_getElem hi)⟩
theorem kI : Tryz.prog.cellsOf 3 = 1 := by kernel_rfl
theorem kS : Tryz.prog.cellsOf 9 = 1 := by kernel_rfl
theorem kU : Tryz.prog.cellsOf 5 = 1 := by kernel_rfl
theorem kEx : Tryz.prog.cellsOf 124 = 3 := by kernel_rfl
theorem kLine : Tryz.prog.cellsOf 126 = 11 := by kernel_rfl
theorem kMark : Tryz.prog.cellsOf 44 = 2 := by kernel_rfl
theorem kName : Tryz.prog.cellsOf 37 = 2 := by kernel_rfl
theorem kLog : Tryz.prog.cellsOf 42 = 6 := by kernel_rfl
theorem kNote : Tryz.prog.cellsOf 46 = 20 := by kernel_rfl
theorem kInts : Tryz.prog.cellsOf 39 = 1 := by kernel_rfl
theorem kLines : Tryz.prog.cellsOf 40 = 1 := by kernel_rfl
theorem kBytes : Tryz.prog.cellsOf 57 = 1 := by kernel_rfl
abbrev TR (enc : TypeId × Value → H) (W : World) (n : Nat) (t : TypeId) (cs : List Value) : Prop := ∃ y, DataW.trod enc Tryz.prog W 0 (fun _ => true) true n t cs = some y
theorem int_cell {c : Value} (h : TR enc W n 3 [c]) : ∃ z, c = .int .i64 z := by
  obtain ⟨y, h⟩ := h
  obtain ⟨z, e, _⟩ := DataW.trod_int Tryz.underlying3 h
  exact ⟨z, by simpa using e⟩
theorem str_cell {c : Value} (h : TR enc W n 9 [c]) : ∃ z : ByteArray, c = .string z ∧ z.size ≤ maxLen := by
  obtain ⟨y, h⟩ := h
  obtain ⟨z, e, _, hm⟩ := DataW.trod_string Tryz.underlying9 h
  exact ⟨z, by simpa using e, by first | exact hm | exact hm.1 | exact hm.2⟩
theorem byte_cell {c : Value} (h : TR enc W n 5 [c]) : ∃ z, c = .int .u8 z ∧ 0 ≤ z ∧ z < 256 := by
  obtain ⟨y, h⟩ := h
  obtain ⟨z, e, _, hw⟩ := DataW.trod_int Tryz.underlying5 h
  refine ⟨z, by simpa using e, ?_⟩
  have e1 : IntKind.u8.min = 0 := by decide
  have e2 : IntKind.u8.max = 255 := by decide
  simp [Lit.wf, e1, e2] at hw
  omega
theorem rows_of {α : Type} {encA : α → List Value} {t e : TypeId} (k : Nat) (hk : 0 < k) (ht : Tryz.prog.underlying t = some (.slice e)) (ce : Tryz.prog.cellsOf e = k) (Q : α → Prop)
    (form : ∀ n (cs : List Value), cs.length = k → TR enc W n e cs → ∃ x : α, cs = encA x ∧ Q x) {v : Value} (h : TR enc W n t [v]) : ∃ xs : List α, RowsAt encA k W v xs ∧ ∀ x ∈ xs, Q x := by
  obtain ⟨y, h⟩ := h
  rcases open_slice ht h with ⟨hc, _⟩ | ⟨a, len, cap, m, n', D, Pl, hc, _, hl, hm, hmm, hx, hall⟩
  · simp only [List.cons.injEq, and_true] at hc
    exact ⟨[], by rw [hc]; exact RowsAt.nil _ _, by simp⟩
  · simp only [List.cons.injEq, and_true] at hc
    simp only [if_true] at hmm
    have each : ∀ i, i < len → ∃ x : α, (∀ j u, (encA x)[j]? = some u → W.cell? ((a.add (i * k)).add j) = some u) ∧ Q x ∧ (encA x).length = k := by
      intro i hi
      obtain ⟨cs', h1, h2⟩ := hall i (by omega)
      rw [ce] at h1
      obtain ⟨_, hlen, hcell⟩ := World.cells?_some h1
      obtain ⟨x, e, hq⟩ := form n' cs' hlen ⟨_, h2⟩
      subst e
      exact ⟨x, fun j u hu => by
        have hj : j < k := by rw [← hlen]; exact (List.getElem?_eq_some_iff.1 hu).1
        rw [hcell j hj]; exact hu, hq, hlen⟩
    have hmk : ∃ xs : List α, xs.length = len ∧ ∀ i (hi : i < xs.length), (∀ j u, (encA xs[i])[j]? = some u → W.cell? ((a.add (i * k)).add j) = some u) ∧ Q xs[i] ∧ (encA xs[i]).length = k := by
      clear hc hl hm hmm hx hall
      induction len with
      | zero => exact ⟨[], rfl, fun i hi => by simp at hi⟩
      | succ l ih =>
        obtain ⟨xs, h1, h2⟩ := ih (fun i hi => each i (by omega))
        obtain ⟨x, h3⟩ := each l (by omega)
        refine ⟨xs ++ [x], by simp [h1], fun i hi => ?_⟩
        rw [List.length_append, List.length_singleton] at hi
        by_cases e : i = xs.length
        · subst e
          rw [List.getElem_concat_length rfl]
          rw [h1]
          exact h3
        · rw [List.getElem_append_left (by omega)]
          exact h2 i (by omega)
    obtain ⟨xs, hxl, hxs⟩ := hmk
    refine ⟨xs, ⟨some a, cap, by rw [hxl]; exact hc, by omega, fun j hj => ?_⟩, fun x hx => ?_⟩
    · obtain ⟨h1, _, h3⟩ := hxs j hj
      obtain ⟨g, o, spot⟩ := a
      have h00 := (hxs 0 (by omega)).1 0 _ (List.getElem?_eq_getElem (by rw [(hxs 0 (by omega)).2.2]; omega))
      have hspot : spot = none := by simpa [Addr.add] using World.cell?_spot h00
      subst hspot
      have h0 := h1 0 _ (List.getElem?_eq_getElem (by omega))
      rw [Go.Deep.add_add] at h0
      rw [Addr.add_lit] at h0
      refine ⟨g, o, rfl, World.block_lt_of_cell? W _ h0, fun i u hu => ?_⟩
      have := h1 i u hu
      rw [Go.Deep.add_add, Addr.add_lit, ← Nat.add_assoc] at this
      exact this
    · obtain ⟨i, hi, rfl⟩ := List.getElem_of_mem hx
      exact (hxs i hi).2.1
theorem ints_row {v : Value} (h : TR enc W n 39 [v]) : ∃ xs : List Int, RowsAt encI 1 W v xs := by
  obtain ⟨xs, h, _⟩ := rows_of (encA := encI) 1 (by decide) Tryz.underlying39 kI (fun _ => True) (fun n cs hl hc => by
    match cs, hl with
    | [c], _ =>
      obtain ⟨z, rfl⟩ := int_cell hc
      exact ⟨z, rfl, trivial⟩) h
  exact ⟨xs, h⟩
theorem bytes_row {v : Value} (h : TR enc W n 57 [v]) : ∃ xs : List Int, BytesAt W v xs ∧ AreBytes xs := by
  obtain ⟨xs, h, h2⟩ := rows_of (encA := encU) 1 (by decide) Tryz.underlying57 kU (fun x => 0 ≤ x ∧ x < 256) (fun n cs hl hc => by
    match cs, hl with
    | [c], _ =>
      obtain ⟨z, rfl, h1, h2⟩ := byte_cell hc
      exact ⟨z, rfl, h1, h2⟩) h
  exact ⟨xs, h, h2⟩
theorem mark_form {a b : Value} (h : TR enc W n 44 [a, b]) : ∃ (s : ByteArray) (z : Int), a = .string s ∧ b = .int .i64 z := by
  obtain ⟨y, h⟩ := h
  obtain ⟨m, hf⟩ := trod_field Tryz.underlying44 h
  have g0 := hf 0 _ rfl
  have g1 := hf 1 _ rfl
  simp only [List.getElem_toArray, List.getElem_cons_zero, List.getElem_cons_succ, kI, kS, List.drop, List.take] at g0 g1
  obtain ⟨s, rfl, _⟩ := str_cell g0
  obtain ⟨z, rfl⟩ := int_cell g1
  exact ⟨s, z, rfl, rfl⟩
theorem name_form {a b : Value} (h : TR enc W n 37 [a, b]) : ∃ (s z : Int), a = .int .i64 s ∧ b = .int .i64 z := by
  obtain ⟨y, h⟩ := h
  obtain ⟨m, hf⟩ := trod_field Tryz.underlying37 h
  have g0 := hf 0 _ rfl
  have g1 := hf 1 _ rfl
  simp only [List.getElem_toArray, List.getElem_cons_zero, List.getElem_cons_succ, kI, kS, List.drop, List.take] at g0 g1
  obtain ⟨s, rfl⟩ := int_cell g0
  obtain ⟨z, rfl⟩ := int_cell g1
  exact ⟨s, z, rfl, rfl⟩
theorem ex_form {a b c : Value} (h : TR enc W n 124 [a, b, c]) : ∃ x : Exc, [a, b, c] = [.int .i64 x.r, .int .i64 x.s, .int .i64 x.z] := by
  obtain ⟨y, h⟩ := h
  obtain ⟨m, hf⟩ := trod_field Tryz.underlying124 h
  have g0 := hf 0 _ rfl
  have g1 := hf 1 _ rfl
  have g2 := hf 2 _ rfl
  simp only [List.getElem_toArray, List.getElem_cons_zero, List.getElem_cons_succ, kI, kS, List.drop, List.take] at g0 g1 g2
  obtain ⟨r, rfl⟩ := int_cell g0
  obtain ⟨s, rfl⟩ := int_cell g1
  obtain ⟨z, rfl⟩ := int_cell g2
  exact ⟨⟨r, s, z⟩, rfl⟩
theorem line_form {cs : List Value} (hl : cs.length = 11) (h : TR enc W n 126 cs) : ∃ x : Ln, cs = x.enc ∧ x.call.size ≤ 9223372036854775807 := by
  match cs, hl with
  | [c0, c1, c2, c3, c4, c5, c6, c7, c8, c9, c10], _ =>
    obtain ⟨y, h⟩ := h
    obtain ⟨m, hf⟩ := trod_field Tryz.underlying126 h
    have g0 := hf 0 _ rfl
    have g1 := hf 1 _ rfl
    have g2 := hf 2 _ rfl
    have g3 := hf 3 _ rfl
    have g4 := hf 4 _ rfl
    have g5 := hf 5 _ rfl
    have g6 := hf 6 _ rfl
    simp only [List.getElem_toArray, List.getElem_cons_zero, List.getElem_cons_succ, kI, kS, kEx, List.drop, List.take] at g0 g1 g2 g3 g4 g5 g6
    obtain ⟨z0, rfl⟩ := int_cell g0
    obtain ⟨z1, rfl⟩ := int_cell g1
    obtain ⟨z2, rfl⟩ := int_cell g2
    obtain ⟨z3, rfl⟩ := int_cell g3
    obtain ⟨s, rfl, hs⟩ := str_cell g4
    obtain ⟨x1, e1⟩ := ex_form g5
    obtain ⟨x2, e2⟩ := ex_form g6
    simp only [List.cons.injEq, and_true] at e1 e2
    obtain ⟨rfl, rfl, rfl⟩ := e1
    obtain ⟨rfl, rfl, rfl⟩ := e2
    exact ⟨⟨z0, z1, z2, z3, s, x1, x2⟩, rfl, by unfold maxLen at hs; exact hs⟩
theorem lines_row {v : Value} (h : TR enc W n 40 [v]) : ∃ xs : List Ln, RowsAt Ln.enc 11 W v xs ∧ ∀ x ∈ xs, x.call.size ≤ 9223372036854775807 :=
  rows_of (encA := Ln.enc) 11 (by decide) Tryz.underlying40 kLine _ (fun n cs hl hc => line_form hl hc) h
theorem note_form {cs : List Value} (hl : cs.length = 20) (h : TR enc W n 46 cs) : ∃ x : Note, cs = x.enc ∧ x.At W := by
  match cs, hl with
  | [c0, c1, c2, c3, c4, c5, c6, c7, c8, c9, c10, c11, c12, c13, c14, c15, c16, c17, c18, c19], _ =>
    obtain ⟨y, h⟩ := h
    obtain ⟨m, hf⟩ := trod_field Tryz.underlying46 h
    have g0 := hf 0 _ rfl
    have g1 := hf 1 _ rfl
    have g2 := hf 2 _ rfl
    have g3 := hf 3 _ rfl
    have g4 := hf 4 _ rfl
    have g5 := hf 5 _ rfl
    have g6 := hf 6 _ rfl
    have g7 := hf 7 _ rfl
    have g8 := hf 8 _ rfl
    have g9 := hf 9 _ rfl
    have g10 := hf 10 _ rfl
    have g11 := hf 11 _ rfl
    simp only [List.getElem_toArray, List.getElem_cons_zero, List.getElem_cons_succ, kI, kS, kMark, kName, kLog, List.drop, List.take] at g0 g1 g2 g3 g4 g5 g6 g7 g8 g9 g10 g11
    obtain ⟨judge, rfl⟩ := int_cell g0
    obtain ⟨num, rfl⟩ := int_cell g1
    obtain ⟨clock, rfl⟩ := int_cell g2
    obtain ⟨kind, rfl⟩ := int_cell g3
    obtain ⟨call, rfl, _⟩ := str_cell g4
    obtain ⟨version, rfl⟩ := int_cell g5
    obtain ⟨aC, aN, rfl, rfl⟩ := mark_form g7
    obtain ⟨bC, bN, rfl, rfl⟩ := mark_form g8
    obtain ⟨rJ, rN, rfl, rfl⟩ := name_form g9
    obtain ⟨hash, rfl⟩ := int_cell g10
    obtain ⟨prev, rfl⟩ := int_cell g11
    obtain ⟨y6, g6⟩ := g6
    obtain ⟨m2, hf2⟩ := trod_field Tryz.underlying42 g6
    have l0 := hf2 0 _ rfl
    have l1 := hf2 1 _ rfl
    have l2 := hf2 2 _ rfl
    have l3 := hf2 3 _ rfl
    have l4 := hf2 4 _ rfl
    have l5 := hf2 5 _ rfl
    simp only [List.getElem_toArray, List.getElem_cons_zero, List.getElem_cons_succ, kI, kS, kInts, kLines, List.drop, List.take] at l0 l1 l2 l3 l4 l5
    obtain ⟨lcall, rfl, _⟩ := str_cell l0
    obtain ⟨cat, rfl⟩ := int_cell l1
    obtain ⟨pow, rfl⟩ := int_cell l2
    obtain ⟨cl, rfl⟩ := int_cell l3
    obtain ⟨js, hjs⟩ := ints_row l4
    obtain ⟨ls, hls, hcs⟩ := lines_row l5
    exact ⟨⟨⟨judge, num, clock, kind, call, version, ⟨lcall, cat, pow, cl, c10, c11⟩, aC, aN, bC, bN, rJ, rN, hash, prev⟩, js, ls⟩, rfl, hjs, hls, hcs⟩
theorem notes_row {v : Value} (h : TR enc W n 24 [v]) : ∃ xs : List Note, NotesAt W v xs := by
  obtain ⟨xs, h1, h2⟩ := rows_of (encA := Note.enc) 20 (by decide) Tryz.underlying24 kNote (fun x : Note => x.At W) (fun n cs hl hc => note_form hl hc) h
  exact ⟨xs, h1, h2⟩
theorem layout_form {base : Nat} {v : Value} {d : DataW H} {p : List MemPlace} (hv : Value.okWide Tryz.prog W .any base 23 v) (hd : DataW.Trod enc Tryz.prog W 0 (fun _ => true) true 23 v d p) :
    ∃ o : Lay, v = o.val := by
  obtain ⟨w0, w1, w2, y0, y1, y2, n, rfl, _, _, h0, h1, h2⟩ := Go.Joins.open_agg3 Tryz.underlying23 (by kernel_rfl) (by kernel_rfl) hv hd
  obtain ⟨o1, e0, _⟩ := DataW.trod_bool Tryz.underlying4 h0
  obtain ⟨o2, e1, _⟩ := DataW.trod_bool Tryz.underlying4 h1
  obtain ⟨o3, e2, _⟩ := DataW.trod_bool Tryz.underlying4 h2
  simp only [List.cons.injEq, and_true] at e0 e1 e2
  subst e0 e1 e2
  exact ⟨⟨o1, o2, o3⟩, rfl⟩
theorem slice_trod {base : Nat} {t e : TypeId} {v : Value} {d : DataW H} {p : List MemPlace} (ht : Tryz.prog.underlying t = some (.slice e)) (hv : Value.okWide Tryz.prog W .any base t v) (hd : DataW.Trod enc Tryz.prog W 0 (fun _ => true) true t v d p) : ∃ n, TR enc W n t [v] := by
  obtain ⟨fuel, hf⟩ := hd
  obtain ⟨a, len, cap, rfl⟩ := okWide_slice ht hv
  exact ⟨fuel, (d, p), hf⟩
theorem notes_arg {base : Nat} {v : Value} {d : DataW H} {p : List MemPlace} (hv : Value.okWide Tryz.prog W .any base 24 v) (hd : DataW.Trod enc Tryz.prog W 0 (fun _ => true) true 24 v d p) : ∃ xs : List Note, NotesAt W v xs := by
  obtain ⟨n, h⟩ := slice_trod Tryz.underlying24 hv hd
  exact notes_row h
theorem bytes_arg {base : Nat} {v : Value} {d : DataW H} {p : List MemPlace} (hv : Value.okWide Tryz.prog W .any base 57 v) (hd : DataW.Trod enc Tryz.prog W 0 (fun _ => true) true 57 v d p) : ∃ xs : List Int, BytesAt W v xs ∧ AreBytes xs := by
  obtain ⟨n, h⟩ := slice_trod Tryz.underlying57 hv hd
  exact bytes_row h
theorem int_arg {base : Nat} {v : Value} (hv : Value.okWide Tryz.prog W .any base 3 v) : ∃ n, v = .int .i64 n := okWide_int Tryz.underlying3 hv
end
end Go.Proofs.YtlamogpdkmbeoaaGreatDoor
end PartJoinJ

section PartJoinQ
/- Four parameters. -/
set_option linter.unusedVariables false
set_option linter.unusedSimpArgs false
set_option maxRecDepth 100000
namespace Go.Proofs.YtlamogpdkmbeoaaGreatDoor
open Go.ChangeShapes Go.WideShapes Go.ChangeAt Go.RowKit Go.Deep Go.Shelf Go.Lib

theorem post4 {H : Type} {enc : TypeId × Value → H} {fid : FuncId} {f : Func} {t0 t1 t2 t3 : TypeId} {spec : ChangeSpec} (hp : f.params = #[t0, t1, t2, t3]) (hr : f.resultTypes = #[4]) (hv : spec.vars = [])
    (hfn : ∀ d d1 d2 d3 : DataW H, spec.fn H [d, d1, d2, d3] = { results := [.lit (.bool true)], args := [d, d1, d2, d3] }) (hread : Tryz.prog.readableRec t0 = true) (hrow : t0 < Tryz.prog.types.size) (hread1 : Tryz.prog.readableRec t1 = true) (hrow1 : t1 < Tryz.prog.types.size)
    (hread2 : Tryz.prog.readableRec t2 = true) (hrow2 : t2 < Tryz.prog.types.size) (hread3 : Tryz.prog.readableRec t3 = true) (hrow3 : t3 < Tryz.prog.types.size)
    {W : World} {base : Nat} {args : Array Value} {ds gs : List (DataW H)} {before : List MemPlace}
    (hval : ∀ (j : Nat) t v, f.params[j]? = some t → args[j]? = some v → Value.okWide Tryz.prog W .any base t v)
    (hW : DataW.Whole enc Tryz.prog f.params.toList spec.vars false W args.toList ds gs before)
    (walk : ∀ v0 d0 p0 v1 d1 p1 v2 d2 p2 v3 d3 p3, Value.okWide Tryz.prog W .any base t0 v0 → DataW.Trod enc Tryz.prog W 0 (fun _ => true) true t0 v0 d0 p0 → Value.okWide Tryz.prog W .any base t1 v1 → DataW.Trod enc Tryz.prog W 0 (fun _ => true) true t1 v1 d1 p1 →
      Value.okWide Tryz.prog W .any base t2 v2 → DataW.Trod enc Tryz.prog W 0 (fun _ => true) true t2 v2 d2 p2 →
      Value.okWide Tryz.prog W .any base t3 v3 → DataW.Trod enc Tryz.prog W 0 (fun _ => true) true t3 v3 d3 p3 →
      Calls Tryz.prog fid #[v0, v1, v2, v3] W fun e w' => e = .returned (.bool true) ∧ Below W.heap.size W w') :
    Calls Tryz.prog fid args W fun e W' => ∃ v, e = .returned v ∧ spec.post enc Tryz.prog f false true false false W args v W' := by
  have hW' := hW
  obtain ⟨p, q, hA, hV, rfl, hfz, hnd⟩ := hW
  rw [hp] at hA hval
  rw [hv] at hV
  obtain ⟨v0, vs0, d0, ds0, p0, q0, hargs, rfl, rfl, h0, r0⟩ := trodAll_cons hA
  obtain ⟨v1, vs1, d1, ds1, p1, q1, rfl, rfl, rfl, h1, r1⟩ := trodAll_cons r0
  obtain ⟨v2, vs2, d2, ds2, p2, q2, rfl, rfl, rfl, h2, r2⟩ := trodAll_cons r1
  obtain ⟨v3, vs3, d3, ds3, p3, q3, rfl, rfl, rfl, h3, r3⟩ := trodAll_cons r2
  obtain ⟨rfl, rfl, rfl⟩ := trodAll_nil r3
  obtain rfl : args = #[v0, v1, v2, v3] := by cases args; simp_all
  obtain ⟨rfl, rfl⟩ := trodVars_none hV
  refine (walk v0 d0 p0 v1 d1 p1 v2 d2 p2 v3 d3 p3 (hval 0 t0 v0 rfl rfl) h0 (hval 1 t1 v1 rfl rfl) h1 (hval 2 t2 v2 rfl rfl) h2 (hval 3 t3 v3 rfl rfl) h3).mono fun e W' ⟨he, hb⟩ => ?_
  subst he
  have hlt : ∀ x ∈ p0, x.block < W.heap.size := fun x hx => by simpa using hW'.lt x (by simp [hx])
  have hlt1 : ∀ x ∈ p1, x.block < W.heap.size := fun x hx => by simpa using hW'.lt x (by simp [hx])
  have hlt2 : ∀ x ∈ p2, x.block < W.heap.size := fun x hx => by simpa using hW'.lt x (by simp [hx])
  have hlt3 : ∀ x ∈ p3, x.block < W.heap.size := fun x hx => by simpa using hW'.lt x (by simp [hx])
  have h0' := Below.trod laidOutT hread hrow h0 hb hlt
  have h1' := Below.trod laidOutT hread1 hrow1 h1 hb hlt1
  have h2' := Below.trod laidOutT hread2 hrow2 h2 hb hlt2
  have h3' := Below.trod laidOutT hread3 hrow3 h3 hb hlt3
  refine ⟨_, rfl, _, _, _, [], p0 ++ (p1 ++ (p2 ++ p3)), [], by simpa using hW', ?_, ?_, ?_, hb.frame _, fun h => by cases h⟩
  · rw [hr]
    show DataW.TrodAll _ _ _ _ _ _ [4] [Value.bool true] _ _
    rw [List.append_nil, hfn]
    exact trodAll_cons_mk (p := []) (p' := []) (shut_bool Tryz.underlying4 _) trodAll_mk0
  · rw [hp, List.append_nil, hfn]
    have := trodAll_cons_mk h0' (trodAll_cons_mk h1' (trodAll_cons_mk h2' (trodAll_cons_mk h3' (trodAll_mk0 (enc := enc) (P := Tryz.prog) (w := W')))))
    simpa using this
  · rw [hv, List.append_nil, hfn]; rfl
end Go.Proofs.YtlamogpdkmbeoaaGreatDoor
end PartJoinQ
