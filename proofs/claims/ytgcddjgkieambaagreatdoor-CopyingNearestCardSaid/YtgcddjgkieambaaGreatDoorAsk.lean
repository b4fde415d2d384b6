/- A parameter of the type Ask: numbers, texts, lists; what of it lies in memory. -/
import Derived.Test.YtgcddjgkieambaaGreatDoorJoin
import Derived.ChangeSlices
import Derived.Lib.SmallJoins
set_option linter.unusedVariables false
set_option maxRecDepth 100000
namespace Go.Proofs.YtgcddjgkieambaaGreatDoor
open Go.ChangeShapes Go.WideShapes Go.ChangeAt Go.RowKit Go.Deep

theorem array12 {α : Type} {cs : Array α} (h : cs.size = 12) : ∃ c0 c1 c2 c3 c4 c5 c6 c7 c8 c9 c10 c11, cs = #[c0, c1, c2, c3, c4, c5, c6, c7, c8, c9, c10, c11] := by
  obtain ⟨l⟩ := cs
  match l, h with
  | [c0, c1, c2, c3, c4, c5, c6, c7, c8, c9, c10, c11], _ => exact ⟨c0, c1, c2, c3, c4, c5, c6, c7, c8, c9, c10, c11, rfl⟩

section
variable {H : Type} {enc : TypeId × Value → H} {P : Program} {w : World} {base : Nat} {spare : Nat → Bool} {held : Bool}
/-- A struct by value, all of whose fields are one cell: cell by cell. -/
theorem open_fields {r : Reach} {b0 : Nat} {t : TypeId} {fs : Array Field} {v : Value} {d : DataW H} {p : List MemPlace} (hs : P.underlying t = some (.struct fs)) (hone : oneCellFields P fs = true) (hC : P.cellsOf t = fs.size)
    (hv : Value.okWide P w r b0 t v) (h : DataW.Trod enc P w base spare held t v d p) :
    ∃ (cs : Array Value) (n : Nat), v = .agg cs ∧ cs.size = fs.size ∧ ∀ (j : Nat) (f : Field), fs[j]? = some f → ∃ c y, cs[j]? = some c ∧ DataW.trod enc P w base spare held n f.type [c] = some y := by
  obtain ⟨cs, rfl, hsz⟩ := okWide_struct hs hv
  obtain ⟨fuel, hf⟩ := h
  obtain ⟨xs, n, _, hx, _, hlen, hfs⟩ := DataW.trod_struct hs hf
  refine ⟨cs, n, rfl, hsz.trans hC, fun j f hj => ?_⟩
  obtain ⟨o, k⟩ := hone_of hone j f hj
  have hjl : j < fs.size := (Array.getElem?_eq_some_iff.1 hj).1
  have hjc : j < cs.size := by rw [hsz, hC]; exact hjl
  have hjx : j < xs.length := by rw [hlen]; exact hjl
  have h1 := hfs j f hj
  rw [o, k, List.getElem?_eq_getElem hjx] at h1
  refine ⟨cs[j], xs[j], Array.getElem?_eq_getElem hjc, ?_⟩
  rw [← h1]
  have hl : j < cs.toList.length := by simpa using hjc
  have : (Value.agg cs).cells.toList = cs.toList := rfl
  rw [this, List.drop_eq_getElem_cons hl, List.take_succ_cons, List.take_zero]
  simp
end

/-- A cell that reads as a slice of numbers is one. -/
theorem nums_open {H : Type} {enc : TypeId × Value → H} {W : World} {n : Nat} {v : Value} {y : DataW H × List MemPlace} (h : DataW.trod enc Tryz.prog W 0 (fun _ => true) true n 38 [v] = some y) : ∃ A c l, v = .slice A l.length c ∧ Nums W A l := by
  rcases open_ints Tryz.underlying38 Tryz.underlying3 (by kernel_rfl) h with ⟨hc, _⟩ | ⟨a, len, cap, zs, hc, _, hlc, hm, hz, _, hcell, hwf⟩
  · simp only [List.cons.injEq, and_true] at hc
    exact ⟨none, 0, [], hc, fun j hj => by simp at hj⟩
  · simp only [List.cons.injEq, and_true] at hc
    have hz : zs.length = cap := by simpa using hz
    have hl : (zs.take len).length = len := by rw [List.length_take, hz]; omega
    refine ⟨some a, cap, zs.take len, by rw [hl]; exact hc, fun j hj => ⟨a, rfl, ?_, ?_⟩⟩
    · rw [hl] at hj
      have := World.block_lt_of_cell? W _ (hcell j (by rw [hz]; omega))
      rwa [add_block] at this
    · rw [hl] at hj
      rw [hcell j (by rw [hz]; omega)]
      congr 2
      simp [List.getD, hj]

theorem ask_open {H : Type} {enc : TypeId × Value → H} {W : World} {base fid : Nat} {v0 : Value} {d0 : DataW H} {p0 : List MemPlace} {Q : Ending → World → Prop}
    (hv : Value.okWide Tryz.prog W .any base 40 v0) (hd : DataW.Trod enc Tryz.prog W 0 (fun _ => true) true 40 v0 d0 p0)
    (walk : ∀ (mode : Int) (x y code : ByteArray) (a b most : Int) (v7 v8 v9 v10 v11 : Value) (n : Nat) (y7 y8 y9 y10 y11 : DataW H × List MemPlace), x.size ≤ maxLen → y.size ≤ maxLen → code.size ≤ maxLen →
      DataW.trod enc Tryz.prog W 0 (fun _ => true) true n 36 [v7] = some y7 → DataW.trod enc Tryz.prog W 0 (fun _ => true) true n 37 [v8] = some y8 → DataW.trod enc Tryz.prog W 0 (fun _ => true) true n 30 [v9] = some y9 →
      DataW.trod enc Tryz.prog W 0 (fun _ => true) true n 38 [v10] = some y10 → DataW.trod enc Tryz.prog W 0 (fun _ => true) true n 38 [v11] = some y11 →
      Calls Tryz.prog fid #[.agg #[.int .i64 mode, .string x, .string y, .string code, .int .i64 a, .int .i64 b, .int .i64 most, v7, v8, v9, v10, v11]] W Q) : Calls Tryz.prog fid #[v0] W Q := by
  obtain ⟨cs, n, rfl, hsz, hall⟩ := open_fields Tryz.underlying40 (by kernel_rfl) (by kernel_rfl) hv hd
  obtain ⟨c0, c1, c2, c3, c4, c5, c6, c7, c8, c9, c10, c11, rfl⟩ := array12 hsz
  obtain ⟨_, y0, e, h0⟩ := hall 0 _ rfl
  cases Option.some.inj e
  obtain ⟨_, y1, e, h1⟩ := hall 1 _ rfl
  cases Option.some.inj e
  obtain ⟨_, y2, e, h2⟩ := hall 2 _ rfl
  cases Option.some.inj e
  obtain ⟨_, y3, e, h3⟩ := hall 3 _ rfl
  cases Option.some.inj e
  obtain ⟨_, y4, e, h4⟩ := hall 4 _ rfl
  cases Option.some.inj e
  obtain ⟨_, y5, e, h5⟩ := hall 5 _ rfl
  cases Option.some.inj e
  obtain ⟨_, y6, e, h6⟩ := hall 6 _ rfl
  cases Option.some.inj e
  obtain ⟨_, y7, e, h7⟩ := hall 7 _ rfl
  cases Option.some.inj e
  obtain ⟨_, y8, e, h8⟩ := hall 8 _ rfl
  cases Option.some.inj e
  obtain ⟨_, y9, e, h9⟩ := hall 9 _ rfl
  cases Option.some.inj e
  obtain ⟨_, y10, e, h10⟩ := hall 10 _ rfl
  cases Option.some.inj e
  obtain ⟨_, y11, e, h11⟩ := hall 11 _ rfl
  cases Option.some.inj e
  obtain ⟨z0, e0, _⟩ := DataW.trod_int Tryz.underlying3 h0
  obtain ⟨z1, e1, _, l1⟩ := DataW.trod_string Tryz.underlying9 h1
  obtain ⟨z2, e2, _, l2⟩ := DataW.trod_string Tryz.underlying9 h2
  obtain ⟨z3, e3, _, l3⟩ := DataW.trod_string Tryz.underlying9 h3
  obtain ⟨z4, e4, _⟩ := DataW.trod_int Tryz.underlying3 h4
  obtain ⟨z5, e5, _⟩ := DataW.trod_int Tryz.underlying3 h5
  obtain ⟨z6, e6, _⟩ := DataW.trod_int Tryz.underlying3 h6
  simp only [List.cons.injEq, and_true] at e0 e1 e2 e3 e4 e5 e6
  subst e0 e1 e2 e3 e4 e5 e6
  exact walk z0 z1 z2 z3 z4 z5 z6 c7 c8 c9 c10 c11 n y7 y8 y9 y10 y11 l1 l2 l3 h7 h8 h9 h10 h11
end Go.Proofs.YtgcddjgkieambaaGreatDoor
