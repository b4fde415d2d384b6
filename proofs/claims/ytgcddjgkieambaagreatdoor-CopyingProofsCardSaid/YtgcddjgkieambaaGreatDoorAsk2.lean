/- An Ask's steps and its table, opened; steps and tables from any address. -/
import Derived.Test.YtgcddjgkieambaaGreatDoorAsk
import Derived.Test.YtgcddjgkieambaaGreatDoorAwake
import Derived.Deep.Matrix
set_option linter.unusedVariables false
set_option linter.unusedSimpArgs false
set_option maxRecDepth 100000
namespace Go.Proofs.YtgcddjgkieambaaGreatDoor
open Go.ChangeShapes Go.WideShapes Go.ChangeAt Go.RowKit Go.Deep

/-- A list of steps in memory, from any place of a block. -/
def StepsG (w : World) (A : Option Addr) (l : List (Int × Int × Int)) : Prop := ∀ j, j < l.length → ∃ g o : Nat, A = some ⟨g, o, none⟩ ∧ g < w.heap.size ∧
  w.cell? ⟨g, o + j * 3, none⟩ = some (.int .i64 (l.getD j (0, 0, 0)).1) ∧ w.cell? ⟨g, o + j * 3 + 1, none⟩ = some (.int .i64 (l.getD j (0, 0, 0)).2.1) ∧ w.cell? ⟨g, o + j * 3 + 2, none⟩ = some (.int .i64 (l.getD j (0, 0, 0)).2.2)
theorem StepsG.later {w w' : World} {A : Option Addr} {l : List (Int × Int × Int)} (h : StepsG w A l) (hb : Below w.heap.size w w') : StepsG w' A l := fun j hj => by
  obtain ⟨g, o, e, hl, h0, h1, h2⟩ := h j hj
  exact ⟨g, o, e, Nat.lt_of_lt_of_le hl hb.size, (hb.cell (p := ⟨g, o + j * 3, none⟩) hl).trans h0, (hb.cell (p := ⟨g, o + j * 3 + 1, none⟩) hl).trans h1, (hb.cell (p := ⟨g, o + j * 3 + 2, none⟩) hl).trans h2⟩
theorem StepsAt.toG {w : World} {A : Option Addr} {l : List (Int × Int × Int)} (h : StepsAt w A l) : StepsG w A l := fun j hj => by
  obtain ⟨g, e, hl, h0, h1, h2⟩ := h j hj
  exact ⟨g, 0, e, hl, by rw [Nat.zero_add]; exact h0, by rw [Nat.zero_add]; exact h1, by rw [Nat.zero_add]; exact h2⟩

/-- A table of numbers in memory, from any address. -/
def RowsG (w : World) (A : Option Addr) (L : List (List Int)) : Prop := ∀ j, j < L.length → ∃ a : Addr, A = some a ∧ a.block < w.heap.size ∧ ∃ R c, w.cell? (a.add j) = some (.slice R (L.getD j []).length c) ∧ Nums w R (L.getD j [])
theorem RowsG.later {w w' : World} {A : Option Addr} {L : List (List Int)} (h : RowsG w A L) (hb : Below w.heap.size w w') : RowsG w' A L := fun j hj => by
  obtain ⟨a, e, hl, R, c, h0, h1⟩ := h j hj
  exact ⟨a, e, Nat.lt_of_lt_of_le hl hb.size, R, c, (hb.cell (by rw [add_block]; exact hl)).trans h0, h1.later hb⟩
theorem getD_rangeMap {α : Type} (n : Nat) (f : Nat → α) (d : α) {j : Nat} (h : j < n) : ((List.range n).map f).getD j d = f j := by
  simp [List.getD, h]
/-- The rows of a table. -/
def rowsOf (n m : Nat) (f : Nat → Nat → Int) : List (List Int) := (List.range n).map fun i => (List.range m).map (f i)
theorem Tab.toG {w : World} {B : Nat} {v : Value} {n m : Nat} {f : Nat → Nat → Int} (h : Tab w B v n m f) : ∃ A, v = .slice A (rowsOf n m f).length n ∧ RowsG w A (rowsOf n m f) := by
  obtain ⟨g, r, rfl, _, hg, hr⟩ := h
  have hL : (rowsOf n m f).length = n := by simp [rowsOf]
  refine ⟨some ⟨g, 0, none⟩, by rw [hL], fun j hj => ?_⟩
  rw [hL] at hj
  have e : (rowsOf n m f).getD j [] = (List.range m).map (f j) := getD_rangeMap n _ _ hj
  refine ⟨⟨g, 0, none⟩, rfl, hg.lt, some ⟨r j, 0, none⟩, m, ?_, ?_⟩
  · rw [e, Addr.add_lit, Nat.zero_add, hg.cell hj]; simp
  · rw [e]
    intro k hk
    have hk' : k < m := by simpa using hk
    refine ⟨⟨r j, 0, none⟩, rfl, (hr j hj).2.lt, ?_⟩
    rw [Addr.add_lit, Nat.zero_add, (hr j hj).2.cell hk', getD_rangeMap m _ _ hk']

theorem steps_open {H : Type} {enc : TypeId × Value → H} {W : World} {n : Nat} {v : Value} {y : DataW H × List MemPlace} (h : DataW.trod enc Tryz.prog W 0 (fun _ => true) true n 30 [v] = some y) : ∃ A c l, v = .slice A l.length c ∧ StepsG W A l := by
  rcases open_slice Tryz.underlying30 h with ⟨hc, _⟩ | ⟨a, len, cap, m, n', D, Pl, hc, _, hl, hm, hmm, hx, hall⟩
  · simp only [List.cons.injEq, and_true] at hc
    exact ⟨none, 0, [], hc, fun j hj => by simp at hj⟩
  · simp only [List.cons.injEq, and_true] at hc
    simp only [if_true] at hmm
    have ce : Tryz.prog.cellsOf 34 = 3 := by kernel_rfl
    have c3 : Tryz.prog.cellsOf 3 = 1 := by kernel_rfl
    have each : ∀ i, i < m → ∃ q : Int × Int × Int, W.cell? (a.add (i * 3)) = some (.int .i64 q.1) ∧ W.cell? (a.add (i * 3 + 1)) = some (.int .i64 q.2.1) ∧ W.cell? (a.add (i * 3 + 2)) = some (.int .i64 q.2.2) := by
      intro i hi
      obtain ⟨cs', h1, h2⟩ := hall i hi
      rw [ce] at h1
      obtain ⟨_, hlen, hcell⟩ := World.cells?_some h1
      obtain ⟨xs, k, hk, hxy, _, hxl, hf⟩ := DataW.trod_struct Tryz.underlying34 h2
      match xs, hxl, cs', hlen with
      | [y0, y1, y2], _, [v0, v1, v2], _ =>
        have g0 := hf 0 _ rfl
        have g1 := hf 1 _ rfl
        have g2 := hf 2 _ rfl
        simp [c3] at g0 g1 g2
        have e0 := hcell 0 (by omega)
        have e1 := hcell 1 (by omega)
        have e2 := hcell 2 (by omega)
        rw [Go.Deep.add_add] at e0 e1 e2
        obtain ⟨m0, hm0, _, _⟩ := DataW.trod_int Tryz.underlying3 g0
        obtain ⟨m1, hm1, _, _⟩ := DataW.trod_int Tryz.underlying3 g1
        obtain ⟨m2, hm2, _, _⟩ := DataW.trod_int Tryz.underlying3 g2
        simp only [List.cons.injEq, and_true] at hm0 hm1 hm2
        subst hm0 hm1 hm2
        exact ⟨(m0, m1, m2), by simpa using e0, by simpa using e1, by simpa using e2⟩
    obtain ⟨q, hq⟩ := choose_lt each
    have hll : ((List.range len).map q).length = len := by simp
    refine ⟨some a, cap, (List.range len).map q, by rw [hll]; exact hc, fun j hj => ?_⟩
    rw [hll] at hj
    obtain ⟨h0, h1, h2⟩ := hq j (by omega)
    rw [getD_rangeMap len q _ hj]
    obtain ⟨g, o, spot⟩ := a
    have hspot : spot = none := by simpa [Addr.add] using World.cell?_spot (hq 0 (by omega)).1
    subst hspot
    rw [Addr.add_lit] at h0 h1 h2
    refine ⟨g, o, rfl, ?_, h0, by rw [Nat.add_assoc]; exact h1, by rw [Nat.add_assoc]; exact h2⟩
    exact World.block_lt_of_cell? W _ h0
theorem rows_open {H : Type} {enc : TypeId × Value → H} {W : World} {n : Nat} {v : Value} {y : DataW H × List MemPlace} (h : DataW.trod enc Tryz.prog W 0 (fun _ => true) true n 37 [v] = some y) : ∃ A c L, v = .slice A (List.length L) c ∧ RowsG W A L ∧ ∀ r ∈ L, r.length ≤ maxLen := by
  rcases open_int_rows Tryz.underlying37 Tryz.underlying38 Tryz.underlying3 (by kernel_rfl) (by kernel_rfl) h with ⟨hc, _⟩ | ⟨a, len, cap, A, L, C, Z, hc, _, hl, hm, hx, hall⟩
  · simp only [List.cons.injEq, and_true] at hc
    exact ⟨none, 0, [], hc, fun j hj => by simp at hj, fun r hr => by cases hr⟩
  · simp only [List.cons.injEq, and_true] at hc
    have hll : ((List.range len).map fun r => (Z r).take (L r)).length = len := by simp
    refine ⟨some a, cap, (List.range len).map fun r => (Z r).take (L r), by rw [hll]; exact hc, fun j hj => ?_, fun r hr => ?_⟩
    · rw [hll] at hj
      obtain ⟨h0, h1, h2, h3, _, h4, h5⟩ := hall j (by omega)
      rw [getD_rangeMap len _ _ hj]
      have hb := World.block_lt_of_cell? W _ h0
      rw [add_block] at hb
      have ht : ((Z j).take (L j)).length = L j := by rw [List.length_take, h3]; omega
      refine ⟨a, rfl, hb, A j, C j, by rw [ht]; exact h0, fun k hk => ?_⟩
      rw [ht] at hk
      cases hA : A j with
      | none => have := h4 hA; omega
      | some a' =>
        have hcl := (h5 a' hA).2 k (by omega)
        have hb' := World.block_lt_of_cell? W _ hcl
        rw [add_block] at hb'
        refine ⟨a', rfl, hb', ?_⟩
        rw [hcl]
        congr 2
        simp [List.getD, hk]
    · obtain ⟨j, hj, rfl⟩ := List.mem_map.1 hr
      have hj' := List.mem_range.1 hj
      obtain ⟨_, h1, h2, h3, _⟩ := hall j (by omega)
      rw [List.length_take]; omega
end Go.Proofs.YtgcddjgkieambaaGreatDoor
