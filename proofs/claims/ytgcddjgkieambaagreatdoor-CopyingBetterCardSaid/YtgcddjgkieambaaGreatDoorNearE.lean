/- Texts of a parameter; what an answer without an error says of the texts. -/
import Derived.Test.YtgcddjgkieambaaGreatDoorNearD
import Derived.Test.YtgcddjgkieambaaGreatDoorRises
import Derived.Test.YtgcddjgkieambaaGreatDoorAsk
import Derived.SliceStrings
set_option linter.unusedVariables false
set_option linter.unusedSimpArgs false
namespace Go.Proofs.YtgcddjgkieambaaGreatDoor
open Go.RowKit Go.Maps

theorem StrsP.place {w : World} {A : Option Addr} {L : List ByteArray} (h : StrsP w A L) (h0 : 0 < L.length) :
    ∃ (g o : Nat), A = some ⟨g, o, none⟩ ∧ g < w.heap.size ∧ ∀ k, k < L.length → w.cell? ⟨g, o + k, none⟩ = some (.string (L.getD k ByteArray.empty)) := by
  obtain ⟨a, rfl, hb, hc0⟩ := h 0 h0
  have hsp : a.spot = none := by
    have := World.cell?_spot hc0
    simpa [Addr.add] using this
  obtain ⟨g, o, sp⟩ := a
  simp only at hsp
  subst hsp
  refine ⟨g, o, rfl, hb, fun k hk => ?_⟩
  obtain ⟨a', e, _, hc⟩ := h k hk
  injection e with e
  rw [← e, Addr.add_lit] at hc
  exact hc
theorem Nums.place0 {w : World} {A : Option Addr} {l : List Int} (h : Nums w A l) (h0 : 0 < l.length) :
    ∃ (g o : Nat), A = some ⟨g, o, none⟩ ∧ g < w.heap.size ∧ ∀ k, k < l.length → w.cell? ⟨g, o + k, none⟩ = some (.int .i64 (l.getD k 0)) := by
  obtain ⟨a, rfl, hb, hc0⟩ := h 0 h0
  have hsp : a.spot = none := by
    have := World.cell?_spot hc0
    simpa [Addr.add] using this
  obtain ⟨g, o, sp⟩ := a
  simp only at hsp
  subst hsp
  refine ⟨g, o, rfl, hb, fun k hk => ?_⟩
  obtain ⟨a', e, _, hc⟩ := h k hk
  injection e with e
  rw [← e, Addr.add_lit] at hc
  exact hc
theorem nrE_err {m : Int} {h : ByteArray} {L : List ByteArray} (h0 : nrE m h L = 0) : ∀ j, j < L.length → errOf m (L.getD j ByteArray.empty) h = 0 := by
  unfold nrE at h0
  intro j hj
  split at h0
  · omega
  · rename_i hm
    split at h0
    · omega
    · rename_i hl
      split at h0
      · rename_i hc
        have hs := getD_mem hj
        refine errOf_of ⟨Classical.not_not.1 hm, ?_, by omega, (okText_iff _).1 (List.all_eq_true.1 hc.2 _ hs), (okText_iff _).1 hc.1⟩
        rcases Nat.lt_or_ge 64 (L.getD j ByteArray.empty).size with h1 | h1
        · exact absurd (.inr (.inr (List.any_eq_true.2 ⟨_, hs, by simpa using h1⟩))) hl
        · exact h1
      · omega
/-- How often a number stands in the first places. -/
def cntN (r : List Int) (i j : Nat) : Int := if (j : Int) ∈ r.take i then 1 else 0
theorem cntN_zero (r : List Int) (j : Nat) : cntN r 0 j = 0 := by unfold cntN; rw [if_neg (by simp)]
theorem take_snoc (r : List Int) (i : Nat) (h : i < r.length) : r.take (i + 1) = r.take i ++ [r[i]'h] := by rw [List.take_add_one, List.getElem?_eq_getElem h]; rfl
theorem cntN_next {r : List Int} {i : Nat} (h : i < r.length) (x : Nat) (hx : r[i]'h = (x : Int)) (j : Nat) : cntN r (i + 1) j = if j = x then 1 else cntN r i j := by
  unfold cntN
  rw [take_snoc r i h, hx]
  by_cases e : j = x
  · rw [if_pos e, if_pos (by rw [e]; simp)]
  · rw [if_neg e]
    have : ((j : Int) ∈ r.take i ++ [(x : Int)]) ↔ (j : Int) ∈ r.take i := by
      rw [List.mem_append, List.mem_singleton]
      exact ⟨fun h => h.elim id fun h => absurd (by omega) e, .inl⟩
    by_cases h2 : (j : Int) ∈ r.take i
    · rw [if_pos h2, if_pos (this.2 h2)]
    · rw [if_neg h2, if_neg (fun h => h2 (this.1 h))]
theorem cntN_new {key : Int → Int} {r : List Int} (hu : St.Up key r) {i : Nat} (h : i < r.length) (x : Nat) (hx : r[i]'h = (x : Int)) : cntN r i x = 0 := by
  unfold cntN
  rw [if_neg]
  intro hm
  obtain ⟨k, hk, hke⟩ := List.getElem_of_mem hm
  rw [List.length_take] at hk
  rw [List.getElem_take] at hke
  have := List.pairwise_iff_getElem.1 hu k i (by omega) h (by omega)
  rw [hke, hx] at this
  unfold St.lx at this
  omega
theorem cntN_all {key : Int → Int} {most : Int} {n : Nat} {r : List Int} (hN : Near key most n r) (j : Nat) (hj : j < n) : cntN r r.length j = if key (j : Int) ≤ most then 1 else 0 := by
  unfold cntN
  rw [List.take_of_length_le (Nat.le_refl _)]
  by_cases h : key (j : Int) ≤ most
  · rw [if_pos h, if_pos (hN.2.mem_iff.2 (nfil_of hj h))]
  · rw [if_neg h, if_neg (fun hm => h (hN.mem hm).2.2)]
/-- The last cost that was met. -/
def lastC (key : Int → Int) (r : List Int) (i : Nat) : Int := if i = 0 then 0 else key (r.getD (i - 1) 0)

theorem cells9 : Tryz.prog.cellsOf 9 = 1 := by kernel_rfl
/-- A cell that reads as a slice of texts is one. -/
theorem strs_open {H : Type} {enc : TypeId × Value → H} {W : World} {n : Nat} {v : Value} {y : DataW H × List MemPlace} (h : DataW.trod enc Tryz.prog W 0 (fun _ => true) true n 36 [v] = some y) : ∃ A c L, v = .slice A L.length c ∧ StrsP W A L := by
  rcases Go.ChangeShapes.open_strings Tryz.underlying36 Tryz.underlying9 cells9 h with ⟨hc, _⟩ | ⟨a, len, cap, ss, hc, _, hlc, hm, hz, _, hcell, hwf⟩
  · simp only [List.cons.injEq, and_true] at hc
    exact ⟨none, 0, [], hc, fun j hj => by simp at hj⟩
  · simp only [List.cons.injEq, and_true] at hc
    have hz : ss.length = cap := by simpa using hz
    have hl : (ss.take len).length = len := by rw [List.length_take, hz]; omega
    refine ⟨some a, cap, ss.take len, by rw [hl]; exact hc, fun j hj => ⟨a, rfl, ?_, ?_⟩⟩
    · rw [hl] at hj
      have := World.block_lt_of_cell? W _ (hcell j (by rw [hz]; omega))
      rwa [add_block] at this
    · rw [hl] at hj
      rw [hcell j (by rw [hz]; omega)]
      congr 2
      simp [List.getD, hj]
end Go.Proofs.YtgcddjgkieambaaGreatDoor
