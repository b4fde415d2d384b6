/- The walk of 'indices' at texts that are not too long. -/
import Derived.Test.YtgcddjgkieambaaGreatDoorIndices
import Derived.Deep.AppendLies
set_option linter.unusedVariables false
set_option linter.unusedSimpArgs false
namespace Go.Proofs.YtgcddjgkieambaaGreatDoor
open Go.RowKit

/-- Nothing but block g, and what is new, has turned. -/
theorem only_drew {a w : World} {row : Option Nat} (h : a.grownBy w row) : a.grownBy w.drew row := ⟨h.os, h.tape, h.output, h.size, h.block⟩
theorem only_trans {a b c : World} {g : Nat} {row : Option Nat} (h : a.grownBy b (some g)) (k : b.grownBy c row) (hr : ∀ r, row = some r → r = g ∨ a.heap.size ≤ r) : a.grownBy c (some g) :=
  ⟨k.os.trans h.os, k.tape.trans h.tape, k.output.trans h.output, Nat.le_trans h.size k.size, fun i hi hne =>
    (k.block i (Nat.lt_of_lt_of_le hi h.size) (fun e => by
      rcases hr i e.symm with rfl | h
      · exact hne rfl
      · omega)).trans (h.block i hi hne)⟩
theorem only_alloc {a w : World} {g : Nat} (h : a.grownBy w (some g)) (o : Obj) : a.grownBy (w.alloc o) (some g) :=
  only_trans h (World.grownBy_alloc w o none) (fun _ e => by cases e)
theorem only_set {a w : World} {g : Nat} (h : a.grownBy w (some g)) (i : Nat) (u : Value) : a.grownBy (w.setCell ⟨g, i, none⟩ u) (some g) :=
  ⟨h.os, h.tape, h.output, by simpa [World.setCell] using h.size, fun k hk hne => (Below.heap_setCell w _ u k (by rintro rfl; exact hne rfl)).trans (h.block k hk hne)⟩
theorem below_only {B : Nat} {a w w' : World} {g : Nat} (h : Below B a w) (k : w.grownBy w' (some g)) (hg : B ≤ g) (hB : B ≤ w.heap.size) : Below B a w' :=
  h.trans ⟨k.os, k.tape, k.output, k.size, fun i hi => k.block i (by omega) (fun e => by injection e; omega)⟩
theorem Idx.only {w w' : World} {A : Option Addr} {n : Nat} {s : List Nat} {g : Nat} (h : Idx w A n s) (hb : w.grownBy w' (some g)) (hg : ∀ b, A = some ⟨b, 0, none⟩ → 0 < s.length → b ≠ g) : Idx w' A n s :=
  ⟨h.1, fun hp => by
    obtain ⟨b, e, hl, hc⟩ := h.2 hp
    exact ⟨b, e, Nat.lt_of_lt_of_le hl hb.size, fun j hj => (hb.cell_far ⟨b, j, none⟩ hl (fun e' => hg b e hp (by injection e'))).trans (hc j hj)⟩⟩

/-- The indices of the characters of a text. -/
def row (s : ByteArray) : List Nat := s.data.toList.map (fun c => (Cm.ixc c).toNat)
def allChars (s : ByteArray) : Prop := ∀ c ∈ s.data.toList, 0 ≤ Cm.ixc c
theorem row_length (s : ByteArray) : (row s).length = s.size := by simp [row]

/-- A text that is taken apart, as a slice in memory. -/
def RowV (w : World) (g : Nat) (v : Value) (s : ByteArray) : Prop := ∃ A c, v = .slice A s.size c ∧ Idx w A s.size (row s) ∧ ∀ b, A = some ⟨b, 0, none⟩ → b ≠ g

/-- The first k texts are done. -/
def IndO (w : World) (L : List ByteArray) (k : Nat) (wr : World) : Prop :=
  ∃ vals : Nat → Value, RowA wr w.heap.size 38 L.length (fun j => if j < k then vals j else .slice none 0 0) ∧
    (∀ j, j < k → RowV wr w.heap.size (vals j) (L.getD j ByteArray.empty) ∧ allChars (L.getD j ByteArray.empty)) ∧ Below w.heap.size w wr

/-- Of text k the first i characters are done. -/
def IndI (w : World) (L : List ByteArray) (k : Nat) (vals : Nat → Value) (wo : World) (i : Nat) (wx : World) : Prop :=
  ∃ v, RowA wx w.heap.size 38 L.length (fun j => if j < k then vals j else if j = k then v else .slice none 0 0) ∧
    wx.ownsRow wo.heap.size 3 1 v i (((row (L.getD k ByteArray.empty)).take i).map fun (z : Nat) => .int .i64 z) ∧ wo.grownBy wx (some w.heap.size) ∧
    ∀ c ∈ (L.getD k ByteArray.empty).data.toList.take i, 0 ≤ Cm.ixc c

theorem IndI.start {w : World} {L : List ByteArray} {k : Nat} {vals : Nat → Value} {wo : World}
    (h : RowA wo w.heap.size 38 L.length (fun j => if j < k then vals j else .slice none 0 0)) : IndI w L k vals wo 0 wo :=
  ⟨.slice none 0 0, h.congr fun j hj => by
    by_cases e : j < k
    · simp [e]
    · simp [e], by simpa using World.ownsRow_nil wo wo.heap.size 3 1, World.grownBy.refl _ _, by simp⟩

theorem IndI.done {w : World} {L : List ByteArray} {k : Nat} {vals : Nat → Value} {wo wx : World} (h : IndI w L k vals wo (L.getD k ByteArray.empty).size wx)
    (hv : ∀ j, j < k → RowV wo w.heap.size (vals j) (L.getD j ByteArray.empty) ∧ allChars (L.getD j ByteArray.empty)) (hb : Below w.heap.size w wo) (hk : RowA wo w.heap.size 38 L.length (fun j => if j < k then vals j else .slice none 0 0)) : IndO w L (k + 1) wx := by
  obtain ⟨v, h1, h2, h3, h4⟩ := h
  have hw := hb.size
  refine ⟨fun j => if j = k then v else vals j, h1.congr fun j hj => ?_, fun j hj => ?_, below_only hb h3 (Nat.le_refl _) hw⟩
  · by_cases e : j = k
    · subst e; simp
    · by_cases e2 : j < k
      · simp [e, e2, show j < k + 1 by omega]
      · simp [e, e2, show ¬ j < k + 1 by omega]
  · by_cases e : j = k
    · subst e
      simp only [if_true]
      refine ⟨?_, fun c hc => h4 c (by rw [List.take_of_length_le (by simp)]; exact hc)⟩
      obtain ⟨s, hs⟩ : ∃ s, s = L.getD j ByteArray.empty := ⟨_, rfl⟩
      rw [← hs] at h2 ⊢
      have hl := row_length s
      rw [List.take_of_length_le (by omega)] at h2
      rcases h2.2 with ⟨rfl, h0⟩ | ⟨g, cap, cur, hv', hg, hh, _⟩
      · exact ⟨none, 0, by rw [h0], ⟨hl.symm, fun hp => absurd hp (by omega)⟩, fun b e => by cases e⟩
      · have hkl := hk.lt
        refine ⟨_, cap, hv', ⟨hl.symm, fun hp => ⟨g, rfl, (Array.getElem?_eq_some_iff.1 hh).1, fun i hi => ?_⟩⟩, fun b e => by injection e with e; injection e with e; omega⟩
        have hc := h2.cells (g := g) (by rw [hv']; rfl) i (.int .i64 ((row s).getD i 0 : Nat)) (by rw [List.getElem?_map, List.getElem?_eq_getElem hi, getD_get _ _ hi]; rfl)
        unfold Addr.add at hc
        split at hc
        · subst_vars; exact hc
        · simpa using hc
    · simp only [e, if_false]
      obtain ⟨⟨A, c, e1, e2, e4⟩, e3⟩ := hv j (by omega)
      exact ⟨⟨A, c, e1, e2.only h3 (fun b hb' _ => e4 b hb'), e4⟩, e3⟩

theorem IndI.step {w : World} {L : List ByteArray} {k : Nat} {vals : Nat → Value} {wo : World} {i : Nat} {wx w1 : World} {v v' : Value} {c : UInt8}
    (hkl : k < L.length) (hsz : w.heap.size < wo.heap.size)
    (h1 : RowA wx w.heap.size 38 L.length (fun j => if j < k then vals j else if j = k then v else .slice none 0 0)) (h2 : wx.ownsRow wo.heap.size 3 1 v i (((row (L.getD k ByteArray.empty)).take i).map fun (z : Nat) => .int .i64 z))
    (h3 : wo.grownBy wx (some w.heap.size)) (h4 : ∀ c ∈ (L.getD k ByteArray.empty).data.toList.take i, 0 ≤ Cm.ixc c)
    (hi : i < (L.getD k ByteArray.empty).size) (hc : (L.getD k ByteArray.empty).data.toList[i]? = some c) (h0 : 0 ≤ Cm.ixc c) {o : Obj}
    (hown : w1.ownsRow wo.heap.size 3 1 v' (i + 1) (((row (L.getD k ByteArray.empty)).take i).map (fun (z : Nat) => Value.int .i64 z) ++ [.int .i64 (Cm.ixc c)])) (hgrow : (wx.alloc o).grownBy w1 v.ownBlock) :
    IndI w L k vals wo (i + 1) (w1.setCell ⟨w.heap.size, k, none⟩ v') := by
  obtain ⟨s, hs⟩ : ∃ s, s = L.getD k ByteArray.empty := ⟨_, rfl⟩
  rw [← hs] at h2 h4 hi hc hown
  have hlt := h2.lt
  have h3' := only_trans (only_alloc h3 o) hgrow (fun r hr => .inr (hlt r hr).1)
  have e : row s = (s.data.toList.map (fun c => (Cm.ixc c).toNat)) := rfl
  have hrow : (row s).take (i + 1) = (row s).take i ++ [(Cm.ixc c).toNat] := by
    have : (row s)[i]? = some (Cm.ixc c).toNat := by rw [e, List.getElem?_map, hc]; rfl
    rw [List.take_add_one, this]; rfl
  have hgr : ∀ b, v'.ownBlock = some b → wo.heap.size ≤ b := fun b hb => (hown.lt b hb).1
  refine ⟨v', RowA.put (f := fun j => if j < k then vals j else if j = k then v else .slice none 0 0) ?_ (fun j hj => ?_), ?_, only_set h3' _ _, ?_⟩
  · obtain ⟨cs, hb, r⟩ := h1.alloc o
    exact ⟨cs, (hgrow.block w.heap.size hb.lt (fun e => by have := (hlt _ e.symm).1; omega)).trans hb, r⟩
  · by_cases e1 : j = k
    · subst e1; simp
    · by_cases e2 : j < k
      · simp [e1, e2]
      · simp [e1, e2]
  · rw [← hs, hrow, List.map_append]
    have := ownsRow_setCell_below hown (a := ⟨w.heap.size, k, none⟩) hsz v'
    simpa [Int.toNat_of_nonneg h0] using this
  · rw [← hs, List.take_add_one, hc]
    intro d hd
    rcases List.mem_append.1 hd with hd | hd
    · exact h4 d hd
    · simp at hd; subst hd; exact h0
end Go.Proofs.YtgcddjgkieambaaGreatDoor
