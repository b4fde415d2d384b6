/- The walk of heard.reversed: what is heard, backward, in memory of its own. -/
import Derived.Test.YtgcddjgkieambaaGreatDoorCost
import Derived.Deep.DeepCutAuto
import Derived.Deep.AppendLies
import Derived.Deep.Upon
import Derived.Laws.IdiomCopy
set_option linter.unusedVariables false
set_option linter.unusedSimpArgs false
namespace Go.Proofs.YtgcddjgkieambaaGreatDoor
open Go.RowKit

/-- A row of numbers that may be written. -/
def Free (w : World) (B : Nat) (A : Option Addr) (s : List Nat) : Prop := ∀ b, A = some ⟨b, 0, none⟩ → 0 < s.length → B ≤ b ∧ ∀ j, w.frozen? ⟨b, j, none⟩ = false

theorem clone_idx (A : Option Addr) (n c : Nat) (s : List Nat) (w : World) (h : Idx w A n s) (hn : s.length ≤ 64) :
    Calls Tryz.prog 108 #[.slice A n c] w fun e w' => ∃ A' c', e = .returned (.slice A' n c') ∧ Idx w' A' n s ∧ Free w' w.heap.size A' s ∧ Below w.heap.size w w' := by
  obtain rfl := h.1
  rcases Nat.eq_zero_or_pos s.length with h0 | h0
  · have hfree : ∀ w' A', Free w' w.heap.size A' s := fun w' A' b _ hp => absurd hp (by omega)
    have hidx : ∀ w' A', Idx w' A' s.length s := fun w' A' => ⟨rfl, fun hp => absurd hp (by omega)⟩
    cases A with
    | none =>
      refine (Tryz.slices_Clone_int_nil _ _ _).mono fun e w' ⟨he, hw⟩ => ⟨none, 0, by rw [he, h0], hidx _ _, hfree _ _, hw ▸ Below.refl _ _⟩
    | some a =>
      rw [h0]
      refine (Tryz.slices_Clone_int_zero a c w).mono fun e w' ⟨v', he, ho, hv, hb⟩ => ?_
      rcases ho.2 with ⟨e', _⟩ | ⟨g, cap, cur, hv', _⟩
      · exact absurd e' hv
      · refine ⟨some ⟨g, 0, none⟩, cap, by rw [he, hv'], ?_, hfree _ _, hb⟩
        have := hidx w' (some ⟨g, 0, none⟩); rwa [h0] at this
  · obtain ⟨b, rfl, hl, hc⟩ := h.2 h0
    refine (Tryz.slices_Clone_int b 0 s.length c (s.map (fun (z : Nat) => (z : Int))) w (by simp) (by omega) (fun j hj => by
      rw [Nat.zero_add]
      have hj' : j < s.length := by simpa using hj
      rw [hc j hj', getD_get _ _ hj', getD_get _ _ hj]; simp)).mono fun e w' ⟨v', he, ho, hv, hb⟩ => ?_
    rcases ho.2 with ⟨e', _⟩ | ⟨g, cap, cur, hv', hg, hh, _⟩
    · exact absurd e' hv
    · have hlt : g < w'.heap.size := (Array.getElem?_eq_some_iff.1 hh).1
      refine ⟨some ⟨g, 0, none⟩, cap, by rw [he, hv'], ⟨rfl, fun _ => ⟨g, rfl, hlt, fun j hj => ?_⟩⟩, fun b e _ => ?_, hb⟩
      · have hcj := ho.cells (g := g) (by rw [hv']; rfl) j (.int .i64 (s.getD j 0 : Nat)) (by
          rw [List.take_of_length_le (by simp), List.map_map, List.getElem?_map, List.getElem?_eq_getElem hj, getD_get _ _ hj]; rfl)
        unfold Addr.add at hcj
        split at hcj
        · subst_vars; exact hcj
        · simpa using hcj
      · injection e with e; injection e with e; subst e
        exact ⟨hg, fun j => by simp [World.frozen?, hh]⟩

theorem size_setCells' (b : Nat) : ∀ (vs : List Value) (o : Nat) (w : World), (w.setCells b o vs).heap.size = w.heap.size
  | [], _, _ => rfl
  | v :: vs, o, w => (size_setCells' b vs (o + 1) (w.setCell ⟨b, o, none⟩ v)).trans (by simp [World.setCell])
/-- Behind a reversal of the row b: its cells; all other blocks are as they were. -/
theorem rev_idx (b n c : Nat) (s : List Nat) (w : World) (h : Idx w (some ⟨b, 0, none⟩) n s) (hn : s.length ≤ 64) (h0 : 0 < s.length) (hf : ∀ j, w.frozen? ⟨b, j, none⟩ = false) :
    Calls Tryz.prog 109 #[.slice (some ⟨b, 0, none⟩) n c] w fun e w' => e = .returned (.tuple #[]) ∧ Idx w' (some ⟨b, 0, none⟩) n s.reverse ∧ w.grownBy w' (some b) := by
  obtain rfl := h.1
  obtain ⟨b', e, hl, hc⟩ := h.2 h0
  injection e with e; injection e with e; subst e
  refine (Tryz.slices_Reverse_int_cells b 0 s.length c (s.map (fun (z : Nat) => (z : Int))) w (by simp) (by omega) (fun j hj => by
      rw [Nat.zero_add]
      have hj' : j < s.length := by simpa using hj
      rw [hc j hj', getD_get _ _ hj', getD_get _ _ hj]; simp) (fun j _ => by rw [Nat.zero_add]; exact hf j)).mono fun e w' ⟨he, q, hw⟩ => ?_
  subst hw
  refine ⟨he, ⟨by simp, fun _ => ⟨b, rfl, ?_, fun j hj => ?_⟩⟩, ?_⟩
  · rw [size_setCells']; exact hl
  · have hj' : j < s.length := by simpa using hj
    have hcell := World.cell?_setCells_in b (((s.map (fun (z : Nat) => (z : Int))).take s.length).reverse.map (Value.int .i64)) 0 (w.drewN q) (fun i hi => by
      rw [Nat.zero_add]
      have : (w.drewN q).cell? ⟨b, i, none⟩ = w.cell? ⟨b, i, none⟩ := rfl
      rw [this, hc i (by simpa using hi)]; rfl) j (by simpa using hj')
    rw [Nat.zero_add] at hcell
    rw [hcell, getD_get _ _ hj]
    simp only [List.take_of_length_le (show (s.map (fun (z : Nat) => (z : Int))).length ≤ s.length by simp), List.getElem_map, List.getElem_reverse, List.length_map]
  · refine ⟨?_, ?_, ?_, ?_, fun k hk hne => ?_⟩
    · exact (below_setCells (B := 0) (Nat.zero_le _) _ _ (below_drewN0 (w := w) q)).os
    · exact (below_setCells (B := 0) (Nat.zero_le _) _ _ (below_drewN0 (w := w) q)).tape
    · exact (below_setCells (B := 0) (Nat.zero_le _) _ _ (below_drewN0 (w := w) q)).output
    · rw [size_setCells']; exact Nat.le_refl _
    · exact World.heap_setCells_other (w.drewN q) b 0 _ hk (fun e => hne (by rw [e]))

/-- All blocks but those in S are as they were. -/
structure Keep (S : Nat → Prop) (w w' : World) : Prop where
  os : w'.os = w.os
  tape : w'.tape = w.tape
  output : w'.output = w.output
  size : w.heap.size ≤ w'.heap.size
  block : ∀ k, k < w.heap.size → ¬ S k → w'.heap[k]? = w.heap[k]?
theorem Keep.blk {S : Nat → Prop} {w w' : World} (h : Keep S w w') {g : Nat} {t : TypeId} {cs : Array Value} (hb : Blk w g t cs) (hg : ¬ S g) : Blk w' g t cs := (h.block g hb.lt hg).trans hb
theorem Keep.idx {S : Nat → Prop} {w w' : World} (h : Keep S w w') {A : Option Addr} {n : Nat} {s : List Nat} (hi : Idx w A n s) (hg : ∀ b, A = some ⟨b, 0, none⟩ → 0 < s.length → ¬ S b) : Idx w' A n s :=
  ⟨hi.1, fun hp => by
    obtain ⟨b, e, hl, hc⟩ := hi.2 hp
    exact ⟨b, e, Nat.lt_of_lt_of_le hl h.size, fun j hj => (World.cell?_of_block (a := ⟨b, j, none⟩) (h.block b hl (hg b e hp))).trans (hc j hj)⟩⟩
theorem Keep.below {S : Nat → Prop} {a w w' : World} {B : Nat} (h : Keep S w w') (hb : Below B a w) (hS : ∀ k, S k → B ≤ k) (hB : B ≤ w.heap.size) : Below B a w' :=
  hb.trans ⟨h.os, h.tape, h.output, h.size, fun k hk => h.block k (by omega) (fun hs => by have := hS k hs; omega)⟩

def Own (A : Option Addr) (s : List Nat) (k : Nat) : Prop := A = some ⟨k, 0, none⟩ ∧ 0 < s.length
theorem rev_any (A : Option Addr) (n c : Nat) (s : List Nat) (w : World) (h : Idx w A n s) (hn : s.length ≤ 64) (hf : ∀ b, Own A s b → ∀ j, w.frozen? ⟨b, j, none⟩ = false) :
    Calls Tryz.prog 109 #[.slice A n c] w fun e w' => e = .returned (.tuple #[]) ∧ Idx w' A n s.reverse ∧ Keep (Own A s) w w' := by
  rcases Nat.eq_zero_or_pos s.length with h0 | h0
  · obtain rfl := h.1
    rw [h0]
    refine (Tryz.slices_Reverse_int_empty A c w).mono fun e w' ⟨he, hw⟩ => ⟨he, ⟨by simp [h0], fun hp => absurd hp (by simp [h0])⟩, ?_⟩
    rw [hw]
    exact ⟨rfl, rfl, rfl, Nat.le_refl _, fun _ _ _ => rfl⟩
  · obtain ⟨b, rfl, hl, hc⟩ := h.2 h0
    refine (rev_idx b n c s w h hn h0 (hf b ⟨rfl, h0⟩)).mono fun e w' ⟨he, hi, hg⟩ => ⟨he, hi, hg.os, hg.tape, hg.output, hg.size, fun k hk hne => hg.block k hk (fun e => hne ?_)⟩
    injection e with e
    exact ⟨by rw [e], h0⟩
theorem idx_ne {w : World} {A : Option Addr} {n : Nat} {s : List Nat} (h : Idx w A n s) {g : Nat} {T : TypeId} {x : Value} (hg : w.cell? ⟨g, 0, none⟩ = some (.iface T x)) : ¬ Own A s g := by
  rintro ⟨e, hp⟩
  obtain ⟨b', e', _, hc⟩ := h.2 hp
  rw [e] at e'
  injection e' with e'
  injection e' with e'
  subst e'
  have := (hc 0 hp).symm.trans hg
  simp at this

theorem own_lt {w : World} {A : Option Addr} {n : Nat} {s : List Nat} (h : Idx w A n s) {b : Nat} (ho : Own A s b) : b < w.heap.size := by
  obtain ⟨b', e', hl, _⟩ := h.2 ho.2
  rw [ho.1] at e'; injection e' with e'; injection e' with e'; omega
theorem own_nil {w : World} {A : Option Addr} {n : Nat} {s : List Nat} (h : Idx w A n s) {g : Nat} (hg : w.cell? ⟨g, 0, none⟩ = some .nilIface) : ¬ Own A s g := fun ho => h.ne_ hg g ho.1 ho.2 rfl
theorem Keep.frozen {S : Nat → Prop} {w w' : World} (h : Keep S w w') {b : Nat} (hl : b < w.heap.size) (hn : ¬ S b) (j : Nat) : w'.frozen? ⟨b, j, none⟩ = w.frozen? ⟨b, j, none⟩ :=
  World.frozen?_of_block (a := ⟨b, j, none⟩) (h.block b hl hn)

/-- What the first statement of 'reversed' leaves: a struct of copies, in block g. -/
def RevMid (w : World) (T : TypeId) (x : Value) (s h : List Nat) (g : Nat) (wx : World) : Prop :=
  ∃ A B ca cb, Blk wx g 75 #[.iface T x, .slice A s.length ca, .slice B h.length cb] ∧ Idx wx A s.length s ∧ Idx wx B h.length h ∧ (∀ b, Own A s b → w.heap.size ≤ b ∧ ∀ j, wx.frozen? ⟨b, j, none⟩ = false) ∧
    (∀ b, Own B h b → w.heap.size ≤ b ∧ ¬ Own A s b ∧ ∀ j, wx.frozen? ⟨b, j, none⟩ = false) ∧ Blk wx (w.heap.size + 1) 75 #[.nilIface, .slice none 0 0, .slice none 0 0] ∧ Below w.heap.size w wx

theorem blk3 {w : World} {g : Nat} {t : TypeId} {x y z : Value} (h : Blk w g t #[x, y, z]) :
    w.cell? ⟨g, 0, none⟩ = some x ∧ w.cell? ⟨g, 1, none⟩ = some y ∧ w.cell? ⟨g, 2, none⟩ = some z ∧ w.frozen? ⟨g, 0, none⟩ = false ∧ w.frozen? ⟨g, 1, none⟩ = false ∧ w.frozen? ⟨g, 2, none⟩ = false :=
  ⟨h.cell 0, h.cell 1, h.cell 2, h.frozen 0, h.frozen 1, h.frozen 2⟩

/-- The two copies, in the world behind both calls. -/
def Two (w : World) (A1 B1 : Option Addr) (s h : List Nat) (w2 : World) : Prop :=
  Idx w2 A1 s.length s ∧ Idx w2 B1 h.length h ∧ (∀ b, Own A1 s b → w.heap.size ≤ b ∧ ∀ j, w2.frozen? ⟨b, j, none⟩ = false) ∧
    (∀ b, Own B1 h b → w.heap.size ≤ b ∧ ¬ Own A1 s b ∧ ∀ j, w2.frozen? ⟨b, j, none⟩ = false) ∧ Blk w2 (w.heap.size + 1) 75 #[.nilIface, .slice none 0 0, .slice none 0 0] ∧ Below w.heap.size w w2
theorem two_mk {w W wa w1 wb w2 : World} {A1 B1 : Option Addr} {s h : List Nat} (hbW : Below w.heap.size w W) (hZ : Blk W (w.heap.size + 1) 75 #[.nilIface, .slice none 0 0, .slice none 0 0])
    (ha : Below W.heap.size W wa) (iA : Idx w1 A1 s.length s) (fA : Free w1 wa.heap.size A1 s) (h1 : Below wa.heap.size wa w1) (hb : Below w1.heap.size w1 wb)
    (iB : Idx w2 B1 h.length h) (fB : Free w2 wb.heap.size B1 h) (h2 : Below wb.heap.size wb w2) : Two w A1 B1 s h w2 := by
  have hz := hbW.size
  have hz1 := ha.size
  have hz2 := h1.size
  have hz3 := hb.size
  have hA : ∀ b, Own A1 s b → b < w1.heap.size := fun b ⟨e, hp⟩ => by
    obtain ⟨b', e', hl, _⟩ := iA.2 hp
    rw [e] at e'; injection e' with e'; injection e' with e'; omega
  have h12 := below_trans' hb h2
  refine ⟨iA.later h12, iB, fun b ho => ⟨?_, fun j => ?_⟩, fun b ho => ⟨?_, ?_, (fB b ho.1 ho.2).2⟩, ?_, below_trans' hbW (below_trans' ha (below_trans' h1 h12))⟩
  · have := (fA b ho.1 ho.2).1; omega
  · exact (h12.frozen (p := ⟨b, j, none⟩) (hA b ho)).trans ((fA b ho.1 ho.2).2 j)
  · have := (fB b ho.1 ho.2).1; omega
  · intro ho'
    have := hA b ho'
    have := (fB b ho.1 ho.2).1
    omega
  · exact ((hZ.later ha).later h1).later h12
theorem two_far {w : World} {A1 B1 : Option Addr} {s h : List Nat} {w2 : World} (H : Two w A1 B1 s h w2) {g : Nat} {c : Array Value} (hg : Blk w2 g 75 c) (hn : ¬ Own A1 s g) (hn' : ¬ Own B1 h g) (hb : w.heap.size + 1 < g) (i : Nat) (u : Value) :
    Two w A1 B1 s h (w2.setCell ⟨g, i, none⟩ u) := by
  obtain ⟨a1, a2, a3, a4, a5, a6⟩ := H
  have hne : ∀ b j, b ≠ g → (w2.setCell ⟨g, i, none⟩ u).frozen? ⟨b, j, none⟩ = w2.frozen? ⟨b, j, none⟩ := fun b j e => World.frozen?_of_block (a := ⟨b, j, none⟩) (Below.heap_setCell _ _ _ _ e)
  refine ⟨a1.far (fun b e hp e' => hn (by rw [← e']; exact ⟨e, hp⟩)) _ _, a2.far (fun b e hp e' => hn' (by rw [← e']; exact ⟨e, hp⟩)) _ _, fun b ho => ⟨(a3 b ho).1, fun j => ?_⟩, fun b ho => ⟨(a4 b ho).1, (a4 b ho).2.1, fun j => ?_⟩, a5.far (by show w.heap.size + 1 ≠ g; omega) _, a6.setCell (by show w.heap.size ≤ g; omega) _⟩
  · rw [hne b j (fun e => hn (e ▸ ho))]; exact (a3 b ho).2 j
  · rw [hne b j (fun e => hn' (e ▸ ho))]; exact (a4 b ho).2.2 j
theorem mid_store {w : World} {A1 B1 : Option Addr} {s h : List Nat} {w2 : World} {T : TypeId} {x : Value} (H : Two w A1 B1 s h w2) {g : Nat} (hg : Blk w2 g 75 #[.nilIface, .slice none 0 0, .slice none 0 0]) (hb : w.heap.size + 1 < g) (ca cb : Nat) :
    RevMid w T x s h g (((w2.setCell ⟨g, 0, none⟩ (.iface T x)).setCell ⟨g, 1, none⟩ (.slice A1 s.length ca)).setCell ⟨g, 2, none⟩ (.slice B1 h.length cb)) := by
  have n1 : ¬ Own A1 s g := fun ho => H.1.ne_ (hg.cell 0) g ho.1 ho.2 rfl
  have n2 : ¬ Own B1 h g := fun ho => H.2.1.ne_ (hg.cell 0) g ho.1 ho.2 rfl
  have g1 := hg.put 0 (.iface T x)
  have g2 := g1.put 1 (.slice A1 s.length ca)
  have g3 := g2.put 2 (.slice B1 h.length cb)
  obtain ⟨a1, a2, a3, a4, a5, a6⟩ := two_far (two_far (two_far H hg n1 n2 hb 0 (.iface T x)) g1 n1 n2 hb 1 (.slice A1 s.length ca)) g2 n1 n2 hb 2 (.slice B1 h.length cb)
  exact ⟨A1, B1, ca, cb, g3, a1, a2, a3, a4, a5, a6⟩
theorem mid_alloc {w : World} {A1 B1 : Option Addr} {s h : List Nat} {w2 : World} {T : TypeId} {x : Value} (H : Two w A1 B1 s h w2) (ca cb : Nat) :
    RevMid w T x s h w2.heap.size (w2.alloc (.cells #[.iface T x, .slice A1 s.length ca, .slice B1 h.length cb] 75)) := by
  obtain ⟨a1, a2, a3, a4, a5, a6⟩ := H
  have hb := below_alloc0 (w := w2) (.cells #[.iface T x, .slice A1 s.length ca, .slice B1 h.length cb] 75)
  have lA : ∀ b, Own A1 s b → b < w2.heap.size := fun b ⟨e, hp⟩ => by
    obtain ⟨b', e', hl, _⟩ := a1.2 hp
    rw [e] at e'; injection e' with e'; injection e' with e'; omega
  have lB : ∀ b, Own B1 h b → b < w2.heap.size := fun b ⟨e, hp⟩ => by
    obtain ⟨b', e', hl, _⟩ := a2.2 hp
    rw [e] at e'; injection e' with e'; injection e' with e'; omega
  exact ⟨A1, B1, ca, cb, Blk.new _ _ _, a1.later hb, a2.later hb, fun b ho => ⟨(a3 b ho).1, fun j => (hb.frozen (p := ⟨b, j, none⟩) (lA b ho)).trans ((a3 b ho).2 j)⟩,
    fun b ho => ⟨(a4 b ho).1, (a4 b ho).2.1, fun j => (hb.frozen (p := ⟨b, j, none⟩) (lB b ho)).trans ((a4 b ho).2.2 j)⟩, a5.later hb, below_trans' a6 hb⟩
theorem RevMid.drew {w : World} {T : TypeId} {x : Value} {s h : List Nat} {g : Nat} {wx : World} (H : RevMid w T x s h g wx) : RevMid w T x s h g wx.drew := by
  obtain ⟨A, B, ca, cb, h1, h2, h3, h4, h5, h6, h7⟩ := H
  exact ⟨A, B, ca, cb, h1, h2, h3, h4, h5, h6, h7.drew⟩

set_option maxRecDepth 100000 in
set_option maxHeartbeats 4000000 in
theorem reversed_any (mode : Int) (T : TypeId) (x : Value) (A B : Option Addr) (n m ca cb : Nat) (s h : List Nat) (w : World) (H : Heard w mode T x A B n m s h) :
    Calls Tryz.prog 66 #[.agg #[.iface T x, .slice A n ca, .slice B m cb]] w fun e w' => ∃ A' B' ca' cb', e = .returned (.agg #[.iface T x, .slice A' n ca', .slice B' m cb']) ∧ Heard w' mode T x A' B' n m s.reverse h.reverse ∧ Below w.heap.size w w' := by
  have la := H.sl
  have lb := H.hl
  have iA := H.a
  have iB := H.b
  have HH := Lib.hid H
  clear H
  obtain rfl := iA.1
  obtain rfl := iB.1
  obtain ⟨W, hW⟩ : ∃ W, W = (w.alloc (.cells #[.iface T x, .slice A s.length ca, .slice B h.length cb] 75)).alloc (.cells #[.nilIface, .slice none 0 0, .slice none 0 0] 75) := ⟨_, rfl⟩
  have hbW : Below w.heap.size w W := hW ▸ (below_alloc0 _).alloc (by simp) _
  have hB : Blk W w.heap.size 75 #[.iface T x, .slice A s.length ca, .slice B h.length cb] := hW ▸ (Blk.new w 75 _).alloc _
  have hZ : Blk W (w.heap.size + 1) 75 #[.nilIface, .slice none 0 0, .slice none 0 0] := by
    have := Blk.new (w.alloc (.cells #[.iface T x, .slice A s.length ca, .slice B h.length cb] 75)) 75 #[.nilIface, .slice none 0 0, .slice none 0 0]
    rw [← hW] at this; simpa using this
  have c0 : W.cell? ⟨w.heap.size, 0, none⟩ = some (.iface T x) := hB.cell 0
  have c1 : W.cell? ⟨w.heap.size, 1, none⟩ = some (.slice A s.length ca) := hB.cell 1
  have c2 : W.cell? ⟨w.heap.size, 2, none⟩ = some (.slice B h.length cb) := hB.cell 2
  have l0 := hB.lt
  have HbW := Lib.hid hbW
  have HZ := Lib.hid hZ
  have cA := Lib.hid (fun W1 (hb : Below W.heap.size W W1) => clone_idx A s.length ca s W1 ((iA.later hbW).later hb) la)
  have cB := Lib.hid (fun W1 (hb : Below W.heap.size W W1) => clone_idx B h.length cb h W1 ((iB.later hbW).later hb) lb)
  clear iA iB hB hZ
  go_enter Tryz.func66, Tryz.ntmps66
  go_upto_region 1 with fail
  rw [← hW]
  clear hW hbW
  go_cut [3] (fun s3 wx => ∃ g : Nat, s3 = .pointer (some ⟨g, 0, none⟩) ∧ RevMid w T x s h g wx)
  case first =>
    have hW0 : Below W.heap.size W W.drew := (Below.refl _ _).drew
    have hn0 : ¬ W.heap.size = w.heap.size := by omega
    go_region_held3 (fun w' => w'.cell? ⟨w.heap.size, 0, none⟩ = some (.iface T x) ∧ w'.cell? ⟨w.heap.size, 1, none⟩ = some (.slice A s.length ca) ∧ w'.cell? ⟨w.heap.size, 2, none⟩ = some (.slice B h.length cb)) (simp [*, World.cell?_alloc_some, World.cell?_setCell_far]) (first
      | (go_at_call_of 108 (Value.slice A s.length ca); refine (cA.out _ (by first | exact hW0 | exact ((Below.refl _ _).alloc (Nat.le_refl _) _).drew)).mono ?_; rintro e w1 ⟨A1, ca1, rfl, iA1, fA1, hb1⟩; have hW1 : Below W.heap.size W w1 := (by first | exact below_trans' hW0 hb1 | exact below_trans' ((Below.refl _ _).alloc (Nat.le_refl _) _).drew hb1); have hs1 := hW1.size; have hn1 : ¬ w1.heap.size = w.heap.size := (by omega); have d0 := (hW1.cell (p := ⟨w.heap.size, 0, none⟩) l0).trans c0; have d1 := (hW1.cell (p := ⟨w.heap.size, 1, none⟩) l0).trans c1; have d2 := (hW1.cell (p := ⟨w.heap.size, 2, none⟩) l0).trans c2; (first | (have hq := (Blk.new W 75 #[.nilIface, .slice none 0 0, .slice none 0 0]).drew.later hb1) | skip))
      | (go_at_call_of 108 (Value.slice B h.length cb); refine (cB.out _ (by first | exact hW1 | exact below_trans' hW1 (below_alloc0 _))).mono ?_; rintro e w2 ⟨B1, cb1, rfl, iB1, fB1, hb2⟩; have hW2 : Below W.heap.size W w2 := (by first | exact below_trans' hW1 hb2 | exact below_trans' (below_trans' hW1 (below_alloc0 _)) hb2); have hs2 := hW2.size; have hn2 : ¬ w2.heap.size = w.heap.size := (by omega); have g0 := (hW2.cell (p := ⟨w.heap.size, 0, none⟩) l0).trans c0; have g1 := (hW2.cell (p := ⟨w.heap.size, 1, none⟩) l0).trans c1; have g2 := (hW2.cell (p := ⟨w.heap.size, 2, none⟩) l0).trans c2; (first | (have hq2 := hq.later hb2; obtain ⟨k0, k1, k2, f0, f1, f2⟩ := blk3 hq2) | (have hq2 := (Blk.new w1 75 #[.nilIface, .slice none 0 0, .slice none 0 0]).later hb2; obtain ⟨k0, k1, k2, f0, f1, f2⟩ := blk3 hq2) | skip)))
    all_goals
      go_wp2_with fail
      go_meet
      have hzl := HZ.out.lt
      first
        | exact ⟨_, rfl, mid_store (two_mk HbW.out HZ.out ((Below.refl _ _).alloc (Nat.le_refl _) _).drew iA1 fA1 hb1 (Below.refl _ _) iB1 fB1 hb2) hq2 (by omega) ca1 cb1⟩
        | exact ⟨_, rfl, mid_store (two_mk HbW.out HZ.out hW0 iA1 fA1 hb1 (below_alloc0 _) iB1 fB1 hb2) hq2 (by omega) ca1 cb1⟩
        | exact ⟨_, rfl, mid_alloc (two_mk HbW.out HZ.out hW0 iA1 fA1 hb1 (Below.refl _ _) iB1 fB1 hb2) ca1 cb1⟩
  case rest =>
    obtain ⟨g, rfl, A1, B1, ca1, cb1, hg, iA, iB, fA, fB, hz, hb⟩ := hcut
    obtain ⟨k0, k1, k2, _, _, _⟩ := blk3 hg
    have hcA := Lib.hid (rev_any A1 s.length ca1 s wc iA la (fun b ho => (fA b ho).2))
    have nA := idx_ne iA (hg.cell 0)
    have nB := idx_ne iB (hg.cell 0)
    have zA := own_nil iA (hz.cell 0)
    have zB := own_nil iB (hz.cell 0)
    have hcB := Lib.hid (fun w1 (kA : Keep (Own A1 s) wc w1) => rev_any B1 h.length cb1 h w1 (kA.idx iB (fun b e hp ho => (fB b ⟨e, hp⟩).2.1 ho)) lb (fun b ho j => (kA.frozen (own_lt iB ho) (fB b ho).2.1 j).trans ((fB b ho).2.2 j)))
    have Hg := Lib.hid hg
    have Hz := Lib.hid hz
    have HfB := Lib.hid fB
    have HfA := Lib.hid fA
    clear hg iA iB fA fB hz
    go_wp2_with (first | (go_at_call_of 109 (Value.slice A1 s.length ca1); refine hcA.out.mono ?_; rintro e w1 ⟨rfl, iA1, kA⟩; have hg1 := kA.blk Hg.out nA; have hz1 := kA.blk Hz.out zA; obtain ⟨j0, j1, j2, _, _, _⟩ := blk3 hg1) | (go_at_call_of 109 (Value.slice B1 h.length cb1); refine (hcB.out w1 kA).mono ?_; rintro e w2 ⟨rfl, iB2, kB⟩; have hg2 := kB.blk hg1 nB; have hz2 := kB.blk hz1 zB; obtain ⟨i0, i1, i2, _, _, _⟩ := blk3 hg2; obtain ⟨y0, y1, y2, v0, v1, v2⟩ := blk3 hz2))
    have hz3 := ((hz2.put 0 (.iface T x)).put 1 (.slice A1 s.length ca1)).put 2 (.slice B1 h.length cb1)
    have hB2 : Below w.heap.size w w2 := kB.below (kA.below hb (fun k ho => (HfA.out k ho).1) hb.size) (fun k ho => (HfB.out k ho).1) (Nat.le_trans hb.size kA.size)
    have iA2 := kB.idx iA1 (fun b e hp ho => (HfB.out b ho).2.1 ⟨e, by simpa using hp⟩)
    have nA2 := iA2.ne_ y0
    have nB2 := iB2.ne_ y0
    have iA3 := ((iA2.far nA2 0 (.iface T x)).far nA2 1 (.slice A1 s.length ca1)).far nA2 2 (.slice B1 h.length cb1)
    have iB3 := ((iB2.far nB2 0 (.iface T x)).far nB2 1 (.slice A1 s.length ca1)).far nB2 2 (.slice B1 h.length cb1)
    have hB3 := ((hB2.setCell (p := ⟨w.heap.size + 1, 0, none⟩) (by simp) (.iface T x)).setCell (p := ⟨w.heap.size + 1, 1, none⟩) (by simp) (.slice A1 s.length ca1)).setCell (p := ⟨w.heap.size + 1, 2, none⟩) (by simp) (.slice B1 h.length cb1)
    have H := HH.out.later hB3
    refine bodyPost_ret (v := .agg #[.iface T x, .slice A1 s.length ca1, .slice B1 h.length cb1]) (results_cell1 Tryz.results66 rfl (load75 hz3)) rfl ⟨A1, B1, ca1, cb1, rfl, ⟨H.c, iA3, iB3, fun j hj => ?_, fun j hj => ?_, by simpa using la, by simpa using lb⟩, hB3⟩
    · rw [getD_get _ _ hj, List.getElem_reverse]
      have := H.sa (s.length - 1 - j) (by simp at hj; omega)
      rwa [getD_get _ _ (by simp at hj; omega)] at this
    · rw [getD_get _ _ hj, List.getElem_reverse]
      have := H.hb (h.length - 1 - j) (by simp at hj; omega)
      rwa [getD_get _ _ (by simp at hj; omega)] at this
end Go.Proofs.YtgcddjgkieambaaGreatDoor
