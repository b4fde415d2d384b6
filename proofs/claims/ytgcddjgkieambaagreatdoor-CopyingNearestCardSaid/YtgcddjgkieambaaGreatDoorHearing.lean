/- The walks of 'hearing', 'Cost' and 'Table'. -/
import Derived.Test.YtgcddjgkieambaaGreatDoorIndices3
import Derived.Test.YtgcddjgkieambaaGreatDoorHCost
set_option linter.unusedVariables false
set_option linter.unusedSimpArgs false
namespace Go.Proofs.YtgcddjgkieambaaGreatDoor
open Go.RowKit

def okText (s : ByteArray) : Bool := s.data.toList.all (fun c => decide (0 ≤ Cm.ixc c))
theorem okText_iff (s : ByteArray) : okText s = true ↔ allChars s := by unfold okText allChars; rw [List.all_eq_true]; simp only [decide_eq_true_eq]

/-- The error of two texts in a mode. -/
def errOf (m : Int) (s h : ByteArray) : Int :=
  if ¬ (m = 1 ∨ m = 2 ∨ m = 3) then 40 else if 64 < s.size ∨ 64 < h.size then 2 else if okText s = true ∧ okText h = true then 0 else 41

def zeroHeard : Value := .agg #[.nilIface, .slice none 0 0, .slice none 0 0]

theorem strs_two (w : World) (s h : ByteArray) : Strs (w.alloc (.cells #[.string s, .string h] 9)) w.heap.size [s, h] := by
  have hb := Blk.new w 9 #[.string s, .string h]
  refine ⟨hb.lt, fun j hj => ?_⟩
  match j, hj with
  | 0, _ => exact hb.cell 0
  | 1, _ => exact hb.cell 1

theorem Idx.far {w : World} {A : Option Addr} {n : Nat} {s : List Nat} (h : Idx w A n s) {g : Nat} (hg : ∀ b, A = some ⟨b, 0, none⟩ → 0 < s.length → b ≠ g) (i : Nat) (u : Value) : Idx (w.setCell ⟨g, i, none⟩ u) A n s :=
  ⟨h.1, fun hp => by
    obtain ⟨b, e, hl, hc⟩ := h.2 hp
    have hbg := hg b e hp
    exact ⟨b, e, by simpa [World.setCell] using hl, fun j hj => by
      rw [World.cell?_setCell_other _ _ _ _ (fun e => hbg (by injection e with e; exact e.symm))]
      exact hc j hj⟩⟩
theorem Idx.ne_ {w : World} {A : Option Addr} {n : Nat} {s : List Nat} (h : Idx w A n s) {g : Nat} (hg : w.cell? ⟨g, 0, none⟩ = some .nilIface) : ∀ b, A = some ⟨b, 0, none⟩ → 0 < s.length → b ≠ g := by
  rintro b e hp rfl
  obtain ⟨b', e', _, hc⟩ := h.2 hp
  rw [e] at e'
  injection e' with e'
  injection e' with e'
  subst e'
  have := (hc 0 hp).symm.trans hg
  simp at this
theorem WaysV.far {w : World} {m : Int} {v : Value} (h : WaysV w m v) {g : Nat} {cs : Array Value} (hg : Blk w g 75 cs) (i : Nat) (u : Value) : WaysV (w.setCell ⟨g, i, none⟩ u) m v := by
  have ne : ∀ b t, Blk w b t Cm.sents → t ≠ 75 → b ≠ g := by
    rintro b t hb ht rfl
    unfold Blk at hb hg
    rw [hb] at hg
    injection hg with h1
    injection h1 with _ h2
    exact ht h2
  rcases h with ⟨h, b, e, k⟩ | ⟨h, b, e, k⟩ | h
  · exact .inl ⟨h, b, e, k.far (ne b _ k (by decide)) u⟩
  · exact .inr (.inl ⟨h, b, e, k.far (ne b _ k (by decide)) u⟩)
  · exact .inr (.inr h)
theorem WaysV.iface {w : World} {m : Int} {v : Value} (h : WaysV w m v) : ∃ T x, v = .iface T x := by
  rcases h with ⟨_, b, e, _⟩ | ⟨_, b, e, _⟩ | ⟨_, e⟩ <;> exact ⟨_, _, e⟩
theorem waysT (m : Int) (w : World) (h : isMode m) : Calls Tryz.prog 87 #[.int .i64 m] w fun e w' => ∃ T x, e = .returned (.tuple #[.iface T x, .bool true]) ∧ WaysV w' m (.iface T x) ∧ Below w.heap.size w w' :=
  (waysOf_ok m w h).mono fun e w' ⟨v, he, hv, hb⟩ => by
    obtain ⟨T, x, rfl⟩ := hv.iface
    exact ⟨T, x, he, hv, hb⟩
theorem WaysV.costs' {w : World} {m : Int} {T : TypeId} {x : Value} (h : WaysV w m (.iface T x)) : ∃ fm fe fs, Costs w m T x fm fe fs := by
  obtain ⟨T', x', fm, fe, fs, e, hc⟩ := h.costs
  injection e with e1 e2
  subst e1 e2
  exact ⟨fm, fe, fs, hc⟩
theorem row_lt {s : ByteArray} (h : allChars s) : ∀ j, j < (row s).length → (row s).getD j 0 < 37 := fun j hj => by
  rw [getD_get _ _ hj]
  simp only [row, List.getElem_map]
  have := Cm.ixc_bd (s.data.toList[j]'(by simpa [row] using hj))
  omega

theorem size75 : (Tryz.prog.info? 75).map (·.size) = some 3 := by kernel_rfl
theorem load75 {W : World} {b : Nat} {x y z : Value} (h : Blk W b 75 #[x, y, z]) : (loadVar 75 ⟨b, 0, none⟩).run Tryz.prog W = .ok (.agg #[x, y, z]) W :=
  run_loadVar_mid (P := Tryz.prog) W b 0 75 [x, y, z] _ h.range Tryz.underlying75 rfl size75

set_option maxRecDepth 100000 in
set_option maxHeartbeats 1000000 in
theorem hearing_mode (m : Int) (s h : ByteArray) (w : World) (hm : ¬ isMode m) :
    Calls Tryz.prog 64 #[.int .i64 m, .string s, .string h] w fun e w' => e = .returned (.tuple #[zeroHeard, .int .i64 40]) ∧ Below w.heap.size w w' := by
  go_enter Tryz.func64, Tryz.ntmps64
  go_wp2_with (first | (go_at_call 87; refine (waysOf_no m _ hm).mono ?_; rintro e w' ⟨rfl, rfl⟩))
  exact bodyPost_ret (v := .tuple #[zeroHeard, .int .i64 40]) (results_cell2 Tryz.results64 rfl (load75 (Blk.new _ _ _))) rfl ⟨rfl, below_alloc0 _⟩

set_option maxRecDepth 100000 in
set_option maxHeartbeats 1000000 in
theorem hearing_err (m : Int) (s h : ByteArray) (w : World) (hm : isMode m) (er : Int) (her : er = 2 ∨ er = 41)
    (hI : ∀ W b c, Strs W b [s, h] → Calls Tryz.prog 96 #[.slice (some ⟨b, 0, none⟩) 2 c] W fun e w' => e = .returned (.tuple #[.slice none 0 0, .int .i64 er]) ∧ Below W.heap.size W w') :
    Calls Tryz.prog 64 #[.int .i64 m, .string s, .string h] w fun e w' => e = .returned (.tuple #[zeroHeard, .int .i64 er]) ∧ Below w.heap.size w w' := by
  have h0 : (er != 0) = true := by rcases her with rfl | rfl <;> rfl
  have HI := Lib.hid hI
  clear hI her
  have hB0 := Blk.new w 75 #[.nilIface, .slice none 0 0, .slice none 0 0]
  go_enter Tryz.func64, Tryz.ntmps64
  go_wp2_with (first | (go_at_call 87; refine (costsOf m _ hm).mono ?_; rintro e w1 ⟨T, x, fm, fe, fs, rfl, hC, hb1⟩) | (go_at_call 96; refine (HI.out _ _ _ (strs_two _ _ _)).mono ?_; rintro e w2 ⟨rfl, hb2⟩; have hB2 := ((hB0.later hb1).alloc (.cells #[.string s, .string h] 9)).later hb2; have q0 : w2.cell? ⟨w.heap.size, 0, none⟩ = some .nilIface := hB2.cell 0; have q1 : w2.cell? ⟨w.heap.size, 1, none⟩ = some (.slice none 0 0) := hB2.cell 1; have q2 : w2.cell? ⟨w.heap.size, 2, none⟩ = some (.slice none 0 0) := hB2.cell 2; have f0 := hB2.frozen 0; have f1 := hB2.frozen 1; have f2 := hB2.frozen 2))
  have hb : Below w.heap.size w w2 := below_trans' (below_alloc0 _) (below_trans' hb1 (below_trans' (below_alloc0 _) hb2))
  exact bodyPost_ret (v := .tuple #[zeroHeard, .int .i64 er]) (results_cell2 Tryz.results64 rfl (load75 (((hB2.put 0 .nilIface).put 1 (.slice none 0 0)).put 2 (.slice none 0 0)))) rfl ⟨rfl, ((hb.setCell (Nat.le_refl _) _).setCell (Nat.le_refl _) _).setCell (Nat.le_refl _) _⟩

set_option maxRecDepth 100000 in
set_option maxHeartbeats 1000000 in
theorem hearing_ok (m : Int) (s h : ByteArray) (w : World) (hm : isMode m) (ls : s.size ≤ 64) (lh : h.size ≤ 64) (cs : allChars s) (ch : allChars h) :
    Calls Tryz.prog 64 #[.int .i64 m, .string s, .string h] w fun e w' => ∃ T x A B ca cb, e = .returned (.tuple #[.agg #[.iface T x, .slice A s.size ca, .slice B h.size cb], .int .i64 0]) ∧ Heard w' m T x A B s.size h.size (row s) (row h) ∧ Below w.heap.size w w' := by
  have hI : ∀ W b c, Strs W b [s, h] → Calls Tryz.prog 96 #[.slice (some ⟨b, 0, none⟩) 2 c] W fun e w' => ∃ A B ca cb, e = .returned (.tuple #[.slice (some ⟨W.heap.size, 0, none⟩) 2 2, .int .i64 0]) ∧ Below W.heap.size W w' ∧ W.heap.size < w'.heap.size ∧
      (w'.cell? ⟨W.heap.size, 0, none⟩ = some (.slice A s.size ca) ∧ w'.cell? ⟨W.heap.size, 1, none⟩ = some (.slice B h.size cb)) ∧ Idx w' A s.size (row s) ∧ Idx w' B h.size (row h) := fun W b c hS =>
    (indices_short b c [s, h] W (by simp) hS (fun j hj => by
      match j, hj with
      | 0, _ => exact ls
      | 1, _ => exact lh)).mono fun e w' ⟨ho, hb⟩ => by
        rcases ho with ⟨_, he, vals, hr, hv, _⟩ | ⟨⟨j, hj, hn⟩, _⟩
        · obtain ⟨⟨A, ca, e1, i1, _⟩, _⟩ := hv 0 (by simp)
          obtain ⟨⟨B, cb, e2, i2, _⟩, _⟩ := hv 1 (by simp)
          have c0 := hr.cell (k := 0) (by simp)
          have c1 := hr.cell (k := 1) (by simp)
          simp only [List.length_cons, List.length_nil, Nat.reduceAdd, Nat.lt_add_one, if_true, Nat.zero_lt_succ] at c0 c1
          exact ⟨A, B, ca, cb, he, hb, hr.lt, ⟨by rw [c0, e1]; rfl, by rw [c1, e2]; rfl⟩, i1, i2⟩
        · exfalso
          match j, hj with
          | 0, _ => exact hn cs
          | 1, _ => exact hn ch
  have HI := Lib.hid hI
  clear hI
  have hB0 := Blk.new w 75 #[.nilIface, .slice none 0 0, .slice none 0 0]
  go_enter Tryz.func64, Tryz.ntmps64
  go_wp2_with (first | (go_at_call 87; refine (waysT m _ hm).mono ?_; rintro e w1 ⟨T, x, rfl, hC, hb1⟩) | (go_at_call 96; refine (HI.out _ _ _ (strs_two _ _ _)).mono ?_; rintro e w2 ⟨A, B, ca, cb, rfl, hb2, hlt2, ⟨r0, r1⟩, hA, hB⟩; have hB2 := ((hB0.later hb1).alloc (.cells #[.string s, .string h] 9)).later hb2; have q0 : w2.cell? ⟨w.heap.size, 0, none⟩ = some .nilIface := hB2.cell 0; have q1 : w2.cell? ⟨w.heap.size, 1, none⟩ = some (.slice none 0 0) := hB2.cell 1; have q2 : w2.cell? ⟨w.heap.size, 2, none⟩ = some (.slice none 0 0) := hB2.cell 2; have f0 := hB2.frozen 0; have f1 := hB2.frozen 1; have f2 := hB2.frozen 2))
  have hb : Below w.heap.size w w2 := below_trans' (below_alloc0 _) (below_trans' hb1 (below_trans' (below_alloc0 _) hb2))
  have hsz : w.heap.size < w1.heap.size := Nat.lt_of_lt_of_le (Nat.lt_succ_self _) (by simpa using hb1.size)
  have hne : ¬ w.heap.size = w1.heap.size + 1 := by omega
  have r0' : w2.cell? ⟨w1.heap.size + 1, 0, none⟩ = some (.slice A s.size ca) := by simpa using r0
  have r1' : w2.cell? ⟨w1.heap.size + 1, 1, none⟩ = some (.slice B h.size cb) := by simpa using r1
  have hCs : WaysV w2 m (.iface T x) := hC.later (below_trans' (below_alloc0 _) hb2)
  have HH := Lib.hid (⟨hCs, hA, hB⟩ : WaysV w2 m (.iface T x) ∧ Idx w2 A s.size (row s) ∧ Idx w2 B h.size (row h))
  have HB2 := Lib.hid hB2
  have Hb := Lib.hid hb
  clear r0 r1 hA hB hCs hC hB2 hb hb1 hb2 hB0 HI
  go_region_held3 (fun w' => w'.cell? ⟨w1.heap.size + 1, 0, none⟩ = some (.slice A s.size ca) ∧ w'.cell? ⟨w1.heap.size + 1, 1, none⟩ = some (.slice B h.size cb)) (simp [*, World.cell?_setCell_far]) (fail)
  go_wp2
  obtain ⟨hCs, hA, hB⟩ := HH.out
  have nA := hA.ne_ q0
  have nB := hB.ne_ q0
  have hB2 := HB2.out
  have kB := ((hB2.put 0 (.iface T x)).put 1 (.slice A s.size ca)).put 2 (.slice B h.size cb)
  have kC := ((hCs.far hB2 0 (.iface T x)).far (hB2.put 0 (.iface T x)) 1 (.slice A s.size ca)).far ((hB2.put 0 (.iface T x)).put 1 (.slice A s.size ca)) 2 (.slice B h.size cb)
  have kH : Heard _ m T x A B s.size h.size (row s) (row h) := ⟨kC.costs', ((hA.far nA 0 (.iface T x)).far nA 1 (.slice A s.size ca)).far nA 2 (.slice B h.size cb), ((hB.far nB 0 (.iface T x)).far nB 1 (.slice A s.size ca)).far nB 2 (.slice B h.size cb), row_lt cs, row_lt ch, by rw [row_length]; exact ls, by rw [row_length]; exact lh⟩
  refine bodyPost_ret (v := .tuple #[.agg #[.iface T x, .slice A s.size ca, .slice B h.size cb], .int .i64 0]) (results_cell2 Tryz.results64 rfl (load75 kB.drew)) rfl ⟨T, x, A, B, ca, cb, rfl, kH.later (Below.refl _ _).drew, ?_⟩
  exact (((Hb.out.setCell (Nat.le_refl _) _).setCell (Nat.le_refl _) _).setCell (Nat.le_refl _) _).drew
end Go.Proofs.YtgcddjgkieambaaGreatDoor
