/- The texts SamesA, SamesB, SamesC in one. -/
import Derived.Test.YtlamogpdkmbeoaaGreatDoorZbQuo
import Derived.Test.YtlamogpdkmbeoaaGreatDoorZbNoteC
import Derived.Test.YtlamogpdkmbeoaaGreatDoorZbMerA
import Derived.Test.YtlamogpdkmbeoaaGreatDoorZbRegP
set_option linter.unusedVariables false
set_option linter.unusedSimpArgs false
section PartSamesA
/- The reference's 'SameMarks', 'SameDuos', 'SameNames' at equal lists. -/
set_option maxRecDepth 100000
namespace Go.Proofs.YtlamogpdkmbeoaaGreatDoor
open Go.RowKit Go.Lib Go.Shelf Go.Maps

end Go.Proofs.YtlamogpdkmbeoaaGreatDoor
end PartSamesA

section PartSamesB
/- The reference's 'SameEntry' and 'SameRegister' at registers of the same content. -/
set_option maxRecDepth 100000
namespace Go.Proofs.YtlamogpdkmbeoaaGreatDoor
open Go.RowKit Go.Lib Go.Shelf Go.Maps

set_option maxHeartbeats 4000000 in
theorem sameEntry_raw (lc : ByteArray) (ca po cl : Int) (vj vl vj' vl' : Value) (ve j n : Int) (js : List Int) (ls : List Ln) (w : World) (hj : RowsAt encI 1 w vj js) (hj' : RowsAt encI 1 w vj' js) (hl : RowsAt Ln.enc 11 w vl ls) (hl' : RowsAt Ln.enc 11 w vl' ls) :
    Calls Tryz.prog 29 #[.agg #[.string lc, .int .i64 ca, .int .i64 po, .int .i64 cl, vj, vl, .int .i64 ve, .int .i64 j, .int .i64 n], .agg #[.string lc, .int .i64 ca, .int .i64 po, .int .i64 cl, vj', vl', .int .i64 ve, .int .i64 j, .int .i64 n]] w fun e w' => e = .returned (.bool true) ∧ Below w.heap.size w w' := by
  obtain ⟨Aj, cj, rfl⟩ := hj.len
  obtain ⟨Bj, dj, rfl⟩ := hj'.len
  obtain ⟨Al, el, rfl⟩ := hl.len
  obtain ⟨Bl, dl, rfl⟩ := hl'.len
  obtain ⟨W, hW⟩ : ∃ W, (w.alloc (.cells #[.string lc, .int .i64 ca, .int .i64 po, .int .i64 cl, .slice Aj js.length cj, .slice Al ls.length el, .int .i64 ve, .int .i64 j, .int .i64 n] 75)).alloc (.cells #[.string lc, .int .i64 ca, .int .i64 po, .int .i64 cl, .slice Bj js.length dj, .slice Bl ls.length dl, .int .i64 ve, .int .i64 j, .int .i64 n] 75) = W := ⟨_, rfl⟩
  have hb : Below w.heap.size w W := by rw [← hW]; exact ((Below.refl _ w).alloc (Nat.le_refl _) _).alloc (by simp) _
  have hX : Blk W w.heap.size 75 #[.string lc, .int .i64 ca, .int .i64 po, .int .i64 cl, .slice Aj js.length cj, .slice Al ls.length el, .int .i64 ve, .int .i64 j, .int .i64 n] := by rw [← hW]; exact (Blk.new w _ _).alloc _
  have hY : Blk W (w.heap.size + 1) 75 #[.string lc, .int .i64 ca, .int .i64 po, .int .i64 cl, .slice Bj js.length dj, .slice Bl ls.length dl, .int .i64 ve, .int .i64 j, .int .i64 n] := by
    rw [← hW]
    have := Blk.new (w.alloc (.cells #[.string lc, .int .i64 ca, .int .i64 po, .int .i64 cl, .slice Aj js.length cj, .slice Al ls.length el, .int .i64 ve, .int .i64 j, .int .i64 n] 75)) 75 #[.string lc, .int .i64 ca, .int .i64 po, .int .i64 cl, .slice Bj js.length dj, .slice Bl ls.length dl, .int .i64 ve, .int .i64 j, .int .i64 n]
    rwa [World.size_alloc] at this
  have hs := SameLog_any ⟨lc, ca, po, cl, .slice Aj js.length cj, .slice Al ls.length el⟩ ⟨lc, ca, po, cl, .slice Bj js.length dj, .slice Bl ls.length dl⟩ js js ls ls W (hj.later hb) (hj'.later hb) (hl.later hb) (hl'.later hb)
  dsimp only [Lg.val, Lg.enc] at hs
  have qn := fun W => eqName_same j n W
  have HX := Lib.hid hX
  have HY := Lib.hid hY
  have HB := Lib.hid hb
  obtain ⟨nj, hnj⟩ : ∃ k, k = js.length := ⟨_, rfl⟩
  obtain ⟨nl, hnl⟩ : ∃ k, k = ls.length := ⟨_, rfl⟩
  have x0 : W.cell? ⟨w.heap.size, 0, none⟩ = some (.string lc) := hX.cell 0
  have x1 : W.cell? ⟨w.heap.size, 1, none⟩ = some (.int .i64 ca) := hX.cell 1
  have x2 : W.cell? ⟨w.heap.size, 2, none⟩ = some (.int .i64 po) := hX.cell 2
  have x3 : W.cell? ⟨w.heap.size, 3, none⟩ = some (.int .i64 cl) := hX.cell 3
  have x4 : W.cell? ⟨w.heap.size, 4, none⟩ = some (.slice Aj js.length cj) := hX.cell 4
  have x5 : W.cell? ⟨w.heap.size, 5, none⟩ = some (.slice Al ls.length el) := hX.cell 5
  have y0 : W.cell? ⟨w.heap.size + 1, 0, none⟩ = some (.string lc) := hY.cell 0
  have y1 : W.cell? ⟨w.heap.size + 1, 1, none⟩ = some (.int .i64 ca) := hY.cell 1
  have y2 : W.cell? ⟨w.heap.size + 1, 2, none⟩ = some (.int .i64 po) := hY.cell 2
  have y3 : W.cell? ⟨w.heap.size + 1, 3, none⟩ = some (.int .i64 cl) := hY.cell 3
  have y4 : W.cell? ⟨w.heap.size + 1, 4, none⟩ = some (.slice Bj js.length dj) := hY.cell 4
  have y5 : W.cell? ⟨w.heap.size + 1, 5, none⟩ = some (.slice Bl ls.length dl) := hY.cell 5
  rw [← hnj] at x4 y4 hs ⊢
  rw [← hnl] at x5 y5 hs ⊢
  have HSL : Hid (SameL ⟨lc, ca, po, cl, .slice Aj nj cj, .slice Al nl el⟩ ⟨lc, ca, po, cl, .slice Bj nj dj, .slice Bl nl dl⟩ js js ls ls) := Lib.hid ⟨rfl, rfl, rfl, rfl, rfl, rfl⟩
  have UL := Tryz.underlying42
  have UN := Tryz.underlying37
  clear hj hj' hl hl' hb hX hY
  rw [← hnj, ← hnl] at hW
  clear hnj hnl
  go_enter Tryz.func29, Tryz.ntmps29
  go_upto_region 1 with fail
  clear hW
  go_wp2_with (go_at_call 55; (with_reducible refine hs.mono ?_); rintro e w1 ⟨b, rfl, hbb, hb1⟩; obtain rfl : b = true := hbb.2 HSL.out; clear hbb; have p6 : w1.cell? ⟨w.heap.size, 6, none⟩ = some (.int .i64 ve) := (HX.out.later hb1).cell 6; have p7 : w1.cell? ⟨w.heap.size, 7, none⟩ = some (.int .i64 j) := (HX.out.later hb1).cell 7; have p8 : w1.cell? ⟨w.heap.size, 8, none⟩ = some (.int .i64 n) := (HX.out.later hb1).cell 8; have r6 : w1.cell? ⟨w.heap.size + 1, 6, none⟩ = some (.int .i64 ve) := (HY.out.later hb1).cell 6; have r7 : w1.cell? ⟨w.heap.size + 1, 7, none⟩ = some (.int .i64 j) := (HY.out.later hb1).cell 7; have r8 : w1.cell? ⟨w.heap.size + 1, 8, none⟩ = some (.int .i64 n) := (HY.out.later hb1).cell 8)
  go_ret
  exact ⟨rfl, HB.out.trans (hb1.mono HB.out.size)⟩
theorem can_same {x y : Note} (h : can x = can y) : SameN x y := by
  have h1 : SameN (can x) x := sameN_with x _ _
  have h2 : SameN (can y) y := sameN_with y _ _
  rw [h] at h1
  exact h1.symm.trans h2
theorem SameEntry_true (x y : Ent) (w : World) (hc : can x.note = can y.note) (hj : RowsAt encI 1 w x.vj x.note.js) (hl : RowsAt Ln.enc 11 w x.vl x.note.ls) (hj' : RowsAt encI 1 w y.vj y.note.js) (hl' : RowsAt Ln.enc 11 w y.vl y.note.ls) :
    Calls Tryz.prog 29 #[.agg x.enc.toArray, .agg y.enc.toArray] w fun e w' => e = .returned (.bool true) ∧ Below w.heap.size w w' := by
  have hs := can_same hc
  rw [← hs.log.js] at hj'
  rw [← hs.log.ls] at hl'
  have := sameEntry_raw x.note.nt.log.call x.note.nt.log.cat x.note.nt.log.pow x.note.nt.log.cl x.vj x.vl y.vj y.vl x.note.nt.version x.note.nt.judge x.note.nt.num x.note.js x.note.ls w hj hj' hl hl'
  dsimp only [Ent.enc]
  rw [← hs.log.call, ← hs.log.cat, ← hs.log.pow, ← hs.log.cl, ← hs.version, ← hs.judge, ← hs.num]
  exact this
end Go.Proofs.YtlamogpdkmbeoaaGreatDoor
end PartSamesB

section PartSamesC
/- The reference's 'SameRegister' at registers of the same content. -/
set_option maxRecDepth 100000
namespace Go.Proofs.YtlamogpdkmbeoaaGreatDoor
open Go.RowKit Go.Lib Go.Shelf Go.Maps

/-- A register's lists in memory. -/
structure RegMem (w : World) (ev u1 u2 u3 pv pb u4 : Value) (es : List Ent) (x1 : List MarkK) (x2 x3 : List DuoK) (rs : List RL) (pn x4 : List NameK) : Prop where
  ents : RowsAt Ent.enc 9 w ev es
  each : ∀ x ∈ es, RowsAt encI 1 w x.vj x.note.js ∧ RowsAt Ln.enc 11 w x.vl x.note.ls
  struck : RowsAt cellsMk 2 w u1 x1
  force : RowsAt cellsDu 4 w u2 x2
  forbid : RowsAt cellsDu 4 w u3 x3
  pend : RulsAt w pv rs
  published : RowsAt NameK.cells 2 w pb pn
  conflicts : RowsAt NameK.cells 2 w u4 x4
theorem RegMem.later {w w' : World} {ev u1 u2 u3 pv pb u4 : Value} {es : List Ent} {x1 : List MarkK} {x2 x3 : List DuoK} {rs : List RL} {pn x4 : List NameK} (h : RegMem w ev u1 u2 u3 pv pb u4 es x1 x2 x3 rs pn x4) (hb : Below w.heap.size w w') : RegMem w' ev u1 u2 u3 pv pb u4 es x1 x2 x3 rs pn x4 :=
  ⟨h.ents.later hb, fun x hx => ⟨(h.each x hx).1.later hb, (h.each x hx).2.later hb⟩, h.struck.later hb, h.force.later hb, h.forbid.later hb, h.pend.later hb, h.published.later hb, h.conflicts.later hb⟩
end Go.Proofs.YtlamogpdkmbeoaaGreatDoor
end PartSamesC
