/- 'awake': the examples at the head of the statements. -/
import Derived.Test.YtlamogpdkmbeoaaGreatDoorZbFold
import Derived.Test.YtlamogpdkmbeoaaGreatDoorZbReg
import Derived.Test.YtlamogpdkmbeoaaGreatDoorZbFr
set_option linter.unusedVariables false
set_option linter.unusedSimpArgs false
set_option maxRecDepth 100000
namespace Go.Proofs.YtlamogpdkmbeoaaGreatDoor
open Go.RowKit Go.Lib Go.Shelf Go.Maps

abbrev o0 : Lay := ⟨false, false, false⟩
/-- The notes of a block that holds them one after the other. -/
theorem notes_blk {w : World} {b : Nat} {xs : List Note} (h : Blk w b 46 (xs.flatMap Note.enc).toArray) (hm : xs.length ≤ maxLen) (c : Nat) (hA : ∀ x ∈ xs, x.At w) : NotesAt w (.slice (some ⟨b, 0, none⟩) xs.length c) xs :=
  ⟨RowsAt.mk hm h.lt (fun j hj i u hu => by
    rw [h.cell, List.getElem?_toArray]
    have := flat_get (enc := Note.enc) 20 (fun _ => rfl) xs j i hj (by have := (List.getElem?_eq_some_iff.1 hu).1; simpa using this)
    rw [Nat.zero_add, this]
    exact hu), hA⟩
theorem noteAt_nil (w : World) (n : Nt) (hj : n.log.jumps = .slice none 0 0) (hl : n.log.lines = .slice none 0 0) : (⟨n, [], []⟩ : Note).At w :=
  ⟨by rw [hj]; exact RowsAt.nil _ _, by rw [hl]; exact RowsAt.nil _ _, by simp⟩
theorem set3q : (setB o0 [nA, nB, nC] && inB 2 1 8) = true := by rw [set3]; rfl
theorem set4q : (setB o0 [nA, nB, nC, nD] && inB 2 1 8) = true := by rw [set4]; rfl
theorem FoldOut.good {o : Lay} {q : Int} {xs : List Note} {w : World} {rv : Value} {er : Int} (h : FoldOut o q xs w rv er) (hs : (setB o xs && inB q 1 8) = true) : er = 0 ∧ ∃ L ds ev u1 u2 u3 pvv u4 pub es x1 x2 x3 ps x4, FoldRel q xs w rv L ds ev u1 u2 u3 pvv u4 pub es x1 x2 x3 ps x4 := by
  rcases h with ⟨_, h2, h3⟩ | ⟨h1, _⟩
  · exact ⟨h2, h3⟩
  · rw [hs] at h1; cases h1
theorem fold3 {w : World} {rv : Value} {er : Int} (h : FoldOut o0 2 [nA, nB, nC] w rv er) : er = 0 ∧ ∃ (b o c : Nat) (A1 A2 A3 A4 A5 A6 : Option Addr) (c1 n2 c2 n3 c3 c4 n5 c5 n6 c6 : Nat) (hs : Int),
    rv = .agg #[.slice (some ⟨b, o, none⟩) 1 c, .slice A1 0 c1, .slice A2 n2 c2, .slice A3 n3 c3, .slice A4 1 c4, .slice A5 n5 c5, .int .i64 hs, .slice A6 n6 c6] ∧ b < w.heap.size ∧ w.cell? ⟨b, o + 6, none⟩ = some (.int .i64 2) ∧ tag w b = some (75 + 1) := by
  obtain ⟨h0, L, ds, ev, u1, u2, u3, pvv, u4, pub, es, x1, x2, x3, ps, x4, hr⟩ := h.good set3q
  refine ⟨h0, ?_⟩
  obtain ⟨B, ho⟩ := hr.out
  have hds := sort3 hr.perm hr.order
  have hst := hr.steps
  rw [hds] at hst
  obtain ⟨r, j, rfl⟩ := led3 hst
  have hreg := reg3 r j
  obtain ⟨N, S, hN, hS, _, he⟩ := ho.rel
  have hes := ent3 r j hN hS rfl
  rw [← he] at hes
  have h1 : x1 = [] := by
    have := ho.struckP
    rw [hreg] at this
    exact List.perm_nil.1 this
  have hp : ps.length = 1 := by
    have := ho.pendP.length_eq
    rw [hreg] at this
    simpa using this
  have hel : es.length = 1 := by have := congrArg List.length hes; simpa using this
  obtain ⟨x, rfl⟩ := List.length_eq_one_iff.1 hel
  have hx : x.note = nB := by simpa using hes
  have hrow : RowsAt Ent.enc 9 w ev [x] := rows_of_owns 9 (fun _ => rfl) ho.ents.row
  obtain ⟨A1, c1, e1⟩ := ho.struck.len
  obtain ⟨A2, c2, e2⟩ := ho.force.len
  obtain ⟨A3, c3, e3⟩ := ho.forbid.len
  obtain ⟨A4, c4, e4⟩ := ho.pend.len
  obtain ⟨A5, c5, e5⟩ := ho.published.len
  obtain ⟨A6, c6, e6⟩ := ho.conflicts.len
  rcases hrow.place with ⟨h, _⟩ | ⟨b, o, c, e0, _, _, hb, hc⟩
  · cases h
  rw [h1, List.length_nil] at e1
  rw [hp] at e4
  refine ⟨b, o, c, A1, A2, A3, A4, A5, A6, c1, x2.length, c2, x3.length, c3, c4, (LedC r j).published.length, c5, x4.length, c6, (LedC r j).hash, ?_, hb, ?_, own_tag ho.ents.row (by rw [e0]; rfl)⟩
  · rw [hr.val, e0, e1, e2, e3, e4, e5, e6]
    rfl
  · have := hc 0 (by simp) 6 (.int .i64 2) (by show some (Value.int .i64 x.note.nt.version) = _; rw [hx])
    simpa using this
theorem fold4 {w : World} {rv : Value} {er : Int} (h : FoldOut o0 2 [nA, nB, nC, nD] w rv er) : er = 0 ∧ ∃ (A0 A1 A2 A3 A4 A5 A6 : Option Addr) (n0 c0 c1 n2 c2 n3 c3 c4 n5 c5 n6 c6 : Nat) (hs : Int),
    rv = .agg #[.slice A0 n0 c0, .slice A1 1 c1, .slice A2 n2 c2, .slice A3 n3 c3, .slice A4 0 c4, .slice A5 n5 c5, .int .i64 hs, .slice A6 n6 c6] := by
  obtain ⟨h0, L, ds, ev, u1, u2, u3, pvv, u4, pub, es, x1, x2, x3, ps, x4, hr⟩ := h.good set4q
  refine ⟨h0, ?_⟩
  obtain ⟨B, ho⟩ := hr.out
  have hds := sort4 hr.perm hr.order
  have hst := hr.steps
  rw [hds] at hst
  obtain ⟨r, j, rfl⟩ := led4 hst
  have hreg := reg4 r j
  have h1 : x1.length = 1 := by
    have := ho.struckP.length_eq
    rw [hreg] at this
    simpa using this
  have hp : ps.length = 0 := by
    have := ho.pendP.length_eq
    rw [hreg] at this
    simpa using this
  obtain ⟨A0, n0, c0, e0⟩ := own_slice ho.ents.row
  obtain ⟨A1, c1, e1⟩ := ho.struck.len
  obtain ⟨A2, c2, e2⟩ := ho.force.len
  obtain ⟨A3, c3, e3⟩ := ho.forbid.len
  obtain ⟨A4, c4, e4⟩ := ho.pend.len
  obtain ⟨A5, c5, e5⟩ := ho.published.len
  obtain ⟨A6, c6, e6⟩ := ho.conflicts.len
  rw [h1] at e1
  rw [hp] at e4
  exact ⟨A0, A1, A2, A3, A4, A5, A6, n0, c0, c1, x2.length, c2, x3.length, c3, c4, (LedC r j).published.length, c5, x4.length, c6, (LedC r j).hash, by rw [hr.val, e0, e1, e2, e3, e4, e5, e6]⟩
theorem conv_bytes {w : World} {v : Value} {bs : List Int} (h : BytesAt w v bs) : (convert 57 9 v).run Tryz.prog w = .ok (.string (strOfNums bs)) w := by
  have hs := Tryz.underlying57
  have he := Tryz.underlying5
  have hd := Tryz.underlying9
  rcases h.place with ⟨rfl, A, c, rfl⟩ | ⟨b, o, c, rfl, h0, hm, hb, hc⟩
  · cases A with
    | none => exact run_convert_bytes_nil w _ _ hs he 0 c _ hd
    | some a => obtain ⟨b, o, sub⟩ := a; simp [convert, run_underlying hs, run_underlying hd, run_underlying he, Conv.bytesToString, loadCells, loadCellsFrom]; rfl
  · exact run_convert_bytes_arg w _ _ hs he b o bs.length c bs rfl (fun i hi => by
      have := hc i hi 0 _ rfl
      rw [Nat.mul_one, Nat.add_zero] at this
      rw [this, List.getD_eq_getElem?_getD, List.getElem?_eq_getElem hi]
      rfl) _ hd
theorem bytes_blk {w : World} {g : Nat} {bs : List Int} (h : Blk w g 5 (bs.flatMap encU).toArray) (c : Nat) (hm : bs.length ≤ maxLen := by decide) : BytesAt w (.slice (some ⟨g, 0, none⟩) bs.length c) bs :=
  RowsAt.mk hm h.lt (fun j hj i u hu => by
    rw [h.cell, List.getElem?_toArray]
    have := flat_get (enc := encU) 1 (fun _ => rfl) bs j i hj (by have := (List.getElem?_eq_some_iff.1 hu).1; simpa using this)
    rw [Nat.zero_add, this]
    exact hu)
abbrev fr7 : ByteArray := ⟨#[1, 0, 0, 254, 255, 255, 7, 38, 0, 0, 0]⟩
theorem frame7 (w : World) (g : Nat) (h : Blk w g 5 #[.int .u8 7]) : Calls Tryz.prog 16 #[.slice (some ⟨g, 0, none⟩) 1 1] w fun e w' => ∃ (fg fc : Nat), e = .returned (.tuple #[.slice (some ⟨fg, 0, none⟩) 11 fc, .int .i64 0]) ∧ BytesAt w' (.slice (some ⟨fg, 0, none⟩) 11 fc) [1, 0, 0, 254, 255, 255, 7, 38, 0, 0, 0] ∧ Below w.heap.size w w' := by
  refine (Frame_any [7] _ w (bytes_blk h 1) (fun x hx => by simp at hx; subst hx; omega)).mono ?_
  rintro e w' ⟨u, er, rfl, h1 | h1, hb⟩
  · obtain ⟨_, rfl, ho⟩ := h1
    have e7 : fr [7] = [1, 0, 0, 254, 255, 255, 7, 38, 0, 0, 0] := by decide
    rw [e7] at ho
    obtain ⟨fg, fc, rfl, _, _⟩ := World.ownsRow.form ho (by decide)
    exact ⟨fg, fc, rfl, OwnU.bytes ho, hb⟩
  · simp at h1
set_option maxHeartbeats 8000000 in
theorem awake_any (w : World) (hE : Env w) : Calls Tryz.prog 11 #[] w fun e w' => e = .returned (.bool true) ∧ Below w.heap.size w w' := by
  have hs := fun j n c v W => sent_any j n c gCall v W
  have UR := Tryz.underlying32
  dsimp only [Nt.val, Nt.enc] at hs
  have HE := Lib.hid hE
  clear hE
  go_enter Tryz.func11, Tryz.ntmps11
  have hs1 := fun W => hs 1 1 1 1 W
  have hs2 := fun W => hs 1 2 2 2 W
  clear hs
  go_upto_region 3 with (first
    | (go_at_call 30; (with_reducible refine (hs1 _).mono ?_); rintro e w1 ⟨rfl, hb1⟩)
    | (go_at_call 30; (with_reducible refine (hs2 _).mono ?_); rintro e w2 ⟨rfl, hb2⟩))
  obtain ⟨W, hW⟩ : ∃ W, w2.alloc (.cells ([nA, nB, nC].flatMap Note.enc).toArray 46) = W := ⟨_, rfl⟩
  have hN : NotesAt W (.slice (some ⟨w2.heap.size, 0, none⟩) 3 3) [nA, nB, nC] := by
    rw [← hW]
    exact notes_blk (Blk.new w2 _ _) (by decide) 3 (fun x hx => by
      simp only [List.mem_cons, List.not_mem_nil, or_false] at hx
      rcases hx with rfl | rfl | rfl <;> exact noteAt_nil _ _ rfl rfl)
  have hown : W.ownsRow w2.heap.size 46 20 (.slice (some ⟨w2.heap.size, 0, none⟩) 3 3) 3 ([nA, nB, nC].flatMap Note.enc) := by
    rw [← hW]
    exact World.ownsRow_lit w2 ([nA, nB, nC].flatMap Note.enc).toArray 3 (Nat.le_refl _) (by decide) rfl
  have hO1 := Blk.new w 23 #[.bool false, .bool false, .bool false]
  have hb2' : Below w.heap.size w w2 := ((below_alloc0 (w := w) (.cells #[.bool false, .bool false, .bool false] 23)).trans (hb1.mono (by simp))).trans (hb2.mono (by have := hb1.size; simp at this; omega))
  have hlt : w.heap.size < w2.heap.size := by have := hb1.size; have := hb2.size; simp at *; omega
  have hbW : Below w.heap.size w W := by rw [← hW]; exact hb2'.alloc hb2'.size _
  have hO : Blk W w.heap.size 23 #[.bool false, .bool false, .bool false] := by rw [← hW]; exact ((hO1.later hb1).later hb2).alloc _
  have HO := Lib.hid hO
  have HB := Lib.hid hbW
  have HN := Lib.hid hN
  have HW := Lib.hid hown
  have hf := Fold_any o0 2 _ _ W hN (HE.out.below HE.out.big hbW)
  have q0 : W.cell? ⟨w.heap.size, 0, none⟩ = some (.bool false) := hO.cell 0
  have q1 : W.cell? ⟨w.heap.size, 1, none⟩ = some (.bool false) := hO.cell 1
  have q2 : W.cell? ⟨w.heap.size, 2, none⟩ = some (.bool false) := hO.cell 2
  have hsW : w2.heap.size + 1 = W.heap.size := by rw [← hW]; simp
  obtain ⟨nb, hnb⟩ : ∃ nb, w2.heap.size = nb := ⟨_, rfl⟩
  change Code.wp _ _ _ _ (w2.alloc (.cells ([nA, nB, nC].flatMap Note.enc).toArray 46))
  rw [hW]
  rw [hnb] at hf HN HW hlt hsW ⊢
  dsimp only [Lay.val] at hf
  clear hN hown hO1 hO hbW hW hnb hb1 hb2 hb2' hs1 hs2
  go_upto_region 4 with (first
    | (go_at_call 12; refine hf.mono ?_; rintro e w3 ⟨rv, er, rfl, hout, hb3⟩; obtain ⟨rfl, b, o, c, A1, A2, A3, A4, A5, A6, c1, n2, c2, n3, c3, c4, n5, c5, n6, c6, hs, rfl, hbb, hcc, htg⟩ := fold3 hout)
    | (refine wpList_store_blk rfl 32 _ _ rfl w3.heap.size 32 zeroReg _ rfl rfl (Blk.new w3 _ _) (by rfl) sizeReg (by simp [Value.oneCell']) ?_; intro w4 hZ4 hg4 hs4))
  have US := Tryz.underlying24
  obtain ⟨i0, hi, hz0, hz1, hz2⟩ := infoNote'
  obtain ⟨rb, hrb⟩ : ∃ rb, w3.heap.size = rb := ⟨_, rfl⟩
  rw [hrb] at hZ4 hg4 hbb ⊢
  have hsz3 := hb3.size
  have hb4 : Below W.heap.size W w4 := by
    have h1 : Below W.heap.size W (w3.alloc (.cells zeroReg 32)) := hb3.alloc hb3.size _
    exact h1.grown hg4 h1.size (fun j e => by injection e with e; omega)
  have hb34 : Below w3.heap.size w3 w4 := (below_alloc0 (.cells zeroReg 32)).grown hg4 (by simp) (fun j e => by injection e with e; omega)
  have HW4 := Lib.hid (own_later HW.out hb4)
  have htn : tag w4 nb = some (46 + 1) := own_tag HW4.out rfl
  have htb : tag w4 b = some (75 + 1) := by
    unfold tag at htg ⊢
    rw [hb34.block b (by omega)]
    exact htg
  have hbn : b ≠ nb := by
    intro e
    rw [e, htn] at htb
    exact absurd htb (by decide)
  have hcc4 : w4.cell? ⟨b, o + 6, none⟩ = some (.int .i64 2) := (hb34.cell (p := ⟨b, o + 6, none⟩) (by rw [hrb]; exact hbb)).trans hcc
  have hsz4 : w4.heap.size = rb + 1 := by rw [hs4]; simp [hrb]
  have HZ4 := Lib.hid hZ4
  have HB4 := Lib.hid hb4
  have HCC := Lib.hid hcc4
  have HSZ := Lib.hid (show w4.heap.size = rb + 1 ∧ nb + 1 = W.heap.size ∧ W.heap.size ≤ rb ∧ w.heap.size < nb ∧ b < rb from ⟨hsz4, hsW, by omega, hlt, hbb⟩)
  clear hout htg hcc hZ4 hg4 hs4 hb3 hb34 htn htb hcc4 hf hb4 hsz4 hsW hsz3 hrb hlt hbb
  go_upto_region 5 with (at_builtin; refine wpList_append_lies _ rfl _ _ 24 rfl nb 46 i0 (.agg Nt0.enc.toArray) 20 224 US hi hz0 hz1 hz2 rfl (by decide) (.slice (some ⟨nb, 0, none⟩) 3 3) 3 _ rfl (HW4.out.alloc _) ⟨w4.heap.size, 0, none⟩ 1 1 nD.enc rfl rfl (World.news_of_block (Blk.new _ _ _)) (by simp [Value.oneCell']) (by decide) (by decide) (by decide) (by have := HSZ.out; simp; omega) _ rfl ?_; intro g cap w5 ho5 hg5 hat5 hlt5)
  obtain ⟨z1, z2, z3, z4, z5⟩ := HSZ.out
  have hb5 : Below w.heap.size w w5 := by
    have h1 := HB.out.trans (HB4.out.mono HB.out.size)
    exact (h1.alloc h1.size _).grown hg5 (by have := h1.size; simp; omega) (fun j e => by have : nb = j := (by simpa [Value.ownBlock] using e); omega)
  have ho5' : w5.ownsRow nb 46 20 (.slice (some ⟨g, 0, none⟩) 4 cap) 4 ([nA, nB, nC, nD].flatMap Note.enc) := ho5
  have hN5 : NotesAt w5 (.slice (some ⟨g, 0, none⟩) 4 cap) [nA, nB, nC, nD] := ⟨rows_of_owns (enc := Note.enc) (xs := [nA, nB, nC, nD]) 20 (fun _ => rfl) ho5', (fun x hx => by
      simp only [List.mem_cons, List.not_mem_nil, or_false] at hx
      rcases hx with rfl | rfl | rfl | rfl <;> exact noteAt_nil _ _ rfl rfl)⟩
  have hne5 : ∀ j, j ≠ nb → some j ≠ (Value.slice (some ⟨nb, 0, none⟩) 3 3).ownBlock := fun j hj e => by have : j = nb := (by simpa [Value.ownBlock] using e); exact hj this
  have HZ5 := Lib.hid ((HZ4.out.alloc (.cells nD.enc.toArray 46)).kept hg5 (hne5 rb (by omega)))
  have HC5 : Hid (w5.cell? ⟨b, o + 6, none⟩ = some (.int .i64 2)) := Lib.hid ((hg5.cell_far ⟨b, o + 6, none⟩ (by simp; omega) (hne5 b hbn)).trans (((below_alloc0 (w := w4) (.cells nD.enc.toArray 46)).cell (p := ⟨b, o + 6, none⟩) (by show b < w4.heap.size; omega)).trans HCC.out))
  have HB5 := Lib.hid hb5
  have hO5 := ((HO.out.later HB4.out).alloc (.cells nD.enc.toArray 46)).kept hg5 (hne5 w.heap.size (by omega))
  have q0 : w5.cell? ⟨w.heap.size, 0, none⟩ = some (.bool false) := hO5.cell 0
  have q1 : w5.cell? ⟨w.heap.size, 1, none⟩ = some (.bool false) := hO5.cell 1
  have q2 : w5.cell? ⟨w.heap.size, 2, none⟩ = some (.bool false) := hO5.cell 2
  have hf := Fold_any o0 2 _ _ w5 hN5 (HE.out.below HE.out.big hb5)
  dsimp only [Lay.val] at hf
  have hsz5 := hg5.size
  rw [World.size_alloc] at hsz5
  have HSZ5 : Hid (b < w5.heap.size ∧ w.heap.size ≤ w5.heap.size) := Lib.hid ⟨by omega, by omega⟩
  clear ho5 ho5' hg5 hat5 hlt5 hb5 hN5 hne5 hO5 z1 z2 z3 z4 z5 hsz5
  go_upto_region 6 with (first
    | (go_at_call 12; refine hf.mono ?_; rintro e w6 ⟨rv, er, rfl, hout, hb6⟩; obtain ⟨rfl, B0, B1, B2, B3, B4, B5, B6, m0, d0, d1, m2, d2, m3, d3, d4, m5, d5, m6, d6, hs', rfl⟩ := fold4 hout)
    | (refine wpList_store_blk rfl 32 _ _ rfl w6.heap.size 32 zeroReg _ rfl rfl (Blk.new w6 _ _) (by rfl) sizeReg (by simp [Value.oneCell']) ?_; intro w7 hZ7 hg7 hs7))
  have hb67 : Below w6.heap.size w6 w7 := (below_alloc0 (.cells zeroReg 32)).grown hg7 (by simp) (fun j e => by injection e with e; omega)
  obtain ⟨sb, hsb⟩ : ∃ sb, w6.heap.size = sb := ⟨_, rfl⟩
  have hb57 : Below w5.heap.size w5 w7 := hb6.trans (hb67.mono hb6.size)
  have HZ7r := Lib.hid (HZ5.out.later hb57)
  have HC7 : Hid (w7.cell? ⟨b, o + 6, none⟩ = some (.int .i64 2)) := Lib.hid ((hb57.cell (p := ⟨b, o + 6, none⟩) HSZ5.out.1).trans HC5.out)
  have HB7 : Hid (Below w.heap.size w w7) := Lib.hid (HB5.out.trans (hb57.mono HSZ5.out.2))
  rw [hsb] at hZ7 ⊢
  have HZ7 := Lib.hid hZ7
  have HL7 : Hid (b < w7.heap.size ∧ w.heap.size ≤ w7.heap.size) := Lib.hid ⟨by have := hb57.size; have := HSZ5.out.1; omega, HB7.out.size⟩
  clear hout hZ7 hg7 hs7 hb6 hb67 hsb hb57 hf q0 q1 q2
  have hfr7 := frame7 (w7.alloc (.cells #[.int .u8 7] 5)) w7.heap.size (Blk.new w7 _ _)
  go_upto_region 7 with (go_at_call 16; refine hfr7.mono ?_; rintro e w8 ⟨fg, fc, rfl, hfb, hb8⟩)
  have hb78 : Below w7.heap.size w7 w8 := (below_alloc0 (.cells #[.int .u8 7] 5)).trans (hb8.mono (by simp))
  have hr := HZ7r.out.later hb78
  have hs := HZ7.out.later hb78
  have r0 : w8.cell? ⟨rb, 0, none⟩ = some (.slice (some ⟨b, o, none⟩) 1 c) := hr.cell 0
  have r1 : w8.cell? ⟨rb, 1, none⟩ = some (.slice A1 0 c1) := hr.cell 1
  have r4 : w8.cell? ⟨rb, 4, none⟩ = some (.slice A4 1 c4) := hr.cell 4
  have s1 : w8.cell? ⟨sb, 1, none⟩ = some (.slice B1 1 d1) := hs.cell 1
  have s4 : w8.cell? ⟨sb, 4, none⟩ = some (.slice B4 0 d4) := hs.cell 4
  have cv : w8.cell? ⟨b, o + 6, none⟩ = some (.int .i64 2) := (hb78.cell (p := ⟨b, o + 6, none⟩) HL7.out.1).trans HC7.out
  have k1 : (convert 57 9 (.slice (some ⟨fg, 0, none⟩) 11 fc)).run Tryz.prog w8 = .ok (.string fr7) w8 := conv_bytes hfb
  have k2 : (convert 57 9 (.slice (some ⟨w8.heap.size, 0, none⟩) 11 11)).run Tryz.prog (w8.alloc (.cells #[.int .u8 1, .int .u8 0, .int .u8 0, .int .u8 254, .int .u8 255, .int .u8 255, .int .u8 7, .int .u8 38, .int .u8 0, .int .u8 0, .int .u8 0] 5)) = .ok (.string fr7) (w8.alloc (.cells #[.int .u8 1, .int .u8 0, .int .u8 0, .int .u8 254, .int .u8 255, .int .u8 255, .int .u8 7, .int .u8 38, .int .u8 0, .int .u8 0, .int .u8 0] 5)) := conv_bytes (bytes_blk (bs := [1, 0, 0, 254, 255, 255, 7, 38, 0, 0, 0]) (Blk.new w8 _ _) 11)
  have HB8 : Hid (Below w.heap.size w w8) := Lib.hid (HB7.out.trans (hb78.mono HL7.out.2))
  clear hfr7 hb8 hb78 hfb hr hs
  go_wp2
  go_ret
  exact ⟨rfl, HB8.out.alloc HB8.out.size _⟩
end Go.Proofs.YtlamogpdkmbeoaaGreatDoor
