/- The texts FoldA, AwkA in one. -/
import Derived.Test.YtlamogpdkmbeoaaGreatDoorZbEnter
import Derived.Test.YtlamogpdkmbeoaaGreatDoorZbSet
import Derived.Test.YtlamogpdkmbeoaaGreatDoorZbEnt
import Derived.Test.YtlamogpdkmbeoaaGreatDoorZbRegC
import Derived.Test.YtlamogpdkmbeoaaGreatDoorZbNote
set_option linter.unusedVariables false
set_option linter.unusedSimpArgs false
section PartFoldA
/- 'AsOf' at the greatest clock, and 'Fold'. -/
set_option maxRecDepth 100000
namespace Go.Proofs.YtlamogpdkmbeoaaGreatDoor
open Go.RowKit Go.Lib Go.Shelf Go.Maps

theorem RegOut.later {L : Led} {base : Nat} {w w' : World} {ev u1 u2 u3 pvv u4 pub : Value} {es : List Ent} {x1 : List MarkK} {x2 x3 : List DuoK} {ps : List Pend} {x4 : List NameK} {s : RS} (h : RegOut L base w ev u1 u2 u3 pvv u4 pub es x1 x2 x3 ps x4 s) (hb : Below w.heap.size w w') : RegOut L base w' ev u1 u2 u3 pvv u4 pub es x1 x2 x3 ps x4 s :=
  ⟨h.ents.later hb, h.rel, h.struck.later hb, h.struckP, h.struckO, h.force.later hb, h.forceP, h.forceO, h.forbid.later hb, h.forbidP, h.forbidO, h.pend.later hb, h.pendP, h.pendO, fun x hx => ⟨(h.each x hx).perm, own_later (h.each x hx).row hb⟩, h.conflicts.later hb, h.conflictsP, h.conflictsO, h.published.later hb⟩
theorem RowsAt.one_of {α : Type} {enc : α → List Value} {n : Nat} {w : World} {v : Value} {xs : List α} (h : RowsAt enc n w v xs) : v.oneCell' = true := by
  obtain ⟨A, c, rfl⟩ := h.len
  rfl
abbrev zeroReg : Array Value := #[.slice none 0 0, .slice none 0 0, .slice none 0 0, .slice none 0 0, .slice none 0 0, .slice none 0 0, .int .i64 0, .slice none 0 0]
theorem oneZero : zeroReg.all (·.oneCell') = true := by simp [Value.oneCell']
/-- A row does not lie in a block that its elements do not fit. -/
theorem RowsAt.off {α : Type} {enc : α → List Value} {k : Nat} {w w' : World} {v : Value} {xs : List α} {r : Nat} {t : TypeId} {cs : Array Value} (h : RowsAt enc k w v xs) (hB : Blk w r t cs) (hg : w.grownBy w' (some r)) (hno : ∀ x ∈ xs, ∀ o : Nat, ∃ (i : Nat) (u : Value), (enc x)[i]? = some u ∧ cs[o + i]? ≠ some u) : RowsAt enc k w' v xs := by
  obtain ⟨A, c, rfl, hl, hc⟩ := h
  refine ⟨A, c, rfl, hl, fun j hj => ?_⟩
  obtain ⟨b, o, rfl, hlt, hcell⟩ := hc j hj
  have hne : b ≠ r := by
    rintro rfl
    obtain ⟨i, u, h1, h2⟩ := hno xs[j] (List.getElem_mem hj) (o + j * k)
    have h3 := hcell i u h1
    rw [hB.cell] at h3
    exact h2 h3
  exact ⟨b, o, rfl, Nat.lt_of_lt_of_le hlt hg.size, fun i u hu => (World.cell?_of_block (w := w) (hg.block b hlt (fun e => hne (Option.some.inj e)))).trans (hcell i u hu)⟩
theorem no_string (s : ByteArray) (o : Nat) : zeroReg[o]? ≠ some (.string s) := by
  match o with
  | 0 | 1 | 2 | 3 | 4 | 5 | 6 | 7 => simp
  | n + 8 => simp
theorem no_ints (a b : Int) (o : Nat) : zeroReg[o]? ≠ some (.int .i64 a) ∨ zeroReg[o + 1]? ≠ some (.int .i64 b) := by
  match o with
  | 0 | 1 | 2 | 3 | 4 | 5 | 6 | 7 => simp
  | n + 8 => simp
theorem RegOut.off {L : Led} {base : Nat} {w w' : World} {ev u1 u2 u3 pvv u4 pub : Value} {es : List Ent} {x1 : List MarkK} {x2 x3 : List DuoK} {ps : List Pend} {x4 : List NameK} {s : RS} {r : Nat} (h : RegOut L base w ev u1 u2 u3 pvv u4 pub es x1 x2 x3 ps x4 s) (hz : Blk w r 32 zeroReg) (hg : w.grownBy w' (some r)) : RegOut L base w' ev u1 u2 u3 pvv u4 pub es x1 x2 x3 ps x4 s := by
  have oz := Only.of_blk hz
  have hint : ∀ (a b : Int) (o : Nat) (l : List Value), ∃ i u, (Value.int .i64 a :: Value.int .i64 b :: l)[i]? = some u ∧ zeroReg[o + i]? ≠ some u := fun a b o l => by
    rcases no_ints a b o with h | h
    · exact ⟨0, _, rfl, h⟩
    · exact ⟨1, _, rfl, h⟩
  exact ⟨h.ents.kept hg oz (by decide) (by decide) (by decide), h.rel, h.struck.off hz hg (fun x _ o => ⟨0, _, rfl, no_string _ _⟩), h.struckP, h.struckO, h.force.off hz hg (fun x _ o => ⟨0, _, rfl, no_string _ _⟩), h.forceP, h.forceO, h.forbid.off hz hg (fun x _ o => ⟨0, _, rfl, no_string _ _⟩), h.forbidP, h.forbidO, h.pend.off hz hg (fun x _ o => hint _ _ o _), h.pendP, h.pendO, fun x hx => ⟨(h.each x hx).perm, (h.each x hx).row.kept hg (oz.own (h.each x hx).row (by decide))⟩, h.conflicts.off hz hg (fun x _ o => hint _ _ o _), h.conflictsP, h.conflictsO, h.published.off hz hg (fun x _ o => hint _ _ o _)⟩
abbrev RS0 (L : Led) : RS := ⟨[], [], [], [], L.conflicts, []⟩
theorem LedIn.rApart {F : Nat → Prop} {base : Nat} {w : World} {g : Nat} {L : Led} {bI bW bN bC : Nat} {rv pv hv : Value} (h : LedIn F base w g L bI bW bN bC rv pv hv) : (L.rulings.map (·.r)).Nodup := by
  have hj : (L.rulings.map (·.j)).Nodup := by
    have := h.apart
    simp only [List.nodup_cons] at this
    exact this.2.2.2.2
  rw [List.nodup_iff_pairwise_ne, List.pairwise_map] at hj ⊢
  refine hj.imp_of_mem fun {a b} ha hb hne e => hne ?_
  have h1 := h.rul a ha
  have h2 := h.rul b hb
  rw [e] at h1
  have h3 := h1.symm.trans h2
  injection h3 with h3
  injection h3 with h3
  have := congrArg (fun cs : Array Value => cs[20]?) h3
  simpa [RulB.cells, Note.enc, Nt.enc] using this
/-- What Fold hands back where the notes are a set: the register of a ledger of these notes, in order. -/
structure FoldRel (q : Int) (xs : List Note) (w : World) (rv : Value) (L : Led) (ds : List Note) (ev u1 u2 u3 pvv u4 pub : Value) (es : List Ent) (x1 : List MarkK) (x2 x3 : List DuoK) (ps : List Pend) (x4 : List NameK) : Prop where
  val : rv = .agg #[ev, u1, u2, u3, pvv, pub, .int .i64 L.hash, u4]
  perm : ds.Perm xs
  order : InOrder ds
  steps : Steps Led0 ds L
  led : LedOf ds L
  good : ∀ x ∈ ds, GoodN x
  out : ∃ b, RegOut L b w ev u1 u2 u3 pvv u4 pub es x1 x2 x3 ps x4 (L.rulings.foldl (regStep q) (RS0 L))
  rnd : (L.rulings.map (·.r)).Nodup
def FoldOut (o : Lay) (q : Int) (xs : List Note) (w : World) (rv : Value) (er : Int) : Prop :=
  ((setB o xs && inB q 1 8) = true ∧ er = 0 ∧ ∃ L ds ev u1 u2 u3 pvv u4 pub es x1 x2 x3 ps x4, FoldRel q xs w rv L ds ev u1 u2 u3 pvv u4 pub es x1 x2 x3 ps x4) ∨ ((setB o xs && inB q 1 8) = false ∧ er = 1 ∧ rv = .agg zeroReg)
theorem FoldOut.later {o : Lay} {q : Int} {xs : List Note} {w w' : World} {rv : Value} {er : Int} (h : FoldOut o q xs w rv er) (hb : Below w.heap.size w w') : FoldOut o q xs w' rv er := by
  rcases h with ⟨h1, h2, L, ds, ev, u1, u2, u3, pvv, u4, pub, es, x1, x2, x3, ps, x4, h3⟩ | h
  · exact .inl ⟨h1, h2, L, ds, ev, u1, u2, u3, pvv, u4, pub, es, x1, x2, x3, ps, x4, h3.val, h3.perm, h3.order, h3.steps, h3.led, h3.good, by obtain ⟨b, hb'⟩ := h3.out; exact ⟨b, hb'.later hb⟩, h3.rnd⟩
  · exact .inr h
theorem FoldOut.off {o : Lay} {q : Int} {xs : List Note} {w w' : World} {rv : Value} {er : Int} {r : Nat} (h : FoldOut o q xs w rv er) (hz : Blk w r 32 zeroReg) (hg : w.grownBy w' (some r)) : FoldOut o q xs w' rv er := by
  rcases h with ⟨h1, h2, L, ds, ev, u1, u2, u3, pvv, u4, pub, es, x1, x2, x3, ps, x4, h3⟩ | h
  · exact .inl ⟨h1, h2, L, ds, ev, u1, u2, u3, pvv, u4, pub, es, x1, x2, x3, ps, x4, h3.val, h3.perm, h3.order, h3.steps, h3.led, h3.good, by obtain ⟨b, hb'⟩ := h3.out; exact ⟨b, hb'.off hz hg⟩, h3.rnd⟩
  · exact .inr h
theorem LedOf.rulOk {ds : List Note} {L : Led} {w : World} (h : LedOf ds L) (hg : ∀ x ∈ ds, GoodN x) (hA : ∀ x ∈ ds, x.At w) (hn : ds.length ≤ 2000) : ∀ x ∈ L.rulings, RulOk x := fun x hx => by
  obtain ⟨h1, h2, h3⟩ := h.rulings x hx
  have hx := hg _ h1
  have hN := hx.note (hA _ h1)
  exact ⟨hx.aC, hx.aN, hx.bC, hx.bN, hN.judge, hN.num, hN.one, h2, by omega⟩

set_option maxHeartbeats 4000000 in
theorem AsOf_any (o : Lay) (q : Int) (v : Value) (xs : List Note) (w : World) (h : NotesAt w v xs) (hE : Env w) :
    Calls Tryz.prog 22 #[o.val, .int .i64 q, v, .int .i64 1099511627776] w fun e w' => ∃ rv er, e = .returned (.tuple #[rv, .int .i64 er]) ∧ FoldOut o q xs w' rv er ∧ Below w.heap.size w w' := by
  have UR := Tryz.underlying32
  obtain ⟨R, hR⟩ : ∃ R, R = setB o xs := ⟨_, rfl⟩
  obtain ⟨T, hT⟩ : ∃ T, T = inB q 1 8 := ⟨_, rfl⟩
  have hiS := fun W (hb : Below w.heap.size w W) => isSet_any o v xs W (h.later hb) (hE.below hE.big hb)
  have hjw := fun W => jwithin_any q 1 8 W
  have HG : Hid (setB o xs = true → (∀ x ∈ xs, GoodN x) ∧ xs.length ≤ 2000) := Lib.hid (fun e => ⟨fun x hx => goodN (setB_good e x hx), setB_len e⟩)
  unfold FoldOut
  rw [← hR] at hiS HG ⊢
  rw [← hT] at hjw ⊢
  clear hR hT
  have HN := Lib.hid h
  obtain ⟨A, c, rfl⟩ := h.row.len
  obtain ⟨o1, o2, o3⟩ := o
  dsimp only [Lay.val] at hiS ⊢
  obtain ⟨W, hW⟩ : ∃ W, ((w.alloc (.cells #[.bool o1, .bool o2, .bool o3] 23)).alloc (.cells #[.int .i64 1099511627776] 3)).alloc (.cells zeroReg 32) = W := ⟨_, rfl⟩
  have hb : Below w.heap.size w W := by rw [← hW]; exact (((Below.refl _ w).alloc (Nat.le_refl _) _).alloc (by simp) _).alloc (by simp; omega) _
  have hO : Blk W w.heap.size 23 #[.bool o1, .bool o2, .bool o3] := by rw [← hW]; exact ((Blk.new w _ _).alloc _).alloc _
  have hC : Blk W (w.heap.size + 1) 3 #[.int .i64 1099511627776] := by rw [← hW]; have := (Blk.new (w.alloc (.cells #[.bool o1, .bool o2, .bool o3] 23)) 3 #[.int .i64 1099511627776]).alloc (.cells zeroReg 32); rwa [World.size_alloc] at this
  have hZ : Blk W (w.heap.size + 1 + 1) 32 zeroReg := by rw [← hW]; have := Blk.new ((w.alloc (.cells #[.bool o1, .bool o2, .bool o3] 23)).alloc (.cells #[.int .i64 1099511627776] 3)) 32 zeroReg; simp only [World.size_alloc] at this; exact this
  have c0 : W.cell? ⟨w.heap.size, 0, none⟩ = some (.bool o1) := hO.cell 0
  have c1 : W.cell? ⟨w.heap.size, 1, none⟩ = some (.bool o2) := hO.cell 1
  have c2 : W.cell? ⟨w.heap.size, 2, none⟩ = some (.bool o3) := hO.cell 2
  have HB := Lib.hid hb
  have HC := Lib.hid hC
  have HZ := Lib.hid hZ
  have hi := hiS W hb
  clear hb hO hC hZ hE h hiS
  go_enter Tryz.func22, Tryz.ntmps22
  go_upto_region 1 with fail
  have hbad : ∀ (w1 w6 : World), Below W.heap.size W w1 → (R && T) = false → w1.grownBy w6 (some (w.heap.size + 1 + 1)) → ∃ (rv : Value) (er : Int), Ending.returned (.tuple #[.agg zeroReg, .int .i64 1]) = Ending.returned (.tuple #[rv, .int .i64 er]) ∧ (((R && T) = true ∧ er = 0 ∧ ∃ L ds ev u1 u2 u3 pvv u4 pub es x1 x2 x3 ps x4, FoldRel q xs w6 rv L ds ev u1 u2 u3 pvv u4 pub es x1 x2 x3 ps x4) ∨ ((R && T) = false ∧ er = 1 ∧ rv = .agg zeroReg)) ∧ Below w.heap.size w w6 := fun w1 w6 hb1 hRT hg =>
    ⟨_, _, rfl, .inr ⟨hRT, rfl, rfl⟩, (HB.out.trans (hb1.mono HB.out.size)).grown hg (by have := HB.out.size; have := hb1.size; omega) (fun k e => by cases e; omega)⟩
  have HBAD := Lib.hid hbad
  clear hbad
  clear hW
  have oz := oneZero
  cases R
  · clear hjw
    go_wp2_with (first
      | (go_at_call 31; refine hi.mono ?_; rintro e w1 ⟨rfl, hb1⟩)
      | (refine wpList_store_blk rfl 32 _ _ rfl (w.heap.size + 1 + 1) 32 _ _ rfl rfl (HZ.out.later hb1) (by rfl) sizeReg oz ?_; intro w6 hZ6 hg6 hs6))
    exact bodyPost_ret (results_cellb Tryz.results22 rfl hZ6 UR rfl sizeReg) rfl (HBAD.out _ _ hb1 rfl hg6)
  · cases T
    · go_wp2_with (first
        | (go_at_call 31; refine hi.mono ?_; rintro e w1 ⟨rfl, hb1⟩)
        | (go_at_call 45; refine (hjw _).mono ?_; rintro e w2 ⟨rfl, rfl⟩)
        | (refine wpList_store_blk rfl 32 _ _ rfl (w.heap.size + 1 + 1) 32 _ _ rfl rfl (HZ.out.later hb1) (by rfl) sizeReg oz ?_; intro w6 hZ6 hg6 hs6))
      exact bodyPost_ret (results_cellb Tryz.results22 rfl hZ6 UR rfl sizeReg) rfl (HBAD.out _ _ hb1 rfl hg6)
    · obtain ⟨hgood, hlen⟩ := HG.out rfl
      have HGD := Lib.hid hgood
      have HLEN := Lib.hid hlen
      clear hgood hlen
      go_upto_region 3 with (first
        | (go_at_call 31; refine hi.mono ?_; rintro e w1 ⟨rfl, hb1⟩)
        | (go_at_call 45; refine (hjw _).mono ?_; rintro e w2 ⟨rfl, rfl⟩))
      have HB1 : Hid (Below w.heap.size w w1) := Lib.hid (HB.out.trans (hb1.mono HB.out.size))
      have HZ1 := Lib.hid (HZ.out.later hb1)
      have HC1 := Lib.hid (HC.out.later hb1)
      have hN1 := HN.out.later HB1.out
      have hcl := cloneNotes_any _ xs w1 hN1.row (by have := HLEN.out; omega) (fun x hx => note_one (hN1.each x hx))
      clear hi hb1 c0 c1 c2 hjw
      have hdel := fun (V : Value) (w2 : World) (hV : RowsAt Note.enc 20 w2 V xs) (hb : Below w1.heap.size w1 w2) => delete_any 1099511627776 (w.heap.size + 1) V xs w2 ⟨hV, fun x hx => (hN1.each x hx).later hb⟩ (by have h1 := (HC1.out.later hb).lt; exact h1) ((HC1.out.later hb).cell 0) (fun x hx => (HGD.out x hx).clock.2)
      have HDEL := Lib.hid hdel
      have HN1 := Lib.hid hN1
      clear hdel hN1
      go_upto_region 4 with (first
        | (go_at_call 47; refine hcl.mono ?_; rintro e w2 ⟨V, rfl, hV, hb2⟩; obtain ⟨A2, k2, rfl⟩ := hV.len)
        | (go_at_call 46; refine (HDEL.out _ w2 hV hb2).mono ?_; rintro e w3 ⟨rfl, hb3⟩))
      have HB3 : Hid (Below w1.heap.size w1 w3) := Lib.hid (hb2.trans (hb3.mono hb2.size))
      have hN3 : NotesAt w3 (.slice A2 xs.length k2) xs := ⟨hV.later hb3, fun x hx => (HN1.out.each x hx).later HB3.out⟩
      have hent := enter_any _ xs w3 hN3 HLEN.out (fun x hx => (HGD.out x hx).note (hN3.each x hx))
      have HN3 := Lib.hid hN3
      clear hcl hV hb2 hb3 hN3
      have hreg := fun (g : Nat) (L : Led) (ds : List Note) (w4 : World) (hp : ds.Perm xs) (hst : Steps Led0 ds L) (hL : LedAt (fun k => w3.heap.size ≤ k) w3.heap.size w4 g L) (hb : Below w3.heap.size w3 w4) =>
        have hgd : ∀ x ∈ ds, GoodN x := fun x hx => HGD.out x (hp.mem_iff.1 hx)
        have hAt : ∀ x ∈ ds, x.At w4 := fun x hx => (HN3.out.each x (hp.mem_iff.1 hx)).later hb
        have hln : ds.length ≤ 2000 := by rw [hp.length_eq]; exact HLEN.out
        have hlo := ledOf hst (fun x hx => (hgd x hx).kind)
        register_any q w4 hL (hlo.issOk hgd hAt hln) (by have := hlo.rulingsN; omega) (hlo.rulOk hgd hAt hln) (by have := hlo.conflicts; omega)
      have HREG := Lib.hid hreg
      clear hreg
      go_wp2_with (first
        | (go_at_call 32; refine hent.mono ?_; rintro e w4 ⟨g, L, ds, rfl, hp, hor, hst, hsz, hL, hb4⟩)
        | (go_at_call 49; refine (HREG.out g L ds w4 hp hst hL hb4).mono ?_; rintro e w5 ⟨ev, u1, u2, u3, pvv, u4, pub, es, x1, x2, x3, ps, x4, s, rfl, hs, hout, hb5⟩
           have oall : (#[ev, u1, u2, u3, pvv, pub, .int .i64 L.hash, u4] : Array Value).all (·.oneCell') = true := by rw [List.all_toArray]; simp only [List.all_cons, List.all_nil, own_one hout.ents.row, hout.struck.one_of, hout.force.one_of, hout.forbid.one_of, hout.pend.one_of, hout.published.one_of, hout.conflicts.one_of]; rfl
           have hB5 : Below w1.heap.size w1 w5 := (HB3.out.trans (hb4.mono HB3.out.size)).trans (hb5.mono (by have := HB3.out.size; have := hb4.size; omega)))
        | (refine wpList_store_blk rfl 32 _ _ rfl (w.heap.size + 1 + 1) 32 _ _ rfl rfl (HZ1.out.later hB5) (by rfl) sizeReg oall ?_; intro w6 hZ6 hg6 hs6))
      refine bodyPost_ret (results_cellb Tryz.results22 rfl hZ6 UR rfl sizeReg) rfl ⟨_, _, rfl, .inl ⟨rfl, rfl, L, ds, ev, u1, u2, u3, pvv, u4, pub, es, x1, x2, x3, ps, x4, rfl, hp, hor, hst, ledOf hst (fun x hx => (HGD.out x (hp.mem_iff.1 hx)).kind), fun x hx => HGD.out x (hp.mem_iff.1 hx), ⟨w4.heap.size, ?_⟩, by obtain ⟨_, _, _, _, _, _, _, hL'⟩ := hL; exact hL'.rApart⟩, ?_⟩
      · rw [hs] at hout
        exact hout.off (HZ1.out.later hB5) hg6
      · exact (HB1.out.trans (hB5.mono HB1.out.size)).grown hg6 (by have := HB1.out.size; have := hB5.size; omega) (fun k e => by cases e; omega)
theorem FoldOut.shape {o : Lay} {q : Int} {xs : List Note} {w : World} {rv : Value} {er : Int} (h : FoldOut o q xs w rv er) : ∃ cs : Array Value, rv = .agg cs ∧ cs.size = 8 ∧ cs.all (·.oneCell') = true := by
  rcases h with ⟨h1, h2, L, ds, ev, u1, u2, u3, pvv, u4, pub, es, x1, x2, x3, ps, x4, h3⟩ | ⟨_, _, rfl⟩
  · obtain ⟨b, hout⟩ := h3.out
    refine ⟨_, h3.val, rfl, ?_⟩
    rw [List.all_toArray]
    simp only [List.all_cons, List.all_nil, own_one hout.ents.row, hout.struck.one_of, hout.force.one_of, hout.forbid.one_of, hout.pend.one_of, hout.published.one_of, hout.conflicts.one_of]
    rfl
  · exact ⟨_, rfl, rfl, oneZero⟩
set_option maxHeartbeats 4000000 in
theorem Fold_any (o : Lay) (q : Int) (v : Value) (xs : List Note) (w : World) (h : NotesAt w v xs) (hE : Env w) :
    Calls Tryz.prog 12 #[o.val, .int .i64 q, v] w fun e w' => ∃ rv er, e = .returned (.tuple #[rv, .int .i64 er]) ∧ FoldOut o q xs w' rv er ∧ Below w.heap.size w w' := by
  have UR := Tryz.underlying32
  have hA := fun W (hb : Below w.heap.size w W) => AsOf_any o q v xs W (h.later hb) (hE.below hE.big hb)
  obtain ⟨A, c, rfl⟩ := h.row.len
  obtain ⟨o1, o2, o3⟩ := o
  dsimp only [Lay.val] at hA ⊢
  obtain ⟨W, hW⟩ : ∃ W, (w.alloc (.cells #[.bool o1, .bool o2, .bool o3] 23)).alloc (.cells zeroReg 32) = W := ⟨_, rfl⟩
  have hb : Below w.heap.size w W := by rw [← hW]; exact ((Below.refl _ w).alloc (Nat.le_refl _) _).alloc (by simp) _
  have hO : Blk W w.heap.size 23 #[.bool o1, .bool o2, .bool o3] := by rw [← hW]; exact (Blk.new w _ _).alloc _
  have hZ : Blk W (w.heap.size + 1) 32 zeroReg := by rw [← hW]; have := Blk.new (w.alloc (.cells #[.bool o1, .bool o2, .bool o3] 23)) 32 zeroReg; simp only [World.size_alloc] at this; exact this
  have c0 : W.cell? ⟨w.heap.size, 0, none⟩ = some (.bool o1) := hO.cell 0
  have c1 : W.cell? ⟨w.heap.size, 1, none⟩ = some (.bool o2) := hO.cell 1
  have c2 : W.cell? ⟨w.heap.size, 2, none⟩ = some (.bool o3) := hO.cell 2
  have hlz := hZ.lt
  have HB := Lib.hid hb
  have HZ := Lib.hid hZ
  have hi := hA W hb
  clear hb hO hZ hE h hA
  go_enter Tryz.func12, Tryz.ntmps12
  go_upto_region 1 with fail
  clear hW
  go_wp2_with (first
    | (go_at_call 22; refine hi.mono ?_; rintro e w1 ⟨rv, er, rfl, hout, hb1⟩; obtain ⟨cs, rfl, hc8, hone⟩ := hout.shape; have HC8 := Lib.hid hc8; clear hc8)
    | (refine wpList_store_blk rfl 32 _ _ rfl (w.heap.size + 1) 32 zeroReg cs rfl rfl (HZ.out.later hb1) (by rw [HC8.out]; rfl) (by rw [HC8.out]; exact sizeReg) hone ?_; intro w6 hZ6 hg6 hs6))
  refine bodyPost_ret (results_cellb Tryz.results12 rfl hZ6 UR rfl (by rw [HC8.out]; exact sizeReg)) rfl ⟨_, _, rfl, ?_, ?_⟩
  · exact hout.off (HZ.out.later hb1) hg6
  · exact (HB.out.trans (hb1.mono HB.out.size)).grown hg6 (by have := HB.out.size; have := hb1.size; omega) (fun k e => by cases e; omega)
end Go.Proofs.YtlamogpdkmbeoaaGreatDoor
end PartFoldA

section PartAwkA
/- 'sent', 'letter': the notes at the head of the statements. -/
set_option maxRecDepth 100000
namespace Go.Proofs.YtlamogpdkmbeoaaGreatDoor
open Go.RowKit Go.Lib Go.Shelf

abbrev letterLg (c : ByteArray) : Lg := ⟨c, 1, 100, 0, .slice none 0 0, .slice none 0 0⟩
theorem letterLog_any (c : ByteArray) (w : World) : Calls Tryz.prog 58 #[.string c] w fun e w' => e = .returned (letterLg c).val ∧ Below w.heap.size w w' := by
  have UL := Tryz.underlying42
  dsimp only [Lg.val, Lg.enc]
  go_enter Tryz.func58, Tryz.ntmps58
  go_upto_region 1 with fail
  have hZ := Blk.new w 42 #[.string ⟨#[]⟩, .int .i64 0, .int .i64 0, .int .i64 0, .slice none 0 0, .slice none 0 0]
  have hb := below_alloc0 (w := w) (.cells #[.string ⟨#[]⟩, .int .i64 0, .int .i64 0, .int .i64 0, .slice none 0 0, .slice none 0 0] 42)
  go_wp2_with (refine wpList_store_blk rfl 42 _ _ rfl w.heap.size 42 #[.string ⟨#[]⟩, .int .i64 0, .int .i64 0, .int .i64 0, .slice none 0 0, .slice none 0 0] #[.string c, .int .i64 1, .int .i64 100, .int .i64 0, .slice none 0 0, .slice none 0 0] rfl rfl hZ (by rfl) sizeLog (by simp [Value.oneCell']) ?_; intro w6 hZ6 hg6 hs6)
  exact bodyPost_ret (results_cell1b Tryz.results58 rfl hZ6 UL rfl sizeLog) rfl ⟨rfl, hb.grown hg6 hb.size (fun k e => by cases e; exact Nat.le_refl _)⟩
abbrev sentNt (j n c : Int) (call : ByteArray) (v : Int) : Nt := { Nt0 with judge := j, num := n, clock := c, kind := 1, call := call, version := v, log := letterLg call }
theorem sent_any (j n c : Int) (call : ByteArray) (v : Int) (w : World) : Calls Tryz.prog 30 #[.int .i64 j, .int .i64 n, .int .i64 c, .string call, .int .i64 v] w fun e w' => e = .returned (sentNt j n c call v).val ∧ Below w.heap.size w w' := by
  have UN := Tryz.underlying46
  have hl := fun W => letterLog_any call W
  dsimp only [Lg.val, Lg.enc, Nt.val, Nt.enc] at hl ⊢
  go_enter Tryz.func30, Tryz.ntmps30
  go_upto_region 1 with fail
  have hZ := Blk.new w 46 Nt0.enc.toArray
  have hb := below_alloc0 (w := w) (.cells Nt0.enc.toArray 46)
  go_wp2_with (first
    | (go_at_call 58; refine (hl _).mono ?_; rintro e w1 ⟨rfl, hb1⟩; have hb2 := hb.trans (hb1.mono hb.size))
    | (refine wpList_store_blk rfl 46 _ _ rfl w.heap.size 46 Nt0.enc.toArray _ rfl rfl (hZ.later hb1) (by rfl) sizeNote (by simp [Value.oneCell']) ?_; intro w6 hZ6 hg6 hs6))
  exact bodyPost_ret (results_cell1b Tryz.results30 rfl hZ6 UN rfl sizeNote) rfl ⟨rfl, hb2.grown hg6 hb2.size (fun k e => by cases e; exact Nat.le_refl _)⟩
end Go.Proofs.YtlamogpdkmbeoaaGreatDoor
end PartAwkA
