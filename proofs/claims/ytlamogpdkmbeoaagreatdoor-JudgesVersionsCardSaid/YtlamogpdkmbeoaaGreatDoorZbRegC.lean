/- 'register'. -/
import Derived.Test.YtlamogpdkmbeoaaGreatDoorZbReg
import Derived.Deep.DeepCutAuto
import Derived.Deep.CutRange
set_option linter.unusedVariables false
set_option linter.unusedSimpArgs false
set_option maxRecDepth 100000
namespace Go.Proofs.YtlamogpdkmbeoaaGreatDoor
open Go.RowKit Go.Lib Go.Shelf Go.Maps

/-- What the walk needs of a ruling. -/
structure RulOk (x : RulB) : Prop where
  aC : okS x.note.nt.aC
  aN : okI x.note.nt.aN
  bC : okS x.note.nt.bC
  bN : okI x.note.nt.bN
  judge : okI x.note.nt.judge
  num : okI x.note.nt.num
  one : oneN x.note
  kind : x.note.nt.kind = 3 ∨ x.note.nt.kind = 4 ∨ x.note.nt.kind = 5
  len : x.judges.length ≤ 100000
/-- How the entries come out of the ledger. -/
def EntRel (L : Led) (es : List Ent) : Prop := ∃ (N : List (ByteArray × Note)) (S : List ByteArray), NewIn L.issues [] N ∧ S.Perm (N.map (·.1)) ∧ (S.map (fun c : ByteArray => c.data.toList)).Pairwise (fun x y => x ≤ y) ∧ es.map (·.note) = S.filterMap (inForce L N)
theorem EntsAt.base {b b' : Nat} {w : World} {v : Value} {es : List Ent} (h : EntsAt b w v es) (hb : b' ≤ b) : EntsAt b' w v es := ⟨ownsRow_base_a h.row hb, fun x hx => ownsRow_base_a (h.jumps x hx) hb, fun x hx => ownsRow_base_a (h.lines x hx) hb⟩
theorem RegMaps.set_struck {w w' : World} {b7 b8 b9 b10 bc : Nat} {s : RS} {m : List (MarkK × Bool)} (h : RegMaps w b7 b8 b9 b10 bc s) (hn : [b7, b8, b9, b10, bc].Nodup) (hg : w.grownBy w' (some b7)) (hm : MapOf w' Tryz.prog 44 encMk Value.bool b7 m) : RegMaps w' b7 b8 b9 b10 bc { s with struck := m } :=
  ⟨hm, h.force.kept hg (by intro e; injection e with e; simp at hn; omega), h.forbid.kept hg (by intro e; injection e with e; simp at hn; omega), h.bound.kept hg (by intro e; injection e with e; simp at hn; omega), h.conflicts.kept hg (by intro e; injection e with e; simp at hn; omega)⟩
theorem RegMaps.set_force {w w' : World} {b7 b8 b9 b10 bc : Nat} {s : RS} {m : List (DuoK × Bool)} (h : RegMaps w b7 b8 b9 b10 bc s) (hn : [b7, b8, b9, b10, bc].Nodup) (hg : w.grownBy w' (some b8)) (hm : MapOf w' Tryz.prog 48 encDuo Value.bool b8 m) : RegMaps w' b7 b8 b9 b10 bc { s with force := m } :=
  ⟨h.struck.kept hg (by intro e; injection e with e; simp at hn; omega), hm, h.forbid.kept hg (by intro e; injection e with e; simp at hn; omega), h.bound.kept hg (by intro e; injection e with e; simp at hn; omega), h.conflicts.kept hg (by intro e; injection e with e; simp at hn; omega)⟩
theorem RegMaps.set_forbid {w w' : World} {b7 b8 b9 b10 bc : Nat} {s : RS} {m : List (DuoK × Bool)} (h : RegMaps w b7 b8 b9 b10 bc s) (hn : [b7, b8, b9, b10, bc].Nodup) (hg : w.grownBy w' (some b9)) (hm : MapOf w' Tryz.prog 48 encDuo Value.bool b9 m) : RegMaps w' b7 b8 b9 b10 bc { s with forbid := m } :=
  ⟨h.struck.kept hg (by intro e; injection e with e; simp at hn; omega), h.force.kept hg (by intro e; injection e with e; simp at hn; omega), hm, h.bound.kept hg (by intro e; injection e with e; simp at hn; omega), h.conflicts.kept hg (by intro e; injection e with e; simp at hn; omega)⟩
theorem RegMaps.set_bound {w w' : World} {b7 b8 b9 b10 bc : Nat} {s : RS} {m : List (MarkK × Bool)} (h : RegMaps w b7 b8 b9 b10 bc s) (hn : [b7, b8, b9, b10, bc].Nodup) (hg : w.grownBy w' (some b10)) (hm : MapOf w' Tryz.prog 44 encMk Value.bool b10 m) : RegMaps w' b7 b8 b9 b10 bc { s with bound := m } :=
  ⟨h.struck.kept hg (by intro e; injection e with e; simp at hn; omega), h.force.kept hg (by intro e; injection e with e; simp at hn; omega), h.forbid.kept hg (by intro e; injection e with e; simp at hn; omega), hm, h.conflicts.kept hg (by intro e; injection e with e; simp at hn; omega)⟩
theorem RegMaps.set_conflicts {w w' : World} {b7 b8 b9 b10 bc : Nat} {s : RS} {m : List (NameK × Bool)} (h : RegMaps w b7 b8 b9 b10 bc s) (hn : [b7, b8, b9, b10, bc].Nodup) (hg : w.grownBy w' (some bc)) (hm : MapOf w' Tryz.prog 37 encNm Value.bool bc m) : RegMaps w' b7 b8 b9 b10 bc { s with conflicts := m } :=
  ⟨h.struck.kept hg (by intro e; injection e with e; simp at hn; omega), h.force.kept hg (by intro e; injection e with e; simp at hn; omega), h.forbid.kept hg (by intro e; injection e with e; simp at hn; omega), h.bound.kept hg (by intro e; injection e with e; simp at hn; omega), hm⟩
theorem wpList_lookup_of_on {P : Program} {κ ν : Type} [DecidableEq κ] {k : TypeId} {kenc : κ → Value} {venc : ν → Value} {b : Nat} {m : List (κ × ν)} {w : World} {ops : Array Oper} {rest : List Oper} {o : Oper} {a : Act} {Q : Exit → Act → World → Prop} (hw : Region.wanted o (yielded ops a.tmps) = true) (c : Bool)
    (mm x : Operand) (t : TypeId) (hop : o.op = Op.lookup t mm x c) (e : TypeId) (K : Keyed P k) (ht : P.underlying t = some (.map k e)) (z : Value) (hz : ∀ w, (zeroValue e).run P w = .ok z w)
    (hm : a.eval mm = .map (some b)) (hown : MapOf w P k kenc venc b m) (key : κ) (hx : a.eval x = kenc key) (hkey : ∃ l, keyOf P k (kenc key) = some l)
    (hK : wpList P ops Q rest (a.put o.dst (lookV venc z c (getM m key))) w) :
    wpList P ops Q (o :: rest) a w := by
  unfold wpList
  rw [if_pos hw]
  exact Or.inl (wp_lookup_of c mm x t hop e K ht z hz hm hown key hx hkey hK)
theorem lookB (m : Option Bool) : lookV Value.bool (.bool false) false m = .bool (m.getD false) := by cases m <;> rfl
theorem rul_range {w : World} {x : RulB} (hR : Blk w x.r 139 x.cells) : w.rangeAt x.r 0 x.note.nt.enc := fun i u hu => by
  rw [hR.cell, Nat.zero_add]
  have hi : i < 20 := (List.getElem?_eq_some_iff.1 hu).1
  rw [show x.cells[i]? = (x.note.nt.enc ++ [Value.map (some x.j)])[i]? from by simp, List.getElem?_append_left (by simpa using hi)]
  exact hu
theorem infoRuling : ∃ i, Tryz.prog.info? 53 = some i ∧ i.zero = some (.agg #[.int .i64 0, .int .i64 0, .slice none 0 0]) ∧ i.size = 3 ∧ i.bytes = 40 := by
  obtain ⟨i, hi⟩ : ∃ i, Tryz.prog.info? 53 = some i := Option.isSome_iff_exists.1 (by kernel_rfl)
  have h1 : (Tryz.prog.info? 53).bind (·.zero) = some (.agg #[.int .i64 0, .int .i64 0, .slice none 0 0]) := by kernel_rfl
  have h2 : (Tryz.prog.info? 53).map (·.size) = some 3 := by kernel_rfl
  have h3 : (Tryz.prog.info? 53).map (·.bytes) = some 40 := by kernel_rfl
  rw [hi] at h1 h2 h3
  exact ⟨i, hi, by simpa using h1, by simpa using h2, by simpa using h3⟩
structure RsSz (k c : Nat) (s : RS) : Prop where
  struck : s.struck.length ≤ k
  force : s.force.length ≤ k
  forbid : s.forbid.length ≤ k
  bound : s.bound.length ≤ 2 * k
  conflicts : s.conflicts.length ≤ c + k
  pending : s.pending.length ≤ k
theorem RsSz.step {k c : Nat} {s : RS} (h : RsSz k c s) (q : Int) (x : RulB) : RsSz (k + 1) c (regStep q s x) := by
  obtain ⟨h1, h2, h3, h4, h5, h6⟩ := h
  unfold regStep
  split
  · exact ⟨by (try dsimp only); omega, by (try dsimp only); omega, by (try dsimp only); omega, by (try dsimp only); omega, by (try dsimp only); omega, by simp; omega⟩
  · split
    · have := putM_length_le s.struck (mkA x.note) true
      exact ⟨by (try dsimp only); omega, by (try dsimp only); omega, by (try dsimp only); omega, by (try dsimp only); omega, by (try dsimp only); omega, by (try dsimp only); omega⟩
    · split
      · have := putM_length_le s.conflicts (nm x.note) true
        exact ⟨by (try dsimp only); omega, by (try dsimp only); omega, by (try dsimp only); omega, by (try dsimp only); omega, by (try dsimp only); omega, by (try dsimp only); omega⟩
      · split
        · have := putM_length_le s.forbid (duoOf x.note) true
          exact ⟨by (try dsimp only); omega, by (try dsimp only); omega, by (try dsimp only); omega, by (try dsimp only); omega, by (try dsimp only); omega, by (try dsimp only); omega⟩
        · have := putM_length_le s.force (duoOf x.note) true
          have := putM_length_le s.bound (mkA x.note) true
          have := putM_length_le (putM s.bound (mkA x.note) true) (mkB x.note) true
          exact ⟨by (try dsimp only); omega, by (try dsimp only); omega, by (try dsimp only); omega, by (try dsimp only); omega, by (try dsimp only); omega, by (try dsimp only); omega⟩
theorem rsSz_fold (q : Int) (c : Nat) : ∀ (l : List RulB) (k : Nat) (s : RS), RsSz k c s → RsSz (k + l.length) c (l.foldl (regStep q) s)
  | [], k, s, h => h
  | x :: l, k, s, h => by
    have := rsSz_fold q c l (k + 1) (regStep q s x) (h.step q x)
    rw [List.length_cons]
    rw [show k + (l.length + 1) = k + 1 + l.length by omega]
    exact this
/-- What the register hands back, in memory. -/
structure RegOut (L : Led) (base : Nat) (w : World) (ev u1 u2 u3 pvv u4 pub : Value) (es : List Ent) (x1 : List MarkK) (x2 x3 : List DuoK) (ps : List Pend) (x4 : List NameK) (s : RS) : Prop where
  ents : EntsAt base w ev es
  rel : EntRel L es
  struck : RowsAt cellsMk 2 w u1 x1
  struckP : x1.Perm (s.struck.map (·.1))
  struckO : x1.Pairwise (fun a b => cmpMkK a b ≤ 0)
  force : RowsAt cellsDu 4 w u2 x2
  forceP : x2.Perm (s.force.map (·.1))
  forceO : x2.Pairwise (fun a b => cmpDuK a b ≤ 0)
  forbid : RowsAt cellsDu 4 w u3 x3
  forbidP : x3.Perm (s.forbid.map (·.1))
  forbidO : x3.Pairwise (fun a b => cmpDuK a b ≤ 0)
  pend : RowsAt Pend.enc 3 w pvv ps
  pendP : (ps.map (·.rul)).Perm s.pending
  pendO : PendOrd ps
  each : ∀ x ∈ ps, PendOk base w x
  conflicts : RowsAt cellsNm 2 w u4 x4
  conflictsP : x4.Perm (s.conflicts.map (·.1))
  conflictsO : x4.Pairwise (fun a b => cmpNmK a b ≤ 0)
  published : RowsAt NameK.cells 2 w pub L.published
theorem sizeReg : (Tryz.prog.info? 32).map (·.size) = some 8 := by kernel_rfl
theorem reg_start (W3 W4 : World) (hW4 : (((W3.alloc (.map #[] 0)).alloc (.map #[] 0)).alloc (.map #[] 0)).alloc (.map #[] 0) = W4) (bc : Nat) (m : List (NameK × Bool)) (hm : MapOf W3 Tryz.prog 37 encNm Value.bool bc m) :
    RegMaps W4 W3.heap.size (W3.heap.size + 1) (W3.heap.size + 2) (W3.heap.size + 3) bc ⟨[], [], [], [], m, []⟩ ∧ Below W3.heap.size W3 W4 ∧ [W3.heap.size, W3.heap.size + 1, W3.heap.size + 2, W3.heap.size + 3, bc].Nodup := by
  have hlt := hm.lt
  have m0 := MapOf.made (P := Tryz.prog) (k := 44) (κ := MarkK) (venc := Value.bool) W3 encMk_inj
  have m1 := MapOf.made (P := Tryz.prog) (k := 48) (κ := DuoK) (venc := Value.bool) (W3.alloc (.map #[] 0)) encDuo_inj
  have m2 := MapOf.made (P := Tryz.prog) (k := 48) (κ := DuoK) (venc := Value.bool) ((W3.alloc (.map #[] 0)).alloc (.map #[] 0)) encDuo_inj
  have m3 := MapOf.made (P := Tryz.prog) (k := 44) (κ := MarkK) (venc := Value.bool) (((W3.alloc (.map #[] 0)).alloc (.map #[] 0)).alloc (.map #[] 0)) encMk_inj
  have hga : ∀ (w : World) (o : Obj), w.grownBy (w.alloc o) none := fun w o => World.grownBy_alloc w o none
  have m0' := (((m0.kept (hga _ (.map #[] 0)) (by simp)).kept (hga _ (.map #[] 0)) (by simp)).kept (hga _ (.map #[] 0)) (by simp))
  have m1' := ((m1.kept (hga _ (.map #[] 0)) (by simp)).kept (hga _ (.map #[] 0)) (by simp))
  have m2' := (m2.kept (hga _ (.map #[] 0)) (by simp))
  have hb : Below W3.heap.size W3 W4 := by
    rw [← hW4]
    exact (((((Below.refl _ W3).alloc (by simp) _).alloc (by simp) _).alloc (by simp; omega) _).alloc (by simp; omega) _)
  rw [hW4] at m0' m1' m2' m3
  simp only [World.size_alloc] at m0' m1' m2' m3
  refine ⟨⟨m0', m1', m2', m3, hm.block (hb.block _ hlt)⟩, hb, ?_⟩
  simp
  omega
set_option maxHeartbeats 16000000 in
theorem register_any {F : Nat → Prop} {base g : Nat} {L : Led} (q : Int) (w : World) (h : LedAt F base w g L) (hI : IssOk w L.issues) (hr : L.rulings.length ≤ 2000) (hok : ∀ x ∈ L.rulings, RulOk x) (hc : L.conflicts.length ≤ 20000) :
    Calls Tryz.prog 49 #[encP g, .int .i64 q] w fun e w' => ∃ (ev u1 u2 u3 pvv u4 pub : Value) (es : List Ent) (x1 : List MarkK) (x2 x3 : List DuoK) (ps : List Pend) (x4 : List NameK) (s : RS), e = .returned (.agg #[ev, u1, u2, u3, pvv, pub, .int .i64 L.hash, u4]) ∧ s = L.rulings.foldl (regStep q) ⟨[], [], [], [], L.conflicts, []⟩ ∧ RegOut L w.heap.size w' ev u1 u2 u3 pvv u4 pub es x1 x2 x3 ps x4 s ∧ Below w.heap.size w w' := by
  have UN := Tryz.underlying46
  have URg := Tryz.underlying32
  have URs := Tryz.underlying29
  have UJ := Tryz.underlying137
  have UM := Tryz.underlying164
  have UD := Tryz.underlying165
  have UDu := Tryz.underlying48
  obtain ⟨i0, hi0, hz0, hz1, hz2⟩ := infoRuling
  obtain ⟨bI, bW, bN, bC, rv, pv, hv, hL⟩ := h
  obtain ⟨Ap, mp, kp, rfl⟩ := own_slice hL.published
  obtain ⟨Ar, mr, kr, rfl⟩ := own_slice hL.rulings
  have hmr := own_len hL.rulings
  subst hmr
  have hent := fun W (hb : Below w.heap.size w W) => entries_any W ⟨bI, bW, bN, bC, _, _, hv, hL.later hb⟩ (hI.later hb)
  obtain ⟨W, hW⟩ : ∃ W, w.alloc (.cells #[.slice none 0 0, .slice none 0 0, .slice none 0 0, .slice none 0 0, .slice none 0 0, .slice none 0 0, .int .i64 0, .slice none 0 0] 32) = W := ⟨_, rfl⟩
  have hb0 : Below w.heap.size w W := by rw [← hW]; exact below_alloc0 _
  have hZ0 : Blk W w.heap.size 32 #[.slice none 0 0, .slice none 0 0, .slice none 0 0, .slice none 0 0, .slice none 0 0, .slice none 0 0, .int .i64 0, .slice none 0 0] := by rw [← hW]; exact Blk.new w _ _
  have HENT := Lib.hid hent
  have HLw := Lib.hid hL
  have HB0 := Lib.hid hb0
  have HZ0 := Lib.hid hZ0
  have hlw : w.heap.size < W.heap.size := hZ0.lt
  have cp : W.cell? ⟨g, 4, none⟩ = some (.slice Ap mp kp) := (hL.later hb0).cells.cell 4
  have ch : W.cell? ⟨g, 5, none⟩ = some (.int .i64 L.hash) := (hL.later hb0).cells.cell 5
  have lg : g < W.heap.size := (hL.later hb0).cells.lt
  clear hent hL hb0 hZ0 hI
  go_enter Tryz.func49, Tryz.ntmps49
  go_upto_region 1 with fail
  clear hW
  go_cut [5] from 16 to 26 (fun s5 wx => ∃ rb ev es, s5 = encP rb ∧ w.heap.size < rb ∧ Blk wx rb 32 #[ev, .slice none 0 0, .slice none 0 0, .slice none 0 0, .slice none 0 0, .slice Ap mp kp, .int .i64 L.hash, .slice none 0 0] ∧ EntsAt w.heap.size wx ev es ∧ EntRel L es ∧ Below w.heap.size w wx ∧ Blk wx w.heap.size 32 #[.slice none 0 0, .slice none 0 0, .slice none 0 0, .slice none 0 0, .slice none 0 0, .slice none 0 0, .int .i64 0, .slice none 0 0])
  case first =>
    refine wp_region_late (S := (fun w' => w'.cell? ⟨g, 4, none⟩ = some (.slice Ap mp kp) ∧ w'.cell? ⟨g, 5, none⟩ = some (.int .i64 L.hash))) [12] (by kernel_rfl) ?hS1 (fun hHeld => ?_)
    case hS1 => exact ⟨cp, ch⟩
    refine tl1 (i := 0) ?_; try simp only [Act.put, zq]
    refine tl1 (i := 2) ?_; try simp only [Act.put, zq]
    refine tl1 (i := 3) ?_; try simp only [Act.put, zq]
    refine tl1 (i := 4) ?_; try simp only [Act.put, zq]
    refine tl2 (i := 5) ?_; try simp only [Act.put, zq]
    refine tl1 (i := 6) ?_; try simp only [Act.put, zq]
    refine tl1 (i := 7) ?_; try simp only [Act.put, zq]
    refine tl1 (i := 8) ?_; try simp only [Act.put, zq]
    refine tl2 (i := 9) ?_; try simp only [Act.put, zq]
    refine wpAnyL_ready (rs := [1, 11]) (by kernel_rfl) (by simp) ?_
    refine AllReadyL.cons rfl (fun K hK => ?_) ?_
    · skip
      go_simp
      (go_at_call 82; (first | (refine (HENT.out _ hbAl).mono ?_; rintro e w4 ⟨ev, N, S, es, rfl, r1, r2, r3, r4, hes, hb4⟩; have hbE := hbAl.trans (hb4.mono hbAl.size); have hes := hes.base hbAl.size; have hZ := hZ.later hb4; have hbS : Below W.heap.size W w4 := (below_ad _).trans (hb4.mono (by simp))) | (refine (HENT.out _ HB0.out.drew).mono ?_; rintro e w4 ⟨ev, N, S, es, rfl, r1, r2, r3, r4, hes, hb4⟩; have hbE : Below w.heap.size w w4 := HB0.out.drew.trans (hb4.mono HB0.out.size); have hes := hes.base HB0.out.size; have hbS : Below W.heap.size W w4 := (Below.refl _ W).drew.trans hb4)); obtain ⟨Ae, me, ke, rfl⟩ := own_slice hes.row)
      go_wp2_with fail
      refine hK.out _ _ ?hS1_10 (fun hHeld => ?_)
      case hS1_10 => ((try dsimp only); exact ⟨(hbS.cell (p := ⟨g, 4, none⟩) lg).trans cp, (hbS.cell (p := ⟨g, 5, none⟩) lg).trans ch⟩)
      clear hK K
      (try simp only [Act.put, zq])
      refine tl1 (i := 10) ?_; try simp only [Act.put, zq]
      refine wpAnyL_ready (rs := [11]) (by kernel_rfl) (by simp) ?_
      refine AllReadyL.cons rfl (fun K hK => ?_) AllReadyL.nil
      go_simp
      (first | (have hes := hes.later (below_alloc0 (.cells #[.slice none 0 0, .slice none 0 0, .slice none 0 0, .slice none 0 0, .slice none 0 0, .slice none 0 0, .int .i64 0, .slice none 0 0] 32)); have hbE := hbE.alloc hbE.size (.cells #[.slice none 0 0, .slice none 0 0, .slice none 0 0, .slice none 0 0, .slice none 0 0, .slice none 0 0, .int .i64 0, .slice none 0 0] 32); have hZ := Blk.new w4 32 #[.slice none 0 0, .slice none 0 0, .slice none 0 0, .slice none 0 0, .slice none 0 0, .slice none 0 0, .int .i64 0, .slice none 0 0]; have hlr : w.heap.size < w4.heap.size := (by have := hbS.size; omega); have hbS := hbS.alloc hbS.size (.cells #[.slice none 0 0, .slice none 0 0, .slice none 0 0, .slice none 0 0, .slice none 0 0, .slice none 0 0, .int .i64 0, .slice none 0 0] 32)) | (have hbAl := (HB0.out.trans ((below_ad (w := W) (.cells #[.slice none 0 0, .slice none 0 0, .slice none 0 0, .slice none 0 0, .slice none 0 0, .slice none 0 0, .int .i64 0, .slice none 0 0] 32)).mono HB0.out.size)); have hZ := (Blk.new W 32 #[.slice none 0 0, .slice none 0 0, .slice none 0 0, .slice none 0 0, .slice none 0 0, .slice none 0 0, .int .i64 0, .slice none 0 0]).drew; have hlr := hlw; have hbS := below_ad (w := W) (.cells #[.slice none 0 0, .slice none 0 0, .slice none 0 0, .slice none 0 0, .slice none 0 0, .slice none 0 0, .int .i64 0, .slice none 0 0] 32)))
      refine hK.out _ _ ?hS1_12 (fun hHeld => ?_)
      case hS1_12 => ((try dsimp only); exact ⟨(hbS.cell (p := ⟨g, 4, none⟩) lg).trans cp, (hbS.cell (p := ⟨g, 5, none⟩) lg).trans ch⟩)
      clear hK K
      (try simp only [Act.put, zq])
      refine wpAnyL_ready (rs := [12]) (by kernel_rfl) (by simp) ?_
      refine AllReadyL.late rfl (by kernel_rfl) (fun K hK => ?_) AllReadyL.nil
      (rw [if_pos (by kernel_rfl)]; refine wp_store_blk 32 _ _ rfl _ 32 _ #[.slice Ae me ke, .slice none 0 0, .slice none 0 0, .slice none 0 0, .slice none 0 0, .slice Ap mp kp, .int .i64 L.hash, .slice none 0 0] rfl rfl hZ (by rfl) sizeReg (by simp [Value.oneCell']) ?_; intro w6 hR6 hg6 hs6)
      refine hK.out _ _ ?_
      clear hK K
      (try simp only [Act.put, zq])
      refine wpAnyL_done (by kernel_rfl) ?_ _
      clear hHeld
      go_wp2_with fail
      go_meet
      case rel =>
        have hox := Only.of_blk hZ
        exact ⟨_, _, es, rfl, hlr, hR6, hes.kept hg6 hox (by decide) (by decide) (by decide), ⟨N, S, r1, r2, r3, r4⟩, hbE.grown hg6 hbE.size (fun k e => by cases e; omega), (HZ0.out.later hbS).kept hg6 (by intro e; injection e with e; omega)⟩
    refine AllReadyL.cons rfl (fun K hK => ?_) ?_
    · skip
      go_simp
      (first | (have hes := hes.later (below_alloc0 (.cells #[.slice none 0 0, .slice none 0 0, .slice none 0 0, .slice none 0 0, .slice none 0 0, .slice none 0 0, .int .i64 0, .slice none 0 0] 32)); have hbE := hbE.alloc hbE.size (.cells #[.slice none 0 0, .slice none 0 0, .slice none 0 0, .slice none 0 0, .slice none 0 0, .slice none 0 0, .int .i64 0, .slice none 0 0] 32); have hZ := Blk.new w4 32 #[.slice none 0 0, .slice none 0 0, .slice none 0 0, .slice none 0 0, .slice none 0 0, .slice none 0 0, .int .i64 0, .slice none 0 0]; have hlr : w.heap.size < w4.heap.size := (by have := hbS.size; omega); have hbS := hbS.alloc hbS.size (.cells #[.slice none 0 0, .slice none 0 0, .slice none 0 0, .slice none 0 0, .slice none 0 0, .slice none 0 0, .int .i64 0, .slice none 0 0] 32)) | (have hbAl := (HB0.out.trans ((below_ad (w := W) (.cells #[.slice none 0 0, .slice none 0 0, .slice none 0 0, .slice none 0 0, .slice none 0 0, .slice none 0 0, .int .i64 0, .slice none 0 0] 32)).mono HB0.out.size)); have hZ := (Blk.new W 32 #[.slice none 0 0, .slice none 0 0, .slice none 0 0, .slice none 0 0, .slice none 0 0, .slice none 0 0, .int .i64 0, .slice none 0 0]).drew; have hlr := hlw; have hbS := below_ad (w := W) (.cells #[.slice none 0 0, .slice none 0 0, .slice none 0 0, .slice none 0 0, .slice none 0 0, .slice none 0 0, .int .i64 0, .slice none 0 0] 32)))
      refine hK.out _ _ ?hS1_14 (fun hHeld => ?_)
      case hS1_14 => ((try dsimp only); exact ⟨(hbS.cell (p := ⟨g, 4, none⟩) lg).trans cp, (hbS.cell (p := ⟨g, 5, none⟩) lg).trans ch⟩)
      clear hK K
      (try simp only [Act.put, zq])
      refine wpAnyL_ready (rs := [1]) (by kernel_rfl) (by simp) ?_
      refine AllReadyL.cons rfl (fun K hK => ?_) AllReadyL.nil
      go_simp
      (go_at_call 82; (first | (refine (HENT.out _ hbAl).mono ?_; rintro e w4 ⟨ev, N, S, es, rfl, r1, r2, r3, r4, hes, hb4⟩; have hbE := hbAl.trans (hb4.mono hbAl.size); have hes := hes.base hbAl.size; have hZ := hZ.later hb4; have hbS : Below W.heap.size W w4 := (below_ad _).trans (hb4.mono (by simp))) | (refine (HENT.out _ HB0.out.drew).mono ?_; rintro e w4 ⟨ev, N, S, es, rfl, r1, r2, r3, r4, hes, hb4⟩; have hbE : Below w.heap.size w w4 := HB0.out.drew.trans (hb4.mono HB0.out.size); have hes := hes.base HB0.out.size; have hbS : Below W.heap.size W w4 := (Below.refl _ W).drew.trans hb4)); obtain ⟨Ae, me, ke, rfl⟩ := own_slice hes.row)
      go_wp2_with fail
      refine hK.out _ _ ?hS1_15 (fun hHeld => ?_)
      case hS1_15 => ((try dsimp only); exact ⟨(hbS.cell (p := ⟨g, 4, none⟩) lg).trans cp, (hbS.cell (p := ⟨g, 5, none⟩) lg).trans ch⟩)
      clear hK K
      (try simp only [Act.put, zq])
      refine tl1 (i := 10) ?_; try simp only [Act.put, zq]
      refine wpAnyL_ready (rs := [12]) (by kernel_rfl) (by simp) ?_
      refine AllReadyL.late rfl (by kernel_rfl) (fun K hK => ?_) AllReadyL.nil
      (rw [if_pos (by kernel_rfl)]; refine wp_store_blk 32 _ _ rfl _ 32 _ #[.slice Ae me ke, .slice none 0 0, .slice none 0 0, .slice none 0 0, .slice none 0 0, .slice Ap mp kp, .int .i64 L.hash, .slice none 0 0] rfl rfl hZ (by rfl) sizeReg (by simp [Value.oneCell']) ?_; intro w6 hR6 hg6 hs6)
      refine hK.out _ _ ?_
      clear hK K
      (try simp only [Act.put, zq])
      refine wpAnyL_done (by kernel_rfl) ?_ _
      clear hHeld
      go_wp2_with fail
      go_meet
      case rel =>
        have hox := Only.of_blk hZ
        exact ⟨_, _, es, rfl, hlr, hR6, hes.kept hg6 hox (by decide) (by decide) (by decide), ⟨N, S, r1, r2, r3, r4⟩, hbE.grown hg6 hbE.size (fun k e => by cases e; omega), (HZ0.out.later hbS).kept hg6 (by intro e; injection e with e; omega)⟩
    exact AllReadyL.nil
  case rest =>
    obtain ⟨rb, ev, es, rfl, hlr, hR, hes, hER, hbx, hzc⟩ := hcut
    have hmm := @run_makeMap Tryz.prog
    have hLc := HLw.out.later hbx
    have c7 : wc.cell? ⟨g, 7, none⟩ = some (.map (some bC)) := hLc.cells.cell 7
    have hcl := cloneConf_any bC L.conflicts wc hLc.conflicts
    have HR := Lib.hid hR
    have HES := Lib.hid hes
    have HER := Lib.hid hER
    have HBX := Lib.hid hbx
    have lgc : g < wc.heap.size := hLc.cells.lt
    clear hR hes hER hbx hLc cp ch
    go_upto_region 3 with (go_at_call 83; refine hcl.mono ?_; rintro e w2 ⟨rfl, hm2, hb2⟩)
    obtain ⟨W3, hW3⟩ : ∃ W3, w2.alloc (.cells #[.map (some wc.heap.size)] 88) = W3 := ⟨_, rfl⟩
    have hbx3 : Blk W3 w2.heap.size 88 #[.map (some wc.heap.size)] := by rw [← hW3]; exact Blk.new w2 _ _
    have hb23 : Below wc.heap.size wc W3 := by rw [← hW3]; exact hb2.alloc hb2.size _
    have hmc3 : MapOf W3 Tryz.prog 37 encNm Value.bool wc.heap.size L.conflicts := hm2.block (by rw [← hW3]; exact Below.heap_alloc _ _ _ hm2.lt)
    rw [hW3]
    obtain ⟨W4, hW4⟩ : ∃ W4, (((W3.alloc (.map #[] 0)).alloc (.map #[] 0)).alloc (.map #[] 0)).alloc (.map #[] 0) = W4 := ⟨_, rfl⟩
    obtain ⟨hRM, hb34, hnd⟩ := reg_start W3 W4 hW4 wc.heap.size L.conflicts hmc3
    have hb4 : Below w.heap.size w W4 := (HBX.out.trans (hb23.mono HBX.out.size)).trans (hb34.mono (Nat.le_trans HBX.out.size hb23.size))
    have hbc4 : Below wc.heap.size wc W4 := hb23.trans (hb34.mono hb23.size)
    have hRB : RegBase w.heap.size W4 rb w2.heap.size wc.heap.size ev (.slice none 0 0) (.slice Ap mp kp) L.hash _ [] := ⟨HR.out.later hbc4, hbx3.later hb34, HES.out.later hbc4, ⟨World.ownsRow_nil _ _ _ _, by simp⟩⟩
    have hL4 := HLw.out.later hb4
    have c2 : W4.cell? ⟨g, 2, none⟩ = some (.slice Ar L.rulings.length kr) := hL4.cells.cell 2
    have hZ4 := hzc.later hbc4
    clear hW3 hm2 hb2 hcl
    obtain ⟨bx, hbxn⟩ : ∃ bx, w2.heap.size = bx := ⟨_, rfl⟩
    obtain ⟨bc, hbcn⟩ : ∃ bc, wc.heap.size = bc := ⟨_, rfl⟩
    obtain ⟨b7, hb7⟩ : ∃ b7, W3.heap.size = b7 := ⟨_, rfl⟩
    have hw7 : w.heap.size < b7 := by have h1 := hb23.size; have h2 := HBX.out.size; have h3 := hlw; have h4 := hzc.lt; omega
    have hwbc : w.heap.size < bc := by have h4 := hzc.lt; omega
    have HZ4 := Lib.hid hZ4
    have HB4 := Lib.hid hb4
    clear hb23 hb34 hbc4 hZ4 hb4 hbx3 hmc3 hzc
    rw [hbxn, hbcn] at hRB
    rw [hbcn, hb7] at hRM hnd
    have HRM := Lib.hid hRM
    have HRB := Lib.hid hRB
    have HND := Lib.hid hnd
    clear hRM hRB hnd hL4
    go_wp2
    (try rw [hbxn]); (try rw [hb7]); (try rw [hbcn])
    clear hbxn hb7 hbcn hW4 hmm
    have HOKR := Lib.hid hok
    have HRROW : Hid (RowsAt (fun x : RulB => [encP x.r]) 1 w (.slice Ar L.rulings.length kr) L.rulings) := Lib.hid (by
      refine rows_of_owns 1 (fun _ => rfl) (base := base) (e := 93) ?_
      have e : L.rulings.flatMap (fun x : RulB => [encP x.r]) = L.rulings.map (fun x => encP x.r) := by
        generalize L.rulings = T
        induction T with
        | nil => rfl
        | cons a T ih => rw [List.flatMap_cons, ih]; rfl
      rw [e]
      exact HLw.out.rulings)
    obtain ⟨s0, hs0⟩ : ∃ s0 : RS, s0 = ⟨[], [], [], [], L.conflicts, []⟩ := ⟨_, rfl⟩
    rw [← hs0] at HRM
    have HS0 := Lib.hid hs0
    clear hs0 hok
    go_loopw [42] (fun s42 wr => ∃ (k : Nat) (s : RS) (pvv : Value) (ps : List Pend), k ≤ L.rulings.length ∧ s42 = .int .i64 k ∧ s = (L.rulings.take k).foldl (regStep q) s0 ∧ ps.map (·.rul) = s.pending ∧ RegBase w.heap.size wr rb bx bc ev pvv (.slice Ap mp kp) L.hash es ps ∧ RegMaps wr b7 (b7 + 1) (b7 + 2) (b7 + 3) bc s ∧ Below w.heap.size w wr ∧ Blk wr w.heap.size 32 #[.slice none 0 0, .slice none 0 0, .slice none 0 0, .slice none 0 0, .slice none 0 0, .slice none 0 0, .int .i64 0, .slice none 0 0]) (fun s42 _ => L.rulings.length - (RowKit.intOf s42).toNat)
    case atStart => exact ⟨0, s0, _, [], Nat.zero_le _, rfl, rfl, by rw [HS0.out]; rfl, HRB.out, HRM.out, HB4.out, HZ4.out⟩
    case round =>
      obtain ⟨k, s, pvv, ps, hk, rfl, hsf, hps, hrb, hrm, hbr, hzr⟩ := hrel
      by_cases hlt : k < L.rulings.length
      · obtain ⟨x, hx⟩ : ∃ x, x = L.rulings[k] := ⟨_, rfl⟩
        have hxm : x ∈ L.rulings := by rw [hx]; exact List.getElem_mem hlt
        have HSF : Hid (regStep q s x = (L.rulings.take (k + 1)).foldl (regStep q) s0) := Lib.hid (by
          rw [List.take_add_one, List.getElem?_eq_getElem hlt, List.foldl_append, ← hsf, hx]; rfl)
        obtain ⟨b3, o3, eA, hb3, hcell⟩ : ∃ b3 o3, Ar = some ⟨b3, o3, none⟩ ∧ b3 < w.heap.size ∧ w.cell? ⟨b3, o3 + k, none⟩ = some (encP x.r) := by
          obtain ⟨A2, c2, e1, _, e3⟩ := HRROW.out
          obtain ⟨b2, o2, e4, e5, e6⟩ := e3 k hlt
          injection e1 with e1 _ _
          exact ⟨b2, o2, e1.trans e4, e5, by have := e6 0 (encP L.rulings[k].r) rfl; rw [Nat.mul_one] at this; rw [hx]; exact this⟩
        subst eA
        have hLr := HLw.out.later hbr
        have hxr := hLr.rul x hxm
        have hxj := hLr.jud x hxm
        have hxok := HOKR.out x hxm
        have hcc : wr.cell? ⟨b3, o3 + k, none⟩ = some (.pointer (some ⟨x.r, 0, none⟩)) := (hbr.cell (p := ⟨b3, o3 + k, none⟩) hb3).trans hcell
        have HSZ : Hid (RsSz k L.conflicts.length s) := Lib.hid (by
          rw [hsf]
          have h1 : RsSz 0 L.conflicts.length s0 := by rw [HS0.out]; exact ⟨by simp, by simp, by simp, by simp, by simp, by simp⟩
          have h2 := rsSz_fold q L.conflicts.length (L.rulings.take k) 0 s0 h1
          rw [List.length_take, Nat.min_eq_left hk, Nat.zero_add] at h2
          exact h2)
        have HXR := Lib.hid (rul_range hxr)
        have HXJ := Lib.hid hxj
        have HXOK := Lib.hid hxok
        have HONE := Lib.hid hxok.one
        have HBR := Lib.hid hbr
        have HRBr := Lib.hid hrb
        have HRMr := Lib.hid hrm
        have HZr := Lib.hid hzr
        have HPS := Lib.hid hps
        have HXB := Lib.hid hxr
        clear hrb hrm hzr hps hLr hxr hxj hxok hcell hsf hxm hbr hx
        have tok : True := trivial
        go_upto_region 13 with (first
          | (have _t := tok; refine wpList_load_mid rfl 46 _ rfl x.r 0 rfl x.note.nt.enc _ HXR.out UN rfl sizeNote ?_; clear tok)
          | (refine wpList_store_blk rfl 46 _ _ rfl wr.heap.size 46 Nt0.enc.toArray x.note.nt.enc.toArray rfl rfl (Blk.new wr _ _) (by rfl) sizeNote HONE.out ?_; intro w5 hX5 hg5 hs5; clear hs5; have n12 : w5.cell? ⟨wr.heap.size, 12, none⟩ = some (.string x.note.nt.aC) := hX5.cell 12; have n13 : w5.cell? ⟨wr.heap.size, 13, none⟩ = some (.int .i64 x.note.nt.aN) := hX5.cell 13; have n14 : w5.cell? ⟨wr.heap.size, 14, none⟩ = some (.string x.note.nt.bC) := hX5.cell 14; have n15 : w5.cell? ⟨wr.heap.size, 15, none⟩ = some (.int .i64 x.note.nt.bN) := hX5.cell 15))
        have hb5 : Below wr.heap.size wr w5 := (below_alloc0 _).grown hg5 (by simp) (fun k e => by cases e; exact Nat.le_refl _)
        obtain ⟨w6, hw6⟩ : ∃ w6, w5.alloc (.cells #[.string x.note.nt.aC, .int .i64 x.note.nt.aN, .string x.note.nt.bC, .int .i64 x.note.nt.bN] 48) = w6 := ⟨_, rfl⟩
        rw [hw6]
        have hD6 : Blk w6 w5.heap.size 48 #[.string x.note.nt.aC, .int .i64 x.note.nt.aN, .string x.note.nt.bC, .int .i64 x.note.nt.bN] := by rw [← hw6]; exact Blk.new w5 _ _
        have hb56 : Below w5.heap.size w5 w6 := by rw [← hw6]; exact below_alloc0 _
        have hb6 : Below wr.heap.size wr w6 := hb5.trans (hb56.mono hb5.size)
        have hX6 := hX5.later hb56
        obtain ⟨nb, hnb⟩ : ∃ nb, wr.heap.size = nb := ⟨_, rfl⟩
        obtain ⟨db, hdb⟩ : ∃ db, w5.heap.size = db := ⟨_, rfl⟩
        rw [hnb] at hX6 ⊢
        rw [hdb] at hD6 ⊢
        have hwb : w.heap.size < nb := by have h1 := HZr.out.lt; omega
        clear n12 n13 n14 n15
        have n3 : w6.cell? ⟨nb, 3, none⟩ = some (.int .i64 x.note.nt.kind) := hX6.cell 3
        have n12 : w6.cell? ⟨nb, 12, none⟩ = some (.string x.note.nt.aC) := hX6.cell 12
        have n13 : w6.cell? ⟨nb, 13, none⟩ = some (.int .i64 x.note.nt.aN) := hX6.cell 13
        have n14 : w6.cell? ⟨nb, 14, none⟩ = some (.string x.note.nt.bC) := hX6.cell 14
        have n15 : w6.cell? ⟨nb, 15, none⟩ = some (.int .i64 x.note.nt.bN) := hX6.cell 15
        have d0 : w6.cell? ⟨db, 0, none⟩ = some (.string x.note.nt.aC) := hD6.cell 0
        have d1 : w6.cell? ⟨db, 1, none⟩ = some (.int .i64 x.note.nt.aN) := hD6.cell 1
        have d2 : w6.cell? ⟨db, 2, none⟩ = some (.string x.note.nt.bC) := hD6.cell 2
        have d3 : w6.cell? ⟨db, 3, none⟩ = some (.int .i64 x.note.nt.bN) := hD6.cell 3
        have hXB6 := HXB.out.later hb6
        have hXJ6 := HXJ.out.block (hb6.block _ HXJ.out.lt)
        have c20 : w6.cell? ⟨x.r, 20, none⟩ = some (.map (some x.j)) := hXB6.cell 20
        have hlen := hXJ6.len_run UJ
        have hb6w : Below w.heap.size w w6 := HBR.out.trans (hb6.mono HBR.out.size)
        have HX6 := Lib.hid hX6
        have HD6 := Lib.hid hD6
        have HXB6 := Lib.hid hXB6
        have HXJ6 := Lib.hid hXJ6
        have HRB6 := Lib.hid (HRBr.out.later hb6)
        have HRM6 := Lib.hid (HRMr.out.later hb6)
        have HZ6 := Lib.hid (HZr.out.later hb6)
        have HB6 := Lib.hid hb6w
        have lnb := hX6.lt
        have ldb := hD6.lt
        have h6s := hb6w.size
        clear hw6 hg5 hX5 hb5 hb56 hb6 hX6 hD6 hXB6 hXJ6 hnb hdb hb6w hcc
        by_cases hq : (x.judges.length : Int) < q
        · have e1 : decide ((x.judges.length : Int) < q) = true := decide_eq_true hq
          have HST : Hid (regStep q s x = { s with pending := s.pending ++ [x] }) := Lib.hid (by unfold regStep; rw [if_pos hq])
          have cR : w6.cell? ⟨rb, 4, none⟩ = some pvv := HRB6.out.reg.cell 4
          have fR : w6.frozen? ⟨rb, 4, none⟩ = false := HRB6.out.reg.frozen 4
          have lrb := HRB6.out.reg.lt
          have htd := fun W (hb : Below w6.heap.size w6 W) => told_any x W (HXB6.out.later hb) (HXJ6.out.block (hb.block _ HXJ6.out.lt)) HXOK.out.len
          have hpl : ps.length ≤ 2000 := by
            have h1 := congrArg List.length HPS.out
            rw [List.length_map] at h1
            have h2 := HSZ.out.pending
            omega
          have hmx : ps.length + 1 ≤ maxLen := by unfold maxLen; omega
          have hmb : (ps.length + 1) * 40 ≤ 140737488355328 := by omega
          have HTD := Lib.hid htd
          clear hq htd
          go_upto_region 14 with fail
          clear hlen
          refine wp_region_late (S := (fun w' => w'.cell? ⟨rb, 4, none⟩ = some pvv ∧ w'.frozen? ⟨rb, 4, none⟩ = false)) [7] (by kernel_rfl) ?hS2 (fun hHeld => ?_)
          case hS2 => exact ⟨cR, fR⟩
          refine tl1 (i := 0) ?_; try simp only [Act.put, zq]
          refine tl2 (i := 1) ?_; try simp only [Act.put, zq]
          refine tl1 (i := 2) ?_; try simp only [Act.put, zq]
          refine wpAnyL_ready (rs := [3]) (by kernel_rfl) (by simp) ?_
          refine AllReadyL.cons rfl (fun K hK => ?_) AllReadyL.nil
          go_simp
          (go_at_call 33; refine (HTD.out w6.drew (Below.refl _ _).drew).mono ?_; rintro e w7 ⟨vv, js, rfl, hjp, hjr, hb7⟩; obtain ⟨Av, mv, kv, rfl⟩ := own_slice hjr; have hb7 : Below w6.heap.size w6 w7 := (Below.refl _ w6).drew.trans hb7)
          go_wp2_with fail
          refine hK.out _ _ ?hS2_4 (fun hHeld => ?_)
          case hS2_4 => ((try dsimp only); exact ⟨(hb7.cell (p := ⟨rb, 4, none⟩) lrb).trans cR, (hb7.frozen (p := ⟨rb, 4, none⟩) lrb).trans fR⟩)
          clear hK K
          (try simp only [Act.put, zq])
          refine wpAnyL_ready (rs := [4]) (by kernel_rfl) (by simp) ?_
          refine AllReadyL.cons rfl (fun K hK => ?_) AllReadyL.nil
          go_simp
          refine hK.out _ _ ?hS2_5 (fun hHeld => ?_)
          case hS2_5 => ((try dsimp only); (have hb8 := hb7.alloc hb7.size (.cells #[.int .i64 x.note.nt.judge, .int .i64 x.note.nt.num, .slice Av mv kv] 53); exact ⟨(hb8.cell (p := ⟨rb, 4, none⟩) lrb).trans cR, (hb8.frozen (p := ⟨rb, 4, none⟩) lrb).trans fR⟩))
          clear hK K
          (try simp only [Act.put, zq])
          refine wpAnyL_ready (rs := [5]) (by kernel_rfl) (by simp) ?_
          refine AllReadyL.cons rfl (fun K hK => ?_) AllReadyL.nil
          (rw [if_pos (by kernel_rfl)]; have hb8 := hb7.alloc hb7.size (.cells #[.int .i64 x.note.nt.judge, .int .i64 x.note.nt.num, .slice Av mv kv] 53); refine wp_append_lies _ _ _ _ rfl w.heap.size 53 i0 _ 3 40 URs hi0 hz0 hz1 hz2 rfl (by decide) pvv ps.length (ps.flatMap Pend.enc) rfl (HRB6.out.later hb8).pend.row ⟨w7.heap.size, 0, none⟩ 1 1 [.int .i64 x.note.nt.judge, .int .i64 x.note.nt.num, .slice Av mv kv] rfl rfl (World.news_of_block (Blk.new w7 _ _)) (by simp [Value.oneCell']) (by decide) hmx hmb (by have := hb8.size; omega) _ rfl ?_; intro g' cap w9 hown' hgrow hat hlt9; have h9 := HRB6.out.later hb8; have ho := Only.of_own h9.pend.row; have cR9 := (hgrow.cell_far ⟨rb, 4, none⟩ h9.reg.lt (ho.ne h9.reg.tag (by decide))).trans (h9.reg.cell 4); have fR9 := (hgrow.frozen_far ⟨rb, 4, none⟩ h9.reg.lt (ho.ne h9.reg.tag (by decide))).trans (h9.reg.frozen 4))
          refine hK.out _ _ ?hS2_6 (fun hHeld => ?_)
          case hS2_6 => ((try dsimp only); exact ⟨cR9, fR9⟩)
          clear hK K
          (try simp only [Act.put, zq])
          refine tl1 (i := 6) ?_; try simp only [Act.put, zq]
          refine wpAnyL_ready (rs := [7]) (by kernel_rfl) (by simp) ?_
          refine AllReadyL.late rfl (by kernel_rfl) (fun K hK => ?_) AllReadyL.nil
          go_simp
          refine hK.out _ _ ?_
          clear hK K
          (try simp only [Act.put, zq])
          refine wpAnyL_done (by kernel_rfl) ?_ _
          have hpok : PendOk w.heap.size (w7.alloc (.cells #[.int .i64 x.note.nt.judge, .int .i64 x.note.nt.num, .slice Av mv kv] 53)) ⟨x, .slice Av mv kv, js⟩ := ⟨hjp, own_later (ownsRow_base_a hjr (by have : w6.drew.heap.size = w6.heap.size := rfl; omega)) (below_alloc0 _)⟩
          have hfB := HRB6.out.push ⟨x, .slice Av mv kv, js⟩ hb8 hpok hgrow hown'
          have hg2 : w9.grownBy (w9.setCell ⟨rb, 4, none⟩ (.slice (some ⟨g', 0, none⟩) (ps.length + 1) cap)) (some rb) := grown_put _ _ _ _
          have hM8 := HRM6.out.later hb8
          have hM9 := hM8.kept hgrow ho (by decide)
          have hr9 := h9.reg.kept hgrow (ho.ne h9.reg.tag (by decide))
          have hMF := hM9.kept hg2 (Only.of_blk hr9) (by decide)
          have hBF : Below w.heap.size w (w9.setCell ⟨rb, 4, none⟩ (.slice (some ⟨g', 0, none⟩) (ps.length + 1) cap)) := ((HB6.out.trans (hb8.mono h6s)).grown hgrow (by have := hb8.size; omega) (fun j e => (h9.pend.row.lt j e).1)).grown hg2 (by have h1 := hb8.size; have h2 := hgrow.size; omega) (fun j e => by cases e; omega)
          have hz8 := HZ6.out.later hb8
          have hz9 := hz8.kept hgrow (ho.ne hz8.tag (by decide))
          have HE : Hid (RegBase w.heap.size _ rb bx bc ev _ (.slice Ap mp kp) L.hash es (ps ++ [⟨x, .slice Av mv kv, js⟩]) ∧ RegMaps _ b7 (b7 + 1) (b7 + 2) (b7 + 3) bc s ∧ Below w.heap.size w _ ∧ Blk _ w.heap.size 32 #[.slice none 0 0, .slice none 0 0, .slice none 0 0, .slice none 0 0, .slice none 0 0, .slice none 0 0, .int .i64 0, .slice none 0 0]) := Lib.hid ⟨hfB, hMF, hBF, hz9.kept hg2 (by intro e; injection e with e; omega)⟩
          clear hHeld hpok hfB hg2 hM8 hM9 hr9 hMF hBF hz8 hz9 h9 ho cR9 fR9 hgrow hown' hb8 hb7 hjr
          go_wp2
          (try go_frame)
          go_roundw
          case rel =>
            refine ⟨k + 1, regStep q s x, _, ps ++ [⟨x, .slice Av mv kv, js⟩], by omega, by go_num, HSF.out, by rw [HST.out, List.map_append, HPS.out]; rfl, HE.out.1, ?_, HE.out.2.2.1, HE.out.2.2.2⟩
            rw [HST.out]
            exact ⟨HE.out.2.1.struck, HE.out.2.1.force, HE.out.2.1.forbid, HE.out.2.1.bound, HE.out.2.1.conflicts⟩
          case measure =>
            show L.rulings.length - ((k : Int) + 1).toNat < L.rulings.length - (k : Int).toNat
            omega
        · have e1 : decide ((x.judges.length : Int) < q) = false := decide_eq_false hq
          have hnq : ¬ (x.judges.length : Int) < q := hq
          by_cases h3 : x.note.nt.kind = 3
          · have e3 : (x.note.nt.kind == 3) = true := by simp [h3]
            have HST : Hid (regStep q s x = { s with struck := putM s.struck (mkA x.note) true }) := Lib.hid (by unfold regStep; rw [if_neg hnq, if_pos h3])
            clear hq hnq h3
            go_wp2_with (refine wpList_mapUpdate_of rfl _ _ _ _ rfl 4 keyedMark UM rfl HRM6.out.struck (mkA x.note) true rfl rfl (key_mark (mkA x.note) HXOK.out.aC HXOK.out.aN) ?_; intro w7 hm7 hg7 hs7; clear hs7)
            have ho7 : Only w6 0 (some (b7)) := fun j e => by cases e; exact HRM6.out.struck.tag
            have HE : Hid (RegBase w.heap.size w7 rb bx bc ev pvv (.slice Ap mp kp) L.hash es ps ∧ RegMaps w7 b7 (b7 + 1) (b7 + 2) (b7 + 3) bc (regStep q s x) ∧ Below w.heap.size w w7 ∧ Blk w7 w.heap.size 32 #[.slice none 0 0, .slice none 0 0, .slice none 0 0, .slice none 0 0, .slice none 0 0, .slice none 0 0, .int .i64 0, .slice none 0 0]) := Lib.hid ⟨HRB6.out.kept hg7 ho7, by rw [HST.out]; exact HRM6.out.set_struck HND.out hg7 hm7, HB6.out.grown hg7 h6s (fun j e => by cases e; omega), HZ6.out.kept hg7 (ho7.ne HZ6.out.tag (by decide))⟩
            have HPE : Hid (ps.map (·.rul) = (regStep q s x).pending) := Lib.hid (by rw [HST.out]; exact HPS.out)
            clear hm7 hg7 ho7
            (try go_wp2)
            (try go_frame)
            go_roundw
            case rel => exact ⟨k + 1, regStep q s x, pvv, ps, by omega, by go_num, HSF.out, HPE.out, HE.out.1, HE.out.2.1, HE.out.2.2.1, HE.out.2.2.2⟩
            case measure =>
              show L.rulings.length - ((k : Int) + 1).toNat < L.rulings.length - (k : Int).toNat
              omega
          · have e3 : (x.note.nt.kind == 3) = false := by simp [h3]
            rcases HXOK.out.kind with hk3 | hk4 | hk5
            · exact absurd hk3 h3
            · have e4 : (x.note.nt.kind == 4) = true := by simp [hk4]
              have e5 : (x.note.nt.kind == 5) = false := by simp [hk4]
              have hcb : clashB s x.note = (hasK s.forbid (duoOf x.note) || hasK s.bound (mkA x.note) || hasK s.bound (mkB x.note)) := by unfold clashB; rw [e4, e5]; simp
              have HCB := Lib.hid hcb
              have HNQ := Lib.hid hnq
              have H3 := Lib.hid h3
              have H4 := Lib.hid hk4
              clear hq hnq h3 hk4 hcb
              obtain ⟨zb, hzb⟩ : ∃ zb, zb = hasK s.forbid (duoOf x.note) := ⟨_, rfl⟩
              obtain ⟨za, hza⟩ : ∃ za, za = hasK s.bound (mkA x.note) := ⟨_, rfl⟩
              obtain ⟨zc, hzc⟩ : ∃ zc, zc = hasK s.bound (mkB x.note) := ⟨_, rfl⟩
              have HZB := Lib.hid hzb
              have HZA := Lib.hid hza
              have HZC := Lib.hid hzc
              have HLB : Hid (lookV Value.bool (.bool false) false (getM s.forbid (duoOf x.note)) = .bool zb) := Lib.hid (by rw [lookB, hzb]; rfl)
              have HLA : Hid (lookV Value.bool (.bool false) false (getM s.bound (mkA x.note)) = .bool za) := Lib.hid (by rw [lookB, hza]; rfl)
              have HLC : Hid (lookV Value.bool (.bool false) false (getM s.bound (mkB x.note)) = .bool zc) := Lib.hid (by rw [lookB, hzc]; rfl)
              clear hzb hza hzc
              cases zb
              · cases za
                · cases zc
                  · skip
                    have HST : Hid (regStep q s x = { s with force := putM s.force (duoOf x.note) true, bound := putM (putM s.bound (mkA x.note) true) (mkB x.note) true }) := Lib.hid (by
                      unfold regStep
                      rw [if_neg HNQ.out, if_neg H3.out, HCB.out, ← HZB.out, ← HZA.out, ← HZC.out, if_neg (by simp), if_neg (by have := H4.out; omega)])
                    go_upto_region 12 with (first
                      | (refine wpList_lookup_of_on (by kernel_rfl) false _ _ _ rfl 4 keyedDuo UD _ zeroBool rfl HRM6.out.forbid (duoOf x.note) rfl (key_duo (duoOf x.note) HXOK.out.aC HXOK.out.aN HXOK.out.bC HXOK.out.bN) ?_; rw [HLB.out])
                      | (refine wpList_lookup_of_on (by kernel_rfl) false _ _ _ rfl 4 keyedMark UM _ zeroBool rfl HRM6.out.bound (mkA x.note) rfl (key_mark (mkA x.note) HXOK.out.aC HXOK.out.aN) ?_; rw [HLA.out])
                      | (refine wpList_lookup_of_on (by kernel_rfl) false _ _ _ rfl 4 keyedMark UM _ zeroBool rfl HRM6.out.bound (mkB x.note) rfl (key_mark (mkB x.note) HXOK.out.bC HXOK.out.bN) ?_; rw [HLC.out]))
                    have hM6 := HRM6.out.later (Below.refl _ w6).drew
                    have hSx : ∀ w' : World, Blk w' db 48 #[.string x.note.nt.aC, .int .i64 x.note.nt.aN, .string x.note.nt.bC, .int .i64 x.note.nt.bN] → Blk w' nb 46 x.note.nt.enc.toArray → Blk w' db 48 #[.string x.note.nt.aC, .int .i64 x.note.nt.aN, .string x.note.nt.bC, .int .i64 x.note.nt.bN] ∧ w'.cell? ⟨nb, 12, none⟩ = some (.string x.note.nt.aC) ∧ w'.cell? ⟨nb, 13, none⟩ = some (.int .i64 x.note.nt.aN) ∧ w'.cell? ⟨nb, 14, none⟩ = some (.string x.note.nt.bC) ∧ w'.cell? ⟨nb, 15, none⟩ = some (.int .i64 x.note.nt.bN) := fun w' h1 h2 => ⟨h1, h2.cell 12, h2.cell 13, h2.cell 14, h2.cell 15⟩
                    have HSX := Lib.hid hSx
                    clear hSx
                    refine wp_region_late (S := (fun w' => Blk w' db 48 #[.string x.note.nt.aC, .int .i64 x.note.nt.aN, .string x.note.nt.bC, .int .i64 x.note.nt.bN] ∧ w'.cell? ⟨nb, 12, none⟩ = some (.string x.note.nt.aC) ∧ w'.cell? ⟨nb, 13, none⟩ = some (.int .i64 x.note.nt.aN) ∧ w'.cell? ⟨nb, 14, none⟩ = some (.string x.note.nt.bC) ∧ w'.cell? ⟨nb, 15, none⟩ = some (.int .i64 x.note.nt.bN))) [10] (by kernel_rfl) ?hS3 (fun hHeld => ?_)
                    case hS3 => exact HSX.out _ HD6.out.drew HX6.out.drew
                    refine tl1 (i := 0) ?_; try simp only [Act.put, zq]
                    refine' wpAnyL_take (i := 1) rfl (by kernel_rfl) (by kernel_rfl) (by kernel_rfl) (by kernel_rfl) (by kernel_rfl) (by kernel_rfl) (fun _ _ _ h => h) (yieldsIf_load_blk (by kernel_rfl) _ _ rfl _ _ _ _ rfl (fun w9 hSw => hSw.1) ?hu3_2 ?hd3_2 ?hi3_2) (by assumption) ?_
                    case hu3_2 => assumption
                    case hd3_2 => rfl
                    case hi3_2 => (first | assumption | kernel_rfl)
                    (try simp only [Act.put, zq])
                    refine tl1 (i := 2) ?_; try simp only [Act.put, zq]
                    refine tl1 (i := 3) ?_; try simp only [Act.put, zq]
                    refine tl2 (i := 4) ?_; try simp only [Act.put, zq]
                    refine tl1 (i := 5) ?_; try simp only [Act.put, zq]
                    refine tl1 (i := 6) ?_; try simp only [Act.put, zq]
                    refine tl2 (i := 7) ?_; try simp only [Act.put, zq]
                    refine wpAnyL_ready (rs := [8]) (by kernel_rfl) (by simp) ?_
                    refine AllReadyL.cons rfl (fun K hK => ?_) AllReadyL.nil
                    (rw [if_pos (by kernel_rfl)]; refine wp_mapUpdate_of _ _ _ _ rfl 4 keyedDuo UD rfl hM6.force (duoOf x.note) true rfl rfl (key_duo (duoOf x.note) HXOK.out.aC HXOK.out.aN HXOK.out.bC HXOK.out.bN) ?_; intro w7 hm7 hg7 hs7; have ho7 : Only w6.drew 0 (some (b7 + 1)) := (fun j e => by cases e; exact hM6.force.tag); have hM7 := hM6.set_force HND.out hg7 hm7; have hD7 := HD6.out.drew.kept hg7 (ho7.ne HD6.out.drew.tag (by decide)); have hX7 := HX6.out.drew.kept hg7 (ho7.ne HX6.out.drew.tag (by decide)))
                    refine hK.out _ _ ?hS3_9 (fun hHeld => ?_)
                    case hS3_9 => ((try dsimp only); exact HSX.out _ hD7 hX7)
                    clear hK K
                    (try simp only [Act.put, zq])
                    refine wpAnyL_ready (rs := [9]) (by kernel_rfl) (by simp) ?_
                    refine AllReadyL.cons rfl (fun K hK => ?_) AllReadyL.nil
                    (rw [if_pos (by kernel_rfl)]; refine wp_mapUpdate_of _ _ _ _ rfl 4 keyedMark UM rfl hM7.bound (mkA x.note) true rfl rfl (key_mark (mkA x.note) HXOK.out.aC HXOK.out.aN) ?_; intro w8 hm8 hg8 hs8; have ho8 : Only w7 0 (some (b7 + 3)) := (fun j e => by cases e; exact hM7.bound.tag); have hM8 := hM7.set_bound HND.out hg8 hm8; have hD8 := hD7.kept hg8 (ho8.ne hD7.tag (by decide)); have hX8 := hX7.kept hg8 (ho8.ne hX7.tag (by decide)))
                    refine hK.out _ _ ?hS3_10 (fun hHeld => ?_)
                    case hS3_10 => ((try dsimp only); exact HSX.out _ hD8 hX8)
                    clear hK K
                    (try simp only [Act.put, zq])
                    refine wpAnyL_ready (rs := [10]) (by kernel_rfl) (by simp) ?_
                    refine AllReadyL.late rfl (by kernel_rfl) (fun K hK => ?_) AllReadyL.nil
                    (rw [if_pos (by kernel_rfl)]; refine wp_mapUpdate_of _ _ _ _ rfl 4 keyedMark UM rfl hM8.bound (mkB x.note) true rfl rfl (key_mark (mkB x.note) HXOK.out.bC HXOK.out.bN) ?_; intro w9 hm9 hg9 hs9)
                    refine hK.out _ _ ?_
                    clear hK K
                    (try simp only [Act.put, zq])
                    refine wpAnyL_done (by kernel_rfl) ?_ _
                    have ho9 : Only w8 0 (some (b7 + 3)) := fun j e => by cases e; exact hM8.bound.tag
                    have hz7 := (HZ6.out.drew).kept hg7 (ho7.ne HZ6.out.drew.tag (by decide))
                    have hz8 := hz7.kept hg8 (ho8.ne hz7.tag (by decide))
                    have HE : Hid (RegBase w.heap.size w9 rb bx bc ev pvv (.slice Ap mp kp) L.hash es ps ∧ RegMaps w9 b7 (b7 + 1) (b7 + 2) (b7 + 3) bc (regStep q s x) ∧ Below w.heap.size w w9 ∧ Blk w9 w.heap.size 32 #[.slice none 0 0, .slice none 0 0, .slice none 0 0, .slice none 0 0, .slice none 0 0, .slice none 0 0, .int .i64 0, .slice none 0 0]) := Lib.hid ⟨(((HRB6.out.later (Below.refl _ w6).drew).kept hg7 ho7).kept hg8 ho8).kept hg9 ho9, by rw [HST.out]; exact hM8.set_bound HND.out hg9 hm9, ((HB6.out.drew.grown hg7 h6s (fun j e => by cases e; omega)).grown hg8 (by have := hg7.size; have h9 : w6.drew.heap.size = w6.heap.size := rfl; omega) (fun j e => by cases e; omega)).grown hg9 (by have := hg7.size; have := hg8.size; have h9 : w6.drew.heap.size = w6.heap.size := rfl; omega) (fun j e => by cases e; omega), hz8.kept hg9 (ho9.ne hz8.tag (by decide))⟩
                    have HPE : Hid (ps.map (·.rul) = (regStep q s x).pending) := Lib.hid (by rw [HST.out]; exact HPS.out)
                    clear hHeld hm7 hm8 hm9 hg7 hg8 hg9 ho7 ho8 ho9 hM6 hM7 hM8 hD7 hD8 hX7 hX8 hz7 hz8
                    (try go_wp2)
                    (try go_frame)
                    go_roundw
                    case rel => exact ⟨k + 1, regStep q s x, pvv, ps, by omega, by go_num, HSF.out, HPE.out, HE.out.1, HE.out.2.1, HE.out.2.2.1, HE.out.2.2.2⟩
                    case measure =>
                      show L.rulings.length - ((k : Int) + 1).toNat < L.rulings.length - (k : Int).toNat
                      omega
                  · skip
                    have HST : Hid (regStep q s x = { s with conflicts := putM s.conflicts (nm x.note) true }) := Lib.hid (by
                      unfold regStep
                      rw [if_neg HNQ.out, if_neg H3.out, HCB.out, ← HZB.out, ← HZA.out, ← HZC.out, if_pos (by simp)])
                    have hcl := fun W (hb : Below w6.heap.size w6 W) => clash_any x bx bc s.conflicts W (HXB6.out.later hb) (HRB6.out.box.later hb) (HRM6.out.later hb).conflicts (key_name (nm x.note) HXOK.out.judge HXOK.out.num)
                    go_wp2_with (first
                      | (refine wpList_lookup_of_on (by kernel_rfl) false _ _ _ rfl 4 keyedDuo UD _ zeroBool rfl HRM6.out.forbid (duoOf x.note) rfl (key_duo (duoOf x.note) HXOK.out.aC HXOK.out.aN HXOK.out.bC HXOK.out.bN) ?_; rw [HLB.out])
                      | (refine wpList_lookup_of_on (by kernel_rfl) false _ _ _ rfl 4 keyedMark UM _ zeroBool rfl HRM6.out.bound (mkA x.note) rfl (key_mark (mkA x.note) HXOK.out.aC HXOK.out.aN) ?_; rw [HLA.out])
                      | (refine wpList_lookup_of_on (by kernel_rfl) false _ _ _ rfl 4 keyedMark UM _ zeroBool rfl HRM6.out.bound (mkB x.note) rfl (key_mark (mkB x.note) HXOK.out.bC HXOK.out.bN) ?_; rw [HLC.out])
                      | (go_at_call 84; refine (hcl _ (Below.refl _ _)).mono ?_; rintro e w7 ⟨⟨vr, rfl⟩, hm7, w8, hb8, hg7⟩))
                    have ho8 : Only w8 0 (some bc) := fun j e => by cases e; exact (HRM6.out.later hb8).conflicts.tag
                    have HE : Hid (RegBase w.heap.size w7 rb bx bc ev pvv (.slice Ap mp kp) L.hash es ps ∧ RegMaps w7 b7 (b7 + 1) (b7 + 2) (b7 + 3) bc (regStep q s x) ∧ Below w.heap.size w w7 ∧ Blk w7 w.heap.size 32 #[.slice none 0 0, .slice none 0 0, .slice none 0 0, .slice none 0 0, .slice none 0 0, .slice none 0 0, .int .i64 0, .slice none 0 0]) := Lib.hid ⟨(HRB6.out.later hb8).kept hg7 ho8, by rw [HST.out]; exact (HRM6.out.later hb8).set_conflicts HND.out hg7 hm7, (HB6.out.trans (hb8.mono h6s)).grown hg7 (by have := hb8.size; omega) (fun j e => by cases e; omega), (HZ6.out.later hb8).kept hg7 (ho8.ne (HZ6.out.later hb8).tag (by decide))⟩
                    have HPE : Hid (ps.map (·.rul) = (regStep q s x).pending) := Lib.hid (by rw [HST.out]; exact HPS.out)
                    clear hm7 hg7 ho8 hb8 hcl
                    (try go_wp2)
                    (try go_frame)
                    go_roundw
                    case rel => exact ⟨k + 1, regStep q s x, pvv, ps, by omega, by go_num, HSF.out, HPE.out, HE.out.1, HE.out.2.1, HE.out.2.2.1, HE.out.2.2.2⟩
                    case measure =>
                      show L.rulings.length - ((k : Int) + 1).toNat < L.rulings.length - (k : Int).toNat
                      omega
                · skip
                  have HST : Hid (regStep q s x = { s with conflicts := putM s.conflicts (nm x.note) true }) := Lib.hid (by
                    unfold regStep
                    rw [if_neg HNQ.out, if_neg H3.out, HCB.out, ← HZB.out, ← HZA.out, ← HZC.out, if_pos (by simp)])
                  have hcl := fun W (hb : Below w6.heap.size w6 W) => clash_any x bx bc s.conflicts W (HXB6.out.later hb) (HRB6.out.box.later hb) (HRM6.out.later hb).conflicts (key_name (nm x.note) HXOK.out.judge HXOK.out.num)
                  go_wp2_with (first
                    | (refine wpList_lookup_of_on (by kernel_rfl) false _ _ _ rfl 4 keyedDuo UD _ zeroBool rfl HRM6.out.forbid (duoOf x.note) rfl (key_duo (duoOf x.note) HXOK.out.aC HXOK.out.aN HXOK.out.bC HXOK.out.bN) ?_; rw [HLB.out])
                    | (refine wpList_lookup_of_on (by kernel_rfl) false _ _ _ rfl 4 keyedMark UM _ zeroBool rfl HRM6.out.bound (mkA x.note) rfl (key_mark (mkA x.note) HXOK.out.aC HXOK.out.aN) ?_; rw [HLA.out])
                    | (refine wpList_lookup_of_on (by kernel_rfl) false _ _ _ rfl 4 keyedMark UM _ zeroBool rfl HRM6.out.bound (mkB x.note) rfl (key_mark (mkB x.note) HXOK.out.bC HXOK.out.bN) ?_; rw [HLC.out])
                    | (go_at_call 84; refine (hcl _ (Below.refl _ _)).mono ?_; rintro e w7 ⟨⟨vr, rfl⟩, hm7, w8, hb8, hg7⟩))
                  have ho8 : Only w8 0 (some bc) := fun j e => by cases e; exact (HRM6.out.later hb8).conflicts.tag
                  have HE : Hid (RegBase w.heap.size w7 rb bx bc ev pvv (.slice Ap mp kp) L.hash es ps ∧ RegMaps w7 b7 (b7 + 1) (b7 + 2) (b7 + 3) bc (regStep q s x) ∧ Below w.heap.size w w7 ∧ Blk w7 w.heap.size 32 #[.slice none 0 0, .slice none 0 0, .slice none 0 0, .slice none 0 0, .slice none 0 0, .slice none 0 0, .int .i64 0, .slice none 0 0]) := Lib.hid ⟨(HRB6.out.later hb8).kept hg7 ho8, by rw [HST.out]; exact (HRM6.out.later hb8).set_conflicts HND.out hg7 hm7, (HB6.out.trans (hb8.mono h6s)).grown hg7 (by have := hb8.size; omega) (fun j e => by cases e; omega), (HZ6.out.later hb8).kept hg7 (ho8.ne (HZ6.out.later hb8).tag (by decide))⟩
                  have HPE : Hid (ps.map (·.rul) = (regStep q s x).pending) := Lib.hid (by rw [HST.out]; exact HPS.out)
                  clear hm7 hg7 ho8 hb8 hcl
                  (try go_wp2)
                  (try go_frame)
                  go_roundw
                  case rel => exact ⟨k + 1, regStep q s x, pvv, ps, by omega, by go_num, HSF.out, HPE.out, HE.out.1, HE.out.2.1, HE.out.2.2.1, HE.out.2.2.2⟩
                  case measure =>
                    show L.rulings.length - ((k : Int) + 1).toNat < L.rulings.length - (k : Int).toNat
                    omega
              · skip
                have HST : Hid (regStep q s x = { s with conflicts := putM s.conflicts (nm x.note) true }) := Lib.hid (by
                  unfold regStep
                  rw [if_neg HNQ.out, if_neg H3.out, HCB.out, ← HZB.out, ← HZA.out, ← HZC.out, if_pos (by simp)])
                have hcl := fun W (hb : Below w6.heap.size w6 W) => clash_any x bx bc s.conflicts W (HXB6.out.later hb) (HRB6.out.box.later hb) (HRM6.out.later hb).conflicts (key_name (nm x.note) HXOK.out.judge HXOK.out.num)
                go_wp2_with (first
                  | (refine wpList_lookup_of_on (by kernel_rfl) false _ _ _ rfl 4 keyedDuo UD _ zeroBool rfl HRM6.out.forbid (duoOf x.note) rfl (key_duo (duoOf x.note) HXOK.out.aC HXOK.out.aN HXOK.out.bC HXOK.out.bN) ?_; rw [HLB.out])
                  | (refine wpList_lookup_of_on (by kernel_rfl) false _ _ _ rfl 4 keyedMark UM _ zeroBool rfl HRM6.out.bound (mkA x.note) rfl (key_mark (mkA x.note) HXOK.out.aC HXOK.out.aN) ?_; rw [HLA.out])
                  | (refine wpList_lookup_of_on (by kernel_rfl) false _ _ _ rfl 4 keyedMark UM _ zeroBool rfl HRM6.out.bound (mkB x.note) rfl (key_mark (mkB x.note) HXOK.out.bC HXOK.out.bN) ?_; rw [HLC.out])
                  | (go_at_call 84; refine (hcl _ (Below.refl _ _)).mono ?_; rintro e w7 ⟨⟨vr, rfl⟩, hm7, w8, hb8, hg7⟩))
                have ho8 : Only w8 0 (some bc) := fun j e => by cases e; exact (HRM6.out.later hb8).conflicts.tag
                have HE : Hid (RegBase w.heap.size w7 rb bx bc ev pvv (.slice Ap mp kp) L.hash es ps ∧ RegMaps w7 b7 (b7 + 1) (b7 + 2) (b7 + 3) bc (regStep q s x) ∧ Below w.heap.size w w7 ∧ Blk w7 w.heap.size 32 #[.slice none 0 0, .slice none 0 0, .slice none 0 0, .slice none 0 0, .slice none 0 0, .slice none 0 0, .int .i64 0, .slice none 0 0]) := Lib.hid ⟨(HRB6.out.later hb8).kept hg7 ho8, by rw [HST.out]; exact (HRM6.out.later hb8).set_conflicts HND.out hg7 hm7, (HB6.out.trans (hb8.mono h6s)).grown hg7 (by have := hb8.size; omega) (fun j e => by cases e; omega), (HZ6.out.later hb8).kept hg7 (ho8.ne (HZ6.out.later hb8).tag (by decide))⟩
                have HPE : Hid (ps.map (·.rul) = (regStep q s x).pending) := Lib.hid (by rw [HST.out]; exact HPS.out)
                clear hm7 hg7 ho8 hb8 hcl
                (try go_wp2)
                (try go_frame)
                go_roundw
                case rel => exact ⟨k + 1, regStep q s x, pvv, ps, by omega, by go_num, HSF.out, HPE.out, HE.out.1, HE.out.2.1, HE.out.2.2.1, HE.out.2.2.2⟩
                case measure =>
                  show L.rulings.length - ((k : Int) + 1).toNat < L.rulings.length - (k : Int).toNat
                  omega
            · have e4 : (x.note.nt.kind == 4) = false := by simp [hk5]
              have e5 : (x.note.nt.kind == 5) = true := by simp [hk5]
              have hcb : clashB s x.note = hasK s.force (duoOf x.note) := by unfold clashB; rw [e4, e5]; simp
              obtain ⟨zf, hzf⟩ : ∃ zf, zf = hasK s.force (duoOf x.note) := ⟨_, rfl⟩
              have HZF := Lib.hid hzf
              have HCB := Lib.hid hcb
              have HNQ := Lib.hid hnq
              have H3 := Lib.hid h3
              have H5 := Lib.hid hk5
              have hlk : lookV Value.bool (.bool false) false (getM s.force (duoOf x.note)) = .bool zf := by rw [lookB, hzf]; rfl
              have HLK := Lib.hid hlk
              clear hq hnq h3 hk5 hcb hzf hlk
              cases zf
              · have HST : Hid (regStep q s x = { s with forbid := putM s.forbid (duoOf x.note) true }) := Lib.hid (by
                  unfold regStep
                  rw [if_neg HNQ.out, if_neg H3.out, HCB.out, ← HZF.out, if_neg (by simp), if_pos H5.out])
                go_wp2_with (first
                  | (refine wpList_lookup_of_on (by kernel_rfl) false _ _ _ rfl 4 keyedDuo UD _ zeroBool rfl HRM6.out.force (duoOf x.note) rfl (key_duo (duoOf x.note) HXOK.out.aC HXOK.out.aN HXOK.out.bC HXOK.out.bN) ?_; rw [HLK.out])
                  | (refine wpList_mapUpdate_of rfl _ _ _ _ rfl 4 keyedDuo UD rfl HRM6.out.forbid (duoOf x.note) true rfl rfl (key_duo (duoOf x.note) HXOK.out.aC HXOK.out.aN HXOK.out.bC HXOK.out.bN) ?_; intro w7 hm7 hg7 hs7; clear hs7))
                have ho7 : Only w6 0 (some (b7 + 2)) := fun j e => by cases e; exact HRM6.out.forbid.tag
                have HE : Hid (RegBase w.heap.size w7 rb bx bc ev pvv (.slice Ap mp kp) L.hash es ps ∧ RegMaps w7 b7 (b7 + 1) (b7 + 2) (b7 + 3) bc (regStep q s x) ∧ Below w.heap.size w w7 ∧ Blk w7 w.heap.size 32 #[.slice none 0 0, .slice none 0 0, .slice none 0 0, .slice none 0 0, .slice none 0 0, .slice none 0 0, .int .i64 0, .slice none 0 0]) := Lib.hid ⟨HRB6.out.kept hg7 ho7, by rw [HST.out]; exact HRM6.out.set_forbid HND.out hg7 hm7, HB6.out.grown hg7 h6s (fun j e => by cases e; omega), HZ6.out.kept hg7 (ho7.ne HZ6.out.tag (by decide))⟩
                have HPE : Hid (ps.map (·.rul) = (regStep q s x).pending) := Lib.hid (by rw [HST.out]; exact HPS.out)
                clear hm7 hg7 ho7
                (try go_wp2)
                (try go_frame)
                go_roundw
                case rel => exact ⟨k + 1, regStep q s x, pvv, ps, by omega, by go_num, HSF.out, HPE.out, HE.out.1, HE.out.2.1, HE.out.2.2.1, HE.out.2.2.2⟩
                case measure =>
                  show L.rulings.length - ((k : Int) + 1).toNat < L.rulings.length - (k : Int).toNat
                  omega
              · have HST : Hid (regStep q s x = { s with conflicts := putM s.conflicts (nm x.note) true }) := Lib.hid (by
                  unfold regStep
                  rw [if_neg HNQ.out, if_neg H3.out, HCB.out, ← HZF.out, if_pos rfl])
                have hcl := fun W (hb : Below w6.heap.size w6 W) => clash_any x bx bc s.conflicts W (HXB6.out.later hb) (HRB6.out.box.later hb) (HRM6.out.later hb).conflicts (key_name (nm x.note) HXOK.out.judge HXOK.out.num)
                go_wp2_with (first
                  | (refine wpList_lookup_of_on (by kernel_rfl) false _ _ _ rfl 4 keyedDuo UD _ zeroBool rfl HRM6.out.force (duoOf x.note) rfl (key_duo (duoOf x.note) HXOK.out.aC HXOK.out.aN HXOK.out.bC HXOK.out.bN) ?_; rw [HLK.out])
                  | (go_at_call 84; refine (hcl _ (Below.refl _ _)).mono ?_; rintro e w7 ⟨⟨vr, rfl⟩, hm7, w8, hb8, hg7⟩))
                have ho8 : Only w8 0 (some bc) := fun j e => by cases e; exact (HRM6.out.later hb8).conflicts.tag
                have HE : Hid (RegBase w.heap.size w7 rb bx bc ev pvv (.slice Ap mp kp) L.hash es ps ∧ RegMaps w7 b7 (b7 + 1) (b7 + 2) (b7 + 3) bc (regStep q s x) ∧ Below w.heap.size w w7 ∧ Blk w7 w.heap.size 32 #[.slice none 0 0, .slice none 0 0, .slice none 0 0, .slice none 0 0, .slice none 0 0, .slice none 0 0, .int .i64 0, .slice none 0 0]) := Lib.hid ⟨(HRB6.out.later hb8).kept hg7 ho8, by rw [HST.out]; exact (HRM6.out.later hb8).set_conflicts HND.out hg7 hm7, (HB6.out.trans (hb8.mono h6s)).grown hg7 (by have := hb8.size; omega) (fun j e => by cases e; omega), (HZ6.out.later hb8).kept hg7 (ho8.ne (HZ6.out.later hb8).tag (by decide))⟩
                have HPE : Hid (ps.map (·.rul) = (regStep q s x).pending) := Lib.hid (by rw [HST.out]; exact HPS.out)
                clear hm7 hg7 ho8 hb8 hcl
                (try go_wp2)
                (try go_frame)
                go_roundw
                case rel => exact ⟨k + 1, regStep q s x, pvv, ps, by omega, by go_num, HSF.out, HPE.out, HE.out.1, HE.out.2.1, HE.out.2.2.1, HE.out.2.2.2⟩
                case measure =>
                  show L.rulings.length - ((k : Int) + 1).toNat < L.rulings.length - (k : Int).toNat
                  omega
      · have hks : k = L.rulings.length := by omega
        have hsf' : s = L.rulings.foldl (regStep q) s0 := by rw [hsf, hks, List.take_length]
        clear hks hsf
        have hsz : RsSz L.rulings.length L.conflicts.length s := by
          rw [hsf']
          have h1 : RsSz 0 L.conflicts.length s0 := by rw [HS0.out]; exact ⟨by simp, by simp, by simp, by simp, by simp, by simp⟩
          have h2 := rsSz_fold q L.conflicts.length L.rulings 0 s0 h1
          rwa [Nat.zero_add] at h2
        have hpl : ps.length ≤ 2000 := by
          have h1 := congrArg List.length hps
          rw [List.length_map] at h1
          have h2 := hsz.pending
          omega
        have hpb : ∀ j, pvv.ownBlock = some j → w.heap.size ≤ j ∧ j < wr.heap.size := fun j hj => hrb.pend.row.lt j hj
        have l1 := hsz.struck
        have l2 := hsz.force
        have l3 := hsz.forbid
        have l4 := hsz.conflicts
        have HM0 : Hid (RegMid w.heap.size wr rb bx bc b7 (b7 + 1) (b7 + 2) (b7 + 3) w.heap.size ev pvv es ps s _) := Lib.hid ⟨hrb.reg, hrb.box, hrb.ents, hrb.pend, hrm, hzr, by omega⟩
        have HB0' := Lib.hid hbr
        have HSF := Lib.hid hsf'
        have HPS := Lib.hid hps
        have HPB := Lib.hid hpb
        have oev : ev.oneCell' = true := own_one hrb.ents.row
        have opv : pvv.oneCell' = true := own_one hrb.pend.row
        have HONE : Hid (∀ (a1 a2 a3 a4 : Option Addr) (n1 n2 n3 n4 c1 c2 c3 c4 : Nat), (#[ev, .slice a1 n1 c1, .slice a2 n2 c2, .slice a3 n3 c3, pvv, .slice Ap mp kp, .int .i64 L.hash, .slice a4 n4 c4] : Array Value).all (·.oneCell') = true) := Lib.hid (fun _ _ _ _ _ _ _ _ _ _ _ _ => by rw [List.all_toArray]; simp only [List.all_cons, List.all_nil, oev, opv]; rfl)
        have hz0 : wr.heap.size ≤ wr.heap.size := Nat.le_refl _
        have lrb0 := HM0.out.reg.lt
        have hzn := HM0.out.zero.lt
        clear oev opv hsz hpb hrb hrm hbr hzr hps hsf'
        have HB0 := HB0'
        have hso1 := sortedMk_any Value.bool wr.heap.size (b7) s.struck (wr.alloc (.cells #[.map (some (b7))] 164)) (HM0.out.maps.struck.kept (World.grownBy_alloc _ _ none) (by simp)) (by simp) ((Blk.new wr 164 #[.map (some (b7))]).cell 0) (by omega)
        go_upto_region 24 with (first
          | (go_at_call 86; refine (keysOfMk_any (some (b7)) _).mono ?_; rintro e wa1 ⟨rfl, rfl⟩)
          | (go_at_call 85; refine hso1.mono ?_; rintro e wb1 ⟨u1, x1, rfl, hr1, hp1, hq1, hu1, hb1'⟩; obtain ⟨A1, c1, rfl⟩ := hr1.len; have hbb1 : Below wr.heap.size wr wb1 := (below_alloc0 _).trans (hb1'.mono (by simp)); have HN1 := Lib.hid (HM0.out.later hbb1); have cc : wb1.cell? ⟨rb, 1, none⟩ = some (.slice none 0 0) := HN1.out.reg.cell 1; have ff := HN1.out.reg.frozen 1))
        obtain ⟨w24, hw1⟩ : ∃ w24, wb1.setCell ⟨rb, 1, none⟩ (.slice A1 x1.length c1) = w24 := ⟨_, rfl⟩
        rw [hw1]
        have M1' := by have h := HN1.out.put 1 (.slice A1 x1.length c1); rw [hw1] at h; exact h
        have hg1 : wb1.grownBy w24 (some rb) := by rw [← hw1]; exact grown_put _ _ _ _
        have lrb1 := HM0.out.reg.lt
        have sz1 : wr.heap.size + 1 ≤ wb1.heap.size := by have := hb1'.size; simp at this; omega
        have R1' := hr1.kept hg1 (fun j hj e => by injection e with e; have h1 := hu1 j hj; simp at h1; omega)
        have HU1 : Hid (∀ j, (Value.slice A1 x1.length c1).ownBlock = some j → wr.heap.size ≤ j) := Lib.hid (fun j hj => by have h1 := hu1 j hj; simp at h1; omega)
        have hB1' : Below w.heap.size w w24 := (HB0.out.trans (hbb1.mono HB0.out.size)).grown hg1 (by have h1 := HB0.out.size; have h2 := hbb1.size; omega) (fun j e => by cases e; omega)
        have hz1 : wr.heap.size ≤ w24.heap.size := by have h1 := hg1.size; omega
        have HB1 := Lib.hid hB1'
        have HM1 := Lib.hid M1'
        have HR1 := Lib.hid R1'
        have HP1 := Lib.hid hp1
        have HQ1 := Lib.hid hq1
        clear hso1 hw1 M1' hg1 R1' hB1' hp1 hq1 hr1 hu1 hb1' hbb1 cc ff lrb1 sz1 
        have hso2 := sortedDu_any Value.bool w24.heap.size (b7 + 1) s.force (w24.alloc (.cells #[.map (some (b7 + 1))] 165)) (HM1.out.maps.force.kept (World.grownBy_alloc _ _ none) (by simp)) (by simp) ((Blk.new w24 165 #[.map (some (b7 + 1))]).cell 0) (by omega)
        go_upto_region 25 with (first
          | (go_at_call 89; refine (keysOfDu_any (some (b7 + 1)) _).mono ?_; rintro e wa2 ⟨rfl, rfl⟩)
          | (go_at_call 88; refine hso2.mono ?_; rintro e wb2 ⟨u2, x2, rfl, hr2, hp2, hq2, hu2, hb2'⟩; obtain ⟨A2, c2, rfl⟩ := hr2.len; have hbb2 : Below w24.heap.size w24 wb2 := (below_alloc0 _).trans (hb2'.mono (by simp)); have HN2 := Lib.hid (HM1.out.later hbb2); have cc : wb2.cell? ⟨rb, 2, none⟩ = some (.slice none 0 0) := HN2.out.reg.cell 2; have ff := HN2.out.reg.frozen 2))
        obtain ⟨w25, hw2⟩ : ∃ w25, wb2.setCell ⟨rb, 2, none⟩ (.slice A2 x2.length c2) = w25 := ⟨_, rfl⟩
        rw [hw2]
        have M2' := by have h := HN2.out.put 2 (.slice A2 x2.length c2); rw [hw2] at h; exact h
        have hg2 : wb2.grownBy w25 (some rb) := by rw [← hw2]; exact grown_put _ _ _ _
        have lrb2 := HM1.out.reg.lt
        have sz2 : w24.heap.size + 1 ≤ wb2.heap.size := by have := hb2'.size; simp at this; omega
        have R2' := hr2.kept hg2 (fun j hj e => by injection e with e; have h1 := hu2 j hj; simp at h1; omega)
        have HU2 : Hid (∀ j, (Value.slice A2 x2.length c2).ownBlock = some j → wr.heap.size ≤ j) := Lib.hid (fun j hj => by have h1 := hu2 j hj; simp at h1; omega)
        have R1' := (HR1.out.later hbb2).kept hg2 (fun j hj e => by injection e with e; have h1 := HU1.out j hj; omega)
        have hB2' : Below w.heap.size w w25 := (HB1.out.trans (hbb2.mono HB1.out.size)).grown hg2 (by have h1 := HB1.out.size; have h2 := hbb2.size; omega) (fun j e => by cases e; omega)
        have hz2 : wr.heap.size ≤ w25.heap.size := by have h1 := hg2.size; omega
        have HB2 := Lib.hid hB2'
        have HM2 := Lib.hid M2'
        have HR2 := Lib.hid R2'
        have HR1 := Lib.hid R1'
        have HP2 := Lib.hid hp2
        have HQ2 := Lib.hid hq2
        clear hso2 hw2 M2' hg2 R2' hB2' hp2 hq2 hr2 hu2 hb2' hbb2 cc ff lrb2 sz2 R1'
        have hso3 := sortedDu_any Value.bool w25.heap.size (b7 + 1 + 1) s.forbid (w25.alloc (.cells #[.map (some (b7 + 1 + 1))] 165)) (HM2.out.maps.forbid.kept (World.grownBy_alloc _ _ none) (by simp)) (by simp) ((Blk.new w25 165 #[.map (some (b7 + 1 + 1))]).cell 0) (by omega)
        go_upto_region 26 with (first
          | (go_at_call 89; refine (keysOfDu_any (some (b7 + 1 + 1)) _).mono ?_; rintro e wa3 ⟨rfl, rfl⟩)
          | (go_at_call 88; refine hso3.mono ?_; rintro e wb3 ⟨u3, x3, rfl, hr3, hp3, hq3, hu3, hb3'⟩; obtain ⟨A3, c3, rfl⟩ := hr3.len; have hbb3 : Below w25.heap.size w25 wb3 := (below_alloc0 _).trans (hb3'.mono (by simp)); have HN3 := Lib.hid (HM2.out.later hbb3); have cc : wb3.cell? ⟨rb, 3, none⟩ = some (.slice none 0 0) := HN3.out.reg.cell 3; have ff := HN3.out.reg.frozen 3))
        obtain ⟨w26, hw3⟩ : ∃ w26, wb3.setCell ⟨rb, 3, none⟩ (.slice A3 x3.length c3) = w26 := ⟨_, rfl⟩
        rw [hw3]
        have M3' := by have h := HN3.out.put 3 (.slice A3 x3.length c3); rw [hw3] at h; exact h
        have hg3 : wb3.grownBy w26 (some rb) := by rw [← hw3]; exact grown_put _ _ _ _
        have lrb3 := HM2.out.reg.lt
        have sz3 : w25.heap.size + 1 ≤ wb3.heap.size := by have := hb3'.size; simp at this; omega
        have R3' := hr3.kept hg3 (fun j hj e => by injection e with e; have h1 := hu3 j hj; simp at h1; omega)
        have HU3 : Hid (∀ j, (Value.slice A3 x3.length c3).ownBlock = some j → wr.heap.size ≤ j) := Lib.hid (fun j hj => by have h1 := hu3 j hj; simp at h1; omega)
        have R1' := (HR1.out.later hbb3).kept hg3 (fun j hj e => by injection e with e; have h1 := HU1.out j hj; omega)
        have R2' := (HR2.out.later hbb3).kept hg3 (fun j hj e => by injection e with e; have h1 := HU2.out j hj; omega)
        have hB3' : Below w.heap.size w w26 := (HB2.out.trans (hbb3.mono HB2.out.size)).grown hg3 (by have h1 := HB2.out.size; have h2 := hbb3.size; omega) (fun j e => by cases e; omega)
        have hz3 : wr.heap.size ≤ w26.heap.size := by have h1 := hg3.size; omega
        have HB3 := Lib.hid hB3'
        have HM3 := Lib.hid M3'
        have HR3 := Lib.hid R3'
        have HR1 := Lib.hid R1'
        have HR2 := Lib.hid R2'
        have HP3 := Lib.hid hp3
        have HQ3 := Lib.hid hq3
        clear hso3 hw3 M3' hg3 R3' hB3' hp3 hq3 hr3 hu3 hb3' hbb3 cc ff lrb3 sz3 R1' R2'
        have hsp := sortPend_any w.heap.size w26 pvv ps HM3.out.pend (by omega)
        have cc4 : w26.cell? ⟨rb, 4, none⟩ = some pvv := HM3.out.reg.cell 4
        go_upto_region 27 with (go_at_call 34; refine hsp.mono ?_; rintro e w27 ⟨⟨vr, rfl⟩, ps', hpp, hpo, hprow, hgp⟩)
        have ho := Only.of_own HM3.out.pend.row
        have HNP : Hid (∀ j, pvv.ownBlock = some j → j ≠ w.heap.size ∧ j ≠ rb) := Lib.hid (fun j hj => by
          have h1 := own_tag HM3.out.pend.row hj
          refine ⟨fun e => ?_, fun e => ?_⟩
          · rw [e, HM3.out.zero.tag] at h1; cases h1
          · rw [e, HM3.out.reg.tag] at h1; cases h1)
        have hnp : ∀ j, wr.heap.size ≤ j → some j ≠ pvv.ownBlock := fun j hj e => by have h1 := (HPB.out j e.symm).2; omega
        have reg7 := HM3.out.reg.kept hgp (ho.ne HM3.out.reg.tag (by decide))
        have box7 := HM3.out.box.kept hgp (ho.ne HM3.out.box.tag (by decide))
        have ents7 := HM3.out.ents.kept hgp ho (by decide) (by decide) (by decide)
        have conf7 := HM3.out.maps.conflicts.kept hgp (ho.ne HM3.out.maps.conflicts.tag (by decide))
        have zero7 := HM3.out.zero.kept hgp (ho.ne HM3.out.zero.tag (by decide))
        have each7 : ∀ x ∈ ps', PendOk w.heap.size w27 x := fun x hx => by
          have h := HM3.out.pend.each x (hpp.mem_iff.1 hx)
          exact ⟨h.perm, h.row.kept hgp (ho.own h.row (by decide))⟩
        have R17 := HR1.out.kept hgp (fun j hj => hnp j (HU1.out j hj))
        have R27 := HR2.out.kept hgp (fun j hj => hnp j (HU2.out j hj))
        have R37 := HR3.out.kept hgp (fun j hj => hnp j (HU3.out j hj))
        have b7w : Below w.heap.size w w27 := HB3.out.grown hgp HB3.out.size (fun j e => (HPB.out j e).1)
        have hz7 : wr.heap.size ≤ w27.heap.size := by have := hgp.size; omega
        have HG7 := Lib.hid reg7
        have HX7 := Lib.hid box7
        have HE7 := Lib.hid ents7
        have HC7 := Lib.hid conf7
        have HZ7 := Lib.hid zero7
        have HEA := Lib.hid each7
        have H17 := Lib.hid R17
        have H27 := Lib.hid R27
        have H37 := Lib.hid R37
        have HB7 := Lib.hid b7w
        have HPR := Lib.hid hprow
        have HPP := Lib.hid (show ps'.Perm ps ∧ PendOrd ps' from ⟨hpp, hpo⟩)
        have cbx : w27.cell? ⟨bx, 0, none⟩ = some (.map (some bc)) := box7.cell 0
        have hso4 := sortedNm_any Value.bool w27.heap.size bc s.conflicts (w27.alloc (.cells #[.map (some bc)] 88)) (conf7.kept (World.grownBy_alloc _ _ none) (by simp)) (by simp) ((Blk.new w27 88 #[.map (some bc)]).cell 0) (by omega)
        clear reg7 box7 ents7 conf7 zero7 each7 R17 R27 R37 b7w hgp ho hnp hprow hpp hpo hsp cc4
        go_upto_region 28 with (first
          | (go_at_call 92; refine (keysOfNm_any (some bc) _).mono ?_; rintro e wa4 ⟨rfl, rfl⟩)
          | (go_at_call 77; refine hso4.mono ?_; rintro e wb4 ⟨u4, x4, rfl, hr4, hp4, hq4, hu4, hb4'⟩; obtain ⟨A4, c4, rfl⟩ := hr4.len; have hbb4 : Below w27.heap.size w27 wb4 := (below_alloc0 _).trans (hb4'.mono (by simp)); have HG8 := Lib.hid (HG7.out.later hbb4); have cc : wb4.cell? ⟨rb, 7, none⟩ = some (.slice none 0 0) := HG8.out.cell 7; have ff := HG8.out.frozen 7))
        obtain ⟨w28, hw28⟩ : ∃ w28, wb4.setCell ⟨rb, 7, none⟩ (.slice A4 x4.length c4) = w28 := ⟨_, rfl⟩
        rw [hw28]
        have hg28 : wb4.grownBy w28 (some rb) := by rw [← hw28]; exact grown_put _ _ _ _
        have ho8 := Only.of_blk HG8.out
        have sz28 : w27.heap.size ≤ wb4.heap.size := hbb4.size
        have hne8 : ∀ j, wr.heap.size ≤ j → some j ≠ some rb := fun j hj e => by injection e with e; omega
        have reg8 : Blk w28 rb 32 #[ev, .slice A1 x1.length c1, .slice A2 x2.length c2, .slice A3 x3.length c3, pvv, .slice Ap mp kp, .int .i64 L.hash, .slice A4 x4.length c4] := by
          have h := HG8.out.put 7 (.slice A4 x4.length c4)
          rw [hw28] at h
          exact h
        have zero8 := (HZ7.out.later hbb4).kept hg28 (by intro e; injection e with e; omega)
        have hb28w : Below w.heap.size w w28 := (HB7.out.trans (hbb4.mono HB7.out.size)).grown hg28 (by have := HB7.out.size; omega) (fun j e => by cases e; omega)
        have oz := Only.of_blk zero8
        have hnn : ∀ j, wr.heap.size ≤ j → some j ≠ some w.heap.size := fun j hj e => by injection e with e; have := HB0.out.size; have := hzn; omega
        have hu4' : ∀ j, (Value.slice A4 x4.length c4).ownBlock = some j → wr.heap.size ≤ j := fun j hj => by have h1 := hu4 j hj; simp at h1; omega
        have HOUT : Hid (∀ w', w28.grownBy w' (some w.heap.size) → RegOut L w.heap.size w' ev (.slice A1 x1.length c1) (.slice A2 x2.length c2) (.slice A3 x3.length c3) pvv (.slice A4 x4.length c4) (.slice Ap mp kp) es x1 x2 x3 ps' x4 s) := Lib.hid (fun w' hg => {
          ents := ((HE7.out.later hbb4).kept hg28 ho8 (by decide) (by decide) (by decide)).kept hg oz (by decide) (by decide) (by decide)
          rel := HER.out
          struck := ((H17.out.later hbb4).kept hg28 (fun j hj => hne8 j (HU1.out j hj))).kept hg (fun j hj => hnn j (HU1.out j hj))
          struckP := HP1.out
          struckO := HQ1.out
          force := ((H27.out.later hbb4).kept hg28 (fun j hj => hne8 j (HU2.out j hj))).kept hg (fun j hj => hnn j (HU2.out j hj))
          forceP := HP2.out
          forceO := HQ2.out
          forbid := ((H37.out.later hbb4).kept hg28 (fun j hj => hne8 j (HU3.out j hj))).kept hg (fun j hj => hnn j (HU3.out j hj))
          forbidP := HP3.out
          forbidO := HQ3.out
          pend := ((HPR.out.later hbb4).kept hg28 (fun j hj e => by injection e with e; exact (HNP.out j hj).2 e)).kept hg (fun j hj e => by injection e with e; exact (HNP.out j hj).1 e)
          pendP := by rw [← HPS.out]; exact HPP.out.1.map _
          pendO := HPP.out.2
          each := fun x hx => ⟨(HEA.out x hx).perm, by
            have h1 := own_later (HEA.out x hx).row hbb4
            have h2 := h1.kept hg28 (ho8.own h1 (by decide))
            exact h2.kept hg (oz.own h2 (by decide))⟩
          conflicts := (hr4.kept hg28 (fun j hj => hne8 j (hu4' j hj))).kept hg (fun j hj => hnn j (hu4' j hj))
          conflictsP := hp4
          conflictsO := hq4
          published := by
            have h1 := rows_of_owns (enc := NameK.cells) 2 (fun _ => rfl) HLw.out.published
            exact h1.later (hb28w.grown hg hb28w.size (fun j e => by cases e; exact Nat.le_refl _)) })
        have HB8 := Lib.hid hb28w
        have HG9 := Lib.hid reg8
        have HZ9 := Lib.hid zero8
        clear hw28 hg28 ho8 hne8 oz hnn hu4 hu4' hb28w reg8 zero8 hr4 hp4 hq4 hb4' hbb4 hso4 cc ff
        have tok : True := trivial
        go_wp2_with (first
          | (have _t := tok; refine wpList_load_blk rfl 32 _ rfl rb 32 _ _ rfl HG9.out URg rfl sizeReg ?_; clear tok)
          | (refine wpList_store_blk rfl 32 _ _ rfl w.heap.size 32 #[.slice none 0 0, .slice none 0 0, .slice none 0 0, .slice none 0 0, .slice none 0 0, .slice none 0 0, .int .i64 0, .slice none 0 0] #[ev, .slice A1 x1.length c1, .slice A2 x2.length c2, .slice A3 x3.length c3, pvv, .slice Ap mp kp, .int .i64 L.hash, .slice A4 x4.length c4] rfl rfl HZ9.out (by rfl) sizeReg (HONE.out _ _ _ _ _ _ _ _ _ _ _ _) ?_; intro w29 hZ9 hg9 hs9))
        refine bodyPost_ret (results_cell1b Tryz.results49 rfl hZ9 URg rfl sizeReg) rfl ⟨ev, _, _, _, pvv, _, _, es, x1, x2, x3, ps', x4, s, rfl, by rw [HSF.out, HS0.out], HOUT.out _ hg9, HB8.out.grown hg9 HB8.out.size (fun j e => by cases e; exact Nat.le_refl _)⟩
end Go.Proofs.YtlamogpdkmbeoaaGreatDoor
