/- The texts RegA, RegB, RegE, AwkP in one. -/
import Derived.Test.YtlamogpdkmbeoaaGreatDoorZbCopy
import Derived.Test.YtlamogpdkmbeoaaGreatDoorZbKey
import Derived.Test.YtlamogpdkmbeoaaGreatDoorZbSeq
import Derived.Test.YtlamogpdkmbeoaaGreatDoorZbEff
import Derived.Test.YtlamogpdkmbeoaaGreatDoorZbEnt
set_option linter.unusedVariables false
set_option linter.unusedSimpArgs false
section PartRegA
/- What 'register' calls: the clone of the conflicts, the clash, the sort of the pending rulings. -/
set_option maxRecDepth 100000
namespace Go.Proofs.YtlamogpdkmbeoaaGreatDoor
open Go.RowKit Go.Lib Go.Shelf Go.Maps Go.Sort

theorem MapOf.len_run {κ ν : Type} [DecidableEq κ] {P : Program} {w : World} {k t e : TypeId} {kenc : κ → Value} {venc : ν → Value} {b : Nat} {m : List (κ × ν)} (h : MapOf w P k kenc venc b m) (ht : P.underlying t = some (.map k e)) (ty : TypeId) :
    (Builtin.len_ #[t] ty #[.map (some b)]).run P w = .ok (.int .i64 m.length) w := by
  obtain ⟨es, clock, h⟩ := h
  have e1 := h.size
  simp [Builtin.len_, run_underlying ht, MapKept.run_getObj_map h.at_, goInt, Result.andThen, e1]
theorem cloneConf_any (b : Nat) (m : List (NameK × Bool)) (w : World) (h : MapOf w Tryz.prog 37 encNm Value.bool b m) :
    Calls Tryz.prog 83 #[.map (some b)] w fun e w' => e = .returned (.map (some w.heap.size)) ∧ MapOf w' Tryz.prog 37 encNm Value.bool w.heap.size m ∧ Below w.heap.size w w' := by
  obtain ⟨es, clock, h⟩ := h
  refine (AnyW.maps_Clone Tryz.cloneConf b es clock w h.at_).mono ?_
  rintro e w' ⟨rfl, rfl⟩
  exact ⟨rfl, ⟨es, clock, (MapKept.heap_alloc w _).1, h.stamped, h.shape, h.keys, h.inj⟩, below_alloc0 _⟩

set_option maxHeartbeats 4000000 in
theorem clash_any (x : RulB) (Bx bc : Nat) (m : List (NameK × Bool)) (w : World) (hR : Blk w x.r 139 x.cells) (hB : Blk w Bx 88 #[.map (some bc)]) (hm : MapOf w Tryz.prog 37 encNm Value.bool bc m) (hk : ∃ l, keyOf Tryz.prog 37 (encNm (x.note.nt.judge, x.note.nt.num)) = some l) :
    Calls Tryz.prog 84 #[encP x.r, encP Bx] w fun e w' => (∃ v, e = .returned v) ∧ MapOf w' Tryz.prog 37 encNm Value.bool bc (putM m (x.note.nt.judge, x.note.nt.num) true) ∧ ∃ w1, Below w.heap.size w w1 ∧ w1.grownBy w' (some bc) := by
  obtain ⟨r, j, ⟨nt, jl, ls⟩, judges⟩ := x
  dsimp only [RulB.cells, Note.enc, encP] at *
  have UN := Tryz.underlying46
  have UC := Tryz.underlying88
  have hn1 := fun W => nameOf_any nt W
  have hrng : w.rangeAt r 0 nt.enc := fun i u hu => by
    rw [hR.cell, Nat.zero_add]
    have hi : i < 20 := (List.getElem?_eq_some_iff.1 hu).1
    rw [show (nt.enc ++ [Value.map (some j)]).toArray[i]? = (nt.enc ++ [Value.map (some j)])[i]? from by simp, List.getElem?_append_left (by simpa using hi)]
    exact hu
  have cB : w.cell? ⟨Bx, 0, none⟩ = some (.map (some bc)) := hB.cell 0
  have HM := Lib.hid hm
  have HK := Lib.hid hk
  have lR := hR.lt
  have lB := hB.lt
  have HRNG := Lib.hid hrng
  clear hm hk hR hB hrng
  go_enter Tryz.func84, Tryz.ntmps84
  refine wp_region_late (S := (fun w' => w'.cell? ⟨Bx, 0, none⟩ = some (.map (some bc)) ∧ w'.rangeAt r 0 nt.enc)) [6] (by kernel_rfl) ?hS1 (fun hHeld => ?_)
  case hS1 => exact ⟨cB, HRNG.out⟩
  refine tl2 (i := 0) ?_; try simp only [Act.put, zq]
  refine tl1 (i := 1) ?_; try simp only [Act.put, zq]
  refine tl1 (i := 2) ?_; try simp only [Act.put, zq]
  refine tl1 (i := 3) ?_; try simp only [Act.put, zq]
  refine' wpAnyL_take (i := 4) rfl (by kernel_rfl) (by kernel_rfl) (by kernel_rfl) (by kernel_rfl) (by kernel_rfl) (by kernel_rfl) (fun _ _ _ h => h) (yieldsIf_load_mid (by kernel_rfl) _ _ rfl _ _ rfl _ _ (fun w9 hSw => hSw.2) ?hu1_5 ?hd1_5 ?hi1_5) (by assumption) ?_
  case hu1_5 => assumption
  case hd1_5 => rfl
  case hi1_5 => (first | assumption | kernel_rfl)
  (try simp only [Act.put, zq])
  refine wpAnyL_ready (rs := [5]) (by kernel_rfl) (by simp) ?_
  refine AllReadyL.cons rfl (fun K hK => ?_) AllReadyL.nil
  go_simp
  (go_at_call 54; ((with_reducible refine (hn1 _).mono ?_); rintro e w4 ⟨rfl, hg4⟩); have hb4 : Below w.heap.size w w4 := (Below.refl _ w).drew.trans hg4.below)
  go_wp2_with fail
  refine hK.out _ _ ?hS1_6 (fun hHeld => ?_)
  case hS1_6 => ((try dsimp only); exact ⟨(hb4.cell (p := ⟨Bx, 0, none⟩) lB).trans cB, fun i u hu => (hb4.cell (p := ⟨r, 0 + i, none⟩) lR).trans (HRNG.out i u hu)⟩)
  clear hK K
  (try simp only [Act.put, zq])
  refine wpAnyL_ready (rs := [6]) (by kernel_rfl) (by simp) ?_
  refine AllReadyL.late rfl (by kernel_rfl) (fun K hK => ?_) AllReadyL.nil
  (rw [if_pos (by kernel_rfl)]; refine wp_mapUpdate_of _ _ _ _ rfl 4 keyedName UC rfl (HM.out.block (hb4.block _ HM.out.lt)) (nt.judge, nt.num) true rfl rfl HK.out ?_; intro w7 hm7 hg7 hs7)
  refine hK.out _ _ ?_
  clear hK K
  (try simp only [Act.put, zq])
  refine wpAnyL_done (by kernel_rfl) ?_ _
  clear hHeld
  go_wp2
  go_end0
  exact ⟨⟨_, rfl⟩, hm7, w4, hb4, hg7⟩

/-- A pending ruling as it lies: names, and where its judges lie. -/
abbrev RulT := (Int × Int) × Value
abbrev RulT.cells (x : RulT) : List Value := [.int .i64 x.1.1, .int .i64 x.1.2, x.2]
abbrev SRul := {x : RulT // x.2.oneCell' = true}
instance : Inhabited SRul := ⟨⟨((0, 0), .int .i64 0), rfl⟩⟩
abbrev SRul.cells (x : SRul) : List Value := x.1.cells
abbrev cmpR2 (x y : SRul) : Int := cmpName x.1.1.1 x.1.1.2 y.1.1.1 y.1.1.2
theorem cmpR2_swo : SWO (ltOf cmpR2) := by
  have h := cmpNm_is.swo
  exact ⟨fun x => h.irrefl x.1.1, fun x y z => h.trans x.1.1 y.1.1 z.1.1, fun x y z => h.ntrans x.1.1 y.1.1 z.1.1⟩
set_option maxHeartbeats 2000000 in
theorem reg2_any (a b c d : Int) (u v : Value) (w : World) : Calls Tryz.prog 91 #[.agg #[.int .i64 a, .int .i64 b, u], .agg #[.int .i64 c, .int .i64 d, v]] w fun e w' => e = .returned (.int .i64 (cmpName a b c d)) ∧ Grown w w' := by
  have hc := fun W => compareNames_any a b c d W
  generalize cmpName a b c d = q at hc ⊢
  obtain ⟨W, hW⟩ : ∃ W, (w.alloc (.cells #[.int .i64 a, .int .i64 b, u] 53)).alloc (.cells #[.int .i64 c, .int .i64 d, v] 53) = W := ⟨_, rfl⟩
  have hg : Grown w W := by rw [← hW]; exact ((Grown.refl w).alloc _).alloc _
  have hA : Blk W w.heap.size 53 #[.int .i64 a, .int .i64 b, u] := by rw [← hW]; exact (Blk.new w _ _).alloc _
  have hB : Blk W (w.heap.size + 1) 53 #[.int .i64 c, .int .i64 d, v] := by rw [← hW]; have := Blk.new (w.alloc (.cells #[.int .i64 a, .int .i64 b, u] 53)) 53 #[.int .i64 c, .int .i64 d, v]; rwa [World.size_alloc] at this
  have a0 : W.cell? ⟨w.heap.size, 0, none⟩ = some (.int .i64 a) := hA.cell 0
  have a1 : W.cell? ⟨w.heap.size, 1, none⟩ = some (.int .i64 b) := hA.cell 1
  have b0 : W.cell? ⟨w.heap.size + 1, 0, none⟩ = some (.int .i64 c) := hB.cell 0
  have b1 : W.cell? ⟨w.heap.size + 1, 1, none⟩ = some (.int .i64 d) := hB.cell 1
  have HG := Lib.hid hg
  clear hg hA hB
  go_enter Tryz.func91, Tryz.ntmps91
  go_upto_region 1 with fail
  clear hW
  go_wp2_with (go_at_call 36; refine (hc _).mono ?_; rintro e w1 ⟨rfl, hg1⟩)
  go_ret
  exact ⟨rfl, HG.out.trans hg1⟩
theorem lays_rul (blk off size : Nat) (w : World) : CmpLays Tryz.prog 91 #[] SRul.cells 3 cmpR2 blk off size w := fun m os dk _ x y => reg2_any _ _ _ _ _ _ _
theorem reg2_enters : ∀ args w, (callFunc 91 args).run Tryz.prog w = .ok (.enter 91 args) w := enters_of Tryz.func91 (by kernel_rfl) rfl
theorem rul_ones (x : SRul) : ∀ v ∈ x.cells, v.oneCell' = true := by
  intro v hv
  have h := x.2
  simp at hv
  rcases hv with rfl | rfl | rfl
  · rfl
  · rfl
  · exact h
theorem sortRul_any (d : Array SRul) (blk off cap : Nat) (w : World) (hH : HoldsK SRul.cells 3 w blk off d) (hblk : blk < w.heap.size) (hsz : d.size < 4611686018427387904) :
    Calls Tryz.prog 34 #[.slice (some ⟨blk, off, none⟩) d.size cap, .func (.func 91) #[] #[]] w fun e w' => e = .returned (.tuple #[]) ∧ ∃ d' n os, PermIn 0 d.size d d' ∧ SortedIn (ltOf cmpR2) 0 d.size d' ∧ w' = sortWorldK SRul.cells 3 w blk off n d' os :=
  AnyQ.slices_SortFunc Tryz.sortRulings 3 Tryz.isAgg53 Tryz.sizeOf53 SRul.cells (fun _ => rfl) rul_ones cmpR2 cmpR2_swo 91 #[] blk off cap d w reg2_enters (lays_rul _ _ _ _) hH hblk hsz
end Go.Proofs.YtlamogpdkmbeoaaGreatDoor
end PartRegA

section PartRegB
/- 'register': what it builds, in memory. -/
set_option maxRecDepth 100000
namespace Go.Proofs.YtlamogpdkmbeoaaGreatDoor
open Go.RowKit Go.Lib Go.Shelf Go.Maps

/-- What lies in force, as the register finds it. -/
structure RS where
  struck : List (MarkK × Bool)
  force : List (DuoK × Bool)
  forbid : List (DuoK × Bool)
  bound : List (MarkK × Bool)
  conflicts : List (NameK × Bool)
  pending : List RulB
abbrev mkA (x : Note) : MarkK := (x.nt.aC, x.nt.aN)
abbrev mkB (x : Note) : MarkK := (x.nt.bC, x.nt.bN)
abbrev duoOf (x : Note) : DuoK := (mkA x, mkB x)
def hasK {κ : Type} [DecidableEq κ] (m : List (κ × Bool)) (x : κ) : Bool := (getM m x).getD false
def clashB (s : RS) (x : Note) : Bool := (x.nt.kind == 5 && hasK s.force (duoOf x)) || (x.nt.kind == 4 && (hasK s.forbid (duoOf x) || hasK s.bound (mkA x) || hasK s.bound (mkB x)))
def regStep (q : Int) (s : RS) (x : RulB) : RS :=
  if (x.judges.length : Int) < q then { s with pending := s.pending ++ [x] }
  else if x.note.nt.kind = 3 then { s with struck := putM s.struck (mkA x.note) true }
  else if clashB s x.note = true then { s with conflicts := putM s.conflicts (nm x.note) true }
  else if x.note.nt.kind = 5 then { s with forbid := putM s.forbid (duoOf x.note) true }
  else { s with force := putM s.force (duoOf x.note) true, bound := putM (putM s.bound (mkA x.note) true) (mkB x.note) true }
/-- A ruling that waits, as it lies: where its judges lie. -/
structure Pend where
  rul : RulB
  v : Value
  js : List Int
abbrev Pend.enc (x : Pend) : List Value := [.int .i64 x.rul.note.nt.judge, .int .i64 x.rul.note.nt.num, x.v]
structure PendOk (base : Nat) (w : World) (x : Pend) : Prop where
  perm : x.js.Perm (x.rul.judges.map (·.1))
  row : w.ownsRow base 3 1 x.v x.js.length ((x.js.mergeSort (fun a b => decide (a ≤ b))).map encI')
structure PendAt (base : Nat) (w : World) (v : Value) (ps : List Pend) : Prop where
  row : w.ownsRow base 53 3 v ps.length (ps.flatMap Pend.enc)
  each : ∀ x ∈ ps, PendOk base w x
section
variable {base : Nat} {w w' : World} {v v' ev pv ubv : Value} {ps : List Pend} {es : List Ent}
theorem PendAt.kept {row : Option Nat} {t : Nat} (h : PendAt base w v ps) (hg : w.grownBy w' row) (ho : Only w t row) (h1 : 53 + 1 ≠ t) (h2 : 3 + 1 ≠ t) : PendAt base w' v ps :=
  ⟨h.row.kept hg (ho.own h.row h1), fun x hx => ⟨(h.each x hx).perm, (h.each x hx).row.kept hg (ho.own (h.each x hx).row h2)⟩⟩
theorem EntsAt.kept {row : Option Nat} {t : Nat} (h : EntsAt base w v es) (hg : w.grownBy w' row) (ho : Only w t row) (h1 : 75 + 1 ≠ t) (h2 : 3 + 1 ≠ t) (h3 : 126 + 1 ≠ t) : EntsAt base w' v es :=
  ⟨h.row.kept hg (ho.own h.row h1), fun x hx => (h.jumps x hx).kept hg (ho.own (h.jumps x hx) h2), fun x hx => (h.lines x hx).kept hg (ho.own (h.lines x hx) h3)⟩
theorem PendAt.later (h : PendAt base w v ps) (hb : Below w.heap.size w w') : PendAt base w' v ps :=
  ⟨own_later h.row hb, fun x hx => ⟨(h.each x hx).perm, own_later (h.each x hx).row hb⟩⟩
theorem PendAt.push (h : PendAt base w v ps) (x : Pend) (hx : PendOk base w x) (hg : w.grownBy w' v.ownBlock) (hown : w'.ownsRow base 53 3 v' (ps.length + 1) (ps.flatMap Pend.enc ++ x.enc)) : PendAt base w' v' (ps ++ [x]) := by
  have ho := Only.of_own h.row
  refine ⟨by simpa using hown, fun y hy => ?_⟩
  rcases List.mem_append.1 hy with hy | hy
  · exact ⟨(h.each y hy).perm, (h.each y hy).row.kept hg (ho.own (h.each y hy).row (by decide))⟩
  · simp at hy
    subst hy
    exact ⟨hx.perm, hx.row.kept hg (ho.own hx.row (by decide))⟩
/-- All but the maps: the register under way, the box of the conflicts, the entries, what waits. -/
structure RegBase (base : Nat) (w : World) (rb bx bc : Nat) (ev pv ubv : Value) (hash : Int) (es : List Ent) (ps : List Pend) : Prop where
  reg : Blk w rb 32 #[ev, .slice none 0 0, .slice none 0 0, .slice none 0 0, pv, ubv, .int .i64 hash, .slice none 0 0]
  box : Blk w bx 88 #[.map (some bc)]
  ents : EntsAt base w ev es
  pend : PendAt base w pv ps
variable {rb bx bc : Nat} {hash : Int}
theorem RegBase.kept {row : Option Nat} (h : RegBase base w rb bx bc ev pv ubv hash es ps) (hg : w.grownBy w' row) (ho : Only w 0 row) : RegBase base w' rb bx bc ev pv ubv hash es ps :=
  ⟨h.reg.kept hg (ho.ne h.reg.tag (by decide)), h.box.kept hg (ho.ne h.box.tag (by decide)), h.ents.kept hg ho (by decide) (by decide) (by decide), h.pend.kept hg ho (by decide) (by decide)⟩
theorem RegBase.later (h : RegBase base w rb bx bc ev pv ubv hash es ps) (hb : Below w.heap.size w w') : RegBase base w' rb bx bc ev pv ubv hash es ps :=
  ⟨h.reg.later hb, h.box.later hb, h.ents.later hb, h.pend.later hb⟩
theorem RegBase.push {w1 w2 : World} (h : RegBase base w rb bx bc ev pv ubv hash es ps) (x : Pend) (hb : Below w.heap.size w w1) (hx : PendOk base w1 x) (hg : w1.grownBy w2 pv.ownBlock) (hown : w2.ownsRow base 53 3 v' (ps.length + 1) (ps.flatMap Pend.enc ++ x.enc)) :
    RegBase base (w2.setCell ⟨rb, 4, none⟩ v') rb bx bc ev v' ubv hash es (ps ++ [x]) := by
  have h1 := h.later hb
  have ho := Only.of_own h1.pend.row
  have r2 := h1.reg.kept hg (ho.ne h1.reg.tag (by decide))
  have b2 := h1.box.kept hg (ho.ne h1.box.tag (by decide))
  have e2 := h1.ents.kept hg ho (by decide) (by decide) (by decide)
  have p2 := h1.pend.push x hx hg hown
  have hg2 : w2.grownBy (w2.setCell ⟨rb, 4, none⟩ v') (some rb) := grown_put _ _ _ _
  have ho2 := Only.of_blk r2
  exact ⟨r2.put 4 _, b2.kept hg2 (ho2.ne b2.tag (by decide)), e2.kept hg2 ho2 (by decide) (by decide) (by decide), p2.kept hg2 ho2 (by decide) (by decide)⟩
/-- The five maps. -/
structure RegMaps (w : World) (b7 b8 b9 b10 bc : Nat) (s : RS) : Prop where
  struck : MapOf w Tryz.prog 44 encMk Value.bool b7 s.struck
  force : MapOf w Tryz.prog 48 encDuo Value.bool b8 s.force
  forbid : MapOf w Tryz.prog 48 encDuo Value.bool b9 s.forbid
  bound : MapOf w Tryz.prog 44 encMk Value.bool b10 s.bound
  conflicts : MapOf w Tryz.prog 37 encNm Value.bool bc s.conflicts
variable {b7 b8 b9 b10 : Nat} {s : RS}
theorem RegMaps.kept {row : Option Nat} {t : Nat} (h : RegMaps w b7 b8 b9 b10 bc s) (hg : w.grownBy w' row) (ho : Only w t row) (ht : 0 ≠ t) : RegMaps w' b7 b8 b9 b10 bc s :=
  ⟨h.struck.kept hg (ho.ne h.struck.tag ht), h.force.kept hg (ho.ne h.force.tag ht), h.forbid.kept hg (ho.ne h.forbid.tag ht), h.bound.kept hg (ho.ne h.bound.tag ht), h.conflicts.kept hg (ho.ne h.conflicts.tag ht)⟩
theorem RegMaps.later (h : RegMaps w b7 b8 b9 b10 bc s) (hb : Below w.heap.size w w') : RegMaps w' b7 b8 b9 b10 bc s :=
  ⟨h.struck.block (hb.block _ h.struck.lt), h.force.block (hb.block _ h.force.lt), h.forbid.block (hb.block _ h.forbid.lt), h.bound.block (hb.block _ h.bound.lt), h.conflicts.block (hb.block _ h.conflicts.lt)⟩
end
end Go.Proofs.YtlamogpdkmbeoaaGreatDoor
end PartRegB

section PartRegE
/- 'register': the part behind its loop: rows that stay, the sort of what waits. -/
set_option maxRecDepth 100000
namespace Go.Proofs.YtlamogpdkmbeoaaGreatDoor
open Go.RowKit Go.Lib Go.Shelf Go.Maps Go.Sort

theorem RowsAt.kept {α : Type} {enc : α → List Value} {k : Nat} {w w' : World} {v : Value} {xs : List α} {row : Option Nat} (h : RowsAt enc k w v xs) (hg : w.grownBy w' row) (hne : ∀ j, v.ownBlock = some j → some j ≠ row) : RowsAt enc k w' v xs := by
  obtain ⟨A, c, rfl, hl, hc⟩ := h
  refine ⟨A, c, rfl, hl, fun j hj => ?_⟩
  obtain ⟨b, o, rfl, hlt, hcell⟩ := hc j hj
  exact ⟨b, o, rfl, Nat.lt_of_lt_of_le hlt hg.size, fun i u hu => (World.cell?_of_block (w := w) (hg.block b hlt (hne b rfl))).trans (hcell i u hu)⟩
structure RegMid (base : Nat) (w : World) (rb bx bc b7 b8 b9 b10 n : Nat) (ev pvv : Value) (es : List Ent) (ps : List Pend) (s : RS) (cs : Array Value) : Prop where
  reg : Blk w rb 32 cs
  box : Blk w bx 88 #[.map (some bc)]
  ents : EntsAt base w ev es
  pend : PendAt base w pvv ps
  maps : RegMaps w b7 b8 b9 b10 bc s
  zero : Blk w n 32 #[.slice none 0 0, .slice none 0 0, .slice none 0 0, .slice none 0 0, .slice none 0 0, .slice none 0 0, .int .i64 0, .slice none 0 0]
  ne : n ≠ rb
section
variable {base : Nat} {w w' : World} {rb bx bc b7 b8 b9 b10 n : Nat} {ev pvv : Value} {es : List Ent} {ps : List Pend} {s : RS} {cs : Array Value}
theorem RegMid.later (h : RegMid base w rb bx bc b7 b8 b9 b10 n ev pvv es ps s cs) (hb : Below w.heap.size w w') : RegMid base w' rb bx bc b7 b8 b9 b10 n ev pvv es ps s cs :=
  ⟨h.reg.later hb, h.box.later hb, h.ents.later hb, h.pend.later hb, h.maps.later hb, h.zero.later hb, h.ne⟩
theorem RegMid.put (h : RegMid base w rb bx bc b7 b8 b9 b10 n ev pvv es ps s cs) (i : Nat) (u : Value) : RegMid base (w.setCell ⟨rb, i, none⟩ u) rb bx bc b7 b8 b9 b10 n ev pvv es ps s (cs.setIfInBounds i u) := by
  have hg : w.grownBy (w.setCell ⟨rb, i, none⟩ u) (some rb) := grown_put _ _ _ _
  have ho := Only.of_blk h.reg
  exact ⟨h.reg.put i u, h.box.kept hg (ho.ne h.box.tag (by decide)), h.ents.kept hg ho (by decide) (by decide) (by decide), h.pend.kept hg ho (by decide) (by decide), h.maps.kept hg ho (by decide), h.zero.kept hg (by intro e; injection e with e; exact h.ne e), h.ne⟩
end
theorem flatMap_congr' {α β : Type} {f g : α → List β} : ∀ {l : List α}, (∀ x ∈ l, f x = g x) → l.flatMap f = l.flatMap g
  | [], _ => rfl
  | x :: l, h => by rw [List.flatMap_cons, List.flatMap_cons, h x (by simp), flatMap_congr' (fun y hy => h y (by simp [hy]))]
theorem perm_map_inv {α β : Type} {f : α → β} : ∀ {m : List β} {l : List α}, m.Perm (l.map f) → ∃ l' : List α, l'.Perm l ∧ l'.map f = m
  | [], l, h => by
    have : l = [] := by simpa using h.symm.eq_nil
    subst this
    exact ⟨[], List.Perm.refl _, rfl⟩
  | a :: m, l, h => by
    have ha : a ∈ l.map f := h.mem_iff.1 (by simp)
    obtain ⟨x, hx, rfl⟩ := List.mem_map.1 ha
    obtain ⟨l1, l2, rfl⟩ := List.append_of_mem hx
    have h2 : m.Perm ((l1 ++ l2).map f) := by
      have h3 : (f x :: m).Perm (f x :: (l1 ++ l2).map f) := by
        refine h.trans ?_
        simp only [List.map_append, List.map_cons]
        exact List.perm_middle
      exact h3.cons_inv
    obtain ⟨l', h4, h5⟩ := perm_map_inv h2
    exact ⟨x :: l', (h4.cons x).trans List.perm_middle.symm, by rw [List.map_cons, h5]⟩
open Classical in
noncomputable def toRul (p : Pend) : SRul := if h : p.v.oneCell' = true then ⟨((p.rul.note.nt.judge, p.rul.note.nt.num), p.v), h⟩ else default
theorem toRul_of {p : Pend} (h : p.v.oneCell' = true) : toRul p = ⟨((p.rul.note.nt.judge, p.rul.note.nt.num), p.v), h⟩ := by unfold toRul; rw [dif_pos h]
/-- In the order of the names. -/
def PendOrd (ps : List Pend) : Prop := ps.Pairwise (fun a b => cmpName a.rul.note.nt.judge a.rul.note.nt.num b.rul.note.nt.judge b.rul.note.nt.num ≤ 0)
theorem holdsRul (d : Array SRul) (base : Nat) (g cap : Nat) (w : World) (h : w.ownsRow base 53 3 (.slice (some ⟨g, 0, none⟩) d.size cap) d.size (d.toList.flatMap SRul.cells)) : HoldsK SRul.cells 3 w g 0 d ∧ g < w.heap.size := by
  rcases h.2 with ⟨e1, _⟩ | ⟨g', cap', cur, hv, hb, hg, h1, h2, h3, h4⟩
  · cases e1
  · injection hv with hv _ hv3
    injection hv with hv
    injection hv with hv
    subst hv
    refine ⟨fun j hj => ?_, (Array.getElem?_eq_some_iff.1 hg).1⟩
    rw [size_flatK] at hj
    have hi : j / 3 < d.size := by omega
    have hc : j % 3 < 3 := by omega
    have hget := flat_get (enc := SRul.cells) 3 (fun _ => rfl) d.toList (j / 3) (j % 3) (by simpa using hi) hc
    rw [show j / 3 * 3 + j % 3 = j from by omega] at hget
    have hcur : cur[j]? = (SRul.cells d[j / 3])[j % 3]? := by
      rw [← Array.getElem?_toList]
      have := List.getElem?_take_of_lt (l := cur.toList) (i := j) (j := d.size * 3) hj
      rw [← this, h4, hget]
      simp
    have hval : (SRul.cells d[j / 3])[j % 3]? = some (flatK SRul.cells 3 d)[j]! := by
      rw [get_flatK SRul.cells 3 d j hj, getElem!_pos d (j / 3) hi, List.getElem?_eq_getElem (by show _ < 3; exact hc), getElem!_pos _ _ (by show _ < 3; exact hc)]
    constructor
    · simp only [World.cell?, Nat.zero_add, hg]
      show cur[j]? = _
      rw [hcur, hval]
      rfl
    · simp [World.frozen?, hg]
theorem sortPend_any (base : Nat) (w : World) (v : Value) (ps : List Pend) (h : PendAt base w v ps) (hl : ps.length ≤ 100000) :
    Calls Tryz.prog 34 #[v, .func (.func 91) #[] #[]] w fun e w' => (∃ u, e = .returned u) ∧ ∃ ps' : List Pend, ps'.Perm ps ∧ PendOrd ps' ∧ RowsAt Pend.enc 3 w' v ps' ∧ w.grownBy w' v.ownBlock := by
  rcases h.row.2 with ⟨hv, h0⟩ | ⟨g, cap, cur, hv, hb, hg, hrest⟩
  · subst hv
    have : ps = [] := List.eq_nil_of_length_eq_zero h0
    subst this
    refine (AnyF.slices_SortFunc_none Tryz.sortRulings none 0 (.func (.func 91) #[] #[]) w).mono ?_
    rintro e w' ⟨rfl, rfl⟩
    exact ⟨⟨_, rfl⟩, [], List.Perm.refl _, List.Pairwise.nil, RowsAt.nil _ _, ⟨rfl, rfl, rfl, Nat.le_refl _, fun i _ _ => rfl⟩⟩
  · have hone : ∀ p ∈ ps, p.v.oneCell' = true := fun p hp => own_one (h.each p hp).row
    have hcell : ∀ p ∈ ps, (toRul p).cells = p.enc := fun p hp => by rw [toRul_of (hone p hp)]
    have hfm : (ps.map toRul).flatMap SRul.cells = ps.flatMap Pend.enc := by
      rw [List.flatMap_map]
      exact flatMap_congr' (fun p hp => hcell p hp)
    have hrow := h.row
    rw [hv] at hrow
    have hsz : (ps.map toRul).toArray.size = ps.length := by simp
    obtain ⟨hH, hlt⟩ := holdsRul (ps.map toRul).toArray base g cap w (by rw [hsz]; simpa [hfm] using hrow)
    have hso := sortRul_any (ps.map toRul).toArray g 0 cap w hH hlt (by simp; omega)
    rw [hsz] at hso
    rw [hv]
    refine hso.mono ?_
    rintro e w' ⟨rfl, d', n, os, h1, h2, rfl⟩
    obtain ⟨p1, p2⟩ := perm_of_in hsz h1
    obtain ⟨ps', h3, h4⟩ := perm_map_inv (f := toRul) (l := ps) (m := d'.toList) (p1.trans (by simp))
    have hpl : ps'.length = ps.length := h3.length_eq
    refine ⟨⟨_, rfl⟩, ps', h3, ?_, ?_, grown_sortK SRul.cells 3 d'⟩
    · have hp := pairwise_of_in p2 h2
      rw [← h4, List.pairwise_map] at hp
      refine hp.imp_of_mem (fun {a b} ha hb hab => ?_)
      have e1 := toRul_of (hone a (h3.mem_iff.1 ha))
      have e2 := toRul_of (hone b (h3.mem_iff.1 hb))
      unfold ltOf at hab
      rw [e1, e2] at hab
      have := (cmpNm_is.le_iff (a.rul.note.nt.judge, a.rul.note.nt.num) (b.rul.note.nt.judge, b.rul.note.nt.num)).2
      exact this (by simpa using hab)
    · have hr := rows_sortK SRul.cells 3 (fun _ => rfl) (n := n) (os := os) (ps.map toRul).toArray d' hH hlt (by rw [p2, hsz]) (by rw [p2]; unfold maxLen; omega) cap
      rw [p2, ← h4] at hr
      obtain ⟨A, c, e1, e2, e3⟩ := hr
      refine ⟨A, c, ?_, by rw [hpl]; unfold maxLen; omega, fun j hj => ?_⟩
      · rw [hpl, e1]; simp [hpl]
      · obtain ⟨b, o, q1, q2, q3⟩ := e3 j (by simpa using hj)
        refine ⟨b, o, q1, q2, fun i u hu => q3 i u ?_⟩
        have : (ps'.map toRul)[j]'(by simpa using hj) = toRul ps'[j] := by simp
        rw [this]
        show (toRul ps'[j]).cells[i]? = some u
        rw [hcell _ (h3.mem_iff.1 (List.getElem_mem hj))]
        exact hu
end Go.Proofs.YtlamogpdkmbeoaaGreatDoor
end PartRegE

section PartAwkP
/- What the notes at the head of the statements amount to. -/
set_option maxRecDepth 100000
namespace Go.Proofs.YtlamogpdkmbeoaaGreatDoor
open Go.RowKit Go.Lib Go.Shelf Go.Maps

theorem steps_snoc {L0 L : Led} {xs : List Note} {x : Note} (h : Steps L0 (xs ++ [x]) L) : ∃ L1, Steps L0 xs L1 ∧ Step x L1 L := by
  generalize hys : xs ++ [x] = ys at h
  cases h with
  | nil => simp at hys
  | snoc h1 h2 =>
    have := List.append_inj' hys rfl
    obtain ⟨rfl, e⟩ := this
    simp at e
    subst e
    exact ⟨_, h1, h2⟩
theorem steps_nil {L0 L : Led} (h : Steps L0 [] L) : L = L0 := by
  generalize hys : ([] : List Note) = ys at h
  cases h with
  | nil => rfl
  | snoc h1 h2 => simp at hys
abbrev gCall : ByteArray := ⟨#[71, 51, 65, 66, 67]⟩
abbrev gLog : Lg := ⟨gCall, 1, 100, 0, .slice none 0 0, .slice none 0 0⟩
abbrev nA : Note := ⟨{ Nt0 with judge := 1, num := 1, clock := 1, kind := 1, call := gCall, version := 1, log := gLog }, [], []⟩
abbrev nB : Note := ⟨{ Nt0 with judge := 1, num := 2, clock := 2, kind := 1, call := gCall, version := 2, log := gLog }, [], []⟩
abbrev nC : Note := ⟨{ Nt0 with judge := 1, num := 3, clock := 3, kind := 3, aC := gCall, aN := 5 }, [], []⟩
abbrev nD : Note := ⟨{ Nt0 with judge := 2, num := 1, clock := 4, kind := 6, rJ := 1, rN := 3 }, [], []⟩
theorem set3 : setB ⟨false, false, false⟩ [nA, nB, nC] = true := by kernel_rfl
theorem set4 : setB ⟨false, false, false⟩ [nA, nB, nC, nD] = true := by kernel_rfl
def before (a b : Note) : Prop := ¬ cmpWhen b.nt a.nt < 0
theorem sort3 {ds : List Note} (hp : ds.Perm [nA, nB, nC]) (ho : InOrder ds) : ds = [nA, nB, nC] := by
  refine List.Perm.eq_of_pairwise (le := before) ?_ ho ?_ hp
  · intro a b ha hb h1 h2
    have ha := hp.mem_iff.1 ha
    simp only [List.mem_cons, List.not_mem_nil, or_false] at ha hb
    rcases ha with rfl | rfl | rfl <;> rcases hb with rfl | rfl | rfl <;> first | rfl | exact absurd (by decide) h1 | exact absurd (by decide) h2
  · refine List.Pairwise.cons ?_ (List.Pairwise.cons ?_ (List.Pairwise.cons ?_ .nil)) <;> intro x hx <;> simp at hx <;> (try rcases hx with rfl | rfl) <;> (try subst hx) <;> (unfold before; decide)
theorem sort4 {ds : List Note} (hp : ds.Perm [nA, nB, nC, nD]) (ho : InOrder ds) : ds = [nA, nB, nC, nD] := by
  refine List.Perm.eq_of_pairwise (le := before) ?_ ho ?_ hp
  · intro a b ha hb h1 h2
    have ha := hp.mem_iff.1 ha
    simp only [List.mem_cons, List.not_mem_nil, or_false] at ha hb
    rcases ha with rfl | rfl | rfl | rfl <;> rcases hb with rfl | rfl | rfl | rfl <;> first | rfl | exact absurd (by decide) h1 | exact absurd (by decide) h2
  · refine List.Pairwise.cons ?_ (List.Pairwise.cons ?_ (List.Pairwise.cons ?_ (List.Pairwise.cons ?_ .nil))) <;> intro x hx <;> simp at hx <;> (try rcases hx with rfl | rfl | rfl) <;> (try rcases hx with rfl | rfl) <;> (try subst hx) <;> (unfold before; decide)
abbrev LedC (r j : Nat) : Led := ⟨[((gCall, 1), nA), ((gCall, 2), nB)], [], [⟨r, j, nC, [(1, true)]⟩], [((1, 3), r)], [], 0, [nA, nB], []⟩
theorem led3 {L : Led} (h : Steps Led0 [nA, nB, nC] L) : ∃ r j, L = LedC r j := by
  obtain ⟨L2, h, ok3, K3, s3, e3⟩ := steps_snoc (xs := [nA, nB]) h
  obtain ⟨L1, h, ok2, K2, s2, e2⟩ := steps_snoc (xs := [nA]) h
  obtain ⟨L0, h, ok1, K1, s1, e1⟩ := steps_snoc (xs := []) h
  have h0 := steps_nil h
  subst h0
  unfold StepB at s1
  rw [if_pos (by decide)] at s1
  obtain ⟨rfl, rfl⟩ := s1
  have e1' : L1 = ⟨[((gCall, 1), nA)], [], [], [], [], 0, [nA], []⟩ := e1
  subst e1'
  unfold StepB at s2
  rw [if_pos (by decide)] at s2
  obtain ⟨rfl, rfl⟩ := s2
  have e2' : L2 = ⟨[((gCall, 1), nA), ((gCall, 2), nB)], [], [], [], [], 0, [nA, nB], []⟩ := e2
  subst e2'
  unfold StepB at s3
  rw [if_neg (by decide), if_neg (by decide), if_neg (by decide), if_neg (by decide)] at s3
  obtain ⟨rfl, r, j, rfl⟩ := s3
  exact ⟨r, j, e3⟩
theorem led4 {L : Led} (h : Steps Led0 [nA, nB, nC, nD] L) : ∃ r j, L = { LedC r j with rulings := [⟨r, j, nC, [(1, true), (2, true)]⟩] } := by
  obtain ⟨L3, h, ok4, K4, s4, e4⟩ := steps_snoc (xs := [nA, nB, nC]) h
  obtain ⟨r, j, rfl⟩ := led3 h
  refine ⟨r, j, ?_⟩
  unfold StepB at s4
  rw [if_neg (by decide), if_neg (by decide), if_pos (by decide)] at s4
  have hr : rulAt (LedC r j) r = some ⟨r, j, nC, [(1, true)]⟩ := by simp [rulAt]
  have hn : getM (LedC r j).byName (rfk nD) = some r := by simp [getM]
  have hk : sgOk (LedC r j) nD = true := by unfold sgOk; rw [hn]; simp only []; rw [hr]; rfl
  have hl : sgLed (LedC r j) nD = { LedC r j with rulings := [⟨r, j, nC, [(1, true), (2, true)]⟩] } := by
    unfold sgLed
    rw [hn]
    simp [signAt, putM]
  rw [hk] at s4
  obtain ⟨rfl, rfl⟩ := s4
  rw [if_pos rfl, if_pos rfl] at e4
  rw [e4, hl]
theorem reg3 (r j : Nat) : (LedC r j).rulings.foldl (regStep 2) ⟨[], [], [], [], [], []⟩ = ⟨[], [], [], [], [], [⟨r, j, nC, [(1, true)]⟩]⟩ := rfl
theorem reg4 (r j : Nat) : ([⟨r, j, nC, [(1, true), (2, true)]⟩] : List RulB).foldl (regStep 2) ⟨[], [], [], [], [], []⟩ = ⟨[((gCall, 5), true)], [], [], [], [], []⟩ := rfl
/-- The entry of the first three notes. -/
theorem ent3 (r j : Nat) {N : List (ByteArray × Note)} {S : List ByteArray} {es : List Note} (hN : NewIn (LedC r j).issues [] N) (hS : S.Perm (N.map (·.1))) (he : es = S.filterMap (inForce (LedC r j) N)) : es = [nB] := by
  have hk : ∀ k ∈ N.map (·.1), k = gCall := fun k hk => by
    obtain ⟨x, hx, rfl⟩ := List.mem_map.1 hk
    obtain ⟨h1, p, hp, h2⟩ := hN.from_ x hx
    rw [← h1, ← h2]
    simp at hp
    rcases hp with rfl | rfl <;> rfl
  obtain ⟨n, hn, hv⟩ : ∃ n, getM N gCall = some n ∧ (2 : Int) ≤ n.nt.version := by
    rcases hN.best ((gCall, 2), nB) (by simp) with h | h
    · simp at h
    · exact h
  have hm := getM_mem hn
  have hnB : n = nB := by
    obtain ⟨h1, p, hp, h2⟩ := hN.from_ _ hm
    simp at hp
    rcases hp with rfl | rfl
    · dsimp only at h2
      rw [← h2] at hv
      exact absurd hv (by decide)
    · exact h2.symm
  subst hnB
  have hone : N.map (·.1) = [gCall] := by
    have hmem : gCall ∈ N.map (·.1) := List.mem_map.2 ⟨_, hm, rfl⟩
    have hnd := hN.keys
    generalize N.map (·.1) = K at hmem hnd hk
    cases K with
    | nil => cases hmem
    | cons a r =>
      have := hk a (by simp)
      subst this
      cases r with
      | nil => rfl
      | cons b r =>
        have := hk b (by simp)
        subst this
        simp at hnd
  rw [hone] at hS
  have := List.perm_singleton.1 hS
  subst this
  rw [he]
  have : inForce (LedC r j) N gCall = some nB := by
    unfold inForce
    rw [hn]
    rfl
  simp [this]
end Go.Proofs.YtlamogpdkmbeoaaGreatDoor
end PartAwkP
