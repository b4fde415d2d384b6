/- 'JudgesQuorum': the walk. -/
import Derived.Test.YtlamogpdkmbeoaaGreatDoorZaQuo
import Derived.Test.YtlamogpdkmbeoaaGreatDoorZaAwk
set_option linter.unusedVariables false
set_option linter.unusedSimpArgs false
set_option maxRecDepth 100000
namespace Go.Proofs.YtlamogpdkmbeoaaGreatDoor
open Go.RowKit Go.Lib Go.Shelf Go.Maps

theorem flat_i' (bs : List Int) : bs.flatMap encI = bs.map encI' := by
  induction bs with
  | nil => rfl
  | cons b r ih => simp [List.flatMap_cons, ih]
theorem RowsAt.mapped {α β : Type} {enc : α → List Value} {enc' : β → List Value} {f : α → β} {k : Nat} {w : World} {v : Value} {xs : List α} (h : RowsAt enc k w v xs) (he : ∀ x, enc' (f x) = enc x) : RowsAt enc' k w v (xs.map f) := by
  obtain ⟨A, c, e, hm, hc⟩ := h
  refine ⟨A, c, by rw [List.length_map]; exact e, by rw [List.length_map]; exact hm, fun j hj => ?_⟩
  rw [List.length_map] at hj
  obtain ⟨b, o, h1, h2, h3⟩ := hc j hj
  exact ⟨b, o, h1, h2, fun i u hu => h3 i u (by rw [← hu, List.getElem_map, he])⟩
theorem rulsAt_of {b : Nat} {w : World} {v : Value} {ps : List Pend} (h : RowsAt Pend.enc 3 w v ps) (he : ∀ p ∈ ps, PendOk b w p) : RulsAt w v (ps.map toRL) :=
  ⟨h.mapped (fun _ => rfl), fun x hx => by
    obtain ⟨p, hp, rfl⟩ := List.mem_map.1 hx
    have := (he p hp).row
    refine rows_of_owns 1 (fun _ => rfl) (base := b) (e := 3) ?_
    have e1 : (sortI p.js).length = p.js.length := (List.mergeSort_perm _ _).length_eq
    show w.ownsRow b 3 1 p.v (sortI p.js).length ((sortI p.js).flatMap encI)
    rw [e1, flat_i']
    exact this⟩
/-- What is used of a register. -/
structure RegUse (q : Int) (xs : List Note) (w : World) (rv : Value) (L : Led) (ds : List Note) (cs : Array Value) (A1 A2 A3 A4 : Option Addr) (n1 c1 n2 c2 n3 c3 c4 : Nat) (ps : List Pend) : Prop where
  val : rv = .agg cs
  size : cs.size = 8
  one : cs.all (·.oneCell') = true
  e1 : cs[1]? = some (.slice A1 n1 c1)
  e2 : cs[2]? = some (.slice A2 n2 c2)
  e3 : cs[3]? = some (.slice A3 n3 c3)
  e4 : cs[4]? = some (.slice A4 ps.length c4)
  perm : ds.Perm xs
  order : InOrder ds
  steps : Steps Led0 ds L
  rnd : (L.rulings.map (·.r)).Nodup
  pend : RulsAt w (.slice A4 ps.length c4) (ps.map toRL)
  pendP : (ps.map (·.rul)).Perm (L.rulings.filter fun x => decide ((x.judges.length : Int) < q))
  pendO : PendOrd ps
  js : ∀ p ∈ ps, p.js.Perm (p.rul.judges.map (·.1))
  none : (∀ x ∈ L.rulings, (x.judges.length : Int) < q) → n1 = 0 ∧ n2 = 0 ∧ n3 = 0
theorem FoldRel.use {q : Int} {xs : List Note} {w : World} {rv : Value} {L : Led} {ds : List Note} {ev u1 u2 u3 pvv u4 pub : Value} {es : List Ent} {x1 : List MarkK} {x2 x3 : List DuoK} {ps : List Pend} {x4 : List NameK} (h : FoldRel q xs w rv L ds ev u1 u2 u3 pvv u4 pub es x1 x2 x3 ps x4) :
    ∃ cs A1 A2 A3 A4 n1 c1 n2 c2 n3 c3 c4, RegUse q xs w rv L ds cs A1 A2 A3 A4 n1 c1 n2 c2 n3 c3 c4 ps := by
  obtain ⟨B, ho⟩ := h.out
  obtain ⟨A1, c1, e1⟩ := ho.struck.len
  obtain ⟨A2, c2, e2⟩ := ho.force.len
  obtain ⟨A3, c3, e3⟩ := ho.forbid.len
  obtain ⟨A4, c4, e4⟩ := ho.pend.len
  have hpe := ho.pend
  rw [e4] at hpe
  have hpp := ho.pendP
  rw [pend_fold] at hpp
  refine ⟨_, A1, A2, A3, A4, x1.length, c1, x2.length, c2, x3.length, c3, c4, h.val, rfl, ?_, ?_, ?_, ?_, ?_, h.perm, h.order, h.steps, h.rnd, rulsAt_of hpe ho.each, by simpa using hpp, ho.pendO, fun p hp => (ho.each p hp).perm, fun hall => ?_⟩
  · rw [List.all_toArray]
    simp only [List.all_cons, List.all_nil, own_one ho.ents.row, ho.struck.one_of, ho.force.one_of, ho.forbid.one_of, ho.pend.one_of, ho.published.one_of, ho.conflicts.one_of]
    rfl
  · rw [← e1]; rfl
  · rw [← e2]; rfl
  · rw [← e3]; rfl
  · rw [← e4]; rfl
  · obtain ⟨f1, f2, f3⟩ := none_fold q L.rulings (RS0 L) hall
    have g1 := ho.struckP
    have g2 := ho.forceP
    have g3 := ho.forbidP
    rw [f1] at g1
    rw [f2] at g2
    rw [f3] at g3
    exact ⟨by simpa using g1.length_eq, by simpa using g2.length_eq, by simpa using g3.length_eq⟩
theorem Fold_ok (o : Lay) (q : Int) (v : Value) (xs : List Note) (w : World) (h : NotesAt w v xs) (hE : Env w) (hs : setB o xs = true) (hq : inB q 1 8 = true) :
    Calls Tryz.prog 12 #[o.val, .int .i64 q, v] w fun e w' => ∃ L ds cs A1 A2 A3 A4 n1 c1 n2 c2 n3 c3 c4 ps, e = .returned (.tuple #[.agg cs, .int .i64 0]) ∧ RegUse q xs w' (.agg cs) L ds cs A1 A2 A3 A4 n1 c1 n2 c2 n3 c3 c4 ps ∧ Below w.heap.size w w' :=
  (Fold_any o q v xs w h hE).mono fun e w' ⟨rv, er, he, ho, hb⟩ => by
    obtain ⟨rfl, L, ds, ev, u1, u2, u3, pvv, u4, pub, es, x1, x2, x3, ps, x4, hr⟩ := ho.good (by rw [hs, hq]; rfl)
    obtain ⟨cs, A1, A2, A3, A4, n1, c1, n2, c2, n3, c3, c4, hu⟩ := hr.use
    have hv := hu.val
    subst hv
    exact ⟨L, ds, cs, A1, A2, A3, A4, n1, c1, n2, c2, n3, c3, c4, ps, he, hu, hb⟩
theorem Fold_bad (o : Lay) (q : Int) (v : Value) (xs : List Note) (w : World) (h : NotesAt w v xs) (hE : Env w) (hs : (setB o xs && inB q 1 8) = false) :
    Calls Tryz.prog 12 #[o.val, .int .i64 q, v] w fun e w' => e = .returned (.tuple #[.agg zeroReg, .int .i64 1]) ∧ Below w.heap.size w w' :=
  (Fold_any o q v xs w h hE).mono fun e w' ⟨rv, er, he, ho, hb⟩ => by
    rcases ho with ⟨h1, _⟩ | ⟨_, rfl, rfl⟩
    · rw [hs] at h1; cases h1
    · exact ⟨he, hb⟩
theorem Rulings_ok (o : Lay) (v : Value) (xs : List Note) (w : World) (h : NotesAt w v xs) (hE : Env w) (hs : setB o xs = true) :
    Calls Tryz.prog 14 #[o.val, v] w fun e w' => ∃ u L ds ps, e = .returned (.tuple #[u, .int .i64 0]) ∧ (ds.Perm xs ∧ InOrder ds ∧ Steps Led0 ds L ∧ (L.rulings.map (·.r)).Nodup ∧ RowsAt Pend.enc 3 w' u ps ∧ (∀ p ∈ ps, PendOk w.heap.size w' p) ∧ (ps.map (·.rul)).Perm L.rulings ∧ PendOrd ps) ∧ Below w.heap.size w w' :=
  (Rulings_any o v xs w h hE).mono fun e w' ⟨u, er, he, ho, hb⟩ => by
    rcases ho with ⟨_, rfl, L, ds, ps, h1⟩ | ⟨h1, _⟩
    · exact ⟨u, L, ds, ps, he, h1, hb⟩
    · rw [hs] at h1; cases h1
theorem Rulings_bad (o : Lay) (v : Value) (xs : List Note) (w : World) (h : NotesAt w v xs) (hE : Env w) (hs : setB o xs = false) :
    Calls Tryz.prog 14 #[o.val, v] w fun e w' => e = .returned (.tuple #[.slice none 0 0, .int .i64 1]) ∧ Below w.heap.size w w' :=
  (Rulings_any o v xs w h hE).mono fun e w' ⟨u, er, he, ho, hb⟩ => by
    rcases ho with ⟨h1, _⟩ | ⟨_, rfl, rfl⟩
    · rw [hs] at h1; cases h1
    · exact ⟨he, hb⟩
theorem below_reg {w2 w3 : World} {cs : Array Value} (hg : (w2.alloc (.cells cs 32)).grownBy w3 (some w2.heap.size)) : Below w2.heap.size w2 w3 :=
  (below_alloc0 (.cells cs 32)).grown hg (by simp) (fun j e => by injection e with e; omega)
set_option maxHeartbeats 16000000 in
theorem JQuorum_any (o : Lay) (q : Int) (v : Value) (xs : List Note) (alone : Int) (w : World) (h : NotesAt w v xs) (hE : Env w) :
    Calls Tryz.prog 5 #[o.val, .int .i64 q, v, .int .i64 alone] w fun e w' => e = .returned (.bool true) ∧ Below w.heap.size w w' := by
  have hawk := fun W (hb : Below w.heap.size w W) => awake_any W (hE.below hE.big hb)
  have UR := Tryz.underlying32
  have hmx := h.row.max
  unfold maxLen at hmx
  have HN := Lib.hid h
  have HAWK := Lib.hid hawk
  have HEN : Hid (∀ W, Below w.heap.size w W → Env W) := Lib.hid (fun W hb => hE.below hE.big hb)
  obtain ⟨A, c, rfl⟩ := h.row.len
  obtain ⟨o1, o2, o3⟩ := o
  obtain ⟨lo, hlo⟩ : ∃ lo : Lay, lo = ⟨o1, o2, o3⟩ := ⟨_, rfl⟩
  have hv : lo.val = .agg #[.bool o1, .bool o2, .bool o3] := by rw [hlo]
  have hbO := below_alloc0 (w := w) (.cells #[.bool o1, .bool o2, .bool o3] 23)
  have HBO := Lib.hid hbO
  have HV := Lib.hid hv
  have hO : Blk (w.alloc (.cells #[.bool o1, .bool o2, .bool o3] 23)) w.heap.size 23 #[.bool o1, .bool o2, .bool o3] := Blk.new _ _ _
  have HO := Lib.hid hO
  dsimp only [Lay.val]
  clear h hE hawk hv hlo hbO hO
  by_cases hl : xs.length ≤ 200
  · have hgt : ¬ (200 : Int) < xs.length := by omega
    cases hsb : setB lo xs with
    | false =>
      have hr := Rulings_bad lo (.slice A xs.length c) xs _ (HN.out.later HBO.out) (HEN.out _ HBO.out) hsb
      have hf := fun W (hb : Below w.heap.size w W) => Fold_bad lo q (.slice A xs.length c) xs W (HN.out.later hb) (HEN.out _ hb) (by rw [hsb]; rfl)
      rw [HV.out] at hr hf
      have HF := Lib.hid hf
      clear hf hsb
      have oz := oneZero
      have k0 : ∀ W, Below (w.alloc (.cells #[.bool o1, .bool o2, .bool o3] 23)).heap.size (w.alloc (.cells #[.bool o1, .bool o2, .bool o3] 23)) W → W.cell? ⟨w.heap.size, 0, none⟩ = some (.bool o1) ∧ W.cell? ⟨w.heap.size, 1, none⟩ = some (.bool o2) ∧ W.cell? ⟨w.heap.size, 2, none⟩ = some (.bool o3) := fun W hb => ⟨(HO.out.later hb).cell 0, (HO.out.later hb).cell 1, (HO.out.later hb).cell 2⟩
      have K0 := Lib.hid k0
      clear k0
      go_enter Tryz.func5, Tryz.ntmps5
      go_upto_region 6 with (first
        | (go_at_call 14; (with_reducible refine hr.mono ?_); rintro e w1 ⟨rfl, hb1⟩; obtain ⟨k1, k2, k3⟩ := K0.out w1 hb1)
        | (go_at_call 12; (with_reducible refine (HF.out w1 (HBO.out.trans (hb1.mono HBO.out.size))).mono ?_); rintro e w2 ⟨rfl, hb2⟩)
        | (refine wpList_store_blk rfl 32 _ _ rfl w2.heap.size 32 zeroReg zeroReg rfl rfl (Blk.new w2 _ _) (by rfl) sizeReg oz ?_; intro w3 hZ3 hg3 hs3))
      have hb3 : Below w.heap.size w w3 := (HBO.out.trans (hb1.mono HBO.out.size)).trans ((hb2.trans ((below_reg hg3).mono hb2.size)).mono (by have := HBO.out.size; have := hb1.size; omega))
      have ha := HAWK.out w3 hb3
      have HB3 := Lib.hid hb3
      clear hb3 hg3 hs3 hZ3 hb1 hb2 k1 k2 k3 hr
      go_wp2_with (go_at_call 11; (with_reducible refine ha.mono ?_); rintro e w4 ⟨rfl, hb4⟩)
      go_ret
      exact ⟨rfl, HB3.out.trans (hb4.mono HB3.out.size)⟩
    | true =>
      have hr := Rulings_ok lo (.slice A xs.length c) xs _ (HN.out.later HBO.out) (HEN.out _ HBO.out) hsb
      rw [HV.out] at hr
      have HSB := Lib.hid hsb
      have k0 : ∀ W, Below (w.alloc (.cells #[.bool o1, .bool o2, .bool o3] 23)).heap.size (w.alloc (.cells #[.bool o1, .bool o2, .bool o3] 23)) W → W.cell? ⟨w.heap.size, 0, none⟩ = some (.bool o1) ∧ W.cell? ⟨w.heap.size, 1, none⟩ = some (.bool o2) ∧ W.cell? ⟨w.heap.size, 2, none⟩ = some (.bool o3) := fun W hb => ⟨(HO.out.later hb).cell 0, (HO.out.later hb).cell 1, (HO.out.later hb).cell 2⟩
      have K0 := Lib.hid k0
      clear k0 hsb
      cases hqb : inB q 1 8 with
      | false =>
        have hf := fun W (hb : Below w.heap.size w W) => Fold_bad lo q (.slice A xs.length c) xs W (HN.out.later hb) (HEN.out _ hb) (by rw [hqb, Bool.and_false])
        rw [HV.out] at hf
        have HF := Lib.hid hf
        clear hf hqb
        have oz := oneZero
        go_enter Tryz.func5, Tryz.ntmps5
        go_upto_region 6 with (first
          | (go_at_call 14; (with_reducible refine hr.mono ?_); rintro e w1 ⟨u, L0, ds0, ps0, rfl, hru, hb1⟩; obtain ⟨k1, k2, k3⟩ := K0.out w1 hb1)
          | (go_at_call 12; (with_reducible refine (HF.out w1 (HBO.out.trans (hb1.mono HBO.out.size))).mono ?_); rintro e w2 ⟨rfl, hb2⟩)
          | (refine wpList_store_blk rfl 32 _ _ rfl w2.heap.size 32 zeroReg zeroReg rfl rfl (Blk.new w2 _ _) (by rfl) sizeReg oz ?_; intro w3 hZ3 hg3 hs3))
        have hb3 : Below w.heap.size w w3 := (HBO.out.trans (hb1.mono HBO.out.size)).trans ((hb2.trans ((below_reg hg3).mono hb2.size)).mono (by have := HBO.out.size; have := hb1.size; omega))
        have ha := HAWK.out w3 hb3
        have HB3 := Lib.hid hb3
        clear hb3 hg3 hs3 hZ3 hb1 hb2 k1 k2 k3 hr hru
        go_wp2_with (go_at_call 11; (with_reducible refine ha.mono ?_); rintro e w4 ⟨rfl, hb4⟩)
        go_ret
        exact ⟨rfl, HB3.out.trans (hb4.mono HB3.out.size)⟩
      | true =>
        have hq18 := inB_iff.1 hqb
        have hf := fun W (hb : Below w.heap.size w W) => Fold_ok lo q (.slice A xs.length c) xs W (HN.out.later hb) (HEN.out _ hb) HSB.out hqb
        rw [HV.out] at hf
        have HF := Lib.hid hf
        have HQB := Lib.hid hqb
        clear hf hqb
        go_enter Tryz.func5, Tryz.ntmps5
        go_upto_region 5 with (first
          | (go_at_call 14; (with_reducible refine hr.mono ?_); rintro e w1 ⟨u, L0, ds0, ps0, rfl, hru, hb1⟩; obtain ⟨k1, k2, k3⟩ := K0.out w1 hb1)
          | (go_at_call 12; (with_reducible refine (HF.out w1 (HBO.out.trans (hb1.mono HBO.out.size))).mono ?_); rintro e w2 ⟨L, ds, cs, A1, A2, A3, A4, n1, c1, n2, c2, n3, c3, c4, ps, rfl, hu, hb2⟩; have hcz := hu.size; have hone := hu.one)
          | (refine wpList_store_blk rfl 32 _ _ rfl w2.heap.size 32 zeroReg cs rfl rfl (Blk.new w2 _ _) (by rw [hcz]; rfl) (by rw [hcz]; exact sizeReg) hone ?_; intro w3 hZ3 hg3 hs3))
        have hb01 := HBO.out.trans (hb1.mono HBO.out.size)
        have hb23 := below_reg hg3
        have hb13 : Below w1.heap.size w1 w3 := hb2.trans (hb23.mono hb2.size)
        have hb3 : Below w.heap.size w w3 := hb01.trans (hb13.mono hb01.size)
        have HBA3 := Lib.hid (hb1.trans (hb13.mono hb1.size))
        have HCR0 : Hid (ds0.Perm xs ∧ InOrder ds0 ∧ Steps Led0 ds0 L0 ∧ (L0.rulings.map (·.r)).Nodup) := Lib.hid ⟨hru.1, hru.2.1, hru.2.2.1, hru.2.2.2.1⟩
        have hs3' : w.heap.size ≤ w3.heap.size := hb3.size
        obtain ⟨pe0, or0, st0, rn0, row0, each0, pR0, oR0⟩ := hru
        obtain ⟨hcr, hnd, _⟩ := runs_same HSB.out pe0 hu.perm or0 hu.order st0 hu.steps rn0 hu.rnd
        have HW : Hid ((ps.map toRL).map RL.dat = ((ps0.filter (waits q)).map toRL).map RL.dat) := Lib.hid (want_dat hcr hnd pR0 hu.pendP oR0 hu.pendO (fun p hp => (each0 p hp).perm) hu.js)
        obtain ⟨Au, cu, rfl⟩ := row0.len
        have HROW0 := Lib.hid (row0.later hb13)
        have HE0 : Hid (∀ p ∈ ps0, PendOk (w.heap.size + 1) w3 p) := Lib.hid (fun p hp => ⟨(each0 p hp).perm, own_later (by have := (each0 p hp).row; rwa [World.size_alloc] at this) hb13⟩)
        have HPEND := Lib.hid (hu.pend.later hb23)
        have HU := Lib.hid hu
        have HB3 := Lib.hid hb3
        have HZ3 := Lib.hid hZ3
        obtain ⟨n0, hn0⟩ : ∃ n0, n0 = ps0.length := ⟨_, rfl⟩
        have HN0 := Lib.hid hn0
        have hn0b : n0 ≤ 9223372036854775807 := by have := row0.max; unfold maxLen at this; omega
        have hn02 : n0 ≤ 2000 := by
          have e1 := pR0.length_eq
          have e2 := (ledOf st0 (fun x hx => (goodN (setB_good HSB.out x (pe0.mem_iff.1 hx))).kind)).rulingsN
          have e3 := pe0.length_eq
          have e4 := setB_len HSB.out
          rw [List.length_map] at e1
          omega
        obtain ⟨rb, hrb⟩ : ∃ rb, w2.heap.size = rb := ⟨_, rfl⟩
        have hrb3 : rb < w3.heap.size := by rw [← hrb]; exact hZ3.lt
        rw [← hn0]
        rw [hrb] at HZ3 ⊢
        have URs := Tryz.underlying29
        obtain ⟨i0, hi0, hz0, hz1, hz2⟩ := infoRuling
        clear hb01 hb23 hb13 hb3 pe0 or0 st0 rn0 row0 each0 pR0 oR0 hcr hnd hu hZ3 hg3 hs3 hcz hone hb1 hb2 k1 k2 k3 hr hn0 hrb
        go_upto_region 9 with fail
        go_loopw [13, 14] (fun s13 s14 wr => ∃ i : Nat, i ≤ n0 ∧ s14 = .int .i64 i ∧ Hid (wr.ownsRow w3.heap.size 53 3 s13 ((ps0.take i).filter (waits q)).length (((ps0.take i).filter (waits q)).flatMap Pend.enc)) ∧ Hid (Below w3.heap.size w3 wr)) (fun _ s14 _ => n0 - (intOf s14).toNat)
        case atStart => exact ⟨0, Nat.zero_le _, rfl, Lib.hid (World.ownsRow_nil _ _ _ _), Lib.hid (Below.refl _ _)⟩
        case round =>
          obtain ⟨i, hi, rfl, how, hbr⟩ := hrel
          have hsr : w3.heap.size ≤ wr.heap.size := hbr.out.size
          by_cases hlt : i < n0
          · have hi1 : i < ps0.length := by have := HN0.out; omega
            obtain ⟨p, hp⟩ : ∃ p, p = ps0[i] := ⟨_, rfl⟩
            have hpm : p ∈ ps0 := by rw [hp]; exact List.getElem_mem hi1
            have hNX : ps0.take (i + 1) = ps0.take i ++ [p] := by rw [List.take_succ_eq_append_getElem hi1, ← hp]
            have hpr := (HE0.out p hpm).row
            obtain ⟨Av, mv, cv, hpv⟩ := own_slice hpr
            rw [hpv] at hpr
            have hmv : mv = p.js.length := own_len hpr
            have hjb : p.js.length ≤ 9223372036854775807 := by
              rcases hpr.2 with ⟨_, h0⟩ | ⟨_, cp, _, h1, _, _, h2, h3, _⟩
              · omega
              · unfold maxLen at h3; omega
            rcases HROW0.out.place with ⟨e0, _⟩ | ⟨g1, o1', c1', e1, _, _, hg1, hcell⟩
            · rw [e0] at hi1; simp at hi1
            injection e1 with e1 e11 e12
            clear e11 e12
            subst e1
            have x0 : wr.cell? ⟨g1, o1' + i * 3, none⟩ = some (.int .i64 p.rul.note.nt.judge) := (hbr.out.cell (p := ⟨g1, o1' + i * 3, none⟩) hg1).trans (hcell i hi1 0 _ (by rw [← hp]; rfl))
            have x1 : wr.cell? ⟨g1, o1' + i * 3 + 1, none⟩ = some (.int .i64 p.rul.note.nt.num) := (hbr.out.cell (p := ⟨g1, o1' + i * 3 + 1, none⟩) hg1).trans (hcell i hi1 1 _ (by rw [← hp]; rfl))
            have x2 : wr.cell? ⟨g1, o1' + i * 3 + 2, none⟩ = some (.slice Av mv cv) := (hbr.out.cell (p := ⟨g1, o1' + i * 3 + 2, none⟩) hg1).trans (hcell i hi1 2 _ (by rw [← hp, ← hpv]; rfl))
            have hfl : ((ps0.take i).filter (waits q)).length ≤ i := Nat.le_trans (List.length_filter_le _ _) (by rw [List.length_take]; omega)
            have hpe : p.enc = [.int .i64 p.rul.note.nt.judge, .int .i64 p.rul.note.nt.num, .slice Av mv cv] := by rw [← hpv]
            by_cases hwq : (p.js.length : Int) < q
            · have hF : Hid ((ps0.take (i + 1)).filter (waits q) = (ps0.take i).filter (waits q) ++ [p]) := Lib.hid (by rw [hNX, List.filter_append, List.filter_cons_of_pos (by simpa [waits] using hwq)]; rfl)
              have hwm : (mv : Int) < q := by omega
              have HPE := Lib.hid hpe
              obtain ⟨pj, hpj⟩ : ∃ pj, pj = p.rul.note.nt.judge := ⟨_, rfl⟩
              obtain ⟨pn, hpn⟩ : ∃ pn, pn = p.rul.note.nt.num := ⟨_, rfl⟩
              rw [← hpj] at x0 HPE
              rw [← hpn] at x1 HPE
              have hmvb : mv ≤ 9223372036854775807 := by omega
              clear hp hpm hNX hpr hpv hmv hjb hcell hpe hwq hpj hpn
              go_wp2_with (at_builtin; refine wpList_append_lies _ rfl _ _ 29 rfl w3.heap.size 53 i0 _ 3 40 URs hi0 hz0 hz1 hz2 rfl (by decide) u13 _ _ rfl (how.out.alloc _) ⟨wr.heap.size, 0, none⟩ 1 1 [.int .i64 pj, .int .i64 pn, .slice Av mv cv] rfl rfl (World.news_of_block (Blk.new wr _ _)) (by simp [Value.oneCell']) (by decide) (by unfold maxLen; omega) (by omega) (by simp; omega) _ rfl ?_; intro g' cap w5 ho5 hg5 hat5 hlt5)
              have hbn : Below w3.heap.size w3 w5 := (hbr.out.alloc hsr _).grown hg5 (by simp; omega) (fun j e => (how.out.lt j e).1)
              exact ⟨⟨i + 1, by omega, by simp, Lib.hid (by rw [hF.out, List.length_append, List.flatMap_append, List.flatMap_singleton, HPE.out]; exact ho5), Lib.hid hbn⟩, by simp [intOf]; omega⟩
            · have hF : Hid ((ps0.take (i + 1)).filter (waits q) = (ps0.take i).filter (waits q)) := Lib.hid (by rw [hNX, List.filter_append, List.filter_cons_of_neg (by simpa [waits] using hwq)]; simp)
              have hwm : ¬ (mv : Int) < q := by omega
              have hmvb : mv ≤ 9223372036854775807 := by omega
              clear hp hpm hNX hpr hpv hmv hjb hcell hpe hwq x0 x1
              go_wp2
              exact ⟨⟨i + 1, by omega, by simp, by rw [hF.out]; exact how, hbr⟩, by simp [intOf]; omega⟩
          · have hin : ps0.take i = ps0 := List.take_of_length_le (by have := HN0.out; omega)
            rw [hin] at how
            obtain ⟨ws, hws⟩ : ∃ ws, ws = ps0.filter (waits q) := ⟨_, rfl⟩
            have hwd := HW.out
            rw [← hws] at how hwd
            have hwant : RulsAt wr u13 (ws.map toRL) := rulsAt_of (b := w.heap.size + 1) (rows_of_owns 3 (fun _ => rfl) how.out) (fun p hp => by
              have h0 := HE0.out p (by rw [hws] at hp; exact (List.mem_filter.1 hp).1)
              exact ⟨h0.perm, own_later h0.row hbr.out⟩)
            have hsame := SameRulings_any (.slice A4 ps.length c4) u13 (ps.map toRL) (ws.map toRL) wr (HPEND.out.later hbr.out) hwant
            rw [decide_eq_true hwd] at hsame
            have HSM := Lib.hid hsame
            have HZr := Lib.hid (HZ3.out.later hbr.out)
            have z4 : wr.cell? ⟨rb, 4, none⟩ = some (.slice A4 ps.length c4) := (HZr.out.cell 4).trans HU.out.e4
            have HBr := Lib.hid (HB3.out.trans (hbr.out.mono hs3'))
            have HBAr := Lib.hid (HBA3.out.trans (hbr.out.mono (by have := HBA3.out.size; exact this)))
            have hswr : w.heap.size ≤ wr.heap.size := HBr.out.size
            have UN := Tryz.underlying46
            have USn := Tryz.underlying24
            obtain ⟨i1, hi1, hy0, hy1, hy2⟩ := infoNote
            clear hin how hws hwd hwant hsame
            go_upto_region 15 with (go_at_call 15; (with_reducible refine HSM.out.mono ?_); rintro e w4 ⟨rfl, hb4⟩)
            have HB4 := Lib.hid (HBr.out.trans (hb4.mono hswr))
            have HBA4 := Lib.hid (HBAr.out.trans (hb4.mono (by have := HBAr.out.size; exact this)))
            have HZ4 := Lib.hid (HZr.out.later hb4)
            have hs4 : w.heap.size ≤ w4.heap.size := HB4.out.size
            obtain ⟨k1, k2, k3⟩ := K0.out w4 HBA4.out
            have z4' : w4.cell? ⟨rb, 4, none⟩ = some (.slice A4 ps.length c4) := (HZ4.out.cell 4).trans HU.out.e4
            clear z4 hb4
            by_cases hq7 : q ≤ 7
            · have hf5 := Fold_ok lo (q + 1) (.slice A xs.length c) xs w4 (HN.out.later HB4.out) (HEN.out _ HB4.out) HSB.out (inB_iff.2 ⟨by omega, by omega⟩)
              rw [HV.out] at hf5
              have HF5 := Lib.hid hf5
              clear hf5
              go_upto_region 16 with (first
                | (go_at_call 12; (with_reducible refine HF5.out.mono ?_); rintro e w5 ⟨L5, ds5, cs5, A51, A52, A53, A54, n51, c51, n52, c52, n53, c53, c54, ps5, rfl, hu5, hb5⟩; have hcz5 := hu5.size; have hone5 := hu5.one)
                | (refine wpList_store_blk rfl 32 _ _ rfl w5.heap.size 32 zeroReg cs5 rfl rfl (Blk.new w5 _ _) (by rw [hcz5]; rfl) (by rw [hcz5]; exact sizeReg) hone5 ?_; intro w6 hZ6 hg6 hs6'))
              have hb46 : Below w4.heap.size w4 w6 := hb5.trans ((below_reg hg6).mono hb5.size)
              have HB6 := Lib.hid (HB4.out.trans (hb46.mono hs4))
              have HBA6 := Lib.hid (HBA4.out.trans (hb46.mono (by have := HBA4.out.size; exact this)))
              have z46 : w6.cell? ⟨rb, 4, none⟩ = some (.slice A4 ps.length c4) := ((HZ4.out.later hb46).cell 4).trans HU.out.e4
              have z56 : w6.cell? ⟨w5.heap.size, 4, none⟩ = some (.slice A54 ps5.length c54) := (hZ6.cell 4).trans hu5.e4
              obtain ⟨hcr5, _, _⟩ := runs_same HSB.out HU.out.perm hu5.perm HU.out.order hu5.order HU.out.steps hu5.steps HU.out.rnd hu5.rnd
              have hcnt : ps.length ≤ ps5.length := pend_count (q := q) (q' := q + 1) (by omega) hcr5 HU.out.pendP hu5.pendP
              have hcnt' : ¬ (ps5.length : Int) < ps.length := by omega
              have hs6 : w.heap.size ≤ w6.heap.size := HB6.out.size
              have hsa6 := HBA6.out.size
              clear hb46 hb5 hg6 hs6' hZ6 hu5 hcr5 hcz5 hone5 k1 k2 k3 z4'
              go_upto_region 20 with fail
              go_loopw [17, 18] (fun s17 s18 wi => ∃ k : Nat, k ≤ xs.length ∧ s18 = .int .i64 k ∧ Hid (wi.ownsRow w6.heap.size 46 20 s17 ((xs.take k).filter (fun x => x.nt.judge == alone)).length (((xs.take k).filter (fun x => x.nt.judge == alone)).flatMap Note.enc)) ∧ Hid (Below w6.heap.size w6 wi)) (fun _ s18 _ => xs.length - (intOf s18).toNat)
              case atStart => exact ⟨0, Nat.zero_le _, rfl, Lib.hid (World.ownsRow_nil _ _ _ _), Lib.hid (Below.refl _ _)⟩
              case round =>
                obtain ⟨k, hk, rfl, how2, hbi⟩ := hrel
                have hsi : w6.heap.size ≤ wr.heap.size := hbi.out.size
                by_cases hkl : k < xs.length
                · obtain ⟨x, hx⟩ : ∃ x, x = xs[k] := ⟨_, rfl⟩
                  have hxm : x ∈ xs := by rw [hx]; exact List.getElem_mem hkl
                  have hNX : xs.take (k + 1) = xs.take k ++ [x] := by rw [List.take_succ_eq_append_getElem hkl, ← hx]
                  have hnr := (HN.out.later HB6.out).later hbi.out
                  rcases hnr.row.place with ⟨e0, _⟩ | ⟨g3, o3', c3', e1, _, _, hg3, hcell⟩
                  · rw [e0] at hkl; simp at hkl
                  injection e1 with e1 e11 e12
                  clear e11 e12
                  subst e1
                  have hrng : wr.rangeAt g3 (o3' + k * 20) x.nt.enc := fun q u hu => hcell k hkl q u (by rw [← hx]; exact hu)
                  have cj : wr.cell? ⟨g3, o3' + k * 20, none⟩ = some (.int .i64 x.nt.judge) := hrng 0 _ rfl
                  have hone := note_one (hnr.each x hxm)
                  have hfl : ((xs.take k).filter (fun x => x.nt.judge == alone)).length ≤ k := Nat.le_trans (List.length_filter_le _ _) (by rw [List.length_take]; omega)
                  have HRNG := Lib.hid hrng
                  have HONE : Hid (∀ u ∈ x.nt.enc, u.oneCell' = true) := Lib.hid (by
                    have h := hone
                    rw [List.all_toArray] at h
                    exact List.all_eq_true.1 h)
                  by_cases hja : x.nt.judge = alone
                  · have hF : Hid ((xs.take (k + 1)).filter (fun x => x.nt.judge == alone) = (xs.take k).filter (fun x => x.nt.judge == alone) ++ [x]) := Lib.hid (by rw [hNX, List.filter_append, List.filter_cons_of_pos (by simpa using hja)]; rfl)
                    have HENC : Hid (x.enc = .int .i64 alone :: x.nt.enc.tail) := Lib.hid (by rw [← hja]; rfl)
                    have HONE2 : Hid (∀ u ∈ Value.int .i64 alone :: x.nt.enc.tail, u.oneCell' = true) := Lib.hid (by rw [← HENC.out]; exact HONE.out)
                    have tok : True := trivial
                    clear hx hxm hNX hnr hcell hrng hone
                    go_wp2_with (first
                      | (have _t := tok; refine wpList_load_mid rfl 46 _ rfl g3 (o3' + k * 20) rfl x.nt.enc _ HRNG.out UN rfl sizeNote ?_; clear tok)
                      | (at_builtin; refine wpList_append_lies _ rfl _ _ 24 rfl w6.heap.size 46 i1 (.agg Nt0.enc.toArray) 20 224 USn hi1 hy0 hy1 hy2 rfl (by decide) u17 _ _ rfl (how2.out.alloc _) ⟨wr.heap.size, 0, none⟩ 1 1 (.int .i64 alone :: x.nt.enc.tail) rfl rfl (World.news_of_block (Blk.new wr _ _)) HONE2.out (by decide) (by unfold maxLen; omega) (by omega) (by simp; omega) _ rfl ?_; intro g' cap w7 ho7 hg7 hat7 hlt7))
                    have hbn : Below w6.heap.size w6 w7 := (hbi.out.alloc hsi _).grown hg7 (by simp; omega) (fun j e => (how2.out.lt j e).1)
                    exact ⟨⟨k + 1, by omega, by simp, Lib.hid (by rw [hF.out, List.length_append, List.flatMap_append, List.flatMap_singleton, HENC.out]; exact ho7), Lib.hid hbn⟩, by simp [intOf]; omega⟩
                  · have hF : Hid ((xs.take (k + 1)).filter (fun x => x.nt.judge == alone) = (xs.take k).filter (fun x => x.nt.judge == alone)) := Lib.hid (by rw [hNX, List.filter_append, List.filter_cons_of_neg (by simpa using hja)]; simp)
                    clear hx hxm hNX hnr hcell hrng hone
                    go_wp2
                    exact ⟨⟨k + 1, by omega, by simp, by rw [hF.out]; exact how2, hbi⟩, by simp [intOf]; omega⟩
                · have hke : xs.take k = xs := List.take_of_length_le (by omega)
                  rw [hke] at how2
                  obtain ⟨ys, hys⟩ : ∃ ys, ys = xs.filter (fun x => x.nt.judge == alone) := ⟨_, rfl⟩
                  rw [← hys] at how2
                  have hbw : Below w.heap.size w wr := HB6.out.trans (hbi.out.mono hs6)
                  have hnr := HN.out.later hbw
                  have hny : NotesAt wr u17 ys := ⟨rows_of_owns 20 (fun _ => rfl) how2.out, fun x hx => hnr.each x (by rw [hys] at hx; exact (List.mem_filter.1 hx).1)⟩
                  have hsy : setB lo ys = true := by rw [hys]; exact setB_filter HSB.out _
                  have hal : ∀ x ∈ ys, x.nt.judge = alone := fun x hx => by rw [hys] at hx; simpa using (List.mem_filter.1 hx).2
                  have hf7 := Fold_ok lo q u17 ys wr hny (HEN.out _ hbw) hsy HQB.out
                  rw [HV.out] at hf7
                  obtain ⟨l1, l2, l3⟩ := K0.out wr (HBA6.out.trans (hbi.out.mono hsa6))
                  have HF7 := Lib.hid hf7
                  have HBW := Lib.hid hbw
                  have hsw : w.heap.size ≤ wr.heap.size := hbw.size
                  have HSY := Lib.hid hsy
                  have HAL := Lib.hid hal
                  obtain ⟨A17, m17, c17, rfl⟩ := own_slice how2.out
                  clear hke hys hbw hnr hny hsy hal hf7 how2
                  go_upto_region 25 with (first
                    | (go_at_call 12; (with_reducible refine HF7.out.mono ?_); rintro e w7 ⟨L7, ds7, cs7, A71, A72, A73, A74, n71, c71, n72, c72, n73, c73, c74, ps7, rfl, hu7, hb7⟩; have hcz7 := hu7.size; have hone7 := hu7.one)
                    | (refine wpList_store_blk rfl 32 _ _ rfl w7.heap.size 32 zeroReg cs7 rfl rfl (Blk.new w7 _ _) (by rw [hcz7]; rfl) (by rw [hcz7]; exact sizeReg) hone7 ?_; intro w8 hZ8 hg8 hs8))
                  have hb8 : Below w.heap.size w w8 := (HBW.out.trans (hb7.mono hsw)).trans ((below_reg hg8).mono (by have := hb7.size; omega))
                  have ha := HAWK.out w8 hb8
                  have hnone : ¬ q < 2 → n71 = 0 ∧ n72 = 0 ∧ n73 = 0 := fun h2 => hu7.none (fun y hy => by
                    have hn := setB_nodup HSY.out
                    have hk7 : ∀ x ∈ ys, 1 ≤ x.nt.kind ∧ x.nt.kind ≤ 7 := fun x hx => (goodN (setB_good HSY.out x hx)).kind
                    have hi7 := steps_cr hu7.steps rfl ((hu7.perm.map nm).nodup_iff.2 hn) (fun x hx => hk7 x (hu7.perm.mem_iff.1 hx)) hu7.rnd
                    have := alone_fold alone ds7 [] (fun x hx => HAL.out x (hu7.perm.mem_iff.1 hx)) (fun y hy => by cases hy) (keyR y) (by rw [← hi7.cr]; exact List.mem_map_of_mem hy)
                    have h1 : y.judges.length = 1 := by have := congrArg List.length this; exact this
                    omega)
                  have z1 : w8.cell? ⟨w7.heap.size, 1, none⟩ = some (.slice A71 n71 c71) := (hZ8.cell 1).trans hu7.e1
                  have z2 : w8.cell? ⟨w7.heap.size, 2, none⟩ = some (.slice A72 n72 c72) := (hZ8.cell 2).trans hu7.e2
                  have z3 : w8.cell? ⟨w7.heap.size, 3, none⟩ = some (.slice A73 n73 c73) := (hZ8.cell 3).trans hu7.e3
                  have HB8 := Lib.hid hb8
                  clear hb8 hg8 hs8 hZ8 hu7 hb7 hcz7 hone7 l1 l2 l3
                  by_cases hq2 : q < 2
                  · clear hnone z1 z2 z3
                    go_wp2_with (go_at_call 11; (with_reducible refine ha.mono ?_); rintro e w9 ⟨rfl, hb9⟩)
                    go_ret
                    exact ⟨rfl, HB8.out.trans (hb9.mono HB8.out.size)⟩
                  · obtain ⟨rfl, rfl, rfl⟩ := hnone hq2
                    clear hnone
                    go_wp2_with (go_at_call 11; (with_reducible refine ha.mono ?_); rintro e w9 ⟨rfl, hb9⟩)
                    go_ret
                    exact ⟨rfl, HB8.out.trans (hb9.mono HB8.out.size)⟩
            · have hf5 := Fold_bad lo (q + 1) (.slice A xs.length c) xs w4 (HN.out.later HB4.out) (HEN.out _ HB4.out) (by
                have : inB (q + 1) 1 8 = false := by
                  cases h : inB (q + 1) 1 8 with
                  | false => rfl
                  | true => have := inB_iff.1 h; omega
                rw [this, Bool.and_false])
              rw [HV.out] at hf5
              have HF5 := Lib.hid hf5
              have oz := oneZero
              clear hf5
              go_upto_region 16 with (first
                | (go_at_call 12; (with_reducible refine HF5.out.mono ?_); rintro e w5 ⟨rfl, hb5⟩)
                | (refine wpList_store_blk rfl 32 _ _ rfl w5.heap.size 32 zeroReg zeroReg rfl rfl (Blk.new w5 _ _) (by rfl) sizeReg oz ?_; intro w6 hZ6 hg6 hs6'))
              have hb46 : Below w4.heap.size w4 w6 := hb5.trans ((below_reg hg6).mono hb5.size)
              have HB6 := Lib.hid (HB4.out.trans (hb46.mono hs4))
              have HBA6 := Lib.hid (HBA4.out.trans (hb46.mono (by have := HBA4.out.size; exact this)))
              have hs6 : w.heap.size ≤ w6.heap.size := HB6.out.size
              have hsa6 := HBA6.out.size
              clear hb46 hb5 hg6 hs6' hZ6 k1 k2 k3 z4'
              go_upto_region 20 with fail
              go_loopw [17, 18] (fun s17 s18 wi => ∃ k : Nat, k ≤ xs.length ∧ s18 = .int .i64 k ∧ Hid (wi.ownsRow w6.heap.size 46 20 s17 ((xs.take k).filter (fun x => x.nt.judge == alone)).length (((xs.take k).filter (fun x => x.nt.judge == alone)).flatMap Note.enc)) ∧ Hid (Below w6.heap.size w6 wi)) (fun _ s18 _ => xs.length - (intOf s18).toNat)
              case atStart => exact ⟨0, Nat.zero_le _, rfl, Lib.hid (World.ownsRow_nil _ _ _ _), Lib.hid (Below.refl _ _)⟩
              case round =>
                obtain ⟨k, hk, rfl, how2, hbi⟩ := hrel
                have hsi : w6.heap.size ≤ wr.heap.size := hbi.out.size
                by_cases hkl : k < xs.length
                · obtain ⟨x, hx⟩ : ∃ x, x = xs[k] := ⟨_, rfl⟩
                  have hxm : x ∈ xs := by rw [hx]; exact List.getElem_mem hkl
                  have hNX : xs.take (k + 1) = xs.take k ++ [x] := by rw [List.take_succ_eq_append_getElem hkl, ← hx]
                  have hnr := (HN.out.later HB6.out).later hbi.out
                  rcases hnr.row.place with ⟨e0, _⟩ | ⟨g3, o3', c3', e1, _, _, hg3, hcell⟩
                  · rw [e0] at hkl; simp at hkl
                  injection e1 with e1 e11 e12
                  clear e11 e12
                  subst e1
                  have hrng : wr.rangeAt g3 (o3' + k * 20) x.nt.enc := fun q u hu => hcell k hkl q u (by rw [← hx]; exact hu)
                  have cj : wr.cell? ⟨g3, o3' + k * 20, none⟩ = some (.int .i64 x.nt.judge) := hrng 0 _ rfl
                  have hone := note_one (hnr.each x hxm)
                  have hfl : ((xs.take k).filter (fun x => x.nt.judge == alone)).length ≤ k := Nat.le_trans (List.length_filter_le _ _) (by rw [List.length_take]; omega)
                  have HRNG := Lib.hid hrng
                  have HONE : Hid (∀ u ∈ x.nt.enc, u.oneCell' = true) := Lib.hid (by
                    have h := hone
                    rw [List.all_toArray] at h
                    exact List.all_eq_true.1 h)
                  by_cases hja : x.nt.judge = alone
                  · have hF : Hid ((xs.take (k + 1)).filter (fun x => x.nt.judge == alone) = (xs.take k).filter (fun x => x.nt.judge == alone) ++ [x]) := Lib.hid (by rw [hNX, List.filter_append, List.filter_cons_of_pos (by simpa using hja)]; rfl)
                    have HENC : Hid (x.enc = .int .i64 alone :: x.nt.enc.tail) := Lib.hid (by rw [← hja]; rfl)
                    have HONE2 : Hid (∀ u ∈ Value.int .i64 alone :: x.nt.enc.tail, u.oneCell' = true) := Lib.hid (by rw [← HENC.out]; exact HONE.out)
                    have tok : True := trivial
                    clear hx hxm hNX hnr hcell hrng hone
                    go_wp2_with (first
                      | (have _t := tok; refine wpList_load_mid rfl 46 _ rfl g3 (o3' + k * 20) rfl x.nt.enc _ HRNG.out UN rfl sizeNote ?_; clear tok)
                      | (at_builtin; refine wpList_append_lies _ rfl _ _ 24 rfl w6.heap.size 46 i1 (.agg Nt0.enc.toArray) 20 224 USn hi1 hy0 hy1 hy2 rfl (by decide) u17 _ _ rfl (how2.out.alloc _) ⟨wr.heap.size, 0, none⟩ 1 1 (.int .i64 alone :: x.nt.enc.tail) rfl rfl (World.news_of_block (Blk.new wr _ _)) HONE2.out (by decide) (by unfold maxLen; omega) (by omega) (by simp; omega) _ rfl ?_; intro g' cap w7 ho7 hg7 hat7 hlt7))
                    have hbn : Below w6.heap.size w6 w7 := (hbi.out.alloc hsi _).grown hg7 (by simp; omega) (fun j e => (how2.out.lt j e).1)
                    exact ⟨⟨k + 1, by omega, by simp, Lib.hid (by rw [hF.out, List.length_append, List.flatMap_append, List.flatMap_singleton, HENC.out]; exact ho7), Lib.hid hbn⟩, by simp [intOf]; omega⟩
                  · have hF : Hid ((xs.take (k + 1)).filter (fun x => x.nt.judge == alone) = (xs.take k).filter (fun x => x.nt.judge == alone)) := Lib.hid (by rw [hNX, List.filter_append, List.filter_cons_of_neg (by simpa using hja)]; simp)
                    clear hx hxm hNX hnr hcell hrng hone
                    go_wp2
                    exact ⟨⟨k + 1, by omega, by simp, by rw [hF.out]; exact how2, hbi⟩, by simp [intOf]; omega⟩
                · have hke : xs.take k = xs := List.take_of_length_le (by omega)
                  rw [hke] at how2
                  obtain ⟨ys, hys⟩ : ∃ ys, ys = xs.filter (fun x => x.nt.judge == alone) := ⟨_, rfl⟩
                  rw [← hys] at how2
                  have hbw : Below w.heap.size w wr := HB6.out.trans (hbi.out.mono hs6)
                  have hnr := HN.out.later hbw
                  have hny : NotesAt wr u17 ys := ⟨rows_of_owns 20 (fun _ => rfl) how2.out, fun x hx => hnr.each x (by rw [hys] at hx; exact (List.mem_filter.1 hx).1)⟩
                  have hsy : setB lo ys = true := by rw [hys]; exact setB_filter HSB.out _
                  have hal : ∀ x ∈ ys, x.nt.judge = alone := fun x hx => by rw [hys] at hx; simpa using (List.mem_filter.1 hx).2
                  have hf7 := Fold_ok lo q u17 ys wr hny (HEN.out _ hbw) hsy HQB.out
                  rw [HV.out] at hf7
                  obtain ⟨l1, l2, l3⟩ := K0.out wr (HBA6.out.trans (hbi.out.mono hsa6))
                  have HF7 := Lib.hid hf7
                  have HBW := Lib.hid hbw
                  have hsw : w.heap.size ≤ wr.heap.size := hbw.size
                  have HSY := Lib.hid hsy
                  have HAL := Lib.hid hal
                  obtain ⟨A17, m17, c17, rfl⟩ := own_slice how2.out
                  clear hke hys hbw hnr hny hsy hal hf7 how2
                  go_upto_region 25 with (first
                    | (go_at_call 12; (with_reducible refine HF7.out.mono ?_); rintro e w7 ⟨L7, ds7, cs7, A71, A72, A73, A74, n71, c71, n72, c72, n73, c73, c74, ps7, rfl, hu7, hb7⟩; have hcz7 := hu7.size; have hone7 := hu7.one)
                    | (refine wpList_store_blk rfl 32 _ _ rfl w7.heap.size 32 zeroReg cs7 rfl rfl (Blk.new w7 _ _) (by rw [hcz7]; rfl) (by rw [hcz7]; exact sizeReg) hone7 ?_; intro w8 hZ8 hg8 hs8))
                  have hb8 : Below w.heap.size w w8 := (HBW.out.trans (hb7.mono hsw)).trans ((below_reg hg8).mono (by have := hb7.size; omega))
                  have ha := HAWK.out w8 hb8
                  have hnone : ¬ q < 2 → n71 = 0 ∧ n72 = 0 ∧ n73 = 0 := fun h2 => hu7.none (fun y hy => by
                    have hn := setB_nodup HSY.out
                    have hk7 : ∀ x ∈ ys, 1 ≤ x.nt.kind ∧ x.nt.kind ≤ 7 := fun x hx => (goodN (setB_good HSY.out x hx)).kind
                    have hi7 := steps_cr hu7.steps rfl ((hu7.perm.map nm).nodup_iff.2 hn) (fun x hx => hk7 x (hu7.perm.mem_iff.1 hx)) hu7.rnd
                    have := alone_fold alone ds7 [] (fun x hx => HAL.out x (hu7.perm.mem_iff.1 hx)) (fun y hy => by cases hy) (keyR y) (by rw [← hi7.cr]; exact List.mem_map_of_mem hy)
                    have h1 : y.judges.length = 1 := by have := congrArg List.length this; exact this
                    omega)
                  have z1 : w8.cell? ⟨w7.heap.size, 1, none⟩ = some (.slice A71 n71 c71) := (hZ8.cell 1).trans hu7.e1
                  have z2 : w8.cell? ⟨w7.heap.size, 2, none⟩ = some (.slice A72 n72 c72) := (hZ8.cell 2).trans hu7.e2
                  have z3 : w8.cell? ⟨w7.heap.size, 3, none⟩ = some (.slice A73 n73 c73) := (hZ8.cell 3).trans hu7.e3
                  have HB8 := Lib.hid hb8
                  clear hb8 hg8 hs8 hZ8 hu7 hb7 hcz7 hone7 l1 l2 l3
                  by_cases hq2 : q < 2
                  · clear hnone z1 z2 z3
                    go_wp2_with (go_at_call 11; (with_reducible refine ha.mono ?_); rintro e w9 ⟨rfl, hb9⟩)
                    go_ret
                    exact ⟨rfl, HB8.out.trans (hb9.mono HB8.out.size)⟩
                  · obtain ⟨rfl, rfl, rfl⟩ := hnone hq2
                    clear hnone
                    go_wp2_with (go_at_call 11; (with_reducible refine ha.mono ?_); rintro e w9 ⟨rfl, hb9⟩)
                    go_ret
                    exact ⟨rfl, HB8.out.trans (hb9.mono HB8.out.size)⟩
  · have hgt : (200 : Int) < xs.length := by omega
    have ha := HAWK.out _ HBO.out
    go_enter Tryz.func5, Tryz.ntmps5
    go_wp2_with (go_at_call 11; (with_reducible refine ha.mono ?_); rintro e w1 ⟨rfl, hb1⟩)
    go_ret
    exact ⟨rfl, HBO.out.trans (hb1.mono HBO.out.size)⟩
end Go.Proofs.YtlamogpdkmbeoaaGreatDoor
