/- The texts VersQ, VersW in one. -/
import Derived.Test.YtlamogpdkmbeoaaGreatDoorZbVeP
import Derived.Test.YtlamogpdkmbeoaaGreatDoorZbVeA
import Derived.Test.YtlamogpdkmbeoaaGreatDoorZbMerK
import Derived.Test.YtlamogpdkmbeoaaGreatDoorZbAwk
set_option linter.unusedVariables false
set_option linter.unusedSimpArgs false
section PartVersQ
/- 'JudgesVersions': what its walk asks of the registers. -/
set_option maxRecDepth 100000
namespace Go.Proofs.YtlamogpdkmbeoaaGreatDoor
open Go.RowKit Go.Lib Go.Shelf Go.Maps

theorem good_call {o : Lay} {x : Note} (h : x.good o = true) (k : x.nt.kind = 1) : x.nt.call = x.nt.log.call := by
  unfold Note.good goodB at h
  simp only [usedB, k, if_true, Bool.and_eq_true] at h
  exact toList_inj h.1.1.1.1.1.2
theorem ent_calls {L : Led} {es : List Ent} (h : EntRel L es) : (es.map fun e => e.note.nt.call).Pairwise fun a b => Op.bytesLess a.toList b.toList = true := by
  obtain ⟨N, S, hN, hS, hO, hes⟩ := h
  have hSn : S.Nodup := hS.nodup_iff.2 hN.keys
  have hlt : S.Pairwise fun a b : ByteArray => Op.bytesLess a.toList b.toList = true := by
    have h1 := List.pairwise_map.1 hO
    have h2 := List.nodup_iff_pairwise_ne.1 hSn
    refine List.pairwise_iff_getElem.2 fun i j hi hj hij => ?_
    have a1 := List.pairwise_iff_getElem.1 h1 i j hi hj hij
    have a2 := List.pairwise_iff_getElem.1 h2 i j hi hj hij
    rw [bytesLess_eq, ByteArray.toList_eq, ByteArray.toList_eq]
    refine decide_eq_true ?_
    rcases List.le_iff_lt_or_eq.1 a1 with h | h
    · exact h
    · exact absurd (ByteArray.ext (Array.toList_inj.1 h)) a2
  have e1 : es.map (fun e => e.note.nt.call) = (es.map (·.note)).map fun n => n.nt.call := by rw [List.map_map]; rfl
  rw [e1, hes, List.pairwise_map]
  refine List.pairwise_filterMap.2 (hlt.imp_of_mem fun {a b} ha hb hab x hx y hy => ?_)
  have hc : ∀ (d : ByteArray) (x : Note), inForce L N d = some x → x.nt.call = d := fun d x hx => by
    unfold inForce at hx
    cases hg : getM N d with
    | none => rw [hg] at hx; cases hx
    | some n =>
      rw [hg] at hx
      dsimp only at hx
      split at hx
      · injection hx with hx
        subst hx
        exact (hN.from_ _ (getM_mem hg)).1
      · cases hx
  rw [hc a x hx, hc b y hy]
  exact hab
/-- What a register's entries are. -/
structure EntsOk (o : Lay) (xs : List Note) (L : Led) (es : List Ent) : Prop where
  rel : EntRel L es
  iss : IssP L.issues
  mem : ∀ e ∈ es, e.note ∈ xs ∧ e.note.good o = true ∧ e.note.nt.call = e.note.nt.log.call
theorem FoldRel.ents {o : Lay} {q : Int} {xs : List Note} {w : World} {rv : Value} {L : Led} {ds : List Note} {ev u1 u2 u3 pvv u4 pub : Value} {es : List Ent} {x1 : List MarkK} {x2 x3 : List DuoK} {ps : List Pend} {x4 : List NameK} (h : FoldRel q xs w rv L ds ev u1 u2 u3 pvv u4 pub es x1 x2 x3 ps x4) (hs : setB o xs = true) : EntsOk o xs L es := by
  have hn := setB_nodup hs
  have hk : ∀ x ∈ xs, 1 ≤ x.nt.kind ∧ x.nt.kind ≤ 7 := fun x hx => (goodN (setB_good hs x hx)).kind
  obtain ⟨b, ho⟩ := h.out
  have p1 := steps_pl h.steps rfl ((h.perm.map nm).nodup_iff.2 hn) (fun x hx => hk x (h.perm.mem_iff.1 hx)) h.rnd
  refine ⟨ho.rel, by have := issP_fold ds PL0 ⟨by simp, by simp⟩; rw [← p1] at this; exact this, fun e he => ?_⟩
  obtain ⟨N, hN, hg, _⟩ := entry_of ho.rel e.note.nt.call e he rfl
  obtain ⟨_, p, hp, hpe⟩ := hN.from_ _ (getM_mem hg)
  obtain ⟨_, h2, h3⟩ := h.led.issues p hp
  have hpe : p.2 = e.note := hpe
  rw [hpe] at h2 h3
  have hx := h.perm.mem_iff.1 h2
  exact ⟨hx, setB_good hs _ hx, good_call (setB_good hs _ hx) h3⟩
/-- What 'History' tells of an entry's station. -/
theorem hist_great {o : Lay} {q : Int} {xs : List Note} {w : World} {rv : Value} {L L2 : Led} {ds ds2 : List Note} {ev u1 u2 u3 pvv u4 pub : Value} {es : List Ent} {x1 : List MarkK} {x2 x3 : List DuoK} {ps : List Pend} {x4 : List NameK} (h : FoldRel q xs w rv L ds ev u1 u2 u3 pvv u4 pub es x1 x2 x3 ps x4) (hs : setB o xs = true)
    (p2 : ds2.Perm xs) (o2 : InOrder ds2) (s2 : Steps Led0 ds2 L2) (r2 : (L2.rulings.map (·.r)).Nodup) {e : Ent} (he : e ∈ es) :
    nm e.note ∈ (L2.history.filter (about e.note.nt.log.call)).map nm ∧ ∀ x ∈ xs, nm x ∈ (L2.history.filter (about e.note.nt.log.call)).map nm → ¬ ((x.nt.kind = 2 ∧ e.note.nt.version ≤ x.nt.version) ∨ e.note.nt.version < x.nt.version) := by
  have hn := setB_nodup hs
  have hk : ∀ x ∈ xs, 1 ≤ x.nt.kind ∧ x.nt.kind ≤ 7 := fun x hx => (goodN (setB_good hs x hx)).kind
  have i1 := steps_pl h.steps rfl ((h.perm.map nm).nodup_iff.2 hn) (fun x hx => hk x (h.perm.mem_iff.1 hx)) h.rnd
  have i2 := steps_pl s2 rfl ((p2.map nm).nodup_iff.2 hn) (fun x hx => hk x (p2.mem_iff.1 hx)) r2
  have hds : ds = ds2 := ds_unique h.perm p2 h.order o2 (fun a ha b hb e => inj_of_nodup hn ha hb e)
  have hpl : plOf L = plOf L2 := by rw [i1, i2, hds]
  have hh : L.history = L2.history := congrArg PL.history hpl
  obtain ⟨_, _, hme⟩ := h.ents hs
  obtain ⟨hex, _, hcl⟩ := hme e he
  obtain ⟨b, ho⟩ := h.out
  obtain ⟨N, hN, hg, hw⟩ := entry_of ho.rel e.note.nt.call e he rfl
  have hP : HisP (plOf L) := by rw [i1]; exact hisP_fold ds ⟨by simp, by simp⟩
  obtain ⟨g1, g2, g3⟩ := entry_great hP (N := N) hN hg hw
  rw [← hh, ← hcl]
  refine ⟨List.mem_map_of_mem (List.mem_filter.2 ⟨g1, by simp⟩), fun x hx hxm => ?_⟩
  obtain ⟨m, hm, hme2⟩ := List.mem_map.1 hxm
  obtain ⟨hm1, hm2⟩ := List.mem_filter.1 hm
  have hmx : m ∈ xs := h.perm.mem_iff.1 (hist_mem h.steps rfl m hm1)
  have : m = x := inj_of_nodup hn hmx hx hme2
  subst this
  exact g3 m hm1 (by simpa using hm2)
/-- A station's entries in the register of a set, and in that of a union by which nothing about it is added. -/
theorem ents_same {o : Lay} {q : Int} {l more all : List Note} {w w' : World} {rv rv' : Value} {L L' : Led} {ds ds' : List Note} {ev u1 u2 u3 pvv u4 pub ev' u1' u2' u3' pvv' u4' pub' : Value} {es es' : List Ent} {x1 x1' : List MarkK} {x2 x3 x2' x3' : List DuoK} {ps ps' : List Pend} {x4 x4' : List NameK} {c : ByteArray}
    (h : FoldRel q l w rv L ds ev u1 u2 u3 pvv u4 pub es x1 x2 x3 ps x4) (h' : FoldRel q all w' rv' L' ds' ev' u1' u2' u3' pvv' u4' pub' es' x1' x2' x3' ps' x4') (hm : MP o l more 0 all) (hc : ∀ x ∈ more, ¬ x.nt.call = c) :
    (∀ x ∈ es, x.note.nt.log.call = c → ∀ y ∈ es', y.note.nt.log.call = c → can x.note = can y.note) ∧ ((∃ x ∈ es, x.note.nt.log.call = c) ↔ ∃ y ∈ es', y.note.nt.log.call = c) := by
  obtain ⟨hl, _, ha, _, _⟩ := hm.un
  obtain ⟨r1, i1, m1⟩ := h.ents hl
  obtain ⟨r2, i2, m2⟩ := h'.ents ha
  have hps : (l.filter (isC c)).map can = (all.filter (isC c)).map can := part_same (fun x y hs => by unfold isC; rw [hs.call, hs.kind]) hm fun x hx => by unfold isC; simp [hc x hx]
  have hpc := pc_same (setB_nodup hl) (setB_nodup ha) (fun x hx => (goodN (setB_good hl x hx)).kind) (fun x hx => (goodN (setB_good ha x hx)).kind) h.perm h'.perm h.order h'.order h.steps h'.steps h.rnd h'.rnd hps
  have fw : ∀ x ∈ es, x.note.nt.log.call = c → ∃ f ∈ es', f.note.nt.call = c ∧ can f.note = can x.note := fun x hx hxc => entry_other r1 r2 i1 i2 hpc hx ((m1 x hx).2.2.trans hxc)
  have bw : ∀ y ∈ es', y.note.nt.log.call = c → ∃ f ∈ es, f.note.nt.call = c ∧ can f.note = can y.note := fun y hy hyc => entry_other r2 r1 i2 i1 hpc.symm hy ((m2 y hy).2.2.trans hyc)
  have huniq : ∀ f ∈ es', ∀ y ∈ es', f.note.nt.call = y.note.nt.call → f = y := fun f hf y hy e => by
    have hp := ent_calls r2
    have hnd : (es'.map fun e => e.note.nt.call).Nodup := List.nodup_iff_pairwise_ne.2 (hp.imp fun {a b} hab e => by
      rw [e, bytesLess_eq] at hab
      exact absurd (of_decide_eq_true hab) (List.lt_irrefl _))
    exact inj_of_nodup (f := fun e : Ent => e.note.nt.call) hnd hf hy e
  refine ⟨fun x hx hxc y hy hyc => ?_, ⟨fun ⟨x, hx, hxc⟩ => ?_, fun ⟨y, hy, hyc⟩ => ?_⟩⟩
  · obtain ⟨f, hf, hfc, hfe⟩ := fw x hx hxc
    rw [← huniq f hf y hy (hfc.trans ((m2 y hy).2.2.trans hyc).symm)]
    exact hfe.symm
  · obtain ⟨f, hf, hfc, _⟩ := fw x hx hxc
    exact ⟨f, hf, (m2 f hf).2.2.symm.trans hfc⟩
  · obtain ⟨f, hf, hfc, _⟩ := bw y hy hyc
    exact ⟨f, hf, (m1 f hf).2.2.symm.trans hfc⟩
end Go.Proofs.YtlamogpdkmbeoaaGreatDoor
end PartVersQ

section PartVersW
/- 'JudgesVersions': the walk. -/
set_option maxRecDepth 100000
namespace Go.Proofs.YtlamogpdkmbeoaaGreatDoor
open Go.RowKit Go.Lib Go.Shelf Go.Maps

/-- What 'EntryOf' hands back: its cells, the error. -/
def EntRes (c : ByteArray) (es : List Ent) (w : World) (cs : Array Value) (er : Int) : Prop :=
  (∃ x ∈ es, x.note.nt.log.call = c ∧ ∃ vj vl, cs = (Ent.enc ⟨x.note, vj, vl⟩).toArray ∧ er = 0 ∧ RowsAt encI 1 w vj x.note.js ∧ RowsAt Ln.enc 11 w vl x.note.ls) ∨ (cs = ent0 ∧ er = 3 ∧ ∀ x ∈ es, x.note.nt.log.call ≠ c)
theorem EntRes.later {c : ByteArray} {es : List Ent} {w w' : World} {cs : Array Value} {er : Int} (h : EntRes c es w cs er) (hb : Below w.heap.size w w') : EntRes c es w' cs er := by
  rcases h with ⟨x, hx, hxc, vj, vl, h1, h2, h3, h4⟩ | h
  · exact .inl ⟨x, hx, hxc, vj, vl, h1, h2, h3.later hb, h4.later hb⟩
  · exact .inr h
theorem EntryOut.res {c : ByteArray} {es : List Ent} {w : World} {e : Ending} (h : EntryOut c es w e) : ∃ cs er, e = .returned (.tuple #[.agg cs, .int .i64 er]) ∧ cs.size = 9 ∧ cs.all (·.oneCell') = true ∧ EntRes c es w cs er := by
  rcases h with ⟨x, hx, hxc, vj, vl, rfl, h3, h4⟩ | ⟨rfl, h⟩
  · obtain ⟨Aj, cj, hvj⟩ := h3.len
    obtain ⟨Al, cl, hvl⟩ := h4.len
    exact ⟨_, _, rfl, rfl, by simp [Value.oneCell', hvj, hvl], .inl ⟨x, hx, hxc, vj, vl, rfl, rfl, h3, h4⟩⟩
  · exact ⟨_, _, rfl, rfl, by simp [Value.oneCell'], .inr ⟨rfl, rfl, h⟩⟩
theorem same_res {c : ByteArray} {es es' : List Ent} {w : World} {cs cs' : Array Value} {er er' : Int} (h : (∀ x ∈ es, x.note.nt.log.call = c → ∀ y ∈ es', y.note.nt.log.call = c → can x.note = can y.note) ∧ ((∃ x ∈ es, x.note.nt.log.call = c) ↔ ∃ y ∈ es', y.note.nt.log.call = c)) (r1 : EntRes c es w cs er) (r2 : EntRes c es' w cs' er') :
    er = er' ∧ Calls Tryz.prog 29 #[.agg cs, .agg cs'] w fun e w' => e = .returned (.bool true) ∧ Below w.heap.size w w' := by
  rcases r1 with ⟨x, hx, hxc, vj, vl, rfl, rfl, h3, h4⟩ | ⟨rfl, rfl, hno⟩
  · rcases r2 with ⟨y, hy, hyc, vj', vl', rfl, rfl, k3, k4⟩ | ⟨_, _, hno⟩
    · exact ⟨rfl, SameEntry_true ⟨x.note, vj, vl⟩ ⟨y.note, vj', vl'⟩ w (h.1 x hx hxc y hy hyc) h3 h4 k3 k4⟩
    · obtain ⟨y, hy, hyc⟩ := h.2.1 ⟨x, hx, hxc⟩
      exact absurd hyc (hno y hy)
  · rcases r2 with ⟨y, hy, hyc, _⟩ | ⟨rfl, rfl, _⟩
    · obtain ⟨x, hx, hxc⟩ := h.2.2 ⟨y, hy, hyc⟩
      exact absurd hxc (hno x hx)
    · exact ⟨rfl, sameEntry_raw ⟨#[]⟩ 0 0 0 (.slice none 0 0) (.slice none 0 0) (.slice none 0 0) (.slice none 0 0) 0 0 0 [] [] w (RowsAt.nil _ _) (RowsAt.nil _ _) (RowsAt.nil _ _) (RowsAt.nil _ _)⟩
theorem FoldRel.mem2 {q : Int} {xs : List Note} {w : World} {rv : Value} {L : Led} {ds : List Note} {ev u1 u2 u3 pvv u4 pub : Value} {es : List Ent} {x1 : List MarkK} {x2 x3 : List DuoK} {ps : List Pend} {x4 : List NameK} (h : FoldRel q xs w rv L ds ev u1 u2 u3 pvv u4 pub es x1 x2 x3 ps x4) :
    RegMem w ev u1 u2 u3 pvv pub u4 es x1 x2 x3 (ps.map toRL) L.published x4 := by
  obtain ⟨b, ho⟩ := h.out
  exact ⟨rows_of_owns 9 (fun _ => rfl) ho.ents.row, fun x hx => ⟨rows_of_owns 1 (fun _ => rfl) (ho.ents.jumps x hx), rows_of_owns 11 (fun _ => rfl) (ho.ents.lines x hx)⟩, ho.struck, ho.force, ho.forbid, rulsAt_of ho.pend ho.each, ho.published, ho.conflicts⟩
set_option maxHeartbeats 16000000 in
theorem JVersions_any (o : Lay) (v1 v2 : Value) (xa xb : List Note) (c : ByteArray) (w : World) (h1 : NotesAt w v1 xa) (h2 : NotesAt w v2 xb) (hE : Env w) :
    Calls Tryz.prog 10 #[o.val, v1, v2, .string c] w fun e w' => e = .returned (.bool true) ∧ Below w.heap.size w w' := by
  have UR := Tryz.underlying32
  have UE := Tryz.underlying75
  have HAWK : Hid (∀ W, Below w.heap.size w W → Calls Tryz.prog 11 #[] W fun e w' => e = .returned (.bool true) ∧ Below W.heap.size W w') := Lib.hid fun W hb => awake_any W (hE.below hE.big hb)
  have hm1 := h1.row.max
  have hm2 := h2.row.max
  unfold maxLen at hm1 hm2
  have H1 := Lib.hid h1
  have H2 := Lib.hid h2
  have HE := Lib.hid hE
  obtain ⟨A1, c1, rfl⟩ := h1.row.len
  obtain ⟨A2, c2, rfl⟩ := h2.row.len
  obtain ⟨n1, hn1⟩ : ∃ n, n = xa.length := ⟨_, rfl⟩
  obtain ⟨n2, hn2⟩ : ∃ n, n = xb.length := ⟨_, rfl⟩
  rw [← hn1] at hm1 ⊢
  rw [← hn2] at hm2 ⊢
  rw [← hn1] at H1
  rw [← hn2] at H2
  have HN := Lib.hid (And.intro hn1 hn2)
  obtain ⟨lo, hlo⟩ : ∃ lo, lo = o := ⟨_, rfl⟩
  obtain ⟨o1, o2, o3⟩ := o
  obtain ⟨W, hW⟩ : ∃ W, w.alloc (.cells #[.bool o1, .bool o2, .bool o3] 23) = W := ⟨_, rfl⟩
  have hb : Below w.heap.size w W := by rw [← hW]; exact below_alloc0 _
  have hO : Blk W w.heap.size 23 #[.bool o1, .bool o2, .bool o3] := by rw [← hW]; exact Blk.new w _ _
  have HLO : Hid (∀ W', Below w.heap.size w W' → ∀ (v v' : Value) (ys zs : List Note), NotesAt W' v ys → NotesAt W' v' zs → Calls Tryz.prog 21 #[.agg #[.bool o1, .bool o2, .bool o3], v, v'] W' fun e w' => ∃ A c er us, e = .returned (.tuple #[.slice A us.length c, .int .i64 er]) ∧ MP lo ys zs er us ∧ NotesAt w' (.slice A us.length c) us ∧ Below W'.heap.size W' w') :=
    Lib.hid fun W' hb' v v' ys zs k1 k2 => by have := Merge_mp lo v v' ys zs W' k1 k2 (HE.out.below HE.out.big hb'); rw [hlo] at this ⊢; exact this
  have HFO : Hid (∀ W', Below w.heap.size w W' → ∀ (v : Value) (ys : List Note), NotesAt W' v ys → Calls Tryz.prog 12 #[.agg #[.bool o1, .bool o2, .bool o3], .int .i64 1, v] W' fun e w' => ∃ rv er, e = .returned (.tuple #[rv, .int .i64 er]) ∧ FoldOut lo 1 ys w' rv er ∧ Below W'.heap.size W' w') :=
    Lib.hid fun W' hb' v ys k1 => by have := Fold_any lo 1 v ys W' k1 (HE.out.below HE.out.big hb'); rw [hlo] at this ⊢; exact this
  have HHI : Hid (∀ W', Below w.heap.size w W' → ∀ (d : ByteArray), Calls Tryz.prog 26 #[.agg #[.bool o1, .bool o2, .bool o3], .slice A1 n1 c1, .string d] W' fun e w' => ∃ u er, e = .returned (.tuple #[u, .int .i64 er]) ∧ HistOut lo d xa w' u er ∧ Below W'.heap.size W' w') :=
    Lib.hid fun W' hb' d => by have := History_any lo (.slice A1 n1 c1) d xa W' (H1.out.later hb') (HE.out.below HE.out.big hb'); rw [hlo] at this ⊢; exact this
  have HO := Lib.hid hO
  have HB := Lib.hid hb
  have hs0 : w.heap.size ≤ W.heap.size := hb.size
  have K0 : Hid (∀ W', Below W.heap.size W W' → W'.cell? ⟨w.heap.size, 0, none⟩ = some (.bool o1) ∧ W'.cell? ⟨w.heap.size, 1, none⟩ = some (.bool o2) ∧ W'.cell? ⟨w.heap.size, 2, none⟩ = some (.bool o3)) := Lib.hid fun W' hb' => ⟨(HO.out.later hb').cell 0, (HO.out.later hb').cell 1, (HO.out.later hb').cell 2⟩
  obtain ⟨l1, l2, l3⟩ := K0.out W (Below.refl _ W)
  dsimp only [Lay.val] at ⊢
  clear h1 h2 hE hn1 hn2 hlo hb hO
  by_cases q1 : n1 ≤ 150
  rotate_left
  · have t1 : (150 : Int) < n1 := by omega
    have ha := HAWK.out W HB.out
    go_enter Tryz.func10, Tryz.ntmps10
    go_wp2_with (go_at_call 11; (with_reducible refine ha.mono ?_); rintro e w9 ⟨rfl, hb9⟩)
    go_ret
    exact ⟨rfl, HB.out.trans (hb9.mono hs0)⟩
  have t1 : ¬ (150 : Int) < n1 := by omega
  by_cases q2 : n2 ≤ 150
  rotate_left
  · have t2 : (150 : Int) < n2 := by omega
    have ha := HAWK.out W HB.out
    go_enter Tryz.func10, Tryz.ntmps10
    go_wp2_with (go_at_call 11; (with_reducible refine ha.mono ?_); rintro e w9 ⟨rfl, hb9⟩)
    go_ret
    exact ⟨rfl, HB.out.trans (hb9.mono hs0)⟩
  have t2 : ¬ (150 : Int) < n2 := by omega
  have f1 := HFO.out W HB.out _ xa (H1.out.later HB.out)
  go_enter Tryz.func10, Tryz.ntmps10
  go_upto_region 4 with (first
    | (go_at_call 12; (with_reducible refine f1.mono ?_); rintro e w1 ⟨rv, er, rfl, hout, hb1⟩; obtain ⟨cs, rfl, hc8, hone⟩ := hout.shape; have HC8 := Lib.hid hc8; have HONE := Lib.hid hone; have HOUT := Lib.hid hout; clear hc8 hone hout)
    | (refine wpList_store_blk rfl 32 _ _ rfl w1.heap.size 32 zeroReg cs rfl rfl (Blk.new w1 _ _) (by rw [HC8.out]; rfl) (by rw [HC8.out]; exact sizeReg) HONE.out ?_; intro w2 hZ2 hg2 hs2))
  have hb12 : Below w1.heap.size w1 w2 := below_reg hg2
  have HB2 := Lib.hid (hb1.trans (hb12.mono hb1.size))
  have HW2 := Lib.hid (HB.out.trans (HB2.out.mono hs0))
  have HOUT2 := Lib.hid (HOUT.out.later hb12)
  have s2 : w.heap.size ≤ w2.heap.size := HW2.out.size
  have sW2 : W.heap.size ≤ w2.heap.size := HB2.out.size
  obtain ⟨p9, hp9⟩ : ∃ p, w1.heap.size = p := ⟨_, rfl⟩
  have lp9 := hZ2.lt
  rw [hp9] at hZ2 lp9 ⊢
  have HZ2 := Lib.hid hZ2
  have ha := HAWK.out w2 HW2.out
  clear f1 hb1 hb12 hg2 hs2 hZ2 hW hp9 HOUT l1 l2 l3
  rcases HOUT2.out with ⟨hgd, rfl, L, ds, ev, u1, u2, u3, pvv, u4, pub, es, x1, x2, x3, ps, x4, hrel⟩ | ⟨_, rfl, _⟩
  rotate_left
  · go_wp2_with (go_at_call 11; (with_reducible refine ha.mono ?_); rintro e w9 ⟨rfl, hb9⟩)
    go_ret
    exact ⟨rfl, HW2.out.trans (hb9.mono s2)⟩
  have hsa : setB lo xa = true := by simp only [Bool.and_eq_true] at hgd; exact hgd.1
  have HSA := Lib.hid hsa
  have hval := hrel.val
  injection hval with hval
  have HREL := Lib.hid hrel
  have HMEM := Lib.hid hrel.mem2
  subst hval
  obtain ⟨A, ac, rfl⟩ := hrel.mem2.ents.len
  obtain ⟨n, hn⟩ : ∃ n, n = es.length := ⟨_, rfl⟩
  rw [← hn] at HREL HMEM HZ2
  have HNE := Lib.hid hn
  have hnm : n ≤ 9223372036854775807 := by have := hrel.mem2.ents.max; unfold maxLen at this; omega
  have HENT := Lib.hid (HREL.out.ents HSA.out)
  clear ha hgd hsa hrel HOUT2 HC8 HONE hn
  go_upto_region 7 with fail
  go_loopw [11] (fun s11 wr => ∃ i : Nat, i ≤ n ∧ s11 = .int .i64 i ∧ Hid (Below w2.heap.size w2 wr)) (fun s11 _ => n - (intOf s11).toNat)
  case atStart => exact ⟨0, Nat.zero_le _, rfl, Lib.hid (Below.refl _ _)⟩
  case round =>
    obtain ⟨i, hi, rfl, hb⟩ := hrel
    have z0 : wr.cell? ⟨p9, 0, none⟩ = some (.slice A n ac) := (HZ2.out.later hb.out).cell 0
    have hsr : w2.heap.size ≤ wr.heap.size := hb.out.size
    have lp9r : p9 < wr.heap.size := by omega
    have HWR := Lib.hid (HW2.out.trans (hb.out.mono s2))
    have HBR := Lib.hid (HB2.out.trans (hb.out.mono sW2))
    by_cases hlt : i < n
    · have hk1 : i < es.length := by have := HNE.out; omega
      obtain ⟨x, hx⟩ : ∃ x, x = es[i] := ⟨_, rfl⟩
      have hxm : x ∈ es := by rw [hx]; exact List.getElem_mem hk1
      have HXM := Lib.hid hxm
      have HXK : Hid (es[i]? = some x) := Lib.hid (by rw [hx]; exact List.getElem?_eq_getElem hk1)
      have HONEX : Hid (x.enc.toArray.all (·.oneCell') = true) := Lib.hid (by
        obtain ⟨Aj, cj, hvj⟩ := (HMEM.out.each x hxm).1.len
        obtain ⟨Al, cl, hvl⟩ := (HMEM.out.each x hxm).2.len
        simp [Value.oneCell', hvj, hvl])
      rcases HMEM.out.ents.place with ⟨e0, _⟩ | ⟨g1, o1', c1', e1, _, _, hg1, hcell1⟩
      · rw [e0] at hk1; simp at hk1
      injection e1 with e1 e11 e12
      clear e11 e12
      subst e1
      have HRNG : Hid (wr.rangeAt g1 (o1' + i * 9) x.enc) := Lib.hid (fun q u hu => (hb.out.cell (p := ⟨g1, o1' + i * 9 + q, none⟩) hg1).trans (hcell1 i hk1 q u (by rw [← hx]; exact hu)))
      have HPREV : Hid (∀ (W' : World) (y : Ent), Below w2.heap.size w2 W' → ∀ j, i = j + 1 → es[j]? = some y → W'.cell? ⟨g1, o1' + j * 9, none⟩ = some (.string y.note.nt.log.call)) := Lib.hid fun W' y hW' j hij hy => by
        obtain ⟨hj, e⟩ := List.getElem?_eq_some_iff.1 hy
        have := (hW'.cell (p := ⟨g1, o1' + j * 9 + 0, none⟩) hg1).trans (hcell1 j hj 0 (.string y.note.nt.log.call) (by rw [e]; rfl))
        exact this
      obtain ⟨lc, hlc⟩ : ∃ lc, lc = x.note.nt.log.call := ⟨_, rfl⟩
      have HLC := Lib.hid hlc
      clear hx hxm hcell1 hk1 hlc
      have tok : True := trivial
      go_upto_region 10 with (first
        | (have _t := tok; refine wpList_load_mid rfl 75 _ rfl g1 (o1' + i * 9) rfl x.enc _ HRNG.out UE rfl sizeEntry ?_; clear tok)
        | (refine wpList_store_blk rfl 75 _ _ rfl wr.heap.size 75 ent0 x.enc.toArray rfl rfl (Blk.new wr _ _) (by rfl) sizeEntry HONEX.out ?_; intro w4 hX4 hg4 hs4))
      have hb4 : Below wr.heap.size wr w4 := (below_alloc0 _).grown hg4 (by simp) (fun i e => by cases e; exact Nat.le_refl _)
      have HB4 := Lib.hid (hb.out.trans (hb4.mono hsr))
      have z4 : w4.cell? ⟨p9, 0, none⟩ = some (.slice (some ⟨g1, o1', none⟩) n ac) := (HZ2.out.later HB4.out).cell 0
      obtain ⟨p, hp⟩ : ∃ p, wr.heap.size = p := ⟨_, rfl⟩
      have HP : Hid (p9 < p) := Lib.hid (by rw [← hp]; omega)
      rw [hp] at hX4 ⊢
      have HX4 := Lib.hid hX4
      have p0 : w4.cell? ⟨p, 0, none⟩ = some (.string lc) := by rw [HLC.out]; exact hX4.cell 0
      clear hb4 hg4 hs4 hX4 hp HRNG z0
      by_cases hi0 : 0 < i
      rotate_left
      · have hi1 : decide ((0 : Int) < (i : Int)) = false := decide_eq_false (by omega)
        have hi2 : decide (0 < i) = false := decide_eq_false hi0
        refine wp_region_held_drew (S := (fun w' => True)) (by kernel_rfl) ?hS1 (fun hHeld => ?_)
        case hS1 => trivial
        refine tk3 (i := 0) ?_; try simp only [Act.put, zq]
        refine tk3 (i := 1) ?_; try simp only [Act.put, zq]
        refine tk3 (i := 2) ?_; try simp only [Act.put, zq]
        refine tk2 (i := 3) ?_; try simp only [Act.put, zq]
        refine tk2 (i := 4) ?_; try simp only [Act.put, zq]
        refine tk2 (i := 5) ?_; try simp only [Act.put, zq]
        refine tk2 (i := 6) ?_; try simp only [Act.put, zq]
        refine tk2 (i := 7) ?_; try simp only [Act.put, zq]
        refine tk2 (i := 8) ?_; try simp only [Act.put, zq]
        refine tk2 (i := 9) ?_; try simp only [Act.put, zq]
        refine tk2 (i := 10) ?_; try simp only [Act.put, zq]
        refine tk2 (i := 11) ?_; try simp only [Act.put, zq]
        refine tk2 (i := 12) ?_; try simp only [Act.put, zq]
        refine tk2 (i := 13) ?_; try simp only [Act.put, zq]
        refine tk2 (i := 14) ?_; try simp only [Act.put, zq]
        refine tk3 (i := 15) ?_; try simp only [Act.put, zq]
        refine wpAnyH_done (by kernel_rfl) ?_ _
        clear hi1 hi2 hHeld
        obtain ⟨w5, hw5⟩ : ∃ w5, w4.drew = w5 := ⟨_, rfl⟩
        have hb5 : Below w2.heap.size w2 w5 := by rw [← hw5]; exact HB4.out.drew
        have hb45 : Below w4.heap.size w4 w5 := by rw [← hw5]; exact (Below.refl _ _).drew
        rw [hw5]
        have HB5 := Lib.hid hb5
        have HX5 := Lib.hid (HX4.out.later hb45)
        have HW5 := Lib.hid (HW2.out.trans (hb5.mono s2))
        have HBW5 := Lib.hid (HB2.out.trans (hb5.mono sW2))
        have p05 : w5.cell? ⟨p, 0, none⟩ = some (.string lc) := by rw [HLC.out]; exact HX5.out.cell 0
        obtain ⟨l1, l2, l3⟩ := K0.out w5 HBW5.out
        have hh := HHI.out w5 HW5.out lc
        have s5 : w2.heap.size ≤ w5.heap.size := HB5.out.size
        clear hw5 hb5 hb45 p0 z4
        go_upto_region 13 with (go_at_call 26; (with_reducible refine hh.mono ?_); rintro e w6 ⟨u, er, rfl, hho, hb6⟩)
        rcases hho with ⟨_, rfl, L2, ds2, hp2, ho2, hst2, hr2, hrow⟩ | ⟨hno, _⟩
        rotate_left
        · rw [HSA.out] at hno; cases hno
        rw [HLC.out] at hrow
        obtain ⟨hgr1, hgr2⟩ := hist_great HREL.out HSA.out hp2 ho2 hst2 hr2 HXM.out
        obtain ⟨ns, hns⟩ : ∃ ns, ns = (L2.history.filter (about x.note.nt.log.call)).map nm := ⟨_, rfl⟩
        rw [← hns] at hrow hgr1 hgr2
        obtain ⟨Au, cu, rfl⟩ := hrow.len
        obtain ⟨nu, hnu⟩ : ∃ k, k = ns.length := ⟨_, rfl⟩
        have hB6 : Below w2.heap.size w2 w6 := HB5.out.trans (hb6.mono s5)
        have HB6 := Lib.hid hB6
        have HX6 := Lib.hid (HX5.out.later hb6)
        have hW6 := HW2.out.trans (hB6.mono s2)
        have hgt := greatest_true (.slice A1 n1 c1) (.slice Au ns.length cu) xa ns x w6 (H1.out.later hW6) hrow ((HMEM.out.each x HXM.out).1.later hB6) ((HMEM.out.each x HXM.out).2.later hB6) (HENT.out.mem x HXM.out).1 (setB_nodup HSA.out) hgr1 hgr2
        rw [← hnu] at hgt ⊢
        have s6 : w2.heap.size ≤ w6.heap.size := hB6.size
        clear hh hrow hgr1 hgr2 hns hnu hp2 ho2 hst2 hr2 hb6 hB6 hW6 p05 l1 l2 l3
        have tok : True := trivial
        go_wp2_with (first
          | (have _t := tok; refine wpList_load_blk_on (by kernel_rfl) 75 _ rfl p 75 _ _ rfl HX6.out UE rfl sizeEntry ?_; clear tok)
          | (go_at_call 27; (with_reducible refine hgt.mono ?_); rintro e w7 ⟨rfl, hb7⟩))
        exact ⟨⟨i + 1, by omega, by simp, Lib.hid (HB6.out.trans (hb7.mono s6))⟩, by simp [intOf]; omega⟩
      · obtain ⟨i, rfl⟩ : ∃ j, i = j + 1 := ⟨i - 1, by omega⟩
        obtain ⟨y, hy⟩ : ∃ y, es[i]? = some y := ⟨_, List.getElem?_eq_getElem (by have := HNE.out; omega)⟩
        have pc := HPREV.out w4 y HB4.out i rfl hy
        have hless : Op.bytesLess y.note.nt.log.call.toList lc.toList = true := by
          obtain ⟨hj, ey⟩ := List.getElem?_eq_some_iff.1 hy
          obtain ⟨hk, ex⟩ := List.getElem?_eq_some_iff.1 HXK.out
          have hpw := List.pairwise_iff_getElem.1 (ent_calls HENT.out.rel) i (i + 1) (by rw [List.length_map]; exact hj) (by rw [List.length_map]; exact hk) (Nat.lt_succ_self _)
          rw [List.getElem_map, List.getElem_map, ey, ex, (HENT.out.mem y (by rw [← ey]; exact List.getElem_mem hj)).2.2, (HENT.out.mem x HXM.out).2.2, ← HLC.out] at hpw
          exact hpw
        obtain ⟨pv, hpv⟩ : ∃ pv, pv = y.note.nt.log.call := ⟨_, rfl⟩
        rw [← hpv] at pc hless
        have hl2 : (lc.toList == pv.toList) = false := by
          cases e : (lc.toList == pv.toList)
          · rfl
          · rw [toList_inj e, bytesLess_eq] at hless
            exact absurd (of_decide_eq_true hless) (List.lt_irrefl _)
        have hl1 : Op.bytesLess lc.toList pv.toList = false := by
          rw [bytesLess_eq] at hless ⊢
          exact decide_eq_false fun h => List.lt_irrefl _ (List.lt_trans h (of_decide_eq_true hless))
        clear hy hpv hless
        have hi3 : i < n := by omega
        have hwr : IntKind.i64.wrap (i : Int) = (i : Int) := (IntWalk.i64_left _).trans (IntWalk.wrap64_in _ (by omega))
        refine wp_region_held_drew (S := (fun w' => w'.cell? ⟨p, 0, none⟩ = some (.string lc) ∧ w'.cell? ⟨p9, 0, none⟩ = some (.slice (some ⟨g1, o1', none⟩) n ac) ∧ w'.cell? ⟨g1, o1' + i * 9, none⟩ = some (.string pv))) (by kernel_rfl) ?hS2 (fun hHeld => ?_)
        case hS2 => exact ⟨p0, z4, pc⟩
        refine tk3 (i := 0) ?_; try simp only [Act.put, zq]
        refine tk3 (i := 1) ?_; try simp only [Act.put, zq]
        refine tk3 (i := 2) ?_; try simp only [Act.put, zq]
        refine tk3 (i := 3) ?_; try simp only [Act.put, zq]
        refine tk3 (i := 4) ?_; try simp only [Act.put, zq]
        refine tk3 (i := 5) ?_; try simp only [Act.put, zq]
        refine tk3 (i := 6) ?_; try simp only [Act.put, zq]
        refine tk3 (i := 7) ?_; try simp only [Act.put, zq]
        refine tk3 (i := 8) ?_; try simp only [Act.put, zq]
        refine tk3 (i := 9) ?_; try simp only [Act.put, zq]
        refine tk3 (i := 10) ?_; try simp only [Act.put, zq]
        refine tk3 (i := 11) ?_; try simp only [Act.put, zq]
        refine tk3 (i := 12) ?_; try simp only [Act.put, zq]
        refine tk3 (i := 13) ?_; try simp only [Act.put, zq]
        refine tk3 (i := 14) ?_; try simp only [Act.put, zq]
        refine tk3 (i := 15) ?_; try simp only [Act.put, zq]
        refine wpAnyH_done (by kernel_rfl) ?_ _
        clear hHeld pc hl1 hl2 hwr hi3
        obtain ⟨w5, hw5⟩ : ∃ w5, w4.drew = w5 := ⟨_, rfl⟩
        have hb5 : Below w2.heap.size w2 w5 := by rw [← hw5]; exact HB4.out.drew
        have hb45 : Below w4.heap.size w4 w5 := by rw [← hw5]; exact (Below.refl _ _).drew
        rw [hw5]
        have HB5 := Lib.hid hb5
        have HX5 := Lib.hid (HX4.out.later hb45)
        have HW5 := Lib.hid (HW2.out.trans (hb5.mono s2))
        have HBW5 := Lib.hid (HB2.out.trans (hb5.mono sW2))
        have p05 : w5.cell? ⟨p, 0, none⟩ = some (.string lc) := by rw [HLC.out]; exact HX5.out.cell 0
        obtain ⟨l1, l2, l3⟩ := K0.out w5 HBW5.out
        have hh := HHI.out w5 HW5.out lc
        have s5 : w2.heap.size ≤ w5.heap.size := HB5.out.size
        clear hw5 hb5 hb45 p0 z4
        go_upto_region 13 with (go_at_call 26; (with_reducible refine hh.mono ?_); rintro e w6 ⟨u, er, rfl, hho, hb6⟩)
        rcases hho with ⟨_, rfl, L2, ds2, hp2, ho2, hst2, hr2, hrow⟩ | ⟨hno, _⟩
        rotate_left
        · rw [HSA.out] at hno; cases hno
        rw [HLC.out] at hrow
        obtain ⟨hgr1, hgr2⟩ := hist_great HREL.out HSA.out hp2 ho2 hst2 hr2 HXM.out
        obtain ⟨ns, hns⟩ : ∃ ns, ns = (L2.history.filter (about x.note.nt.log.call)).map nm := ⟨_, rfl⟩
        rw [← hns] at hrow hgr1 hgr2
        obtain ⟨Au, cu, rfl⟩ := hrow.len
        obtain ⟨nu, hnu⟩ : ∃ k, k = ns.length := ⟨_, rfl⟩
        have hB6 : Below w2.heap.size w2 w6 := HB5.out.trans (hb6.mono s5)
        have HB6 := Lib.hid hB6
        have HX6 := Lib.hid (HX5.out.later hb6)
        have hW6 := HW2.out.trans (hB6.mono s2)
        have hgt := greatest_true (.slice A1 n1 c1) (.slice Au ns.length cu) xa ns x w6 (H1.out.later hW6) hrow ((HMEM.out.each x HXM.out).1.later hB6) ((HMEM.out.each x HXM.out).2.later hB6) (HENT.out.mem x HXM.out).1 (setB_nodup HSA.out) hgr1 hgr2
        rw [← hnu] at hgt ⊢
        have s6 : w2.heap.size ≤ w6.heap.size := hB6.size
        clear hh hrow hgr1 hgr2 hns hnu hp2 ho2 hst2 hr2 hb6 hB6 hW6 p05 l1 l2 l3
        have tok : True := trivial
        go_wp2_with (first
          | (have _t := tok; refine wpList_load_blk_on (by kernel_rfl) 75 _ rfl p 75 _ _ rfl HX6.out UE rfl sizeEntry ?_; clear tok)
          | (go_at_call 27; (with_reducible refine hgt.mono ?_); rintro e w7 ⟨rfl, hb7⟩))
        exact ⟨⟨i + 1 + 1, by omega, by simp, Lib.hid (HB6.out.trans (hb7.mono s6))⟩, by simp [intOf]; omega⟩
    · go_upto_region 16 with fail
      clear z0
      go_loopw [15] (fun s15 wr => ∃ k : Nat, k ≤ n2 ∧ s15 = .int .i64 k ∧ Hid (∀ (i : Nat) (x : Note), i < k → xb[i]? = some x → ¬ x.nt.call = c) ∧ Hid (Below w2.heap.size w2 wr)) (fun s15 _ => n2 - (intOf s15).toNat)
      case atStart => exact ⟨0, Nat.zero_le _, rfl, Lib.hid (fun i _ h => absurd h (Nat.not_lt_zero _)), hb⟩
      case round =>
        obtain ⟨k, hk, rfl, hcl, hb3⟩ := hrel
        have HW3 := Lib.hid (HW2.out.trans (hb3.out.mono s2))
        have HB3 := Lib.hid (HB2.out.trans (hb3.out.mono sW2))
        have s3 : w.heap.size ≤ wr.heap.size := HW3.out.size
        have s23 : w2.heap.size ≤ wr.heap.size := hb3.out.size
        by_cases hlt2 : k < n2
        · have hk1 : k < xb.length := by have := HN.out.2; omega
          obtain ⟨x, hx⟩ : ∃ x, x = xb[k] := ⟨_, rfl⟩
          have HXK : Hid (xb[k]? = some x) := Lib.hid (by rw [hx]; exact List.getElem?_eq_getElem hk1)
          rcases H2.out.row.place with ⟨e0, _⟩ | ⟨g2, o2', c2', e2, _, _, hg2, hcell2⟩
          · rw [e0] at hk1; simp at hk1
          injection e2 with e2 e21 e22
          clear e21 e22
          subst e2
          have c4 : wr.cell? ⟨g2, o2' + k * 20 + 4, none⟩ = some (.string x.nt.call) := (HW3.out.cell (p := ⟨g2, o2' + k * 20 + 4, none⟩) hg2).trans (hcell2 k hk1 4 _ (by rw [← hx]; rfl))
          obtain ⟨cl, hcl'⟩ : ∃ cl, cl = x.nt.call := ⟨_, rfl⟩
          rw [← hcl'] at c4
          have HCK := Lib.hid hcl'
          clear hx hcell2 hk1 hcl'
          by_cases e : cl = c
          · subst e
            have ha := HAWK.out wr HW3.out
            go_wp2_with (go_at_call 11; (with_reducible refine ha.mono ?_); rintro e w9 ⟨rfl, hb9⟩)
            go_ret
            exact ⟨rfl, HW3.out.trans (hb9.mono s3)⟩
          · have hne := str_ne' e
            have HST : Hid (∀ (i : Nat) (x : Note), i < k + 1 → xb[i]? = some x → ¬ x.nt.call = c) := Lib.hid (fun i x' hi e2 => by
              by_cases h : i < k
              · exact hcl.out i x' h e2
              · obtain rfl : i = k := by omega
                have a1 := HXK.out.symm.trans e2
                injection a1 with a1
                rw [← a1, ← HCK.out]
                exact e)
            clear e
            go_wp2
            exact ⟨⟨k + 1, by omega, by simp, HST, hb3⟩, by simp [intOf]; omega⟩
        · have HCLK : Hid (∀ x ∈ xb, ¬ x.nt.call = c) := Lib.hid fun x hx => by
            obtain ⟨i, hi⟩ := List.getElem?_of_mem hx
            exact hcl.out i x (by have := (List.getElem?_eq_some_iff.1 hi).1; have := HN.out.2; omega) hi
          have m1 := HLO.out wr HW3.out _ _ xa xb (H1.out.later HW3.out) (H2.out.later HW3.out)
          obtain ⟨l1, l2, l3⟩ := K0.out wr HB3.out
          go_upto_region 21 with (go_at_call 21; (with_reducible refine m1.mono ?_); rintro e w3 ⟨Az, cz, ez, zz, rfl, mz, az, hbz⟩)
          have HM := Lib.hid mz
          have HMA := Lib.hid az
          have HB23 := Lib.hid (hb3.out.trans (hbz.mono s23))
          have HBz := Lib.hid (HB2.out.trans (HB23.out.mono sW2))
          have HWz := Lib.hid (HW2.out.trans (HB23.out.mono s2))
          have sz : w.heap.size ≤ w3.heap.size := HWz.out.size
          have sz2 : w2.heap.size ≤ w3.heap.size := HB23.out.size
          obtain ⟨nz, hnz⟩ : ∃ n, n = zz.length := ⟨_, rfl⟩
          rw [← hnz] at HMA ⊢
          have ha := HAWK.out w3 HWz.out
          clear m1 mz az hbz hnz l1 l2 l3
          by_cases hez : ez = 0
          rotate_left
          · go_wp2_with (go_at_call 11; (with_reducible refine ha.mono ?_); rintro e w9 ⟨rfl, hb9⟩)
            go_ret
            exact ⟨rfl, HWz.out.trans (hb9.mono sz)⟩
          subst hez
          clear ha
          have f2 := HFO.out w3 HWz.out _ zz HMA.out
          obtain ⟨l1, l2, l3⟩ := K0.out w3 HBz.out
          go_upto_region 24 with (first
            | (go_at_call 12; (with_reducible refine f2.mono ?_); rintro e w4 ⟨rv, er, rfl, hout, hb4⟩; obtain ⟨cs, rfl, hc8, hone⟩ := hout.shape; have HC8 := Lib.hid hc8; have HONE := Lib.hid hone; have HOUT := Lib.hid hout; clear hc8 hone hout)
            | (refine wpList_store_blk rfl 32 _ _ rfl w4.heap.size 32 zeroReg cs rfl rfl (Blk.new w4 _ _) (by rw [HC8.out]; rfl) (by rw [HC8.out]; exact sizeReg) HONE.out ?_; intro w5 hZ5 hg5 hs5))
          have hb45 : Below w4.heap.size w4 w5 := below_reg hg5
          have HB25 := Lib.hid (HB23.out.trans ((hb4.trans (hb45.mono hb4.size)).mono sz2))
          have HW5 := Lib.hid (HW2.out.trans (HB25.out.mono s2))
          obtain ⟨rfl, L', ds', ev', u1', u2', u3', pvv', u4', pub', es', x1', x2', x3', ps', x4', hrel'⟩ := (HOUT.out.later hb45).good (by rw [HM.out.un.2.2.1]; rfl)
          have hval' := hrel'.val
          injection hval' with hval'
          subst hval'
          have HREL' := Lib.hid hrel'
          have HMEM' := Lib.hid hrel'.mem2
          have HENT' := Lib.hid (hrel'.ents HM.out.un.2.2.1)
          have HSAME := Lib.hid (ents_same HREL.out hrel' HM.out HCLK.out)
          obtain ⟨p18, hp18⟩ : ∃ p, w4.heap.size = p := ⟨_, rfl⟩
          rw [hp18] at hZ5 ⊢
          have HZ5 := Lib.hid hZ5
          have HZ95 := Lib.hid (HZ2.out.later HB25.out)
          have s25 : w2.heap.size ≤ w5.heap.size := HB25.out.size
          have e1 := EntryOf_any c _ _ _ _ _ _ _ L.hash es x1 x2 x3 (ps.map toRL) L.published x4 w5 (HMEM.out.later HB25.out) (fun x hx => good_small (HENT.out.mem x hx).2.1)
          clear f2 hb45 hb4 hg5 hs5 hZ5 HOUT HC8 HONE hp18 hrel' l1 l2 l3
          have tok : True := trivial
          go_upto_region 25 with (first
            | (have _t := tok; refine wpList_load_blk rfl 32 _ rfl p9 32 _ _ rfl HZ95.out UR rfl sizeReg ?_; clear tok)
            | (go_at_call 28; (with_reducible refine e1.mono ?_); rintro e w6 ⟨hout, hb6⟩; obtain ⟨cs1, er1, rfl, h9, hone1, hres1⟩ := hout.res; have H9 := Lib.hid h9; have HONE1 := Lib.hid hone1; have HRES1 := Lib.hid hres1; clear hout h9 hone1 hres1)
            | (refine wpList_store_blk rfl 75 _ _ rfl w6.heap.size 75 ent0 cs1 rfl rfl (Blk.new w6 _ _) (by rw [H9.out]; rfl) (by rw [H9.out]; exact sizeEntry) HONE1.out ?_; intro w7 hZ7 hg7 hs7))
          have hb67 : Below w6.heap.size w6 w7 := (below_alloc0 _).grown hg7 (by simp) (fun j e => by cases e; exact Nat.le_refl _)
          have hb57 := hb6.trans (hb67.mono hb6.size)
          have HRES7 := Lib.hid (HRES1.out.later hb67)
          have HB27 := Lib.hid (HB25.out.trans (hb57.mono s25))
          have HZ57 := Lib.hid (HZ5.out.later hb57)
          obtain ⟨p20, hp20⟩ : ∃ p, w6.heap.size = p := ⟨_, rfl⟩
          rw [hp20] at hZ7 ⊢
          have HZ7 := Lib.hid hZ7
          have s27 : w2.heap.size ≤ w7.heap.size := HB27.out.size
          have e2 := EntryOf_any c _ _ _ _ _ _ _ L'.hash es' x1' x2' x3' (ps'.map toRL) L'.published x4' w7 (HMEM'.out.later hb57) (fun x hx => good_small (HENT'.out.mem x hx).2.1)
          clear e1 hb67 hb57 hb6 hg7 hs7 hZ7 HRES1 hp20
          have tok : True := trivial
          go_upto_region 26 with (first
            | (have _t := tok; refine wpList_load_blk rfl 32 _ rfl p18 32 _ _ rfl HZ57.out UR rfl sizeReg ?_; clear tok)
            | (go_at_call 28; (with_reducible refine e2.mono ?_); rintro e w8 ⟨hout, hb8⟩; obtain ⟨cs2, er2, rfl, h9, hone2, hres2⟩ := hout.res; have H92 := Lib.hid h9; have HONE2 := Lib.hid hone2; have HRES2 := Lib.hid hres2; clear hout h9 hone2 hres2)
            | (refine wpList_store_blk rfl 75 _ _ rfl w8.heap.size 75 ent0 cs2 rfl rfl (Blk.new w8 _ _) (by rw [H92.out]; rfl) (by rw [H92.out]; exact sizeEntry) HONE2.out ?_; intro wa hZa hga hsa'))
          have hb8a : Below w8.heap.size w8 wa := (below_alloc0 _).grown hga (by simp) (fun j e => by cases e; exact Nat.le_refl _)
          have hb7a := hb8.trans (hb8a.mono hb8.size)
          have HBA := Lib.hid (HB27.out.trans (hb7a.mono s27))
          have HWA := Lib.hid (HW2.out.trans (HBA.out.mono s2))
          have sA : w.heap.size ≤ wa.heap.size := HWA.out.size
          obtain ⟨heq, hsr⟩ := same_res HSAME.out (HRES7.out.later hb7a) (HRES2.out.later hb8a)
          subst heq
          have HZ7a := Lib.hid (HZ7.out.later hb7a)
          obtain ⟨p22, hp22⟩ : ∃ p, w8.heap.size = p := ⟨_, rfl⟩
          rw [hp22] at hZa ⊢
          have HZa := Lib.hid hZa
          have hi1 : (Tryz.prog.info? 75).map (·.size) = some cs1.size := by rw [H9.out]; exact sizeEntry
          have hi2 : (Tryz.prog.info? 75).map (·.size) = some cs2.size := by rw [H92.out]; exact sizeEntry
          clear e2 hb8 hb8a hb7a hga hsa' hZa hp22
          have tok1 : True := trivial
          have tok2 : True := trivial
          go_wp2_with (first
            | (have _t := tok1; refine wpList_load_blk_on (by kernel_rfl) 75 _ rfl p20 75 _ _ rfl HZ7a.out UE rfl hi1 ?_; clear tok1)
            | (have _t := tok2; refine wpList_load_blk_on (by kernel_rfl) 75 _ rfl p22 75 _ _ rfl HZa.out UE rfl hi2 ?_; clear tok2)
            | (go_at_call 29; (with_reducible refine hsr.mono ?_); rintro e wb ⟨rfl, hbb⟩; have hWB := HWA.out.trans (hbb.mono sA); have ha := HAWK.out wb hWB)
            | (go_at_call 11; (with_reducible refine ha.mono ?_); rintro e w9 ⟨rfl, hb9⟩))
          go_ret
          exact ⟨rfl, hWB.trans (hb9.mono hWB.size)⟩

end Go.Proofs.YtlamogpdkmbeoaaGreatDoor
end PartVersW
