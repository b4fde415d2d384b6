/- The texts RegP, KnoP in one. -/
import Derived.Test.YtlamogpdkmbeoaaGreatDoorZbLedP
import Derived.Test.YtlamogpdkmbeoaaGreatDoorZbQuo
import Derived.Test.YtlamogpdkmbeoaaGreatDoorZbFold
import Derived.Test.YtlamogpdkmbeoaaGreatDoorZbMerK
set_option linter.unusedVariables false
set_option linter.unusedSimpArgs false
section PartRegP
/- Registers of notes of the same content are the same. -/
set_option maxRecDepth 100000
namespace Go.Proofs.YtlamogpdkmbeoaaGreatDoor
open Go.RowKit Go.Lib Go.Shelf Go.Maps

theorem sorted_unique {α : Type} {c : α → α → Int} (h : IsCmp c) {a b : List α} (p : a.Perm b) (o1 : a.Pairwise (fun x y => c x y ≤ 0)) (o2 : b.Pairwise (fun x y => c x y ≤ 0)) : a = b := by
  refine List.Perm.eq_of_pairwise (le := fun x y => c x y ≤ 0) (fun x y _ _ l1 l2 => h.eq _ _ ?_) o1 o2 p
  have h1 := h.anti x y
  have h2 := h.anti y x
  omega
theorem perm_of_mem {α : Type} [DecidableEq α] : ∀ {a b : List α}, a.Nodup → b.Nodup → (∀ x, x ∈ a ↔ x ∈ b) → a.Perm b
  | [], b, _, _, h => by
    cases b with
    | nil => exact List.Perm.refl _
    | cons y b => exact absurd ((h y).2 List.mem_cons_self) (by simp)
  | x :: a, b, ha, hb, h => by
    rw [List.nodup_cons] at ha
    have hx := (h x).1 List.mem_cons_self
    refine List.Perm.trans ?_ (List.perm_cons_erase hx).symm
    refine List.Perm.cons x (perm_of_mem ha.2 (hb.sublist List.erase_sublist) fun y => ?_)
    rw [hb.mem_erase_iff]
    constructor
    · intro hy
      exact ⟨fun e => ha.1 (by rw [← e]; exact hy), (h y).1 (List.mem_cons_of_mem _ hy)⟩
    · rintro ⟨hne, hy⟩
      exact (List.mem_cons.1 ((h y).2 hy)).resolve_left hne
theorem getM_key {κ ν : Type} [DecidableEq κ] {m : List (κ × ν)} {k : κ} (h : k ∈ m.map (·.1)) : ∃ x, getM m k = some x := by
  induction m with
  | nil => simp at h
  | cons p m ih =>
    by_cases e : p.1 = k
    · exact ⟨p.2, by unfold getM; rw [if_pos e]⟩
    · simp only [List.map_cons, List.mem_cons] at h
      obtain ⟨x, h1⟩ := ih (h.resolve_left (fun h => e h.symm))
      exact ⟨x, by unfold getM; rw [if_neg e]; exact h1⟩
theorem filterMap_same {α β : Type} {f g : α → Option β} : ∀ {l : List α}, (∀ x ∈ l, f x = g x) → l.filterMap f = l.filterMap g
  | [], _ => rfl
  | x :: l, h => by
    rw [List.filterMap_cons, List.filterMap_cons, h x List.mem_cons_self, filterMap_same fun y hy => h y (List.mem_cons_of_mem _ hy)]
/-- The issues' keys are all different and their own. -/
structure IssP (I : List (MarkK × Note)) : Prop where
  keys : (I.map (·.1)).Nodup
  own : ∀ p ∈ I, p.1 = isk p.2
theorem issP_fold : ∀ (ds : List Note) (P : PL), IssP P.issues → IssP (ds.foldl pStep P).issues
  | [], P, h => h
  | x :: ds, P, h => by
    rw [List.foldl_cons]
    refine issP_fold ds _ ?_
    unfold pStep
    split
    · unfold pTake
      by_cases k1 : x.nt.kind = 1
      · rw [if_pos k1]
        refine ⟨putM_nodup _ _ h.keys, fun p hp => ?_⟩
        rcases mem_putM hp with rfl | hp
        · rfl
        · exact h.own p hp
      · rw [if_neg k1]
        split
        · exact h
        · split
          · exact h
          · split <;> exact h
    · exact h

/-! The entries. -/
theorem new_keys {I : List (MarkK × Note)} {N : List (ByteArray × Note)} (h : NewIn I [] N) (c : ByteArray) : c ∈ N.map (·.1) ↔ ∃ p ∈ I, p.2.nt.call = c := by
  constructor
  · intro hc
    obtain ⟨x, hx, rfl⟩ := List.mem_map.1 hc
    obtain ⟨h1, p, hp, e⟩ := h.from_ x hx
    exact ⟨p, hp, by rw [e]; exact h1⟩
  · rintro ⟨p, hp, rfl⟩
    rcases h.best p hp with hn | ⟨n, hn, _⟩
    · cases hn
    · exact List.mem_map_of_mem (f := (·.1)) (getM_mem hn)
theorem can_of_mem {I1 I2 : List (MarkK × Note)} (hI : I1.map canI = I2.map canI) {p : MarkK × Note} (hp : p ∈ I1) : ∃ q ∈ I2, q.1 = p.1 ∧ can q.2 = can p.2 := by
  have : canI p ∈ I2.map canI := by rw [← hI]; exact List.mem_map_of_mem hp
  obtain ⟨q, hq, e⟩ := List.mem_map.1 this
  exact ⟨q, hq, congrArg (·.1) e, congrArg (·.2) e⟩
theorem can_call {x y : Note} (h : can x = can y) : x.nt.call = y.nt.call := by
  have : (can x).nt.call = (can y).nt.call := by rw [h]
  exact this
theorem can_version {x y : Note} (h : can x = can y) : x.nt.version = y.nt.version := by
  have : (can x).nt.version = (can y).nt.version := by rw [h]
  exact this
theorem new_le {I1 I2 : List (MarkK × Note)} {N1 N2 : List (ByteArray × Note)} (h1 : NewIn I1 [] N1) (h2 : NewIn I2 [] N2) (hI : I1.map canI = I2.map canI) {c : ByteArray} {n1 n2 : Note} (e1 : getM N1 c = some n1) (e2 : getM N2 c = some n2) : n1.nt.version ≤ n2.nt.version := by
  obtain ⟨a1, p, hp, e⟩ := h1.from_ _ (getM_mem e1)
  obtain ⟨q, hq, _, e4⟩ := can_of_mem hI hp
  rcases h2.best q hq with hn | ⟨n, hn, hle⟩
  · cases hn
  · have hc : q.2.nt.call = c := (can_call e4).trans (by rw [e]; exact a1)
    rw [hc, e2] at hn
    injection hn with hn
    subst hn
    have := can_version e4
    rw [e] at this
    dsimp only at this
    omega
theorem ent_same {L1 L2 : Led} {es1 es2 : List Ent} (h1 : EntRel L1 es1) (h2 : EntRel L2 es2) (hI : L1.issues.map canI = L2.issues.map canI) (hW : L1.withdrawn = L2.withdrawn) (i1 : IssP L1.issues) (i2 : IssP L2.issues) : es1.map (fun e => can e.note) = es2.map (fun e => can e.note) := by
  obtain ⟨N1, S1, n1, s1, o1, e1⟩ := h1
  obtain ⟨N2, S2, n2, s2, o2, e2⟩ := h2
  have hkeys : (N1.map (·.1)).Perm (N2.map (·.1)) := perm_of_mem n1.keys n2.keys fun c => by
    rw [new_keys n1, new_keys n2]
    constructor
    · rintro ⟨p, hp, rfl⟩
      obtain ⟨q, hq, _, e⟩ := can_of_mem hI hp
      exact ⟨q, hq, can_call e⟩
    · rintro ⟨p, hp, rfl⟩
      obtain ⟨q, hq, _, e⟩ := can_of_mem hI.symm hp
      exact ⟨q, hq, can_call e⟩
  have hS : S1 = S2 := by
    refine List.Perm.eq_of_pairwise (le := fun x y : ByteArray => x.data.toList ≤ y.data.toList) (fun x y _ _ l1 l2 => ?_) (List.pairwise_map.1 o1) (List.pairwise_map.1 o2) ((s1.trans hkeys).trans s2.symm)
    exact ByteArray.ext (Array.toList_inj.1 (List.le_antisymm l1 l2))
  subst hS
  have f1 : es1.map (fun e => can e.note) = (es1.map (·.note)).map can := by rw [List.map_map]; rfl
  have f2 : es2.map (fun e => can e.note) = (es2.map (·.note)).map can := by rw [List.map_map]; rfl
  rw [f1, f2, e1, e2, List.map_filterMap, List.map_filterMap]
  refine filterMap_same fun c hc => ?_
  obtain ⟨m1, g1⟩ := getM_key (s1.mem_iff.1 hc)
  obtain ⟨m2, g2⟩ := getM_key (s2.mem_iff.1 hc)
  have hv : m1.nt.version = m2.nt.version := Int.le_antisymm (new_le n1 n2 hI g1 g2) (new_le n2 n1 hI.symm g2 g1)
  have hcan : can m1 = can m2 := by
    obtain ⟨a1, p1, hp1, b1⟩ := n1.from_ _ (getM_mem g1)
    obtain ⟨a2, p2, hp2, b2⟩ := n2.from_ _ (getM_mem g2)
    obtain ⟨q, hq, k1, k2⟩ := can_of_mem hI hp1
    have hk : q.1 = p2.1 := by
      rw [k1, i1.own _ hp1, i2.own _ hp2, b1, b2]
      exact Prod.ext (a1.trans a2.symm) hv
    have : q = p2 := inj_of_nodup i2.keys hq hp2 hk
    rw [this, b1, b2] at k2
    exact k2.symm
  unfold inForce
  rw [g1, g2]
  dsimp only
  rw [hW, hv]
  split
  · exact congrArg some hcan
  · rfl

/-! The overrulings. -/
abbrev keyC (y : RulB) : Note × List (Int × Bool) := canR (keyR y)
structure SameRS (s t : RS) : Prop where
  struck : s.struck = t.struck
  force : s.force = t.force
  forbid : s.forbid = t.forbid
  bound : s.bound = t.bound
  conflicts : s.conflicts = t.conflicts
  pending : s.pending.map keyC = t.pending.map keyC
theorem regStep_same {q : Int} {s t : RS} {x y : RulB} (h : SameRS s t) (e : keyC x = keyC y) : SameRS (regStep q s x) (regStep q t y) := by
  obtain ⟨h1, h2, h3, h4, h5, h6⟩ := h
  have hj : x.judges = y.judges := congrArg (·.2) e
  have hc : can x.note = can y.note := congrArg (·.1) e
  have hk : x.note.nt.kind = y.note.nt.kind := by have : (can x.note).nt.kind = (can y.note).nt.kind := by rw [hc]
                                                  exact this
  have ha : mkA x.note = mkA y.note := by have : mkA (can x.note) = mkA (can y.note) := by rw [hc]
                                          exact this
  have hb : mkB x.note = mkB y.note := by have : mkB (can x.note) = mkB (can y.note) := by rw [hc]
                                          exact this
  have hn : nm x.note = nm y.note := by have : nm (can x.note) = nm (can y.note) := by rw [hc]
                                        exact this
  have hcl : clashB s x.note = clashB t y.note := by
    unfold clashB duoOf
    rw [hk, ha, hb, h2, h3, h4]
  unfold regStep duoOf
  rw [hj, hk, hcl, ha, hb, hn]
  split
  · exact ⟨h1, h2, h3, h4, h5, by simp only [List.map_append, h6, List.map_cons, List.map_nil, e]⟩
  · split
    · exact ⟨by rw [h1], h2, h3, h4, h5, h6⟩
    · split
      · exact ⟨h1, h2, h3, h4, by rw [h5], h6⟩
      · split
        · exact ⟨h1, h2, by rw [h3], h4, h5, h6⟩
        · exact ⟨h1, by rw [h2], h3, by rw [h4], h5, h6⟩
theorem regFold_same {q : Int} : ∀ (l1 l2 : List RulB) {s t : RS}, l1.map keyC = l2.map keyC → SameRS s t → SameRS (l1.foldl (regStep q) s) (l2.foldl (regStep q) t)
  | [], [], _, _, _, h => h
  | [], y :: l2, _, _, e, _ => by simp at e
  | x :: l1, [], _, _, e, _ => by simp at e
  | x :: l1, y :: l2, _, _, e, h => by
    rw [List.map_cons, List.map_cons] at e
    injection e with e1 e2
    exact regFold_same l1 l2 e2 (regStep_same h e1)
theorem pend_same {ps1 ps2 : List Pend} {l1 l2 : List RulB} (h1 : (ps1.map (·.rul)).Perm l1) (h2 : (ps2.map (·.rul)).Perm l2) (hl : l1.map keyC = l2.map keyC) (hn : (l1.map fun y => nm y.note).Nodup) (o1 : PendOrd ps1) (o2 : PendOrd ps2)
    (j1 : ∀ p ∈ ps1, p.js.Perm (p.rul.judges.map (·.1))) (j2 : ∀ p ∈ ps2, p.js.Perm (p.rul.judges.map (·.1))) : (ps1.map toRL).map RL.dat = (ps2.map toRL).map RL.dat := by
  have hnC : ((l1.map keyC).map fun y => nm y.1).Nodup := by rw [List.map_map]; exact hn
  have k1 : (ps1.map fun p => canR (keyP p)).Perm (l1.map keyC) := by have := h1.map keyC; rwa [List.map_map] at this
  have k2 : (ps2.map fun p => canR (keyP p)).Perm (l1.map keyC) := by rw [hl]; have := h2.map keyC; rwa [List.map_map] at this
  have ke : (ps1.map fun p => canR (keyP p)) = ps2.map fun p => canR (keyP p) := by
    refine List.Perm.eq_of_pairwise (le := fun a b : Note × List (Int × Bool) => cmpNmK (nm a.1) (nm b.1) ≤ 0) (fun a b ha hb l1' l2' => ?_) (List.pairwise_map.2 o1) (List.pairwise_map.2 o2) (k1.trans k2.symm)
    refine inj_of_nodup (f := fun y : Note × List (Int × Bool) => nm y.1) hnC (k1.mem_iff.1 ha) (k2.mem_iff.1 hb) (cmpNm_is.eq _ _ ?_)
    have a1 := cmpNm_is.anti (nm a.1) (nm b.1)
    have a2 := cmpNm_is.anti (nm b.1) (nm a.1)
    omega
  rw [List.map_map, List.map_map]
  have e1 : ps1.map (RL.dat ∘ toRL) = (ps1.map fun p => canR (keyP p)).map datK := by rw [List.map_map]; exact List.map_congr_left fun p hp => dat_key (j1 p hp)
  have e2 : ps2.map (RL.dat ∘ toRL) = (ps2.map fun p => canR (keyP p)).map datK := by rw [List.map_map]; exact List.map_congr_left fun p hp => dat_key (j2 p hp)
  rw [e1, e2, ke]
/-- What two registers have in common. -/
structure SameRegL (L1 L2 : Led) (es es' : List Ent) (x1 x1' : List MarkK) (x2 x2' x3 x3' : List DuoK) (ps ps' : List Pend) (x4 x4' : List NameK) : Prop where
  ents : es.map (fun e => can e.note) = es'.map (fun e => can e.note)
  struck : x1 = x1'
  force : x2 = x2'
  forbid : x3 = x3'
  pend : (ps.map toRL).map RL.dat = (ps'.map toRL).map RL.dat
  published : L1.published = L2.published
  hash : L1.hash = L2.hash
  conflicts : x4 = x4'
theorem reg_same {o : Lay} {q : Int} {xs xs' : List Note} {w w' : World} {rv rv' : Value} {L L' : Led} {ds ds' : List Note} {ev u1 u2 u3 pvv u4 pub ev' u1' u2' u3' pvv' u4' pub' : Value} {es es' : List Ent} {x1 x1' : List MarkK} {x2 x3 x2' x3' : List DuoK} {ps ps' : List Pend} {x4 x4' : List NameK}
    (h : FoldRel q xs w rv L ds ev u1 u2 u3 pvv u4 pub es x1 x2 x3 ps x4) (h' : FoldRel q xs' w' rv' L' ds' ev' u1' u2' u3' pvv' u4' pub' es' x1' x2' x3' ps' x4') (hs : setB o xs = true) (hx : xs.map can = xs'.map can) : SameRegL L L' es es' x1 x1' x2 x2' x3 x3' ps ps' x4 x4' := by
  have hn := setB_nodup hs
  have hk : ∀ x ∈ xs, 1 ≤ x.nt.kind ∧ x.nt.kind ≤ 7 := fun x hx => (goodN (setB_good hs x hx)).kind
  have hn1 : ((xs.map can).map nm) = xs.map nm := by rw [List.map_map]; rfl
  have hn2 : xs'.map nm = xs.map nm := by rw [← hn1, hx, List.map_map]; rfl
  have hk2 : ∀ x ∈ xs', 1 ≤ x.nt.kind ∧ x.nt.kind ≤ 7 := fun x hx => by
    have : x ∈ ds' := h'.perm.mem_iff.2 hx
    exact (h'.good x this).kind
  obtain ⟨hc, hds⟩ := same_run hx hn hk h.perm h'.perm h.order h'.order h.steps h'.steps h.rnd h'.rnd
  have p1 := steps_pl h.steps rfl ((h.perm.map nm).nodup_iff.2 hn) (fun x hx => hk x (h.perm.mem_iff.1 hx)) h.rnd
  have p2 := steps_pl h'.steps rfl ((h'.perm.map nm).nodup_iff.2 (by rw [hn2]; exact hn)) (fun x hx => hk2 x (h'.perm.mem_iff.1 hx)) h'.rnd
  have c1 := steps_cr h.steps rfl ((h.perm.map nm).nodup_iff.2 hn) (fun x hx => hk x (h.perm.mem_iff.1 hx)) h.rnd
  have i0 : IssP PL0.issues := ⟨by simp, by simp⟩
  have i1 : IssP L.issues := by have := issP_fold ds PL0 i0; rw [← p1] at this; exact this
  have i2 : IssP L'.issues := by have := issP_fold ds' PL0 i0; rw [← p2] at this; exact this
  have hI : L.issues.map canI = L'.issues.map canI := congrArg PL.issues hc
  have hW : L.withdrawn = L'.withdrawn := congrArg PL.withdrawn hc
  have hR : L.rulings.map keyC = L'.rulings.map keyC := by
    have := congrArg PL.rulings hc
    unfold canP plOf crOf at this
    simp only [List.map_map] at this
    exact this
  have hP : L.published = L'.published := congrArg PL.published hc
  have hH : L.hash = L'.hash := congrArg PL.hash hc
  have hC : L.conflicts = L'.conflicts := congrArg PL.conflicts hc
  obtain ⟨b, ho⟩ := h.out
  obtain ⟨b', ho'⟩ := h'.out
  have hrs : SameRS (L.rulings.foldl (regStep q) (RS0 L)) (L'.rulings.foldl (regStep q) (RS0 L')) := regFold_same _ _ hR ⟨rfl, rfl, rfl, rfl, hC, rfl⟩
  refine ⟨ent_same ho.rel ho'.rel hI hW i1 i2, ?_, ?_, ?_, ?_, hP, hH, ?_⟩
  · exact sorted_unique cmpMk_is (ho.struckP.trans (by rw [hrs.struck]; exact ho'.struckP.symm)) ho.struckO ho'.struckO
  · exact sorted_unique cmpDu_is (ho.forceP.trans (by rw [hrs.force]; exact ho'.forceP.symm)) ho.forceO ho'.forceO
  · exact sorted_unique cmpDu_is (ho.forbidP.trans (by rw [hrs.forbid]; exact ho'.forbidP.symm)) ho.forbidO ho'.forbidO
  · refine pend_same ho.pendP ho'.pendP hrs.pending ?_ ho.pendO ho'.pendO (fun p hp => (ho.each p hp).perm) (fun p hp => (ho'.each p hp).perm)
    rw [pend_fold]
    refine List.Nodup.sublist (List.Sublist.map _ ?_) c1.apart
    show ([] ++ L.rulings.filter _).Sublist _
    rw [List.nil_append]
    exact List.filter_sublist
  · exact sorted_unique cmpNm_is (ho.conflictsP.trans (by rw [hrs.conflicts]; exact ho'.conflictsP.symm)) ho.conflictsO ho'.conflictsO
end Go.Proofs.YtlamogpdkmbeoaaGreatDoor
end PartRegP

section PartKnoP
/- What is known by a clock: plain facts. -/
set_option maxRecDepth 100000
namespace Go.Proofs.YtlamogpdkmbeoaaGreatDoor
open Go.RowKit Go.Lib Go.Shelf Go.Maps

theorem SameN.can {x y : Note} (h : SameN x y) : can x = can y := by rw [h.eq]; rfl
theorem sameNs_can {xs ys : List Note} (h : SameNs xs ys) : xs.map can = ys.map can := by
  refine List.ext_getElem? fun i => ?_
  rw [List.getElem?_map, List.getElem?_map]
  by_cases hi : i < xs.length
  · have hj : i < ys.length := by rw [← h.1]; exact hi
    rw [List.getElem?_eq_getElem hi, List.getElem?_eq_getElem hj]
    exact congrArg some (h.2 i _ _ (List.getElem?_eq_getElem hi) (List.getElem?_eq_getElem hj)).can
  · rw [List.getElem?_eq_none (by omega), List.getElem?_eq_none (by have := h.1; omega)]
/-- A part of a union that the one set has none of is the other set's. -/
theorem part_same {o : Lay} {l more all : List Note} {p : Note → Bool} (hp : ∀ x y, SameN x y → p x = p y) (h : MP o l more 0 all) (hm : ∀ x ∈ more, p x = false) : (l.filter p).map can = (all.filter p).map can := by
  obtain ⟨hl, _, ha, _, hu⟩ := h.un
  refine sameNs_can (same_lists (setB_filter hl _) (setB_filter ha _) (fun x hx => ?_) (fun y hy => ?_))
  · obtain ⟨hx1, hx2⟩ := List.mem_filter.1 hx
    obtain ⟨z, hz, hs⟩ := hu.has x (.inl hx1)
    exact ⟨z, List.mem_filter.2 ⟨hz, by rw [← hp x z hs]; exact hx2⟩, hs⟩
  · obtain ⟨hy1, hy2⟩ := List.mem_filter.1 hy
    obtain ⟨x, hx, hs⟩ := hu.of y hy1
    have hk : p x = true := by rw [← hp y x hs]; exact hy2
    rcases hx with hx | hx
    · exact ⟨x, List.mem_filter.2 ⟨hx, hk⟩, hs.symm⟩
    · rw [hm x hx] at hk; cases hk
/-- Known by the clock t. -/
def known (t : Int) (x : Note) : Bool := decide (x.nt.clock ≤ t)
theorem known_same {o : Lay} {l more all : List Note} {t : Int} (h : MP o l more 0 all) (hm : ∀ x ∈ more, ¬ x.nt.clock ≤ t) : (l.filter (known t)).map can = (all.filter (known t)).map can :=
  part_same (fun x y hs => by unfold known; rw [hs.clock]) h fun x hx => decide_eq_false (hm x hx)
end Go.Proofs.YtlamogpdkmbeoaaGreatDoor
end PartKnoP
