/- The texts VersP, HistA in one. -/
import Derived.Test.YtlamogpdkmbeoaaGreatDoorZbRegP
import Derived.Test.YtlamogpdkmbeoaaGreatDoorZbFold
set_option linter.unusedVariables false
set_option linter.unusedSimpArgs false
section PartVersP
/- The entries of a register: plain facts. -/
set_option maxRecDepth 100000
namespace Go.Proofs.YtlamogpdkmbeoaaGreatDoor
open Go.RowKit Go.Lib Go.Shelf Go.Maps

/-- The history has the issues, and the withdrawals that count. -/
structure HisP (P : PL) : Prop where
  his : ∀ m ∈ P.history, (m.nt.kind = 1 ∧ getM P.issues (isk m) = some m) ∨ (m.nt.kind = 2 ∧ ∃ v, getM P.withdrawn m.nt.call = some v ∧ m.nt.version ≤ v)
  iss : ∀ p ∈ P.issues, p.2 ∈ P.history
theorem hisP_step {P : PL} (h : HisP P) (x : Note) : HisP (pStep P x) := by
  unfold pStep
  split
  · rename_i hok
    unfold pOk at hok
    unfold pTake
    by_cases k1 : x.nt.kind = 1
    · rw [if_pos k1] at hok ⊢
      have hno : getM P.issues (isk x) = none := by simpa using hok
      refine ⟨fun m hm => ?_, fun p hp => ?_⟩
      · rcases List.mem_append.1 hm with hm | hm
        · rcases h.his m hm with ⟨a, b⟩ | b
          · refine .inl ⟨a, ?_⟩
            show getM (putM P.issues (isk x) x) (isk m) = some m
            rw [getM_put, if_neg (fun e => by rw [← e, hno] at b; cases b)]
            exact b
          · exact .inr b
        · simp only [List.mem_singleton] at hm
          subst hm
          refine .inl ⟨k1, ?_⟩
          show getM (putM P.issues (isk m) m) (isk m) = some m
          rw [getM_put, if_pos rfl]
      · rcases mem_putM hp with rfl | hp
        · exact List.mem_append_right _ (List.mem_singleton.2 rfl)
        · exact List.mem_append_left _ (h.iss p hp)
    · rw [if_neg k1] at hok ⊢
      by_cases k2 : x.nt.kind = 2
      · rw [if_pos k2] at hok ⊢
        refine ⟨fun m hm => ?_, fun p hp => List.mem_append_left _ (h.iss p hp)⟩
        rcases List.mem_append.1 hm with hm | hm
        · rcases h.his m hm with b | ⟨a, v, b1, b2⟩
          · exact .inl b
          · refine .inr ⟨a, ?_⟩
            show ∃ v, getM (putM P.withdrawn x.nt.call (max ((getM P.withdrawn x.nt.call).getD 0) x.nt.version)) m.nt.call = some v ∧ _
            rw [getM_put]
            by_cases e : x.nt.call = m.nt.call
            · rw [if_pos e]
              refine ⟨_, rfl, ?_⟩
              rw [e, b1]
              show m.nt.version ≤ max v x.nt.version
              omega
            · rw [if_neg e]
              exact ⟨v, b1, b2⟩
        · simp only [List.mem_singleton] at hm
          subst hm
          refine .inr ⟨k2, ?_⟩
          show ∃ v, getM (putM P.withdrawn m.nt.call (max ((getM P.withdrawn m.nt.call).getD 0) m.nt.version)) m.nt.call = some v ∧ _
          rw [getM_put, if_pos rfl]
          exact ⟨_, rfl, by omega⟩
      · rw [if_neg k2]
        split
        · exact ⟨h.his, h.iss⟩
        · split <;> exact ⟨h.his, h.iss⟩
  · exact ⟨h.his, h.iss⟩
theorem hisP_fold : ∀ (ds : List Note) {P : PL}, HisP P → HisP (ds.foldl pStep P)
  | [], _, h => h
  | x :: ds, _, h => hisP_fold ds (hisP_step h x)
/-- An entry has the greatest version. -/
theorem entry_great {P : PL} (h : HisP P) {N : List (ByteArray × Note)} (hN : NewIn P.issues [] N) {c : ByteArray} {n : Note} (hn : getM N c = some n) (hw : (getM P.withdrawn c).getD 0 < n.nt.version) :
    n ∈ P.history ∧ n.nt.call = c ∧ ∀ m ∈ P.history, m.nt.call = c → ¬ ((m.nt.kind = 2 ∧ n.nt.version ≤ m.nt.version) ∨ n.nt.version < m.nt.version) := by
  obtain ⟨hc, p, hp, e⟩ := hN.from_ _ (getM_mem hn)
  have e : p.2 = n := e
  refine ⟨by rw [← e]; exact h.iss p hp, hc, fun m hm hmc => ?_⟩
  rcases h.his m hm with ⟨a, b⟩ | ⟨a, v, b1, b2⟩
  · rcases hN.best _ (getM_mem b) with h0 | ⟨n', h1, h2⟩
    · cases h0
    · dsimp only at h1 h2
      rw [hmc, hn] at h1
      injection h1 with h1
      subst h1
      omega
  · rw [hmc] at b1
    rw [b1] at hw
    simp only [Option.getD_some] at hw
    omega

/-! One station's part. -/
def isC (c : ByteArray) (x : Note) : Bool := decide (x.nt.call = c) && (decide (x.nt.kind = 1) || decide (x.nt.kind = 2))
structure PC where
  issues : List (MarkK × Note)
  wd : Option Int
def pc (c : ByteArray) (P : PL) : PC := ⟨P.issues.filter (fun p => decide (p.1.1 = c)), getM P.withdrawn c⟩
def cStep (Q : PC) (x : Note) : PC :=
  if x.nt.kind = 1 then (if (getM Q.issues (isk x)).isNone = true then { Q with issues := putM Q.issues (isk x) x } else Q)
  else if (getM Q.issues (isk x)).isSome = true then { Q with wd := some (max (Q.wd.getD 0) x.nt.version) } else Q
theorem putM_cons {κ ν : Type} [DecidableEq κ] (p : κ × ν) (r : List (κ × ν)) (x : κ) (y : ν) : putM (p :: r) x y = if p.1 = x then (x, y) :: r else p :: putM r x y := rfl
theorem getM_cons {κ ν : Type} [DecidableEq κ] (p : κ × ν) (r : List (κ × ν)) (x : κ) : getM (p :: r) x = if p.1 = x then some p.2 else getM r x := rfl
theorem getM_filter (c : ByteArray) (m : List (MarkK × Note)) (v : Int) : getM (m.filter fun p => decide (p.1.1 = c)) (c, v) = getM m (c, v) := by
  induction m with
  | nil => rfl
  | cons p m ih =>
    by_cases e : p.1.1 = c
    · rw [List.filter_cons_of_pos (by simpa using e), getM_cons, getM_cons, ih]
    · rw [List.filter_cons_of_neg (by simpa using e), ih, getM_cons, if_neg (fun h => e (by rw [h]))]
theorem putM_filter (c : ByteArray) (m : List (MarkK × Note)) (v : Int) (y : Note) : (putM m (c, v) y).filter (fun p => decide (p.1.1 = c)) = putM (m.filter fun p => decide (p.1.1 = c)) (c, v) y := by
  induction m with
  | nil => simp [putM]
  | cons p m ih =>
    rw [putM_cons]
    by_cases e : p.1 = (c, v)
    · have e1 : p.1.1 = c := by rw [e]
      rw [if_pos e, List.filter_cons_of_pos (by simp), List.filter_cons_of_pos (by simpa using e1), putM_cons, if_pos e]
    · rw [if_neg e]
      by_cases e1 : p.1.1 = c
      · rw [List.filter_cons_of_pos (by simpa using e1), List.filter_cons_of_pos (by simpa using e1), ih, putM_cons, if_neg e]
      · rw [List.filter_cons_of_neg (by simpa using e1), List.filter_cons_of_neg (by simpa using e1), ih]
theorem putM_filter_ne {c d : ByteArray} (h : d ≠ c) (m : List (MarkK × Note)) (v : Int) (y : Note) : (putM m (d, v) y).filter (fun p => decide (p.1.1 = c)) = m.filter fun p => decide (p.1.1 = c) := by
  induction m with
  | nil => simp [putM, h]
  | cons p m ih =>
    rw [putM_cons]
    by_cases e : p.1 = (d, v)
    · have e1 : ¬ p.1.1 = c := by rw [e]; exact h
      rw [if_pos e, List.filter_cons_of_neg (by simpa using h), List.filter_cons_of_neg (by simpa using e1)]
    · rw [if_neg e, List.filter_cons, List.filter_cons, ih]
theorem pc_step (c : ByteArray) (P : PL) (x : Note) : pc c (pStep P x) = if isC c x = true then cStep (pc c P) x else pc c P := by
  unfold pStep pOk pTake
  by_cases k1 : x.nt.kind = 1
  · simp only [if_pos k1]
    by_cases e : x.nt.call = c
    · have hc : isC c x = true := by unfold isC; simp [e, k1]
      rw [if_pos hc]
      unfold cStep pc
      simp only [if_pos k1]
      subst e
      have g := getM_filter x.nt.call P.issues x.nt.version
      rw [show isk x = (x.nt.call, x.nt.version) from rfl, g]
      split
      · simp only [putM_filter]
      · rfl
    · have hc : ¬ isC c x = true := by unfold isC; simp [e]
      rw [if_neg hc]
      split
      · unfold pc
        simp only
        rw [show isk x = (x.nt.call, x.nt.version) from rfl, putM_filter_ne e]
      · rfl
  · simp only [if_neg k1]
    by_cases k2 : x.nt.kind = 2
    · simp only [if_pos k2]
      by_cases e : x.nt.call = c
      · have hc : isC c x = true := by unfold isC; simp [e, k2]
        rw [if_pos hc]
        unfold cStep pc
        simp only [if_neg k1]
        subst e
        have g := getM_filter x.nt.call P.issues x.nt.version
        rw [show isk x = (x.nt.call, x.nt.version) from rfl, g]
        split
        · simp only [getM_put, if_true]
        · rfl
      · have hc : ¬ isC c x = true := by unfold isC; simp [e]
        rw [if_neg hc]
        split
        · unfold pc
          simp only
          rw [getM_put, if_neg e]
        · rfl
    · have hc : ¬ isC c x = true := by unfold isC; simp [k1, k2]
      rw [if_neg hc]
      have hq : ∀ Q : PL, Q.issues = P.issues → Q.withdrawn = P.withdrawn → pc c Q = pc c P := fun Q h1 h2 => by unfold pc; rw [h1, h2]
      simp only [if_neg k2]
      repeat' split
      all_goals exact hq _ rfl rfl
theorem pc_fold (c : ByteArray) : ∀ (ds : List Note) (P : PL), pc c (ds.foldl pStep P) = (ds.filter (isC c)).foldl cStep (pc c P)
  | [], _ => rfl
  | x :: ds, P => by
    rw [List.foldl_cons, pc_fold c ds, pc_step, List.filter_cons]
    split
    · rw [List.foldl_cons]
    · rfl
/-- Two runs that have the same notes about a station come to the same about it. -/
theorem pc_same {l all ds1 ds2 : List Note} {L1 L2 : Led} {c : ByteArray} (n1 : (l.map nm).Nodup) (n2 : (all.map nm).Nodup) (k1 : ∀ x ∈ l, 1 ≤ x.nt.kind ∧ x.nt.kind ≤ 7) (k2 : ∀ x ∈ all, 1 ≤ x.nt.kind ∧ x.nt.kind ≤ 7) (p1 : ds1.Perm l) (p2 : ds2.Perm all) (o1 : InOrder ds1) (o2 : InOrder ds2)
    (s1 : Steps Led0 ds1 L1) (s2 : Steps Led0 ds2 L2) (r1 : (L1.rulings.map (·.r)).Nodup) (r2 : (L2.rulings.map (·.r)).Nodup) (h : (l.filter (isC c)).map can = (all.filter (isC c)).map can) : pc c (canP (plOf L1)) = pc c (canP (plOf L2)) := by
  have i1 := steps_pl s1 rfl ((p1.map nm).nodup_iff.2 n1) (fun x hx => k1 x (p1.mem_iff.1 hx)) r1
  have i2 := steps_pl s2 rfl ((p2.map nm).nodup_iff.2 n2) (fun x hx => k2 x (p2.mem_iff.1 hx)) r2
  have hf : ∀ xs : List Note, (xs.map can).filter (isC c) = (xs.filter (isC c)).map can := fun xs => by rw [List.filter_map]; rfl
  have hds : (ds1.filter (isC c)).map can = (ds2.filter (isC c)).map can := by
    refine ds_unique (xs := (l.filter (isC c)).map can) ((p1.filter _).map can) (by rw [h]; exact (p2.filter _).map can) (List.pairwise_map.2 (List.Pairwise.sublist List.filter_sublist o1)) (List.pairwise_map.2 (List.Pairwise.sublist List.filter_sublist o2)) fun a ha b hb e => ?_
    refine inj_of_nodup (f := nm) ?_ ha hb e
    rw [List.map_map]
    exact List.Nodup.sublist (List.filter_sublist.map _) n1
  have e0 : canP PL0 = PL0 := rfl
  rw [i1, i2, ← fold_can, ← fold_can, e0, pc_fold, pc_fold, hf, hf, hds]
/-- What the entries say of a station. -/
theorem entry_of {L : Led} {es : List Ent} (h : EntRel L es) (c : ByteArray) (e : Ent) (he : e ∈ es) (hc : e.note.nt.call = c) : ∃ N, NewIn L.issues [] N ∧ getM N c = some e.note ∧ (getM L.withdrawn c).getD 0 < e.note.nt.version := by
  obtain ⟨N, S, hN, hS, _, hes⟩ := h
  have hm : e.note ∈ es.map (·.note) := List.mem_map_of_mem he
  rw [hes] at hm
  obtain ⟨d, hd, hf⟩ := List.mem_filterMap.1 hm
  unfold inForce at hf
  cases hg : getM N d with
  | none => rw [hg] at hf; cases hf
  | some n =>
    rw [hg] at hf
    dsimp only at hf
    split at hf
    · rename_i hlt
      injection hf with hf
      subst hf
      have := (hN.from_ _ (getM_mem hg)).1
      dsimp only at this
      have hdc : d = c := this.symm.trans hc
      subst hdc
      exact ⟨N, hN, hg, hlt⟩
    · cases hf
theorem pc_issue {I1 I2 : List (MarkK × Note)} {c : ByteArray} (h : (I1.map canI).filter (fun p => decide (p.1.1 = c)) = (I2.map canI).filter fun p => decide (p.1.1 = c)) (i1 : IssP I1) (i2 : IssP I2) {n : Note} {p : MarkK × Note} (hp : p ∈ I1) (hn : p.2 = n) (hc : n.nt.call = c) : ∃ q ∈ I2, can q.2 = can n ∧ q.1 = p.1 := by
  have hk : p.1.1 = c := by rw [i1.own p hp, hn]; exact hc
  have : canI p ∈ (I2.map canI).filter fun p => decide (p.1.1 = c) := by
    rw [← h]
    exact List.mem_filter.2 ⟨List.mem_map_of_mem hp, by simpa using hk⟩
  obtain ⟨q, hq, e⟩ := List.mem_map.1 (List.mem_filter.1 this).1
  exact ⟨q, hq, by rw [← hn]; exact congrArg (·.2) e, congrArg (·.1) e⟩
/-- An entry of the one register stands in the other one. -/
theorem entry_other {L1 L2 : Led} {es1 es2 : List Ent} (h1 : EntRel L1 es1) (h2 : EntRel L2 es2) (i1 : IssP L1.issues) (i2 : IssP L2.issues) {c : ByteArray} (h : pc c (canP (plOf L1)) = pc c (canP (plOf L2))) {e : Ent} (he : e ∈ es1) (hc : e.note.nt.call = c) : ∃ f ∈ es2, f.note.nt.call = c ∧ can f.note = can e.note := by
  have hI : (L1.issues.map canI).filter (fun p => decide (p.1.1 = c)) = (L2.issues.map canI).filter fun p => decide (p.1.1 = c) := congrArg PC.issues h
  have hW : getM L1.withdrawn c = getM L2.withdrawn c := congrArg PC.wd h
  obtain ⟨N1, n1, g1, w1⟩ := entry_of h1 c e he hc
  obtain ⟨_, p, hp, hpe⟩ := n1.from_ _ (getM_mem g1)
  obtain ⟨q, hq, hqc, hqk⟩ := pc_issue hI i1 i2 hp hpe hc
  obtain ⟨N2, S2, n2, s2, o2, e2⟩ := h2
  have hcq : q.2.nt.call = c := (can_call hqc).trans hc
  have hk : c ∈ N2.map (·.1) := (new_keys n2 c).2 ⟨q, hq, hcq⟩
  obtain ⟨m, hm⟩ := getM_key hk
  have hmc : m.nt.call = c := (n2.from_ _ (getM_mem hm)).1
  obtain ⟨_, q2, hq2, hq2e⟩ := n2.from_ _ (getM_mem hm)
  have hq2e : q2.2 = m := hq2e
  have hqv : q.2.nt.version = e.note.nt.version := can_version hqc
  have v1 : e.note.nt.version ≤ m.nt.version := by
    rcases n2.best q hq with h0 | ⟨n', a1, a2⟩
    · cases h0
    · rw [hcq, hm] at a1
      injection a1 with a1
      subst a1
      omega
  have v2 : m.nt.version ≤ e.note.nt.version := by
    obtain ⟨r, hr, hrc, _⟩ := pc_issue hI.symm i2 i1 hq2 hq2e hmc
    rcases n1.best r hr with h0 | ⟨n', a1, a2⟩
    · cases h0
    · rw [(can_call hrc).trans hmc, g1] at a1
      injection a1 with a1
      subst a1
      have hrv : r.2.nt.version = m.nt.version := can_version hrc
      omega
  have hkk : q2.1 = q.1 := by
    rw [i2.own _ hq2, i2.own _ hq, hq2e]
    exact Prod.ext (hmc.trans hcq.symm) (by show m.nt.version = q.2.nt.version; omega)
  have hqq : q2 = q := inj_of_nodup i2.keys hq2 hq hkk
  have hmm : m ∈ es2.map (·.note) := by
    rw [e2]
    refine List.mem_filterMap.2 ⟨c, s2.mem_iff.2 hk, ?_⟩
    unfold inForce
    rw [hm]
    dsimp only
    rw [if_pos (by rw [← hW]; omega)]
  obtain ⟨f, hf, hfe⟩ := List.mem_map.1 hmm
  refine ⟨f, hf, by rw [hfe]; exact hmc, ?_⟩
  rw [hfe, ← hq2e, hqq]
  exact hqc
end Go.Proofs.YtlamogpdkmbeoaaGreatDoor
end PartVersP

section PartHistA
/- 'History': the names of the notes about a station's log. -/
set_option maxRecDepth 100000
namespace Go.Proofs.YtlamogpdkmbeoaaGreatDoor
open Go.RowKit Go.Lib Go.Shelf Go.Maps

abbrev about (c : ByteArray) (x : Note) : Bool := decide (x.nt.call = c)
/-- What 'History' hands back. -/
def HistOut (o : Lay) (c : ByteArray) (xs : List Note) (w : World) (u : Value) (er : Int) : Prop :=
  (setB o xs = true ∧ er = 0 ∧ ∃ L ds, ds.Perm xs ∧ InOrder ds ∧ Steps Led0 ds L ∧ (L.rulings.map (·.r)).Nodup ∧ RowsAt NameK.cells 2 w u ((L.history.filter (about c)).map nm)) ∨ (setB o xs = false ∧ er = 1 ∧ u = .slice none 0 0)
theorem str_ne {a b : ByteArray} (h : ¬ a = b) : (a.toList == b.toList) = false := by
  cases e : (a.toList == b.toList)
  · rfl
  · exact absurd (toList_inj e) h
theorem StepB.hist {x : Note} {L L1 : Led} {ok : Bool} (hs : StepB x L ok L1) : ∀ y ∈ L1.history, y ∈ L.history ∨ y = x := by
  unfold StepB at hs
  split at hs
  · obtain ⟨_, rfl⟩ := hs
    split
    · intro y hy; simpa [logLed] using hy
    · intro y hy; exact .inl hy
  · split at hs
    · obtain ⟨_, rfl⟩ := hs
      split
      · intro y hy; simpa [wdLed] using hy
      · intro y hy; exact .inl hy
    · split at hs
      · obtain ⟨_, rfl⟩ := hs
        split
        · unfold sgLed
          split <;> (intro y hy; exact .inl hy)
        · intro y hy; exact .inl hy
      · split at hs
        · obtain ⟨_, rfl⟩ := hs
          split <;> (intro y hy; exact .inl hy)
        · obtain ⟨_, r, j, rfl⟩ := hs
          intro y hy; exact .inl hy
theorem hist_mem {L0 L : Led} {ds : List Note} (h : Steps L0 ds L) : L0 = Led0 → ∀ x ∈ L.history, x ∈ ds := by
  induction h with
  | nil => intro h0 x hx; subst h0; simp at hx
  | snoc h h2 ih =>
    intro h0 x hx
    obtain ⟨ok, K, hK, rfl⟩ := h2
    have hm : x ∈ K.history := by cases ok <;> exact hx
    rcases hK.hist x hm with h1 | rfl
    · exact List.mem_append_left _ (ih h0 x h1)
    · simp
set_option maxHeartbeats 8000000 in
theorem History_any (o : Lay) (v : Value) (c : ByteArray) (xs : List Note) (w : World) (h : NotesAt w v xs) (hE : Env w) :
    Calls Tryz.prog 26 #[o.val, v, .string c] w fun e w' => ∃ u er, e = .returned (.tuple #[u, .int .i64 er]) ∧ HistOut o c xs w' u er ∧ Below w.heap.size w w' := by
  have UN := Tryz.underlying46
  have UM := Tryz.underlying37
  have UMs := Tryz.underlying30
  obtain ⟨R, hR⟩ : ∃ R, R = setB o xs := ⟨_, rfl⟩
  have hiS := fun W (hb : Below w.heap.size w W) => isSet_any o v xs W (h.later hb) (hE.below hE.big hb)
  have HG : Hid (setB o xs = true → (∀ x ∈ xs, GoodN x) ∧ xs.length ≤ 2000) := Lib.hid (fun e => ⟨fun x hx => goodN (setB_good e x hx), setB_len e⟩)
  unfold HistOut
  rw [← hR] at hiS HG ⊢
  clear hR
  have HN := Lib.hid h
  obtain ⟨A, cp, rfl⟩ := h.row.len
  obtain ⟨o1, o2, o3⟩ := o
  dsimp only [Lay.val] at hiS ⊢
  have hbO := below_alloc0 (w := w) (.cells #[.bool o1, .bool o2, .bool o3] 23)
  have hi := hiS _ hbO
  have HBO := Lib.hid hbO
  clear hE h hiS hbO
  cases R
  · go_enter Tryz.func26, Tryz.ntmps26
    go_wp2_with (go_at_call 31; (with_reducible refine hi.mono ?_); rintro e w1 ⟨rfl, hb1⟩)
    go_ret2
    exact ⟨_, _, rfl, Or.inr ⟨by trivial, by trivial, by trivial⟩, HBO.out.trans (hb1.mono HBO.out.size)⟩
  · obtain ⟨hgood, hlen⟩ := HG.out rfl
    have HGD := Lib.hid hgood
    have HLEN := Lib.hid hlen
    clear hgood hlen HG
    have hent := fun W (hb : Below w.heap.size w W) => enter_any (.slice A xs.length cp) xs W (HN.out.later hb) HLEN.out (fun x hx => (HGD.out x hx).note ((HN.out.later hb).each x hx))
    have HENT := Lib.hid hent
    clear hent
    go_enter Tryz.func26, Tryz.ntmps26
    go_upto_region 4 with (go_at_call 31; (with_reducible refine hi.mono ?_); rintro e w1 ⟨rfl, hb1⟩)
    have hB1 : Below w.heap.size w w1 := HBO.out.trans (hb1.mono HBO.out.size)
    have HB1 := Lib.hid hB1
    have he := HENT.out w1 hB1
    clear hi hb1 hB1
    have hs1 : w.heap.size ≤ w1.heap.size := HB1.out.size
    go_upto_region 5 with (first
      | (go_at_call 32; (with_reducible refine he.mono ?_); rintro e w2 ⟨g, L, ds, rfl, hp, hor, hst, hsz2, hled, hb2⟩; obtain ⟨bI, bW, bN, bC, rv, pv, hv, hL⟩ := hled; obtain ⟨A3, m3, c3, rfl⟩ := own_slice hL.history; have cg : w2.cell? ⟨g, 6, none⟩ = some (.slice A3 m3 c3) := hL.cells.cell 6))
    obtain rfl : m3 = L.history.length := own_len hL.history
    have hhl : L.history.length ≤ 2000 := hsz2.history
    have hho : ∀ x ∈ L.history, oneN x := fun x hx => by
      have hm : x ∈ ds := hist_mem hst rfl x hx
      exact note_one (HN.out.each x (hp.mem_iff.1 hm))
    have hrow : RowsAt Note.enc 20 w2 (.slice A3 L.history.length c3) L.history := rows_of_owns 20 (fun _ => rfl) hL.history
    have HROW := Lib.hid hrow
    have HHO := Lib.hid hho
    have HB2 := Lib.hid (HB1.out.trans (hb2.mono hs1))
    have HFIN : Hid (ds.Perm xs ∧ InOrder ds ∧ Steps Led0 ds L ∧ (L.rulings.map (·.r)).Nodup) := Lib.hid ⟨hp, hor, hst, hL.rApart⟩
    have hs2 : w.heap.size ≤ w2.heap.size := HB2.out.size
    obtain ⟨i0, hi0, hz0, hz1, hz2⟩ := infoName
    obtain ⟨n, hn⟩ : ∃ n, n = L.history.length := ⟨_, rfl⟩
    have HNN := Lib.hid hn
    rw [← hn] at hhl ⊢
    clear hrow hL hho hb2 hp hor hst hsz2 cg he hn
    go_loopw [8, 21] (fun s8 s21 wr => ∃ (k : Nat) (ns : List NameK), k ≤ n ∧ s21 = .int .i64 k ∧ Hid (ns = ((L.history.take k).filter (about c)).map nm) ∧ Hid (wr.ownsRow w2.heap.size 37 2 s8 ns.length (ns.flatMap NameK.cells)) ∧ Hid (Below w2.heap.size w2 wr)) (fun _ s21 _ => n - (intOf s21).toNat)
    case atStart => exact ⟨0, [], Nat.zero_le _, rfl, Lib.hid rfl, Lib.hid (World.ownsRow_nil _ _ _ _), Lib.hid (Below.refl _ _)⟩
    case round =>
      obtain ⟨k, ns, hk, rfl, hNS, hOW, hb⟩ := hrel
      by_cases hlt : k < n
      · have hk1 : k < L.history.length := by have := HNN.out; omega
        obtain ⟨x, hx⟩ : ∃ x, x = L.history[k] := ⟨_, rfl⟩
        have hxm : x ∈ L.history := by rw [hx]; exact List.getElem_mem hk1
        have hnl : ns.length ≤ k := by
          rw [hNS.out, List.length_map]
          refine Nat.le_trans (List.length_filter_le _ _) ?_
          rw [List.length_take]
          omega
        have HTK : Hid ((L.history.take (k + 1)).filter (about c) = (L.history.take k).filter (about c) ++ [x].filter (about c)) := Lib.hid (by rw [List.take_succ_eq_append_getElem hk1, ← hx, List.filter_append])
        rcases HROW.out.place with ⟨e0, _⟩ | ⟨g1, o1', c1', e1, _, _, hg1, hcell1⟩
        · rw [e0] at hk1; simp at hk1
        injection e1 with e1 e11 e12
        clear e11 e12
        subst e1
        have HRNG : Hid (wr.rangeAt g1 (o1' + k * 20) x.nt.enc) := Lib.hid (fun q u hu => (hb.out.cell (p := ⟨g1, o1' + k * 20 + q, none⟩) hg1).trans (hcell1 k hk1 q u (by rw [← hx]; exact hu)))
        have HNO : Hid (oneN x) := Lib.hid (HHO.out x hxm)
        have hsr : w2.heap.size ≤ wr.heap.size := hb.out.size
        clear hx hxm hcell1 hk1
        have tok : True := trivial
        go_upto_region 7 with (first
          | (have _t := tok; refine wpList_load_mid rfl 46 _ rfl g1 (o1' + k * 20) rfl x.nt.enc _ HRNG.out UN rfl sizeNote ?_; clear tok)
          | (refine wpList_store_blk rfl 46 _ _ rfl wr.heap.size 46 Nt0.enc.toArray x.nt.enc.toArray rfl rfl (Blk.new wr _ _) (by rfl) sizeNote HNO.out ?_; intro w4 hX4 hg4 hs4))
        have hb4 : Below wr.heap.size wr w4 := (below_alloc0 _).grown hg4 (by simp) (fun i e => by cases e; exact Nat.le_refl _)
        have HB4 := Lib.hid (hb.out.trans (hb4.mono hsr))
        have HOW4 := Lib.hid (own_later hOW.out hb4)
        obtain ⟨p, hp⟩ : ∃ p, wr.heap.size = p := ⟨_, rfl⟩
        rw [hp] at hX4 ⊢
        have HX4 := Lib.hid hX4
        obtain ⟨cl, hcl⟩ : ∃ cl, cl = x.nt.call := ⟨_, rfl⟩
        have p4 : w4.cell? ⟨p, 4, none⟩ = some (.string cl) := by rw [hcl]; exact hX4.cell 4
        have hs24 : w2.heap.size ≤ w4.heap.size := HB4.out.size
        have HCL := Lib.hid hcl
        clear hb4 hg4 hs4 hX4 hp hcl HRNG
        by_cases e : cl = c
        rotate_left
        · have hne := str_ne e
          have HNE : Hid (((L.history.take (k + 1)).filter (about c)).map nm = ns) := Lib.hid (by rw [HTK.out, hNS.out, List.filter_cons_of_neg (by unfold about; rw [← HCL.out]; simpa using e)]; simp)
          clear e
          go_wp2
          (try go_frame)
          go_roundw
          case rel => exact ⟨k + 1, ns, by omega, by simp, Lib.hid HNE.out.symm, HOW4, HB4⟩
          case measure => simp [intOf]; omega
        · subst e
          have hn1 := fun W => nameOf_any x.nt W
          have HEQ : Hid (((L.history.take (k + 1)).filter (about cl)).map nm = ns ++ [nm x]) := Lib.hid (by rw [HTK.out, hNS.out, List.filter_cons_of_pos (by unfold about; rw [← HCL.out]; simp)]; simp)
          have tok : True := trivial
          go_wp2_with (first
            | (have _t := tok; refine wpList_load_blk rfl 46 _ rfl p 46 _ _ rfl HX4.out UN rfl sizeNote ?_; clear tok)
            | (go_at_call 54; ((with_reducible refine (hn1 _).mono ?_); rintro e w6 ⟨rfl, hg6⟩); have hb6 := hg6.below; have hOW6 := own_later HOW4.out hb6)
            | (at_builtin; refine wpList_append_lies _ rfl _ _ 30 rfl w2.heap.size 37 i0 (.agg #[.int .i64 0, .int .i64 0]) 2 16 UMs hi0 hz0 hz1 hz2 rfl (by decide) u8 ns.length _ rfl (hOW6.alloc _) ⟨w6.heap.size, 0, none⟩ 1 1 [.int .i64 x.nt.judge, .int .i64 x.nt.num] rfl rfl (World.news_of_block (Blk.new w6 _ _)) (by simp [Value.oneCell']) (by decide) (by unfold maxLen; omega) (by omega) (by have := hb6.size; simp; omega) _ rfl ?_; intro g' cap w7 ho7 hg7 hat7 hlt7))
          have hb7 : Below w2.heap.size w2 w7 := ((HB4.out.trans (hb6.mono hs24)).alloc (by have := hb6.size; omega) _).grown hg7 (by have := hb6.size; simp; omega) (fun j e => (hOW6.lt j e).1)
          have HB7 := Lib.hid hb7
          have HO7 : Hid (w7.ownsRow w2.heap.size 37 2 (.slice (some ⟨g', 0, none⟩) (ns.length + 1) cap) (ns ++ [nm x]).length ((ns ++ [nm x]).flatMap NameK.cells)) := Lib.hid (by simpa using ho7)
          clear hb7 ho7 hg7 hat7 hlt7 hOW6 hb6
          go_wp2
          (try go_frame)
          go_roundw
          case rel => exact ⟨k + 1, ns ++ [nm x], by omega, by simp, Lib.hid HEQ.out.symm, HO7, HB7⟩
          case measure => simp [intOf]; omega
      · have hke : L.history.take k = L.history := List.take_of_length_le (by have := HNN.out; omega)
        rw [hke] at hNS
        clear hke
        go_wp2
        go_ret2
        refine ⟨_, _, rfl, .inl ⟨by trivial, by trivial, L, ds, HFIN.out.1, HFIN.out.2.1, HFIN.out.2.2.1, HFIN.out.2.2.2, ?_⟩, HB2.out.trans (hb.out.mono hs2)⟩
        rw [← hNS.out]
        exact rows_of_owns 2 (fun _ => rfl) hOW.out
end Go.Proofs.YtlamogpdkmbeoaaGreatDoor
end PartHistA
