/- The texts QuoP, LedP in one. -/
import Derived.Test.YtlamogpdkmbeoaaGreatDoorZbChJ
import Derived.Test.YtlamogpdkmbeoaaGreatDoorZbReg
set_option linter.unusedVariables false
set_option linter.unusedSimpArgs false
section PartQuoP
/- Overrulings: what notes amount to does not depend on where they lie; quorums. Plain facts. -/
set_option maxRecDepth 100000
namespace Go.Proofs.YtlamogpdkmbeoaaGreatDoor
open Go.RowKit Go.Lib Go.Shelf Go.Maps

abbrev CR := List (Note × List (Int × Bool))
def signC (n : Int) (js : List (Int × Bool)) : List (Int × Bool) := if (getM js n).getD false = true then js else putM js n true
def rulStep (C : CR) (x : Note) : CR :=
  if x.nt.kind = 1 ∨ x.nt.kind = 2 ∨ x.nt.kind = 7 then C
  else if x.nt.kind = 6 then C.map fun y => if nm y.1 = rfk x then (y.1, signC x.nt.judge y.2) else y
  else C ++ [(x, [(x.nt.judge, true)])]
abbrev keyR (y : RulB) : Note × List (Int × Bool) := (y.note, y.judges)
def crOf (L : Led) : CR := L.rulings.map keyR
def findN (L : Led) (k : NameK) : Option RulB := L.rulings.find? fun y => decide (nm y.note = k)
/-- How a ledger's names lead to its overrulings. -/
structure RulInv (ds : List Note) (L : Led) : Prop where
  names : ∀ k, getM L.byName k = (findN L k).map (·.r)
  mem : ∀ y ∈ L.rulings, y.note ∈ ds
  apart : (L.rulings.map fun y => nm y.note).Nodup
  cr : crOf L = ds.foldl rulStep []
theorem find_unique {α β : Type} [DecidableEq β] {f : α → β} : ∀ {l : List α}, (l.map f).Nodup → ∀ {y : α}, y ∈ l → l.find? (fun z => decide (f z = f y)) = some y
  | [], _, y, h => by cases h
  | a :: l, hn, y, h => by
    rw [List.map_cons, List.nodup_cons] at hn
    by_cases e : f a = f y
    · rcases List.mem_cons.1 h with rfl | h
      · simp
      · exact absurd (by rw [e]; exact List.mem_map_of_mem h) hn.1
    · rcases List.mem_cons.1 h with rfl | h
      · exact absurd rfl e
      · rw [List.find?_cons_of_neg (by simpa using e)]
        exact find_unique hn.2 h
theorem RulInv.same {ds : List Note} {L L' : Led} {x : Note} (h : RulInv ds L) (h1 : L'.rulings = L.rulings) (h2 : L'.byName = L.byName) (hs : rulStep (crOf L) x = crOf L) : RulInv (ds ++ [x]) L' := by
  refine ⟨fun k => ?_, fun y hy => ?_, ?_, ?_⟩
  · unfold findN; rw [h1, h2]; exact h.names k
  · rw [h1] at hy; exact List.mem_append_left _ (h.mem y hy)
  · rw [h1]; exact h.apart
  · rw [List.foldl_append, ← h.cr]
    show crOf L' = rulStep (crOf L) x
    rw [hs]
    unfold crOf
    rw [h1]
theorem sign_r (r : Nat) (n : Int) (y : RulB) : (signAt r n y).r = y.r ∧ (signAt r n y).note = y.note := by unfold signAt; split <;> exact ⟨rfl, rfl⟩
theorem RulInv.stepB {ds : List Note} {L L1 : Led} {x : Note} {ok : Bool} (h : RulInv ds L) (hr : (L.rulings.map (·.r)).Nodup) (hx : ∀ y ∈ ds, nm y ≠ nm x) (hk : 1 ≤ x.nt.kind ∧ x.nt.kind ≤ 7) (hs : StepB x L ok L1) : RulInv (ds ++ [x]) L1 := by
  unfold StepB at hs
  have triv : x.nt.kind = 1 ∨ x.nt.kind = 2 ∨ x.nt.kind = 7 → rulStep (crOf L) x = crOf L := fun hc => if_pos hc
  split at hs
  · rename_i k1
    obtain ⟨_, rfl⟩ := hs
    split
    · exact h.same rfl rfl (triv (.inl k1))
    · exact h.same rfl rfl (triv (.inl k1))
  · rename_i k1
    split at hs
    · rename_i k2
      obtain ⟨_, rfl⟩ := hs
      split
      · exact h.same rfl rfl (triv (.inr (.inl k2)))
      · exact h.same rfl rfl (triv (.inr (.inl k2)))
    · rename_i k2
      split at hs
      · rename_i k6
        obtain ⟨_, rfl⟩ := hs
        have hst : rulStep (crOf L) x = (crOf L).map fun y => if nm y.1 = rfk x then (y.1, signC x.nt.judge y.2) else y := by
          unfold rulStep
          rw [if_neg (by omega), if_pos k6]
        cases hf : findN L (rfk x) with
        | none =>
          have hg : getM L.byName (rfk x) = none := by rw [h.names, hf]; rfl
          have hso : sgOk L x = false := by unfold sgOk; rw [hg]
          rw [hso]
          refine h.same rfl rfl ?_
          rw [hst]
          unfold crOf
          rw [List.map_map]
          refine List.map_congr_left fun y hy => ?_
          have : ¬ nm y.note = rfk x := by
            have := List.find?_eq_none.1 hf y hy
            simpa using this
          simp only [Function.comp]
          rw [if_neg this]
        | some y =>
          have hy : y ∈ L.rulings := List.mem_of_find?_eq_some hf
          have hyn : nm y.note = rfk x := by have := List.find?_some hf; simpa using this
          have hg : getM L.byName (rfk x) = some y.r := by rw [h.names, hf]; rfl
          have hat : rulAt L y.r = some y := by
            unfold rulAt
            have := find_unique (f := fun z : RulB => z.r) hr hy
            rw [show (fun z : RulB => z.r == y.r) = fun z => decide (z.r = y.r) from funext fun z => rfl]
            exact this
          have hso : sgOk L x = !signed y x.nt.judge := by unfold sgOk; rw [hg]; simp only [hat]
          rw [hso]
          have hone : ∀ z ∈ L.rulings, nm z.note = rfk x → z = y := fun z hz e => inj_of_nodup h.apart hz hy (e.trans hyn.symm)
          cases hsg : signed y x.nt.judge with
          | true =>
            refine h.same rfl rfl ?_
            rw [hst]
            unfold crOf
            rw [List.map_map]
            refine List.map_congr_left fun z hz => ?_
            simp only [Function.comp]
            by_cases e : nm z.note = rfk x
            · rw [if_pos e, hone z hz e]
              unfold signed at hsg
              unfold signC
              rw [if_pos hsg]
            · rw [if_neg e]
          | false =>
            simp only [Bool.not_false, if_true]
            have hL : sgLed L x = { L with rulings := L.rulings.map (signAt y.r x.nt.judge) } := by unfold sgLed; rw [hg]
            rw [hL]
            refine ⟨fun k => ?_, fun z hz => ?_, ?_, ?_⟩
            · show getM L.byName k = _
              rw [h.names k]
              unfold findN
              rw [List.find?_map, Option.map_map]
              have e1 : ((fun z : RulB => decide (nm z.note = k)) ∘ signAt y.r x.nt.judge) = fun z : RulB => decide (nm z.note = k) := funext fun z => by simp only [Function.comp, (sign_r y.r x.nt.judge z).2]
              rw [e1]
              cases L.rulings.find? (fun z : RulB => decide (nm z.note = k)) with
              | none => rfl
              | some z => simp only [Option.map_some, Function.comp, (sign_r y.r x.nt.judge z).1]
            · obtain ⟨z', hz', rfl⟩ := List.mem_map.1 hz
              rw [(sign_r _ _ _).2]
              exact List.mem_append_left _ (h.mem z' hz')
            · show ((L.rulings.map (signAt y.r x.nt.judge)).map fun z => nm z.note).Nodup
              rw [List.map_map, show ((fun z : RulB => nm z.note) ∘ signAt y.r x.nt.judge) = fun z : RulB => nm z.note from funext fun z => by simp only [Function.comp, (sign_r y.r x.nt.judge z).2]]
              exact h.apart
            · rw [List.foldl_append, ← h.cr]
              show ((L.rulings.map (signAt y.r x.nt.judge)).map keyR) = rulStep (crOf L) x
              rw [hst]
              unfold crOf
              rw [List.map_map, List.map_map]
              refine List.map_congr_left fun z hz => ?_
              simp only [Function.comp]
              by_cases e : nm z.note = rfk x
              · rw [if_pos e, hone z hz e]
                unfold signed at hsg
                unfold signAt signC keyR
                rw [if_pos rfl, if_neg (by rw [hsg]; simp)]
              · rw [if_neg e]
                have : z.r ≠ y.r := fun e2 => e (by rw [inj_of_nodup (f := fun z : RulB => z.r) hr hz hy e2]; exact hyn)
                unfold signAt
                rw [if_neg this]
      · rename_i k6
        split at hs
        · rename_i k7
          obtain ⟨_, rfl⟩ := hs
          split
          · exact h.same rfl rfl (triv (.inr (.inr k7)))
          · exact h.same rfl rfl (triv (.inr (.inr k7)))
        · rename_i k7
          obtain ⟨_, r, j, rfl⟩ := hs
          have hst : rulStep (crOf L) x = crOf L ++ [(x, [(x.nt.judge, true)])] := by
            unfold rulStep
            rw [if_neg (by omega), if_neg k6]
          have hno : ∀ y ∈ L.rulings, nm y.note ≠ nm x := fun y hy => hx _ (h.mem y hy)
          refine ⟨fun k => ?_, fun z hz => ?_, ?_, ?_⟩
          · show getM (putM L.byName (nm x) r) k = _
            rw [getM_put]
            unfold findN
            show _ = ((L.rulings ++ [(⟨r, j, x, [(x.nt.judge, true)]⟩ : RulB)]).find? _).map _
            rw [List.find?_append]
            by_cases e : nm x = k
            · rw [if_pos e]
              have : L.rulings.find? (fun y => decide (nm y.note = k)) = none := List.find?_eq_none.2 fun y hy => by
                have := hno y hy
                rw [e] at this
                simpa using this
              rw [this]
              simp [e]
            · rw [if_neg e, h.names k]
              unfold findN
              cases L.rulings.find? (fun y => decide (nm y.note = k)) with
              | some z => rfl
              | none => simp [e]
          · rcases List.mem_append.1 hz with hz | hz
            · exact List.mem_append_left _ (h.mem z hz)
            · simp only [List.mem_singleton] at hz
              subst hz
              simp
          · show ((L.rulings ++ [(⟨r, j, x, [(x.nt.judge, true)]⟩ : RulB)]).map fun y => nm y.note).Nodup
            rw [List.map_append, List.nodup_append]
            refine ⟨h.apart, by simp, fun a ha b hb e => ?_⟩
            obtain ⟨y, hy, rfl⟩ := List.mem_map.1 ha
            simp only [List.map_cons, List.map_nil, List.mem_singleton] at hb
            exact hno y hy (e.trans hb)
          · rw [List.foldl_append, ← h.cr]
            show (L.rulings ++ [(⟨r, j, x, [(x.nt.judge, true)]⟩ : RulB)]).map keyR = rulStep (crOf L) x
            rw [hst, List.map_append]
            rfl
/-- The steps' earlier overrulings lie where they lay. -/
theorem StepB.places {x : Note} {L L1 : Led} {ok : Bool} (hs : StepB x L ok L1) : ∃ t, L1.rulings.map (·.r) = L.rulings.map (·.r) ++ t := by
  unfold StepB at hs
  split at hs
  · obtain ⟨_, rfl⟩ := hs; exact ⟨[], by split <;> simp [logLed]⟩
  · split at hs
    · obtain ⟨_, rfl⟩ := hs; exact ⟨[], by split <;> simp [wdLed]⟩
    · split at hs
      · obtain ⟨_, rfl⟩ := hs
        refine ⟨[], ?_⟩
        split
        · unfold sgLed
          split
          · rw [List.append_nil, List.map_map]
            exact List.map_congr_left fun z _ => (sign_r _ _ z).1
          · simp
        · simp
      · split at hs
        · obtain ⟨_, rfl⟩ := hs; exact ⟨[], by split <;> simp [pubLed]⟩
        · obtain ⟨_, r, j, rfl⟩ := hs
          exact ⟨[r], by simp [ruleLed]⟩
theorem steps_cr {L0 L : Led} {ds : List Note} (h : Steps L0 ds L) : L0 = Led0 → (ds.map nm).Nodup → (∀ x ∈ ds, 1 ≤ x.nt.kind ∧ x.nt.kind ≤ 7) → (L.rulings.map (·.r)).Nodup → RulInv ds L := by
  induction h with
  | nil => intro h0 _ _ _; subst h0; exact ⟨fun k => rfl, fun y hy => by simp [Led0] at hy, by simp [Led0], rfl⟩
  | @snoc L1 L2 xs x h h2 ih =>
    intro h0 hn hk hr
    obtain ⟨ok, K, hK, rfl⟩ := h2
    have hrK : (K.rulings.map (·.r)).Nodup := by cases ok <;> exact hr
    obtain ⟨t, ht⟩ := hK.places
    have hr1 : (L1.rulings.map (·.r)).Nodup := by rw [ht] at hrK; exact (List.nodup_append.1 hrK).1
    rw [List.map_append, List.nodup_append] at hn
    have hI := ih h0 hn.1 (fun y hy => hk y (List.mem_append_left _ hy)) hr1
    have hJ := hI.stepB hr1 (fun y hy => hn.2.2 _ (List.mem_map_of_mem hy) _ (by simp)) (hk x (by simp)) hK
    cases ok
    · exact ⟨hJ.names, hJ.mem, hJ.apart, hJ.cr⟩
    · exact hJ
theorem ds_unique {ds1 ds2 xs : List Note} (h1 : ds1.Perm xs) (h2 : ds2.Perm xs) (o1 : InOrder ds1) (o2 : InOrder ds2) (hn : ∀ a ∈ xs, ∀ b ∈ xs, nm a = nm b → a = b) : ds1 = ds2 := by
  refine List.Perm.eq_of_pairwise ?_ o1 o2 (h1.trans h2.symm)
  intro a b ha hb p q
  refine hn a (h1.mem_iff.1 ha) b (h2.mem_iff.1 hb) ?_
  have c1 := cmpInt_is.anti a.nt.clock b.nt.clock
  have c2 := cmpInt_is.anti a.nt.judge b.nt.judge
  have c3 := cmpInt_is.anti a.nt.num b.nt.num
  unfold cmpWhen cmpName at p q
  have e : a.nt.judge = b.nt.judge ∧ a.nt.num = b.nt.num := by
    unfold orI compareInt at p q
    by_cases l1 : a.nt.clock < b.nt.clock
    · exact absurd (by simp [l1]) q
    · by_cases l2 : b.nt.clock < a.nt.clock
      · exact absurd (by simp [l2]) p
      · have ec : a.nt.clock = b.nt.clock := by omega
        by_cases l3 : a.nt.judge < b.nt.judge
        · exact absurd (by simp [ec, l3]) q
        · by_cases l4 : b.nt.judge < a.nt.judge
          · exact absurd (by simp [ec, l4]) p
          · have ej : a.nt.judge = b.nt.judge := by omega
            by_cases l5 : a.nt.num < b.nt.num
            · exact absurd (by simp [ec, ej, l5]) q
            · by_cases l6 : b.nt.num < a.nt.num
              · exact absurd (by simp [ec, ej, l6]) p
              · exact ⟨ej, by omega⟩
  exact Prod.ext e.1 e.2
end Go.Proofs.YtlamogpdkmbeoaaGreatDoor
end PartQuoP

section PartLedP
/- What the notes come to, without addresses. -/
set_option maxRecDepth 100000
namespace Go.Proofs.YtlamogpdkmbeoaaGreatDoor
open Go.RowKit Go.Lib Go.Shelf Go.Maps

/-- What notes come to. -/
structure PL where
  issues : List (MarkK × Note)
  withdrawn : List (ByteArray × Int)
  rulings : CR
  published : List NameK
  hash : Int
  history : List Note
  conflicts : List (NameK × Bool)
abbrev PL0 : PL := ⟨[], [], [], [], 0, [], []⟩
def plOf (L : Led) : PL := ⟨L.issues, L.withdrawn, crOf L, L.published, L.hash, L.history, L.conflicts⟩
def findR (C : CR) (k : NameK) : Option (Note × List (Int × Bool)) := C.find? fun y => decide (nm y.1 = k)
def hasSigned (y : Note × List (Int × Bool)) (n : Int) : Bool := (getM y.2 n).getD false
def pOk (P : PL) (x : Note) : Bool :=
  if x.nt.kind = 1 then (getM P.issues (isk x)).isNone
  else if x.nt.kind = 2 then (getM P.issues (isk x)).isSome
  else if x.nt.kind = 6 then (match findR P.rulings (rfk x) with | some y => !hasSigned y x.nt.judge | none => false)
  else if x.nt.kind = 7 then x.nt.prev == P.hash
  else true
def pTake (P : PL) (x : Note) : PL :=
  if x.nt.kind = 1 then { P with issues := putM P.issues (isk x) x, history := P.history ++ [x] }
  else if x.nt.kind = 2 then { P with withdrawn := putM P.withdrawn x.nt.call (max ((getM P.withdrawn x.nt.call).getD 0) x.nt.version), history := P.history ++ [x] }
  else if x.nt.kind = 6 then { P with rulings := P.rulings.map fun y => if nm y.1 = rfk x then (y.1, putM y.2 x.nt.judge true) else y }
  else if x.nt.kind = 7 then { P with hash := x.nt.hash, published := P.published ++ [nm x] }
  else { P with rulings := P.rulings ++ [(x, [(x.nt.judge, true)])] }
def pStep (P : PL) (x : Note) : PL := if pOk P x = true then pTake P x else { P with conflicts := putM P.conflicts (nm x) true }
theorem sgOk_pl {ds : List Note} {L : Led} {x : Note} (h : RulInv ds L) (hr : (L.rulings.map (·.r)).Nodup) : sgOk L x = (match findR (crOf L) (rfk x) with | some y => !hasSigned y x.nt.judge | none => false) := by
  have hf : findR (crOf L) (rfk x) = (findN L (rfk x)).map keyR := by
    unfold findR crOf findN
    rw [List.find?_map]
    rfl
  rw [hf]
  unfold sgOk
  rw [h.names]
  cases hc : findN L (rfk x) with
  | none => rfl
  | some y =>
    have hy : y ∈ L.rulings := List.mem_of_find?_eq_some hc
    have hat : rulAt L y.r = some y := by
      unfold rulAt
      have := find_unique (f := fun z : RulB => z.r) hr hy
      rw [show (fun z : RulB => z.r == y.r) = fun z => decide (z.r = y.r) from funext fun z => rfl]
      exact this
    simp only [Option.map_some, hat]
    rfl
theorem StepB.pl {ds : List Note} {L L1 : Led} {x : Note} {ok : Bool} (h : RulInv ds L) (hr : (L.rulings.map (·.r)).Nodup) (hx : ∀ y ∈ ds, nm y ≠ nm x) (hk : 1 ≤ x.nt.kind ∧ x.nt.kind ≤ 7) (hs : StepB x L ok L1) : ok = pOk (plOf L) x ∧ plOf L1 = if ok = true then pTake (plOf L) x else plOf L := by
  have hcr : crOf L1 = rulStep (crOf L) x := by
    have := (h.stepB hr hx hk hs).cr
    rw [List.foldl_append, ← h.cr] at this
    exact this
  unfold StepB at hs
  unfold pOk pTake
  by_cases k1 : x.nt.kind = 1
  · rw [if_pos k1] at hs
    rw [if_pos k1, if_pos k1]
    obtain ⟨rfl, rfl⟩ := hs
    refine ⟨rfl, ?_⟩
    split <;> rfl
  · rw [if_neg k1] at hs
    rw [if_neg k1, if_neg k1]
    by_cases k2 : x.nt.kind = 2
    · rw [if_pos k2] at hs
      rw [if_pos k2, if_pos k2]
      obtain ⟨rfl, rfl⟩ := hs
      refine ⟨rfl, ?_⟩
      split <;> rfl
    · rw [if_neg k2] at hs
      rw [if_neg k2, if_neg k2]
      by_cases k6 : x.nt.kind = 6
      · rw [if_pos k6] at hs
        rw [if_pos k6, if_pos k6]
        obtain ⟨hok, hL⟩ := hs
        refine ⟨hok.trans (sgOk_pl h hr), ?_⟩
        have hst : rulStep (crOf L) x = (crOf L).map fun y => if nm y.1 = rfk x then (y.1, signC x.nt.judge y.2) else y := by
          unfold rulStep
          rw [if_neg (by omega), if_pos k6]
        cases ok with
        | false => rw [hL, ← hok]; rfl
        | true =>
          have hso := sgOk_pl (x := x) h hr
          rw [← hok] at hso
          have hother : L1.issues = L.issues ∧ L1.withdrawn = L.withdrawn ∧ L1.published = L.published ∧ L1.hash = L.hash ∧ L1.history = L.history ∧ L1.conflicts = L.conflicts := by
            rw [hL, ← hok]
            unfold sgLed
            rw [if_pos rfl]
            split <;> exact ⟨rfl, rfl, rfl, rfl, rfl, rfl⟩
          obtain ⟨e1, e2, e3, e4, e5, e6⟩ := hother
          have e7 : crOf L1 = (crOf L).map fun y => if nm y.1 = rfk x then (y.1, putM y.2 x.nt.judge true) else y := by
            rw [hcr, hst]
            refine List.map_congr_left fun y hy => ?_
            by_cases e : nm y.1 = rfk x
            · rw [if_pos e, if_pos e]
              have hap : ((crOf L).map fun y => nm y.1).Nodup := by unfold crOf; rw [List.map_map]; exact h.apart
              have hfy : findR (crOf L) (rfk x) = some y := by
                rw [← e]
                exact find_unique (f := fun z : Note × List (Int × Bool) => nm z.1) hap hy
              rw [hfy] at hso
              simp only at hso
              have hns : hasSigned y x.nt.judge = false := by
                cases hh : hasSigned y x.nt.judge
                · rfl
                · rw [hh] at hso; cases hso
              unfold hasSigned at hns
              unfold signC
              rw [if_neg (by rw [hns]; simp)]
            · rw [if_neg e, if_neg e]
          rw [if_pos rfl]
          unfold plOf
          rw [e1, e2, e3, e4, e5, e6, e7]
      · rw [if_neg k6] at hs
        rw [if_neg k6, if_neg k6]
        by_cases k7 : x.nt.kind = 7
        · rw [if_pos k7] at hs
          rw [if_pos k7, if_pos k7]
          obtain ⟨rfl, rfl⟩ := hs
          refine ⟨rfl, ?_⟩
          split <;> rfl
        · rw [if_neg k7] at hs
          rw [if_neg k7, if_neg k7]
          obtain ⟨rfl, r, j, rfl⟩ := hs
          refine ⟨rfl, ?_⟩
          rw [if_pos rfl]
          unfold plOf
          rw [hcr]
          unfold rulStep ruleLed
          rw [if_neg (by omega), if_neg k6]
theorem steps_pl {L0 L : Led} {ds : List Note} (h : Steps L0 ds L) : L0 = Led0 → (ds.map nm).Nodup → (∀ x ∈ ds, 1 ≤ x.nt.kind ∧ x.nt.kind ≤ 7) → (L.rulings.map (·.r)).Nodup → plOf L = ds.foldl pStep PL0 := by
  induction h with
  | nil => intro h0 _ _ _; subst h0; rfl
  | @snoc L1 L2 xs x h h2 ih =>
    intro h0 hn hk hr
    obtain ⟨ok, K, hK, rfl⟩ := h2
    have hrK : (K.rulings.map (·.r)).Nodup := by cases ok <;> exact hr
    obtain ⟨t, ht⟩ := hK.places
    have hr1 : (L1.rulings.map (·.r)).Nodup := by rw [ht] at hrK; exact (List.nodup_append.1 hrK).1
    rw [List.map_append, List.nodup_append] at hn
    have hI := steps_cr h h0 hn.1 (fun y hy => hk y (List.mem_append_left _ hy)) hr1
    have hJ := hK.pl hI hr1 (fun y hy => hn.2.2 _ (List.mem_map_of_mem hy) _ (by simp)) (hk x (by simp))
    have hP := ih h0 hn.1 (fun y hy => hk y (List.mem_append_left _ hy)) hr1
    rw [List.foldl_append, ← hP]
    show _ = pStep (plOf L1) x
    obtain ⟨h1, h2⟩ := hJ
    unfold pStep
    rw [← h1]
    cases ok with
    | true => exact h2
    | false =>
      show (⟨K.issues, K.withdrawn, crOf K, K.published, K.hash, K.history, putM K.conflicts (nm x) true⟩ : PL) = _
      have e : plOf K = plOf L1 := h2
      rw [if_neg (by simp), ← e]
      rfl

/-! Without the notes' own addresses. -/
def can (x : Note) : Note := x.with (.slice none 0 0) (.slice none 0 0)
theorem getM_map {κ ν μ : Type} [DecidableEq κ] (f : ν → μ) (m : List (κ × ν)) (k : κ) : getM (m.map fun p => (p.1, f p.2)) k = (getM m k).map f := by
  induction m with
  | nil => rfl
  | cons p m ih =>
    simp only [List.map_cons]
    unfold getM
    by_cases e : p.1 = k
    · rw [if_pos e, if_pos e]; rfl
    · rw [if_neg e, if_neg e]; exact ih
theorem putM_map {κ ν μ : Type} [DecidableEq κ] (f : ν → μ) (m : List (κ × ν)) (k : κ) (y : ν) : putM (m.map fun p => (p.1, f p.2)) k (f y) = (putM m k y).map fun p => (p.1, f p.2) := by
  induction m with
  | nil => rfl
  | cons p m ih =>
    simp only [List.map_cons]
    unfold putM
    by_cases e : p.1 = k
    · rw [if_pos e, if_pos e]; rfl
    · rw [if_neg e, if_neg e, List.map_cons, ← ih]
abbrev canI (p : MarkK × Note) : MarkK × Note := (p.1, can p.2)
abbrev canR (y : Note × List (Int × Bool)) : Note × List (Int × Bool) := (can y.1, y.2)
def canP (P : PL) : PL := { P with issues := P.issues.map canI, rulings := P.rulings.map canR, history := P.history.map can }
theorem findR_can (C : CR) (k : NameK) : findR (C.map canR) k = (findR C k).map canR := by
  unfold findR
  rw [List.find?_map]
  rfl
theorem pOk_can (P : PL) (x : Note) : pOk (canP P) (can x) = pOk P x := by
  unfold pOk canP
  have e1 : getM (P.issues.map canI) (isk (can x)) = (getM P.issues (isk x)).map can := getM_map can P.issues (isk x)
  have e2 : findR (P.rulings.map canR) (rfk (can x)) = (findR P.rulings (rfk x)).map canR := findR_can _ _
  simp only [e1, e2, Option.isNone_map, Option.isSome_map]
  show (if x.nt.kind = 1 then _ else if x.nt.kind = 2 then _ else if x.nt.kind = 6 then _ else if x.nt.kind = 7 then (x.nt.prev == P.hash) else true) = _
  congr 3
  cases findR P.rulings (rfk x) <;> rfl
theorem pTake_can (P : PL) (x : Note) : pTake (canP P) (can x) = canP (pTake P x) := by
  unfold pTake
  show (if x.nt.kind = 1 then _ else if x.nt.kind = 2 then _ else if x.nt.kind = 6 then _ else if x.nt.kind = 7 then _ else _) = _
  by_cases k1 : x.nt.kind = 1
  · rw [if_pos k1, if_pos k1]
    unfold canP
    have e1 : putM (P.issues.map canI) (isk (can x)) (can x) = (putM P.issues (isk x) x).map canI := putM_map can P.issues (isk x) x
    simp only [e1, List.map_append, List.map_cons, List.map_nil]
  · rw [if_neg k1, if_neg k1]
    by_cases k2 : x.nt.kind = 2
    · rw [if_pos k2, if_pos k2]
      unfold canP
      simp only [List.map_append, List.map_cons, List.map_nil]
      rfl
    · rw [if_neg k2, if_neg k2]
      by_cases k6 : x.nt.kind = 6
      · rw [if_pos k6, if_pos k6]
        unfold canP
        simp only [List.map_map]
        congr 1
        refine List.map_congr_left fun y _ => ?_
        simp only [Function.comp]
        show (if nm y.1 = rfk x then _ else _) = _
        by_cases e : nm y.1 = rfk x
        · rw [if_pos e, if_pos e]; rfl
        · rw [if_neg e, if_neg e]
      · rw [if_neg k6, if_neg k6]
        by_cases k7 : x.nt.kind = 7
        · rw [if_pos k7, if_pos k7]; rfl
        · rw [if_neg k7, if_neg k7]
          unfold canP
          simp only [List.map_append, List.map_cons, List.map_nil]
          rfl
theorem pStep_can (P : PL) (x : Note) : pStep (canP P) (can x) = canP (pStep P x) := by
  unfold pStep
  rw [pOk_can]
  split
  · exact pTake_can P x
  · rfl
theorem fold_can (ds : List Note) (P : PL) : (ds.map can).foldl pStep (canP P) = canP (ds.foldl pStep P) := by
  induction ds generalizing P with
  | nil => rfl
  | cons x ds ih => rw [List.map_cons, List.foldl_cons, List.foldl_cons, pStep_can, ih]
/-- Two runs over notes of the same content, one after the other in order, come to the same. -/
theorem same_run {xs1 xs2 ds1 ds2 : List Note} {L1 L2 : Led} (hx : xs1.map can = xs2.map can) (hn : (xs1.map nm).Nodup) (hk : ∀ x ∈ xs1, 1 ≤ x.nt.kind ∧ x.nt.kind ≤ 7) (p1 : ds1.Perm xs1) (p2 : ds2.Perm xs2) (o1 : InOrder ds1) (o2 : InOrder ds2) (s1 : Steps Led0 ds1 L1) (s2 : Steps Led0 ds2 L2) (r1 : (L1.rulings.map (·.r)).Nodup) (r2 : (L2.rulings.map (·.r)).Nodup) :
    canP (plOf L1) = canP (plOf L2) ∧ ds1.map can = ds2.map can := by
  have hn1 : ((xs1.map can).map nm) = xs1.map nm := by rw [List.map_map]; rfl
  have hn2 : xs2.map nm = xs1.map nm := by rw [← hn1, hx, List.map_map]; rfl
  have hk2 : ∀ x ∈ xs2, 1 ≤ x.nt.kind ∧ x.nt.kind ≤ 7 := fun x h => by
    have : can x ∈ xs1.map can := by rw [hx]; exact List.mem_map_of_mem h
    obtain ⟨y, hy, e⟩ := List.mem_map.1 this
    have h1 := hk y hy
    have h2 : (can y).nt.kind = (can x).nt.kind := by rw [e]
    exact h2 ▸ h1
  have i1 := steps_pl s1 rfl ((p1.map nm).nodup_iff.2 hn) (fun x hx => hk x (p1.mem_iff.1 hx)) r1
  have i2 := steps_pl s2 rfl ((p2.map nm).nodup_iff.2 (by rw [hn2]; exact hn)) (fun x hx => hk2 x (p2.mem_iff.1 hx)) r2
  have hds : ds1.map can = ds2.map can := by
    refine ds_unique (xs := xs1.map can) (p1.map can) (by rw [hx]; exact p2.map can) (List.pairwise_map.2 o1) (List.pairwise_map.2 o2) fun a ha b hb e => inj_of_nodup (f := nm) (by rw [hn1]; exact hn) ha hb e
  refine ⟨?_, hds⟩
  rw [i1, i2, ← fold_can, ← fold_can, hds]
end Go.Proofs.YtlamogpdkmbeoaaGreatDoor
end PartLedP
