/- The texts QuoP, QuoA, QuoB, QuoR, JoinQ in one. -/
import Derived.Test.YtlamogpdkmbeoaaGreatDoorZaChJ
import Derived.Test.YtlamogpdkmbeoaaGreatDoorZaReg
import Derived.Test.YtlamogpdkmbeoaaGreatDoorZaFold
import Derived.Test.YtlamogpdkmbeoaaGreatDoorZaJoin
section PartQuoP
/- Overrulings: what notes amount to does not depend on where they lie; quorums. Plain facts. -/
set_option linter.unusedVariables false
set_option linter.unusedSimpArgs false
set_option maxRecDepth 100000
namespace Go.Proofs.YtlamogpdkmbeoaaGreatDoor
open Go.RowKit Go.Lib Go.Shelf Go.Maps

abbrev CR := List (Note × List (Int × Bool))
def signC (n : Int) (js : List (Int × Bool)) : List (Int × Bool) := if (getM js n).getD false = true then js else putM js n true
def rulStep (C : CR) (x : Note) : CR :=
  if x.nt.kind = 1 ∨ x.nt.kind = 2 ∨ x.nt.kind = 7 then C
  else if x.nt.kind = 6 then C.map fun y => if nm y.1 = rfk x then (y.1, signC x.nt.judge y.2) else y
  else C ++ [(x, [(x.nt.judge, true)])]
abbrev keyR (y : RulB) : Note × List (Int × Bool) := (y.note, y.judges)
def crOf (L : Led) : CR := L.rulings.map keyR
def findN (L : Led) (k : NameK) : Option RulB := L.rulings.find? fun y => decide (nm y.note = k)
/-- How a ledger's names lead to its overrulings. -/
structure RulInv (ds : List Note) (L : Led) : Prop where
  names : ∀ k, getM L.byName k = (findN L k).map (·.r)
  mem : ∀ y ∈ L.rulings, y.note ∈ ds
  apart : (L.rulings.map fun y => nm y.note).Nodup
  cr : crOf L = ds.foldl rulStep []
theorem find_unique {α β : Type} [DecidableEq β] {f : α → β} : ∀ {l : List α}, (l.map f).Nodup → ∀ {y : α}, y ∈ l → l.find? (fun z => decide (f z = f y)) = some y
  | [], _, y, h => by cases h
  | a :: l, hn, y, h => by
    rw [List.map_cons, List.nodup_cons] at hn
    by_cases e : f a = f y
    · rcases List.mem_cons.1 h with rfl | h
      · simp
      · exact absurd (by rw [e]; exact List.mem_map_of_mem h) hn.1
    · rcases List.mem_cons.1 h with rfl | h
      · exact absurd rfl e
      · rw [List.find?_cons_of_neg (by simpa using e)]
        exact find_unique hn.2 h
theorem inj_of_nodup {α β : Type} {f : α → β} {l : List α} (hn : (l.map f).Nodup) {y z : α} (hy : y ∈ l) (hz : z ∈ l) (e : f y = f z) : y = z := by
  obtain ⟨i, hi, rfl⟩ := List.getElem_of_mem hy
  obtain ⟨j, hj, rfl⟩ := List.getElem_of_mem hz
  have : i = j := by
    have h := List.nodup_iff_pairwise_ne.1 hn
    rcases Nat.lt_trichotomy i j with h1 | h1 | h1
    · exact absurd (by rw [List.getElem_map, List.getElem_map]; exact e) (List.pairwise_iff_getElem.1 h i j (by rw [List.length_map]; exact hi) (by rw [List.length_map]; exact hj) h1)
    · exact h1
    · exact absurd (by rw [List.getElem_map, List.getElem_map]; exact e.symm) (List.pairwise_iff_getElem.1 h j i (by rw [List.length_map]; exact hj) (by rw [List.length_map]; exact hi) h1)
  subst this
  rfl
theorem RulInv.same {ds : List Note} {L L' : Led} {x : Note} (h : RulInv ds L) (h1 : L'.rulings = L.rulings) (h2 : L'.byName = L.byName) (hs : rulStep (crOf L) x = crOf L) : RulInv (ds ++ [x]) L' := by
  refine ⟨fun k => ?_, fun y hy => ?_, ?_, ?_⟩
  · unfold findN; rw [h1, h2]; exact h.names k
  · rw [h1] at hy; exact List.mem_append_left _ (h.mem y hy)
  · rw [h1]; exact h.apart
  · rw [List.foldl_append, ← h.cr]
    show crOf L' = rulStep (crOf L) x
    rw [hs]
    unfold crOf
    rw [h1]
theorem sign_r (r : Nat) (n : Int) (y : RulB) : (signAt r n y).r = y.r ∧ (signAt r n y).note = y.note := by unfold signAt; split <;> exact ⟨rfl, rfl⟩
theorem RulInv.stepB {ds : List Note} {L L1 : Led} {x : Note} {ok : Bool} (h : RulInv ds L) (hr : (L.rulings.map (·.r)).Nodup) (hx : ∀ y ∈ ds, nm y ≠ nm x) (hk : 1 ≤ x.nt.kind ∧ x.nt.kind ≤ 7) (hs : StepB x L ok L1) : RulInv (ds ++ [x]) L1 := by
  unfold StepB at hs
  have triv : x.nt.kind = 1 ∨ x.nt.kind = 2 ∨ x.nt.kind = 7 → rulStep (crOf L) x = crOf L := fun hc => if_pos hc
  split at hs
  · rename_i k1
    obtain ⟨_, rfl⟩ := hs
    split
    · exact h.same rfl rfl (triv (.inl k1))
    · exact h.same rfl rfl (triv (.inl k1))
  · rename_i k1
    split at hs
    · rename_i k2
      obtain ⟨_, rfl⟩ := hs
      split
      · exact h.same rfl rfl (triv (.inr (.inl k2)))
      · exact h.same rfl rfl (triv (.inr (.inl k2)))
    · rename_i k2
      split at hs
      · rename_i k6
        obtain ⟨_, rfl⟩ := hs
        have hst : rulStep (crOf L) x = (crOf L).map fun y => if nm y.1 = rfk x then (y.1, signC x.nt.judge y.2) else y := by
          unfold rulStep
          rw [if_neg (by omega), if_pos k6]
        cases hf : findN L (rfk x) with
        | none =>
          have hg : getM L.byName (rfk x) = none := by rw [h.names, hf]; rfl
          have hso : sgOk L x = false := by unfold sgOk; rw [hg]
          rw [hso]
          refine h.same rfl rfl ?_
          rw [hst]
          unfold crOf
          rw [List.map_map]
          refine List.map_congr_left fun y hy => ?_
          have : ¬ nm y.note = rfk x := by
            have := List.find?_eq_none.1 hf y hy
            simpa using this
          simp only [Function.comp]
          rw [if_neg this]
        | some y =>
          have hy : y ∈ L.rulings := List.mem_of_find?_eq_some hf
          have hyn : nm y.note = rfk x := by have := List.find?_some hf; simpa using this
          have hg : getM L.byName (rfk x) = some y.r := by rw [h.names, hf]; rfl
          have hat : rulAt L y.r = some y := by
            unfold rulAt
            have := find_unique (f := fun z : RulB => z.r) hr hy
            rw [show (fun z : RulB => z.r == y.r) = fun z => decide (z.r = y.r) from funext fun z => rfl]
            exact this
          have hso : sgOk L x = !signed y x.nt.judge := by unfold sgOk; rw [hg]; simp only [hat]
          rw [hso]
          have hone : ∀ z ∈ L.rulings, nm z.note = rfk x → z = y := fun z hz e => inj_of_nodup h.apart hz hy (e.trans hyn.symm)
          cases hsg : signed y x.nt.judge with
          | true =>
            refine h.same rfl rfl ?_
            rw [hst]
            unfold crOf
            rw [List.map_map]
            refine List.map_congr_left fun z hz => ?_
            simp only [Function.comp]
            by_cases e : nm z.note = rfk x
            · rw [if_pos e, hone z hz e]
              unfold signed at hsg
              unfold signC
              rw [if_pos hsg]
            · rw [if_neg e]
          | false =>
            simp only [Bool.not_false, if_true]
            have hL : sgLed L x = { L with rulings := L.rulings.map (signAt y.r x.nt.judge) } := by unfold sgLed; rw [hg]
            rw [hL]
            refine ⟨fun k => ?_, fun z hz => ?_, ?_, ?_⟩
            · show getM L.byName k = _
              rw [h.names k]
              unfold findN
              rw [List.find?_map, Option.map_map]
              have e1 : ((fun z : RulB => decide (nm z.note = k)) ∘ signAt y.r x.nt.judge) = fun z : RulB => decide (nm z.note = k) := funext fun z => by simp only [Function.comp, (sign_r y.r x.nt.judge z).2]
              rw [e1]
              cases L.rulings.find? (fun z : RulB => decide (nm z.note = k)) with
              | none => rfl
              | some z => simp only [Option.map_some, Function.comp, (sign_r y.r x.nt.judge z).1]
            · obtain ⟨z', hz', rfl⟩ := List.mem_map.1 hz
              rw [(sign_r _ _ _).2]
              exact List.mem_append_left _ (h.mem z' hz')
            · show ((L.rulings.map (signAt y.r x.nt.judge)).map fun z => nm z.note).Nodup
              rw [List.map_map, show ((fun z : RulB => nm z.note) ∘ signAt y.r x.nt.judge) = fun z : RulB => nm z.note from funext fun z => by simp only [Function.comp, (sign_r y.r x.nt.judge z).2]]
              exact h.apart
            · rw [List.foldl_append, ← h.cr]
              show ((L.rulings.map (signAt y.r x.nt.judge)).map keyR) = rulStep (crOf L) x
              rw [hst]
              unfold crOf
              rw [List.map_map, List.map_map]
              refine List.map_congr_left fun z hz => ?_
              simp only [Function.comp]
              by_cases e : nm z.note = rfk x
              · rw [if_pos e, hone z hz e]
                unfold signed at hsg
                unfold signAt signC keyR
                rw [if_pos rfl, if_neg (by rw [hsg]; simp)]
              · rw [if_neg e]
                have : z.r ≠ y.r := fun e2 => e (by rw [inj_of_nodup (f := fun z : RulB => z.r) hr hz hy e2]; exact hyn)
                unfold signAt
                rw [if_neg this]
      · rename_i k6
        split at hs
        · rename_i k7
          obtain ⟨_, rfl⟩ := hs
          split
          · exact h.same rfl rfl (triv (.inr (.inr k7)))
          · exact h.same rfl rfl (triv (.inr (.inr k7)))
        · rename_i k7
          obtain ⟨_, r, j, rfl⟩ := hs
          have hst : rulStep (crOf L) x = crOf L ++ [(x, [(x.nt.judge, true)])] := by
            unfold rulStep
            rw [if_neg (by omega), if_neg k6]
          have hno : ∀ y ∈ L.rulings, nm y.note ≠ nm x := fun y hy => hx _ (h.mem y hy)
          refine ⟨fun k => ?_, fun z hz => ?_, ?_, ?_⟩
          · show getM (putM L.byName (nm x) r) k = _
            rw [getM_put]
            unfold findN
            show _ = ((L.rulings ++ [(⟨r, j, x, [(x.nt.judge, true)]⟩ : RulB)]).find? _).map _
            rw [List.find?_append]
            by_cases e : nm x = k
            · rw [if_pos e]
              have : L.rulings.find? (fun y => decide (nm y.note = k)) = none := List.find?_eq_none.2 fun y hy => by
                have := hno y hy
                rw [e] at this
                simpa using this
              rw [this]
              simp [e]
            · rw [if_neg e, h.names k]
              unfold findN
              cases L.rulings.find? (fun y => decide (nm y.note = k)) with
              | some z => rfl
              | none => simp [e]
          · rcases List.mem_append.1 hz with hz | hz
            · exact List.mem_append_left _ (h.mem z hz)
            · simp only [List.mem_singleton] at hz
              subst hz
              simp
          · show ((L.rulings ++ [(⟨r, j, x, [(x.nt.judge, true)]⟩ : RulB)]).map fun y => nm y.note).Nodup
            rw [List.map_append, List.nodup_append]
            refine ⟨h.apart, by simp, fun a ha b hb e => ?_⟩
            obtain ⟨y, hy, rfl⟩ := List.mem_map.1 ha
            simp only [List.map_cons, List.map_nil, List.mem_singleton] at hb
            exact hno y hy (e.trans hb)
          · rw [List.foldl_append, ← h.cr]
            show (L.rulings ++ [(⟨r, j, x, [(x.nt.judge, true)]⟩ : RulB)]).map keyR = rulStep (crOf L) x
            rw [hst, List.map_append]
            rfl
/-- The steps' earlier overrulings lie where they lay. -/
theorem StepB.places {x : Note} {L L1 : Led} {ok : Bool} (hs : StepB x L ok L1) : ∃ t, L1.rulings.map (·.r) = L.rulings.map (·.r) ++ t := by
  unfold StepB at hs
  split at hs
  · obtain ⟨_, rfl⟩ := hs; exact ⟨[], by split <;> simp [logLed]⟩
  · split at hs
    · obtain ⟨_, rfl⟩ := hs; exact ⟨[], by split <;> simp [wdLed]⟩
    · split at hs
      · obtain ⟨_, rfl⟩ := hs
        refine ⟨[], ?_⟩
        split
        · unfold sgLed
          split
          · rw [List.append_nil, List.map_map]
            exact List.map_congr_left fun z _ => (sign_r _ _ z).1
          · simp
        · simp
      · split at hs
        · obtain ⟨_, rfl⟩ := hs; exact ⟨[], by split <;> simp [pubLed]⟩
        · obtain ⟨_, r, j, rfl⟩ := hs
          exact ⟨[r], by simp [ruleLed]⟩
theorem steps_cr {L0 L : Led} {ds : List Note} (h : Steps L0 ds L) : L0 = Led0 → (ds.map nm).Nodup → (∀ x ∈ ds, 1 ≤ x.nt.kind ∧ x.nt.kind ≤ 7) → (L.rulings.map (·.r)).Nodup → RulInv ds L := by
  induction h with
  | nil => intro h0 _ _ _; subst h0; exact ⟨fun k => rfl, fun y hy => by simp [Led0] at hy, by simp [Led0], rfl⟩
  | @snoc L1 L2 xs x h h2 ih =>
    intro h0 hn hk hr
    obtain ⟨ok, K, hK, rfl⟩ := h2
    have hrK : (K.rulings.map (·.r)).Nodup := by cases ok <;> exact hr
    obtain ⟨t, ht⟩ := hK.places
    have hr1 : (L1.rulings.map (·.r)).Nodup := by rw [ht] at hrK; exact (List.nodup_append.1 hrK).1
    rw [List.map_append, List.nodup_append] at hn
    have hI := ih h0 hn.1 (fun y hy => hk y (List.mem_append_left _ hy)) hr1
    have hJ := hI.stepB hr1 (fun y hy => hn.2.2 _ (List.mem_map_of_mem hy) _ (by simp)) (hk x (by simp)) hK
    cases ok
    · exact ⟨hJ.names, hJ.mem, hJ.apart, hJ.cr⟩
    · exact hJ
theorem ds_unique {ds1 ds2 xs : List Note} (h1 : ds1.Perm xs) (h2 : ds2.Perm xs) (o1 : InOrder ds1) (o2 : InOrder ds2) (hn : ∀ a ∈ xs, ∀ b ∈ xs, nm a = nm b → a = b) : ds1 = ds2 := by
  refine List.Perm.eq_of_pairwise ?_ o1 o2 (h1.trans h2.symm)
  intro a b ha hb p q
  refine hn a (h1.mem_iff.1 ha) b (h2.mem_iff.1 hb) ?_
  have c1 := cmpInt_is.anti a.nt.clock b.nt.clock
  have c2 := cmpInt_is.anti a.nt.judge b.nt.judge
  have c3 := cmpInt_is.anti a.nt.num b.nt.num
  unfold cmpWhen cmpName at p q
  have e : a.nt.judge = b.nt.judge ∧ a.nt.num = b.nt.num := by
    unfold orI compareInt at p q
    by_cases l1 : a.nt.clock < b.nt.clock
    · exact absurd (by simp [l1]) q
    · by_cases l2 : b.nt.clock < a.nt.clock
      · exact absurd (by simp [l2]) p
      · have ec : a.nt.clock = b.nt.clock := by omega
        by_cases l3 : a.nt.judge < b.nt.judge
        · exact absurd (by simp [ec, l3]) q
        · by_cases l4 : b.nt.judge < a.nt.judge
          · exact absurd (by simp [ec, l4]) p
          · have ej : a.nt.judge = b.nt.judge := by omega
            by_cases l5 : a.nt.num < b.nt.num
            · exact absurd (by simp [ec, ej, l5]) q
            · by_cases l6 : b.nt.num < a.nt.num
              · exact absurd (by simp [ec, ej, l6]) p
              · exact ⟨ej, by omega⟩
  exact Prod.ext e.1 e.2
end Go.Proofs.YtlamogpdkmbeoaaGreatDoor
end PartQuoP

section PartQuoA
/- 'Rulings': all overrulings of a set of notes, in the order of their names. -/
set_option linter.unusedVariables false
set_option linter.unusedSimpArgs false
set_option maxRecDepth 100000
namespace Go.Proofs.YtlamogpdkmbeoaaGreatDoor
open Go.RowKit Go.Lib Go.Shelf Go.Maps Go.Sort

set_option maxHeartbeats 2000000 in
theorem ruls1_any (a b c d : Int) (u v : Value) (w : World) : Calls Tryz.prog 35 #[.agg #[.int .i64 a, .int .i64 b, u], .agg #[.int .i64 c, .int .i64 d, v]] w fun e w' => e = .returned (.int .i64 (cmpName a b c d)) ∧ Grown w w' := by
  have hc := fun W => compareNames_any a b c d W
  generalize cmpName a b c d = q at hc ⊢
  obtain ⟨W, hW⟩ : ∃ W, (w.alloc (.cells #[.int .i64 a, .int .i64 b, u] 53)).alloc (.cells #[.int .i64 c, .int .i64 d, v] 53) = W := ⟨_, rfl⟩
  have hg : Grown w W := by rw [← hW]; exact ((Grown.refl w).alloc _).alloc _
  have hA : Blk W w.heap.size 53 #[.int .i64 a, .int .i64 b, u] := by rw [← hW]; exact (Blk.new w _ _).alloc _
  have hB : Blk W (w.heap.size + 1) 53 #[.int .i64 c, .int .i64 d, v] := by rw [← hW]; have := Blk.new (w.alloc (.cells #[.int .i64 a, .int .i64 b, u] 53)) 53 #[.int .i64 c, .int .i64 d, v]; rwa [World.size_alloc] at this
  have a0 : W.cell? ⟨w.heap.size, 0, none⟩ = some (.int .i64 a) := hA.cell 0
  have a1 : W.cell? ⟨w.heap.size, 1, none⟩ = some (.int .i64 b) := hA.cell 1
  have b0 : W.cell? ⟨w.heap.size + 1, 0, none⟩ = some (.int .i64 c) := hB.cell 0
  have b1 : W.cell? ⟨w.heap.size + 1, 1, none⟩ = some (.int .i64 d) := hB.cell 1
  have HG := Lib.hid hg
  clear hg hA hB
  go_enter Tryz.func35, Tryz.ntmps35
  go_upto_region 1 with fail
  clear hW
  go_wp2_with (go_at_call 36; refine (hc _).mono ?_; rintro e w1 ⟨rfl, hg1⟩)
  go_ret
  exact ⟨rfl, HG.out.trans hg1⟩
theorem lays_ruls1 (blk off size : Nat) (w : World) : CmpLays Tryz.prog 35 #[] SRul.cells 3 cmpR2 blk off size w := fun m os dk _ x y => ruls1_any _ _ _ _ _ _ _
theorem ruls1_enters : ∀ args w, (callFunc 35 args).run Tryz.prog w = .ok (.enter 35 args) w := enters_of Tryz.func35 (by kernel_rfl) rfl
theorem sortRuls1_any (d : Array SRul) (blk off cap : Nat) (w : World) (hH : HoldsK SRul.cells 3 w blk off d) (hblk : blk < w.heap.size) (hsz : d.size < 4611686018427387904) :
    Calls Tryz.prog 34 #[.slice (some ⟨blk, off, none⟩) d.size cap, .func (.func 35) #[] #[]] w fun e w' => e = .returned (.tuple #[]) ∧ ∃ d' n os, PermIn 0 d.size d d' ∧ SortedIn (ltOf cmpR2) 0 d.size d' ∧ w' = sortWorldK SRul.cells 3 w blk off n d' os :=
  AnyQ.slices_SortFunc Tryz.sortRulings 3 Tryz.isAgg53 Tryz.sizeOf53 SRul.cells (fun _ => rfl) rul_ones cmpR2 cmpR2_swo 35 #[] blk off cap d w ruls1_enters (lays_ruls1 _ _ _ _) hH hblk hsz
theorem sortPend1_any (base : Nat) (w : World) (v : Value) (ps : List Pend) (h : PendAt base w v ps) (hl : ps.length ≤ 100000) :
    Calls Tryz.prog 34 #[v, .func (.func 35) #[] #[]] w fun e w' => (∃ u, e = .returned u) ∧ ∃ ps' : List Pend, ps'.Perm ps ∧ PendOrd ps' ∧ RowsAt Pend.enc 3 w' v ps' ∧ w.grownBy w' v.ownBlock := by
  rcases h.row.2 with ⟨hv, h0⟩ | ⟨g, cap, cur, hv, hb, hg, hrest⟩
  · subst hv
    have : ps = [] := List.eq_nil_of_length_eq_zero h0
    subst this
    refine (AnyF.slices_SortFunc_none Tryz.sortRulings none 0 (.func (.func 35) #[] #[]) w).mono ?_
    rintro e w' ⟨rfl, rfl⟩
    exact ⟨⟨_, rfl⟩, [], List.Perm.refl _, List.Pairwise.nil, RowsAt.nil _ _, ⟨rfl, rfl, rfl, Nat.le_refl _, fun i _ _ => rfl⟩⟩
  · have hone : ∀ p ∈ ps, p.v.oneCell' = true := fun p hp => own_one (h.each p hp).row
    have hcell : ∀ p ∈ ps, (toRul p).cells = p.enc := fun p hp => by rw [toRul_of (hone p hp)]
    have hfm : (ps.map toRul).flatMap SRul.cells = ps.flatMap Pend.enc := by
      rw [List.flatMap_map]
      exact flatMap_congr' (fun p hp => hcell p hp)
    have hrow := h.row
    rw [hv] at hrow
    have hsz : (ps.map toRul).toArray.size = ps.length := by simp
    obtain ⟨hH, hlt⟩ := holdsRul (ps.map toRul).toArray base g cap w (by rw [hsz]; simpa [hfm] using hrow)
    have hso := sortRuls1_any (ps.map toRul).toArray g 0 cap w hH hlt (by simp; omega)
    rw [hsz] at hso
    rw [hv]
    refine hso.mono ?_
    rintro e w' ⟨rfl, d', n, os, h1, h2, rfl⟩
    obtain ⟨p1, p2⟩ := perm_of_in hsz h1
    obtain ⟨ps', h3, h4⟩ := perm_map_inv (f := toRul) (l := ps) (m := d'.toList) (p1.trans (by simp))
    have hpl : ps'.length = ps.length := h3.length_eq
    refine ⟨⟨_, rfl⟩, ps', h3, ?_, ?_, grown_sortK SRul.cells 3 d'⟩
    · have hp := pairwise_of_in p2 h2
      rw [← h4, List.pairwise_map] at hp
      refine hp.imp_of_mem (fun {a b} ha hb hab => ?_)
      have e1 := toRul_of (hone a (h3.mem_iff.1 ha))
      have e2 := toRul_of (hone b (h3.mem_iff.1 hb))
      unfold ltOf at hab
      rw [e1, e2] at hab
      have := (cmpNm_is.le_iff (a.rul.note.nt.judge, a.rul.note.nt.num) (b.rul.note.nt.judge, b.rul.note.nt.num)).2
      exact this (by simpa using hab)
    · have hr := rows_sortK SRul.cells 3 (fun _ => rfl) (n := n) (os := os) (ps.map toRul).toArray d' hH hlt (by rw [p2, hsz]) (by rw [p2]; unfold maxLen; omega) cap
      rw [p2, ← h4] at hr
      obtain ⟨A, c, e1, e2, e3⟩ := hr
      refine ⟨A, c, ?_, by rw [hpl]; unfold maxLen; omega, fun j hj => ?_⟩
      · rw [hpl, e1]; simp [hpl]
      · obtain ⟨b, o, q1, q2, q3⟩ := e3 j (by simpa using hj)
        refine ⟨b, o, q1, q2, fun i u hu => q3 i u ?_⟩
        have : (ps'.map toRul)[j]'(by simpa using hj) = toRul ps'[j] := by simp
        rw [this]
        show (toRul ps'[j]).cells[i]? = some u
        rw [hcell _ (h3.mem_iff.1 (List.getElem_mem hj))]
        exact hu
theorem own_apart {w : World} {base base' : Nat} {e e' : TypeId} {size size' : Nat} {v v' : Value} {n n' : Nat} {xs xs' : List Value} (h : w.ownsRow base e size v n xs) (h' : w.ownsRow base' e' size' v' n' xs') (hne : e ≠ e') : v'.ownBlock = none ∨ v'.ownBlock ≠ v.ownBlock := by
  rcases h'.2 with ⟨rfl, _⟩ | ⟨g', cap', cur', rfl, _, hg', _⟩
  · exact .inl rfl
  · refine .inr fun e1 => ?_
    rcases h.2 with ⟨rfl, _⟩ | ⟨g, cap, cur, rfl, _, hg, _⟩
    · simp [Value.ownBlock] at e1
    · have : g' = g := by simpa [Value.ownBlock] using e1
      subst this
      rw [hg] at hg'
      simp at hg'
      exact hne hg'.2
/-- What 'Rulings' hands back. -/
def RulsOut (o : Lay) (xs : List Note) (base : Nat) (w : World) (u : Value) (er : Int) : Prop :=
  (setB o xs = true ∧ er = 0 ∧ ∃ L ds ps, ds.Perm xs ∧ InOrder ds ∧ Steps Led0 ds L ∧ (L.rulings.map (·.r)).Nodup ∧ RowsAt Pend.enc 3 w u ps ∧ (∀ p ∈ ps, PendOk base w p) ∧ (ps.map (·.rul)).Perm L.rulings ∧ PendOrd ps) ∨
  (setB o xs = false ∧ er = 1 ∧ u = .slice none 0 0)
set_option maxHeartbeats 8000000 in
theorem Rulings_any (o : Lay) (v : Value) (xs : List Note) (w : World) (h : NotesAt w v xs) (hE : Env w) :
    Calls Tryz.prog 14 #[o.val, v] w fun e w' => ∃ u er, e = .returned (.tuple #[u, .int .i64 er]) ∧ RulsOut o xs w.heap.size w' u er ∧ Below w.heap.size w w' := by
  obtain ⟨R, hR⟩ : ∃ R, R = setB o xs := ⟨_, rfl⟩
  have hiS := fun W (hb : Below w.heap.size w W) => isSet_any o v xs W (h.later hb) (hE.below hE.big hb)
  have HG : Hid (setB o xs = true → (∀ x ∈ xs, GoodN x) ∧ xs.length ≤ 2000) := Lib.hid (fun e => ⟨fun x hx => goodN (setB_good e x hx), setB_len e⟩)
  unfold RulsOut
  rw [← hR] at hiS HG ⊢
  clear hR
  have HN := Lib.hid h
  obtain ⟨A, c, rfl⟩ := h.row.len
  obtain ⟨o1, o2, o3⟩ := o
  dsimp only [Lay.val] at hiS ⊢
  have hbO := below_alloc0 (w := w) (.cells #[.bool o1, .bool o2, .bool o3] 23)
  have hi := hiS _ hbO
  have HBO := Lib.hid hbO
  clear hE h hiS hbO
  cases R
  · go_enter Tryz.func14, Tryz.ntmps14
    go_wp2_with (go_at_call 31; (with_reducible refine hi.mono ?_); rintro e w1 ⟨rfl, hb1⟩)
    go_ret2
    exact ⟨_, _, rfl, Or.inr ⟨by trivial, by trivial, by trivial⟩, HBO.out.trans (hb1.mono HBO.out.size)⟩
  · obtain ⟨hgood, hlen⟩ := HG.out rfl
    have HGD := Lib.hid hgood
    have HLEN := Lib.hid hlen
    clear hgood hlen HG
    have hent := fun W (hb : Below w.heap.size w W) => enter_any (.slice A xs.length c) xs W (HN.out.later hb) HLEN.out (fun x hx => (HGD.out x hx).note ((HN.out.later hb).each x hx))
    have HENT := Lib.hid hent
    clear hent
    go_enter Tryz.func14, Tryz.ntmps14
    go_upto_region 4 with (go_at_call 31; (with_reducible refine hi.mono ?_); rintro e w1 ⟨rfl, hb1⟩)
    have hB1 : Below w.heap.size w w1 := HBO.out.trans (hb1.mono HBO.out.size)
    have HB1 := Lib.hid hB1
    have he := HENT.out w1 hB1
    clear hi hb1 hB1
    have hs1 : w.heap.size ≤ w1.heap.size := HB1.out.size
    go_upto_region 5 with (first
      | (go_at_call 32; (with_reducible refine he.mono ?_); rintro e w2 ⟨g, L, ds, rfl, hp, hor, hst, hsz2, hled, hb2⟩; obtain ⟨bI, bW, bN, bC, rv, pv, hv, hL⟩ := hled; obtain ⟨A3, m3, c3, rfl⟩ := own_slice hL.rulings; have cg : w2.cell? ⟨g, 2, none⟩ = some (.slice A3 m3 c3) := hL.cells.cell 2))
    obtain rfl : m3 = L.rulings.length := own_len hL.rulings
    have hln : ds.length ≤ 2000 := by rw [hp.length_eq]; exact HLEN.out
    have hlo := ledOf hst (fun x hx => (HGD.out x (hp.mem_iff.1 hx)).kind)
    have hrl : L.rulings.length ≤ 2000 := Nat.le_trans hlo.rulingsN hln
    have hjl : ∀ x ∈ L.rulings, x.judges.length ≤ 2001 := fun x hx => by have := (hlo.rulings x hx).2.2; omega
    have hrow : RowsAt (fun x : RulB => [encP x.r]) 1 w2 (.slice A3 L.rulings.length c3) L.rulings := by
      refine rows_of_owns 1 (fun _ => rfl) (base := w1.heap.size) (e := 93) ?_
      have e : L.rulings.flatMap (fun x : RulB => [encP x.r]) = L.rulings.map (fun x => encP x.r) := by
        generalize L.rulings = T
        induction T with
        | nil => rfl
        | cons a T ih => rw [List.flatMap_cons, ih]; rfl
      rw [e]
      exact hL.rulings
    have HROW := Lib.hid hrow
    have HLL := Lib.hid hL
    have HJL := Lib.hid hjl
    have HB2 := Lib.hid (HB1.out.trans (hb2.mono hs1))
    have HFIN : Hid (ds.Perm xs ∧ InOrder ds ∧ Steps Led0 ds L ∧ (L.rulings.map (·.r)).Nodup) := Lib.hid ⟨hp, hor, hst, hL.rApart⟩
    have hs2 : w.heap.size ≤ w2.heap.size := HB2.out.size
    have URs := Tryz.underlying29
    obtain ⟨i0, hi0, hz0, hz1, hz2⟩ := infoRuling
    clear hrow hL hjl hb2 hp hor hst hlo hln hsz2 cg he
    go_loopw [6, 19] (fun s6 s19 wr => ∃ (k : Nat) (ps : List Pend), k ≤ L.rulings.length ∧ s19 = .int .i64 k ∧ Hid (ps.map (·.rul) = L.rulings.take k) ∧ Hid (PendAt w2.heap.size wr s6 ps) ∧ Hid (Below w2.heap.size w2 wr)) (fun _ s19 _ => L.rulings.length - (intOf s19).toNat)
    case atStart => exact ⟨0, [], Nat.zero_le _, rfl, Lib.hid rfl, Lib.hid ⟨World.ownsRow_nil _ _ _ _, fun x hx => by cases hx⟩, Lib.hid (Below.refl _ _)⟩
    case round =>
      obtain ⟨k, ps, hk, rfl, hps, hpa, hbr⟩ := hrel
      have hsr : w2.heap.size ≤ wr.heap.size := hbr.out.size
      by_cases hlt : k < L.rulings.length
      · obtain ⟨x, hx⟩ : ∃ x, x = L.rulings[k] := ⟨_, rfl⟩
        have hxm : x ∈ L.rulings := by rw [hx]; exact List.getElem_mem hlt
        have hNX : Hid (L.rulings.take (k + 1) = L.rulings.take k ++ [x]) := Lib.hid (by rw [List.take_succ_eq_append_getElem hlt, ← hx])
        obtain ⟨b3, o3, rfl, hcc⟩ : ∃ b3 o3, A3 = some ⟨b3, o3, none⟩ ∧ wr.cell? ⟨b3, o3 + k, none⟩ = some (encP x.r) := by
          obtain ⟨A2, c2, e1, _, e3⟩ := HROW.out.later hbr.out
          obtain ⟨b2, o2, e4, e5, e6⟩ := e3 k hlt
          injection e1 with e1 _ _
          exact ⟨b2, o2, e1.trans e4, by have := e6 0 (encP L.rulings[k].r) rfl; rw [Nat.mul_one] at this; rw [hx]; exact this⟩
        have hLr := HLL.out.later hbr.out
        have htd := told_any x wr (hLr.rul x hxm) (hLr.jud x hxm) (by have := HJL.out x hxm; omega)
        have hpl : ps.length ≤ 2000 := by
          have := congrArg List.length hps.out
          rw [List.length_map, List.length_take] at this
          omega
        have HTD := Lib.hid htd
        clear hx hxm hLr htd
        go_wp2_with (first
          | (go_at_call 33; (with_reducible refine HTD.out.mono ?_); rintro e w4 ⟨vv, js, rfl, hjp, hjr, hb4⟩; obtain ⟨Av, mv, kv, rfl⟩ := own_slice hjr)
          | (at_builtin; refine wpList_append_lies _ rfl _ _ 29 rfl w2.heap.size 53 i0 _ 3 40 URs hi0 hz0 hz1 hz2 rfl (by decide) u6 ps.length (ps.flatMap Pend.enc) rfl ((hpa.out.later hb4).row.alloc _) ⟨w4.heap.size, 0, none⟩ 1 1 [.int .i64 x.note.nt.judge, .int .i64 x.note.nt.num, .slice Av mv kv] rfl rfl (World.news_of_block (Blk.new w4 _ _)) (by simp [Value.oneCell']) (by decide) (by unfold maxLen; omega) (by omega) (by have := hb4.size; simp; omega) _ rfl ?_; intro g' cap w5 ho5 hg5 hat5 hlt5))
        have hb8 : Below wr.heap.size wr (w4.alloc (.cells #[.int .i64 x.note.nt.judge, .int .i64 x.note.nt.num, .slice Av mv kv] 53)) := hb4.alloc hb4.size _
        have hpok : PendOk w2.heap.size (w4.alloc (.cells #[.int .i64 x.note.nt.judge, .int .i64 x.note.nt.num, .slice Av mv kv] 53)) ⟨x, .slice Av mv kv, js⟩ := ⟨hjp, own_later (ownsRow_base_a hjr hsr) (below_alloc0 _)⟩
        have hpn := (hpa.out.later hb8).push ⟨x, .slice Av mv kv, js⟩ hpok hg5 ho5
        have hbn : Below w2.heap.size w2 w5 := (hbr.out.trans (hb8.mono hsr)).grown hg5 (by have := hb8.size; omega) (fun j e => (hpa.out.row.lt j e).1)
        exact ⟨⟨k + 1, ps ++ [⟨x, .slice Av mv kv, js⟩], by omega, by simp, Lib.hid (by rw [hNX.out, List.map_append, hps.out]; rfl), Lib.hid hpn, Lib.hid hbn⟩, by simp [intOf]; omega⟩
      · have hkn : k = L.rulings.length := by omega
        have hps' : Hid (ps.map (·.rul) = L.rulings) := Lib.hid (by rw [hps.out, hkn, List.take_length])
        have hpl : ps.length ≤ 100000 := by
          have := congrArg List.length hps'.out
          rw [List.length_map] at this
          omega
        have hso := sortPend1_any w2.heap.size wr u6 ps hpa.out hpl
        have HSO := Lib.hid hso
        clear hso hkn
        go_wp2_with (go_at_call 34; (with_reducible refine HSO.out.mono ?_); rintro e w6 ⟨⟨u', rfl⟩, ps', hp1, hp2, hp3, hg6⟩)
        go_ret2
        have hown := hpa.out.row
        refine ⟨_, _, rfl, Or.inl ⟨by trivial, by trivial, L, ds, ps', HFIN.out.1, HFIN.out.2.1, HFIN.out.2.2.1, HFIN.out.2.2.2, hp3, fun p hp => ?_, ?_, hp2⟩, ?_⟩
        · have h0 := hpa.out.each p (hp1.mem_iff.1 hp)
          exact ⟨h0.perm, (ownsRow_base_a h0.row hs2).kept hg6 (own_apart hown h0.row (by decide))⟩
        · rw [← hps'.out]
          exact hp1.map _
        · exact (HB2.out.trans (hbr.out.mono hs2)).grown hg6 (by omega) (fun j e => by have := (hown.lt j e).1; omega)
end Go.Proofs.YtlamogpdkmbeoaaGreatDoor
end PartQuoA

section PartQuoB
/- The reference's 'SameRulings'. -/
set_option linter.unusedVariables false
set_option linter.unusedSimpArgs false
set_option maxRecDepth 100000
namespace Go.Proofs.YtlamogpdkmbeoaaGreatDoor
open Go.RowKit Go.Lib Go.Shelf Go.Maps

/-- An overruling as it is handed back: its name, the slice of its judges, the judges. -/
structure RL where
  k : NameK
  v : Value
  js : List Int
abbrev RL.enc (x : RL) : List Value := [.int .i64 x.k.1, .int .i64 x.k.2, x.v]
abbrev RL.dat (x : RL) : NameK × List Int := (x.k, x.js)
structure RulsAt (w : World) (v : Value) (rs : List RL) : Prop where
  row : RowsAt RL.enc 3 w v rs
  each : ∀ x ∈ rs, RowsAt encI 1 w x.v x.js
theorem RulsAt.later {w w' : World} {v : Value} {rs : List RL} (h : RulsAt w v rs) (hb : Below w.heap.size w w') : RulsAt w' v rs := ⟨h.row.later hb, fun x hx => (h.each x hx).later hb⟩
theorem take_succ_eq' {xs ys : List Int} {k : Nat} (h1 : k < xs.length) (h2 : k < ys.length) (ht : xs.take k = ys.take k) (h : xs[k] = ys[k]) : xs.take (k + 1) = ys.take (k + 1) := by
  rw [List.take_succ_eq_append_getElem h1, List.take_succ_eq_append_getElem h2, ht, h]
theorem neqName (a b a' b' : Int) (w : World) : (binOp .neq 37 (.agg #[.int .i64 a, .int .i64 b]) (.agg #[.int .i64 a', .int .i64 b'])).run Tryz.prog w = .ok (.bool (!(a == a' && b == b'))) w := by
  have u3 := Tryz.underlying3
  have a3 := Tryz.isAgg3
  have z3 := Tryz.sizeOf3
  have hS : Tryz.prog.underlying 37 = some (.struct (Tryz.prog.fieldsOf 37)) := by kernel_rfl
  have hp : Tryz.prog.stoodInHeld 37 = false := by kernel_rfl
  rw [run_neq_struct, show (10000 : Nat) = 9999 + 1 from rfl, run_equalIn_agg w 9999 37 _ _ hS hp]
  simp only [Program.fieldsOf, Tryz.underlying37]
  go_simp
  cases h1 : (a == a') <;> cases h2 : (b == b') <;> simp_all
set_option maxHeartbeats 4000000 in
theorem SameRulings_any (v1 v2 : Value) (rs qs : List RL) (w : World) (h1 : RulsAt w v1 rs) (h2 : RulsAt w v2 qs) :
    Calls Tryz.prog 15 #[v1, v2] w fun e w' => e = .returned (.bool (decide (rs.map (·.dat) = qs.map (·.dat)))) ∧ Below w.heap.size w w' := by
  have hm := h1.row.max
  unfold maxLen at hm
  have UNm := Tryz.underlying37
  by_cases hn : rs.length = qs.length
  · have H1 := Lib.hid h1
    have H2 := Lib.hid h2
    have HN := Lib.hid hn
    obtain ⟨A1, c1, rfl⟩ := h1.row.len
    obtain ⟨A2, c2, rfl⟩ := h2.row.len
    rw [← hn]
    obtain ⟨n, hnn⟩ : ∃ n, n = rs.length := ⟨_, rfl⟩
    have HNN := Lib.hid hnn
    rw [← hnn] at hm ⊢
    clear h1 h2 hn hnn
    go_enter Tryz.func15, Tryz.ntmps15
    go_upto_region 4 with fail
    go_loopw [5] (fun s5 wr => ∃ k : Nat, k ≤ n ∧ s5 = .int .i64 k ∧ Hid ((rs.map (·.dat)).take k = (qs.map (·.dat)).take k) ∧ Hid (Below w.heap.size w wr)) (fun s5 _ => n - (intOf s5).toNat)
    case atStart => exact ⟨0, Nat.zero_le _, rfl, Lib.hid rfl, Lib.hid (Below.refl _ _)⟩
    case round =>
      obtain ⟨k, hk, rfl, htk, hb⟩ := hrel
      by_cases hlt : k < n
      · have hk1 : k < rs.length := by have := HNN.out; omega
        have hk2 : k < qs.length := by have := HN.out; omega
        obtain ⟨x, hx⟩ : ∃ x, x = rs[k] := ⟨_, rfl⟩
        obtain ⟨y, hy⟩ : ∃ y, y = qs[k] := ⟨_, rfl⟩
        have hxm : x ∈ rs := by rw [hx]; exact List.getElem_mem hk1
        have hym : y ∈ qs := by rw [hy]; exact List.getElem_mem hk2
        have hstep : x.dat = y.dat → (rs.map (·.dat)).take (k + 1) = (qs.map (·.dat)).take (k + 1) := fun e => by
          rw [List.take_succ_eq_append_getElem (by simpa using hk1), List.take_succ_eq_append_getElem (by simpa using hk2), htk.out, List.getElem_map, List.getElem_map, ← hx, ← hy, e]
        have hdiff : x.dat ≠ y.dat → rs.map (·.dat) ≠ qs.map (·.dat) := fun hne e => by
          apply hne
          have := congrArg (fun l => l[k]?) e
          simp only [List.getElem?_map, List.getElem?_eq_getElem hk1, List.getElem?_eq_getElem hk2, Option.map_some, Option.some.injEq] at this
          rw [hx, hy]; exact this
        rcases H1.out.row.place with ⟨e0, _⟩ | ⟨g1, o1, c1', e1, _, _, hg1, hcell1⟩
        · rw [e0] at hk1; simp at hk1
        rcases H2.out.row.place with ⟨e0, _⟩ | ⟨g2, o2, c2', e2, _, _, hg2, hcell2⟩
        · rw [e0] at hk2; simp at hk2
        injection e1 with e1 e11 e12
        injection e2 with e2 e21 e22
        clear e11 e12 e21 e22
        subst e1
        subst e2
        have hbx := H1.out.each x hxm
        have hby := H2.out.each y hym
        obtain ⟨Ax, cx, hxv⟩ := hbx.len
        obtain ⟨Ay, cy, hyv⟩ := hby.len
        obtain ⟨⟨xa, xb⟩, xv, xj⟩ := x
        obtain ⟨⟨ya, yb⟩, yv, yj⟩ := y
        dsimp only at hxv hyv hstep hdiff hbx hby
        subst hxv
        subst hyv
        have hcx : ∀ W, Below w.heap.size w W → W.cell? ⟨g1, o1 + k * 3, none⟩ = some (.int .i64 xa) ∧ W.cell? ⟨g1, o1 + k * 3 + 1, none⟩ = some (.int .i64 xb) ∧ W.cell? ⟨g1, o1 + k * 3 + 2, none⟩ = some (.slice Ax xj.length cx) := fun W hW =>
          ⟨(hW.cell (p := ⟨g1, o1 + k * 3, none⟩) hg1).trans (hcell1 k hk1 0 _ (by rw [← hx]; rfl)), (hW.cell (p := ⟨g1, o1 + k * 3 + 1, none⟩) hg1).trans (hcell1 k hk1 1 _ (by rw [← hx]; rfl)), (hW.cell (p := ⟨g1, o1 + k * 3 + 2, none⟩) hg1).trans (hcell1 k hk1 2 _ (by rw [← hx]; rfl))⟩
        have hcy : ∀ W, Below w.heap.size w W → W.cell? ⟨g2, o2 + k * 3, none⟩ = some (.int .i64 ya) ∧ W.cell? ⟨g2, o2 + k * 3 + 1, none⟩ = some (.int .i64 yb) ∧ W.cell? ⟨g2, o2 + k * 3 + 2, none⟩ = some (.slice Ay yj.length cy) := fun W hW =>
          ⟨(hW.cell (p := ⟨g2, o2 + k * 3, none⟩) hg2).trans (hcell2 k hk2 0 _ (by rw [← hy]; rfl)), (hW.cell (p := ⟨g2, o2 + k * 3 + 1, none⟩) hg2).trans (hcell2 k hk2 1 _ (by rw [← hy]; rfl)), (hW.cell (p := ⟨g2, o2 + k * 3 + 2, none⟩) hg2).trans (hcell2 k hk2 2 _ (by rw [← hy]; rfl))⟩
        have HCX := Lib.hid hcx
        have HCY := Lib.hid hcy
        have HBX := Lib.hid hbx
        have HBY := Lib.hid hby
        have HST := Lib.hid hstep
        have HDF := Lib.hid hdiff
        obtain ⟨x0, x1, x2⟩ := hcx wr hb.out
        obtain ⟨y0, y1, y2⟩ := hcy wr hb.out
        have qn := fun W => neqName xa xb ya yb W
        clear hx hy hxm hym hstep hdiff hcell1 hcell2 hbx hby hcx hcy hk1 hk2
        by_cases hnm : xa = ya ∧ xb = yb
        · rw [show (xa == ya && xb == yb) = true by simp [hnm.1, hnm.2]] at qn
          by_cases hll : xj.length = yj.length
          · go_upto_region 6 with fail
            go_quiet (fail)
            obtain ⟨w1, hw1⟩ : ∃ w1, wr.drewN nq = w1 := ⟨_, rfl⟩
            have hb1 : Below w.heap.size w w1 := by rw [← hw1]; exact below_drewN' hb.out _
            rw [hw1]
            have HB1 := Lib.hid hb1
            have HLE := Lib.hid hll
            obtain ⟨m, hmm⟩ : ∃ m, m = yj.length := ⟨_, rfl⟩
            have HMM := Lib.hid hmm
            have hm9 : m ≤ 9223372036854775807 := by have := HBY.out.max; unfold maxLen at this; omega
            rw [← hmm]
            clear hw1 hb1 x0 x1 x2 y0 y1 y2 qn hll hmm
            go_upto_region 9 with fail
            go_loopw [6] (fun s6 wi => ∃ j : Nat, j ≤ m ∧ s6 = .int .i64 j ∧ Hid (xj.take j = yj.take j) ∧ Hid (Below w.heap.size w wi)) (fun s6 _ => m - (intOf s6).toNat)
            case atStart => exact ⟨0, Nat.zero_le _, rfl, Lib.hid rfl, HB1⟩
            case round =>
              obtain ⟨j, hj, rfl, htj, hbi⟩ := hrel
              obtain ⟨x0, x1, x2⟩ := HCX.out wr hbi.out
              obtain ⟨y0, y1, y2⟩ := HCY.out wr hbi.out
              rw [HLE.out, ← HMM.out] at x2
              rw [← HMM.out] at y2
              by_cases hjl : j < m
              · have hj1 : j < xj.length := by have := HLE.out; have := HMM.out; omega
                have hj2 : j < yj.length := by have := HMM.out; omega
                obtain ⟨p, hp⟩ : ∃ p, p = xj[j] := ⟨_, rfl⟩
                obtain ⟨q, hq⟩ : ∃ q, q = yj[j] := ⟨_, rfl⟩
                have hjs : p = q → xj.take (j + 1) = yj.take (j + 1) := fun e => take_succ_eq' hj1 hj2 htj.out (by rw [← hp, ← hq, e])
                have hjd : p ≠ q → xj ≠ yj := fun hne e => by
                  apply hne
                  rw [hp, hq]
                  subst e
                  rfl
                rcases HBX.out.place with ⟨e0, _⟩ | ⟨gx, ox, cx', ex, _, _, hgx, hcellx⟩
                · rw [e0] at hj1; simp at hj1
                rcases HBY.out.place with ⟨e0, _⟩ | ⟨gy, oy, cy', ey, _, _, hgy, hcelly⟩
                · rw [e0] at hj2; simp at hj2
                injection ex with ex e11 e12
                injection ey with ey e21 e22
                clear e11 e12 e21 e22
                subst ex
                subst ey
                have cp : wr.cell? ⟨gx, ox + j, none⟩ = some (.int .i64 p) := (hbi.out.cell (p := ⟨gx, ox + j, none⟩) hgx).trans (by have := hcellx j hj1 0 _ rfl; rw [Nat.mul_one] at this; rw [hp]; exact this)
                have cq : wr.cell? ⟨gy, oy + j, none⟩ = some (.int .i64 q) := (hbi.out.cell (p := ⟨gy, oy + j, none⟩) hgy).trans (by have := hcelly j hj2 0 _ rfl; rw [Nat.mul_one] at this; rw [hq]; exact this)
                have HJS := Lib.hid hjs
                have HJD := Lib.hid hjd
                clear hp hq hjs hjd hcellx hcelly hj1 hj2
                by_cases hpq : p = q
                · have hj3 := Lib.hid (HJS.out hpq)
                  subst hpq
                  go_upto_region 11 with fail
                  go_quiet (fail)
                  go_wp2
                  exact ⟨⟨j + 1, by omega, by simp, hj3, Lib.hid (below_drewN' hbi.out _)⟩, by simp [intOf]; omega⟩
                · have hne : Hid (rs.map (·.dat) ≠ qs.map (·.dat)) := Lib.hid (HDF.out (fun e => HJD.out hpq (by injection e)))
                  go_upto_region 11 with fail
                  go_quiet (fail)
                  go_wp2
                  go_ret
                  exact ⟨by rw [decide_eq_false hne.out]; rfl, below_drewN' hbi.out _⟩
              · have heq : xj = yj := by
                  have e1 : j = xj.length := by have := HLE.out; have := HMM.out; omega
                  have := htj.out
                  rw [e1, List.take_length, HLE.out, List.take_length] at this
                  exact this
                have hs3 := Lib.hid (HST.out (by rw [hnm.1, hnm.2, heq]))
                clear heq
                go_wp2
                exact ⟨⟨k + 1, by omega, by simp, hs3, hbi⟩, by simp [intOf]; omega⟩
          · have hne : Hid (rs.map (·.dat) ≠ qs.map (·.dat)) := Lib.hid (HDF.out (fun e => hll (by have := congrArg (fun t : NameK × List Int => t.2.length) e; exact this)))
            have hlz : ¬ (xj.length : Int) = yj.length := by omega
            go_upto_region 6 with fail
            go_quiet (fail)
            go_wp2
            go_ret
            exact ⟨by rw [decide_eq_false hne.out]; rfl, below_drewN' hb.out _⟩
        · have hne : Hid (rs.map (·.dat) ≠ qs.map (·.dat)) := Lib.hid (HDF.out (fun e => hnm (by have := congrArg (fun t : NameK × List Int => t.1) e; exact ⟨congrArg Prod.fst this, congrArg Prod.snd this⟩)))
          rw [show (xa == ya && xb == yb) = false by
            cases hz : (xa == ya && xb == yb) with
            | false => rfl
            | true => exact absurd (by simpa using hz) hnm] at qn
          go_upto_region 6 with fail
          go_quiet (fail)
          go_wp2
          go_ret
          exact ⟨by rw [decide_eq_false hne.out]; rfl, below_drewN' hb.out _⟩
      · have hkn : Hid (rs.map (·.dat) = qs.map (·.dat)) := Lib.hid (by
          have e1 : k = rs.length := by have := HNN.out; omega
          have := htk.out
          rw [e1] at this
          have e2 := HN.out
          rw [List.take_of_length_le (by simp), List.take_of_length_le (by simp; omega)] at this
          exact this)
        go_wp2
        go_ret
        exact ⟨by rw [decide_eq_true hkn.out]; rfl, hb.out⟩
  · obtain ⟨A, c, rfl⟩ := h1.row.len
    obtain ⟨A2, c2, rfl⟩ := h2.row.len
    have hne : Hid (rs.map (·.dat) ≠ qs.map (·.dat)) := Lib.hid (fun e => hn (by have := congrArg List.length e; simpa using this))
    have hn' : ¬ (rs.length : Int) = qs.length := by omega
    clear h1 h2
    go_enter Tryz.func15, Tryz.ntmps15
    go_wp2
    go_ret
    exact ⟨by rw [decide_eq_false hne.out]; rfl, Below.refl _ _⟩
end Go.Proofs.YtlamogpdkmbeoaaGreatDoor
end PartQuoB

section PartQuoR
/- Overrulings that wait, quorums: plain facts. -/
set_option linter.unusedVariables false
set_option linter.unusedSimpArgs false
set_option maxRecDepth 100000
namespace Go.Proofs.YtlamogpdkmbeoaaGreatDoor
open Go.RowKit Go.Lib Go.Shelf Go.Maps

theorem pend_fold (q : Int) : ∀ (l : List RulB) (s : RS), (l.foldl (regStep q) s).pending = s.pending ++ l.filter (fun x => decide ((x.judges.length : Int) < q))
  | [], s => by simp
  | x :: l, s => by
    rw [List.foldl_cons, pend_fold q l]
    unfold regStep
    by_cases h : (x.judges.length : Int) < q
    · rw [if_pos h, List.filter_cons_of_pos (by simpa using h)]
      simp
    · rw [if_neg h, List.filter_cons_of_neg (by simpa using h)]
      split
      · rfl
      · split
        · rfl
        · split <;> rfl
theorem none_fold (q : Int) : ∀ (l : List RulB) (s : RS), (∀ x ∈ l, (x.judges.length : Int) < q) → (l.foldl (regStep q) s).struck = s.struck ∧ (l.foldl (regStep q) s).force = s.force ∧ (l.foldl (regStep q) s).forbid = s.forbid
  | [], s, _ => ⟨rfl, rfl, rfl⟩
  | x :: l, s, h => by
    have hx := h x (by simp)
    have := none_fold q l (regStep q s x) (fun y hy => h y (List.mem_cons_of_mem _ hy))
    rw [List.foldl_cons]
    have e : regStep q s x = { s with pending := s.pending ++ [x] } := by unfold regStep; rw [if_pos hx]
    rw [e] at this ⊢
    exact this
abbrev sortI (js : List Int) : List Int := js.mergeSort fun a b => decide (a ≤ b)
theorem sortI_perm {a b : List Int} (h : a.Perm b) : sortI a = sortI b := by
  refine List.Perm.eq_of_pairwise (le := fun a b => decide (a ≤ b) = true) (fun a b _ _ h1 h2 => by simp only [decide_eq_true_eq] at h1 h2; omega) ?_ ?_ (((List.mergeSort_perm _ _).trans h).trans (List.mergeSort_perm _ _).symm)
  · exact List.pairwise_mergeSort (fun a b c h1 h2 => by simp only [decide_eq_true_eq] at *; omega) (fun a b => by simp only [Bool.or_eq_true, decide_eq_true_eq]; omega) _
  · exact List.pairwise_mergeSort (fun a b c h1 h2 => by simp only [decide_eq_true_eq] at *; omega) (fun a b => by simp only [Bool.or_eq_true, decide_eq_true_eq]; omega) _
abbrev toRL (p : Pend) : RL := ⟨nm p.rul.note, p.v, sortI p.js⟩
abbrev keyP (p : Pend) : Note × List (Int × Bool) := keyR p.rul
abbrev datK (y : Note × List (Int × Bool)) : NameK × List Int := (nm y.1, sortI (y.2.map (·.1)))
theorem dat_key {p : Pend} (h : p.js.Perm (p.rul.judges.map (·.1))) : (toRL p).dat = datK (keyP p) := Prod.ext rfl (sortI_perm h)
theorem pends_eq {ps ws : List Pend} {C : CR} (hn : (C.map fun y => nm y.1).Nodup) (h1 : (ps.map keyP).Perm C) (h2 : (ws.map keyP).Perm C) (o1 : PendOrd ps) (o2 : PendOrd ws) : ps.map keyP = ws.map keyP := by
  refine List.Perm.eq_of_pairwise (le := fun a b : Note × List (Int × Bool) => cmpName a.1.nt.judge a.1.nt.num b.1.nt.judge b.1.nt.num ≤ 0) ?_ ?_ ?_ (h1.trans h2.symm)
  · intro a b ha hb l1 l2
    refine inj_of_nodup (f := fun y : Note × List (Int × Bool) => nm y.1) hn (h1.mem_iff.1 ha) (h2.mem_iff.1 hb) ?_
    have h0 : cmpNmK (nm a.1) (nm b.1) = 0 := by
      have := (cmpNm_is.anti (nm a.1) (nm b.1)).1
      have l1' : cmpNmK (nm a.1) (nm b.1) ≤ 0 := l1
      have l2' : cmpNmK (nm b.1) (nm a.1) ≤ 0 := l2
      by_cases h : cmpNmK (nm a.1) (nm b.1) < 0
      · have := this h; omega
      · omega
    exact cmpNm_is.eq _ _ h0
  · rw [List.pairwise_map]; exact o1
  · rw [List.pairwise_map]; exact o2
abbrev waits (q : Int) (p : Pend) : Bool := decide ((p.js.length : Int) < q)
theorem want_dat {q : Int} {L1 L2 : Led} {ps ws : List Pend} (hcr : crOf L1 = crOf L2) (hn : (L1.rulings.map fun y => nm y.note).Nodup) (h1 : (ws.map (·.rul)).Perm L1.rulings) (h2 : (ps.map (·.rul)).Perm (L2.rulings.filter fun x => decide ((x.judges.length : Int) < q)))
    (o1 : PendOrd ws) (o2 : PendOrd ps) (j1 : ∀ p ∈ ws, p.js.Perm (p.rul.judges.map (·.1))) (j2 : ∀ p ∈ ps, p.js.Perm (p.rul.judges.map (·.1))) :
    (ps.map toRL).map RL.dat = ((ws.filter (waits q)).map toRL).map RL.dat := by
  have hnC : ((crOf L1).map fun y => nm y.1).Nodup := by unfold crOf; rw [List.map_map]; exact hn
  obtain ⟨g, hg⟩ : ∃ g : Note × List (Int × Bool) → Bool, g = fun y => decide ((y.2.length : Int) < q) := ⟨_, rfl⟩
  have k1 : (ws.map keyP).Perm (crOf L1) := by have := h1.map keyR; rwa [List.map_map] at this
  have k2 : (ps.map keyP).Perm ((crOf L1).filter g) := by
    have := h2.map keyR
    rw [List.map_map] at this
    rw [hcr]
    unfold crOf
    rw [List.filter_map, hg]
    exact this
  have k3 : ((ws.filter (waits q)).map keyP).Perm ((crOf L1).filter g) := by
    have e : ws.filter (waits q) = ws.filter (g ∘ keyP) := List.filter_congr fun p hp => by
      rw [hg]
      simp only [Function.comp, waits]
      have := (j1 p hp).length_eq
      rw [List.length_map] at this
      rw [this]
    rw [e, ← List.filter_map]
    exact k1.filter g
  have hnF : (((crOf L1).filter g).map fun y => nm y.1).Nodup := List.Nodup.sublist (List.filter_sublist.map _) hnC
  have ke := pends_eq hnF k2 k3 o2 (o1.sublist List.filter_sublist)
  rw [List.map_map, List.map_map]
  have e1 : ps.map (RL.dat ∘ toRL) = (ps.map keyP).map datK := by rw [List.map_map]; exact List.map_congr_left fun p hp => dat_key (j2 p hp)
  have e2 : (ws.filter (waits q)).map (RL.dat ∘ toRL) = ((ws.filter (waits q)).map keyP).map datK := by rw [List.map_map]; exact List.map_congr_left fun p hp => dat_key (j1 p (List.mem_filter.1 hp).1)
  rw [e1, e2, ke]
theorem pend_count {q q' : Int} {L1 L2 : Led} {ps qs : List Pend} (hq : q ≤ q') (hcr : crOf L1 = crOf L2) (h1 : (ps.map (·.rul)).Perm (L1.rulings.filter fun x => decide ((x.judges.length : Int) < q))) (h2 : (qs.map (·.rul)).Perm (L2.rulings.filter fun x => decide ((x.judges.length : Int) < q'))) : ps.length ≤ qs.length := by
  have l1 := h1.length_eq
  have l2 := h2.length_eq
  rw [List.length_map] at l1 l2
  have c : ∀ (L : Led) (q : Int), (L.rulings.filter fun x => decide ((x.judges.length : Int) < q)).length = ((crOf L).filter fun y => decide ((y.2.length : Int) < q)).length := fun L q => by
    unfold crOf
    rw [List.filter_map, List.length_map]
    rfl
  rw [l1, l2, c, c, hcr]
  have : ∀ l : CR, (l.filter fun y => decide ((y.2.length : Int) < q)).length ≤ (l.filter fun y => decide ((y.2.length : Int) < q')).length := fun l => by
    induction l with
    | nil => simp
    | cons y l ih =>
      by_cases a : (y.2.length : Int) < q
      · rw [List.filter_cons_of_pos (by simpa using a), List.filter_cons_of_pos (by simp; omega)]
        simpa using ih
      · rw [List.filter_cons_of_neg (by simpa using a)]
        by_cases b : (y.2.length : Int) < q'
        · rw [List.filter_cons_of_pos (by simpa using b)]; simp; omega
        · rw [List.filter_cons_of_neg (by simpa using b)]; exact ih
  exact this _
/-- Where all notes are one judge's, each overruling has this judge's signature alone. -/
theorem alone_fold (n : Int) : ∀ (ds : List Note) (C : CR), (∀ x ∈ ds, x.nt.judge = n) → (∀ y ∈ C, y.2 = [(n, true)]) → ∀ y ∈ ds.foldl rulStep C, y.2 = [(n, true)]
  | [], C, _, hC => hC
  | x :: ds, C, hx, hC => by
    rw [List.foldl_cons]
    refine alone_fold n ds _ (fun y hy => hx y (List.mem_cons_of_mem _ hy)) ?_
    have hj := hx x (by simp)
    unfold rulStep
    split
    · exact hC
    · split
      · intro y hy
        obtain ⟨z, hz, rfl⟩ := List.mem_map.1 hy
        have := hC z hz
        split
        · show signC x.nt.judge z.2 = _
          unfold signC
          rw [hj, this, if_pos (by simp [getM])]
        · exact this
      · intro y hy
        rcases List.mem_append.1 hy with hy | hy
        · exact hC y hy
        · simp only [List.mem_singleton] at hy
          subst hy
          rw [hj]
theorem setB_of {o : Lay} {xs : List Note} (h1 : xs.length ≤ 2000) (h2 : ∀ x ∈ xs, x.good o = true) (h3 : xs.Pairwise ltName) : setB o xs = true := by
  unfold setB
  rw [Bool.and_eq_true]
  refine ⟨by simpa using h1, List.all_eq_true.2 fun i hi => ?_⟩
  have hi := List.mem_range.1 hi
  unfold setAt
  rw [Bool.and_eq_true]
  refine ⟨by rw [List.getD_eq_getElem?_getD, List.getElem?_eq_getElem hi]; exact h2 _ (List.getElem_mem hi), ?_⟩
  cases i with
  | zero => simp
  | succ i =>
    have := List.pairwise_iff_getElem.1 h3 i (i + 1) (by omega) hi (by omega)
    rw [Nat.add_sub_cancel, List.getD_eq_getElem?_getD, List.getD_eq_getElem?_getD, List.getElem?_eq_getElem (by omega), List.getElem?_eq_getElem hi]
    have hc : cmpN xs[i] xs[i + 1] = -1 := by
      unfold cmpN cmpName orI compareInt
      unfold ltName at this
      rcases this with h | ⟨h, h'⟩
      · simp [h]
      · simp [h, h']
    simp [hc]
theorem setB_pair {o : Lay} {xs : List Note} (h : setB o xs = true) : xs.Pairwise ltName := List.pairwise_iff_getElem.2 fun i j hi hj hij => setB_lt h j hj i hij
theorem setB_filter {o : Lay} {xs : List Note} (h : setB o xs = true) (p : Note → Bool) : setB o (xs.filter p) = true :=
  setB_of (Nat.le_trans (List.length_filter_le _ _) (setB_len h)) (fun x hx => setB_good h x (List.mem_filter.1 hx).1) ((setB_pair h).sublist List.filter_sublist)
theorem setB_nodup {o : Lay} {xs : List Note} (h : setB o xs = true) : (xs.map nm).Nodup := by
  rw [List.nodup_iff_pairwise_ne, List.pairwise_map]
  refine (setB_pair h).imp fun {a b} hab e => ?_
  have e1 : a.nt.judge = b.nt.judge := congrArg Prod.fst e
  have e2 : a.nt.num = b.nt.num := congrArg Prod.snd e
  unfold ltName at hab
  omega
/-- Two runs over one set of notes have the same overrulings. -/
theorem runs_same {o : Lay} {xs ds1 ds2 : List Note} {L1 L2 : Led} (h : setB o xs = true) (p1 : ds1.Perm xs) (p2 : ds2.Perm xs) (o1 : InOrder ds1) (o2 : InOrder ds2) (s1 : Steps Led0 ds1 L1) (s2 : Steps Led0 ds2 L2) (r1 : (L1.rulings.map (·.r)).Nodup) (r2 : (L2.rulings.map (·.r)).Nodup) :
    crOf L1 = crOf L2 ∧ (L1.rulings.map fun y => nm y.note).Nodup ∧ crOf L1 = ds1.foldl rulStep [] := by
  have hn := setB_nodup h
  have hk : ∀ x ∈ xs, 1 ≤ x.nt.kind ∧ x.nt.kind ≤ 7 := fun x hx => (goodN (setB_good h x hx)).kind
  have i1 := steps_cr s1 rfl ((p1.map nm).nodup_iff.2 hn) (fun x hx => hk x (p1.mem_iff.1 hx)) r1
  have i2 := steps_cr s2 rfl ((p2.map nm).nodup_iff.2 hn) (fun x hx => hk x (p2.mem_iff.1 hx)) r2
  have hds : ds1 = ds2 := ds_unique p1 p2 o1 o2 (fun a ha b hb e => inj_of_nodup hn ha hb e)
  exact ⟨by rw [i1.cr, i2.cr, hds], i1.apart, i1.cr⟩
end Go.Proofs.YtlamogpdkmbeoaaGreatDoor
end PartQuoR

section PartJoinQ
/- Four parameters. -/
set_option linter.unusedVariables false
set_option linter.unusedSimpArgs false
set_option maxRecDepth 100000
namespace Go.Proofs.YtlamogpdkmbeoaaGreatDoor
open Go.ChangeShapes Go.WideShapes Go.ChangeAt Go.RowKit Go.Deep Go.Shelf Go.Lib

theorem post4 {H : Type} {enc : TypeId × Value → H} {fid : FuncId} {f : Func} {t0 t1 t2 t3 : TypeId} {spec : ChangeSpec} (hp : f.params = #[t0, t1, t2, t3]) (hr : f.resultTypes = #[4]) (hv : spec.vars = [])
    (hfn : ∀ d d1 d2 d3 : DataW H, spec.fn H [d, d1, d2, d3] = { results := [.lit (.bool true)], args := [d, d1, d2, d3] }) (hread : Tryz.prog.readableRec t0 = true) (hrow : t0 < Tryz.prog.types.size) (hread1 : Tryz.prog.readableRec t1 = true) (hrow1 : t1 < Tryz.prog.types.size)
    (hread2 : Tryz.prog.readableRec t2 = true) (hrow2 : t2 < Tryz.prog.types.size) (hread3 : Tryz.prog.readableRec t3 = true) (hrow3 : t3 < Tryz.prog.types.size)
    {W : World} {base : Nat} {args : Array Value} {ds gs : List (DataW H)} {before : List MemPlace}
    (hval : ∀ (j : Nat) t v, f.params[j]? = some t → args[j]? = some v → Value.okWide Tryz.prog W .any base t v)
    (hW : DataW.Whole enc Tryz.prog f.params.toList spec.vars false W args.toList ds gs before)
    (walk : ∀ v0 d0 p0 v1 d1 p1 v2 d2 p2 v3 d3 p3, Value.okWide Tryz.prog W .any base t0 v0 → DataW.Trod enc Tryz.prog W 0 (fun _ => true) true t0 v0 d0 p0 → Value.okWide Tryz.prog W .any base t1 v1 → DataW.Trod enc Tryz.prog W 0 (fun _ => true) true t1 v1 d1 p1 →
      Value.okWide Tryz.prog W .any base t2 v2 → DataW.Trod enc Tryz.prog W 0 (fun _ => true) true t2 v2 d2 p2 →
      Value.okWide Tryz.prog W .any base t3 v3 → DataW.Trod enc Tryz.prog W 0 (fun _ => true) true t3 v3 d3 p3 →
      Calls Tryz.prog fid #[v0, v1, v2, v3] W fun e w' => e = .returned (.bool true) ∧ Below W.heap.size W w') :
    Calls Tryz.prog fid args W fun e W' => ∃ v, e = .returned v ∧ spec.post enc Tryz.prog f false true false false W args v W' := by
  have hW' := hW
  obtain ⟨p, q, hA, hV, rfl, hfz, hnd⟩ := hW
  rw [hp] at hA hval
  rw [hv] at hV
  obtain ⟨v0, vs0, d0, ds0, p0, q0, hargs, rfl, rfl, h0, r0⟩ := trodAll_cons hA
  obtain ⟨v1, vs1, d1, ds1, p1, q1, rfl, rfl, rfl, h1, r1⟩ := trodAll_cons r0
  obtain ⟨v2, vs2, d2, ds2, p2, q2, rfl, rfl, rfl, h2, r2⟩ := trodAll_cons r1
  obtain ⟨v3, vs3, d3, ds3, p3, q3, rfl, rfl, rfl, h3, r3⟩ := trodAll_cons r2
  obtain ⟨rfl, rfl, rfl⟩ := trodAll_nil r3
  obtain rfl : args = #[v0, v1, v2, v3] := by cases args; simp_all
  obtain ⟨rfl, rfl⟩ := trodVars_none hV
  refine (walk v0 d0 p0 v1 d1 p1 v2 d2 p2 v3 d3 p3 (hval 0 t0 v0 rfl rfl) h0 (hval 1 t1 v1 rfl rfl) h1 (hval 2 t2 v2 rfl rfl) h2 (hval 3 t3 v3 rfl rfl) h3).mono fun e W' ⟨he, hb⟩ => ?_
  subst he
  have hlt : ∀ x ∈ p0, x.block < W.heap.size := fun x hx => by simpa using hW'.lt x (by simp [hx])
  have hlt1 : ∀ x ∈ p1, x.block < W.heap.size := fun x hx => by simpa using hW'.lt x (by simp [hx])
  have hlt2 : ∀ x ∈ p2, x.block < W.heap.size := fun x hx => by simpa using hW'.lt x (by simp [hx])
  have hlt3 : ∀ x ∈ p3, x.block < W.heap.size := fun x hx => by simpa using hW'.lt x (by simp [hx])
  have h0' := Below.trod laidOutT hread hrow h0 hb hlt
  have h1' := Below.trod laidOutT hread1 hrow1 h1 hb hlt1
  have h2' := Below.trod laidOutT hread2 hrow2 h2 hb hlt2
  have h3' := Below.trod laidOutT hread3 hrow3 h3 hb hlt3
  refine ⟨_, rfl, _, _, _, [], p0 ++ (p1 ++ (p2 ++ p3)), [], by simpa using hW', ?_, ?_, ?_, hb.frame _, fun h => by cases h⟩
  · rw [hr]
    show DataW.TrodAll _ _ _ _ _ _ [4] [Value.bool true] _ _
    rw [List.append_nil, hfn]
    exact trodAll_cons_mk (p := []) (p' := []) (shut_bool Tryz.underlying4 _) trodAll_mk0
  · rw [hp, List.append_nil, hfn]
    have := trodAll_cons_mk h0' (trodAll_cons_mk h1' (trodAll_cons_mk h2' (trodAll_cons_mk h3' (trodAll_mk0 (enc := enc) (P := Tryz.prog) (w := W')))))
    simpa using this
  · rw [hv, List.append_nil, hfn]; rfl
end Go.Proofs.YtlamogpdkmbeoaaGreatDoor
end PartJoinQ
