/- The texts ChainJ, ChainW in one. -/
import Derived.Test.YtlamogpdkmbeoaaGreatDoorZaEnt
import Derived.Test.YtlamogpdkmbeoaaGreatDoorZaFold
import Derived.Test.YtlamogpdkmbeoaaGreatDoorZaAwk
section PartChainJ
/- The publications of a register are a row: plain facts. -/
set_option linter.unusedVariables false
set_option linter.unusedSimpArgs false
set_option maxRecDepth 100000
namespace Go.Proofs.YtlamogpdkmbeoaaGreatDoor
open Go.RowKit Go.Lib Go.Shelf Go.Maps

def hashAt (ps : List Note) : Nat → Int
  | 0 => 0
  | i + 1 => (ps.getD i Note0).nt.hash
structure ChainJ (ps : List Note) (z : Int) : Prop where
  prev : ∀ i (h : i < ps.length), ps[i].nt.prev = hashAt ps i
  last : z = hashAt ps ps.length
theorem hashAt_snoc {ps : List Note} {x : Note} {i : Nat} (h : i ≤ ps.length) : hashAt (ps ++ [x]) i = hashAt ps i := by
  cases i with
  | zero => rfl
  | succ i =>
    show ((ps ++ [x]).getD i Note0).nt.hash = (ps.getD i Note0).nt.hash
    rw [List.getD_eq_getElem?_getD, List.getD_eq_getElem?_getD, List.getElem?_append_left (by omega)]
theorem hashAt_succ {ps : List Note} {i : Nat} (h : i < ps.length) : hashAt ps (i + 1) = ps[i].nt.hash := by
  show (ps.getD i Note0).nt.hash = _
  rw [List.getD_eq_getElem?_getD, List.getElem?_eq_getElem h]
  rfl
theorem ChainJ.snoc {ps : List Note} {z : Int} (h : ChainJ ps z) {x : Note} (hx : x.nt.prev = z) : ChainJ (ps ++ [x]) x.nt.hash := by
  refine ⟨fun i hi => ?_, ?_⟩
  · rw [List.length_append, List.length_singleton] at hi
    by_cases e : i = ps.length
    · subst e
      rw [hashAt_snoc (Nat.le_refl _), ← h.last, ← hx]
      simp
    · rw [hashAt_snoc (by omega), List.getElem_append_left (by omega)]
      exact h.prev i (by omega)
  · rw [List.length_append, List.length_singleton, hashAt_succ (by simp)]
    simp
theorem steps_chain {ds : List Note} {L : Led} (h : Steps Led0 ds L) : ∃ ps : List Note, L.published = ps.map nm ∧ (∀ p ∈ ps, p ∈ ds ∧ p.nt.kind = 7) ∧ ChainJ ps L.hash := by
  obtain ⟨A, hA⟩ : ∃ A, A = Led0 := ⟨_, rfl⟩
  rw [← hA] at h
  induction h with
  | nil => subst hA; exact ⟨[], rfl, by simp, ⟨by simp, rfl⟩⟩
  | @snoc L1 L2 xs x h1 h2 ih =>
    obtain ⟨ps, e, hm, hc⟩ := ih
    have hm' : ∀ p ∈ ps, p ∈ xs ++ [x] ∧ p.nt.kind = 7 := fun p hp => ⟨List.mem_append_left _ (hm p hp).1, (hm p hp).2⟩
    have same : ∀ L' : Led, L'.published = L1.published → L'.hash = L1.hash → ∃ ps : List Note, L'.published = ps.map nm ∧ (∀ p ∈ ps, p ∈ xs ++ [x] ∧ p.nt.kind = 7) ∧ ChainJ ps L'.hash := fun L' e1 e2 => ⟨ps, by rw [e1, e], hm', by rw [e2]; exact hc⟩
    have hB : ∀ (ok : Bool) (K : Led), StepB x L1 ok K → ∃ ps : List Note, K.published = ps.map nm ∧ (∀ p ∈ ps, p ∈ xs ++ [x] ∧ p.nt.kind = 7) ∧ ChainJ ps K.hash := fun ok K hB => by
      unfold StepB at hB
      split at hB
      · obtain ⟨_, rfl⟩ := hB
        split <;> exact same _ rfl rfl
      · split at hB
        · obtain ⟨_, rfl⟩ := hB
          split <;> exact same _ rfl rfl
        · split at hB
          · obtain ⟨_, rfl⟩ := hB
            split
            · unfold sgLed
              split <;> exact same _ rfl rfl
            · exact same _ rfl rfl
          · split at hB
            · rename_i hk
              obtain ⟨_, rfl⟩ := hB
              split
              · rename_i hp
                have hp : x.nt.prev = L1.hash := by simpa [pubOk] using hp
                refine ⟨ps ++ [x], by simp [pubLed, e], fun p hp => ?_, hc.snoc hp⟩
                rcases List.mem_append.1 hp with hp | hp
                · exact hm' p hp
                · simp at hp
                  subst hp
                  exact ⟨by simp, hk⟩
              · exact same _ rfl rfl
            · obtain ⟨_, r, j, rfl⟩ := hB
              exact same _ rfl rfl
    obtain ⟨ok, K, hK, rfl⟩ := h2
    have := hB ok K hK
    cases ok <;> exact this
def ltName (a b : Note) : Prop := a.nt.judge < b.nt.judge ∨ (a.nt.judge = b.nt.judge ∧ a.nt.num < b.nt.num)
theorem ltName_of {a b : Note} (h0 : cmpN a b ≠ 0) (h1 : cmpN a b ≠ 1) : ltName a b := by
  unfold cmpN cmpName orI Lib.compareInt at h0 h1
  unfold ltName
  by_cases e1 : a.nt.judge < b.nt.judge
  · exact .inl e1
  · by_cases e2 : a.nt.judge = b.nt.judge
    · right
      refine ⟨e2, ?_⟩
      by_cases e3 : a.nt.num < b.nt.num
      · exact e3
      · by_cases e4 : a.nt.num = b.nt.num
        · simp [e2, e4] at h0
        · have : b.nt.num < a.nt.num := by omega
          simp [e2, e3, this] at h0 h1
    · have : b.nt.judge < a.nt.judge := by omega
      simp [e1, this] at h0 h1
theorem setB_lt {o : Lay} {xs : List Note} (h : setB o xs = true) : ∀ j (hj : j < xs.length) i (hi : i < j), ltName xs[i] xs[j] := by
  have hstep : ∀ k (hk : k + 1 < xs.length), ltName xs[k] xs[k + 1] := fun k hk => by
    unfold setB at h
    simp only [Bool.and_eq_true] at h
    have := List.all_eq_true.1 h.2 (k + 1) (List.mem_range.2 hk)
    unfold setAt at this
    simp only [Bool.and_eq_true] at this
    have h2 := this.2
    rw [Nat.add_sub_cancel, List.getD_eq_getElem?_getD, List.getD_eq_getElem?_getD, List.getElem?_eq_getElem (by omega), List.getElem?_eq_getElem hk] at h2
    simp at h2
    exact ltName_of h2.1 h2.2
  intro j
  induction j with
  | zero => intro hj i hi; omega
  | succ j ih =>
    intro hj i hi
    by_cases e : i = j
    · subst e; exact hstep i hj
    · have h1 := ih (by omega) i (by omega)
      have h2 := hstep j hj
      unfold ltName at *
      omega
theorem setB_name {o : Lay} {xs : List Note} (h : setB o xs = true) {i j : Nat} (hi : i < xs.length) (hj : j < xs.length) (e : nm xs[i] = nm xs[j]) : i = j := by
  have e1 : xs[i].nt.judge = xs[j].nt.judge := congrArg Prod.fst e
  have e2 : xs[i].nt.num = xs[j].nt.num := congrArg Prod.snd e
  rcases Nat.lt_trichotomy i j with h1 | h1 | h1
  · have := setB_lt h j hj i h1
    unfold ltName at this
    omega
  · exact h1
  · have := setB_lt h i hi j h1
    unfold ltName at this
    omega
end Go.Proofs.YtlamogpdkmbeoaaGreatDoor
end PartChainJ

section PartChainW
/- 'JudgesChain': the walk. -/
set_option linter.unusedVariables false
set_option linter.unusedSimpArgs false
set_option maxRecDepth 100000
namespace Go.Proofs.YtlamogpdkmbeoaaGreatDoor
open List renaming getElem_toArray → zq1, getElem_cons_succ → zq2, getElem_cons_zero → zq3, setIfInBounds_toArray → zq4, set_cons_zero → zq5, set_cons_succ → zq6
open Go.RowKit Go.Lib Go.Shelf Go.Maps

theorem rNameOf_any (n : Nt) (w : World) : Calls Tryz.prog 13 #[n.val] w fun e w' => e = .returned (.agg #[.int .i64 n.judge, .int .i64 n.num]) ∧ Grown w w' := by
  obtain ⟨judge, num, clock, kind, call, version, ⟨lcall, cat, pow, cl, vj, vl⟩, aC, aN, bC, bN, rJ, rN, hash, prev⟩ := n
  dsimp only [Nt.val, Nt.enc]
  go_enter Tryz.func13, Tryz.ntmps13
  go_wp2
  have hB := Blk.new (w.alloc (.cells #[.int .i64 judge, .int .i64 num, .int .i64 clock, .int .i64 kind, .string call, .int .i64 version, .string lcall, .int .i64 cat, .int .i64 pow, .int .i64 cl, vj, vl, .string aC, .int .i64 aN, .string bC, .int .i64 bN, .int .i64 rJ, .int .i64 rN, .int .i64 hash, .int .i64 prev] 46)) 37 #[.int .i64 judge, .int .i64 num]
  rw [World.size_alloc] at hB
  exact bodyPost_ret (results_cell1b Tryz.results13 rfl hB Tryz.underlying37 rfl (by kernel_rfl)) rfl ⟨rfl, ((Grown.refl w).alloc _).alloc _⟩
/-- The register in slice form. -/
theorem FoldRel.form {q : Int} {xs : List Note} {w : World} {rv : Value} {L : Led} {ds : List Note} {ev u1 u2 u3 pvv u4 pub : Value} {es : List Ent} {x1 : List MarkK} {x2 x3 : List DuoK} {ps : List Pend} {x4 : List NameK} (h : FoldRel q xs w rv L ds ev u1 u2 u3 pvv u4 pub es x1 x2 x3 ps x4) :
    ∃ (A0 A1 A2 A3 A4 A5 A6 : Option Addr) (n0 c0 c1 c2 c3 c4 c5 c6 : Nat), rv = .agg #[.slice A0 n0 c0, .slice A1 x1.length c1, .slice A2 x2.length c2, .slice A3 x3.length c3, .slice A4 ps.length c4, .slice A5 L.published.length c5, .int .i64 L.hash, .slice A6 x4.length c6] ∧
      RowsAt cellsDu 4 w (.slice A2 x2.length c2) x2 ∧ RowsAt cellsDu 4 w (.slice A3 x3.length c3) x3 ∧ RowsAt NameK.cells 2 w (.slice A5 L.published.length c5) L.published := by
  obtain ⟨B, ho⟩ := h.out
  obtain ⟨A0, n0, c0, e0⟩ := own_slice ho.ents.row
  obtain ⟨A1, c1, e1⟩ := ho.struck.len
  obtain ⟨A2, c2, e2⟩ := ho.force.len
  obtain ⟨A3, c3, e3⟩ := ho.forbid.len
  obtain ⟨A4, c4, e4⟩ := ho.pend.len
  obtain ⟨A5, c5, e5⟩ := ho.published.len
  obtain ⟨A6, c6, e6⟩ := ho.conflicts.len
  have h2 := ho.force
  have h3 := ho.forbid
  have h5 := ho.published
  rw [e2] at h2
  rw [e3] at h3
  rw [e5] at h5
  exact ⟨A0, A1, A2, A3, A4, A5, A6, n0, c0, c1, c2, c3, c4, c5, c6, by rw [h.val, e0, e1, e2, e3, e4, e5, e6], h2, h3, h5⟩
set_option maxHeartbeats 8000000 in
theorem JChain_any (o : Lay) (v : Value) (xs : List Note) (w : World) (h : NotesAt w v xs) (hE : Env w) :
    Calls Tryz.prog 3 #[o.val, v] w fun e w' => e = .returned (.bool true) ∧ Below w.heap.size w w' := by
  have hawk := fun W (hb : Below w.heap.size w W) => awake_any W (hE.below hE.big hb)
  have hfold := fun W (hb : Below w.heap.size w W) => Fold_any o 1 v xs W (h.later hb) (hE.below hE.big hb)
  have UR := Tryz.underlying32
  have hmx := h.row.max
  unfold maxLen at hmx
  have HN := Lib.hid h
  have HAWK := Lib.hid hawk
  obtain ⟨A, c, rfl⟩ := h.row.len
  obtain ⟨o1, o2, o3⟩ := o
  obtain ⟨lo, hlo⟩ : ∃ lo : Lay, lo = ⟨o1, o2, o3⟩ := ⟨_, rfl⟩
  have hbO := below_alloc0 (w := w) (.cells #[.bool o1, .bool o2, .bool o3] 23)
  have hf := hfold _ hbO
  rw [← hlo] at hf
  have hv : lo.val = .agg #[.bool o1, .bool o2, .bool o3] := by rw [hlo]
  rw [hv] at hf
  dsimp only [Lay.val]
  clear h hE hawk hfold hv hlo
  by_cases hl : xs.length ≤ 200
  · have hgt : ¬ (200 : Int) < xs.length := by omega
    go_enter Tryz.func3, Tryz.ntmps3
    go_upto_region 3 with fail
    have HBO := Lib.hid hbO
    clear hbO
    go_upto_region 4 with (first
      | (go_at_call 12; refine hf.mono ?_; rintro e w1 ⟨rv, er, rfl, hout, hb1⟩; obtain ⟨cs, rfl, hc8, hone⟩ := hout.shape; have HC8 := Lib.hid hc8; have HONE := Lib.hid hone; have HOUT := Lib.hid hout; clear hc8 hone hout)
      | (refine wpList_store_blk rfl 32 _ _ rfl w1.heap.size 32 zeroReg cs rfl rfl (Blk.new w1 _ _) (by rw [HC8.out]; rfl) (by rw [HC8.out]; exact sizeReg) HONE.out ?_; intro w2 hZ2 hg2 hs2))
    have hb12 : Below w1.heap.size w1 w2 := (below_alloc0 (.cells zeroReg 32)).grown hg2 (by simp) (fun j e => by injection e with e; omega)
    have hb2 : Below w.heap.size w w2 := HBO.out.trans ((hb1.trans (hb12.mono hb1.size)).mono (by simp))
    have HB2 := Lib.hid hb2
    have HB12 := Lib.hid hb12
    have HZ2 := Lib.hid hZ2
    obtain ⟨rb, hrb⟩ : ∃ rb, w1.heap.size = rb := ⟨_, rfl⟩
    have hwr : w.heap.size ≤ w2.heap.size := hb2.size
    rw [hrb] at HZ2 ⊢
    clear hZ2 hg2 hs2 hb1 hb2 hb12 hf hrb
    rcases HOUT.out with ⟨hgd, rfl, L, ds, ev, u1, u2, u3, pvv, u4, pub, es, x1, x2, x3, ps, x4, hrel⟩ | ⟨_, rfl, _⟩
    · have hset : setB lo xs = true := by simp only [Bool.and_eq_true] at hgd; exact hgd.1
      obtain ⟨P, hP, hPm, hPc⟩ := steps_chain hrel.steps
      obtain ⟨A0, A1, A2, A3, A4, A5, A6, n0, c0, c1, c2, c3, c4, c5, c6, hcs, _, _, hpub⟩ := hrel.form
      injection hcs with hcs
      subst hcs
      rw [hP, List.length_map] at HZ2
      rw [hP] at hpub
      have hpub2 := hpub.later HB12.out
      have HPUB := Lib.hid hpub2
      have HPM : Hid (∀ i (h : i < P.length), ∃ m, ∃ hm : m < xs.length, xs[m] = P[i] ∧ P[i].nt.kind = 7 ∧ P[i].nt.prev = hashAt P i) := Lib.hid (fun i h => by
        obtain ⟨h1, h2⟩ := hPm P[i] (List.getElem_mem h)
        obtain ⟨m, hm, e⟩ := List.getElem_of_mem (hrel.perm.mem_iff.1 h1)
        exact ⟨m, hm, e, h2, hPc.prev i h⟩)
      have HLAST := Lib.hid hPc.last
      have HNM : Hid (∀ i j (hi : i < xs.length) (hj : j < xs.length), nm xs[i] = nm xs[j] → i = j) := Lib.hid (fun i j hi hj e => setB_name hset hi hj e)
      have hN2 := HN.out.later HB2.out
      have HN2 := Lib.hid hN2
      have hPl : P.length ≤ 9223372036854775807 := by have := hpub.max; unfold maxLen at this; rw [List.length_map] at this; exact this
      have z5 : w2.cell? ⟨rb, 5, none⟩ = some (.slice A5 (P.map nm).length c5) := by have := HZ2.out.cell 5; rw [List.length_map]; exact this
      rw [List.length_map] at z5
      have z6 : w2.cell? ⟨rb, 6, none⟩ = some (.int .i64 L.hash) := HZ2.out.cell 6
      have HL := Lib.hid HZ2.out.lt
      have HC5 := Lib.hid z5
      have HC6 := Lib.hid z6
      clear hgd hset hP hPm hPc hrel hpub hpub2 hN2 z5 z6
      go_upto_region 8 with fail
      go_loopw [7, 8] (fun s7 s8 wr => ∃ i : Nat, i ≤ P.length ∧ s8 = .int .i64 i ∧ s7 = .int .i64 (hashAt P i) ∧ Below w2.heap.size w2 wr) (fun _ s8 _ => P.length - (intOf s8).toNat)
      case atStart => exact ⟨0, Nat.zero_le _, rfl, rfl, Below.refl _ _⟩
      case round =>
        obtain ⟨i, hi, rfl, rfl, hbr⟩ := hrel
        have z5 : wr.cell? ⟨rb, 5, none⟩ = some (.slice A5 P.length c5) := (hbr.cell (p := ⟨rb, 5, none⟩) HL.out).trans HC5.out
        have z6 : wr.cell? ⟨rb, 6, none⟩ = some (.int .i64 L.hash) := (hbr.cell (p := ⟨rb, 6, none⟩) HL.out).trans HC6.out
        have HBR := Lib.hid hbr
        by_cases hlt : i < P.length
        · obtain ⟨m, hm, hxm, hk7, hprev⟩ := HPM.out i hlt
          obtain ⟨q, hq⟩ : ∃ q, q = P[i] := ⟨_, rfl⟩
          rw [← hq] at hxm hk7 hprev
          have HNXT : Hid (hashAt P (i + 1) = q.nt.hash) := Lib.hid (by rw [hashAt_succ hlt, hq])
          obtain ⟨b2, a2, eA5, hb2', hc2⟩ : ∃ b2 a2, A5 = some ⟨b2, a2, none⟩ ∧ b2 < w2.heap.size ∧ ∀ j u, (NameK.cells (nm q))[j]? = some u → w2.cell? ⟨b2, a2 + i * 2 + j, none⟩ = some u := by
            obtain ⟨A', c', e1, _, e3⟩ := HPUB.out
            obtain ⟨b', a', e4, e5, e6⟩ := e3 i (by rw [List.length_map]; exact hlt)
            injection e1 with e1 _ _
            exact ⟨b', a', e1.trans e4, e5, fun j u hu => e6 j u (by rw [List.getElem_map, ← hq]; exact hu)⟩
          obtain ⟨b, ao, eA, hbb, hcell⟩ : ∃ b ao, A = some ⟨b, ao, none⟩ ∧ b < w2.heap.size ∧ ∀ k (hk : k < xs.length) j u, (xs[k].enc)[j]? = some u → w2.cell? ⟨b, ao + k * 20 + j, none⟩ = some u := by
            rcases HN2.out.row.place with ⟨e, _⟩ | ⟨b', a', c', e1, _, _, e4, e5⟩
            · rw [e] at hm; simp at hm
            · injection e1 with e1 _ _
              exact ⟨b', a', e1, e4, e5⟩
          subst eA5
          subst eA
          have HCELL := Lib.hid hcell
          have HPC := Lib.hid hc2
          have HXM := Lib.hid hxm
          have HK7 := Lib.hid hk7
          have HPREV := Lib.hid hprev
          have HM := Lib.hid hm
          have HLT := Lib.hid hlt
          have HQ := Lib.hid hq
          have hwr2 := hbr.size
          clear z6 hcell hc2 hxm hk7 hprev hq hbr
          go_upto_region 12 with fail
          clear z5
          go_loopw [7, 9, 10] (fun s7 s9 s10 wi => ∃ k : Nat, k ≤ xs.length ∧ s10 = .int .i64 k ∧ Below w2.heap.size w2 wi ∧ ((s9 = .bool false ∧ s7 = .int .i64 (hashAt P i) ∧ k ≤ m) ∨ (s9 = .bool true ∧ s7 = .int .i64 (hashAt P (i + 1))))) (fun _ _ s10 _ => xs.length - (intOf s10).toNat)
          case atStart => exact ⟨0, Nat.zero_le _, rfl, HBR.out, .inl ⟨rfl, rfl, Nat.zero_le _⟩⟩
          case round =>
            obtain ⟨k, hk, rfl, hbi, ⟨rfl, rfl, hkm⟩ | ⟨rfl, rfl⟩⟩ := hrel
            · have hkl : k < xs.length := by have := HM.out; omega
              obtain ⟨x, hx⟩ : ∃ x, x = xs[k] := ⟨_, rfl⟩
              have hsi := hbi.size
              have hrng : ∀ wi', Below w2.heap.size w2 wi' → wi'.rangeAt b (ao + k * 20) x.nt.enc := fun wi' hb j u hu => (hb.cell (p := ⟨b, ao + k * 20 + j, none⟩) hbb).trans (HCELL.out k hkl j u (by rw [← hx]; exact hu))
              have hpc : ∀ wi', Below w2.heap.size w2 wi' → wi'.rangeAt b2 (a2 + i * 2) [.int .i64 q.nt.judge, .int .i64 q.nt.num] ∧ wi'.cell? ⟨rb, 5, none⟩ = some (.slice (some ⟨b2, a2, none⟩) P.length c5) := fun wi' hb => ⟨fun j u hu => (hb.cell (p := ⟨b2, a2 + i * 2 + j, none⟩) hb2').trans (HPC.out j u hu), (hb.cell (p := ⟨rb, 5, none⟩) HL.out).trans HC5.out⟩
              have HRNG := Lib.hid hrng
              have HPC2 := Lib.hid hpc
              have HBI := Lib.hid hbi
              have hnm := fun W => rNameOf_any x.nt W
              have qn := fun a b c d (W : World) => eqName a b c d W
              have HEQ : Hid ((x.nt.judge == q.nt.judge && x.nt.num == q.nt.num) = decide (k = m)) := Lib.hid (by
                by_cases e : k = m
                · subst e
                  have : x = q := by rw [hx]; exact HXM.out
                  subst this
                  simp
                · rw [decide_eq_false e]
                  cases hz : (x.nt.judge == q.nt.judge && x.nt.num == q.nt.num) with
                  | false => rfl
                  | true =>
                    exfalso
                    simp only [Bool.and_eq_true, beq_iff_eq] at hz
                    exact e (HNM.out k m hkl HM.out (by rw [← hx, HXM.out]; exact Prod.ext hz.1 hz.2)))
              have HX := Lib.hid hx
              obtain ⟨xj, hxj⟩ : ∃ xj, xj = x.nt.judge := ⟨_, rfl⟩
              obtain ⟨xn, hxn⟩ : ∃ xn, xn = x.nt.num := ⟨_, rfl⟩
              rw [← hxj, ← hxn] at hnm
              rw [← hxj, ← hxn] at HEQ
              clear hrng hpc hbi hx hxj hxn
              have UN := Tryz.underlying46
              have UNm := Tryz.underlying37
              go_upto_region 14 with fail
              refine wp_region_held_drew (S := (fun w' => w'.rangeAt b (ao + k * 20) x.nt.enc ∧ w'.rangeAt b2 (a2 + i * 2) [.int .i64 q.nt.judge, .int .i64 q.nt.num] ∧ w'.cell? ⟨rb, 5, none⟩ = some (.slice (some ⟨b2, a2, none⟩) P.length c5))) (by kernel_rfl) ?hS1 (fun hHeld => ?_)
              case hS1 => exact ⟨HRNG.out _ HBI.out.drew, HPC2.out _ HBI.out.drew⟩
              refine tk1 (i := 0) (v := ?v1_1) ?hy1_1 ?_
              case hy1_1 => ((intro w hSw; (try dsimp only at hSw); go_simp) <;> with_reducible rfl)
              (try simp only [Act.put, zq1, zq2, zq3, zq4, zq5, zq6])
              refine tk1 (i := 1) (v := ?v1_2) ?hy1_2 ?_
              case hy1_2 => ((intro w hSw; (try dsimp only at hSw); go_simp) <;> with_reducible rfl)
              (try simp only [Act.put, zq1, zq2, zq3, zq4, zq5, zq6])
              refine tk1 (i := 2) (v := ?v1_3) ?hy1_3 ?_
              case hy1_3 => ((intro w hSw; (try dsimp only at hSw); go_simp) <;> with_reducible rfl)
              (try simp only [Act.put, zq1, zq2, zq3, zq4, zq5, zq6])
              refine' wpAnyH_take (i := 3) rfl (by kernel_rfl) (by kernel_rfl) (by kernel_rfl) (fun _ _ _ h => h) (yieldsIf_load_mid (by kernel_rfl) _ _ rfl _ _ rfl _ _ (fun w9 hSw => hSw.1) ?hu1_4 ?hd1_4 ?hi1_4) (by assumption) ?_
              case hu1_4 => assumption
              case hd1_4 => rfl
              case hi1_4 => (first | assumption | kernel_rfl)
              (try simp only [Act.put, zq1, zq2, zq3, zq4, zq5, zq6])
              refine tk1 (i := 5) (v := ?v1_5) ?hy1_5 ?_
              case hy1_5 => ((intro w hSw; (try dsimp only at hSw); go_simp) <;> with_reducible rfl)
              (try simp only [Act.put, zq1, zq2, zq3, zq4, zq5, zq6])
              refine tk1 (i := 6) (v := ?v1_6) ?hy1_6 ?_
              case hy1_6 => ((intro w hSw; (try dsimp only at hSw); go_simp) <;> with_reducible rfl)
              (try simp only [Act.put, zq1, zq2, zq3, zq4, zq5, zq6])
              refine tk1 (i := 7) (v := ?v1_7) ?hy1_7 ?_
              case hy1_7 => ((intro w hSw; (try dsimp only at hSw); go_simp) <;> with_reducible rfl)
              (try simp only [Act.put, zq1, zq2, zq3, zq4, zq5, zq6])
              refine tk1 (i := 8) (v := ?v1_8) ?hy1_8 ?_
              case hy1_8 => ((intro w hSw; (try dsimp only at hSw); go_simp) <;> with_reducible rfl)
              (try simp only [Act.put, zq1, zq2, zq3, zq4, zq5, zq6])
              refine' wpAnyH_take (i := 9) rfl (by kernel_rfl) (by kernel_rfl) (by kernel_rfl) (fun _ _ _ h => h) (yieldsIf_load_mid (by kernel_rfl) _ _ rfl _ _ rfl _ _ (fun w9 hSw => hSw.2.1) ?hu1_9 ?hd1_9 ?hi1_9) (by assumption) ?_
              case hu1_9 => assumption
              case hd1_9 => rfl
              case hi1_9 => (first | assumption | kernel_rfl)
              (try simp only [Act.put, zq1, zq2, zq3, zq4, zq5, zq6])
              refine wpAnyH_ready (rs := [4]) (by kernel_rfl) (by simp) ?_
              refine AllReadyH.cons rfl (fun K hK => ?_) AllReadyH.nil
              go_simp
              (go_at_call 13; ((with_reducible refine (hnm _).mono ?_); rintro e w4 ⟨rfl, hg4⟩); have hb4 := HBI.out.drew.trans (hg4.below.mono HBI.out.drew.size))
              go_wp2_with fail
              refine hK.out _ _ ?hS1_10 (fun hHeld => ?_)
              case hS1_10 => ((try dsimp only); exact ⟨HRNG.out _ hb4, HPC2.out _ hb4⟩)
              clear hK K
              (try simp only [Act.put, zq1, zq2, zq3, zq4, zq5, zq6])
              refine tk1 (i := 10) (v := ?v1_11) ?hy1_11 ?_
              case hy1_11 => ((intro w hSw; (try dsimp only at hSw); go_simp) <;> with_reducible rfl)
              (try simp only [Act.put, zq1, zq2, zq3, zq4, zq5, zq6])
              refine wpAnyH_done (by kernel_rfl) ?_ _
              rw [HEQ.out]
              have HRN4 := HRNG.out _ hb4
              have HB4 := Lib.hid hb4
              have c3 : w4.cell? ⟨b, ao + k * 20 + 3, none⟩ = some (.int .i64 x.nt.kind) := HRN4 3 _ rfl
              have c19 : w4.cell? ⟨b, ao + k * 20 + 19, none⟩ = some (.int .i64 x.nt.prev) := HRN4 19 _ rfl
              have c18 : w4.cell? ⟨b, ao + k * 20 + 18, none⟩ = some (.int .i64 x.nt.hash) := HRN4 18 _ rfl
              clear hHeld hb4 hg4 HRN4 hnm qn
              by_cases e : k = m
              · have hxq : x = q := by rw [HX.out]; subst e; exact HXM.out
                rw [hxq, HK7.out] at c3
                rw [hxq, HPREV.out] at c19
                rw [hxq] at c18
                rw [decide_eq_true e]
                clear hxq
                have HE := Lib.hid e
                clear e
                go_wp2
                exact ⟨⟨k + 1, by omega, by simp, HB4.out, .inr ⟨rfl, by rw [HNXT.out]⟩⟩, by simp [intOf]; omega⟩
              · rw [decide_eq_false e]
                clear c3 c18 c19
                go_wp2
                exact ⟨⟨k + 1, by omega, by simp, HB4.out, .inl ⟨rfl, rfl, by omega⟩⟩, by simp [intOf]; omega⟩
            · have HBI := Lib.hid hbi
              clear hbi
              go_wp2 <;> exact ⟨⟨i + 1, by have := HLT.out; omega, by simp, rfl, HBI.out⟩, by have := HLT.out; simp [intOf]; omega⟩
        · have e : i = P.length := by omega
          have hle : hashAt P i = L.hash := by rw [e]; exact HLAST.out.symm
          have ha := HAWK.out wr (HB2.out.trans (hbr.mono hwr))
          rw [hle]
          clear hle hbr
          go_wp2_with (go_at_call 11; refine ha.mono ?_; rintro e w3 ⟨rfl, hb3⟩)
          go_ret
          exact ⟨rfl, (HB2.out.trans (HBR.out.mono hwr)).trans (hb3.mono (by have := HBR.out.size; omega))⟩
    · have ha := HAWK.out w2 HB2.out
      go_wp2_with (go_at_call 11; refine ha.mono ?_; rintro e w3 ⟨rfl, hb3⟩)
      go_ret
      exact ⟨rfl, HB2.out.trans (hb3.mono hwr)⟩
  · have hgt : (200 : Int) < xs.length := by omega
    have ha := HAWK.out _ hbO
    go_enter Tryz.func3, Tryz.ntmps3
    go_wp2_with (go_at_call 11; refine ha.mono ?_; rintro e w1 ⟨rfl, hb1⟩)
    go_ret
    exact ⟨rfl, hbO.trans (hb1.mono (by simp))⟩
end Go.Proofs.YtlamogpdkmbeoaaGreatDoor
end PartChainW
