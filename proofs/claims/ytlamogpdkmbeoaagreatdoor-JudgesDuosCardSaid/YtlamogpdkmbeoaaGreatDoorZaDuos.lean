/- The texts DuosP, DuosW in one. -/
import Derived.Test.YtlamogpdkmbeoaaGreatDoorZaEnt
import Derived.Test.YtlamogpdkmbeoaaGreatDoorZaReg
import Derived.Test.YtlamogpdkmbeoaaGreatDoorZaChain
section PartDuosP
/- No line is in two forced duos, no duo is both forced and forbidden: plain facts. -/
set_option linter.unusedVariables false
set_option linter.unusedSimpArgs false
set_option maxRecDepth 100000
namespace Go.Proofs.YtlamogpdkmbeoaaGreatDoor
open Go.RowKit Go.Lib Go.Shelf Go.Maps

def noShare (x y : DuoK) : Prop := x.1 ≠ y.1 ∧ x.1 ≠ y.2 ∧ x.2 ≠ y.1 ∧ x.2 ≠ y.2
theorem noShare.symm {x y : DuoK} (h : noShare x y) : noShare y x := ⟨fun e => h.1 e.symm, fun e => h.2.2.1 e.symm, fun e => h.2.1 e.symm, fun e => h.2.2.2 e.symm⟩
theorem putM_new {κ ν : Type} [DecidableEq κ] : ∀ {m : List (κ × ν)} {x : κ} {y : ν}, (∀ p ∈ m, p.1 ≠ x) → putM m x y = m ++ [(x, y)]
  | [], x, y, _ => rfl
  | p :: r, x, y, h => by
    unfold putM
    rw [if_neg (h p (by simp)), putM_new (fun q hq => h q (List.mem_cons_of_mem _ hq))]
    rfl
theorem hasK_put {κ : Type} [DecidableEq κ] (m : List (κ × Bool)) (x k : κ) : hasK (putM m x true) k = true ↔ x = k ∨ hasK m k = true := by
  unfold hasK
  rw [getM_put]
  by_cases e : x = k
  · simp [e]
  · simp [e]
theorem hasK_mem {κ : Type} [DecidableEq κ] {m : List (κ × Bool)} (hv : ∀ p ∈ m, p.2 = true) {k : κ} (h : hasK m k = false) : ∀ p ∈ m, p.1 ≠ k := by
  intro p hp e
  unfold hasK at h
  have : ∀ (m : List (κ × Bool)), p ∈ m → ∃ q ∈ m, getM m k = some q.2 := fun m hp => by
    induction m with
    | nil => cases hp
    | cons a r ih =>
      unfold getM
      by_cases ea : a.1 = k
      · rw [if_pos ea]; exact ⟨a, by simp, rfl⟩
      · rw [if_neg ea]
        rcases List.mem_cons.1 hp with rfl | hp
        · exact absurd e ea
        · obtain ⟨q, hq, h⟩ := ih hp
          exact ⟨q, List.mem_cons_of_mem _ hq, h⟩
  obtain ⟨q, hq, hg⟩ := this m hp
  rw [hg, hv q hq] at h
  cases h
structure DuoInv (s : RS) : Prop where
  fval : ∀ p ∈ s.force, p.2 = true
  bval : ∀ p ∈ s.forbid, p.2 = true
  bnd : ∀ p ∈ s.force, hasK s.bound p.1.1 = true ∧ hasK s.bound p.1.2 = true
  apart : (s.force.map (·.1)).Pairwise noShare
  forb : ∀ p ∈ s.force, ∀ r ∈ s.forbid, p.1 ≠ r.1
theorem DuoInv.step {s : RS} (h : DuoInv s) (q : Int) (x : RulB) (hk : x.note.nt.kind = 3 ∨ x.note.nt.kind = 4 ∨ x.note.nt.kind = 5) : DuoInv (regStep q s x) := by
  unfold regStep
  split
  · exact ⟨h.fval, h.bval, h.bnd, h.apart, h.forb⟩
  · split
    · exact ⟨h.fval, h.bval, h.bnd, h.apart, h.forb⟩
    · rename_i h3
      split
      · exact ⟨h.fval, h.bval, h.bnd, h.apart, h.forb⟩
      · rename_i hcl
        split
        · rename_i h5
          have hno : hasK s.force (duoOf x.note) = false := by
            cases hz : hasK s.force (duoOf x.note) with
            | false => rfl
            | true => exact absurd (by simp [clashB, h5, hz]) hcl
          refine ⟨h.fval, fun p hp => ?_, h.bnd, h.apart, fun p hp r hr => ?_⟩
          · rcases mem_putM hp with rfl | hp
            · rfl
            · exact h.bval p hp
          · rcases mem_putM hr with rfl | hr
            · exact hasK_mem h.fval hno p hp
            · exact h.forb p hp r hr
        · rename_i h5
          have h4 : x.note.nt.kind = 4 := by omega
          have hcl' : clashB s x.note = false := by simpa using hcl
          obtain ⟨hf, hA, hB⟩ : hasK s.forbid (duoOf x.note) = false ∧ hasK s.bound (mkA x.note) = false ∧ hasK s.bound (mkB x.note) = false := by
            unfold clashB at hcl'
            rw [h4] at hcl'
            cases z1 : hasK s.forbid (duoOf x.note) <;> cases z2 : hasK s.bound (mkA x.note) <;> cases z3 : hasK s.bound (mkB x.note) <;> simp [z1, z2, z3] at hcl' ⊢
          have hne : ∀ p ∈ s.force, noShare (duoOf x.note) p.1 := fun p hp => by
            have hb := h.bnd p hp
            refine ⟨fun e => ?_, fun e => ?_, fun e => ?_, fun e => ?_⟩
            · have e : mkA x.note = p.1.1 := e
              rw [e, hb.1] at hA; cases hA
            · have e : mkA x.note = p.1.2 := e
              rw [e, hb.2] at hA; cases hA
            · have e : mkB x.note = p.1.1 := e
              rw [e, hb.1] at hB; cases hB
            · have e : mkB x.note = p.1.2 := e
              rw [e, hb.2] at hB; cases hB
          have hnew := putM_new (m := s.force) (x := duoOf x.note) (y := true) (fun p hp e => (hne p hp).1 (by rw [e]))
          refine ⟨fun p hp => ?_, h.bval, fun p hp => ?_, ?_, fun p hp r hr => ?_⟩
          · rcases mem_putM hp with rfl | hp
            · rfl
            · exact h.fval p hp
          · dsimp only
            rw [hasK_put, hasK_put, hasK_put, hasK_put]
            rcases mem_putM hp with rfl | hp
            · exact ⟨.inr (.inl rfl), .inl rfl⟩
            · have := h.bnd p hp
              exact ⟨.inr (.inr this.1), .inr (.inr this.2)⟩
          · dsimp only
            rw [hnew, List.map_append, List.pairwise_append]
            refine ⟨h.apart, by simp, fun a ha b hb => ?_⟩
            simp at hb
            subst hb
            obtain ⟨p, hp, rfl⟩ := List.mem_map.1 ha
            exact (hne p hp).symm
          · rcases mem_putM hp with rfl | hp
            · exact fun e => hasK_mem h.bval hf r hr e.symm
            · exact h.forb p hp r hr
theorem duo_fold (q : Int) : ∀ (l : List RulB) (s : RS), (∀ x ∈ l, x.note.nt.kind = 3 ∨ x.note.nt.kind = 4 ∨ x.note.nt.kind = 5) → DuoInv s → DuoInv (l.foldl (regStep q) s)
  | [], s, _, h => h
  | x :: l, s, hk, h => duo_fold q l _ (fun y hy => hk y (List.mem_cons_of_mem _ hy)) (h.step q x (hk x (by simp)))
/-- What the walk needs of the lists. -/
structure DuosOk (x2 x3 : List DuoK) : Prop where
  apart : ∀ i (hi : i < x2.length) k (hk : k < i), noShare x2[i] (x2[k]'(by omega))
  forb : ∀ i (hi : i < x2.length) k (hk : k < x3.length), x3[k] ≠ x2[i]
theorem duosOk {s : RS} {x2 x3 : List DuoK} (h : DuoInv s) (h2 : x2.Perm (s.force.map (·.1))) (h3 : x3.Perm (s.forbid.map (·.1))) : DuosOk x2 x3 := by
  have hp : x2.Pairwise noShare := (h2.pairwise_iff (fun h => h.symm)).2 h.apart
  refine ⟨fun i hi k hk => (List.pairwise_iff_getElem.1 hp k i (by omega) hi hk).symm, fun i hi k hk e => ?_⟩
  obtain ⟨p, hp2, e2⟩ := List.mem_map.1 (h2.mem_iff.1 (List.getElem_mem hi))
  obtain ⟨r, hr2, e3⟩ := List.mem_map.1 (h3.mem_iff.1 (List.getElem_mem hk))
  exact h.forb p hp2 r hr2 (by rw [e2, e3, e])
end Go.Proofs.YtlamogpdkmbeoaaGreatDoor
end PartDuosP

section PartDuosW
/- 'JudgesDuos': the walk. -/
set_option linter.unusedVariables false
set_option linter.unusedSimpArgs false
set_option maxRecDepth 100000
namespace Go.Proofs.YtlamogpdkmbeoaaGreatDoor
open List renaming getElem_toArray → zq1, getElem_cons_succ → zq2, getElem_cons_zero → zq3, setIfInBounds_toArray → zq4, set_cons_zero → zq5, set_cons_succ → zq6
open Go.RowKit Go.Lib Go.Shelf Go.Maps

theorem eqDuo (x y : DuoK) (w : World) : (binOp .eql 48 (.agg (cellsDu x).toArray) (.agg (cellsDu y).toArray)).run Tryz.prog w = .ok (.bool (decide (x = y))) w := by
  have am := Tryz.isAgg44
  have zm := Tryz.sizeOf44
  obtain ⟨i, hi⟩ : ∃ i, Tryz.prog.info? 44 = some i := by
    have h : (Tryz.prog.info? 44).isSome = true := by kernel_rfl
    exact Option.isSome_iff_exists.1 h
  have hc : Tryz.prog.cellsOf 44 = 2 := by kernel_rfl
  rw [run_eql_struct, show (10000 : Nat) = 9999 + 1 from rfl, run_equalIn_array w 9999 _ _ Tryz.underlying48 hi, hc]
  simp only [List.range, List.range.loop, Op.eqItems]
  go_simp
  obtain ⟨⟨xa, xn⟩, xb, xm⟩ := x
  obtain ⟨⟨ya, yn⟩, yb, ym⟩ := y
  dsimp only
  by_cases e1 : xa.toList = ya.toList
  · have e1' : xa = ya := toList_inj (by simpa using e1)
    subst e1'
    by_cases e2 : xn = yn
    · subst e2
      by_cases e3 : xb.toList = yb.toList
      · have e3' : xb = yb := toList_inj (by simpa using e3)
        subst e3'
        by_cases e4 : xm = ym
        · subst e4; simp
        · simp [e4]
      · have : xb ≠ yb := fun e => e3 (by rw [e])
        simp [e3, this]
    · simp [e2]
  · have : xa ≠ ya := fun e => e1 (by rw [e])
    simp [e1, this]
set_option maxHeartbeats 8000000 in
theorem JDuos_any (o : Lay) (q : Int) (v : Value) (xs : List Note) (w : World) (h : NotesAt w v xs) (hE : Env w) :
    Calls Tryz.prog 4 #[o.val, .int .i64 q, v] w fun e w' => e = .returned (.bool true) ∧ Below w.heap.size w w' := by
  have hawk := fun W (hb : Below w.heap.size w W) => awake_any W (hE.below hE.big hb)
  have hfold := fun W (hb : Below w.heap.size w W) => Fold_any o q v xs W (h.later hb) (hE.below hE.big hb)
  have UR := Tryz.underlying32
  have UD := Tryz.underlying48
  have hmx := h.row.max
  unfold maxLen at hmx
  have HAWK := Lib.hid hawk
  obtain ⟨A, c, rfl⟩ := h.row.len
  obtain ⟨o1, o2, o3⟩ := o
  obtain ⟨lo, hlo⟩ : ∃ lo : Lay, lo = ⟨o1, o2, o3⟩ := ⟨_, rfl⟩
  have hbO := below_alloc0 (w := w) (.cells #[.bool o1, .bool o2, .bool o3] 23)
  have hf := hfold _ hbO
  rw [← hlo] at hf
  have hv : lo.val = .agg #[.bool o1, .bool o2, .bool o3] := by rw [hlo]
  rw [hv] at hf
  dsimp only [Lay.val]
  clear h hE hawk hfold hv hlo
  by_cases hl : xs.length ≤ 200
  · have hgt : ¬ (200 : Int) < xs.length := by omega
    go_enter Tryz.func4, Tryz.ntmps4
    go_upto_region 3 with fail
    have HBO := Lib.hid hbO
    clear hbO
    go_upto_region 4 with (first
      | (go_at_call 12; refine hf.mono ?_; rintro e w1 ⟨rv, er, rfl, hout, hb1⟩; obtain ⟨cs, rfl, hc8, hone⟩ := hout.shape; have HC8 := Lib.hid hc8; have HONE := Lib.hid hone; have HOUT := Lib.hid hout; clear hc8 hone hout)
      | (refine wpList_store_blk rfl 32 _ _ rfl w1.heap.size 32 zeroReg cs rfl rfl (Blk.new w1 _ _) (by rw [HC8.out]; rfl) (by rw [HC8.out]; exact sizeReg) HONE.out ?_; intro w2 hZ2 hg2 hs2))
    have hb12 : Below w1.heap.size w1 w2 := (below_alloc0 (.cells zeroReg 32)).grown hg2 (by simp) (fun j e => by injection e with e; omega)
    have hb2 : Below w.heap.size w w2 := HBO.out.trans ((hb1.trans (hb12.mono hb1.size)).mono (by simp))
    have HB2 := Lib.hid hb2
    have HB12 := Lib.hid hb12
    have HZ2 := Lib.hid hZ2
    obtain ⟨rb, hrb⟩ : ∃ rb, w1.heap.size = rb := ⟨_, rfl⟩
    have hwr : w.heap.size ≤ w2.heap.size := hb2.size
    rw [hrb] at HZ2 ⊢
    clear hZ2 hg2 hs2 hb1 hb2 hb12 hf hrb
    rcases HOUT.out with ⟨_, rfl, L, ds, ev, u1, u2, u3, pvv, u4, pub, es, x1, x2, x3, ps, x4, hrel⟩ | ⟨_, rfl, _⟩
    · have hok : DuosOk x2 x3 := by
        obtain ⟨B, ho⟩ := hrel.out
        exact duosOk (duo_fold q _ _ (fun x hx => (hrel.led.rulings x hx).2.1) ⟨by simp, by simp, by simp, by simp, by simp⟩) ho.forceP ho.forbidP
      obtain ⟨A0, A1, A2, A3, A4, A5, A6, n0, c0, c1, c2, c3, c4, c5, c6, hcs, hfo, hfb, _⟩ := hrel.form
      injection hcs with hcs
      subst hcs
      have HFO := Lib.hid (hfo.later HB12.out)
      have HFB := Lib.hid (hfb.later HB12.out)
      have HOK := Lib.hid hok
      have hl2 : x2.length ≤ 9223372036854775807 := by have := hfo.max; unfold maxLen at this; exact this
      have hl3 : x3.length ≤ 9223372036854775807 := by have := hfb.max; unfold maxLen at this; exact this
      have z2 : w2.cell? ⟨rb, 2, none⟩ = some (.slice A2 x2.length c2) := HZ2.out.cell 2
      have z3 : w2.cell? ⟨rb, 3, none⟩ = some (.slice A3 x3.length c3) := HZ2.out.cell 3
      have HL := Lib.hid HZ2.out.lt
      have HC2 := Lib.hid z2
      have HC3 := Lib.hid z3
      clear hrel hok hfo hfb z2 z3
      go_upto_region 7 with fail
      go_loopw [9] (fun s9 wr => ∃ i : Nat, i ≤ x2.length ∧ s9 = .int .i64 i ∧ Below w2.heap.size w2 wr) (fun s9 _ => x2.length - (intOf s9).toNat)
      case atStart => exact ⟨0, Nat.zero_le _, rfl, Below.refl _ _⟩
      case round =>
        obtain ⟨i, hi, rfl, hbr⟩ := hrel
        have z2 : wr.cell? ⟨rb, 2, none⟩ = some (.slice A2 x2.length c2) := (hbr.cell (p := ⟨rb, 2, none⟩) HL.out).trans HC2.out
        have HBR := Lib.hid hbr
        by_cases hlt : i < x2.length
        · obtain ⟨X, hX⟩ : ∃ X, X = x2[i] := ⟨_, rfl⟩
          obtain ⟨b2, a2, eA2, hb2', hc2⟩ : ∃ b2 a2, A2 = some ⟨b2, a2, none⟩ ∧ b2 < w2.heap.size ∧ ∀ k (hk : k < x2.length) j u, (cellsDu x2[k])[j]? = some u → w2.cell? ⟨b2, a2 + k * 4 + j, none⟩ = some u := by
            rcases HFO.out.place with ⟨e, _⟩ | ⟨b', a', c', e1, _, _, e4, e5⟩
            · rw [e] at hlt; simp at hlt
            · injection e1 with e1 _ _
              exact ⟨b', a', e1, e4, e5⟩
          subst eA2
          have HCD := Lib.hid hc2
          have hrng : wr.rangeAt b2 (a2 + i * 4) (cellsDu X) := fun j u hu => (hbr.cell (p := ⟨b2, a2 + i * 4 + j, none⟩) hb2').trans (hc2 i hlt j u (by rw [← hX]; exact hu))
          have HXE := Lib.hid hX
          have HLT := Lib.hid hlt
          have HRNG := Lib.hid hrng
          have hszr := hbr.size
          clear hc2 hX hrng hbr
          have tok : True := trivial
          go_upto_region 10 with (first
            | (have _t := tok; refine wpList_load_mid rfl 48 _ rfl b2 (a2 + i * 4) rfl (cellsDu X) _ HRNG.out UD rfl sizeDu ?_; clear tok)
            | (refine wpList_store_blk rfl 48 _ _ rfl wr.heap.size 48 zeroDu.toArray (cellsDu X).toArray rfl rfl (Blk.new wr _ _) (by rfl) sizeDu (oneDu X) ?_; intro w3 hX3 hg3 hs3))
          have hb3 : Below wr.heap.size wr w3 := (below_alloc0 (.cells zeroDu.toArray 48)).grown hg3 (by simp) (fun j e => by injection e with e; omega)
          have HB3 : Hid (Below w2.heap.size w2 w3) := Lib.hid (HBR.out.trans (hb3.mono HBR.out.size))
          obtain ⟨xb, hxb⟩ : ∃ xb, wr.heap.size = xb := ⟨_, rfl⟩
          have hsz3 : w2.heap.size ≤ w3.heap.size := HB3.out.size
          rw [hxb] at hX3 ⊢
          have HX3 := Lib.hid hX3
          have lX := hX3.lt
          clear z2 hX3 hg3 hs3 hb3 hxb
          go_upto_region 11 with fail
          go_loopw [11] (fun s11 wi => ∃ k : Nat, k ≤ i ∧ s11 = .int .i64 k ∧ Below w3.heap.size w3 wi) (fun s11 _ => i - (intOf s11).toNat)
          case atStart => exact ⟨0, Nat.zero_le _, rfl, Below.refl _ _⟩
          case round =>
            obtain ⟨k, hk, rfl, hbi⟩ := hrel
            have HBI := Lib.hid hbi
            by_cases hki : k < i
            · obtain ⟨Y, hY⟩ : ∃ Y, Y = x2[k]'(by have := HLT.out; omega) := ⟨_, rfl⟩
              have hkl : k < x2.length := by have := HLT.out; omega
              have hb2i : Below w2.heap.size w2 wr := HB3.out.trans (hbi.mono hsz3)
              have hrng : wr.rangeAt b2 (a2 + k * 4) (cellsDu Y) := fun j u hu => (hb2i.cell (p := ⟨b2, a2 + k * 4 + j, none⟩) hb2').trans (HCD.out k hkl j u (by rw [← hY]; exact hu))
              have HRNGY := Lib.hid hrng
              have z2 : wr.cell? ⟨rb, 2, none⟩ = some (.slice (some ⟨b2, a2, none⟩) x2.length c2) := (hb2i.cell (p := ⟨rb, 2, none⟩) HL.out).trans HC2.out
              have hns : noShare X Y := by rw [HXE.out, hY]; exact HOK.out.apart i HLT.out k hki
              have mk : ∀ (a b : MarkK), a ≠ b → (a.1.toList == b.1.toList && a.2 == b.2) = false := fun a b hab => by
                cases hz : (a.1.toList == b.1.toList && a.2 == b.2) with
                | false => rfl
                | true =>
                  simp only [Bool.and_eq_true, beq_iff_eq] at hz
                  exact absurd (Prod.ext (toList_inj (by simpa using hz.1)) hz.2) hab
              have HM1 := Lib.hid (mk _ _ hns.1)
              have HM2 := Lib.hid (mk _ _ hns.2.1)
              have HM3 := Lib.hid (mk _ _ hns.2.2.1)
              have HM4 := Lib.hid (mk _ _ hns.2.2.2)
              have HXI := Lib.hid (HX3.out.later hbi)
              have hszi := hbi.size
              clear hY hb2i hrng hns mk hbi
              have tok : True := trivial
              go_upto_region 14 with (first
                | (have _t := tok; refine wpList_load_mid rfl 48 _ rfl b2 (a2 + k * 4) rfl (cellsDu Y) _ HRNGY.out UD rfl sizeDu ?_; clear tok)
                | (refine wpList_store_blk rfl 48 _ _ rfl wr.heap.size 48 zeroDu.toArray (cellsDu Y).toArray rfl rfl (Blk.new wr _ _) (by rfl) sizeDu (oneDu Y) ?_; intro w5 hY5 hg5 hs5))
              have hb5 : Below wr.heap.size wr w5 := (below_alloc0 (.cells zeroDu.toArray 48)).grown hg5 (by simp) (fun j e => by injection e with e; omega)
              have HB5 : Hid (Below w3.heap.size w3 w5) := Lib.hid (HBI.out.trans (hb5.mono hszi))
              obtain ⟨yb, hyb⟩ : ∃ yb, wr.heap.size = yb := ⟨_, rfl⟩
              have hX5 := HXI.out.later hb5
              rw [hyb] at hY5 ⊢
              have p0 : w5.cell? ⟨xb, 0, none⟩ = some (.string X.1.1) := hX5.cell 0
              have p1 : w5.cell? ⟨xb, 1, none⟩ = some (.int .i64 X.1.2) := hX5.cell 1
              have p2 : w5.cell? ⟨xb, 2, none⟩ = some (.string X.2.1) := hX5.cell 2
              have p3 : w5.cell? ⟨xb, 3, none⟩ = some (.int .i64 X.2.2) := hX5.cell 3
              have r0 : w5.cell? ⟨yb, 0, none⟩ = some (.string Y.1.1) := hY5.cell 0
              have r1 : w5.cell? ⟨yb, 1, none⟩ = some (.int .i64 Y.1.2) := hY5.cell 1
              have r2 : w5.cell? ⟨yb, 2, none⟩ = some (.string Y.2.1) := hY5.cell 2
              have r3 : w5.cell? ⟨yb, 3, none⟩ = some (.int .i64 Y.2.2) := hY5.cell 3
              have m1 := fun W => eqMark X.1.1 Y.1.1 X.1.2 Y.1.2 W
              have m2 := fun W => eqMark X.1.1 Y.2.1 X.1.2 Y.2.2 W
              have m3 := fun W => eqMark X.2.1 Y.1.1 X.2.2 Y.1.2 W
              have m4 := fun W => eqMark X.2.1 Y.2.1 X.2.2 Y.2.2 W
              rw [HM1.out] at m1
              rw [HM2.out] at m2
              rw [HM3.out] at m3
              rw [HM4.out] at m4
              clear z2 hX5 hY5 hg5 hs5 hb5 hyb
              go_wp2
              exact ⟨⟨k + 1, by omega, by simp, HB5.out⟩, by simp [intOf]; omega⟩
            · have hszi := hbi.size
              have HB4 : Hid (Below w2.heap.size w2 wr) := Lib.hid (HB3.out.trans (hbi.mono hsz3))
              have HX4 := Lib.hid (HX3.out.later hbi)
              have hsz4 : w2.heap.size ≤ wr.heap.size := HB4.out.size
              obtain ⟨w4, hw4⟩ : ∃ w4, wr = w4 := ⟨_, rfl⟩
              rw [hw4] at HB4 HX4 hsz4 ⊢
              clear hbi HBI hszi hw4
              go_upto_region 17 with fail
              go_loopw [13] (fun s13 wi => ∃ k : Nat, k ≤ x3.length ∧ s13 = .int .i64 k ∧ Below w4.heap.size w4 wi) (fun s13 _ => x3.length - (intOf s13).toNat)
              case atStart => exact ⟨0, Nat.zero_le _, rfl, Below.refl _ _⟩
              case round =>
                obtain ⟨k, hk, rfl, hbi⟩ := hrel
                have hb2i : Below w2.heap.size w2 wr := HB4.out.trans (hbi.mono hsz4)
                have z3 : wr.cell? ⟨rb, 3, none⟩ = some (.slice A3 x3.length c3) := (hb2i.cell (p := ⟨rb, 3, none⟩) HL.out).trans HC3.out
                have HBI := Lib.hid hbi
                by_cases hki : k < x3.length
                · obtain ⟨Z, hZ⟩ : ∃ Z, Z = x3[k] := ⟨_, rfl⟩
                  obtain ⟨b3, a3, eA3, hb3', hc3⟩ : ∃ b3 a3, A3 = some ⟨b3, a3, none⟩ ∧ b3 < w2.heap.size ∧ ∀ j u, (cellsDu Z)[j]? = some u → w2.cell? ⟨b3, a3 + k * 4 + j, none⟩ = some u := by
                    rcases HFB.out.place with ⟨e, _⟩ | ⟨b', a', c', e1, _, _, e4, e5⟩
                    · rw [e] at hki; simp at hki
                    · injection e1 with e1 _ _
                      exact ⟨b', a', e1, e4, fun j u hu => e5 k hki j u (by rw [← hZ]; exact hu)⟩
                  subst eA3
                  have hst : Hid (∀ wi', Below w2.heap.size w2 wi' → wi'.rangeAt b3 (a3 + k * 4) (cellsDu Z) ∧ wi'.cell? ⟨rb, 3, none⟩ = some (.slice (some ⟨b3, a3, none⟩) x3.length c3)) := Lib.hid (fun wi' hb => ⟨fun j u hu => (hb.cell (p := ⟨b3, a3 + k * 4 + j, none⟩) hb3').trans (hc3 j u hu), (hb.cell (p := ⟨rb, 3, none⟩) HL.out).trans HC3.out⟩)
                  have HX5 := Lib.hid (HX4.out.later hbi)
                  have HBW := Lib.hid hb2i
                  have hne : decide (Z = X) = false := decide_eq_false (by rw [hZ, HXE.out]; exact HOK.out.forb i HLT.out k hki)
                  have HNE := Lib.hid hne
                  have qd := fun W => eqDuo Z X W
                  rw [hne] at qd
                  clear hZ hc3 hb2i hbi hne
                  go_upto_region 19 with fail
                  clear z3
                  refine wp_region_held_drew (S := (fun w' => w'.rangeAt b3 (a3 + k * 4) (cellsDu Z) ∧ w'.cell? ⟨rb, 3, none⟩ = some (.slice (some ⟨b3, a3, none⟩) x3.length c3) ∧ Blk w' xb 48 (cellsDu X).toArray)) (by kernel_rfl) ?hS1 (fun hHeld => ?_)
                  case hS1 => exact ⟨(hst.out _ HBW.out.drew).1, (hst.out _ HBW.out.drew).2, HX5.out.drew⟩
                  refine tk1 (i := 0) (v := ?v1_1) ?hy1_1 ?_
                  case hy1_1 => ((intro w hSw; (try dsimp only at hSw); go_simp) <;> with_reducible rfl)
                  (try simp only [Act.put, zq1, zq2, zq3, zq4, zq5, zq6])
                  refine tk1 (i := 1) (v := ?v1_2) ?hy1_2 ?_
                  case hy1_2 => ((intro w hSw; (try dsimp only at hSw); go_simp) <;> with_reducible rfl)
                  (try simp only [Act.put, zq1, zq2, zq3, zq4, zq5, zq6])
                  refine tk1 (i := 2) (v := ?v1_3) ?hy1_3 ?_
                  case hy1_3 => ((intro w hSw; (try dsimp only at hSw); go_simp) <;> with_reducible rfl)
                  (try simp only [Act.put, zq1, zq2, zq3, zq4, zq5, zq6])
                  refine tk1 (i := 3) (v := ?v1_4) ?hy1_4 ?_
                  case hy1_4 => ((intro w hSw; (try dsimp only at hSw); go_simp) <;> with_reducible rfl)
                  (try simp only [Act.put, zq1, zq2, zq3, zq4, zq5, zq6])
                  refine' wpAnyH_take (i := 4) rfl (by kernel_rfl) (by kernel_rfl) (by kernel_rfl) (fun _ _ _ h => h) (yieldsIf_load_mid (by kernel_rfl) _ _ rfl _ _ rfl _ _ (fun w9 hSw => hSw.1) ?hu1_5 ?hd1_5 ?hi1_5) (by assumption) ?_
                  case hu1_5 => assumption
                  case hd1_5 => rfl
                  case hi1_5 => (first | assumption | kernel_rfl)
                  (try simp only [Act.put, zq1, zq2, zq3, zq4, zq5, zq6])
                  refine' wpAnyH_take (i := 5) rfl (by kernel_rfl) (by kernel_rfl) (by kernel_rfl) (fun _ _ _ h => h) (yieldsIf_load_blk (by kernel_rfl) _ _ rfl _ _ _ _ rfl (fun w9 hSw => hSw.2.2) ?hu1_6 ?hd1_6 ?hi1_6) (by assumption) ?_
                  case hu1_6 => assumption
                  case hd1_6 => rfl
                  case hi1_6 => (first | assumption | kernel_rfl)
                  (try simp only [Act.put, zq1, zq2, zq3, zq4, zq5, zq6])
                  refine tk1 (i := 6) (v := ?v1_7) ?hy1_7 ?_
                  case hy1_7 => ((intro w hSw; (try dsimp only at hSw); go_simp) <;> with_reducible rfl)
                  (try simp only [Act.put, zq1, zq2, zq3, zq4, zq5, zq6])
                  refine wpAnyH_done (by kernel_rfl) ?_ _
                  go_wp2
                  exact ⟨⟨k + 1, by omega, by simp, HBI.out.drew⟩, by simp [intOf]; omega⟩
                · clear hbi hb2i
                  go_wp2
                  exact ⟨⟨i + 1, by have := HLT.out; omega, by simp, HB4.out.trans (HBI.out.mono hsz4)⟩, by have := HLT.out; simp [intOf]; omega⟩
        · have ha := HAWK.out wr (HB2.out.trans (hbr.mono hwr))
          clear hbr
          go_wp2_with (go_at_call 11; refine ha.mono ?_; rintro e w3 ⟨rfl, hb3⟩)
          go_ret
          exact ⟨rfl, (HB2.out.trans (HBR.out.mono hwr)).trans (hb3.mono (by have := HBR.out.size; omega))⟩
    · have ha := HAWK.out w2 HB2.out
      go_wp2_with (go_at_call 11; refine ha.mono ?_; rintro e w3 ⟨rfl, hb3⟩)
      go_ret
      exact ⟨rfl, HB2.out.trans (hb3.mono hwr)⟩
  · have hgt : (200 : Int) < xs.length := by omega
    have ha := HAWK.out _ hbO
    go_enter Tryz.func4, Tryz.ntmps4
    go_wp2_with (go_at_call 11; refine ha.mono ?_; rintro e w1 ⟨rfl, hb1⟩)
    go_ret
    exact ⟨rfl, hbO.trans (hb1.mono (by simp))⟩
end Go.Proofs.YtlamogpdkmbeoaaGreatDoor
end PartDuosW
