/- The texts QuoB, QuoR in one. -/
import Derived.Test.YtlamogpdkmbeoaaGreatDoorZbChJ
import Derived.Test.YtlamogpdkmbeoaaGreatDoorZbNoteC
import Derived.Test.YtlamogpdkmbeoaaGreatDoorZbLedP
set_option linter.unusedVariables false
set_option linter.unusedSimpArgs false
section PartQuoB
/- The reference's 'SameRulings'. -/
set_option maxRecDepth 100000
namespace Go.Proofs.YtlamogpdkmbeoaaGreatDoor
open Go.RowKit Go.Lib Go.Shelf Go.Maps

/-- An overruling as it is handed back: its name, the slice of its judges, the judges. -/
structure RL where
  k : NameK
  v : Value
  js : List Int
abbrev RL.enc (x : RL) : List Value := [.int .i64 x.k.1, .int .i64 x.k.2, x.v]
abbrev RL.dat (x : RL) : NameK × List Int := (x.k, x.js)
structure RulsAt (w : World) (v : Value) (rs : List RL) : Prop where
  row : RowsAt RL.enc 3 w v rs
  each : ∀ x ∈ rs, RowsAt encI 1 w x.v x.js
theorem RulsAt.later {w w' : World} {v : Value} {rs : List RL} (h : RulsAt w v rs) (hb : Below w.heap.size w w') : RulsAt w' v rs := ⟨h.row.later hb, fun x hx => (h.each x hx).later hb⟩
theorem neqName (a b a' b' : Int) (w : World) : (binOp .neq 37 (.agg #[.int .i64 a, .int .i64 b]) (.agg #[.int .i64 a', .int .i64 b'])).run Tryz.prog w = .ok (.bool (!(a == a' && b == b'))) w := by
  have u3 := Tryz.underlying3
  have a3 := Tryz.isAgg3
  have z3 := Tryz.sizeOf3
  have hS : Tryz.prog.underlying 37 = some (.struct (Tryz.prog.fieldsOf 37)) := by kernel_rfl
  have hp : Tryz.prog.stoodInHeld 37 = false := by kernel_rfl
  rw [run_neq_struct, show (10000 : Nat) = 9999 + 1 from rfl, run_equalIn_agg w 9999 37 _ _ hS hp]
  simp only [Program.fieldsOf, Tryz.underlying37]
  go_simp
  cases h1 : (a == a') <;> cases h2 : (b == b') <;> simp_all
set_option maxHeartbeats 4000000 in
theorem SameRulings_any (v1 v2 : Value) (rs qs : List RL) (w : World) (h1 : RulsAt w v1 rs) (h2 : RulsAt w v2 qs) :
    Calls Tryz.prog 15 #[v1, v2] w fun e w' => e = .returned (.bool (decide (rs.map (·.dat) = qs.map (·.dat)))) ∧ Below w.heap.size w w' := by
  have hm := h1.row.max
  unfold maxLen at hm
  have UNm := Tryz.underlying37
  by_cases hn : rs.length = qs.length
  · have H1 := Lib.hid h1
    have H2 := Lib.hid h2
    have HN := Lib.hid hn
    obtain ⟨A1, c1, rfl⟩ := h1.row.len
    obtain ⟨A2, c2, rfl⟩ := h2.row.len
    rw [← hn]
    obtain ⟨n, hnn⟩ : ∃ n, n = rs.length := ⟨_, rfl⟩
    have HNN := Lib.hid hnn
    rw [← hnn] at hm ⊢
    clear h1 h2 hn hnn
    go_enter Tryz.func15, Tryz.ntmps15
    go_upto_region 4 with fail
    go_loopw [5] (fun s5 wr => ∃ k : Nat, k ≤ n ∧ s5 = .int .i64 k ∧ Hid ((rs.map (·.dat)).take k = (qs.map (·.dat)).take k) ∧ Hid (Below w.heap.size w wr)) (fun s5 _ => n - (intOf s5).toNat)
    case atStart => exact ⟨0, Nat.zero_le _, rfl, Lib.hid rfl, Lib.hid (Below.refl _ _)⟩
    case round =>
      obtain ⟨k, hk, rfl, htk, hb⟩ := hrel
      by_cases hlt : k < n
      · have hk1 : k < rs.length := by have := HNN.out; omega
        have hk2 : k < qs.length := by have := HN.out; omega
        obtain ⟨x, hx⟩ : ∃ x, x = rs[k] := ⟨_, rfl⟩
        obtain ⟨y, hy⟩ : ∃ y, y = qs[k] := ⟨_, rfl⟩
        have hxm : x ∈ rs := by rw [hx]; exact List.getElem_mem hk1
        have hym : y ∈ qs := by rw [hy]; exact List.getElem_mem hk2
        have hstep : x.dat = y.dat → (rs.map (·.dat)).take (k + 1) = (qs.map (·.dat)).take (k + 1) := fun e => by
          rw [List.take_succ_eq_append_getElem (by simpa using hk1), List.take_succ_eq_append_getElem (by simpa using hk2), htk.out, List.getElem_map, List.getElem_map, ← hx, ← hy, e]
        have hdiff : x.dat ≠ y.dat → rs.map (·.dat) ≠ qs.map (·.dat) := fun hne e => by
          apply hne
          have := congrArg (fun l => l[k]?) e
          simp only [List.getElem?_map, List.getElem?_eq_getElem hk1, List.getElem?_eq_getElem hk2, Option.map_some, Option.some.injEq] at this
          rw [hx, hy]; exact this
        rcases H1.out.row.place with ⟨e0, _⟩ | ⟨g1, o1, c1', e1, _, _, hg1, hcell1⟩
        · rw [e0] at hk1; simp at hk1
        rcases H2.out.row.place with ⟨e0, _⟩ | ⟨g2, o2, c2', e2, _, _, hg2, hcell2⟩
        · rw [e0] at hk2; simp at hk2
        injection e1 with e1 e11 e12
        injection e2 with e2 e21 e22
        clear e11 e12 e21 e22
        subst e1
        subst e2
        have hbx := H1.out.each x hxm
        have hby := H2.out.each y hym
        obtain ⟨Ax, cx, hxv⟩ := hbx.len
        obtain ⟨Ay, cy, hyv⟩ := hby.len
        obtain ⟨⟨xa, xb⟩, xv, xj⟩ := x
        obtain ⟨⟨ya, yb⟩, yv, yj⟩ := y
        dsimp only at hxv hyv hstep hdiff hbx hby
        subst hxv
        subst hyv
        have hcx : ∀ W, Below w.heap.size w W → W.cell? ⟨g1, o1 + k * 3, none⟩ = some (.int .i64 xa) ∧ W.cell? ⟨g1, o1 + k * 3 + 1, none⟩ = some (.int .i64 xb) ∧ W.cell? ⟨g1, o1 + k * 3 + 2, none⟩ = some (.slice Ax xj.length cx) := fun W hW =>
          ⟨(hW.cell (p := ⟨g1, o1 + k * 3, none⟩) hg1).trans (hcell1 k hk1 0 _ (by rw [← hx]; rfl)), (hW.cell (p := ⟨g1, o1 + k * 3 + 1, none⟩) hg1).trans (hcell1 k hk1 1 _ (by rw [← hx]; rfl)), (hW.cell (p := ⟨g1, o1 + k * 3 + 2, none⟩) hg1).trans (hcell1 k hk1 2 _ (by rw [← hx]; rfl))⟩
        have hcy : ∀ W, Below w.heap.size w W → W.cell? ⟨g2, o2 + k * 3, none⟩ = some (.int .i64 ya) ∧ W.cell? ⟨g2, o2 + k * 3 + 1, none⟩ = some (.int .i64 yb) ∧ W.cell? ⟨g2, o2 + k * 3 + 2, none⟩ = some (.slice Ay yj.length cy) := fun W hW =>
          ⟨(hW.cell (p := ⟨g2, o2 + k * 3, none⟩) hg2).trans (hcell2 k hk2 0 _ (by rw [← hy]; rfl)), (hW.cell (p := ⟨g2, o2 + k * 3 + 1, none⟩) hg2).trans (hcell2 k hk2 1 _ (by rw [← hy]; rfl)), (hW.cell (p := ⟨g2, o2 + k * 3 + 2, none⟩) hg2).trans (hcell2 k hk2 2 _ (by rw [← hy]; rfl))⟩
        have HCX := Lib.hid hcx
        have HCY := Lib.hid hcy
        have HBX := Lib.hid hbx
        have HBY := Lib.hid hby
        have HST := Lib.hid hstep
        have HDF := Lib.hid hdiff
        obtain ⟨x0, x1, x2⟩ := hcx wr hb.out
        obtain ⟨y0, y1, y2⟩ := hcy wr hb.out
        have qn := fun W => neqName xa xb ya yb W
        clear hx hy hxm hym hstep hdiff hcell1 hcell2 hbx hby hcx hcy hk1 hk2
        by_cases hnm : xa = ya ∧ xb = yb
        · rw [show (xa == ya && xb == yb) = true by simp [hnm.1, hnm.2]] at qn
          by_cases hll : xj.length = yj.length
          · go_upto_region 6 with fail
            go_quiet (fail)
            obtain ⟨w1, hw1⟩ : ∃ w1, wr.drewN nq = w1 := ⟨_, rfl⟩
            have hb1 : Below w.heap.size w w1 := by rw [← hw1]; exact below_drewN' hb.out _
            rw [hw1]
            have HB1 := Lib.hid hb1
            have HLE := Lib.hid hll
            obtain ⟨m, hmm⟩ : ∃ m, m = yj.length := ⟨_, rfl⟩
            have HMM := Lib.hid hmm
            have hm9 : m ≤ 9223372036854775807 := by have := HBY.out.max; unfold maxLen at this; omega
            rw [← hmm]
            clear hw1 hb1 x0 x1 x2 y0 y1 y2 qn hll hmm
            go_upto_region 9 with fail
            go_loopw [6] (fun s6 wi => ∃ j : Nat, j ≤ m ∧ s6 = .int .i64 j ∧ Hid (xj.take j = yj.take j) ∧ Hid (Below w.heap.size w wi)) (fun s6 _ => m - (intOf s6).toNat)
            case atStart => exact ⟨0, Nat.zero_le _, rfl, Lib.hid rfl, HB1⟩
            case round =>
              obtain ⟨j, hj, rfl, htj, hbi⟩ := hrel
              obtain ⟨x0, x1, x2⟩ := HCX.out wr hbi.out
              obtain ⟨y0, y1, y2⟩ := HCY.out wr hbi.out
              rw [HLE.out, ← HMM.out] at x2
              rw [← HMM.out] at y2
              by_cases hjl : j < m
              · have hj1 : j < xj.length := by have := HLE.out; have := HMM.out; omega
                have hj2 : j < yj.length := by have := HMM.out; omega
                obtain ⟨p, hp⟩ : ∃ p, p = xj[j] := ⟨_, rfl⟩
                obtain ⟨q, hq⟩ : ∃ q, q = yj[j] := ⟨_, rfl⟩
                have hjs : p = q → xj.take (j + 1) = yj.take (j + 1) := fun e => take_succ_eq' hj1 hj2 htj.out (by rw [← hp, ← hq, e])
                have hjd : p ≠ q → xj ≠ yj := fun hne e => by
                  apply hne
                  rw [hp, hq]
                  subst e
                  rfl
                rcases HBX.out.place with ⟨e0, _⟩ | ⟨gx, ox, cx', ex, _, _, hgx, hcellx⟩
                · rw [e0] at hj1; simp at hj1
                rcases HBY.out.place with ⟨e0, _⟩ | ⟨gy, oy, cy', ey, _, _, hgy, hcelly⟩
                · rw [e0] at hj2; simp at hj2
                injection ex with ex e11 e12
                injection ey with ey e21 e22
                clear e11 e12 e21 e22
                subst ex
                subst ey
                have cp : wr.cell? ⟨gx, ox + j, none⟩ = some (.int .i64 p) := (hbi.out.cell (p := ⟨gx, ox + j, none⟩) hgx).trans (by have := hcellx j hj1 0 _ rfl; rw [Nat.mul_one] at this; rw [hp]; exact this)
                have cq : wr.cell? ⟨gy, oy + j, none⟩ = some (.int .i64 q) := (hbi.out.cell (p := ⟨gy, oy + j, none⟩) hgy).trans (by have := hcelly j hj2 0 _ rfl; rw [Nat.mul_one] at this; rw [hq]; exact this)
                have HJS := Lib.hid hjs
                have HJD := Lib.hid hjd
                clear hp hq hjs hjd hcellx hcelly hj1 hj2
                by_cases hpq : p = q
                · have hj3 := Lib.hid (HJS.out hpq)
                  subst hpq
                  go_upto_region 11 with fail
                  go_quiet (fail)
                  go_wp2
                  exact ⟨⟨j + 1, by omega, by simp, hj3, Lib.hid (below_drewN' hbi.out _)⟩, by simp [intOf]; omega⟩
                · have hne : Hid (rs.map (·.dat) ≠ qs.map (·.dat)) := Lib.hid (HDF.out (fun e => HJD.out hpq (by injection e)))
                  go_upto_region 11 with fail
                  go_quiet (fail)
                  go_wp2
                  go_ret
                  exact ⟨by rw [decide_eq_false hne.out]; rfl, below_drewN' hbi.out _⟩
              · have heq : xj = yj := by
                  have e1 : j = xj.length := by have := HLE.out; have := HMM.out; omega
                  have := htj.out
                  rw [e1, List.take_length, HLE.out, List.take_length] at this
                  exact this
                have hs3 := Lib.hid (HST.out (by rw [hnm.1, hnm.2, heq]))
                clear heq
                go_wp2
                exact ⟨⟨k + 1, by omega, by simp, hs3, hbi⟩, by simp [intOf]; omega⟩
          · have hne : Hid (rs.map (·.dat) ≠ qs.map (·.dat)) := Lib.hid (HDF.out (fun e => hll (by have := congrArg (fun t : NameK × List Int => t.2.length) e; exact this)))
            have hlz : ¬ (xj.length : Int) = yj.length := by omega
            go_upto_region 6 with fail
            go_quiet (fail)
            go_wp2
            go_ret
            exact ⟨by rw [decide_eq_false hne.out]; rfl, below_drewN' hb.out _⟩
        · have hne : Hid (rs.map (·.dat) ≠ qs.map (·.dat)) := Lib.hid (HDF.out (fun e => hnm (by have := congrArg (fun t : NameK × List Int => t.1) e; exact ⟨congrArg Prod.fst this, congrArg Prod.snd this⟩)))
          rw [show (xa == ya && xb == yb) = false by
            cases hz : (xa == ya && xb == yb) with
            | false => rfl
            | true => exact absurd (by simpa using hz) hnm] at qn
          go_upto_region 6 with fail
          go_quiet (fail)
          go_wp2
          go_ret
          exact ⟨by rw [decide_eq_false hne.out]; rfl, below_drewN' hb.out _⟩
      · have hkn : Hid (rs.map (·.dat) = qs.map (·.dat)) := Lib.hid (by
          have e1 : k = rs.length := by have := HNN.out; omega
          have := htk.out
          rw [e1] at this
          have e2 := HN.out
          rw [List.take_of_length_le (by simp), List.take_of_length_le (by simp; omega)] at this
          exact this)
        go_wp2
        go_ret
        exact ⟨by rw [decide_eq_true hkn.out]; rfl, hb.out⟩
  · obtain ⟨A, c, rfl⟩ := h1.row.len
    obtain ⟨A2, c2, rfl⟩ := h2.row.len
    have hne : Hid (rs.map (·.dat) ≠ qs.map (·.dat)) := Lib.hid (fun e => hn (by have := congrArg List.length e; simpa using this))
    have hn' : ¬ (rs.length : Int) = qs.length := by omega
    clear h1 h2
    go_enter Tryz.func15, Tryz.ntmps15
    go_wp2
    go_ret
    exact ⟨by rw [decide_eq_false hne.out]; rfl, Below.refl _ _⟩
end Go.Proofs.YtlamogpdkmbeoaaGreatDoor
end PartQuoB

section PartQuoR
/- Overrulings that wait, quorums: plain facts. -/
set_option maxRecDepth 100000
namespace Go.Proofs.YtlamogpdkmbeoaaGreatDoor
open Go.RowKit Go.Lib Go.Shelf Go.Maps

theorem pend_fold (q : Int) : ∀ (l : List RulB) (s : RS), (l.foldl (regStep q) s).pending = s.pending ++ l.filter (fun x => decide ((x.judges.length : Int) < q))
  | [], s => by simp
  | x :: l, s => by
    rw [List.foldl_cons, pend_fold q l]
    unfold regStep
    by_cases h : (x.judges.length : Int) < q
    · rw [if_pos h, List.filter_cons_of_pos (by simpa using h)]
      simp
    · rw [if_neg h, List.filter_cons_of_neg (by simpa using h)]
      split
      · rfl
      · split
        · rfl
        · split <;> rfl
abbrev sortI (js : List Int) : List Int := js.mergeSort fun a b => decide (a ≤ b)
theorem sortI_perm {a b : List Int} (h : a.Perm b) : sortI a = sortI b := by
  refine List.Perm.eq_of_pairwise (le := fun a b => decide (a ≤ b) = true) (fun a b _ _ h1 h2 => by simp only [decide_eq_true_eq] at h1 h2; omega) ?_ ?_ (((List.mergeSort_perm _ _).trans h).trans (List.mergeSort_perm _ _).symm)
  · exact List.pairwise_mergeSort (fun a b c h1 h2 => by simp only [decide_eq_true_eq] at *; omega) (fun a b => by simp only [Bool.or_eq_true, decide_eq_true_eq]; omega) _
  · exact List.pairwise_mergeSort (fun a b c h1 h2 => by simp only [decide_eq_true_eq] at *; omega) (fun a b => by simp only [Bool.or_eq_true, decide_eq_true_eq]; omega) _
abbrev toRL (p : Pend) : RL := ⟨nm p.rul.note, p.v, sortI p.js⟩
abbrev keyP (p : Pend) : Note × List (Int × Bool) := keyR p.rul
abbrev datK (y : Note × List (Int × Bool)) : NameK × List Int := (nm y.1, sortI (y.2.map (·.1)))
theorem dat_key {p : Pend} (h : p.js.Perm (p.rul.judges.map (·.1))) : (toRL p).dat = datK (keyP p) := Prod.ext rfl (sortI_perm h)
abbrev waits (q : Int) (p : Pend) : Bool := decide ((p.js.length : Int) < q)
theorem flat_i' (bs : List Int) : bs.flatMap encI = bs.map encI' := by
  induction bs with
  | nil => rfl
  | cons b r ih => simp [List.flatMap_cons, ih]
theorem RowsAt.mapped {α β : Type} {enc : α → List Value} {enc' : β → List Value} {f : α → β} {k : Nat} {w : World} {v : Value} {xs : List α} (h : RowsAt enc k w v xs) (he : ∀ x, enc' (f x) = enc x) : RowsAt enc' k w v (xs.map f) := by
  obtain ⟨A, c, e, hm, hc⟩ := h
  refine ⟨A, c, by rw [List.length_map]; exact e, by rw [List.length_map]; exact hm, fun j hj => ?_⟩
  rw [List.length_map] at hj
  obtain ⟨b, o, h1, h2, h3⟩ := hc j hj
  exact ⟨b, o, h1, h2, fun i u hu => h3 i u (by rw [← hu, List.getElem_map, he])⟩
theorem rulsAt_of {b : Nat} {w : World} {v : Value} {ps : List Pend} (h : RowsAt Pend.enc 3 w v ps) (he : ∀ p ∈ ps, PendOk b w p) : RulsAt w v (ps.map toRL) :=
  ⟨h.mapped (fun _ => rfl), fun x hx => by
    obtain ⟨p, hp, rfl⟩ := List.mem_map.1 hx
    have := (he p hp).row
    refine rows_of_owns 1 (fun _ => rfl) (base := b) (e := 3) ?_
    have e1 : (sortI p.js).length = p.js.length := (List.mergeSort_perm _ _).length_eq
    show w.ownsRow b 3 1 p.v (sortI p.js).length ((sortI p.js).flatMap encI)
    rw [e1, flat_i']
    exact this⟩
theorem below_reg {w2 w3 : World} {cs : Array Value} (hg : (w2.alloc (.cells cs 32)).grownBy w3 (some w2.heap.size)) : Below w2.heap.size w2 w3 :=
  (below_alloc0 (.cells cs 32)).grown hg (by simp) (fun j e => by injection e with e; omega)
end Go.Proofs.YtlamogpdkmbeoaaGreatDoor
end PartQuoR
