/- The texts EntryA, GreatA in one. -/
import Derived.Test.YtlamogpdkmbeoaaGreatDoorZbSames
import Derived.Test.YtlamogpdkmbeoaaGreatDoorZbCopy
set_option linter.unusedVariables false
set_option linter.unusedSimpArgs false
section PartEntryA
/- 'EntryOf': a station's entry, its log in memory of its own. -/
set_option maxRecDepth 100000
namespace Go.Proofs.YtlamogpdkmbeoaaGreatDoor
open Go.RowKit Go.Lib Go.Shelf Go.Maps

abbrev ent0 : Array Value := #[.string ⟨#[]⟩, .int .i64 0, .int .i64 0, .int .i64 0, .slice none 0 0, .slice none 0 0, .int .i64 0, .int .i64 0, .int .i64 0]
theorem sizeEntry : (Tryz.prog.info? 75).map (·.size) = some 9 := by kernel_rfl
/-- What 'EntryOf' hands back. -/
def EntryOut (c : ByteArray) (es : List Ent) (w : World) (e : Ending) : Prop :=
  (∃ x ∈ es, x.note.nt.log.call = c ∧ ∃ vj vl, e = .returned (.tuple #[.agg (Ent.enc ⟨x.note, vj, vl⟩).toArray, .int .i64 0]) ∧ RowsAt encI 1 w vj x.note.js ∧ RowsAt Ln.enc 11 w vl x.note.ls) ∨ (e = .returned (.tuple #[.agg ent0, .int .i64 3]) ∧ ∀ x ∈ es, x.note.nt.log.call ≠ c)
theorem str_ne' {a b : ByteArray} (h : ¬ a = b) : (a.toList == b.toList) = false := by
  cases e : (a.toList == b.toList)
  · rfl
  · exact absurd (toList_inj e) h
set_option maxHeartbeats 8000000 in
theorem EntryOf_any (c : ByteArray) (ev u1 u2 u3 pv pb u4 : Value) (hs : Int) (es : List Ent) (x1 : List MarkK) (x2 x3 : List DuoK) (rs : List RL) (pn x4 : List NameK) (w : World) (h : RegMem w ev u1 u2 u3 pv pb u4 es x1 x2 x3 rs pn x4) (hsm : ∀ x ∈ es, x.note.js.length ≤ 1000 ∧ x.note.ls.length ≤ 1000) :
    Calls Tryz.prog 28 #[.agg #[ev, u1, u2, u3, pv, pb, .int .i64 hs, u4], .string c] w fun e w' => EntryOut c es w' e ∧ Below w.heap.size w w' := by
  have hm := h.ents.max
  unfold maxLen at hm
  have UE := Tryz.underlying75
  have HR := Lib.hid h.ents
  have HEA := Lib.hid h.each
  have HSM := Lib.hid hsm
  obtain ⟨A, ac, rfl⟩ := h.ents.len
  obtain ⟨B, bc, rfl⟩ := h.struck.len
  obtain ⟨C, cc, rfl⟩ := h.force.len
  obtain ⟨D, dc, rfl⟩ := h.forbid.len
  obtain ⟨E, ec, rfl⟩ := h.pend.row.len
  obtain ⟨F, fc, rfl⟩ := h.published.len
  obtain ⟨G, gc, rfl⟩ := h.conflicts.len
  obtain ⟨n, hn⟩ : ∃ n, n = es.length := ⟨_, rfl⟩
  obtain ⟨nB, hnB⟩ : ∃ n, n = x1.length := ⟨_, rfl⟩
  obtain ⟨nC, hnC⟩ : ∃ n, n = x2.length := ⟨_, rfl⟩
  obtain ⟨nD, hnD⟩ : ∃ n, n = x3.length := ⟨_, rfl⟩
  obtain ⟨nE, hnE⟩ : ∃ n, n = rs.length := ⟨_, rfl⟩
  obtain ⟨nF, hnF⟩ : ∃ n, n = pn.length := ⟨_, rfl⟩
  obtain ⟨nG, hnG⟩ : ∃ n, n = x4.length := ⟨_, rfl⟩
  rw [← hn, ← hnB, ← hnC, ← hnD, ← hnE, ← hnF, ← hnG]
  rw [← hn] at hm HR
  have HN := Lib.hid hn
  clear h hsm hn hnB hnC hnD hnE hnF hnG
  obtain ⟨W, hW⟩ : ∃ W, (w.alloc (.cells #[.slice A n ac, .slice B nB bc, .slice C nC cc, .slice D nD dc, .slice E nE ec, .slice F nF fc, .int .i64 hs, .slice G nG gc] 32)).alloc (.cells ent0 75) = W := ⟨_, rfl⟩
  have hb : Below w.heap.size w W := by rw [← hW]; exact ((Below.refl _ w).alloc (Nat.le_refl _) _).alloc (by simp) _
  have hX : Blk W w.heap.size 32 #[.slice A n ac, .slice B nB bc, .slice C nC cc, .slice D nD dc, .slice E nE ec, .slice F nF fc, .int .i64 hs, .slice G nG gc] := by rw [← hW]; exact (Blk.new w _ _).alloc _
  have hZ : Blk W (w.heap.size + 1) 75 ent0 := by
    rw [← hW]
    have := Blk.new (w.alloc (.cells #[.slice A n ac, .slice B nB bc, .slice C nC cc, .slice D nD dc, .slice E nE ec, .slice F nF fc, .int .i64 hs, .slice G nG gc] 32)) 75 ent0
    rwa [World.size_alloc] at this
  have p0 : W.cell? ⟨w.heap.size, 0, none⟩ = some (.slice A n ac) := hX.cell 0
  have HZ := Lib.hid hZ
  have HB := Lib.hid hb
  have hs0 : w.heap.size ≤ W.heap.size := hb.size
  have lZ := hZ.lt
  have oz : ent0.all (·.oneCell') = true := by simp [Value.oneCell']
  clear hb hX hZ
  go_enter Tryz.func28, Tryz.ntmps28
  go_upto_region 2 with fail
  clear hW
  go_loopw [11] (fun s11 wr => ∃ k : Nat, k ≤ n ∧ s11 = .int .i64 k ∧ Hid (∀ (i : Nat) (x : Ent), i < k → es[i]? = some x → x.note.nt.log.call ≠ c) ∧ Hid (Below W.heap.size W wr)) (fun s11 _ => n - (intOf s11).toNat)
  case atStart => exact ⟨0, Nat.zero_le _, rfl, Lib.hid (fun i _ h => absurd h (Nat.not_lt_zero _)), Lib.hid (Below.refl _ _)⟩
  case round =>
    obtain ⟨k, hk, rfl, hno, hb⟩ := hrel
    have hsr : W.heap.size ≤ wr.heap.size := hb.out.size
    have HBW : Hid (Below w.heap.size w wr) := Lib.hid (HB.out.trans (hb.out.mono hs0))
    by_cases hlt : k < n
    · have hk1 : k < es.length := by have := HN.out; omega
      obtain ⟨x, hx⟩ : ∃ x, x = es[k] := ⟨_, rfl⟩
      have hxm : x ∈ es := by rw [hx]; exact List.getElem_mem hk1
      have HXM := Lib.hid hxm
      have HXK : Hid (es[k]? = some x) := Lib.hid (by rw [hx]; exact List.getElem?_eq_getElem hk1)
      rcases HR.out.place with ⟨e0, _⟩ | ⟨g1, o1, c1', e1, _, _, hg1, hcell1⟩
      · rw [e0] at hk1; simp at hk1
      injection e1 with e1 e11 e12
      clear e11 e12
      subst e1
      have HRNG : Hid (wr.rangeAt g1 (o1 + k * 9) x.enc) := Lib.hid (fun q u hu => (HBW.out.cell (p := ⟨g1, o1 + k * 9 + q, none⟩) hg1).trans (hcell1 k hk1 q u (by rw [← hx]; exact hu)))
      have hej := HEA.out x hxm
      obtain ⟨h1000, h1001⟩ := HSM.out x hxm
      obtain ⟨js, hjs⟩ : ∃ js, js = x.note.js := ⟨_, rfl⟩
      obtain ⟨ls, hls⟩ : ∃ ls, ls = x.note.ls := ⟨_, rfl⟩
      rw [← hjs, ← hls] at hej
      rw [← hjs] at h1000
      rw [← hls] at h1001
      obtain ⟨Aj, cj, hvj⟩ := hej.1.len
      obtain ⟨Al, cl', hvl⟩ := hej.2.len
      have HCJ : Hid (∀ V, Below w.heap.size w V → Calls Tryz.prog 56 #[.slice Aj js.length cj] V fun e w' => ∃ v', e = .returned v' ∧ w'.ownsRow V.heap.size 3 1 v' js.length (js.flatMap encI) ∧ Below V.heap.size V w') := Lib.hid fun V hb => by
        rw [← hvj]; exact cloneInts_any x.vj js V (hej.1.later hb) (by omega)
      have HCL : Hid (∀ V, Below w.heap.size w V → Calls Tryz.prog 57 #[.slice Al ls.length cl'] V fun e w' => ∃ v', e = .returned v' ∧ w'.ownsRow V.heap.size 126 11 v' ls.length (ls.flatMap Ln.enc) ∧ Below V.heap.size V w') := Lib.hid fun V hb => by
        rw [← hvl]; exact cloneLines_any x.vl ls V (hej.2.later hb) (by omega)
      have HONE : Hid (x.enc.toArray.all (·.oneCell') = true) := Lib.hid (by simp [Value.oneCell', hvj, hvl])
      obtain ⟨nj, hnj⟩ : ∃ q, q = js.length := ⟨_, rfl⟩
      obtain ⟨nl, hnl⟩ : ∃ q, q = ls.length := ⟨_, rfl⟩
      rw [← hnj] at hvj HCJ
      rw [← hnl] at hvl HCL
      obtain ⟨lc, hlc⟩ : ∃ lc, lc = x.note.nt.log.call := ⟨_, rfl⟩
      have HVJ := Lib.hid hvj
      have HVL := Lib.hid hvl
      have HLC := Lib.hid hlc
      have HJL := Lib.hid (And.intro (And.intro hjs hls) (And.intro hnj hnl))
      clear hx hxm hcell1 hk1 hej h1000 h1001 hvj hvl hlc hjs hls hnj hnl
      have tok : True := trivial
      go_upto_region 4 with (first
        | (have _t := tok; refine wpList_load_mid rfl 75 _ rfl g1 (o1 + k * 9) rfl x.enc _ HRNG.out UE rfl sizeEntry ?_; clear tok)
        | (refine wpList_store_blk rfl 75 _ _ rfl wr.heap.size 75 ent0 x.enc.toArray rfl rfl (Blk.new wr _ _) (by rfl) sizeEntry HONE.out ?_; intro w4 hX4 hg4 hs4))
      have hb4 : Below wr.heap.size wr w4 := (below_alloc0 _).grown hg4 (by simp) (fun i e => by cases e; exact Nat.le_refl _)
      have HB4 := Lib.hid (hb.out.trans (hb4.mono hsr))
      have HW4 := Lib.hid (HBW.out.trans (hb4.mono HBW.out.size))
      have hsw4 : w.heap.size ≤ w4.heap.size := HW4.out.size
      obtain ⟨p, hp⟩ : ∃ p, wr.heap.size = p := ⟨_, rfl⟩
      have HP : Hid (w.heap.size + 1 < p) := Lib.hid (by rw [← hp]; omega)
      rw [hp] at hX4 ⊢
      have HX4 := Lib.hid hX4
      have p0' : w4.cell? ⟨p, 0, none⟩ = some (.string lc) := by rw [HLC.out]; exact hX4.cell 0
      have lX := hX4.lt
      clear hb4 hg4 hs4 hX4 hp HRNG
      by_cases e : lc = c
      rotate_left
      · have hne := str_ne' e
        have HST : Hid (∀ (i : Nat) (x : Ent), i < k + 1 → es[i]? = some x → x.note.nt.log.call ≠ c) := Lib.hid (fun i x' hi e2 => by
          by_cases h : i < k
          · exact hno.out i x' h e2
          · obtain rfl : i = k := by omega
            have a1 := HXK.out.symm.trans e2
            injection a1 with a1
            rw [← a1, ← HLC.out]
            exact e)
        clear e
        go_wp2
        (try go_frame)
        go_roundw
        case rel => exact ⟨k + 1, by omega, by simp, HST, HB4⟩
        case measure => simp [intOf]; omega
      · subst e
        have f4 : w4.frozen? ⟨p, 4, none⟩ = false := HX4.out.frozen 4
        have f5 : w4.frozen? ⟨p, 5, none⟩ = false := HX4.out.frozen 5
        have HS : Hid (∀ w3 : World, Below w4.heap.size w4 w3 → w3.cell? ⟨p, 4, none⟩ = some (.slice Aj nj cj) ∧ w3.frozen? ⟨p, 4, none⟩ = false ∧ w3.cell? ⟨p, 5, none⟩ = some (.slice Al nl cl') ∧ w3.frozen? ⟨p, 5, none⟩ = false) := Lib.hid fun w3 hb =>
          ⟨by rw [← HVJ.out]; exact (HX4.out.later hb).cell 4, (hb.frozen (p := ⟨p, 4, none⟩) lX).trans f4, by rw [← HVL.out]; exact (HX4.out.later hb).cell 5, (hb.frozen (p := ⟨p, 5, none⟩) lX).trans f5⟩
        clear f4 f5
        go_upto_region 5 with fail
        refine wp_region_late (S := (fun w' => w'.cell? ⟨p, 4, none⟩ = some (.slice Aj nj cj) ∧ w'.frozen? ⟨p, 4, none⟩ = false ∧ w'.cell? ⟨p, 5, none⟩ = some (.slice Al nl cl') ∧ w'.frozen? ⟨p, 5, none⟩ = false)) [10, 13] (by kernel_rfl) ?hS1 (fun hHeld => ?_)
        case hS1 => exact HS.out _ (Below.refl _ _).drew
        refine tl1 (i := 0) ?_; try simp only [Act.put, zq]
        refine tl1 (i := 1) ?_; try simp only [Act.put, zq]
        refine tl2 (i := 2) ?_; try simp only [Act.put, zq]
        refine tl1 (i := 4) ?_; try simp only [Act.put, zq]
        refine tl1 (i := 5) ?_; try simp only [Act.put, zq]
        refine tl2 (i := 6) ?_; try simp only [Act.put, zq]
        refine wpAnyL_ready (rs := [3]) (by kernel_rfl) (by simp) ?_
        refine AllReadyL.cons rfl (fun K hK => ?_) AllReadyL.nil
        go_simp
        (go_at_call 56; refine (HCJ.out w4.drew HW4.out.drew).mono ?_; rintro e w5 ⟨v1, rfl, hr1, hb5⟩; obtain ⟨A1, m1, q1, rfl⟩ := own_slice hr1; have hb5 : Below w4.heap.size w4 w5 := (Below.refl _ w4).drew.trans hb5)
        go_wp2_with fail
        refine hK.out _ _ ?hS1_7 (fun hHeld => ?_)
        case hS1_7 => ((try dsimp only); exact HS.out _ hb5)
        clear hK K
        (try simp only [Act.put, zq])
        refine tl1 (i := 8) ?_; try simp only [Act.put, zq]
        refine tl1 (i := 9) ?_; try simp only [Act.put, zq]
        refine wpAnyL_ready (rs := [7]) (by kernel_rfl) (by simp) ?_
        refine AllReadyL.cons rfl (fun K hK => ?_) AllReadyL.nil
        go_simp
        (go_at_call 57; refine (HCL.out w5 (HW4.out.trans (hb5.mono hsw4))).mono ?_; rintro e w6 ⟨v2, rfl, hr2, hb6⟩; obtain ⟨A2, m2, q2, rfl⟩ := own_slice hr2; have hb7 : Below w4.heap.size w4 w6 := hb5.trans (hb6.mono hb5.size))
        go_wp2_with fail
        refine hK.out _ _ ?hS1_10 (fun hHeld => ?_)
        case hS1_10 => ((try dsimp only); exact HS.out _ hb7)
        clear hK K
        (try simp only [Act.put, zq])
        refine wpAnyL_ready (rs := [10]) (by kernel_rfl) (by simp) ?_
        refine AllReadyL.late rfl (by kernel_rfl) (fun K hK => ?_) AllReadyL.nil
        go_simp
        refine hK.out _ _ ?_
        clear hK K
        (try simp only [Act.put, zq])
        refine wpAnyL_pureL (i := 11) (v := ?v1_12) rfl (by kernel_rfl) (by kernel_rfl) (by kernel_rfl) (by kernel_rfl) (by kernel_rfl) (fun _ _ _ h => h) (Or.inl ⟨by kernel_rfl, ?hy1_12⟩) ?_
        case hy1_12 => ((intro w hSw; (try dsimp only at hSw); go_simp) <;> with_reducible rfl)
        (try simp only [Act.put, zq])
        refine wpAnyL_pureL (i := 12) (v := ?v1_13) rfl (by kernel_rfl) (by kernel_rfl) (by kernel_rfl) (by kernel_rfl) (by kernel_rfl) (fun _ _ _ h => h) (Or.inl ⟨by kernel_rfl, ?hy1_13⟩) ?_
        case hy1_13 => ((intro w hSw; (try dsimp only at hSw); go_simp) <;> with_reducible rfl)
        (try simp only [Act.put, zq])
        refine wpAnyL_ready (rs := [13]) (by kernel_rfl) (by simp) ?_
        refine AllReadyL.late rfl (by kernel_rfl) (fun K hK => ?_) AllReadyL.nil
        go_simp
        refine hK.out _ _ ?_
        clear hK K
        (try simp only [Act.put, zq])
        refine wpAnyL_done (by kernel_rfl) ?_ _
        obtain ⟨w8, hw8⟩ : ∃ w8, (w6.setCell ⟨p, 4, none⟩ (.slice A1 m1 q1)).setCell ⟨p, 5, none⟩ (.slice A2 m2 q2) = w8 := ⟨_, rfl⟩
        have hg8 : w6.grownBy w8 (some p) := by rw [← hw8]; exact (grown_put _ _ _ _).trans (grown_put _ _ _ _)
        have hX8 : Blk w8 p 75 (Ent.enc ⟨x.note, .slice A1 m1 q1, .slice A2 m2 q2⟩).toArray := by rw [← hw8]; exact ((HX4.out.later hb7).put 4 _).put 5 _
        have hZ6 := (HZ.out.later HB4.out).later hb7
        have hZ8 := hZ6.kept hg8 (by intro e; injection e with e; have := HP.out; omega)
        have one1 := own_one hr1
        have one2 := own_one hr2
        have hone8 : (Ent.enc ⟨x.note, .slice A1 m1 q1, .slice A2 m2 q2⟩).toArray.all (·.oneCell') = true := by simp [Value.oneCell', one1, one2]
        have r1 := (ownsRow_base_a hr1 (show w.heap.size ≤ w4.drew.heap.size from hsw4))
        have r2 := (ownsRow_base_a hr2 (show w.heap.size ≤ w5.heap.size by have := hb5.size; omega))
        have r1' : w6.ownsRow w.heap.size 3 1 (.slice A1 m1 q1) nj (js.flatMap encI) := own_later r1 hb6
        have r18 := r1'.kept hg8 (ownsRow_ne_a r1' (HX4.out.later hb7) (fun cur e => by injection e with _ e; cases e))
        have r28 := r2.kept hg8 (ownsRow_ne_a r2 (HX4.out.later hb7) (fun cur e => by injection e with _ e; cases e))
        have HR1 := Lib.hid r18
        have HR2 := Lib.hid r28
        have HB8 := Lib.hid ((HW4.out.trans (hb7.mono hsw4)).grown hg8 (by have := hb7.size; omega) (fun k e => by cases e; have := HP.out; omega))
        have HX8 := Lib.hid hX8
        have HZ8 := Lib.hid hZ8
        rw [hw8]
        clear hHeld hw8 hg8 hX8 hZ6 hZ8 one1 one2 r1 r2 r1' r18 r28 hr1 hr2 hb5 hb6 hb7 p0'
        have tok : True := trivial
        go_wp2_with (first
          | (have _t := tok; refine wpList_load_blk rfl 75 _ rfl p 75 _ _ rfl HX8.out UE rfl sizeEntry ?_; clear tok)
          | (refine wpList_store_blk rfl 75 _ _ rfl (w.heap.size + 1) 75 ent0 (Ent.enc ⟨x.note, .slice A1 m1 q1, .slice A2 m2 q2⟩).toArray rfl rfl HZ8.out (by rfl) sizeEntry hone8 ?_; intro w9 hZ9 hg9 hs9))
        have n1 := HR1.out.kept hg9 (ownsRow_ne_a HR1.out HZ8.out (fun cur e => by injection e with _ e; cases e))
        have n2 := HR2.out.kept hg9 (ownsRow_ne_a HR2.out HZ8.out (fun cur e => by injection e with _ e; cases e))
        refine bodyPost_ret (results_cellb Tryz.results28 rfl hZ9 UE rfl sizeEntry) rfl ⟨.inl ⟨x, HXM.out, HLC.out.symm, _, _, rfl, by rw [← HJL.out.1.1]; exact rows_of_owns 1 (fun _ => rfl) (by rw [← HJL.out.2.1]; exact n1), by rw [← HJL.out.1.2]; exact rows_of_owns 11 (fun _ => rfl) (by rw [← HJL.out.2.2]; exact n2)⟩, ?_⟩
        exact HB8.out.grown hg9 HB8.out.size (fun j e => by cases e; omega)
    · have HNO : Hid (∀ x ∈ es, x.note.nt.log.call ≠ c) := Lib.hid fun x hx => by
        obtain ⟨i, hi⟩ := List.getElem?_of_mem hx
        exact hno.out i x (by have := (List.getElem?_eq_some_iff.1 hi).1; have := HN.out; omega) hi
      have HZr := Lib.hid (HZ.out.later hb.out)
      go_wp2_with (refine wpList_store_blk rfl 75 _ _ rfl (w.heap.size + 1) 75 ent0 ent0 rfl rfl HZr.out (by rfl) sizeEntry oz ?_; intro w9 hZ9 hg9 hs9)
      refine bodyPost_ret (results_cellb Tryz.results28 rfl hZ9 UE rfl sizeEntry) rfl ⟨.inr ⟨rfl, HNO.out⟩, ?_⟩
      exact HBW.out.grown hg9 HBW.out.size (fun j e => by cases e; omega)
end Go.Proofs.YtlamogpdkmbeoaaGreatDoor
end PartEntryA

section PartGreatA
/- 'greatest', where it holds. -/
set_option maxRecDepth 100000
namespace Go.Proofs.YtlamogpdkmbeoaaGreatDoor
open Go.RowKit Go.Lib Go.Shelf Go.Maps

theorem refName_any (n : Nt) (w : World) : Calls Tryz.prog 13 #[n.val] w fun e w' => e = .returned (.agg #[.int .i64 n.judge, .int .i64 n.num]) ∧ Grown w w' := by
  obtain ⟨judge, num, clock, kind, call, version, ⟨lcall, cat, pow, cl, vj, vl⟩, aC, aN, bC, bN, rJ, rN, hash, prev⟩ := n
  dsimp only [Nt.val, Nt.enc]
  go_enter Tryz.func13, Tryz.ntmps13
  go_wp2
  have hB := Blk.new (w.alloc (.cells #[.int .i64 judge, .int .i64 num, .int .i64 clock, .int .i64 kind, .string call, .int .i64 version, .string lcall, .int .i64 cat, .int .i64 pow, .int .i64 cl, vj, vl, .string aC, .int .i64 aN, .string bC, .int .i64 bN, .int .i64 rJ, .int .i64 rN, .int .i64 hash, .int .i64 prev] 46)) 37 #[.int .i64 judge, .int .i64 num]
  rw [World.size_alloc] at hB
  exact bodyPost_ret (results_cell1b Tryz.results13 rfl hB Tryz.underlying37 rfl (by kernel_rfl)) rfl ⟨rfl, ((Grown.refl w).alloc _).alloc _⟩
set_option maxHeartbeats 16000000 in
theorem greatest_true (v1 v2 : Value) (xs : List Note) (ns : List NameK) (e : Ent) (w : World) (h1 : NotesAt w v1 xs) (h2 : RowsAt NameK.cells 2 w v2 ns) (hj : RowsAt encI 1 w e.vj e.note.js) (hl : RowsAt Ln.enc 11 w e.vl e.note.ls) (hx : e.note ∈ xs) (hnd : (xs.map nm).Nodup) (hin : nm e.note ∈ ns)
    (hg : ∀ x ∈ xs, nm x ∈ ns → ¬ ((x.nt.kind = 2 ∧ e.note.nt.version ≤ x.nt.version) ∨ e.note.nt.version < x.nt.version)) :
    Calls Tryz.prog 27 #[v1, v2, .agg e.enc.toArray] w fun r w' => r = .returned (.bool true) ∧ Below w.heap.size w w' := by
  have hm1 := h1.row.max
  have hm2 := h2.max
  unfold maxLen at hm1 hm2
  have UN := Tryz.underlying46
  have UM := Tryz.underlying37
  have UL := Tryz.underlying42
  obtain ⟨⟨⟨judge, num, clock, kind, call, version, ⟨lc, ca, po, cl, jv, lv⟩, aC, aN, bCc, bNn, rJ, rN, hash, prev⟩, js, ls⟩, vj, vl⟩ := e
  dsimp only [Ent.enc] at hj hl hg ⊢
  have HX := Lib.hid hx
  have HND := Lib.hid hnd
  have HIN : Hid ((judge, num) ∈ ns) := Lib.hid hin
  have HG := Lib.hid hg
  have H1 := Lib.hid h1
  have H2 := Lib.hid h2
  have HJ := Lib.hid hj
  have HL := Lib.hid hl
  obtain ⟨A1, c1, rfl⟩ := h1.row.len
  obtain ⟨A2, c2, rfl⟩ := h2.len
  obtain ⟨Aj, cj, rfl⟩ := hj.len
  obtain ⟨Al, cl', rfl⟩ := hl.len
  obtain ⟨n, hn⟩ : ∃ n, n = xs.length := ⟨_, rfl⟩
  obtain ⟨m, hm⟩ : ∃ m, m = ns.length := ⟨_, rfl⟩
  obtain ⟨nj, hnj⟩ : ∃ q, q = js.length := ⟨_, rfl⟩
  obtain ⟨nl, hnl⟩ : ∃ q, q = ls.length := ⟨_, rfl⟩
  rw [← hn] at hm1 ⊢
  rw [← hm] at hm2 ⊢
  rw [← hnj, ← hnl]
  rw [← hn] at H1
  rw [← hm] at H2
  rw [← hnj] at HJ
  rw [← hnl] at HL
  have HN := Lib.hid (And.intro hn hm)
  clear h1 h2 hj hl hx hnd hin hg hn hm hnj hnl
  obtain ⟨W, hW⟩ : ∃ W, w.alloc (.cells #[.string lc, .int .i64 ca, .int .i64 po, .int .i64 cl, .slice Aj nj cj, .slice Al nl cl', .int .i64 version, .int .i64 judge, .int .i64 num] 75) = W := ⟨_, rfl⟩
  have hb : Below w.heap.size w W := by rw [← hW]; exact below_alloc0 _
  have hE : Blk W w.heap.size 75 #[.string lc, .int .i64 ca, .int .i64 po, .int .i64 cl, .slice Aj nj cj, .slice Al nl cl', .int .i64 version, .int .i64 judge, .int .i64 num] := by rw [← hW]; exact Blk.new w _ _
  have HE := Lib.hid hE
  have HB := Lib.hid hb
  have hs0 : w.heap.size ≤ W.heap.size := hb.size
  clear hb hE
  go_enter Tryz.func27, Tryz.ntmps27
  go_upto_region 3 with fail
  clear hW
  go_loopw [7, 8] (fun s7 s8 wr => ∃ (i : Nat) (f : Bool), i ≤ m ∧ s7 = .bool f ∧ s8 = .int .i64 i ∧ Hid (f = true ↔ (judge, num) ∈ ns.take i) ∧ Hid (Below W.heap.size W wr)) (fun _ s8 _ => m - (intOf s8).toNat)
  case atStart => exact ⟨0, false, Nat.zero_le _, rfl, rfl, Lib.hid (by simp), Lib.hid (Below.refl _ _)⟩
  case round =>
    obtain ⟨i, f, hi, rfl, rfl, hF, hb⟩ := hrel
    by_cases hlt : i < m
    · have hi1 : i < ns.length := by have := HN.out.2; omega
      obtain ⟨q, hq⟩ : ∃ q, q = ns[i] := ⟨_, rfl⟩
      have hqm : q ∈ ns := by rw [hq]; exact List.getElem_mem hi1
      have HQM := Lib.hid hqm
      have HTK : Hid (∀ r, r ∈ ns.take (i + 1) ↔ r ∈ ns.take i ∨ r = q) := Lib.hid (fun r => by rw [List.take_succ_eq_append_getElem hi1, ← hq]; simp)
      rcases H2.out.place with ⟨e0, _⟩ | ⟨g2, o2, c2', e2, _, _, hg2, hcell2⟩
      · rw [e0] at hi1; simp at hi1
      injection e2 with e2 e21 e22
      clear e21 e22
      subst e2
      obtain ⟨qa, qb⟩ := q
      have HCQ : Hid (∀ W', Below w.heap.size w W' → W'.cell? ⟨g2, o2 + i * 2, none⟩ = some (.int .i64 qa) ∧ W'.cell? ⟨g2, o2 + i * 2 + 1, none⟩ = some (.int .i64 qb)) := Lib.hid fun W' hW' =>
        ⟨(hW'.cell (p := ⟨g2, o2 + i * 2, none⟩) hg2).trans (hcell2 i hi1 0 _ (by rw [← hq]; rfl)), (hW'.cell (p := ⟨g2, o2 + i * 2 + 1, none⟩) hg2).trans (hcell2 i hi1 1 _ (by rw [← hq]; rfl))⟩
      have hsr : W.heap.size ≤ wr.heap.size := hb.out.size
      clear hq hqm hcell2 hi1
      go_upto_region 6 with fail
      go_loopw [7, 9] (fun s7 s9 wr => ∃ (k : Nat) (f : Bool), k ≤ n ∧ s7 = .bool f ∧ s9 = .int .i64 k ∧ Hid (f = true ↔ ((judge, num) ∈ ns.take i ∨ ((judge, num) = (qa, qb) ∧ (qa, qb) ∈ (xs.take k).map nm))) ∧ Hid (Below W.heap.size W wr)) (fun _ s9 _ => n - (intOf s9).toNat)
      case atStart => exact ⟨0, f, Nat.zero_le _, rfl, rfl, Lib.hid (by rw [hF.out]; simp), hb⟩
      case round =>
        obtain ⟨k, f, hk, rfl, rfl, hF2, hb2⟩ := hrel
        have HBW : Hid (Below w.heap.size w wr) := Lib.hid (HB.out.trans (hb2.out.mono hs0))
        by_cases hlt2 : k < n
        · have hk1 : k < xs.length := by have := HN.out.1; omega
          obtain ⟨x, hx⟩ : ∃ x, x = xs[k] := ⟨_, rfl⟩
          have hxm : x ∈ xs := by rw [hx]; exact List.getElem_mem hk1
          have HXM := Lib.hid hxm
          have HTX : Hid (∀ r, r ∈ (xs.take (k + 1)).map nm ↔ r ∈ (xs.take k).map nm ∨ r = nm x) := Lib.hid (fun r => by rw [List.take_succ_eq_append_getElem hk1, ← hx, List.map_append, List.mem_append]; simp)
          rcases H1.out.row.place with ⟨e0, _⟩ | ⟨g1, o1, c1', e1, _, _, hg1, hcell1⟩
          · rw [e0] at hk1; simp at hk1
          injection e1 with e1 e11 e12
          clear e11 e12
          subst e1
          have HRNG : Hid (∀ W', Below w.heap.size w W' → W'.rangeAt g1 (o1 + k * 20) x.nt.enc) := Lib.hid fun W' hW' q u hu => (hW'.cell (p := ⟨g1, o1 + k * 20 + q, none⟩) hg1).trans (hcell1 k hk1 q u (by rw [← hx]; exact hu))
          have hn1 := fun V => refName_any x.nt V
          have hss : W.heap.size ≤ wr.heap.size := hb2.out.size
          have HXA : Hid (∀ W', Below w.heap.size w W' → x.At W') := Lib.hid fun W' hW' => (H1.out.each x hxm).later hW'
          clear hx hxm hcell1 hk1
          by_cases hnm : nm x = (qa, qb)
          rotate_left
          · have hne : ¬ (x.nt.judge = qa ∧ x.nt.num = qb) := fun h => hnm (Prod.ext h.1 h.2)
            have qn := fun V => neqName x.nt.judge x.nt.num qa qb V
            rw [show (x.nt.judge == qa && x.nt.num == qb) = false by
              cases hh : (x.nt.judge == qa && x.nt.num == qb)
              · rfl
              · simp at hh; exact absurd hh hne] at qn
            have HST : Hid (f = true ↔ ((judge, num) ∈ ns.take i ∨ ((judge, num) = (qa, qb) ∧ (qa, qb) ∈ (xs.take (k + 1)).map nm))) := Lib.hid (by
              rw [hF2.out, HTX.out]
              constructor
              · rintro (h | ⟨h, h'⟩)
                · exact .inl h
                · exact .inr ⟨h, .inl h'⟩
              · rintro (h | ⟨h, h' | h'⟩)
                · exact .inl h
                · exact .inr ⟨h, h'⟩
                · exact absurd h'.symm hnm)
            clear hnm hne
            go_upto_region 8 with fail
            refine wp_region_held_drew (S := (fun w' => w'.rangeAt g1 (o1 + k * 20) x.nt.enc ∧ w'.cell? ⟨g2, o2 + i * 2, none⟩ = some (.int .i64 qa) ∧ w'.cell? ⟨g2, o2 + i * 2 + 1, none⟩ = some (.int .i64 qb))) (by kernel_rfl) ?hS1 (fun hHeld => ?_)
            case hS1 => exact ⟨HRNG.out _ HBW.out.drew, HCQ.out _ HBW.out.drew⟩
            refine tk3 (i := 0) ?_; try simp only [Act.put, zq]
            refine tk3 (i := 1) ?_; try simp only [Act.put, zq]
            refine tk3 (i := 2) ?_; try simp only [Act.put, zq]
            refine' wpAnyH_take (i := 3) rfl (by kernel_rfl) (by kernel_rfl) (by kernel_rfl) (fun _ _ _ h => h) (yieldsIf_load_mid (by kernel_rfl) _ _ rfl _ _ rfl _ _ (fun w9 hSw => hSw.1) ?hu1_4 ?hd1_4 ?hi1_4) (by assumption) ?_
            case hu1_4 => assumption
            case hd1_4 => rfl
            case hi1_4 => (first | assumption | kernel_rfl)
            (try simp only [Act.put, zq])
            refine tk3 (i := 5) ?_; try simp only [Act.put, zq]
            refine tk3 (i := 6) ?_; try simp only [Act.put, zq]
            refine tk3 (i := 7) ?_; try simp only [Act.put, zq]
            refine tk3 (i := 8) ?_; try simp only [Act.put, zq]
            refine wpAnyH_ready (rs := [4]) (by kernel_rfl) (by simp) ?_
            refine AllReadyH.cons rfl (fun K hK => ?_) AllReadyH.nil
            go_simp
            (go_at_call 13; ((with_reducible refine (hn1 _).mono ?_); rintro e w4 ⟨rfl, hg4⟩); have hb4 : Below wr.heap.size wr w4 := (Below.refl _ wr).drew.trans hg4.below)
            go_wp2_with fail
            refine hK.out _ _ ?hS1_9 (fun hHeld => ?_)
            case hS1_9 => ((try dsimp only); exact ⟨HRNG.out _ (HBW.out.trans (hb4.mono HBW.out.size)), HCQ.out _ (HBW.out.trans (hb4.mono HBW.out.size))⟩)
            clear hK K
            (try simp only [Act.put, zq])
            refine tk3 (i := 9) ?_; try simp only [Act.put, zq]
            refine wpAnyH_done (by kernel_rfl) ?_ _
            have HB4 := Lib.hid (hb2.out.trans (hb4.mono hss))
            clear hHeld hb4 hg4
            go_wp2
            exact ⟨⟨k + 1, f, by omega, rfl, by simp, HST, HB4⟩, by simp [intOf]; omega⟩
          · have e1 : x.nt.judge = qa := congrArg Prod.fst hnm
            have e2 : x.nt.num = qb := congrArg Prod.snd hnm
            have HNM := Lib.hid hnm
            have qn := fun V => neqName x.nt.judge x.nt.num qa qb V
            rw [show (x.nt.judge == qa && x.nt.num == qb) = true by simp [e1, e2]] at qn
            clear hnm e1 e2
            go_upto_region 8 with fail
            refine wp_region_held_drew (S := (fun w' => w'.rangeAt g1 (o1 + k * 20) x.nt.enc ∧ w'.cell? ⟨g2, o2 + i * 2, none⟩ = some (.int .i64 qa) ∧ w'.cell? ⟨g2, o2 + i * 2 + 1, none⟩ = some (.int .i64 qb))) (by kernel_rfl) ?hS2 (fun hHeld => ?_)
            case hS2 => exact ⟨HRNG.out _ HBW.out.drew, HCQ.out _ HBW.out.drew⟩
            refine tk3 (i := 0) ?_; try simp only [Act.put, zq]
            refine tk3 (i := 1) ?_; try simp only [Act.put, zq]
            refine tk3 (i := 2) ?_; try simp only [Act.put, zq]
            refine' wpAnyH_take (i := 3) rfl (by kernel_rfl) (by kernel_rfl) (by kernel_rfl) (fun _ _ _ h => h) (yieldsIf_load_mid (by kernel_rfl) _ _ rfl _ _ rfl _ _ (fun w9 hSw => hSw.1) ?hu2_4 ?hd2_4 ?hi2_4) (by assumption) ?_
            case hu2_4 => assumption
            case hd2_4 => rfl
            case hi2_4 => (first | assumption | kernel_rfl)
            (try simp only [Act.put, zq])
            refine tk3 (i := 5) ?_; try simp only [Act.put, zq]
            refine tk3 (i := 6) ?_; try simp only [Act.put, zq]
            refine tk3 (i := 7) ?_; try simp only [Act.put, zq]
            refine tk3 (i := 8) ?_; try simp only [Act.put, zq]
            refine wpAnyH_ready (rs := [4]) (by kernel_rfl) (by simp) ?_
            refine AllReadyH.cons rfl (fun K hK => ?_) AllReadyH.nil
            go_simp
            (go_at_call 13; ((with_reducible refine (hn1 _).mono ?_); rintro e w4 ⟨rfl, hg4⟩); have hb4 : Below wr.heap.size wr w4 := (Below.refl _ wr).drew.trans hg4.below)
            go_wp2_with fail
            refine hK.out _ _ ?hS2_9 (fun hHeld => ?_)
            case hS2_9 => ((try dsimp only); exact ⟨HRNG.out _ (HBW.out.trans (hb4.mono HBW.out.size)), HCQ.out _ (HBW.out.trans (hb4.mono HBW.out.size))⟩)
            clear hK K
            (try simp only [Act.put, zq])
            refine tk3 (i := 9) ?_; try simp only [Act.put, zq]
            refine wpAnyH_done (by kernel_rfl) ?_ _
            have HB4 := Lib.hid (hb2.out.trans (hb4.mono hss))
            have HW4 := Lib.hid (HBW.out.trans (hb4.mono HBW.out.size))
            have hgx := HG.out x HXM.out (by rw [HNM.out]; exact HQM.out)
            have c3 : w4.cell? ⟨g1, o1 + k * 20 + 3, none⟩ = some (.int .i64 x.nt.kind) := HRNG.out w4 HW4.out 3 _ rfl
            have c5 : w4.cell? ⟨g1, o1 + k * 20 + 5, none⟩ = some (.int .i64 x.nt.version) := HRNG.out w4 HW4.out 5 _ rfl
            have b6 : w4.cell? ⟨w.heap.size, 6, none⟩ = some (.int .i64 version) := (HE.out.later HB4.out).cell 6
            obtain ⟨kd, hkd⟩ : ∃ kd, kd = x.nt.kind := ⟨_, rfl⟩
            obtain ⟨vx, hvx⟩ : ∃ vx, vx = x.nt.version := ⟨_, rfl⟩
            rw [← hkd] at c3 hgx
            rw [← hvx] at c5 hgx
            have hv1 : ¬ version < vx := fun h => hgx (.inr h)
            have hv2 : kd = 2 → ¬ version ≤ vx := fun h h' => hgx (.inl ⟨h, h'⟩)
            clear hHeld hb4 hg4 hgx hkd hvx qn hn1
            have hnext : ∀ w5 : World, Below W.heap.size W w5 → Hid (Below W.heap.size W w5 ∧ Below w.heap.size w w5) := fun w5 hb => Lib.hid ⟨hb, HB.out.trans (hb.mono hs0)⟩
            have HNEXT := Lib.hid hnext
            clear hnext
            -- the test is false
            have hq9 : True := trivial
            by_cases hk2 : kd = 2
            · subst hk2
              have hv3 := hv2 rfl
              clear hv2
              go_upto_region 9 with fail
              go_quiet (fail)
              obtain ⟨w5, hw5⟩ : ∃ w5, w4.drewN nq = w5 := ⟨_, rfl⟩
              have hb5 : Below W.heap.size W w5 := by rw [← hw5]; exact below_drewN' HB4.out _
              rw [hw5]
              have HB5 := HNEXT.out w5 hb5
              clear hw5 hb5 c3 c5 b6 hv1 hv3
              cases f with
              | true =>
                have HST : Hid (true = true ↔ ((judge, num) ∈ ns.take i ∨ ((judge, num) = (qa, qb) ∧ (qa, qb) ∈ (xs.take (k + 1)).map nm))) := Lib.hid (by
                  constructor
                  · intro _
                    rcases hF2.out.1 rfl with h | ⟨h, h'⟩
                    · exact .inl h
                    · exact .inr ⟨h, (HTX.out _).2 (.inl h')⟩
                  · intro _; rfl)
                go_upto_region 11 with fail
                go_quiet (fail)
                obtain ⟨w6, hw6⟩ : ∃ w6, w5.drewN nq = w6 := ⟨_, rfl⟩
                have hb6 : Below W.heap.size W w6 := by rw [← hw6]; exact below_drewN' HB5.out.1 _
                rw [hw6]
                have HB6 := Lib.hid hb6
                clear hw6 hb6
                go_wp2
                exact ⟨⟨k + 1, true, by omega, by first | rfl | simp, by simp, HST, HB6⟩, by simp [intOf]; omega⟩
              | false =>
                by_cases hr : judge = qa ∧ num = qb
                rotate_left
                · have HST : Hid (false = true ↔ ((judge, num) ∈ ns.take i ∨ ((judge, num) = (qa, qb) ∧ (qa, qb) ∈ (xs.take (k + 1)).map nm))) := Lib.hid (by
                    constructor
                    · intro h; cases h
                    · rintro (h | ⟨h, _⟩)
                      · exact hF2.out.2 (.inl h)
                      · exact absurd ⟨congrArg Prod.fst h, congrArg Prod.snd h⟩ hr)
                  have qn := fun V => eqName_ne qa qb judge num (fun h => hr ⟨h.1.symm, h.2.symm⟩) V
                  have n0 := (HCQ.out w5 HB5.out.2).1
                  have n1 := (HCQ.out w5 HB5.out.2).2
                  have b7 : w5.cell? ⟨w.heap.size, 7, none⟩ = some (.int .i64 judge) := (HE.out.later HB5.out.1).cell 7
                  have b8 : w5.cell? ⟨w.heap.size, 8, none⟩ = some (.int .i64 num) := (HE.out.later HB5.out.1).cell 8
                  clear hr
                  go_upto_region 11 with fail
                  go_quiet (fail)
                  obtain ⟨w6, hw6⟩ : ∃ w6, w5.drewN nq = w6 := ⟨_, rfl⟩
                  have hb6 : Below W.heap.size W w6 := by rw [← hw6]; exact below_drewN' HB5.out.1 _
                  rw [hw6]
                  have HB6 := Lib.hid hb6
                  clear hw6 hb6 n0 n1 b7 b8 qn
                  go_wp2
                  exact ⟨⟨k + 1, false, by omega, by first | rfl | simp, by simp, HST, HB6⟩, by simp [intOf]; omega⟩
                · obtain ⟨rfl, rfl⟩ := hr
                  have hxe : x = ⟨⟨judge, num, clock, kind, call, version, ⟨lc, ca, po, cl, jv, lv⟩, aC, aN, bCc, bNn, rJ, rN, hash, prev⟩, js, ls⟩ := inj_of_nodup HND.out HXM.out HX.out HNM.out
                  have HST : Hid (true = true ↔ ((judge, num) ∈ ns.take i ∨ ((judge, num) = (judge, num) ∧ (judge, num) ∈ (xs.take (k + 1)).map nm))) := Lib.hid ⟨fun _ => .inr ⟨rfl, (HTX.out _).2 (.inr HNM.out.symm)⟩, fun _ => rfl⟩
                  have HRL : Hid (∀ W', Below w.heap.size w W' → W'.rangeAt g1 (o1 + k * 20 + 6) [.string lc, .int .i64 ca, .int .i64 po, .int .i64 cl, jv, lv]) := Lib.hid fun W' hW' q u hu => by
                    have hq : q < 6 := (List.getElem?_eq_some_iff.1 hu).1
                    have := HRNG.out W' hW' (6 + q) u (by
                      rw [hxe]
                      rcases (by omega : q = 0 ∨ q = 1 ∨ q = 2 ∨ q = 3 ∨ q = 4 ∨ q = 5) with rfl | rfl | rfl | rfl | rfl | rfl <;> exact hu)
                    rw [show o1 + k * 20 + 6 + q = o1 + k * 20 + (6 + q) by omega]
                    exact this
                  have HRE : Hid (∀ W', Below W.heap.size W W' → W'.rangeAt w.heap.size 0 [.string lc, .int .i64 ca, .int .i64 po, .int .i64 cl, .slice Aj nj cj, .slice Al nl cl']) := Lib.hid fun W' hW' q u hu => by
                    have hq : q < 6 := (List.getElem?_eq_some_iff.1 hu).1
                    rw [Nat.zero_add, (HE.out.later hW').cell]
                    rcases (by omega : q = 0 ∨ q = 1 ∨ q = 2 ∨ q = 3 ∨ q = 4 ∨ q = 5) with rfl | rfl | rfl | rfl | rfl | rfl <;> exact hu
                  have hAt := HXA.out w5.drew HB5.out.2.drew
                  rw [hxe] at hAt
                  have HS := Lib.hid (SameLog_any ⟨lc, ca, po, cl, jv, lv⟩ ⟨lc, ca, po, cl, .slice Aj nj cj, .slice Al nl cl'⟩ js js ls ls w5.drew hAt.jumps (HJ.out.later HB5.out.2.drew) hAt.lines (HL.out.later HB5.out.2.drew))
                  have HSL : Hid (SameL ⟨lc, ca, po, cl, jv, lv⟩ ⟨lc, ca, po, cl, .slice Aj nj cj, .slice Al nl cl'⟩ js js ls ls) := Lib.hid ⟨rfl, rfl, rfl, rfl, rfl, rfl⟩
                  have qn := fun V => eqName_same judge num V
                  have HBX : Hid (∀ W', Below W.heap.size W W' → W'.cell? ⟨w.heap.size, 7, none⟩ = some (.int .i64 judge) ∧ W'.cell? ⟨w.heap.size, 8, none⟩ = some (.int .i64 num)) := Lib.hid fun W' hW' => ⟨(HE.out.later hW').cell 7, (HE.out.later hW').cell 8⟩
                  have hs5 : W.heap.size ≤ w5.heap.size := HB5.out.1.size
                  clear hxe hAt
                  go_upto_region 11 with fail
                  refine wp_region_held_drew (S := (fun w' => w'.cell? ⟨g2, o2 + i * 2, none⟩ = some (.int .i64 judge) ∧ w'.cell? ⟨g2, o2 + i * 2 + 1, none⟩ = some (.int .i64 num) ∧ w'.cell? ⟨w.heap.size, 7, none⟩ = some (.int .i64 judge) ∧ w'.cell? ⟨w.heap.size, 8, none⟩ = some (.int .i64 num) ∧ w'.rangeAt g1 (o1 + k * 20 + 6) [.string lc, .int .i64 ca, .int .i64 po, .int .i64 cl, jv, lv] ∧ w'.rangeAt w.heap.size 0 [.string lc, .int .i64 ca, .int .i64 po, .int .i64 cl, .slice Aj nj cj, .slice Al nl cl'])) (by kernel_rfl) ?hS3 (fun hHeld => ?_)
                  case hS3 => exact ⟨(HCQ.out _ HB5.out.2.drew).1, (HCQ.out _ HB5.out.2.drew).2, (HBX.out _ HB5.out.1.drew).1, (HBX.out _ HB5.out.1.drew).2, HRL.out _ HB5.out.2.drew, HRE.out _ HB5.out.1.drew⟩
                  refine tk3 (i := 0) ?_; try simp only [Act.put, zq]
                  refine tk3 (i := 1) ?_; try simp only [Act.put, zq]
                  refine tk3 (i := 2) ?_; try simp only [Act.put, zq]
                  refine tk3 (i := 3) ?_; try simp only [Act.put, zq]
                  refine tk3 (i := 4) ?_; try simp only [Act.put, zq]
                  refine tk3 (i := 5) ?_; try simp only [Act.put, zq]
                  refine tk3 (i := 6) ?_; try simp only [Act.put, zq]
                  refine tk3 (i := 7) ?_; try simp only [Act.put, zq]
                  refine tk3 (i := 8) ?_; try simp only [Act.put, zq]
                  refine tk3 (i := 9) ?_; try simp only [Act.put, zq]
                  refine tk3 (i := 10) ?_; try simp only [Act.put, zq]
                  refine tk3 (i := 11) ?_; try simp only [Act.put, zq]
                  refine tk3 (i := 12) ?_; try simp only [Act.put, zq]
                  refine tk3 (i := 13) ?_; try simp only [Act.put, zq]
                  refine' wpAnyH_take (i := 14) rfl (by kernel_rfl) (by kernel_rfl) (by kernel_rfl) (fun _ _ _ h => h) (yieldsIf_load_mid (by kernel_rfl) _ _ rfl _ _ rfl _ _ (fun w9 hSw => hSw.2.2.2.2.1) ?hu3_15 ?hd3_15 ?hi3_15) (by assumption) ?_
                  case hu3_15 => assumption
                  case hd3_15 => rfl
                  case hi3_15 => (first | assumption | kernel_rfl)
                  (try simp only [Act.put, zq])
                  refine tk3 (i := 15) ?_; try simp only [Act.put, zq]
                  refine' wpAnyH_take (i := 16) rfl (by kernel_rfl) (by kernel_rfl) (by kernel_rfl) (fun _ _ _ h => h) (yieldsIf_load_mid (by kernel_rfl) _ _ rfl _ _ rfl _ _ (fun w9 hSw => hSw.2.2.2.2.2) ?hu3_17 ?hd3_17 ?hi3_17) (by assumption) ?_
                  case hu3_17 => assumption
                  case hd3_17 => rfl
                  case hi3_17 => (first | assumption | kernel_rfl)
                  (try simp only [Act.put, zq])
                  refine wpAnyH_ready (rs := [17]) (by kernel_rfl) (by simp) ?_
                  refine AllReadyH.cons rfl (fun K hK => ?_) AllReadyH.nil
                  go_simp
                  (go_at_call 55; ((with_reducible refine HS.out.mono ?_); rintro e w6 ⟨b, rfl, hbb, hb6⟩; obtain rfl : b = true := hbb.2 HSL.out; clear hbb); have hB6 : Below W.heap.size W w6 := HB5.out.1.drew.trans (hb6.mono hs5))
                  go_wp2_with fail
                  refine hK.out _ _ ?hS3_18 (fun hHeld => ?_)
                  case hS3_18 => ((try dsimp only); exact ⟨(HCQ.out _ (HB.out.trans (hB6.mono hs0))).1, (HCQ.out _ (HB.out.trans (hB6.mono hs0))).2, (HBX.out _ hB6).1, (HBX.out _ hB6).2, HRL.out _ (HB.out.trans (hB6.mono hs0)), HRE.out _ hB6⟩)
                  clear hK K
                  (try simp only [Act.put, zq])
                  refine tk1 (i := 18) (v := ?v3_19) ?hy3_19 ?_
                  case hy3_19 => ((intro w hSw; (try dsimp only at hSw); go_simp; (try simp only [List.getElem?_cons_zero, Option.getD_some, if_true, Sem.run_pure, Result.andThen_ok])) <;> with_reducible rfl)
                  (try simp only [Act.put, zq])
                  refine tk1 (i := 19) (v := ?v3_20) ?hy3_20 ?_
                  case hy3_20 => ((intro w hSw; (try dsimp only at hSw); go_simp; (try simp only [List.getElem?_cons_zero, Option.getD_some, if_true, Sem.run_pure, Result.andThen_ok])) <;> with_reducible rfl)
                  (try simp only [Act.put, zq])
                  refine tk3 (i := 20) ?_; try simp only [Act.put, zq]
                  refine wpAnyH_done (by kernel_rfl) ?_ _
                  have HB6 := Lib.hid hB6
                  clear hHeld hb6 hB6 qn
                  go_wp2
                  exact ⟨⟨k + 1, true, by omega, by first | rfl | simp, by simp, Lib.hid (by simpa using HST.out), HB6⟩, by simp [intOf]; omega⟩
            · clear hv2
              go_upto_region 9 with fail
              go_quiet (fail)
              obtain ⟨w5, hw5⟩ : ∃ w5, w4.drewN nq = w5 := ⟨_, rfl⟩
              have hb5 : Below W.heap.size W w5 := by rw [← hw5]; exact below_drewN' HB4.out _
              rw [hw5]
              have HB5 := HNEXT.out w5 hb5
              clear hw5 hb5 c3 c5 b6 hv1 hk2
              cases f with
              | true =>
                have HST : Hid (true = true ↔ ((judge, num) ∈ ns.take i ∨ ((judge, num) = (qa, qb) ∧ (qa, qb) ∈ (xs.take (k + 1)).map nm))) := Lib.hid (by
                  constructor
                  · intro _
                    rcases hF2.out.1 rfl with h | ⟨h, h'⟩
                    · exact .inl h
                    · exact .inr ⟨h, (HTX.out _).2 (.inl h')⟩
                  · intro _; rfl)
                go_upto_region 11 with fail
                go_quiet (fail)
                obtain ⟨w6, hw6⟩ : ∃ w6, w5.drewN nq = w6 := ⟨_, rfl⟩
                have hb6 : Below W.heap.size W w6 := by rw [← hw6]; exact below_drewN' HB5.out.1 _
                rw [hw6]
                have HB6 := Lib.hid hb6
                clear hw6 hb6
                go_wp2
                exact ⟨⟨k + 1, true, by omega, by first | rfl | simp, by simp, HST, HB6⟩, by simp [intOf]; omega⟩
              | false =>
                by_cases hr : judge = qa ∧ num = qb
                rotate_left
                · have HST : Hid (false = true ↔ ((judge, num) ∈ ns.take i ∨ ((judge, num) = (qa, qb) ∧ (qa, qb) ∈ (xs.take (k + 1)).map nm))) := Lib.hid (by
                    constructor
                    · intro h; cases h
                    · rintro (h | ⟨h, _⟩)
                      · exact hF2.out.2 (.inl h)
                      · exact absurd ⟨congrArg Prod.fst h, congrArg Prod.snd h⟩ hr)
                  have qn := fun V => eqName_ne qa qb judge num (fun h => hr ⟨h.1.symm, h.2.symm⟩) V
                  have n0 := (HCQ.out w5 HB5.out.2).1
                  have n1 := (HCQ.out w5 HB5.out.2).2
                  have b7 : w5.cell? ⟨w.heap.size, 7, none⟩ = some (.int .i64 judge) := (HE.out.later HB5.out.1).cell 7
                  have b8 : w5.cell? ⟨w.heap.size, 8, none⟩ = some (.int .i64 num) := (HE.out.later HB5.out.1).cell 8
                  clear hr
                  go_upto_region 11 with fail
                  go_quiet (fail)
                  obtain ⟨w6, hw6⟩ : ∃ w6, w5.drewN nq = w6 := ⟨_, rfl⟩
                  have hb6 : Below W.heap.size W w6 := by rw [← hw6]; exact below_drewN' HB5.out.1 _
                  rw [hw6]
                  have HB6 := Lib.hid hb6
                  clear hw6 hb6 n0 n1 b7 b8 qn
                  go_wp2
                  exact ⟨⟨k + 1, false, by omega, by first | rfl | simp, by simp, HST, HB6⟩, by simp [intOf]; omega⟩
                · obtain ⟨rfl, rfl⟩ := hr
                  have hxe : x = ⟨⟨judge, num, clock, kind, call, version, ⟨lc, ca, po, cl, jv, lv⟩, aC, aN, bCc, bNn, rJ, rN, hash, prev⟩, js, ls⟩ := inj_of_nodup HND.out HXM.out HX.out HNM.out
                  have HST : Hid (true = true ↔ ((judge, num) ∈ ns.take i ∨ ((judge, num) = (judge, num) ∧ (judge, num) ∈ (xs.take (k + 1)).map nm))) := Lib.hid ⟨fun _ => .inr ⟨rfl, (HTX.out _).2 (.inr HNM.out.symm)⟩, fun _ => rfl⟩
                  have HRL : Hid (∀ W', Below w.heap.size w W' → W'.rangeAt g1 (o1 + k * 20 + 6) [.string lc, .int .i64 ca, .int .i64 po, .int .i64 cl, jv, lv]) := Lib.hid fun W' hW' q u hu => by
                    have hq : q < 6 := (List.getElem?_eq_some_iff.1 hu).1
                    have := HRNG.out W' hW' (6 + q) u (by
                      rw [hxe]
                      rcases (by omega : q = 0 ∨ q = 1 ∨ q = 2 ∨ q = 3 ∨ q = 4 ∨ q = 5) with rfl | rfl | rfl | rfl | rfl | rfl <;> exact hu)
                    rw [show o1 + k * 20 + 6 + q = o1 + k * 20 + (6 + q) by omega]
                    exact this
                  have HRE : Hid (∀ W', Below W.heap.size W W' → W'.rangeAt w.heap.size 0 [.string lc, .int .i64 ca, .int .i64 po, .int .i64 cl, .slice Aj nj cj, .slice Al nl cl']) := Lib.hid fun W' hW' q u hu => by
                    have hq : q < 6 := (List.getElem?_eq_some_iff.1 hu).1
                    rw [Nat.zero_add, (HE.out.later hW').cell]
                    rcases (by omega : q = 0 ∨ q = 1 ∨ q = 2 ∨ q = 3 ∨ q = 4 ∨ q = 5) with rfl | rfl | rfl | rfl | rfl | rfl <;> exact hu
                  have hAt := HXA.out w5.drew HB5.out.2.drew
                  rw [hxe] at hAt
                  have HS := Lib.hid (SameLog_any ⟨lc, ca, po, cl, jv, lv⟩ ⟨lc, ca, po, cl, .slice Aj nj cj, .slice Al nl cl'⟩ js js ls ls w5.drew hAt.jumps (HJ.out.later HB5.out.2.drew) hAt.lines (HL.out.later HB5.out.2.drew))
                  have HSL : Hid (SameL ⟨lc, ca, po, cl, jv, lv⟩ ⟨lc, ca, po, cl, .slice Aj nj cj, .slice Al nl cl'⟩ js js ls ls) := Lib.hid ⟨rfl, rfl, rfl, rfl, rfl, rfl⟩
                  have qn := fun V => eqName_same judge num V
                  have HBX : Hid (∀ W', Below W.heap.size W W' → W'.cell? ⟨w.heap.size, 7, none⟩ = some (.int .i64 judge) ∧ W'.cell? ⟨w.heap.size, 8, none⟩ = some (.int .i64 num)) := Lib.hid fun W' hW' => ⟨(HE.out.later hW').cell 7, (HE.out.later hW').cell 8⟩
                  have hs5 : W.heap.size ≤ w5.heap.size := HB5.out.1.size
                  clear hxe hAt
                  go_upto_region 11 with fail
                  refine wp_region_held_drew (S := (fun w' => w'.cell? ⟨g2, o2 + i * 2, none⟩ = some (.int .i64 judge) ∧ w'.cell? ⟨g2, o2 + i * 2 + 1, none⟩ = some (.int .i64 num) ∧ w'.cell? ⟨w.heap.size, 7, none⟩ = some (.int .i64 judge) ∧ w'.cell? ⟨w.heap.size, 8, none⟩ = some (.int .i64 num) ∧ w'.rangeAt g1 (o1 + k * 20 + 6) [.string lc, .int .i64 ca, .int .i64 po, .int .i64 cl, jv, lv] ∧ w'.rangeAt w.heap.size 0 [.string lc, .int .i64 ca, .int .i64 po, .int .i64 cl, .slice Aj nj cj, .slice Al nl cl'])) (by kernel_rfl) ?hS4 (fun hHeld => ?_)
                  case hS4 => exact ⟨(HCQ.out _ HB5.out.2.drew).1, (HCQ.out _ HB5.out.2.drew).2, (HBX.out _ HB5.out.1.drew).1, (HBX.out _ HB5.out.1.drew).2, HRL.out _ HB5.out.2.drew, HRE.out _ HB5.out.1.drew⟩
                  refine tk3 (i := 0) ?_; try simp only [Act.put, zq]
                  refine tk3 (i := 1) ?_; try simp only [Act.put, zq]
                  refine tk3 (i := 2) ?_; try simp only [Act.put, zq]
                  refine tk3 (i := 3) ?_; try simp only [Act.put, zq]
                  refine tk3 (i := 4) ?_; try simp only [Act.put, zq]
                  refine tk3 (i := 5) ?_; try simp only [Act.put, zq]
                  refine tk3 (i := 6) ?_; try simp only [Act.put, zq]
                  refine tk3 (i := 7) ?_; try simp only [Act.put, zq]
                  refine tk3 (i := 8) ?_; try simp only [Act.put, zq]
                  refine tk3 (i := 9) ?_; try simp only [Act.put, zq]
                  refine tk3 (i := 10) ?_; try simp only [Act.put, zq]
                  refine tk3 (i := 11) ?_; try simp only [Act.put, zq]
                  refine tk3 (i := 12) ?_; try simp only [Act.put, zq]
                  refine tk3 (i := 13) ?_; try simp only [Act.put, zq]
                  refine' wpAnyH_take (i := 14) rfl (by kernel_rfl) (by kernel_rfl) (by kernel_rfl) (fun _ _ _ h => h) (yieldsIf_load_mid (by kernel_rfl) _ _ rfl _ _ rfl _ _ (fun w9 hSw => hSw.2.2.2.2.1) ?hu4_15 ?hd4_15 ?hi4_15) (by assumption) ?_
                  case hu4_15 => assumption
                  case hd4_15 => rfl
                  case hi4_15 => (first | assumption | kernel_rfl)
                  (try simp only [Act.put, zq])
                  refine tk3 (i := 15) ?_; try simp only [Act.put, zq]
                  refine' wpAnyH_take (i := 16) rfl (by kernel_rfl) (by kernel_rfl) (by kernel_rfl) (fun _ _ _ h => h) (yieldsIf_load_mid (by kernel_rfl) _ _ rfl _ _ rfl _ _ (fun w9 hSw => hSw.2.2.2.2.2) ?hu4_17 ?hd4_17 ?hi4_17) (by assumption) ?_
                  case hu4_17 => assumption
                  case hd4_17 => rfl
                  case hi4_17 => (first | assumption | kernel_rfl)
                  (try simp only [Act.put, zq])
                  refine wpAnyH_ready (rs := [17]) (by kernel_rfl) (by simp) ?_
                  refine AllReadyH.cons rfl (fun K hK => ?_) AllReadyH.nil
                  go_simp
                  (go_at_call 55; ((with_reducible refine HS.out.mono ?_); rintro e w6 ⟨b, rfl, hbb, hb6⟩; obtain rfl : b = true := hbb.2 HSL.out; clear hbb); have hB6 : Below W.heap.size W w6 := HB5.out.1.drew.trans (hb6.mono hs5))
                  go_wp2_with fail
                  refine hK.out _ _ ?hS4_18 (fun hHeld => ?_)
                  case hS4_18 => ((try dsimp only); exact ⟨(HCQ.out _ (HB.out.trans (hB6.mono hs0))).1, (HCQ.out _ (HB.out.trans (hB6.mono hs0))).2, (HBX.out _ hB6).1, (HBX.out _ hB6).2, HRL.out _ (HB.out.trans (hB6.mono hs0)), HRE.out _ hB6⟩)
                  clear hK K
                  (try simp only [Act.put, zq])
                  refine tk1 (i := 18) (v := ?v4_19) ?hy4_19 ?_
                  case hy4_19 => ((intro w hSw; (try dsimp only at hSw); go_simp; (try simp only [List.getElem?_cons_zero, Option.getD_some, if_true, Sem.run_pure, Result.andThen_ok])) <;> with_reducible rfl)
                  (try simp only [Act.put, zq])
                  refine tk1 (i := 19) (v := ?v4_20) ?hy4_20 ?_
                  case hy4_20 => ((intro w hSw; (try dsimp only at hSw); go_simp; (try simp only [List.getElem?_cons_zero, Option.getD_some, if_true, Sem.run_pure, Result.andThen_ok])) <;> with_reducible rfl)
                  (try simp only [Act.put, zq])
                  refine tk3 (i := 20) ?_; try simp only [Act.put, zq]
                  refine wpAnyH_done (by kernel_rfl) ?_ _
                  have HB6 := Lib.hid hB6
                  clear hHeld hb6 hB6 qn
                  go_wp2
                  exact ⟨⟨k + 1, true, by omega, by first | rfl | simp, by simp, Lib.hid (by simpa using HST.out), HB6⟩, by simp [intOf]; omega⟩
        · have HFN : Hid (f = true ↔ (judge, num) ∈ ns.take (i + 1)) := Lib.hid (by
            have hall : xs.take k = xs := List.take_of_length_le (by have := HN.out.1; omega)
            rw [hF2.out, HTK.out, hall]
            constructor
            · rintro (h | ⟨h, _⟩)
              · exact .inl h
              · exact .inr h
            · rintro (h | h)
              · exact .inl h
              · exact .inr ⟨h, by rw [← h]; exact List.mem_map_of_mem (f := nm) HX.out⟩)
          go_wp2
          exact ⟨⟨i + 1, f, by omega, rfl, by simp, HFN, hb2⟩, by simp [intOf]; omega⟩
    · have hfin : f = true := hF.out.2 (by rw [List.take_of_length_le (by have := HN.out.2; omega)]; exact HIN.out)
      subst hfin
      have HBW : Hid (Below w.heap.size w wr) := Lib.hid (HB.out.trans (hb.out.mono hs0))
      go_wp2
      go_ret
      exact ⟨rfl, HBW.out⟩
end Go.Proofs.YtlamogpdkmbeoaaGreatDoor
end PartGreatA
