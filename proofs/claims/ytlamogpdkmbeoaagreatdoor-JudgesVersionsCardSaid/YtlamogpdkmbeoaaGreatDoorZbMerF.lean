/- The texts MerF, MerG, KeySt, MerH, MerI in one. -/
import Derived.Test.YtlamogpdkmbeoaaGreatDoorZbMerA
import Derived.Test.YtlamogpdkmbeoaaGreatDoorZbEnter
import Derived.Test.YtlamogpdkmbeoaaGreatDoorZbEnt
import Derived.Test.YtlamogpdkmbeoaaGreatDoorZbKey
import Derived.Test.YtlamogpdkmbeoaaGreatDoorZbCopy
import Derived.Test.YtlamogpdkmbeoaaGreatDoorZbMerE
set_option linter.unusedVariables false
set_option linter.unusedSimpArgs false
section PartMerF
/- 'setOf': the notes of a list by name. -/
set_option maxRecDepth 100000
namespace Go.Proofs.YtlamogpdkmbeoaaGreatDoor
open Go.RowKit Go.Lib Go.Shelf Go.Maps

/-- The notes of a list by name: a later one of the same name in the place of the elder. -/
def setM (xs : List Note) : List (NameK × Note) := xs.foldl (fun m x => putM m (nm x) x) []
theorem setM_snoc (xs : List Note) (x : Note) : setM (xs ++ [x]) = putM (setM xs) (nm x) x := by unfold setM; rw [List.foldl_append]; rfl
theorem setM_nodup : ∀ xs : List Note, (xs.map nm).Nodup → setM xs = xs.map (fun x => (nm x, x)) := by
  intro xs
  suffices h : ∀ (ys xs : List Note), ((ys ++ xs).map nm).Nodup → xs.foldl (fun m x => putM m (nm x) x) (ys.map (fun x => (nm x, x))) = (ys ++ xs).map (fun x => (nm x, x)) from fun hn => h [] xs hn
  intro ys xs
  induction xs generalizing ys with
  | nil => intro _; simp
  | cons x xs ih =>
    intro hn
    rw [List.foldl_cons, putM_none _ (by
      intro p hp e
      obtain ⟨y, hy, rfl⟩ := List.mem_map.1 hp
      rw [List.map_append, List.nodup_append] at hn
      exact hn.2.2 (nm y) (List.mem_map_of_mem hy) (nm x) (by simp) e)]
    have := ih (ys ++ [x]) (by simpa using hn)
    simpa using this
set_option maxHeartbeats 8000000 in
theorem setOf_any (v : Value) (xs : List Note) (w : World) (h : NotesAt w v xs) (hok : ∀ x ∈ xs, okI x.nt.judge ∧ okI x.nt.num) :
    Calls Tryz.prog 41 #[v] w fun e w' => e = .returned (.map (some w.heap.size)) ∧ MapOf w' Tryz.prog 37 encNm encN w.heap.size (setM xs) ∧ Below w.heap.size w w' := by
  have hm := h.row.max
  unfold maxLen at hm
  have UN := Tryz.underlying46
  have US := Tryz.underlying105
  have HH := Lib.hid h
  have HOK := Lib.hid hok
  obtain ⟨A, c, rfl⟩ := h.row.len
  obtain ⟨n, hn⟩ : ∃ n, n = xs.length := ⟨_, rfl⟩
  have HN := Lib.hid hn
  rw [← hn] at hm ⊢
  have hb0 : Below w.heap.size w (w.alloc (.map #[] 0)) := below_alloc0 _
  have hm0 : MapOf (w.alloc (.map #[] 0)) Tryz.prog 37 encNm encN w.heap.size (setM []) := MapOf.made w encNm_inj
  have hmm := @run_makeMap Tryz.prog
  have HB0 := Lib.hid hb0
  have HM0 := Lib.hid hm0
  clear h hok hn hb0 hm0
  go_enter Tryz.func41, Tryz.ntmps41
  go_upto_region 3 with fail
  go_loopw [5, 9] (fun _ s9 wr => ∃ k : Nat, k ≤ n ∧ s9 = .int .i64 k ∧ Hid (MapOf wr Tryz.prog 37 encNm encN w.heap.size (setM (xs.take k))) ∧ Hid (Below w.heap.size w wr)) (fun _ s9 _ => n - (intOf s9).toNat)
  case atStart => exact ⟨0, Nat.zero_le _, rfl, HM0, HB0⟩
  case round =>
    obtain ⟨k, hk, rfl, hMk, hb⟩ := hrel
    by_cases hlt : k < n
    · have hk1 : k < xs.length := by have := HN.out; omega
      obtain ⟨x, hx⟩ : ∃ x, x = xs[k] := ⟨_, rfl⟩
      have hxm : x ∈ xs := by rw [hx]; exact List.getElem_mem hk1
      have HNX : Hid (setM (xs.take (k + 1)) = putM (setM (xs.take k)) (nm x) x) := Lib.hid (by rw [List.take_succ_eq_append_getElem hk1, ← hx, setM_snoc])
      rcases HH.out.row.place with ⟨e0, _⟩ | ⟨g1, o1, c1', e1, _, _, hg1, hcell1⟩
      · rw [e0] at hk1; simp at hk1
      injection e1 with e1 e11 e12
      clear e11 e12
      subst e1
      have HRNG : Hid (wr.rangeAt g1 (o1 + k * 20) x.nt.enc) := Lib.hid (fun q u hu => (hb.out.cell (p := ⟨g1, o1 + k * 20 + q, none⟩) hg1).trans (hcell1 k hk1 q u (by rw [← hx]; exact hu)))
      have HNO : Hid (x.nt.enc.toArray.all (·.oneCell') = true) := Lib.hid (note_one (HH.out.each x hxm))
      have hxok := HOK.out x hxm
      have HKEY := Lib.hid (key_name (nm x) hxok.1 hxok.2)
      have hn1 := fun W => nameOf_any x.nt W
      have hsw : w.heap.size ≤ wr.heap.size := hb.out.size
      clear hx hxm hcell1 hk1 hxok
      have tok : True := trivial
      go_upto_region 5 with (first
        | (have _t := tok; refine wpList_load_mid rfl 46 _ rfl g1 (o1 + k * 20) rfl x.nt.enc _ HRNG.out UN rfl sizeNote ?_; clear tok)
        | (refine wpList_store_blk rfl 46 _ _ rfl wr.heap.size 46 Nt0.enc.toArray x.nt.enc.toArray rfl rfl (Blk.new wr _ _) (by rfl) sizeNote HNO.out ?_; intro w4 hX4 hg4 hs4))
      have hb4 : Below wr.heap.size wr w4 := (below_alloc0 _).grown hg4 (by simp) (fun i e => by cases e; exact Nat.le_refl _)
      have HM4 : Hid (MapOf w4 Tryz.prog 37 encNm encN w.heap.size (setM (xs.take k))) := Lib.hid (hMk.out.block (hb4.block _ hMk.out.lt))
      have HB4 := Lib.hid (hb.out.trans (hb4.mono hsw))
      obtain ⟨p, hp⟩ : ∃ p, wr.heap.size = p := ⟨_, rfl⟩
      rw [hp] at hX4 ⊢
      clear hb4 hg4 hs4 hp
      refine wp_region_late (S := (fun w' => Blk w' p 46 x.nt.enc.toArray)) [4] (by kernel_rfl) ?hS1 (fun hHeld => ?_)
      case hS1 => exact hX4.drew
      refine tl1 (i := 0) ?_; try simp only [Act.put, zq]
      refine' wpAnyL_take (i := 1) rfl (by kernel_rfl) (by kernel_rfl) (by kernel_rfl) (by kernel_rfl) (by kernel_rfl) (by kernel_rfl) (fun _ _ _ h => h) (yieldsIf_load_blk (by kernel_rfl) _ _ rfl _ _ _ _ rfl (fun w9 hSw => hSw) ?hu1_2 ?hd1_2 ?hi1_2) (by assumption) ?_
      case hu1_2 => assumption
      case hd1_2 => rfl
      case hi1_2 => (first | assumption | kernel_rfl)
      (try simp only [Act.put, zq])
      refine' wpAnyL_take (i := 3) rfl (by kernel_rfl) (by kernel_rfl) (by kernel_rfl) (by kernel_rfl) (by kernel_rfl) (by kernel_rfl) (fun _ _ _ h => h) (yieldsIf_load_blk (by kernel_rfl) _ _ rfl _ _ _ _ rfl (fun w9 hSw => hSw) ?hu1_3 ?hd1_3 ?hi1_3) (by assumption) ?_
      case hu1_3 => assumption
      case hd1_3 => rfl
      case hi1_3 => (first | assumption | kernel_rfl)
      (try simp only [Act.put, zq])
      refine wpAnyL_ready (rs := [2]) (by kernel_rfl) (by simp) ?_
      refine AllReadyL.cons rfl (fun K hK => ?_) AllReadyL.nil
      go_simp
      (go_at_call 54; ((with_reducible refine (hn1 _).mono ?_); rintro e w6 ⟨rfl, hg6⟩); have hb6 : Below w4.heap.size w4 w6 := (Below.refl _ w4).drew.trans hg6.below)
      go_wp2_with fail
      refine hK.out _ _ ?hS1_4 (fun hHeld => ?_)
      case hS1_4 => ((try dsimp only); exact hX4.later hb6)
      clear hK K
      (try simp only [Act.put, zq])
      refine wpAnyL_ready (rs := [4]) (by kernel_rfl) (by simp) ?_
      refine AllReadyL.late rfl (by kernel_rfl) (fun K hK => ?_) AllReadyL.nil
      (rw [if_pos (by kernel_rfl)]; refine wp_mapUpdate_of _ _ _ _ rfl 46 keyedName US rfl (HM4.out.block (hb6.block _ HM4.out.lt)) (nm x) x rfl rfl HKEY.out ?_; intro w7 hm7 hg7 hs7)
      refine hK.out _ _ ?_
      clear hK K
      (try simp only [Act.put, zq])
      refine wpAnyL_done (by kernel_rfl) ?_ _
      rw [← HNX.out] at hm7
      have hb7 : Below w.heap.size w w7 := ((HB4.out.trans (hb6.mono HB4.out.size))).grown hg7 (Nat.le_trans HB4.out.size hb6.size) (fun j e => by cases e; exact Nat.le_refl _)
      have HF : Hid (MapOf w7 Tryz.prog 37 encNm encN w.heap.size (setM (xs.take (k + 1))) ∧ Below w.heap.size w w7) := Lib.hid ⟨hm7, hb7⟩
      clear hHeld hg7 hs7 hb6 hg6 hm7 hb7 hX4 hn1
      go_wp2
      go_roundw
      case rel => exact ⟨k + 1, by omega, by go_num, Lib.hid HF.out.1, Lib.hid HF.out.2⟩
      case measure => simp [intOf]; omega
    · have hke : xs.take k = xs := List.take_of_length_le (by have := HN.out; omega)
      rw [hke] at hMk
      clear hke
      go_wp2
      go_ret
      exact ⟨rfl, hMk.out, hb.out⟩
end Go.Proofs.YtlamogpdkmbeoaaGreatDoor
end PartMerF

section PartMerG
/- maps.Copy at sets of notes. -/
set_option maxRecDepth 100000
namespace Go.Proofs.YtlamogpdkmbeoaaGreatDoor
open Go.RowKit Go.Lib Go.Shelf Go.Maps

/-- The entries es put into m one by one. -/
def putAll (m es : List (NameK × Note)) : List (NameK × Note) := es.foldl (fun m p => putM m p.1 p.2) m
theorem putAll_snoc (m es : List (NameK × Note)) (p : NameK × Note) : putAll m (es ++ [p]) = putM (putAll m es) p.1 p.2 := by unfold putAll; rw [List.foldl_append]; rfl
set_option maxHeartbeats 8000000 in
theorem mCopy_any (B bs bt : Nat) (m t : List (NameK × Note)) (w : World) (hs : MapOf w Tryz.prog 37 encNm encN bs m) (ht : MapOf w Tryz.prog 37 encNm encN bt t) (hne : bs ≠ bt) (hB : B ≤ bs) (hBw : B ≤ w.heap.size)
    (hok : ∀ p ∈ t, okI p.1.1 ∧ okI p.1.2 ∧ oneN p.2) :
    Calls Tryz.prog 43 #[.map (some bs), .map (some bt)] w fun e w' => (∃ v, e = .returned v) ∧ (∃ es, es.Perm t ∧ MapOf w' Tryz.prog 37 encNm encN bs (putAll m es)) ∧ Below B w w' := by
  have UN := Tryz.underlying46
  have UM := Tryz.underlying37
  have US := Tryz.underlying105
  have HS := Lib.hid hs
  have HT := Lib.hid ht
  have HOK := Lib.hid hok
  have lbs := hs.lt
  have lbt := ht.lt
  clear hs ht hok
  go_enter Tryz.func43, Tryz.ntmps43
  go_wp2_with (refine wpList_range_of rfl _ _ rfl _ US rfl HT.out ?_; intro w1 hit hg1 hs1)
  go_frame
  obtain ⟨ri, hri⟩ : ∃ ri, w.heap.size = ri := ⟨_, rfl⟩
  rw [hri] at hit ⊢
  have hb1 : Below B w w1 := (Below.refl B w).grown hg1 hBw (fun k e => by cases e)
  have hm1 : MapOf w1 Tryz.prog 37 encNm encN bs m := HS.out.kept hg1 (by simp)
  have HB1 := Lib.hid hb1
  have HM1 := Lib.hid hm1
  have HIT := Lib.hid hit
  have HRI : Hid (bs < ri ∧ bt < ri ∧ B ≤ ri ∧ w.heap.size = ri) := Lib.hid ⟨by omega, by omega, by omega, hri⟩
  clear hg1 hs1 hri hit hb1 hm1
  go_loopw [4, 5] (fun _ _ wr => ∃ rest es, IterOf wr Tryz.prog 37 encNm encN bt ri t rest ∧ (es ++ rest).Perm t ∧ MapOf wr Tryz.prog 37 encNm encN bs (putAll m es) ∧ Below B w wr) (fun _ _ wr => leftNum wr bt ri)
  case atStart => exact ⟨t, [], HIT.out, List.Perm.refl _, HM1.out, HB1.out⟩
  case round =>
    obtain ⟨rest, es, hit, hpe, hmN, hbr⟩ := hrel
    have HIT := Lib.hid hit
    have HPE := Lib.hid hpe
    have HMN := Lib.hid hmN
    have HBR := Lib.hid hbr
    clear hit hpe hmN hbr
    go_wp2_with (at_next; refine wpList_next_of rfl _ rfl rfl HIT.out ?_ ?_)
    · intro hnil
      subst hnil
      go_wp2
      refine bodyPost_end (results_none rfl _ _ _) rfl ?_
      exact ⟨⟨_, rfl⟩, ⟨es, by simpa using HPE.out, HMN.out⟩, HBR.out⟩
    · intro x ka kb' n y w2 hrest hpm hit2 hg2 hs2 hen
      have hq := HOK.out _ hpm
      have HNO : Hid (oneN n) := Lib.hid hq.2.2
      have HKEY : Hid (∃ l, keyOf Tryz.prog 37 (encNm (ka, kb')) = some l) := Lib.hid (key_name (ka, kb') hq.1 hq.2.1)
      have HG2 := Lib.hid hg2
      clear hs2 hg2 hq
      go_upto_region 3 with (first
        | (refine wpList_store_blk rfl 37 _ _ rfl w2.heap.size 37 #[.int .i64 0, .int .i64 0] #[.int .i64 ka, .int .i64 kb'] rfl rfl ((Blk.new w2 _ _).alloc _) (by rfl) sizeNm (by simp [Value.oneCell']) ?_; intro w3 hK3 hg3 hs3; have hZ3 : Blk w3 (w2.heap.size + 1) 46 Nt0.enc.toArray := (by have := (Blk.new (w2.alloc (.cells #[.int .i64 0, .int .i64 0] 37)) 46 Nt0.enc.toArray).kept hg3 (by intro e; injection e with e; simp at e); rwa [World.size_alloc] at this))
        | (refine wpList_store_blk rfl 46 _ _ rfl (w2.heap.size + 1) 46 Nt0.enc.toArray n.nt.enc.toArray rfl rfl hZ3 (by rfl) sizeNote HNO.out ?_; intro w4 hX4 hg4 hs4; clear hs4))
      have hbw : Below w2.heap.size w2 w4 := (((below_alloc0 _).alloc (by simp) _).grown hg3 (by simp; omega) (fun k e => by cases e; exact Nat.le_refl _)).grown hg4 (by have := hg3.size; simp at this; omega) (fun k e => by cases e; omega)
      have hK4 := hK3.kept hg4 (by intro e; injection e with e; omega)
      have hB2 : Below B w w2 := HBR.out.grown HG2.out (by have := HBR.out.size; have := HRI.out; omega) (fun k e => by cases e; have := HRI.out; omega)
      have hsz2 : B ≤ w2.heap.size := by have := HRI.out; have := hit2.lt; omega
      have hB4 : Below B w w4 := hB2.trans (hbw.mono hsz2)
      have hN2 := HMN.out.kept HG2.out (by intro e; injection e with e; have := HRI.out; omega)
      have hN4 := hN2.block (hbw.block _ hN2.lt)
      have hit4 := hit2.block (hbw.block _ hit2.of.lt) (hbw.block _ hit2.lt)
      obtain ⟨pb, hpb⟩ : ∃ pb, w2.heap.size = pb := ⟨_, rfl⟩
      rw [hpb] at hK4 hX4 ⊢
      have k0 : w4.cell? ⟨pb, 0, none⟩ = some (.int .i64 ka) := hK4.cell 0
      have k1 : w4.cell? ⟨pb, 1, none⟩ = some (.int .i64 kb') := hK4.cell 1
      have HX4 := Lib.hid hX4
      have HB4 := Lib.hid hB4
      have HN4 := Lib.hid hN4
      have HIT4 := Lib.hid hit4
      subst hrest
      clear hbw hB2 hB4 hN2 hN4 hit4 hit2 hK3 hK4 hX4 hg3 hg4 hZ3 hpb hen hs3 hsz2
      have tok : True := trivial
      go_wp2_with (first
        | (have _t := tok; refine wpList_load_blk rfl 46 _ rfl (pb + 1) 46 _ _ rfl HX4.out UN rfl sizeNote ?_; clear tok)
        | (refine wpList_mapUpdate_of rfl _ _ _ _ rfl 46 keyedName US rfl HN4.out (ka, kb') n rfl rfl HKEY.out ?_; intro w6 hm6 hg6 hs6; clear hs6))
      (try go_frame)
      have hit6 := HIT4.out.kept hg6 (by intro e; injection e with e; exact hne e.symm) (by intro e; injection e with e; have := HRI.out; omega)
      go_roundw
      case rel =>
        refine ⟨x ++ y, es ++ [((ka, kb'), n)], hit6, ?_, by rw [putAll_snoc]; exact hm6, HB4.out.grown hg6 (by have := HRI.out; have := HB4.out.size; omega) (fun k e => by cases e; exact hB)⟩
        refine List.Perm.trans ?_ HPE.out
        rw [List.append_assoc]
        exact List.Perm.append_left es (by simpa using (List.perm_middle (a := ((ka, kb'), n)) (l₁ := x) (l₂ := y)).symm)
      case measure =>
        rw [hit6.left, HIT.out.left]
        first | (simp; done) | (simp only [List.length_append, List.length_cons]; omega)
end Go.Proofs.YtlamogpdkmbeoaaGreatDoor
end PartMerG

section PartKeySt
/- The names of a set of notes, sorted. -/
set_option maxRecDepth 100000
namespace Go.Proofs.YtlamogpdkmbeoaaGreatDoor
open Go.RowKit Go.Lib Go.Shelf Go.Maps Go.Sort

set_option maxHeartbeats 4000000 in
theorem keysSt_in {ν : Type} (venc : ν → Value) (F : Fence) (n : Nat) (hF : F.fn 120) (hro : F.round = none) (hn : 1 ≤ n) (Bm b : Nat) (m : List (NameK × ν)) (w : World) (hm : MapOf w Tryz.prog 37 encNm venc b m) (hB : Bm < w.heap.size) (hc : w.cell? ⟨Bm, 0, none⟩ = some (.map (some b))) :
    SeqGivesB F n Tryz.prog 120 #[.pointer (some ⟨Bm, 0, none⟩)] (fun x : NameK => .agg (cellsNm x).toArray) (fun x => x ∈ m.map (·.1)) (fun ys => ys.Perm (m.map (·.1))) m.length w := by
  intro l J W hW hJ hJB hY h0
  have UE := Tryz.underlying37
  have UM := Tryz.underlying105
  have cB : W.cell? ⟨Bm, 0, none⟩ = some (.map (some b)) := (hW.cell (p := ⟨Bm, 0, none⟩) hB).trans hc
  have hmW := hm.block (hW.block b hm.lt)
  have HMW := Lib.hid hmW
  have HY := Lib.hid hY
  have HJ := Lib.hid hJ
  have H0 := Lib.hid h0
  clear hm hc hY hJ hJB hW h0 hmW
  refine callsIn_of_wp Tryz.func120 rfl hF ?_ hro
  simp only [Tryz.ntmps120, List.size_toArray, List.length_cons, List.length_nil, Nat.reduceAdd, Nat.reduceSub, Array.replicate_succ, Array.replicate_zero, List.push_toArray, List.append_toArray, List.nil_append, List.cons_append]
  gi_wp2_with (first
    | (gi_at_range; refine wpListIn_range_of rfl _ _ rfl _ UM rfl HMW.out ?_; intro w1 hit hg1 hs1)
    | gi_in)
  (try go_frame)
  have HIT := Lib.hid hit
  have HG1 := Lib.hid hg1
  clear hit hg1 hs1
  gi_loopw [6] (fun _ wr => ∃ rest done, IterOf wr Tryz.prog 37 encNm venc b W.heap.size m rest ∧ (done ++ rest.map (·.1)).Perm (m.map (·.1)) ∧ J done wr) (fun _ wr => leftNum wr b W.heap.size)
  case atStart => exact ⟨m, [], HIT.out, by simp, HJ.out _ W w1 none H0.out HG1.out (fun r e => by cases e)⟩
  case round =>
    obtain ⟨rest, done, hit, hp, hj⟩ := hrel
    have HI := Lib.hid hit
    have HP := Lib.hid hp
    have HJK := Lib.hid hj
    clear hit hp hj
    gi_wp2_with (first
      | (gi_at_next; refine wpListIn_next_of rfl _ rfl rfl HI.out ?_ ?_)
      | gi_in)
    · intro hnil
      subst hnil
      gi_wp2
      go_end0
      exact ⟨⟨_, rfl⟩, done, by simpa using HP.out, HJK.out⟩
    · intro xa a0 a1 yv yb w2 hrest hpm hit2 hg2 hs2 hen
      obtain ⟨x, hx⟩ : ∃ x : NameK, x = (a0, a1) := ⟨_, rfl⟩
      obtain ⟨rfl, rfl⟩ : a0 = x.1 ∧ a1 = x.2 := ⟨by rw [hx], by rw [hx]⟩
      clear hx
      have hj2 : J done w2 := HJ.out _ wr w2 (some W.heap.size) HJK.out hg2 (fun r e => by cases e; exact ⟨Nat.le_refl _, HI.out.iter_walk⟩)
      have hxm : x ∈ m.map (·.1) := List.mem_map.2 ⟨_, hpm, rfl⟩
      have hlt : done.length < m.length := by
        have := HP.out.length_eq
        rw [hrest] at this
        simp at this
        omega
      have HX := Lib.hid hxm
      have HJ2 := Lib.hid hj2
      have HLT := Lib.hid hlt
      have HIT2 := Lib.hid hit2
      have HRE := Lib.hid hrest
      clear hj2 hxm hlt hit2 hg2 hs2 hpm hrest
      have tok : True := trivial
      gi_wp2_with (first
        | (have _t := tok; refine wpListIn_store_blk rfl 37 _ _ rfl w2.heap.size 37 zeroNm.toArray (cellsNm x).toArray rfl rfl (Blk.new w2 _ _) (by rfl) sizeNm (oneNm x) ?_; clear tok; intro w3 hX3 hg3 hs3; have tok2 : True := trivial)
        | (have _t := tok2; refine wpListIn_load_blk rfl 37 _ rfl w2.heap.size 37 (cellsNm x).toArray _ rfl hX3 UE rfl sizeNm ?_; clear tok2; obtain ⟨fn, tmps, assign, body, hy, hR⟩ := HY.out done x w3 HX.out (HJ.out _ w2 w3 none HJ2.out (grown_new hg3) (fun r e => by cases e)) HLT.out)
        | gi_in)
      refine hR.mono ?_
      rintro e W3 ⟨rfl, hJ3, hk3⟩
      have hit3 := (HIT2.out.kept (grown_new hg3) (by simp) (by simp)).walks hk3
      have HIT3 := Lib.hid hit3
      have HJ3 := Lib.hid hJ3
      clear hit3 hJ3 hk3 hX3 hg3 hs3 hy hR
      gi_wp2
      (try go_frame)
      go_roundw
      case rel =>
        refine ⟨xa ++ yb, done ++ [x], HIT3.out, ?_, HJ3.out⟩
        refine List.Perm.trans ?_ HP.out
        rw [HRE.out]
        simp only [List.map_append, List.map_cons, List.append_assoc]
        refine List.Perm.append_left _ ?_
        simp only [List.singleton_append]
        exact List.perm_middle.symm
      case measure =>
        rw [HIT3.out.left, HI.out.left, HRE.out, List.length_append, List.length_append, List.length_cons]
        omega
theorem keysOfSt_any (mb : Option Nat) (w : World) : Calls Tryz.prog 78 #[.map mb] w fun e w' => e = .returned (.func (.func 120) #[] #[.pointer (some ⟨w.heap.size, 0, none⟩)]) ∧ w' = w.alloc (.cells #[.map mb] 105) := by
  go_enter Tryz.func78, Tryz.ntmps78
  go_wp2
  go_ret
  exact ⟨rfl, rfl⟩
theorem keys1_entersSt : ∀ args w, (callFunc 120 args).run Tryz.prog w = .ok (.enter 120 args) w := enters_of Tryz.func120 (by kernel_rfl) rfl
set_option maxHeartbeats 2000000 in
theorem sortedSt_any {ν : Type} (venc : ν → Value) (Bm b : Nat) (m : List (NameK × ν)) (w : World) (hm : MapOf w Tryz.prog 37 encNm venc b m) (hB : Bm < w.heap.size) (hc : w.cell? ⟨Bm, 0, none⟩ = some (.map (some b))) (hl : m.length ≤ 100000) :
    Calls Tryz.prog 77 #[.func (.func 120) #[] #[.pointer (some ⟨Bm, 0, none⟩)], .func (.func 36) #[] #[]] w fun e w' =>
      ∃ (u : Value) (xs : List NameK), e = .returned u ∧ RowsAt cellsNm 2 w' u xs ∧ xs.Perm (m.map (·.1)) ∧ xs.Pairwise (fun a b => cmpNmK a b ≤ 0) ∧ (∀ j, u.ownBlock = some j → w.heap.size ≤ j) ∧ Below w.heap.size w w' := by
  have hs := keysSt_in venc Fence.wide 1 trivial rfl (Nat.le_refl _) Bm b m w hm hB hc
  have hcol := callsIn_wide.1 (collect_inNm Fence.wide 3 trivial trivial rfl (Nat.le_refl _) 120 #[.pointer (some ⟨Bm, 0, none⟩)] trivial keys1_entersSt (fun x => x ∈ m.map (·.1)) (fun x hx => oneNm x) (fun ys => ys.Perm (m.map (·.1))) m.length (by unfold maxLen; omega) (by omega) w hs)
  have hnone := fun W => AnyF.slices_SortFunc_none Tryz.sortNames none 0 (.func (.func 36) #[] #[]) W
  clear hs hm hc
  go_enter Tryz.func77, Tryz.ntmps77
  go_upto_region 2 with (go_at_call 118; refine hcol.mono ?_; rintro e w1 ⟨u, ss, rfl, hp, hu, hn, hb1⟩)
  have hlen : ss.length ≤ 100000 := by rw [hp.length_eq]; simpa using hl
  rcases hu.2 with ⟨hu0, h0⟩ | ⟨g, cap, cur, hug, hg, hrest⟩
  · subst hu0
    have : ss = [] := List.eq_nil_of_length_eq_zero h0
    subst this
    clear hu hn hcol
    go_wp2_with (go_at_call 119; refine (hnone _).mono ?_; rintro e w2 ⟨rfl, rfl⟩)
    go_ret
    exact ⟨_, [], rfl, RowsAt.nil _ _, hp, List.Pairwise.nil, fun j hj => by simp [Value.ownBlock] at hj, hb1⟩
  · subst hug
    have hsz : ss.toArray.size = ss.length := by simp
    obtain ⟨hH, hlt⟩ := holdsNm ss.toArray w.heap.size g cap w1 (by simpa using hu)
    have hso := sortNm_any ss.toArray g 0 cap w1 hH hlt (by simp; omega)
    rw [hsz] at hso
    obtain ⟨LN, hLN⟩ : ∃ LN, LN = ss.length := ⟨_, rfl⟩
    rw [← hLN] at hso ⊢
    have HL := Lib.hid hLN
    have HP := Lib.hid hp
    have HH := Lib.hid hH
    clear hu hcol hsz hrest hn hLN hp hH
    go_wp2_with (go_at_call 119; refine hso.mono ?_; rintro e w2 ⟨rfl, d', n, os, h1, h2, rfl⟩)
    go_ret
    have hsz : ss.toArray.size = LN := by rw [HL.out]; simp
    obtain ⟨p1, p2⟩ := perm_of_in hsz h1
    have hrow := rows_sortK cellsNm 2 (fun _ => rfl) (n := n) (os := os) ss.toArray d' HH.out hlt (by rw [p2, hsz]) (by rw [p2, HL.out]; unfold maxLen; omega) cap
    rw [p2] at hrow
    refine ⟨_, d'.toList, rfl, hrow, (p1.trans (by simp)).trans HP.out, ?_, fun j hj => (by have e : g = j := (by simpa [Value.ownBlock] using hj); omega), hb1.grown (grown_sortK cellsNm 2 d') hb1.size (fun q e => by cases e; exact hg)⟩
    refine (pairwise_of_in p2 h2).imp (fun {a b} hab => ?_)
    have := (cmpNm_is.le_iff a b).2
    unfold ltOf at hab
    exact this (by simpa using hab)
end Go.Proofs.YtlamogpdkmbeoaaGreatDoor
end PartKeySt

section PartMerH
/- 'list': the notes of a set by name, in memory of their own. -/
set_option maxRecDepth 100000
namespace Go.Proofs.YtlamogpdkmbeoaaGreatDoor
open Go.RowKit Go.Lib Go.Shelf Go.Maps Go.Sort

/-- A row of notes in memory of its own. -/
structure OwnNotes (base : Nat) (w : World) (v : Value) (ys : List Note) : Prop where
  row : w.ownsRow base 46 20 v ys.length (ys.flatMap Note.enc)
  jumps : ∀ y ∈ ys, w.ownsRow base 3 1 y.nt.log.jumps y.js.length (y.js.flatMap encI)
  lines : ∀ y ∈ ys, w.ownsRow base 126 11 y.nt.log.lines y.ls.length (y.ls.flatMap Ln.enc)
theorem OwnNotes.later {base : Nat} {w w' : World} {v : Value} {ys : List Note} (h : OwnNotes base w v ys) (hb : Below w.heap.size w w') : OwnNotes base w' v ys :=
  ⟨own_later h.row hb, fun x hx => own_later (h.jumps x hx) hb, fun x hx => own_later (h.lines x hx) hb⟩
theorem OwnNotes.push {base : Nat} {w w' : World} {v v' : Value} {ys : List Note} (h : OwnNotes base w v ys) (x : Note) (hj : w.ownsRow base 3 1 x.nt.log.jumps x.js.length (x.js.flatMap encI)) (hl : w.ownsRow base 126 11 x.nt.log.lines x.ls.length (x.ls.flatMap Ln.enc))
    (hg : w.grownBy w' v.ownBlock) (hown : w'.ownsRow base 46 20 v' (ys.length + 1) (ys.flatMap Note.enc ++ x.enc)) : OwnNotes base w' v' (ys ++ [x]) := by
  have ho := Only.of_own h.row
  refine ⟨by simpa using hown, fun y hy => ?_, fun y hy => ?_⟩
  · rcases List.mem_append.1 hy with hy | hy
    · exact (h.jumps y hy).kept hg (ho.own (h.jumps y hy) (by decide))
    · simp at hy
      subst hy
      exact hj.kept hg (ho.own hj (by decide))
  · rcases List.mem_append.1 hy with hy | hy
    · exact (h.lines y hy).kept hg (ho.own (h.lines y hy) (by decide))
    · simp at hy
      subst hy
      exact hl.kept hg (ho.own hl (by decide))
/-- ys are copies of what m has under the names ks. -/
def CopiesOf (m : List (NameK × Note)) (ks : List NameK) (ys : List Note) : Prop := ys.length = ks.length ∧ ∀ (i : Nat) (k : NameK) (y : Note), ks[i]? = some k → ys[i]? = some y → ∃ x vj vl, getM m k = some x ∧ y = x.with vj vl
theorem getM_has {m : List (NameK × Note)} {k : NameK} (h : k ∈ m.map (·.1)) : ∃ x, getM m k = some x ∧ (k, x) ∈ m := by
  induction m with
  | nil => simp at h
  | cons p m ih =>
    by_cases e : p.1 = k
    · exact ⟨p.2, by unfold getM; rw [if_pos e], by subst e; simp⟩
    · simp only [List.map_cons, List.mem_cons] at h
      obtain ⟨x, h1, h2⟩ := ih (h.resolve_left (fun h => e h.symm))
      exact ⟨x, by unfold getM; rw [if_neg e]; exact h1, List.mem_cons_of_mem _ h2⟩
set_option maxHeartbeats 8000000 in
theorem list_any (bs : Nat) (m : List (NameK × Note)) (w : World) (hm : MapOf w Tryz.prog 37 encNm encN bs m) (hl : m.length ≤ 4000)
    (hp : ∀ p ∈ m, okI p.1.1 ∧ okI p.1.2 ∧ oneN p.2 ∧ p.2.At w ∧ p.2.js.length ≤ 1000 ∧ p.2.ls.length ≤ 1000) :
    Calls Tryz.prog 44 #[.map (some bs)] w fun e w' => ∃ u ks ys, e = .returned u ∧ ks.Perm (m.map (·.1)) ∧ ks.Pairwise (fun a b => cmpNmK a b ≤ 0) ∧ OwnNotes w.heap.size w' u ys ∧ CopiesOf m ks ys ∧ Below w.heap.size w w' := by
  have UN := Tryz.underlying46
  have UM := Tryz.underlying37
  have US := Tryz.underlying105
  have USn := Tryz.underlying24
  obtain ⟨i1, hi1, hy0, hy1, hy2⟩ := infoNote
  have hks := keysOfSt_any (some bs) w
  have hso := sortedSt_any encN w.heap.size bs m (w.alloc (.cells #[.map (some bs)] 105)) (hm.kept (World.grownBy_alloc _ _ none) (by simp)) (by simp) ((Blk.new w 105 #[.map (some bs)]).cell 0) (by omega)
  have HM := Lib.hid hm
  have HPR := Lib.hid hp
  have lbs := hm.lt
  clear hm hp
  go_enter Tryz.func44, Tryz.ntmps44
  go_upto_region 3 with (first
    | (go_at_call 78; refine hks.mono ?_; rintro e w1 ⟨rfl, rfl⟩)
    | (go_at_call 77; refine hso.mono ?_; rintro e w2 ⟨u, ks, rfl, hrow, hperm, hpw, hown, hb2⟩; obtain ⟨A, c, rfl⟩ := hrow.len))
  have hlk : ks.length ≤ 4000 := by rw [hperm.length_eq, List.length_map]; exact hl
  have hb02 : Below w.heap.size w w2 := (below_alloc0 _).trans (hb2.mono (by simp))
  have HB2 := Lib.hid hb02
  have HROW := Lib.hid hrow
  have HPERM := Lib.hid hperm
  have HPW := Lib.hid hpw
  have hs2 : w.heap.size ≤ w2.heap.size := hb02.size
  obtain ⟨n, hn⟩ : ∃ n, n = ks.length := ⟨_, rfl⟩
  have HN := Lib.hid hn
  rw [← hn] at hlk ⊢
  clear hks hso hrow hperm hpw hown hb2 hb02 hn
  go_loopw [3, 5, 10] (fun s3 _ s10 wr => ∃ (k : Nat) (ys : List Note), k ≤ n ∧ s10 = .int .i64 k ∧ Hid (OwnNotes w2.heap.size wr s3 ys) ∧ Hid (CopiesOf m (ks.take k) ys) ∧ Hid (Below w2.heap.size w2 wr)) (fun _ _ s10 _ => n - (intOf s10).toNat)
  case atStart => exact ⟨0, [], Nat.zero_le _, rfl, Lib.hid ⟨World.ownsRow_nil _ _ _ _, fun _ h => (by cases h), fun _ h => (by cases h)⟩, Lib.hid ⟨by simp, fun i k y h => (by simp at h)⟩, Lib.hid (Below.refl _ _)⟩
  case round =>
    obtain ⟨k, ys, hk, rfl, hOW, hCO, hb⟩ := hrel
    by_cases hlt : k < n
    · have hk1 : k < ks.length := by have := HN.out; omega
      obtain ⟨⟨ka, kb⟩, hx⟩ : ∃ q, q = ks[k] := ⟨_, rfl⟩
      have hqm : (ka, kb) ∈ m.map (·.1) := HPERM.out.mem_iff.1 (by rw [hx]; exact List.getElem_mem hk1)
      obtain ⟨x, hget, hxm⟩ := getM_has hqm
      obtain ⟨q1, q2, q3, q4, q5, q6⟩ := HPR.out _ hxm
      have HGET := Lib.hid hget
      have HKEY := Lib.hid (key_name (ka, kb) q1 q2)
      have hBw : Below w.heap.size w wr := HB2.out.trans (hb.out.mono hs2)
      have hnl : ys.length = k := by have := hCO.out.1; rw [List.length_take] at this; omega
      have HNL := Lib.hid hnl
      have HTK : Hid (ks.take (k + 1) = ks.take k ++ [(ka, kb)]) := Lib.hid (by rw [List.take_succ_eq_append_getElem hk1, ← hx])
      rcases HROW.out.place with ⟨e0, _⟩ | ⟨g1, o1, c1', e1, _, _, hg1, hcell1⟩
      · rw [e0] at hk1; simp at hk1
      injection e1 with e1 e11 e12
      clear e11 e12
      subst e1
      have c0 : wr.cell? ⟨g1, o1 + k * 2, none⟩ = some (.int .i64 ka) := (hb.out.cell (p := ⟨g1, o1 + k * 2, none⟩) hg1).trans (hcell1 k hk1 0 _ (by rw [← hx]; rfl))
      have c1 : wr.cell? ⟨g1, o1 + k * 2 + 1, none⟩ = some (.int .i64 kb) := (hb.out.cell (p := ⟨g1, o1 + k * 2 + 1, none⟩) hg1).trans (hcell1 k hk1 1 _ (by rw [← hx]; rfl))
      have hsr : w2.heap.size ≤ wr.heap.size := hb.out.size
      have HQ3 : Hid (oneN x) := Lib.hid q3
      have HCP : Hid (∀ W, Below wr.heap.size wr W → Calls Tryz.prog 80 #[encN x] W fun e w' => ∃ vj vl, e = .returned (encN (x.with vj vl)) ∧ w'.ownsRow W.heap.size 3 1 vj x.js.length (x.js.flatMap encI) ∧ w'.ownsRow W.heap.size 126 11 vl x.ls.length (x.ls.flatMap Ln.enc) ∧ Below W.heap.size W w') :=
        Lib.hid fun W hW => copied_any x W ((q4.later hBw).later hW) q3 q5 q6
      have HMR : Hid (MapOf wr Tryz.prog 37 encNm encN bs m) := Lib.hid (HM.out.block (hBw.block _ lbs))
      clear hx hqm hget hxm q1 q2 q3 q4 q5 q6 hBw hnl hcell1 hk1
      go_upto_region 5 with (refine wpList_store_blk rfl 37 _ _ rfl wr.heap.size 37 #[.int .i64 0, .int .i64 0] #[.int .i64 ka, .int .i64 kb] rfl rfl (Blk.new wr _ _) (by rfl) sizeNm (by simp [Value.oneCell']) ?_; intro w4 hK4 hg4 hs4)
      have hb4 : Below wr.heap.size wr w4 := (below_alloc0 _).grown hg4 (by simp) (fun k e => by cases e; exact Nat.le_refl _)
      have HM4 := Lib.hid (HMR.out.block (hb4.block _ HMR.out.lt))
      have hcp := HCP.out w4 hb4
      have HB4 := Lib.hid hb4
      obtain ⟨pb, hpb⟩ : ∃ pb, wr.heap.size = pb := ⟨_, rfl⟩
      have HPB := Lib.hid hpb
      rw [hpb] at hK4 ⊢
      have k0 : w4.cell? ⟨pb, 0, none⟩ = some (.int .i64 ka) := hK4.cell 0
      have k1 : w4.cell? ⟨pb, 1, none⟩ = some (.int .i64 kb) := hK4.cell 1
      have hs24 : w2.heap.size ≤ w4.heap.size := Nat.le_trans hsr hb4.size
      obtain ⟨L, hL⟩ : ∃ L, L = ys.length := ⟨_, rfl⟩
      have hL4 : L ≤ 4000 := by have := HNL.out; omega
      have HLL := Lib.hid hL
      clear hb4 hg4 hs4 hK4 hpb hL
      go_wp2_with (first
        | (refine wpList_lookup_of rfl false _ _ _ rfl 46 keyedName US _ zeroNote rfl HM4.out (ka, kb) rfl HKEY.out ?_; rw [HGET.out]; dsimp only [lookV])
        | (go_at_call 80; refine hcp.mono ?_; rintro e w6 ⟨vj, vl, rfl, hj6, hl6, hb6⟩; obtain ⟨Aj, mj, cj, rfl⟩ := own_slice hj6; obtain ⟨Al, ml, cl, rfl⟩ := own_slice hl6; dsimp only [Note.with, encN, Note.enc, Nt.enc]; have hOW6 := (hOW.out.later HB4.out).later hb6; have hone6 : ∀ u ∈ (x.with (.slice Aj mj cj) (.slice Al ml cl)).nt.enc, u.oneCell' = true := (by have h := HQ3.out; unfold oneN at h; simp only [Note.with, Nt.enc, List.all_toArray, List.all_cons, Bool.and_eq_true] at h ⊢; intro u hu; simp only [List.mem_cons, List.not_mem_nil, or_false] at hu; rcases hu with rfl | rfl | rfl | rfl | rfl | rfl | rfl | rfl | rfl | rfl | rfl | rfl | rfl | rfl | rfl | rfl | rfl | rfl | rfl | rfl <;> rfl))
        | (at_builtin; refine wpList_append_lies _ rfl _ _ 24 rfl w2.heap.size 46 i1 (.agg Nt0.enc.toArray) 20 224 USn hi1 hy0 hy1 hy2 rfl (by decide) u3 ys.length _ rfl (hOW6.row.alloc _) ⟨w6.heap.size, 0, none⟩ 1 1 (x.with (.slice Aj mj cj) (.slice Al ml cl)).nt.enc rfl rfl (World.news_of_block (Blk.new w6 _ _)) hone6 (by decide) (by unfold maxLen; have := HLL.out; omega) (by have := HLL.out; omega) (by have := hb6.size; simp; omega) _ rfl ?_; intro g' cap w7 ho7 hg7 hat7 hlt7))
      obtain ⟨z, hz⟩ : ∃ z, z = x.with (.slice Aj mj cj) (.slice Al ml cl) := ⟨_, rfl⟩
      rw [← hz] at ho7
      have hba : Below w6.heap.size w6 (w6.alloc (.cells z.nt.enc.toArray 46)) := below_alloc0 _
      have hfin : OwnNotes w2.heap.size w7 (.slice (some ⟨g', 0, none⟩) (ys.length + 1) cap) (ys ++ [z]) :=
        OwnNotes.push (hOW6.later hba) z (by rw [hz]; exact own_later (ownsRow_base_a hj6 hs24) (by rw [← hz]; exact hba)) (by rw [hz]; exact own_later (ownsRow_base_a hl6 hs24) (by rw [← hz]; exact hba)) (by rw [hz]; exact hg7) ho7
      have hb26 : Below w2.heap.size w2 w6 := (hb.out.trans (HB4.out.mono hsr)).trans (hb6.mono hs24)
      have hs26 : w2.heap.size ≤ w6.heap.size := hb26.size
      have hb7 : Below w2.heap.size w2 w7 := (hb26.alloc hs26 _).grown hg7 (by simp; omega) (fun j e => (hOW6.row.lt j e).1)
      have hco : CopiesOf m (ks.take (k + 1)) (ys ++ [z]) := by
        rw [HTK.out]
        refine ⟨by simp [hCO.out.1], fun i q y e1 e2 => ?_⟩
        have hlen := hCO.out.1
        by_cases hi : i < ys.length
        · rw [List.getElem?_append_left (by omega)] at e1
          rw [List.getElem?_append_left hi] at e2
          exact hCO.out.2 i q y e1 e2
        · rw [List.getElem?_append_right (by omega)] at e1
          rw [List.getElem?_append_right (by omega)] at e2
          have hi0 : i - ys.length = 0 := by
            have := (List.getElem?_eq_some_iff.1 e2).1
            simp at this
            omega
          rw [← hlen, hi0] at e1
          rw [hi0] at e2
          simp at e1 e2
          subst e1 e2
          exact ⟨x, _, _, HGET.out, hz⟩
      exact ⟨⟨k + 1, ys ++ [z], by omega, by simp, Lib.hid hfin, Lib.hid hco, Lib.hid hb7⟩, by simp [intOf]; omega⟩
    · have hke : ks.take k = ks := List.take_of_length_le (by have := HN.out; omega)
      rw [hke] at hCO
      clear hke
      go_wp2
      go_ret
      exact ⟨_, ks, ys, rfl, HPERM.out, HPW.out, ⟨ownsRow_base_a hOW.out.row hs2, fun x hx => ownsRow_base_a (hOW.out.jumps x hx) hs2, fun x hx => ownsRow_base_a (hOW.out.lines x hx) hs2⟩, hCO.out, HB2.out.trans (hb.out.mono hs2)⟩
end Go.Proofs.YtlamogpdkmbeoaaGreatDoor
end PartMerH

section PartMerI
/- 'fork': whether two sets have different notes under one name. -/
set_option maxRecDepth 100000
namespace Go.Proofs.YtlamogpdkmbeoaaGreatDoor
open Go.RowKit Go.Lib Go.Shelf Go.Maps Go.Sort

/-- Under the name q the two have different notes. -/
def ForkAt (m t : List (NameK × Note)) (q : NameK) : Prop := ∃ x y, getM m q = some x ∧ getM t q = some y ∧ ¬ SameN y x
set_option maxHeartbeats 16000000 in
theorem fork_any (bs bt : Nat) (m t : List (NameK × Note)) (w : World) (hm : MapOf w Tryz.prog 37 encNm encN bs m) (ht : MapOf w Tryz.prog 37 encNm encN bt t) (hl : m.length ≤ 4000)
    (hp : ∀ p ∈ m, okI p.1.1 ∧ okI p.1.2 ∧ oneN p.2 ∧ p.2.At w) (hq : ∀ p ∈ t, oneN p.2 ∧ p.2.At w) :
    Calls Tryz.prog 42 #[.map (some bs), .map (some bt)] w fun e w' => (∃ j k b, e = .returned (.tuple #[.agg #[.int .i64 j, .int .i64 k], .bool b]) ∧ (b = true ↔ ∃ q, ForkAt m t q)) ∧ Below w.heap.size w w' := by
  have UN := Tryz.underlying46
  have UM := Tryz.underlying37
  have US := Tryz.underlying105
  obtain ⟨W0, hW0⟩ : ∃ W0, w.alloc (.cells #[.int .i64 0, .int .i64 0] 37) = W0 := ⟨_, rfl⟩
  have hb0 : Below w.heap.size w W0 := by rw [← hW0]; exact below_alloc0 _
  have hR0 : Blk W0 w.heap.size 37 #[.int .i64 0, .int .i64 0] := by rw [← hW0]; exact Blk.new w _ _
  have hm0 := hm.block (hb0.block _ hm.lt)
  have ht0 := ht.block (hb0.block _ ht.lt)
  have hks := keysOfSt_any (some bs) W0
  have hso := sortedSt_any encN W0.heap.size bs m (W0.alloc (.cells #[.map (some bs)] 105)) (hm0.kept (World.grownBy_alloc _ _ none) (by simp)) (by simp) ((Blk.new W0 105 #[.map (some bs)]).cell 0) (by omega)
  have HM0 := Lib.hid hm0
  have HT0 := Lib.hid ht0
  have HPR := Lib.hid hp
  have HQR := Lib.hid hq
  have HB0 := Lib.hid hb0
  have HR0 := Lib.hid hR0
  have lR := hR0.lt
  have hs0 : w.heap.size ≤ W0.heap.size := hb0.size
  clear hm ht hp hq hm0 ht0 hb0 hR0
  go_enter Tryz.func42, Tryz.ntmps42
  go_upto_region 2 with (first
    | (go_at_call 78; refine hks.mono ?_; rintro e w1 ⟨rfl, rfl⟩)
    | (go_at_call 77; refine hso.mono ?_; rintro e w2 ⟨u, ks, rfl, hrow, hperm, hpw, hown, hb2⟩; obtain ⟨A, c, rfl⟩ := hrow.len))
  have hb02 : Below W0.heap.size W0 w2 := (below_alloc0 _).trans (hb2.mono (by simp))
  have hlk : ks.length ≤ 4000 := by rw [hperm.length_eq, List.length_map]; exact hl
  have HB2 := Lib.hid (HB0.out.trans (hb02.mono hs0))
  have HR2 := Lib.hid (HR0.out.later hb02)
  have HM2 := Lib.hid (HM0.out.block (hb02.block _ HM0.out.lt))
  have HT2 := Lib.hid (HT0.out.block (hb02.block _ HT0.out.lt))
  have HROW := Lib.hid hrow
  have HPERM := Lib.hid hperm
  have hs2 : w.heap.size ≤ w2.heap.size := HB2.out.size
  obtain ⟨n, hn⟩ : ∃ n, n = ks.length := ⟨_, rfl⟩
  have HN := Lib.hid hn
  rw [← hn] at hlk ⊢
  obtain ⟨rb, hrb⟩ : ∃ rb, w.heap.size = rb := ⟨_, rfl⟩
  have HRB := Lib.hid hrb
  rw [hrb] at HR2 ⊢
  clear hks hso hrow hperm hpw hown hb2 hb02 hn hrb hW0 lR hs0
  go_loopw [7, 8, 9, 14] (fun _ _ _ s14 wr => ∃ k : Nat, k ≤ n ∧ s14 = .int .i64 k ∧ Hid (∀ (i : Nat) (q : NameK), i < k → ks[i]? = some q → ¬ ForkAt m t q) ∧ Hid (Below w2.heap.size w2 wr)) (fun _ _ _ s14 _ => n - (intOf s14).toNat)
  case atStart => exact ⟨0, Nat.zero_le _, rfl, Lib.hid (fun i q h => absurd h (Nat.not_lt_zero _)), Lib.hid (Below.refl _ _)⟩
  case round =>
    obtain ⟨k, hk, rfl, hNF, hb⟩ := hrel
    by_cases hlt : k < n
    · have hk1 : k < ks.length := by have := HN.out; omega
      obtain ⟨⟨ka, kb⟩, hx⟩ : ∃ q, q = ks[k] := ⟨_, rfl⟩
      have hqm : (ka, kb) ∈ m.map (·.1) := HPERM.out.mem_iff.1 (by rw [hx]; exact List.getElem_mem hk1)
      obtain ⟨x, hget, hxm⟩ := getM_has hqm
      obtain ⟨q1, q2, q3, q4⟩ := HPR.out _ hxm
      have HGET := Lib.hid hget
      have HKEY := Lib.hid (key_name (ka, kb) q1 q2)
      have HBw := Lib.hid (HB2.out.trans (hb.out.mono hs2))
      have HKS : Hid (ks[k]? = some (ka, kb)) := Lib.hid (by rw [hx]; exact List.getElem?_eq_getElem hk1)
      rcases HROW.out.place with ⟨e0, _⟩ | ⟨g1, o1, c1', e1, _, _, hg1, hcell1⟩
      · rw [e0] at hk1; simp at hk1
      injection e1 with e1 e11 e12
      clear e11 e12
      subst e1
      have c0 : wr.cell? ⟨g1, o1 + k * 2, none⟩ = some (.int .i64 ka) := (hb.out.cell (p := ⟨g1, o1 + k * 2, none⟩) hg1).trans (hcell1 k hk1 0 _ (by rw [← hx]; rfl))
      have c1 : wr.cell? ⟨g1, o1 + k * 2 + 1, none⟩ = some (.int .i64 kb) := (hb.out.cell (p := ⟨g1, o1 + k * 2 + 1, none⟩) hg1).trans (hcell1 k hk1 1 _ (by rw [← hx]; rfl))
      have hsr : w2.heap.size ≤ wr.heap.size := hb.out.size
      have HXA : Hid (x.At w) := Lib.hid q4
      have HX1 : Hid (oneN x) := Lib.hid q3
      have HMR := Lib.hid (HM2.out.block (hb.out.block _ HM2.out.lt))
      have HTR := Lib.hid (HT2.out.block (hb.out.block _ HT2.out.lt))
      clear hx hqm hget hxm q1 q2 q3 q4 hcell1 hk1
      go_upto_region 4 with (refine wpList_store_blk rfl 37 _ _ rfl wr.heap.size 37 #[.int .i64 0, .int .i64 0] #[.int .i64 ka, .int .i64 kb] rfl rfl (Blk.new wr _ _) (by rfl) sizeNm (by simp [Value.oneCell']) ?_; intro w4 hK4 hg4 hs4)
      have hb4 : Below wr.heap.size wr w4 := (below_alloc0 _).grown hg4 (by simp) (fun k e => by cases e; exact Nat.le_refl _)
      have HM4 := Lib.hid (HMR.out.block (hb4.block _ HMR.out.lt))
      have HT4 := Lib.hid (HTR.out.block (hb4.block _ HTR.out.lt))
      have HB4 := Lib.hid hb4
      obtain ⟨pb, hpb⟩ : ∃ pb, wr.heap.size = pb := ⟨_, rfl⟩
      rw [hpb] at hK4 ⊢
      have HK4 := Lib.hid hK4
      have k0 : w4.cell? ⟨pb, 0, none⟩ = some (.int .i64 ka) := hK4.cell 0
      have k1 : w4.cell? ⟨pb, 1, none⟩ = some (.int .i64 kb) := hK4.cell 1
      have hs24 : w2.heap.size ≤ w4.heap.size := Nat.le_trans hsr hb4.size
      have hsr4 : wr.heap.size ≤ w4.heap.size := hb4.size
      clear hb4 hg4 hs4 hK4 hpb
      obtain ⟨R, hR⟩ : ∃ R, R = getM t (ka, kb) := ⟨_, rfl⟩
      have HR := Lib.hid hR
      clear hR
      cases R with
      | none =>
        have HST : Hid (∀ (i : Nat) (q : NameK), i < k + 1 → ks[i]? = some q → ¬ ForkAt m t q) := Lib.hid (fun i q hi e => by
          by_cases h : i < k
          · exact hNF.out i q h e
          · obtain rfl : i = k := by omega
            have a1 := HKS.out.symm.trans e
            injection a1 with a1
            subst a1
            rintro ⟨x', y', _, h2, _⟩
            rw [← HR.out] at h2
            cases h2)
        go_upto_region 5 with (first
          | (refine wpList_lookup_of rfl true _ _ _ rfl 46 keyedName US _ zeroNote rfl HT4.out (ka, kb) rfl HKEY.out ?_; rw [← HR.out]; dsimp only [lookV])
          | (refine wpList_store_blk rfl 46 _ _ rfl w4.heap.size 46 Nt0.enc.toArray Nt0.enc.toArray rfl rfl (Blk.new w4 _ _) (by rfl) sizeNote (by simp [Value.oneCell']) ?_; intro w5 hO5 hg5 hs5; clear hs5))
        have hb5 : Below w4.heap.size w4 w5 := (below_alloc0 _).grown hg5 (by simp) (fun k e => by cases e; exact Nat.le_refl _)
        have HB5 := Lib.hid ((hb.out.trans (HB4.out.mono hsr)).trans (hb5.mono hs24))
        clear hb5 hg5 hO5 k0 k1
        refine wp_region_held_drew (S := (fun w' => True)) (by kernel_rfl) ?hS1 (fun hHeld => ?_)
        case hS1 => trivial
        refine tk3 (i := 0) ?_; try simp only [Act.put, zq]
        refine tk3 (i := 1) ?_; try simp only [Act.put, zq]
        refine tk2 (i := 2) ?_; try simp only [Act.put, zq]
        refine tk2 (i := 3) ?_; try simp only [Act.put, zq]
        refine tk2 (i := 4) ?_; try simp only [Act.put, zq]
        refine tk2 (i := 5) ?_; try simp only [Act.put, zq]
        refine tk2 (i := 6) ?_; try simp only [Act.put, zq]
        refine tk2 (i := 7) ?_; try simp only [Act.put, zq]
        refine tk3 (i := 8) ?_; try simp only [Act.put, zq]
        refine wpAnyH_done (by kernel_rfl) ?_ _
        clear hHeld
        go_wp2
        exact ⟨⟨k + 1, by omega, by simp, HST, Lib.hid (HB5.out.drew)⟩, by simp [intOf]; omega⟩
      | some y =>
        obtain ⟨y1, y2⟩ := HQR.out _ (getM_mem HR.out.symm)
        have HY1 : Hid (oneN y) := Lib.hid y1
        have HYA : Hid (y.At w) := Lib.hid y2
        clear y1 y2
        go_upto_region 5 with (first
          | (refine wpList_lookup_of rfl true _ _ _ rfl 46 keyedName US _ zeroNote rfl HT4.out (ka, kb) rfl HKEY.out ?_; rw [← HR.out]; dsimp only [lookV])
          | (refine wpList_store_blk rfl 46 _ _ rfl w4.heap.size 46 Nt0.enc.toArray y.nt.enc.toArray rfl rfl (Blk.new w4 _ _) (by rfl) sizeNote HY1.out ?_; intro w5 hO5 hg5 hs5; clear hs5))
        have hb5 : Below w4.heap.size w4 w5 := (below_alloc0 _).grown hg5 (by simp) (fun k e => by cases e; exact Nat.le_refl _)
        have hb25 : Below w2.heap.size w2 w5 := (hb.out.trans (HB4.out.mono hsr)).trans (hb5.mono hs24)
        have hbw5 : Below w.heap.size w w5 := HB2.out.trans (hb25.mono hs2)
        have HM5 := Lib.hid (HM4.out.block (hb5.block _ HM4.out.lt))
        have HK5 := Lib.hid (HK4.out.later hb5)
        have HR5 := Lib.hid (HR2.out.later hb25)
        have HO5 := Lib.hid hO5
        have HB25 := Lib.hid hb25
        have HBW5 := Lib.hid hbw5
        have hs25 : w2.heap.size ≤ w5.heap.size := hb25.size
        have hsw5 : w.heap.size ≤ w5.heap.size := hbw5.size
        have HS := Lib.hid (sameNote_any y x w5.drew (HYA.out.later hbw5.drew) (HXA.out.later hbw5.drew))
        clear hb5 hg5 hO5 k0 k1 hb25 hbw5
        refine wp_region_held_drew (S := (fun w' => Blk w' w4.heap.size 46 y.nt.enc.toArray ∧ Blk w' pb 37 #[.int .i64 ka, .int .i64 kb] ∧ MapOf w' Tryz.prog 37 encNm encN bs m)) (by kernel_rfl) ?hS2 (fun hHeld => ?_)
        case hS2 => exact ⟨HO5.out.drew, HK5.out.drew, HM5.out.block rfl⟩
        refine tk3 (i := 0) ?_; try simp only [Act.put, zq]
        refine tk3 (i := 1) ?_; try simp only [Act.put, zq]
        refine tk4 (i := 2) (fun w9 hSw => hSw.1) ?_; try simp only [Act.put, zq]
        refine tk3 (i := 3) ?_; try simp only [Act.put, zq]
        refine tk4 (i := 4) (fun w9 hSw => hSw.2.1) ?_; try simp only [Act.put, zq]
        refine' wpAnyH_take (i := 5) rfl (by kernel_rfl) (by kernel_rfl) (by kernel_rfl) (fun _ _ _ h => h) (yieldsIf_lookup_of (by kernel_rfl) false _ _ _ rfl 46 keyedName US _ zeroNote rfl (fun w9 hSw => hSw.2.2) (ka, kb) rfl HKEY.out) (by assumption) ?_
        (rw [HGET.out]; dsimp only [lookV])
        (try simp only [Act.put, zq])
        refine wpAnyH_ready (rs := [6]) (by kernel_rfl) (by simp) ?_
        refine AllReadyH.cons rfl (fun K hK => ?_) AllReadyH.nil
        go_simp
        (go_at_call 79; ((with_reducible refine HS.out.mono ?_); rintro e w6 ⟨⟨b, rfl, hbb⟩, hx6⟩); have hb6 : Below w5.heap.size w5 w6 := (Below.refl _ w5).drew.trans hx6)
        go_wp2_with fail
        refine hK.out _ _ ?hS2_7 (fun hHeld => ?_)
        case hS2_7 => ((try dsimp only); exact ⟨HO5.out.later hb6, HK5.out.later hb6, HM5.out.block (hb6.block _ HM5.out.lt)⟩)
        clear hK K
        (try simp only [Act.put, zq])
        refine tk3 (i := 7) ?_; try simp only [Act.put, zq]
        refine tk3 (i := 8) ?_; try simp only [Act.put, zq]
        refine wpAnyH_done (by kernel_rfl) ?_ _
        have hK6 := HK5.out.later hb6
        have hR6 := HR5.out.later hb6
        have k0 : w6.cell? ⟨pb, 0, none⟩ = some (.int .i64 ka) := hK6.cell 0
        have k1 : w6.cell? ⟨pb, 1, none⟩ = some (.int .i64 kb) := hK6.cell 1
        have HB26 := Lib.hid (HB25.out.trans (hb6.mono hs25))
        have HBW6 := Lib.hid (HBW5.out.trans (hb6.mono hsw5))
        have HBB := Lib.hid hbb
        have HR6 := Lib.hid hR6
        clear hHeld hx6 hb6 hK6 hR6 hbb
        cases b
        · have HF : Hid (∃ q, ForkAt m t q) := Lib.hid ⟨(ka, kb), x, y, HGET.out, HR.out.symm, fun h => by have := HBB.out.2 h; cases this⟩
          go_wp2_with (refine wpList_store_blk rfl 37 _ _ rfl rb 37 #[.int .i64 0, .int .i64 0] #[.int .i64 ka, .int .i64 kb] rfl rfl HR6.out (by rfl) sizeNm (by simp [Value.oneCell']) ?_; intro w7 hZ7 hg7 hs7)
          refine bodyPost_ret (results_cellb Tryz.results42 rfl hZ7 UM rfl sizeNm) rfl ⟨⟨_, _, _, rfl, ⟨fun _ => HF.out, fun _ => rfl⟩⟩, ?_⟩
          exact HBW6.out.grown hg7 HBW6.out.size (fun j e => by cases e; have := HRB.out; omega)
        · have HST : Hid (∀ (i : Nat) (q : NameK), i < k + 1 → ks[i]? = some q → ¬ ForkAt m t q) := Lib.hid (fun i q hi e => by
            by_cases h : i < k
            · exact hNF.out i q h e
            · obtain rfl : i = k := by omega
              have a1 := HKS.out.symm.trans e
              injection a1 with a1
              subst a1
              rintro ⟨x', y', h1, h2, h3⟩
              rw [HGET.out] at h1
              rw [← HR.out] at h2
              injection h1 with h1
              injection h2 with h2
              subst h1 h2
              exact h3 (HBB.out.1 rfl))
          clear k0 k1
          go_wp2
          exact ⟨⟨k + 1, by omega, by simp, HST, HB26⟩, by simp [intOf]; omega⟩
    · have HNO : Hid (¬ ∃ q, ForkAt m t q) := Lib.hid (fun ⟨q, hq⟩ => by
        have hqk : q ∈ ks := HPERM.out.mem_iff.2 (by
          obtain ⟨x, _, h1, _⟩ := hq
          exact List.mem_map_of_mem (f := (·.1)) (getM_mem h1))
        obtain ⟨i, hi⟩ := List.getElem?_of_mem hqk
        exact hNF.out i q (by have := (List.getElem?_eq_some_iff.1 hi).1; have := HN.out; omega) hi hq)
      have HRR := Lib.hid (HR2.out.later hb.out)
      have HBW := Lib.hid (HB2.out.trans (hb.out.mono hs2))
      go_wp2_with (refine wpList_store_blk rfl 37 _ _ rfl rb 37 #[.int .i64 0, .int .i64 0] #[.int .i64 0, .int .i64 0] rfl rfl HRR.out (by rfl) sizeNm (by simp [Value.oneCell']) ?_; intro w7 hZ7 hg7 hs7)
      refine bodyPost_ret (results_cellb Tryz.results42 rfl hZ7 UM rfl sizeNm) rfl ⟨⟨_, _, _, rfl, ⟨fun h => (by cases h), fun h => absurd h HNO.out⟩⟩, ?_⟩
      exact HBW.out.grown hg7 HBW.out.size (fun j e => by cases e; have := HRB.out; omega)
end Go.Proofs.YtlamogpdkmbeoaaGreatDoor
end PartMerI
