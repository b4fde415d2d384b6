/- The texts EffB, EffD, MapE, EffA, EffC, EffE, EffT, EffU in one. -/
import Derived.Test.YtlamogpdkmbeoaaGreatDoorZbLed
import Derived.Laws.EntriesVeiled
set_option linter.unusedVariables false
set_option linter.unusedSimpArgs false
set_option linter.unusedSectionVars false
section PartEffB
/- What a log does to the ledger. -/
set_option maxRecDepth 100000
namespace Go.Proofs.YtlamogpdkmbeoaaGreatDoor
open Go.RowKit Go.Lib Go.Shelf Go.Maps

abbrev isk (x : Note) : MarkK := (x.nt.call, x.nt.version)
abbrev oneN (x : Note) : Prop := x.nt.enc.toArray.all (·.oneCell') = true
def logOk (L : Led) (x : Note) : Bool := (getM L.issues (isk x)).isNone
def logLed (L : Led) (x : Note) : Led := { L with issues := putM L.issues (isk x) x, history := L.history ++ [x] }
theorem zeroNote (w : World) : (zeroValue 46).run Tryz.prog w = .ok (.agg Nt0.enc.toArray) w := by kernel_rfl
theorem infoNote' : ∃ i, Tryz.prog.info? 46 = some i ∧ i.zero = some (.agg Nt0.enc.toArray) ∧ i.size = 20 ∧ i.bytes = 224 := by
  obtain ⟨i, hi⟩ : ∃ i, Tryz.prog.info? 46 = some i := Option.isSome_iff_exists.1 (by kernel_rfl)
  have h1 : (Tryz.prog.info? 46).bind (·.zero) = some (.agg Nt0.enc.toArray) := by kernel_rfl
  have h2 : (Tryz.prog.info? 46).map (·.size) = some 20 := by kernel_rfl
  have h3 : (Tryz.prog.info? 46).map (·.bytes) = some 224 := by kernel_rfl
  rw [hi] at h1 h2 h3
  exact ⟨i, hi, by simpa using h1, by simpa using h2, by simpa using h3⟩
theorem sizeIssue : (Tryz.prog.info? 180).map (·.size) = some 2 := by kernel_rfl
theorem ones_of {x : Note} (h : oneN x) : ∀ u ∈ x.enc, u.oneCell' = true := by
  rw [oneN, List.all_toArray] at h
  exact List.all_eq_true.1 h

theorem below_ad {w : World} (o : Obj) : Below w.heap.size w (w.alloc o).drew := (below_alloc0 o).drew
set_option maxHeartbeats 8000000 in
theorem eff2_any {F : Nat → Prop} {base g : Nat} {L : Led} (x : Note) (B : Nat) (w : World) (h : LedAt F base w g L) (hB : Blk w B 91 #[encP g]) (hBF : ¬ F B) (hF : ∀ k, w.heap.size ≤ k → F k) (hbase : base ≤ w.heap.size) (hroom : L.history.length ≤ 2000)
    (hone : oneN x) (hones : ∀ p ∈ L.issues, oneN p.2) (hks : okS x.nt.call) (hki : okI x.nt.version) :
    Calls Tryz.prog 95 #[encN x, encP B] w fun e w' => e = .returned (.bool (logOk L x)) ∧ LedAt F base w' g (if logOk L x then logLed L x else L) ∧ Kept F w w' := by
  obtain ⟨i0, hi0, hz0, hz1, hz2⟩ := infoNote'
  have UN := Tryz.underlying46
  have US := Tryz.underlying24
  have UI := Tryz.underlying180
  have UM := Tryz.underlying84
  obtain ⟨bI, bW, bN, bC, rv, pv, hv, hL⟩ := h
  have hget : ∀ y, getM L.issues (isk x) = some y → oneN y := fun y hy => by
    have : ∀ (m : List (MarkK × Note)) z, getM m z = some y → ∃ p ∈ m, p.2 = y := by
      intro m z
      induction m with
      | nil => intro h; cases h
      | cons p r ih =>
        unfold getM
        intro h
        split at h
        · exact ⟨p, by simp, by injection h⟩
        · obtain ⟨q, hq, e⟩ := ih h
          exact ⟨q, by simp [hq], e⟩
    obtain ⟨p, hp, e⟩ := this _ _ hy
    rw [← e]
    exact hones p hp
  have HK := Lib.hid (key_issue (isk x) hks hki)
  have HONE := Lib.hid (ones_of hone)
  unfold logOk logLed
  clear hones hks hki hone
  obtain ⟨⟨judge, num, clock, kind, call, version, ⟨lcall, cat, pow, cl, vj, vl⟩, aC, aN, bCc, bNn, rJ, rN, hash, prev⟩, js, ls⟩ := x
  dsimp only [encN, Note.enc, Nt.enc, encP, isk] at *
  obtain ⟨R, hR⟩ : ∃ R, R = getM L.issues (call, version) := ⟨_, rfl⟩
  rw [← hR] at hget ⊢
  have HR := Lib.hid hR
  clear hR
  obtain ⟨W, hW⟩ : ∃ W, w.alloc (.cells #[.int .i64 judge, .int .i64 num, .int .i64 clock, .int .i64 kind, .string call, .int .i64 version, .string lcall, .int .i64 cat, .int .i64 pow, .int .i64 cl, vj, vl, .string aC, .int .i64 aN, .string bCc, .int .i64 bNn, .int .i64 rJ, .int .i64 rN, .int .i64 hash, .int .i64 prev] 46) = W := ⟨_, rfl⟩
  have hb0 : Below w.heap.size w W := by rw [← hW]; exact below_alloc0 _
  have hX : Blk W w.heap.size 46 #[.int .i64 judge, .int .i64 num, .int .i64 clock, .int .i64 kind, .string call, .int .i64 version, .string lcall, .int .i64 cat, .int .i64 pow, .int .i64 cl, vj, vl, .string aC, .int .i64 aN, .string bCc, .int .i64 bNn, .int .i64 rJ, .int .i64 rN, .int .i64 hash, .int .i64 prev] := by rw [← hW]; exact Blk.new w _ _
  have hsW : W.heap.size = w.heap.size + 1 := by rw [← hW]; simp
  have x4 : W.cell? ⟨w.heap.size, 4, none⟩ = some (.string call) := hX.cell 4
  have x5 : W.cell? ⟨w.heap.size, 5, none⟩ = some (.int .i64 version) := hX.cell 5
  have HB := Lib.hid hb0
  have HX := Lib.hid hX
  have HBL := Lib.hid (hB.later hb0)
  have HL := Lib.hid (hL.later hb0)
  have HF := Lib.hid hF
  have HVL : Hid (∀ k, hv.ownBlock = some k → k < w.heap.size) := Lib.hid (fun k hk => (hL.history.lt k hk).2)
  clear hX hb0 hL hB hF
  go_enter Tryz.func95, Tryz.ntmps95
  go_upto_region 2 with fail
  obtain ⟨W1, hW1⟩ : ∃ W1, W.alloc (.cells #[.string call, .int .i64 version] 180) = W1 := ⟨_, rfl⟩
  rw [hW1]
  have hb1 : Below W.heap.size W W1 := by rw [← hW1]; exact below_alloc0 _
  have hK1 : Blk W1 (w.heap.size + 1) 180 #[.string call, .int .i64 version] := by rw [← hW1, ← hsW]; exact Blk.new W _ _
  have hs1 : W1.heap.size = w.heap.size + 2 := by rw [← hW1]; simp [hsW]
  have hX1 := HX.out.later hb1
  have hB1 := HBL.out.later hb1
  have hL1 := HL.out.later hb1
  have cB : W1.cell? ⟨B, 0, none⟩ = some (.pointer (some ⟨g, 0, none⟩)) := hB1.cell 0
  have cI : W1.cell? ⟨g, 0, none⟩ = some (.map (some bI)) := hL1.cells.cell 0
  have lB := hB1.lt
  have lg := hL1.cells.lt
  have HL1 := Lib.hid hL1
  have HB1 := Lib.hid hB1
  clear hW1 hW hL1 hB1 x4 x5
  cases R with
  | some y =>
    have hy : y.nt.enc.toArray.all (·.oneCell') = true := hget y rfl
    clear hget
    refine wp_region_late (S := (fun w' => w'.cell? ⟨B, 0, none⟩ = some (.pointer (some ⟨g, 0, none⟩)) ∧ w'.cell? ⟨g, 0, none⟩ = some (.map (some bI)) ∧ Blk w' (w.heap.size + 1) 180 #[.string call, .int .i64 version] ∧ MapOf w' Tryz.prog 180 encMk encN bI L.issues)) [10] (by kernel_rfl) ?hS1 (fun hHeld => ?_)
    case hS1 => exact ⟨cB, cI, hK1.drew, (HL1.out.later (Below.refl _ _).drew).issues⟩
    refine tl2 (i := 0) ?_; try simp only [Act.put, zq]
    refine tl1 (i := 1) ?_; try simp only [Act.put, zq]
    refine tl1 (i := 2) ?_; try simp only [Act.put, zq]
    refine tl2 (i := 3) ?_; try simp only [Act.put, zq]
    refine' wpAnyL_take (i := 4) rfl (by kernel_rfl) (by kernel_rfl) (by kernel_rfl) (by kernel_rfl) (by kernel_rfl) (by kernel_rfl) (fun _ _ _ h => h) (yieldsIf_load_blk (by kernel_rfl) _ _ rfl _ _ _ _ rfl (fun w9 hSw => hSw.2.2.1) ?hu1_5 ?hd1_5 ?hi1_5) (by assumption) ?_
    case hu1_5 => assumption
    case hd1_5 => rfl
    case hi1_5 => (first | assumption | kernel_rfl)
    (try simp only [Act.put, zq])
    refine' wpAnyL_take (i := 5) rfl (by kernel_rfl) (by kernel_rfl) (by kernel_rfl) (by kernel_rfl) (by kernel_rfl) (by kernel_rfl) (fun _ _ _ h => h) (yieldsIf_lookup_of (by kernel_rfl) true _ _ _ rfl 46 keyedIssue UM _ zeroNote rfl (fun w9 hSw => hSw.2.2.2) (call, version) rfl HK.out) (by assumption) ?_
    (rw [← HR.out]; dsimp only [lookV])
    (try simp only [Act.put, zq])
    refine tl1 (i := 6) ?_; try simp only [Act.put, zq]
    refine tl1 (i := 7) ?_; try simp only [Act.put, zq]
    refine tl1 (i := 8) ?_; try simp only [Act.put, zq]
    refine wpAnyL_ready (rs := [9]) (by kernel_rfl) (by simp) ?_
    refine AllReadyL.cons rfl (fun K hK => ?_) AllReadyL.nil
    go_simp
    refine hK.out _ _ ?hS1_10 (fun hHeld => ?_)
    case hS1_10 => ((try dsimp only); exact ⟨((below_ad _).cell (p := ⟨B, 0, none⟩) lB).trans cB, ((below_ad _).cell (p := ⟨g, 0, none⟩) lg).trans cI, hK1.later (below_ad _), (HL1.out.later (below_ad _)).issues⟩)
    clear hK K
    (try simp only [Act.put, zq])
    refine wpAnyL_ready (rs := [10]) (by kernel_rfl) (by simp) ?_
    refine AllReadyL.late rfl (by kernel_rfl) (fun K hK => ?_) AllReadyL.nil
    (rw [if_pos (by kernel_rfl)]; refine wp_store_blk 46 _ _ rfl (w.heap.size + 2) 46 Nt0.enc.toArray y.nt.enc.toArray rfl rfl (by rw [← hs1]; exact (Blk.new W1 _ _).drew) (by rfl) sizeNote hy ?_; intro w6 hZ6 hg6 hs6)
    refine hK.out _ _ ?_
    clear hK K
    (try simp only [Act.put, zq])
    refine wpAnyL_pureL (i := 11) (v := ?v1_12) rfl (by kernel_rfl) (by kernel_rfl) (by kernel_rfl) (by kernel_rfl) (by kernel_rfl) (fun _ _ _ h => h) (Or.inl ⟨by kernel_rfl, ?hy1_12⟩) ?_
    case hy1_12 => ((intro w hSw; (try dsimp only at hSw); go_simp) <;> with_reducible rfl)
    (try simp only [Act.put, zq])
    refine wpAnyL_done (by kernel_rfl) ?_ _
    have hb6 : Below W1.heap.size W1 w6 := (below_ad _).grown hg6 (by simp) (fun k e => by cases e; omega)
    clear hHeld hZ6 hg6 hs6
    go_wp2
    go_ret
    exact ⟨rfl, ⟨_, _, _, _, _, _, _, HL1.out.later hb6⟩, ((Kept.of_below HB.out).trans (Kept.of_below hb1)).trans (Kept.of_below hb6)⟩
  | none =>
    clear hget
    refine wp_region_late (S := (fun w' => w'.cell? ⟨B, 0, none⟩ = some (.pointer (some ⟨g, 0, none⟩)) ∧ w'.cell? ⟨g, 0, none⟩ = some (.map (some bI)) ∧ Blk w' (w.heap.size + 1) 180 #[.string call, .int .i64 version] ∧ MapOf w' Tryz.prog 180 encMk encN bI L.issues)) [10] (by kernel_rfl) ?hS2 (fun hHeld => ?_)
    case hS2 => exact ⟨cB, cI, hK1.drew, (HL1.out.later (Below.refl _ _).drew).issues⟩
    refine tl2 (i := 0) ?_; try simp only [Act.put, zq]
    refine tl1 (i := 1) ?_; try simp only [Act.put, zq]
    refine tl1 (i := 2) ?_; try simp only [Act.put, zq]
    refine tl2 (i := 3) ?_; try simp only [Act.put, zq]
    refine' wpAnyL_take (i := 4) rfl (by kernel_rfl) (by kernel_rfl) (by kernel_rfl) (by kernel_rfl) (by kernel_rfl) (by kernel_rfl) (fun _ _ _ h => h) (yieldsIf_load_blk (by kernel_rfl) _ _ rfl _ _ _ _ rfl (fun w9 hSw => hSw.2.2.1) ?hu2_5 ?hd2_5 ?hi2_5) (by assumption) ?_
    case hu2_5 => assumption
    case hd2_5 => rfl
    case hi2_5 => (first | assumption | kernel_rfl)
    (try simp only [Act.put, zq])
    refine' wpAnyL_take (i := 5) rfl (by kernel_rfl) (by kernel_rfl) (by kernel_rfl) (by kernel_rfl) (by kernel_rfl) (by kernel_rfl) (fun _ _ _ h => h) (yieldsIf_lookup_of (by kernel_rfl) true _ _ _ rfl 46 keyedIssue UM _ zeroNote rfl (fun w9 hSw => hSw.2.2.2) (call, version) rfl HK.out) (by assumption) ?_
    (rw [← HR.out]; dsimp only [lookV])
    (try simp only [Act.put, zq])
    refine tl1 (i := 6) ?_; try simp only [Act.put, zq]
    refine tl1 (i := 7) ?_; try simp only [Act.put, zq]
    refine tl1 (i := 8) ?_; try simp only [Act.put, zq]
    refine wpAnyL_ready (rs := [9]) (by kernel_rfl) (by simp) ?_
    refine AllReadyL.cons rfl (fun K hK => ?_) AllReadyL.nil
    go_simp
    refine hK.out _ _ ?hS2_10 (fun hHeld => ?_)
    case hS2_10 => ((try dsimp only); exact ⟨((below_ad _).cell (p := ⟨B, 0, none⟩) lB).trans cB, ((below_ad _).cell (p := ⟨g, 0, none⟩) lg).trans cI, hK1.later (below_ad _), (HL1.out.later (below_ad _)).issues⟩)
    clear hK K
    (try simp only [Act.put, zq])
    refine wpAnyL_ready (rs := [10]) (by kernel_rfl) (by simp) ?_
    refine AllReadyL.late rfl (by kernel_rfl) (fun K hK => ?_) AllReadyL.nil
    (rw [if_pos (by kernel_rfl)]; refine wp_store_blk 46 _ _ rfl (w.heap.size + 2) 46 Nt0.enc.toArray Nt0.enc.toArray rfl rfl (by rw [← hs1]; exact (Blk.new W1 _ _).drew) (by rfl) sizeNote (by simp [Value.oneCell']) ?_; intro w6 hZ6 hg6 hs6)
    refine hK.out _ _ ?_
    clear hK K
    (try simp only [Act.put, zq])
    refine wpAnyL_pureL (i := 11) (v := ?v2_12) rfl (by kernel_rfl) (by kernel_rfl) (by kernel_rfl) (by kernel_rfl) (by kernel_rfl) (fun _ _ _ h => h) (Or.inl ⟨by kernel_rfl, ?hy2_12⟩) ?_
    case hy2_12 => ((intro w hSw; (try dsimp only at hSw); go_simp) <;> with_reducible rfl)
    (try simp only [Act.put, zq])
    refine wpAnyL_done (by kernel_rfl) ?_ _
    have hb6 : Below W1.heap.size W1 w6 := (below_ad _).grown hg6 (by simp) (fun k e => by cases e; omega)
    clear hHeld hZ6 hg6 hs6
    have hX6 := hX1.later hb6
    have hK6 := hK1.later hb6
    have hB6 := HB1.out.later hb6
    have hL6 := HL1.out.later hb6
    clear cB cI lB lg
    have cB : w6.cell? ⟨B, 0, none⟩ = some (.pointer (some ⟨g, 0, none⟩)) := hB6.cell 0
    have cI : w6.cell? ⟨g, 0, none⟩ = some (.map (some bI)) := hL6.cells.cell 0
    have HL6 := Lib.hid hL6
    have HB6 := Lib.hid hB6
    clear hL6 hB6
    go_upto_region 5 with fail
    refine wp_region_late (S := (fun w' => w'.cell? ⟨B, 0, none⟩ = some (.pointer (some ⟨g, 0, none⟩)) ∧ w'.cell? ⟨g, 0, none⟩ = some (.map (some bI)) ∧ Blk w' (w.heap.size + 1) 180 #[.string call, .int .i64 version] ∧ Blk w' w.heap.size 46 #[.int .i64 judge, .int .i64 num, .int .i64 clock, .int .i64 kind, .string call, .int .i64 version, .string lcall, .int .i64 cat, .int .i64 pow, .int .i64 cl, vj, vl, .string aC, .int .i64 aN, .string bCc, .int .i64 bNn, .int .i64 rJ, .int .i64 rN, .int .i64 hash, .int .i64 prev])) [6] (by kernel_rfl) ?hS3 (fun hHeld => ?_)
    case hS3 => exact ⟨cB, cI, hK6.drew, hX6.drew⟩
    refine tl2 (i := 0) ?_; try simp only [Act.put, zq]
    refine tl1 (i := 1) ?_; try simp only [Act.put, zq]
    refine tl1 (i := 2) ?_; try simp only [Act.put, zq]
    refine tl2 (i := 3) ?_; try simp only [Act.put, zq]
    refine' wpAnyL_take (i := 4) rfl (by kernel_rfl) (by kernel_rfl) (by kernel_rfl) (by kernel_rfl) (by kernel_rfl) (by kernel_rfl) (fun _ _ _ h => h) (yieldsIf_load_blk (by kernel_rfl) _ _ rfl _ _ _ _ rfl (fun w9 hSw => hSw.2.2.1) ?hu3_5 ?hd3_5 ?hi3_5) (by assumption) ?_
    case hu3_5 => assumption
    case hd3_5 => rfl
    case hi3_5 => (first | assumption | kernel_rfl)
    (try simp only [Act.put, zq])
    refine' wpAnyL_take (i := 5) rfl (by kernel_rfl) (by kernel_rfl) (by kernel_rfl) (by kernel_rfl) (by kernel_rfl) (by kernel_rfl) (fun _ _ _ h => h) (yieldsIf_load_blk (by kernel_rfl) _ _ rfl _ _ _ _ rfl (fun w9 hSw => hSw.2.2.2) ?hu3_6 ?hd3_6 ?hi3_6) (by assumption) ?_
    case hu3_6 => assumption
    case hd3_6 => rfl
    case hi3_6 => (first | assumption | kernel_rfl)
    (try simp only [Act.put, zq])
    refine wpAnyL_ready (rs := [6]) (by kernel_rfl) (by simp) ?_
    refine AllReadyL.late rfl (by kernel_rfl) (fun K hK => ?_) AllReadyL.nil
    (rw [if_pos (by kernel_rfl)]; refine wp_mapUpdate_of _ _ _ _ rfl 46 keyedIssue UM rfl (HL6.out.later (Below.refl _ _).drew).issues (call, version) ⟨⟨judge, num, clock, kind, call, version, ⟨lcall, cat, pow, cl, vj, vl⟩, aC, aN, bCc, bNn, rJ, rN, hash, prev⟩, js, ls⟩ rfl rfl HK.out ?_; intro w7 hm7 hg7 hs7)
    refine hK.out _ _ ?_
    clear hK K
    (try simp only [Act.put, zq])
    refine wpAnyL_done (by kernel_rfl) ?_ _
    have hgd : w6.grownBy w7 (some bI) := ⟨hg7.os, hg7.tape, hg7.output, hg7.size, hg7.block⟩
    have HL7 := Lib.hid ((HL6.out.later (Below.refl _ _).drew).setIssues hg7 hm7)
    have hX7 := hX6.kept hgd (fun e => by injection e with e; have h1 := hX6.tag; rw [e, HL6.out.issues.tag] at h1; cases h1)
    have HB7 := Lib.hid (HB6.out.kept hgd (fun e => by injection e with e; have h1 := HB6.out.tag; rw [e, HL6.out.issues.tag] at h1; cases h1))
    have hk7 : Kept F w6 w7 := Kept.of_grown hgd (fun k e => by cases e; exact HL6.out.own.2.1)
    have hs6 := hb6.size
    have hs7' : w7.heap.size = w6.heap.size := hs7
    have hsH : w.heap.size ≤ w7.heap.size := by omega
    have hbaseH : base ≤ w7.heap.size := by omega
    clear hHeld hm7 hg7 cB cI hs7 hs7' hs6 hs1 hsW
    go_upto_region 6 with fail
    have cB : w7.cell? ⟨B, 0, none⟩ = some (.pointer (some ⟨g, 0, none⟩)) := HB7.out.cell 0
    have cP : w7.cell? ⟨g, 6, none⟩ = some hv := HL7.out.cells.cell 6
    have fP : w7.frozen? ⟨g, 6, none⟩ = false := HL7.out.cells.frozen 6
    have ltB := HB7.out.lt
    have ltg := HL7.out.cells.lt
    have hmax : L.history.length + 1 ≤ maxLen := by unfold maxLen; omega
    have hmb : (L.history.length + 1) * 224 ≤ 140737488355328 := by omega
    have baA := below_ad (w := w7) (.cells #[.int .i64 judge, .int .i64 num, .int .i64 clock, .int .i64 kind, .string call, .int .i64 version, .string lcall, .int .i64 cat, .int .i64 pow, .int .i64 cl, vj, vl, .string aC, .int .i64 aN, .string bCc, .int .i64 bNn, .int .i64 rJ, .int .i64 rN, .int .i64 hash, .int .i64 prev] 46)
    refine wp_region_late (S := (fun w' => w'.cell? ⟨B, 0, none⟩ = some (.pointer (some ⟨g, 0, none⟩)) ∧ w'.cell? ⟨g, 6, none⟩ = some hv ∧ w'.frozen? ⟨g, 6, none⟩ = false ∧ Blk w' w.heap.size 46 #[.int .i64 judge, .int .i64 num, .int .i64 clock, .int .i64 kind, .string call, .int .i64 version, .string lcall, .int .i64 cat, .int .i64 pow, .int .i64 cl, vj, vl, .string aC, .int .i64 aN, .string bCc, .int .i64 bNn, .int .i64 rJ, .int .i64 rN, .int .i64 hash, .int .i64 prev])) [10] (by kernel_rfl) ?hS4 (fun hHeld => ?_)
    case hS4 => exact ⟨cB, cP, fP, hX7.drew⟩
    refine tl2 (i := 0) ?_; try simp only [Act.put, zq]
    refine tl2 (i := 1) ?_; try simp only [Act.put, zq]
    refine tl1 (i := 2) ?_; try simp only [Act.put, zq]
    refine tl1 (i := 3) ?_; try simp only [Act.put, zq]
    refine tl2 (i := 4) ?_; try simp only [Act.put, zq]
    refine' wpAnyL_take (i := 5) rfl (by kernel_rfl) (by kernel_rfl) (by kernel_rfl) (by kernel_rfl) (by kernel_rfl) (by kernel_rfl) (fun _ _ _ h => h) (yieldsIf_load_blk (by kernel_rfl) _ _ rfl _ _ _ _ rfl (fun w9 hSw => hSw.2.2.2) ?hu4_6 ?hd4_6 ?hi4_6) (by assumption) ?_
    case hu4_6 => assumption
    case hd4_6 => rfl
    case hi4_6 => (first | assumption | kernel_rfl)
    (try simp only [Act.put, zq])
    refine wpAnyL_ready (rs := [6]) (by kernel_rfl) (by simp) ?_
    refine AllReadyL.cons rfl (fun K hK => ?_) AllReadyL.nil
    go_simp
    refine hK.out _ _ ?hS4_7 (fun hHeld => ?_)
    case hS4_7 => ((try dsimp only); exact ⟨(baA.cell (p := ⟨B, 0, none⟩) ltB).trans cB, (baA.cell (p := ⟨g, 6, none⟩) ltg).trans cP, (baA.frozen (p := ⟨g, 6, none⟩) ltg).trans fP, hX7.later baA⟩)
    clear hK K
    (try simp only [Act.put, zq])
    refine wpAnyL_ready (rs := [7]) (by kernel_rfl) (by simp) ?_
    refine AllReadyL.cons rfl (fun K hK => ?_) AllReadyL.nil
    (rw [if_pos (by kernel_rfl)]; refine wp_append_lies _ _ _ _ rfl base 46 i0 _ 20 224 US hi0 hz0 hz1 hz2 rfl (by decide) hv L.history.length (L.history.flatMap Note.enc) rfl (HL7.out.later baA).history ⟨w7.heap.size, 0, none⟩ 1 1 [.int .i64 judge, .int .i64 num, .int .i64 clock, .int .i64 kind, .string call, .int .i64 version, .string lcall, .int .i64 cat, .int .i64 pow, .int .i64 cl, vj, vl, .string aC, .int .i64 aN, .string bCc, .int .i64 bNn, .int .i64 rJ, .int .i64 rN, .int .i64 hash, .int .i64 prev] rfl rfl (World.news_of_block (Blk.new w7 _ _).drew) HONE.out (by decide) hmax hmb (Nat.le_trans hbaseH baA.size) _ rfl ?_; intro g' cap wH hown' hgrow hat hlt; have h6 := HL7.out.later baA; have hBB := HB7.out.later baA; have hXX := hX7.later baA; have ho := Only.of_own h6.history; have cB5 := (hgrow.cell_far ⟨B, 0, none⟩ hBB.lt (ho.ne hBB.tag (by decide))).trans (hBB.cell 0); have cP5 := (hgrow.cell_far ⟨g, 6, none⟩ h6.cells.lt (ho.ne h6.cells.tag (by decide))).trans (h6.cells.cell 6); have fP5 := (hgrow.frozen_far ⟨g, 6, none⟩ h6.cells.lt (ho.ne h6.cells.tag (by decide))).trans (h6.cells.frozen 6); have hX5 := hXX.kept hgrow (fun e => Nat.lt_irrefl _ (HVL.out _ e.symm)))
    refine hK.out _ _ ?hS4_8 (fun hHeld => ?_)
    case hS4_8 => ((try dsimp only); exact ⟨cB5, cP5, fP5, hX5⟩)
    clear hK K
    (try simp only [Act.put, zq])
    refine tl1 (i := 8) ?_; try simp only [Act.put, zq]
    refine tl1 (i := 9) ?_; try simp only [Act.put, zq]
    refine wpAnyL_ready (rs := [10]) (by kernel_rfl) (by simp) ?_
    refine AllReadyL.late rfl (by kernel_rfl) (fun K hK => ?_) AllReadyL.nil
    go_simp
    refine hK.out _ _ ?_
    clear hK K
    (try simp only [Act.put, zq])
    refine wpAnyL_done (by kernel_rfl) ?_ _
    have hloc : ∀ k, (Value.slice (some ⟨g', 0, none⟩) (L.history.length + 1) cap).ownBlock = some k → F k := fun k hk => by
      have e : g' = k := by simpa [Value.ownBlock] using hk
      rw [← e]
      rcases hat with hat | hat
      · exact HL7.out.rows.2.2 _ hat
      · rw [hat]; exact HF.out _ (Nat.le_trans hsH baA.size)
    have hfin := HL7.out.setHist (fun k hk => HF.out k (Nat.le_trans hsH hk)) ⟨⟨judge, num, clock, kind, call, version, ⟨lcall, cat, pow, cl, vj, vl⟩, aC, aN, bCc, bNn, rJ, rN, hash, prev⟩, js, ls⟩ baA hgrow hown' hloc
    have hkF : Kept F w7 (wH.setCell ⟨g, 6, none⟩ (.slice (some ⟨g', 0, none⟩) (L.history.length + 1) cap)) := ((Kept.of_below baA).trans (Kept.of_grown hgrow HL7.out.rows.2.2)).trans (Kept.of_grown (grown_put _ _ _ _) (fun k e => by cases e; exact HL7.out.own.1))
    clear hHeld h6 hBB hXX ho cB5 cP5 fP5 hX5 hgrow hown'
    go_wp2
    go_ret
    exact ⟨rfl, ⟨_, _, _, _, _, _, _, hfin⟩, ((((Kept.of_below HB.out).trans (Kept.of_below hb1)).trans (Kept.of_below hb6)).trans hk7).trans hkF⟩
end Go.Proofs.YtlamogpdkmbeoaaGreatDoor
end PartEffB

section PartEffD
/- What a signature does to the ledger. -/
set_option maxRecDepth 100000
namespace Go.Proofs.YtlamogpdkmbeoaaGreatDoor
open Go.RowKit Go.Lib Go.Shelf Go.Maps

abbrev rfk (x : Note) : NameK := (x.nt.rJ, x.nt.rN)
/-- The ruling that lies in block r. -/
def rulAt (L : Led) (r : Nat) : Option RulB := L.rulings.find? (fun y => y.r == r)
def signed (y : RulB) (n : Int) : Bool := (getM y.judges n).getD false
def sgOk (L : Led) (x : Note) : Bool := match getM L.byName (rfk x) with | some r => (match rulAt L r with | some y => !signed y x.nt.judge | none => false) | none => false
def signAt (r : Nat) (n : Int) (y : RulB) : RulB := if y.r = r then { y with judges := putM y.judges n true } else y
def sgLed (L : Led) (x : Note) : Led := match getM L.byName (rfk x) with | some r => { L with rulings := L.rulings.map (signAt r x.nt.judge) } | none => L
theorem zeroPtr (w : World) : (zeroValue 93).run Tryz.prog w = .ok (.pointer none) w := by kernel_rfl
theorem zeroBool (w : World) : (zeroValue 4).run Tryz.prog w = .ok (.bool false) w := by kernel_rfl
theorem getM_mem {κ ν : Type} [DecidableEq κ] : ∀ {m : List (κ × ν)} {x : κ} {y : ν}, getM m x = some y → (x, y) ∈ m
  | [], _, _, h => by cases h
  | p :: r, x, y, h => by
    unfold getM at h
    split at h
    · rename_i hp
      have : p.2 = y := by injection h
      have e : p = (x, y) := Prod.ext hp this
      rw [e]
      simp
    · exact List.mem_cons_of_mem _ (getM_mem h)

section
variable {F : Nat → Prop} {base : Nat} {w w' : World} {g : Nat} {L : Led} {bI bW bN bC : Nat} {rv pv hv : Value}
/-- One block, one ruling. -/
theorem LedIn.one_rul (h : LedIn F base w g L bI bW bN bC rv pv hv) {x y : RulB} (hx : x ∈ L.rulings) (hy : y ∈ L.rulings) (hj : x.j = y.j) : x = y := by
  have ha : (L.rulings.map (·.j)).Nodup := (List.nodup_cons.1 (List.nodup_cons.1 (List.nodup_cons.1 (List.nodup_cons.1 h.apart).2).2).2).2
  clear h
  revert hx hy
  generalize L.rulings = l at ha
  induction l with
  | nil => intro hx; cases hx
  | cons a l ih =>
    intro hx hy
    rw [List.map_cons, List.nodup_cons] at ha
    rcases List.mem_cons.1 hx with rfl | hx' <;> rcases List.mem_cons.1 hy with rfl | hy'
    · rfl
    · exact absurd (List.mem_map.2 ⟨y, hy', hj.symm⟩) ha.1
    · exact absurd (List.mem_map.2 ⟨x, hx', hj⟩) ha.1
    · exact ih ha.2 hx' hy'
theorem LedIn.one_r (h : LedIn F base w g L bI bW bN bC rv pv hv) {x y : RulB} (hx : x ∈ L.rulings) (hy : y ∈ L.rulings) (hr : x.r = y.r) : x = y := by
  have h1 := h.rul x hx
  have h2 := h.rul y hy
  unfold Blk at h1 h2
  rw [hr, h2] at h1
  have e : y.cells = x.cells := by simpa using h1
  have : y.cells[20]? = x.cells[20]? := by rw [e]
  exact h.one_rul hx hy (by simpa using this.symm)
theorem LedIn.sign {y : RulB} (h : LedIn F base w g L bI bW bN bC rv pv hv) (hy : y ∈ L.rulings) (n : Int) (hg : w.grownBy w' (some y.j)) (hm : MapOf w' Tryz.prog 3 encI' Value.bool y.j (putM y.judges n true)) :
    LedIn F base w' g { L with rulings := L.rulings.map (signAt y.r n) } bI bW bN bC rv pv hv := by
  have hj := h.jud y hy
  have ho : Only w 0 (some y.j) := fun k hk => by cases hk; exact hj.tag
  have ha := h.apart
  simp only [List.nodup_cons, List.mem_cons, not_or, List.mem_map, not_exists, not_and] at ha
  have hr := h.rulings.kept hg (ho.own h.rulings (by decide))
  have er : ∀ z : RulB, (signAt y.r n z).r = z.r := fun z => by unfold signAt; split <;> rfl
  have ej : ∀ z : RulB, (signAt y.r n z).j = z.j := fun z => by unfold signAt; split <;> rfl
  have en : ∀ z : RulB, (signAt y.r n z).note = z.note := fun z => by unfold signAt; split <;> rfl
  refine ⟨h.cells.kept hg (ho.ne h.cells.tag (by decide)), h.issues.kept hg (fun e => ha.1.2.2.2 y hy (by injection e with e; exact e.symm)), h.withdrawn.kept hg (fun e => ha.2.1.2.2 y hy (by injection e with e; exact e.symm)), h.byName.kept hg (fun e => ha.2.2.1.2 y hy (by injection e with e; exact e.symm)), h.conflicts.kept hg (fun e => ha.2.2.2.1 y hy (by injection e with e; exact e.symm)),
    ?_, h.published.kept hg (ho.own h.published (by decide)), h.history.kept hg (ho.own h.history (by decide)), ?_, ?_, ?_, ?_, ?_, h.rows⟩
  · simpa [er, Function.comp_def] using hr
  · intro x hx
    obtain ⟨z, hz, rfl⟩ := List.mem_map.1 hx
    have := (h.rul z hz).kept hg (ho.ne (h.rul z hz).tag (by decide))
    rw [er]
    unfold RulB.cells
    rw [en, ej]
    exact this
  · intro x hx
    obtain ⟨z, hz, rfl⟩ := List.mem_map.1 hx
    by_cases hzr : z.r = y.r
    · have e := h.one_r hz hy hzr
      subst e
      unfold signAt
      rw [if_pos rfl]
      exact hm
    · unfold signAt
      rw [if_neg hzr]
      exact (h.jud z hz).kept hg (fun e => hzr (by injection e with e; rw [h.one_rul hz hy e]))
  · simpa [ej, Function.comp_def] using h.apart
  · intro p hp
    obtain ⟨z, hz, e⟩ := h.names p hp
    exact ⟨_, List.mem_map.2 ⟨z, hz, rfl⟩, by rw [er]; exact e⟩
  · refine ⟨h.own.1, h.own.2.1, h.own.2.2.1, h.own.2.2.2.1, h.own.2.2.2.2.1, fun x hx => ?_⟩
    obtain ⟨z, hz, rfl⟩ := List.mem_map.1 hx
    rw [ej]
    exact h.own.2.2.2.2.2 z hz
end

set_option maxHeartbeats 8000000 in
theorem eff4_any {F : Nat → Prop} {base g : Nat} {L : Led} (x : Note) (B : Nat) (w : World) (h : LedAt F base w g L) (hB : Blk w B 91 #[encP g]) (hBF : ¬ F B) (hF : ∀ k, w.heap.size ≤ k → F k) (hbase : base ≤ w.heap.size)
    (hkj : okI x.nt.judge) (hk1 : okI x.nt.rJ) (hk2 : okI x.nt.rN) :
    Calls Tryz.prog 97 #[encN x, encP B] w fun e w' => e = .returned (.bool (sgOk L x)) ∧ LedAt F base w' g (if sgOk L x then sgLed L x else L) ∧ Kept F w w' := by
  have UN := Tryz.underlying46
  have UNm := Tryz.underlying37
  have UM := Tryz.underlying87
  have UJ := Tryz.underlying137
  obtain ⟨bI, bW, bN, bC, rv, pv, hv, hL⟩ := h
  have HK := Lib.hid (key_name (rfk x) hk1 hk2)
  have HKJ := Lib.hid (key_int x.nt.judge hkj)
  clear hkj hk1 hk2
  obtain ⟨ok, hok⟩ : ∃ ok, ok = sgOk L x := ⟨_, rfl⟩
  rw [← hok]
  have HOK := Lib.hid hok
  clear hok
  obtain ⟨⟨judge, num, clock, kind, call, version, ⟨lcall, cat, pow, cl, vj, vl⟩, aC, aN, bCc, bNn, rJ, rN, hash, prev⟩, js, ls⟩ := x
  dsimp only [encN, Note.enc, Nt.enc, encP, rfk] at *
  obtain ⟨R, hR⟩ : ∃ R, R = getM L.byName (rJ, rN) := ⟨_, rfl⟩
  have HR := Lib.hid hR
  clear hR
  obtain ⟨W, hW⟩ : ∃ W, w.alloc (.cells #[.int .i64 judge, .int .i64 num, .int .i64 clock, .int .i64 kind, .string call, .int .i64 version, .string lcall, .int .i64 cat, .int .i64 pow, .int .i64 cl, vj, vl, .string aC, .int .i64 aN, .string bCc, .int .i64 bNn, .int .i64 rJ, .int .i64 rN, .int .i64 hash, .int .i64 prev] 46) = W := ⟨_, rfl⟩
  have hb0 : Below w.heap.size w W := by rw [← hW]; exact below_alloc0 _
  have hX : Blk W w.heap.size 46 #[.int .i64 judge, .int .i64 num, .int .i64 clock, .int .i64 kind, .string call, .int .i64 version, .string lcall, .int .i64 cat, .int .i64 pow, .int .i64 cl, vj, vl, .string aC, .int .i64 aN, .string bCc, .int .i64 bNn, .int .i64 rJ, .int .i64 rN, .int .i64 hash, .int .i64 prev] := by rw [← hW]; exact Blk.new w _ _
  have hrng : W.rangeAt w.heap.size 16 [.int .i64 rJ, .int .i64 rN] := fun i u hu => by
    rw [hX.cell]
    match i, hu with
    | 0, hu => simpa using hu
    | 1, hu => simpa using hu
    | n + 2, hu => simp at hu
  have x0 : W.cell? ⟨w.heap.size, 0, none⟩ = some (.int .i64 judge) := hX.cell 0
  have HB := Lib.hid hb0
  have HX := Lib.hid hX
  have HRNG := Lib.hid hrng
  have HBL := Lib.hid (hB.later hb0)
  have HL := Lib.hid (hL.later hb0)
  have HF := Lib.hid hF
  clear hX hb0 hL hB hF hrng
  have cB : W.cell? ⟨B, 0, none⟩ = some (.pointer (some ⟨g, 0, none⟩)) := HBL.out.cell 0
  have cN : W.cell? ⟨g, 3, none⟩ = some (.map (some bN)) := HL.out.cells.cell 3
  cases R with
  | some r =>
    obtain ⟨y, hy, hyr⟩ := HL.out.names _ (getM_mem HR.out.symm)
    dsimp only at hyr
    have hfy : rulAt L r = some y := by
      unfold rulAt
      cases hf : L.rulings.find? (fun y => y.r == r) with
      | none => exact absurd (by simp [hyr]) (List.find?_eq_none.1 hf y hy)
      | some z =>
        have hz1 := List.mem_of_find?_eq_some hf
        have hz2 := List.find?_some hf
        rw [HL.out.one_r hz1 hy (by rw [hyr]; simpa using hz2)]
    have HY := Lib.hid hy
    have HYR := Lib.hid hyr
    obtain ⟨s, hs⟩ : ∃ s, s = signed y judge := ⟨_, rfl⟩
    have HS := Lib.hid hs
    have hls : lookV Value.bool (.bool false) false (getM y.judges judge) = .bool s := by
      rw [hs]
      unfold signed
      cases getM y.judges judge <;> rfl
    have HLS := Lib.hid hls
    have hoks : ok = !s := by
      rw [HOK.out]
      unfold sgOk
      dsimp only
      rw [← HR.out]
      dsimp only
      rw [hfy, hs]
    have HLed : Hid (sgLed L ⟨⟨judge, num, clock, kind, call, version, ⟨lcall, cat, pow, cl, vj, vl⟩, aC, aN, bCc, bNn, rJ, rN, hash, prev⟩, js, ls⟩ = { L with rulings := L.rulings.map (signAt r judge) }) := Lib.hid (by unfold sgLed; dsimp only; rw [← HR.out])
    subst hoks
    clear hy hyr hfy hs hls
    go_enter Tryz.func97, Tryz.ntmps97
    go_upto_region 1 with fail
    clear hW
    refine wp_region_held_drew (S := (fun w' => w'.cell? ⟨B, 0, none⟩ = some (.pointer (some ⟨g, 0, none⟩)) ∧ w'.cell? ⟨g, 3, none⟩ = some (.map (some bN)) ∧ w'.rangeAt w.heap.size 16 [.int .i64 rJ, .int .i64 rN] ∧ MapOf w' Tryz.prog 37 encNm encP bN L.byName)) (by kernel_rfl) ?hS1 (fun hHeld => ?_)
    case hS1 => exact ⟨cB, cN, HRNG.out, HL.out.byName.block rfl⟩
    refine tk3 (i := 0) ?_; try simp only [Act.put, zq]
    refine tk3 (i := 1) ?_; try simp only [Act.put, zq]
    refine tk3 (i := 2) ?_; try simp only [Act.put, zq]
    refine tk3 (i := 3) ?_; try simp only [Act.put, zq]
    refine tk3 (i := 4) ?_; try simp only [Act.put, zq]
    refine' wpAnyH_take (i := 5) rfl (by kernel_rfl) (by kernel_rfl) (by kernel_rfl) (fun _ _ _ h => h) (yieldsIf_load_mid (by kernel_rfl) _ _ rfl _ _ rfl _ _ (fun w9 hSw => hSw.2.2.1) ?hu1_6 ?hd1_6 ?hi1_6) (by assumption) ?_
    case hu1_6 => assumption
    case hd1_6 => rfl
    case hi1_6 => (first | assumption | kernel_rfl)
    (try simp only [Act.put, zq])
    refine' wpAnyH_take (i := 6) rfl (by kernel_rfl) (by kernel_rfl) (by kernel_rfl) (fun _ _ _ h => h) (yieldsIf_lookup_of (by kernel_rfl) false _ _ _ rfl 93 keyedName UM _ zeroPtr rfl (fun w9 hSw => hSw.2.2.2) (rJ, rN) rfl HK.out) (by assumption) ?_
    (rw [← HR.out]; dsimp only [lookV])
    (try simp only [Act.put, zq])
    refine tk3 (i := 7) ?_; try simp only [Act.put, zq]
    refine wpAnyH_done (by kernel_rfl) ?_ _
    clear hHeld cB cN
    have x1 : W.drew.cell? ⟨r, 20, none⟩ = some (.map (some y.j)) := by
      have := (HL.out.rul y HY.out).cell 20
      rw [HYR.out] at this
      exact this
    have x2 : W.drew.cell? ⟨w.heap.size, 0, none⟩ = some (.int .i64 judge) := x0
    have hmj := HL.out.jud y HY.out
    go_wp2
    refine wp_region_held_drew (S := (fun w' => w'.cell? ⟨r, 20, none⟩ = some (.map (some y.j)) ∧ w'.cell? ⟨w.heap.size, 0, none⟩ = some (.int .i64 judge) ∧ MapOf w' Tryz.prog 3 encI' Value.bool y.j y.judges)) (by kernel_rfl) ?hS2 (fun hHeld => ?_)
    case hS2 => exact ⟨x1, x2, hmj.block rfl⟩
    refine tk3 (i := 0) ?_; try simp only [Act.put, zq]
    refine tk3 (i := 1) ?_; try simp only [Act.put, zq]
    refine tk3 (i := 2) ?_; try simp only [Act.put, zq]
    refine tk3 (i := 3) ?_; try simp only [Act.put, zq]
    refine tk3 (i := 4) ?_; try simp only [Act.put, zq]
    refine tk3 (i := 5) ?_; try simp only [Act.put, zq]
    refine tk3 (i := 6) ?_; try simp only [Act.put, zq]
    refine tk3 (i := 7) ?_; try simp only [Act.put, zq]
    refine tk3 (i := 8) ?_; try simp only [Act.put, zq]
    refine' wpAnyH_take (i := 9) rfl (by kernel_rfl) (by kernel_rfl) (by kernel_rfl) (fun _ _ _ h => h) (yieldsIf_lookup_of (by kernel_rfl) false _ _ _ rfl 4 keyedInt UJ _ zeroBool rfl (fun w9 hSw => hSw.2.2) judge rfl HKJ.out) (by assumption) ?_
    (rw [HLS.out])
    (try simp only [Act.put, zq])
    refine tk3 (i := 10) ?_; try simp only [Act.put, zq]
    refine wpAnyH_done (by kernel_rfl) ?_ _
    clear hHeld
    cases s with
    | true =>
      go_wp2
      go_ret
      exact ⟨rfl, ⟨_, _, _, _, _, _, _, HL.out.later (below_drewN0 2)⟩, (Kept.of_below HB.out).drewN 2⟩
    | false =>
      have hmj2 : MapOf W.drew.drew.drew Tryz.prog 3 encI' Value.bool y.j y.judges := hmj.block rfl
      go_wp2
      refine wp_region_late (S := (fun w' => w'.cell? ⟨r, 20, none⟩ = some (.map (some y.j)) ∧ w'.cell? ⟨w.heap.size, 0, none⟩ = some (.int .i64 judge))) [6] (by kernel_rfl) ?hS3 (fun hHeld => ?_)
      case hS3 => exact ⟨x1, x2⟩
      refine tl1 (i := 0) ?_; try simp only [Act.put, zq]
      refine tl1 (i := 1) ?_; try simp only [Act.put, zq]
      refine tl1 (i := 2) ?_; try simp only [Act.put, zq]
      refine tl2 (i := 3) ?_; try simp only [Act.put, zq]
      refine tl1 (i := 4) ?_; try simp only [Act.put, zq]
      refine tl2 (i := 5) ?_; try simp only [Act.put, zq]
      refine wpAnyL_ready (rs := [6]) (by kernel_rfl) (by simp) ?_
      refine AllReadyL.late rfl (by kernel_rfl) (fun K hK => ?_) AllReadyL.nil
      (rw [if_pos (by kernel_rfl)]; refine wp_mapUpdate_of _ _ _ _ rfl 4 keyedInt UJ rfl hmj2 judge true rfl rfl HKJ.out ?_; intro w7 hm7 hg7 hs7)
      refine hK.out _ _ ?_
      clear hK K
      (try simp only [Act.put, zq])
      refine wpAnyL_done (by kernel_rfl) ?_ _
      have hgd : W.grownBy w7 (some y.j) := ⟨hg7.os, hg7.tape, hg7.output, hg7.size, hg7.block⟩
      have hfin := HL.out.sign HY.out judge hgd hm7
      have hk7 : Kept F W w7 := Kept.of_grown hgd (fun k e => by cases e; exact HL.out.own.2.2.2.2.2 y HY.out)
      rw [HYR.out] at hfin
      clear hHeld hm7 hg7 hmj2
      go_wp2
      go_ret
      refine ⟨rfl, ?_, (Kept.of_below HB.out).trans hk7⟩
      rw [HLed.out]
      exact ⟨_, _, _, _, _, _, _, hfin⟩
  | none =>
    have hoks : ok = false := by
      rw [HOK.out]
      unfold sgOk
      dsimp only
      rw [← HR.out]
    subst hoks
    go_enter Tryz.func97, Tryz.ntmps97
    go_upto_region 1 with fail
    clear hW
    refine wp_region_held_drew (S := (fun w' => w'.cell? ⟨B, 0, none⟩ = some (.pointer (some ⟨g, 0, none⟩)) ∧ w'.cell? ⟨g, 3, none⟩ = some (.map (some bN)) ∧ w'.rangeAt w.heap.size 16 [.int .i64 rJ, .int .i64 rN] ∧ MapOf w' Tryz.prog 37 encNm encP bN L.byName)) (by kernel_rfl) ?hS4 (fun hHeld => ?_)
    case hS4 => exact ⟨cB, cN, HRNG.out, HL.out.byName.block rfl⟩
    refine tk3 (i := 0) ?_; try simp only [Act.put, zq]
    refine tk3 (i := 1) ?_; try simp only [Act.put, zq]
    refine tk3 (i := 2) ?_; try simp only [Act.put, zq]
    refine tk3 (i := 3) ?_; try simp only [Act.put, zq]
    refine tk3 (i := 4) ?_; try simp only [Act.put, zq]
    refine' wpAnyH_take (i := 5) rfl (by kernel_rfl) (by kernel_rfl) (by kernel_rfl) (fun _ _ _ h => h) (yieldsIf_load_mid (by kernel_rfl) _ _ rfl _ _ rfl _ _ (fun w9 hSw => hSw.2.2.1) ?hu4_6 ?hd4_6 ?hi4_6) (by assumption) ?_
    case hu4_6 => assumption
    case hd4_6 => rfl
    case hi4_6 => (first | assumption | kernel_rfl)
    (try simp only [Act.put, zq])
    refine' wpAnyH_take (i := 6) rfl (by kernel_rfl) (by kernel_rfl) (by kernel_rfl) (fun _ _ _ h => h) (yieldsIf_lookup_of (by kernel_rfl) false _ _ _ rfl 93 keyedName UM _ zeroPtr rfl (fun w9 hSw => hSw.2.2.2) (rJ, rN) rfl HK.out) (by assumption) ?_
    (rw [← HR.out]; dsimp only [lookV])
    (try simp only [Act.put, zq])
    refine tk3 (i := 7) ?_; try simp only [Act.put, zq]
    refine wpAnyH_done (by kernel_rfl) ?_ _
    clear hHeld cB cN
    go_wp2
    refine wp_region_held_drew (S := (fun w' => True)) (by kernel_rfl) ?hS5 (fun hHeld => ?_)
    case hS5 => trivial
    refine tk3 (i := 0) ?_; try simp only [Act.put, zq]
    refine tk3 (i := 1) ?_; try simp only [Act.put, zq]
    refine tk3 (i := 2) ?_; try simp only [Act.put, zq]
    refine tk2 (i := 3) ?_; try simp only [Act.put, zq]
    refine tk2 (i := 4) ?_; try simp only [Act.put, zq]
    refine tk2 (i := 5) ?_; try simp only [Act.put, zq]
    refine tk2 (i := 6) ?_; try simp only [Act.put, zq]
    refine tk2 (i := 7) ?_; try simp only [Act.put, zq]
    refine tk2 (i := 8) ?_; try simp only [Act.put, zq]
    refine tk2 (i := 9) ?_; try simp only [Act.put, zq]
    refine tk3 (i := 10) ?_; try simp only [Act.put, zq]
    refine wpAnyH_done (by kernel_rfl) ?_ _
    clear hHeld
    go_wp2
    go_ret
    exact ⟨rfl, ⟨_, _, _, _, _, _, _, HL.out.later (below_drewN0 2)⟩, (Kept.of_below HB.out).drewN 2⟩
end Go.Proofs.YtlamogpdkmbeoaaGreatDoor
end PartEffD

section PartMapE
/- 'm[k] = v' in a statement of two: the entry is found or laid first, filled last. -/
namespace Go.Proofs.YtlamogpdkmbeoaaGreatDoor
open Go.RowKit Go.Maps Go.MapKept
open Go.ChangeMaps (setBlock modify_eq_set heap_setBlock_same heap_setBlock_other)

section
variable {P : Program} {κ ν : Type} [DecidableEq κ] {w w' : World} {k : TypeId} {kenc : κ → Value} {venc : ν → Value} {b : Nat} {m : List (κ × ν)}
/-- The map has an entry for x with the stamp s; once it is filled, the map is m with it. -/
def EntryOf (w : World) (P : Program) (k : TypeId) (kenc : κ → Value) (venc : ν → Value) (b : Nat) (m : List (κ × ν)) (x : κ) (s : Nat) : Prop :=
  ∃ es clock j e0, w.heap[b]? = some (.map es clock) ∧ Stamped es clock ∧ es.toList[j]? = some e0 ∧ e0.born = s ∧
    (∀ y, (es.toList.set j { e0 with val := venc y }).map (fun e => (e.key, e.val)) = (putM m x y).map (fun p => (kenc p.1, venc p.2))) ∧ (∀ y, ∀ p ∈ putM m x y, ∃ l, keyOf P k (kenc p.1) = some l) ∧ ∀ x y, kenc x = kenc y → x = y
theorem EntryOf.block {x : κ} {s : Nat} (h : EntryOf w P k kenc venc b m x s) (hb : w'.heap[b]? = w.heap[b]?) : EntryOf w' P k kenc venc b m x s := by
  obtain ⟨es, clock, j, e0, h1, h⟩ := h
  exact ⟨es, clock, j, e0, hb.trans h1, h⟩
theorem MapOf.entry {t e : TypeId} (h : MapOf w P k kenc venc b m) (K : Keyed P k) (ht : P.underlying t = some (.map k e)) {z : Value} (hz : ∀ w, (zeroValue e).run P w = .ok z w) (x : κ) (hx : ∃ l, keyOf P k (kenc x) = some l) :
    ∃ (v : Value) (s : Nat) (w' : World), (Instr.mapEntry t (.map (some b)) (kenc x)).run P w = .ok (.tuple #[v, goInt (s : Nat)]) w' ∧ EntryOf w' P k kenc venc b m x s ∧ w.grownBy w' (some b) ∧ w'.heap.size = w.heap.size := by
  obtain ⟨es, clock, h⟩ := h
  obtain ⟨lx, hx⟩ := hx
  have hb := h.at_
  rcases h.find K w x hx with ⟨h1, h2, h3⟩ | ⟨j, e0, p, h1, h2, h3, h4, h5, h6⟩
  · refine ⟨z, clock, setBlock w b (.map (es.push ⟨kenc x, z, clock⟩) (clock + 1)), ?_, ⟨_, _, es.size, ⟨kenc x, z, clock⟩, heap_setBlock_same hb _, stamped_push h.stamped h2, by simp, rfl, ?_, ?_, h.inj⟩, ⟨rfl, rfl, rfl, by simp [setBlock], fun i _ hi => heap_setBlock_other hb _ (fun e => hi (by rw [e]))⟩, by simp [setBlock]⟩
    · simp [Instr.mapEntry, run_underlying ht, MapKept.run_getObj_map hb, K.check w false hx, h1, hz, MapKept.run_setObj_map _ hb, Result.andThen, setBlock]
    · intro y
      rw [putM_none y h3]
      have := h.shape
      simp [List.set_append, this]
    · intro y q hq
      rw [putM_none y h3] at hq
      rcases List.mem_append.1 hq with hq | hq
      · exact h.keys q hq
      · simp at hq
        subst hq
        exact ⟨lx, hx⟩
  · have hj : es[j]? = some e0 := by simpa using h2
    have hlist : (es.modify j (fun e' => { e' with key := kenc x })).toList = es.toList.set j { e0 with key := kenc x } := by rw [Array.toList_modify, modify_eq_set _ _ _ _ h2]
    have hkeyf : ∀ e', es[j]? = some e' → ({ e' with key := kenc x } : MapEntry).key = e'.key := fun e' he' => by rw [hj] at he'; cases he'; exact h4.symm
    have hjl : j < es.toList.length := (List.getElem?_eq_some_iff.1 h2).1
    refine ⟨e0.val, e0.born, setBlock w b (.map (es.modify j (fun e' => { e' with key := kenc x })) clock), ?_, ⟨_, _, j, { e0 with key := kenc x }, heap_setBlock_same hb _, stamped_modify h.stamped _ (fun e' => { e' with key := kenc x }) (fun _ _ => rfl) (fun e' _ he' => hkeyf e' he'), ?_, rfl, ?_, ?_, h.inj⟩, ⟨rfl, rfl, rfl, by simp [setBlock], fun i _ hi => heap_setBlock_other hb _ (fun e => hi (by rw [e]))⟩, by simp [setBlock]⟩
    · simp [Instr.mapEntry, run_underlying ht, MapKept.run_getObj_map hb, K.check w false hx, h1, hj, h4, K.stays w hx, MapKept.run_setObj_map _ hb, Result.andThen, setBlock]
    · rw [hlist, List.getElem?_set_self hjl]
    · intro y
      rw [putM_at y h.apart h3 h5, hlist, List.set_set, List.map_set, List.map_set, h.shape]
    · intro y q hq
      rw [putM_at y h.apart h3 h5] at hq
      rcases List.mem_or_eq_of_mem_set hq with hq | rfl
      · exact h.keys q hq
      · exact ⟨lx, hx⟩
theorem EntryOf.store {x : κ} {s : Nat} (t : TypeId) (h : EntryOf w P k kenc venc b m x s) (y : ν) :
    ∃ w', (Instr.entryStore t (.map (some b)) (goInt s) (venc y)).run P w = .ok () w' ∧ MapOf w' P k kenc venc b (putM m x y) ∧ w.grownBy w' (some b) ∧ w'.heap.size = w.heap.size := by
  obtain ⟨es, clock, j, e0, hb, hst, h2, hs, hsh, hk, hinj⟩ := h
  have hj : es[j]? = some e0 := by simpa using h2
  have hjl : j < es.size := (Array.getElem?_eq_some_iff.1 hj).1
  have hf : es.findIdx? (fun e => (e.born : Int) == (s : Int)) = some j := by
    rw [Array.findIdx?_eq_some_iff_getElem]
    refine ⟨hjl, ?_, fun i hi => ?_⟩
    · have : es[j] = e0 := by rw [Array.getElem?_eq_getElem hjl] at hj; injection hj
      simp [this, hs]
    · have hn := hst.2.1
      have hil : i < es.toList.length := by simp; omega
      have hne : es.toList[i].born ≠ s := fun e => by
        have e1 : (es.toList.map (·.born))[i]? = some s := by
            rw [List.getElem?_map, List.getElem?_eq_getElem hil, Option.map_some, e]
        have e2 : (es.toList.map (·.born))[j]? = some s := by simp [List.getElem?_map, h2, hs]
        have := (List.getElem?_inj (by simpa using hil) hn).1 (e1.trans e2.symm)
        omega
      have : es[i].born ≠ s := by simpa using hne
      simp only [Bool.not_eq_true, beq_eq_false_iff_ne, ne_eq]
      omega
  have hlist : (es.modify j (fun e' => { e' with val := venc y })).toList = es.toList.set j { e0 with val := venc y } := by rw [Array.toList_modify, modify_eq_set _ _ _ _ h2]
  refine ⟨setBlock w b (.map (es.modify j (fun e' => { e' with val := venc y })) clock), ?_, ⟨_, _, heap_setBlock_same hb _, stamped_modify hst _ _ (fun _ _ => rfl) (fun e' _ he' => rfl), ?_, ?_, hinj⟩, ⟨rfl, rfl, rfl, by simp [setBlock], fun i _ hi => heap_setBlock_other hb _ (fun e => hi (by rw [e]))⟩, by simp [setBlock]⟩
  · simp [Instr.entryStore, MapKept.run_getObj_map hb, goInt, asInt, go_sem, hf, MapKept.run_setObj_map _ hb, Result.andThen, setBlock]
  · rw [hlist]; exact hsh y
  · exact hk y

theorem wp_mapEntry_of {w : World} {o : Oper} {a : Act} {K' : Act → World → Prop} {Q : Exit → Act → World → Prop}
    (mm x : Operand) (t : TypeId) (hop : o.op = Op.mapEntry t mm x) (e : TypeId) (K : Keyed P k) (ht : P.underlying t = some (.map k e)) (z : Value) (hz : ∀ w, (zeroValue e).run P w = .ok z w)
    (hm : a.eval mm = .map (some b)) (hown : MapOf w P k kenc venc b m) (key : κ) (hx : a.eval x = kenc key) (hkey : ∃ l, keyOf P k (kenc key) = some l)
    (hK : ∀ (v : Value) (s : Nat) (w' : World), EntryOf w' P k kenc venc b m key s → w.grownBy w' (some b) → w'.heap.size = w.heap.size → K' (a.put o.dst (.tuple #[v, .int .i64 (s : Nat)])) w') : o.wp P a w K' Q := by
  obtain ⟨v, s, w', hrun, r1, r2, r3⟩ := hown.entry K ht hz key hkey
  unfold Oper.wp
  simp [execOp, hop, hm, hx, hrun, Result.andThen]
  exact hK v s w' r1 r2 r3
theorem wp_entryStore_of {w : World} {o : Oper} {a : Act} {K' : Act → World → Prop} {Q : Exit → Act → World → Prop}
    (mm st v : Operand) (t : TypeId) (hop : o.op = Op.entryStore t mm st v) (key : κ) (s : Nat) (hm : a.eval mm = .map (some b)) (hs : a.eval st = .int .i64 (s : Nat)) (hown : EntryOf w P k kenc venc b m key s) (val : ν) (hv : a.eval v = venc val)
    (hK : ∀ w', MapOf w' P k kenc venc b (putM m key val) → w.grownBy w' (some b) → w'.heap.size = w.heap.size → K' (a.put o.dst undef) w') : o.wp P a w K' Q := by
  obtain ⟨w', hrun, r1, r2, r3⟩ := hown.store t val
  have hgi : goInt s = .int .i64 (s : Nat) := rfl
  rw [hgi] at hrun
  unfold Oper.wp
  simp [execOp, hop, hm, hs, hv, hrun, Result.andThen]
  exact hK w' r1 r2 r3
end
end Go.Proofs.YtlamogpdkmbeoaaGreatDoor
end PartMapE

section PartEffA
/- What an overruling does to the ledger. -/
set_option maxRecDepth 100000
namespace Go.Proofs.YtlamogpdkmbeoaaGreatDoor
open Go.RowKit Go.Lib Go.Shelf Go.Maps

def ruleLed (L : Led) (x : Note) (r j : Nat) : Led := { L with rulings := L.rulings ++ [⟨r, j, x, [(x.nt.judge, true)]⟩], byName := putM L.byName (x.nt.judge, x.nt.num) r }
theorem infoPtr : ∃ i, Tryz.prog.info? 93 = some i ∧ i.zero = some (.pointer none) ∧ i.size = 1 ∧ i.bytes = 8 := by
  obtain ⟨i, hi⟩ : ∃ i, Tryz.prog.info? 93 = some i := Option.isSome_iff_exists.1 (by kernel_rfl)
  have h1 : (Tryz.prog.info? 93).bind (·.zero) = some (.pointer none) := by kernel_rfl
  have h2 : (Tryz.prog.info? 93).map (·.size) = some 1 := by kernel_rfl
  have h3 : (Tryz.prog.info? 93).map (·.bytes) = some 8 := by kernel_rfl
  rw [hi] at h1 h2 h3
  exact ⟨i, hi, by simpa using h1, by simpa using h2, by simpa using h3⟩

section
variable {F : Nat → Prop} {base : Nat} {w w' : World} {g : Nat} {L : Led} {bI bW bN bC : Nat} {rv pv hv : Value}
theorem LedIn.addRul {w1 w2 : World} {v' : Value} (h : LedIn F base w g L bI bW bN bC rv pv hv) (x : RulB) (hb : Below w.heap.size w w1) (hg1 : w1.grownBy w2 rv.ownBlock)
    (hown : w2.ownsRow base 93 1 v' (L.rulings.length + 1) (L.rulings.map (fun x => encP x.r) ++ [encP x.r])) (hloc : ∀ k, v'.ownBlock = some k → F k)
    (hxr : Blk w2 x.r 139 x.cells) (hxj : MapOf w2 Tryz.prog 3 encI' Value.bool x.j x.judges) (hxn : w.heap.size ≤ x.j) (hxF : F x.j) :
    LedIn F base (w2.setCell ⟨g, 2, none⟩ v') g { L with rulings := L.rulings ++ [x] } bI bW bN bC v' pv hv := by
  have h1 := h.later hb
  have hp := Only.of_own h1.rulings
  have c2 := h1.cells.kept hg1 (hp.ne h1.cells.tag (by decide))
  have hg2 : w2.grownBy (w2.setCell ⟨g, 2, none⟩ v') (some g) := grown_put _ _ _ _
  have ho := Only.of_blk c2
  have i2 := h1.issues.kept hg1 (hp.ne h1.issues.tag (by decide))
  have w2' := h1.withdrawn.kept hg1 (hp.ne h1.withdrawn.tag (by decide))
  have n2 := h1.byName.kept hg1 (hp.ne h1.byName.tag (by decide))
  have k2 := h1.conflicts.kept hg1 (hp.ne h1.conflicts.tag (by decide))
  have r2 := h1.published.kept hg1 (hp.own h1.published (by decide))
  have y2 := h1.history.kept hg1 (hp.own h1.history (by decide))
  have u2 : ∀ x ∈ L.rulings, Blk w2 x.r 139 x.cells := fun x hx => (h1.rul x hx).kept hg1 (hp.ne (h1.rul x hx).tag (by decide))
  have j2 : ∀ x ∈ L.rulings, MapOf w2 Tryz.prog 3 encI' Value.bool x.j x.judges := fun x hx => (h1.jud x hx).kept hg1 (hp.ne (h1.jud x hx).tag (by decide))
  refine ⟨c2.put 2 _, i2.kept hg2 (ho.ne i2.tag (by decide)), w2'.kept hg2 (ho.ne w2'.tag (by decide)), n2.kept hg2 (ho.ne n2.tag (by decide)), k2.kept hg2 (ho.ne k2.tag (by decide)),
    ?_, r2.kept hg2 (ho.own r2 (by decide)), y2.kept hg2 (ho.own y2 (by decide)), ?_, ?_, ?_, ?_, ?_, hloc, h.rows.2.1, h.rows.2.2⟩
  · have := hown.kept hg2 (ho.own hown (by decide))
    simpa using this
  · intro z hz
    rcases List.mem_append.1 hz with hz | hz
    · exact (u2 z hz).kept hg2 (ho.ne (u2 z hz).tag (by decide))
    · simp at hz
      subst hz
      exact hxr.kept hg2 (ho.ne hxr.tag (by decide))
  · intro z hz
    rcases List.mem_append.1 hz with hz | hz
    · exact (j2 z hz).kept hg2 (ho.ne (j2 z hz).tag (by decide))
    · simp at hz
      subst hz
      exact hxj.kept hg2 (ho.ne hxj.tag (by decide))
  · have ha := h.apart
    have hlt : ∀ k ∈ (bI :: bW :: bN :: bC :: L.rulings.map (·.j)), k < w.heap.size := by
      intro k hk
      simp only [List.mem_cons, List.mem_map] at hk
      rcases hk with rfl | rfl | rfl | rfl | ⟨z, hz, rfl⟩
      · exact h.issues.lt
      · exact h.withdrawn.lt
      · exact h.byName.lt
      · exact h.conflicts.lt
      · exact (h.jud z hz).lt
    have e : (bI :: bW :: bN :: bC :: (L.rulings ++ [x]).map (·.j)) = (bI :: bW :: bN :: bC :: L.rulings.map (·.j)) ++ [x.j] := by simp
    rw [e]
    refine List.nodup_append.2 ⟨ha, by simp, fun a hma b hmb => ?_⟩
    simp at hmb
    subst hmb
    have := hlt a hma
    omega
  · intro p hp
    obtain ⟨z, hz, e⟩ := h.names p hp
    exact ⟨z, List.mem_append_left _ hz, e⟩
  · refine ⟨h.own.1, h.own.2.1, h.own.2.2.1, h.own.2.2.2.1, h.own.2.2.2.2.1, fun z hz => ?_⟩
    rcases List.mem_append.1 hz with hz | hz
    · exact h.own.2.2.2.2.2 z hz
    · simp at hz
      subst hz
      exact hxF
end

set_option maxHeartbeats 8000000 in
theorem eff1_any {F : Nat → Prop} {base g : Nat} {L : Led} (x : Note) (B : Nat) (w : World) (h : LedAt F base w g L) (hB : Blk w B 91 #[encP g]) (hBF : ¬ F B) (hF : ∀ k, w.heap.size ≤ k → F k) (hbase : base ≤ w.heap.size) (hroom : L.rulings.length ≤ 2000)
    (hkj : okI x.nt.judge) (hkn : okI x.nt.num) :
    Calls Tryz.prog 94 #[encN x, encP B] w fun e w' => e = .returned (.bool true) ∧ (∃ r j, LedAt F base w' g (ruleLed L x r j)) ∧ Kept F w w' := by
  obtain ⟨i0, hi0, hz0, hz1, hz2⟩ := infoPtr
  have UN := Tryz.underlying46
  have UM := Tryz.underlying87
  have UJ := Tryz.underlying137
  have US := Tryz.underlying86
  obtain ⟨bI, bW, bN, bC, rv, pv, hv, hL⟩ := h
  have HK := Lib.hid (key_name (x.nt.judge, x.nt.num) hkj hkn)
  have HKJ := Lib.hid (key_int x.nt.judge hkj)
  clear hkj hkn
  unfold ruleLed
  obtain ⟨⟨judge, num, clock, kind, call, version, ⟨lcall, cat, pow, cl, vj, vl⟩, aC, aN, bCc, bNn, rJ, rN, hash, prev⟩, js, ls⟩ := x
  dsimp only [encN, Note.enc, Nt.enc, encP] at *
  obtain ⟨W, hW⟩ : ∃ W, w.alloc (.cells #[.int .i64 judge, .int .i64 num, .int .i64 clock, .int .i64 kind, .string call, .int .i64 version, .string lcall, .int .i64 cat, .int .i64 pow, .int .i64 cl, vj, vl, .string aC, .int .i64 aN, .string bCc, .int .i64 bNn, .int .i64 rJ, .int .i64 rN, .int .i64 hash, .int .i64 prev] 46) = W := ⟨_, rfl⟩
  have hb0 : Below w.heap.size w W := by rw [← hW]; exact below_alloc0 _
  have hX : Blk W w.heap.size 46 #[.int .i64 judge, .int .i64 num, .int .i64 clock, .int .i64 kind, .string call, .int .i64 version, .string lcall, .int .i64 cat, .int .i64 pow, .int .i64 cl, vj, vl, .string aC, .int .i64 aN, .string bCc, .int .i64 bNn, .int .i64 rJ, .int .i64 rN, .int .i64 hash, .int .i64 prev] := by rw [← hW]; exact Blk.new w _ _
  have x0 : W.cell? ⟨w.heap.size, 0, none⟩ = some (.int .i64 judge) := hX.cell 0
  have lX := hX.lt
  have HB := Lib.hid hb0
  have HX := Lib.hid hX
  have HBL := Lib.hid (hB.later hb0)
  have HL := Lib.hid (hL.later hb0)
  have HF := Lib.hid hF
  clear hX hb0 hL hB hF
  have hmm := @run_makeMap Tryz.prog
  go_enter Tryz.func94, Tryz.ntmps94
  have tok : True := trivial
  go_upto_region 2 with (first
    | (have _t := tok; refine wpList_load_blk rfl 46 _ rfl w.heap.size 46 #[.int .i64 judge, .int .i64 num, .int .i64 clock, .int .i64 kind, .string call, .int .i64 version, .string lcall, .int .i64 cat, .int .i64 pow, .int .i64 cl, vj, vl, .string aC, .int .i64 aN, .string bCc, .int .i64 bNn, .int .i64 rJ, .int .i64 rN, .int .i64 hash, .int .i64 prev] _ rfl HX.out UN rfl sizeNote ?_; clear tok)
    | (refine wpList_insert_of rfl _ _ _ _ rfl 4 keyedInt UJ rfl (MapOf.made W encI'_inj) judge true rfl rfl HKJ.out ?_; intro w2 hm2 hg2 hs2; clear hs2))
  have hbm : Below W.heap.size W w2 := (below_alloc0 _).grown hg2 (by simp) (fun k e => by cases e; exact Nat.le_refl _)
  obtain ⟨j, hj⟩ : ∃ j, W.heap.size = j := ⟨_, rfl⟩
  rw [hj] at hm2 ⊢
  have hjF : F j := by rw [← hj]; exact HF.out _ HB.out.size
  obtain ⟨r, hr⟩ : ∃ r, w2.heap.size = r := ⟨_, rfl⟩
  rw [hr]
  obtain ⟨W1, hW1⟩ : ∃ W1, w2.alloc (.cells #[.int .i64 judge, .int .i64 num, .int .i64 clock, .int .i64 kind, .string call, .int .i64 version, .string lcall, .int .i64 cat, .int .i64 pow, .int .i64 cl, vj, vl, .string aC, .int .i64 aN, .string bCc, .int .i64 bNn, .int .i64 rJ, .int .i64 rN, .int .i64 hash, .int .i64 prev, .map (some j)] 139) = W1 := ⟨_, rfl⟩
  rw [hW1]
  have hR1 : Blk W1 r 139 #[.int .i64 judge, .int .i64 num, .int .i64 clock, .int .i64 kind, .string call, .int .i64 version, .string lcall, .int .i64 cat, .int .i64 pow, .int .i64 cl, vj, vl, .string aC, .int .i64 aN, .string bCc, .int .i64 bNn, .int .i64 rJ, .int .i64 rN, .int .i64 hash, .int .i64 prev, .map (some j)] := by rw [← hW1, ← hr]; exact Blk.new w2 _ _
  have hb1 : Below W.heap.size W W1 := by rw [← hW1]; exact hbm.alloc hbm.size _
  have hm1 : MapOf W1 Tryz.prog 3 encI' Value.bool j [(judge, true)] := by rw [← hW1]; exact hm2.kept (World.grownBy_alloc _ _ none) (by simp)
  have hX1 := HX.out.later hb1
  have hB1 := HBL.out.later hb1
  have hL1 := HL.out.later hb1
  have cB : W1.cell? ⟨B, 0, none⟩ = some (.pointer (some ⟨g, 0, none⟩)) := hB1.cell 0
  have cN : W1.cell? ⟨g, 3, none⟩ = some (.map (some bN)) := hL1.cells.cell 3
  have cR : W1.cell? ⟨g, 2, none⟩ = some rv := hL1.cells.cell 2
  have fR : W1.frozen? ⟨g, 2, none⟩ = false := hL1.cells.frozen 2
  have lB := hB1.lt
  have lg := hL1.cells.lt
  have hj1 : W.heap.size ≤ j := by omega
  have HL1 := Lib.hid hL1
  have HB1 := Lib.hid hB1
  have HM1 := Lib.hid hm1
  have HR1 := Lib.hid hR1
  have hn1 := fun W => nameOf_any ⟨judge, num, clock, kind, call, version, ⟨lcall, cat, pow, cl, vj, vl⟩, aC, aN, bCc, bNn, rJ, rN, hash, prev⟩ W
  have hmax : L.rulings.length + 1 ≤ maxLen := by unfold maxLen; omega
  have hs1 := hb1.size
  have hbase1 : base ≤ W1.heap.size := by have := HB.out.size; omega
  clear hL1 hB1 hW1 hW hm2 hg2 hbm hr hmm hm1 hR1 x0 hj
  have hSk : ∀ (w3 : World), Below W1.heap.size W1 w3 → w3.cell? ⟨B, 0, none⟩ = some (.pointer (some ⟨g, 0, none⟩)) ∧ w3.cell? ⟨g, 3, none⟩ = some (.map (some bN)) ∧ w3.cell? ⟨g, 2, none⟩ = some rv ∧ w3.frozen? ⟨g, 2, none⟩ = false ∧ Blk w3 w.heap.size 46 #[.int .i64 judge, .int .i64 num, .int .i64 clock, .int .i64 kind, .string call, .int .i64 version, .string lcall, .int .i64 cat, .int .i64 pow, .int .i64 cl, vj, vl, .string aC, .int .i64 aN, .string bCc, .int .i64 bNn, .int .i64 rJ, .int .i64 rN, .int .i64 hash, .int .i64 prev] := fun w3 hb =>
    ⟨(hb.cell (p := ⟨B, 0, none⟩) lB).trans cB, (hb.cell (p := ⟨g, 3, none⟩) lg).trans cN, (hb.cell (p := ⟨g, 2, none⟩) lg).trans cR, (hb.frozen (p := ⟨g, 2, none⟩) lg).trans fR, hX1.later hb⟩
  have HSK := Lib.hid hSk
  clear hSk
  refine wp_region_late (S := (fun w' => w'.cell? ⟨B, 0, none⟩ = some (.pointer (some ⟨g, 0, none⟩)) ∧ w'.cell? ⟨g, 3, none⟩ = some (.map (some bN)) ∧ w'.cell? ⟨g, 2, none⟩ = some rv ∧ w'.frozen? ⟨g, 2, none⟩ = false ∧ Blk w' w.heap.size 46 #[.int .i64 judge, .int .i64 num, .int .i64 clock, .int .i64 kind, .string call, .int .i64 version, .string lcall, .int .i64 cat, .int .i64 pow, .int .i64 cl, vj, vl, .string aC, .int .i64 aN, .string bCc, .int .i64 bNn, .int .i64 rJ, .int .i64 rN, .int .i64 hash, .int .i64 prev])) [17, 18, 20] (by kernel_rfl) ?hS1 (fun hHeld => ?_)
  case hS1 => exact ⟨cB, cN, cR, fR, hX1.drew⟩
  refine tl2 (i := 0) ?_; try simp only [Act.put, zq]
  refine tl2 (i := 1) ?_; try simp only [Act.put, zq]
  refine tl1 (i := 2) ?_; try simp only [Act.put, zq]
  refine tl1 (i := 3) ?_; try simp only [Act.put, zq]
  refine tl2 (i := 4) ?_; try simp only [Act.put, zq]
  refine' wpAnyL_take (i := 5) rfl (by kernel_rfl) (by kernel_rfl) (by kernel_rfl) (by kernel_rfl) (by kernel_rfl) (by kernel_rfl) (fun _ _ _ h => h) (yieldsIf_load_blk (by kernel_rfl) _ _ rfl _ _ _ _ rfl (fun w9 hSw => hSw.2.2.2.2) ?hu1_6 ?hd1_6 ?hi1_6) (by assumption) ?_
  case hu1_6 => assumption
  case hd1_6 => rfl
  case hi1_6 => (first | assumption | kernel_rfl)
  (try simp only [Act.put, zq])
  refine tl2 (i := 7) ?_; try simp only [Act.put, zq]
  refine tl1 (i := 8) ?_; try simp only [Act.put, zq]
  refine tl1 (i := 9) ?_; try simp only [Act.put, zq]
  refine tl2 (i := 10) ?_; try simp only [Act.put, zq]
  refine tl1 (i := 11) ?_; try simp only [Act.put, zq]
  refine tl1 (i := 14) ?_; try simp only [Act.put, zq]
  refine wpAnyL_ready (rs := [6, 12]) (by kernel_rfl) (by simp) ?_
  refine AllReadyL.cons rfl (fun K hK => ?_) ?_
  · skip
    go_simp
    (go_at_call 54; ((with_reducible refine (hn1 _).mono ?_); rintro e w4 ⟨rfl, hg4⟩); have hb4 : Below W1.heap.size W1 w4 := (by first | exact hb5.trans (hg4.below.mono hb5.size) | exact (Below.refl _ W1).drew.trans hg4.below); (try have hnb := hnb.later hg4.below); have hbc := hb4)
    go_wp2_with fail
    refine hK.out _ _ ?hS1_13 (fun hHeld => ?_)
    case hS1_13 => ((try dsimp only); exact HSK.out _ hb4)
    clear hK K
    (try simp only [Act.put, zq])
    refine wpAnyL_ready (rs := [12]) (by kernel_rfl) (by simp) ?_
    refine AllReadyL.cons rfl (fun K hK => ?_) AllReadyL.nil
    go_simp
    (first | (have hb5 := hb4.alloc hb4.size (.cells #[.pointer (some ⟨r, 0, none⟩)] 93); have hnb := Blk.new w4 93 #[encP r]; have hbc := hb5) | (have hb5 := below_ad (w := W1) (.cells #[.pointer (some ⟨r, 0, none⟩)] 93); have hnb := (Blk.new W1 93 #[encP r]).drew; have hbc := hb5))
    refine hK.out _ _ ?hS1_14 (fun hHeld => ?_)
    case hS1_14 => ((try dsimp only); exact HSK.out _ hb5)
    clear hK K
    (try simp only [Act.put, zq])
    refine wpAnyL_ready (rs := [13]) (by kernel_rfl) (by simp) ?_
    refine AllReadyL.cons rfl (fun K hK => ?_) AllReadyL.nil
    (rw [if_pos (by kernel_rfl)]; refine wp_append_lies _ _ _ _ rfl base 93 i0 _ 1 8 US hi0 hz0 hz1 hz2 rfl (by decide) rv L.rulings.length (L.rulings.map (fun x => encP x.r)) rfl (HL1.out.later hbc).rulings _ 1 1 [encP r] rfl rfl (World.news_of_block hnb) (by simp [Value.oneCell']) (by decide) hmax (by omega) (Nat.le_trans hbase1 hbc.size) _ rfl ?_; intro g' cap w5 hown' hgrow hat hlt; have h6 := HL1.out.later hbc; have hB6 := HB1.out.later hbc; have hX6 := hX1.later hbc; have ho := Only.of_own h6.rulings; have cB5 := (hgrow.cell_far ⟨B, 0, none⟩ hB6.lt (ho.ne hB6.tag (by decide))).trans (hB6.cell 0); have cN5 := (hgrow.cell_far ⟨g, 3, none⟩ h6.cells.lt (ho.ne h6.cells.tag (by decide))).trans (h6.cells.cell 3); have cR5 := (hgrow.cell_far ⟨g, 2, none⟩ h6.cells.lt (ho.ne h6.cells.tag (by decide))).trans (h6.cells.cell 2); have fR5 := (hgrow.frozen_far ⟨g, 2, none⟩ h6.cells.lt (ho.ne h6.cells.tag (by decide))).trans (h6.cells.frozen 2); have hX5 := hX6.kept hgrow (ho.ne hX6.tag (by decide)); have hloc : (∀ k, (Value.slice (some ⟨g', 0, none⟩) (L.rulings.length + 1) cap).ownBlock = some k → F k) := (fun k hk => by have e : g' = k := (by simpa [Value.ownBlock] using hk); rw [← e]; rcases hat with hat | hat; exact HL1.out.rows.1 _ hat; rw [hat]; exact HF.out _ (Nat.le_trans (Nat.le_trans HB.out.size hs1) hbc.size)); have hR6 := HR1.out.later hbc; have hM6 := HM1.out.kept (row := none) ⟨hbc.os, hbc.tape, hbc.output, hbc.size, fun i hi _ => hbc.block i hi⟩ (by simp); have hfin1 := HL.out.addRul ⟨r, j, ⟨⟨judge, num, clock, kind, call, version, ⟨lcall, cat, pow, cl, vj, vl⟩, aC, aN, bCc, bNn, rJ, rN, hash, prev⟩, js, ls⟩, [(judge, true)]⟩ (hb1.trans (hbc.mono hb1.size)) hgrow hown' hloc (hR6.kept hgrow (ho.ne hR6.tag (by decide))) (hM6.kept hgrow (ho.ne hM6.tag (by decide))) hj1 hjF; have hkA := (Kept.of_below (F := F) hbc).trans (Kept.of_grown hgrow HL1.out.rows.1); clear hown' hloc hR6 hM6 ho hX6 hB6 h6 hgrow)
    refine hK.out _ _ ?hS1_15 (fun hHeld => ?_)
    case hS1_15 => ((try dsimp only); exact ⟨cB5, cN5, cR5, fR5, hX5⟩)
    clear hK K
    (try simp only [Act.put, zq])
    refine tl1 (i := 15) ?_; try simp only [Act.put, zq]
    refine tl1 (i := 16) ?_; try simp only [Act.put, zq]
    refine wpAnyL_ready (rs := [17]) (by kernel_rfl) (by simp) ?_
    refine AllReadyL.late rfl (by kernel_rfl) (fun K hK => ?_) AllReadyL.nil
    go_simp
    refine hK.out _ _ ?_
    clear hK K
    (try simp only [Act.put, zq])
    refine wpAnyL_ready (rs := [18]) (by kernel_rfl) (by simp) ?_
    refine AllReadyL.late rfl (by kernel_rfl) (fun K hK => ?_) AllReadyL.nil
    (rw [if_pos (by kernel_rfl)]; refine wp_mapEntry_of _ _ _ rfl 93 keyedName UM _ zeroPtr rfl hfin1.byName (judge, num) rfl HK.out ?_; intro v0 s7 w7 he7 hg7 hs7)
    refine hK.out _ _ ?_
    clear hK K
    (try simp only [Act.put, zq])
    refine wpAnyL_pureL (i := 19) (v := ?v1_20) rfl (by kernel_rfl) (by kernel_rfl) (by kernel_rfl) (by kernel_rfl) (by kernel_rfl) (fun _ _ _ h => h) (Or.inl ⟨by kernel_rfl, ?hy1_20⟩) ?_
    case hy1_20 => ((intro w hSw; (try dsimp only at hSw); go_simp) <;> with_reducible rfl)
    (try simp only [Act.put, zq])
    refine wpAnyL_ready (rs := [20]) (by kernel_rfl) (by simp) ?_
    refine AllReadyL.late rfl (by kernel_rfl) (fun K hK => ?_) AllReadyL.nil
    (rw [if_pos (by kernel_rfl)]; refine wp_entryStore_of _ _ _ _ rfl (judge, num) s7 rfl rfl he7 r rfl ?_; intro w8 hm8 hg8 hs8)
    refine hK.out _ _ ?_
    clear hK K
    (try simp only [Act.put, zq])
    refine wpAnyL_done (by kernel_rfl) ?_ _
    have hfin2 := hfin1.setByName (hg7.trans hg8) hm8 (fun p hp => by
      rcases mem_putM hp with rfl | hp
      · exact ⟨⟨r, j, ⟨⟨judge, num, clock, kind, call, version, ⟨lcall, cat, pow, cl, vj, vl⟩, aC, aN, bCc, bNn, rJ, rN, hash, prev⟩, js, ls⟩, [(judge, true)]⟩, List.mem_append_right _ (List.mem_singleton.2 rfl), rfl⟩
      · obtain ⟨z, hz, e⟩ := HL.out.names p hp
        exact ⟨z, List.mem_append_left _ hz, e⟩)
    have hkB := ((hkA.trans (Kept.of_grown (grown_put w5 g 2 (.slice (some ⟨g', 0, none⟩) (L.rulings.length + 1) cap)) (fun k e => by cases e; exact HL1.out.own.1))).trans (Kept.of_grown hg7 (fun k e => by cases e; exact HL1.out.own.2.2.2.1))).trans (Kept.of_grown hg8 (fun k e => by cases e; exact HL1.out.own.2.2.2.1))
    clear hHeld hg7 hg8 hm8 he7 hfin1 hkA cB5 cN5 cR5 fR5 hX5
    go_wp2
    go_ret
    exact ⟨rfl, ⟨r, j, _, _, _, _, _, _, _, hfin2⟩, ((Kept.of_below HB.out).trans (Kept.of_below hb1)).trans hkB⟩
  refine AllReadyL.cons rfl (fun K hK => ?_) ?_
  · skip
    go_simp
    (first | (have hb5 := hb4.alloc hb4.size (.cells #[.pointer (some ⟨r, 0, none⟩)] 93); have hnb := Blk.new w4 93 #[encP r]; have hbc := hb5) | (have hb5 := below_ad (w := W1) (.cells #[.pointer (some ⟨r, 0, none⟩)] 93); have hnb := (Blk.new W1 93 #[encP r]).drew; have hbc := hb5))
    refine hK.out _ _ ?hS1_22 (fun hHeld => ?_)
    case hS1_22 => ((try dsimp only); exact HSK.out _ hb5)
    clear hK K
    (try simp only [Act.put, zq])
    refine wpAnyL_ready (rs := [6]) (by kernel_rfl) (by simp) ?_
    refine AllReadyL.cons rfl (fun K hK => ?_) AllReadyL.nil
    go_simp
    (go_at_call 54; ((with_reducible refine (hn1 _).mono ?_); rintro e w4 ⟨rfl, hg4⟩); have hb4 : Below W1.heap.size W1 w4 := (by first | exact hb5.trans (hg4.below.mono hb5.size) | exact (Below.refl _ W1).drew.trans hg4.below); (try have hnb := hnb.later hg4.below); have hbc := hb4)
    go_wp2_with fail
    refine hK.out _ _ ?hS1_23 (fun hHeld => ?_)
    case hS1_23 => ((try dsimp only); exact HSK.out _ hb4)
    clear hK K
    (try simp only [Act.put, zq])
    refine wpAnyL_ready (rs := [13]) (by kernel_rfl) (by simp) ?_
    refine AllReadyL.cons rfl (fun K hK => ?_) AllReadyL.nil
    (rw [if_pos (by kernel_rfl)]; refine wp_append_lies _ _ _ _ rfl base 93 i0 _ 1 8 US hi0 hz0 hz1 hz2 rfl (by decide) rv L.rulings.length (L.rulings.map (fun x => encP x.r)) rfl (HL1.out.later hbc).rulings _ 1 1 [encP r] rfl rfl (World.news_of_block hnb) (by simp [Value.oneCell']) (by decide) hmax (by omega) (Nat.le_trans hbase1 hbc.size) _ rfl ?_; intro g' cap w5 hown' hgrow hat hlt; have h6 := HL1.out.later hbc; have hB6 := HB1.out.later hbc; have hX6 := hX1.later hbc; have ho := Only.of_own h6.rulings; have cB5 := (hgrow.cell_far ⟨B, 0, none⟩ hB6.lt (ho.ne hB6.tag (by decide))).trans (hB6.cell 0); have cN5 := (hgrow.cell_far ⟨g, 3, none⟩ h6.cells.lt (ho.ne h6.cells.tag (by decide))).trans (h6.cells.cell 3); have cR5 := (hgrow.cell_far ⟨g, 2, none⟩ h6.cells.lt (ho.ne h6.cells.tag (by decide))).trans (h6.cells.cell 2); have fR5 := (hgrow.frozen_far ⟨g, 2, none⟩ h6.cells.lt (ho.ne h6.cells.tag (by decide))).trans (h6.cells.frozen 2); have hX5 := hX6.kept hgrow (ho.ne hX6.tag (by decide)); have hloc : (∀ k, (Value.slice (some ⟨g', 0, none⟩) (L.rulings.length + 1) cap).ownBlock = some k → F k) := (fun k hk => by have e : g' = k := (by simpa [Value.ownBlock] using hk); rw [← e]; rcases hat with hat | hat; exact HL1.out.rows.1 _ hat; rw [hat]; exact HF.out _ (Nat.le_trans (Nat.le_trans HB.out.size hs1) hbc.size)); have hR6 := HR1.out.later hbc; have hM6 := HM1.out.kept (row := none) ⟨hbc.os, hbc.tape, hbc.output, hbc.size, fun i hi _ => hbc.block i hi⟩ (by simp); have hfin1 := HL.out.addRul ⟨r, j, ⟨⟨judge, num, clock, kind, call, version, ⟨lcall, cat, pow, cl, vj, vl⟩, aC, aN, bCc, bNn, rJ, rN, hash, prev⟩, js, ls⟩, [(judge, true)]⟩ (hb1.trans (hbc.mono hb1.size)) hgrow hown' hloc (hR6.kept hgrow (ho.ne hR6.tag (by decide))) (hM6.kept hgrow (ho.ne hM6.tag (by decide))) hj1 hjF; have hkA := (Kept.of_below (F := F) hbc).trans (Kept.of_grown hgrow HL1.out.rows.1); clear hown' hloc hR6 hM6 ho hX6 hB6 h6 hgrow)
    refine hK.out _ _ ?hS1_24 (fun hHeld => ?_)
    case hS1_24 => ((try dsimp only); exact ⟨cB5, cN5, cR5, fR5, hX5⟩)
    clear hK K
    (try simp only [Act.put, zq])
    refine tl1 (i := 15) ?_; try simp only [Act.put, zq]
    refine tl1 (i := 16) ?_; try simp only [Act.put, zq]
    refine wpAnyL_ready (rs := [17]) (by kernel_rfl) (by simp) ?_
    refine AllReadyL.late rfl (by kernel_rfl) (fun K hK => ?_) AllReadyL.nil
    go_simp
    refine hK.out _ _ ?_
    clear hK K
    (try simp only [Act.put, zq])
    refine wpAnyL_ready (rs := [18]) (by kernel_rfl) (by simp) ?_
    refine AllReadyL.late rfl (by kernel_rfl) (fun K hK => ?_) AllReadyL.nil
    (rw [if_pos (by kernel_rfl)]; refine wp_mapEntry_of _ _ _ rfl 93 keyedName UM _ zeroPtr rfl hfin1.byName (judge, num) rfl HK.out ?_; intro v0 s7 w7 he7 hg7 hs7)
    refine hK.out _ _ ?_
    clear hK K
    (try simp only [Act.put, zq])
    refine wpAnyL_pureL (i := 19) (v := ?v1_29) rfl (by kernel_rfl) (by kernel_rfl) (by kernel_rfl) (by kernel_rfl) (by kernel_rfl) (fun _ _ _ h => h) (Or.inl ⟨by kernel_rfl, ?hy1_29⟩) ?_
    case hy1_29 => ((intro w hSw; (try dsimp only at hSw); go_simp) <;> with_reducible rfl)
    (try simp only [Act.put, zq])
    refine wpAnyL_ready (rs := [20]) (by kernel_rfl) (by simp) ?_
    refine AllReadyL.late rfl (by kernel_rfl) (fun K hK => ?_) AllReadyL.nil
    (rw [if_pos (by kernel_rfl)]; refine wp_entryStore_of _ _ _ _ rfl (judge, num) s7 rfl rfl he7 r rfl ?_; intro w8 hm8 hg8 hs8)
    refine hK.out _ _ ?_
    clear hK K
    (try simp only [Act.put, zq])
    refine wpAnyL_done (by kernel_rfl) ?_ _
    have hfin2 := hfin1.setByName (hg7.trans hg8) hm8 (fun p hp => by
      rcases mem_putM hp with rfl | hp
      · exact ⟨⟨r, j, ⟨⟨judge, num, clock, kind, call, version, ⟨lcall, cat, pow, cl, vj, vl⟩, aC, aN, bCc, bNn, rJ, rN, hash, prev⟩, js, ls⟩, [(judge, true)]⟩, List.mem_append_right _ (List.mem_singleton.2 rfl), rfl⟩
      · obtain ⟨z, hz, e⟩ := HL.out.names p hp
        exact ⟨z, List.mem_append_left _ hz, e⟩)
    have hkB := ((hkA.trans (Kept.of_grown (grown_put w5 g 2 (.slice (some ⟨g', 0, none⟩) (L.rulings.length + 1) cap)) (fun k e => by cases e; exact HL1.out.own.1))).trans (Kept.of_grown hg7 (fun k e => by cases e; exact HL1.out.own.2.2.2.1))).trans (Kept.of_grown hg8 (fun k e => by cases e; exact HL1.out.own.2.2.2.1))
    clear hHeld hg7 hg8 hm8 he7 hfin1 hkA cB5 cN5 cR5 fR5 hX5
    go_wp2
    go_ret
    exact ⟨rfl, ⟨r, j, _, _, _, _, _, _, _, hfin2⟩, ((Kept.of_below HB.out).trans (Kept.of_below hb1)).trans hkB⟩
  exact AllReadyL.nil
end Go.Proofs.YtlamogpdkmbeoaaGreatDoor
end PartEffA

section PartEffC
/- What a withdrawal does to the ledger. -/
set_option maxRecDepth 100000
namespace Go.Proofs.YtlamogpdkmbeoaaGreatDoor
open Go.RowKit Go.Lib Go.Shelf Go.Maps

def wdOk (L : Led) (x : Note) : Bool := (getM L.issues (isk x)).isSome
def wdVer (L : Led) (x : Note) : Int := max ((getM L.withdrawn x.nt.call).getD 0) x.nt.version
def wdLed (L : Led) (x : Note) : Led := { L with withdrawn := putM L.withdrawn x.nt.call (wdVer L x), history := L.history ++ [x] }
theorem zeroInt (w : World) : (zeroValue 3).run Tryz.prog w = .ok (.int .i64 0) w := by kernel_rfl
set_option maxHeartbeats 8000000 in
theorem eff3_any {F : Nat → Prop} {base g : Nat} {L : Led} (x : Note) (B : Nat) (w : World) (h : LedAt F base w g L) (hB : Blk w B 91 #[encP g]) (hBF : ¬ F B) (hF : ∀ k, w.heap.size ≤ k → F k) (hbase : base ≤ w.heap.size) (hroom : L.history.length ≤ 2000)
    (hone : oneN x) (hones : ∀ p ∈ L.issues, oneN p.2) (hks : okS x.nt.call) (hki : okI x.nt.version) :
    Calls Tryz.prog 96 #[encN x, encP B] w fun e w' => e = .returned (.bool (wdOk L x)) ∧ LedAt F base w' g (if wdOk L x then wdLed L x else L) ∧ Kept F w w' := by
  obtain ⟨i0, hi0, hz0, hz1, hz2⟩ := infoNote'
  have UN := Tryz.underlying46
  have US := Tryz.underlying24
  have UI := Tryz.underlying180
  have UM := Tryz.underlying84
  have UW := Tryz.underlying85
  obtain ⟨bI, bW, bN, bC, rv, pv, hv, hL⟩ := h
  have hget : ∀ y, getM L.issues (isk x) = some y → oneN y := fun y hy => by
    have : ∀ (m : List (MarkK × Note)) z, getM m z = some y → ∃ p ∈ m, p.2 = y := by
      intro m z
      induction m with
      | nil => intro h; cases h
      | cons p r ih =>
        unfold getM
        intro h
        split at h
        · exact ⟨p, by simp, by injection h⟩
        · obtain ⟨q, hq, e⟩ := ih h
          exact ⟨q, by simp [hq], e⟩
    obtain ⟨p, hp, e⟩ := this _ _ hy
    rw [← e]
    exact hones p hp
  have HK := Lib.hid (key_issue (isk x) hks hki)
  have HKW := Lib.hid (key_str x.nt.call hks)
  have HONE := Lib.hid (ones_of hone)
  unfold wdOk wdLed wdVer
  clear hones hks hki hone
  obtain ⟨⟨judge, num, clock, kind, call, version, ⟨lcall, cat, pow, cl, vj, vl⟩, aC, aN, bCc, bNn, rJ, rN, hash, prev⟩, js, ls⟩ := x
  dsimp only [encN, Note.enc, Nt.enc, encP, isk] at *
  obtain ⟨R, hR⟩ : ∃ R, R = getM L.issues (call, version) := ⟨_, rfl⟩
  rw [← hR] at hget ⊢
  have HR := Lib.hid hR
  clear hR
  obtain ⟨W, hW⟩ : ∃ W, w.alloc (.cells #[.int .i64 judge, .int .i64 num, .int .i64 clock, .int .i64 kind, .string call, .int .i64 version, .string lcall, .int .i64 cat, .int .i64 pow, .int .i64 cl, vj, vl, .string aC, .int .i64 aN, .string bCc, .int .i64 bNn, .int .i64 rJ, .int .i64 rN, .int .i64 hash, .int .i64 prev] 46) = W := ⟨_, rfl⟩
  have hb0 : Below w.heap.size w W := by rw [← hW]; exact below_alloc0 _
  have hX : Blk W w.heap.size 46 #[.int .i64 judge, .int .i64 num, .int .i64 clock, .int .i64 kind, .string call, .int .i64 version, .string lcall, .int .i64 cat, .int .i64 pow, .int .i64 cl, vj, vl, .string aC, .int .i64 aN, .string bCc, .int .i64 bNn, .int .i64 rJ, .int .i64 rN, .int .i64 hash, .int .i64 prev] := by rw [← hW]; exact Blk.new w _ _
  have hsW : W.heap.size = w.heap.size + 1 := by rw [← hW]; simp
  have x4 : W.cell? ⟨w.heap.size, 4, none⟩ = some (.string call) := hX.cell 4
  have x5 : W.cell? ⟨w.heap.size, 5, none⟩ = some (.int .i64 version) := hX.cell 5
  have HB := Lib.hid hb0
  have HX := Lib.hid hX
  have HBL := Lib.hid (hB.later hb0)
  have HL := Lib.hid (hL.later hb0)
  have HF := Lib.hid hF
  have HVL : Hid (∀ k, hv.ownBlock = some k → k < w.heap.size) := Lib.hid (fun k hk => (hL.history.lt k hk).2)
  clear hX hb0 hL hB hF
  have cB : W.cell? ⟨B, 0, none⟩ = some (.pointer (some ⟨g, 0, none⟩)) := HBL.out.cell 0
  have cI : W.cell? ⟨g, 0, none⟩ = some (.map (some bI)) := HL.out.cells.cell 0
  have lB := HBL.out.lt
  have lg := HL.out.cells.lt
  go_enter Tryz.func96, Tryz.ntmps96
  go_upto_region 1 with fail
  clear hW
  cases R with
  | some y =>
    have hy : y.nt.enc.toArray.all (·.oneCell') = true := hget y rfl
    clear hget
    refine wp_region_late (S := (fun w' => w'.cell? ⟨B, 0, none⟩ = some (.pointer (some ⟨g, 0, none⟩)) ∧ w'.cell? ⟨g, 0, none⟩ = some (.map (some bI)) ∧ w'.cell? ⟨w.heap.size, 4, none⟩ = some (.string call) ∧ w'.cell? ⟨w.heap.size, 5, none⟩ = some (.int .i64 version) ∧ MapOf w' Tryz.prog 180 encMk encN bI L.issues)) [14] (by kernel_rfl) ?hS1 (fun hHeld => ?_)
    case hS1 => exact ⟨cB, cI, x4, x5, (HL.out.later (Below.refl _ _).drew).issues⟩
    refine tl2 (i := 0) ?_; try simp only [Act.put, zq]
    refine tl1 (i := 1) ?_; try simp only [Act.put, zq]
    refine tl1 (i := 2) ?_; try simp only [Act.put, zq]
    refine tl2 (i := 3) ?_; try simp only [Act.put, zq]
    refine tl1 (i := 4) ?_; try simp only [Act.put, zq]
    refine tl2 (i := 5) ?_; try simp only [Act.put, zq]
    refine tl1 (i := 6) ?_; try simp only [Act.put, zq]
    refine tl2 (i := 7) ?_; try simp only [Act.put, zq]
    refine tl1 (i := 8) ?_; try simp only [Act.put, zq]
    refine' wpAnyL_take (i := 9) rfl (by kernel_rfl) (by kernel_rfl) (by kernel_rfl) (by kernel_rfl) (by kernel_rfl) (by kernel_rfl) (fun _ _ _ h => h) (yieldsIf_lookup_of (by kernel_rfl) true _ _ _ rfl 46 keyedIssue UM _ zeroNote rfl (fun w9 hSw => hSw.2.2.2.2) (call, version) rfl HK.out) (by assumption) ?_
    (rw [← HR.out]; dsimp only [lookV])
    (try simp only [Act.put, zq])
    refine tl1 (i := 10) ?_; try simp only [Act.put, zq]
    refine tl1 (i := 11) ?_; try simp only [Act.put, zq]
    refine tl1 (i := 12) ?_; try simp only [Act.put, zq]
    refine wpAnyL_ready (rs := [13]) (by kernel_rfl) (by simp) ?_
    refine AllReadyL.cons rfl (fun K hK => ?_) AllReadyL.nil
    go_simp
    refine hK.out _ _ ?hS1_14 (fun hHeld => ?_)
    case hS1_14 => ((try dsimp only); exact ⟨((below_ad _).cell (p := ⟨B, 0, none⟩) lB).trans cB, ((below_ad _).cell (p := ⟨g, 0, none⟩) lg).trans cI, ((below_ad _).cell (p := ⟨w.heap.size, 4, none⟩) HX.out.lt).trans x4, ((below_ad _).cell (p := ⟨w.heap.size, 5, none⟩) HX.out.lt).trans x5, (HL.out.later (below_ad _)).issues⟩)
    clear hK K
    (try simp only [Act.put, zq])
    refine wpAnyL_ready (rs := [14]) (by kernel_rfl) (by simp) ?_
    refine AllReadyL.late rfl (by kernel_rfl) (fun K hK => ?_) AllReadyL.nil
    (rw [if_pos (by kernel_rfl)]; refine wp_store_blk 46 _ _ rfl (w.heap.size + 1) 46 Nt0.enc.toArray y.nt.enc.toArray rfl rfl (by rw [← hsW]; exact (Blk.new W _ _).drew) (by rfl) sizeNote hy ?_; intro w6 hZ6 hg6 hs6)
    refine hK.out _ _ ?_
    clear hK K
    (try simp only [Act.put, zq])
    refine wpAnyL_pureL (i := 15) (v := ?v1_16) rfl (by kernel_rfl) (by kernel_rfl) (by kernel_rfl) (by kernel_rfl) (by kernel_rfl) (fun _ _ _ h => h) (Or.inl ⟨by kernel_rfl, ?hy1_16⟩) ?_
    case hy1_16 => ((intro w hSw; (try dsimp only at hSw); go_simp) <;> with_reducible rfl)
    (try simp only [Act.put, zq])
    refine wpAnyL_done (by kernel_rfl) ?_ _
    have hb6 : Below W.heap.size W w6 := (below_ad _).grown hg6 (by simp) (fun k e => by cases e; omega)
    clear hHeld hZ6 hg6 hs6
    have hX6 := HX.out.later hb6
    have hB6 := HBL.out.later hb6
    have hL6 := HL.out.later hb6
    clear cB cI lB lg
    have cB : w6.cell? ⟨B, 0, none⟩ = some (.pointer (some ⟨g, 0, none⟩)) := hB6.cell 0
    have cW : w6.cell? ⟨g, 1, none⟩ = some (.map (some bW)) := hL6.cells.cell 1
    have x4 : w6.cell? ⟨w.heap.size, 4, none⟩ = some (.string call) := hX6.cell 4
    have x5 : w6.cell? ⟨w.heap.size, 5, none⟩ = some (.int .i64 version) := hX6.cell 5
    have HL6 := Lib.hid hL6
    have HB6 := Lib.hid hB6
    have hm6 := hL6.withdrawn
    obtain ⟨u, hu⟩ : ∃ u, lookV encI' (.int .i64 0) false (getM L.withdrawn call) = .int .i64 u ∧ u = (getM L.withdrawn call).getD 0 := by
      cases getM L.withdrawn call with
      | none => exact ⟨0, rfl, rfl⟩
      | some z => exact ⟨z, rfl, rfl⟩
    have HU := Lib.hid hu
    clear hL6 hB6 hu
    go_upto_region 4 with fail
    refine wp_region_late (S := (fun w' => w'.cell? ⟨B, 0, none⟩ = some (.pointer (some ⟨g, 0, none⟩)) ∧ w'.cell? ⟨g, 1, none⟩ = some (.map (some bW)) ∧ w'.cell? ⟨w.heap.size, 4, none⟩ = some (.string call) ∧ w'.cell? ⟨w.heap.size, 5, none⟩ = some (.int .i64 version) ∧ MapOf w' Tryz.prog 9 Value.string encI' bW L.withdrawn)) [16] (by kernel_rfl) ?hS2 (fun hHeld => ?_)
    case hS2 => exact ⟨cB, cW, x4, x5, hm6.block rfl⟩
    refine tl2 (i := 0) ?_; try simp only [Act.put, zq]
    refine tl1 (i := 1) ?_; try simp only [Act.put, zq]
    refine tl1 (i := 2) ?_; try simp only [Act.put, zq]
    refine tl2 (i := 3) ?_; try simp only [Act.put, zq]
    refine tl1 (i := 4) ?_; try simp only [Act.put, zq]
    refine tl2 (i := 5) ?_; try simp only [Act.put, zq]
    refine tl2 (i := 6) ?_; try simp only [Act.put, zq]
    refine tl1 (i := 7) ?_; try simp only [Act.put, zq]
    refine tl1 (i := 8) ?_; try simp only [Act.put, zq]
    refine tl2 (i := 9) ?_; try simp only [Act.put, zq]
    refine tl1 (i := 10) ?_; try simp only [Act.put, zq]
    refine tl2 (i := 11) ?_; try simp only [Act.put, zq]
    refine' wpAnyL_take (i := 12) rfl (by kernel_rfl) (by kernel_rfl) (by kernel_rfl) (by kernel_rfl) (by kernel_rfl) (by kernel_rfl) (fun _ _ _ h => h) (yieldsIf_lookup_of (by kernel_rfl) false _ _ _ rfl 3 keyedStr UW _ zeroInt rfl (fun w9 hSw => hSw.2.2.2.2) call rfl HKW.out) (by assumption) ?_
    (rw [HU.out.1])
    (try simp only [Act.put, zq])
    refine tl1 (i := 13) ?_; try simp only [Act.put, zq]
    refine tl2 (i := 14) ?_; try simp only [Act.put, zq]
    refine wpAnyL_ready (rs := [15]) (by kernel_rfl) (by simp) ?_
    refine AllReadyL.cons rfl (fun K hK => ?_) AllReadyL.nil
    go_simp
    refine hK.out _ _ ?hS2_16 (fun hHeld => ?_)
    case hS2_16 => ((try dsimp only); exact ⟨cB, cW, x4, x5, hm6.block rfl⟩)
    clear hK K
    (try simp only [Act.put, zq])
    refine wpAnyL_ready (rs := [16]) (by kernel_rfl) (by simp) ?_
    refine AllReadyL.late rfl (by kernel_rfl) (fun K hK => ?_) AllReadyL.nil
    (rw [if_pos (by kernel_rfl)]; refine wp_mapUpdate_of _ _ _ _ rfl 3 keyedStr UW rfl (HL6.out.later (Below.refl _ _).drew).withdrawn call (max u version) rfl rfl HKW.out ?_; intro w7 hm7 hg7 hs7)
    refine hK.out _ _ ?_
    clear hK K
    (try simp only [Act.put, zq])
    refine wpAnyL_done (by kernel_rfl) ?_ _
    have hgd : w6.grownBy w7 (some bW) := ⟨hg7.os, hg7.tape, hg7.output, hg7.size, hg7.block⟩
    have HL7 := Lib.hid ((HL6.out.later (Below.refl _ _).drew).setWithdrawn hg7 hm7)
    have hX7 := hX6.kept hgd (fun e => by injection e with e; have h1 := hX6.tag; rw [e, HL6.out.withdrawn.tag] at h1; cases h1)
    have HB7 := Lib.hid (HB6.out.kept hgd (fun e => by injection e with e; have h1 := HB6.out.tag; rw [e, HL6.out.withdrawn.tag] at h1; cases h1))
    have hk7 : Kept F w6 w7 := Kept.of_grown hgd (fun k e => by cases e; exact HL6.out.own.2.2.1)
    have hs6 := hb6.size
    have hs7' : w7.heap.size = w6.heap.size := hs7
    have hsH : w.heap.size ≤ w7.heap.size := by omega
    have hbaseH : base ≤ w7.heap.size := by omega
    clear hHeld hm7 hg7 cB cW x4 x5 hm6 hs7 hs7' hs6 hsW
    go_upto_region 5 with fail
    have cB : w7.cell? ⟨B, 0, none⟩ = some (.pointer (some ⟨g, 0, none⟩)) := HB7.out.cell 0
    have cP : w7.cell? ⟨g, 6, none⟩ = some hv := HL7.out.cells.cell 6
    have fP : w7.frozen? ⟨g, 6, none⟩ = false := HL7.out.cells.frozen 6
    have ltB := HB7.out.lt
    have ltg := HL7.out.cells.lt
    have hmax : L.history.length + 1 ≤ maxLen := by unfold maxLen; omega
    have hmb : (L.history.length + 1) * 224 ≤ 140737488355328 := by omega
    have baA := below_ad (w := w7) (.cells #[.int .i64 judge, .int .i64 num, .int .i64 clock, .int .i64 kind, .string call, .int .i64 version, .string lcall, .int .i64 cat, .int .i64 pow, .int .i64 cl, vj, vl, .string aC, .int .i64 aN, .string bCc, .int .i64 bNn, .int .i64 rJ, .int .i64 rN, .int .i64 hash, .int .i64 prev] 46)
    refine wp_region_late (S := (fun w' => w'.cell? ⟨B, 0, none⟩ = some (.pointer (some ⟨g, 0, none⟩)) ∧ w'.cell? ⟨g, 6, none⟩ = some hv ∧ w'.frozen? ⟨g, 6, none⟩ = false ∧ Blk w' w.heap.size 46 #[.int .i64 judge, .int .i64 num, .int .i64 clock, .int .i64 kind, .string call, .int .i64 version, .string lcall, .int .i64 cat, .int .i64 pow, .int .i64 cl, vj, vl, .string aC, .int .i64 aN, .string bCc, .int .i64 bNn, .int .i64 rJ, .int .i64 rN, .int .i64 hash, .int .i64 prev])) [10] (by kernel_rfl) ?hS3 (fun hHeld => ?_)
    case hS3 => exact ⟨cB, cP, fP, hX7.drew⟩
    refine tl2 (i := 0) ?_; try simp only [Act.put, zq]
    refine tl2 (i := 1) ?_; try simp only [Act.put, zq]
    refine tl1 (i := 2) ?_; try simp only [Act.put, zq]
    refine tl1 (i := 3) ?_; try simp only [Act.put, zq]
    refine tl2 (i := 4) ?_; try simp only [Act.put, zq]
    refine' wpAnyL_take (i := 5) rfl (by kernel_rfl) (by kernel_rfl) (by kernel_rfl) (by kernel_rfl) (by kernel_rfl) (by kernel_rfl) (fun _ _ _ h => h) (yieldsIf_load_blk (by kernel_rfl) _ _ rfl _ _ _ _ rfl (fun w9 hSw => hSw.2.2.2) ?hu3_6 ?hd3_6 ?hi3_6) (by assumption) ?_
    case hu3_6 => assumption
    case hd3_6 => rfl
    case hi3_6 => (first | assumption | kernel_rfl)
    (try simp only [Act.put, zq])
    refine wpAnyL_ready (rs := [6]) (by kernel_rfl) (by simp) ?_
    refine AllReadyL.cons rfl (fun K hK => ?_) AllReadyL.nil
    go_simp
    refine hK.out _ _ ?hS3_7 (fun hHeld => ?_)
    case hS3_7 => ((try dsimp only); exact ⟨(baA.cell (p := ⟨B, 0, none⟩) ltB).trans cB, (baA.cell (p := ⟨g, 6, none⟩) ltg).trans cP, (baA.frozen (p := ⟨g, 6, none⟩) ltg).trans fP, hX7.later baA⟩)
    clear hK K
    (try simp only [Act.put, zq])
    refine wpAnyL_ready (rs := [7]) (by kernel_rfl) (by simp) ?_
    refine AllReadyL.cons rfl (fun K hK => ?_) AllReadyL.nil
    (rw [if_pos (by kernel_rfl)]; refine wp_append_lies _ _ _ _ rfl base 46 i0 _ 20 224 US hi0 hz0 hz1 hz2 rfl (by decide) hv L.history.length (L.history.flatMap Note.enc) rfl (HL7.out.later baA).history ⟨w7.heap.size, 0, none⟩ 1 1 [.int .i64 judge, .int .i64 num, .int .i64 clock, .int .i64 kind, .string call, .int .i64 version, .string lcall, .int .i64 cat, .int .i64 pow, .int .i64 cl, vj, vl, .string aC, .int .i64 aN, .string bCc, .int .i64 bNn, .int .i64 rJ, .int .i64 rN, .int .i64 hash, .int .i64 prev] rfl rfl (World.news_of_block (Blk.new w7 _ _).drew) HONE.out (by decide) hmax hmb (Nat.le_trans hbaseH baA.size) _ rfl ?_; intro g' cap wH hown' hgrow hat hlt; have h6 := HL7.out.later baA; have hBB := HB7.out.later baA; have hXX := hX7.later baA; have ho := Only.of_own h6.history; have cB5 := (hgrow.cell_far ⟨B, 0, none⟩ hBB.lt (ho.ne hBB.tag (by decide))).trans (hBB.cell 0); have cP5 := (hgrow.cell_far ⟨g, 6, none⟩ h6.cells.lt (ho.ne h6.cells.tag (by decide))).trans (h6.cells.cell 6); have fP5 := (hgrow.frozen_far ⟨g, 6, none⟩ h6.cells.lt (ho.ne h6.cells.tag (by decide))).trans (h6.cells.frozen 6); have hX5 := hXX.kept hgrow (fun e => Nat.lt_irrefl _ (HVL.out _ e.symm)))
    refine hK.out _ _ ?hS3_8 (fun hHeld => ?_)
    case hS3_8 => ((try dsimp only); exact ⟨cB5, cP5, fP5, hX5⟩)
    clear hK K
    (try simp only [Act.put, zq])
    refine tl1 (i := 8) ?_; try simp only [Act.put, zq]
    refine tl1 (i := 9) ?_; try simp only [Act.put, zq]
    refine wpAnyL_ready (rs := [10]) (by kernel_rfl) (by simp) ?_
    refine AllReadyL.late rfl (by kernel_rfl) (fun K hK => ?_) AllReadyL.nil
    go_simp
    refine hK.out _ _ ?_
    clear hK K
    (try simp only [Act.put, zq])
    refine wpAnyL_done (by kernel_rfl) ?_ _
    have hloc : ∀ k, (Value.slice (some ⟨g', 0, none⟩) (L.history.length + 1) cap).ownBlock = some k → F k := fun k hk => by
      have e : g' = k := by simpa [Value.ownBlock] using hk
      rw [← e]
      rcases hat with hat | hat
      · exact HL7.out.rows.2.2 _ hat
      · rw [hat]; exact HF.out _ (Nat.le_trans hsH baA.size)
    have hfin := HL7.out.setHist (fun k hk => HF.out k (Nat.le_trans hsH hk)) ⟨⟨judge, num, clock, kind, call, version, ⟨lcall, cat, pow, cl, vj, vl⟩, aC, aN, bCc, bNn, rJ, rN, hash, prev⟩, js, ls⟩ baA hgrow hown' hloc
    have hkF : Kept F w7 (wH.setCell ⟨g, 6, none⟩ (.slice (some ⟨g', 0, none⟩) (L.history.length + 1) cap)) := ((Kept.of_below baA).trans (Kept.of_grown hgrow HL7.out.rows.2.2)).trans (Kept.of_grown (grown_put _ _ _ _) (fun k e => by cases e; exact HL7.out.own.1))
    clear hHeld h6 hBB hXX ho cB5 cP5 fP5 hX5 hgrow hown'
    go_wp2
    go_ret
    rw [HU.out.2] at hfin
    exact ⟨rfl, ⟨_, _, _, _, _, _, _, hfin⟩, (((Kept.of_below HB.out).trans (Kept.of_below hb6)).trans hk7).trans (by rw [← HU.out.2] at hfin; exact hkF)⟩
  | none =>
    clear hget
    refine wp_region_late (S := (fun w' => w'.cell? ⟨B, 0, none⟩ = some (.pointer (some ⟨g, 0, none⟩)) ∧ w'.cell? ⟨g, 0, none⟩ = some (.map (some bI)) ∧ w'.cell? ⟨w.heap.size, 4, none⟩ = some (.string call) ∧ w'.cell? ⟨w.heap.size, 5, none⟩ = some (.int .i64 version) ∧ MapOf w' Tryz.prog 180 encMk encN bI L.issues)) [14] (by kernel_rfl) ?hS4 (fun hHeld => ?_)
    case hS4 => exact ⟨cB, cI, x4, x5, (HL.out.later (Below.refl _ _).drew).issues⟩
    refine tl2 (i := 0) ?_; try simp only [Act.put, zq]
    refine tl1 (i := 1) ?_; try simp only [Act.put, zq]
    refine tl1 (i := 2) ?_; try simp only [Act.put, zq]
    refine tl2 (i := 3) ?_; try simp only [Act.put, zq]
    refine tl1 (i := 4) ?_; try simp only [Act.put, zq]
    refine tl2 (i := 5) ?_; try simp only [Act.put, zq]
    refine tl1 (i := 6) ?_; try simp only [Act.put, zq]
    refine tl2 (i := 7) ?_; try simp only [Act.put, zq]
    refine tl1 (i := 8) ?_; try simp only [Act.put, zq]
    refine' wpAnyL_take (i := 9) rfl (by kernel_rfl) (by kernel_rfl) (by kernel_rfl) (by kernel_rfl) (by kernel_rfl) (by kernel_rfl) (fun _ _ _ h => h) (yieldsIf_lookup_of (by kernel_rfl) true _ _ _ rfl 46 keyedIssue UM _ zeroNote rfl (fun w9 hSw => hSw.2.2.2.2) (call, version) rfl HK.out) (by assumption) ?_
    (rw [← HR.out]; dsimp only [lookV])
    (try simp only [Act.put, zq])
    refine tl1 (i := 10) ?_; try simp only [Act.put, zq]
    refine tl1 (i := 11) ?_; try simp only [Act.put, zq]
    refine tl1 (i := 12) ?_; try simp only [Act.put, zq]
    refine wpAnyL_ready (rs := [13]) (by kernel_rfl) (by simp) ?_
    refine AllReadyL.cons rfl (fun K hK => ?_) AllReadyL.nil
    go_simp
    refine hK.out _ _ ?hS4_14 (fun hHeld => ?_)
    case hS4_14 => ((try dsimp only); exact ⟨((below_ad _).cell (p := ⟨B, 0, none⟩) lB).trans cB, ((below_ad _).cell (p := ⟨g, 0, none⟩) lg).trans cI, ((below_ad _).cell (p := ⟨w.heap.size, 4, none⟩) HX.out.lt).trans x4, ((below_ad _).cell (p := ⟨w.heap.size, 5, none⟩) HX.out.lt).trans x5, (HL.out.later (below_ad _)).issues⟩)
    clear hK K
    (try simp only [Act.put, zq])
    refine wpAnyL_ready (rs := [14]) (by kernel_rfl) (by simp) ?_
    refine AllReadyL.late rfl (by kernel_rfl) (fun K hK => ?_) AllReadyL.nil
    (rw [if_pos (by kernel_rfl)]; refine wp_store_blk 46 _ _ rfl (w.heap.size + 1) 46 Nt0.enc.toArray Nt0.enc.toArray rfl rfl (by rw [← hsW]; exact (Blk.new W _ _).drew) (by rfl) sizeNote (by simp [Value.oneCell']) ?_; intro w6 hZ6 hg6 hs6)
    refine hK.out _ _ ?_
    clear hK K
    (try simp only [Act.put, zq])
    refine wpAnyL_pureL (i := 15) (v := ?v4_16) rfl (by kernel_rfl) (by kernel_rfl) (by kernel_rfl) (by kernel_rfl) (by kernel_rfl) (fun _ _ _ h => h) (Or.inl ⟨by kernel_rfl, ?hy4_16⟩) ?_
    case hy4_16 => ((intro w hSw; (try dsimp only at hSw); go_simp) <;> with_reducible rfl)
    (try simp only [Act.put, zq])
    refine wpAnyL_done (by kernel_rfl) ?_ _
    have hb6 : Below W.heap.size W w6 := (below_ad _).grown hg6 (by simp) (fun k e => by cases e; omega)
    clear hHeld hZ6 hg6 hs6
    go_wp2
    go_ret
    exact ⟨rfl, ⟨_, _, _, _, _, _, _, HL.out.later hb6⟩, (Kept.of_below HB.out).trans (Kept.of_below hb6)⟩
end Go.Proofs.YtlamogpdkmbeoaaGreatDoor
end PartEffC

section PartEffE
/- What a publication does to the ledger. -/
set_option maxRecDepth 100000
namespace Go.Proofs.YtlamogpdkmbeoaaGreatDoor
open Go.RowKit Go.Lib Go.Shelf Go.Maps

abbrev nm (x : Note) : NameK := (x.nt.judge, x.nt.num)
def pubOk (L : Led) (x : Note) : Bool := x.nt.prev == L.hash
def pubLed (L : Led) (x : Note) : Led := { L with hash := x.nt.hash, published := L.published ++ [nm x] }
theorem infoName : ∃ i, Tryz.prog.info? 37 = some i ∧ i.zero = some (.agg #[.int .i64 0, .int .i64 0]) ∧ i.size = 2 ∧ i.bytes = 16 := by
  obtain ⟨i, hi⟩ : ∃ i, Tryz.prog.info? 37 = some i := Option.isSome_iff_exists.1 (by kernel_rfl)
  have h1 : (Tryz.prog.info? 37).bind (·.zero) = some (.agg #[.int .i64 0, .int .i64 0]) := by kernel_rfl
  have h2 : (Tryz.prog.info? 37).map (·.size) = some 2 := by kernel_rfl
  have h3 : (Tryz.prog.info? 37).map (·.bytes) = some 16 := by kernel_rfl
  rw [hi] at h1 h2 h3
  exact ⟨i, hi, by simpa using h1, by simpa using h2, by simpa using h3⟩

set_option maxHeartbeats 4000000 in
theorem eff5_any {F : Nat → Prop} {base g : Nat} {L : Led} (x : Note) (B : Nat) (w : World) (h : LedAt F base w g L) (hB : Blk w B 91 #[encP g]) (hBF : ¬ F B) (hF : ∀ k, w.heap.size ≤ k → F k) (hbase : base ≤ w.heap.size) (hroom : L.published.length ≤ 2000) :
    Calls Tryz.prog 98 #[encN x, encP B] w fun e w' => e = .returned (.bool (pubOk L x)) ∧ LedAt F base w' g (if pubOk L x then pubLed L x else L) ∧ Kept F w w' := by
  obtain ⟨i0, hi0, hz0, hz1, hz2⟩ := infoName
  have UN := Tryz.underlying46
  have US := Tryz.underlying30
  obtain ⟨bI, bW, bN, bC, rv, pv, hv, hL⟩ := h
  unfold pubOk
  obtain ⟨⟨judge, num, clock, kind, call, version, ⟨lcall, cat, pow, cl, vj, vl⟩, aC, aN, bCc, bNn, rJ, rN, hash, prev⟩, js, ls⟩ := x
  dsimp only [encN, Note.enc, Nt.enc, encP]
  obtain ⟨W, hW⟩ : ∃ W, w.alloc (.cells #[.int .i64 judge, .int .i64 num, .int .i64 clock, .int .i64 kind, .string call, .int .i64 version, .string lcall, .int .i64 cat, .int .i64 pow, .int .i64 cl, vj, vl, .string aC, .int .i64 aN, .string bCc, .int .i64 bNn, .int .i64 rJ, .int .i64 rN, .int .i64 hash, .int .i64 prev] 46) = W := ⟨_, rfl⟩
  have hb0 : Below w.heap.size w W := by rw [← hW]; exact below_alloc0 _
  have hX : Blk W w.heap.size 46 #[.int .i64 judge, .int .i64 num, .int .i64 clock, .int .i64 kind, .string call, .int .i64 version, .string lcall, .int .i64 cat, .int .i64 pow, .int .i64 cl, vj, vl, .string aC, .int .i64 aN, .string bCc, .int .i64 bNn, .int .i64 rJ, .int .i64 rN, .int .i64 hash, .int .i64 prev] := by rw [← hW]; exact Blk.new w _ _
  have hB0 := hB.later hb0
  have hL0 := hL.later hb0
  have cB : W.cell? ⟨B, 0, none⟩ = some (.pointer (some ⟨g, 0, none⟩)) := hB0.cell 0
  have cH : W.cell? ⟨g, 5, none⟩ = some (.int .i64 L.hash) := hL0.cells.cell 5
  have fH : W.frozen? ⟨g, 5, none⟩ = false := hL0.cells.frozen 5
  have x18 : W.cell? ⟨w.heap.size, 18, none⟩ = some (.int .i64 hash) := hX.cell 18
  have x19 : W.cell? ⟨w.heap.size, 19, none⟩ = some (.int .i64 prev) := hX.cell 19
  have HB := Lib.hid hb0
  have HX := Lib.hid hX
  have HBL := Lib.hid hB0
  have HL := Lib.hid hL0
  have neB : B ≠ w.heap.size := Nat.ne_of_lt hB.lt
  have HF := Lib.hid hF
  clear hX hB0 hL0 hb0 hL hB hF
  by_cases hp : prev = L.hash
  · have e1 : (prev != L.hash) = false := by simp [hp]
    have e2 : (prev == L.hash) = true := by simp [hp]
    rw [e2]
    have HP := Lib.hid hp
    clear hp e2
    go_enter Tryz.func98, Tryz.ntmps98
    go_upto_region 1 with fail
    clear hW
    go_quiet (fail)
    go_upto_region 4 with fail
    obtain ⟨w3, hw3⟩ : ∃ w3, (W.drewN nq).setCell ⟨g, 5, none⟩ (.int .i64 hash) = w3 := ⟨_, rfl⟩
    rw [hw3]
    have hL3 : LedIn F base w3 g { L with hash := hash } bI bW bN bC rv pv hv := by rw [← hw3]; exact (HL.out.later (below_drewN0 nq)).setHash hash
    have hg3 : (W.drewN nq).grownBy w3 (some g) := by rw [← hw3]; exact grown_put _ _ _ _
    have neg : w.heap.size ≠ g := fun e => by have := HX.out.tag; rw [e, HL.out.cells.tag] at this; cases this
    have neg2 : B ≠ g := fun e => by have := HBL.out.tag; rw [e, HL.out.cells.tag] at this; cases this
    have hX3 := HX.out.drewN nq |>.kept hg3 (by intro e; injection e with e; exact neg e)
    have hB3 := HBL.out.drewN nq |>.kept hg3 (by intro e; injection e with e; exact neg2 e)
    have hK3 : Kept F W w3 := ((Kept.refl F W).drewN nq).trans (Kept.of_grown hg3 (fun k e => by cases e; exact HL.out.own.1))
    have hs3 : w3.heap.size = W.heap.size := by rw [← hw3]; simp
    clear hw3 cB cH fH x18 x19 hg3
    have cB : w3.cell? ⟨B, 0, none⟩ = some (.pointer (some ⟨g, 0, none⟩)) := hB3.cell 0
    have cP : w3.cell? ⟨g, 4, none⟩ = some pv := hL3.cells.cell 4
    have fP : w3.frozen? ⟨g, 4, none⟩ = false := hL3.cells.frozen 4
    have hn1 := fun W => nameOf_any ⟨judge, num, clock, kind, call, version, ⟨lcall, cat, pow, cl, vj, vl⟩, aC, aN, bCc, bNn, rJ, rN, hash, prev⟩ W
    have ltB := hB3.lt
    have ltg := hL3.cells.lt
    have hsW := HB.out.size
    have hbase3 : base ≤ w3.heap.size := by omega
    have HL3 := Lib.hid hL3
    have hmax : L.published.length + 1 ≤ maxLen := by unfold maxLen; omega
    have HB3 := Lib.hid hB3
    clear hL3 hB3
    refine wp_region_late (S := (fun w' => w'.cell? ⟨B, 0, none⟩ = some (.pointer (some ⟨g, 0, none⟩)) ∧ w'.cell? ⟨g, 4, none⟩ = some pv ∧ w'.frozen? ⟨g, 4, none⟩ = false ∧ Blk w' w.heap.size 46 #[.int .i64 judge, .int .i64 num, .int .i64 clock, .int .i64 kind, .string call, .int .i64 version, .string lcall, .int .i64 cat, .int .i64 pow, .int .i64 cl, vj, vl, .string aC, .int .i64 aN, .string bCc, .int .i64 bNn, .int .i64 rJ, .int .i64 rN, .int .i64 hash, .int .i64 prev])) [11] (by kernel_rfl) ?hS1 (fun hHeld => ?_)
    case hS1 => exact ⟨cB, cP, fP, hX3.drew⟩
    refine tl2 (i := 0) ?_; try simp only [Act.put, zq]
    refine tl2 (i := 1) ?_; try simp only [Act.put, zq]
    refine tl1 (i := 2) ?_; try simp only [Act.put, zq]
    refine tl1 (i := 3) ?_; try simp only [Act.put, zq]
    refine tl2 (i := 4) ?_; try simp only [Act.put, zq]
    refine' wpAnyL_take (i := 5) rfl (by kernel_rfl) (by kernel_rfl) (by kernel_rfl) (by kernel_rfl) (by kernel_rfl) (by kernel_rfl) (fun _ _ _ h => h) (yieldsIf_load_blk (by kernel_rfl) _ _ rfl _ _ _ _ rfl (fun w9 hSw => hSw.2.2.2) ?hu1_6 ?hd1_6 ?hi1_6) (by assumption) ?_
    case hu1_6 => assumption
    case hd1_6 => rfl
    case hi1_6 => (first | assumption | kernel_rfl)
    (try simp only [Act.put, zq])
    refine wpAnyL_ready (rs := [6]) (by kernel_rfl) (by simp) ?_
    refine AllReadyL.cons rfl (fun K hK => ?_) AllReadyL.nil
    go_simp
    (go_at_call 54; ((with_reducible refine (hn1 _).mono ?_); rintro e w4 ⟨rfl, hg4⟩); have hb4 : Below w3.heap.size w3 w4 := (Below.refl _ w3).drew.trans hg4.below; have le4 := hb4.size)
    go_wp2_with fail
    refine hK.out _ _ ?hS1_7 (fun hHeld => ?_)
    case hS1_7 => ((try dsimp only); exact ⟨(hb4.cell (p := ⟨B, 0, none⟩) ltB).trans cB, (hb4.cell (p := ⟨g, 4, none⟩) ltg).trans cP, (hb4.frozen (p := ⟨g, 4, none⟩) ltg).trans fP, hX3.later hb4⟩)
    clear hK K
    (try simp only [Act.put, zq])
    refine wpAnyL_ready (rs := [7]) (by kernel_rfl) (by simp) ?_
    refine AllReadyL.cons rfl (fun K hK => ?_) AllReadyL.nil
    go_simp
    refine hK.out _ _ ?hS1_8 (fun hHeld => ?_)
    case hS1_8 => ((try dsimp only); (have hb5 := hb4.alloc le4 (.cells #[.int .i64 judge, .int .i64 num] 37); exact ⟨(hb5.cell (p := ⟨B, 0, none⟩) ltB).trans cB, (hb5.cell (p := ⟨g, 4, none⟩) ltg).trans cP, (hb5.frozen (p := ⟨g, 4, none⟩) ltg).trans fP, hX3.later hb5⟩))
    clear hK K
    (try simp only [Act.put, zq])
    refine wpAnyL_ready (rs := [8]) (by kernel_rfl) (by simp) ?_
    refine AllReadyL.cons rfl (fun K hK => ?_) AllReadyL.nil
    (rw [if_pos (by kernel_rfl)]; refine wp_append_lies _ _ _ _ rfl base 37 i0 _ 2 16 US hi0 hz0 hz1 hz2 rfl (by decide) pv L.published.length (L.published.flatMap NameK.cells) rfl ((HL3.out.later hb4).published.alloc _) ⟨w4.heap.size, 0, none⟩ 1 1 [.int .i64 judge, .int .i64 num] rfl rfl (World.news_of_block (Blk.new _ _ _)) (by simp [Value.oneCell']) (by decide) hmax (by omega) (by simp; omega) _ rfl ?_; intro g' cap w5 hown' hgrow hat hlt; have hb5 := hb4.alloc le4 (.cells #[.int .i64 judge, .int .i64 num] 37); have h6 := HL3.out.later hb5; have hB6 := HB3.out.later hb5; have hX6 := hX3.later hb5; have ho := Only.of_own h6.published; have cB5 := (hgrow.cell_far ⟨B, 0, none⟩ hB6.lt (ho.ne hB6.tag (by decide))).trans (hB6.cell 0); have cP5 := (hgrow.cell_far ⟨g, 4, none⟩ h6.cells.lt (ho.ne h6.cells.tag (by decide))).trans (h6.cells.cell 4); have fP5 := (hgrow.frozen_far ⟨g, 4, none⟩ h6.cells.lt (ho.ne h6.cells.tag (by decide))).trans (h6.cells.frozen 4); have hX5 := hX6.kept hgrow (ho.ne hX6.tag (by decide)))
    refine hK.out _ _ ?hS1_9 (fun hHeld => ?_)
    case hS1_9 => ((try dsimp only); exact ⟨cB5, cP5, fP5, hX5⟩)
    clear hK K
    (try simp only [Act.put, zq])
    refine tl1 (i := 9) ?_; try simp only [Act.put, zq]
    refine tl1 (i := 10) ?_; try simp only [Act.put, zq]
    refine wpAnyL_ready (rs := [11]) (by kernel_rfl) (by simp) ?_
    refine AllReadyL.late rfl (by kernel_rfl) (fun K hK => ?_) AllReadyL.nil
    go_simp
    refine hK.out _ _ ?_
    clear hK K
    (try simp only [Act.put, zq])
    refine wpAnyL_done (by kernel_rfl) ?_ _
    have hloc : ∀ k, (Value.slice (some ⟨g', 0, none⟩) (L.published.length + 1) cap).ownBlock = some k → F k := fun k hk => by
      have e : g' = k := by simpa [Value.ownBlock] using hk
      rw [← e]
      rcases hat with hat | hat
      · exact HL3.out.rows.2.1 _ hat
      · rw [hat]; exact HF.out _ (by simp; omega)
    have hfin := HL3.out.publish (fun k hk => HF.out k (by omega)) (judge, num) hb5 hgrow hown' hloc
    have hkF : Kept F w3 (w5.setCell ⟨g, 4, none⟩ (.slice (some ⟨g', 0, none⟩) (L.published.length + 1) cap)) := ((Kept.of_below hb5).trans (Kept.of_grown hgrow HL3.out.rows.2.1)).trans (Kept.of_grown (grown_put _ _ _ _) (fun k e => by cases e; exact HL3.out.own.1))
    clear hHeld hb5 h6 hB6 hX6 ho cB5 cP5 fP5 hX5 hgrow hown'
    go_wp2
    go_ret
    exact ⟨rfl, ⟨_, _, _, _, _, _, _, hfin⟩, ((Kept.of_below HB.out).trans hK3).trans hkF⟩
  · have e1 : (prev != L.hash) = true := by simp [hp]
    have e2 : (prev == L.hash) = false := by simp [hp]
    rw [e2]
    have HP := Lib.hid hp
    clear hp e2
    go_enter Tryz.func98, Tryz.ntmps98
    go_upto_region 1 with fail
    clear hW
    go_quiet (fail)
    go_wp2
    go_ret
    exact ⟨rfl, ⟨_, _, _, _, _, _, _, HL.out.later (below_drewN0 _)⟩, (Kept.of_below HB.out).drewN _⟩
end Go.Proofs.YtlamogpdkmbeoaaGreatDoor
end PartEffE

section PartEffT
/- The table of what notes of a kind do. -/
set_option maxRecDepth 100000
namespace Go.Proofs.YtlamogpdkmbeoaaGreatDoor
open Go.RowKit Go.Lib Go.Shelf Go.Maps

abbrev encFn (B : Nat) (f : Nat) : Value := .func (.func f) #[] #[encP B]
def effTab : List (Int × Nat) := [(1, 95), (2, 96), (3, 94), (4, 94), (5, 94), (6, 97), (7, 98)]
set_option maxHeartbeats 2000000 in
theorem effects_any (g : Nat) (w : World) : Calls Tryz.prog 60 #[encP g] w fun e w' => e = .returned (.map (some (w.heap.size + 1))) ∧ Blk w' w.heap.size 91 #[encP g] ∧
    MapOf w' Tryz.prog 3 encI' (encFn w.heap.size) (w.heap.size + 1) effTab ∧ Below w.heap.size w w' := by
  have UE := Tryz.underlying130
  have hmm := @run_makeMap Tryz.prog
  dsimp only [encP]
  obtain ⟨W, hW⟩ : ∃ W, w.alloc (.cells #[.pointer (some ⟨g, 0, none⟩)] 91) = W := ⟨_, rfl⟩
  have hbl : Below w.heap.size w W := by rw [← hW]; exact below_alloc0 _
  have hBx : Blk W w.heap.size 91 #[encP g] := by rw [← hW]; exact Blk.new w _ _
  have hsW : W.heap.size = w.heap.size + 1 := by rw [← hW]; simp
  have hm0 : MapOf (W.alloc (.map #[] 0)) Tryz.prog 3 encI' (encFn w.heap.size) (w.heap.size + 1) [] := by rw [← hsW]; exact MapOf.made W encI'_inj
  have hbl := hbl.alloc hbl.size (.map #[] 0)
  have hBx := hBx.alloc (.map #[] 0)
  go_enter Tryz.func60, Tryz.ntmps60
  go_wp2_with (refine wpList_insert_of rfl _ _ _ _ rfl 114 keyedInt UE rfl hm0 _ _ rfl rfl (key_int _ (by decide)) ?_; intro w2 hm0 hg hs; have hbl := hbl.grown hg hbl.size (fun k e => by cases e; omega); have hBx := hBx.kept hg (by intro e; injection e with e; omega); clear hs hg)
  go_ret
  exact ⟨rfl, hBx, hm0, hbl⟩
end Go.Proofs.YtlamogpdkmbeoaaGreatDoor
end PartEffT

section PartEffU
/- What a note does to the ledger, whatever its kind. -/
set_option maxRecDepth 100000
namespace Go.Proofs.YtlamogpdkmbeoaaGreatDoor
open Go.RowKit Go.Lib Go.Shelf Go.Maps

/-- What a walk needs of a note. -/
structure NoteOk (x : Note) : Prop where
  one : oneN x
  call : okS x.nt.call
  version : okI x.nt.version
  judge : okI x.nt.judge
  num : okI x.nt.num
  rJ : okI x.nt.rJ
  rN : okI x.nt.rN
  kind : 1 ≤ x.nt.kind ∧ x.nt.kind ≤ 7
def StepB (x : Note) (L : Led) (ok : Bool) (L1 : Led) : Prop :=
  if x.nt.kind = 1 then ok = logOk L x ∧ L1 = (if logOk L x then logLed L x else L)
  else if x.nt.kind = 2 then ok = wdOk L x ∧ L1 = (if wdOk L x then wdLed L x else L)
  else if x.nt.kind = 6 then ok = sgOk L x ∧ L1 = (if sgOk L x then sgLed L x else L)
  else if x.nt.kind = 7 then ok = pubOk L x ∧ L1 = (if pubOk L x then pubLed L x else L)
  else ok = true ∧ ∃ r j, L1 = ruleLed L x r j
def Step (x : Note) (L L' : Led) : Prop := ∃ ok L1, StepB x L ok L1 ∧ L' = if ok then L1 else { L1 with conflicts := putM L1.conflicts (nm x) true }
inductive Steps : Led → List Note → Led → Prop
  | nil (L : Led) : Steps L [] L
  | snoc {L L1 L2 : Led} {xs : List Note} {x : Note} (h : Steps L xs L1) (h2 : Step x L1 L2) : Steps L (xs ++ [x]) L2
abbrev Led0 : Led := ⟨[], [], [], [], [], 0, [], []⟩
/-- What k notes leave at most. -/
structure LedSz (k : Nat) (L : Led) : Prop where
  history : L.history.length ≤ k
  published : L.published.length ≤ k
  rulings : L.rulings.length ≤ k
  issues : ∀ p ∈ L.issues, oneN p.2
theorem LedSz.step {k : Nat} {L L1 : Led} {x : Note} {ok : Bool} (h : LedSz k L) (hx : oneN x) (hs : StepB x L ok L1) : LedSz (k + 1) L1 := by
  have h1 := h.history
  have h2 := h.published
  have h3 := h.rulings
  have h0 : LedSz (k + 1) L := ⟨by omega, by omega, by omega, h.issues⟩
  unfold StepB at hs
  split at hs
  · obtain ⟨_, rfl⟩ := hs
    split
    · refine ⟨by simp [logLed]; omega, h0.published, h0.rulings, fun p hp => ?_⟩
      rcases mem_putM hp with rfl | hp
      · exact hx
      · exact h.issues p hp
    · exact h0
  · split at hs
    · obtain ⟨_, rfl⟩ := hs
      split
      · exact ⟨by simp [wdLed]; omega, h0.published, h0.rulings, h.issues⟩
      · exact h0
    · split at hs
      · obtain ⟨_, rfl⟩ := hs
        split
        · unfold sgLed
          split
          · exact ⟨h0.history, h0.published, by simpa using h0.rulings, h.issues⟩
          · exact h0
        · exact h0
      · split at hs
        · obtain ⟨_, rfl⟩ := hs
          split
          · exact ⟨h0.history, by simp [pubLed]; omega, h0.rulings, h.issues⟩
          · exact h0
        · obtain ⟨_, r, j, rfl⟩ := hs
          exact ⟨h0.history, h0.published, by simp [ruleLed]; omega, h.issues⟩

theorem eff_any {F : Nat → Prop} {base g : Nat} {L : Led} (x : Note) (f B : Nat) (w : World) (hf : getM effTab x.nt.kind = some f) (h : LedAt F base w g L) (hB : Blk w B 91 #[encP g]) (hBF : ¬ F B) (hF : ∀ k, w.heap.size ≤ k → F k) (hbase : base ≤ w.heap.size) (hs : LedSz 2000 L) (hx : NoteOk x) :
    Calls Tryz.prog f #[encN x, encP B] w fun e w' => ∃ ok L1, e = .returned (.bool ok) ∧ StepB x L ok L1 ∧ LedAt F base w' g L1 ∧ Kept F w w' := by
  have hk := hx.kind
  unfold StepB
  obtain ⟨k, hk'⟩ : ∃ k, k = x.nt.kind := ⟨_, rfl⟩
  rw [← hk'] at hf hk ⊢
  have hcases : k = 1 ∨ k = 2 ∨ k = 3 ∨ k = 4 ∨ k = 5 ∨ k = 6 ∨ k = 7 := by omega
  rcases hcases with rfl | rfl | rfl | rfl | rfl | rfl | rfl <;> (simp [effTab, getM] at hf; subst hf)
  · refine (eff2_any x B w h hB hBF hF hbase hs.history hx.one hs.issues hx.call hx.version).mono ?_
    rintro e w' ⟨rfl, h1, h2⟩
    exact ⟨_, _, rfl, by simp, h1, h2⟩
  · refine (eff3_any x B w h hB hBF hF hbase hs.history hx.one hs.issues hx.call hx.version).mono ?_
    rintro e w' ⟨rfl, h1, h2⟩
    exact ⟨_, _, rfl, by simp, h1, h2⟩
  · refine (eff1_any x B w h hB hBF hF hbase hs.rulings hx.judge hx.num).mono ?_
    rintro e w' ⟨rfl, ⟨r, j, h1⟩, h2⟩
    exact ⟨_, _, rfl, by simp; exact ⟨r, j, rfl⟩, h1, h2⟩
  · refine (eff1_any x B w h hB hBF hF hbase hs.rulings hx.judge hx.num).mono ?_
    rintro e w' ⟨rfl, ⟨r, j, h1⟩, h2⟩
    exact ⟨_, _, rfl, by simp; exact ⟨r, j, rfl⟩, h1, h2⟩
  · refine (eff1_any x B w h hB hBF hF hbase hs.rulings hx.judge hx.num).mono ?_
    rintro e w' ⟨rfl, ⟨r, j, h1⟩, h2⟩
    exact ⟨_, _, rfl, by simp; exact ⟨r, j, rfl⟩, h1, h2⟩
  · refine (eff4_any x B w h hB hBF hF hbase hx.judge hx.rJ hx.rN).mono ?_
    rintro e w' ⟨rfl, h1, h2⟩
    exact ⟨_, _, rfl, by simp, h1, h2⟩
  · refine (eff5_any x B w h hB hBF hF hbase hs.published).mono ?_
    rintro e w' ⟨rfl, h1, h2⟩
    exact ⟨_, _, rfl, by simp, h1, h2⟩
theorem tab_enters {k : Int} {f : Nat} (h : getM effTab k = some f) : ∀ args w, (callFunc f args).run Tryz.prog w = .ok (.enter f args) w := by
  have := getM_mem h
  simp [effTab] at this
  rcases this with ⟨_, rfl⟩ | ⟨_, rfl⟩ | ⟨_, rfl⟩ | ⟨_, rfl⟩ | ⟨_, rfl⟩ | ⟨_, rfl⟩ | ⟨_, rfl⟩
  · exact enters_of Tryz.func95 (by kernel_rfl) rfl
  · exact enters_of Tryz.func96 (by kernel_rfl) rfl
  · exact enters_of Tryz.func94 (by kernel_rfl) rfl
  · exact enters_of Tryz.func94 (by kernel_rfl) rfl
  · exact enters_of Tryz.func94 (by kernel_rfl) rfl
  · exact enters_of Tryz.func97 (by kernel_rfl) rfl
  · exact enters_of Tryz.func98 (by kernel_rfl) rfl
theorem tab_has {k : Int} (h : 1 ≤ k ∧ k ≤ 7) : ∃ f, getM effTab k = some f := by
  have hcases : k = 1 ∨ k = 2 ∨ k = 3 ∨ k = 4 ∨ k = 5 ∨ k = 6 ∨ k = 7 := by omega
  rcases hcases with rfl | rfl | rfl | rfl | rfl | rfl | rfl <;> exact ⟨_, rfl⟩
end Go.Proofs.YtlamogpdkmbeoaaGreatDoor
end PartEffU
