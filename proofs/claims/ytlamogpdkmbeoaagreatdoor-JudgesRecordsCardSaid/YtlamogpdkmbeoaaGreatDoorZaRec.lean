/- The texts RecB, RecW in one. -/
import Derived.Test.YtlamogpdkmbeoaaGreatDoorZaRecA
import Derived.Test.YtlamogpdkmbeoaaGreatDoorZaByte
section PartRecB
/- The reference's 'First' and 'Scan'. -/
set_option linter.unusedVariables false
set_option linter.unusedSimpArgs false
set_option maxRecDepth 100000
namespace Go.Proofs.YtlamogpdkmbeoaaGreatDoor
open List renaming getElem_toArray → zq1, getElem_cons_succ → zq2, getElem_cons_zero → zq3, setIfInBounds_toArray → zq4, set_cons_zero → zq5, set_cons_succ → zq6
open Go.RowKit Go.Lib Go.Shelf

/-- What 'First' hands back. -/
def FirstOut (b : List Int) (base : Nat) (e : Ending) (w' : World) : Prop :=
  (∃ x u, rec1 b = some x ∧ e = .returned (.tuple #[u, .int .i64 ((x.length : Int) + 10)]) ∧ OwnU w' base u x) ∨ (rec1 b = none ∧ e = .returned (.tuple #[.slice none 0 0, .int .i64 0]))
set_option maxHeartbeats 4000000 in
theorem rFirst_any (b : List Int) (v : Value) (w : World) (h : BytesAt w v b) (hb : AreBytes b) (hcap : CapOk v) :
    Calls Tryz.prog 40 #[v] w fun e w' => FirstOut b w.heap.size e w' ∧ Below w.heap.size w w' := by
  have hm := h.max
  unfold maxLen at hm
  by_cases h10 : b.length < 10
  · have HS := Lib.hid (rec1_short h10)
    obtain ⟨A, c, rfl⟩ := h.len
    have hlt : (b.length : Int) < 10 := by omega
    clear h hb hcap
    go_enter Tryz.func40, Tryz.ntmps40
    go_wp2
    go_ret2
    exact ⟨.inr ⟨HS.out, rfl⟩, Below.refl _ _⟩
  · have hnlt : ¬ (b.length : Int) < 10 := by omega
    rcases h.place with ⟨rfl, _⟩ | ⟨g, o, c, rfl, h0, _, hbb, hcell⟩
    · simp at h10
    have hc := hcap _ _ _ rfl
    obtain ⟨x0, e0⟩ : ∃ x, x = b[0] := ⟨_, rfl⟩
    obtain ⟨x1, e1⟩ : ∃ x, x = b[1] := ⟨_, rfl⟩
    obtain ⟨x2, e2⟩ : ∃ x, x = b[2] := ⟨_, rfl⟩
    have c0 : w.cell? ⟨g, o, none⟩ = some (.int .u8 x0) := by have := hcell 0 (by omega) 0 _ rfl; rw [e0]; exact this
    have c1 : w.cell? ⟨g, o + 1, none⟩ = some (.int .u8 x1) := by have := hcell 1 (by omega) 0 _ rfl; rw [e1]; exact this
    have c2 : w.cell? ⟨g, o + 2, none⟩ = some (.int .u8 x2) := by have := hcell 2 (by omega) 0 _ rfl; rw [e2]; exact this
    have b0 : 0 ≤ x0 ∧ x0 < 256 := by rw [e0]; exact hb _ (List.getElem_mem _)
    have b1 : 0 ≤ x1 ∧ x1 < 256 := by rw [e1]; exact hb _ (List.getElem_mem _)
    have b2 : 0 ≤ x2 ∧ x2 < 256 := by rw [e2]; exact hb _ (List.getElem_mem _)
    have htold := told_nat (by omega) e0 e1 e2 hb
    have hlt16 := told_lt (b := b) (by omega) hb
    have hE := fun h1 h2 => rec1_eq (b := b) (by omega) h1 h2
    have hNo := rec1_no (b := b)
    obtain ⟨n, hn⟩ : ∃ n, n = told b := ⟨_, rfl⟩
    rw [← hn] at htold hlt16 hE hNo
    have HE := Lib.hid hE
    have HNO := Lib.hid hNo
    have H := Lib.hid h
    have HBY := Lib.hid hb
    have HTO := Lib.hid htold
    have HC := Lib.hid hcell
    clear hE hNo h hb hcap hcell e0 e1 e2 hn htold
    go_enter Tryz.func40, Tryz.ntmps40
    go_upto_region 3 with fail
    go_quiet (fail)
    rw [HTO.out]
    obtain ⟨w1, hw1⟩ : ∃ w1, w.drewN nq = w1 := ⟨_, rfl⟩
    have hb1 : Below w.heap.size w w1 := by rw [← hw1]; exact below_drewN0 _
    rw [hw1]
    have HB1 := Lib.hid hb1
    clear hw1 hb1 c0 c1 c2 b0 b1 b2
    go_upto_region 5 with fail
    go_loopw [5] (fun s5 wr => ∃ i : Nat, i ≤ 3 ∧ s5 = .int .i64 i ∧ Below w.heap.size w wr) (fun s5 _ => 3 - (intOf s5).toNat)
    case atStart => exact ⟨0, by omega, rfl, HB1.out⟩
    case round =>
      obtain ⟨i, hi, rfl, hbr⟩ := hrel
      have HBR := Lib.hid hbr
      by_cases hlt : i < 3
      · obtain ⟨x, hx⟩ : ∃ x, x = b[i] := ⟨_, rfl⟩
        obtain ⟨y, hy⟩ : ∃ y, y = b[i + 3] := ⟨_, rfl⟩
        have cx : wr.cell? ⟨g, o + i, none⟩ = some (.int .u8 x) := (hbr.cell (p := ⟨g, o + i, none⟩) hbb).trans (by have := HC.out i (by omega) 0 _ rfl; rw [Nat.mul_one] at this; rw [hx]; exact this)
        have cy : wr.cell? ⟨g, o + (i + 3), none⟩ = some (.int .u8 y) := (hbr.cell (p := ⟨g, o + (i + 3), none⟩) hbb).trans (by have := HC.out (i + 3) (by omega) 0 _ rfl; rw [Nat.mul_one] at this; rw [hy]; exact this)
        have bx : 0 ≤ x ∧ x < 256 := by rw [hx]; exact HBY.out _ (List.getElem_mem _)
        have by_ : 0 ≤ y ∧ y < 256 := by rw [hy]; exact HBY.out _ (List.getElem_mem _)
        have hsum : ∀ z, rec1 b = some z → x + y = 255 := fun z hz => by rw [hx, hy]; exact head_sums hz i hlt (by omega) (by omega)
        have hl3 : i + 3 < b.length := by omega
        have HSUM := Lib.hid hsum
        clear hx hy hbr hsum
        by_cases hs : x + y = 255
        · go_upto_region 7 with fail
          go_quiet (fail)
          go_wp2
          exact ⟨⟨i + 1, by omega, by simp, below_drewN' HBR.out _⟩, by simp [intOf]; omega⟩
        · have hnone : Hid (rec1 b = none) := Lib.hid (by
            cases hz : rec1 b with
            | none => rfl
            | some z => exact absurd (HSUM.out z hz) hs)
          go_upto_region 7 with fail
          go_quiet (fail)
          go_wp2
          go_ret2
          exact ⟨.inr ⟨hnone.out, rfl⟩, below_drewN' HBR.out _⟩
      · by_cases hA : n ≤ 60000 ∧ n + 10 ≤ b.length
        · obtain ⟨hA1, hA2⟩ := hA
          have f1 : ¬ (60000 : Int) < n := by omega
          have f2 : ¬ (b.length : Int) < n + 10 := by omega
          have hc6 : ¬ c = 6 := by omega
          have hcn : n + 10 ≤ c := by omega
          have hxl : Hid (((b.drop 6).take n).length = n) := Lib.hid (by rw [List.length_take, List.length_drop]; omega)
          have hbw := H.out.later HBR.out.drew
          have hfr := fun c' => rrecord_any ((b.drop 6).take n) (.slice (some ⟨g, o + 6, none⟩) n c') wr.drew (bytes_part hbw 6 (by omega)) (HBY.out.part 6 n) (by rw [List.length_take]; omega)
          have hpre : ∀ W c', BytesAt W (.slice (some ⟨g, o, none⟩) b.length c) b → BytesAt W (.slice (some ⟨g, o, none⟩) (n + 10) c') (b.take (n + 10)) := fun W c' hW => by
            have := bytes_part hW (c' := c') (k := n + 10) 0 (by omega)
            rwa [Nat.add_zero, List.drop_zero] at this
          have HFR := Lib.hid hfr
          have HPRE := Lib.hid hpre
          have HE2 := Lib.hid (HE.out hA1 hA2)
          have HBW := Lib.hid hbw
          have hsw : w.heap.size ≤ wr.heap.size := HBR.out.size
          have HBB := Lib.hid (AreBytes.part (b := b) HBY.out 6 n)
          have HBT : Hid (AreBytes (b.take (n + 10))) := Lib.hid (fun x hx => HBY.out x (List.mem_of_mem_take hx))
          clear hfr hpre hbw hbr
          go_upto_region 12 with fail
          refine wp_region_held_drew (S := (fun w' => BytesAt w' (.slice (some ⟨g, o, none⟩) b.length c) b)) (by kernel_rfl) ?hS1 (fun hHeld => ?_)
          case hS1 => exact HBW.out
          refine tk1 (i := 0) (v := ?v1_1) ?hy1_1 ?_
          case hy1_1 => ((intro w hSw; (try dsimp only at hSw); go_simp) <;> with_reducible rfl)
          (try simp only [Act.put, zq1, zq2, zq3, zq4, zq5, zq6])
          refine tk1 (i := 3) (v := ?v1_2) ?hy1_2 ?_
          case hy1_2 => ((intro w hSw; (try dsimp only at hSw); go_simp) <;> with_reducible rfl)
          (try simp only [Act.put, zq1, zq2, zq3, zq4, zq5, zq6])
          refine tk1 (i := 4) (v := ?v1_3) ?hy1_3 ?_
          case hy1_3 => ((intro w hSw; (try dsimp only at hSw); go_simp) <;> with_reducible rfl)
          (try simp only [Act.put, zq1, zq2, zq3, zq4, zq5, zq6])
          refine tk1 (i := 5) (v := ?v1_4) ?hy1_4 ?_
          case hy1_4 => ((intro w hSw; (try dsimp only at hSw); go_simp; (try go_bits)) <;> with_reducible rfl)
          (try simp only [Act.put, zq1, zq2, zq3, zq4, zq5, zq6])
          refine tk1 (i := 6) (v := ?v1_5) ?hy1_5 ?_
          case hy1_5 => ((intro w hSw; (try dsimp only at hSw); go_simp; (try go_bits); (try rw [if_pos (by omega)])) <;> with_reducible rfl)
          (try simp only [Act.put, zq1, zq2, zq3, zq4, zq5, zq6])
          refine tk1 (i := 7) (v := ?v1_6) ?hy1_6 ?_
          case hy1_6 => ((intro w hSw; (try dsimp only at hSw); go_simp; rw [conv_bytes (HPRE.out _ _ hSw), Result.andThen_ok]) <;> with_reducible rfl)
          (try simp only [Act.put, zq1, zq2, zq3, zq4, zq5, zq6])
          refine wpAnyH_ready (rs := [1]) (by kernel_rfl) (by simp) ?_
          refine AllReadyH.cons rfl (fun K hK => ?_) AllReadyH.nil
          go_simp
          (go_at_call 38; ((with_reducible refine (HFR.out _).mono ?_); rintro e w2 ⟨u1, rfl, ho2, hb2⟩))
          go_wp2_with fail
          refine hK.out _ _ ?hS1_7 (fun hHeld => ?_)
          case hS1_7 => ((try dsimp only); exact HBW.out.later hb2)
          clear hK K
          (try simp only [Act.put, zq1, zq2, zq3, zq4, zq5, zq6])
          refine wpAnyH_ready (rs := [2]) (by kernel_rfl) (by simp) ?_
          refine AllReadyH.cons rfl (fun K hK => ?_) AllReadyH.nil
          (have k1 := conv_bytes ho2.bytes; go_simp)
          refine hK.out _ _ ?hS1_8 (fun hHeld => ?_)
          case hS1_8 => ((try dsimp only); exact HBW.out.later hb2)
          clear hK K
          (try simp only [Act.put, zq1, zq2, zq3, zq4, zq5, zq6])
          refine tk1 (i := 8) (v := ?v1_9) ?hy1_9 ?_
          case hy1_9 => ((intro w hSw; (try dsimp only at hSw); go_simp) <;> with_reducible rfl)
          (try simp only [Act.put, zq1, zq2, zq3, zq4, zq5, zq6])
          refine wpAnyH_done (by kernel_rfl) ?_ _
          have hbw2 := HBW.out.later hb2
          have hpb := fun c' => bytes_part (c' := c') (k := n) (hbw2.later (below_alloc0 (.cells #[] 5))) 6 (by omega)
          have HPB := Lib.hid hpb
          have HB2 : Hid (Below w.heap.size w w2) := Lib.hid (HBR.out.drew.trans (hb2.mono hsw))
          have hfb : AreBytes (fr ((b.drop 6).take n)) := fun q hq => jrn_bytes (l := [(b.drop 6).take n]) (fun y hy => by simp only [List.mem_singleton] at hy; subst hy; exact ⟨HBB.out, by rw [hxl.out]; exact hA1⟩) q (by simpa [jrn] using hq)
          have hs2 : w.heap.size ≤ w2.heap.size := HB2.out.size
          by_cases hq : fr ((b.drop 6).take n) = b.take (n + 10)
          · have hsl : ((strOfNums (fr ((b.drop 6).take n))).toList == (strOfNums (b.take (n + 10))).toList) = true := by rw [hq]; exact beq_self_eq_true _
            have HX : Hid (rec1 b = some ((b.drop 6).take n)) := Lib.hid (by rw [HE2.out, if_pos hq])
            rw [hsl]
            clear hsl hq hfb hb2 ho2 hHeld hbw2 hpb
            go_wp2_with (at_builtin; refine wpList_append_bytes rfl _ _ rfl w2.heap.size (.slice (some ⟨w2.heap.size, 0, none⟩) 0 0) (.slice (some ⟨g, o + 6, none⟩) n (c - 6)) [] ((b.drop 6).take n) rfl (own_empty w2) rfl (HPB.out _) (by simp; omega) (by simp) ?_; intro v' w3 ho3 hg3 ha3)
            go_ret2
            rw [List.nil_append] at ho3
            exact ⟨.inl ⟨_, v', HX.out, by rw [hxl.out]; rfl, ownsRow_base_a ho3 hs2⟩, HB2.out.trans (((below_alloc0 _).grown hg3 (by simp) (fun k e => by simp [Value.ownBlock] at e; omega)).mono hs2)⟩
          · have hsl : ((strOfNums (fr ((b.drop 6).take n))).toList == (strOfNums (b.take (n + 10))).toList) = false := by
              cases h : ((strOfNums (fr ((b.drop 6).take n))).toList == (strOfNums (b.take (n + 10))).toList) with
              | false => rfl
              | true => exact absurd (strOfNums_inj hfb HBT.out (toList_inj h)) hq
            have HX : Hid (rec1 b = none) := Lib.hid (by rw [HE2.out, if_neg hq])
            rw [hsl]
            clear hsl hq hfb hb2 ho2 hHeld hbw2 hpb
            go_wp2
            go_ret2
            exact ⟨.inr ⟨HX.out, rfl⟩, HB2.out⟩
        · have HN := Lib.hid (HNO.out hA)
          by_cases hA1 : n ≤ 60000
          · have f1 : ¬ (60000 : Int) < n := by omega
            have f2 : (b.length : Int) < n + 10 := by omega
            clear hbr
            go_wp2
            go_ret2
            exact ⟨.inr ⟨HN.out, rfl⟩, HBR.out⟩
          · have f1 : (60000 : Int) < n := by omega
            clear hbr
            go_wp2
            go_ret2
            exact ⟨.inr ⟨HN.out, rfl⟩, HBR.out⟩
theorem wpList_cut {ops : Array Oper} {Q : Exit → Act → World → Prop} {a : Act} {w : World} {rest : List Oper} {op : Oper} (hgd : op.guard = none) (x y : Operand) (ho : op.op = .slice 57 x (some y) none none)
    {v : Value} {bs : List Int} {t : Nat} (hx : a.eval x = v) (hy : a.eval y = .int .i64 t) (h : BytesAt w v bs) (hcap : CapOk v) (ht : t ≤ bs.length)
    (k : ∀ v', BytesAt w v' (bs.drop t) → CapOk v' → wpList Tryz.prog ops Q rest (a.put op.dst v') w) : wpList Tryz.prog ops Q (op :: rest) a w := by
  refine wpList_plain hgd fun K hK => ?_
  obtain ⟨v', hr, h1, h2⟩ := run_cut h hcap t ht
  unfold Oper.wp execOp
  simp only [ho, Option.map, hx, hy, Sem.run_bind, Sem.run_pure, Result.andThen_ok, hr]
  exact hK _ _ (k v' h1 h2)
/-- What is known of the next record. -/
def Nx (b : List Int) (base : Nat) (u : Value) (z : Int) (w : World) : Prop := (∃ x : List Int, z = (x.length : Int) + 10 ∧ rec1 b = some x ∧ OwnU w base u x) ∨ (z = 0 ∧ rec1 b = none)
theorem rFirst_nx (b : List Int) (v : Value) (w : World) (h : BytesAt w v b) (hb : AreBytes b) (hcap : CapOk v) :
    Calls Tryz.prog 40 #[v] w fun e w' => ∃ u z, e = .returned (.tuple #[u, .int .i64 z]) ∧ Nx b w.heap.size u z w' ∧ Below w.heap.size w w' :=
  (rFirst_any b v w h hb hcap).mono fun e w' ⟨ho, hb⟩ => by
    rcases ho with ⟨x, u, h1, rfl, h2⟩ | ⟨h1, rfl⟩
    · exact ⟨u, _, rfl, .inl ⟨x, rfl, h1, h2⟩, hb⟩
    · exact ⟨_, _, rfl, .inr ⟨rfl, h1⟩, hb⟩
theorem Nx.mono {b : List Int} {base base' : Nat} {u : Value} {z : Int} {w : World} (h : Nx b base u z w) (hb : base' ≤ base) : Nx b base' u z w := by
  rcases h with ⟨x, h1, h2, h3⟩ | h
  · exact .inl ⟨x, h1, h2, ownsRow_base_a h3 hb⟩
  · exact .inr h
set_option maxHeartbeats 4000000 in
theorem rScan_any (b : List Int) (v : Value) (w : World) (h : BytesAt w v b) (hb : AreBytes b) (hcap : CapOk v) (hl : b.length ≤ 100000000) :
    Calls Tryz.prog 20 #[v] w fun e w' => ∃ u ps, e = .returned (.tuple #[u, .int .i64 (taken (scan b))]) ∧ PartsOwn w.heap.size w' u ps ∧ ps.map (·.2) = scan b ∧ Below w.heap.size w w' := by
  obtain ⟨i0, hi, hz0, hz1, hz2⟩ := infoBytes
  have US := Tryz.underlying56
  have hF := rFirst_nx b v w h hb hcap
  have H := Lib.hid h
  have HBY := Lib.hid hb
  have HCAP := Lib.hid hcap
  obtain ⟨A, c, rfl⟩ := h.len
  obtain ⟨m, hm⟩ : ∃ m, m = b.length := ⟨_, rfl⟩
  have HM := Lib.hid hm
  rw [← hm] at hF hl ⊢
  clear h hb hcap hm
  go_enter Tryz.func20, Tryz.ntmps20
  go_upto_region 4 with (go_at_call 40; (with_reducible refine hF.mono ?_); rintro e w1 ⟨u1, z1, rfl, hn1, hb1⟩)
  go_loopw [4, 5, 6, 7] (fun s4 s5 s6 s7 wr => ∃ (qs : List (Value × List Int)) (e : Nat) (z : Int), s5 = .int .i64 e ∧ s7 = .int .i64 z ∧ e ≤ m ∧ Hid (PartsOwn w.heap.size wr s4 qs) ∧ Hid (scan b = qs.map (·.2) ++ scan (b.drop e) ∧ e = taken (qs.map (·.2))) ∧ Hid (Below w.heap.size w wr) ∧ Hid (Nx (b.drop e) w.heap.size s6 z wr)) (fun _ s5 _ _ _ => m - (intOf s5).toNat)
  case atStart => exact ⟨[], 0, z1, rfl, rfl, Nat.zero_le _, Lib.hid ⟨World.ownsRow_nil _ _ _ _, fun p hp => by simp at hp⟩, Lib.hid ⟨by simp, by simp [taken]⟩, Lib.hid hb1, Lib.hid (by simpa using hn1)⟩
  case round =>
    clear hn1 hb1 hF
    obtain ⟨qs, e, z, rfl, rfl, he, hP, hS, hB, hN⟩ := hrel
    have hsz := hB.out.size
    rcases hN.out with ⟨x, rfl, hx, hox⟩ | ⟨rfl, hx⟩
    · obtain ⟨A6, m6, c6, rfl⟩ := own_slice hox
      obtain rfl : m6 = x.length := own_len hox
      have hx6 := (rec1_some hx).2.1
      have hxl := (rec1_some hx).2.2.1
      rw [List.length_drop] at hxl
      have hle : e + (x.length + 10) ≤ m := by have := HM.out; omega
      have hgt : (0 : Int) < (x.length : Int) + 10 := by omega
      have hq := scan_some hx
      rw [List.drop_drop] at hq
      have hsc : Hid (scan b = (qs ++ [(Value.slice A6 x.length c6, x)]).map (·.2) ++ scan (b.drop (e + (x.length + 10))) ∧ e + (x.length + 10) = taken ((qs ++ [(Value.slice A6 x.length c6, x)]).map (·.2))) := Lib.hid (by
        refine ⟨by rw [hS.out.1, hq, List.map_append, List.append_assoc]; rfl, ?_⟩
        rw [List.map_append, taken_append, ← hS.out.2]
        simp [taken])
      have hql : qs.length ≤ 100000000 := by
        have : ∀ l : List (List Int), l.length ≤ taken l := fun l => by
          induction l with
          | nil => simp [taken]
          | cons y l ih => simp [taken]; omega
        have h1 := this (qs.map (·.2))
        rw [List.length_map, ← hS.out.2] at h1
        omega
      have HOX := Lib.hid hox
      have tok : True := trivial
      have HLE : Hid (e + (x.length + 10) ≤ b.length) := Lib.hid (by have := HM.out; omega)
      clear hx hox hxl hq hN
      go_upto_region 6 with (at_builtin; refine wpList_append_lies _ rfl _ _ 56 rfl w.heap.size 57 i0 (.slice none 0 0) 1 24 US hi hz0 hz1 hz2 rfl (by decide) u4 _ _ rfl (hP.out.row.alloc _) ⟨wr.heap.size, 0, none⟩ 1 1 [.slice A6 x.length c6] rfl rfl (World.news_of_block (Blk.new _ _ _)) (by intro u hu; simp at hu; subst hu; rfl) (by decide) (by unfold maxLen; omega) (by omega) (by simp; omega) _ rfl ?_; intro g cap w2 ho2 hg2 hat2 hlt2)
      have hp2 := (hP.out.later (below_alloc0 (.cells #[.slice A6 x.length c6] 57))).push (.slice A6 x.length c6, x) (own_later HOX.out (below_alloc0 _)) hg2 ho2
      have hb2 : Below w.heap.size w w2 := (hB.out.alloc hsz _).grown hg2 (by simp; omega) (fun k e => own_ge hP.out.row e)
      have HP2 := Lib.hid hp2
      have HB2 := Lib.hid hb2
      have hs2 : w.heap.size ≤ w2.heap.size := hb2.size
      have hv2 := H.out.later hb2
      rw [← HM.out] at hv2
      have hcp := HCAP.out
      rw [← HM.out] at hcp
      have HV2 := Lib.hid hv2
      have HCP := Lib.hid hcp
      clear hp2 hb2 hg2 ho2 hat2 hlt2 hv2 hcp
      go_wp2_with (first
        | (have _t := tok; refine wpList_cut (t := e + (x.length + 10)) (bs := b) rfl _ _ rfl rfl (by rfl) HV2.out HCP.out HLE.out ?_; clear tok; intro v' hv1 hv2)
        | (go_at_call 40; (with_reducible refine (rFirst_nx (b.drop (e + (x.length + 10))) v' w2 hv1 (HBY.out.drop _) hv2).mono ?_); rintro e2 w3 ⟨u3, z3, rfl, hn3, hb3⟩))
      exact ⟨⟨qs ++ [(Value.slice A6 x.length c6, x)], e + (x.length + 10), z3, by simp, rfl, hle, Lib.hid (by rw [show qs.length + 1 = qs.length + 1 from rfl]; exact HP2.out.later hb3), hsc, Lib.hid (HB2.out.trans (hb3.mono hs2)), Lib.hid (hn3.mono hs2)⟩, by simp [intOf]; omega⟩
    · have hsc : Hid (qs.map (·.2) = scan b ∧ e = taken (scan b)) := Lib.hid (by
        have h1 := hS.out
        rw [scan_none hx, List.append_nil] at h1
        exact ⟨h1.1.symm, by rw [h1.1]; exact h1.2⟩)
      clear hN hx
      go_wp2
      go_ret2
      refine ⟨u4, ?_, qs, hP.out, hsc.out.1, hB.out⟩
      rw [← hsc.out.2]
      rfl
end Go.Proofs.YtlamogpdkmbeoaaGreatDoor
end PartRecB

section PartRecW
/- 'JudgesRecords': the walk. -/
set_option linter.unusedVariables false
set_option linter.unusedSimpArgs false
set_option maxRecDepth 100000
namespace Go.Proofs.YtlamogpdkmbeoaaGreatDoor
open Go.RowKit Go.Lib Go.Shelf

def bsF (b : List Int) : List Int := if b.length ≤ 60000 then fr b else []
def erF (b : List Int) : Int := if b.length ≤ 60000 then 0 else 2
theorem Frame_bs (b : List Int) (v : Value) (w : World) (h : BytesAt w v b) (hb : AreBytes b) :
    Calls Tryz.prog 16 #[v] w fun e w' => ∃ u, e = .returned (.tuple #[u, .int .i64 (erF b)]) ∧ BytesAt w' u (bsF b) ∧ Below w.heap.size w w' :=
  (Frame_any b v w h hb).mono fun e w' ⟨u, er, he, ho, hb2⟩ => by
    rcases ho with ⟨h1, rfl, h3⟩ | ⟨h2, rfl, rfl⟩
    · exact ⟨u, by rw [he]; unfold erF; rw [if_pos h1], by unfold bsF; rw [if_pos h1]; exact h3.bytes, hb2⟩
    · exact ⟨_, by rw [he]; unfold erF; rw [if_neg (by omega)], by unfold bsF; rw [if_neg (by omega)]; exact RowsAt.nil _ _, hb2⟩
theorem rFrame_bs (b : List Int) (v : Value) (w : World) (h : BytesAt w v b) (hb : AreBytes b) :
    Calls Tryz.prog 17 #[v] w fun e w' => ∃ u, e = .returned (.tuple #[u, .int .i64 (erF b)]) ∧ BytesAt w' u (bsF b) ∧ Below w.heap.size w w' :=
  (rFrame_any b v w h hb).mono fun e w' ⟨u, er, he, ho, hb2⟩ => by
    rcases ho with ⟨h1, rfl, h3⟩ | ⟨h2, rfl, rfl⟩
    · exact ⟨u, by rw [he]; unfold erF; rw [if_pos h1], by unfold bsF; rw [if_pos h1]; exact h3.bytes, hb2⟩
    · exact ⟨_, by rw [he]; unfold erF; rw [if_neg (by omega)], by unfold bsF; rw [if_neg (by omega)]; exact RowsAt.nil _ _, hb2⟩
theorem scan_bytes {b : List Int} (hb : AreBytes b) : ∀ y ∈ scan b, AreBytes y := by
  have : ∀ (f : Nat) (b : List Int), AreBytes b → ∀ y ∈ scanF f b, AreBytes y := fun f => by
    induction f with
    | zero => intro b _ y hy; simp [scanF] at hy
    | succ f ih =>
      intro b hb y hy
      unfold scanF at hy
      cases hr : rec1 b with
      | none => rw [hr] at hy; simp at hy
      | some x =>
        rw [hr] at hy
        rcases List.mem_cons.1 hy with rfl | hy
        · obtain ⟨h1, h2, h3, _⟩ := rec1_some hr
          unfold rec1 at hr
          rw [if_neg (by omega), if_neg (by omega)] at hr
          split at hr
          · injection hr with hr
            rw [← hr]
            exact hb.part 6 _
          · cases hr
        · exact ih _ (hb.drop _) y hy
  exact this _ b hb
structure JrnB (n0 : Nat) (w : World) (L : List (List Int)) (i : Nat) (va : Value) (W : World) : Prop where
  all : OwnU W n0 va (jrn (L.take i))
  small : ∀ j (hj : j < L.length), j < i → L[j].length ≤ 1000
  below : Below n0 w W
theorem take_small2 {L : List (List Int)} {i : Nat} (h : ∀ j (hj : j < L.length), j < i → L[j].length ≤ 1000) (hi : i ≤ L.length) : taken (L.take i) ≤ i * 1010 := by
  have := taken_bound (L.take i) 1000 (fun x hx => by
    obtain ⟨j, hj, rfl⟩ := List.getElem_of_mem hx
    rw [List.length_take] at hj
    rw [List.getElem_take]
    exact h j (by omega) (by omega))
  rw [List.length_take, Nat.min_eq_left hi] at this
  exact this
set_option maxHeartbeats 8000000 in
theorem JRecords_any (v v1 v2 : Value) (ps : List (Value × List Int)) (b1 b2 : List Int) (w : World) (h : (PartsAt w v ps ∧ ∀ p ∈ ps, AreBytes p.2) ∧ CapOk v) (h1 : BytesAt w v1 b1) (k1 : AreBytes b1) (h2 : BytesAt w v2 b2) (k2 : AreBytes b2) (hE : Env w) :
    Calls Tryz.prog 6 #[v, v1, v2] w fun e w' => e = .returned (.bool true) ∧ Below w.heap.size w w' := by
  obtain ⟨⟨h, hby⟩, hcap⟩ := h
  have hawk := fun W (hb : Below w.heap.size w W) => awake_any W (hE.below hE.big hb)
  have hmx := h.row.max
  unfold maxLen at hmx
  have H := Lib.hid h
  have HBY := Lib.hid hby
  have HAWK := Lib.hid hawk
  have H1 := Lib.hid h1
  have H2 := Lib.hid h2
  have K1 := Lib.hid k1
  have K2 := Lib.hid k2
  have hm1 := h1.max
  have hm2 := h2.max
  unfold maxLen at hm1 hm2
  obtain ⟨A, c, rfl⟩ := h.row.len
  obtain ⟨A1, c1, rfl⟩ := h1.len
  obtain ⟨A2, c2, rfl⟩ := h2.len
  obtain ⟨L, hL⟩ : ∃ L, L = dsk ps := ⟨_, rfl⟩
  have hLl : L.length = ps.length := by rw [hL]; simp
  have HL := Lib.hid hL
  have HLL := Lib.hid hLl
  obtain ⟨n, hn⟩ : ∃ n, n = ps.length := ⟨_, rfl⟩
  obtain ⟨m1, hn1⟩ : ∃ m1, m1 = b1.length := ⟨_, rfl⟩
  obtain ⟨m2, hn2⟩ : ∃ m2, m2 = b2.length := ⟨_, rfl⟩
  have HN := Lib.hid hn
  have HN1 := Lib.hid hn1
  have HN2 := Lib.hid hn2
  rw [← hn1] at H1 hm1
  rw [← hn2] at H2 hm2
  rw [← hn] at H hmx
  rw [← hn, ← hn1, ← hn2]
  clear h hby hawk hcap hE h1 h2 k1 k2 hL hLl hn hn1 hn2
  by_cases hl : n ≤ 100 ∧ m1 ≤ 70000 ∧ m2 ≤ 1000
  · obtain ⟨hl1, hl2, hl3⟩ := hl
    have g1 : ¬ (100 : Int) < n := by omega
    have g2 : ¬ (70000 : Int) < m1 := by omega
    have g3 : ¬ (1000 : Int) < m2 := by omega
    have hF1 := Frame_bs b1 _ w H1.out K1.out
    have hF2 := fun W (hb : Below w.heap.size w W) => rFrame_bs b1 _ W (H1.out.later hb) K1.out
    have HF1 := Lib.hid hF1
    have HF2 := Lib.hid hF2
    clear hF1 hF2
    go_enter Tryz.func6, Tryz.ntmps6
    go_upto_region 5 with (first
      | (go_at_call 16; (with_reducible refine HF1.out.mono ?_); rintro e w1 ⟨u1, rfl, hu1, hb1⟩)
      | (go_at_call 17; (with_reducible refine (HF2.out w1 hb1).mono ?_); rintro e w2 ⟨u2, rfl, hu2, hb2⟩))
    have hB2 : Below w.heap.size w w2 := hb1.trans (hb2.mono hb1.size)
    have q1 := conv_bytes (hu1.later hb2)
    have q2 := conv_bytes hu2
    obtain ⟨er, her⟩ : ∃ er, er = erF b1 := ⟨_, rfl⟩
    rw [← her]
    have HB2 := Lib.hid hB2
    have hs2 : w.heap.size ≤ w2.heap.size := hB2.size
    clear hu1 hb1 hu2 hb2 hB2 her
    go_upto_region 9 with fail
    clear q1 q2
    go_loopw [11, 12] (fun s11 s12 wr => ∃ i : Nat, i ≤ n ∧ s12 = .int .i64 i ∧ Hid (JrnB w.heap.size w L i s11 wr)) (fun _ s12 _ => n - (intOf s12).toNat)
    case atStart => exact ⟨0, Nat.zero_le _, rfl, Lib.hid ⟨World.ownsRow_nil _ _ _ _, fun j _ hj => absurd hj (Nat.not_lt_zero _), HB2.out⟩⟩
    case round =>
      obtain ⟨i, hi, rfl, hJ⟩ := hrel
      have hsz : w.heap.size ≤ wr.heap.size := hJ.out.below.size
      by_cases hlt : i < n
      · have hi1 : i < ps.length := by have := HN.out; omega
        have hi2 : i < L.length := by have := HLL.out; omega
        obtain ⟨p, hp⟩ : ∃ p, p = ps[i] := ⟨_, rfl⟩
        have hpm : p ∈ ps := by rw [hp]; exact List.getElem_mem hi1
        have hLi : L[i] = p.2 := by simp only [HL.out, List.getElem_map]; rw [hp]
        have hw1 := H.out.later hJ.out.below
        rcases hw1.row.place with ⟨e0, _⟩ | ⟨g1', o1, c1', e1, _, _, _, hcell1⟩
        · rw [e0] at hi1; simp at hi1
        injection e1 with e1 h71 h72
        clear h71 h72
        subst e1
        have cp : wr.cell? ⟨g1', o1 + i, none⟩ = some p.1 := by have := hcell1 i hi1 0 _ rfl; rw [Nat.mul_one, ← hp] at this; exact this
        have hbp := hw1.each p hpm
        have hyp := HBY.out p hpm
        obtain ⟨Ap, cap, hpv⟩ := hbp.len
        rw [hpv] at cp hbp
        obtain ⟨vp, bs⟩ := p
        dsimp only at hpv cp hbp hyp hLi
        have hF := Frame_ok bs _ wr hbp hyp
        have HLI := Lib.hid hLi
        have hbl : bs.length ≤ 9223372036854775807 := by have := hbp.max; unfold maxLen at this; exact this
        have hjt := jrn_take_succ hi2
        rw [hLi] at hjt
        have HJT := Lib.hid hjt
        clear hp hpm hLi hw1 hcell1 hbp hyp hpv hjt
        by_cases h300 : bs.length ≤ 1000
        · have hng : ¬ (1000 : Int) < bs.length := by omega
          have hF := hF (by omega)
          have htk : taken (L.take i) ≤ i * 1010 := take_small2 hJ.out.small (by omega)
          have hsm : Hid (∀ j (hj : j < L.length), j < i + 1 → L[j].length ≤ 1000) := Lib.hid (fun j hj hji => by
            by_cases e : j < i
            · exact hJ.out.small j hj e
            · obtain rfl : j = i := by omega
              rw [HLI.out]; exact h300)
          have hjl : Hid ((jrn (L.take i)).length = taken (L.take i)) := Lib.hid (jrn_length _)
          have hfl : Hid ((fr bs).length = bs.length + 10) := Lib.hid (fr_length _)
          have htl : i * 1010 ≤ 101000 := by omega
          go_wp2_with (first
            | (go_at_call 16; (with_reducible refine hF.mono ?_); rintro e w1 ⟨u1, rfl, ho1, hb1⟩)
            | (at_builtin; refine wpList_append_bytes rfl _ _ rfl w.heap.size u11 u1 _ (fr bs) rfl (own_later hJ.out.all hb1) rfl ho1.bytes (by rw [hjl.out, hfl.out]; omega) (Nat.le_trans hsz hb1.size) ?_; intro v' w2' ho2 hg2 ha2))
          have hall1 := own_later hJ.out.all hb1
          have hb12 : Below w.heap.size w w1 := hJ.out.below.trans (hb1.mono hsz)
          exact ⟨⟨i + 1, by omega, by simp, Lib.hid ⟨by rw [HJT.out]; exact ho2, hsm.out, hb12.grown hg2 hb12.size (fun k e => own_ge hall1 e)⟩⟩, by simp [intOf]; omega⟩
        · have hng : (1000 : Int) < bs.length := by omega
          have ha := HAWK.out wr hJ.out.below
          go_wp2_with (go_at_call 11; (with_reducible refine ha.mono ?_); rintro e w1 ⟨rfl, hb1⟩)
          go_ret
          exact ⟨rfl, hJ.out.below.trans (hb1.mono hsz)⟩
      · have hin : i = n := by omega
        subst hin
        have hLn : L.take i = L := List.take_of_length_le (by have := HLL.out; have := HN.out; omega)
        have htot : taken L ≤ 101000 := by
          have := take_small2 hJ.out.small (by have := HLL.out; have := HN.out; omega)
          rw [hLn] at this
          omega
        have hall := hJ.out.all
        rw [hLn] at hall
        obtain ⟨A7, m7, k7, rfl⟩ := own_slice hall
        have hm7 : m7 = taken L := (own_len hall).trans (jrn_length _)
        have hsmL : Hid (∀ y ∈ L, AreBytes y ∧ y.length ≤ 60000) := Lib.hid (fun y hy => by
          obtain ⟨j, hj, rfl⟩ := List.getElem_of_mem hy
          refine ⟨?_, by have := hJ.out.small j hj (by have := HLL.out; have := HN.out; omega); omega⟩
          have hj' : j < ps.length := by have := HLL.out; omega
          simp only [HL.out, List.getElem_map]
          exact HBY.out _ (List.getElem_mem hj'))
        have HALL := Lib.hid hall
        have HBR := Lib.hid hJ.out.below
        have HM7 := Lib.hid hm7
        have hm7b : m7 ≤ 101000 := by omega
        have hjl : (jrn L).length = m7 := (jrn_length L).trans hm7.symm
        have hscan := Scan_any (jrn L) (.slice A7 m7 k7) wr (by have := OwnU.bytes hall; exact this) (jrn_bytes hsmL.out) (own_cap hall) (by omega)
        rw [scan_all L (fun y hy => (hsmL.out y hy).2), ← hm7] at hscan
        have HSC := Lib.hid hscan
        have HJL := Lib.hid hjl
        clear hall hJ hLn htot hm7 hlt hi hscan hjl
        go_upto_region 18 with (go_at_call 18; (with_reducible refine HSC.out.mono ?_); rintro e w3 ⟨u3, qs, rfl, hpo, hqs, hb3⟩; obtain ⟨Au, mu, cu, rfl⟩ := own_slice hpo.row)
        have hp3 := hpo.at_
        have hb23 : Below w.heap.size w w3 := HBR.out.trans (hb3.mono hsz)
        have hv3 := H.out.later hb23
        have hsame := sameParts_any (.slice Au mu cu) (.slice A i c) qs ps w3 hp3 hv3
          (fun q hq => by
            have : q.2 ∈ L := by rw [← hqs]; exact List.mem_map_of_mem hq
            exact (hsmL.out _ this).1)
          (fun p hp => HBY.out p hp)
        rw [decide_eq_true (by rw [hqs, HL.out])] at hsame
        have HSM := Lib.hid hsame
        have HALL3 := Lib.hid (own_later HALL.out hb3)
        have HB3 := Lib.hid hb23
        have hs3 : w.heap.size ≤ w3.heap.size := hb23.size
        clear hp3 hb23 hv3 hsame hpo hqs hb3
        go_upto_region 20 with (go_at_call 19; (with_reducible refine HSM.out.mono ?_); rintro e w4 ⟨rfl, hb4⟩)
        have HALL4 := Lib.hid (own_later HALL3.out hb4)
        have HB4 := Lib.hid (HB3.out.trans (hb4.mono hs3))
        have hs4 : w.heap.size ≤ w4.heap.size := HB4.out.size
        have h24 := H2.out.later HB4.out
        have H24 : Hid (BytesAt w4 (.slice A2 m2 c2) b2) := Lib.hid h24
        clear hb4 h24
        go_upto_region 21 with (at_builtin; refine wpList_append_bytes rfl _ _ rfl w.heap.size (.slice A7 m7 k7) (.slice A2 m2 c2) (jrn L) b2 rfl HALL4.out rfl H24.out (by rw [HJL.out, ← HN2.out]; omega) hs4 ?_; intro v' w5 ho5 hg5 ha5)
        have hb5 : Below w.heap.size w w5 := HB4.out.grown hg5 hs4 (fun k e => own_ge HALL4.out e)
        have hs5 : w.heap.size ≤ w5.heap.size := hb5.size
        have hby5 : AreBytes (jrn L ++ b2) := fun y hy => by
          rcases List.mem_append.1 hy with hy | hy
          · exact jrn_bytes hsmL.out y hy
          · exact K2.out y hy
        have hlen5 : (jrn L ++ b2).length ≤ 100000000 := by rw [List.length_append, HJL.out, ← HN2.out]; omega
        have hscan := Scan_any (jrn L ++ b2) v' w5 ho5.bytes hby5 (own_cap ho5) hlen5
        have hrs := fun W (hb : Below w5.heap.size w5 W) => rScan_any (jrn L ++ b2) v' W (ho5.bytes.later hb) hby5 (own_cap ho5) hlen5
        obtain ⟨t, ht⟩ : ∃ t, t = taken (scan (jrn L ++ b2)) := ⟨_, rfl⟩
        obtain ⟨sc, hsc⟩ : ∃ sc, sc = scan (jrn L ++ b2) := ⟨_, rfl⟩
        have hscb : ∀ y ∈ sc, AreBytes y := fun y hy => by
          rw [hsc] at hy
          exact scan_bytes hby5 y hy
        rw [← ht, ← hsc] at hscan
        simp only [← ht] at hrs
        simp only [← hsc] at hrs
        have HSC5 := Lib.hid hscan
        have HRS := Lib.hid hrs
        have HB5 := Lib.hid hb5
        have HSB := Lib.hid hscb
        clear hb5 hscan hrs ht hsc ho5 hg5 ha5 hby5 hlen5 hscb
        go_upto_region 23 with (first
          | (go_at_call 18; (with_reducible refine HSC5.out.mono ?_); rintro e w6 ⟨u6, qs6, rfl, hpo6, hqs6, hb6⟩; obtain ⟨A6, m6, c6, rfl⟩ := own_slice hpo6.row)
          | (go_at_call 20; (with_reducible refine (HRS.out w6 hb6).mono ?_); rintro e w7 ⟨u8, qs8, rfl, hpo8, hqs8, hb7⟩; obtain ⟨A8, m8, c8, rfl⟩ := own_slice hpo8.row))
        have hb57 : Below w.heap.size w w7 := (HB5.out.trans (hb6.mono hs5)).trans (hb7.mono (by have := hb6.size; omega))
        have hsm7 := sameParts_any (.slice A6 m6 c6) (.slice A8 m8 c8) qs6 qs8 w7 (hpo6.later hb7).at_ hpo8.at_
          (fun q hq => HSB.out _ (by rw [← hqs6]; exact List.mem_map_of_mem hq)) (fun q hq => HSB.out _ (by rw [← hqs8]; exact List.mem_map_of_mem hq))
        rw [decide_eq_true (by rw [hqs6, hqs8])] at hsm7
        have HSM7 := Lib.hid hsm7
        have HB7 := Lib.hid hb57
        have hs7 : w.heap.size ≤ w7.heap.size := hb57.size
        clear hb57 hsm7 hpo6 hpo8 hqs6 hqs8 hb6 hb7
        go_wp2_with (first
          | (go_at_call 19; (with_reducible refine HSM7.out.mono ?_); rintro e w8 ⟨rfl, hb8⟩)
          | (go_at_call 11; (with_reducible refine (HAWK.out w8 (HB7.out.trans (hb8.mono hs7))).mono ?_); rintro e w9 ⟨rfl, hb9⟩))
        go_ret
        exact ⟨rfl, (HB7.out.trans (hb8.mono hs7)).trans (hb9.mono (by have := hb8.size; omega))⟩
  · have ha := HAWK.out w (Below.refl _ _)
    by_cases g1 : n ≤ 100
    · have g1' : ¬ (100 : Int) < n := by omega
      by_cases g2 : m1 ≤ 70000
      · have g2' : ¬ (70000 : Int) < m1 := by omega
        have g3 : (1000 : Int) < m2 := by omega
        go_enter Tryz.func6, Tryz.ntmps6
        go_wp2_with (go_at_call 11; (with_reducible refine ha.mono ?_); rintro e w1 ⟨rfl, hb1⟩)
        go_ret
        exact ⟨rfl, hb1⟩
      · have g2' : (70000 : Int) < m1 := by omega
        go_enter Tryz.func6, Tryz.ntmps6
        go_wp2_with (go_at_call 11; (with_reducible refine ha.mono ?_); rintro e w1 ⟨rfl, hb1⟩)
        go_ret
        exact ⟨rfl, hb1⟩
    · have g1' : (100 : Int) < n := by omega
      go_enter Tryz.func6, Tryz.ntmps6
      go_wp2_with (go_at_call 11; (with_reducible refine ha.mono ?_); rintro e w1 ⟨rfl, hb1⟩)
      go_ret
      exact ⟨rfl, hb1⟩
end Go.Proofs.YtlamogpdkmbeoaaGreatDoor
end PartRecW
