/- The reference's 'check', 'record', 'Frame', 'First', 'Scan'; 'sameParts'. -/
import Derived.Test.YtlamogpdkmbeoaaGreatDoorZaScan
import Derived.Test.YtlamogpdkmbeoaaGreatDoorZaAwk
set_option linter.unusedVariables false
set_option linter.unusedSimpArgs false
set_option maxRecDepth 100000
namespace Go.Proofs.YtlamogpdkmbeoaaGreatDoor
open List renaming getElem_toArray → zq1, getElem_cons_succ → zq2, getElem_cons_zero → zq3, setIfInBounds_toArray → zq4, set_cons_zero → zq5, set_cons_succ → zq6
open Go.RowKit Go.Lib Go.Shelf

theorem rcheck_any (b : List Int) (v : Value) (w : World) (h : BytesAt w v b) (hb : AreBytes b) : Calls Tryz.prog 74 #[v] w fun e w' => e = .returned (.int .i64 (chk b)) ∧ w = w' := by
  have hm := h.max
  unfold maxLen at hm
  rcases h.place with ⟨rfl, A, c, rfl⟩ | ⟨g, o, c, rfl, h0, _, hbb, hcell⟩
  · go_enter Tryz.func74, Tryz.ntmps74
    go_wp2
    refine wp_loop_rounds 1 ?_
    rw [rounds_succ]
    go_wp2
    go_ret
    exact ⟨rfl, rfl⟩
  · have HCELL := Lib.hid hcell
    clear hcell h
    go_enter Tryz.func74, Tryz.ntmps74
    go_upto_region 3 with fail
    go_loop [3, 4] (fun s3 s4 => ∃ k : Nat, k ≤ b.length ∧ s4 = .int .i64 k ∧ s3 = .int .i64 (chk (b.take k))) (fun _ s4 => b.length - (intOf s4).toNat)
    case atStart => exact ⟨0, Nat.zero_le _, rfl, rfl⟩
    case round =>
      obtain ⟨k, hk, rfl, rfl⟩ := hrel
      have hbd := chk_bd (b.take k)
      by_cases hlt : k < b.length
      · obtain ⟨x, hx⟩ : ∃ x, x = b[k] := ⟨_, rfl⟩
        have hxb : 0 ≤ x ∧ x < 256 := by rw [hx]; exact hb _ (List.getElem_mem hlt)
        have hxc : w.cell? ⟨g, o + k, none⟩ = some (.int .u8 x) := by have := HCELL.out k hlt 0 _ rfl; rw [Nat.mul_one] at this; rw [hx]; exact this
        have HS : Hid (chk (b.take (k + 1)) = (chk (b.take k) * 31 + x) % 4294967291) := Lib.hid (by rw [List.take_succ_eq_append_getElem hlt, ← hx]; exact chkFrom_snoc _ _ _)
        obtain ⟨s, hs⟩ : ∃ s, s = chk (b.take k) := ⟨_, rfl⟩
        rw [← hs] at hbd HS ⊢
        clear hx hs
        go_wp2
        exact ⟨⟨k + 1, by omega, by simp, by rw [HS.out]⟩, by simp [intOf]; omega⟩
      · have e : k = b.length := by omega
        have HT : Hid (b.take k = b) := Lib.hid (by rw [e]; exact List.take_length)
        go_wp2
        go_ret
        exact ⟨by first | rfl | rw [HT.out], rfl⟩
theorem hd3_bytes (n : Int) : AreBytes (hd3 n) := fun x hx => by
  simp only [hd3, List.mem_cons, List.not_mem_nil, or_false] at hx
  rcases hx with rfl | rfl | rfl <;> omega
theorem bytes_new (w : World) (bs : List Int) (c : Nat) (hm : bs.length ≤ maxLen := by decide) : BytesAt (w.alloc (.cells (bs.flatMap encU).toArray 5)) (.slice (some ⟨w.heap.size, 0, none⟩) bs.length c) bs := bytes_blk (Blk.new w _ _) c hm
theorem own_empty (w : World) : OwnU (w.alloc (.cells #[] 5)) w.heap.size (.slice (some ⟨w.heap.size, 0, none⟩) 0 0) [] := World.ownsRow_made w #[] 0 (Nat.le_refl _) (Nat.zero_le _) rfl
abbrev HeadAt (w : World) (g : Nat) (x y z : Int) : Prop := Blk w g 5 #[.int .u8 x, .int .u8 y, .int .u8 z]
set_option maxHeartbeats 4000000 in
theorem rrecord_any (b : List Int) (v : Value) (w : World) (h : BytesAt w v b) (hb : AreBytes b) (hl : b.length ≤ 60000) :
    Calls Tryz.prog 38 #[v] w fun e w' => ∃ u, e = .returned u ∧ OwnU w' w.heap.size u (fr b) ∧ Below w.heap.size w w' := by
  have H := Lib.hid h
  have HBY := Lib.hid hb
  obtain ⟨A, c, rfl⟩ := h.len
  have hbd := chk_bd b
  clear h hb
  go_enter Tryz.func38, Tryz.ntmps38
  go_upto_region 3 with fail
  obtain ⟨x, hx⟩ : ∃ x, x = (b.length : Int) % 256 := ⟨_, rfl⟩
  obtain ⟨y, hy⟩ : ∃ y, y = (b.length : Int) / 256 % 256 := ⟨_, rfl⟩
  obtain ⟨z, hz⟩ : ∃ z, z = (b.length : Int) / 65536 := ⟨_, rfl⟩
  have hz' : z = (b.length : Int) / 65536 % 256 := by omega
  rw [← hx, ← hy, ← hz]
  have hbx : 0 ≤ x ∧ x < 256 := by omega
  have hby : 0 ≤ y ∧ y < 256 := by omega
  have hbz : 0 ≤ z ∧ z < 256 := by omega
  have HD : Hid (hd3 b.length = [x, y, z]) := Lib.hid (by unfold hd3; rw [← hx, ← hy, ← hz'])
  have hn := Lib.hid hl
  obtain ⟨W1, hW1⟩ : ∃ W1, w.alloc (.cells #[.int .u8 x, .int .u8 y, .int .u8 z] 5) = W1 := ⟨_, rfl⟩
  have hs1 : W1.heap.size = w.heap.size + 1 := by rw [← hW1]; simp
  have hB1 : Below w.heap.size w W1 := by rw [← hW1]; exact below_alloc0 _
  have hH1 : HeadAt W1 w.heap.size x y z := by rw [← hW1]; exact Blk.new _ _ _
  rw [hW1]
  have hrow : BytesAt W1 (.slice (some ⟨w.heap.size, 0, none⟩) 3 3) [x, y, z] := bytes_blk (bs := [x, y, z]) hH1 3 (by simp [maxLen])
  have HROW := Lib.hid hrow
  have HEM : Hid (OwnU (W1.alloc (.cells #[] 5)) (w.heap.size + 1) (.slice (some ⟨w.heap.size + 1, 0, none⟩) 0 0) []) := Lib.hid (by have := own_empty W1; rw [hs1] at this; exact this)
  have HH1 := Lib.hid hH1
  have HB1 := Lib.hid hB1
  clear hW1 hrow hH1 hB1 hx hy hz hz'
  go_upto_region 4 with (at_builtin; refine wpList_append_bytes rfl _ _ rfl (w.heap.size + 1) (.slice (some ⟨w.heap.size + 1, 0, none⟩) 0 0) (.slice (some ⟨w.heap.size, 0, none⟩) 3 3) [] [x, y, z] rfl HEM.out rfl (HROW.out.later (below_alloc0 _)) (by simp) (by simp; omega) ?_; intro v' w2 ho2 hg2 ha2)
  have hB2 : Below (w.heap.size + 1) W1 w2 := ((Below.refl _ _).alloc (by omega) (.cells #[] 5)).grown hg2 (by simp; omega) (fun k e => by simp [Value.ownBlock] at e; omega)
  rw [List.nil_append] at ho2
  clear hg2 ha2
  go_upto_region 5 with fail
  go_loopw [5, 6] (fun s5 s6 wr => ∃ i : Nat, i ≤ 3 ∧ s6 = .int .i64 i ∧ OwnU wr (w.heap.size + 1) s5 ([x, y, z] ++ (turn3 [x, y, z]).take i) ∧ Below (w.heap.size + 1) W1 wr) (fun _ s6 _ => 3 - (intOf s6).toNat)
  case atStart => exact ⟨0, by omega, rfl, by simpa using ho2, hB2⟩
  case round =>
    clear ho2 hB2
    obtain ⟨i, hi, rfl, hown, hb⟩ := hrel
    have hsz : w.heap.size + 1 ≤ wr.heap.size := by have := hb.size; omega
    have HOWN := Lib.hid hown
    have HB := Lib.hid hb
    clear hown hb
    by_cases hlt : i < 3
    · obtain ⟨t, ht, ht2, ht3⟩ : ∃ t : Int, (0 ≤ t ∧ t < 256) ∧ #[Value.int .u8 x, .int .u8 y, .int .u8 z][i]? = some (.int .u8 t) ∧ (turn3 [x, y, z]).take (i + 1) = (turn3 [x, y, z]).take i ++ [255 - t] := by
        have : i = 0 ∨ i = 1 ∨ i = 2 := by omega
        rcases this with rfl | rfl | rfl
        · exact ⟨x, hbx, rfl, rfl⟩
        · exact ⟨y, hby, rfl, rfl⟩
        · exact ⟨z, hbz, rfl, rfl⟩
      have ct : wr.cell? ⟨w.heap.size, i, none⟩ = some (.int .u8 t) := by
        have := (HH1.out.below HB.out (by omega)).cell i
        rw [ht2] at this; exact this
      have HT3 := Lib.hid ht3
      clear ht2 ht3
      go_wp2_with (at_builtin; refine wpList_append_bytes rfl _ _ rfl (w.heap.size + 1) u5 (.slice (some ⟨wr.heap.size, 0, none⟩) 1 1) _ [255 - t] rfl (own_later HOWN.out (below_alloc0 _)) rfl (bytes_new wr [255 - t] 1 (by simp [maxLen])) (by simp [turn3]; omega) (by simp; omega) ?_; intro v' w3 ho3 hg3 ha3)
      have hb3 : Below (w.heap.size + 1) W1 w3 := (HB.out.alloc (by omega) _).grown hg3 (by simp; omega) (fun k e => own_ge HOWN.out e)
      exact ⟨⟨i + 1, by omega, by simp, by rw [HT3.out, ← List.append_assoc]; exact ho3, hb3⟩, by simp [intOf]; omega⟩
    · have e3 : i = 3 := by omega
      have ho : OwnU wr (w.heap.size + 1) u5 ([x, y, z] ++ turn3 [x, y, z]) := by have := HOWN.out; rw [e3] at this; exact this
      have HO := Lib.hid ho
      have hbv := H.out.later (HB1.out.trans (HB.out.mono (by omega)))
      have HBV := Lib.hid hbv
      clear ho HOWN hbv e3
      go_upto_region 9 with (at_builtin; refine wpList_append_bytes rfl _ _ rfl (w.heap.size + 1) u5 (.slice A b.length c) _ b rfl HO.out rfl HBV.out (by simp [turn3]; omega) hsz ?_; intro v' w3 ho3 hg3 ha3)
      have hb3 : Below (w.heap.size + 1) W1 w3 := HB.out.grown hg3 hsz (fun k e => own_ge HO.out e)
      have hck := rcheck_any b _ w3 (H.out.later (HB1.out.trans (hb3.mono (by omega)))) HBY.out
      have hs3 : w.heap.size + 1 ≤ w3.heap.size := by have := hb3.size; omega
      have HO3 := Lib.hid ho3
      have HB3 := Lib.hid hb3
      clear ho3 hg3 ha3 hb3
      obtain ⟨q, hq⟩ : ∃ q, q = chk b := ⟨_, rfl⟩
      rw [← hq] at hck hbd
      have HFR : Hid ([x, y, z] ++ turn3 [x, y, z] ++ b ++ [q % 256, q / 256 % 256, q / 65536 % 256, q / 16777216] = fr b) := Lib.hid (by
        unfold fr low4
        rw [← hq, HD.out, show q / 16777216 % 256 = q / 16777216 by omega])
      clear hq
      go_upto_region 10 with (go_at_call 74; refine hck.mono ?_; rintro e2 w4 ⟨rfl, rfl⟩)
      have hfl : ([x, y, z] ++ turn3 [x, y, z] ++ b).length = 6 + b.length := by simp [turn3]; omega
      have HFL := Lib.hid hfl
      clear hfl
      go_wp2_with (at_builtin; refine wpList_append_bytes rfl _ _ rfl (w.heap.size + 1) v' (.slice (some ⟨w3.heap.size, 0, none⟩) 4 4) _ [q % 256, q / 256 % 256, q / 65536 % 256, q / 16777216] rfl (own_later HO3.out (below_alloc0 _)) rfl (bytes_new w3 [q % 256, q / 256 % 256, q / 65536 % 256, q / 16777216] 4 (by simp [maxLen])) (by rw [HFL.out]; simp; omega) (by simp; omega) ?_; intro v'' w5 ho5 hg5 ha5)
      go_ret
      rw [HFR.out] at ho5
      refine ⟨_, rfl, ownsRow_base_a ho5 (by omega), ?_⟩
      exact HB1.out.trans (((HB3.out.alloc (by omega) _).grown hg5 (by simp; omega) (fun k e => own_ge HO3.out e)).mono (by omega))
theorem rFrame_any (b : List Int) (v : Value) (w : World) (h : BytesAt w v b) (hb : AreBytes b) :
    Calls Tryz.prog 17 #[v] w fun e w' => ∃ u er, e = .returned (.tuple #[u, .int .i64 er]) ∧ ((b.length ≤ 60000 ∧ er = 0 ∧ OwnU w' w.heap.size u (fr b)) ∨ (60000 < b.length ∧ er = 2 ∧ u = .slice none 0 0)) ∧ Below w.heap.size w w' := by
  have hf := fun hl => rrecord_any b v w h hb hl
  obtain ⟨A, c, rfl⟩ := h.len
  clear h
  by_cases hl : b.length ≤ 60000
  · have hf := hf hl
    have hgt : ¬ (60000 : Int) < b.length := by omega
    go_enter Tryz.func17, Tryz.ntmps17
    go_wp2_with (go_at_call 38; refine hf.mono ?_; rintro e w1 ⟨u1, rfl, ho1, hb1⟩)
    go_ret2
    exact ⟨_, _, rfl, .inl ⟨hl, rfl, ho1⟩, hb1⟩
  · have hgt : (60000 : Int) < b.length := by omega
    go_enter Tryz.func17, Tryz.ntmps17
    go_wp2
    go_ret2
    exact ⟨_, _, rfl, .inr ⟨by omega, rfl, rfl⟩, Below.refl _ _⟩
theorem head_sums {b x : List Int} (h : rec1 b = some x) (i : Nat) (hi : i < 3) (h1 : i < b.length) (h2 : i + 3 < b.length) : b[i] + b[i + 3] = 255 := by
  obtain ⟨_, h3, h4, h5⟩ := rec1_some h
  have g : ∀ j, j < 6 → b[j]? = (fr x)[j]? := fun j hj => by rw [h5, List.getElem?_take, if_pos (by omega)]
  have e1 := g i (by omega)
  have e2 := g (i + 3) (by omega)
  rw [List.getElem?_eq_getElem h1, fr_head] at e1
  rw [List.getElem?_eq_getElem h2, fr_head] at e2
  have : i = 0 ∨ i = 1 ∨ i = 2 := by omega
  rcases this with rfl | rfl | rfl <;> simp only [List.cons_append, List.nil_append, List.getElem?_cons_zero, List.getElem?_cons_succ, Nat.zero_add, Nat.reduceAdd, Option.some.injEq] at e1 e2 <;> rw [e1, e2] <;> omega
theorem strOfNums_inj {xs ys : List Int} (h1 : AreBytes xs) (h2 : AreBytes ys) (h : strOfNums xs = strOfNums ys) : xs = ys := by
  have h' : xs.map (fun n => UInt8.ofNat n.toNat) = ys.map (fun n => UInt8.ofNat n.toNat) := by
    have := congrArg (fun s : ByteArray => s.data.toList) h
    rwa [strOfNums_data, strOfNums_data] at this
  have hl : xs.length = ys.length := by have := congrArg List.length h'; simpa using this
  refine List.ext_getElem hl fun i hi1 hi2 => ?_
  have e := congrArg (fun l => l[i]?) h'
  simp only [List.getElem?_map, List.getElem?_eq_getElem hi1, List.getElem?_eq_getElem hi2, Option.map_some, Option.some.injEq] at e
  have b1 := h1 _ (List.getElem_mem hi1)
  have b2 := h2 _ (List.getElem_mem hi2)
  have e3 := congrArg UInt8.toNat e
  rw [UInt8.toNat_ofNat', UInt8.toNat_ofNat'] at e3
  omega
set_option maxHeartbeats 4000000 in
theorem sameParts_any (v1 v2 : Value) (ps qs : List (Value × List Int)) (w : World) (h1 : PartsAt w v1 ps) (h2 : PartsAt w v2 qs) (b1 : ∀ p ∈ ps, AreBytes p.2) (b2 : ∀ q ∈ qs, AreBytes q.2) :
    Calls Tryz.prog 19 #[v1, v2] w fun e w' => e = .returned (.bool (decide (ps.map (·.2) = qs.map (·.2)))) ∧ Below w.heap.size w w' := by
  have hm := h1.row.max
  unfold maxLen at hm
  by_cases hn : ps.length = qs.length
  · have H1 := Lib.hid h1
    have H2 := Lib.hid h2
    have B1 := Lib.hid b1
    have B2 := Lib.hid b2
    have HN := Lib.hid hn
    obtain ⟨A1, c1, rfl⟩ := h1.row.len
    obtain ⟨A2, c2, rfl⟩ := h2.row.len
    rw [← hn]
    obtain ⟨n, hnn⟩ : ∃ n, n = ps.length := ⟨_, rfl⟩
    have HNN := Lib.hid hnn
    rw [← hnn] at hm ⊢
    clear h1 h2 b1 b2 hn hnn
    go_enter Tryz.func19, Tryz.ntmps19
    go_upto_region 4 with fail
    go_loopw [5] (fun s5 wr => ∃ k : Nat, k ≤ n ∧ s5 = .int .i64 k ∧ Hid ((ps.map (·.2)).take k = (qs.map (·.2)).take k) ∧ Below w.heap.size w wr) (fun s5 _ => n - (intOf s5).toNat)
    case atStart => exact ⟨0, Nat.zero_le _, rfl, Lib.hid rfl, Below.refl _ _⟩
    case round =>
      obtain ⟨k, hk, rfl, htk, hb⟩ := hrel
      by_cases hlt : k < n
      · have hk1 : k < ps.length := by have := HNN.out; omega
        have hk2 : k < qs.length := by have := HN.out; omega
        obtain ⟨p, hp⟩ : ∃ p, p = ps[k] := ⟨_, rfl⟩
        obtain ⟨q, hq⟩ : ∃ q, q = qs[k] := ⟨_, rfl⟩
        have hpm : p ∈ ps := by rw [hp]; exact List.getElem_mem hk1
        have hqm : q ∈ qs := by rw [hq]; exact List.getElem_mem hk2
        have hw1 := H1.out.later hb
        have hw2 := H2.out.later hb
        rcases hw1.row.place with ⟨e0, _⟩ | ⟨g1, o1, c1', e1, _, _, _, hcell1⟩
        · rw [e0] at hk1; simp at hk1
        rcases hw2.row.place with ⟨e0, _⟩ | ⟨g2, o2, c2', e2, _, _, _, hcell2⟩
        · rw [e0] at hk2; simp at hk2
        injection e1 with e1 _ _
        injection e2 with e2 _ _
        subst e1
        subst e2
        have cp : wr.cell? ⟨g1, o1 + k, none⟩ = some p.1 := by have := hcell1 k hk1 0 _ rfl; rw [Nat.mul_one, ← hp] at this; exact this
        have cq : wr.cell? ⟨g2, o2 + k, none⟩ = some q.1 := by have := hcell2 k hk2 0 _ rfl; rw [Nat.mul_one, ← hq] at this; exact this
        have k1 := (hw1.each p hpm).later (below_drewN0 (w := wr) 1)
        have k2 := (hw2.each q hqm).later (below_drewN0 (w := wr) 1)
        have bp := B1.out p hpm
        have bq := B2.out q hqm
        have hstep : p.2 = q.2 → (ps.map (·.2)).take (k + 1) = (qs.map (·.2)).take (k + 1) := fun e => by
          rw [List.take_succ_eq_append_getElem (by simpa using hk1), List.take_succ_eq_append_getElem (by simpa using hk2), htk.out, List.getElem_map, List.getElem_map, ← hp, ← hq, e]
        have hdiff : p.2 ≠ q.2 → ps.map (·.2) ≠ qs.map (·.2) := fun hne e => by
          apply hne
          have := congrArg (fun l => l[k]?) e
          simp only [List.getElem?_map, List.getElem?_eq_getElem hk1, List.getElem?_eq_getElem hk2, Option.map_some, Option.some.injEq] at this
          rw [hp, hq]; exact this
        have hsne : p.2 ≠ q.2 → strOfNums p.2 ≠ strOfNums q.2 := fun hne e => hne (strOfNums_inj bp bq e)
        obtain ⟨vp, bsp⟩ := p
        obtain ⟨vq, bsq⟩ := q
        dsimp only at cp cq k1 k2 hstep hdiff hsne
        have HB := Lib.hid hb
        have K1 := Lib.hid k1
        have K2 := Lib.hid k2
        clear k1 k2 hp hq hpm hqm hw1 hw2 hcell1 hcell2 bp bq hk1 hk2 hb
        by_cases heq : bsp = bsq
        · have HST := Lib.hid (hstep heq)
          subst heq
          clear hstep hdiff hsne
          go_upto_region 6 with fail
          refine wp_region_held_drew (S := (fun w' => w'.cell? ⟨g1, o1 + k, none⟩ = some vp ∧ w'.cell? ⟨g2, o2 + k, none⟩ = some vq ∧ BytesAt w' vp bsp ∧ BytesAt w' vq bsp)) (by kernel_rfl) ?hS1 (fun hHeld => ?_)
          case hS1 => exact ⟨cp, cq, K1.out, K2.out⟩
          refine tk1 (i := 0) (v := ?v1_1) ?hy1_1 ?_
          case hy1_1 => ((intro w hSw; (try dsimp only at hSw); go_simp) <;> with_reducible rfl)
          (try simp only [Act.put, zq1, zq2, zq3, zq4, zq5, zq6])
          refine tk1 (i := 1) (v := ?v1_2) ?hy1_2 ?_
          case hy1_2 => ((intro w hSw; (try dsimp only at hSw); go_simp) <;> with_reducible rfl)
          (try simp only [Act.put, zq1, zq2, zq3, zq4, zq5, zq6])
          refine tk1 (i := 2) (v := ?v1_3) ?hy1_3 ?_
          case hy1_3 => ((intro w hSw; (try dsimp only at hSw); go_simp) <;> with_reducible rfl)
          (try simp only [Act.put, zq1, zq2, zq3, zq4, zq5, zq6])
          refine tk1 (i := 3) (v := ?v1_4) ?hy1_4 ?_
          case hy1_4 => ((intro w hSw; (try dsimp only at hSw); go_simp) <;> with_reducible rfl)
          (try simp only [Act.put, zq1, zq2, zq3, zq4, zq5, zq6])
          refine tk1 (i := 4) (v := ?v1_5) ?hy1_5 ?_
          case hy1_5 => ((intro w hSw; (try dsimp only at hSw); go_simp; rw [conv_bytes hSw.2.2.1, Result.andThen_ok]) <;> with_reducible rfl)
          (try simp only [Act.put, zq1, zq2, zq3, zq4, zq5, zq6])
          refine tk1 (i := 5) (v := ?v1_6) ?hy1_6 ?_
          case hy1_6 => ((intro w hSw; (try dsimp only at hSw); go_simp) <;> with_reducible rfl)
          (try simp only [Act.put, zq1, zq2, zq3, zq4, zq5, zq6])
          refine tk1 (i := 6) (v := ?v1_7) ?hy1_7 ?_
          case hy1_7 => ((intro w hSw; (try dsimp only at hSw); go_simp) <;> with_reducible rfl)
          (try simp only [Act.put, zq1, zq2, zq3, zq4, zq5, zq6])
          refine tk1 (i := 7) (v := ?v1_8) ?hy1_8 ?_
          case hy1_8 => ((intro w hSw; (try dsimp only at hSw); go_simp) <;> with_reducible rfl)
          (try simp only [Act.put, zq1, zq2, zq3, zq4, zq5, zq6])
          refine tk1 (i := 8) (v := ?v1_9) ?hy1_9 ?_
          case hy1_9 => ((intro w hSw; (try dsimp only at hSw); go_simp) <;> with_reducible rfl)
          (try simp only [Act.put, zq1, zq2, zq3, zq4, zq5, zq6])
          refine tk1 (i := 9) (v := ?v1_10) ?hy1_10 ?_
          case hy1_10 => ((intro w hSw; (try dsimp only at hSw); go_simp; rw [conv_bytes hSw.2.2.2, Result.andThen_ok]) <;> with_reducible rfl)
          (try simp only [Act.put, zq1, zq2, zq3, zq4, zq5, zq6])
          refine tk1 (i := 10) (v := ?v1_11) ?hy1_11 ?_
          case hy1_11 => ((intro w hSw; (try dsimp only at hSw); go_simp) <;> with_reducible rfl)
          (try simp only [Act.put, zq1, zq2, zq3, zq4, zq5, zq6])
          refine wpAnyH_done (by kernel_rfl) ?_ _
          go_wp2
          exact ⟨⟨k + 1, by omega, by simp, HST, HB.out.drew⟩, by simp [intOf]; omega⟩
        · have HDF := Lib.hid (hdiff heq)
          have hsn := hsne heq
          clear hstep hdiff hsne heq
          go_upto_region 6 with fail
          refine wp_region_held_drew (S := (fun w' => w'.cell? ⟨g1, o1 + k, none⟩ = some vp ∧ w'.cell? ⟨g2, o2 + k, none⟩ = some vq ∧ BytesAt w' vp bsp ∧ BytesAt w' vq bsq)) (by kernel_rfl) ?hS2 (fun hHeld => ?_)
          case hS2 => exact ⟨cp, cq, K1.out, K2.out⟩
          refine tk1 (i := 0) (v := ?v2_1) ?hy2_1 ?_
          case hy2_1 => ((intro w hSw; (try dsimp only at hSw); go_simp) <;> with_reducible rfl)
          (try simp only [Act.put, zq1, zq2, zq3, zq4, zq5, zq6])
          refine tk1 (i := 1) (v := ?v2_2) ?hy2_2 ?_
          case hy2_2 => ((intro w hSw; (try dsimp only at hSw); go_simp) <;> with_reducible rfl)
          (try simp only [Act.put, zq1, zq2, zq3, zq4, zq5, zq6])
          refine tk1 (i := 2) (v := ?v2_3) ?hy2_3 ?_
          case hy2_3 => ((intro w hSw; (try dsimp only at hSw); go_simp) <;> with_reducible rfl)
          (try simp only [Act.put, zq1, zq2, zq3, zq4, zq5, zq6])
          refine tk1 (i := 3) (v := ?v2_4) ?hy2_4 ?_
          case hy2_4 => ((intro w hSw; (try dsimp only at hSw); go_simp) <;> with_reducible rfl)
          (try simp only [Act.put, zq1, zq2, zq3, zq4, zq5, zq6])
          refine tk1 (i := 4) (v := ?v2_5) ?hy2_5 ?_
          case hy2_5 => ((intro w hSw; (try dsimp only at hSw); go_simp; rw [conv_bytes hSw.2.2.1, Result.andThen_ok]) <;> with_reducible rfl)
          (try simp only [Act.put, zq1, zq2, zq3, zq4, zq5, zq6])
          refine tk1 (i := 5) (v := ?v2_6) ?hy2_6 ?_
          case hy2_6 => ((intro w hSw; (try dsimp only at hSw); go_simp) <;> with_reducible rfl)
          (try simp only [Act.put, zq1, zq2, zq3, zq4, zq5, zq6])
          refine tk1 (i := 6) (v := ?v2_7) ?hy2_7 ?_
          case hy2_7 => ((intro w hSw; (try dsimp only at hSw); go_simp) <;> with_reducible rfl)
          (try simp only [Act.put, zq1, zq2, zq3, zq4, zq5, zq6])
          refine tk1 (i := 7) (v := ?v2_8) ?hy2_8 ?_
          case hy2_8 => ((intro w hSw; (try dsimp only at hSw); go_simp) <;> with_reducible rfl)
          (try simp only [Act.put, zq1, zq2, zq3, zq4, zq5, zq6])
          refine tk1 (i := 8) (v := ?v2_9) ?hy2_9 ?_
          case hy2_9 => ((intro w hSw; (try dsimp only at hSw); go_simp) <;> with_reducible rfl)
          (try simp only [Act.put, zq1, zq2, zq3, zq4, zq5, zq6])
          refine tk1 (i := 9) (v := ?v2_10) ?hy2_10 ?_
          case hy2_10 => ((intro w hSw; (try dsimp only at hSw); go_simp; rw [conv_bytes hSw.2.2.2, Result.andThen_ok]) <;> with_reducible rfl)
          (try simp only [Act.put, zq1, zq2, zq3, zq4, zq5, zq6])
          refine tk1 (i := 10) (v := ?v2_11) ?hy2_11 ?_
          case hy2_11 => ((intro w hSw; (try dsimp only at hSw); go_simp) <;> with_reducible rfl)
          (try simp only [Act.put, zq1, zq2, zq3, zq4, zq5, zq6])
          refine wpAnyH_done (by kernel_rfl) ?_ _
          have hsl : ((strOfNums bsp).toList == (strOfNums bsq).toList) = false := by
            cases h : ((strOfNums bsp).toList == (strOfNums bsq).toList) with
            | false => rfl
            | true => exact absurd (toList_inj h) hsn
          rw [hsl]
          go_wp2
          go_ret
          exact ⟨by rw [decide_eq_false HDF.out]; rfl, HB.out.drew⟩
      · have hkn : Hid (ps.map (·.2) = qs.map (·.2)) := Lib.hid (by
          have e1 : k = ps.length := by have := HNN.out; omega
          have := htk.out
          rw [e1] at this
          have e2 := HN.out
          rw [List.take_of_length_le (by simp), List.take_of_length_le (by simp; omega)] at this
          exact this)
        go_wp2
        go_ret
        exact ⟨by rw [decide_eq_true hkn.out]; rfl, hb⟩
  · obtain ⟨A, c, rfl⟩ := h1.row.len
    obtain ⟨A2, c2, rfl⟩ := h2.row.len
    have hne : Hid (ps.map (·.2) ≠ qs.map (·.2)) := Lib.hid (fun e => hn (by have := congrArg List.length e; simpa using this))
    have hn' : ¬ (ps.length : Int) = qs.length := by omega
    clear h1 h2
    go_enter Tryz.func19, Tryz.ntmps19
    go_wp2
    go_ret
    exact ⟨by rw [decide_eq_false hne.out]; rfl, Below.refl _ _⟩
end Go.Proofs.YtlamogpdkmbeoaaGreatDoor
