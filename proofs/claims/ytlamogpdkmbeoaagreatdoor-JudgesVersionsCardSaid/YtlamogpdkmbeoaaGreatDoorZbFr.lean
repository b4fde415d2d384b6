/- The texts FrB, FrC in one. -/
import Derived.Test.YtlamogpdkmbeoaaGreatDoorZbLed
import Derived.Test.YtlamogpdkmbeoaaGreatDoorZbShelfB
import Derived.Test.YtlamogpdkmbeoaaGreatDoorZbCopy
import Derived.Maps.AppendAt
import Derived.Laws.OwnMore
import Derived.Test.YtlamogpdkmbeoaaGreatDoorZbEnt
set_option linter.unusedVariables false
set_option linter.unusedSimpArgs false
section PartFrB
/- append at bytes; 'slices.Concat'. -/
set_option maxRecDepth 100000
namespace Go.Proofs.YtlamogpdkmbeoaaGreatDoor
open Go.RowKit Go.Lib Go.Shelf

theorem run_append_none' {P : Program} (w : World) (base : Nat) (t ty e : TypeId) (i : TypeInfo) (size : Nat) (ht : P.underlying t = some (.slice e)) (hi : P.info? e = some i)
    (v : Value) (n c : Nat) (xs : List Value) (hown : w.ownsRow base e size v n xs) :
    (Builtin.append_ #[t, t] ty #[v, .slice none 0 c]).run P w = .ok v w := by
  rcases hown.2 with ⟨rfl, rfl⟩ | ⟨g, cap, cur, rfl, _, _, hnc, _⟩
  · simp [Builtin.append_, run_underlying ht, sizeOf, typeInfo, hi, Builtin.lenOf, Builtin.firstCells]
  · simp [Builtin.append_, run_underlying ht, sizeOf, typeInfo, hi, Builtin.lenOf, Builtin.firstCells, hnc, storeCells]
theorem flat_u_len (bs : List Int) : (bs.flatMap encU).length = bs.length := by
  induction bs with
  | nil => rfl
  | cons b r ih => simp [List.flatMap_cons] at ih ⊢; exact ih
theorem flat_u_one (bs : List Int) : ∀ u ∈ bs.flatMap encU, u.oneCell' = true := fun u hu => by
  obtain ⟨x, _, hx⟩ := List.mem_flatMap.1 hu
  simp at hx
  subst hx
  rfl
/-- Bytes are appended to a row of the call's own. -/
theorem run_append_bytes {w : World} (base : Nat) (ty : TypeId) (v vx : Value) (xs ys : List Int) (hown : OwnU w base v xs) (hx : BytesAt w vx ys)
    (h63 : xs.length + ys.length ≤ 140737488355328) (hbase : base ≤ w.heap.size) :
    ∃ v' w', (Builtin.append_ #[57, 57] ty #[v, vx]).run Tryz.prog w = .ok v' w' ∧ OwnU w' base v' (xs ++ ys) ∧ w.grownBy w' v.ownBlock ∧ (v'.ownBlock = v.ownBlock ∨ v'.ownBlock = some w.heap.size) := by
  have US := Tryz.underlying57
  obtain ⟨i0, hi, hz0, hz1, hz2⟩ := infoByte
  have main : ∀ (a : Addr) (c : Nat), (∀ j u, (ys.flatMap encU)[j]? = some u → w.cell? (a.add j) = some u) → vx = .slice (some a) ys.length c → ∃ v' w', (Builtin.append_ #[57, 57] ty #[v, vx]).run Tryz.prog w = .ok v' w' ∧ OwnU w' base v' (xs ++ ys) ∧ w.grownBy w' v.ownBlock ∧ (v'.ownBlock = v.ownBlock ∨ v'.ownBlock = some w.heap.size) := fun a c hc e => by
    subst e
    obtain ⟨v', w', h1, h2, h3, h4, h5⟩ := run_append_own_at (P := Tryz.prog) w base 57 ty 5 i0 _ 1 1 US hi hz0 hz1 hz2 rfl (by decide) v xs.length _ hown a ys.length c (ys.flatMap encU) (by rw [flat_u_len]; omega) hc (flat_u_one ys) (by unfold maxLen; omega) (by omega) hbase
    exact ⟨v', w', h1, by unfold OwnU; rw [List.length_append, List.flatMap_append]; exact h2, h3, h5⟩
  rcases hx.place with ⟨rfl, A, c, rfl⟩ | ⟨b, o, c, rfl, h0, _, hb, hc⟩
  · cases A with
    | none =>
      refine ⟨v, w, run_append_none' w base _ _ _ i0 1 US hi v _ c _ hown, by simpa using hown, ⟨rfl, rfl, rfl, Nat.le_refl _, fun _ _ _ => rfl⟩, .inl rfl⟩
    | some a => exact main a c (by simp) rfl
  · refine main ⟨b, o, none⟩ c ?_ rfl
    intro j u hj
    have := news_of_rows 1 (fun _ => rfl) hc j u hj
    unfold Addr.add
    split
    · rename_i e0
      subst e0
      exact this
    · exact this
theorem wpList_append_bytes {w : World} {ops : Array Oper} {rest : List Oper} {o : Oper} {a : Act} {Q : Exit → Act → World → Prop} (hgd : o.guard = none) (s x : Operand)
    (ho : o.op = .call { callee := .builtin .append, args := #[s, x], argTypes := #[57, 57] })
    (base : Nat) (v vx : Value) (xs ys : List Int) (hs : a.eval s = v) (hown : OwnU w base v xs) (hxe : a.eval x = vx) (hx : BytesAt w vx ys)
    (h63 : xs.length + ys.length ≤ 140737488355328) (hbase : base ≤ w.heap.size)
    (h : ∀ v' w', OwnU w' base v' (xs ++ ys) → w.grownBy w' v.ownBlock → (v'.ownBlock = v.ownBlock ∨ v'.ownBlock = some w.heap.size) → wpList Tryz.prog ops Q rest (a.put o.dst v') w') :
    wpList Tryz.prog ops Q (o :: rest) a w := by
  refine wpList_plain hgd fun K hK => ?_
  obtain ⟨v', w', hr, h2, h3, h5⟩ := run_append_bytes base o.type v vx xs ys hown hx h63 hbase
  unfold Oper.wp execOp
  simp only [ho, resolve, invoke, builtin, Sem.run_bind, Sem.run_pure, Result.andThen_ok, List.map_toArray, List.map_cons, List.map_nil, hs, hxe, hr]
  exact hK _ _ (h v' w' h2 h3 h5)
theorem grow_any (n : Nat) (w : World) (h0 : 0 < n) (hm : n ≤ 100000) : Calls Tryz.prog 116 #[.slice none 0 0, .int .i64 n] w fun e w' => ∃ cap, e = .returned (.slice (some ⟨w.heap.size, 0, none⟩) 0 cap) ∧ OwnU w' w.heap.size (.slice (some ⟨w.heap.size, 0, none⟩) 0 cap) [] ∧ Below w.heap.size w w' := by
  obtain ⟨i0, hi, hz0, hz1, hz2⟩ := infoByte
  refine (Any8.slices_Grow_grow Tryz.growBytes i0 _ hi hz0 (by rw [hz1]; decide) none 0 0 n [] w (Nat.le_refl _) (by omega) (by rw [hz2]; omega) (by omega) (by simp) (fun _ => rfl) (fun a e => by cases e)).mono ?_
  rintro e w' ⟨rfl, rfl⟩
  refine ⟨_, rfl, ?_, below_ad _⟩
  have h1 := grownCap_ge w (0 + n) 0 5
  have h2 := grownCap_le_maxLen w (0 + n) 0 5 (by unfold maxLen; omega)
  refine ⟨by simp, .inr ⟨w.heap.size, _, _, rfl, Nat.le_refl _, heap_alloc_new w.drew _, Nat.zero_le _, h2, ?_, by simp⟩⟩
  have hc : (Value.cells (Value.int .u8 0)).size = 1 := rfl
  simp only [Array.size_append, size_zeroCells, hc]
  show 0 + _ + _ = grownCap w (0 + n) 0 5 * 1
  have h3 : grownCap w (0 + n) 0 (Tryz.growBytes_ren.t 25) = grownCap w (0 + n) 0 5 := rfl
  rw [h3]
  omega
/-- A slice of byte rows. -/
structure PartsAt (w : World) (v : Value) (ps : List (Value × List Int)) : Prop where
  row : RowsAt (fun p : Value × List Int => [p.1]) 1 w v ps
  each : ∀ p ∈ ps, BytesAt w p.1 p.2
theorem PartsAt.later {w w' : World} {v : Value} {ps : List (Value × List Int)} (h : PartsAt w v ps) (hb : Below w.heap.size w w') : PartsAt w' v ps := ⟨h.row.later hb, fun p hp => (h.each p hp).later hb⟩
abbrev cat (ps : List (Value × List Int)) : List Int := ps.flatMap (·.2)
theorem cat_take {ps : List (Value × List Int)} {k : Nat} (hk : k < ps.length) : cat (ps.take (k + 1)) = cat (ps.take k) ++ ps[k].2 := by
  rw [List.take_succ_eq_append_getElem hk]
  unfold cat
  rw [List.flatMap_append]
  simp
theorem cat_le {ps : List (Value × List Int)} {k : Nat} : (cat (ps.take k)).length ≤ (cat ps).length := by
  have : cat ps = cat (ps.take k) ++ cat (ps.drop k) := by
    conv => lhs; rw [← List.take_append_drop k ps]
    unfold cat
    rw [List.flatMap_append]
  rw [this, List.length_append]
  omega
set_option maxHeartbeats 4000000 in
theorem concat_any (v : Value) (ps : List (Value × List Int)) (w : World) (h : PartsAt w v ps) (h0 : 0 < (cat ps).length) (hm : (cat ps).length ≤ 100000) :
    Calls Tryz.prog 72 #[v] w fun e w' => ∃ u, e = .returned u ∧ OwnU w' w.heap.size u (cat ps) ∧ Below w.heap.size w w' := by
  have US := Tryz.underlying57
  obtain ⟨i0, hi, hz0, hz1, hz2⟩ := infoByte
  have hmx := h.row.max
  unfold maxLen at hmx
  have hps : 0 < ps.length := by
    rcases ps with _ | ⟨p, r⟩
    · simp at h0
    · simp
  have HEACH := Lib.hid h.each
  have hG := grow_any (cat ps).length w h0 hm
  have HG := Lib.hid hG
  rcases h.row.place with ⟨rfl, A, c, rfl⟩ | ⟨b, o, c, rfl, _, _, hbb, hcell⟩
  · simp at hps
  have HCELL := Lib.hid hcell
  clear hcell h hG
  go_enter Tryz.func72, Tryz.ntmps72
  go_upto_region 3 with fail
  go_loop [3, 11] (fun s3 s11 => ∃ k : Nat, k ≤ ps.length ∧ s11 = .int .i64 k ∧ s3 = .int .i64 (cat (ps.take k)).length) (fun _ s11 => ps.length - (intOf s11).toNat)
  case atStart => exact ⟨0, Nat.zero_le _, rfl, rfl⟩
  case round =>
    obtain ⟨k, hk, rfl, rfl⟩ := hrel
    have hle := cat_le (ps := ps) (k := k)
    by_cases hlt : k < ps.length
    · obtain ⟨x, hx⟩ : ∃ x, x = ps[k] := ⟨_, rfl⟩
      have hxb : BytesAt w x.1 x.2 := by rw [hx]; exact HEACH.out _ (List.getElem_mem hlt)
      have hxc : w.cell? ⟨b, o + k, none⟩ = some x.1 := by have := HCELL.out k hlt 0 _ rfl; rw [Nat.mul_one] at this; rw [hx]; exact this
      have HS : Hid ((cat (ps.take (k + 1))).length = (cat (ps.take k)).length + x.2.length) := Lib.hid (by rw [cat_take hlt, List.length_append, ← hx])
      have hle2 := cat_le (ps := ps) (k := k + 1)
      rw [HS.out] at hle2
      obtain ⟨A, c2, hxv⟩ := hxb.len
      rw [hxv] at hxc
      obtain ⟨s, hs⟩ : ∃ s, s = (cat (ps.take k)).length := ⟨_, rfl⟩
      obtain ⟨n, hn⟩ : ∃ n, n = x.2.length := ⟨_, rfl⟩
      rw [← hn] at hxc HS hle2
      rw [← hs] at hle hle2 HS ⊢
      have HN := Lib.hid hn
      clear hx hs hxb hxv hn
      go_wp2
      exact ⟨⟨k + 1, by omega, by simp, by rw [HS.out]; simp⟩, by simp [intOf]; omega⟩
    · have e : k = ps.length := by omega
      have HT : Hid (cat (ps.take k) = cat ps) := Lib.hid (by rw [e]; rw [List.take_length])
      rw [HT.out] at hle ⊢
      obtain ⟨n, hn⟩ : ∃ n, n = (cat ps).length := ⟨_, rfl⟩
      rw [← hn] at HG hm h0 hle ⊢
      have HN := Lib.hid hn
      clear hn
      go_upto_region 11 with (go_at_call 116; refine HG.out.mono ?_; rintro e w1 ⟨cap, rfl, ho1, hb1⟩)
      have HO1 := Lib.hid ho1
      have HB1 := Lib.hid hb1
      clear ho1 hb1
      go_loopw [6, 27] (fun s6 s27 wr => ∃ k : Nat, k ≤ ps.length ∧ s27 = .int .i64 k ∧ OwnU wr w.heap.size s6 (cat (ps.take k)) ∧ Below w.heap.size w wr) (fun _ s27 _ => ps.length - (intOf s27).toNat)
      case atStart => exact ⟨0, Nat.zero_le _, rfl, HO1.out, HB1.out⟩
      case round =>
        obtain ⟨k, hk, rfl, hown, hb⟩ := hrel
        have hsz := hb.size
        have HOWN := Lib.hid hown
        have HB := Lib.hid hb
        clear hown hb
        by_cases hlt : k < ps.length
        · obtain ⟨x, hx⟩ : ∃ x, x = ps[k] := ⟨_, rfl⟩
          have hxb : BytesAt wr x.1 x.2 := by rw [hx]; exact (HEACH.out _ (List.getElem_mem hlt)).later HB.out
          have hxc : wr.cell? ⟨b, o + k, none⟩ = some x.1 := by have := HCELL.out k hlt 0 _ rfl; rw [Nat.mul_one] at this; rw [hx]; exact (HB.out.cell (p := ⟨b, o + k, none⟩) hbb).trans this
          have HS : Hid (cat (ps.take (k + 1)) = cat (ps.take k) ++ x.2) := Lib.hid (by rw [cat_take hlt, ← hx])
          have hle2 := cat_le (ps := ps) (k := k + 1)
          rw [HS.out, List.length_append, ← HN.out] at hle2
          have HXB := Lib.hid hxb
          obtain ⟨A, c2, hxv⟩ := hxb.len
          have HXV := Lib.hid hxv
          rw [hxv] at hxc
          clear hx hxb hxv
          go_wp2_with (at_builtin; refine wpList_append_bytes rfl _ _ rfl w.heap.size u6 x.1 _ _ rfl HOWN.out HXV.out.symm HXB.out (by omega) hsz ?_; intro v' w2 ho2 hg2 hat2)
          have hb2 : Below w.heap.size w w2 := HB.out.grown hg2 hsz (fun j e => own_ge HOWN.out e)
          exact ⟨⟨k + 1, by omega, by simp, by rw [HS.out]; exact ho2, hb2⟩, by simp [intOf]; omega⟩
        · have e : k = ps.length := by omega
          have HT : Hid (cat (ps.take k) = cat ps) := Lib.hid (by rw [e]; rw [List.take_length])
          go_wp2
          go_ret
          have := HOWN.out
          exact ⟨_, rfl, by first | exact this | (rw [HT.out] at this; exact this), HB.out⟩
end Go.Proofs.YtlamogpdkmbeoaaGreatDoor
end PartFrB

section PartFrC
/- 'framed', 'Frame'. -/
set_option maxRecDepth 100000
namespace Go.Proofs.YtlamogpdkmbeoaaGreatDoor
open Go.RowKit Go.Lib Go.Shelf

theorem OwnU.bytes {w : World} {base : Nat} {v : Value} {bs : List Int} (h : OwnU w base v bs) : BytesAt w v bs := rows_of_owns 1 (fun _ => rfl) h
set_option maxHeartbeats 2000000 in
theorem cloneBytes_any (v : Value) (xs : List Int) (w : World) (h : BytesAt w v xs) (hl : xs.length ≤ 1000000) :
    Calls Tryz.prog 71 #[v] w fun e w' => ∃ v', e = .returned v' ∧ OwnU w' w.heap.size v' xs ∧ Below w.heap.size w w' := by
  have US := Tryz.underlying57
  obtain ⟨i0, hi, hz0, hz1, hz2⟩ := infoByte
  have q22 : ∀ (w : World) (a : Option Addr) (n c n' c' : Nat), (binOp .eql 57 (.slice a n c) (.slice none n' c')).run Tryz.prog w = .ok (.bool a.isNone) w := fun w a n c n' c' => Lib.run_eql_slice_nil w _ _ a n c n' c' US
  obtain ⟨A, c, rfl⟩ := h.len
  cases A with
  | none =>
    have : xs = [] := by
      rcases h.place with ⟨h1, _⟩ | ⟨b, o, c, e, _⟩
      · exact h1
      · injection e with e; cases e
    subst this
    go_enter Tryz.func71, Tryz.ntmps71
    go_wp2
    go_ret
    exact ⟨_, rfl, World.ownsRow_nil _ _ _ _, Below.refl _ _⟩
  | some a =>
    have H := Lib.hid h
    clear h
    go_enter Tryz.func71, Tryz.ntmps71
    go_wp2_with (at_builtin; refine wpList_append_bytes rfl _ _ rfl w.heap.size (.slice (some ⟨w.heap.size, 0, none⟩) 0 0) (.slice (some a) xs.length c) [] xs rfl (World.ownsRow_made w #[] 0 (Nat.le_refl _) (Nat.zero_le _) rfl) rfl (H.out.later (below_alloc0 _)) (by simp; omega) (by simp) ?_; intro v' w1 hown hgrow hat)
    go_ret
    exact ⟨v', rfl, by simpa using hown, (below_alloc0 _).grown hgrow (by simp) (by intro k hk; simp [Value.ownBlock] at hk; omega)⟩
theorem parts4 {w : World} {v1 v2 v3 v4 : Value} {b1 b2 b3 b4 : List Int} (h1 : BytesAt w v1 b1) (h2 : BytesAt w v2 b2) (h3 : BytesAt w v3 b3) (h4 : BytesAt w v4 b4) :
    PartsAt (w.alloc (.cells #[v1, v2, v3, v4] 57)) (.slice (some ⟨w.heap.size, 0, none⟩) 4 4) [(v1, b1), (v2, b2), (v3, b3), (v4, b4)] := by
  have hB := Blk.new w 57 #[v1, v2, v3, v4]
  have hb := below_alloc0 (w := w) (.cells #[v1, v2, v3, v4] 57)
  refine ⟨⟨some ⟨w.heap.size, 0, none⟩, 4, rfl, by simp [maxLen], fun j hj => ⟨w.heap.size, 0, rfl, hB.lt, fun i u hu => ?_⟩⟩, fun p hp => ?_⟩
  · match j, hj, i, hu with
    | 0, _, 0, hu => rw [hB.cell]; exact hu
    | 1, _, 0, hu => rw [hB.cell]; exact hu
    | 2, _, 0, hu => rw [hB.cell]; exact hu
    | 3, _, 0, hu => rw [hB.cell]; exact hu
  · simp only [List.mem_cons, List.not_mem_nil, or_false] at hp
    rcases hp with rfl | rfl | rfl | rfl
    · exact h1.later hb
    · exact h2.later hb
    · exact h3.later hb
    · exact h4.later hb
abbrev turn3 (bs : List Int) : List Int := bs.map fun x => 255 - x
set_option maxHeartbeats 4000000 in
theorem framed_any (b : List Int) (v : Value) (w : World) (h : BytesAt w v b) (hb : AreBytes b) (hl : b.length ≤ 60000) :
    Calls Tryz.prog 37 #[v] w fun e w' => ∃ u, e = .returned u ∧ OwnU w' w.heap.size u (fr b) ∧ Below w.heap.size w w' := by
  have H := Lib.hid h
  have HBY := Lib.hid hb
  obtain ⟨A, c, rfl⟩ := h.len
  have hlow := low_any b.length 3 w (by omega) (by omega) (by decide)
  clear h hb
  go_enter Tryz.func37, Tryz.ntmps37
  go_upto_region 2 with (go_at_call 70; refine hlow.mono ?_; rintro e w1 ⟨u1, rfl, ho1, hb1⟩)
  obtain ⟨A1, m1, k1, rfl⟩ := own_slice ho1
  obtain ⟨u1, hu1⟩ : ∃ u1, u1 = Value.slice A1 m1 k1 := ⟨_, rfl⟩
  rw [← hu1] at ho1
  have HU1 := Lib.hid hu1
  clear hu1
  rw [lowL_3] at ho1
  have hcl := cloneBytes_any u1 (hd3 b.length) w1 ho1.bytes (by simp [hd3])
  rw [HU1.out] at hcl
  have HO1 := Lib.hid ho1
  have HB1 := Lib.hid hb1
  clear hlow ho1 hb1
  go_upto_region 3 with (go_at_call 71; refine hcl.mono ?_; rintro e w2 ⟨u2, rfl, ho2, hb2⟩)
  have HO1' : Hid (OwnU w2 w.heap.size u1 (hd3 b.length)) := Lib.hid (own_later HO1.out hb2)
  have HB2 : Hid (Below w.heap.size w w2) := Lib.hid (HB1.out.trans (hb2.mono HB1.out.size))
  have hfar : Hid (∀ j, u1.ownBlock = some j → j < w1.heap.size) := Lib.hid (fun j hj => by
    rcases HO1.out.2 with ⟨rfl, _⟩ | ⟨g, cap, cur, rfl, _, hg, _⟩
    · simp [Value.ownBlock] at hj
    · have : g = j := by simpa [Value.ownBlock] using hj
      subst this
      rcases Nat.lt_or_ge g w1.heap.size with h | h
      · exact h
      · rw [Array.getElem?_eq_none h] at hg; cases hg)
  change w2.ownsRow w1.heap.size 5 1 u2 3 _ at ho2
  obtain ⟨g, cap, rfl, hg1, hg2⟩ := ho2.form (by decide)
  obtain ⟨x, y, z, hd, hx, hy, hz⟩ : ∃ x y z : Int, hd3 b.length = [x, y, z] ∧ (0 ≤ x ∧ x < 256) ∧ (0 ≤ y ∧ y < 256) ∧ (0 ≤ z ∧ z < 256) := ⟨_, _, _, rfl, by omega, by omega, by omega⟩
  have HD := Lib.hid hd
  rw [hd] at ho2
  have c0 : w2.cell? ⟨g, 0, none⟩ = some (.int .u8 x) := ho2.cellAt 0 (by simp)
  have c1 : w2.cell? ⟨g, 1, none⟩ = some (.int .u8 y) := ho2.cellAt 1 (by simp)
  have c2 : w2.cell? ⟨g, 2, none⟩ = some (.int .u8 z) := ho2.cellAt 2 (by simp)
  have f := ho2.frozenAt
  have f0 := f 0
  have f1 := f 1
  have f2 := f 2
  have HO2 := Lib.hid ho2
  have HGG := Lib.hid hg1
  clear hcl hb2 ho2 f hd hg1
  go_upto_region 4 with fail
  refine wp_loop_rounds 4 ?_
  rw [rounds_succ]
  go_wp2
  rw [rounds_succ]
  go_wp2
  rw [rounds_succ]
  go_wp2
  rw [rounds_succ]
  go_upto_region 8 with fail
  obtain ⟨w3, hw3⟩ : ∃ w3, (((w2.setCell ⟨g, 0, none⟩ (.int .u8 (255 - x))).setCell ⟨g, 1, none⟩ (.int .u8 (255 - y))).setCell ⟨g, 2, none⟩ (.int .u8 (255 - z))) = w3 := ⟨_, rfl⟩
  rw [hw3]
  have s1 := HO2.out.stored 0 (.int .u8 (255 - x))
  have s2 := s1.1.stored 1 (.int .u8 (255 - y))
  have s3 := s2.1.stored 2 (.int .u8 (255 - z))
  have hgr := (s1.2.trans s2.2).trans s3.2
  rw [hw3] at s3 hgr
  have ho3 : OwnU w3 w1.heap.size (.slice (some ⟨g, 0, none⟩) 3 cap) (turn3 (hd3 b.length)) := by rw [HD.out]; exact s3.1
  have hsz1 := HB1.out.size
  have hgw : w1.heap.size ≤ g := HGG.out
  have hb3 : Below w.heap.size w w3 := HB2.out.grown hgr HB2.out.size (fun j e => by injection e with e; omega)
  have ho13 : OwnU w3 w.heap.size u1 (hd3 b.length) := HO1'.out.kept hgr (by
    cases hu : u1.ownBlock with
    | none => exact .inl rfl
    | some j => exact .inr (fun e => by injection e with e; have := hfar.out j hu; omega))
  have hbv := H.out.later hb3
  have hck := check_any b _ w3 hbv HBY.out
  have hbd := chk_bd b
  have hlow := low_any (chk b) 4 w3 (by omega) (by omega) (by decide)
  have hsz3 := hb3.size
  have HO3 := Lib.hid ho3
  have HO13 := Lib.hid ho13
  have HBV := Lib.hid hbv
  have HB3 := Lib.hid hb3
  clear s1 s2 s3 hgr hw3 ho3 ho13 hbv hb3 c0 c1 c2 f0 f1 f2 hg2
  have hcc := fun (u4 : Value) (w4 : World) (ho4 : OwnU w4 w3.heap.size u4 (lowL (chk b) 4)) (hb4 : Below w3.heap.size w3 w4) =>
    concat_any (.slice (some ⟨w4.heap.size, 0, none⟩) 4 4) [(u1, hd3 b.length), (.slice (some ⟨g, 0, none⟩) 3 cap, turn3 (hd3 b.length)), (.slice A b.length c, b), (u4, lowL (chk b) 4)] (w4.alloc (.cells #[u1, .slice (some ⟨g, 0, none⟩) 3 cap, .slice A b.length c, u4] 57))
      (parts4 ((OwnU.bytes HO13.out).later hb4) ((OwnU.bytes HO3.out).later hb4) (HBV.out.later hb4) (OwnU.bytes ho4)) (by simp [cat, hd3]) (by simp [cat, hd3, lowL_length]; omega)
  rw [HU1.out] at hcc
  have HCC := Lib.hid hcc
  clear hcc
  go_wp2_with (first
    | (go_at_call 73; refine hck.mono ?_; rintro e wc ⟨rfl, rfl⟩)
    | (go_at_call 70; refine hlow.mono ?_; rintro e w4 ⟨u4, rfl, ho4, hb4⟩; obtain ⟨A4, m4, k4, rfl⟩ := own_slice ho4)
    | (go_at_call 72; refine (HCC.out _ w4 ho4 hb4).mono ?_; rintro e w5 ⟨u5, rfl, ho5, hb5⟩))
  go_ret
  refine ⟨u5, rfl, ?_, ?_⟩
  · rw [lowL_4] at ho5
    have e : cat [(Value.slice A1 m1 k1, hd3 b.length), (.slice (some ⟨g, 0, none⟩) 3 cap, turn3 (hd3 b.length)), (.slice A b.length c, b), (.slice A4 m4 k4, low4 (chk b))] = fr b := by simp [cat, fr]
    rw [e] at ho5
    exact ownsRow_base_a ho5 (by have := hb4.size; simp; omega)
  · exact (HB3.out.trans (hb4.mono hsz3)).trans (((below_alloc0 _).trans (hb5.mono (by simp))).mono (by have := hb4.size; omega))
/-- 'Frame': the record, or an error where there are too many bytes. -/
theorem Frame_any (b : List Int) (v : Value) (w : World) (h : BytesAt w v b) (hb : AreBytes b) :
    Calls Tryz.prog 16 #[v] w fun e w' => ∃ u er, e = .returned (.tuple #[u, .int .i64 er]) ∧ ((b.length ≤ 60000 ∧ er = 0 ∧ OwnU w' w.heap.size u (fr b)) ∨ (60000 < b.length ∧ er = 2 ∧ u = .slice none 0 0)) ∧ Below w.heap.size w w' := by
  have hf := fun hl => framed_any b v w h hb hl
  obtain ⟨A, c, rfl⟩ := h.len
  clear h
  by_cases hl : b.length ≤ 60000
  · have hf := hf hl
    have hgt : ¬ (60000 : Int) < b.length := by omega
    go_enter Tryz.func16, Tryz.ntmps16
    go_wp2_with (go_at_call 37; refine hf.mono ?_; rintro e w1 ⟨u1, rfl, ho1, hb1⟩)
    go_ret2
    exact ⟨_, _, rfl, .inl ⟨hl, rfl, ho1⟩, hb1⟩
  · have hgt : (60000 : Int) < b.length := by omega
    go_enter Tryz.func16, Tryz.ntmps16
    go_wp2
    go_ret2
    exact ⟨_, _, rfl, .inr ⟨by omega, rfl, rfl⟩, Below.refl _ _⟩
end Go.Proofs.YtlamogpdkmbeoaaGreatDoor
end PartFrC
