/- 'JudgesKnown': the walk. -/
import Derived.Test.YtlamogpdkmbeoaaGreatDoorZbDel
import Derived.Test.YtlamogpdkmbeoaaGreatDoorZbSames
import Derived.Test.YtlamogpdkmbeoaaGreatDoorZbMerK
import Derived.Test.YtlamogpdkmbeoaaGreatDoorZbAwk
set_option linter.unusedVariables false
set_option linter.unusedSimpArgs false
set_option maxRecDepth 100000
namespace Go.Proofs.YtlamogpdkmbeoaaGreatDoor
open Go.RowKit Go.Lib Go.Shelf Go.Maps

theorem FoldRel.mem {q : Int} {xs : List Note} {w : World} {rv : Value} {L : Led} {ds : List Note} {ev u1 u2 u3 pvv u4 pub : Value} {es : List Ent} {x1 : List MarkK} {x2 x3 : List DuoK} {ps : List Pend} {x4 : List NameK} (h : FoldRel q xs w rv L ds ev u1 u2 u3 pvv u4 pub es x1 x2 x3 ps x4) :
    RegMem w ev u1 u2 u3 pvv pub u4 es x1 x2 x3 (ps.map toRL) L.published x4 := by
  obtain ⟨b, ho⟩ := h.out
  exact ⟨rows_of_owns 9 (fun _ => rfl) ho.ents.row, fun x hx => ⟨rows_of_owns 1 (fun _ => rfl) (ho.ents.jumps x hx), rows_of_owns 11 (fun _ => rfl) (ho.ents.lines x hx)⟩, ho.struck, ho.force, ho.forbid, rulsAt_of ho.pend ho.each, ho.published, ho.conflicts⟩
theorem KnownOut.later {o : Lay} {q t : Int} {xs : List Note} {w w' : World} {rv : Value} {er : Int} (h : KnownOut o q t xs w rv er) (hb : Below w.heap.size w w') : KnownOut o q t xs w' rv er := by
  rcases h with ⟨h1, h2, L, ds, ev, u1, u2, u3, pvv, u4, pub, es, x1, x2, x3, ps, x4, h3⟩ | h
  · exact .inl ⟨h1, h2, L, ds, ev, u1, u2, u3, pvv, u4, pub, es, x1, x2, x3, ps, x4, h3.later hb⟩
  · exact .inr h
theorem KnownOut.shape {o : Lay} {q t : Int} {xs : List Note} {w : World} {rv : Value} {er : Int} (h : KnownOut o q t xs w rv er) : ∃ cs : Array Value, rv = .agg cs ∧ cs.size = 8 ∧ cs.all (·.oneCell') = true := by
  rcases h with ⟨h1, h2, L, ds, ev, u1, u2, u3, pvv, u4, pub, es, x1, x2, x3, ps, x4, h3⟩ | ⟨_, _, rfl⟩
  · obtain ⟨b, hout⟩ := h3.out
    refine ⟨_, h3.val, rfl, ?_⟩
    rw [List.all_toArray]
    simp only [List.all_cons, List.all_nil, own_one hout.ents.row, hout.struck.one_of, hout.force.one_of, hout.forbid.one_of, hout.pend.one_of, hout.published.one_of, hout.conflicts.one_of]
    rfl
  · exact ⟨_, rfl, rfl, oneZero⟩
/-- Two registers of the same content in memory. -/
def RegTwo (w : World) (cs cs' : Array Value) : Prop := ∃ (ev u1 u2 u3 pv pb u4 ev' u1' u2' u3' pv' pb' u4' : Value) (hs : Int) (es es' : List Ent) (x1 : List MarkK) (x2 x3 : List DuoK) (rs rs' : List RL) (pn x4 : List NameK),
  cs = #[ev, u1, u2, u3, pv, pb, .int .i64 hs, u4] ∧ cs' = #[ev', u1', u2', u3', pv', pb', .int .i64 hs, u4'] ∧ RegMem w ev u1 u2 u3 pv pb u4 es x1 x2 x3 rs pn x4 ∧ RegMem w ev' u1' u2' u3' pv' pb' u4' es' x1 x2 x3 rs' pn x4 ∧ es.map (fun e => can e.note) = es'.map (fun e => can e.note) ∧ rs.map RL.dat = rs'.map RL.dat
theorem known_regs {o : Lay} {q t : Int} {l more all : List Note} {w : World} {cs cs' : Array Value} {er er' : Int} (hm : MP o l more 0 all) (hclk : ∀ x ∈ more, ¬ x.nt.clock ≤ t) (h : KnownOut o q t l w (.agg cs) er) (h' : KnownOut o q t all w (.agg cs') er') : er = er' ∧ RegTwo w cs cs' := by
  obtain ⟨hl, _, ha, _, _⟩ := hm.un
  rcases h with ⟨h1, rfl, L, ds, ev, u1, u2, u3, pvv, u4, pub, es, x1, x2, x3, ps, x4, h3⟩ | ⟨h1, rfl, h2⟩
  · rcases h' with ⟨k1, rfl, L', ds', ev', u1', u2', u3', pvv', u4', pub', es', x1', x2', x3', ps', x4', k3⟩ | ⟨k1, _⟩
    · obtain ⟨e1, e2, e3, e4, e5, e6, e7, e8⟩ := reg_same h3 k3 (setB_filter hl _) (known_same hm hclk)
      have m1 := h3.mem
      have m2 := k3.mem
      rw [← e2, ← e3, ← e4, ← e6, ← e8] at m2
      have v1 := h3.val
      have v2 := k3.val
      rw [← e7] at v2
      injection v1 with v1
      injection v2 with v2
      exact ⟨rfl, _, _, _, _, _, _, _, _, _, _, _, _, _, _, _, _, _, _, _, _, _, _, _, _, v1, v2, m1, m2, e1, e5⟩
    · rw [hl, Bool.true_and] at h1
      rw [ha, Bool.true_and, h1] at k1
      cases k1
  · rcases h' with ⟨k1, _⟩ | ⟨_, rfl, k2⟩
    · rw [hl, Bool.true_and] at h1
      rw [ha, Bool.true_and, h1] at k1
      cases k1
    · injection h2 with h2
      injection k2 with k2
      have m0 : RegMem w (.slice none 0 0) (.slice none 0 0) (.slice none 0 0) (.slice none 0 0) (.slice none 0 0) (.slice none 0 0) (.slice none 0 0) [] [] [] [] [] [] [] := ⟨RowsAt.nil _ _, by simp, RowsAt.nil _ _, RowsAt.nil _ _, RowsAt.nil _ _, ⟨RowsAt.nil _ _, by simp⟩, RowsAt.nil _ _, RowsAt.nil _ _⟩
      exact ⟨rfl, _, _, _, _, _, _, _, _, _, _, _, _, _, _, 0, [], [], [], [], [], [], [], [], [], h2, k2, m0, m0, rfl, rfl⟩
set_option maxHeartbeats 16000000 in
theorem JKnown_any (o : Lay) (q : Int) (v1 v2 : Value) (xa xb : List Note) (t : Int) (w : World) (h1 : NotesAt w v1 xa) (h2 : NotesAt w v2 xb) (hE : Env w) :
    Calls Tryz.prog 8 #[o.val, .int .i64 q, v1, v2, .int .i64 t] w fun e w' => e = .returned (.bool true) ∧ Below w.heap.size w w' := by
  have UR := Tryz.underlying32
  have HAWK : Hid (∀ W, Below w.heap.size w W → Calls Tryz.prog 11 #[] W fun e w' => e = .returned (.bool true) ∧ Below W.heap.size W w') := Lib.hid fun W hb => awake_any W (hE.below hE.big hb)
  have hm1 := h1.row.max
  have hm2 := h2.row.max
  unfold maxLen at hm1 hm2
  have H1 := Lib.hid h1
  have H2 := Lib.hid h2
  have HE := Lib.hid hE
  obtain ⟨A1, c1, rfl⟩ := h1.row.len
  obtain ⟨A2, c2, rfl⟩ := h2.row.len
  obtain ⟨n1, hn1⟩ : ∃ n, n = xa.length := ⟨_, rfl⟩
  obtain ⟨n2, hn2⟩ : ∃ n, n = xb.length := ⟨_, rfl⟩
  rw [← hn1] at hm1 ⊢
  rw [← hn2] at hm2 ⊢
  rw [← hn1] at H1
  rw [← hn2] at H2
  have HN := Lib.hid (And.intro hn1 hn2)
  obtain ⟨lo, hlo⟩ : ∃ lo, lo = o := ⟨_, rfl⟩
  obtain ⟨o1, o2, o3⟩ := o
  obtain ⟨W, hW⟩ : ∃ W, w.alloc (.cells #[.bool o1, .bool o2, .bool o3] 23) = W := ⟨_, rfl⟩
  have hb : Below w.heap.size w W := by rw [← hW]; exact below_alloc0 _
  have hO : Blk W w.heap.size 23 #[.bool o1, .bool o2, .bool o3] := by rw [← hW]; exact Blk.new w _ _
  have HLO : Hid (∀ W', Below w.heap.size w W' → ∀ (v v' : Value) (ys zs : List Note), NotesAt W' v ys → NotesAt W' v' zs → Calls Tryz.prog 21 #[.agg #[.bool o1, .bool o2, .bool o3], v, v'] W' fun e w' => ∃ A c er us, e = .returned (.tuple #[.slice A us.length c, .int .i64 er]) ∧ MP lo ys zs er us ∧ NotesAt w' (.slice A us.length c) us ∧ Below W'.heap.size W' w') :=
    Lib.hid fun W' hb' v v' ys zs k1 k2 => by have := Merge_mp lo v v' ys zs W' k1 k2 (HE.out.below HE.out.big hb'); rw [hlo] at this ⊢; exact this
  have HKN : Hid (∀ W', Below w.heap.size w W' → ∀ (v : Value) (ys : List Note), NotesAt W' v ys → Calls Tryz.prog 22 #[.agg #[.bool o1, .bool o2, .bool o3], .int .i64 q, v, .int .i64 t] W' fun e w' => ∃ rv er, e = .returned (.tuple #[rv, .int .i64 er]) ∧ KnownOut lo q t ys w' rv er ∧ Below W'.heap.size W' w') :=
    Lib.hid fun W' hb' v ys k1 => by have := AsOfK_any lo q v ys t W' k1 (HE.out.below HE.out.big hb'); rw [hlo] at this ⊢; exact this
  have HO := Lib.hid hO
  have HB := Lib.hid hb
  have hs0 : w.heap.size ≤ W.heap.size := hb.size
  have K0 : Hid (∀ W', Below W.heap.size W W' → W'.cell? ⟨w.heap.size, 0, none⟩ = some (.bool o1) ∧ W'.cell? ⟨w.heap.size, 1, none⟩ = some (.bool o2) ∧ W'.cell? ⟨w.heap.size, 2, none⟩ = some (.bool o3)) := Lib.hid fun W' hb' => ⟨(HO.out.later hb').cell 0, (HO.out.later hb').cell 1, (HO.out.later hb').cell 2⟩
  dsimp only [Lay.val] at ⊢
  clear h1 h2 hE hn1 hn2 hlo hb hO
  by_cases q1 : n1 ≤ 150
  rotate_left
  · have t1 : (150 : Int) < n1 := by omega
    have ha := HAWK.out W HB.out
    go_enter Tryz.func8, Tryz.ntmps8
    go_wp2_with (go_at_call 11; (with_reducible refine ha.mono ?_); rintro e w9 ⟨rfl, hb9⟩)
    go_ret
    exact ⟨rfl, HB.out.trans (hb9.mono hs0)⟩
  have t1 : ¬ (150 : Int) < n1 := by omega
  by_cases q2 : n2 ≤ 150
  rotate_left
  · have t2 : (150 : Int) < n2 := by omega
    have ha := HAWK.out W HB.out
    go_enter Tryz.func8, Tryz.ntmps8
    go_wp2_with (go_at_call 11; (with_reducible refine ha.mono ?_); rintro e w9 ⟨rfl, hb9⟩)
    go_ret
    exact ⟨rfl, HB.out.trans (hb9.mono hs0)⟩
  have t2 : ¬ (150 : Int) < n2 := by omega
  go_enter Tryz.func8, Tryz.ntmps8
  go_upto_region 4 with fail
  clear hW
  go_loopw [11] (fun s11 wr => ∃ k : Nat, k ≤ n2 ∧ s11 = .int .i64 k ∧ Hid (∀ (i : Nat) (x : Note), i < k → xb[i]? = some x → ¬ x.nt.clock ≤ t) ∧ Hid (W = wr)) (fun s11 _ => n2 - (intOf s11).toNat)
  case atStart => exact ⟨0, Nat.zero_le _, rfl, Lib.hid (fun i _ h => absurd h (Nat.not_lt_zero _)), Lib.hid (by first | rfl | trivial)⟩
  case round =>
    obtain ⟨k, hk, rfl, hcl, hWr⟩ := hrel
    obtain rfl := hWr.out
    clear hWr
    by_cases hlt : k < n2
    · have hk1 : k < xb.length := by have := HN.out.2; omega
      obtain ⟨x, hx⟩ : ∃ x, x = xb[k] := ⟨_, rfl⟩
      have HXK : Hid (xb[k]? = some x) := Lib.hid (by rw [hx]; exact List.getElem?_eq_getElem hk1)
      rcases H2.out.row.place with ⟨e0, _⟩ | ⟨g1, o1', c1', e1, _, _, hg1, hcell1⟩
      · rw [e0] at hk1; simp at hk1
      injection e1 with e1 e11 e12
      clear e11 e12
      subst e1
      have c2 : W.cell? ⟨g1, o1' + k * 20 + 2, none⟩ = some (.int .i64 x.nt.clock) := (HB.out.cell (p := ⟨g1, o1' + k * 20 + 2, none⟩) hg1).trans (hcell1 k hk1 2 _ (by rw [← hx]; rfl))
      obtain ⟨ck, hck⟩ : ∃ ck, ck = x.nt.clock := ⟨_, rfl⟩
      rw [← hck] at c2
      have HCK := Lib.hid hck
      clear hx hcell1 hk1 hck
      by_cases hle : ck ≤ t
      · have ha := HAWK.out W HB.out
        go_wp2_with (go_at_call 11; (with_reducible refine ha.mono ?_); rintro e w9 ⟨rfl, hb9⟩)
        go_ret
        exact ⟨rfl, HB.out.trans (hb9.mono hs0)⟩
      · have HST : Hid (∀ (i : Nat) (x : Note), i < k + 1 → xb[i]? = some x → ¬ x.nt.clock ≤ t) := Lib.hid (fun i x' hi e => by
          by_cases h : i < k
          · exact hcl.out i x' h e
          · obtain rfl : i = k := by omega
            have a1 := HXK.out.symm.trans e
            injection a1 with a1
            rw [← a1, ← HCK.out]
            exact hle)
        go_wp2
        exact ⟨⟨k + 1, by omega, by simp, HST, Lib.hid (by first | rfl | trivial)⟩, by simp [intOf]; omega⟩
    · have HCLK : Hid (∀ x ∈ xb, ¬ x.nt.clock ≤ t) := Lib.hid fun x hx => by
        obtain ⟨i, hi⟩ := List.getElem?_of_mem hx
        exact hcl.out i x (by have := (List.getElem?_eq_some_iff.1 hi).1; have := HN.out.2; omega) hi
      have m1 := HLO.out W HB.out _ _ xa xb (H1.out.later HB.out) (H2.out.later HB.out)
      obtain ⟨l1, l2, l3⟩ := K0.out W (Below.refl _ W)
      go_upto_region 9 with (go_at_call 21; (with_reducible refine m1.mono ?_); rintro e w2 ⟨Az, cz, ez, zz, rfl, mz, az, hb2⟩)
      have HM := Lib.hid mz
      have HMA := Lib.hid az
      have HB2 := Lib.hid hb2
      have HW2 := Lib.hid (HB.out.trans (hb2.mono hs0))
      have s2 : w.heap.size ≤ w2.heap.size := HW2.out.size
      obtain ⟨l1, l2, l3⟩ := K0.out w2 hb2
      obtain ⟨nz, hnz⟩ : ∃ n, n = zz.length := ⟨_, rfl⟩
      rw [← hnz] at HMA ⊢
      have ha := HAWK.out w2 HW2.out
      clear m1 mz az hb2 hnz
      by_cases hez : ez = 0
      rotate_left
      · go_wp2_with (go_at_call 11; (with_reducible refine ha.mono ?_); rintro e w9 ⟨rfl, hb9⟩)
        go_ret
        exact ⟨rfl, HW2.out.trans (hb9.mono s2)⟩
      subst hez
      clear ha
      have k1 := HKN.out w2 HW2.out _ xa (H1.out.later HW2.out)
      go_upto_region 12 with (first
        | (go_at_call 22; (with_reducible refine k1.mono ?_); rintro e w3 ⟨rv, er, rfl, hout, hb3⟩; obtain ⟨cs, rfl, hc8, hone⟩ := hout.shape; have HC8 := Lib.hid hc8; have HONE := Lib.hid hone; have HOUT := Lib.hid hout; clear hc8 hone hout)
        | (refine wpList_store_blk rfl 32 _ _ rfl w3.heap.size 32 zeroReg cs rfl rfl (Blk.new w3 _ _) (by rw [HC8.out]; rfl) (by rw [HC8.out]; exact sizeReg) HONE.out ?_; intro w4 hZ4 hg4 hs4))
      have hb34 : Below w3.heap.size w3 w4 := below_reg hg4
      have HOUT4 := Lib.hid (HOUT.out.later hb34)
      have hb24 := hb3.trans (hb34.mono hb3.size)
      have HB4 := Lib.hid (HB2.out.trans (hb24.mono HB2.out.size))
      have HW4 := Lib.hid (HW2.out.trans (hb24.mono s2))
      have HMA4 := Lib.hid (HMA.out.later hb24)
      have HZ4 := Lib.hid hZ4
      have s4 : w.heap.size ≤ w4.heap.size := HW4.out.size
      obtain ⟨l1, l2, l3⟩ := K0.out w4 HB4.out
      have k2 := HKN.out w4 HW4.out _ zz HMA4.out
      obtain ⟨p1, hp1⟩ : ∃ p, w3.heap.size = p := ⟨_, rfl⟩
      rw [hp1] at HZ4 ⊢
      clear k1 hb34 hb24 hb3 hZ4 hg4 hs4 HOUT hp1
      go_upto_region 13 with (first
        | (go_at_call 22; (with_reducible refine k2.mono ?_); rintro e w5 ⟨rv, er', rfl, hout, hb5⟩; obtain ⟨cs', rfl, hc8, hone⟩ := hout.shape; have HC8' := Lib.hid hc8; have HONE' := Lib.hid hone; have HOUT5 := Lib.hid hout; clear hc8 hone hout)
        | (refine wpList_store_blk rfl 32 _ _ rfl w5.heap.size 32 zeroReg cs' rfl rfl (Blk.new w5 _ _) (by rw [HC8'.out]; rfl) (by rw [HC8'.out]; exact sizeReg) HONE'.out ?_; intro w6 hZ6 hg6 hs6))
      have hb56 : Below w5.heap.size w5 w6 := below_reg hg6
      have hb46 := hb5.trans (hb56.mono hb5.size)
      have HB6 := Lib.hid (HB4.out.trans (hb46.mono HB4.out.size))
      have HW6 := Lib.hid (HW4.out.trans (hb46.mono s4))
      have s6 : w.heap.size ≤ w6.heap.size := HW6.out.size
      have HZ46 := Lib.hid (HZ4.out.later hb46)
      obtain ⟨heq, hreg⟩ := known_regs HM.out (fun x hx => by have := HCLK.out x hx; omega) (HOUT4.out.later hb46) (HOUT5.out.later hb56)
      subst heq
      obtain ⟨ev, u1, u2, u3, pv, pb, u4, ev', u1', u2', u3', pv', pb', u4', hs, es, es', x1, x2, x3, rs, rs', pn, x4, rfl, rfl, m1, m2, he, hd⟩ := hreg
      have hsr := SameRegister_true w6 ev u1 u2 u3 pv pb u4 ev' u1' u2' u3' pv' pb' u4' hs es es' x1 x2 x3 rs rs' pn x4 m1 m2 he hd
      have HZ6 := Lib.hid hZ6
      obtain ⟨p2, hp2⟩ : ∃ p, w5.heap.size = p := ⟨_, rfl⟩
      rw [hp2] at HZ6 ⊢
      clear k2 hb56 hb46 hb5 hZ6 hg6 hs6 HOUT4 HOUT5 hp2 m1 m2 he hd HC8 HC8' HONE HONE' l1 l2 l3
      have tok1 : True := trivial
      have tok2 : True := trivial
      go_wp2_with (first
        | (have _t := tok1; refine wpList_load_blk_on (by kernel_rfl) 32 _ rfl p1 32 _ _ rfl HZ46.out UR rfl sizeReg ?_; clear tok1)
        | (have _t := tok2; refine wpList_load_blk_on (by kernel_rfl) 32 _ rfl p2 32 _ _ rfl HZ6.out UR rfl sizeReg ?_; clear tok2)
        | (go_at_call 23; (with_reducible refine hsr.mono ?_); rintro e w7 ⟨rfl, hb7⟩; have hW7 := HW6.out.trans (hb7.mono s6); have ha := HAWK.out w7 hW7)
        | (go_at_call 11; (with_reducible refine ha.mono ?_); rintro e w9 ⟨rfl, hb9⟩))
      go_ret
      exact ⟨rfl, hW7.trans (hb9.mono hW7.size)⟩
end Go.Proofs.YtlamogpdkmbeoaaGreatDoor
