/- 'JudgesUnion': the walk. -/
import Derived.Test.YtlamogpdkmbeoaaGreatDoorZaMerK
import Derived.Test.YtlamogpdkmbeoaaGreatDoorZaAwk
set_option linter.unusedVariables false
set_option linter.unusedSimpArgs false
set_option maxRecDepth 100000
namespace Go.Proofs.YtlamogpdkmbeoaaGreatDoor
open Go.RowKit Go.Lib Go.Shelf Go.Maps Go.Sort

theorem MP.err {o : Lay} {a b x : List Note} {e g : Int} (h1 : MP o a b e x) (h2 : forkE o a b g) : (e = 1 ∧ g = 1) ∨ (e = 92 ∧ g = 0) ∨ (e = 2 ∧ g = 3) ∨ (e = 0 ∧ g = 3) := by
  have hf := merge_fork h1 h2
  cases h1 with
  | bad h =>
    rcases h2 with ⟨_, rfl⟩ | ⟨k, _⟩
    · exact .inl ⟨rfl, rfl⟩
    · rw [h] at k; cases k
  | forked h => exact .inr (.inl ⟨rfl, hf.1 rfl⟩)
  | long h =>
    rcases h2 with ⟨k, _⟩ | ⟨_, ⟨_, rfl⟩ | ⟨_, rfl⟩⟩
    · rw [h] at k; cases k
    · exact absurd (hf.2 rfl) (by decide)
    · exact .inr (.inr (.inl ⟨rfl, rfl⟩))
  | ok h =>
    rcases h2 with ⟨k, _⟩ | ⟨_, ⟨_, rfl⟩ | ⟨_, rfl⟩⟩
    · rw [h] at k; cases k
    · exact absurd (hf.2 rfl) (by decide)
    · exact .inr (.inr (.inr ⟨rfl, rfl⟩))
set_option maxHeartbeats 16000000 in
theorem JUnion_any (o : Lay) (v1 v2 v3 : Value) (xa xb xc : List Note) (w : World) (h1 : NotesAt w v1 xa) (h2 : NotesAt w v2 xb) (h3 : NotesAt w v3 xc) (hE : Env w) :
    Calls Tryz.prog 9 #[o.val, v1, v2, v3] w fun e w' => e = .returned (.bool true) ∧ Below w.heap.size w w' := by
  have HAWK : Hid (∀ W, Below w.heap.size w W → Calls Tryz.prog 11 #[] W fun e w' => e = .returned (.bool true) ∧ Below W.heap.size W w') := Lib.hid fun W hb => awake_any W (hE.below hE.big hb)
  have hm1 := h1.row.max
  have hm2 := h2.row.max
  have hm3 := h3.row.max
  unfold maxLen at hm1 hm2 hm3
  have H1 := Lib.hid h1
  have H2 := Lib.hid h2
  have H3 := Lib.hid h3
  have HE := Lib.hid hE
  obtain ⟨A1, c1, rfl⟩ := h1.row.len
  obtain ⟨A2, c2, rfl⟩ := h2.row.len
  obtain ⟨A3, c3, rfl⟩ := h3.row.len
  obtain ⟨n1, hn1⟩ : ∃ n, n = xa.length := ⟨_, rfl⟩
  obtain ⟨n2, hn2⟩ : ∃ n, n = xb.length := ⟨_, rfl⟩
  obtain ⟨n3, hn3⟩ : ∃ n, n = xc.length := ⟨_, rfl⟩
  rw [← hn1] at hm1 ⊢
  rw [← hn2] at hm2 ⊢
  rw [← hn3] at hm3 ⊢
  rw [← hn1] at H1
  rw [← hn2] at H2
  rw [← hn3] at H3
  have HN := Lib.hid (And.intro hn1 (And.intro hn2 hn3))
  obtain ⟨lo, hlo⟩ : ∃ lo, lo = o := ⟨_, rfl⟩
  obtain ⟨o1, o2, o3⟩ := o
  obtain ⟨W, hW⟩ : ∃ W, w.alloc (.cells #[.bool o1, .bool o2, .bool o3] 23) = W := ⟨_, rfl⟩
  have hb : Below w.heap.size w W := by rw [← hW]; exact below_alloc0 _
  have hO : Blk W w.heap.size 23 #[.bool o1, .bool o2, .bool o3] := by rw [← hW]; exact Blk.new w _ _
  have HLO : Hid (∀ W', Below w.heap.size w W' → ∀ (v v' : Value) (ys zs : List Note), NotesAt W' v ys → NotesAt W' v' zs → Calls Tryz.prog 21 #[.agg #[.bool o1, .bool o2, .bool o3], v, v'] W' fun e w' => ∃ A c er us, e = .returned (.tuple #[.slice A us.length c, .int .i64 er]) ∧ MP lo ys zs er us ∧ NotesAt w' (.slice A us.length c) us ∧ Below W'.heap.size W' w') :=
    Lib.hid fun W' hb' v v' ys zs k1 k2 => by have := Merge_mp lo v v' ys zs W' k1 k2 (HE.out.below HE.out.big hb'); rw [hlo] at this ⊢; exact this
  have HFK : Hid (∀ W', Below w.heap.size w W' → ∀ (v v' : Value) (ys zs : List Note), NotesAt W' v ys → NotesAt W' v' zs → Calls Tryz.prog 24 #[.agg #[.bool o1, .bool o2, .bool o3], v, v'] W' fun e w' => (∃ j k er, e = .returned (.tuple #[.agg #[.int .i64 j, .int .i64 k], .int .i64 er]) ∧ forkE lo ys zs er) ∧ Below W'.heap.size W' w') :=
    Lib.hid fun W' hb' v v' ys zs k1 k2 => by have := Fork_any lo v v' ys zs W' k1 k2 (HE.out.below HE.out.big hb'); rw [hlo] at this ⊢; exact this
  have HO := Lib.hid hO
  have HB := Lib.hid hb
  have hs0 : w.heap.size ≤ W.heap.size := hb.size
  have k0 : ∀ W', Below W.heap.size W W' → W'.cell? ⟨w.heap.size, 0, none⟩ = some (.bool o1) ∧ W'.cell? ⟨w.heap.size, 1, none⟩ = some (.bool o2) ∧ W'.cell? ⟨w.heap.size, 2, none⟩ = some (.bool o3) := fun W' hb' => ⟨(HO.out.later hb').cell 0, (HO.out.later hb').cell 1, (HO.out.later hb').cell 2⟩
  have K0 := Lib.hid k0
  obtain ⟨l1, l2, l3⟩ := K0.out W (Below.refl _ W)
  dsimp only [Lay.val] at ⊢
  clear h1 h2 h3 hE hn1 hn2 hn3 hlo hb hO k0
  by_cases q1 : n1 ≤ 150
  rotate_left
  · have t1 : (150 : Int) < n1 := by omega
    have ha := HAWK.out W HB.out
    go_enter Tryz.func9, Tryz.ntmps9
    go_wp2_with (go_at_call 11; (with_reducible refine ha.mono ?_); rintro e w9 ⟨rfl, hb9⟩)
    go_ret
    exact ⟨rfl, HB.out.trans (hb9.mono hs0)⟩
  have t1 : ¬ (150 : Int) < n1 := by omega
  by_cases q2 : n2 ≤ 150
  rotate_left
  · have t2 : (150 : Int) < n2 := by omega
    have ha := HAWK.out W HB.out
    go_enter Tryz.func9, Tryz.ntmps9
    go_wp2_with (go_at_call 11; (with_reducible refine ha.mono ?_); rintro e w9 ⟨rfl, hb9⟩)
    go_ret
    exact ⟨rfl, HB.out.trans (hb9.mono hs0)⟩
  have t2 : ¬ (150 : Int) < n2 := by omega
  by_cases q3 : n3 ≤ 150
  rotate_left
  · have t3 : (150 : Int) < n3 := by omega
    have ha := HAWK.out W HB.out
    go_enter Tryz.func9, Tryz.ntmps9
    go_wp2_with (go_at_call 11; (with_reducible refine ha.mono ?_); rintro e w9 ⟨rfl, hb9⟩)
    go_ret
    exact ⟨rfl, HB.out.trans (hb9.mono hs0)⟩
  have t3 : ¬ (150 : Int) < n3 := by omega
  have m1 := HLO.out W HB.out _ _ xa xb (H1.out.later HB.out) (H2.out.later HB.out)
  go_enter Tryz.func9, Tryz.ntmps9
  go_upto_region 4 with (go_at_call 21; (with_reducible refine m1.mono ?_); rintro e w1 ⟨Ax, cx, ex, zx, rfl, mx, ax, hb1⟩)
  have HX := Lib.hid mx
  have HXA := Lib.hid ax
  have HB1 := Lib.hid hb1
  have HW1 := Lib.hid (HB.out.trans (hb1.mono hs0))
  have s1 : w.heap.size ≤ w1.heap.size := HW1.out.size
  have m2 := HLO.out w1 HW1.out _ _ xb xa (H2.out.later HW1.out) (H1.out.later HW1.out)
  obtain ⟨l1, l2, l3⟩ := K0.out w1 hb1
  obtain ⟨nx, hnx⟩ : ∃ n, n = zx.length := ⟨_, rfl⟩
  rw [← hnx] at HXA ⊢
  have HNX := Lib.hid hnx
  clear m1 mx ax hb1 hW hnx
  go_upto_region 5 with (go_at_call 21; (with_reducible refine m2.mono ?_); rintro e w2 ⟨Ay, cy, ey, zy, rfl, my, ay, hb2⟩)
  have HY := Lib.hid my
  have HYA := Lib.hid ay
  have HB2 := Lib.hid (HB1.out.trans (hb2.mono HB1.out.size))
  have HX2 := Lib.hid (HXA.out.later hb2)
  have HW2 := Lib.hid (HW1.out.trans (hb2.mono s1))
  have s2 : w.heap.size ≤ w2.heap.size := HW2.out.size
  have m3 := HFK.out w2 HW2.out _ _ xa xb (H1.out.later HW2.out) (H2.out.later HW2.out)
  obtain ⟨l1, l2, l3⟩ := K0.out w2 HB2.out
  obtain ⟨ny, hny⟩ : ∃ n, n = zy.length := ⟨_, rfl⟩
  rw [← hny] at HYA ⊢
  have HNY := Lib.hid hny
  clear m2 my ay hb2 hny
  go_upto_region 6 with (first
    | (go_at_call 24; (with_reducible refine m3.mono ?_); rintro e w3 ⟨⟨fj, fk, eg, rfl, hfk⟩, hb3⟩)
    | (refine wpList_store_blk rfl 37 _ _ rfl w3.heap.size 37 #[.int .i64 0, .int .i64 0] #[.int .i64 fj, .int .i64 fk] rfl rfl (Blk.new w3 _ _) (by rfl) sizeNm (by simp [Value.oneCell']) ?_; intro w4 hZ4 hg4 hs4))
  have hb34 : Below w3.heap.size w3 w4 := (below_alloc0 _).grown hg4 (by simp) (fun j e => by cases e; exact Nat.le_refl _)
  have hb24 : Below w2.heap.size w2 w4 := hb3.trans (hb34.mono hb3.size)
  have HB4 := Lib.hid (HB2.out.trans (hb24.mono HB2.out.size))
  have HX4 := Lib.hid (HX2.out.later hb24)
  have HY4 := Lib.hid (HYA.out.later hb24)
  have HW4 := Lib.hid (HW2.out.trans (hb24.mono s2))
  obtain ⟨hef, hsame⟩ := merge_comm HX.out HY.out
  subst hef
  have HCASE := Lib.hid (HX.out.err hfk)
  have HSAME := Lib.hid hsame
  have s4 : w.heap.size ≤ w4.heap.size := HW4.out.size
  have m4 := SameNotes_any _ _ zx zy w4 HX4.out HY4.out
  obtain ⟨l1, l2, l3⟩ := K0.out w4 HB4.out
  clear m3 hfk hb3 hb34 hb24 hsame hg4 hs4 hZ4
  rcases HCASE.out with h | h | h | h
  · obtain ⟨rfl, rfl⟩ := h
    go_wp2_with (first
      | (go_at_call 25; (with_reducible refine m4.mono ?_); rintro e w5 ⟨⟨b, rfl, hbb⟩, hb5⟩; obtain rfl : b = true := hbb.2 HSAME.out; clear hbb; have hW5 := HW4.out.trans (hb5.mono s4); have ha := HAWK.out w5 hW5)
      | (go_at_call 11; (with_reducible refine ha.mono ?_); rintro e w9 ⟨rfl, hb9⟩))
    go_ret
    exact ⟨rfl, hW5.trans (hb9.mono hW5.size)⟩
  · obtain ⟨rfl, rfl⟩ := h
    go_wp2_with (first
      | (go_at_call 25; (with_reducible refine m4.mono ?_); rintro e w5 ⟨⟨b, rfl, hbb⟩, hb5⟩; obtain rfl : b = true := hbb.2 HSAME.out; clear hbb; have hW5 := HW4.out.trans (hb5.mono s4); have ha := HAWK.out w5 hW5)
      | (go_at_call 11; (with_reducible refine ha.mono ?_); rintro e w9 ⟨rfl, hb9⟩))
    go_ret
    exact ⟨rfl, hW5.trans (hb9.mono hW5.size)⟩
  · obtain ⟨rfl, rfl⟩ := h
    go_wp2_with (first
      | (go_at_call 25; (with_reducible refine m4.mono ?_); rintro e w5 ⟨⟨b, rfl, hbb⟩, hb5⟩; obtain rfl : b = true := hbb.2 HSAME.out; clear hbb; have hW5 := HW4.out.trans (hb5.mono s4); have ha := HAWK.out w5 hW5)
      | (go_at_call 11; (with_reducible refine ha.mono ?_); rintro e w9 ⟨rfl, hb9⟩))
    go_ret
    exact ⟨rfl, hW5.trans (hb9.mono hW5.size)⟩
  obtain ⟨rfl, rfl⟩ := h
  clear HCASE HY HYA
  go_upto_region 10 with (go_at_call 25; (with_reducible refine m4.mono ?_); rintro e w5 ⟨⟨b, rfl, hbb⟩, hb5⟩; obtain rfl : b = true := hbb.2 HSAME.out; clear hbb)
  have HW5 := Lib.hid (HW4.out.trans (hb5.mono s4))
  have HB5 := Lib.hid (HB4.out.trans (hb5.mono HB4.out.size))
  have HX5 := Lib.hid (HX4.out.later hb5)
  have s5 : w.heap.size ≤ w5.heap.size := HW5.out.size
  have m5 := HLO.out w5 HW5.out _ _ zx xa HX5.out (H1.out.later HW5.out)
  obtain ⟨l1, l2, l3⟩ := K0.out w5 HB5.out
  clear m4 hb5 HSAME HY4
  go_upto_region 11 with (go_at_call 21; (with_reducible refine m5.mono ?_); rintro e w6 ⟨Az, cz, ez, zz, rfl, mz, az, hb6⟩)
  obtain ⟨rfl, hs6⟩ := merge_again HX.out mz
  have HZ := Lib.hid hs6
  have HZA := Lib.hid az
  have HW6 := Lib.hid (HW5.out.trans (hb6.mono s5))
  have HB6 := Lib.hid (HB5.out.trans (hb6.mono HB5.out.size))
  have HX6 := Lib.hid (HX5.out.later hb6)
  have s6 : w.heap.size ≤ w6.heap.size := HW6.out.size
  have m6 := SameNotes_any _ _ zz zx w6 HZA.out HX6.out
  obtain ⟨nz, hnz⟩ : ∃ n, n = zz.length := ⟨_, rfl⟩
  rw [← hnz] at m6 ⊢
  clear m5 mz hs6 az hb6 hnz HZA
  go_upto_region 13 with (go_at_call 25; (with_reducible refine m6.mono ?_); rintro e w7 ⟨⟨b, rfl, hbb⟩, hb7⟩; obtain rfl : b = true := hbb.2 HZ.out; clear hbb)
  have HW7 := Lib.hid (HW6.out.trans (hb7.mono s6))
  have HB7 := Lib.hid (HB6.out.trans (hb7.mono HB6.out.size))
  have s7 : w.heap.size ≤ w7.heap.size := HW7.out.size
  have m7 := HLO.out w7 HW7.out _ _ zx xc (HX6.out.later hb7) (H3.out.later HW7.out)
  obtain ⟨l1, l2, l3⟩ := K0.out w7 HB7.out
  clear m6 hb7 HZ
  go_upto_region 14 with (go_at_call 21; (with_reducible refine m7.mono ?_); rintro e w8 ⟨Al, cl, el, zl, rfl, ml, al, hb8⟩)
  have HL := Lib.hid ml
  have HLA := Lib.hid al
  have HW8 := Lib.hid (HW7.out.trans (hb8.mono s7))
  have HB8 := Lib.hid (HB7.out.trans (hb8.mono HB7.out.size))
  have s8 : w.heap.size ≤ w8.heap.size := HW8.out.size
  have m8 := HLO.out w8 HW8.out _ _ xb xc (H2.out.later HW8.out) (H3.out.later HW8.out)
  obtain ⟨l1, l2, l3⟩ := K0.out w8 HB8.out
  obtain ⟨nl, hnl⟩ : ∃ n, n = zl.length := ⟨_, rfl⟩
  rw [← hnl] at HLA ⊢
  clear m7 ml al hb8 hnl
  go_upto_region 15 with (go_at_call 21; (with_reducible refine m8.mono ?_); rintro e wa ⟨Am, cm, em, zm, rfl, mm, am, hba⟩)
  have HM := Lib.hid mm
  have HMA := Lib.hid am
  have HWA := Lib.hid (HW8.out.trans (hba.mono s8))
  have HBA := Lib.hid (HB8.out.trans (hba.mono HB8.out.size))
  have HLA2 := Lib.hid (HLA.out.later hba)
  have sa : w.heap.size ≤ wa.heap.size := HWA.out.size
  obtain ⟨l1, l2, l3⟩ := K0.out wa HBA.out
  obtain ⟨nm', hnm⟩ : ∃ n, n = zm.length := ⟨_, rfl⟩
  rw [← hnm] at HMA ⊢
  have ha := HAWK.out wa HWA.out
  clear m8 mm am hba hnm
  by_cases hel : el = 0
  rotate_left
  · go_wp2_with (go_at_call 11; (with_reducible refine ha.mono ?_); rintro e w9 ⟨rfl, hb9⟩)
    go_ret
    exact ⟨rfl, HWA.out.trans (hb9.mono sa)⟩
  by_cases hem : em = 0
  rotate_left
  · subst hel
    go_wp2_with (go_at_call 11; (with_reducible refine ha.mono ?_); rintro e w9 ⟨rfl, hb9⟩)
    go_ret
    exact ⟨rfl, HWA.out.trans (hb9.mono sa)⟩
  subst hel
  subst hem
  have m9 := HLO.out wa HWA.out _ _ xa zm (H1.out.later HWA.out) HMA.out
  clear ha
  go_upto_region 18 with (go_at_call 21; (with_reducible refine m9.mono ?_); rintro e wb ⟨Ar, cr, ei, zr, rfl, mr, ar, hbb⟩)
  obtain ⟨rfl, hs9⟩ := merge_assoc HX.out HL.out HM.out mr
  have HS9 := Lib.hid hs9
  have HWB := Lib.hid (HWA.out.trans (hbb.mono sa))
  have m10 := SameNotes_any _ _ zl zr wb (HLA2.out.later hbb) ar
  have sb : w.heap.size ≤ wb.heap.size := HWB.out.size
  obtain ⟨nr, hnr⟩ : ∃ n, n = zr.length := ⟨_, rfl⟩
  rw [← hnr] at m10 ⊢
  clear m9 mr ar hs9 hnr
  go_wp2_with (first
    | (go_at_call 25; (with_reducible refine m10.mono ?_); rintro e wc ⟨⟨b, rfl, hbq⟩, hbc⟩; obtain rfl : b = true := hbq.2 HS9.out; clear hbq; have hWC := HWB.out.trans (hbc.mono sb); have ha := HAWK.out wc hWC)
    | (go_at_call 11; (with_reducible refine ha.mono ?_); rintro e w9 ⟨rfl, hb9⟩))
  go_ret
  exact ⟨rfl, hWC.trans (hb9.mono hWC.size)⟩
end Go.Proofs.YtlamogpdkmbeoaaGreatDoor
