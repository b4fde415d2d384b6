/- 'JudgesByte': the walk. -/
import Derived.Test.YtlamogpdkmbeoaaGreatDoorZaRecA
set_option linter.unusedVariables false
set_option linter.unusedSimpArgs false
set_option maxRecDepth 100000
namespace Go.Proofs.YtlamogpdkmbeoaaGreatDoor
open Go.RowKit Go.Lib Go.Shelf

theorem flat_map_u (bs : List Int) : bs.flatMap encU = bs.map fun x => Value.int .u8 x := by
  induction bs with
  | nil => rfl
  | cons b r ih => simp [List.flatMap_cons, ih]
theorem OwnU.put {w : World} {base g cap : Nat} {bs : List Int} (h : OwnU w base (.slice (some ⟨g, 0, none⟩) bs.length cap) bs) (j : Nat) (x : Int) :
    OwnU (w.setCell ⟨g, j, none⟩ (.int .u8 x)) base (.slice (some ⟨g, 0, none⟩) bs.length cap) (bs.set j x) ∧ w.grownBy (w.setCell ⟨g, j, none⟩ (.int .u8 x)) (some g) := by
  have s := World.ownsRow.stored h j (.int .u8 x)
  refine ⟨?_, s.2⟩
  have := s.1
  unfold OwnU
  rw [flat_map_u, List.map_set, ← flat_map_u, List.length_set]
  exact this
theorem own_cap {w : World} {base : Nat} {e : TypeId} {size : Nat} {v : Value} {n : Nat} {xs : List Value} (h : w.ownsRow base e size v n xs) : CapOk v := fun A k c hv => by
  rcases h.2 with ⟨h1, _⟩ | ⟨g, cap, cur, h1, _, _, hn, _⟩
  · rw [h1] at hv; injection hv with _ e1 e2; omega
  · rw [h1] at hv; injection hv with _ e1 e2; omega
abbrev OwnI (w : World) (base : Nat) (v : Value) (xs : List Int) : Prop := w.ownsRow base 3 1 v xs.length (xs.flatMap encI)
theorem infoInt : ∃ i, Tryz.prog.info? 3 = some i ∧ i.zero = some (.int .i64 0) ∧ i.size = 1 ∧ i.bytes = 8 := ⟨_, rfl, rfl, rfl, rfl⟩
theorem own_int_one (w : World) (x : Int) : OwnI (w.alloc (.cells #[.int .i64 x] 3)) w.heap.size (.slice (some ⟨w.heap.size, 0, none⟩) 1 1) [x] := World.ownsRow_lit w #[.int .i64 x] 1 (Nat.le_refl _) (by simp [maxLen]) rfl
theorem RowsAt.take {α : Type} {enc : α → List Value} {k : Nat} {w : World} {A : Option Addr} {c c' : Nat} {xs : List α} (h : RowsAt enc k w (.slice A xs.length c) xs) (j : Nat) (hj : j ≤ xs.length) : RowsAt enc k w (.slice A j c') (xs.take j) := by
  obtain ⟨A', c2, e, hm, hc⟩ := h
  injection e with e1 _ _
  subst e1
  have hl : (xs.take j).length = j := by rw [List.length_take]; omega
  refine ⟨A, c', by rw [hl], by rw [hl]; omega, fun i hi => ?_⟩
  rw [hl] at hi
  obtain ⟨b, o, h1, h2, h3⟩ := hc i (by omega)
  exact ⟨b, o, h1, h2, fun q u hu => h3 q u (by rw [← hu, List.getElem_take])⟩
theorem own_u_cell {w : World} {base g cap : Nat} {bs : List Int} (h : OwnU w base (.slice (some ⟨g, 0, none⟩) bs.length cap) bs) {j : Nat} (hj : j < bs.length) : w.cell? ⟨g, j, none⟩ = some (.int .u8 bs[j]) := by
  have := World.ownsRow.cellAt h j (by omega)
  rw [this, flat_map_u, List.getElem?_map, List.getElem?_eq_getElem hj]
  rfl
theorem flat_map_i (bs : List Int) : bs.flatMap encI = bs.map fun x => Value.int .i64 x := by
  induction bs with
  | nil => rfl
  | cons b r ih => simp [List.flatMap_cons, ih]
theorem own_i_cell {w : World} {base g cap : Nat} {bs : List Int} (h : OwnI w base (.slice (some ⟨g, 0, none⟩) bs.length cap) bs) {j : Nat} (hj : j < bs.length) : w.cell? ⟨g, j, none⟩ = some (.int .i64 bs[j]) := by
  have := World.ownsRow.cellAt h j (by omega)
  rw [this, flat_map_i, List.getElem?_map, List.getElem?_eq_getElem hj]
  rfl
theorem Frame_ok (b : List Int) (v : Value) (w : World) (h : BytesAt w v b) (hb : AreBytes b) (hl : b.length ≤ 60000) :
    Calls Tryz.prog 16 #[v] w fun e w' => ∃ u, e = .returned (.tuple #[u, .int .i64 0]) ∧ OwnU w' w.heap.size u (fr b) ∧ Below w.heap.size w w' :=
  (Frame_any b v w h hb).mono fun e w' ⟨u, er, he, ho, hb2⟩ => by
    rcases ho with ⟨_, rfl, h3⟩ | ⟨h2, _⟩
    · exact ⟨u, he, h3, hb2⟩
    · omega
/-- Rows of records: the loop that frames them. -/
structure JrnAt (n0 : Nat) (w : World) (L : List (List Int)) (i : Nat) (va ve : Value) (W : World) : Prop where
  all : OwnU W n0 va (jrn (L.take i))
  ends : OwnI W n0 ve (endsOf L i)
  small : ∀ j (hj : j < L.length), j < i → L[j].length ≤ 300
  below : Below n0 w W
theorem take_small {L : List (List Int)} {i : Nat} (h : ∀ j (hj : j < L.length), j < i → L[j].length ≤ 300) (hi : i ≤ L.length) : taken (L.take i) ≤ i * 310 := by
  have := taken_bound (L.take i) 300 (fun x hx => by
    obtain ⟨j, hj, rfl⟩ := List.getElem_of_mem hx
    rw [List.length_take] at hj
    rw [List.getElem_take]
    exact h j (by omega) (by omega))
  rw [List.length_take, Nat.min_eq_left hi] at this
  exact this
set_option maxHeartbeats 8000000 in
theorem JByte_any (v : Value) (at_ m : Int) (ps : List (Value × List Int)) (w : World) (h : (PartsAt w v ps ∧ ∀ p ∈ ps, AreBytes p.2) ∧ CapOk v) (hm : 0 ≤ m ∧ m < 256) (hE : Env w) :
    Calls Tryz.prog 7 #[v, .int .i64 at_, .int .u8 m] w fun e w' => e = .returned (.bool true) ∧ Below w.heap.size w w' := by
  obtain ⟨⟨h, hby⟩, hcap⟩ := h
  have hawk := fun W (hb : Below w.heap.size w W) => awake_any W (hE.below hE.big hb)
  have hmx := h.row.max
  unfold maxLen at hmx
  have H := Lib.hid h
  have HBY := Lib.hid hby
  have HAWK := Lib.hid hawk
  obtain ⟨A, c, rfl⟩ := h.row.len
  have hnc := hcap _ _ _ rfl
  clear h hby hawk hcap hE
  by_cases hl : ps.length ≤ 50
  · have hgt : ¬ (50 : Int) < ps.length := by omega
    by_cases hm0 : m = 0
    · subst hm0
      have ha := HAWK.out w (Below.refl _ _)
      go_enter Tryz.func7, Tryz.ntmps7
      go_wp2_with (go_at_call 11; refine ha.mono ?_; rintro e w1 ⟨rfl, hb1⟩)
      go_ret
      exact ⟨rfl, hb1⟩
    · obtain ⟨L, hL⟩ : ∃ L, L = dsk ps := ⟨_, rfl⟩
      have hLl : L.length = ps.length := by rw [hL]; simp
      have HL := Lib.hid hL
      have HLL := Lib.hid hLl
      obtain ⟨n, hn⟩ : ∃ n, n = ps.length := ⟨_, rfl⟩
      have HN := Lib.hid hn
      rw [← hn] at hmx hnc hgt ⊢
      have hn50 : n ≤ 50 := by omega
      clear hL hLl hn hl
      go_enter Tryz.func7, Tryz.ntmps7
      go_upto_region 6 with fail
      go_loopw [7, 8, 9] (fun s7 s8 s9 wr => ∃ i : Nat, i ≤ n ∧ s9 = .int .i64 i ∧ Hid (JrnAt w.heap.size w L i s7 s8 wr)) (fun _ _ s9 _ => n - (intOf s9).toNat)
      case atStart => exact ⟨0, Nat.zero_le _, rfl, Lib.hid ⟨World.ownsRow_nil _ _ _ _, own_int_one w 0, fun j _ hj => absurd hj (Nat.not_lt_zero _), below_alloc0 _⟩⟩
      case round =>
        obtain ⟨i, hi, rfl, hJ⟩ := hrel
        have hsz : w.heap.size ≤ wr.heap.size := hJ.out.below.size
        by_cases hlt : i < n
        · have hi1 : i < ps.length := by have := HN.out; omega
          have hi2 : i < L.length := by have := HLL.out; omega
          obtain ⟨p, hp⟩ : ∃ p, p = ps[i] := ⟨_, rfl⟩
          have hpm : p ∈ ps := by rw [hp]; exact List.getElem_mem hi1
          have hLi : L[i] = p.2 := by simp only [HL.out, List.getElem_map]; rw [hp]
          have hw1 := H.out.later hJ.out.below
          rcases hw1.row.place with ⟨e0, _⟩ | ⟨g1, o1, c1', e1, _, _, _, hcell1⟩
          · rw [e0] at hi1; simp at hi1
          injection e1 with e1 _ e2
          subst e1
          subst e2
          have cp : wr.cell? ⟨g1, o1 + i, none⟩ = some p.1 := by have := hcell1 i hi1 0 _ rfl; rw [Nat.mul_one, ← hp] at this; exact this
          have hbp := hw1.each p hpm
          have hyp := HBY.out p hpm
          obtain ⟨Ap, cap, hpv⟩ := hbp.len
          rw [hpv] at cp hbp
          obtain ⟨vp, bs⟩ := p
          dsimp only at hpv cp hbp hyp hLi
          have hF := Frame_ok bs _ wr hbp hyp
          have HLI := Lib.hid hLi
          have HYP := Lib.hid hyp
          have hbl : bs.length ≤ 9223372036854775807 := by have := hbp.max; unfold maxLen at this; exact this
          have hjt := jrn_take_succ hi2
          rw [hLi] at hjt
          have HJT := Lib.hid hjt
          clear hp hpm hLi hw1 hcell1 hbp hyp hpv hjt
          by_cases h300 : bs.length ≤ 300
          · have hng : ¬ (300 : Int) < bs.length := by omega
            have hF := hF (by omega)
            have htk : taken (L.take i) ≤ i * 310 := take_small hJ.out.small (by omega)
            have hsm : Hid (∀ j (hj : j < L.length), j < i + 1 → L[j].length ≤ 300) := Lib.hid (fun j hj hji => by
              by_cases e : j < i
              · exact hJ.out.small j hj e
              · obtain rfl : j = i := by omega
                rw [HLI.out]; exact h300)
            have hjl : Hid ((jrn (L.take i)).length = taken (L.take i)) := Lib.hid (jrn_length _)
            have hfl : Hid ((fr bs).length = bs.length + 10) := Lib.hid (fr_length _)
            have htl : i * 310 ≤ 15500 := by omega
            go_upto_region 14 with (first
              | (go_at_call 16; refine hF.mono ?_; rintro e w1 ⟨u1, rfl, ho1, hb1⟩)
              | (at_builtin; refine wpList_append_bytes rfl _ _ rfl w.heap.size u7 u1 _ (fr bs) rfl (own_later hJ.out.all hb1) rfl ho1.bytes (by rw [hjl.out, hfl.out]; omega) (Nat.le_trans hsz hb1.size) ?_; intro v' w2 ho2 hg2 ha2))
            have hb12 : Below w.heap.size w w1 := hJ.out.below.trans (hb1.mono hsz)
            have hs1 := hb12.size
            have hall1 := own_later hJ.out.all hb1
            have hends1 := own_later hJ.out.ends hb1
            have hends2 : OwnI w2 w.heap.size u8 (endsOf L i) := hends1.kept hg2 (own_ne hall1 hends1 (by decide))
            have hb22 : Below w.heap.size w w2 := hb12.grown hg2 hs1 (fun k e => own_ge hall1 e)
            have hs2 := hb22.size
            rw [← HJT.out] at ho2
            obtain ⟨A7, m7, k7, rfl⟩ := own_slice ho2
            have hm7 : m7 = taken (L.take (i + 1)) := (own_len ho2).trans (jrn_length _)
            have hel : (endsOf L i).length = i + 1 := endsOf_length L i
            have hes : endsOf L (i + 1) = endsOf L i ++ [(m7 : Int)] := by rw [endsOf_succ, hm7]
            have hbd7 : m7 ≤ 9223372036854775807 := by
              have := take_small hsm.out (show i + 1 ≤ L.length by omega)
              omega
            have HALL := Lib.hid ho2
            have HENDS := Lib.hid hends2
            have HB22 := Lib.hid hb22
            have HES := Lib.hid hes
            have HEL := Lib.hid hel
            have HS2 := Lib.hid hs2
            clear ho2 hg2 ha2 hends2 hb22 hes hel hall1 hends1 hb12 ho1 hb1 hm7 hF htk
            have US := Tryz.underlying39
            obtain ⟨i0, hi0, hz0, hz1, hz2⟩ := infoInt
            go_wp2_with (at_builtin; refine wpList_append_lies _ rfl _ _ 39 rfl w.heap.size 3 i0 (.int .i64 0) 1 8 US hi0 hz0 hz1 hz2 rfl (by decide) u8 _ _ rfl (HENDS.out.alloc _) ⟨w2.heap.size, 0, none⟩ 1 1 [.int .i64 m7] rfl rfl (World.news_of_block (Blk.new _ _ _)) (by intro u hu; simp at hu; subst hu; rfl) (by decide) (by rw [HEL.out]; unfold maxLen; omega) (by rw [HEL.out]; omega) (by simp; omega) _ rfl ?_; intro g cap3 w3 ho3 hg3 hat3 hlt3)
            have ha3 : OwnU w3 w.heap.size (.slice A7 m7 k7) (jrn (L.take (i + 1))) := (HALL.out.alloc (.cells #[.int .i64 m7] 3)).kept hg3 (own_ne (HENDS.out.alloc (.cells #[.int .i64 m7] 3)) (HALL.out.alloc (.cells #[.int .i64 m7] 3)) (by decide))
            have he3 : OwnI w3 w.heap.size (.slice (some ⟨g, 0, none⟩) ((endsOf L i).length + 1) cap3) (endsOf L (i + 1)) := by
              unfold OwnI
              rw [HES.out, List.length_append, List.flatMap_append]
              exact ho3
            exact ⟨⟨i + 1, by omega, by simp, Lib.hid ⟨ha3, he3, hsm.out, (HB22.out.alloc (by omega) _).grown hg3 (by simp; omega) (fun k e => own_ge HENDS.out e)⟩⟩, by simp [intOf]; omega⟩
          · have hng : (300 : Int) < bs.length := by omega
            have ha := HAWK.out wr hJ.out.below
            go_wp2_with (go_at_call 11; refine ha.mono ?_; rintro e w1 ⟨rfl, hb1⟩)
            go_ret
            exact ⟨rfl, hJ.out.below.trans (hb1.mono hsz)⟩
        · have hin : i = n := by omega
          subst hin
          have hLn : L.take i = L := List.take_of_length_le (by have := HLL.out; have := HN.out; omega)
          have htot : taken L ≤ 15500 := by
            have := take_small hJ.out.small (by have := HLL.out; have := HN.out; omega)
            rw [hLn] at this
            omega
          have hall := hJ.out.all
          rw [hLn] at hall
          have hends := hJ.out.ends
          obtain ⟨A7, m7, k7, rfl⟩ := own_slice hall
          have hm7 : m7 = taken L := (own_len hall).trans (jrn_length _)
          have hsmL : Hid (∀ y ∈ L, AreBytes y ∧ y.length ≤ 60000) := Lib.hid (fun y hy => by
            obtain ⟨j, hj, rfl⟩ := List.getElem_of_mem hy
            refine ⟨?_, by have := hJ.out.small j hj (by have := HLL.out; have := HN.out; omega); omega⟩
            have hj' : j < ps.length := by have := HLL.out; omega
            simp only [HL.out, List.getElem_map]
            exact HBY.out _ (List.getElem_mem hj'))
          have HALL := Lib.hid hall
          have HENDS := Lib.hid hends
          have HBR := Lib.hid hJ.out.below
          have HM7 := Lib.hid hm7
          have hm7b : m7 ≤ 15500 := by omega
          clear hall hends hJ hLn htot hm7 hlt hi
          by_cases hat : 0 ≤ at_ ∧ at_ < m7
          · obtain ⟨a, rfl⟩ : ∃ a : Nat, at_ = a := ⟨at_.toNat, by omega⟩
            have ham : a < m7 := by omega
            have g1 : ¬ (a : Int) < 0 := by omega
            have g2 : ¬ (m7 : Int) ≤ a := by omega
            have hjl : (jrn L).length = m7 := (jrn_length L).trans HM7.out.symm
            have hall := HALL.out
            obtain ⟨g7, cap7, e7, _, _⟩ := World.ownsRow.form hall (by omega)
            injection e7 with e7 h71 h72
            clear h71 h72
            subst e7
            have haj : a < (jrn L).length := by omega
            obtain ⟨x, hx⟩ : ∃ x, x = (jrn L)[a] := ⟨_, rfl⟩
            have hall' : OwnU wr w.heap.size (.slice (some ⟨g7, 0, none⟩) (jrn L).length k7) (jrn L) := by rw [hjl]; exact hall
            have cx := own_u_cell hall' haj
            rw [← hx] at cx
            have fx := World.ownsRow.frozenAt hall' a
            have hbL := jrn_bytes hsmL.out
            have hxb : 0 ≤ x ∧ x < 256 := by rw [hx]; exact hbL _ (List.getElem_mem haj)
            obtain ⟨hx2, hx3⟩ := xor8 hxb hm hm0
            have HALL' := Lib.hid hall'
            have HBL := Lib.hid hbL
            have HHX : Hid ((jrn L)[a]? = some x) := Lib.hid (by rw [List.getElem?_eq_getElem haj, ← hx])
            have HJL := Lib.hid hjl
            have HAJ := Lib.hid haj
            have HX23 := Lib.hid (And.intro hx2 hx3)
            clear hbL hx hjl hxb hx2 hx3
            clear hall hall' haj
            go_upto_region 18 with fail
            have hall' := HALL'.out
            have hall := HALL.out
            have hbL := HBL.out
            have hx := HHX.out
            have hjl := HJL.out
            have haj := HAJ.out
            obtain ⟨hx2, hx3⟩ := HX23.out
            clear HALL' HBL HHX HJL HAJ HX23
            obtain ⟨x', hx'⟩ : ∃ x', bits .xor .u8 x m = x' := ⟨_, rfl⟩
            rw [hx'] at hx2 hx3 ⊢
            obtain ⟨w4, hw4⟩ : ∃ w4, wr.setCell ⟨g7, a, none⟩ (.int .u8 x') = w4 := ⟨_, rfl⟩
            rw [hw4]
            have hput := OwnU.put hall' a x'
            rw [hw4] at hput
            have hne' : (jrn L)[a]? ≠ some x' := by rw [hx]; exact fun e => hx3 (by injection e with e; exact e.symm)
            have hb4 : Below w.heap.size w w4 := HBR.out.grown hput.2 hsz (fun k e => by injection e with e; exact own_ge hall (k := k) (by simp [Value.ownBlock, e]))
            have hends4 : OwnI w4 w.heap.size u8 (endsOf L i) := HENDS.out.kept hput.2 (own_ne hall HENDS.out (by decide))
            have hlen' : ((jrn L).set a x').length = m7 := by rw [List.length_set]; exact hjl
            have hscan := Scan_any ((jrn L).set a x') (.slice (some ⟨g7, 0, none⟩) m7 k7) w4 (by have := OwnU.bytes hput.1; rwa [hjl] at this) (set_bytes hbL a hx2) (own_cap hall) (by omega)
            have HB4 := Lib.hid hb4
            have HE4 := Lib.hid hends4
            have HSC := Lib.hid hscan
            have HNE := Lib.hid hne'
            have HX2 := Lib.hid hx2
            have hs4 := hb4.size
            clear hall hall' cx fx hbL hx hx' hw4 hput hb4 hends4 hscan hne' hlen' hjl hx2 hx3 hsz
            clear haj
            go_upto_region 19 with (go_at_call 18; (with_reducible refine HSC.out.mono ?_); rintro e w5 ⟨u, qs, rfl, hpo, hqs, hb5⟩; obtain ⟨Au, mu, cu, rfl⟩ := own_slice hpo.row)
            have hmu : mu = qs.length := own_len hpo.row
            have hends5 := own_later HE4.out hb5
            have hel : (endsOf L i).length = i + 1 := endsOf_length L i
            obtain ⟨ge, ce, he, _, _⟩ := World.ownsRow.form hends5 (by omega)
            rw [hel] at he
            subst he
            have hends5' : OwnI w5 w.heap.size (.slice (some ⟨ge, 0, none⟩) (endsOf L i).length ce) (endsOf L i) := by rw [hel]; exact hends5
            have hcell : ∀ j, j ≤ i → w5.cell? ⟨ge, j, none⟩ = some (.int .i64 ((taken (L.take j) : Nat) : Int)) := fun j hj => by
              have := own_i_cell hends5' (j := j) (by omega)
              rw [this, endsOf_get]
            have HCELL := Lib.hid hcell
            have HPO := Lib.hid hpo
            have HQS := Lib.hid hqs
            have HMU := Lib.hid hmu
            have HB5 := Lib.hid (HB4.out.trans (hb5.mono hs4))
            have hs5 := HB5.out.size
            have hLi : Hid (taken (L.take i) = m7) := Lib.hid (by rw [HM7.out, List.take_of_length_le (by have := HLL.out; have := HN.out; omega)])
            have hi0 : 0 < i := by
              rcases Nat.eq_zero_or_pos i with h0 | h0
              · exfalso
                have := hLi.out
                rw [h0] at this
                simp [taken] at this
                omega
              · exact h0
            clear hpo hqs hb5 hends5 hends5' hcell hmu hel
            obtain ⟨sc, hsc⟩ : ∃ sc, sc = scan ((jrn L).set a x') := ⟨_, rfl⟩
            have hqs := HQS.out
            rw [← hsc] at hqs ⊢
            have HQ := Lib.hid hqs
            have HS := Lib.hid hsc
            clear hqs hsc HQS
            obtain ⟨b, o, rfl⟩ : ∃ b o, A = some ⟨b, o, none⟩ := by
              rcases H.out.row.place with ⟨e0, _⟩ | ⟨b, o, c', e1, _⟩
              · have := HN.out; rw [e0] at this; simp at this; omega
              · injection e1 with e1 _ _; exact ⟨b, o, e1⟩
            go_upto_region 20 with fail
            go_loop [14] (fun s14 => ∃ k : Nat, k < i ∧ s14 = .int .i64 k ∧ Hid (taken (L.take k) ≤ a)) (fun s14 => i - (intOf s14).toNat)
            case atStart => exact ⟨0, hi0, rfl, Lib.hid (by simp [taken])⟩
            case round =>
              obtain ⟨k, hki, rfl, hk⟩ := hrel
              obtain ⟨t1, ht1⟩ : ∃ t1, t1 = taken (L.take (k + 1)) := ⟨_, rfl⟩
              have c1 : w5.cell? ⟨ge, k + 1, none⟩ = some (.int .i64 t1) := by rw [ht1]; exact HCELL.out (k + 1) (by omega)
              have HT1 := Lib.hid ht1
              have hkl : (k : Int) + 1 < (i : Int) + 1 := by omega
              clear ht1
              by_cases hle : t1 ≤ a
              · have hle' : (t1 : Int) ≤ a := by omega
                go_wp2
                refine ⟨⟨k + 1, ?_, by simp, Lib.hid (by rw [← HT1.out]; exact hle)⟩, by simp [intOf]; omega⟩
                rcases Nat.lt_or_ge (k + 1) i with h0 | h0
                · exact h0
                · exfalso
                  have e : k + 1 = i := by omega
                  have := HT1.out
                  rw [e, hLi.out] at this
                  omega
              · have hle' : ¬ (t1 : Int) ≤ a := by omega
                have hkL : k < L.length := by have := HLL.out; have := HN.out; omega
                have hres := scan_changed L k hkL a x' hsmL.out hk.out (by rw [← HT1.out]; omega) HX2.out HNE.out
                rw [← HS.out] at hres
                have ck := HCELL.out k (by omega)
                have hql : qs.length = k := by
                  have := congrArg List.length (HQ.out.trans hres)
                  rw [List.length_map, List.length_take, Nat.min_eq_left (by omega)] at this
                  exact this
                rw [hres]
                obtain ⟨t0, ht0⟩ : ∃ t0, t0 = taken (L.take k) := ⟨_, rfl⟩
                rw [← ht0] at ck ⊢
                obtain rfl : mu = k := HMU.out.trans hql
                have hp5 := HPO.out.at_
                have hv5 := H.out.later HB5.out
                have hsame := sameParts_any (.slice Au mu cu) (.slice (some ⟨b, o, none⟩) mu c) qs (ps.take mu) w5 hp5 ⟨hv5.row.take mu (by have := HN.out; omega), fun p hp => hv5.each p (List.mem_of_mem_take hp)⟩
                  (fun q hq => by
                    have : q.2 ∈ L.take mu := by rw [← hres, ← HQ.out]; exact List.mem_map_of_mem hq
                    exact (hsmL.out _ (List.mem_of_mem_take this)).1)
                  (fun p hp => HBY.out p (List.mem_of_mem_take hp))
                have hd : qs.map (·.2) = (ps.take mu).map (·.2) := by rw [HQ.out, hres, HL.out, List.map_take]
                rw [decide_eq_true hd] at hsame
                have HSM := Lib.hid hsame
                have hic : i ≤ c := hnc
                clear hres hql ht0 hp5 hv5 hsame hd hkL
                go_wp2_with (first
                  | (go_at_call 19; (with_reducible refine HSM.out.mono ?_); rintro e w6 ⟨rfl, hb6⟩)
                  | (go_at_call 11; (with_reducible refine (HAWK.out w6 (HB5.out.trans (hb6.mono hs5))).mono ?_); rintro e w7 ⟨rfl, hb7⟩))
                go_ret
                exact ⟨rfl, (HB5.out.trans (hb6.mono hs5)).trans (hb7.mono (by have := hb6.size; omega))⟩
          · have ha := HAWK.out wr HBR.out
            by_cases hneg : at_ < 0
            · go_wp2_with (go_at_call 11; refine ha.mono ?_; rintro e w1 ⟨rfl, hb1⟩)
              go_ret
              exact ⟨rfl, HBR.out.trans (hb1.mono hsz)⟩
            · have hge : (m7 : Int) ≤ at_ := by omega
              go_wp2_with (go_at_call 11; refine ha.mono ?_; rintro e w1 ⟨rfl, hb1⟩)
              go_ret
              exact ⟨rfl, HBR.out.trans (hb1.mono hsz)⟩
  · have hgt : (50 : Int) < ps.length := by omega
    have ha := HAWK.out w (Below.refl _ _)
    go_enter Tryz.func7, Tryz.ntmps7
    go_wp2_with (go_at_call 11; refine ha.mono ?_; rintro e w1 ⟨rfl, hb1⟩)
    go_ret
    exact ⟨rfl, hb1⟩
end Go.Proofs.YtlamogpdkmbeoaaGreatDoor
