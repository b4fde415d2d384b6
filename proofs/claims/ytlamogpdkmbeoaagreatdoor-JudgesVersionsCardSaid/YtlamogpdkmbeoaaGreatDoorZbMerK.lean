/- The texts MerC, MerJ, MerK, MerL, MerP, MerQ in one. -/
import Derived.Test.YtlamogpdkmbeoaaGreatDoorZbMerA
import Derived.Test.YtlamogpdkmbeoaaGreatDoorZbMerF
set_option linter.unusedVariables false
set_option linter.unusedSimpArgs false
section PartMerC
/- The reference's 'SameNotes'. -/
set_option maxRecDepth 100000
namespace Go.Proofs.YtlamogpdkmbeoaaGreatDoor
open Go.RowKit Go.Lib Go.Shelf Go.Maps

/-- Two rows of notes of the same content. -/
def SameNs (xs ys : List Note) : Prop := xs.length = ys.length ∧ ∀ (i : Nat) (x y : Note), xs[i]? = some x → ys[i]? = some y → SameN x y
end Go.Proofs.YtlamogpdkmbeoaaGreatDoor
end PartMerC

section PartMerJ
/- What a set's notes are like. -/
set_option maxRecDepth 100000
namespace Go.Proofs.YtlamogpdkmbeoaaGreatDoor
open Go.RowKit Go.Lib Go.Shelf Go.Maps Go.Sort

theorem mem_setM {xs : List Note} {p : NameK × Note} (h : p ∈ setM xs) : p.1 = nm p.2 ∧ p.2 ∈ xs := by
  unfold setM at h
  suffices hh : ∀ (xs : List Note) (m : List (NameK × Note)), p ∈ xs.foldl (fun m x => putM m (nm x) x) m → (p ∈ m ∨ (p.1 = nm p.2 ∧ p.2 ∈ xs)) from (hh xs [] h).resolve_left (by simp)
  intro xs
  induction xs with
  | nil => intro m h; exact .inl h
  | cons x xs ih =>
    intro m h
    rcases ih _ h with h | ⟨h1, h2⟩
    · rcases mem_putM h with rfl | h
      · exact .inr ⟨rfl, List.mem_cons_self⟩
      · exact .inl h
    · exact .inr ⟨h1, List.mem_cons_of_mem _ h2⟩
theorem mem_putAll {m es : List (NameK × Note)} {p : NameK × Note} (h : p ∈ putAll m es) : p ∈ m ∨ p ∈ es := by
  unfold putAll at h
  induction es generalizing m with
  | nil => exact .inl h
  | cons q es ih =>
    rcases ih h with h | h
    · rcases mem_putM h with rfl | h
      · exact .inr List.mem_cons_self
      · exact .inl h
    · exact .inr (List.mem_cons_of_mem _ h)
theorem setM_len (xs : List Note) : (setM xs).length ≤ xs.length := by
  unfold setM
  suffices hh : ∀ (xs : List Note) (m : List (NameK × Note)), (xs.foldl (fun m x => putM m (nm x) x) m).length ≤ m.length + xs.length from by simpa using hh xs []
  intro xs
  induction xs with
  | nil => intro m; simp
  | cons x xs ih =>
    intro m
    have h1 := ih (putM m (nm x) x)
    have h2 := putM_length_le m (nm x) x
    simp only [List.foldl_cons, List.length_cons]
    omega
theorem putAll_len (m es : List (NameK × Note)) : (putAll m es).length ≤ m.length + es.length := by
  unfold putAll
  induction es generalizing m with
  | nil => simp
  | cons x es ih =>
    have h1 := ih (putM m x.1 x.2)
    have h2 := putM_length_le m x.1 x.2
    simp only [List.foldl_cons, List.length_cons]
    omega
theorem good_small {o : Lay} {x : Note} (h : x.good o = true) : x.js.length ≤ 1000 ∧ x.ls.length ≤ 1000 := by
  by_cases h1 : x.nt.kind = 1
  · have := (goodN h).log h1
    omega
  · unfold Note.good goodB at h
    simp only [Bool.and_eq_true] at h
    obtain ⟨⟨⟨⟨_, h0⟩, _⟩, _⟩, _⟩ := h
    unfold Nt.is0 log0B restLen at h0
    simp only [Bool.and_eq_true, beq_iff_eq, if_neg h1] at h0
    obtain ⟨_, ⟨_, h2⟩, h3⟩ := h0
    omega
/-- What holds of each entry of a set's map. -/
theorem set_facts {o : Lay} {v : Value} {xs : List Note} {w : World} (h : NotesAt w v xs) (hs : setB o xs = true) :
    ∀ p ∈ setM xs, okI p.1.1 ∧ okI p.1.2 ∧ oneN p.2 ∧ p.2.At w ∧ p.2.js.length ≤ 1000 ∧ p.2.ls.length ≤ 1000 := fun p hp => by
  obtain ⟨h1, h2⟩ := mem_setM hp
  have hg := setB_good hs _ h2
  have hn := goodN hg
  rw [h1]
  exact ⟨WalkArith.wf_i64 (by have := hn.judge; dsimp only [nm]; omega), WalkArith.wf_i64 (by have := hn.num; dsimp only [nm]; omega), note_one (h.each _ h2), h.each _ h2, good_small hg⟩
end Go.Proofs.YtlamogpdkmbeoaaGreatDoor
end PartMerJ

section PartMerK
/- 'Merge'. -/
set_option maxRecDepth 100000
namespace Go.Proofs.YtlamogpdkmbeoaaGreatDoor
open Go.RowKit Go.Lib Go.Shelf Go.Maps Go.Sort

/-- What 'Merge' hands back. -/
inductive MergeOut (o : Lay) (xs ys : List Note) (base : Nat) (w' : World) : Ending → Prop where
  | bad (h : (setB o xs && setB o ys) = false) : MergeOut o xs ys base w' (.returned (.tuple #[.slice none 0 0, .int .i64 1]))
  | forked (h : (setB o xs && setB o ys) = true) (hf : ∃ q, ForkAt (setM xs) (setM ys) q) : MergeOut o xs ys base w' (.returned (.tuple #[.slice none 0 0, .int .i64 92]))
  | long (h : (setB o xs && setB o ys) = true) (hf : ¬ ∃ q, ForkAt (setM xs) (setM ys) q) (es : List (NameK × Note)) (he : es.Perm (setM ys)) (hl : 2000 < (putAll (setM xs) es).length) : MergeOut o xs ys base w' (.returned (.tuple #[.slice none 0 0, .int .i64 2]))
  | ok (h : (setB o xs && setB o ys) = true) (hf : ¬ ∃ q, ForkAt (setM xs) (setM ys) q) (es : List (NameK × Note)) (he : es.Perm (setM ys)) (hl : (putAll (setM xs) es).length ≤ 2000) (u : Value) (ks : List NameK) (zs : List Note)
      (hk : ks.Perm ((putAll (setM xs) es).map (·.1))) (hs : ks.Pairwise (fun a b => cmpNmK a b ≤ 0)) (ho : OwnNotes base w' u zs) (hc : CopiesOf (putAll (setM xs) es) ks zs) : MergeOut o xs ys base w' (.returned (.tuple #[u, .int .i64 0]))
set_option maxHeartbeats 16000000 in
theorem Merge_any (o : Lay) (v1 v2 : Value) (xs ys : List Note) (w : World) (h1 : NotesAt w v1 xs) (h2 : NotesAt w v2 ys) (hE : Env w) :
    Calls Tryz.prog 21 #[o.val, v1, v2] w fun e w' => MergeOut o xs ys w.heap.size w' e ∧ Below w.heap.size w w' := by
  obtain ⟨R, hR⟩ : ∃ R, R = setB o xs := ⟨_, rfl⟩
  obtain ⟨T, hT⟩ : ∃ T, T = setB o ys := ⟨_, rfl⟩
  have hi1 := fun W (hb : Below w.heap.size w W) => isSet_any o v1 xs W (h1.later hb) (hE.below hE.big hb)
  have hi2 := fun W (hb : Below w.heap.size w W) => isSet_any o v2 ys W (h2.later hb) (hE.below hE.big hb)
  rw [← hR] at hi1
  rw [← hT] at hi2
  have HR := Lib.hid hR
  have HT := Lib.hid hT
  have H1 := Lib.hid h1
  have H2 := Lib.hid h2
  have HI1 := Lib.hid hi1
  have HI2 := Lib.hid hi2
  obtain ⟨lo, hlo⟩ : ∃ lo, lo = o := ⟨_, rfl⟩
  obtain ⟨o1, o2, o3⟩ := o
  obtain ⟨W, hW⟩ : ∃ W, w.alloc (.cells #[.bool o1, .bool o2, .bool o3] 23) = W := ⟨_, rfl⟩
  have hb : Below w.heap.size w W := by rw [← hW]; exact below_alloc0 _
  have hO : Blk W w.heap.size 23 #[.bool o1, .bool o2, .bool o3] := by rw [← hW]; exact Blk.new w _ _
  have hs0 : w.heap.size ≤ W.heap.size := hb.size
  have j1 := hi1 W hb
  have c0 : W.cell? ⟨w.heap.size, 0, none⟩ = some (.bool o1) := hO.cell 0
  have c1 : W.cell? ⟨w.heap.size, 1, none⟩ = some (.bool o2) := hO.cell 1
  have c2 : W.cell? ⟨w.heap.size, 2, none⟩ = some (.bool o3) := hO.cell 2
  dsimp only [Lay.val] at j1 ⊢
  have HO := Lib.hid hO
  have HB := Lib.hid hb
  clear hR hT h1 h2 hi1 hi2 hO hb hE
  cases R
  · go_enter Tryz.func21, Tryz.ntmps21
    go_wp2_with (go_at_call 31; refine j1.mono ?_; rintro e w1 ⟨rfl, hb1⟩)
    go_ret2
    exact ⟨.bad (by rw [← HR.out]; rfl), HB.out.trans (hb1.mono hs0)⟩
  · have lO := HO.out.lt
    have harm : Hid (∀ w1, Below W.heap.size W w1 → w1.cell? ⟨w.heap.size, 0, none⟩ = some (.bool o1) ∧ w1.cell? ⟨w.heap.size, 1, none⟩ = some (.bool o2) ∧ w1.cell? ⟨w.heap.size, 2, none⟩ = some (.bool o3)) := Lib.hid fun w1 hb1 => ⟨(HO.out.later hb1).cell 0, (HO.out.later hb1).cell 1, (HO.out.later hb1).cell 2⟩
    cases T
    · go_enter Tryz.func21, Tryz.ntmps21
      go_wp2_with (first
        | (go_at_call 31; (with_reducible refine j1.mono ?_); rintro e w1 ⟨rfl, hb1⟩; obtain ⟨e0, e1, e2⟩ := harm.out w1 hb1; have j2 := HI2.out w1 (HB.out.trans (hb1.mono hs0)); dsimp only [Lay.val] at j2)
        | (go_at_call 31; (with_reducible refine j2.mono ?_); rintro e w2 ⟨rfl, hb2⟩))
      go_ret2
      exact ⟨.bad (by rw [← HT.out, Bool.and_false]), HB.out.trans ((hb1.trans (hb2.mono hb1.size)).mono hs0)⟩
    · have HRT : Hid ((setB lo xs && setB lo ys) = true) := Lib.hid (by rw [hlo, ← HR.out, ← HT.out]; rfl)
      have hsx : setB lo xs = true := by rw [hlo]; exact HR.out.symm
      have hsy : setB lo ys = true := by rw [hlo]; exact HT.out.symm
      have HSX := Lib.hid hsx
      have HSY := Lib.hid hsy
      clear hsx hsy
      have hk1 : ∀ x ∈ xs, okI x.nt.judge ∧ okI x.nt.num := fun x hx => by
        have hn := goodN (setB_good HSX.out x hx)
        exact ⟨WalkArith.wf_i64 (by have := hn.judge; omega), WalkArith.wf_i64 (by have := hn.num; omega)⟩
      have hk2 : ∀ x ∈ ys, okI x.nt.judge ∧ okI x.nt.num := fun x hx => by
        have hn := goodN (setB_good HSY.out x hx)
        exact ⟨WalkArith.wf_i64 (by have := hn.judge; omega), WalkArith.wf_i64 (by have := hn.num; omega)⟩
      have HK1 := Lib.hid hk1
      have HK2 := Lib.hid hk2
      clear hk1 hk2
      go_enter Tryz.func21, Tryz.ntmps21
      go_upto_region 4 with (first
        | (go_at_call 31; (with_reducible refine j1.mono ?_); rintro e w1 ⟨rfl, hb1⟩; obtain ⟨e0, e1, e2⟩ := harm.out w1 hb1; have j2 := HI2.out w1 (HB.out.trans (hb1.mono hs0)); dsimp only [Lay.val] at j2)
        | (go_at_call 31; (with_reducible refine j2.mono ?_); rintro e w2 ⟨rfl, hb2⟩; have hB2 : Below w.heap.size w w2 := HB.out.trans ((hb1.trans (hb2.mono hb1.size)).mono hs0); have s1 := setOf_any v1 xs w2 (H1.out.later hB2) HK1.out)
        | (go_at_call 41; (with_reducible refine s1.mono ?_); rintro e w3 ⟨rfl, hm3, hb3⟩))
      have hB3 : Below w.heap.size w w3 := hB2.trans (hb3.mono hB2.size)
      have s2 := setOf_any v2 ys w3 (H2.out.later hB3) HK2.out
      have HM3 := Lib.hid hm3
      have HB3 := Lib.hid hB3
      have HS2 : Hid (w.heap.size ≤ w2.heap.size ∧ w2.heap.size < w3.heap.size) := Lib.hid ⟨hB2.size, hm3.lt⟩
      clear hB2 s1 j1 j2 hb1 hb2 hb3 hm3 hB3 e0 e1 e2 c0 c1 c2 hW
      obtain ⟨b1, hb1'⟩ : ∃ b1, b1 = w2.heap.size := ⟨_, rfl⟩
      rw [← hb1'] at HM3 HS2 ⊢
      clear hb1'
      go_upto_region 5 with (first
        | (go_at_call 41; (with_reducible refine s2.mono ?_); rintro e w4 ⟨rfl, hm4, hb4⟩; have hB4 : Below w.heap.size w w4 := HB3.out.trans (hb4.mono HB3.out.size); have f1 := fork_any b1 w3.heap.size (setM xs) (setM ys) w4 (HM3.out.block (hb4.block _ HM3.out.lt)) hm4 (by have := setM_len xs; have := setB_len HSX.out; omega) (fun p hp => by have h := set_facts (H1.out.later hB4) HSX.out p hp; exact ⟨h.1, h.2.1, h.2.2.1, h.2.2.2.1⟩) (fun p hp => by have h := set_facts (H2.out.later hB4) HSY.out p hp; exact ⟨h.2.2.1, h.2.2.2.1⟩))
        | (go_at_call 42; (with_reducible refine f1.mono ?_); rintro e w5 ⟨⟨fj, fk, fb, rfl, hfb⟩, hb5⟩)
        | (refine wpList_store_blk rfl 37 _ _ rfl w5.heap.size 37 #[.int .i64 0, .int .i64 0] #[.int .i64 fj, .int .i64 fk] rfl rfl (Blk.new w5 _ _) (by rfl) sizeNm (by simp [Value.oneCell']) ?_; intro w6 hZ6 hg6 hs6))
      have hb46 : Below w4.heap.size w4 w6 := hb5.trans (((below_alloc0 _).grown hg6 (by simp) (fun j e => by cases e; exact Nat.le_refl _)).mono hb5.size)
      have HB6 := Lib.hid (hB4.trans (hb46.mono hB4.size))
      have HFB := Lib.hid hfb
      have HM6 := Lib.hid ((HM3.out.block (hb4.block _ HM3.out.lt)).block (hb46.block _ (Nat.lt_of_lt_of_le HM3.out.lt hb4.size)))
      clear hb46 hb5 hg6 hs6 hZ6 hB4 hm4 hb4 s2 f1 hfb
      cases fb
      rotate_left
      · go_wp2
        go_ret2
        exact ⟨.forked (by rw [← hlo]; exact HRT.out) (HFB.out.1 (by first | rfl | trivial)), HB6.out⟩
      have HNF : Hid (¬ ∃ q, ForkAt (setM xs) (setM ys) q) := Lib.hid (fun h => by have := HFB.out.2 h; cases this)
      have s3 := setOf_any v2 ys w6 (H2.out.later HB6.out) HK2.out
      have hs6 : w.heap.size ≤ w6.heap.size := HB6.out.size
      have hbm := HM6.out.lt
      go_upto_region 8 with (first
        | (go_at_call 41; (with_reducible refine s3.mono ?_); rintro e w7 ⟨rfl, hm7, hb7⟩; have hB7 : Below w.heap.size w w7 := HB6.out.trans (hb7.mono hs6); have hM7 := HM6.out.block (hb7.block _ HM6.out.lt); have cp := mCopy_any w.heap.size b1 w6.heap.size (setM xs) (setM ys) w7 hM7 hm7 (by omega) HS2.out.1 (Nat.le_trans hs6 hb7.size) (fun p hp => by have h := set_facts (H2.out.later hB7) HSY.out p hp; exact ⟨h.1, h.2.1, h.2.2.1⟩))
        | (go_at_call 43; (with_reducible refine cp.mono ?_); rintro e w8 ⟨⟨v, rfl⟩, ⟨es, hes, hm8⟩, hb8⟩))
      have hB8 : Below w.heap.size w w8 := hB7.trans hb8
      have hle : (putAll (setM xs) es).length ≤ 4000 := by
        have a1 := putAll_len (setM xs) es
        have a2 := setM_len xs
        have a3 := setM_len ys
        have a4 := hes.length_eq
        have a5 := setB_len HSX.out
        have a6 := setB_len HSY.out
        omega
      have hli := list_any b1 (putAll (setM xs) es) w8 hm8 hle (fun p hp => by
        rcases mem_putAll hp with h | h
        · exact set_facts (H1.out.later hB8) HSX.out p h
        · exact set_facts (H2.out.later hB8) HSY.out p (hes.mem_iff.1 h))
      obtain ⟨me, clk, hIs⟩ := hm8
      have hat := hIs.at_
      have hsz := Lib.hid hIs.size
      have qlen : (Go.Builtin.len_ #[105] 3 #[.map (some b1)]).run Tryz.prog w8 = .ok (.int .i64 (me.size : Int)) w8 := run_len_map (es := me) (clock := clk) (h := by kernel_rfl) (hb := hat) ..
      have US := Tryz.underlying105
      have HB8 := Lib.hid hB8
      have HES := Lib.hid hes
      have hs8 : w.heap.size ≤ w8.heap.size := hB8.size
      have HLI := Lib.hid hli
      have hme : me.size ≤ 4000 := by rw [hIs.size]; exact hle
      clear s3 cp hm7 hb7 hB7 hM7 hes hb8 hIs hB8 hli hle
      obtain ⟨N, hN⟩ : ∃ N, N = me.size := ⟨_, rfl⟩
      by_cases hL : 2000 < me.size
      · have hL2 : (2000 : Int) < (me.size : Int) := by omega
        go_wp2
        go_ret2
        exact ⟨.long (by rw [← hlo]; exact HRT.out) HNF.out es HES.out (by rw [← hsz.out]; exact hL), HB8.out⟩
      · have hL2 : ¬ (2000 : Int) < (me.size : Int) := by omega
        go_wp2_with (go_at_call 44; (with_reducible refine HLI.out.mono ?_); rintro e w9 ⟨u, ks, zs, rfl, hk, hs, ho, hc, hb9⟩)
        go_ret2
        exact ⟨.ok (by rw [← hlo]; exact HRT.out) HNF.out es HES.out (by rw [← hsz.out]; omega) u ks zs hk hs ⟨ownsRow_base_a ho.row hs8, fun x hx => ownsRow_base_a (ho.jumps x hx) hs8, fun x hx => ownsRow_base_a (ho.lines x hx) hs8⟩ hc, HB8.out.trans (hb9.mono hs8)⟩
end Go.Proofs.YtlamogpdkmbeoaaGreatDoor
end PartMerK

section PartMerL
/- 'Fork'. -/
set_option maxRecDepth 100000
namespace Go.Proofs.YtlamogpdkmbeoaaGreatDoor
open Go.RowKit Go.Lib Go.Shelf Go.Maps Go.Sort

end Go.Proofs.YtlamogpdkmbeoaaGreatDoor
end PartMerL

section PartMerP
/- What 'Merge' hands back, told of the notes' contents alone. -/
set_option maxRecDepth 100000
namespace Go.Proofs.YtlamogpdkmbeoaaGreatDoor
open Go.RowKit Go.Lib Go.Shelf Go.Maps Go.Sort

theorem SameN.refl (x : Note) : SameN x x := ⟨rfl, rfl, rfl, rfl, rfl, rfl, ⟨rfl, rfl⟩, ⟨rfl, rfl⟩, ⟨rfl, rfl⟩, rfl, rfl, ⟨rfl, rfl, rfl, rfl, rfl, rfl⟩⟩
theorem SameN.symm {x y : Note} (h : SameN x y) : SameN y x :=
  ⟨h.judge.symm, h.num.symm, h.clock.symm, h.kind.symm, h.call.symm, h.version.symm, ⟨h.a.1.symm, h.a.2.symm⟩, ⟨h.b.1.symm, h.b.2.symm⟩, ⟨h.ref.1.symm, h.ref.2.symm⟩, h.hash.symm, h.prev.symm, ⟨h.log.call.symm, h.log.cat.symm, h.log.pow.symm, h.log.cl.symm, h.log.js.symm, h.log.ls.symm⟩⟩
theorem SameN.trans {x y z : Note} (h : SameN x y) (k : SameN y z) : SameN x z :=
  ⟨h.judge.trans k.judge, h.num.trans k.num, h.clock.trans k.clock, h.kind.trans k.kind, h.call.trans k.call, h.version.trans k.version, ⟨h.a.1.trans k.a.1, h.a.2.trans k.a.2⟩, ⟨h.b.1.trans k.b.1, h.b.2.trans k.b.2⟩, ⟨h.ref.1.trans k.ref.1, h.ref.2.trans k.ref.2⟩, h.hash.trans k.hash, h.prev.trans k.prev, ⟨h.log.call.trans k.log.call, h.log.cat.trans k.log.cat, h.log.pow.trans k.log.pow, h.log.cl.trans k.log.cl, h.log.js.trans k.log.js, h.log.ls.trans k.log.ls⟩⟩
theorem sameN_with (x : Note) (a b : Value) : SameN (x.with a b) x := ⟨rfl, rfl, rfl, rfl, rfl, rfl, ⟨rfl, rfl⟩, ⟨rfl, rfl⟩, ⟨rfl, rfl⟩, rfl, rfl, ⟨rfl, rfl, rfl, rfl, rfl, rfl⟩⟩
theorem SameN.name {x y : Note} (h : SameN x y) : nm x = nm y := Prod.ext h.judge h.num
theorem SameN.eq {x y : Note} (h : SameN x y) : x = y.with x.nt.log.jumps x.nt.log.lines := by
  obtain ⟨⟨ju1, nu1, ck1, kd1, ca1, ve1, ⟨lc1, lg1, lp1, ll1, vj1, vl1⟩, aC1, aN1, bC1, bN1, rJ1, rN1, ha1, pv1⟩, js1, ls1⟩ := x
  obtain ⟨⟨ju2, nu2, ck2, kd2, ca2, ve2, ⟨lc2, lg2, lp2, ll2, vj2, vl2⟩, aC2, aN2, bC2, bN2, rJ2, rN2, ha2, pv2⟩, js2, ls2⟩ := y
  obtain ⟨h1, h2, h3, h4, h5, h6, ⟨h7, h8⟩, ⟨h9, h10⟩, ⟨h11, h12⟩, h13, h14, ⟨h15, h16, h17, h18, h19, h20⟩⟩ := h
  dsimp only at h1 h2 h3 h4 h5 h6 h7 h8 h9 h10 h11 h12 h13 h14 h15 h16 h17 h18 h19 h20
  subst h1 h2 h3 h4 h5 h6 h7 h8 h9 h10 h11 h12 h13 h14 h15 h16 h17 h18 h19 h20
  rfl
theorem rest_with (x : Note) (a b : Value) (n m : Nat) : (x.with a b).nt.rest.is0 n m = x.nt.rest.is0 n m := by
  unfold Nt.rest Note.with
  dsimp only
  repeat' split
  all_goals rfl
theorem good_with (o : Lay) (x : Note) (a b : Value) : (x.with a b).good o = x.good o := by
  unfold Note.good goodB
  rw [show (x.with a b).nt.rest.is0 (restLen (x.with a b).nt (x.with a b).js.length) (restLen (x.with a b).nt (x.with a b).ls.length) = x.nt.rest.is0 (restLen x.nt x.js.length) (restLen x.nt x.ls.length) from rest_with x a b _ _]
  rfl
theorem SameN.good {x y : Note} (h : SameN x y) (o : Lay) : x.good o = y.good o := by
  rw [h.eq, good_with]

theorem putAll_keys (m es : List (NameK × Note)) (k : NameK) : k ∈ (putAll m es).map (·.1) ↔ k ∈ m.map (·.1) ∨ k ∈ es.map (·.1) := by
  unfold putAll
  induction es generalizing m with
  | nil => simp
  | cons p es ih =>
    rw [List.foldl_cons, ih, putM_keyIff, List.map_cons, List.mem_cons]
    constructor
    · rintro ((h | h) | h)
      · exact .inl h
      · exact .inr (.inl h)
      · exact .inr (.inr h)
    · rintro (h | h | h)
      · exact .inl (.inl h)
      · exact .inl (.inr h)
      · exact .inr h
theorem putAll_nodup {m : List (NameK × Note)} (es : List (NameK × Note)) (h : (m.map (·.1)).Nodup) : ((putAll m es).map (·.1)).Nodup := by
  unfold putAll
  induction es generalizing m with
  | nil => exact h
  | cons p es ih => exact ih (putM_nodup p.1 p.2 h)
theorem setM_keys {xs : List Note} (hn : (xs.map nm).Nodup) : (setM xs).map (·.1) = xs.map nm := by
  rw [setM_nodup xs hn, List.map_map]
  rfl
theorem getM_setM {xs : List Note} (hn : (xs.map nm).Nodup) (q : NameK) (x : Note) : getM (setM xs) q = some x ↔ x ∈ xs ∧ nm x = q := by
  constructor
  · intro h
    have h := mem_setM (getM_mem h)
    exact ⟨h.2, h.1.symm⟩
  · rintro ⟨h, rfl⟩
    obtain ⟨y, h1, h2⟩ := getM_has (m := setM xs) (k := nm x) (by rw [setM_keys hn]; exact List.mem_map_of_mem h)
    have h3 := mem_setM h2
    have : y = x := inj_of_nodup hn h3.2 h h3.1.symm
    rw [h1, this]
/-- Notes of one name have the same content in both. -/
def Comp (xs ys : List Note) : Prop := ∀ x ∈ xs, ∀ y ∈ ys, nm x = nm y → SameN x y
theorem Comp.symm {xs ys : List Note} (h : Comp xs ys) : Comp ys xs := fun y hy x hx e => (h x hx y hy e.symm).symm
theorem comp_fork {xs ys : List Note} (hx : (xs.map nm).Nodup) (hy : (ys.map nm).Nodup) : (∃ q, ForkAt (setM xs) (setM ys) q) ↔ ¬ Comp xs ys := by
  constructor
  · rintro ⟨q, x, y, h1, h2, h3⟩ hc
    rw [getM_setM hx] at h1
    rw [getM_setM hy] at h2
    exact h3 (hc x h1.1 y h2.1 (h1.2.trans h2.2.symm)).symm
  · intro h
    refine Classical.byContradiction fun hn => h fun x hx' y hy' e => Classical.byContradiction fun hs => hn ⟨nm x, x, y, ?_, ?_, fun h => hs h.symm⟩
    · exact (getM_setM hx _ _).2 ⟨hx', rfl⟩
    · exact (getM_setM hy _ _).2 ⟨hy', e.symm⟩
/-- More than 2000 names in both together. -/
def Long (xs ys : List Note) : Prop := ∃ K : List NameK, K.Nodup ∧ (∀ k ∈ K, ∃ x, (x ∈ xs ∨ x ∈ ys) ∧ nm x = k) ∧ 2000 < K.length
theorem Long.symm {xs ys : List Note} (h : Long xs ys) : Long ys xs := by
  obtain ⟨K, h1, h2, h3⟩ := h
  exact ⟨K, h1, fun k hk => by obtain ⟨x, h, e⟩ := h2 k hk; exact ⟨x, h.symm, e⟩, h3⟩
/-- zs has the notes of both and no others. -/
structure Un (xs ys zs : List Note) : Prop where
  of : ∀ z ∈ zs, ∃ x, (x ∈ xs ∨ x ∈ ys) ∧ SameN z x
  has : ∀ x, (x ∈ xs ∨ x ∈ ys) → ∃ z ∈ zs, SameN x z
/-- What 'Merge' hands back: the error, the notes. -/
inductive MP (o : Lay) (xs ys : List Note) : Int → List Note → Prop where
  | bad (h : (setB o xs && setB o ys) = false) : MP o xs ys 1 []
  | forked (h : (setB o xs && setB o ys) = true) (hf : ¬ Comp xs ys) : MP o xs ys 92 []
  | long (h : (setB o xs && setB o ys) = true) (hf : Comp xs ys) (hl : Long xs ys) : MP o xs ys 2 []
  | ok (h : (setB o xs && setB o ys) = true) (hf : Comp xs ys) (hl : ¬ Long xs ys) (zs : List Note) (hz : setB o zs = true) (hu : Un xs ys zs) : MP o xs ys 0 zs
theorem two {a b : Bool} (h : (a && b) = true) : a = true ∧ b = true := by simpa using h
theorem lex_lt {a b : NameK} (h : cmpNmK a b ≤ 0) (hne : a ≠ b) : a.1 < b.1 ∨ (a.1 = b.1 ∧ a.2 < b.2) := by
  unfold cmpNmK cmpName orI compareInt at h
  by_cases h1 : a.1 < b.1
  · exact .inl h1
  · by_cases h2 : b.1 < a.1
    · simp [h1, h2] at h
    · have e1 : a.1 = b.1 := by omega
      by_cases h3 : a.2 < b.2
      · exact .inr ⟨e1, h3⟩
      · by_cases h4 : b.2 < a.2
        · simp [e1, h3, h4] at h
        · exact absurd (Prod.ext e1 (by omega)) hne
/-- The notes that a merge of sets hands back. -/
theorem ok_un {o : Lay} {xs ys : List Note} (hx : setB o xs = true) (hy : setB o ys = true) (hc : Comp xs ys) {es : List (NameK × Note)} (he : es.Perm (setM ys)) (hl : (putAll (setM xs) es).length ≤ 2000) {ks : List NameK} {zs : List Note}
    (hk : ks.Perm ((putAll (setM xs) es).map (·.1))) (hs : ks.Pairwise (fun a b => cmpNmK a b ≤ 0)) (hco : CopiesOf (putAll (setM xs) es) ks zs) : setB o zs = true ∧ Un xs ys zs ∧ zs.map nm = ks := by
  have nx := setB_nodup hx
  have ny := setB_nodup hy
  have hent : ∀ p ∈ putAll (setM xs) es, p.1 = nm p.2 ∧ (p.2 ∈ xs ∨ p.2 ∈ ys) := fun p hp => by
    rcases mem_putAll hp with h | h
    · have := mem_setM h
      exact ⟨this.1, .inl this.2⟩
    · have := mem_setM (he.mem_iff.1 h)
      exact ⟨this.1, .inr this.2⟩
  have hkn : ks.Nodup := hk.nodup_iff.2 (putAll_nodup es (by rw [setM_keys nx]; exact nx))
  obtain ⟨hlen, hcp⟩ := hco
  have hat : ∀ (i : Nat) (z : Note), zs[i]? = some z → ∃ k x, ks[i]? = some k ∧ (x ∈ xs ∨ x ∈ ys) ∧ nm x = k ∧ SameN z x := fun i z hz => by
    have hi := (List.getElem?_eq_some_iff.1 hz).1
    have hki := List.getElem?_eq_getElem (l := ks) (i := i) (by omega)
    obtain ⟨x, vj, vl, hg, rfl⟩ := hcp i _ z hki hz
    have h2 := hent _ (getM_mem hg)
    exact ⟨_, x, hki, h2.2, h2.1.symm, sameN_with x vj vl⟩
  have hnm : zs.map nm = ks := by
    refine List.ext_getElem? fun i => ?_
    rw [List.getElem?_map]
    cases hz : zs[i]? with
    | none =>
      have := List.getElem?_eq_none_iff.1 hz
      exact (List.getElem?_eq_none_iff.2 (by omega)).symm
    | some z =>
      obtain ⟨k, x, h1, _, h3, h4⟩ := hat i z hz
      rw [h1]
      exact congrArg some (h4.name.trans h3)
  have hmem : ∀ z ∈ zs, ∃ x, (x ∈ xs ∨ x ∈ ys) ∧ SameN z x := fun z hz => by
    obtain ⟨i, hi⟩ := List.getElem?_of_mem hz
    obtain ⟨k, x, _, h2, _, h4⟩ := hat i z hi
    exact ⟨x, h2, h4⟩
  refine ⟨setB_of ?_ ?_ ?_, ⟨hmem, fun x hxy => ?_⟩, hnm⟩
  · have := hk.length_eq
    rw [List.length_map] at this
    omega
  · intro z hz
    obtain ⟨x, h1, h2⟩ := hmem z hz
    rw [h2.good o]
    rcases h1 with h1 | h1
    · exact setB_good hx x h1
    · exact setB_good hy x h1
  · have h2 : ks.Pairwise (fun a b => a.1 < b.1 ∨ (a.1 = b.1 ∧ a.2 < b.2)) := List.pairwise_iff_getElem.2 fun i j hi hj hij => lex_lt (List.pairwise_iff_getElem.1 hs i j hi hj hij) (List.pairwise_iff_getElem.1 (List.nodup_iff_pairwise_ne.1 hkn) i j hi hj hij)
    rw [← hnm, List.pairwise_map] at h2
    exact h2
  · have hkm : nm x ∈ ks := hk.mem_iff.2 ((putAll_keys _ _ _).2 (by
      rcases hxy with h | h
      · exact .inl (by rw [setM_keys nx]; exact List.mem_map_of_mem h)
      · exact .inr ((he.map (·.1)).mem_iff.2 (by rw [setM_keys ny]; exact List.mem_map_of_mem h))))
    rw [← hnm] at hkm
    obtain ⟨z, hz, hzn⟩ := List.mem_map.1 hkm
    refine ⟨z, hz, ?_⟩
    obtain ⟨x', h1, h2⟩ := hmem z hz
    have hn : nm x = nm x' := hzn.symm.trans h2.name
    refine SameN.trans ?_ h2.symm
    rcases hxy with h | h <;> rcases h1 with h1 | h1
    · rw [inj_of_nodup nx h h1 hn]; exact SameN.refl _
    · exact hc x h x' h1 hn
    · exact (hc x' h1 x h hn.symm).symm
    · rw [inj_of_nodup ny h h1 hn]; exact SameN.refl _
theorem sorted_eq : ∀ {a b : List NameK}, a.Pairwise (fun a b => a.1 < b.1 ∨ (a.1 = b.1 ∧ a.2 < b.2)) → b.Pairwise (fun a b => a.1 < b.1 ∨ (a.1 = b.1 ∧ a.2 < b.2)) → (∀ k, k ∈ a ↔ k ∈ b) → a = b
  | [], [], _, _, _ => rfl
  | [], y :: b, _, _, h => absurd ((h y).2 List.mem_cons_self) (by simp)
  | x :: a, [], _, _, h => absurd ((h x).1 List.mem_cons_self) (by simp)
  | x :: a, y :: b, ha, hb, h => by
    rw [List.pairwise_cons] at ha hb
    have hxy : x = y := by
      rcases List.mem_cons.1 ((h x).1 List.mem_cons_self) with e | h1
      · exact e
      · rcases List.mem_cons.1 ((h y).2 List.mem_cons_self) with e | h2
        · exact e.symm
        · have := ha.1 y h2
          have := hb.1 x h1
          omega
    subst hxy
    rw [sorted_eq ha.2 hb.2 fun k => ?_]
    constructor
    · intro hk
      rcases List.mem_cons.1 ((h k).1 (List.mem_cons_of_mem _ hk)) with e | h1
      · subst e
        have := ha.1 k hk
        omega
      · exact h1
    · intro hk
      rcases List.mem_cons.1 ((h k).2 (List.mem_cons_of_mem _ hk)) with e | h1
      · subst e
        have := hb.1 k hk
        omega
      · exact h1
theorem same_lists {o : Lay} {xs ys : List Note} (hx : setB o xs = true) (hy : setB o ys = true) (h1 : ∀ x ∈ xs, ∃ y ∈ ys, SameN x y) (h2 : ∀ y ∈ ys, ∃ x ∈ xs, SameN x y) : SameNs xs ys := by
  have hn : xs.map nm = ys.map nm := by
    refine sorted_eq (List.pairwise_map.2 (setB_pair hx)) (List.pairwise_map.2 (setB_pair hy)) fun k => ⟨fun hk => ?_, fun hk => ?_⟩
    · obtain ⟨x, hx, rfl⟩ := List.mem_map.1 hk
      obtain ⟨y, hy, e⟩ := h1 x hx
      exact List.mem_map.2 ⟨y, hy, e.name.symm⟩
    · obtain ⟨y, hy, rfl⟩ := List.mem_map.1 hk
      obtain ⟨x, hx, e⟩ := h2 y hy
      exact List.mem_map.2 ⟨x, hx, e.name⟩
  refine ⟨by simpa using congrArg List.length hn, fun i x y ex ey => ?_⟩
  have e1 := congrArg (fun l => l[i]?) hn
  simp only [List.getElem?_map, ex, ey, Option.map_some, Option.some.injEq] at e1
  obtain ⟨y', hy', hs⟩ := h1 x (List.mem_of_getElem? ex)
  rw [inj_of_nodup (setB_nodup hy) (List.mem_of_getElem? ey) hy' (e1.symm.trans hs.name)]
  exact hs
/-! The laws. -/
theorem MP.un {o : Lay} {a b x : List Note} (h : MP o a b 0 x) : setB o a = true ∧ setB o b = true ∧ setB o x = true ∧ Comp a b ∧ Un a b x := by
  generalize he : (0 : Int) = e at h
  cases h with
  | bad => cases he
  | forked => cases he
  | long => cases he
  | ok h hf hl _ hz hu => exact ⟨(two h).1, (two h).2, hz, hf, hu⟩
/-- Names that all are in a set are not too many. -/
theorem not_long {o : Lay} {a b x : List Note} (hx : setB o x = true) (h : ∀ y, (y ∈ a ∨ y ∈ b) → ∃ z ∈ x, SameN y z) : ¬ Long a b := by
  rintro ⟨K, h1, h2, h3⟩
  have := nodup_len (b := x.map nm) h1 (fun k hk => by
    obtain ⟨y, hy, rfl⟩ := h2 k hk
    obtain ⟨z, hz, hs⟩ := h y hy
    exact List.mem_map.2 ⟨z, hz, hs.name.symm⟩)
  rw [List.length_map] at this
  have := setB_len hx
  omega
end Go.Proofs.YtlamogpdkmbeoaaGreatDoor
end PartMerP

section PartMerQ
/- 'Merge', told of the notes' contents. -/
set_option maxRecDepth 100000
namespace Go.Proofs.YtlamogpdkmbeoaaGreatDoor
open Go.RowKit Go.Lib Go.Shelf Go.Maps Go.Sort

theorem notes_none (w : World) : NotesAt w (.slice none 0 0) [] := ⟨RowsAt.nil _ _, by simp⟩
theorem OwnNotes.at_ {base : Nat} {w : World} {v : Value} {zs : List Note} (h : OwnNotes base w v zs) (hc : ∀ z ∈ zs, ∀ y ∈ z.ls, y.call.size ≤ 9223372036854775807) : NotesAt w v zs :=
  ⟨rows_of_owns 20 (fun _ => rfl) h.row, fun z hz => ⟨rows_of_owns 1 (fun _ => rfl) (h.jumps z hz), rows_of_owns 11 (fun _ => rfl) (h.lines z hz), hc z hz⟩⟩
theorem Merge_mp (o : Lay) (v1 v2 : Value) (xs ys : List Note) (w : World) (h1 : NotesAt w v1 xs) (h2 : NotesAt w v2 ys) (hE : Env w) :
    Calls Tryz.prog 21 #[o.val, v1, v2] w fun e w' => ∃ A c er zs, e = .returned (.tuple #[.slice A zs.length c, .int .i64 er]) ∧ MP o xs ys er zs ∧ NotesAt w' (.slice A zs.length c) zs ∧ Below w.heap.size w w' := by
  refine (Merge_any o v1 v2 xs ys w h1 h2 hE).mono ?_
  rintro e w' ⟨hm, hb⟩
  have hfk : (setB o xs && setB o ys) = true → ((∃ q, ForkAt (setM xs) (setM ys) q) ↔ ¬ Comp xs ys) := fun h => comp_fork (setB_nodup (two h).1) (setB_nodup (two h).2)
  cases hm with
  | bad h => exact ⟨none, 0, 1, [], rfl, .bad h, notes_none _, hb⟩
  | forked h hf => exact ⟨none, 0, 92, [], rfl, .forked h ((hfk h).1 hf), notes_none _, hb⟩
  | long h hf es he hl =>
    have hc : Comp xs ys := Classical.byContradiction fun hn => hf ((hfk h).2 hn)
    refine ⟨none, 0, 2, [], rfl, .long h hc ⟨(putAll (setM xs) es).map (·.1), putAll_nodup es (by rw [setM_keys (setB_nodup (two h).1)]; exact setB_nodup (two h).1), fun k hk => ?_, by rw [List.length_map]; exact hl⟩, notes_none _, hb⟩
    rcases (putAll_keys _ _ _).1 hk with hk | hk
    · rw [setM_keys (setB_nodup (two h).1)] at hk
      obtain ⟨x, hx, rfl⟩ := List.mem_map.1 hk
      exact ⟨x, .inl hx, rfl⟩
    · have hk := (he.map (·.1)).mem_iff.1 hk
      rw [setM_keys (setB_nodup (two h).2)] at hk
      obtain ⟨x, hx, rfl⟩ := List.mem_map.1 hk
      exact ⟨x, .inr hx, rfl⟩
  | ok h hf es he hl u ks zs hk hs ho hc =>
    have hcm : Comp xs ys := Classical.byContradiction fun hn => hf ((hfk h).2 hn)
    obtain ⟨hz, hu, hnm⟩ := ok_un (two h).1 (two h).2 hcm he hl hk hs hc
    have hnl : ¬ Long xs ys := by
      refine not_long hz fun y hy => ?_
      exact hu.has y hy
    have hat : NotesAt w' u zs := ho.at_ fun z hz y hy => by
      obtain ⟨x, hx, hsm⟩ := hu.of z hz
      rw [hsm.log.ls] at hy
      rcases hx with hx | hx
      · exact (h1.each x hx).calls y hy
      · exact (h2.each x hx).calls y hy
    obtain ⟨A, c, rfl⟩ := hat.row.len
    exact ⟨A, c, 0, zs, rfl, .ok h hcm hnl zs hz hu, hat, hb⟩
end Go.Proofs.YtlamogpdkmbeoaaGreatDoor
end PartMerQ
