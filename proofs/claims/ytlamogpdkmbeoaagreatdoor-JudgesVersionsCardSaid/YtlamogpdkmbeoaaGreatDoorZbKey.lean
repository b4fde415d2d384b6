/- The texts OrdK, KeyMk, SortMk, KeyNm, SortNm, KeyDu, SortDu in one. -/
import Derived.Test.YtlamogpdkmbeoaaGreatDoorZbLed
import Derived.Test.YtlamogpdkmbeoaaGreatDoorZbSeq
import Derived.Test.YtlamogpdkmbeoaaGreatDoorZbCopy
set_option linter.unusedVariables false
set_option linter.unusedSimpArgs false
section PartOrdK
/- Comparisons that order wholly; in the order of one thing, then another. -/
namespace Go.Proofs.YtlamogpdkmbeoaaGreatDoor
open Go.RowKit Go.Lib Go.Shelf Go.Maps Go.Sort

structure IsCmp {α : Type} (c : α → α → Int) : Prop where
  refl : ∀ x, c x x = 0
  anti : ∀ x y, c x y < 0 ↔ 0 < c y x
  trans : ∀ x y z, c x y ≤ 0 → c y z ≤ 0 → c x z ≤ 0
  eq : ∀ x y, c x y = 0 → x = y
theorem IsCmp.le_iff {α : Type} {c : α → α → Int} (h : IsCmp c) (x y : α) : c x y ≤ 0 ↔ ¬ c y x < 0 := by
  have := h.anti y x
  omega
theorem IsCmp.swo {α : Type} {c : α → α → Int} (h : IsCmp c) : SWO (ltOf c) := by
  refine ⟨fun x => ?_, fun x y z => ?_, fun x y z => ?_⟩
  · unfold ltOf
    exact decide_eq_false (by rw [h.refl]; omega)
  · unfold ltOf
    simp only [decide_eq_true_eq]
    intro h1 h2
    have h3 := h.trans x y z (by omega) (by omega)
    rcases Int.lt_or_eq_of_le h3 with h4 | h4
    · exact h4
    · have := h.eq _ _ h4
      subst this
      have := (h.anti x y).1 h1
      omega
  · unfold ltOf
    simp only [decide_eq_false_iff_not]
    intro h1 h2
    have a := (h.le_iff y x).2 (by omega)
    have b := (h.le_iff z y).2 (by omega)
    exact (h.le_iff z x).1 (h.trans z y x b a)
theorem IsCmp.lex {α β : Type} {c : α → α → Int} {d : β → β → Int} (h : IsCmp c) (k : IsCmp d) : IsCmp (fun p q : α × β => orI (c p.1 q.1) (d p.2 q.2)) := by
  refine ⟨fun x => ?_, fun x y => ?_, fun x y z => ?_, fun x y => ?_⟩
  · simp [orI, h.refl, k.refl]
  · simp only [orI]
    have h1 := h.anti x.1 y.1
    have h2 := h.anti y.1 x.1
    have k1 := k.anti x.2 y.2
    split <;> split <;> omega
  · simp only [orI]
    have t := h.trans x.1 y.1 z.1
    have t2 := h.trans z.1 x.1 y.1
    have t3 := h.trans y.1 z.1 x.1
    have u := k.trans x.2 y.2 z.2
    have a1 := h.anti x.1 y.1
    have a2 := h.anti y.1 z.1
    have a3 := h.anti x.1 z.1
    have b1 := h.anti y.1 x.1
    have b2 := h.anti z.1 y.1
    have b3 := h.anti z.1 x.1
    split <;> split <;> split <;> intro p q <;> first | omega | exact u p q
  · simp only [orI]
    intro e
    split at e
    · rename_i h0
      exact Prod.ext (h.eq _ _ h0) (k.eq _ _ e)
    · contradiction
theorem cmpInt_is : IsCmp Lib.compareInt := by
  refine ⟨fun x => ?_, fun x y => ?_, fun x y z => ?_, fun x y => ?_⟩ <;> unfold Lib.compareInt
  all_goals (repeat' split) <;> omega
theorem cmpStr_is : IsCmp cmpStr := by
  have hb : ∀ x y : List UInt8, Op.bytesLess x y = decide (x < y) := bytesLess_eq
  have tl : ∀ x : ByteArray, x.toList = x.data.toList := fun x => ByteArray.toList_eq x
  have ext : ∀ x y : ByteArray, x.toList = y.toList → x = y := fun x y h => by
    rw [tl, tl] at h
    exact ByteArray.ext (Array.toList_inj.1 h)
  have tri : ∀ x y : List UInt8, x < y ∨ x = y ∨ y < x := fun x y => by
    by_cases h1 : x < y
    · exact .inl h1
    · by_cases h2 : y < x
      · exact .inr (.inr h2)
      · exact .inr (.inl (List.le_antisymm (List.not_lt.1 h2) (List.not_lt.1 h1)))
  have val : ∀ x y : ByteArray, (cmpStr x y < 0 ↔ x.toList < y.toList) ∧ (cmpStr x y = 0 ↔ x.toList = y.toList) ∧ (0 < cmpStr x y ↔ y.toList < x.toList) := fun x y => by
    unfold cmpStr
    rw [hb]
    rcases tri x.toList y.toList with h | h | h
    · have n1 : ¬ x.toList = y.toList := fun e => List.lt_irrefl _ (e ▸ h)
      have n2 : ¬ y.toList < x.toList := fun e => List.lt_irrefl _ (List.lt_trans h e)
      simp [h, n1, n2]
    · rw [h]
      simp [List.lt_irrefl]
    · have n1 : ¬ x.toList = y.toList := fun e => List.lt_irrefl _ (e ▸ h)
      have n2 : ¬ x.toList < y.toList := fun e => List.lt_irrefl _ (List.lt_trans h e)
      simp [h, n1, n2]
  refine ⟨fun x => (val x x).2.1.2 rfl, fun x y => (val x y).1.trans (val y x).2.2.symm, fun x y z h1 h2 => ?_, fun x y h => ext x y ((val x y).2.1.1 h)⟩
  have e1 : ¬ y.toList < x.toList := fun h => by have := (val x y).2.2.2 h; omega
  have e2 : ¬ z.toList < y.toList := fun h => by have := (val y z).2.2.2 h; omega
  have e3 := List.le_trans (List.not_lt.1 e1) (List.not_lt.1 e2)
  have e4 := (val x z).2.2
  have : ¬ 0 < cmpStr x z := fun h => (List.not_lt.2 e3) (e4.1 h)
  omega
abbrev cmpMkK (x y : ByteArray × Int) : Int := cmpMark x.1 x.2 y.1 y.2
abbrev cmpNmK (x y : Int × Int) : Int := cmpName x.1 x.2 y.1 y.2
abbrev cmpDuK (x y : (ByteArray × Int) × (ByteArray × Int)) : Int := cmpDuo x.1.1 x.1.2 x.2.1 x.2.2 y.1.1 y.1.2 y.2.1 y.2.2
theorem cmpMk_is : IsCmp cmpMkK := cmpStr_is.lex cmpInt_is
theorem cmpNm_is : IsCmp cmpNmK := cmpInt_is.lex cmpInt_is
theorem cmpDu_is : IsCmp cmpDuK := cmpMk_is.lex cmpMk_is
end Go.Proofs.YtlamogpdkmbeoaaGreatDoor
end PartOrdK

section PartKeyMk
/- The keys of a map with struct keys (Marks): their iterator; 'slices.Collect' of it. -/
set_option maxRecDepth 100000
namespace Go.Proofs.YtlamogpdkmbeoaaGreatDoor
open Go.RowKit Go.Lib Go.Shelf Go.Maps Go.Sort

abbrev cellsMk (x : MarkK) : List Value := [.string x.1, .int .i64 x.2]
abbrev zeroMk : List Value := [.string ⟨#[]⟩, .int .i64 0]
theorem oneMk (x : MarkK) : (cellsMk x).toArray.all (·.oneCell') = true := by simp [Value.oneCell']
theorem sizeMk : (Tryz.prog.info? 44).map (·.size) = some 2 := by kernel_rfl
set_option maxHeartbeats 4000000 in
theorem keysMk_in {ν : Type} (venc : ν → Value) (F : Fence) (n : Nat) (hF : F.fn 128) (hro : F.round = none) (hn : 1 ≤ n) (Bm b : Nat) (m : List (MarkK × ν)) (w : World) (hm : MapOf w Tryz.prog 44 encMk venc b m) (hB : Bm < w.heap.size) (hc : w.cell? ⟨Bm, 0, none⟩ = some (.map (some b))) :
    SeqGivesB F n Tryz.prog 128 #[.pointer (some ⟨Bm, 0, none⟩)] (fun x : MarkK => .agg (cellsMk x).toArray) (fun x => x ∈ m.map (·.1)) (fun ys => ys.Perm (m.map (·.1))) m.length w := by
  intro l J W hW hJ hJB hY h0
  have UE := Tryz.underlying44
  have UM := Tryz.underlying164
  have cB : W.cell? ⟨Bm, 0, none⟩ = some (.map (some b)) := (hW.cell (p := ⟨Bm, 0, none⟩) hB).trans hc
  have hmW := hm.block (hW.block b hm.lt)
  have HMW := Lib.hid hmW
  have HY := Lib.hid hY
  have HJ := Lib.hid hJ
  have H0 := Lib.hid h0
  clear hm hc hY hJ hJB hW h0 hmW
  refine callsIn_of_wp Tryz.func128 rfl hF ?_ hro
  simp only [Tryz.ntmps128, List.size_toArray, List.length_cons, List.length_nil, Nat.reduceAdd, Nat.reduceSub, Array.replicate_succ, Array.replicate_zero, List.push_toArray, List.append_toArray, List.nil_append, List.cons_append]
  gi_wp2_with (first
    | (gi_at_range; refine wpListIn_range_of rfl _ _ rfl _ UM rfl HMW.out ?_; intro w1 hit hg1 hs1)
    | gi_in)
  (try go_frame)
  have HIT := Lib.hid hit
  have HG1 := Lib.hid hg1
  clear hit hg1 hs1
  gi_loopw [6] (fun _ wr => ∃ rest done, IterOf wr Tryz.prog 44 encMk venc b W.heap.size m rest ∧ (done ++ rest.map (·.1)).Perm (m.map (·.1)) ∧ J done wr) (fun _ wr => leftNum wr b W.heap.size)
  case atStart => exact ⟨m, [], HIT.out, by simp, HJ.out _ W w1 none H0.out HG1.out (fun r e => by cases e)⟩
  case round =>
    obtain ⟨rest, done, hit, hp, hj⟩ := hrel
    have HI := Lib.hid hit
    have HP := Lib.hid hp
    have HJK := Lib.hid hj
    clear hit hp hj
    gi_wp2_with (first
      | (gi_at_next; refine wpListIn_next_of rfl _ rfl rfl HI.out ?_ ?_)
      | gi_in)
    · intro hnil
      subst hnil
      gi_wp2
      go_end0
      exact ⟨⟨_, rfl⟩, done, by simpa using HP.out, HJK.out⟩
    · intro xa a0 a1 yv yb w2 hrest hpm hit2 hg2 hs2 hen
      obtain ⟨x, hx⟩ : ∃ x : MarkK, x = (a0, a1) := ⟨_, rfl⟩
      obtain ⟨rfl, rfl⟩ : a0 = x.1 ∧ a1 = x.2 := ⟨by rw [hx], by rw [hx]⟩
      clear hx
      have hj2 : J done w2 := HJ.out _ wr w2 (some W.heap.size) HJK.out hg2 (fun r e => by cases e; exact ⟨Nat.le_refl _, HI.out.iter_walk⟩)
      have hxm : x ∈ m.map (·.1) := List.mem_map.2 ⟨_, hpm, rfl⟩
      have hlt : done.length < m.length := by
        have := HP.out.length_eq
        rw [hrest] at this
        simp at this
        omega
      have HX := Lib.hid hxm
      have HJ2 := Lib.hid hj2
      have HLT := Lib.hid hlt
      have HIT2 := Lib.hid hit2
      have HRE := Lib.hid hrest
      clear hj2 hxm hlt hit2 hg2 hs2 hpm hrest
      have tok : True := trivial
      gi_wp2_with (first
        | (have _t := tok; refine wpListIn_store_blk rfl 44 _ _ rfl w2.heap.size 44 zeroMk.toArray (cellsMk x).toArray rfl rfl (Blk.new w2 _ _) (by rfl) sizeMk (oneMk x) ?_; clear tok; intro w3 hX3 hg3 hs3; have tok2 : True := trivial)
        | (have _t := tok2; refine wpListIn_load_blk rfl 44 _ rfl w2.heap.size 44 (cellsMk x).toArray _ rfl hX3 UE rfl sizeMk ?_; clear tok2; obtain ⟨fn, tmps, assign, body, hy, hR⟩ := HY.out done x w3 HX.out (HJ.out _ w2 w3 none HJ2.out (grown_new hg3) (fun r e => by cases e)) HLT.out)
        | gi_in)
      refine hR.mono ?_
      rintro e W3 ⟨rfl, hJ3, hk3⟩
      have hit3 := (HIT2.out.kept (grown_new hg3) (by simp) (by simp)).walks hk3
      have HIT3 := Lib.hid hit3
      have HJ3 := Lib.hid hJ3
      clear hit3 hJ3 hk3 hX3 hg3 hs3 hy hR
      gi_wp2
      (try go_frame)
      go_roundw
      case rel =>
        refine ⟨xa ++ yb, done ++ [x], HIT3.out, ?_, HJ3.out⟩
        refine List.Perm.trans ?_ HP.out
        rw [HRE.out]
        simp only [List.map_append, List.map_cons, List.append_assoc]
        refine List.Perm.append_left _ ?_
        simp only [List.singleton_append]
        exact List.perm_middle.symm
      case measure =>
        rw [HIT3.out.left, HI.out.left, HRE.out, List.length_append, List.length_append, List.length_cons]
        omega
def apAssignMk : Code := (Code.region 2 #[{ dst := some 5, op := Op.alloc 44, type := 0, pos := "iter.go:51", after := #[], guard := none }, { dst := none, op := Op.store 44 (Operand.tmp 5) (Operand.tmp 7), type := 0, pos := "iter.go:51", after := #[{ on := 0, ground := Ground.data }, { on := 0, ground := Ground.phase }], guard := none }] false)
def apBodyMk : Code := (Code.block 1 (Code.region 3 #[{ dst := some 8, op := Op.load 27 (Operand.tmp 2), type := 27, pos := "iter.go:52", after := #[], guard := none }, { dst := some 9, op := Op.load 44 (Operand.tmp 5), type := 44, pos := "iter.go:52", after := #[], guard := none }, { dst := some 10, op := Op.buildSlice 27 1 #[(0, Operand.tmp 9)], type := 27, pos := "iter.go:52", after := #[{ on := 1, ground := Ground.data }], guard := none }, { dst := some 11, op := Op.call { callee := Callee.builtin Builtin.append, args := #[Operand.tmp 8, Operand.tmp 10], argTypes := #[27, 27] }, type := 27, pos := "iter.go:52", after := #[{ on := 0, ground := Ground.data }, { on := 2, ground := Ground.data }], guard := none }, { dst := none, op := Op.store 27 (Operand.tmp 2) (Operand.tmp 11), type := 0, pos := "iter.go:52", after := #[{ on := 3, ground := Ground.data }, { on := 3, ground := Ground.chain }, { on := 0, ground := Ground.phase }, { on := 1, ground := Ground.phase }, { on := 2, ground := Ground.phase }, { on := 3, ground := Ground.phase }], guard := none }] false))
/-- The loop's record: AppendSeq's temporaries as they stood at the entering. -/
def apRecMk (fn : FuncId) (sv : Value) (Bs D : Nat) (st : LoopState) (pend : Option Code) : Loop :=
  { state := st, pending := pend, fn, tmps := #[.slice none 0 0, sv, .pointer (some ⟨Bs, 0, none⟩), undef, .slice none 0 0, undef, sv, undef, undef, undef, undef, undef, undef], params := #[7], assign := apAssignMk, body := apBodyMk, defers := D }
structure ApAtMk (w0 : World) (fn : FuncId) (sv : Value) (Bs l D : Nat) (ss : List MarkK) (W : World) : Prop where
  box : ∃ v, W.heap[Bs]? = some (.cells #[v] 27 (0, 0)) ∧ W.ownsRow w0.heap.size 44 2 v ss.length (ss.flatMap cellsMk) ∧ (v = .slice none 0 0 ↔ ss = [])
  L : W.heap[l]? = some (.loop (apRecMk fn sv Bs D .ready none))
  K : W.heap[D]? = some (.deferred (some []))
  below : Below w0.heap.size w0 W
theorem ap_abidesMk (w0 : World) (fn : FuncId) (sv : Value) (Bs l D B : Nat) (hB : w0.heap.size ≤ B) : AbidesFrom B (ApAtMk w0 fn sv Bs l D) := fun s W W' row h hg hrow => by
  have hrow' : ∀ r, row = some r → ∃ o : Obj, W.heap[r]? = some o ∧ o.isWalk = true := fun r e => (hrow r e).2
  obtain ⟨v, hv, hr, hn⟩ := h.box
  exact ⟨⟨v, (grownBy_keeps hg hrow' hv rfl).trans hv, ownsRow_abides_a hr hg hrow', hn⟩, (grownBy_keeps hg hrow' h.L rfl).trans h.L, (grownBy_keeps hg hrow' h.K rfl).trans h.K,
    h.below.grown hg h.below.size (fun k e => Nat.le_trans hB (hrow k e).1)⟩

theorem infoMk : ∃ i, Tryz.prog.info? 44 = some i ∧ i.zero = some (.agg zeroMk.toArray) ∧ i.size = 2 ∧ i.bytes = 24 := by
  obtain ⟨i, hi⟩ : ∃ i, Tryz.prog.info? 44 = some i := Option.isSome_iff_exists.1 (by kernel_rfl)
  have h1 : (Tryz.prog.info? 44).bind (·.zero) = some (.agg zeroMk.toArray) := by kernel_rfl
  have h2 : (Tryz.prog.info? 44).map (·.size) = some 2 := by kernel_rfl
  have h3 : (Tryz.prog.info? 44).map (·.bytes) = some 24 := by kernel_rfl
  rw [hi] at h1 h2 h3
  exact ⟨i, hi, by simpa using h1, by simpa using h2, by simpa using h3⟩

set_option maxHeartbeats 4000000 in
theorem ap_yieldMk (F : Fence) (m : Nat) (w0 : World) (fn : FuncId) (hfn : F.fn fn) (sv : Value) (Bs l D : Nat) (hBl : Bs ≠ l) (hDl : D ≠ l) (hDB : D ≠ Bs) (h0B : w0.heap.size ≤ Bs) (h0l : w0.heap.size ≤ l)
    (N : Nat) (hN : N ≤ maxLen) (hNb : N * 24 ≤ 140737488355328) (ss : List MarkK) (x : MarkK) (hx1 : (cellsMk x).toArray.all (·.oneCell') = true) (W : World) (h : ApAtMk w0 fn sv Bs l D ss W) (hlen : ss.length < N) :
    YieldAt F m Tryz.prog l #[.agg (cellsMk x).toArray] W fun e W' => e = .returned (.bool true) ∧ ApAtMk w0 fn sv Bs l D (ss ++ [x]) W' ∧ KeepsWalks W W' := by
  obtain ⟨i0, hi, hz0, hz1, hz2⟩ := infoMk
  have UE46 := Tryz.underlying44
  refine ⟨fn, #[.slice none 0 0, sv, .pointer (some ⟨Bs, 0, none⟩), undef, .slice none 0 0, undef, sv, .agg (cellsMk x).toArray, undef, undef, undef, undef, undef], apAssignMk, apBodyMk, by simpa [apRecMk] using run_yield (P := Tryz.prog) (args := #[.agg (cellsMk x).toArray]) h.L rfl, roundIn_of_wpIn hfn ?_⟩
  unfold apAssignMk
  have tok : True := trivial
  gi_wp2_with (first
    | (have _t := tok; refine wpListIn_store_blk rfl 44 _ _ rfl W.heap.size 44 zeroMk.toArray (cellsMk x).toArray rfl rfl (Blk.new W _ _) (by rfl) sizeMk hx1 ?_; clear tok; intro wa hX3 hg3 hs3)
    | gi_round_op_a)
  have hgn := grown_new hg3
  have ha := ap_abidesMk w0 fn sv Bs l D w0.heap.size (Nat.le_refl _) ss W wa none h hgn (fun r e => by cases e)
  have hka : KeepsWalks W wa := KeepsWalks.of_grownBy hgn (fun j o e => by cases e)
  have hlW : l < W.heap.size := (Array.getElem?_eq_some_iff.1 h.L).1
  have hBW : Bs < W.heap.size := by obtain ⟨_, hv, _⟩ := h.box; exact (Array.getElem?_eq_some_iff.1 hv).1
  clear hg3 hs3 hgn h
  obtain ⟨v, hv, hrow, _⟩ := ha.box
  have hl : l < wa.heap.size := (Array.getElem?_eq_some_iff.1 ha.L).1
  have hbr := run_beginRound (P := Tryz.prog) ha.L rfl
  obtain ⟨W2, hW2⟩ : ∃ W2, wa.putObj l (.loop { apRecMk fn sv Bs D .ready none with state := .busy }) = W2 := ⟨_, rfl⟩
  rw [hW2] at hbr
  have hg2 : wa.grownBy W2 (some l) := by rw [← hW2]; exact grownBy_putObj_a _ _ _
  have hX2 : Blk W2 W.heap.size 44 (cellsMk x).toArray := hX3.kept hg2 (by intro e; injection e with e; omega)
  have hk2 : KeepsWalks W W2 := hka.trans (by rw [← hW2]; exact KeepsWalks.putObj _ ha.L rfl)
  have hv2 : W2.heap[Bs]? = some (.cells #[v] 27 (0, 0)) := by rw [← hW2]; exact (World.putObj_heap_other hBl).trans hv
  have hK2 : W2.heap[D]? = some (.deferred (some [])) := by rw [← hW2]; exact (World.putObj_heap_other hDl).trans ha.K
  have hL2 : W2.heap[l]? = some (.loop { apRecMk fn sv Bs D .ready none with state := .busy }) := by rw [← hW2]; exact World.putObj_heap_same hl
  have hrow2 : W2.ownsRow w0.heap.size 44 2 v ss.length (ss.flatMap cellsMk) := hrow.kept hg2 (ownsRow_ne_a hrow ha.L (fun cur e => by cases e))
  have hb2 : Below w0.heap.size w0 W2 := ha.below.grown hg2 ha.below.size (fun k e => by cases e; exact h0l)
  have hBlt : Bs < W2.heap.size := (Array.getElem?_eq_some_iff.1 hv2).1
  have hl2 : l < W2.heap.size := (Array.getElem?_eq_some_iff.1 hL2).1
  have hDlt : D < W2.heap.size := (Array.getElem?_eq_some_iff.1 hK2).1
  obtain ⟨hc2, hf2⟩ := cell_of_box_a hv2
  clear hW2 hX3 hv hrow ha hka hg2
  refine ⟨W2, hbr, ?_⟩
  have hx2 : ∀ u ∈ (cellsMk x), u.oneCell' = true := by
    have h := hx1
    rw [List.all_toArray] at h
    exact List.all_eq_true.1 h
  have HX2 := Lib.hid hx2
  have hlen2 : ss.length + 1 ≤ maxLen := by omega
  have hlenb : (ss.length + 1) * 24 ≤ 140737488355328 := by omega
  have ne_of : ∀ {j : Nat} {o : Obj}, W2.heap[j]? = some o → (∀ cur, o ≠ .cells cur 44 (0, 0)) → some j ≠ v.ownBlock := fun hj hno => by
    rcases ownsRow_ne_a hrow2 hj hno with e | e
    · rw [e]; simp
    · exact fun e' => e e'.symm
  have hszW : w0.heap.size ≤ W2.heap.size := hb2.size
  clear hx2 hx1
  unfold apBodyMk
  have tok : True := trivial
  gi_wp2_with (first
    | (have _t := tok; refine wpListIn_load_blk rfl 44 _ rfl W.heap.size 44 (cellsMk x).toArray _ rfl hX2 UE46 rfl sizeMk ?_; clear tok)
    | (gi_at_builtin; refine wpListIn_append_own _ rfl _ _ 27 rfl w0.heap.size 44 i0 (.agg zeroMk.toArray) 2 24 Tryz.underlying27 hi hz0 hz1 hz2 rfl (by decide) _ _ _ rfl (hrow2.alloc _) ⟨W2.heap.size, 0, none⟩ 1 1 (cellsMk x) rfl rfl (fun j u hu => by rw [Addr.add_mid]; exact (Blk.new W2 44 (cellsMk x).toArray).range j u hu) HX2.out hlen2 hlenb (by rw [World.size_alloc]; omega) ?_; intro v' w3 hown' hg3 hnil3
       have hv3 : w3.heap[Bs]? = some (.cells #[v] 27 (0, 0)) := (hg3.block Bs (by rw [World.size_alloc]; omega) (ne_of hv2 (fun cur e => by cases e))).trans ((Below.heap_alloc _ _ Bs hBlt).trans hv2)
       obtain ⟨hc3, hf3⟩ := cell_of_box_a hv3
       obtain ⟨g', cap', cur', rfl, hbase', hgb', hr1, hr2, hr3, hr4⟩ : ∃ g' cap' cur', v' = .slice (some ⟨g', 0, none⟩) (ss.length + 1) cap' ∧ w0.heap.size ≤ g' ∧ w3.heap[g']? = some (.cells cur' 44 (0, 0)) ∧ ss.length + 1 ≤ cap' ∧ cap' ≤ maxLen ∧ cur'.size = cap' * 2 ∧ cur'.toList.take ((ss.length + 1) * 2) = ss.flatMap cellsMk ++ (cellsMk x) := by
         rcases hown'.2 with ⟨_, h0⟩ | h'
         · exact absurd h0 (by omega)
         · exact h'
       go_frame)
    | gi_round_op_a)
  have hg3' : (W2.alloc (.cells (cellsMk x).toArray 44)).grownBy w3 v.ownBlock := hg3
  have hL3 : w3.heap[l]? = some (.loop { apRecMk fn sv Bs D .ready none with state := .busy }) := (hg3'.block l (by rw [World.size_alloc]; omega) (ne_of hL2 (fun cur e => by cases e))).trans ((Below.heap_alloc _ _ l hl2).trans hL2)
  have hK3 : w3.heap[D]? = some (.deferred (some [])) := (hg3'.block D (by rw [World.size_alloc]; omega) (ne_of hK2 (fun cur e => by cases e))).trans ((Below.heap_alloc _ _ D hDlt).trans hK2)
  obtain ⟨w4, hw4⟩ : ∃ w4, w3.setCell ⟨Bs, 0, none⟩ (.slice (some ⟨g', 0, none⟩) (ss.length + 1) cap') = w4 := ⟨_, rfl⟩
  rw [hw4]
  have hg4 : w3.grownBy w4 (some Bs) := by rw [← hw4]; exact grownBy_setCell0_a _ _ _
  have hv4 : w4.heap[Bs]? = some (.cells #[.slice (some ⟨g', 0, none⟩) (ss.length + 1) cap'] 27 (0, 0)) := by rw [← hw4]; exact heap_setCell_box_a _ hv3
  have hL4 : w4.heap[l]? = some (.loop { apRecMk fn sv Bs D .ready none with state := .busy }) := (hg4.block l (Array.getElem?_eq_some_iff.1 hL3).1 (fun e => hBl (by cases e; rfl))).trans hL3
  have hK4 : w4.heap[D]? = some (.deferred (some [])) := (hg4.block D (Array.getElem?_eq_some_iff.1 hK3).1 (fun e => hDB (by cases e; rfl))).trans hK3
  have hrow4 := hown'.kept hg4 (ownsRow_ne_a hown' hv3 (fun cur e => by cases e))
  have hl4 : l < w4.heap.size := (Array.getElem?_eq_some_iff.1 hL4).1
  have hb3 : Below w0.heap.size w0 w3 := (hb2.alloc hb2.size _).grown hg3' (by rw [World.size_alloc]; omega) (fun k e => (hrow2.lt k e).1)
  have hb4 : Below w0.heap.size w0 w4 := hb3.grown hg4 hb3.size (fun k e => by cases e; exact h0B)
  have hk4 : KeepsWalks W w4 := ((hk2.trans (KeepsWalks.alloc _ _)).trans (KeepsWalks.of_grownBy hg3' (ownsRow_not_walk_a (hrow2.alloc _)))).trans (by rw [← hw4]; exact KeepsWalks.setCell _ _ _)
  clear hw4
  refine ⟨_, _, run_endRound none hL4, rfl, ⟨⟨_, (World.putObj_heap_other hBl).trans hv4, ?_, by simp⟩, World.putObj_heap_same hl4, (World.putObj_heap_other hDl).trans hK4, hb4.grown (grownBy_putObj_a _ _ _) hb4.size (fun k e => by cases e; exact h0l)⟩, hk4.trans (KeepsWalks.putObj _ hL4 rfl)⟩
  have := hrow4.kept (grownBy_putObj_a w4 l (.loop { { apRecMk fn sv Bs D .ready none with state := .busy } with state := if (none : Option Code).isNone then .ready else .done, pending := none })) (ownsRow_ne_a hrow4 hL4 (fun cur e => by cases e))
  rw [show (ss ++ [x]).length = ss.length + 1 from by simp, show (ss ++ [x]).flatMap cellsMk = ss.flatMap cellsMk ++ cellsMk x from by rw [List.flatMap_append, List.flatMap_singleton]]
  exact this
set_option maxHeartbeats 4000000 in
theorem appendSeq_inMk (F : Fence) (n : Nat) (h11 : F.fn 151) (hro : F.round = none) (hn : 2 ≤ n) (g : Nat) (lb : Array Value) (hFg : F.fn g) (eg : ∀ args w, (callFunc g args).run Tryz.prog w = .ok (.enter g args) w)
    (E : MarkK → Prop) (hE : ∀ x, E x → (cellsMk x).toArray.all (·.oneCell') = true) (S : List MarkK → Prop) (N : Nat) (hN : N ≤ maxLen) (hNb : N * 24 ≤ 140737488355328) (w : World) (hseq : SeqGivesB F (n - 1) Tryz.prog g lb (fun x : MarkK => .agg (cellsMk x).toArray) E S N w) :
    CallsIn F n Tryz.prog 151 #[.slice none 0 0, .func (.func g) #[] lb] w fun e w' => ∃ (v : Value) (ss : List MarkK), e = .returned v ∧ S ss ∧ w'.ownsRow w.heap.size 44 2 v ss.length (ss.flatMap cellsMk) ∧ (v = .slice none 0 0 ↔ ss = []) ∧ Below w.heap.size w w' := by
  have h1 : 1 ≤ n := by omega
  refine callsIn_of_wp_marks Tryz.func151 rfl h11 ?_ hro
  simp only [Tryz.ntmps151, List.size_toArray, List.length_cons, List.length_nil, Nat.reduceAdd, Nat.reduceSub, Array.replicate_succ, Array.replicate_zero, List.push_toArray, List.append_toArray, List.nil_append, List.cons_append]
  gi_wp2
  refine wpIn_rangeFunc ?_
  intro fn hfn
  rw [hro]
  obtain ⟨W0, hW0⟩ : ∃ W0, w.alloc (.cells #[.slice none 0 0] 27) = W0 := ⟨_, rfl⟩
  have hs0 : W0.heap.size = w.heap.size + 1 := by rw [← hW0]; simp
  have hv0 : W0.heap[w.heap.size]? = some (.cells #[.slice none 0 0] 27 (0, 0)) := by rw [← hW0]; exact World.alloc_heap_new w _
  have hb0 : Below w.heap.size w W0 := by rw [← hW0]; exact (Below.refl _ w).alloc (Nat.le_refl _) _
  rw [hW0]
  obtain ⟨W1, hW1⟩ : ∃ W1, (W0.alloc (.deferred (some []))).alloc (.loop (apRecMk fn (.func (.func g) #[] lb) w.heap.size W0.heap.size .ready none)) = W1 := ⟨_, rfl⟩
  have hold : ∀ k, k < W0.heap.size → W1.heap[k]? = W0.heap[k]? := fun k hk => by
    rw [← hW1]; exact (Below.heap_alloc _ _ k (by simp; omega)).trans (Below.heap_alloc _ _ k hk)
  have hb1 : Below w.heap.size w W1 := by rw [← hW1]; exact (hb0.alloc hb0.size _).alloc (by have := hb0.size; simp; omega) _
  have hs1 : W1.heap.size = W0.heap.size + 2 := by rw [← hW1]; simp
  have hM : ApAtMk w fn (.func (.func g) #[] lb) w.heap.size (W0.heap.size + 1) W0.heap.size [] W1 :=
    ⟨⟨_, (hold w.heap.size (by omega)).trans hv0, ⟨rfl, .inl ⟨rfl, rfl⟩⟩, by simp⟩,
     by rw [← hW1]; have := World.alloc_heap_new (W0.alloc (.deferred (some []))) (.loop (apRecMk fn (.func (.func g) #[] lb) w.heap.size W0.heap.size .ready none)); rwa [World.size_alloc] at this,
     by rw [← hW1]; exact (Below.heap_alloc _ _ _ (by simp)).trans (World.alloc_heap_new W0 _), hb1⟩
  refine ⟨W0.heap.size + 1, [{ target := .collected W0.heap.size, args := #[] }], W1, { target := .fn (.func g) lb, args := #[.func (.yield (W0.heap.size + 1)) #[] #[]] }, W1, g,
    #[.func (.yield (W0.heap.size + 1)) #[] #[]] ++ lb, W1, ?_, ?_, ?_, ?_, fun _ => h1, ?_⟩
  · rw [← hW1]; exact run_enterLoop_outer _ _ _ _ _
  · simp [resolve, go_sem]
  · intro f' hf'; simp [Target.leads] at hf'; subst hf'; exact hFg
  · simp [invoke, go_sem, eg]
  · refine (hseq (W0.heap.size + 1) (ApAtMk w fn (.func (.func g) #[] lb) w.heap.size (W0.heap.size + 1) W0.heap.size) W1 hb1 (ap_abidesMk _ _ _ _ _ _ _ hb1.size) (fun s W2 h => h.below)
      (fun pre x W hx hJ hl => ap_yieldMk F (n - 1 - 1) w fn hfn _ w.heap.size (W0.heap.size + 1) W0.heap.size (by omega) (by omega) (by omega) (Nat.le_refl _) (by omega) N hN hNb pre x (hE x hx) W hJ hl) hM).mono ?_
    rintro e W2 ⟨⟨v0, rfl⟩, ss, hS, h2⟩
    obtain ⟨v, hv, hrow, hnil⟩ := h2.box
    have hend := run_endLoop (P := Tryz.prog) h2.L (by simp [apRecMk])
    obtain ⟨W3, hW3⟩ : ∃ W3, W2.putObj (W0.heap.size + 1) (.loop { apRecMk fn (.func (.func g) #[] lb) w.heap.size W0.heap.size .ready none with state := .exhausted }) = W3 := ⟨_, rfl⟩
    rw [hW3] at hend
    have hg3 : W2.grownBy W3 (some (W0.heap.size + 1)) := by rw [← hW3]; exact grownBy_putObj_a _ _ _
    have hv3 : W3.heap[w.heap.size]? = some (.cells #[v] 27 (0, 0)) := by rw [← hW3]; exact (World.putObj_heap_other (by omega)).trans hv
    have hK3 : W3.heap[W0.heap.size]? = some (.deferred (some [])) := by rw [← hW3]; exact (World.putObj_heap_other (by omega)).trans h2.K
    have hrow3 := hrow.kept hg3 (ownsRow_ne_a hrow h2.L (fun cur e => by cases e))
    have hb3 : Below w.heap.size w W3 := h2.below.grown hg3 h2.below.size (fun k e => by cases e; omega)
    obtain ⟨hc3, hf3⟩ := cell_of_box_a hv3
    clear hW3
    refine ⟨none, W3, hend, ?_⟩
    gi_wp2
    rw [← hs0]
    refine ⟨by simp, .inl ⟨_, _, rfl, run_takeDeferred hK3, ?_⟩⟩
    exact ⟨_, results_tmp rfl _ _ _, v, ss, rfl, hS, hrow3.kept (grownBy_putObj_a _ _ _) (ownsRow_ne_a hrow3 hK3 (fun cur e => by cases e)), hnil, hb3.grown (grownBy_putObj_a _ _ _) hb3.size (fun k e => by cases e; omega)⟩

set_option maxHeartbeats 1000000 in
theorem collect_inMk (F : Fence) (n : Nat) (h8 : F.fn 126) (h11 : F.fn 151) (hro : F.round = none) (hn : 3 ≤ n) (g : Nat) (lb : Array Value) (hFg : F.fn g) (eg : ∀ args w, (callFunc g args).run Tryz.prog w = .ok (.enter g args) w)
    (E : MarkK → Prop) (hE : ∀ x, E x → (cellsMk x).toArray.all (·.oneCell') = true) (S : List MarkK → Prop) (N : Nat) (hN : N ≤ maxLen) (hNb : N * 24 ≤ 140737488355328) (w : World) (hseq : SeqGivesB F (n - 1 - 1) Tryz.prog g lb (fun x : MarkK => .agg (cellsMk x).toArray) E S N w) :
    CallsIn F n Tryz.prog 126 #[.func (.func g) #[] lb] w fun e w' => ∃ (v : Value) (ss : List MarkK), e = .returned v ∧ S ss ∧ w'.ownsRow w.heap.size 44 2 v ss.length (ss.flatMap cellsMk) ∧ (v = .slice none 0 0 ↔ ss = []) ∧ Below w.heap.size w w' := by
  have h1 : 1 ≤ n := by omega
  refine callsIn_of_wp Tryz.func126 rfl h8 ?_ hro
  simp only [Tryz.ntmps126, List.size_toArray, List.length_cons, List.length_nil, Nat.reduceAdd, Nat.reduceSub, Array.replicate_succ, Array.replicate_zero, List.push_toArray, List.append_toArray, List.nil_append, List.cons_append]
  gi_wp2_with (gi_at_call 151; refine (appendSeq_inMk F (n - 1) h11 hro (by omega) g lb hFg eg E hE S N hN hNb _ hseq).mono ?_; rintro e w' ⟨v, ss, rfl, hS, hrow, hnil, hb⟩)
  go_ret
  exact ⟨v, ss, rfl, hS, hrow, hnil, hb⟩
end Go.Proofs.YtlamogpdkmbeoaaGreatDoor
end PartKeyMk

section PartSortMk
/- 'slices.SortedFunc(maps.Keys(m), cmp)' at Marks. -/
set_option maxRecDepth 100000
namespace Go.Proofs.YtlamogpdkmbeoaaGreatDoor
open Go.RowKit Go.Lib Go.Shelf Go.Maps Go.Sort

instance : Inhabited MarkK := ⟨(ByteArray.empty, 0)⟩
theorem laysMk (blk off size : Nat) (w : World) : CmpLays Tryz.prog 87 #[] cellsMk 2 cmpMkK blk off size w := fun m os dk _ x y => compareMarks_any _ _ _ _  _
theorem cmp_entersMk : ∀ args w, (callFunc 87 args).run Tryz.prog w = .ok (.enter 87 args) w := enters_of Tryz.func87 (by kernel_rfl) rfl
theorem onesMk (x : MarkK) : ∀ v ∈ cellsMk x, v.oneCell' = true := by
  have h := oneMk x
  rw [List.all_toArray] at h
  exact List.all_eq_true.1 h
theorem sortMk_any (d : Array MarkK) (blk off cap : Nat) (w : World) (hH : HoldsK cellsMk 2 w blk off d) (hblk : blk < w.heap.size) (hsz : d.size < 4611686018427387904) :
    Calls Tryz.prog 127 #[.slice (some ⟨blk, off, none⟩) d.size cap, .func (.func 87) #[] #[]] w fun e w' => e = .returned (.tuple #[]) ∧ ∃ d' n os, PermIn 0 d.size d d' ∧ SortedIn (ltOf cmpMkK) 0 d.size d' ∧ w' = sortWorldK cellsMk 2 w blk off n d' os :=
  AnyQ.slices_SortFunc Tryz.sortMarks 2 Tryz.isAgg44 Tryz.sizeOf44 cellsMk (fun _ => rfl) onesMk cmpMkK cmpMk_is.swo 87 #[] blk off cap d w cmp_entersMk (laysMk _ _ _ _) hH hblk hsz
theorem keysOfMk_any (mb : Option Nat) (w : World) : Calls Tryz.prog 86 #[.map mb] w fun e w' => e = .returned (.func (.func 128) #[] #[.pointer (some ⟨w.heap.size, 0, none⟩)]) ∧ w' = w.alloc (.cells #[.map mb] 164) := by
  go_enter Tryz.func86, Tryz.ntmps86
  go_wp2
  go_ret
  exact ⟨rfl, rfl⟩
theorem keys1_entersMk : ∀ args w, (callFunc 128 args).run Tryz.prog w = .ok (.enter 128 args) w := enters_of Tryz.func128 (by kernel_rfl) rfl
theorem holdsMk (d : Array MarkK) (base : Nat) (g cap : Nat) (w : World) (h : w.ownsRow base 44 2 (.slice (some ⟨g, 0, none⟩) d.size cap) d.size (d.toList.flatMap cellsMk)) : HoldsK cellsMk 2 w g 0 d ∧ g < w.heap.size := by
  rcases h.2 with ⟨e1, _⟩ | ⟨g', cap', cur, hv, hb, hg, h1, h2, h3, h4⟩
  · cases e1
  · injection hv with hv _ hv3
    injection hv with hv
    injection hv with hv
    subst hv
    refine ⟨fun j hj => ?_, (Array.getElem?_eq_some_iff.1 hg).1⟩
    rw [size_flatK] at hj
    have hi : j / 2 < d.size := by omega
    have hc : j % 2 < 2 := by omega
    have hget := flat_get (enc := cellsMk) 2 (fun _ => rfl) d.toList (j / 2) (j % 2) (by simpa using hi) hc
    rw [show j / 2 * 2 + j % 2 = j from by omega] at hget
    have hcur : cur[j]? = (cellsMk d[j / 2])[j % 2]? := by
      rw [← Array.getElem?_toList]
      have := List.getElem?_take_of_lt (l := cur.toList) (i := j) (j := d.size * 2) hj
      rw [← this, h4, hget]
      simp
    have hval : (cellsMk d[j / 2])[j % 2]? = some (flatK cellsMk 2 d)[j]! := by
      rw [get_flatK cellsMk 2 d j hj, getElem!_pos d (j / 2) hi, List.getElem?_eq_getElem (by show _ < 2; exact hc), getElem!_pos _ _ (by show _ < 2; exact hc)]
    constructor
    · simp only [World.cell?, Nat.zero_add, hg]
      show cur[j]? = _
      rw [hcur, hval]
      rfl
    · simp [World.frozen?, hg]
set_option maxHeartbeats 2000000 in
theorem sortedMk_any {ν : Type} (venc : ν → Value) (Bm b : Nat) (m : List (MarkK × ν)) (w : World) (hm : MapOf w Tryz.prog 44 encMk venc b m) (hB : Bm < w.heap.size) (hc : w.cell? ⟨Bm, 0, none⟩ = some (.map (some b))) (hl : m.length ≤ 100000) :
    Calls Tryz.prog 85 #[.func (.func 128) #[] #[.pointer (some ⟨Bm, 0, none⟩)], .func (.func 87) #[] #[]] w fun e w' =>
      ∃ (u : Value) (xs : List MarkK), e = .returned u ∧ RowsAt cellsMk 2 w' u xs ∧ xs.Perm (m.map (·.1)) ∧ xs.Pairwise (fun a b => cmpMkK a b ≤ 0) ∧ (∀ j, u.ownBlock = some j → w.heap.size ≤ j) ∧ Below w.heap.size w w' := by
  have hs := keysMk_in venc Fence.wide 1 trivial rfl (Nat.le_refl _) Bm b m w hm hB hc
  have hcol := callsIn_wide.1 (collect_inMk Fence.wide 3 trivial trivial rfl (Nat.le_refl _) 128 #[.pointer (some ⟨Bm, 0, none⟩)] trivial keys1_entersMk (fun x => x ∈ m.map (·.1)) (fun x hx => oneMk x) (fun ys => ys.Perm (m.map (·.1))) m.length (by unfold maxLen; omega) (by omega) w hs)
  have hnone := fun W => AnyF.slices_SortFunc_none Tryz.sortMarks none 0 (.func (.func 87) #[] #[]) W
  clear hs hm hc
  go_enter Tryz.func85, Tryz.ntmps85
  go_upto_region 2 with (go_at_call 126; refine hcol.mono ?_; rintro e w1 ⟨u, ss, rfl, hp, hu, hn, hb1⟩)
  have hlen : ss.length ≤ 100000 := by rw [hp.length_eq]; simpa using hl
  rcases hu.2 with ⟨hu0, h0⟩ | ⟨g, cap, cur, hug, hg, hrest⟩
  · subst hu0
    have : ss = [] := List.eq_nil_of_length_eq_zero h0
    subst this
    clear hu hn hcol
    go_wp2_with (go_at_call 127; refine (hnone _).mono ?_; rintro e w2 ⟨rfl, rfl⟩)
    go_ret
    exact ⟨_, [], rfl, RowsAt.nil _ _, hp, List.Pairwise.nil, fun j hj => by simp [Value.ownBlock] at hj, hb1⟩
  · subst hug
    have hsz : ss.toArray.size = ss.length := by simp
    obtain ⟨hH, hlt⟩ := holdsMk ss.toArray w.heap.size g cap w1 (by simpa using hu)
    have hso := sortMk_any ss.toArray g 0 cap w1 hH hlt (by simp; omega)
    rw [hsz] at hso
    obtain ⟨LN, hLN⟩ : ∃ LN, LN = ss.length := ⟨_, rfl⟩
    rw [← hLN] at hso ⊢
    have HL := Lib.hid hLN
    have HP := Lib.hid hp
    have HH := Lib.hid hH
    clear hu hcol hsz hrest hn hLN hp hH
    go_wp2_with (go_at_call 127; refine hso.mono ?_; rintro e w2 ⟨rfl, d', n, os, h1, h2, rfl⟩)
    go_ret
    have hsz : ss.toArray.size = LN := by rw [HL.out]; simp
    obtain ⟨p1, p2⟩ := perm_of_in hsz h1
    have hrow := rows_sortK cellsMk 2 (fun _ => rfl) (n := n) (os := os) ss.toArray d' HH.out hlt (by rw [p2, hsz]) (by rw [p2, HL.out]; unfold maxLen; omega) cap
    rw [p2] at hrow
    refine ⟨_, d'.toList, rfl, hrow, (p1.trans (by simp)).trans HP.out, ?_, fun j hj => (by have e : g = j := (by simpa [Value.ownBlock] using hj); omega), hb1.grown (grown_sortK cellsMk 2 d') hb1.size (fun q e => by cases e; exact hg)⟩
    refine (pairwise_of_in p2 h2).imp (fun {a b} hab => ?_)
    have := (cmpMk_is.le_iff a b).2
    unfold ltOf at hab
    exact this (by simpa using hab)
end Go.Proofs.YtlamogpdkmbeoaaGreatDoor
end PartSortMk

section PartKeyNm
/- The keys of a map with struct keys (Names): their iterator; 'slices.Collect' of it. -/
set_option maxRecDepth 100000
namespace Go.Proofs.YtlamogpdkmbeoaaGreatDoor
open Go.RowKit Go.Lib Go.Shelf Go.Maps Go.Sort

abbrev cellsNm (x : NameK) : List Value := [.int .i64 x.1, .int .i64 x.2]
abbrev zeroNm : List Value := [.int .i64 0, .int .i64 0]
theorem oneNm (x : NameK) : (cellsNm x).toArray.all (·.oneCell') = true := by simp [Value.oneCell']
theorem sizeNm : (Tryz.prog.info? 37).map (·.size) = some 2 := by kernel_rfl
set_option maxHeartbeats 4000000 in
theorem keysNm_in {ν : Type} (venc : ν → Value) (F : Fence) (n : Nat) (hF : F.fn 133) (hro : F.round = none) (hn : 1 ≤ n) (Bm b : Nat) (m : List (NameK × ν)) (w : World) (hm : MapOf w Tryz.prog 37 encNm venc b m) (hB : Bm < w.heap.size) (hc : w.cell? ⟨Bm, 0, none⟩ = some (.map (some b))) :
    SeqGivesB F n Tryz.prog 133 #[.pointer (some ⟨Bm, 0, none⟩)] (fun x : NameK => .agg (cellsNm x).toArray) (fun x => x ∈ m.map (·.1)) (fun ys => ys.Perm (m.map (·.1))) m.length w := by
  intro l J W hW hJ hJB hY h0
  have UE := Tryz.underlying37
  have UM := Tryz.underlying88
  have cB : W.cell? ⟨Bm, 0, none⟩ = some (.map (some b)) := (hW.cell (p := ⟨Bm, 0, none⟩) hB).trans hc
  have hmW := hm.block (hW.block b hm.lt)
  have HMW := Lib.hid hmW
  have HY := Lib.hid hY
  have HJ := Lib.hid hJ
  have H0 := Lib.hid h0
  clear hm hc hY hJ hJB hW h0 hmW
  refine callsIn_of_wp Tryz.func133 rfl hF ?_ hro
  simp only [Tryz.ntmps133, List.size_toArray, List.length_cons, List.length_nil, Nat.reduceAdd, Nat.reduceSub, Array.replicate_succ, Array.replicate_zero, List.push_toArray, List.append_toArray, List.nil_append, List.cons_append]
  gi_wp2_with (first
    | (gi_at_range; refine wpListIn_range_of rfl _ _ rfl _ UM rfl HMW.out ?_; intro w1 hit hg1 hs1)
    | gi_in)
  (try go_frame)
  have HIT := Lib.hid hit
  have HG1 := Lib.hid hg1
  clear hit hg1 hs1
  gi_loopw [6] (fun _ wr => ∃ rest done, IterOf wr Tryz.prog 37 encNm venc b W.heap.size m rest ∧ (done ++ rest.map (·.1)).Perm (m.map (·.1)) ∧ J done wr) (fun _ wr => leftNum wr b W.heap.size)
  case atStart => exact ⟨m, [], HIT.out, by simp, HJ.out _ W w1 none H0.out HG1.out (fun r e => by cases e)⟩
  case round =>
    obtain ⟨rest, done, hit, hp, hj⟩ := hrel
    have HI := Lib.hid hit
    have HP := Lib.hid hp
    have HJK := Lib.hid hj
    clear hit hp hj
    gi_wp2_with (first
      | (gi_at_next; refine wpListIn_next_of rfl _ rfl rfl HI.out ?_ ?_)
      | gi_in)
    · intro hnil
      subst hnil
      gi_wp2
      go_end0
      exact ⟨⟨_, rfl⟩, done, by simpa using HP.out, HJK.out⟩
    · intro xa a0 a1 yv yb w2 hrest hpm hit2 hg2 hs2 hen
      obtain ⟨x, hx⟩ : ∃ x : NameK, x = (a0, a1) := ⟨_, rfl⟩
      obtain ⟨rfl, rfl⟩ : a0 = x.1 ∧ a1 = x.2 := ⟨by rw [hx], by rw [hx]⟩
      clear hx
      have hj2 : J done w2 := HJ.out _ wr w2 (some W.heap.size) HJK.out hg2 (fun r e => by cases e; exact ⟨Nat.le_refl _, HI.out.iter_walk⟩)
      have hxm : x ∈ m.map (·.1) := List.mem_map.2 ⟨_, hpm, rfl⟩
      have hlt : done.length < m.length := by
        have := HP.out.length_eq
        rw [hrest] at this
        simp at this
        omega
      have HX := Lib.hid hxm
      have HJ2 := Lib.hid hj2
      have HLT := Lib.hid hlt
      have HIT2 := Lib.hid hit2
      have HRE := Lib.hid hrest
      clear hj2 hxm hlt hit2 hg2 hs2 hpm hrest
      have tok : True := trivial
      gi_wp2_with (first
        | (have _t := tok; refine wpListIn_store_blk rfl 37 _ _ rfl w2.heap.size 37 zeroNm.toArray (cellsNm x).toArray rfl rfl (Blk.new w2 _ _) (by rfl) sizeNm (oneNm x) ?_; clear tok; intro w3 hX3 hg3 hs3; have tok2 : True := trivial)
        | (have _t := tok2; refine wpListIn_load_blk rfl 37 _ rfl w2.heap.size 37 (cellsNm x).toArray _ rfl hX3 UE rfl sizeNm ?_; clear tok2; obtain ⟨fn, tmps, assign, body, hy, hR⟩ := HY.out done x w3 HX.out (HJ.out _ w2 w3 none HJ2.out (grown_new hg3) (fun r e => by cases e)) HLT.out)
        | gi_in)
      refine hR.mono ?_
      rintro e W3 ⟨rfl, hJ3, hk3⟩
      have hit3 := (HIT2.out.kept (grown_new hg3) (by simp) (by simp)).walks hk3
      have HIT3 := Lib.hid hit3
      have HJ3 := Lib.hid hJ3
      clear hit3 hJ3 hk3 hX3 hg3 hs3 hy hR
      gi_wp2
      (try go_frame)
      go_roundw
      case rel =>
        refine ⟨xa ++ yb, done ++ [x], HIT3.out, ?_, HJ3.out⟩
        refine List.Perm.trans ?_ HP.out
        rw [HRE.out]
        simp only [List.map_append, List.map_cons, List.append_assoc]
        refine List.Perm.append_left _ ?_
        simp only [List.singleton_append]
        exact List.perm_middle.symm
      case measure =>
        rw [HIT3.out.left, HI.out.left, HRE.out, List.length_append, List.length_append, List.length_cons]
        omega
def apAssignNm : Code := (Code.region 2 #[{ dst := some 5, op := Op.alloc 37, type := 0, pos := "iter.go:51", after := #[], guard := none }, { dst := none, op := Op.store 37 (Operand.tmp 5) (Operand.tmp 7), type := 0, pos := "iter.go:51", after := #[{ on := 0, ground := Ground.data }, { on := 0, ground := Ground.phase }], guard := none }] false)
def apBodyNm : Code := (Code.block 1 (Code.region 3 #[{ dst := some 8, op := Op.load 30 (Operand.tmp 2), type := 30, pos := "iter.go:52", after := #[], guard := none }, { dst := some 9, op := Op.load 37 (Operand.tmp 5), type := 37, pos := "iter.go:52", after := #[], guard := none }, { dst := some 10, op := Op.buildSlice 30 1 #[(0, Operand.tmp 9)], type := 30, pos := "iter.go:52", after := #[{ on := 1, ground := Ground.data }], guard := none }, { dst := some 11, op := Op.call { callee := Callee.builtin Builtin.append, args := #[Operand.tmp 8, Operand.tmp 10], argTypes := #[30, 30] }, type := 30, pos := "iter.go:52", after := #[{ on := 0, ground := Ground.data }, { on := 2, ground := Ground.data }], guard := none }, { dst := none, op := Op.store 30 (Operand.tmp 2) (Operand.tmp 11), type := 0, pos := "iter.go:52", after := #[{ on := 3, ground := Ground.data }, { on := 3, ground := Ground.chain }, { on := 0, ground := Ground.phase }, { on := 1, ground := Ground.phase }, { on := 2, ground := Ground.phase }, { on := 3, ground := Ground.phase }], guard := none }] false))
/-- The loop's record: AppendSeq's temporaries as they stood at the entering. -/
def apRecNm (fn : FuncId) (sv : Value) (Bs D : Nat) (st : LoopState) (pend : Option Code) : Loop :=
  { state := st, pending := pend, fn, tmps := #[.slice none 0 0, sv, .pointer (some ⟨Bs, 0, none⟩), undef, .slice none 0 0, undef, sv, undef, undef, undef, undef, undef, undef], params := #[7], assign := apAssignNm, body := apBodyNm, defers := D }
structure ApAtNm (w0 : World) (fn : FuncId) (sv : Value) (Bs l D : Nat) (ss : List NameK) (W : World) : Prop where
  box : ∃ v, W.heap[Bs]? = some (.cells #[v] 30 (0, 0)) ∧ W.ownsRow w0.heap.size 37 2 v ss.length (ss.flatMap cellsNm) ∧ (v = .slice none 0 0 ↔ ss = [])
  L : W.heap[l]? = some (.loop (apRecNm fn sv Bs D .ready none))
  K : W.heap[D]? = some (.deferred (some []))
  below : Below w0.heap.size w0 W
theorem ap_abidesNm (w0 : World) (fn : FuncId) (sv : Value) (Bs l D B : Nat) (hB : w0.heap.size ≤ B) : AbidesFrom B (ApAtNm w0 fn sv Bs l D) := fun s W W' row h hg hrow => by
  have hrow' : ∀ r, row = some r → ∃ o : Obj, W.heap[r]? = some o ∧ o.isWalk = true := fun r e => (hrow r e).2
  obtain ⟨v, hv, hr, hn⟩ := h.box
  exact ⟨⟨v, (grownBy_keeps hg hrow' hv rfl).trans hv, ownsRow_abides_a hr hg hrow', hn⟩, (grownBy_keeps hg hrow' h.L rfl).trans h.L, (grownBy_keeps hg hrow' h.K rfl).trans h.K,
    h.below.grown hg h.below.size (fun k e => Nat.le_trans hB (hrow k e).1)⟩

theorem infoNm : ∃ i, Tryz.prog.info? 37 = some i ∧ i.zero = some (.agg zeroNm.toArray) ∧ i.size = 2 ∧ i.bytes = 16 := by
  obtain ⟨i, hi⟩ : ∃ i, Tryz.prog.info? 37 = some i := Option.isSome_iff_exists.1 (by kernel_rfl)
  have h1 : (Tryz.prog.info? 37).bind (·.zero) = some (.agg zeroNm.toArray) := by kernel_rfl
  have h2 : (Tryz.prog.info? 37).map (·.size) = some 2 := by kernel_rfl
  have h3 : (Tryz.prog.info? 37).map (·.bytes) = some 16 := by kernel_rfl
  rw [hi] at h1 h2 h3
  exact ⟨i, hi, by simpa using h1, by simpa using h2, by simpa using h3⟩

set_option maxHeartbeats 4000000 in
theorem ap_yieldNm (F : Fence) (m : Nat) (w0 : World) (fn : FuncId) (hfn : F.fn fn) (sv : Value) (Bs l D : Nat) (hBl : Bs ≠ l) (hDl : D ≠ l) (hDB : D ≠ Bs) (h0B : w0.heap.size ≤ Bs) (h0l : w0.heap.size ≤ l)
    (N : Nat) (hN : N ≤ maxLen) (hNb : N * 16 ≤ 140737488355328) (ss : List NameK) (x : NameK) (hx1 : (cellsNm x).toArray.all (·.oneCell') = true) (W : World) (h : ApAtNm w0 fn sv Bs l D ss W) (hlen : ss.length < N) :
    YieldAt F m Tryz.prog l #[.agg (cellsNm x).toArray] W fun e W' => e = .returned (.bool true) ∧ ApAtNm w0 fn sv Bs l D (ss ++ [x]) W' ∧ KeepsWalks W W' := by
  obtain ⟨i0, hi, hz0, hz1, hz2⟩ := infoNm
  have UE46 := Tryz.underlying37
  refine ⟨fn, #[.slice none 0 0, sv, .pointer (some ⟨Bs, 0, none⟩), undef, .slice none 0 0, undef, sv, .agg (cellsNm x).toArray, undef, undef, undef, undef, undef], apAssignNm, apBodyNm, by simpa [apRecNm] using run_yield (P := Tryz.prog) (args := #[.agg (cellsNm x).toArray]) h.L rfl, roundIn_of_wpIn hfn ?_⟩
  unfold apAssignNm
  have tok : True := trivial
  gi_wp2_with (first
    | (have _t := tok; refine wpListIn_store_blk rfl 37 _ _ rfl W.heap.size 37 zeroNm.toArray (cellsNm x).toArray rfl rfl (Blk.new W _ _) (by rfl) sizeNm hx1 ?_; clear tok; intro wa hX3 hg3 hs3)
    | gi_round_op_a)
  have hgn := grown_new hg3
  have ha := ap_abidesNm w0 fn sv Bs l D w0.heap.size (Nat.le_refl _) ss W wa none h hgn (fun r e => by cases e)
  have hka : KeepsWalks W wa := KeepsWalks.of_grownBy hgn (fun j o e => by cases e)
  have hlW : l < W.heap.size := (Array.getElem?_eq_some_iff.1 h.L).1
  have hBW : Bs < W.heap.size := by obtain ⟨_, hv, _⟩ := h.box; exact (Array.getElem?_eq_some_iff.1 hv).1
  clear hg3 hs3 hgn h
  obtain ⟨v, hv, hrow, _⟩ := ha.box
  have hl : l < wa.heap.size := (Array.getElem?_eq_some_iff.1 ha.L).1
  have hbr := run_beginRound (P := Tryz.prog) ha.L rfl
  obtain ⟨W2, hW2⟩ : ∃ W2, wa.putObj l (.loop { apRecNm fn sv Bs D .ready none with state := .busy }) = W2 := ⟨_, rfl⟩
  rw [hW2] at hbr
  have hg2 : wa.grownBy W2 (some l) := by rw [← hW2]; exact grownBy_putObj_a _ _ _
  have hX2 : Blk W2 W.heap.size 37 (cellsNm x).toArray := hX3.kept hg2 (by intro e; injection e with e; omega)
  have hk2 : KeepsWalks W W2 := hka.trans (by rw [← hW2]; exact KeepsWalks.putObj _ ha.L rfl)
  have hv2 : W2.heap[Bs]? = some (.cells #[v] 30 (0, 0)) := by rw [← hW2]; exact (World.putObj_heap_other hBl).trans hv
  have hK2 : W2.heap[D]? = some (.deferred (some [])) := by rw [← hW2]; exact (World.putObj_heap_other hDl).trans ha.K
  have hL2 : W2.heap[l]? = some (.loop { apRecNm fn sv Bs D .ready none with state := .busy }) := by rw [← hW2]; exact World.putObj_heap_same hl
  have hrow2 : W2.ownsRow w0.heap.size 37 2 v ss.length (ss.flatMap cellsNm) := hrow.kept hg2 (ownsRow_ne_a hrow ha.L (fun cur e => by cases e))
  have hb2 : Below w0.heap.size w0 W2 := ha.below.grown hg2 ha.below.size (fun k e => by cases e; exact h0l)
  have hBlt : Bs < W2.heap.size := (Array.getElem?_eq_some_iff.1 hv2).1
  have hl2 : l < W2.heap.size := (Array.getElem?_eq_some_iff.1 hL2).1
  have hDlt : D < W2.heap.size := (Array.getElem?_eq_some_iff.1 hK2).1
  obtain ⟨hc2, hf2⟩ := cell_of_box_a hv2
  clear hW2 hX3 hv hrow ha hka hg2
  refine ⟨W2, hbr, ?_⟩
  have hx2 : ∀ u ∈ (cellsNm x), u.oneCell' = true := by
    have h := hx1
    rw [List.all_toArray] at h
    exact List.all_eq_true.1 h
  have HX2 := Lib.hid hx2
  have hlen2 : ss.length + 1 ≤ maxLen := by omega
  have hlenb : (ss.length + 1) * 16 ≤ 140737488355328 := by omega
  have ne_of : ∀ {j : Nat} {o : Obj}, W2.heap[j]? = some o → (∀ cur, o ≠ .cells cur 37 (0, 0)) → some j ≠ v.ownBlock := fun hj hno => by
    rcases ownsRow_ne_a hrow2 hj hno with e | e
    · rw [e]; simp
    · exact fun e' => e e'.symm
  have hszW : w0.heap.size ≤ W2.heap.size := hb2.size
  clear hx2 hx1
  unfold apBodyNm
  have tok : True := trivial
  gi_wp2_with (first
    | (have _t := tok; refine wpListIn_load_blk rfl 37 _ rfl W.heap.size 37 (cellsNm x).toArray _ rfl hX2 UE46 rfl sizeNm ?_; clear tok)
    | (gi_at_builtin; refine wpListIn_append_own _ rfl _ _ 30 rfl w0.heap.size 37 i0 (.agg zeroNm.toArray) 2 16 Tryz.underlying30 hi hz0 hz1 hz2 rfl (by decide) _ _ _ rfl (hrow2.alloc _) ⟨W2.heap.size, 0, none⟩ 1 1 (cellsNm x) rfl rfl (fun j u hu => by rw [Addr.add_mid]; exact (Blk.new W2 37 (cellsNm x).toArray).range j u hu) HX2.out hlen2 hlenb (by rw [World.size_alloc]; omega) ?_; intro v' w3 hown' hg3 hnil3
       have hv3 : w3.heap[Bs]? = some (.cells #[v] 30 (0, 0)) := (hg3.block Bs (by rw [World.size_alloc]; omega) (ne_of hv2 (fun cur e => by cases e))).trans ((Below.heap_alloc _ _ Bs hBlt).trans hv2)
       obtain ⟨hc3, hf3⟩ := cell_of_box_a hv3
       obtain ⟨g', cap', cur', rfl, hbase', hgb', hr1, hr2, hr3, hr4⟩ : ∃ g' cap' cur', v' = .slice (some ⟨g', 0, none⟩) (ss.length + 1) cap' ∧ w0.heap.size ≤ g' ∧ w3.heap[g']? = some (.cells cur' 37 (0, 0)) ∧ ss.length + 1 ≤ cap' ∧ cap' ≤ maxLen ∧ cur'.size = cap' * 2 ∧ cur'.toList.take ((ss.length + 1) * 2) = ss.flatMap cellsNm ++ (cellsNm x) := by
         rcases hown'.2 with ⟨_, h0⟩ | h'
         · exact absurd h0 (by omega)
         · exact h'
       go_frame)
    | gi_round_op_a)
  have hg3' : (W2.alloc (.cells (cellsNm x).toArray 37)).grownBy w3 v.ownBlock := hg3
  have hL3 : w3.heap[l]? = some (.loop { apRecNm fn sv Bs D .ready none with state := .busy }) := (hg3'.block l (by rw [World.size_alloc]; omega) (ne_of hL2 (fun cur e => by cases e))).trans ((Below.heap_alloc _ _ l hl2).trans hL2)
  have hK3 : w3.heap[D]? = some (.deferred (some [])) := (hg3'.block D (by rw [World.size_alloc]; omega) (ne_of hK2 (fun cur e => by cases e))).trans ((Below.heap_alloc _ _ D hDlt).trans hK2)
  obtain ⟨w4, hw4⟩ : ∃ w4, w3.setCell ⟨Bs, 0, none⟩ (.slice (some ⟨g', 0, none⟩) (ss.length + 1) cap') = w4 := ⟨_, rfl⟩
  rw [hw4]
  have hg4 : w3.grownBy w4 (some Bs) := by rw [← hw4]; exact grownBy_setCell0_a _ _ _
  have hv4 : w4.heap[Bs]? = some (.cells #[.slice (some ⟨g', 0, none⟩) (ss.length + 1) cap'] 30 (0, 0)) := by rw [← hw4]; exact heap_setCell_box_a _ hv3
  have hL4 : w4.heap[l]? = some (.loop { apRecNm fn sv Bs D .ready none with state := .busy }) := (hg4.block l (Array.getElem?_eq_some_iff.1 hL3).1 (fun e => hBl (by cases e; rfl))).trans hL3
  have hK4 : w4.heap[D]? = some (.deferred (some [])) := (hg4.block D (Array.getElem?_eq_some_iff.1 hK3).1 (fun e => hDB (by cases e; rfl))).trans hK3
  have hrow4 := hown'.kept hg4 (ownsRow_ne_a hown' hv3 (fun cur e => by cases e))
  have hl4 : l < w4.heap.size := (Array.getElem?_eq_some_iff.1 hL4).1
  have hb3 : Below w0.heap.size w0 w3 := (hb2.alloc hb2.size _).grown hg3' (by rw [World.size_alloc]; omega) (fun k e => (hrow2.lt k e).1)
  have hb4 : Below w0.heap.size w0 w4 := hb3.grown hg4 hb3.size (fun k e => by cases e; exact h0B)
  have hk4 : KeepsWalks W w4 := ((hk2.trans (KeepsWalks.alloc _ _)).trans (KeepsWalks.of_grownBy hg3' (ownsRow_not_walk_a (hrow2.alloc _)))).trans (by rw [← hw4]; exact KeepsWalks.setCell _ _ _)
  clear hw4
  refine ⟨_, _, run_endRound none hL4, rfl, ⟨⟨_, (World.putObj_heap_other hBl).trans hv4, ?_, by simp⟩, World.putObj_heap_same hl4, (World.putObj_heap_other hDl).trans hK4, hb4.grown (grownBy_putObj_a _ _ _) hb4.size (fun k e => by cases e; exact h0l)⟩, hk4.trans (KeepsWalks.putObj _ hL4 rfl)⟩
  have := hrow4.kept (grownBy_putObj_a w4 l (.loop { { apRecNm fn sv Bs D .ready none with state := .busy } with state := if (none : Option Code).isNone then .ready else .done, pending := none })) (ownsRow_ne_a hrow4 hL4 (fun cur e => by cases e))
  rw [show (ss ++ [x]).length = ss.length + 1 from by simp, show (ss ++ [x]).flatMap cellsNm = ss.flatMap cellsNm ++ cellsNm x from by rw [List.flatMap_append, List.flatMap_singleton]]
  exact this
set_option maxHeartbeats 4000000 in
theorem appendSeq_inNm (F : Fence) (n : Nat) (h11 : F.fn 144) (hro : F.round = none) (hn : 2 ≤ n) (g : Nat) (lb : Array Value) (hFg : F.fn g) (eg : ∀ args w, (callFunc g args).run Tryz.prog w = .ok (.enter g args) w)
    (E : NameK → Prop) (hE : ∀ x, E x → (cellsNm x).toArray.all (·.oneCell') = true) (S : List NameK → Prop) (N : Nat) (hN : N ≤ maxLen) (hNb : N * 16 ≤ 140737488355328) (w : World) (hseq : SeqGivesB F (n - 1) Tryz.prog g lb (fun x : NameK => .agg (cellsNm x).toArray) E S N w) :
    CallsIn F n Tryz.prog 144 #[.slice none 0 0, .func (.func g) #[] lb] w fun e w' => ∃ (v : Value) (ss : List NameK), e = .returned v ∧ S ss ∧ w'.ownsRow w.heap.size 37 2 v ss.length (ss.flatMap cellsNm) ∧ (v = .slice none 0 0 ↔ ss = []) ∧ Below w.heap.size w w' := by
  have h1 : 1 ≤ n := by omega
  refine callsIn_of_wp_marks Tryz.func144 rfl h11 ?_ hro
  simp only [Tryz.ntmps144, List.size_toArray, List.length_cons, List.length_nil, Nat.reduceAdd, Nat.reduceSub, Array.replicate_succ, Array.replicate_zero, List.push_toArray, List.append_toArray, List.nil_append, List.cons_append]
  gi_wp2
  refine wpIn_rangeFunc ?_
  intro fn hfn
  rw [hro]
  obtain ⟨W0, hW0⟩ : ∃ W0, w.alloc (.cells #[.slice none 0 0] 30) = W0 := ⟨_, rfl⟩
  have hs0 : W0.heap.size = w.heap.size + 1 := by rw [← hW0]; simp
  have hv0 : W0.heap[w.heap.size]? = some (.cells #[.slice none 0 0] 30 (0, 0)) := by rw [← hW0]; exact World.alloc_heap_new w _
  have hb0 : Below w.heap.size w W0 := by rw [← hW0]; exact (Below.refl _ w).alloc (Nat.le_refl _) _
  rw [hW0]
  obtain ⟨W1, hW1⟩ : ∃ W1, (W0.alloc (.deferred (some []))).alloc (.loop (apRecNm fn (.func (.func g) #[] lb) w.heap.size W0.heap.size .ready none)) = W1 := ⟨_, rfl⟩
  have hold : ∀ k, k < W0.heap.size → W1.heap[k]? = W0.heap[k]? := fun k hk => by
    rw [← hW1]; exact (Below.heap_alloc _ _ k (by simp; omega)).trans (Below.heap_alloc _ _ k hk)
  have hb1 : Below w.heap.size w W1 := by rw [← hW1]; exact (hb0.alloc hb0.size _).alloc (by have := hb0.size; simp; omega) _
  have hs1 : W1.heap.size = W0.heap.size + 2 := by rw [← hW1]; simp
  have hM : ApAtNm w fn (.func (.func g) #[] lb) w.heap.size (W0.heap.size + 1) W0.heap.size [] W1 :=
    ⟨⟨_, (hold w.heap.size (by omega)).trans hv0, ⟨rfl, .inl ⟨rfl, rfl⟩⟩, by simp⟩,
     by rw [← hW1]; have := World.alloc_heap_new (W0.alloc (.deferred (some []))) (.loop (apRecNm fn (.func (.func g) #[] lb) w.heap.size W0.heap.size .ready none)); rwa [World.size_alloc] at this,
     by rw [← hW1]; exact (Below.heap_alloc _ _ _ (by simp)).trans (World.alloc_heap_new W0 _), hb1⟩
  refine ⟨W0.heap.size + 1, [{ target := .collected W0.heap.size, args := #[] }], W1, { target := .fn (.func g) lb, args := #[.func (.yield (W0.heap.size + 1)) #[] #[]] }, W1, g,
    #[.func (.yield (W0.heap.size + 1)) #[] #[]] ++ lb, W1, ?_, ?_, ?_, ?_, fun _ => h1, ?_⟩
  · rw [← hW1]; exact run_enterLoop_outer _ _ _ _ _
  · simp [resolve, go_sem]
  · intro f' hf'; simp [Target.leads] at hf'; subst hf'; exact hFg
  · simp [invoke, go_sem, eg]
  · refine (hseq (W0.heap.size + 1) (ApAtNm w fn (.func (.func g) #[] lb) w.heap.size (W0.heap.size + 1) W0.heap.size) W1 hb1 (ap_abidesNm _ _ _ _ _ _ _ hb1.size) (fun s W2 h => h.below)
      (fun pre x W hx hJ hl => ap_yieldNm F (n - 1 - 1) w fn hfn _ w.heap.size (W0.heap.size + 1) W0.heap.size (by omega) (by omega) (by omega) (Nat.le_refl _) (by omega) N hN hNb pre x (hE x hx) W hJ hl) hM).mono ?_
    rintro e W2 ⟨⟨v0, rfl⟩, ss, hS, h2⟩
    obtain ⟨v, hv, hrow, hnil⟩ := h2.box
    have hend := run_endLoop (P := Tryz.prog) h2.L (by simp [apRecNm])
    obtain ⟨W3, hW3⟩ : ∃ W3, W2.putObj (W0.heap.size + 1) (.loop { apRecNm fn (.func (.func g) #[] lb) w.heap.size W0.heap.size .ready none with state := .exhausted }) = W3 := ⟨_, rfl⟩
    rw [hW3] at hend
    have hg3 : W2.grownBy W3 (some (W0.heap.size + 1)) := by rw [← hW3]; exact grownBy_putObj_a _ _ _
    have hv3 : W3.heap[w.heap.size]? = some (.cells #[v] 30 (0, 0)) := by rw [← hW3]; exact (World.putObj_heap_other (by omega)).trans hv
    have hK3 : W3.heap[W0.heap.size]? = some (.deferred (some [])) := by rw [← hW3]; exact (World.putObj_heap_other (by omega)).trans h2.K
    have hrow3 := hrow.kept hg3 (ownsRow_ne_a hrow h2.L (fun cur e => by cases e))
    have hb3 : Below w.heap.size w W3 := h2.below.grown hg3 h2.below.size (fun k e => by cases e; omega)
    obtain ⟨hc3, hf3⟩ := cell_of_box_a hv3
    clear hW3
    refine ⟨none, W3, hend, ?_⟩
    gi_wp2
    rw [← hs0]
    refine ⟨by simp, .inl ⟨_, _, rfl, run_takeDeferred hK3, ?_⟩⟩
    exact ⟨_, results_tmp rfl _ _ _, v, ss, rfl, hS, hrow3.kept (grownBy_putObj_a _ _ _) (ownsRow_ne_a hrow3 hK3 (fun cur e => by cases e)), hnil, hb3.grown (grownBy_putObj_a _ _ _) hb3.size (fun k e => by cases e; omega)⟩

set_option maxHeartbeats 1000000 in
theorem collect_inNm (F : Fence) (n : Nat) (h8 : F.fn 118) (h11 : F.fn 144) (hro : F.round = none) (hn : 3 ≤ n) (g : Nat) (lb : Array Value) (hFg : F.fn g) (eg : ∀ args w, (callFunc g args).run Tryz.prog w = .ok (.enter g args) w)
    (E : NameK → Prop) (hE : ∀ x, E x → (cellsNm x).toArray.all (·.oneCell') = true) (S : List NameK → Prop) (N : Nat) (hN : N ≤ maxLen) (hNb : N * 16 ≤ 140737488355328) (w : World) (hseq : SeqGivesB F (n - 1 - 1) Tryz.prog g lb (fun x : NameK => .agg (cellsNm x).toArray) E S N w) :
    CallsIn F n Tryz.prog 118 #[.func (.func g) #[] lb] w fun e w' => ∃ (v : Value) (ss : List NameK), e = .returned v ∧ S ss ∧ w'.ownsRow w.heap.size 37 2 v ss.length (ss.flatMap cellsNm) ∧ (v = .slice none 0 0 ↔ ss = []) ∧ Below w.heap.size w w' := by
  have h1 : 1 ≤ n := by omega
  refine callsIn_of_wp Tryz.func118 rfl h8 ?_ hro
  simp only [Tryz.ntmps118, List.size_toArray, List.length_cons, List.length_nil, Nat.reduceAdd, Nat.reduceSub, Array.replicate_succ, Array.replicate_zero, List.push_toArray, List.append_toArray, List.nil_append, List.cons_append]
  gi_wp2_with (gi_at_call 144; refine (appendSeq_inNm F (n - 1) h11 hro (by omega) g lb hFg eg E hE S N hN hNb _ hseq).mono ?_; rintro e w' ⟨v, ss, rfl, hS, hrow, hnil, hb⟩)
  go_ret
  exact ⟨v, ss, rfl, hS, hrow, hnil, hb⟩
end Go.Proofs.YtlamogpdkmbeoaaGreatDoor
end PartKeyNm

section PartSortNm
/- 'slices.SortedFunc(maps.Keys(m), cmp)' at Names. -/
set_option maxRecDepth 100000
namespace Go.Proofs.YtlamogpdkmbeoaaGreatDoor
open Go.RowKit Go.Lib Go.Shelf Go.Maps Go.Sort

instance : Inhabited NameK := ⟨(0, 0)⟩
theorem laysNm (blk off size : Nat) (w : World) : CmpLays Tryz.prog 36 #[] cellsNm 2 cmpNmK blk off size w := fun m os dk _ x y => compareNames_any _ _ _ _  _
theorem cmp_entersNm : ∀ args w, (callFunc 36 args).run Tryz.prog w = .ok (.enter 36 args) w := enters_of Tryz.func36 (by kernel_rfl) rfl
theorem onesNm (x : NameK) : ∀ v ∈ cellsNm x, v.oneCell' = true := by
  have h := oneNm x
  rw [List.all_toArray] at h
  exact List.all_eq_true.1 h
theorem sortNm_any (d : Array NameK) (blk off cap : Nat) (w : World) (hH : HoldsK cellsNm 2 w blk off d) (hblk : blk < w.heap.size) (hsz : d.size < 4611686018427387904) :
    Calls Tryz.prog 119 #[.slice (some ⟨blk, off, none⟩) d.size cap, .func (.func 36) #[] #[]] w fun e w' => e = .returned (.tuple #[]) ∧ ∃ d' n os, PermIn 0 d.size d d' ∧ SortedIn (ltOf cmpNmK) 0 d.size d' ∧ w' = sortWorldK cellsNm 2 w blk off n d' os :=
  AnyQ.slices_SortFunc Tryz.sortNames 2 Tryz.isAgg37 Tryz.sizeOf37 cellsNm (fun _ => rfl) onesNm cmpNmK cmpNm_is.swo 36 #[] blk off cap d w cmp_entersNm (laysNm _ _ _ _) hH hblk hsz
theorem keysOfNm_any (mb : Option Nat) (w : World) : Calls Tryz.prog 92 #[.map mb] w fun e w' => e = .returned (.func (.func 133) #[] #[.pointer (some ⟨w.heap.size, 0, none⟩)]) ∧ w' = w.alloc (.cells #[.map mb] 88) := by
  go_enter Tryz.func92, Tryz.ntmps92
  go_wp2
  go_ret
  exact ⟨rfl, rfl⟩
theorem keys1_entersNm : ∀ args w, (callFunc 133 args).run Tryz.prog w = .ok (.enter 133 args) w := enters_of Tryz.func133 (by kernel_rfl) rfl
theorem holdsNm (d : Array NameK) (base : Nat) (g cap : Nat) (w : World) (h : w.ownsRow base 37 2 (.slice (some ⟨g, 0, none⟩) d.size cap) d.size (d.toList.flatMap cellsNm)) : HoldsK cellsNm 2 w g 0 d ∧ g < w.heap.size := by
  rcases h.2 with ⟨e1, _⟩ | ⟨g', cap', cur, hv, hb, hg, h1, h2, h3, h4⟩
  · cases e1
  · injection hv with hv _ hv3
    injection hv with hv
    injection hv with hv
    subst hv
    refine ⟨fun j hj => ?_, (Array.getElem?_eq_some_iff.1 hg).1⟩
    rw [size_flatK] at hj
    have hi : j / 2 < d.size := by omega
    have hc : j % 2 < 2 := by omega
    have hget := flat_get (enc := cellsNm) 2 (fun _ => rfl) d.toList (j / 2) (j % 2) (by simpa using hi) hc
    rw [show j / 2 * 2 + j % 2 = j from by omega] at hget
    have hcur : cur[j]? = (cellsNm d[j / 2])[j % 2]? := by
      rw [← Array.getElem?_toList]
      have := List.getElem?_take_of_lt (l := cur.toList) (i := j) (j := d.size * 2) hj
      rw [← this, h4, hget]
      simp
    have hval : (cellsNm d[j / 2])[j % 2]? = some (flatK cellsNm 2 d)[j]! := by
      rw [get_flatK cellsNm 2 d j hj, getElem!_pos d (j / 2) hi, List.getElem?_eq_getElem (by show _ < 2; exact hc), getElem!_pos _ _ (by show _ < 2; exact hc)]
    constructor
    · simp only [World.cell?, Nat.zero_add, hg]
      show cur[j]? = _
      rw [hcur, hval]
      rfl
    · simp [World.frozen?, hg]
set_option maxHeartbeats 2000000 in
theorem sortedNm_any {ν : Type} (venc : ν → Value) (Bm b : Nat) (m : List (NameK × ν)) (w : World) (hm : MapOf w Tryz.prog 37 encNm venc b m) (hB : Bm < w.heap.size) (hc : w.cell? ⟨Bm, 0, none⟩ = some (.map (some b))) (hl : m.length ≤ 100000) :
    Calls Tryz.prog 77 #[.func (.func 133) #[] #[.pointer (some ⟨Bm, 0, none⟩)], .func (.func 36) #[] #[]] w fun e w' =>
      ∃ (u : Value) (xs : List NameK), e = .returned u ∧ RowsAt cellsNm 2 w' u xs ∧ xs.Perm (m.map (·.1)) ∧ xs.Pairwise (fun a b => cmpNmK a b ≤ 0) ∧ (∀ j, u.ownBlock = some j → w.heap.size ≤ j) ∧ Below w.heap.size w w' := by
  have hs := keysNm_in venc Fence.wide 1 trivial rfl (Nat.le_refl _) Bm b m w hm hB hc
  have hcol := callsIn_wide.1 (collect_inNm Fence.wide 3 trivial trivial rfl (Nat.le_refl _) 133 #[.pointer (some ⟨Bm, 0, none⟩)] trivial keys1_entersNm (fun x => x ∈ m.map (·.1)) (fun x hx => oneNm x) (fun ys => ys.Perm (m.map (·.1))) m.length (by unfold maxLen; omega) (by omega) w hs)
  have hnone := fun W => AnyF.slices_SortFunc_none Tryz.sortNames none 0 (.func (.func 36) #[] #[]) W
  clear hs hm hc
  go_enter Tryz.func77, Tryz.ntmps77
  go_upto_region 2 with (go_at_call 118; refine hcol.mono ?_; rintro e w1 ⟨u, ss, rfl, hp, hu, hn, hb1⟩)
  have hlen : ss.length ≤ 100000 := by rw [hp.length_eq]; simpa using hl
  rcases hu.2 with ⟨hu0, h0⟩ | ⟨g, cap, cur, hug, hg, hrest⟩
  · subst hu0
    have : ss = [] := List.eq_nil_of_length_eq_zero h0
    subst this
    clear hu hn hcol
    go_wp2_with (go_at_call 119; refine (hnone _).mono ?_; rintro e w2 ⟨rfl, rfl⟩)
    go_ret
    exact ⟨_, [], rfl, RowsAt.nil _ _, hp, List.Pairwise.nil, fun j hj => by simp [Value.ownBlock] at hj, hb1⟩
  · subst hug
    have hsz : ss.toArray.size = ss.length := by simp
    obtain ⟨hH, hlt⟩ := holdsNm ss.toArray w.heap.size g cap w1 (by simpa using hu)
    have hso := sortNm_any ss.toArray g 0 cap w1 hH hlt (by simp; omega)
    rw [hsz] at hso
    obtain ⟨LN, hLN⟩ : ∃ LN, LN = ss.length := ⟨_, rfl⟩
    rw [← hLN] at hso ⊢
    have HL := Lib.hid hLN
    have HP := Lib.hid hp
    have HH := Lib.hid hH
    clear hu hcol hsz hrest hn hLN hp hH
    go_wp2_with (go_at_call 119; refine hso.mono ?_; rintro e w2 ⟨rfl, d', n, os, h1, h2, rfl⟩)
    go_ret
    have hsz : ss.toArray.size = LN := by rw [HL.out]; simp
    obtain ⟨p1, p2⟩ := perm_of_in hsz h1
    have hrow := rows_sortK cellsNm 2 (fun _ => rfl) (n := n) (os := os) ss.toArray d' HH.out hlt (by rw [p2, hsz]) (by rw [p2, HL.out]; unfold maxLen; omega) cap
    rw [p2] at hrow
    refine ⟨_, d'.toList, rfl, hrow, (p1.trans (by simp)).trans HP.out, ?_, fun j hj => (by have e : g = j := (by simpa [Value.ownBlock] using hj); omega), hb1.grown (grown_sortK cellsNm 2 d') hb1.size (fun q e => by cases e; exact hg)⟩
    refine (pairwise_of_in p2 h2).imp (fun {a b} hab => ?_)
    have := (cmpNm_is.le_iff a b).2
    unfold ltOf at hab
    exact this (by simpa using hab)
end Go.Proofs.YtlamogpdkmbeoaaGreatDoor
end PartSortNm

section PartKeyDu
/- The keys of a map with struct keys (Duos): their iterator; 'slices.Collect' of it. -/
set_option maxRecDepth 100000
namespace Go.Proofs.YtlamogpdkmbeoaaGreatDoor
open Go.RowKit Go.Lib Go.Shelf Go.Maps Go.Sort

abbrev cellsDu (x : DuoK) : List Value := [.string x.1.1, .int .i64 x.1.2, .string x.2.1, .int .i64 x.2.2]
abbrev zeroDu : List Value := [.string ⟨#[]⟩, .int .i64 0, .string ⟨#[]⟩, .int .i64 0]
theorem oneDu (x : DuoK) : (cellsDu x).toArray.all (·.oneCell') = true := by simp [Value.oneCell']
theorem sizeDu : (Tryz.prog.info? 48).map (·.size) = some 4 := by kernel_rfl
set_option maxHeartbeats 4000000 in
theorem keysDu_in {ν : Type} (venc : ν → Value) (F : Fence) (n : Nat) (hF : F.fn 132) (hro : F.round = none) (hn : 1 ≤ n) (Bm b : Nat) (m : List (DuoK × ν)) (w : World) (hm : MapOf w Tryz.prog 48 encDuo venc b m) (hB : Bm < w.heap.size) (hc : w.cell? ⟨Bm, 0, none⟩ = some (.map (some b))) :
    SeqGivesB F n Tryz.prog 132 #[.pointer (some ⟨Bm, 0, none⟩)] (fun x : DuoK => .agg (cellsDu x).toArray) (fun x => x ∈ m.map (·.1)) (fun ys => ys.Perm (m.map (·.1))) m.length w := by
  intro l J W hW hJ hJB hY h0
  have UE := Tryz.underlying48
  have UM := Tryz.underlying165
  have cB : W.cell? ⟨Bm, 0, none⟩ = some (.map (some b)) := (hW.cell (p := ⟨Bm, 0, none⟩) hB).trans hc
  have hmW := hm.block (hW.block b hm.lt)
  have HMW := Lib.hid hmW
  have HY := Lib.hid hY
  have HJ := Lib.hid hJ
  have H0 := Lib.hid h0
  clear hm hc hY hJ hJB hW h0 hmW
  refine callsIn_of_wp Tryz.func132 rfl hF ?_ hro
  simp only [Tryz.ntmps132, List.size_toArray, List.length_cons, List.length_nil, Nat.reduceAdd, Nat.reduceSub, Array.replicate_succ, Array.replicate_zero, List.push_toArray, List.append_toArray, List.nil_append, List.cons_append]
  gi_wp2_with (first
    | (gi_at_range; refine wpListIn_range_of rfl _ _ rfl _ UM rfl HMW.out ?_; intro w1 hit hg1 hs1)
    | gi_in)
  (try go_frame)
  have HIT := Lib.hid hit
  have HG1 := Lib.hid hg1
  clear hit hg1 hs1
  gi_loopw [6] (fun _ wr => ∃ rest done, IterOf wr Tryz.prog 48 encDuo venc b W.heap.size m rest ∧ (done ++ rest.map (·.1)).Perm (m.map (·.1)) ∧ J done wr) (fun _ wr => leftNum wr b W.heap.size)
  case atStart => exact ⟨m, [], HIT.out, by simp, HJ.out _ W w1 none H0.out HG1.out (fun r e => by cases e)⟩
  case round =>
    obtain ⟨rest, done, hit, hp, hj⟩ := hrel
    have HI := Lib.hid hit
    have HP := Lib.hid hp
    have HJK := Lib.hid hj
    clear hit hp hj
    gi_wp2_with (first
      | (gi_at_next; refine wpListIn_next_of rfl _ rfl rfl HI.out ?_ ?_)
      | gi_in)
    · intro hnil
      subst hnil
      gi_wp2
      go_end0
      exact ⟨⟨_, rfl⟩, done, by simpa using HP.out, HJK.out⟩
    · intro xa a0 a1 a2 a3 yv yb w2 hrest hpm hit2 hg2 hs2 hen
      obtain ⟨x, hx⟩ : ∃ x : DuoK, x = ((a0, a1), (a2, a3)) := ⟨_, rfl⟩
      obtain ⟨rfl, rfl, rfl, rfl⟩ : a0 = x.1.1 ∧ a1 = x.1.2 ∧ a2 = x.2.1 ∧ a3 = x.2.2 := ⟨by rw [hx], by rw [hx], by rw [hx], by rw [hx]⟩
      clear hx
      have hj2 : J done w2 := HJ.out _ wr w2 (some W.heap.size) HJK.out hg2 (fun r e => by cases e; exact ⟨Nat.le_refl _, HI.out.iter_walk⟩)
      have hxm : x ∈ m.map (·.1) := List.mem_map.2 ⟨_, hpm, rfl⟩
      have hlt : done.length < m.length := by
        have := HP.out.length_eq
        rw [hrest] at this
        simp at this
        omega
      have HX := Lib.hid hxm
      have HJ2 := Lib.hid hj2
      have HLT := Lib.hid hlt
      have HIT2 := Lib.hid hit2
      have HRE := Lib.hid hrest
      clear hj2 hxm hlt hit2 hg2 hs2 hpm hrest
      have tok : True := trivial
      gi_wp2_with (first
        | (have _t := tok; refine wpListIn_store_blk rfl 48 _ _ rfl w2.heap.size 48 zeroDu.toArray (cellsDu x).toArray rfl rfl (Blk.new w2 _ _) (by rfl) sizeDu (oneDu x) ?_; clear tok; intro w3 hX3 hg3 hs3; have tok2 : True := trivial)
        | (have _t := tok2; refine wpListIn_load_blk rfl 48 _ rfl w2.heap.size 48 (cellsDu x).toArray _ rfl hX3 UE rfl sizeDu ?_; clear tok2; obtain ⟨fn, tmps, assign, body, hy, hR⟩ := HY.out done x w3 HX.out (HJ.out _ w2 w3 none HJ2.out (grown_new hg3) (fun r e => by cases e)) HLT.out)
        | gi_in)
      refine hR.mono ?_
      rintro e W3 ⟨rfl, hJ3, hk3⟩
      have hit3 := (HIT2.out.kept (grown_new hg3) (by simp) (by simp)).walks hk3
      have HIT3 := Lib.hid hit3
      have HJ3 := Lib.hid hJ3
      clear hit3 hJ3 hk3 hX3 hg3 hs3 hy hR
      gi_wp2
      (try go_frame)
      go_roundw
      case rel =>
        refine ⟨xa ++ yb, done ++ [x], HIT3.out, ?_, HJ3.out⟩
        refine List.Perm.trans ?_ HP.out
        rw [HRE.out]
        simp only [List.map_append, List.map_cons, List.append_assoc]
        refine List.Perm.append_left _ ?_
        simp only [List.singleton_append]
        exact List.perm_middle.symm
      case measure =>
        rw [HIT3.out.left, HI.out.left, HRE.out, List.length_append, List.length_append, List.length_cons]
        omega
def apAssignDu : Code := (Code.region 2 #[{ dst := some 5, op := Op.alloc 48, type := 0, pos := "iter.go:51", after := #[], guard := none }, { dst := none, op := Op.store 48 (Operand.tmp 5) (Operand.tmp 7), type := 0, pos := "iter.go:51", after := #[{ on := 0, ground := Ground.data }, { on := 0, ground := Ground.phase }], guard := none }] false)
def apBodyDu : Code := (Code.block 1 (Code.region 3 #[{ dst := some 8, op := Op.load 28 (Operand.tmp 2), type := 28, pos := "iter.go:52", after := #[], guard := none }, { dst := some 9, op := Op.load 48 (Operand.tmp 5), type := 48, pos := "iter.go:52", after := #[], guard := none }, { dst := some 10, op := Op.buildSlice 28 1 #[(0, Operand.tmp 9)], type := 28, pos := "iter.go:52", after := #[{ on := 1, ground := Ground.data }], guard := none }, { dst := some 11, op := Op.call { callee := Callee.builtin Builtin.append, args := #[Operand.tmp 8, Operand.tmp 10], argTypes := #[28, 28] }, type := 28, pos := "iter.go:52", after := #[{ on := 0, ground := Ground.data }, { on := 2, ground := Ground.data }], guard := none }, { dst := none, op := Op.store 28 (Operand.tmp 2) (Operand.tmp 11), type := 0, pos := "iter.go:52", after := #[{ on := 3, ground := Ground.data }, { on := 3, ground := Ground.chain }, { on := 0, ground := Ground.phase }, { on := 1, ground := Ground.phase }, { on := 2, ground := Ground.phase }, { on := 3, ground := Ground.phase }], guard := none }] false))
/-- The loop's record: AppendSeq's temporaries as they stood at the entering. -/
def apRecDu (fn : FuncId) (sv : Value) (Bs D : Nat) (st : LoopState) (pend : Option Code) : Loop :=
  { state := st, pending := pend, fn, tmps := #[.slice none 0 0, sv, .pointer (some ⟨Bs, 0, none⟩), undef, .slice none 0 0, undef, sv, undef, undef, undef, undef, undef, undef], params := #[7], assign := apAssignDu, body := apBodyDu, defers := D }
structure ApAtDu (w0 : World) (fn : FuncId) (sv : Value) (Bs l D : Nat) (ss : List DuoK) (W : World) : Prop where
  box : ∃ v, W.heap[Bs]? = some (.cells #[v] 28 (0, 0)) ∧ W.ownsRow w0.heap.size 48 4 v ss.length (ss.flatMap cellsDu) ∧ (v = .slice none 0 0 ↔ ss = [])
  L : W.heap[l]? = some (.loop (apRecDu fn sv Bs D .ready none))
  K : W.heap[D]? = some (.deferred (some []))
  below : Below w0.heap.size w0 W
theorem ap_abidesDu (w0 : World) (fn : FuncId) (sv : Value) (Bs l D B : Nat) (hB : w0.heap.size ≤ B) : AbidesFrom B (ApAtDu w0 fn sv Bs l D) := fun s W W' row h hg hrow => by
  have hrow' : ∀ r, row = some r → ∃ o : Obj, W.heap[r]? = some o ∧ o.isWalk = true := fun r e => (hrow r e).2
  obtain ⟨v, hv, hr, hn⟩ := h.box
  exact ⟨⟨v, (grownBy_keeps hg hrow' hv rfl).trans hv, ownsRow_abides_a hr hg hrow', hn⟩, (grownBy_keeps hg hrow' h.L rfl).trans h.L, (grownBy_keeps hg hrow' h.K rfl).trans h.K,
    h.below.grown hg h.below.size (fun k e => Nat.le_trans hB (hrow k e).1)⟩

theorem infoDu : ∃ i, Tryz.prog.info? 48 = some i ∧ i.zero = some (.agg zeroDu.toArray) ∧ i.size = 4 ∧ i.bytes = 48 := by
  obtain ⟨i, hi⟩ : ∃ i, Tryz.prog.info? 48 = some i := Option.isSome_iff_exists.1 (by kernel_rfl)
  have h1 : (Tryz.prog.info? 48).bind (·.zero) = some (.agg zeroDu.toArray) := by kernel_rfl
  have h2 : (Tryz.prog.info? 48).map (·.size) = some 4 := by kernel_rfl
  have h3 : (Tryz.prog.info? 48).map (·.bytes) = some 48 := by kernel_rfl
  rw [hi] at h1 h2 h3
  exact ⟨i, hi, by simpa using h1, by simpa using h2, by simpa using h3⟩

set_option maxHeartbeats 4000000 in
theorem ap_yieldDu (F : Fence) (m : Nat) (w0 : World) (fn : FuncId) (hfn : F.fn fn) (sv : Value) (Bs l D : Nat) (hBl : Bs ≠ l) (hDl : D ≠ l) (hDB : D ≠ Bs) (h0B : w0.heap.size ≤ Bs) (h0l : w0.heap.size ≤ l)
    (N : Nat) (hN : N ≤ maxLen) (hNb : N * 48 ≤ 140737488355328) (ss : List DuoK) (x : DuoK) (hx1 : (cellsDu x).toArray.all (·.oneCell') = true) (W : World) (h : ApAtDu w0 fn sv Bs l D ss W) (hlen : ss.length < N) :
    YieldAt F m Tryz.prog l #[.agg (cellsDu x).toArray] W fun e W' => e = .returned (.bool true) ∧ ApAtDu w0 fn sv Bs l D (ss ++ [x]) W' ∧ KeepsWalks W W' := by
  obtain ⟨i0, hi, hz0, hz1, hz2⟩ := infoDu
  have UE46 := Tryz.underlying48
  refine ⟨fn, #[.slice none 0 0, sv, .pointer (some ⟨Bs, 0, none⟩), undef, .slice none 0 0, undef, sv, .agg (cellsDu x).toArray, undef, undef, undef, undef, undef], apAssignDu, apBodyDu, by simpa [apRecDu] using run_yield (P := Tryz.prog) (args := #[.agg (cellsDu x).toArray]) h.L rfl, roundIn_of_wpIn hfn ?_⟩
  unfold apAssignDu
  have tok : True := trivial
  gi_wp2_with (first
    | (have _t := tok; refine wpListIn_store_blk rfl 48 _ _ rfl W.heap.size 48 zeroDu.toArray (cellsDu x).toArray rfl rfl (Blk.new W _ _) (by rfl) sizeDu hx1 ?_; clear tok; intro wa hX3 hg3 hs3)
    | gi_round_op_a)
  have hgn := grown_new hg3
  have ha := ap_abidesDu w0 fn sv Bs l D w0.heap.size (Nat.le_refl _) ss W wa none h hgn (fun r e => by cases e)
  have hka : KeepsWalks W wa := KeepsWalks.of_grownBy hgn (fun j o e => by cases e)
  have hlW : l < W.heap.size := (Array.getElem?_eq_some_iff.1 h.L).1
  have hBW : Bs < W.heap.size := by obtain ⟨_, hv, _⟩ := h.box; exact (Array.getElem?_eq_some_iff.1 hv).1
  clear hg3 hs3 hgn h
  obtain ⟨v, hv, hrow, _⟩ := ha.box
  have hl : l < wa.heap.size := (Array.getElem?_eq_some_iff.1 ha.L).1
  have hbr := run_beginRound (P := Tryz.prog) ha.L rfl
  obtain ⟨W2, hW2⟩ : ∃ W2, wa.putObj l (.loop { apRecDu fn sv Bs D .ready none with state := .busy }) = W2 := ⟨_, rfl⟩
  rw [hW2] at hbr
  have hg2 : wa.grownBy W2 (some l) := by rw [← hW2]; exact grownBy_putObj_a _ _ _
  have hX2 : Blk W2 W.heap.size 48 (cellsDu x).toArray := hX3.kept hg2 (by intro e; injection e with e; omega)
  have hk2 : KeepsWalks W W2 := hka.trans (by rw [← hW2]; exact KeepsWalks.putObj _ ha.L rfl)
  have hv2 : W2.heap[Bs]? = some (.cells #[v] 28 (0, 0)) := by rw [← hW2]; exact (World.putObj_heap_other hBl).trans hv
  have hK2 : W2.heap[D]? = some (.deferred (some [])) := by rw [← hW2]; exact (World.putObj_heap_other hDl).trans ha.K
  have hL2 : W2.heap[l]? = some (.loop { apRecDu fn sv Bs D .ready none with state := .busy }) := by rw [← hW2]; exact World.putObj_heap_same hl
  have hrow2 : W2.ownsRow w0.heap.size 48 4 v ss.length (ss.flatMap cellsDu) := hrow.kept hg2 (ownsRow_ne_a hrow ha.L (fun cur e => by cases e))
  have hb2 : Below w0.heap.size w0 W2 := ha.below.grown hg2 ha.below.size (fun k e => by cases e; exact h0l)
  have hBlt : Bs < W2.heap.size := (Array.getElem?_eq_some_iff.1 hv2).1
  have hl2 : l < W2.heap.size := (Array.getElem?_eq_some_iff.1 hL2).1
  have hDlt : D < W2.heap.size := (Array.getElem?_eq_some_iff.1 hK2).1
  obtain ⟨hc2, hf2⟩ := cell_of_box_a hv2
  clear hW2 hX3 hv hrow ha hka hg2
  refine ⟨W2, hbr, ?_⟩
  have hx2 : ∀ u ∈ (cellsDu x), u.oneCell' = true := by
    have h := hx1
    rw [List.all_toArray] at h
    exact List.all_eq_true.1 h
  have HX2 := Lib.hid hx2
  have hlen2 : ss.length + 1 ≤ maxLen := by omega
  have hlenb : (ss.length + 1) * 48 ≤ 140737488355328 := by omega
  have ne_of : ∀ {j : Nat} {o : Obj}, W2.heap[j]? = some o → (∀ cur, o ≠ .cells cur 48 (0, 0)) → some j ≠ v.ownBlock := fun hj hno => by
    rcases ownsRow_ne_a hrow2 hj hno with e | e
    · rw [e]; simp
    · exact fun e' => e e'.symm
  have hszW : w0.heap.size ≤ W2.heap.size := hb2.size
  clear hx2 hx1
  unfold apBodyDu
  have tok : True := trivial
  gi_wp2_with (first
    | (have _t := tok; refine wpListIn_load_blk rfl 48 _ rfl W.heap.size 48 (cellsDu x).toArray _ rfl hX2 UE46 rfl sizeDu ?_; clear tok)
    | (gi_at_builtin; refine wpListIn_append_own _ rfl _ _ 28 rfl w0.heap.size 48 i0 (.agg zeroDu.toArray) 4 48 Tryz.underlying28 hi hz0 hz1 hz2 rfl (by decide) _ _ _ rfl (hrow2.alloc _) ⟨W2.heap.size, 0, none⟩ 1 1 (cellsDu x) rfl rfl (fun j u hu => by rw [Addr.add_mid]; exact (Blk.new W2 48 (cellsDu x).toArray).range j u hu) HX2.out hlen2 hlenb (by rw [World.size_alloc]; omega) ?_; intro v' w3 hown' hg3 hnil3
       have hv3 : w3.heap[Bs]? = some (.cells #[v] 28 (0, 0)) := (hg3.block Bs (by rw [World.size_alloc]; omega) (ne_of hv2 (fun cur e => by cases e))).trans ((Below.heap_alloc _ _ Bs hBlt).trans hv2)
       obtain ⟨hc3, hf3⟩ := cell_of_box_a hv3
       obtain ⟨g', cap', cur', rfl, hbase', hgb', hr1, hr2, hr3, hr4⟩ : ∃ g' cap' cur', v' = .slice (some ⟨g', 0, none⟩) (ss.length + 1) cap' ∧ w0.heap.size ≤ g' ∧ w3.heap[g']? = some (.cells cur' 48 (0, 0)) ∧ ss.length + 1 ≤ cap' ∧ cap' ≤ maxLen ∧ cur'.size = cap' * 4 ∧ cur'.toList.take ((ss.length + 1) * 4) = ss.flatMap cellsDu ++ (cellsDu x) := by
         rcases hown'.2 with ⟨_, h0⟩ | h'
         · exact absurd h0 (by omega)
         · exact h'
       go_frame)
    | gi_round_op_a)
  have hg3' : (W2.alloc (.cells (cellsDu x).toArray 48)).grownBy w3 v.ownBlock := hg3
  have hL3 : w3.heap[l]? = some (.loop { apRecDu fn sv Bs D .ready none with state := .busy }) := (hg3'.block l (by rw [World.size_alloc]; omega) (ne_of hL2 (fun cur e => by cases e))).trans ((Below.heap_alloc _ _ l hl2).trans hL2)
  have hK3 : w3.heap[D]? = some (.deferred (some [])) := (hg3'.block D (by rw [World.size_alloc]; omega) (ne_of hK2 (fun cur e => by cases e))).trans ((Below.heap_alloc _ _ D hDlt).trans hK2)
  obtain ⟨w4, hw4⟩ : ∃ w4, w3.setCell ⟨Bs, 0, none⟩ (.slice (some ⟨g', 0, none⟩) (ss.length + 1) cap') = w4 := ⟨_, rfl⟩
  rw [hw4]
  have hg4 : w3.grownBy w4 (some Bs) := by rw [← hw4]; exact grownBy_setCell0_a _ _ _
  have hv4 : w4.heap[Bs]? = some (.cells #[.slice (some ⟨g', 0, none⟩) (ss.length + 1) cap'] 28 (0, 0)) := by rw [← hw4]; exact heap_setCell_box_a _ hv3
  have hL4 : w4.heap[l]? = some (.loop { apRecDu fn sv Bs D .ready none with state := .busy }) := (hg4.block l (Array.getElem?_eq_some_iff.1 hL3).1 (fun e => hBl (by cases e; rfl))).trans hL3
  have hK4 : w4.heap[D]? = some (.deferred (some [])) := (hg4.block D (Array.getElem?_eq_some_iff.1 hK3).1 (fun e => hDB (by cases e; rfl))).trans hK3
  have hrow4 := hown'.kept hg4 (ownsRow_ne_a hown' hv3 (fun cur e => by cases e))
  have hl4 : l < w4.heap.size := (Array.getElem?_eq_some_iff.1 hL4).1
  have hb3 : Below w0.heap.size w0 w3 := (hb2.alloc hb2.size _).grown hg3' (by rw [World.size_alloc]; omega) (fun k e => (hrow2.lt k e).1)
  have hb4 : Below w0.heap.size w0 w4 := hb3.grown hg4 hb3.size (fun k e => by cases e; exact h0B)
  have hk4 : KeepsWalks W w4 := ((hk2.trans (KeepsWalks.alloc _ _)).trans (KeepsWalks.of_grownBy hg3' (ownsRow_not_walk_a (hrow2.alloc _)))).trans (by rw [← hw4]; exact KeepsWalks.setCell _ _ _)
  clear hw4
  refine ⟨_, _, run_endRound none hL4, rfl, ⟨⟨_, (World.putObj_heap_other hBl).trans hv4, ?_, by simp⟩, World.putObj_heap_same hl4, (World.putObj_heap_other hDl).trans hK4, hb4.grown (grownBy_putObj_a _ _ _) hb4.size (fun k e => by cases e; exact h0l)⟩, hk4.trans (KeepsWalks.putObj _ hL4 rfl)⟩
  have := hrow4.kept (grownBy_putObj_a w4 l (.loop { { apRecDu fn sv Bs D .ready none with state := .busy } with state := if (none : Option Code).isNone then .ready else .done, pending := none })) (ownsRow_ne_a hrow4 hL4 (fun cur e => by cases e))
  rw [show (ss ++ [x]).length = ss.length + 1 from by simp, show (ss ++ [x]).flatMap cellsDu = ss.flatMap cellsDu ++ cellsDu x from by rw [List.flatMap_append, List.flatMap_singleton]]
  exact this
set_option maxHeartbeats 4000000 in
theorem appendSeq_inDu (F : Fence) (n : Nat) (h11 : F.fn 154) (hro : F.round = none) (hn : 2 ≤ n) (g : Nat) (lb : Array Value) (hFg : F.fn g) (eg : ∀ args w, (callFunc g args).run Tryz.prog w = .ok (.enter g args) w)
    (E : DuoK → Prop) (hE : ∀ x, E x → (cellsDu x).toArray.all (·.oneCell') = true) (S : List DuoK → Prop) (N : Nat) (hN : N ≤ maxLen) (hNb : N * 48 ≤ 140737488355328) (w : World) (hseq : SeqGivesB F (n - 1) Tryz.prog g lb (fun x : DuoK => .agg (cellsDu x).toArray) E S N w) :
    CallsIn F n Tryz.prog 154 #[.slice none 0 0, .func (.func g) #[] lb] w fun e w' => ∃ (v : Value) (ss : List DuoK), e = .returned v ∧ S ss ∧ w'.ownsRow w.heap.size 48 4 v ss.length (ss.flatMap cellsDu) ∧ (v = .slice none 0 0 ↔ ss = []) ∧ Below w.heap.size w w' := by
  have h1 : 1 ≤ n := by omega
  refine callsIn_of_wp_marks Tryz.func154 rfl h11 ?_ hro
  simp only [Tryz.ntmps154, List.size_toArray, List.length_cons, List.length_nil, Nat.reduceAdd, Nat.reduceSub, Array.replicate_succ, Array.replicate_zero, List.push_toArray, List.append_toArray, List.nil_append, List.cons_append]
  gi_wp2
  refine wpIn_rangeFunc ?_
  intro fn hfn
  rw [hro]
  obtain ⟨W0, hW0⟩ : ∃ W0, w.alloc (.cells #[.slice none 0 0] 28) = W0 := ⟨_, rfl⟩
  have hs0 : W0.heap.size = w.heap.size + 1 := by rw [← hW0]; simp
  have hv0 : W0.heap[w.heap.size]? = some (.cells #[.slice none 0 0] 28 (0, 0)) := by rw [← hW0]; exact World.alloc_heap_new w _
  have hb0 : Below w.heap.size w W0 := by rw [← hW0]; exact (Below.refl _ w).alloc (Nat.le_refl _) _
  rw [hW0]
  obtain ⟨W1, hW1⟩ : ∃ W1, (W0.alloc (.deferred (some []))).alloc (.loop (apRecDu fn (.func (.func g) #[] lb) w.heap.size W0.heap.size .ready none)) = W1 := ⟨_, rfl⟩
  have hold : ∀ k, k < W0.heap.size → W1.heap[k]? = W0.heap[k]? := fun k hk => by
    rw [← hW1]; exact (Below.heap_alloc _ _ k (by simp; omega)).trans (Below.heap_alloc _ _ k hk)
  have hb1 : Below w.heap.size w W1 := by rw [← hW1]; exact (hb0.alloc hb0.size _).alloc (by have := hb0.size; simp; omega) _
  have hs1 : W1.heap.size = W0.heap.size + 2 := by rw [← hW1]; simp
  have hM : ApAtDu w fn (.func (.func g) #[] lb) w.heap.size (W0.heap.size + 1) W0.heap.size [] W1 :=
    ⟨⟨_, (hold w.heap.size (by omega)).trans hv0, ⟨rfl, .inl ⟨rfl, rfl⟩⟩, by simp⟩,
     by rw [← hW1]; have := World.alloc_heap_new (W0.alloc (.deferred (some []))) (.loop (apRecDu fn (.func (.func g) #[] lb) w.heap.size W0.heap.size .ready none)); rwa [World.size_alloc] at this,
     by rw [← hW1]; exact (Below.heap_alloc _ _ _ (by simp)).trans (World.alloc_heap_new W0 _), hb1⟩
  refine ⟨W0.heap.size + 1, [{ target := .collected W0.heap.size, args := #[] }], W1, { target := .fn (.func g) lb, args := #[.func (.yield (W0.heap.size + 1)) #[] #[]] }, W1, g,
    #[.func (.yield (W0.heap.size + 1)) #[] #[]] ++ lb, W1, ?_, ?_, ?_, ?_, fun _ => h1, ?_⟩
  · rw [← hW1]; exact run_enterLoop_outer _ _ _ _ _
  · simp [resolve, go_sem]
  · intro f' hf'; simp [Target.leads] at hf'; subst hf'; exact hFg
  · simp [invoke, go_sem, eg]
  · refine (hseq (W0.heap.size + 1) (ApAtDu w fn (.func (.func g) #[] lb) w.heap.size (W0.heap.size + 1) W0.heap.size) W1 hb1 (ap_abidesDu _ _ _ _ _ _ _ hb1.size) (fun s W2 h => h.below)
      (fun pre x W hx hJ hl => ap_yieldDu F (n - 1 - 1) w fn hfn _ w.heap.size (W0.heap.size + 1) W0.heap.size (by omega) (by omega) (by omega) (Nat.le_refl _) (by omega) N hN hNb pre x (hE x hx) W hJ hl) hM).mono ?_
    rintro e W2 ⟨⟨v0, rfl⟩, ss, hS, h2⟩
    obtain ⟨v, hv, hrow, hnil⟩ := h2.box
    have hend := run_endLoop (P := Tryz.prog) h2.L (by simp [apRecDu])
    obtain ⟨W3, hW3⟩ : ∃ W3, W2.putObj (W0.heap.size + 1) (.loop { apRecDu fn (.func (.func g) #[] lb) w.heap.size W0.heap.size .ready none with state := .exhausted }) = W3 := ⟨_, rfl⟩
    rw [hW3] at hend
    have hg3 : W2.grownBy W3 (some (W0.heap.size + 1)) := by rw [← hW3]; exact grownBy_putObj_a _ _ _
    have hv3 : W3.heap[w.heap.size]? = some (.cells #[v] 28 (0, 0)) := by rw [← hW3]; exact (World.putObj_heap_other (by omega)).trans hv
    have hK3 : W3.heap[W0.heap.size]? = some (.deferred (some [])) := by rw [← hW3]; exact (World.putObj_heap_other (by omega)).trans h2.K
    have hrow3 := hrow.kept hg3 (ownsRow_ne_a hrow h2.L (fun cur e => by cases e))
    have hb3 : Below w.heap.size w W3 := h2.below.grown hg3 h2.below.size (fun k e => by cases e; omega)
    obtain ⟨hc3, hf3⟩ := cell_of_box_a hv3
    clear hW3
    refine ⟨none, W3, hend, ?_⟩
    gi_wp2
    rw [← hs0]
    refine ⟨by simp, .inl ⟨_, _, rfl, run_takeDeferred hK3, ?_⟩⟩
    exact ⟨_, results_tmp rfl _ _ _, v, ss, rfl, hS, hrow3.kept (grownBy_putObj_a _ _ _) (ownsRow_ne_a hrow3 hK3 (fun cur e => by cases e)), hnil, hb3.grown (grownBy_putObj_a _ _ _) hb3.size (fun k e => by cases e; omega)⟩

set_option maxHeartbeats 1000000 in
theorem collect_inDu (F : Fence) (n : Nat) (h8 : F.fn 130) (h11 : F.fn 154) (hro : F.round = none) (hn : 3 ≤ n) (g : Nat) (lb : Array Value) (hFg : F.fn g) (eg : ∀ args w, (callFunc g args).run Tryz.prog w = .ok (.enter g args) w)
    (E : DuoK → Prop) (hE : ∀ x, E x → (cellsDu x).toArray.all (·.oneCell') = true) (S : List DuoK → Prop) (N : Nat) (hN : N ≤ maxLen) (hNb : N * 48 ≤ 140737488355328) (w : World) (hseq : SeqGivesB F (n - 1 - 1) Tryz.prog g lb (fun x : DuoK => .agg (cellsDu x).toArray) E S N w) :
    CallsIn F n Tryz.prog 130 #[.func (.func g) #[] lb] w fun e w' => ∃ (v : Value) (ss : List DuoK), e = .returned v ∧ S ss ∧ w'.ownsRow w.heap.size 48 4 v ss.length (ss.flatMap cellsDu) ∧ (v = .slice none 0 0 ↔ ss = []) ∧ Below w.heap.size w w' := by
  have h1 : 1 ≤ n := by omega
  refine callsIn_of_wp Tryz.func130 rfl h8 ?_ hro
  simp only [Tryz.ntmps130, List.size_toArray, List.length_cons, List.length_nil, Nat.reduceAdd, Nat.reduceSub, Array.replicate_succ, Array.replicate_zero, List.push_toArray, List.append_toArray, List.nil_append, List.cons_append]
  gi_wp2_with (gi_at_call 154; refine (appendSeq_inDu F (n - 1) h11 hro (by omega) g lb hFg eg E hE S N hN hNb _ hseq).mono ?_; rintro e w' ⟨v, ss, rfl, hS, hrow, hnil, hb⟩)
  go_ret
  exact ⟨v, ss, rfl, hS, hrow, hnil, hb⟩
end Go.Proofs.YtlamogpdkmbeoaaGreatDoor
end PartKeyDu

section PartSortDu
/- 'slices.SortedFunc(maps.Keys(m), cmp)' at Duos. -/
set_option maxRecDepth 100000
namespace Go.Proofs.YtlamogpdkmbeoaaGreatDoor
open Go.RowKit Go.Lib Go.Shelf Go.Maps Go.Sort

instance : Inhabited DuoK := ⟨((ByteArray.empty, 0), (ByteArray.empty, 0))⟩
theorem laysDu (blk off size : Nat) (w : World) : CmpLays Tryz.prog 90 #[] cellsDu 4 cmpDuK blk off size w := fun m os dk _ x y => compareDuos_any _ _ _ _ _ _ _ _ _
theorem cmp_entersDu : ∀ args w, (callFunc 90 args).run Tryz.prog w = .ok (.enter 90 args) w := enters_of Tryz.func90 (by kernel_rfl) rfl
theorem onesDu (x : DuoK) : ∀ v ∈ cellsDu x, v.oneCell' = true := by
  have h := oneDu x
  rw [List.all_toArray] at h
  exact List.all_eq_true.1 h
theorem sortDu_any (d : Array DuoK) (blk off cap : Nat) (w : World) (hH : HoldsK cellsDu 4 w blk off d) (hblk : blk < w.heap.size) (hsz : d.size < 4611686018427387904) :
    Calls Tryz.prog 131 #[.slice (some ⟨blk, off, none⟩) d.size cap, .func (.func 90) #[] #[]] w fun e w' => e = .returned (.tuple #[]) ∧ ∃ d' n os, PermIn 0 d.size d d' ∧ SortedIn (ltOf cmpDuK) 0 d.size d' ∧ w' = sortWorldK cellsDu 4 w blk off n d' os :=
  AnyQ.slices_SortFunc Tryz.sortDuos 4 Tryz.isAgg48 Tryz.sizeOf48 cellsDu (fun _ => rfl) onesDu cmpDuK cmpDu_is.swo 90 #[] blk off cap d w cmp_entersDu (laysDu _ _ _ _) hH hblk hsz
theorem keysOfDu_any (mb : Option Nat) (w : World) : Calls Tryz.prog 89 #[.map mb] w fun e w' => e = .returned (.func (.func 132) #[] #[.pointer (some ⟨w.heap.size, 0, none⟩)]) ∧ w' = w.alloc (.cells #[.map mb] 165) := by
  go_enter Tryz.func89, Tryz.ntmps89
  go_wp2
  go_ret
  exact ⟨rfl, rfl⟩
theorem keys1_entersDu : ∀ args w, (callFunc 132 args).run Tryz.prog w = .ok (.enter 132 args) w := enters_of Tryz.func132 (by kernel_rfl) rfl
theorem holdsDu (d : Array DuoK) (base : Nat) (g cap : Nat) (w : World) (h : w.ownsRow base 48 4 (.slice (some ⟨g, 0, none⟩) d.size cap) d.size (d.toList.flatMap cellsDu)) : HoldsK cellsDu 4 w g 0 d ∧ g < w.heap.size := by
  rcases h.2 with ⟨e1, _⟩ | ⟨g', cap', cur, hv, hb, hg, h1, h2, h3, h4⟩
  · cases e1
  · injection hv with hv _ hv3
    injection hv with hv
    injection hv with hv
    subst hv
    refine ⟨fun j hj => ?_, (Array.getElem?_eq_some_iff.1 hg).1⟩
    rw [size_flatK] at hj
    have hi : j / 4 < d.size := by omega
    have hc : j % 4 < 4 := by omega
    have hget := flat_get (enc := cellsDu) 4 (fun _ => rfl) d.toList (j / 4) (j % 4) (by simpa using hi) hc
    rw [show j / 4 * 4 + j % 4 = j from by omega] at hget
    have hcur : cur[j]? = (cellsDu d[j / 4])[j % 4]? := by
      rw [← Array.getElem?_toList]
      have := List.getElem?_take_of_lt (l := cur.toList) (i := j) (j := d.size * 4) hj
      rw [← this, h4, hget]
      simp
    have hval : (cellsDu d[j / 4])[j % 4]? = some (flatK cellsDu 4 d)[j]! := by
      rw [get_flatK cellsDu 4 d j hj, getElem!_pos d (j / 4) hi, List.getElem?_eq_getElem (by show _ < 4; exact hc), getElem!_pos _ _ (by show _ < 4; exact hc)]
    constructor
    · simp only [World.cell?, Nat.zero_add, hg]
      show cur[j]? = _
      rw [hcur, hval]
      rfl
    · simp [World.frozen?, hg]
set_option maxHeartbeats 2000000 in
theorem sortedDu_any {ν : Type} (venc : ν → Value) (Bm b : Nat) (m : List (DuoK × ν)) (w : World) (hm : MapOf w Tryz.prog 48 encDuo venc b m) (hB : Bm < w.heap.size) (hc : w.cell? ⟨Bm, 0, none⟩ = some (.map (some b))) (hl : m.length ≤ 100000) :
    Calls Tryz.prog 88 #[.func (.func 132) #[] #[.pointer (some ⟨Bm, 0, none⟩)], .func (.func 90) #[] #[]] w fun e w' =>
      ∃ (u : Value) (xs : List DuoK), e = .returned u ∧ RowsAt cellsDu 4 w' u xs ∧ xs.Perm (m.map (·.1)) ∧ xs.Pairwise (fun a b => cmpDuK a b ≤ 0) ∧ (∀ j, u.ownBlock = some j → w.heap.size ≤ j) ∧ Below w.heap.size w w' := by
  have hs := keysDu_in venc Fence.wide 1 trivial rfl (Nat.le_refl _) Bm b m w hm hB hc
  have hcol := callsIn_wide.1 (collect_inDu Fence.wide 3 trivial trivial rfl (Nat.le_refl _) 132 #[.pointer (some ⟨Bm, 0, none⟩)] trivial keys1_entersDu (fun x => x ∈ m.map (·.1)) (fun x hx => oneDu x) (fun ys => ys.Perm (m.map (·.1))) m.length (by unfold maxLen; omega) (by omega) w hs)
  have hnone := fun W => AnyF.slices_SortFunc_none Tryz.sortDuos none 0 (.func (.func 90) #[] #[]) W
  clear hs hm hc
  go_enter Tryz.func88, Tryz.ntmps88
  go_upto_region 2 with (go_at_call 130; refine hcol.mono ?_; rintro e w1 ⟨u, ss, rfl, hp, hu, hn, hb1⟩)
  have hlen : ss.length ≤ 100000 := by rw [hp.length_eq]; simpa using hl
  rcases hu.2 with ⟨hu0, h0⟩ | ⟨g, cap, cur, hug, hg, hrest⟩
  · subst hu0
    have : ss = [] := List.eq_nil_of_length_eq_zero h0
    subst this
    clear hu hn hcol
    go_wp2_with (go_at_call 131; refine (hnone _).mono ?_; rintro e w2 ⟨rfl, rfl⟩)
    go_ret
    exact ⟨_, [], rfl, RowsAt.nil _ _, hp, List.Pairwise.nil, fun j hj => by simp [Value.ownBlock] at hj, hb1⟩
  · subst hug
    have hsz : ss.toArray.size = ss.length := by simp
    obtain ⟨hH, hlt⟩ := holdsDu ss.toArray w.heap.size g cap w1 (by simpa using hu)
    have hso := sortDu_any ss.toArray g 0 cap w1 hH hlt (by simp; omega)
    rw [hsz] at hso
    obtain ⟨LN, hLN⟩ : ∃ LN, LN = ss.length := ⟨_, rfl⟩
    rw [← hLN] at hso ⊢
    have HL := Lib.hid hLN
    have HP := Lib.hid hp
    have HH := Lib.hid hH
    clear hu hcol hsz hrest hn hLN hp hH
    go_wp2_with (go_at_call 131; refine hso.mono ?_; rintro e w2 ⟨rfl, d', n, os, h1, h2, rfl⟩)
    go_ret
    have hsz : ss.toArray.size = LN := by rw [HL.out]; simp
    obtain ⟨p1, p2⟩ := perm_of_in hsz h1
    have hrow := rows_sortK cellsDu 4 (fun _ => rfl) (n := n) (os := os) ss.toArray d' HH.out hlt (by rw [p2, hsz]) (by rw [p2, HL.out]; unfold maxLen; omega) cap
    rw [p2] at hrow
    refine ⟨_, d'.toList, rfl, hrow, (p1.trans (by simp)).trans HP.out, ?_, fun j hj => (by have e : g = j := (by simpa [Value.ownBlock] using hj); omega), hb1.grown (grown_sortK cellsDu 4 d') hb1.size (fun q e => by cases e; exact hg)⟩
    refine (pairwise_of_in p2 h2).imp (fun {a b} hab => ?_)
    have := (cmpDu_is.le_iff a b).2
    unfold ltOf at hab
    exact this (by simpa using hab)
end Go.Proofs.YtlamogpdkmbeoaaGreatDoor
end PartSortDu
