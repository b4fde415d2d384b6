/- The texts SeqA, SeqB, SeqC, SeqD, SeqE, SeqF, SeqG in one. -/
import Derived.Test.YtlamogpdkmbeoaaGreatDoorZbSet
import Derived.Shelf.SlIter.Collect
import Derived.OwnWalkIn
import Derived.LoopIn
set_option linter.unusedVariables false
set_option linter.unusedSimpArgs false
section PartSeqA
/- An iterator over a slice of structs ('slices.Values') gives the slice's elements in their order. -/
set_option maxRecDepth 100000
namespace Go.Proofs.YtlamogpdkmbeoaaGreatDoor
open Go.RowKit Go.Lib Go.Shelf Go.Maps Go.Sort

section
variable {F : Fence} {n : Nat} {P : Program} {ops : Array Oper} {Q : Exit → Act → World → Prop} {a : Act} {w : World} {rest : List Oper} {op : Oper}
theorem wpListIn_load_mid (hgd : op.guard = none) (ty : TypeId) (x : Operand) (ho : op.op = .load ty x)
    (b o : Nat) (hx : a.eval x = .pointer (some ⟨b, o, none⟩)) (cs : List Value) (d : TypeDesc) (hc : w.rangeAt b o cs)
    (hu : P.underlying ty = some d) (hd : d.isRow = true) (hi : (P.info? ty).map (·.size) = some cs.length)
    (h : wpListIn F n P ops Q rest (a.put op.dst (.agg cs.toArray)) w) : wpListIn F n P ops Q (op :: rest) a w := by
  refine wpListIn_plain hgd fun K hK => ?_
  unfold Oper.wpIn
  refine ⟨by simp [Oper.about, ho], ?_⟩
  rw [Oper.semAt_plain F _ _ (by rw [ho]; intro c hc'; cases hc')]
  unfold execOp
  simp only [ho, hx, Instr.loadAt, Instr.sureAddr, Sem.run_bind, Sem.run_pure, Result.andThen_ok, run_loadVar_mid w b o ty cs d hc hu hd hi]
  exact hK _ _ h
theorem wpListIn_load_blk (hgd : op.guard = none) (ty : TypeId) (x : Operand) (ho : op.op = .load ty x)
    (g : Nat) (t : TypeId) (cs : Array Value) (d : TypeDesc) (hx : a.eval x = .pointer (some ⟨g, 0, none⟩)) (hB : Blk w g t cs)
    (hu : P.underlying ty = some d) (hd : d.isRow = true) (hi : (P.info? ty).map (·.size) = some cs.size) (h : wpListIn F n P ops Q rest (a.put op.dst (.agg cs)) w) : wpListIn F n P ops Q (op :: rest) a w :=
  wpListIn_load_mid hgd ty x ho g 0 hx cs.toList d hB.range hu hd (by simpa using hi) (by simpa using h)
theorem wpListIn_store_blk (hgd : op.guard = none) (ty : TypeId) (x y : Operand) (ho : op.op = .store ty x y)
    (g : Nat) (t : TypeId) (cs vs : Array Value) (hx : a.eval x = .pointer (some ⟨g, 0, none⟩)) (hy : a.eval y = .agg vs) (hB : Blk w g t cs) (hl : vs.size = cs.size)
    (hi : (P.info? ty).map (·.size) = some vs.size) (h1 : vs.all (·.oneCell') = true)
    (h : ∀ w', Blk w' g t vs → w.grownBy w' (some g) → w'.heap.size = w.heap.size → wpListIn F n P ops Q rest (a.put op.dst undef) w') : wpListIn F n P ops Q (op :: rest) a w := by
  refine wpListIn_plain hgd fun K hK => ?_
  unfold Oper.wpIn
  refine ⟨by simp [Oper.about, ho], ?_⟩
  rw [Oper.semAt_plain F _ _ (by rw [ho]; intro c hc'; cases hc')]
  unfold execOp
  simp only [ho, hx, hy, Instr.storeAt, Instr.sureAddr, Sem.run_bind, Sem.run_pure, Result.andThen_ok, run_storeVar_mid w g 0 ty vs (there_blk hB (by omega)) hi h1]
  exact hK _ _ (h _ (hB.whole vs hl) (grown_setCells w g vs.toList 0).1 (grown_setCells w g vs.toList 0).2)
end

/-- 'SeqGives' where the caller's word between the rounds keeps what lay before. -/
def SeqGivesB {α : Type} (F : Fence) (n : Nat) (P : Program) (g : Nat) (lb : Array Value) (enc : α → Value) (E : α → Prop) (S : List α → Prop) (N : Nat) (w : World) : Prop :=
  ∀ (l : Nat) (J : List α → World → Prop) (W : World), Below w.heap.size w W → AbidesFrom W.heap.size J → (∀ s W1, J s W1 → Below w.heap.size w W1) →
    (∀ pre x W1, E x → J pre W1 → pre.length < N → YieldAt F (n - 1) P l #[enc x] W1 fun e W' => e = .returned (.bool true) ∧ J (pre ++ [x]) W' ∧ KeepsWalks W1 W') →
    J [] W → CallsIn F n P g (#[.func (.yield l) #[] #[]] ++ lb) W fun e W' => (∃ v, e = .returned v) ∧ ∃ xs, S xs ∧ J xs W'

theorem grown_new {W W' : World} {o : Obj} (h : (W.alloc o).grownBy W' (some W.heap.size)) : W.grownBy W' none := by
  obtain ⟨a1, a2, a3, a4, a5⟩ := h
  refine ⟨a1, a2, a3, Nat.le_trans (by simp) a4, fun k hk _ => (a5 k (by simp; omega) (by intro e; injection e with e; omega)).trans (Below.heap_alloc _ _ k hk)⟩
set_option maxHeartbeats 4000000 in
theorem values_in (F : Fence) (n : Nat) (hF : F.fn 101) (hro : F.round = none) (hn : 1 ≤ n) (B : Nat) (v : Value) (xs : List Note) (w : World) (h : NotesAt w v xs) (hB : B < w.heap.size) (hc : w.cell? ⟨B, 0, none⟩ = some v) :
    SeqGivesB F n Tryz.prog 101 #[.pointer (some ⟨B, 0, none⟩)] (fun x : Note => .agg x.enc.toArray) (fun x => x ∈ xs) (fun ys => ys = xs) xs.length w := by
  intro l J W hW hJ hJB hY h0
  have U46 := Tryz.underlying46
  have cB : W.cell? ⟨B, 0, none⟩ = some v := (hW.cell (p := ⟨B, 0, none⟩) hB).trans hc
  have hm := h.row.max
  unfold maxLen at hm
  refine callsIn_of_wp Tryz.func101 rfl hF ?_ hro
  simp only [Tryz.ntmps101, List.size_toArray, List.length_cons, List.length_nil, Nat.reduceAdd, Nat.reduceSub, Array.replicate_succ, Array.replicate_zero, List.push_toArray, List.append_toArray, List.nil_append, List.cons_append]
  rcases h.row.place with ⟨rfl, A, c, rfl⟩ | ⟨b, ao, c, rfl, hl0, _, hbb, hcell⟩
  · clear h hc hY
    gi_wp2
    gi_loopw [7] (fun s7 wr => s7 = .int .i64 0 ∧ J [] wr) (fun _ _ => 0)
    case atStart => exact ⟨rfl, h0⟩
    case round =>
      obtain ⟨rfl, hj⟩ := hrel
      gi_wp2
      go_end0
      exact ⟨⟨_, rfl⟩, [], rfl, hj⟩
  · have HCELL := Lib.hid hcell
    have HONE := Lib.hid (fun x (hx : x ∈ xs) => note_one (h.each x hx))
    have HY := Lib.hid hY
    have HJ := Lib.hid hJ
    have HJB := Lib.hid hJB
    have HW := Lib.hid hW
    clear hcell h hc hY hJ hJB hW
    gi_wp2
    gi_loopw [7] (fun s7 wr => ∃ k : Nat, k ≤ xs.length ∧ s7 = .int .i64 k ∧ W.heap.size ≤ wr.heap.size ∧ J (xs.take k) wr) (fun s7 _ => xs.length - (intOf s7).toNat)
    case atStart => exact ⟨0, Nat.zero_le _, rfl, Nat.le_refl _, h0⟩
    case round =>
      obtain ⟨k, hk, rfl, hsz, hj⟩ := hrel
      by_cases hlt : k < xs.length
      · obtain ⟨x, hx⟩ : ∃ x, x = xs[k] := ⟨_, rfl⟩
        have hxm : x ∈ xs := by rw [hx]; exact List.getElem_mem hlt
        have htk : xs.take (k + 1) = xs.take k ++ [x] := by rw [hx, List.take_add_one, List.getElem?_eq_getElem hlt]; rfl
        have hbw := HJB.out _ _ hj
        have hrng : wr.rangeAt b (ao + k * 20) x.nt.enc := fun i u hu => (hbw.cell (p := ⟨b, ao + k * 20 + i, none⟩) hbb).trans (HCELL.out k hlt i u (by rw [← hx]; exact hu))
        have HRNG := Lib.hid hrng
        have HO := Lib.hid (HONE.out x hxm)
        have HXM := Lib.hid hxm
        have HTK := Lib.hid htk
        have HJK := Lib.hid hj
        clear hrng hbw hx hxm htk hj
        have tok : True := trivial
        gi_wp2_with (first
          | (have _t := tok; refine wpListIn_load_mid rfl 46 _ rfl b (ao + k * 20) rfl x.nt.enc _ HRNG.out U46 rfl sizeNote ?_; clear tok)
          | (refine wpListIn_store_blk rfl 46 _ _ rfl wr.heap.size 46 Nt0.enc.toArray x.nt.enc.toArray rfl rfl (Blk.new wr _ _) (by rfl) sizeNote HO.out ?_; intro w2 hX2 hg2 hs2; have tok2 : True := trivial)
          | (have _t := tok2; refine wpListIn_load_blk rfl 46 _ rfl wr.heap.size 46 x.nt.enc.toArray _ rfl hX2 U46 rfl sizeNote ?_; clear tok2; obtain ⟨fn, tmps, assign, body, hy, hR⟩ := HY.out (xs.take k) x w2 HXM.out (HJ.out _ wr w2 none HJK.out (grown_new hg2) (fun r e => by cases e)) (by rw [List.length_take]; omega))
          | gi_in)
        refine hR.mono ?_
        rintro e W3 ⟨rfl, hJ3, hk3⟩
        have hsz3 : W.heap.size ≤ W3.heap.size := by have h1 := hk3.size; rw [World.size_alloc] at hs2; omega
        have HJ3 := Lib.hid hJ3
        clear hJ3 hk3 hX2 hg2 hs2 hy hR
        gi_wp2
        go_roundw
        case rel => exact ⟨k + 1, by omega, by go_num, hsz3, by rw [HTK.out]; exact HJ3.out⟩
        case measure => simp [intOf]; omega
      · have hks : k = xs.length := by omega
        have HE : Hid (xs.take k = xs) := Lib.hid (by rw [hks]; exact List.take_length)
        have HJK := Lib.hid hj
        clear hks hj
        gi_wp2
        go_end0
        exact ⟨⟨_, rfl⟩, _, HE.out, HJK.out⟩
end Go.Proofs.YtlamogpdkmbeoaaGreatDoor
end PartSeqA

section PartSeqB
/- 'slices.AppendSeq' and 'slices.Collect' at notes. -/
set_option maxRecDepth 100000
namespace Go.Proofs.YtlamogpdkmbeoaaGreatDoor
open Go.RowKit Go.Lib Go.Shelf Go.Maps Go.Sort

def apAssign : Code := (Code.region 2 #[{ dst := some 5, op := Op.alloc 46, type := 0, pos := "iter.go:51", after := #[], guard := none }, { dst := none, op := Op.store 46 (Operand.tmp 5) (Operand.tmp 7), type := 0, pos := "iter.go:51", after := #[{ on := 0, ground := Ground.data }, { on := 0, ground := Ground.phase }], guard := none }] false)
def apBody : Code := (Code.block 1 (Code.region 3 #[{ dst := some 8, op := Op.load 24 (Operand.tmp 2), type := 24, pos := "iter.go:52", after := #[], guard := none }, { dst := some 9, op := Op.load 46 (Operand.tmp 5), type := 46, pos := "iter.go:52", after := #[], guard := none }, { dst := some 10, op := Op.buildSlice 24 1 #[(0, Operand.tmp 9)], type := 24, pos := "iter.go:52", after := #[{ on := 1, ground := Ground.data }], guard := none }, { dst := some 11, op := Op.call { callee := Callee.builtin Builtin.append, args := #[Operand.tmp 8, Operand.tmp 10], argTypes := #[24, 24] }, type := 24, pos := "iter.go:52", after := #[{ on := 0, ground := Ground.data }, { on := 2, ground := Ground.data }], guard := none }, { dst := none, op := Op.store 24 (Operand.tmp 2) (Operand.tmp 11), type := 0, pos := "iter.go:52", after := #[{ on := 3, ground := Ground.data }, { on := 3, ground := Ground.chain }, { on := 0, ground := Ground.phase }, { on := 1, ground := Ground.phase }, { on := 2, ground := Ground.phase }, { on := 3, ground := Ground.phase }], guard := none }] false))
/-- The loop's record: AppendSeq's temporaries as they stood at the entering. -/
def apRec (fn : FuncId) (sv : Value) (Bs D : Nat) (st : LoopState) (pend : Option Code) : Loop :=
  { state := st, pending := pend, fn, tmps := #[.slice none 0 0, sv, .pointer (some ⟨Bs, 0, none⟩), undef, .slice none 0 0, undef, sv, undef, undef, undef, undef, undef, undef], params := #[7], assign := apAssign, body := apBody, defers := D }
structure ApAt (w0 : World) (fn : FuncId) (sv : Value) (Bs l D : Nat) (ss : List Note) (W : World) : Prop where
  box : ∃ v, W.heap[Bs]? = some (.cells #[v] 24 (0, 0)) ∧ W.ownsRow w0.heap.size 46 20 v ss.length (ss.flatMap Note.enc) ∧ (v = .slice none 0 0 ↔ ss = [])
  L : W.heap[l]? = some (.loop (apRec fn sv Bs D .ready none))
  K : W.heap[D]? = some (.deferred (some []))
  below : Below w0.heap.size w0 W
theorem ap_abides (w0 : World) (fn : FuncId) (sv : Value) (Bs l D B : Nat) (hB : w0.heap.size ≤ B) : AbidesFrom B (ApAt w0 fn sv Bs l D) := fun s W W' row h hg hrow => by
  have hrow' : ∀ r, row = some r → ∃ o : Obj, W.heap[r]? = some o ∧ o.isWalk = true := fun r e => (hrow r e).2
  obtain ⟨v, hv, hr, hn⟩ := h.box
  exact ⟨⟨v, (grownBy_keeps hg hrow' hv rfl).trans hv, ownsRow_abides_a hr hg hrow', hn⟩, (grownBy_keeps hg hrow' h.L rfl).trans h.L, (grownBy_keeps hg hrow' h.K rfl).trans h.K,
    h.below.grown hg h.below.size (fun k e => Nat.le_trans hB (hrow k e).1)⟩

theorem infoNote : ∃ i, Tryz.prog.info? 46 = some i ∧ i.zero = some (.agg Nt0.enc.toArray) ∧ i.size = 20 ∧ i.bytes = 224 := by
  obtain ⟨i, hi⟩ : ∃ i, Tryz.prog.info? 46 = some i := Option.isSome_iff_exists.1 (by kernel_rfl)
  have h1 : (Tryz.prog.info? 46).bind (·.zero) = some (.agg Nt0.enc.toArray) := by kernel_rfl
  have h2 : (Tryz.prog.info? 46).map (·.size) = some 20 := by kernel_rfl
  have h3 : (Tryz.prog.info? 46).map (·.bytes) = some 224 := by kernel_rfl
  rw [hi] at h1 h2 h3
  exact ⟨i, hi, by simpa using h1, by simpa using h2, by simpa using h3⟩

set_option maxHeartbeats 4000000 in
theorem ap_yield (F : Fence) (m : Nat) (w0 : World) (fn : FuncId) (hfn : F.fn fn) (sv : Value) (Bs l D : Nat) (hBl : Bs ≠ l) (hDl : D ≠ l) (hDB : D ≠ Bs) (h0B : w0.heap.size ≤ Bs) (h0l : w0.heap.size ≤ l)
    (N : Nat) (hN : N ≤ maxLen) (hNb : N * 224 ≤ 140737488355328) (ss : List Note) (x : Note) (hx1 : x.nt.enc.toArray.all (·.oneCell') = true) (W : World) (h : ApAt w0 fn sv Bs l D ss W) (hlen : ss.length < N) :
    YieldAt F m Tryz.prog l #[.agg x.enc.toArray] W fun e W' => e = .returned (.bool true) ∧ ApAt w0 fn sv Bs l D (ss ++ [x]) W' ∧ KeepsWalks W W' := by
  obtain ⟨i0, hi, hz0, hz1, hz2⟩ := infoNote
  have U46 := Tryz.underlying46
  refine ⟨fn, #[.slice none 0 0, sv, .pointer (some ⟨Bs, 0, none⟩), undef, .slice none 0 0, undef, sv, .agg x.enc.toArray, undef, undef, undef, undef, undef], apAssign, apBody, by simpa [apRec] using run_yield (P := Tryz.prog) (args := #[.agg x.enc.toArray]) h.L rfl, roundIn_of_wpIn hfn ?_⟩
  obtain ⟨x, js, ls⟩ := x
  dsimp only [Note.enc] at hx1 ⊢
  unfold apAssign
  have tok : True := trivial
  gi_wp2_with (first
    | (have _t := tok; refine wpListIn_store_blk rfl 46 _ _ rfl W.heap.size 46 Nt0.enc.toArray x.enc.toArray rfl rfl (Blk.new W _ _) (by rfl) sizeNote hx1 ?_; clear tok; intro wa hX3 hg3 hs3)
    | gi_round_op_a)
  have hgn := grown_new hg3
  have ha := ap_abides w0 fn sv Bs l D w0.heap.size (Nat.le_refl _) ss W wa none h hgn (fun r e => by cases e)
  have hka : KeepsWalks W wa := KeepsWalks.of_grownBy hgn (fun j o e => by cases e)
  have hlW : l < W.heap.size := (Array.getElem?_eq_some_iff.1 h.L).1
  have hBW : Bs < W.heap.size := by obtain ⟨_, hv, _⟩ := h.box; exact (Array.getElem?_eq_some_iff.1 hv).1
  clear hg3 hs3 hgn h
  obtain ⟨v, hv, hrow, _⟩ := ha.box
  have hl : l < wa.heap.size := (Array.getElem?_eq_some_iff.1 ha.L).1
  have hbr := run_beginRound (P := Tryz.prog) ha.L rfl
  obtain ⟨W2, hW2⟩ : ∃ W2, wa.putObj l (.loop { apRec fn sv Bs D .ready none with state := .busy }) = W2 := ⟨_, rfl⟩
  rw [hW2] at hbr
  have hg2 : wa.grownBy W2 (some l) := by rw [← hW2]; exact grownBy_putObj_a _ _ _
  have hX2 : Blk W2 W.heap.size 46 x.enc.toArray := hX3.kept hg2 (by intro e; injection e with e; omega)
  have hk2 : KeepsWalks W W2 := hka.trans (by rw [← hW2]; exact KeepsWalks.putObj _ ha.L rfl)
  have hv2 : W2.heap[Bs]? = some (.cells #[v] 24 (0, 0)) := by rw [← hW2]; exact (World.putObj_heap_other hBl).trans hv
  have hK2 : W2.heap[D]? = some (.deferred (some [])) := by rw [← hW2]; exact (World.putObj_heap_other hDl).trans ha.K
  have hL2 : W2.heap[l]? = some (.loop { apRec fn sv Bs D .ready none with state := .busy }) := by rw [← hW2]; exact World.putObj_heap_same hl
  have hrow2 : W2.ownsRow w0.heap.size 46 20 v ss.length (ss.flatMap Note.enc) := hrow.kept hg2 (ownsRow_ne_a hrow ha.L (fun cur e => by cases e))
  have hb2 : Below w0.heap.size w0 W2 := ha.below.grown hg2 ha.below.size (fun k e => by cases e; exact h0l)
  have hBlt : Bs < W2.heap.size := (Array.getElem?_eq_some_iff.1 hv2).1
  have hl2 : l < W2.heap.size := (Array.getElem?_eq_some_iff.1 hL2).1
  have hDlt : D < W2.heap.size := (Array.getElem?_eq_some_iff.1 hK2).1
  obtain ⟨hc2, hf2⟩ := cell_of_box_a hv2
  clear hW2 hX3 hv hrow ha hka hg2
  refine ⟨W2, hbr, ?_⟩
  have hx2 : ∀ u ∈ x.enc, u.oneCell' = true := by
    have h := hx1
    rw [List.all_toArray] at h
    exact List.all_eq_true.1 h
  have HX2 := Lib.hid hx2
  have hlen2 : ss.length + 1 ≤ maxLen := by omega
  have hlenb : (ss.length + 1) * 224 ≤ 140737488355328 := by omega
  have ne_of : ∀ {j : Nat} {o : Obj}, W2.heap[j]? = some o → (∀ cur, o ≠ .cells cur 46 (0, 0)) → some j ≠ v.ownBlock := fun hj hno => by
    rcases ownsRow_ne_a hrow2 hj hno with e | e
    · rw [e]; simp
    · exact fun e' => e e'.symm
  have hszW : w0.heap.size ≤ W2.heap.size := hb2.size
  clear hx2 hx1
  unfold apBody
  have tok : True := trivial
  gi_wp2_with (first
    | (have _t := tok; refine wpListIn_load_blk rfl 46 _ rfl W.heap.size 46 x.enc.toArray _ rfl hX2 U46 rfl sizeNote ?_; clear tok)
    | (gi_at_builtin; refine wpListIn_append_own _ rfl _ _ 24 rfl w0.heap.size 46 i0 (.agg Nt0.enc.toArray) 20 224 Tryz.underlying24 hi hz0 hz1 hz2 rfl (by decide) _ _ _ rfl (hrow2.alloc _) ⟨W2.heap.size, 0, none⟩ 1 1 x.enc rfl rfl (fun j u hu => by rw [Addr.add_mid]; exact (Blk.new W2 46 x.enc.toArray).range j u hu) HX2.out hlen2 hlenb (by rw [World.size_alloc]; omega) ?_; intro v' w3 hown' hg3 hnil3
       have hv3 : w3.heap[Bs]? = some (.cells #[v] 24 (0, 0)) := (hg3.block Bs (by rw [World.size_alloc]; omega) (ne_of hv2 (fun cur e => by cases e))).trans ((Below.heap_alloc _ _ Bs hBlt).trans hv2)
       obtain ⟨hc3, hf3⟩ := cell_of_box_a hv3
       obtain ⟨g', cap', cur', rfl, hbase', hgb', hr1, hr2, hr3, hr4⟩ : ∃ g' cap' cur', v' = .slice (some ⟨g', 0, none⟩) (ss.length + 1) cap' ∧ w0.heap.size ≤ g' ∧ w3.heap[g']? = some (.cells cur' 46 (0, 0)) ∧ ss.length + 1 ≤ cap' ∧ cap' ≤ maxLen ∧ cur'.size = cap' * 20 ∧ cur'.toList.take ((ss.length + 1) * 20) = ss.flatMap Note.enc ++ x.enc := by
         rcases hown'.2 with ⟨_, h0⟩ | h'
         · exact absurd h0 (by omega)
         · exact h'
       go_frame)
    | gi_round_op_a)
  have hg3' : (W2.alloc (.cells x.enc.toArray 46)).grownBy w3 v.ownBlock := hg3
  have hL3 : w3.heap[l]? = some (.loop { apRec fn sv Bs D .ready none with state := .busy }) := (hg3'.block l (by rw [World.size_alloc]; omega) (ne_of hL2 (fun cur e => by cases e))).trans ((Below.heap_alloc _ _ l hl2).trans hL2)
  have hK3 : w3.heap[D]? = some (.deferred (some [])) := (hg3'.block D (by rw [World.size_alloc]; omega) (ne_of hK2 (fun cur e => by cases e))).trans ((Below.heap_alloc _ _ D hDlt).trans hK2)
  obtain ⟨w4, hw4⟩ : ∃ w4, w3.setCell ⟨Bs, 0, none⟩ (.slice (some ⟨g', 0, none⟩) (ss.length + 1) cap') = w4 := ⟨_, rfl⟩
  rw [hw4]
  have hg4 : w3.grownBy w4 (some Bs) := by rw [← hw4]; exact grownBy_setCell0_a _ _ _
  have hv4 : w4.heap[Bs]? = some (.cells #[.slice (some ⟨g', 0, none⟩) (ss.length + 1) cap'] 24 (0, 0)) := by rw [← hw4]; exact heap_setCell_box_a _ hv3
  have hL4 : w4.heap[l]? = some (.loop { apRec fn sv Bs D .ready none with state := .busy }) := (hg4.block l (Array.getElem?_eq_some_iff.1 hL3).1 (fun e => hBl (by cases e; rfl))).trans hL3
  have hK4 : w4.heap[D]? = some (.deferred (some [])) := (hg4.block D (Array.getElem?_eq_some_iff.1 hK3).1 (fun e => hDB (by cases e; rfl))).trans hK3
  have hrow4 := hown'.kept hg4 (ownsRow_ne_a hown' hv3 (fun cur e => by cases e))
  have hl4 : l < w4.heap.size := (Array.getElem?_eq_some_iff.1 hL4).1
  have hb3 : Below w0.heap.size w0 w3 := (hb2.alloc hb2.size _).grown hg3' (by rw [World.size_alloc]; omega) (fun k e => (hrow2.lt k e).1)
  have hb4 : Below w0.heap.size w0 w4 := hb3.grown hg4 hb3.size (fun k e => by cases e; exact h0B)
  have hk4 : KeepsWalks W w4 := ((hk2.trans (KeepsWalks.alloc _ _)).trans (KeepsWalks.of_grownBy hg3' (ownsRow_not_walk_a (hrow2.alloc _)))).trans (by rw [← hw4]; exact KeepsWalks.setCell _ _ _)
  clear hw4
  refine ⟨_, _, run_endRound none hL4, rfl, ⟨⟨_, (World.putObj_heap_other hBl).trans hv4, ?_, by simp⟩, World.putObj_heap_same hl4, (World.putObj_heap_other hDl).trans hK4, hb4.grown (grownBy_putObj_a _ _ _) hb4.size (fun k e => by cases e; exact h0l)⟩, hk4.trans (KeepsWalks.putObj _ hL4 rfl)⟩
  have := hrow4.kept (grownBy_putObj_a w4 l (.loop { { apRec fn sv Bs D .ready none with state := .busy } with state := if (none : Option Code).isNone then .ready else .done, pending := none })) (ownsRow_ne_a hrow4 hL4 (fun cur e => by cases e))
  rw [show (ss ++ [(⟨x, js, ls⟩ : Note)]).length = ss.length + 1 from by simp, show (ss ++ [(⟨x, js, ls⟩ : Note)]).flatMap Note.enc = ss.flatMap Note.enc ++ x.enc from by rw [List.flatMap_append, List.flatMap_singleton]]
  exact this
set_option maxHeartbeats 4000000 in
theorem appendSeq_in (F : Fence) (n : Nat) (h11 : F.fn 135) (hro : F.round = none) (hn : 2 ≤ n) (g : Nat) (lb : Array Value) (hFg : F.fn g) (eg : ∀ args w, (callFunc g args).run Tryz.prog w = .ok (.enter g args) w)
    (E : Note → Prop) (hE : ∀ x, E x → x.nt.enc.toArray.all (·.oneCell') = true) (S : List Note → Prop) (N : Nat) (hN : N ≤ maxLen) (hNb : N * 224 ≤ 140737488355328) (w : World) (hseq : SeqGivesB F (n - 1) Tryz.prog g lb (fun x : Note => .agg x.enc.toArray) E S N w) :
    CallsIn F n Tryz.prog 135 #[.slice none 0 0, .func (.func g) #[] lb] w fun e w' => ∃ (v : Value) (ss : List Note), e = .returned v ∧ S ss ∧ w'.ownsRow w.heap.size 46 20 v ss.length (ss.flatMap Note.enc) ∧ (v = .slice none 0 0 ↔ ss = []) ∧ Below w.heap.size w w' := by
  have h1 : 1 ≤ n := by omega
  refine callsIn_of_wp_marks Tryz.func135 rfl h11 ?_ hro
  simp only [Tryz.ntmps135, List.size_toArray, List.length_cons, List.length_nil, Nat.reduceAdd, Nat.reduceSub, Array.replicate_succ, Array.replicate_zero, List.push_toArray, List.append_toArray, List.nil_append, List.cons_append]
  gi_wp2
  refine wpIn_rangeFunc ?_
  intro fn hfn
  rw [hro]
  obtain ⟨W0, hW0⟩ : ∃ W0, w.alloc (.cells #[.slice none 0 0] 24) = W0 := ⟨_, rfl⟩
  have hs0 : W0.heap.size = w.heap.size + 1 := by rw [← hW0]; simp
  have hv0 : W0.heap[w.heap.size]? = some (.cells #[.slice none 0 0] 24 (0, 0)) := by rw [← hW0]; exact World.alloc_heap_new w _
  have hb0 : Below w.heap.size w W0 := by rw [← hW0]; exact (Below.refl _ w).alloc (Nat.le_refl _) _
  rw [hW0]
  obtain ⟨W1, hW1⟩ : ∃ W1, (W0.alloc (.deferred (some []))).alloc (.loop (apRec fn (.func (.func g) #[] lb) w.heap.size W0.heap.size .ready none)) = W1 := ⟨_, rfl⟩
  have hold : ∀ k, k < W0.heap.size → W1.heap[k]? = W0.heap[k]? := fun k hk => by
    rw [← hW1]; exact (Below.heap_alloc _ _ k (by simp; omega)).trans (Below.heap_alloc _ _ k hk)
  have hb1 : Below w.heap.size w W1 := by rw [← hW1]; exact (hb0.alloc hb0.size _).alloc (by have := hb0.size; simp; omega) _
  have hs1 : W1.heap.size = W0.heap.size + 2 := by rw [← hW1]; simp
  have hM : ApAt w fn (.func (.func g) #[] lb) w.heap.size (W0.heap.size + 1) W0.heap.size [] W1 :=
    ⟨⟨_, (hold w.heap.size (by omega)).trans hv0, ⟨rfl, .inl ⟨rfl, rfl⟩⟩, by simp⟩,
     by rw [← hW1]; have := World.alloc_heap_new (W0.alloc (.deferred (some []))) (.loop (apRec fn (.func (.func g) #[] lb) w.heap.size W0.heap.size .ready none)); rwa [World.size_alloc] at this,
     by rw [← hW1]; exact (Below.heap_alloc _ _ _ (by simp)).trans (World.alloc_heap_new W0 _), hb1⟩
  refine ⟨W0.heap.size + 1, [{ target := .collected W0.heap.size, args := #[] }], W1, { target := .fn (.func g) lb, args := #[.func (.yield (W0.heap.size + 1)) #[] #[]] }, W1, g,
    #[.func (.yield (W0.heap.size + 1)) #[] #[]] ++ lb, W1, ?_, ?_, ?_, ?_, fun _ => h1, ?_⟩
  · rw [← hW1]; exact run_enterLoop_outer _ _ _ _ _
  · simp [resolve, go_sem]
  · intro f' hf'; simp [Target.leads] at hf'; subst hf'; exact hFg
  · simp [invoke, go_sem, eg]
  · refine (hseq (W0.heap.size + 1) (ApAt w fn (.func (.func g) #[] lb) w.heap.size (W0.heap.size + 1) W0.heap.size) W1 hb1 (ap_abides _ _ _ _ _ _ _ hb1.size) (fun s W2 h => h.below)
      (fun pre x W hx hJ hl => ap_yield F (n - 1 - 1) w fn hfn _ w.heap.size (W0.heap.size + 1) W0.heap.size (by omega) (by omega) (by omega) (Nat.le_refl _) (by omega) N hN hNb pre x (hE x hx) W hJ hl) hM).mono ?_
    rintro e W2 ⟨⟨v0, rfl⟩, ss, hS, h2⟩
    obtain ⟨v, hv, hrow, hnil⟩ := h2.box
    have hend := run_endLoop (P := Tryz.prog) h2.L (by simp [apRec])
    obtain ⟨W3, hW3⟩ : ∃ W3, W2.putObj (W0.heap.size + 1) (.loop { apRec fn (.func (.func g) #[] lb) w.heap.size W0.heap.size .ready none with state := .exhausted }) = W3 := ⟨_, rfl⟩
    rw [hW3] at hend
    have hg3 : W2.grownBy W3 (some (W0.heap.size + 1)) := by rw [← hW3]; exact grownBy_putObj_a _ _ _
    have hv3 : W3.heap[w.heap.size]? = some (.cells #[v] 24 (0, 0)) := by rw [← hW3]; exact (World.putObj_heap_other (by omega)).trans hv
    have hK3 : W3.heap[W0.heap.size]? = some (.deferred (some [])) := by rw [← hW3]; exact (World.putObj_heap_other (by omega)).trans h2.K
    have hrow3 := hrow.kept hg3 (ownsRow_ne_a hrow h2.L (fun cur e => by cases e))
    have hb3 : Below w.heap.size w W3 := h2.below.grown hg3 h2.below.size (fun k e => by cases e; omega)
    obtain ⟨hc3, hf3⟩ := cell_of_box_a hv3
    clear hW3
    refine ⟨none, W3, hend, ?_⟩
    gi_wp2
    rw [← hs0]
    refine ⟨by simp, .inl ⟨_, _, rfl, run_takeDeferred hK3, ?_⟩⟩
    exact ⟨_, results_tmp rfl _ _ _, v, ss, rfl, hS, hrow3.kept (grownBy_putObj_a _ _ _) (ownsRow_ne_a hrow3 hK3 (fun cur e => by cases e)), hnil, hb3.grown (grownBy_putObj_a _ _ _) hb3.size (fun k e => by cases e; omega)⟩

set_option maxHeartbeats 1000000 in
theorem collect_in (F : Fence) (n : Nat) (h8 : F.fn 99) (h11 : F.fn 135) (hro : F.round = none) (hn : 3 ≤ n) (g : Nat) (lb : Array Value) (hFg : F.fn g) (eg : ∀ args w, (callFunc g args).run Tryz.prog w = .ok (.enter g args) w)
    (E : Note → Prop) (hE : ∀ x, E x → x.nt.enc.toArray.all (·.oneCell') = true) (S : List Note → Prop) (N : Nat) (hN : N ≤ maxLen) (hNb : N * 224 ≤ 140737488355328) (w : World) (hseq : SeqGivesB F (n - 1 - 1) Tryz.prog g lb (fun x : Note => .agg x.enc.toArray) E S N w) :
    CallsIn F n Tryz.prog 99 #[.func (.func g) #[] lb] w fun e w' => ∃ (v : Value) (ss : List Note), e = .returned v ∧ S ss ∧ w'.ownsRow w.heap.size 46 20 v ss.length (ss.flatMap Note.enc) ∧ (v = .slice none 0 0 ↔ ss = []) ∧ Below w.heap.size w w' := by
  have h1 : 1 ≤ n := by omega
  refine callsIn_of_wp Tryz.func99 rfl h8 ?_ hro
  simp only [Tryz.ntmps99, List.size_toArray, List.length_cons, List.length_nil, Nat.reduceAdd, Nat.reduceSub, Array.replicate_succ, Array.replicate_zero, List.push_toArray, List.append_toArray, List.nil_append, List.cons_append]
  gi_wp2_with (gi_at_call 135; refine (appendSeq_in F (n - 1) h11 hro (by omega) g lb hFg eg E hE S N hN hNb _ hseq).mono ?_; rintro e w' ⟨v, ss, rfl, hS, hrow, hnil, hb⟩)
  go_ret
  exact ⟨v, ss, rfl, hS, hrow, hnil, hb⟩
end Go.Proofs.YtlamogpdkmbeoaaGreatDoor
end PartSeqB

section PartSeqC
/- 'slices.Collect(slices.Values(notes))'. -/
set_option maxRecDepth 100000
namespace Go.Proofs.YtlamogpdkmbeoaaGreatDoor
open Go.RowKit Go.Lib Go.Shelf Go.Maps Go.Sort

theorem values_any (A : Option Addr) (m c : Nat) (w : World) : Calls Tryz.prog 62 #[.slice A m c] w fun e w' => e = .returned (.func (.func 101) #[] #[.pointer (some ⟨w.heap.size, 0, none⟩)]) ∧ w' = w.alloc (.cells #[.slice A m c] 24) := by
  go_enter Tryz.func62, Tryz.ntmps62
  go_wp2
  go_ret
  exact ⟨rfl, rfl⟩
theorem values_enters : ∀ args w, (callFunc 101 args).run Tryz.prog w = .ok (.enter 101 args) w := enters_of Tryz.func101 (by kernel_rfl) rfl
theorem collect_any (B : Nat) (v : Value) (xs : List Note) (w : World) (h : NotesAt w v xs) (hB : B < w.heap.size) (hc : w.cell? ⟨B, 0, none⟩ = some v) (hx : xs.length ≤ 100000) :
    Calls Tryz.prog 99 #[.func (.func 101) #[] #[.pointer (some ⟨B, 0, none⟩)]] w fun e w' => ∃ u, e = .returned u ∧ w'.ownsRow w.heap.size 46 20 u xs.length (xs.flatMap Note.enc) ∧ (u = .slice none 0 0 ↔ xs = []) ∧ Below w.heap.size w w' := by
  have hs := values_in Fence.wide 1 trivial rfl (Nat.le_refl _) B v xs w h hB hc
  have := callsIn_wide.1 (collect_in Fence.wide 3 trivial trivial rfl (Nat.le_refl _) 101 #[.pointer (some ⟨B, 0, none⟩)] trivial values_enters (fun x => x ∈ xs) (fun x hx => note_one (h.each x hx)) (fun ys => ys = xs) xs.length h.row.max (by omega) w hs)
  refine this.mono ?_
  rintro e w' ⟨u, ss, rfl, rfl, h1, h2, h3⟩
  exact ⟨u, rfl, h1, h2, h3⟩
end Go.Proofs.YtlamogpdkmbeoaaGreatDoor
end PartSeqC

section PartSeqD
/- 'slices.SortFunc' at notes by 'when'. -/
set_option maxRecDepth 100000
namespace Go.Proofs.YtlamogpdkmbeoaaGreatDoor
open Go.RowKit Go.Lib Go.Shelf Go.Maps Go.Sort

/-- A note whose cells are one cell each. -/
abbrev SNote := {x : Note // x.nt.enc.toArray.all (·.oneCell') = true}
instance : Inhabited SNote := ⟨⟨Note0, by simp [Value.oneCell']⟩⟩
abbrev SNote.enc (x : SNote) : List Value := x.1.enc
abbrev cmpS2 (x y : SNote) : Int := cmpWhen x.1.nt y.1.nt
theorem cmpWhen_lt (n m : Nt) : cmpWhen n m < 0 ↔ (n.clock < m.clock ∨ n.clock = m.clock ∧ (n.judge < m.judge ∨ n.judge = m.judge ∧ n.num < m.num)) := by
  unfold cmpWhen cmpName orI Lib.compareInt
  repeat' split
  all_goals omega
theorem when_swo : SWO (ltOf cmpS2) := by
  refine ⟨fun x => ?_, fun x y z => ?_, fun x y z => ?_⟩
  · have := cmpWhen_lt x.1.nt x.1.nt
    unfold ltOf
    exact decide_eq_false (by show ¬ cmpWhen _ _ < 0; omega)
  · have a := cmpWhen_lt x.1.nt y.1.nt
    have b := cmpWhen_lt y.1.nt z.1.nt
    have c := cmpWhen_lt x.1.nt z.1.nt
    unfold ltOf
    simp only [decide_eq_true_eq]
    intro h1 h2
    have h1 := a.1 h1
    have h2 := b.1 h2
    exact c.2 (by omega)
  · have a := cmpWhen_lt x.1.nt y.1.nt
    have b := cmpWhen_lt y.1.nt z.1.nt
    have c := cmpWhen_lt x.1.nt z.1.nt
    unfold ltOf
    simp only [decide_eq_false_iff_not]
    intro h1 h2 h3
    have h3 := c.1 h3
    rw [a] at h1
    rw [b] at h2
    omega
theorem when_lays (blk off size : Nat) (w : World) : CmpLays Tryz.prog 63 #[] SNote.enc 20 cmpS2 blk off size w := fun m os dk _ x y => when_any x.1.nt y.1.nt _
theorem when_enters : ∀ args w, (callFunc 63 args).run Tryz.prog w = .ok (.enter 63 args) w := enters_of Tryz.func63 (by kernel_rfl) rfl
theorem one_each (x : SNote) : ∀ v ∈ SNote.enc x, v.oneCell' = true := by
  have h := x.2
  rw [List.all_toArray] at h
  exact List.all_eq_true.1 h
theorem sort_any (d : Array SNote) (blk off cap : Nat) (w : World) (hH : HoldsK SNote.enc 20 w blk off d) (hblk : blk < w.heap.size) (hsz : d.size < 4611686018427387904) :
    Calls Tryz.prog 100 #[.slice (some ⟨blk, off, none⟩) d.size cap, .func (.func 63) #[] #[]] w fun e w' => e = .returned (.tuple #[]) ∧ ∃ d' n os, PermIn 0 d.size d d' ∧ SortedIn (ltOf cmpS2) 0 d.size d' ∧ w' = sortWorldK SNote.enc 20 w blk off n d' os :=
  AnyQ.slices_SortFunc Tryz.sortNotes 20 Tryz.isAgg46 Tryz.sizeOf46 SNote.enc (fun _ => rfl) one_each cmpS2 when_swo 63 #[] blk off cap d w when_enters (when_lays _ _ _ _) hH hblk hsz
end Go.Proofs.YtlamogpdkmbeoaaGreatDoor
end PartSeqD

section PartSeqE
/- A slice that owns its row holds it as the sort asks it. -/
set_option maxRecDepth 100000
namespace Go.Proofs.YtlamogpdkmbeoaaGreatDoor
open Go.RowKit Go.Lib Go.Shelf Go.Maps Go.Sort

theorem flat_get {α : Type} {enc : α → List Value} (k : Nat) (hk : ∀ x, (enc x).length = k) : ∀ (l : List α) (i c : Nat) (hi : i < l.length) (hc : c < k), (l.flatMap enc)[i * k + c]? = (enc l[i])[c]?
  | [], i, c, hi, _ => by simp at hi
  | x :: l, 0, c, _, hc => by
    rw [List.flatMap_cons, List.getElem?_append_left (by rw [hk]; omega), Nat.zero_mul, Nat.zero_add]
    rfl
  | x :: l, i + 1, c, hi, hc => by
    rw [List.flatMap_cons, List.getElem?_append_right (by rw [hk, Nat.add_mul]; omega), hk, show (i + 1) * k + c - k = i * k + c from by rw [Nat.add_mul]; omega, flat_get k hk l i c (by simpa using hi) hc]
    rfl
theorem holds_of_owns (d : Array SNote) (base : Nat) (e : TypeId) (g cap : Nat) (w : World) (h : w.ownsRow base e 20 (.slice (some ⟨g, 0, none⟩) d.size cap) d.size (d.toList.flatMap SNote.enc)) : HoldsK SNote.enc 20 w g 0 d ∧ g < w.heap.size := by
  rcases h.2 with ⟨e1, _⟩ | ⟨g', cap', cur, hv, hb, hg, h1, h2, h3, h4⟩
  · cases e1
  · injection hv with hv _ hv3
    injection hv with hv
    injection hv with hv
    subst hv
    refine ⟨fun j hj => ?_, (Array.getElem?_eq_some_iff.1 hg).1⟩
    rw [size_flatK] at hj
    have hi : j / 20 < d.size := by omega
    have hc : j % 20 < 20 := by omega
    have hget := flat_get (enc := SNote.enc) 20 (fun _ => rfl) d.toList (j / 20) (j % 20) (by simpa using hi) hc
    rw [show j / 20 * 20 + j % 20 = j from by omega] at hget
    have hcur : cur[j]? = (SNote.enc d[j / 20])[j % 20]? := by
      rw [← Array.getElem?_toList]
      have := List.getElem?_take_of_lt (l := cur.toList) (i := j) (j := d.size * 20) hj
      rw [← this, h4, hget]
      simp
    have hval : (SNote.enc d[j / 20])[j % 20]? = some (flatK SNote.enc 20 d)[j]! := by
      rw [get_flatK SNote.enc 20 d j hj, getElem!_pos d (j / 20) hi, List.getElem?_eq_getElem (by show _ < 20; exact hc), getElem!_pos _ _ (by show _ < 20; exact hc)]
    constructor
    · simp only [World.cell?, Nat.zero_add, hg]
      show cur[j]? = _
      rw [hcur, hval]
      rfl
    · simp [World.frozen?, hg]
end Go.Proofs.YtlamogpdkmbeoaaGreatDoor
end PartSeqE

section PartSeqF
/- 'slices.SortedFunc(slices.Values(notes), when)'. -/
set_option maxRecDepth 100000
namespace Go.Proofs.YtlamogpdkmbeoaaGreatDoor
open Go.RowKit Go.Lib Go.Shelf Go.Maps Go.Sort

set_option maxHeartbeats 1000000 in
theorem sorted_any (B : Nat) (v : Value) (x0 : SNote) (xs : List SNote) (w : World) (h : NotesAt w v ((x0 :: xs).map (·.1))) (hB : B < w.heap.size) (hc : w.cell? ⟨B, 0, none⟩ = some v) (hx : (x0 :: xs).length ≤ 100000) :
    Calls Tryz.prog 61 #[.func (.func 101) #[] #[.pointer (some ⟨B, 0, none⟩)], .func (.func 63) #[] #[]] w fun e w' =>
      ∃ g cap W1 d' n os, e = .returned (.slice (some ⟨g, 0, none⟩) (x0 :: xs).length cap) ∧ Below w.heap.size w W1 ∧ w.heap.size ≤ g ∧ HoldsK SNote.enc 20 W1 g 0 (x0 :: xs).toArray ∧
        PermIn 0 (x0 :: xs).length (x0 :: xs).toArray d' ∧ SortedIn (ltOf cmpS2) 0 (x0 :: xs).length d' ∧ w' = sortWorldK SNote.enc 20 W1 g 0 n d' os := by
  have hcol := collect_any B v _ w h hB hc (by simpa using hx)
  clear h hc
  go_enter Tryz.func61, Tryz.ntmps61
  go_upto_region 2 with (go_at_call 99; refine hcol.mono ?_; rintro e w1 ⟨u, rfl, hu, hn, hb1⟩)
  have hu' : w1.ownsRow w.heap.size 46 20 u (x0 :: xs).length ((x0 :: xs).flatMap SNote.enc) := by
    have := hu
    rwa [List.length_map, List.flatMap_map] at this
  rcases hu'.2 with ⟨_, e⟩ | ⟨g, cap, cur, rfl, hg, hrest⟩
  · simp at e
  · obtain ⟨hH, hlt⟩ := holds_of_owns (x0 :: xs).toArray w.heap.size 46 g cap w1 hu'
    have hs := sort_any (x0 :: xs).toArray g 0 cap w1 hH hlt (by simp at hx ⊢; omega)
    have hsz : (x0 :: xs).toArray.size = (x0 :: xs).length := by simp
    rw [hsz] at hs
    obtain ⟨L, hL⟩ : ∃ L, L = (x0 :: xs).length := ⟨_, rfl⟩
    rw [← hL] at hs ⊢
    have HL := Lib.hid hL
    clear hu hu' hcol hsz hrest hn hL
    go_wp2_with (go_at_call 100; refine hs.mono ?_; rintro e w2 ⟨rfl, d', n, os, h1, h2, rfl⟩)
    go_ret
    rw [HL.out] at h1 h2
    exact ⟨g, cap, w1, d', n, os, by rw [HL.out]; rfl, hb1, hg, hH, h1, h2, rfl⟩
theorem sorted_none (B : Nat) (v : Value) (w : World) (h : NotesAt w v []) (hB : B < w.heap.size) (hc : w.cell? ⟨B, 0, none⟩ = some v) :
    Calls Tryz.prog 61 #[.func (.func 101) #[] #[.pointer (some ⟨B, 0, none⟩)], .func (.func 63) #[] #[]] w fun e w' => e = .returned (.slice none 0 0) ∧ Below w.heap.size w w' := by
  have hcol := collect_any B v _ w h hB hc (by simp)
  have hs := fun W => AnyF.slices_SortFunc_none Tryz.sortNotes none 0 (.func (.func 63) #[] #[]) W
  clear h hc
  go_enter Tryz.func61, Tryz.ntmps61
  go_upto_region 2 with (go_at_call 99; refine hcol.mono ?_; rintro e w1 ⟨u, rfl, hu, hn, hb1⟩)
  obtain rfl := hn.2 trivial
  clear hu hn hcol
  go_wp2_with (go_at_call 100; refine (hs _).mono ?_; rintro e w2 ⟨rfl, rfl⟩)
  go_ret
  exact ⟨rfl, hb1⟩
end Go.Proofs.YtlamogpdkmbeoaaGreatDoor
end PartSeqF

section PartSeqG
/- What a sort leaves in memory; the sorted notes. -/
set_option maxRecDepth 100000
namespace Go.Proofs.YtlamogpdkmbeoaaGreatDoor
open Go.RowKit Go.Lib Go.Shelf Go.Maps Go.Sort

theorem grown_sortK {α : Type} [Inhabited α] (enc : α → List Value) (k : Nat) {W : World} {g n : Nat} {os : Array Obj} (d : Array α) : W.grownBy (sortWorldK enc k W g 0 n d os) (some g) := by
  unfold sortWorldK putRowK
  refine ⟨rfl, rfl, rfl, by simp, fun j hj hne => ?_⟩
  rw [heap_grow_old _ _ (by simpa using hj)]
  have : g ≠ j := fun e => hne (by rw [e])
  simp [putRow, mapBlock, Sort.ahead, Array.getElem?_modify, this]
theorem rows_sortK {α : Type} [Inhabited α] (enc : α → List Value) (k : Nat) (hk : ∀ x, (enc x).length = k) {W : World} {g n : Nat} {os : Array Obj} (d0 d : Array α) (hH : HoldsK enc k W g 0 d0) (hlt : g < W.heap.size) (hs : d.size = d0.size) (hmax : d.size ≤ maxLen) (cap : Nat) :
    RowsAt enc k (sortWorldK enc k W g 0 n d os) (.slice (some ⟨g, 0, none⟩) d.size cap) d.toList := by
  have h := holdsK_sortWorldK_c enc k W g 0 d0 d n os hH hlt hs
  have hsz : g < (sortWorldK enc k W g 0 n d os).heap.size := Nat.lt_of_lt_of_le hlt (grown_sortK enc k d).size
  have hl : d.toList.length = d.size := by simp
  rw [← hl]
  refine RowsAt.mk (by rw [hl]; exact hmax) hsz (fun j hj i u hu => ?_)
  have hj' : j < d.size := by simpa using hj
  have hi : i < k := by rw [← hk d.toList[j]]; exact (List.getElem?_eq_some_iff.1 hu).1
  have ht : j * k + i < d.size * k := by
    have : (j + 1) * k ≤ d.size * k := Nat.mul_le_mul_right k hj'
    rw [Nat.add_mul] at this
    omega
  have hc := (h (j * k + i) (by rw [size_flatK]; exact ht)).1
  rw [get_flatK enc k d _ ht] at hc
  have e1 : (j * k + i) / k = j := by rw [Nat.mul_comm, Nat.mul_add_div (by omega), Nat.div_eq_of_lt hi]; rfl
  have e2 : (j * k + i) % k = i := by rw [Nat.mul_comm, Nat.mul_add_mod, Nat.mod_eq_of_lt hi]
  rw [e1, e2] at hc
  rw [show 0 + j * k + i = 0 + (j * k + i) by omega]
  refine hc.trans ?_
  have hu' : (enc d[j]!)[i]? = some u := by
    rw [getElem!_pos d j hj']
    simpa using hu
  rw [show (enc d[j]!)[i]! = u by rw [List.getElem!_eq_getElem?_getD, hu']; rfl]
  rfl
theorem perm_of_in {α : Type} [Inhabited α] {d d' : Array α} {n : Nat} (hn : d.size = n) (h : PermIn 0 n d d') : d'.toList.Perm d.toList ∧ d'.size = n := by
  have h3 := h.2.2
  have e : d'.extract 0 n = d' := by rw [← hn, ← h.1]; exact Array.extract_size
  have e2 : d.extract 0 n = d := by rw [← hn]; exact Array.extract_size
  rw [e, e2] at h3
  exact ⟨h3, h.1.trans hn⟩
theorem pairwise_of_in {α : Type} [Inhabited α] {lt : α → α → Bool} {d : Array α} {n : Nat} (hn : d.size = n) (h : SortedIn lt 0 n d) : d.toList.Pairwise (fun a b => lt b a = false) := by
  rw [List.pairwise_iff_getElem]
  intro i j hi hj hij
  have := h i j (Nat.zero_le _) hij (by simpa [hn] using hj)
  simp at hi hj
  rw [getElem!_pos d i hi, getElem!_pos d j hj] at this
  simpa using this

/-- The notes in the order in which they take effect. -/
def InOrder (ds : List Note) : Prop := ds.Pairwise (fun a b => ¬ cmpWhen b.nt a.nt < 0)
theorem sortedNotes_any (B : Nat) (v : Value) (xs : List Note) (w : World) (h : NotesAt w v xs) (hB : B < w.heap.size) (hc : w.cell? ⟨B, 0, none⟩ = some v) (hx : xs.length ≤ 100000) :
    Calls Tryz.prog 61 #[.func (.func 101) #[] #[.pointer (some ⟨B, 0, none⟩)], .func (.func 63) #[] #[]] w fun e w' =>
      ∃ u ds, e = .returned u ∧ RowsAt Note.enc 20 w' u ds ∧ ds.Perm xs ∧ InOrder ds ∧ (∀ k, u.ownBlock = some k → w.heap.size ≤ k) ∧ Below w.heap.size w w' := by
  have hall : ∀ x ∈ xs, x.nt.enc.toArray.all (·.oneCell') = true := fun x hx => note_one (h.each x hx)
  obtain ⟨ys, hys⟩ : ∃ ys : List SNote, ys.map (·.1) = xs := ⟨xs.attachWith (fun x => x.nt.enc.toArray.all (·.oneCell') = true) hall, by simp⟩
  subst hys
  cases ys with
  | nil =>
    refine (sorted_none B v w h hB hc).mono ?_
    rintro e w' ⟨rfl, hb⟩
    exact ⟨_, [], rfl, RowsAt.nil _ _, List.Perm.refl _, List.Pairwise.nil, fun k hk => by simp [Value.ownBlock] at hk, hb⟩
  | cons y0 ys =>
    refine (sorted_any B v y0 ys w h hB hc (by simpa using hx)).mono ?_
    rintro e w' ⟨g, cap, W1, d', n, os, rfl, hb, hg, hH, hp, hs, rfl⟩
    have hsz : ((y0 :: ys).toArray).size = (y0 :: ys).length := by simp
    obtain ⟨p1, p2⟩ := perm_of_in hsz hp
    have hlt : g < W1.heap.size := by
      have := (hH 0 (by rw [size_flatK]; simp)).1
      exact World.block_lt_of_cell? _ _ this
    have hrow := rows_sortK SNote.enc 20 (fun _ => rfl) (n := n) (os := os) (y0 :: ys).toArray d' hH hlt (by rw [p2, hsz]) (by rw [p2]; unfold maxLen; simp at hx ⊢; omega) cap
    refine ⟨_, d'.toList.map (·.1), rfl, ?_, ?_, ?_, ?_, hb.grown (grown_sortK SNote.enc 20 d') hb.size (fun k e => by cases e; exact hg)⟩
    · obtain ⟨A, c, e1, e2, e3⟩ := hrow
      refine ⟨A, c, ?_, by simpa using e2, fun j hj => ?_⟩
      · rw [List.length_map, ← e1, p2]
      · have hj' : j < d'.toList.length := by simpa using hj
        obtain ⟨b, o, q1, q2, q3⟩ := e3 j hj'
        exact ⟨b, o, q1, q2, fun i u hu => q3 i u (by simpa using hu)⟩
    · have := p1.map (·.1)
      simpa using this
    · have := pairwise_of_in p2 hs
      unfold InOrder
      rw [List.pairwise_map]
      refine this.imp (fun {a b} hab => ?_)
      simpa [ltOf] using hab
    · intro k hk
      have : g = k := by simpa [Value.ownBlock] using hk
      omega
end Go.Proofs.YtlamogpdkmbeoaaGreatDoor
end PartSeqG
