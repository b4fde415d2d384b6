/- The texts ScanA, BitP, ScanB, ScanC, JoinP in one. -/
import Derived.Test.YtlamogpdkmbeoaaGreatDoorZaFr
import Derived.Test.YtlamogpdkmbeoaaGreatDoorZaSeq
import Derived.RangeFuncBox
import Derived.Laws.Bits64b
import Derived.IntWalk
import Derived.Test.YtlamogpdkmbeoaaGreatDoorZaNote
import Derived.Test.YtlamogpdkmbeoaaGreatDoorZaLed
import Derived.Sort.QuietIn
import Derived.Test.YtlamogpdkmbeoaaGreatDoorZaJoin
section PartScanA
/- A loop over an iterator whose elements are known in the world in which they come. -/
set_option linter.unusedVariables false
set_option linter.unusedSimpArgs false
set_option maxRecDepth 100000
namespace Go.Proofs.YtlamogpdkmbeoaaGreatDoor
open Go.RowKit Go.Lib Go.Shelf

/-- The iterator's contract: E says of an element, in the world in which it comes, what is known of it; Kp: what the iterator reads between the rounds. -/
def SeqE {α : Type} (F : Fence) (n : Nat) (P : Program) (g : Nat) (lb : Array Value) (encs : α → Array Value) (Kp : World → Prop) (E : α → World → Prop) (S : List α → Prop) (N : Nat) : Prop :=
  ∀ (l : Nat) (J : List α → World → Prop) (W : World), AbidesFrom W.heap.size J → (∀ s W1, J s W1 → Kp W1) →
    (∀ pre x W1, E x W1 → J pre W1 → pre.length < N → YieldAt F (n - 1) P l (encs x) W1 fun e W' => e = .returned (.bool true) ∧ J (pre ++ [x]) W') →
    J [] W → CallsIn F n P g (#[.func (.yield l) #[] #[]] ++ lb) W fun e W' => (∃ v, e = .returned v) ∧ ∃ xs, S xs ∧ J xs W'

section
variable {F : Fence} {n : Nat} {P : Program}
theorem rangeFunc_e {α : Type} {g : Operand} {ps : Array Tmp} {assign body : Code} {Q : Exit → Act → World → Prop} {a : Act} {w : World}
    (hro : F.round = none) (h1 : 1 ≤ n) {gf : Nat} {lb : Array Value} (hg : a.eval g = .func (.func gf) #[] lb) (hFg : F.fn gf) (eg : ∀ args w, (callFunc gf args).run P w = .ok (.enter gf args) w)
    {encs : α → Array Value} {Kp : World → Prop} {E : α → World → Prop} {S : List α → Prop} {N : Nat} (hseq : SeqE F (n - 1) P gf lb encs Kp E S N) (hps : ∀ x, (encs x).size = ps.size)
    (I : List α → World → Prop) (hI : OwnFrom w.heap.size I) (hIB : ∀ s W, I s W → Kp W) (hE : OwnFrom w.heap.size E) (h0 : I [] w) (a₁ : α → Act)
    (hassign : ∀ (l : Nat) (x : α) (W : World) (K : Act → World → Prop), K (a₁ x) W →
      assign.wpIn (F.inRound l) (n - 1 - 1) P (Exit.then K (fun _ _ _ => False)) { tmps := (ps.zip (encs x)).foldl (fun t (p, v) => t.setIfInBounds p v) a.tmps, defers := [] } W)
    (hbody : ∀ (l : Nat) (pre : List α) (x : α) (W : World), E x W → I pre W → pre.length < N → body.wpIn (F.inRound l) (n - 1 - 1) P (ownPostK (fun _ _ => True) I (fun _ _ _ => False) (pre ++ [x]) W) (a₁ x) W)
    (hdone : ∀ (D : Nat) (xs : List α) (W : World), w.heap.size ≤ D → S xs → I xs W → W.heap[D]? = some (.deferred (some [])) → Q .normal { a with defers := { target := .collected D, args := #[] } :: a.defers } W) :
    (Code.rangeFunc g ps assign body).wpIn F n P Q a w := by
  refine wpIn_rangeFunc ?_
  intro fn hfn
  rw [hro]
  obtain ⟨rec, hrec⟩ : ∃ rec : LoopState → Option Code → Loop, rec = fun st pe => { state := st, pending := pe, fn, tmps := a.tmps, params := ps, assign, body, defers := w.heap.size } := ⟨_, rfl⟩
  obtain ⟨W1, hW1⟩ : ∃ W1, (w.alloc (.deferred (some []))).alloc (.loop (rec .ready none)) = W1 := ⟨_, rfl⟩
  have hL1 : W1.heap[w.heap.size + 1]? = some (.loop (rec .ready none)) := by
    rw [← hW1]; have := World.alloc_heap_new (w.alloc (.deferred (some []))) (.loop (rec .ready none)); rwa [World.size_alloc] at this
  have hK1 : W1.heap[w.heap.size]? = some (.deferred (some [])) := by
    rw [← hW1]; exact (Below.heap_alloc _ _ _ (by simp)).trans (World.alloc_heap_new w _)
  have hI1 : I [] W1 := by rw [← hW1]; exact hI.alloc _ (hI.alloc _ h0)
  have hb1 : Below w.heap.size w W1 := by
    rw [← hW1]; exact (((Below.refl _ w).alloc (Nat.le_refl _) _).alloc (by simp) _)
  refine ⟨w.heap.size + 1, [{ target := .collected w.heap.size, args := #[] }], W1, { target := .fn (.func gf) lb, args := #[.func (.yield (w.heap.size + 1)) #[] #[]] }, W1, gf,
    #[.func (.yield (w.heap.size + 1)) #[] #[]] ++ lb, W1, ?_, ?_, ?_, ?_, fun _ => h1, ?_⟩
  · rw [← hW1, hrec]; exact run_enterLoop_outer _ _ _ _ _
  · simp only [resolve, hg]
    simp [go_sem]
  · intro f' hf'; simp [Target.leads] at hf'; subst hf'; exact hFg
  · simp [invoke, go_sem, eg]
  · have hnw : ∀ {A B : World} {row : Option Nat}, (∀ r, row = some r → W1.heap.size ≤ r ∧ ∃ o : Obj, A.heap[r]? = some o ∧ o.isWalk = true) → (∀ r, row = some r → w.heap.size ≤ r ∧ ∃ o : Obj, A.heap[r]? = some o ∧ o.isCells = false) :=
      fun hr r e => by obtain ⟨hB, o, ho, hw⟩ := hr r e; exact ⟨by rw [← hW1] at hB; simp at hB; omega, o, ho, Obj.not_cells_of_walk hw⟩
    refine (hseq (w.heap.size + 1)
      (fun pre W => I pre W ∧ W.heap[w.heap.size + 1]? = some (.loop (rec .ready none)) ∧ W.heap[w.heap.size]? = some (.deferred (some [])))
      W1
      (fun s A B row hs hg' hr => ⟨hI s A B row hs.1 hg' (hnw (B := B) hr), (grownBy_keeps hg' (fun r e => (hr r e).2) hs.2.1 rfl).trans hs.2.1, (grownBy_keeps hg' (fun r e => (hr r e).2) hs.2.2 rfl).trans hs.2.2⟩)
      (fun s W hs => hIB s W hs.1)
      ?_ ⟨hI1, hL1, hK1⟩).mono ?_
    · rintro pre x W hEx ⟨hi, hl, hk⟩ hlen
      have hlt : w.heap.size + 1 < W.heap.size := (Array.getElem?_eq_some_iff.1 hl).1
      have hy := run_yield (P := P) (args := encs x) hl (by rw [hrec]; exact hps x)
      rw [hrec] at hy
      refine ⟨fn, _, assign, body, hy, roundIn_of_wpIn hfn (hassign _ x W _ ⟨_, run_beginRound hl (by rw [hrec]), ?_⟩)⟩
      have hl2 : (W.putObj (w.heap.size + 1) (.loop { rec .ready none with state := .busy })).heap[w.heap.size + 1]? = some (.loop { rec .ready none with state := .busy }) := World.putObj_heap_same hlt
      have hk2 : (W.putObj (w.heap.size + 1) (.loop { rec .ready none with state := .busy })).heap[w.heap.size]? = some (.deferred (some [])) := (World.putObj_heap_other (by omega)).trans hk
      refine wpIn_mono (hbody _ pre x _ (hE.putObj _ hEx (by omega) hl rfl) (hI.putObj _ hi (by omega) hl rfl) hlen) ?_
      have fin : ∀ (jump : Option Code) (W3 : World), KeepsOthers (W.putObj (w.heap.size + 1) (.loop { rec .ready none with state := .busy })) W3 →
          (Instr.endRound (w.heap.size + 1) jump).run P W3 = .ok (.bool jump.isNone) (W3.putObj (w.heap.size + 1) (.loop (rec (if jump.isNone then .ready else .done) jump))) ∧
          W3.heap[w.heap.size + 1]? = some (.loop { rec .ready none with state := .busy }) ∧
          (W3.putObj (w.heap.size + 1) (.loop (rec (if jump.isNone then .ready else .done) jump))).heap[w.heap.size + 1]? = some (.loop (rec (if jump.isNone then .ready else .done) jump)) ∧
          (W3.putObj (w.heap.size + 1) (.loop (rec (if jump.isNone then .ready else .done) jump))).heap[w.heap.size]? = some (.deferred (some [])) := fun jump W3 hk3 => by
        have hl3 := hk3.same _ _ hl2 rfl
        have := run_endRound (P := P) jump hl3
        rw [hrec] at this ⊢
        exact ⟨this, by rw [hrec] at hl3; exact hl3, World.putObj_heap_same (Array.getElem?_eq_some_iff.1 hl3).1, (World.putObj_heap_other (by omega)).trans (hk3.same _ _ hk2 rfl)⟩
      rintro e a3 W3 hp
      cases e with
      | normal =>
        obtain ⟨hk3, hkp3, hi3⟩ := hp
        obtain ⟨hr, hl3, hl4, hk4⟩ := fin none W3 hk3
        exact ⟨_, _, hr, ⟨rfl, ⟨hI.putObj _ hi3 (by omega) hl3 rfl, hl4, hk4⟩⟩⟩
      | ret => exact hp.2.elim
      | exit id => exact hp.2.elim
      | goto t => exact hp.2.elim
      | panic ch => exact hp.elim
      | outgrown => exact hp.elim
    · rintro e W2 ⟨⟨v, rfl⟩, ⟨xs, hS, hi, hl, hk⟩⟩
      exact ⟨none, _, by have := run_endLoop (P := P) hl (by rw [hrec]; simp); rw [hrec] at this; exact this, hdone _ xs _ (Nat.le_refl _) hS (hI.putObj _ hi (by omega) hl rfl) ((World.putObj_heap_other (by omega)).trans hk)⟩
end

/-- A part of bytes. -/
theorem bytes_part {w : World} {g o c c' k : Nat} {b : List Int} (h : BytesAt w (.slice (some ⟨g, o, none⟩) b.length c) b) (i : Nat) (hk : i + k ≤ b.length) : BytesAt w (.slice (some ⟨g, o + i, none⟩) k c') ((b.drop i).take k) := by
  have hm := h.max
  have hl : ((b.drop i).take k).length = k := by rw [List.length_take, List.length_drop]; omega
  refine ⟨some ⟨g, o + i, none⟩, c', by rw [hl], by rw [hl]; omega, fun j hj => ?_⟩
  rw [hl] at hj
  obtain ⟨A, c2, e, _, hc⟩ := h
  obtain ⟨b', o', e1, hlt, hcell⟩ := hc (i + j) (by omega)
  injection e with e _ _
  rw [e1] at e
  injection e with e
  injection e with e2 e3
  subst e2; subst e3
  refine ⟨g, o + i, rfl, hlt, fun q u hu => ?_⟩
  have := hcell q u (by rw [← hu]; simp [List.getElem_take, List.getElem_drop])
  rw [show o + i + j * 1 + q = o + (i + j) * 1 + q by omega]
  exact this
theorem AreBytes.part {b : List Int} (h : AreBytes b) (i k : Nat) : AreBytes ((b.drop i).take k) := fun x hx => h x (List.mem_of_mem_drop (List.mem_of_mem_take hx))
end Go.Proofs.YtlamogpdkmbeoaaGreatDoor
end PartScanA

section PartBitP
/- Plain facts: bytes put together to a number; a byte xor a mask; texts out of bytes. -/
set_option linter.unusedVariables false
set_option linter.unusedSimpArgs false
namespace Go.Proofs.YtlamogpdkmbeoaaGreatDoor
open Go

theorem ofInt_nat64 (a : Nat) (ha : a < 18446744073709551616) : (BitVec.ofInt 64 (a : Int)).toNat = a := by
  rw [BitVec.ofInt_natCast, BitVec.toNat_ofNat]; exact Nat.mod_eq_of_lt (by omega)
theorem ofInt_nat8 (a : Nat) (ha : a < 256) : (BitVec.ofInt 8 (a : Int)).toNat = a := by
  rw [BitVec.ofInt_natCast, BitVec.toNat_ofNat]; exact Nat.mod_eq_of_lt (by omega)
theorem bits_or_i64_nat (a b : Nat) (ha : a < 4294967296) (hb : b < 4294967296) : bits .or .i64 (a : Int) (b : Int) = ((a ||| b : Nat) : Int) := by
  have hx : a ||| b < 2 ^ 32 := Nat.or_lt_two_pow (by omega) (by omega)
  show IntKind.i64.wrap ((BitVec.ofInt 64 (a : Int) ||| BitVec.ofInt 64 (b : Int)).toNat : Int) = _
  rw [BitVec.toNat_or, ofInt_nat64 a (by omega), ofInt_nat64 b (by omega), IntWalk.i64_in _ (by omega)]
theorem or_sum8 (a b : Nat) (ha : a < 256) : a ||| b * 256 = a + b * 256 := by
  have := Nat.two_pow_add_eq_or_of_lt (i := 8) (b := a) (by omega) b
  rw [Nat.or_comm, Nat.mul_comm b 256]
  rw [show (2 : Nat) ^ 8 = 256 from rfl] at this
  omega
theorem or_sum16 (a b : Nat) (ha : a < 65536) : a ||| b * 65536 = a + b * 65536 := by
  have := Nat.two_pow_add_eq_or_of_lt (i := 16) (b := a) (by omega) b
  rw [Nat.or_comm, Nat.mul_comm b 65536]
  rw [show (2 : Nat) ^ 16 = 65536 from rfl] at this
  omega
/-- Three bytes, the lowest first, are a number. -/
theorem or3 {a b c : Int} (ha : 0 ≤ a ∧ a < 256) (hb : 0 ≤ b ∧ b < 256) (hc : 0 ≤ c ∧ c < 256) : bits .or .i64 (bits .or .i64 a (b * 256)) (c * 65536) = a + 256 * b + 65536 * c := by
  obtain ⟨a, rfl⟩ := Int.eq_ofNat_of_zero_le ha.1
  obtain ⟨b, rfl⟩ := Int.eq_ofNat_of_zero_le hb.1
  obtain ⟨c, rfl⟩ := Int.eq_ofNat_of_zero_le hc.1
  have h1 : ((b : Int) * 256) = ((b * 256 : Nat) : Int) := by omega
  have h2 : ((c : Int) * 65536) = ((c * 65536 : Nat) : Int) := by omega
  rw [h1, h2, bits_or_i64_nat a (b * 256) (by omega) (by omega), or_sum8 a b (by omega), bits_or_i64_nat _ _ (by omega) (by omega), or_sum16 _ c (by omega)]
  omega
/-- A byte xor a mask that is not 0 is another byte. -/
theorem xor8 {x m : Int} (hx : 0 ≤ x ∧ x < 256) (hm : 0 ≤ m ∧ m < 256) (h0 : m ≠ 0) : (0 ≤ bits .xor .u8 x m ∧ bits .xor .u8 x m < 256) ∧ bits .xor .u8 x m ≠ x := by
  obtain ⟨x, rfl⟩ := Int.eq_ofNat_of_zero_le hx.1
  obtain ⟨m, rfl⟩ := Int.eq_ofNat_of_zero_le hm.1
  have hl : x ^^^ m < 2 ^ 8 := Nat.xor_lt_two_pow (by omega) (by omega)
  have e : bits .xor .u8 (x : Int) (m : Int) = ((x ^^^ m : Nat) : Int) := by
    show IntKind.u8.wrap ((BitVec.ofInt 8 (x : Int) ^^^ BitVec.ofInt 8 (m : Int)).toNat : Int) = _
    rw [BitVec.toNat_xor, ofInt_nat8 x (by omega), ofInt_nat8 m (by omega), IntWalk.u8_in _ (by omega)]
  rw [e]
  refine ⟨⟨by omega, by omega⟩, fun h => h0 ?_⟩
  have h : x ^^^ m = x := by omega
  have : x ^^^ (x ^^^ m) = x ^^^ x := by rw [h]
  rw [← Nat.xor_assoc, Nat.xor_self, Nat.zero_xor] at this
  omega

/-- Where the records of some contents end. -/
def endsOf (l : List (List Int)) (k : Nat) : List Int := (List.range (k + 1)).map fun j => ((taken (l.take j) : Nat) : Int)
theorem endsOf_length (l : List (List Int)) (k : Nat) : (endsOf l k).length = k + 1 := by simp [endsOf]
theorem endsOf_succ (l : List (List Int)) (k : Nat) : endsOf l (k + 1) = endsOf l k ++ [((taken (l.take (k + 1)) : Nat) : Int)] := by
  unfold endsOf; rw [List.range_succ (n := k + 1), List.map_append]; rfl
theorem endsOf_get (l : List (List Int)) (k j : Nat) (h : j < (endsOf l k).length) : (endsOf l k)[j] = ((taken (l.take j) : Nat) : Int) := by
  simp [endsOf]
theorem taken_take_succ {l : List (List Int)} {k : Nat} (h : k < l.length) : taken (l.take (k + 1)) = taken (l.take k) + (l[k].length + 10) := by
  rw [List.take_succ_eq_append_getElem h, taken_append]; simp [taken]
theorem jrn_take_succ {l : List (List Int)} {k : Nat} (h : k < l.length) : jrn (l.take (k + 1)) = jrn (l.take k) ++ fr l[k] := by
  rw [List.take_succ_eq_append_getElem h, jrn_append]; simp [jrn]
theorem taken_le {l : List (List Int)} {i j : Nat} (h : i ≤ j) : taken (l.take i) ≤ taken (l.take j) := by
  have e : l.take j = l.take i ++ (l.take j).drop i := by
    conv => lhs; rw [← List.take_append_drop i (l.take j)]
    rw [List.take_take, Nat.min_eq_left h]
  rw [e, taken_append]
  omega
theorem taken_bound (l : List (List Int)) (m : Nat) (h : ∀ x ∈ l, x.length ≤ m) : taken l ≤ l.length * (m + 10) := by
  induction l with
  | nil => simp [taken]
  | cons x l ih =>
    have h1 := ih (fun y hy => h y (List.mem_cons_of_mem _ hy))
    have h2 := h x List.mem_cons_self
    simp only [taken, List.length_cons, Nat.add_mul]
    omega
theorem jrn_bytes {l : List (List Int)} (h : ∀ x ∈ l, AreBytes x ∧ x.length ≤ 60000) : AreBytes (jrn l) := by
  induction l with
  | nil => intro x hx; simp [jrn] at hx
  | cons y l ih =>
    intro x hx
    simp only [jrn, List.mem_append] at hx
    rcases hx with hx | hx
    · have hy := h y List.mem_cons_self
      have hc := chk_bd y
      unfold fr hd3 low4 at hx
      simp only [List.mem_append, List.map_cons, List.map_nil, List.mem_cons, List.not_mem_nil, or_false] at hx
      rcases hx with ((((rfl | rfl | rfl) | (rfl | rfl | rfl)) | hx) | (rfl | rfl | rfl | rfl))
      all_goals first | omega | exact hy.1 x hx
    · exact ih (fun z hz => h z (List.mem_cons_of_mem _ hz)) x hx

/-- A change of one byte leaves bytes. -/
theorem set_bytes {b : List Int} (h : AreBytes b) (i : Nat) {x : Int} (hx : 0 ≤ x ∧ x < 256) : AreBytes (b.set i x) := fun y hy => by
  rcases List.mem_or_eq_of_mem_set hy with h1 | h1
  · exact h y h1
  · subst h1; exact hx
end Go.Proofs.YtlamogpdkmbeoaaGreatDoor
end PartBitP

section PartScanB
/- 'slices.Equal' at bytes; 'record': the record with which bytes begin. -/
set_option linter.unusedVariables false
set_option linter.unusedSimpArgs false
set_option maxRecDepth 100000
namespace Go.Proofs.YtlamogpdkmbeoaaGreatDoor
open List renaming getElem_toArray → zq1, getElem_cons_succ → zq2, getElem_cons_zero → zq3, setIfInBounds_toArray → zq4, set_cons_zero → zq5, set_cons_succ → zq6
open Go.RowKit Go.Lib Go.Shelf

theorem take_succ_eq {xs ys : List Int} {k : Nat} (h1 : k < xs.length) (h2 : k < ys.length) (ht : xs.take k = ys.take k) (h : xs[k] = ys[k]) : xs.take (k + 1) = ys.take (k + 1) := by
  rw [List.take_succ_eq_append_getElem h1, List.take_succ_eq_append_getElem h2, ht, h]
set_option maxHeartbeats 2000000 in
theorem equalBytes_any (v1 v2 : Value) (xs ys : List Int) (w : World) (h1 : BytesAt w v1 xs) (h2 : BytesAt w v2 ys) :
    Calls Tryz.prog 117 #[v1, v2] w fun e w' => e = .returned (.bool (decide (xs = ys))) ∧ Below w.heap.size w w' := by
  have hm := h1.max
  unfold maxLen at hm
  have hm2 := h2.max
  unfold maxLen at hm2
  by_cases hn : xs.length = ys.length
  · rcases h1.place with ⟨rfl, A, c, rfl⟩ | ⟨g, o, c, rfl, h0, _, hbb, hcell⟩
    · have : ys = [] := by cases ys with | nil => rfl | cons => simp at hn
      subst this
      obtain ⟨A2, c2, rfl⟩ := h2.len
      go_enter Tryz.func117, Tryz.ntmps117
      go_wp2
      refine wp_loop_rounds 1 ?_
      rw [rounds_succ]
      go_wp2
      go_ret
      exact ⟨rfl, Below.refl _ _⟩
    · rcases h2.place with ⟨rfl, _⟩ | ⟨g2, o2, c2, rfl, _, _, hbb2, hcell2⟩
      · exact absurd hn (by simp only [List.length_nil]; omega)
      · have HC1 := Lib.hid hcell
        have HC2 := Lib.hid hcell2
        have HN := Lib.hid hn
        rw [← hn]
        obtain ⟨n, hnn⟩ : ∃ n, n = xs.length := ⟨_, rfl⟩
        have HNN := Lib.hid hnn
        rw [← hnn] at hm ⊢
        clear hcell hcell2 hn h1 h2 hm2 h0 hnn
        go_enter Tryz.func117, Tryz.ntmps117
        go_upto_region 4 with fail
        go_loopw [13] (fun s13 wr => ∃ k : Nat, k ≤ n ∧ s13 = .int .i64 k ∧ Hid (xs.take k = ys.take k) ∧ Below w.heap.size w wr) (fun s13 _ => n - (intOf s13).toNat)
        case atStart => exact ⟨0, Nat.zero_le _, rfl, Lib.hid rfl, Below.refl _ _⟩
        case round =>
          obtain ⟨k, hk, rfl, htk, hb⟩ := hrel
          by_cases hlt : k < n
          · have hk1 : Hid (k < xs.length) := Lib.hid (by rw [← HNN.out]; exact hlt)
            have hk2 : Hid (k < ys.length) := Lib.hid (by rw [← HN.out, ← HNN.out]; exact hlt)
            obtain ⟨x, hx⟩ : ∃ x, x = xs[k]'hk1.out := ⟨_, rfl⟩
            obtain ⟨y, hy⟩ : ∃ y, y = ys[k]'hk2.out := ⟨_, rfl⟩
            have cx : wr.cell? ⟨g, o + k, none⟩ = some (.int .u8 x) := (hb.cell (p := ⟨g, o + k, none⟩) hbb).trans (by have := HC1.out k hk1.out 0 _ rfl; rw [Nat.mul_one] at this; rw [hx]; exact this)
            have cy : wr.cell? ⟨g2, o2 + k, none⟩ = some (.int .u8 y) := (hb.cell (p := ⟨g2, o2 + k, none⟩) hbb2).trans (by have := HC2.out k hk2.out 0 _ rfl; rw [Nat.mul_one] at this; rw [hy]; exact this)
            have HX := Lib.hid hx
            have HY := Lib.hid hy
            have HB := Lib.hid hb
            clear hx hy hb
            by_cases hxy : x = y
            · have ht2 : Hid (xs.take (k + 1) = ys.take (k + 1)) := Lib.hid (take_succ_eq hk1.out hk2.out htk.out (by rw [← HX.out, ← HY.out, hxy]))
              subst hxy
              go_upto_region 6 with fail
              go_quiet (fail)
              go_wp2
              exact ⟨⟨k + 1, by omega, by simp, ht2, below_drewN' HB.out _⟩, by simp [intOf]; omega⟩
            · have hne : Hid (xs ≠ ys) := Lib.hid (fun e => by
                apply hxy
                rw [HX.out, HY.out]
                subst e
                rfl)
              go_upto_region 6 with fail
              go_quiet (fail)
              go_wp2
              go_ret
              exact ⟨by rw [decide_eq_false hne.out]; rfl, below_drewN' HB.out _⟩
          · have hkn : Hid (xs = ys) := Lib.hid (by
              have e1 : k = xs.length := by have := HNN.out; omega
              have := htk.out
              rw [e1, List.take_length, HN.out, List.take_length] at this
              exact this)
            go_wp2
            go_ret
            exact ⟨by rw [decide_eq_true hkn.out]; rfl, hb⟩
  · obtain ⟨A, c, rfl⟩ := h1.len
    obtain ⟨A2, c2, rfl⟩ := h2.len
    have hne : Hid (xs ≠ ys) := Lib.hid (fun e => hn (by rw [e]))
    have hn' : ¬ (xs.length : Int) = ys.length := by omega
    clear h1 h2
    go_enter Tryz.func117, Tryz.ntmps117
    go_wp2
    go_ret
    exact ⟨by rw [decide_eq_false hne.out]; rfl, Below.refl _ _⟩

/-- A slice is no longer than its capacity. -/
def CapOk (v : Value) : Prop := ∀ A n c, v = .slice A n c → n ≤ c
theorem told_nat {b : List Int} {x0 x1 x2 : Int} (h : 10 ≤ b.length) (e0 : x0 = b[0]) (e1 : x1 = b[1]) (e2 : x2 = b[2]) (hb : AreBytes b) : x0 + 256 * x1 + 65536 * x2 = ((told b : Nat) : Int) := by
  have h0 := hb _ (List.getElem_mem (show 0 < b.length by omega))
  have h1 := hb _ (List.getElem_mem (show 1 < b.length by omega))
  have h2 := hb _ (List.getElem_mem (show 2 < b.length by omega))
  unfold told
  rw [List.getD_eq_getElem?_getD, List.getD_eq_getElem?_getD, List.getD_eq_getElem?_getD, List.getElem?_eq_getElem (by omega), List.getElem?_eq_getElem (by omega), List.getElem?_eq_getElem (by omega)]
  simp only [Option.getD_some]
  subst e0; subst e1; subst e2
  omega
theorem told_lt {b : List Int} (h : 10 ≤ b.length) (hb : AreBytes b) : told b < 16777216 := by
  have h0 := hb _ (List.getElem_mem (show 0 < b.length by omega))
  have h1 := hb _ (List.getElem_mem (show 1 < b.length by omega))
  have h2 := hb _ (List.getElem_mem (show 2 < b.length by omega))
  have := told_nat h rfl rfl rfl hb
  omega
theorem rec1_eq {b : List Int} (h : 10 ≤ b.length) (h1 : told b ≤ 60000) (h2 : told b + 10 ≤ b.length) : rec1 b = if fr ((b.drop 6).take (told b)) = b.take (told b + 10) then some ((b.drop 6).take (told b)) else none := by
  unfold rec1
  rw [if_neg (by omega), if_neg (by omega)]
theorem rec1_no {b : List Int} (h : ¬ (told b ≤ 60000 ∧ told b + 10 ≤ b.length)) : rec1 b = none := by
  unfold rec1
  by_cases h0 : b.length < 10
  · rw [if_pos h0]
  · rw [if_neg h0, if_pos (by omega)]
/-- What 'record' hands back. -/
def RecOut (b : List Int) (e : Ending) (w' : World) : Prop :=
  (∃ x A c, rec1 b = some x ∧ e = .returned (.tuple #[.slice A x.length c, .bool true]) ∧ BytesAt w' (.slice A x.length c) x) ∨ (rec1 b = none ∧ e = .returned (.tuple #[.slice none 0 0, .bool false]))
set_option maxHeartbeats 4000000 in
theorem record_any (b : List Int) (v : Value) (w : World) (h : BytesAt w v b) (hb : AreBytes b) (hcap : CapOk v) :
    Calls Tryz.prog 76 #[v] w fun e w' => RecOut b e w' ∧ Below w.heap.size w w' := by
  have hm := h.max
  unfold maxLen at hm
  by_cases h10 : b.length < 10
  · have HS := Lib.hid (rec1_short h10)
    obtain ⟨A, c, rfl⟩ := h.len
    have hlt : (b.length : Int) < 10 := by omega
    clear h hb hcap
    go_enter Tryz.func76, Tryz.ntmps76
    go_wp2
    go_ret2
    exact ⟨.inr ⟨HS.out, rfl⟩, Below.refl _ _⟩
  · have hnlt : ¬ (b.length : Int) < 10 := by omega
    rcases h.place with ⟨rfl, _⟩ | ⟨g, o, c, rfl, h0, _, hbb, hcell⟩
    · simp at h10
    have hc := hcap _ _ _ rfl
    obtain ⟨x0, e0⟩ : ∃ x, x = b[0] := ⟨_, rfl⟩
    obtain ⟨x1, e1⟩ : ∃ x, x = b[1] := ⟨_, rfl⟩
    obtain ⟨x2, e2⟩ : ∃ x, x = b[2] := ⟨_, rfl⟩
    have c0 : w.cell? ⟨g, o, none⟩ = some (.int .u8 x0) := by have := hcell 0 (by omega) 0 _ rfl; rw [e0]; exact this
    have c1 : w.cell? ⟨g, o + 1, none⟩ = some (.int .u8 x1) := by have := hcell 1 (by omega) 0 _ rfl; rw [e1]; exact this
    have c2 : w.cell? ⟨g, o + 2, none⟩ = some (.int .u8 x2) := by have := hcell 2 (by omega) 0 _ rfl; rw [e2]; exact this
    have b0 : 0 ≤ x0 ∧ x0 < 256 := by rw [e0]; exact hb _ (List.getElem_mem _)
    have b1 : 0 ≤ x1 ∧ x1 < 256 := by rw [e1]; exact hb _ (List.getElem_mem _)
    have b2 : 0 ≤ x2 ∧ x2 < 256 := by rw [e2]; exact hb _ (List.getElem_mem _)
    have htold := told_nat (by omega) e0 e1 e2 hb
    have hor := or3 b0 b1 b2
    rw [htold] at hor
    have hlt16 := told_lt (b := b) (by omega) hb
    have hE := fun h1 h2 => rec1_eq (b := b) (by omega) h1 h2
    have hNo := rec1_no (b := b)
    obtain ⟨n, hn⟩ : ∃ n, n = told b := ⟨_, rfl⟩
    rw [← hn] at hor hlt16 hE hNo
    have HE := Lib.hid hE
    have HNO := Lib.hid hNo
    have H := Lib.hid h
    have HBY := Lib.hid hb
    have HHOR := Lib.hid hor
    clear hE hNo h hb hcap hcell e0 e1 e2 htold hn hor
    go_enter Tryz.func76, Tryz.ntmps76
    go_upto_region 3 with fail
    go_quiet (fail)
    rw [HHOR.out]
    obtain ⟨w1, hw1⟩ : ∃ w1, w.drewN nq = w1 := ⟨_, rfl⟩
    have hb1 : Below w.heap.size w w1 := by rw [← hw1]; exact below_drewN0 _
    rw [hw1]
    have HB1 := Lib.hid hb1
    clear hw1 hb1 c0 c1 c2 b0 b1 b2
    by_cases hA : n ≤ 60000 ∧ n + 10 ≤ b.length
    · obtain ⟨hA1, hA2⟩ := hA
      have f1 : ¬ (60000 : Int) < n := by omega
      have d1 : decide ((n : Int) > 60000) = false := decide_eq_false (by omega)
      have d1' : decide ((60000 : Int) < n) = false := decide_eq_false (by omega)
      have d2 : decide ((b.length : Int) < n + 10) = false := decide_eq_false (by omega)
      have hc6 : ¬ c = 6 := by omega
      have hcn : n + 10 ≤ c := by omega
      have hbw := H.out.later HB1.out.drew
      have hfr := fun c' => framed_any ((b.drop 6).take n) (.slice (some ⟨g, o + 6, none⟩) n c') w1.drew (bytes_part hbw 6 (by omega)) (HBY.out.part 6 n) (by rw [List.length_take]; omega)
      have heq := fun (u1 : Value) (w2 : World) c' (ho : OwnU w2 w1.drew.heap.size u1 (fr ((b.drop 6).take n))) (hb2 : Below w1.drew.heap.size w1.drew w2) =>
        equalBytes_any u1 (.slice (some ⟨g, o, none⟩) (n + 10) c') _ (b.take (n + 10)) w2 ho.bytes (by have := bytes_part (hbw.later hb2) (c' := c') (k := n + 10) 0 (by omega); rwa [Nat.add_zero, List.drop_zero] at this)
      have HFR := Lib.hid hfr
      have HEQ := Lib.hid heq
      have HE2 := Lib.hid (HE.out hA1 hA2)
      clear hbw hfr heq
      go_upto_region 4 with fail
      refine wp_region_held_drew (S := (fun w' => True)) (by kernel_rfl) ?hS1 (fun hHeld => ?_)
      case hS1 => trivial
      refine tk1 (i := 0) (v := ?v1_1) ?hy1_1 ?_
      case hy1_1 => ((intro w hSw; (try dsimp only at hSw); go_simp) <;> with_reducible rfl)
      (try simp only [Act.put, zq1, zq2, zq3, zq4, zq5, zq6])
      refine tk1 (i := 1) (v := ?v1_2) ?hy1_2 ?_
      case hy1_2 => ((intro w hSw; (try dsimp only at hSw); go_simp) <;> with_reducible rfl)
      (try simp only [Act.put, zq1, zq2, zq3, zq4, zq5, zq6])
      refine tk1 (i := 2) (v := ?v1_3) ?hy1_3 ?_
      case hy1_3 => ((intro w hSw; (try dsimp only at hSw); go_simp) <;> with_reducible rfl)
      (try simp only [Act.put, zq1, zq2, zq3, zq4, zq5, zq6])
      refine tk1 (i := 3) (v := ?v1_4) ?hy1_4 ?_
      case hy1_4 => ((intro w hSw; (try dsimp only at hSw); go_simp) <;> with_reducible rfl)
      (try simp only [Act.put, zq1, zq2, zq3, zq4, zq5, zq6])
      refine tk1 (i := 4) (v := ?v1_5) ?hy1_5 ?_
      case hy1_5 => ((intro w hSw; (try dsimp only at hSw); go_simp) <;> with_reducible rfl)
      (try simp only [Act.put, zq1, zq2, zq3, zq4, zq5, zq6])
      refine tk1 (i := 5) (v := ?v1_6) ?hy1_6 ?_
      case hy1_6 => ((intro w hSw; (try dsimp only at hSw); go_simp) <;> with_reducible rfl)
      (try simp only [Act.put, zq1, zq2, zq3, zq4, zq5, zq6])
      refine tk1 (i := 6) (v := ?v1_7) ?hy1_7 ?_
      case hy1_7 => ((intro w hSw; (try dsimp only at hSw); go_simp; (try go_bits)) <;> with_reducible rfl)
      (try simp only [Act.put, zq1, zq2, zq3, zq4, zq5, zq6])
      refine tk1 (i := 7) (v := ?v1_8) ?hy1_8 ?_
      case hy1_8 => ((intro w hSw; (try dsimp only at hSw); go_simp) <;> with_reducible rfl)
      (try simp only [Act.put, zq1, zq2, zq3, zq4, zq5, zq6])
      refine tk1 (i := 8) (v := ?v1_9) ?hy1_9 ?_
      case hy1_9 => ((intro w hSw; (try dsimp only at hSw); go_simp) <;> with_reducible rfl)
      (try simp only [Act.put, zq1, zq2, zq3, zq4, zq5, zq6])
      refine tk1 (i := 9) (v := ?v1_10) ?hy1_10 ?_
      case hy1_10 => ((intro w hSw; (try dsimp only at hSw); go_simp) <;> with_reducible rfl)
      (try simp only [Act.put, zq1, zq2, zq3, zq4, zq5, zq6])
      refine tk1 (i := 10) (v := ?v1_11) ?hy1_11 ?_
      case hy1_11 => ((intro w hSw; (try dsimp only at hSw); go_simp) <;> with_reducible rfl)
      (try simp only [Act.put, zq1, zq2, zq3, zq4, zq5, zq6])
      refine tk1 (i := 11) (v := ?v1_12) ?hy1_12 ?_
      case hy1_12 => ((intro w hSw; (try dsimp only at hSw); go_simp) <;> with_reducible rfl)
      (try simp only [Act.put, zq1, zq2, zq3, zq4, zq5, zq6])
      refine tk1 (i := 12) (v := ?v1_13) ?hy1_13 ?_
      case hy1_13 => ((intro w hSw; (try dsimp only at hSw); go_simp; (try go_bits)) <;> with_reducible rfl)
      (try simp only [Act.put, zq1, zq2, zq3, zq4, zq5, zq6])
      refine tk1 (i := 13) (v := ?v1_14) ?hy1_14 ?_
      case hy1_14 => ((intro w hSw; (try dsimp only at hSw); go_simp; (try go_bits); rw [if_pos (by omega), if_pos (by omega), show 6 + n - 6 = n by omega]) <;> with_reducible rfl)
      (try simp only [Act.put, zq1, zq2, zq3, zq4, zq5, zq6])
      refine tk1 (i := 15) (v := ?v1_15) ?hy1_15 ?_
      case hy1_15 => ((intro w hSw; (try dsimp only at hSw); go_simp) <;> with_reducible rfl)
      (try simp only [Act.put, zq1, zq2, zq3, zq4, zq5, zq6])
      refine tk1 (i := 16) (v := ?v1_16) ?hy1_16 ?_
      case hy1_16 => ((intro w hSw; (try dsimp only at hSw); go_simp) <;> with_reducible rfl)
      (try simp only [Act.put, zq1, zq2, zq3, zq4, zq5, zq6])
      refine tk1 (i := 17) (v := ?v1_17) ?hy1_17 ?_
      case hy1_17 => ((intro w hSw; (try dsimp only at hSw); go_simp; (try go_bits)) <;> with_reducible rfl)
      (try simp only [Act.put, zq1, zq2, zq3, zq4, zq5, zq6])
      refine tk1 (i := 18) (v := ?v1_18) ?hy1_18 ?_
      case hy1_18 => ((intro w hSw; (try dsimp only at hSw); go_simp; (try go_bits); (try rw [if_pos (by omega)])) <;> with_reducible rfl)
      (try simp only [Act.put, zq1, zq2, zq3, zq4, zq5, zq6])
      refine wpAnyH_ready (rs := [14]) (by kernel_rfl) (by simp) ?_
      refine AllReadyH.cons rfl (fun K hK => ?_) AllReadyH.nil
      go_simp
      (go_at_call 37; ((with_reducible refine (HFR.out _).mono ?_); rintro e w2 ⟨u1, rfl, ho2, hb2⟩); obtain ⟨A1, m1, k1, rfl⟩ := own_slice ho2)
      go_wp2_with fail
      refine hK.out _ _ ?hS1_19 (fun hHeld => ?_)
      case hS1_19 => ((try dsimp only); (first | done | trivial))
      clear hK K
      (try simp only [Act.put, zq1, zq2, zq3, zq4, zq5, zq6])
      refine wpAnyH_ready (rs := [19]) (by kernel_rfl) (by simp) ?_
      refine AllReadyH.cons rfl (fun K hK => ?_) AllReadyH.nil
      go_simp
      (go_at_call 117; ((with_reducible refine (HEQ.out _ w2 _ ho2 hb2).mono ?_); rintro e w3 ⟨rfl, hb3⟩))
      go_wp2_with fail
      refine hK.out _ _ ?hS1_20 (fun hHeld => ?_)
      case hS1_20 => ((try dsimp only); (first | done | trivial))
      clear hK K
      (try simp only [Act.put, zq1, zq2, zq3, zq4, zq5, zq6])
      refine tk1 (i := 20) (v := ?v1_21) ?hy1_21 ?_
      case hy1_21 => ((intro w hSw; (try dsimp only at hSw); go_simp) <;> with_reducible rfl)
      (try simp only [Act.put, zq1, zq2, zq3, zq4, zq5, zq6])
      refine tk1 (i := 21) (v := ?v1_22) ?hy1_22 ?_
      case hy1_22 => ((intro w hSw; (try dsimp only at hSw); go_simp) <;> with_reducible rfl)
      (try simp only [Act.put, zq1, zq2, zq3, zq4, zq5, zq6])
      refine wpAnyH_done (by kernel_rfl) ?_ _
      have hxl : Hid (((b.drop 6).take n).length = n) := Lib.hid (by rw [List.length_take, List.length_drop]; omega)
      have hpt := fun c' => bytes_part (c' := c') ((H.out.later HB1.out.drew).later (hb2.trans (hb3.mono hb2.size))) (k := n) 6 (by omega)
      have HPT := Lib.hid hpt
      have HB3 : Hid (Below w.heap.size w w3) := Lib.hid (HB1.out.drew.trans ((hb2.trans (hb3.mono hb2.size)).mono HB1.out.size))
      obtain ⟨q, hq⟩ : ∃ q, q = decide (fr ((b.drop 6).take n) = b.take (n + 10)) := ⟨_, rfl⟩
      rw [← hq]
      have HQ := Lib.hid hq
      clear ho2 hb2 hb3 hpt hq hHeld
      cases q
      · have HN : Hid (rec1 b = none) := Lib.hid (by rw [HE2.out, if_neg (of_decide_eq_false HQ.out.symm)])
        go_wp2
        go_ret2
        exact ⟨.inr ⟨HN.out, rfl⟩, HB3.out⟩
      · have HX : Hid (rec1 b = some ((b.drop 6).take n)) := Lib.hid (by rw [HE2.out, if_pos (of_decide_eq_true HQ.out.symm)])
        go_wp2
        all_goals go_ret2
        · rename_i hz
          have hn0 : n = 0 := by omega
          have hxe : Hid (List.take n (List.drop 6 b) = []) := Lib.hid (by rw [hn0]; rfl)
          exact ⟨.inl ⟨_, some ⟨g, o, none⟩, 0, HX.out, by rw [hxe.out]; rfl, by rw [hxe.out]; exact RowsAt.nil _ _⟩, HB3.out⟩
        · exact ⟨.inl ⟨_, some ⟨g, o + 6, none⟩, n, HX.out, by rw [hxl.out]; rfl, by rw [hxl.out]; exact HPT.out n⟩, HB3.out⟩
    · have HN := Lib.hid (HNO.out hA)
      by_cases hA1 : n ≤ 60000
      · have f1 : ¬ (60000 : Int) < n := by omega
        have f2 : (b.length : Int) < n + 10 := by omega
        have d1 : decide ((n : Int) > 60000) = false := decide_eq_false (by omega)
        have d2 : decide ((b.length : Int) < n + 10) = true := decide_eq_true (by omega)
        go_upto_region 4 with fail
        go_quiet (fail)
        go_wp2
        go_ret2
        exact ⟨.inr ⟨HN.out, rfl⟩, below_drewN' HB1.out _⟩
      · have f1 : (60000 : Int) < n := by omega
        have d1 : decide ((n : Int) > 60000) = true := decide_eq_true (by omega)
        go_upto_region 4 with fail
        go_quiet (fail)
        go_wp2
        go_ret2
        exact ⟨.inr ⟨HN.out, rfl⟩, below_drewN' HB1.out _⟩
end Go.Proofs.YtlamogpdkmbeoaaGreatDoor
end PartScanB

section PartScanC
/- 'records', 'Scan': the records with which bytes begin. -/
set_option linter.unusedVariables false
set_option linter.unusedSimpArgs false
set_option maxRecDepth 100000
namespace Go.Proofs.YtlamogpdkmbeoaaGreatDoor
open Go.RowKit Go.Lib Go.Shelf

/-- A record as 'records' hands it on: where it begins, the slice, its bytes. -/
structure RecX where
  at_ : Nat
  v : Value
  bs : List Int
/-- The first of some bytes that have a record at a place. -/
def rec1M (ds : List (List Int)) (k : Nat) : Option (List Int) := ds.findSome? fun d => rec1 (d.drop k)
/-- The records from one place to another. -/
inductive RecsFrom (ds : List (List Int)) : List RecX → Nat → Prop
  | nil : RecsFrom ds [] 0
  | snoc {xs : List RecX} {e : Nat} (x : RecX) : RecsFrom ds xs e → rec1M ds e = some x.bs → x.at_ = e → RecsFrom ds (xs ++ [x]) (e + x.bs.length + 10)
theorem rec1M_le {ds : List (List Int)} {k M : Nat} {x : List Int} (h : rec1M ds k = some x) (hM : ∀ d ∈ ds, d.length ≤ M) : k + x.length + 10 ≤ M ∧ x.length ≤ 60000 := by
  unfold rec1M at h
  obtain ⟨d, hd, h1⟩ := List.exists_of_findSome?_eq_some h
  obtain ⟨_, h2, h3, _⟩ := rec1_some h1
  have := hM d hd
  rw [List.length_drop] at h3
  omega
theorem RecsFrom.len {ds : List (List Int)} {xs : List RecX} {e : Nat} (h : RecsFrom ds xs e) : xs.length ≤ e := by
  induction h with
  | nil => simp
  | snoc x _ _ _ ih => simp; omega
theorem rec1M_skip {ds : List (List Int)} {e k : Nat} (h : ∀ j (hj : j < ds.length), j < k → rec1 (ds[j].drop e) = none) (hk : k < ds.length) {x : List Int} (hx : rec1 (ds[k].drop e) = some x) : rec1M ds e = some x := by
  unfold rec1M
  have hsp : ds = ds.take k ++ ds[k] :: ds.drop (k + 1) := by rw [List.getElem_cons_drop, List.take_append_drop]
  conv => lhs; rw [hsp]
  rw [List.findSome?_append]
  have h0 : (ds.take k).findSome? (fun d => rec1 (d.drop e)) = none := by
    rw [List.findSome?_eq_none_iff]
    intro d hd
    obtain ⟨j, hj, rfl⟩ := List.getElem_of_mem hd
    rw [List.length_take] at hj
    rw [List.getElem_take]
    exact h j (by omega) (by omega)
  rw [h0]
  simp only [Option.none_or, List.findSome?_cons, hx]
theorem rec1M_none {ds : List (List Int)} {e : Nat} (h : ∀ j (hj : j < ds.length), rec1 (ds[j].drop e) = none) : rec1M ds e = none := by
  unfold rec1M
  rw [List.findSome?_eq_none_iff]
  intro d hd
  obtain ⟨j, hj, rfl⟩ := List.getElem_of_mem hd
  exact h j hj
/-- Of one row of bytes: the records are those that 'scan' names. -/
theorem RecsFrom.scan {b : List Int} {xs : List RecX} {e : Nat} (h : RecsFrom [b] xs e) : scan b = xs.map (·.bs) ++ scan (b.drop e) ∧ e = taken (xs.map (·.bs)) := by
  induction h with
  | nil => simp [taken]
  | @snoc xs e x _ hr _ ih =>
    have hr' : rec1 (b.drop e) = some x.bs := by simpa [rec1M] using hr
    refine ⟨?_, ?_⟩
    · rw [ih.1, scan_some hr', List.drop_drop, List.map_append, List.append_assoc, ← Nat.add_assoc]
      rfl
    · rw [List.map_append, taken_append, ← ih.2]
      simp [taken]
      omega
abbrev dsk (ps : List (Value × List Int)) : List (List Int) := ps.map fun p => p.2
theorem below_grown {a b : World} (h : Below a.heap.size a b) : a.grownBy b none := ⟨h.os, h.tape, h.output, h.size, fun k hk _ => h.block k hk⟩

theorem drop_min (d : List Int) (k : Nat) : d.drop (min k d.length) = d.drop k := by
  by_cases h : k ≤ d.length
  · rw [Nat.min_eq_left h]
  · rw [Nat.min_eq_right (by omega), List.drop_length, List.drop_of_length_le (by omega)]
theorem AreBytes.drop {b : List Int} (h : AreBytes b) (i : Nat) : AreBytes (b.drop i) := fun x hx => h x (List.mem_of_mem_drop hx)
theorem bytes_cut {w : World} {g o c c' i : Nat} {b : List Int} (h : BytesAt w (.slice (some ⟨g, o, none⟩) b.length c) b) (hi : i ≤ b.length) : BytesAt w (.slice (some ⟨g, o + i, none⟩) (b.length - i) c') (b.drop i) := by
  have := bytes_part h (c' := c') (k := b.length - i) i (by omega)
  rwa [List.take_of_length_le (by rw [List.length_drop]; omega)] at this

theorem run_cut {w : World} {v : Value} {bs : List Int} (h : BytesAt w v bs) (hcap : CapOk v) (t : Nat) (ht : t ≤ bs.length) :
    ∃ v', (Instr.sliceAt 57 v (some (.int .i64 t)) none none).run Tryz.prog w = .ok v' w ∧ BytesAt w v' (bs.drop t) ∧ CapOk v' := by
  have US := Tryz.underlying57
  obtain ⟨i0, hi, hz0, hz1, hz2⟩ := infoByte
  have hmx := h.max
  unfold maxLen at hmx
  obtain ⟨A, c, rfl⟩ := h.len
  have hc := hcap _ _ _ rfl
  have ht0 : (0 : Int) ≤ t ∧ (t : Int) ≤ bs.length := by omega
  refine ⟨.slice (if c = t then A else A.map (·.add (t * 1))) (bs.length - t) (c - t), ?_, ?_, ?_⟩
  · simp [Instr.sliceAt, Instr.slice, Instr.sliceBounds, Instr.sliceBound, run_underlying US, sizeOf, typeInfo, hi, hz1, asIntOf, ht0]
    intro hlt
    omega
  · by_cases e : c = t
    · rw [if_pos e]
      have : bs.drop t = [] := List.drop_of_length_le (by omega)
      rw [this, show bs.length - t = 0 by omega]
      exact RowsAt.nil _ _
    · rw [if_neg e]
      rcases h.place with ⟨rfl, A', c', e1⟩ | ⟨g, o, c', e1, h0, _, hb, hcl⟩
      · simp only [List.drop_nil, List.length_nil, Nat.zero_sub]
        exact RowsAt.nil _ _
      · injection e1 with e1 _ e2
        subst e1; subst e2
        have := bytes_cut h (c' := c - t) ht
        simp only [Option.map, Addr.add_lit, Nat.mul_one]
        by_cases hz : t = 0
        · subst hz; simpa using this
        · exact this
  · intro A2 n2 c2 e
    injection e with _ e2 e3
    omega
theorem wpListIn_cut {F : Fence} {n : Nat} {ops : Array Oper} {Q : Exit → Act → World → Prop} {a : Act} {w : World} {rest : List Oper} {op : Oper} (hgd : op.guard = none) (x y : Operand) (ho : op.op = .slice 57 x (some y) none none)
    {v : Value} {bs : List Int} {t : Nat} (hx : a.eval x = v) (hy : a.eval y = .int .i64 t) (h : BytesAt w v bs) (hcap : CapOk v) (ht : t ≤ bs.length)
    (k : ∀ v', BytesAt w v' (bs.drop t) → CapOk v' → wpListIn F n Tryz.prog ops Q rest (a.put op.dst v') w) : wpListIn F n Tryz.prog ops Q (op :: rest) a w := by
  refine wpListIn_plain hgd fun K hK => ?_
  unfold Oper.wpIn
  refine ⟨by simp [Oper.about, ho], ?_⟩
  rw [Oper.semAt_plain F _ _ (by rw [ho]; intro c hc'; cases hc')]
  obtain ⟨v', hr, h1, h2⟩ := run_cut h hcap t ht
  unfold execOp
  simp only [ho, Option.map, hx, hy, Sem.run_bind, Sem.run_pure, Result.andThen_ok, hr]
  exact hK _ _ (k v' h1 h2)
theorem record_some {b x : List Int} (hx : rec1 b = some x) (v : Value) (w : World) (h : BytesAt w v b) (hb : AreBytes b) (hcap : CapOk v) :
    Calls Tryz.prog 76 #[v] w fun e w' => ∃ A c, e = .returned (.tuple #[.slice A x.length c, .bool true]) ∧ BytesAt w' (.slice A x.length c) x ∧ Below w.heap.size w w' :=
  (record_any b v w h hb hcap).mono fun e w' ⟨h1, hb⟩ => by
    rcases h1 with ⟨y, A, c, hy, rfl, hyb⟩ | ⟨hn, _⟩
    · rw [hx] at hy
      injection hy with hy
      subst hy
      exact ⟨A, c, rfl, hyb, hb⟩
    · rw [hx] at hn; cases hn
theorem record_none {b : List Int} (hx : rec1 b = none) (v : Value) (w : World) (h : BytesAt w v b) (hb : AreBytes b) (hcap : CapOk v) :
    Calls Tryz.prog 76 #[v] w fun e w' => e = .returned (.tuple #[.slice none 0 0, .bool false]) ∧ Below w.heap.size w w' :=
  (record_any b v w h hb hcap).mono fun e w' ⟨h1, hb⟩ => by
    rcases h1 with ⟨y, A, c, hy, rfl, hyb⟩ | ⟨hn, he⟩
    · rw [hx] at hy; cases hy
    · exact ⟨he, hb⟩

/-- What the iterator reads between the rounds. -/
structure RecKp (B base : Nat) (va : Value) (ps : List (Value × List Int)) (W : World) : Prop where
  parts : PartsAt W va ps
  box : W.cell? ⟨B, 0, none⟩ = some va
  size : base ≤ W.heap.size
set_option maxHeartbeats 4000000 in
theorem records1_in (B base : Nat) (va : Value) (ps : List (Value × List Int)) (hva : ∃ A c, va = .slice A ps.length c) (hmx : ps.length ≤ 9223372036854775807) (M : Nat) (hM : ∀ p ∈ ps, p.2.length ≤ M) (hMM : M ≤ 100000000)
    (hby : ∀ p ∈ ps, AreBytes p.2) (hcap : ∀ p ∈ ps, CapOk p.1) :
    SeqE Fence.wide 1 Tryz.prog 75 #[.pointer (some ⟨B, 0, none⟩)] (fun x : RecX => #[.int .i64 x.at_, x.v]) (RecKp B base va ps) (fun x W => OwnU W base x.v x.bs ∧ x.at_ + x.bs.length ≤ M)
      (fun xs => ∃ e, RecsFrom (dsk ps) xs e ∧ rec1M (dsk ps) e = none) (M + 1) := by
  intro l J W hJ hJB hY h0
  have hMd : ∀ d ∈ dsk ps, d.length ≤ M := fun d hd => by obtain ⟨p, hp, rfl⟩ := List.mem_map.1 hd; exact hM p hp
  have HMD := Lib.hid hMd
  have HM := Lib.hid hM
  have HBY := Lib.hid hby
  have HCAP := Lib.hid hcap
  have HJ := Lib.hid hJ
  have HJB := Lib.hid hJB
  have HY := Lib.hid hY
  obtain ⟨A, c, rfl⟩ := hva
  clear hM hby hcap hJ hJB hY hMd
  refine callsIn_of_wp Tryz.func75 rfl trivial ?_ rfl
  simp only [Tryz.ntmps75, List.size_toArray, List.length_cons, List.length_nil, Nat.reduceAdd, Nat.reduceSub, Array.replicate_succ, Array.replicate_zero, List.push_toArray, List.append_toArray, List.nil_append, List.cons_append]
  gi_wp2
  gi_loopw [3] (fun s3 wr => ∃ (pre : List RecX) (e : Nat), s3 = .int .i64 e ∧ Hid (RecsFrom (dsk ps) pre e) ∧ e ≤ M ∧ Hid (J pre wr)) (fun s3 _ => M - (intOf s3).toNat)
  case atStart => exact ⟨[], 0, rfl, Lib.hid .nil, Nat.zero_le _, Lib.hid h0⟩
  case round =>
    obtain ⟨pre, e, rfl, hrf, heM, hj⟩ := hrel
    have cB : wr.cell? ⟨B, 0, none⟩ = some (.slice A ps.length c) := (HJB.out _ _ hj.out).box
    gi_wp2
    gi_loopw [5, 10] (fun s5 s10 wi => ∃ k : Nat, k ≤ ps.length ∧ s10 = .int .i64 k ∧ s5 = .bool false ∧ Hid (∀ j (hj : j < (dsk ps).length), j < k → rec1 ((dsk ps)[j].drop e) = none) ∧ Hid (J pre wi)) (fun _ s10 _ => ps.length - (intOf s10).toNat)
    case atStart => exact ⟨0, Nat.zero_le _, rfl, rfl, Lib.hid (fun j _ h => absurd h (Nat.not_lt_zero _)), hj⟩
    case round =>
      clear cB
      obtain ⟨k, hk, rfl, rfl, hno, hji⟩ := hrel
      have hbw := HJB.out _ _ hji.out
      by_cases hlt : k < ps.length
      · obtain ⟨p, hp⟩ : ∃ p, p = ps[k] := ⟨_, rfl⟩
        have hpm : p ∈ ps := by rw [hp]; exact List.getElem_mem hlt
        have hprow := hbw.parts.row
        have hpb := hbw.parts.each p hpm
        have hpl := HM.out p hpm
        have hpy := HBY.out p hpm
        have hpc := HCAP.out p hpm
        rcases hprow.place with ⟨e0, _⟩ | ⟨b, o, c0, e1, _, _, hbb, hcell⟩
        · rw [e0] at hlt; simp at hlt
        injection e1 with e1 _ e2
        subst e1
        subst e2
        have cP : wr.cell? ⟨b, o + k, none⟩ = some p.1 := by have := hcell k hlt 0 _ rfl; rw [Nat.mul_one, ← hp] at this; exact this
        obtain ⟨A2, c2, hpv⟩ := hpb.len
        have hnx : ∀ x, rec1 (p.2.drop e) = some x → rec1M (dsk ps) e = some x := fun x hx =>
          rec1M_skip hno.out (k := k) (by rw [List.length_map]; exact hlt) (by rw [List.getElem_map, ← hp]; exact hx)
        have hnn : rec1 (p.2.drop e) = none → ∀ j (hj : j < (dsk ps).length), j < k + 1 → rec1 ((dsk ps)[j].drop e) = none := fun hx j hj hjk => by
          by_cases hjk' : j < k
          · exact hno.out j hj hjk'
          · obtain rfl : j = k := by omega
            rw [List.getElem_map, ← hp]
            exact hx
        have hpb' : BytesAt wr (.slice A2 p.2.length c2) p.2 := by rw [← hpv]; exact hpb
        have hpc' : CapOk (.slice A2 p.2.length c2) := by rw [← hpv]; exact hpc
        rw [hpv] at cP
        obtain ⟨bs, hbs⟩ : ∃ bs, bs = p.2 := ⟨_, rfl⟩
        rw [← hbs] at cP hpb' hpc' hnx hnn hpy
        obtain ⟨m, hm⟩ : ∃ m, m = bs.length := ⟨_, rfl⟩
        have HM2 := Lib.hid hm
        rw [← hm] at cP hpb' hpc'
        have HPB := Lib.hid hpb'
        have HPC := Lib.hid hpc'
        have HPY := Lib.hid hpy
        have HLT := Lib.hid hlt
        have HSI := Lib.hid hbw.size
        clear hpv hp hpm hprow hpb hpc hpb' hpc' hbs hcell hpy hbw hm hpl
        cases hrec : rec1 (bs.drop e) with
        | none =>
          have HREC := Lib.hid hrec
          have HNN := Lib.hid (hnn hrec)
          clear hnx hnn hrec
          by_cases hle : e ≤ m
          · have hle' : (e : Int) ≤ m := by omega
            have hmn : min (e : Int) (m : Int) = (e : Int) := by omega
            have tok : True := trivial
            have HTL : Hid (e ≤ bs.length) := Lib.hid (by have := HM2.out; omega)
            have HDR : Hid (bs.drop e = bs.drop e) := Lib.hid (rfl)
            gi_wp2_with (first
              | (have _t := tok; refine wpListIn_cut (t := e) (bs := bs) rfl _ _ rfl rfl rfl HPB.out HPC.out HTL.out ?_; clear tok; intro v' hv1 hv2)
              | ((try refine ⟨trivial, ?_⟩); gi_at_call 76; refine (callsIn_wide.2 (record_none (by rw [HDR.out]; exact HREC.out) v' wr hv1 (HPY.out.drop _) hv2)).mono ?_; rintro e2 w2 ⟨rfl, hb2⟩)
              | gi_in)
            have hji2 := HJ.out pre wr w2 none hji.out (below_grown hb2) (fun r e => by cases e)
            go_roundw
            case rel => exact ⟨k + 1, by have := HLT.out; omega, by go_num, rfl, HNN, Lib.hid hji2⟩
            case measure => have := HLT.out; simp [intOf]; omega
          · have hle' : ¬ (e : Int) ≤ m := by omega
            have hle2 : (m : Int) < e := by omega
            have hmn : min (e : Int) (m : Int) = (m : Int) := by omega
            have tok : True := trivial
            have HTL : Hid (m ≤ bs.length) := Lib.hid (by have := HM2.out; omega)
            have HDR : Hid (bs.drop m = bs.drop e) := Lib.hid (by rw [List.drop_of_length_le (by have := HM2.out; omega), List.drop_of_length_le (by have := HM2.out; omega)])
            gi_wp2_with (first
              | (have _t := tok; refine wpListIn_cut (t := m) (bs := bs) rfl _ _ rfl rfl rfl HPB.out HPC.out HTL.out ?_; clear tok; intro v' hv1 hv2)
              | ((try refine ⟨trivial, ?_⟩); gi_at_call 76; refine (callsIn_wide.2 (record_none (by rw [HDR.out]; exact HREC.out) v' wr hv1 (HPY.out.drop _) hv2)).mono ?_; rintro e2 w2 ⟨rfl, hb2⟩)
              | gi_in)
            have hji2 := HJ.out pre wr w2 none hji.out (below_grown hb2) (fun r e => by cases e)
            go_roundw
            case rel => exact ⟨k + 1, by have := HLT.out; omega, by go_num, rfl, HNN, Lib.hid hji2⟩
            case measure => have := HLT.out; simp [intOf]; omega
        | some x =>
          have HREC := Lib.hid hrec
          have HNX := Lib.hid (hnx x hrec)
          have hle0 := rec1M_le (hnx x hrec) HMD.out
          have hx60 : x.length ≤ 1000000 := by omega
          have HLEN : Hid (pre.length < M + 1) := Lib.hid (by have := hrf.out.len; omega)
          clear hnx hnn hrec
          by_cases hle : e ≤ m
          · have hle' : (e : Int) ≤ m := by omega
            have hmn : min (e : Int) (m : Int) = (e : Int) := by omega
            have tok : True := trivial
            have HTL : Hid (e ≤ bs.length) := Lib.hid (by have := HM2.out; omega)
            have HDR : Hid (bs.drop e = bs.drop e) := Lib.hid (rfl)
            gi_wp2_with (first
              | (have _t := tok; refine wpListIn_cut (t := e) (bs := bs) rfl _ _ rfl rfl rfl HPB.out HPC.out HTL.out ?_; clear tok; intro v' hv1 hv2)
              | ((try refine ⟨trivial, ?_⟩); gi_at_call 76; refine (callsIn_wide.2 (record_some (by rw [HDR.out]; exact HREC.out) v' wr hv1 (HPY.out.drop _) hv2)).mono ?_; rintro e2 w2 ⟨A3, c3, rfl, hxb, hb2⟩; have hcl := cloneBytes_any _ _ w2 hxb hx60)
              | ((try refine ⟨trivial, ?_⟩); gi_at_call 71; refine (callsIn_wide.2 hcl).mono ?_; rintro e3 w3 ⟨u3, rfl, ho3, hb3⟩; obtain ⟨fn, tmps, assign, body, hy, hR⟩ := HY.out pre ⟨e, u3, x⟩ w3 ⟨ownsRow_base_a ho3 (by have := HSI.out; have := hb2.size; omega), by have := hle0.1; dsimp only; omega⟩ (HJ.out pre wr w3 none hji.out (below_grown (hb2.trans (hb3.mono hb2.size))) (fun r e => by cases e)) HLEN.out; dsimp only at hy)
              | gi_in)
            refine hR.mono ?_
            rintro e4 w4 ⟨rfl, hJ4⟩
            have HJ4 := Lib.hid hJ4
            clear hJ4 hy hR
            gi_wp2
            go_roundw
            case rel => exact ⟨pre ++ [⟨e, u3, x⟩], e + x.length + 10, by go_num, Lib.hid (RecsFrom.snoc ⟨e, u3, x⟩ hrf.out HNX.out rfl), hle0.1, HJ4⟩
            case measure => simp [intOf]; omega
          · have hle' : ¬ (e : Int) ≤ m := by omega
            have hle2 : (m : Int) < e := by omega
            have hmn : min (e : Int) (m : Int) = (m : Int) := by omega
            have tok : True := trivial
            have HTL : Hid (m ≤ bs.length) := Lib.hid (by have := HM2.out; omega)
            have HDR : Hid (bs.drop m = bs.drop e) := Lib.hid (by rw [List.drop_of_length_le (by have := HM2.out; omega), List.drop_of_length_le (by have := HM2.out; omega)])
            gi_wp2_with (first
              | (have _t := tok; refine wpListIn_cut (t := m) (bs := bs) rfl _ _ rfl rfl rfl HPB.out HPC.out HTL.out ?_; clear tok; intro v' hv1 hv2)
              | ((try refine ⟨trivial, ?_⟩); gi_at_call 76; refine (callsIn_wide.2 (record_some (by rw [HDR.out]; exact HREC.out) v' wr hv1 (HPY.out.drop _) hv2)).mono ?_; rintro e2 w2 ⟨A3, c3, rfl, hxb, hb2⟩; have hcl := cloneBytes_any _ _ w2 hxb hx60)
              | ((try refine ⟨trivial, ?_⟩); gi_at_call 71; refine (callsIn_wide.2 hcl).mono ?_; rintro e3 w3 ⟨u3, rfl, ho3, hb3⟩; obtain ⟨fn, tmps, assign, body, hy, hR⟩ := HY.out pre ⟨e, u3, x⟩ w3 ⟨ownsRow_base_a ho3 (by have := HSI.out; have := hb2.size; omega), by have := hle0.1; dsimp only; omega⟩ (HJ.out pre wr w3 none hji.out (below_grown (hb2.trans (hb3.mono hb2.size))) (fun r e => by cases e)) HLEN.out; dsimp only at hy)
              | gi_in)
            refine hR.mono ?_
            rintro e4 w4 ⟨rfl, hJ4⟩
            have HJ4 := Lib.hid hJ4
            clear hJ4 hy hR
            gi_wp2
            go_roundw
            case rel => exact ⟨pre ++ [⟨e, u3, x⟩], e + x.length + 10, by go_num, Lib.hid (RecsFrom.snoc ⟨e, u3, x⟩ hrf.out HNX.out rfl), hle0.1, HJ4⟩
            case measure => simp [intOf]; omega
      · have hkl : k = ps.length := by omega
        have hnone : Hid (rec1M (dsk ps) e = none) := Lib.hid (rec1M_none (fun j hj => hno.out j hj (by rw [List.length_map] at hj; omega)))
        gi_wp2
        refine ⟨trivial, ?_⟩
        gi_wp2
        refine ⟨fun _ h => (by cases h), ?_⟩
        gi_wp2
        refine bodyPost_ret (results_none rfl _ _ _) rfl ?_
        exact ⟨⟨_, rfl⟩, pre, ⟨e, hrf.out, hnone.out⟩, hji.out⟩
theorem records_any (A : Option Addr) (n c : Nat) (w : World) : Calls Tryz.prog 39 #[.slice A n c] w fun e w' => e = .returned (.func (.func 75) #[] #[.pointer (some ⟨w.heap.size, 0, none⟩)]) ∧ w' = w.alloc (.cells #[.slice A n c] 56) := by
  go_enter Tryz.func39, Tryz.ntmps39
  go_wp2
  go_ret
  exact ⟨rfl, rfl⟩
theorem records1_enters : ∀ args w, (callFunc 75 args).run Tryz.prog w = .ok (.enter 75 args) w := enters_of Tryz.func75 (by kernel_rfl) rfl
theorem infoBytes : ∃ i, Tryz.prog.info? 57 = some i ∧ i.zero = some (.slice none 0 0) ∧ i.size = 1 ∧ i.bytes = 24 := ⟨_, rfl, rfl, rfl, rfl⟩
/-- Rows of different element types lie in different blocks. -/
theorem own_ne {w : World} {base base' : Nat} {e e' : TypeId} {size size' : Nat} {v v' : Value} {n n' : Nat} {xs xs' : List Value} (h : w.ownsRow base e size v n xs) (h' : w.ownsRow base' e' size' v' n' xs') (hne : e ≠ e') : v'.ownBlock = none ∨ v'.ownBlock ≠ v.ownBlock := by
  rcases h'.2 with ⟨rfl, _⟩ | ⟨g', cap', cur', rfl, _, hg', _⟩
  · exact .inl rfl
  · refine .inr fun e1 => ?_
    rcases h.2 with ⟨rfl, _⟩ | ⟨g, cap, cur, rfl, _, hg, _⟩
    · simp [Value.ownBlock] at e1
    · have : g' = g := by simpa [Value.ownBlock] using e1
      subst this
      rw [hg] at hg'
      simp at hg'
      exact hne hg'.2
/-- A row of byte rows, all of it the call's own. -/
structure PartsOwn (base : Nat) (w : World) (v : Value) (ps : List (Value × List Int)) : Prop where
  row : w.ownsRow base 57 1 v ps.length (ps.flatMap fun p => [p.1])
  each : ∀ p ∈ ps, OwnU w base p.1 p.2
section
variable {base : Nat} {w w' : World} {v v' : Value} {ps : List (Value × List Int)}
theorem PartsOwn.at_ (h : PartsOwn base w v ps) : PartsAt w v ps := ⟨rows_of_owns 1 (fun _ => rfl) h.row, fun p hp => (h.each p hp).bytes⟩
theorem PartsOwn.later (h : PartsOwn base w v ps) (hb : Below w.heap.size w w') : PartsOwn base w' v ps := ⟨own_later h.row hb, fun p hp => own_later (h.each p hp) hb⟩
theorem PartsOwn.mono (h : PartsOwn base w v ps) {base' : Nat} (hb : base' ≤ base) : PartsOwn base' w v ps := ⟨ownsRow_base_a h.row hb, fun p hp => ownsRow_base_a (h.each p hp) hb⟩
theorem PartsOwn.kept {row : Option Nat} (h : PartsOwn base w v ps) (hg : w.grownBy w' row) (hr : ∀ r, row = some r → ∃ o : Obj, w.heap[r]? = some o ∧ (∀ cur, o ≠ .cells cur 57 (0, 0)) ∧ ∀ cur, o ≠ .cells cur 5 (0, 0)) : PartsOwn base w' v ps := by
  have ne : ∀ {e : TypeId} {sz : Nat} {v : Value} {n : Nat} {xs : List Value} (ho : w.ownsRow base e sz v n xs), (∀ r, row = some r → ∃ o : Obj, w.heap[r]? = some o ∧ ∀ cur, o ≠ .cells cur e (0, 0)) → v.ownBlock = none ∨ v.ownBlock ≠ row := fun {e sz v n xs} ho hq => by
    cases row with
    | none => rcases ho.2 with ⟨rfl, _⟩ | ⟨g, cap, cur, rfl, _⟩ <;> simp [Value.ownBlock]
    | some r =>
      obtain ⟨o, h1, h2⟩ := hq r rfl
      exact ownsRow_ne_a ho h1 h2
  exact ⟨h.row.kept hg (ne h.row fun r e => by obtain ⟨o, h1, h2, _⟩ := hr r e; exact ⟨o, h1, h2⟩), fun p hp => (h.each p hp).kept hg (ne (h.each p hp) fun r e => by obtain ⟨o, h1, _, h2⟩ := hr r e; exact ⟨o, h1, h2⟩)⟩
theorem PartsOwn.push (h : PartsOwn base w v ps) (p : Value × List Int) (hp : OwnU w base p.1 p.2) (hg : w.grownBy w' v.ownBlock) (hown : w'.ownsRow base 57 1 v' (ps.length + 1) ((ps.flatMap fun p => [p.1]) ++ [p.1])) : PartsOwn base w' v' (ps ++ [p]) := by
  refine ⟨by rw [List.length_append, List.flatMap_append]; exact hown, fun q hq => ?_⟩
  rcases List.mem_append.1 hq with hq | hq
  · exact (h.each q hq).kept hg (own_ne h.row (h.each q hq) (by decide))
  · simp only [List.mem_singleton] at hq
    subst hq
    exact hp.kept hg (own_ne h.row hp (by decide))
end
/-- Where the records so far end. -/
def endOf (xs : List RecX) : Int := match xs.getLast? with
  | none => 0
  | some x => (x.at_ : Int) + x.bs.length + 10
theorem endOf_snoc (xs : List RecX) (x : RecX) : endOf (xs ++ [x]) = (x.at_ : Int) + x.bs.length + 10 := by simp [endOf]
theorem RecsFrom.endOf {ds : List (List Int)} {xs : List RecX} {e : Nat} (h : RecsFrom ds xs e) : endOf xs = e := by
  cases h with
  | nil => rfl
  | @snoc xs e x _ _ hx => rw [endOf_snoc, hx]; omega
abbrev pairs (xs : List RecX) : List (Value × List Int) := xs.map fun x => (x.v, x.bs)
/-- What lies between the rounds of Scan's loop. -/
structure ScanI (s : Nat) (w : World) (v : Value) (pre : List RecX) (W : World) : Prop where
  out : ∃ vo, Blk W s 56 #[vo] ∧ PartsOwn (s + 4) W vo (pairs pre)
  end_ : Blk W (s + 1) 3 #[.int .i64 (endOf pre)]
  arr : Blk W (s + 2) 57 #[v]
  box : Blk W (s + 3) 56 #[.slice (some ⟨s + 2, 0, none⟩) 1 1]
  below : Below s w W
  size : s + 4 ≤ W.heap.size
theorem not_cells_ne {o : Obj} (h : o.isCells = false) (e : TypeId) : ∀ cur, o ≠ .cells cur e (0, 0) := fun cur hc => by rw [hc] at h; cases h
theorem ScanI.turn {s : Nat} {w : World} {v : Value} {pre : List RecX} {W W' : World} {row : Option Nat} (h : ScanI s w v pre W) (hs : s ≤ w.heap.size) (hg : W.grownBy W' row) (hr : ∀ r, row = some r → s + 4 ≤ r ∧ ∃ o : Obj, W.heap[r]? = some o ∧ o.isCells = false) : ScanI s w v pre W' := by
  have ne : ∀ j, j < s + 4 → some j ≠ row := fun j hj e => by have := (hr j e.symm).1; omega
  obtain ⟨vo, ho, hp⟩ := h.out
  have hz := h.size
  exact ⟨⟨vo, ho.kept hg (ne _ (by omega)), hp.kept hg fun r e => by obtain ⟨_, o, h1, h2⟩ := hr r e; exact ⟨o, h1, not_cells_ne h2 _, not_cells_ne h2 _⟩⟩, h.end_.kept hg (ne _ (by omega)), h.arr.kept hg (ne _ (by omega)), h.box.kept hg (ne _ (by omega)),
    h.below.grown hg (by omega) (fun k e => by have := (hr k e).1; omega), Nat.le_trans hz hg.size⟩
theorem own_cells {w : World} {base : Nat} {e : TypeId} {size : Nat} {v : Value} {n : Nat} {xs : List Value} (h : w.ownsRow base e size v n xs) {j : Nat} {o : Obj} (hj : v.ownBlock = some j) (ho : w.heap[j]? = some o) : o.isCells = true := by
  rcases h.2 with ⟨rfl, _⟩ | ⟨g, cap, cur, rfl, _, hg, _⟩
  · simp [Value.ownBlock] at hj
  · have : g = j := by simpa [Value.ownBlock] using hj
    subst this
    rw [hg] at ho
    cases ho
    rfl
theorem cells_ne {cs : Array Value} {t e : TypeId} (h : t ≠ e) : ∀ cur, Obj.cells cs t (0, 0) ≠ .cells cur e (0, 0) := fun cur he => by injection he with _ h2; exact h h2
theorem ScanI.step {s : Nat} {w : World} {v : Value} {pre : List RecX} {W w1 : World} (h : ScanI s w v pre W) (x : RecX) (hx : OwnU W (s + 4) x.v x.bs) {vo v' : Value} (ho : Blk W s 56 #[vo]) (hp : PartsOwn (s + 4) W vo (pairs pre))
    (hg : (W.alloc (.cells #[x.v] 57)).grownBy w1 vo.ownBlock) (hown : w1.ownsRow (s + 4) 57 1 v' ((pairs pre).length + 1) (((pairs pre).flatMap fun p => [p.1]) ++ [x.v])) :
    KeepsOthers W ((w1.setCell ⟨s, 0, none⟩ v').setCell ⟨s + 1, 0, none⟩ (.int .i64 ((x.at_ : Int) + x.bs.length + 10))) ∧
    ScanI s w v (pre ++ [x]) ((w1.setCell ⟨s, 0, none⟩ v').setCell ⟨s + 1, 0, none⟩ (.int .i64 ((x.at_ : Int) + x.bs.length + 10))) := by
  have hsz := h.size
  have ne : ∀ j, j < s + 4 → some j ≠ vo.ownBlock := fun j hj e => by have := own_ge hp.row e.symm; omega
  have ga := World.grownBy_alloc W (.cells #[x.v] 57) none
  have hpa := hp.kept ga (fun r e => by cases e)
  have hxa : OwnU (W.alloc (.cells #[x.v] 57)) (s + 4) x.v x.bs := own_later hx (below_alloc0 _)
  have hp1 := hpa.push (x.v, x.bs) hxa hg hown
  have k1 := ((ho.alloc (.cells #[x.v] 57)).kept hg (ne _ (by omega)))
  have k2 := ((h.end_.alloc (.cells #[x.v] 57)).kept hg (ne _ (by omega)))
  have k3 := ((h.arr.alloc (.cells #[x.v] 57)).kept hg (ne _ (by omega)))
  have k4 := ((h.box.alloc (.cells #[x.v] 57)).kept hg (ne _ (by omega)))
  have k1' : Blk (w1.setCell ⟨s, 0, none⟩ v') s 56 #[v'] := k1.put 0 v'
  have k2' : Blk (w1.setCell ⟨s, 0, none⟩ v') (s + 1) 3 #[.int .i64 (endOf pre)] := k2.far (p := ⟨s, 0, none⟩) (by dsimp only; omega) _
  have hp2 := hp1.kept (grownBy_setCell0_a w1 s v') (fun r e => by injection e with e; subst e; exact ⟨_, k1, cells_ne (by decide), cells_ne (by decide)⟩)
  have hp3 := hp2.kept (grownBy_setCell0_a _ (s + 1) (.int .i64 ((x.at_ : Int) + x.bs.length + 10))) (fun r e => by injection e with e; subst e; exact ⟨_, k2', cells_ne (by decide), cells_ne (by decide)⟩)
  have hsz1 := hg.size
  rw [World.size_alloc] at hsz1
  refine ⟨(((KeepsOthers.alloc W _).trans (KeepsOthers.of_grownBy hg fun j o ej hj => own_cells hpa.row ej hj)).trans (KeepsOthers.setCell _ _ _)).trans (KeepsOthers.setCell _ _ _), ⟨v', k1'.far (p := ⟨s + 1, 0, none⟩) (by dsimp only; omega) _, ?_⟩, ?_, (k3.far (p := ⟨s, 0, none⟩) (by dsimp only; omega) _).far (p := ⟨s + 1, 0, none⟩) (by dsimp only; omega) _, (k4.far (p := ⟨s, 0, none⟩) (by dsimp only; omega) _).far (p := ⟨s + 1, 0, none⟩) (by dsimp only; omega) _, ?_, ?_⟩
  · unfold pairs
    rw [List.map_append]
    exact hp3
  · rw [endOf_snoc]
    exact k2'.put 0 _
  · exact ((((h.below.alloc (by omega) _).grown hg (by rw [World.size_alloc]; omega) (fun k e => by have := own_ge hp.row e; omega)).setCell (p := ⟨s, 0, none⟩) (by dsimp only; omega) _).setCell (p := ⟨s + 1, 0, none⟩) (by dsimp only; omega) _)
  · have e1 := (grownBy_setCell0_a w1 s v').size
    have e2 := (grownBy_setCell0_a (w1.setCell ⟨s, 0, none⟩ v') (s + 1) (.int .i64 ((x.at_ : Int) + x.bs.length + 10))).size
    omega
theorem scan_own {s : Nat} {w : World} {v : Value} (hs : s ≤ w.heap.size) : OwnFrom (s + 4) (ScanI s w v) := fun pre W W' row h hg hr => h.turn hs hg hr
theorem own_from_u (base B M : Nat) : OwnFrom B (fun (x : RecX) W => OwnU W base x.v x.bs ∧ x.at_ + x.bs.length ≤ M) := fun x W W' row ⟨h, hM⟩ hg hr => by
  refine ⟨World.ownsRow.kept h hg ?_, hM⟩
  cases row with
  | none => rcases h.2 with ⟨e, _⟩ | ⟨g, cap, cur, e, _⟩ <;> rw [e] <;> simp [Value.ownBlock]
  | some r =>
    obtain ⟨_, o, h1, h2⟩ := hr r rfl
    exact ownsRow_ne_a h h1 (not_cells_ne h2 _)
set_option maxHeartbeats 4000000 in
theorem Scan_any (b : List Int) (v : Value) (w : World) (h : BytesAt w v b) (hb : AreBytes b) (hcap : CapOk v) (hl : b.length ≤ 100000000) :
    Calls Tryz.prog 18 #[v] w fun e w' => ∃ u ps, e = .returned (.tuple #[u, .int .i64 (taken (scan b))]) ∧ PartsOwn w.heap.size w' u ps ∧ ps.map (·.2) = scan b ∧ Below w.heap.size w w' := by
  obtain ⟨i0, hi, hz0, hz1, hz2⟩ := infoBytes
  have HB := Lib.hid h
  obtain ⟨A, c, rfl⟩ := h.len
  clear h
  refine (callsIn_wide (n := 2)).1 ?_
  refine callsIn_of_wp_marks Tryz.func18 rfl trivial ?_ rfl
  simp only [Tryz.ntmps18, List.size_toArray, List.length_cons, List.length_nil, Nat.reduceAdd, Nat.reduceSub, Array.replicate_succ, Array.replicate_zero, List.push_toArray, List.append_toArray, List.nil_append, List.cons_append]
  gi_wp2_with ((try refine ⟨trivial, ?_⟩); gi_at_call 39; refine (callsIn_wide.2 (records_any _ _ _ _)).mono ?_; rintro e w1 ⟨rfl, rfl⟩)
  obtain ⟨W3, hW3⟩ : ∃ W3, (((w.alloc (.cells #[.slice none 0 0] 56)).alloc (.cells #[.int .i64 0] 3)).alloc (.cells #[.slice A b.length c] 57)).alloc (.cells #[.slice (some ⟨w.heap.size + 1 + 1, 0, none⟩) 1 1] 56) = W3 := ⟨_, rfl⟩
  rw [hW3]
  have hs3 : W3.heap.size = w.heap.size + 4 := by rw [← hW3]; simp
  have hI0 : ScanI w.heap.size w (.slice A b.length c) [] W3 := by
    rw [← hW3]
    refine ⟨⟨.slice none 0 0, (((Blk.new w _ _).alloc _).alloc _).alloc _, World.ownsRow_nil _ _ _ _, fun p hp => by simp at hp⟩, ?_, ?_, ?_, (((below_alloc0 _).alloc (by simp) _).alloc (by simp; omega) _).alloc (by simp; omega) _, by simp⟩
    · have := ((Blk.new (w.alloc (.cells #[.slice none 0 0] 56)) 3 #[.int .i64 0]).alloc (.cells #[.slice A b.length c] 57)).alloc (.cells #[.slice (some ⟨w.heap.size + 1 + 1, 0, none⟩) 1 1] 56)
      rwa [World.size_alloc] at this
    · have := (Blk.new ((w.alloc (.cells #[.slice none 0 0] 56)).alloc (.cells #[.int .i64 0] 3)) 57 #[.slice A b.length c]).alloc (.cells #[.slice (some ⟨w.heap.size + 1 + 1, 0, none⟩) 1 1] 56)
      rwa [World.size_alloc, World.size_alloc] at this
    · have := Blk.new (((w.alloc (.cells #[.slice none 0 0] 56)).alloc (.cells #[.int .i64 0] 3)).alloc (.cells #[.slice A b.length c] 57)) 56 #[.slice (some ⟨w.heap.size + 1 + 1, 0, none⟩) 1 1]
      rwa [World.size_alloc, World.size_alloc, World.size_alloc] at this
  have hkp : ∀ pre W, ScanI w.heap.size w (.slice A b.length c) pre W → RecKp (w.heap.size + 3) (w.heap.size + 4) (.slice (some ⟨w.heap.size + 2, 0, none⟩) 1 1) [(.slice A b.length c, b)] W := fun pre W h =>
    ⟨⟨RowsAt.mk (xs := [(Value.slice A b.length c, b)]) (by simp [maxLen]) h.arr.lt (fun j hj i u hu => by
        simp only [List.length_singleton] at hj
        obtain rfl : j = 0 := by omega
        have : i = 0 := by have := (List.getElem?_eq_some_iff.1 hu).1; simp at this; exact this
        subst this
        rw [h.arr.cell]; exact hu), fun p hp => by simp only [List.mem_singleton] at hp; subst hp; exact HB.out.later h.below⟩,
      by rw [h.box.cell]; rfl, h.size⟩
  have hown := scan_own (s := w.heap.size) (w := w) (v := .slice A b.length c) (Nat.le_refl _)
  have hseq := records1_in (w.heap.size + 3) (w.heap.size + 4) (.slice (some ⟨w.heap.size + 2, 0, none⟩) 1 1) [(.slice A b.length c, b)] ⟨_, _, rfl⟩ (by simp) b.length (by simp) hl (by simpa using hb) (by simpa using hcap)
  rw [← hs3] at hown
  clear hW3
  refine rangeFunc_e (n := 2) rfl (by decide) (gf := 75) (lb := #[.pointer (some ⟨w.heap.size + 3, 0, none⟩)]) rfl trivial records1_enters hseq (fun _ => rfl)
    (ScanI w.heap.size w (.slice A b.length c)) hown hkp (own_from_u _ _ _) hI0
    (fun x => { tmps := #[.slice A b.length c, undef, .slice none 0 0, .int .i64 0, .pointer (some ⟨w.heap.size, 0, none⟩), .pointer (some ⟨w.heap.size + 1, 0, none⟩), .int .i64 x.at_, x.v, .slice A b.length c, .slice (some ⟨w.heap.size + 1 + 1, 0, none⟩) 1 1, .func (.func 75) #[] #[.pointer (some ⟨w.heap.size + 1 + 1 + 1, 0, none⟩)], .int .i64 x.at_, x.v, undef, undef, undef, undef, undef, undef, undef, undef, undef, undef, undef], defers := [] }) ?assign ?body ?done
  case assign =>
    intro l x W K hK
    gi_wp2_with gi_round_op_a
    exact hK
  case body =>
    rintro l pre ⟨e, u, bs⟩ W ⟨hE, heM⟩ hI hlen
    dsimp only at heM hE
    obtain ⟨A1, m1, c1, rfl⟩ := own_slice hE
    obtain rfl : m1 = bs.length := own_len hE
    obtain ⟨vo, ho, hp⟩ := hI.out
    have co := ho.cell 0
    have fo := ho.frozen 0
    have ce := hI.end_.cell 0
    have fe := hI.end_.frozen 0
    have hsz := hI.size
    have HP := Lib.hid hp
    have HI := Lib.hid hI
    have HE := Lib.hid hE
    have HO := Lib.hid ho
    have HEN := Lib.hid hI.end_
    have HNE : Hid (∀ j, j < w.heap.size + 4 → some j ≠ vo.ownBlock) := Lib.hid (fun j hj e => by have := own_ge hp.row e.symm; omega)
    clear hI hE hp ho
    gi_wp2_with (first
      | (gi_at_builtin; refine wpListIn_append_own _ rfl _ _ 56 rfl (w.heap.size + 4) 57 i0 (.slice none 0 0) 1 24 Tryz.underlying56 hi hz0 hz1 hz2 rfl (by decide) _ _ _ rfl (HP.out.row.alloc _) ⟨W.heap.size, 0, none⟩ 1 1 [.slice A1 bs.length c1] rfl rfl (cell_one_new _ _ _) (by simp [Value.oneCell']) (by simp; unfold maxLen; omega) (by simp; omega) (by simp; omega) ?_; intro v' w1 hown' hgrow _; obtain ⟨g', cap', rfl⟩ := ownsRow_succ hown'; have ho1 := (HO.out.alloc (.cells #[.slice A1 bs.length c1] 57)).kept hgrow (HNE.out _ (by omega)); have he1 := (HEN.out.alloc (.cells #[.slice A1 bs.length c1] 57)).kept hgrow (HNE.out _ (by omega)); have co1 := ho1.cell 0; have fo1 := ho1.frozen 0; have ce1 := he1.cell 0; have fe1 := he1.frozen 0)
      | gi_round_op_a)
    obtain ⟨hk, hs⟩ := HI.out.step ⟨e, .slice A1 bs.length c1, bs⟩ HE.out HO.out HP.out hgrow hown'
    have hlp : (pairs pre).length = pre.length := List.length_map _
    rw [hlp] at hk hs
    exact ⟨hk, trivial, hs⟩
  case done =>
    rintro D xs W hD ⟨e, hrf, hnone⟩ hI hK
    obtain ⟨vo, ho, hp⟩ := hI.out
    have co := ho.cell 0
    have fo := ho.frozen 0
    have ce := hI.end_.cell 0
    have hds : RecsFrom [b] xs e := hrf
    have hsc := hds.scan
    have hnn : rec1 (b.drop e) = none := by simpa [rec1M] using hnone
    rw [scan_none hnn, List.append_nil] at hsc
    have hend : endOf xs = (taken (scan b) : Int) := by rw [hds.endOf, hsc.2, hsc.1]
    rw [hend] at ce
    obtain ⟨A1, m1, c1, rfl⟩ := own_slice hp.row
    have HSC := Lib.hid hsc
    have HP := Lib.hid hp
    have HI := Lib.hid hI
    clear hds hsc hp ho hI hend hrf hnone hnn
    gi_wp2
    gi_quiet (fail)
    gi_wp2
    have hb9 := below_drewN0 (B := W.heap.size) (w := W) nq
    obtain ⟨w9, hw9⟩ : ∃ w9, W.drewN nq = w9 := ⟨_, rfl⟩
    have hK9 : w9.heap[D]? = some (.deferred (some [])) := by rw [← hw9]; exact hK
    rw [hw9] at hb9 ⊢
    refine ⟨by simp, .inl ⟨_, _, rfl, run_takeDeferred hK9, ?_⟩⟩
    refine ⟨_, results_tmp2 rfl _ _ _, .slice A1 m1 c1, pairs xs, rfl, ?_, ?_, ?_⟩
    · have h9 := (HP.out.later hb9).kept (grownBy_putObj_a w9 D (.deferred none)) (fun r e => by injection e with e; subst e; exact ⟨_, hK9, (fun cur e => by cases e), (fun cur e => by cases e)⟩)
      exact h9.mono (by omega)
    · rw [HSC.out.1]
      unfold pairs
      rw [List.map_map]
      rfl
    · exact (HI.out.below.trans (hb9.mono (by have := HI.out.size; omega))).grown (grownBy_putObj_a w9 D (.deferred none)) (by have := hb9.size; have := HI.out.size; omega) (fun k e => by injection e with e; omega)
end Go.Proofs.YtlamogpdkmbeoaaGreatDoor
end PartScanC

section PartJoinP
/- Parameters: a byte; rows of bytes. -/
set_option linter.unusedVariables false
set_option linter.unusedSimpArgs false
set_option maxRecDepth 100000
namespace Go.Proofs.YtlamogpdkmbeoaaGreatDoor
open Go.ChangeShapes Go.WideShapes Go.ChangeAt Go.RowKit Go.Deep Go.Shelf Go.Lib

section
variable {H : Type} {enc : TypeId × Value → H} {W : World} {n : Nat}
theorem parts_row {v : Value} (h : TR enc W n 56 [v]) : ∃ ps : List (Value × List Int), PartsAt W v ps ∧ ∀ p ∈ ps, AreBytes p.2 := by
  obtain ⟨ps, h1, h2⟩ := rows_of (encA := fun p : Value × List Int => [p.1]) 1 (by decide) Tryz.underlying56 kBytes (fun p => BytesAt W p.1 p.2 ∧ AreBytes p.2) (fun n cs hl hc => by
    match cs, hl with
    | [c], _ =>
      obtain ⟨xs, h1, h2⟩ := bytes_row hc
      exact ⟨(c, xs), rfl, h1, h2⟩) h
  exact ⟨ps, ⟨h1, fun p hp => (h2 p hp).1⟩, fun p hp => (h2 p hp).2⟩
theorem slice_cap {t e : TypeId} {v : Value} (ht : Tryz.prog.underlying t = some (.slice e)) (h : TR enc W n t [v]) : CapOk v := by
  obtain ⟨y, h⟩ := h
  intro A k c hv
  subst hv
  rcases open_slice ht h with ⟨hc, _⟩ | ⟨a, len, cap, m, n', D, Pl, hc, _, hl, hm, _⟩
  · simp only [List.cons.injEq, and_true, Value.slice.injEq] at hc
    omega
  · simp only [List.cons.injEq, and_true, Value.slice.injEq] at hc
    omega
theorem parts_arg {base : Nat} {v : Value} {d : DataW H} {p : List MemPlace} (hv : Value.okWide Tryz.prog W .any base 56 v) (hd : DataW.Trod enc Tryz.prog W 0 (fun _ => true) true 56 v d p) : ∃ ps : List (Value × List Int), (PartsAt W v ps ∧ ∀ p ∈ ps, AreBytes p.2) ∧ CapOk v := by
  obtain ⟨n, h⟩ := slice_trod Tryz.underlying56 hv hd
  obtain ⟨ps, h2⟩ := parts_row h
  exact ⟨ps, h2, slice_cap Tryz.underlying56 h⟩
theorem byte_arg {base : Nat} {v : Value} {d : DataW H} {p : List MemPlace} (hv : Value.okWide Tryz.prog W .any base 5 v) (hd : DataW.Trod enc Tryz.prog W 0 (fun _ => true) true 5 v d p) : ∃ m, v = .int .u8 m ∧ 0 ≤ m ∧ m < 256 := by
  obtain ⟨m, rfl⟩ := okWide_int Tryz.underlying5 hv
  obtain ⟨fuel, hf⟩ := hd
  obtain ⟨z, e, h1, h2⟩ := byte_cell (enc := enc) (W := W) (n := fuel) (c := .int .u8 m) ⟨(d, p), hf⟩
  exact ⟨m, rfl, by cases e; exact ⟨h1, h2⟩⟩
end
end Go.Proofs.YtlamogpdkmbeoaaGreatDoor
end PartJoinP
