/- The texts Tk, AirA, Mem, AirB in one. -/
import Derived.Deep.RegionHeld
import Derived.KernelRfl
import Derived.Test.YtlamogpdkmbeoaaGreatDoorProg
import Derived.WalkKit
import Derived.WalkSpells
import Derived.WalkLawsBesides
import Derived.BigQuiet
import Derived.Deep.QuietTactic
import Derived.Lib.Hide
import Derived.Deep.RegionHeld3
import Derived.Shelf.GgClosure.StringsIndexFunc
import Derived.Outline
import Derived.Deep.Draws
import Derived.Deep.MidRow
import Derived.Test.YtlamogpdkmbeoaaGreatDoorZbShelf
import Derived.Deep.DeepCutAuto
set_option linter.unusedVariables false
set_option linter.unusedSimpArgs false
section PartTk
/- Short forms of the move 'this operation comes first' (for the printed walks of regions that draw). -/
namespace Go.Proofs.YtlamogpdkmbeoaaGreatDoor
open Go

section
variable {P : Program} {ops : Array Oper} {Q : Exit → Act → World → Prop} {md : Region.Mode} {S : World → Prop}
theorem tk1 {i : Nat} {oi : Oper} {v : Value} {fuel : Nat} {listed : Array Bool} {a : Act} {w : World} (hy : ∀ w, S w → (execOp a.eval oi).run P w = .ok (.value v) w)
    (h : wpAnyH P md ops Q S fuel (listed.setIfInBounds i true) (a.put oi.dst v) w) (hi : ops[i]? = some oi := by exact rfl) (hs : Region.noSelect ops = true := by kernel_rfl) (hf : Region.free md ops listed i = true := by kernel_rfl) (hr : (Region.ready md ops listed).contains i = true := by kernel_rfl)
    (hw : Region.wanted oi (yielded ops a.tmps) = true := by kernel_rfl) (hQ : ∀ c a w, Q (.panic c) (a.put oi.dst v) w → Q (.panic c) a w := by exact fun _ _ _ h => h) (hS : S w := by assumption) : wpAnyH P md ops Q S (fuel + 1) listed a w :=
  wpAnyH_take hi hs hf hr hQ (.inl ⟨hw, hy⟩) hS h
theorem tk2 {i : Nat} {oi : Oper} {fuel : Nat} {listed : Array Bool} {a : Act} {w : World}
    (h : wpAnyH P md ops Q S fuel (listed.setIfInBounds i true) (a.put oi.dst undef) w) (hi : ops[i]? = some oi := by exact rfl) (hs : Region.noSelect ops = true := by kernel_rfl) (hf : Region.free md ops listed i = true := by kernel_rfl) (hr : (Region.ready md ops listed).contains i = true := by kernel_rfl)
    (hw : Region.wanted oi (yielded ops a.tmps) = false := by kernel_rfl) (hQ : ∀ c a w, Q (.panic c) (a.put oi.dst undef) w → Q (.panic c) a w := by exact fun _ _ _ h => h) (hS : S w := by assumption) : wpAnyH P md ops Q S (fuel + 1) listed a w :=
  wpAnyH_take hi hs hf hr hQ (.inr ⟨hw, rfl⟩) hS h
theorem tk3 {i : Nat} {oi : Oper} {v : Value} {fuel : Nat} {listed : Array Bool} {a : Act} {w : World}
    (h : wpAnyH P md ops Q S fuel (listed.setIfInBounds i true) (a.put oi.dst v) w) (hi : ops[i]? = some oi := by exact rfl) (hy : ∀ w, S w → (execOp a.eval oi).run P w = .ok (.value v) w := by ((intro w hSw; (try dsimp only at hSw); go_simp) <;> with_reducible rfl)) (hs : Region.noSelect ops = true := by kernel_rfl) (hf : Region.free md ops listed i = true := by kernel_rfl) (hr : (Region.ready md ops listed).contains i = true := by kernel_rfl)
    (hw : Region.wanted oi (yielded ops a.tmps) = true := by kernel_rfl) (hQ : ∀ c a w, Q (.panic c) (a.put oi.dst v) w → Q (.panic c) a w := by exact fun _ _ _ h => h) (hS : S w := by assumption) : wpAnyH P md ops Q S (fuel + 1) listed a w :=
  wpAnyH_take hi hs hf hr hQ (.inl ⟨hw, hy⟩) hS h
end
theorem zq {α : Type} : (∀ (xs : List α) (i : Nat) (h : i < xs.toArray.size), xs.toArray[i] = xs[i]'(by simpa using h)) ∧ (∀ (a : α) (r : List α) (i : Nat) (h : i + 1 < (a :: r).length), (a :: r)[i + 1] = r[i]'(by simpa using h)) ∧ (∀ (a : α) (r : List α) (h : 0 < (a :: r).length), (a :: r)[0] = a) ∧
    (∀ (l : List α) (i : Nat) (a : α), l.toArray.setIfInBounds i a = (l.set i a).toArray) ∧ (∀ (a b : α) (r : List α), (a :: r).set 0 b = b :: r) ∧ (∀ (a b : α) (r : List α) (n : Nat), (a :: r).set (n + 1) b = a :: r.set n b) :=
  ⟨fun _ _ _ => by simp, fun _ _ _ _ => rfl, fun _ _ _ => rfl, fun _ _ _ => by simp, fun _ _ _ => rfl, fun _ _ _ _ => rfl⟩
end Go.Proofs.YtlamogpdkmbeoaaGreatDoor
end PartTk

section PartAirA
/- The walks of the leaves of call signs. -/
namespace Go.Proofs.YtlamogpdkmbeoaaGreatDoor
open Go.RowKit Go.Lib

def inB (n lo hi : Int) : Bool := decide (lo ≤ n) && decide (n ≤ hi)
theorem inB_iff {n lo hi : Int} : inB n lo hi = true ↔ lo ≤ n ∧ n ≤ hi := by simp [inB]

theorem awithin_any (n lo hi : Int) (w : World) : Calls Tryz.prog 257 #[.int .i64 n, .int .i64 lo, .int .i64 hi] w fun e w' => e = .returned (.bool (inB n lo hi)) ∧ w = w' := by
  by_cases h1 : lo ≤ n
  · by_cases h2 : n ≤ hi
    · go_enter Tryz.func257, Tryz.ntmps257
      go_wp2
      go_ret
      exact ⟨by simp [inB, h1, h2], rfl⟩
    · go_enter Tryz.func257, Tryz.ntmps257
      go_wp2
      go_ret
      exact ⟨by simp [inB, h1, h2], rfl⟩
  · go_enter Tryz.func257, Tryz.ntmps257
    go_wp2
    go_ret
    exact ⟨by simp [inB]; omega, rfl⟩
theorem lwithin_any (n lo hi : Int) (w : World) : Calls Tryz.prog 229 #[.int .i64 n, .int .i64 lo, .int .i64 hi] w fun e w' => e = .returned (.bool (inB n lo hi)) ∧ w = w' := by
  by_cases h1 : lo ≤ n
  · by_cases h2 : n ≤ hi
    · go_enter Tryz.func229, Tryz.ntmps229
      go_wp2
      go_ret
      exact ⟨by simp [inB, h1, h2], rfl⟩
    · go_enter Tryz.func229, Tryz.ntmps229
      go_wp2
      go_ret
      exact ⟨by simp [inB, h1, h2], rfl⟩
  · go_enter Tryz.func229, Tryz.ntmps229
    go_wp2
    go_ret
    exact ⟨by simp [inB]; omega, rfl⟩
theorem jwithin_any (n lo hi : Int) (w : World) : Calls Tryz.prog 45 #[.int .i64 n, .int .i64 lo, .int .i64 hi] w fun e w' => e = .returned (.bool (inB n lo hi)) ∧ w = w' := by
  by_cases h1 : lo ≤ n
  · by_cases h2 : n ≤ hi
    · go_enter Tryz.func45, Tryz.ntmps45
      go_wp2
      go_ret
      exact ⟨by simp [inB, h1, h2], rfl⟩
    · go_enter Tryz.func45, Tryz.ntmps45
      go_wp2
      go_ret
      exact ⟨by simp [inB, h1, h2], rfl⟩
  · go_enter Tryz.func45, Tryz.ntmps45
    go_wp2
    go_ret
    exact ⟨by simp [inB]; omega, rfl⟩

/-- A letter, a digit. -/
def letB (r : Nat) : Bool := decide (65 ≤ r) && decide (r ≤ 90)
def digB (r : Nat) : Bool := decide (48 ≤ r) && decide (r ≤ 57)
def eitB (r : Nat) : Bool := letB r || digB r
theorem letter_any (r : Nat) (w : World) : Calls Tryz.prog 264 #[.int .i32 (r : Int)] w fun e w' => e = .returned (.bool (letB r)) ∧ w = w' := by
  by_cases h1 : 65 ≤ r
  · by_cases h2 : r ≤ 90
    · have g1 : (65 : Int) ≤ r := by omega
      have g2 : (r : Int) ≤ 90 := by omega
      go_enter Tryz.func264, Tryz.ntmps264
      go_wp2
      go_ret
      exact ⟨by simp [letB, h1, h2], rfl⟩
    · have g1 : (65 : Int) ≤ r := by omega
      have g2 : ¬ (r : Int) ≤ 90 := by omega
      go_enter Tryz.func264, Tryz.ntmps264
      go_wp2
      go_ret
      exact ⟨by simp [letB, h1, h2], rfl⟩
  · have g1 : ¬ (65 : Int) ≤ r := by omega
    go_enter Tryz.func264, Tryz.ntmps264
    go_wp2
    go_ret
    exact ⟨by simp [letB, h1], rfl⟩
theorem digit_any (r : Nat) (w : World) : Calls Tryz.prog 262 #[.int .i32 (r : Int)] w fun e w' => e = .returned (.bool (digB r)) ∧ w = w' := by
  by_cases h1 : 48 ≤ r
  · by_cases h2 : r ≤ 57
    · have g1 : (48 : Int) ≤ r := by omega
      have g2 : (r : Int) ≤ 57 := by omega
      go_enter Tryz.func262, Tryz.ntmps262
      go_wp2
      go_ret
      exact ⟨by simp [digB, h1, h2], rfl⟩
    · have g1 : (48 : Int) ≤ r := by omega
      have g2 : ¬ (r : Int) ≤ 57 := by omega
      go_enter Tryz.func262, Tryz.ntmps262
      go_wp2
      go_ret
      exact ⟨by simp [digB, h1, h2], rfl⟩
  · have g1 : ¬ (48 : Int) ≤ r := by omega
    go_enter Tryz.func262, Tryz.ntmps262
    go_wp2
    go_ret
    exact ⟨by simp [digB, h1], rfl⟩
theorem either_any (r : Nat) (w : World) : Calls Tryz.prog 265 #[.int .i32 (r : Int)] w fun e w' => e = .returned (.bool (eitB r)) ∧ w = w' := by
  have hl := fun w => letter_any r w
  have hd := fun w => digit_any r w
  unfold eitB
  generalize letB r = x at hl ⊢
  generalize digB r = y at hd ⊢
  cases x
  · go_enter Tryz.func265, Tryz.ntmps265
    go_wp2_with (first | (go_at_call 264; refine (hl _).mono ?_; rintro e w' ⟨rfl, rfl⟩) | (go_at_call 262; refine (hd _).mono ?_; rintro e w' ⟨rfl, rfl⟩))
    go_ret
    exact ⟨by simp, rfl⟩
  · go_enter Tryz.func265, Tryz.ntmps265
    go_wp2_with (go_at_call 264; refine (hl _).mono ?_; rintro e w' ⟨rfl, rfl⟩)
    go_ret
    exact ⟨by simp, rfl⟩

theorem letter_at (w : World) : PredAt Tryz.prog 264 #[] encR letB w := fun W r _ => (letter_any r W).mono fun _ _ ⟨he, hw⟩ => ⟨he, 0, hw.symm⟩
theorem digit_at (w : World) : PredAt Tryz.prog 262 #[] encR digB w := fun W r _ => (digit_any r W).mono fun _ _ ⟨he, hw⟩ => ⟨he, 0, hw.symm⟩
theorem either_at (w : World) : PredAt Tryz.prog 265 #[] encR eitB w := fun W r _ => (either_any r W).mono fun _ _ ⟨he, hw⟩ => ⟨he, 0, hw.symm⟩
theorem letter_enters : ∀ args w, (callFunc 264 args).run Tryz.prog w = .ok (.enter 264 args) w := enters_of Tryz.func264 (by kernel_rfl) rfl
theorem digit_enters : ∀ args w, (callFunc 262 args).run Tryz.prog w = .ok (.enter 262 args) w := enters_of Tryz.func262 (by kernel_rfl) rfl
theorem either_enters : ∀ args w, (callFunc 265 args).run Tryz.prog w = .ok (.enter 265 args) w := enters_of Tryz.func265 (by kernel_rfl) rfl

/-- A text of 1 to most bytes, all characters of which are such. -/
def onlyB (p : Nat → Bool) (most : Int) (s : ByteArray) : Bool := (Lib.idxFunc p false s == -1) && inB s.size 1 most

set_option maxHeartbeats 1000000 in
theorem only_any (g : Nat) (eg : ∀ args w, (callFunc g args).run Tryz.prog w = .ok (.enter g args) w) (p : Nat → Bool) (s : ByteArray) (most : Int) (w : World) (hp : PredAt Tryz.prog g #[] encR p w) :
    Calls Tryz.prog 263 #[.string s, .int .i64 most, .func (.func g) #[] #[]] w fun e w' => e = .returned (.bool (onlyB p most s)) ∧ Below w.heap.size w w' := by
  unfold onlyB
  go_enter Tryz.func263, Tryz.ntmps263
  go_wp2
  go_loopg [8] s.size (fun gf _ wx => ∃ pos : Nat, wx.heap[w.heap.size]? = some (.stringIter s pos) ∧ Below w.heap.size w wx ∧ Lib.idxFuncFrom p false s gf pos = Lib.idxFunc p false s ∧ s.size ≤ pos + gf)
  case atStart => exact ⟨0, World.iter_heap w s 0, (Below.refl _ w).alloc (Nat.le_refl _) _, rfl, by omega⟩
  case round =>
    obtain ⟨pos, hit, hbw, hleft, hfu⟩ := hrel
    by_cases hps : pos < s.size
    · obtain ⟨g', rfl⟩ : ∃ g', gk = g' + 1 := ⟨gk - 1, by omega⟩
      have hnx : ∀ ty, (Instr.next (.pointer (some ⟨w.heap.size, 0, none⟩)) true ty).run Tryz.prog wr = _ := fun ty => Lib.run_next_any_at wr w.heap.size s pos ty hit hps
      have hwd := Lib.width_pos s pos
      obtain ⟨R, hR⟩ : ∃ R, (Utf8.decode s pos).1 = R := ⟨_, rfl⟩
      obtain ⟨K, hK⟩ : ∃ K, (Utf8.decode s pos).2 = K := ⟨_, rfl⟩
      simp only [Lib.idxFuncFrom, hps, if_true, hR, hK] at hleft
      rw [hR, hK] at hnx
      rw [hK] at hwd
      have hit2 := Lib.iterAt_heap wr w.heap.size s pos (pos + K) hit
      have hbw2 := Lib.below_iterAt hbw (k := w.heap.size) (Nat.le_refl _) s (pos + K)
      obtain ⟨W, hWd⟩ : ∃ W, wr.iterAt w.heap.size s (pos + K) = W := ⟨_, rfl⟩
      rw [hWd] at hnx hit2 hbw2
      have cS : Calls Tryz.prog g (#[.int .i32 (R : Int)] ++ #[]) W _ := hp W R hbw2
      clear hp
      cases hsp : p R <;> rw [hsp] at cS <;> simp only [hsp, if_true, Bool.false_eq_true, Bool.true_eq_false, if_false] at hleft
      · have hno : (Lib.idxFunc p false s == -1) = false := by rw [← hleft]; simp
        have hno := Lib.hid hno
        clear hleft
        go_wp2_with (go_at_fn g; refine cS.mono ?_; rintro e W' ⟨rfl, q, rfl⟩)
        go_ret
        exact ⟨by rw [hno.out]; rfl, below_drewN' hbw2 q⟩
      · have hleft := Lib.hid hleft
        go_wp2_with (go_at_fn g; refine cS.mono ?_; rintro e W' ⟨rfl, q, rfl⟩)
        go_roundg g'
        case measure => omega
        case rel => exact ⟨pos + K, hit2, below_drewN' hbw2 q, hleft.out, by omega⟩
    · have hnx : ∀ ty, (Instr.next (.pointer (some ⟨w.heap.size, 0, none⟩)) true ty).run Tryz.prog wr = _ := fun ty => Lib.run_next_end_at wr w.heap.size s pos ty hit hps
      rw [Lib.idxFuncFrom_end p false s gk pos hps] at hleft
      have hno : (Lib.idxFunc p false s == -1) = true := by rw [← hleft]; rfl
      have hno := Lib.hid hno
      clear hleft
      go_wp2_with (go_at_call 257; refine (awithin_any _ _ _ _).mono ?_; rintro e w' ⟨rfl, rfl⟩)
      go_ret
      exact ⟨by rw [hno.out]; rfl, hbw⟩
end Go.Proofs.YtlamogpdkmbeoaaGreatDoor
end PartAirA

section PartMem
/- Words for memory, used by all walks of this seat: a block known whole, a row of cells known up to a place, slices that read as lists, what 'make' leaves. -/
namespace Go.Proofs.YtlamogpdkmbeoaaGreatDoor
open Go.RowKit

theorem Blw.size {B : Nat} {a w : World} (h : Below B a w) : a.heap.size ≤ w.heap.size := h.size
theorem below_drewN' {B : Nat} {a w : World} (h : Below B a w) (n : Nat) : Below B a (w.drewN n) := ⟨h.os, h.tape, h.output, h.size, h.block⟩
theorem below_drewN0 {B : Nat} {w : World} (n : Nat) : Below B w (w.drewN n) := below_drewN' (Below.refl _ _) n
theorem below_alloc0 {w : World} (o : Obj) : Below w.heap.size w (w.alloc o) := (Below.refl _ _).alloc (Nat.le_refl _) o
/-- Block g is just the cells cs, none of them frozen. -/
def Blk (w : World) (g : Nat) (t : TypeId) (cs : Array Value) : Prop := w.heap[g]? = some (.cells cs t (0, 0))

section
variable {w w' : World} {g : Nat} {t : TypeId} {cs : Array Value}
theorem Blk.lt (h : Blk w g t cs) : g < w.heap.size := (Array.getElem?_eq_some_iff.1 h).1
theorem Blk.cell (h : Blk w g t cs) (i : Nat) : w.cell? ⟨g, i, none⟩ = cs[i]? := cell_of_row w g i cs t (0, 0) h
theorem Blk.frozen (h : Blk w g t cs) (i : Nat) : w.frozen? ⟨g, i, none⟩ = false := by
  unfold Blk at h; simp [World.frozen?, h]
theorem Blk.new (w : World) (t : TypeId) (cs : Array Value) : Blk (w.alloc (.cells cs t)) w.heap.size t cs := heap_alloc_new w _
theorem Blk.drew (h : Blk w g t cs) : Blk w.drew g t cs := h
theorem Blk.drewN (h : Blk w g t cs) (n : Nat) : Blk (w.drewN n) g t cs := h
theorem Blk.alloc (h : Blk w g t cs) (o : Obj) : Blk (w.alloc o) g t cs := (Below.heap_alloc w o g h.lt).trans h
theorem Blk.put (h : Blk w g t cs) (i : Nat) (u : Value) : Blk (w.setCell ⟨g, i, none⟩ u) g t (cs.setIfInBounds i u) := by
  unfold Blk at h ⊢; simp [World.setCell, Array.getElem?_modify, h]
theorem Blk.far (h : Blk w g t cs) {p : Addr} (hp : g ≠ p.block) (u : Value) : Blk (w.setCell p u) g t cs := (Below.heap_setCell w p u g hp).trans h
theorem Blk.below {B : Nat} (h : Blk w g t cs) (hb : Below B w w') (hg : g < B) : Blk w' g t cs := (hb.block g hg).trans h
theorem Blk.later (h : Blk w g t cs) (hb : Below w.heap.size w w') : Blk w' g t cs := h.below hb h.lt
end

/-- Block b is a row of 'size' cells, of which the first K hold h. -/
def RowK (w : World) (b : Nat) (t : TypeId) (size K : Nat) (h : Nat → Value) : Prop :=
  ∃ cs : Array Value, Blk w b t cs ∧ cs.size = size ∧ ∀ k, k < K → cs[k]? = some (h k)

section
variable {w w' : World} {b : Nat} {t : TypeId} {size K : Nat} {h : Nat → Value}
theorem RowK.lt (H : RowK w b t size K h) : b < w.heap.size := by obtain ⟨cs, hb, _⟩ := H; exact hb.lt
theorem RowK.cell (H : RowK w b t size K h) {k : Nat} (hk : k < K) : w.cell? ⟨b, k, none⟩ = some (h k) := by
  obtain ⟨cs, hb, _, hc⟩ := H; rw [hb.cell]; exact hc k hk
theorem RowK.has (H : RowK w b t size K h) {k : Nat} (hk : k < size) : ∃ v, w.cell? ⟨b, k, none⟩ = some v := by
  obtain ⟨cs, hb, hs, _⟩ := H; rw [hb.cell]; exact ⟨_, Array.getElem?_eq_getElem (by omega)⟩
theorem RowK.frozen (H : RowK w b t size K h) (k : Nat) : w.frozen? ⟨b, k, none⟩ = false := by
  obtain ⟨cs, hb, _⟩ := H; exact hb.frozen k
theorem RowK.next (H : RowK w b t size K h) (hK : K < size) {u : Value} (hu : u = h K) : RowK (w.setCell ⟨b, K, none⟩ u) b t size (K + 1) h := by
  obtain ⟨cs, hb, hs, hc⟩ := H
  subst hu
  refine ⟨_, hb.put K _, by simpa using hs, fun k hk => ?_⟩
  rw [Array.getElem?_setIfInBounds]
  by_cases e : K = k
  · subst e; simp [hs, hK]
  · rw [if_neg e]; exact hc k (by omega)
theorem RowK.far (H : RowK w b t size K h) {p : Addr} (hp : b ≠ p.block) (u : Value) : RowK (w.setCell p u) b t size K h := by
  obtain ⟨cs, hb, r⟩ := H; exact ⟨cs, hb.far hp u, r⟩
theorem RowK.alloc (H : RowK w b t size K h) (o : Obj) : RowK (w.alloc o) b t size K h := by
  obtain ⟨cs, hb, r⟩ := H; exact ⟨cs, hb.alloc o, r⟩
theorem RowK.drew (H : RowK w b t size K h) : RowK w.drew b t size K h := H
theorem RowK.drewN (H : RowK w b t size K h) (n : Nat) : RowK (w.drewN n) b t size K h := H
theorem RowK.below {B : Nat} (H : RowK w b t size K h) (hB : Below B w w') (hb : b < B) : RowK w' b t size K h := by
  obtain ⟨cs, hk, r⟩ := H; exact ⟨cs, hk.below hB hb, r⟩
theorem RowK.later (H : RowK w b t size K h) (hB : Below w.heap.size w w') : RowK w' b t size K h := H.below hB H.lt
theorem RowK.congr {h' : Nat → Value} (H : RowK w b t size K h) (e : ∀ k, k < K → h k = h' k) : RowK w b t size K h' := by
  obtain ⟨cs, hb, hs, hc⟩ := H; exact ⟨cs, hb, hs, fun k hk => by rw [hc k hk, e k hk]⟩
theorem RowK.new (w : World) (t : TypeId) (cs : Array Value) (h : Nat → Value) {n : Nat} (hn : cs.size = n) : RowK (w.alloc (.cells cs t)) w.heap.size t n 0 h :=
  ⟨cs, Blk.new w t cs, hn, fun k hk => by omega⟩
end

/-- Block b is a row of just n cells, all known. -/
abbrev RowA (w : World) (b : Nat) (t : TypeId) (n : Nat) (f : Nat → Value) : Prop := RowK w b t n n f
theorem RowA.put {w : World} {b : Nat} {t : TypeId} {n : Nat} {f f' : Nat → Value} (H : RowA w b t n f) {k : Nat} {u : Value} (hf : ∀ j, j < n → f' j = if j = k then u else f j) : RowA (w.setCell ⟨b, k, none⟩ u) b t n f' := by
  obtain ⟨cs, hb, hs, hc⟩ := H
  refine ⟨_, hb.put k _, by simpa using hs, fun j hj => ?_⟩
  rw [Array.getElem?_setIfInBounds, hf j hj]
  by_cases e : k = j
  · subst e; simp [hs, hj]
  · rw [if_neg e, if_neg (fun h => e h.symm)]; exact hc j hj
theorem madeCells_at (z : Value) (n k : Nat) (hz : z.cells = #[z]) (hk : k < n) : (madeCells z.cells n)[k]? = some z := by
  simp [madeCells, hz, hk, Nat.mod_one]
theorem RowA.made (w : World) (t : TypeId) (z : Value) (n : Nat) (hz : z.cells = #[z]) : RowA (w.alloc (.cells (madeCells z.cells n) t)) w.heap.size t n (fun _ => z) :=
  ⟨_, Blk.new w t _, size_madeCells _ _, fun k hk => madeCells_at z n k hz hk⟩
theorem there_blk {w : World} {b : Nat} {t : TypeId} {cs : Array Value} (h : Blk w b t cs) {n : Nat} (hn : n ≤ cs.size) : w.there b 0 n := fun j hj => by
  rw [Nat.zero_add]
  exact ⟨by rw [h.cell, Array.getElem?_eq_getElem (by omega)]; rfl, h.frozen j⟩
theorem Blk.range {w : World} {b : Nat} {t : TypeId} {cs : Array Value} (h : Blk w b t cs) : w.rangeAt b 0 cs.toList := fun j v hv => by
  rw [Nat.zero_add, h.cell]; simpa using hv
theorem below_setCells {B : Nat} {b : Nat} (hb : B ≤ b) : ∀ (vs : List Value) (o : Nat) {a w : World}, Below B a w → Below B a (w.setCells b o vs)
  | [], _, _, _, h => h
  | v :: vs, o, _, _, h => below_setCells hb vs (o + 1) (h.setCell (p := ⟨b, o, none⟩) hb v)
theorem results_cell1 {fn : Func} {p : Tmp} {ty : TypeId} (h : fn.results = #[.cell p ty]) {tmps : Array Value} {P : Program} {w : World} {ad : Addr} {v : Value}
    (hp : tmps.getD p undef = .pointer (some ad)) (hl : (loadVar ty ad).run P w = .ok v w) : (results fn tmps).run P w = .ok v w := by
  have hp' : tmps[p]?.getD undef = .pointer (some ad) := by simpa using hp
  simp only [results, h]
  simp [Sem.run_bind, hp', asAddr, hl]
theorem results_cell2 {fn : Func} {p u : Tmp} {ty : TypeId} (h : fn.results = #[.cell p ty, .tmp u]) {tmps : Array Value} {P : Program} {w : World} {ad : Addr} {v : Value}
    (hp : tmps.getD p undef = .pointer (some ad)) (hl : (loadVar ty ad).run P w = .ok v w) : (results fn tmps).run P w = .ok (.tuple #[v, tmps.getD u undef]) w := by
  have hp' : tmps[p]?.getD undef = .pointer (some ad) := by simpa using hp
  simp only [results, h]
  simp [Sem.run_bind, hp', asAddr, hl]
end Go.Proofs.YtlamogpdkmbeoaaGreatDoor
end PartMem

section PartAirB
/- The walks of call signs: areas, bases, strokes. -/
namespace Go.Proofs.YtlamogpdkmbeoaaGreatDoor
open Go.RowKit Go.Lib Go.Shelf

/-- What the walks need of the world: the tables of Go's library that are read. -/
structure Env (w : World) : Prop where
  utf : Lib.Utf8Tabs 1 2 w
  len : ∃ m, w.cell? ⟨0, 0, none⟩ = some (.int .i64 m)
  big : 3 ≤ w.heap.size
theorem Env.below {B : Nat} {w w' : World} (h : Env w) (hB : 3 ≤ B) (hb : Below B w w') : Env w' where
  utf := ⟨fun c hc => (hb.cell (by show 1 < B; omega)).trans (h.utf.1 c hc), fun i hi => ⟨(hb.cell (by show 2 < B; omega)).trans (h.utf.2 i hi).1, (hb.cell (by show 2 < B; omega)).trans (h.utf.2 i hi).2⟩⟩
  len := by
    obtain ⟨m, hm⟩ := h.len
    exact ⟨m, (hb.cell (p := ⟨0, 0, none⟩) (by show 0 < B; omega)).trans hm⟩
  big := Nat.le_trans h.big hb.size

def areaB (s : ByteArray) : Bool := onlyB eitB 4 s && decide (0 ≤ Lib.idxFunc letB true s)
/-- Where the suffix of a base begins. -/
def cutB (s : ByteArray) : Int := Lib.lastIdxFunc digB true s + 1
def baseB (s : ByteArray) : Bool := decide (0 < cutB s) && areaB (s.extract 0 (cutB s).toNat) && onlyB letB 4 (s.extract (cutB s).toNat s.size)
def strokeB (s : ByteArray) : Bool := onlyB letB 4 s || onlyB digB 1 s

theorem ret_b3 {a b : Value} {x y : Bool} (h : x = y) : Ending.returned (.tuple #[a, b, .bool x]) = .returned (.tuple #[a, b, .bool y]) := by rw [h]
theorem lastIdx_lt (p : Nat → Bool) (t : Bool) (s : ByteArray) : ∀ (f i : Nat), i ≤ s.size → 0 ≤ lastIdxFuncFrom p t s f i + 1 ∧ lastIdxFuncFrom p t s f i + 1 ≤ i
  | 0, i, _ => by simp [lastIdxFuncFrom]
  | f + 1, i, hi => by
    unfold lastIdxFuncFrom
    by_cases h0 : 0 < i
    · rw [if_pos h0]
      have hw := decodeLastL_width (s.data.toList.take i) (by rw [List.length_take, ← Lib.size_eq]; omega)
      have hl : (s.data.toList.take i).length ≤ i := List.length_take_le _ _
      split
      · omega
      · have := lastIdx_lt p t s f (i - (decodeLastL (s.data.toList.take i)).2) (by omega)
        omega
    · rw [if_neg h0]; omega
theorem cutB_bd (s : ByteArray) : 0 ≤ cutB s ∧ cutB s ≤ s.size := by
  unfold cutB lastIdxFunc
  exact lastIdx_lt digB true s s.size s.size (Nat.le_refl _)

theorem area_any (s : ByteArray) (w : World) : Calls Tryz.prog 249 #[.string s] w fun e w' => e = .returned (.bool (areaB s)) ∧ Below w.heap.size w w' := by
  have h1 := fun w => only_any 265 either_enters eitB s 4 w (either_at w)
  have h2 := fun w => Tryz.strings_IndexFunc 264 #[] letter_enters letB s w (letter_at w)
  unfold areaB
  generalize onlyB eitB 4 s = x at h1 ⊢
  generalize Lib.idxFunc letB true s = y at h2 ⊢
  cases x
  · go_enter Tryz.func249, Tryz.ntmps249
    go_wp2_with (go_at_call 263; refine (h1 _).mono ?_; rintro e w1 ⟨rfl, hb1⟩)
    go_ret
    exact ⟨by simp, hb1⟩
  · by_cases hy : 0 ≤ y
    · go_enter Tryz.func249, Tryz.ntmps249
      go_wp2_with (first | (go_at_call 263; refine (h1 _).mono ?_; rintro e w1 ⟨rfl, hb1⟩) | (go_at_call 266; refine (h2 _).mono ?_; rintro e w2 ⟨rfl, hb2⟩))
      go_ret
      exact ⟨by simp [hy], hb1.trans (hb2.mono hb1.size)⟩
    · go_enter Tryz.func249, Tryz.ntmps249
      go_wp2_with (first | (go_at_call 263; refine (h1 _).mono ?_; rintro e w1 ⟨rfl, hb1⟩) | (go_at_call 266; refine (h2 _).mono ?_; rintro e w2 ⟨rfl, hb2⟩))
      go_ret
      exact ⟨by simp [hy], hb1.trans (hb2.mono hb1.size)⟩

theorem stroke_any (s : ByteArray) (w : World) : Calls Tryz.prog 251 #[.string s] w fun e w' => e = .returned (.bool (strokeB s)) ∧ Below w.heap.size w w' := by
  have h1 := fun w => only_any 264 letter_enters letB s 4 w (letter_at w)
  have h2 := fun w => only_any 262 digit_enters digB s 1 w (digit_at w)
  unfold strokeB
  generalize onlyB letB 4 s = x at h1 ⊢
  generalize onlyB digB 1 s = y at h2 ⊢
  cases x
  · go_enter Tryz.func251, Tryz.ntmps251
    go_wp2_with (first | (go_at_call 263; ((with_reducible refine (h1 _).mono ?_); rintro e w1 ⟨rfl, hb1⟩)) | (go_at_call 263; ((with_reducible refine (h2 _).mono ?_); rintro e w2 ⟨rfl, hb2⟩)))
    go_ret
    exact ⟨by simp, hb1.trans (hb2.mono hb1.size)⟩
  · go_enter Tryz.func251, Tryz.ntmps251
    go_wp2_with (go_at_call 263; ((with_reducible refine (h1 _).mono ?_); rintro e w1 ⟨rfl, hb1⟩))
    go_ret
    exact ⟨by simp, hb1⟩

theorem lastIndex_any (s : ByteArray) (w : World) (hs : s.size ≤ 9223372036854775807) (hE : Env w) : Calls Tryz.prog 261 #[.string s, .func (.func 262) #[] #[]] w fun e w' => e = .returned (.int .i64 (Lib.lastIdxFunc digB true s)) ∧ Below w.heap.size w w' := by
  have h1 := Tryz.strings_lastIndexFunc 262 #[] digit_enters digB true s w hs hE.utf (digit_at w)
  clear hE
  go_enter Tryz.func261, Tryz.ntmps261
  go_wp2_with (go_at_call 272; refine h1.mono ?_; rintro e w1 ⟨rfl, hb1⟩)
  go_ret
  exact ⟨rfl, hb1⟩

theorem base_any (s : ByteArray) (w : World) (hs : s.size ≤ 9223372036854775807) (hE : Env w) :
    Calls Tryz.prog 246 #[.string s] w fun e w' => (∃ a b, e = .returned (.tuple #[.string a, .string b, .bool (baseB s)])) ∧ Below w.heap.size w w' := by
  have h0 := lastIndex_any s w hs hE
  have hk := cutB_bd s
  have hcut : Lib.lastIdxFunc digB true s = cutB s - 1 := by unfold cutB; omega
  rw [hcut] at h0
  have h1 := fun w => area_any (s.extract 0 (cutB s).toNat) w
  have h2 := fun w => only_any 264 letter_enters letB (s.extract (cutB s).toNat s.size) 4 w (letter_at w)
  unfold baseB
  generalize areaB (s.extract 0 (cutB s).toNat) = x at h1 ⊢
  generalize onlyB letB 4 (s.extract (cutB s).toNat s.size) = y at h2 ⊢
  clear hcut hE
  generalize cutB s = z at hk h0 h1 h2 ⊢
  obtain ⟨k, rfl⟩ : ∃ k : Nat, z = k := ⟨z.toNat, by omega⟩
  rw [Int.toNat_natCast] at h1 h2
  have hk1 : k ≤ s.size := by omega
  have hk0 : (0 : Int) ≤ k := by omega
  have hk2 : (k : Int) ≤ s.size := by omega
  clear hk
  by_cases hz : 0 < k
  · have hz' : (0 : Int) < k := by omega
    cases x
    · go_enter Tryz.func246, Tryz.ntmps246
      go_wp2_with (go_at_call 261; refine h0.mono ?_; rintro e w1 ⟨rfl, hb1⟩)
      go_quiet (fail)
      go_wp2_with (go_at_call 249; refine (h1 _).mono ?_; rintro e w2 ⟨rfl, hb2⟩)
      go_ret3
      exact ⟨⟨_, _, ret_b3 (by simp)⟩, hb1.trans ((below_drewN' (Below.refl _ _) _).trans (hb2.mono hb1.size))⟩
    · go_enter Tryz.func246, Tryz.ntmps246
      go_wp2_with (go_at_call 261; refine h0.mono ?_; rintro e w1 ⟨rfl, hb1⟩)
      go_quiet (fail)
      go_wp2_with (first | (go_at_call 249; refine (h1 _).mono ?_; rintro e w2 ⟨rfl, hb2⟩) | (go_at_call 263; refine (h2 _).mono ?_; rintro e w3 ⟨rfl, hb3⟩))
      go_ret3
      exact ⟨⟨_, _, ret_b3 (by simp [hz])⟩, hb1.trans ((below_drewN' (Below.refl _ _) _).trans ((hb2.mono hb1.size).trans (hb3.mono (Nat.le_trans hb1.size hb2.size))))⟩
  · have hz' : ¬ (0 : Int) < k := by omega
    go_enter Tryz.func246, Tryz.ntmps246
    go_wp2_with (go_at_call 261; refine h0.mono ?_; rintro e w1 ⟨rfl, hb1⟩)
    go_quiet (fail)
    go_wp2
    go_ret3
    exact ⟨⟨_, _, ret_b3 (by simp [hz])⟩, below_drewN' hb1 _⟩
end Go.Proofs.YtlamogpdkmbeoaaGreatDoor
end PartAirB
