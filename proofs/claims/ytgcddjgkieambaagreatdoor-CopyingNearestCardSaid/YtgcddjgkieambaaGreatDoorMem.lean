/- Words for memory, used by all walks of this seat: a block known whole, a row of cells known up to a place, slices that read as lists, what 'make' leaves. -/
import Derived.WalkKit
import Derived.Deep.Draws
import Derived.Deep.MidRow
set_option linter.unusedVariables false
set_option linter.unusedSimpArgs false
namespace Go.Proofs.YtgcddjgkieambaaGreatDoor
open Go.RowKit

theorem Blw.size {B : Nat} {a w : World} (h : Below B a w) : a.heap.size ≤ w.heap.size := h.size
theorem below_drewN' {B : Nat} {a w : World} (h : Below B a w) (n : Nat) : Below B a (w.drewN n) := ⟨h.os, h.tape, h.output, h.size, h.block⟩
theorem below_drewN0 {B : Nat} {w : World} (n : Nat) : Below B w (w.drewN n) := below_drewN' (Below.refl _ _) n
theorem below_alloc0 {w : World} (o : Obj) : Below w.heap.size w (w.alloc o) := (Below.refl _ _).alloc (Nat.le_refl _) o
/-- What lies, lies: from the beginning of a call to its later worlds. -/
theorem below_trans' {w w1 w2 : World} (h : Below w.heap.size w w1) (k : Below w1.heap.size w1 w2) : Below w.heap.size w w2 := h.trans (k.mono h.size)

/-- Block g is just the cells cs, none of them frozen. -/
def Blk (w : World) (g : Nat) (t : TypeId) (cs : Array Value) : Prop := w.heap[g]? = some (.cells cs t (0, 0))

section
variable {w w' : World} {g : Nat} {t : TypeId} {cs : Array Value}
theorem Blk.lt (h : Blk w g t cs) : g < w.heap.size := (Array.getElem?_eq_some_iff.1 h).1
theorem Blk.cell (h : Blk w g t cs) (i : Nat) : w.cell? ⟨g, i, none⟩ = cs[i]? := cell_of_row w g i cs t (0, 0) h
theorem Blk.frozen (h : Blk w g t cs) (i : Nat) : w.frozen? ⟨g, i, none⟩ = false := by
  unfold Blk at h; simp [World.frozen?, h]
theorem Blk.new (w : World) (t : TypeId) (cs : Array Value) : Blk (w.alloc (.cells cs t)) w.heap.size t cs := heap_alloc_new w _
theorem Blk.drew (h : Blk w g t cs) : Blk w.drew g t cs := h
theorem Blk.drewN (h : Blk w g t cs) (n : Nat) : Blk (w.drewN n) g t cs := h
theorem Blk.alloc (h : Blk w g t cs) (o : Obj) : Blk (w.alloc o) g t cs := (Below.heap_alloc w o g h.lt).trans h
theorem Blk.put (h : Blk w g t cs) (i : Nat) (u : Value) : Blk (w.setCell ⟨g, i, none⟩ u) g t (cs.setIfInBounds i u) := by
  unfold Blk at h ⊢; simp [World.setCell, Array.getElem?_modify, h]
theorem Blk.far (h : Blk w g t cs) {p : Addr} (hp : g ≠ p.block) (u : Value) : Blk (w.setCell p u) g t cs := (Below.heap_setCell w p u g hp).trans h
theorem Blk.below {B : Nat} (h : Blk w g t cs) (hb : Below B w w') (hg : g < B) : Blk w' g t cs := (hb.block g hg).trans h
theorem Blk.later (h : Blk w g t cs) (hb : Below w.heap.size w w') : Blk w' g t cs := h.below hb h.lt
end

/-- Block b is a row of 'size' cells, of which the first K hold h. -/
def RowK (w : World) (b : Nat) (t : TypeId) (size K : Nat) (h : Nat → Value) : Prop :=
  ∃ cs : Array Value, Blk w b t cs ∧ cs.size = size ∧ ∀ k, k < K → cs[k]? = some (h k)

section
variable {w w' : World} {b : Nat} {t : TypeId} {size K : Nat} {h : Nat → Value}
theorem RowK.lt (H : RowK w b t size K h) : b < w.heap.size := by obtain ⟨cs, hb, _⟩ := H; exact hb.lt
theorem RowK.cell (H : RowK w b t size K h) {k : Nat} (hk : k < K) : w.cell? ⟨b, k, none⟩ = some (h k) := by
  obtain ⟨cs, hb, _, hc⟩ := H; rw [hb.cell]; exact hc k hk
theorem RowK.has (H : RowK w b t size K h) {k : Nat} (hk : k < size) : ∃ v, w.cell? ⟨b, k, none⟩ = some v := by
  obtain ⟨cs, hb, hs, _⟩ := H; rw [hb.cell]; exact ⟨_, Array.getElem?_eq_getElem (by omega)⟩
theorem RowK.frozen (H : RowK w b t size K h) (k : Nat) : w.frozen? ⟨b, k, none⟩ = false := by
  obtain ⟨cs, hb, _⟩ := H; exact hb.frozen k
theorem RowK.next (H : RowK w b t size K h) (hK : K < size) {u : Value} (hu : u = h K) : RowK (w.setCell ⟨b, K, none⟩ u) b t size (K + 1) h := by
  obtain ⟨cs, hb, hs, hc⟩ := H
  subst hu
  refine ⟨_, hb.put K _, by simpa using hs, fun k hk => ?_⟩
  rw [Array.getElem?_setIfInBounds]
  by_cases e : K = k
  · subst e; simp [hs, hK]
  · rw [if_neg e]; exact hc k (by omega)
theorem RowK.far (H : RowK w b t size K h) {p : Addr} (hp : b ≠ p.block) (u : Value) : RowK (w.setCell p u) b t size K h := by
  obtain ⟨cs, hb, r⟩ := H; exact ⟨cs, hb.far hp u, r⟩
theorem RowK.alloc (H : RowK w b t size K h) (o : Obj) : RowK (w.alloc o) b t size K h := by
  obtain ⟨cs, hb, r⟩ := H; exact ⟨cs, hb.alloc o, r⟩
theorem RowK.drew (H : RowK w b t size K h) : RowK w.drew b t size K h := H
theorem RowK.drewN (H : RowK w b t size K h) (n : Nat) : RowK (w.drewN n) b t size K h := H
theorem RowK.below {B : Nat} (H : RowK w b t size K h) (hB : Below B w w') (hb : b < B) : RowK w' b t size K h := by
  obtain ⟨cs, hk, r⟩ := H; exact ⟨cs, hk.below hB hb, r⟩
theorem RowK.later (H : RowK w b t size K h) (hB : Below w.heap.size w w') : RowK w' b t size K h := H.below hB H.lt
theorem RowK.congr {h' : Nat → Value} (H : RowK w b t size K h) (e : ∀ k, k < K → h k = h' k) : RowK w b t size K h' := by
  obtain ⟨cs, hb, hs, hc⟩ := H; exact ⟨cs, hb, hs, fun k hk => by rw [hc k hk, e k hk]⟩
theorem RowK.less {K' : Nat} (H : RowK w b t size K h) (e : K' ≤ K) : RowK w b t size K' h := by
  obtain ⟨cs, hb, hs, hc⟩ := H; exact ⟨cs, hb, hs, fun k hk => hc k (by omega)⟩
theorem RowK.new (w : World) (t : TypeId) (cs : Array Value) (h : Nat → Value) {n : Nat} (hn : cs.size = n) : RowK (w.alloc (.cells cs t)) w.heap.size t n 0 h :=
  ⟨cs, Blk.new w t cs, hn, fun k hk => by omega⟩
end

/-- Block b is a row of just n cells, all known. -/
abbrev RowA (w : World) (b : Nat) (t : TypeId) (n : Nat) (f : Nat → Value) : Prop := RowK w b t n n f
theorem RowA.put {w : World} {b : Nat} {t : TypeId} {n : Nat} {f f' : Nat → Value} (H : RowA w b t n f) {k : Nat} {u : Value} (hf : ∀ j, j < n → f' j = if j = k then u else f j) : RowA (w.setCell ⟨b, k, none⟩ u) b t n f' := by
  obtain ⟨cs, hb, hs, hc⟩ := H
  refine ⟨_, hb.put k _, by simpa using hs, fun j hj => ?_⟩
  rw [Array.getElem?_setIfInBounds, hf j hj]
  by_cases e : k = j
  · subst e; simp [hs, hj]
  · rw [if_neg e, if_neg (fun h => e h.symm)]; exact hc j hj
theorem madeCells_at (z : Value) (n k : Nat) (hz : z.cells = #[z]) (hk : k < n) : (madeCells z.cells n)[k]? = some z := by
  simp [madeCells, hz, hk, Nat.mod_one]
theorem RowA.made (w : World) (t : TypeId) (z : Value) (n : Nat) (hz : z.cells = #[z]) : RowA (w.alloc (.cells (madeCells z.cells n) t)) w.heap.size t n (fun _ => z) :=
  ⟨_, Blk.new w t _, size_madeCells _ _, fun k hk => madeCells_at z n k hz hk⟩
/-- Rows of different element types lie in different blocks. -/
theorem RowK.ne_ {w : World} {b b' : Nat} {t t' : TypeId} {n n' K K' : Nat} {f f' : Nat → Value} (H : RowK w b t n K f) (H' : RowK w b' t' n' K' f') (h : t ≠ t') : b ≠ b' := by
  rintro rfl
  obtain ⟨cs, hb, _⟩ := H
  obtain ⟨cs', hb', _⟩ := H'
  unfold Blk at hb hb'
  rw [hb] at hb'
  injection hb' with h1
  injection h1 with _ h2
  exact h h2

/-- 'make([]T, n)', T of one cell, n a number that the walk has as a sum or as a cast. -/
theorem run_mk {P : Program} (t e : TypeId) (z : Value) (by_ : Nat) (ht : P.underlying t = some (.slice e)) (hi : (P.info? e).map (fun i => (i.zero, i.size, i.bytes)) = some (some z, 1, by_))
    (n : Nat) (N : Int) (hN : N = (n : Int)) (hb : by_ * n ≤ 281474976710656) (h63 : n ≤ 9223372036854775807) (w : World) :
    (Instr.makeSlice t (.int .i64 N) (.int .i64 N)).run P w = .ok (.slice (some ⟨w.heap.size, 0, none⟩) n n) (w.alloc (.cells (madeCells z.cells n) e)) := by
  subst hN
  obtain ⟨i, hi0, hz, hs, hby⟩ := info_parts hi
  have hb' : (i.bytes : Int) * (n : Int) ≤ 281474976710656 := by
    have h : ((by_ * n : Nat) : Int) ≤ 281474976710656 := by omega
    rw [hby]; rwa [Int.natCast_mul] at h
  have hr := run_make (P := P) w t e i z ht hi0 hz .i64 .i64 n n (by omega) (Int.le_refl _) hb' (by omega)
  simp only [Int.toNat_natCast, hs, Nat.mul_one] at hr
  exact hr

/-- A struct or an array put together: its cells are reckoned by the kernel. -/
theorem wpList_build_known {P : Program} {ops : Array Oper} {rest : List Oper} {op : Oper} {a : Act} {w : World} {Q : Exit → Act → World → Prop} (hgd : op.guard = none) (t : TypeId) (fs : Array (Nat × Operand)) (ho : op.op = .build t fs)
    (cells : Array Value) (hb : P.built t (fs.map fun (i, x) => (i, a.eval x)).toList = some cells) (h : wpList P ops Q rest (a.put op.dst (.agg cells)) w) : wpList P ops Q (op :: rest) a w :=
  wpList_plain hgd fun K hK => by
    unfold Oper.wp execOp
    simp only [ho, Sem.run_bind, Sem.run_pure]
    rw [run_build w t _ cells (by simpa using hb)]
    exact hK _ _ h
theorem there_blk {w : World} {b : Nat} {t : TypeId} {cs : Array Value} (h : Blk w b t cs) {n : Nat} (hn : n ≤ cs.size) : w.there b 0 n := fun j hj => by
  rw [Nat.zero_add]
  exact ⟨by rw [h.cell, Array.getElem?_eq_getElem (by omega)]; rfl, h.frozen j⟩
theorem Blk.range {w : World} {b : Nat} {t : TypeId} {cs : Array Value} (h : Blk w b t cs) : w.rangeAt b 0 cs.toList := fun j v hv => by
  rw [Nat.zero_add, h.cell]; simpa using hv
theorem Blk.setAll {w : World} {b : Nat} {t : TypeId} {cs : Array Value} (h : Blk w b t cs) : ∀ (vs : List Value) (o : Nat), ∃ cs', Blk (w.setCells b o vs) b t cs' ∧ cs'.size = cs.size := by
  intro vs
  induction vs generalizing w cs with
  | nil => intro o; exact ⟨cs, h, rfl⟩
  | cons v vs ih =>
    intro o
    obtain ⟨cs', h1, h2⟩ := ih (h.put o v) (o + 1)
    exact ⟨cs', h1, by simpa using h2⟩

theorem below_setCells {B : Nat} {b : Nat} (hb : B ≤ b) : ∀ (vs : List Value) (o : Nat) {a w : World}, Below B a w → Below B a (w.setCells b o vs)
  | [], _, _, _, h => h
  | v :: vs, o, _, _, h => below_setCells hb vs (o + 1) (h.setCell (p := ⟨b, o, none⟩) hb v)
theorem results_cell1 {fn : Func} {p : Tmp} {ty : TypeId} (h : fn.results = #[.cell p ty]) {tmps : Array Value} {P : Program} {w : World} {ad : Addr} {v : Value}
    (hp : tmps.getD p undef = .pointer (some ad)) (hl : (loadVar ty ad).run P w = .ok v w) : (results fn tmps).run P w = .ok v w := by
  have hp' : tmps[p]?.getD undef = .pointer (some ad) := by simpa using hp
  simp only [results, h]
  simp [Sem.run_bind, hp', asAddr, hl]
theorem results_cell2 {fn : Func} {p u : Tmp} {ty : TypeId} (h : fn.results = #[.cell p ty, .tmp u]) {tmps : Array Value} {P : Program} {w : World} {ad : Addr} {v : Value}
    (hp : tmps.getD p undef = .pointer (some ad)) (hl : (loadVar ty ad).run P w = .ok v w) : (results fn tmps).run P w = .ok (.tuple #[v, tmps.getD u undef]) w := by
  have hp' : tmps[p]?.getD undef = .pointer (some ad) := by simpa using hp
  simp only [results, h]
  simp [Sem.run_bind, hp', asAddr, hl]
end Go.Proofs.YtgcddjgkieambaaGreatDoor
