/- The texts Wide, NoteA, NoteS, FrP in one. -/
import Derived.Test.YtlamogpdkmbeoaaGreatDoorZaAir
import Derived.Laws.AppendOwn
import Derived.Test.YtlamogpdkmbeoaaGreatDoorZaLogC
section PartWide
/- Structs of many cells: a store lays the whole block anew; a load reads the whole block; what a call hands back beside it. -/
set_option linter.unusedVariables false
set_option linter.unusedSimpArgs false
namespace Go.Proofs.YtlamogpdkmbeoaaGreatDoor
open Go.RowKit

def setFrom (cs : Array Value) : Nat → List Value → Array Value
  | _, [] => cs
  | o, v :: r => setFrom (cs.setIfInBounds o v) (o + 1) r
theorem setFrom_size : ∀ (vs : List Value) (o : Nat) (cs : Array Value), (setFrom cs o vs).size = cs.size
  | [], _, _ => rfl
  | v :: r, o, cs => by unfold setFrom; rw [setFrom_size r]; simp
theorem setFrom_get : ∀ (vs : List Value) (o : Nat) (cs : Array Value) (j : Nat), o + vs.length ≤ cs.size → (setFrom cs o vs)[j]? = if o ≤ j ∧ j < o + vs.length then vs[j - o]? else cs[j]?
  | [], o, cs, j, _ => by unfold setFrom; rw [if_neg (by simp)]
  | v :: r, o, cs, j, h => by
    unfold setFrom
    simp only [List.length_cons] at h ⊢
    rw [setFrom_get r (o + 1) _ j (by simp; omega), Array.getElem?_setIfInBounds]
    by_cases h1 : o + 1 ≤ j ∧ j < o + 1 + r.length
    · rw [if_pos h1, if_pos (by omega), show j - o = (j - (o + 1)) + 1 by omega, List.getElem?_cons_succ]
    · rw [if_neg h1]
      by_cases h2 : o = j
      · subst h2
        rw [if_pos rfl, if_pos (by omega), if_pos (by omega), Nat.sub_self, List.getElem?_cons_zero]
      · rw [if_neg h2, if_neg (by omega)]
theorem setFrom_all (cs : Array Value) (vs : List Value) (h : vs.length = cs.size) : setFrom cs 0 vs = vs.toArray := by
  apply Array.ext_getElem?
  intro j
  rw [setFrom_get vs 0 cs j (by omega)]
  by_cases hj : j < vs.length
  · rw [if_pos (by omega)]; simp
  · rw [if_neg (by omega), Array.getElem?_eq_none (by omega), Array.getElem?_eq_none (by simp; omega)]

section
variable {P : Program} {w w' : World} {g : Nat} {t : TypeId} {cs : Array Value}
theorem Blk.setCells (vs : List Value) : ∀ (o : Nat) {w : World} {cs : Array Value}, Blk w g t cs → Blk (w.setCells g o vs) g t (setFrom cs o vs) := by
  induction vs with
  | nil => intro o w cs h; exact h
  | cons v r ih => intro o w cs h; exact ih (o + 1) (h.put o v)
theorem Blk.whole (h : Blk w g t cs) (vs : Array Value) (hl : vs.size = cs.size) : Blk (w.setCells g 0 vs.toList) g t vs := by
  have := h.setCells vs.toList 0
  rwa [setFrom_all cs vs.toList (by simpa using hl)] at this
theorem Blk.kept {row : Option Nat} (h : Blk w g t cs) (hg : w.grownBy w' row) (hne : some g ≠ row) : Blk w' g t cs := (hg.block g h.lt hne).trans h
theorem grown_setCells (w : World) (g : Nat) : ∀ (vs : List Value) (o : Nat), w.grownBy (w.setCells g o vs) (some g) ∧ (w.setCells g o vs).heap.size = w.heap.size := by
  intro vs
  induction vs generalizing w with
  | nil => intro o; exact ⟨⟨rfl, rfl, rfl, Nat.le_refl _, fun i _ _ => rfl⟩, rfl⟩
  | cons v r ih =>
    intro o
    obtain ⟨h1, h2⟩ := ih (w.setCell ⟨g, o, none⟩ v) (o + 1)
    have h0 : w.grownBy (w.setCell ⟨g, o, none⟩ v) (some g) := ⟨rfl, rfl, rfl, by simp, fun i hi hne => Below.heap_setCell w ⟨g, o, none⟩ v i (fun e => hne (by rw [e]))⟩
    refine ⟨⟨h1.os.trans h0.os, h1.tape.trans h0.tape, h1.output.trans h0.output, Nat.le_trans h0.size h1.size, fun i hi hne => (h1.block i (Nat.lt_of_lt_of_le hi h0.size) hne).trans (h0.block i hi hne)⟩, h2.trans (by simp)⟩

/-- A store of a whole struct into a block that is just that struct. -/
theorem wp_store_blk {op : Oper} {a : Act} {K : Act → World → Prop} {Q : Exit → Act → World → Prop} (ty : TypeId) (x y : Operand) (ho : op.op = .store ty x y)
    (g : Nat) (t : TypeId) (cs vs : Array Value) (hx : a.eval x = .pointer (some ⟨g, 0, none⟩)) (hy : a.eval y = .agg vs) (hB : Blk w g t cs) (hl : vs.size = cs.size)
    (hi : (P.info? ty).map (·.size) = some vs.size) (h1 : vs.all (·.oneCell') = true)
    (h : ∀ w', Blk w' g t vs → w.grownBy w' (some g) → w'.heap.size = w.heap.size → K (a.put op.dst undef) w') : op.wp P a w K Q :=
  wp_store_mid ty x y ho g 0 vs hx hy (there_blk hB (by omega)) hi h1 (h _ (hB.whole vs hl) (grown_setCells w g vs.toList 0).1 (grown_setCells w g vs.toList 0).2)
theorem wpList_store_blk {ops : Array Oper} {rest : List Oper} {op : Oper} {a : Act} {Q : Exit → Act → World → Prop} (hgd : op.guard = none) (ty : TypeId) (x y : Operand) (ho : op.op = .store ty x y)
    (g : Nat) (t : TypeId) (cs vs : Array Value) (hx : a.eval x = .pointer (some ⟨g, 0, none⟩)) (hy : a.eval y = .agg vs) (hB : Blk w g t cs) (hl : vs.size = cs.size)
    (hi : (P.info? ty).map (·.size) = some vs.size) (h1 : vs.all (·.oneCell') = true)
    (h : ∀ w', Blk w' g t vs → w.grownBy w' (some g) → w'.heap.size = w.heap.size → wpList P ops Q rest (a.put op.dst undef) w') : wpList P ops Q (op :: rest) a w :=
  wpList_plain hgd fun _ hK => wp_store_blk ty x y ho g t cs vs hx hy hB hl hi h1 (fun w' b1 b2 b3 => hK _ _ (h w' b1 b2 b3))
/-- A load of a whole struct. -/
theorem wpList_load_blk {ops : Array Oper} {rest : List Oper} {op : Oper} {a : Act} {Q : Exit → Act → World → Prop} (hgd : op.guard = none) (ty : TypeId) (x : Operand) (ho : op.op = .load ty x)
    (g : Nat) (t : TypeId) (cs : Array Value) (d : TypeDesc) (hx : a.eval x = .pointer (some ⟨g, 0, none⟩)) (hB : Blk w g t cs)
    (hu : P.underlying ty = some d) (hd : d.isRow = true) (hi : (P.info? ty).map (·.size) = some cs.size) (h : wpList P ops Q rest (a.put op.dst (.agg cs)) w) : wpList P ops Q (op :: rest) a w :=
  wpList_load_mid hgd ty x ho g 0 hx cs.toList d hB.range hu hd (by simpa using hi) (by simpa using h)
theorem yieldsIf_load_blk {ops : Array Oper} {S : World → Prop} {op : Oper} {a : Act} (hw : Region.wanted op (yielded ops a.tmps) = true) (ty : TypeId) (x : Operand) (ho : op.op = .load ty x)
    (g : Nat) (t : TypeId) (cs : Array Value) (d : TypeDesc) (hx : a.eval x = .pointer (some ⟨g, 0, none⟩)) (hS : ∀ w, S w → Blk w g t cs)
    (hu : P.underlying ty = some d) (hd : d.isRow = true) (hi : (P.info? ty).map (·.size) = some cs.size) : YieldsIf P ops S op (.agg cs) a := by
  have := yieldsIf_load_mid (P := P) hw ty x ho g 0 hx cs.toList d (fun w hw => (hS w hw).range) hu hd (by simpa using hi)
  simpa using this
/-- The results of a call that hands back a struct in a block and something beside it. -/
theorem results_cellb {fn : Func} {p q : Tmp} {ty : TypeId} (h : fn.results = #[.cell p ty, .tmp q]) {tmps : Array Value} {d : TypeDesc}
    (hp : tmps.getD p undef = .pointer (some ⟨g, 0, none⟩)) (hB : Blk w g t cs) (hu : P.underlying ty = some d) (hd : d.isRow = true) (hi : (P.info? ty).map (·.size) = some cs.size) :
    (results fn tmps).run P w = .ok (.tuple #[.agg cs, tmps.getD q undef]) w := by
  have hl : (loadVar ty ⟨g, 0, none⟩).run P w = .ok (.agg cs) w := by
    have := run_loadVar_mid (P := P) w g 0 ty cs.toList d hB.range hu hd (by simpa using hi)
    simpa using this
  exact results_cell2 h hp hl
theorem results_cell1b {fn : Func} {p : Tmp} {ty : TypeId} (h : fn.results = #[.cell p ty]) {tmps : Array Value} {d : TypeDesc}
    (hp : tmps.getD p undef = .pointer (some ⟨g, 0, none⟩)) (hB : Blk w g t cs) (hu : P.underlying ty = some d) (hd : d.isRow = true) (hi : (P.info? ty).map (·.size) = some cs.size) :
    (results fn tmps).run P w = .ok (.agg cs) w := by
  have hl : (loadVar ty ⟨g, 0, none⟩).run P w = .ok (.agg cs) w := by
    have := run_loadVar_mid (P := P) w g 0 ty cs.toList d hB.range hu hd (by simpa using hi)
    simpa using this
  exact results_cell1 h hp hl
end
theorem there_blk_at {w : World} {b : Nat} {t : TypeId} {cs : Array Value} (h : Blk w b t cs) (o n : Nat) (hn : o + n ≤ cs.size) : w.there b o n := fun j hj =>
  ⟨by rw [h.cell, Array.getElem?_eq_getElem (by omega)]; rfl, h.frozen (o + j)⟩
theorem Blk.farCells {w : World} {g b : Nat} {t : TypeId} {cs : Array Value} (h : Blk w g t cs) (hne : g ≠ b) (o : Nat) (vs : List Value) : Blk (w.setCells b o vs) g t cs := by
  have hg := (grown_setCells w b vs o).1
  exact h.kept hg (fun e => hne (Option.some.inj e))
theorem calls_same {P : Program} {f : FuncId} {args : Array Value} {w : World} {v : Value} (h : Calls P f args w fun e w' => e = .returned v ∧ w = w') : Calls P f args w fun e w' => e = .returned v ∧ Below w.heap.size w w' :=
  h.mono fun _ _ ⟨he, hw⟩ => ⟨he, hw ▸ Below.refl _ _⟩
end Go.Proofs.YtlamogpdkmbeoaaGreatDoor
end PartWide

section PartNoteA
/- The walks of 'ValidLog', 'isMark'; what a note is in memory. -/
set_option linter.unusedVariables false
set_option linter.unusedSimpArgs false
namespace Go.Proofs.YtlamogpdkmbeoaaGreatDoor
open Go.RowKit Go.Lib Go.Shelf

theorem ValidLog_any (o : Lay) (g : Lg) (js : List Int) (ls : List Ln) (w : World) (hj : RowsAt encI 1 w g.jumps js) (hl : RowsAt Ln.enc 11 w g.lines ls) (hs : ∀ x ∈ ls, x.call.size ≤ 9223372036854775807) (hE : Env w) :
    Calls Tryz.prog 156 #[o.val, g.val] w fun e w' => e = .returned (.bool (logB o g js ls)) ∧ Below w.heap.size w w' := by
  have hC := fun W (hb : Below w.heap.size w W) => Check_any o g js ls W (hj.later hb) (hl.later hb) hs (hE.below hE.big hb)
  obtain ⟨Aj, cj, hvj⟩ := hj.len
  obtain ⟨Al, cl', hvl⟩ := hl.len
  clear hj hl hs hE
  obtain ⟨call, cat, pow, cl, vj, vl⟩ := g
  dsimp only at hvj hvl
  subst hvj; subst hvl
  generalize logB o _ js ls = R at hC ⊢
  obtain ⟨o1, o2, o3⟩ := o
  have hc := hC ((w.alloc (.cells #[.bool o1, .bool o2, .bool o3] 23)).alloc (.cells #[.string call, .int .i64 cat, .int .i64 pow, .int .i64 cl, .slice Aj js.length cj, .slice Al ls.length cl'] 42)) (((Below.refl _ w).alloc (Nat.le_refl _) _).alloc (by simp) _)
  clear hC
  dsimp only [Lay.val, Lg.val, Lg.enc] at hc ⊢
  go_enter Tryz.func156, Tryz.ntmps156
  go_wp2_with (go_at_call 203; refine hc.mono ?_; rintro e w1 ⟨⟨c, i, rfl, hR⟩, hb1⟩; have HR := Lib.hid hR; clear hR)
  go_ret
  refine ⟨?_, (((Below.refl _ w).alloc (Nat.le_refl _) _).alloc (by simp) _).trans (hb1.mono (by simp; omega))⟩
  rw [← HR.out]
  rfl

def markB (c : ByteArray) (n : Int) : Bool := callB c && inB n 1 65535
theorem isMark_any (c : ByteArray) (n : Int) (w : World) (hE : Env w) : Calls Tryz.prog 158 #[.agg #[.string c, .int .i64 n]] w fun e w' => e = .returned (.bool (markB c n)) ∧ Below w.heap.size w w' := by
  have h1 := ValidCall_any c (w.alloc (.cells #[.string c, .int .i64 n] 44)) (hE.below hE.big ((Below.refl _ w).alloc (Nat.le_refl _) _))
  have h2 := fun W => jwithin_any n 1 65535 W
  clear hE
  unfold markB
  generalize callB c = x at h1 ⊢
  generalize inB n 1 65535 = y at h2 ⊢
  cases x
  · go_enter Tryz.func158, Tryz.ntmps158
    go_wp2_with (go_at_call 157; refine h1.mono ?_; rintro e w1 ⟨rfl, hb1⟩)
    go_ret
    exact ⟨by simp, ((Below.refl _ w).alloc (Nat.le_refl _) _).trans (hb1.mono (by simp))⟩
  · go_enter Tryz.func158, Tryz.ntmps158
    go_wp2_with (first | (go_at_call 157; refine h1.mono ?_; rintro e w1 ⟨rfl, hb1⟩; have q1 := (hb1.cell (p := ⟨w.heap.size, 1, none⟩) (by simp)).trans (show _ = some (.int .i64 n) by simp)) | (go_at_call 45; refine (h2 _).mono ?_; rintro e w2 ⟨rfl, rfl⟩))
    go_ret
    exact ⟨by simp, ((Below.refl _ w).alloc (Nat.le_refl _) _).trans (hb1.mono (by simp))⟩

/-- A note as it lies in memory. -/
structure Nt where
  judge : Int
  num : Int
  clock : Int
  kind : Int
  call : ByteArray
  version : Int
  log : Lg
  aC : ByteArray
  aN : Int
  bC : ByteArray
  bN : Int
  rJ : Int
  rN : Int
  hash : Int
  prev : Int
abbrev Nt.enc (n : Nt) : List Value := [.int .i64 n.judge, .int .i64 n.num, .int .i64 n.clock, .int .i64 n.kind, .string n.call, .int .i64 n.version, .string n.log.call, .int .i64 n.log.cat, .int .i64 n.log.pow, .int .i64 n.log.cl, n.log.jumps, n.log.lines, .string n.aC, .int .i64 n.aN, .string n.bC, .int .i64 n.bN, .int .i64 n.rJ, .int .i64 n.rN, .int .i64 n.hash, .int .i64 n.prev]
abbrev Nt.val (n : Nt) : Value := .agg n.enc.toArray
abbrev emptyB : ByteArray := ⟨#[]⟩
abbrev Lg0 : Lg := ⟨emptyB, 0, 0, 0, .slice none 0 0, .slice none 0 0⟩
abbrev Nt0 : Nt := ⟨0, 0, 0, 0, emptyB, 0, Lg0, emptyB, 0, emptyB, 0, 0, 0, 0, 0⟩
/-- The note without the fields that its kind uses. -/
def Nt.rest (n : Nt) : Nt :=
  let r : Nt := { n with judge := 0, num := 0, clock := 0, kind := 0 }
  if n.kind = 1 then { r with log := Lg0, call := emptyB, version := 0 }
  else if n.kind = 2 then { r with call := emptyB, version := 0 }
  else if n.kind = 3 then { r with aC := emptyB, aN := 0 }
  else if n.kind = 4 then { r with aC := emptyB, aN := 0, bC := emptyB, bN := 0 }
  else if n.kind = 5 then { r with aC := emptyB, aN := 0, bC := emptyB, bN := 0 }
  else if n.kind = 6 then { r with rJ := 0, rN := 0 }
  else if n.kind = 7 then { r with hash := 0, prev := 0 }
  else r
/-- Whether the fields that a note's kind uses are as they must be; its log's jumps are js, its log's lines ls. -/
def usedB (o : Lay) (n : Nt) (js : List Int) (ls : List Ln) : Bool :=
  if n.kind = 1 then logB o n.log js ls && (n.call.toList == n.log.call.toList) && inB n.version 1 65535
  else if n.kind = 2 then callB n.call && inB n.version 1 65535
  else if n.kind = 3 then markB n.aC n.aN
  else if n.kind = 4 then markB n.aC n.aN && markB n.bC n.bN && Op.bytesLess n.aC.toList n.bC.toList
  else if n.kind = 5 then markB n.aC n.aN && markB n.bC n.bN && Op.bytesLess n.aC.toList n.bC.toList
  else if n.kind = 6 then inB n.rJ 1 8 && inB n.rN 1 2000
  else if n.kind = 7 then (n.judge == 1) && inB n.hash 1 2147483646 && inB n.prev 0 2147483646
  else false
theorem sizeLog : (Tryz.prog.info? 42).map (·.size) = some 6 := by kernel_rfl
theorem sizeNote : (Tryz.prog.info? 46).map (·.size) = some 20 := by kernel_rfl
end Go.Proofs.YtlamogpdkmbeoaaGreatDoor
end PartNoteA

section PartNoteS
/- A note with its log's jumps and lines; slices of notes in memory. -/
set_option linter.unusedVariables false
set_option linter.unusedSimpArgs false
set_option maxRecDepth 100000
namespace Go.Proofs.YtlamogpdkmbeoaaGreatDoor
open Go.RowKit Go.Lib Go.Shelf

/-- A note with its log's jumps and lines. -/
structure Note where
  nt : Nt
  js : List Int
  ls : List Ln
abbrev Note.enc (x : Note) : List Value := x.nt.enc
/-- The note's slices lie in memory. -/
structure Note.At (w : World) (x : Note) : Prop where
  jumps : RowsAt encI 1 w x.nt.log.jumps x.js
  lines : RowsAt Ln.enc 11 w x.nt.log.lines x.ls
  calls : ∀ y ∈ x.ls, y.call.size ≤ 9223372036854775807
theorem Note.At.later {w w' : World} {x : Note} (h : x.At w) (hb : Below w.heap.size w w') : x.At w' := ⟨h.jumps.later hb, h.lines.later hb, h.calls⟩
/-- The value v is a slice of the notes xs. -/
structure NotesAt (w : World) (v : Value) (xs : List Note) : Prop where
  row : RowsAt Note.enc 20 w v xs
  each : ∀ x ∈ xs, x.At w
theorem NotesAt.later {w w' : World} {v : Value} {xs : List Note} (h : NotesAt w v xs) (hb : Below w.heap.size w w') : NotesAt w' v xs := ⟨h.row.later hb, fun x hx => (h.each x hx).later hb⟩
abbrev Note0 : Note := ⟨Nt0, [], []⟩
theorem note_one {x : Note} {w : World} (h : x.At w) : x.nt.enc.toArray.all (·.oneCell') = true := by
  obtain ⟨A, c, h1⟩ := h.jumps.len
  obtain ⟨B, d, h2⟩ := h.lines.len
  simp [Value.oneCell', h1, h2]
end Go.Proofs.YtlamogpdkmbeoaaGreatDoor
end PartNoteS

section PartFrP
/- Plain facts on the journal's records. No program in sight. -/
set_option linter.unusedVariables false
set_option linter.unusedSimpArgs false
namespace Go.Proofs.YtlamogpdkmbeoaaGreatDoor

def chkFrom (s : Int) (b : List Int) : Int := b.foldl (fun s x => (s * 31 + x) % 4294967291) s
def chk (b : List Int) : Int := chkFrom 1 b
def hd3 (n : Int) : List Int := [n % 256, n / 256 % 256, n / 65536 % 256]
def low4 (v : Int) : List Int := [v % 256, v / 256 % 256, v / 65536 % 256, v / 16777216 % 256]
/-- The record of bytes. -/
def fr (b : List Int) : List Int := hd3 b.length ++ ((hd3 b.length).map fun x => 255 - x) ++ b ++ low4 (chk b)
def AreBytes (b : List Int) : Prop := ∀ x ∈ b, 0 ≤ x ∧ x < 256
/-- The length that a record's head tells. -/
def told (b : List Int) : Nat := (b.getD 0 0 + 256 * b.getD 1 0 + 65536 * b.getD 2 0).toNat
/-- The bytes of the record with which bytes begin. -/
def rec1 (b : List Int) : Option (List Int) :=
  if b.length < 10 then none
  else if 60000 < told b ∨ b.length < told b + 10 then none
  else if fr ((b.drop 6).take (told b)) = b.take (told b + 10) then some ((b.drop 6).take (told b)) else none

theorem fr_length (b : List Int) : (fr b).length = b.length + 10 := by unfold fr hd3 low4; simp
theorem chkFrom_cons (s x : Int) (b : List Int) : chkFrom s (x :: b) = chkFrom ((s * 31 + x) % 4294967291) b := rfl
theorem chkFrom_append (s : Int) (a b : List Int) : chkFrom s (a ++ b) = chkFrom (chkFrom s a) b := by unfold chkFrom; rw [List.foldl_append]
theorem chkFrom_snoc (s x : Int) (b : List Int) : chkFrom s (b ++ [x]) = (chkFrom s b * 31 + x) % 4294967291 := by rw [chkFrom_append]; rfl
theorem chkFrom_bd (b : List Int) : ∀ s : Int, 0 ≤ s → s < 4294967291 → 0 ≤ chkFrom s b ∧ chkFrom s b < 4294967291 := by
  induction b with
  | nil => intro s h1 h2; exact ⟨h1, h2⟩
  | cons x b ih => intro s h1 h2; rw [chkFrom_cons]; exact ih _ (Int.emod_nonneg _ (by decide)) (Int.emod_lt_of_pos _ (by decide))
theorem chk_bd (b : List Int) : 0 ≤ chk b ∧ chk b < 4294967291 := chkFrom_bd b 1 (by decide) (by decide)
theorem chkFrom_inj (b : List Int) : ∀ s t : Int, 0 ≤ s → s < 4294967291 → 0 ≤ t → t < 4294967291 → chkFrom s b = chkFrom t b → s = t := by
  induction b with
  | nil => intro s t _ _ _ _ h; exact h
  | cons x b ih =>
    intro s t h1 h2 h3 h4 h
    rw [chkFrom_cons, chkFrom_cons] at h
    have := ih _ _ (Int.emod_nonneg _ (by decide)) (Int.emod_lt_of_pos _ (by decide)) (Int.emod_nonneg _ (by decide)) (Int.emod_lt_of_pos _ (by decide)) h
    omega
/-- One changed byte changes the check. -/
theorem chk_changed (a c : List Int) (x y : Int) (hx : 0 ≤ x ∧ x < 256) (hy : 0 ≤ y ∧ y < 256) (h : chk (a ++ x :: c) = chk (a ++ y :: c)) : x = y := by
  unfold chk at h
  rw [chkFrom_append, chkFrom_append, chkFrom_cons, chkFrom_cons] at h
  have ha := chkFrom_bd a 1 (by decide) (by decide)
  generalize chkFrom 1 a = s at h ha
  have := chkFrom_inj c _ _ (Int.emod_nonneg _ (by decide)) (Int.emod_lt_of_pos _ (by decide)) (Int.emod_nonneg _ (by decide)) (Int.emod_lt_of_pos _ (by decide)) h
  omega
theorem low4_inj {s t : Int} (h1 : 0 ≤ s) (h2 : s < 4294967296) (h3 : 0 ≤ t) (h4 : t < 4294967296) (h : low4 s = low4 t) : s = t := by
  unfold low4 at h
  injection h with e0 h
  injection h with e1 h
  injection h with e2 h
  injection h with e3 h
  omega

/-- The parts of a record. -/
theorem fr_head (b : List Int) : fr b = [(b.length : Int) % 256, (b.length : Int) / 256 % 256, (b.length : Int) / 65536 % 256, 255 - (b.length : Int) % 256, 255 - (b.length : Int) / 256 % 256, 255 - (b.length : Int) / 65536 % 256] ++ (b ++ low4 (chk b)) := by
  unfold fr hd3; simp
theorem told_fr (b rest : List Int) (h : b.length ≤ 60000) : told (fr b ++ rest) = b.length := by
  rw [fr_head]
  unfold told
  simp [List.getD]
  omega
theorem rec1_fr (b rest : List Int) (h : b.length ≤ 60000) : rec1 (fr b ++ rest) = some b := by
  have hl := fr_length b
  have hd : ((fr b ++ rest).drop 6).take b.length = b := by
    rw [fr_head]
    simp
  unfold rec1
  rw [told_fr b rest h, if_neg (by rw [List.length_append, hl]; omega), if_neg (by rw [List.length_append, hl]; omega), hd, if_pos]
  rw [← hl, List.take_left']
  rfl
theorem rec1_some {c y : List Int} (h : rec1 c = some y) : y.length = told c ∧ y.length ≤ 60000 ∧ y.length + 10 ≤ c.length ∧ fr y = c.take (y.length + 10) := by
  unfold rec1 at h
  split at h
  · cases h
  · split at h
    · cases h
    · rename_i h1
      split at h
      · rename_i h2
        injection h with h
        have hl : y.length = told c := by rw [← h]; simp; omega
        refine ⟨hl, by omega, by omega, ?_⟩
        rw [h] at h2
        rw [h2, hl]
      · cases h

/-- A record of which one byte was changed is none. -/
theorem rec1_changed (b rest : List Int) (hb : AreBytes b) (hl : b.length ≤ 60000) (j : Nat) (hj : j < (fr b).length) (x : Int) (hx : 0 ≤ x ∧ x < 256) (hne : x ≠ (fr b)[j]) : rec1 ((fr b).set j x ++ rest) = none := by
  cases hr : rec1 ((fr b).set j x ++ rest) with
  | none => rfl
  | some y =>
    exfalso
    obtain ⟨h1, h2, h3, h4⟩ := rec1_some hr
    have hfl := fr_length b
    have hyl := fr_length y
    -- what the changed bytes are, place by place
    have hc : ∀ i, i < y.length + 10 → (fr y)[i]? = ((fr b).set j x ++ rest)[i]? := fun i hi => by rw [h4, List.getElem?_take, if_pos hi]
    have hs : ∀ i, i < (fr b).length → ((fr b).set j x ++ rest)[i]? = if j = i then some x else (fr b)[i]? := fun i hi => by
      rw [List.getElem?_append_left (by rw [List.length_set]; exact hi), List.getElem?_set]
      by_cases e : j = i
      · rw [if_pos e, if_pos e, if_pos (e ▸ hi)]
      · rw [if_neg e, if_neg e]
    have hg : ∀ i, i < 6 → (fr y)[i]? = if j = i then some x else (fr b)[i]? := fun i hi => by rw [hc i (by omega), hs i (by omega)]
    have y0 := hg 0 (by omega); have y1 := hg 1 (by omega); have y2 := hg 2 (by omega); have y3 := hg 3 (by omega); have y4 := hg 4 (by omega); have y5 := hg 5 (by omega)
    rw [fr_head y, fr_head b] at y0 y1 y2 y3 y4 y5
    simp only [List.cons_append, List.nil_append, List.getElem?_cons_zero, List.getElem?_cons_succ] at y0 y1 y2 y3 y4 y5
    have hbj : (fr b)[j]? = some ((fr b)[j]) := List.getElem?_eq_getElem hj
    by_cases h6 : j < 6
    · generalize hz : (fr b)[j] = z at hbj hne
      clear hz
      rw [fr_head b] at hbj
      have hj' : j = 0 ∨ j = 1 ∨ j = 2 ∨ j = 3 ∨ j = 4 ∨ j = 5 := by omega
      rcases hj' with rfl | rfl | rfl | rfl | rfl | rfl <;>
        simp at hbj y0 y1 y2 y3 y4 y5 <;> omega
    · have e0 : ¬ j = 0 := by omega
      have e1 : ¬ j = 1 := by omega
      have e2 : ¬ j = 2 := by omega
      rw [if_neg e0] at y0
      rw [if_neg e1] at y1
      rw [if_neg e2] at y2
      simp only [Option.some.injEq] at y0 y1 y2
      have hlen : y.length = b.length := by omega
      have hall : fr y = (fr b).set j x := by
        rw [h4, hlen, List.take_append_of_le_length (by rw [List.length_set]; omega), List.take_of_length_le (by rw [List.length_set]; omega)]
      have hset : (fr b).set j x = [(b.length : Int) % 256, (b.length : Int) / 256 % 256, (b.length : Int) / 65536 % 256, 255 - (b.length : Int) % 256, 255 - (b.length : Int) / 256 % 256, 255 - (b.length : Int) / 65536 % 256] ++ (b ++ low4 (chk b)).set (j - 6) x := by
        rw [fr_head, List.set_append_right _ _ (by simp; omega)]
        simp
      rw [hset, fr_head y, hlen] at hall
      have hall := List.append_cancel_left hall
      by_cases hb6 : j - 6 < b.length
      · rw [List.set_append_left _ _ hb6] at hall
        have hy : y = b.set (j - 6) x := List.append_inj_left hall (by rw [List.length_set]; exact hlen)
        have hlow : low4 (chk y) = low4 (chk b) := List.append_inj_right hall (by rw [List.length_set]; exact hlen)
        have c1 := chk_bd y
        have c2 := chk_bd b
        have hck := low4_inj c1.1 (by omega) c2.1 (by omega) hlow
        have hz : (fr b)[j] = b[j - 6] := by
          have : (fr b)[j]? = some b[j - 6] := by
            rw [fr_head, List.getElem?_append_right (by simp; omega)]
            simp only [List.length_cons, List.length_nil]
            rw [List.getElem?_append_left hb6, List.getElem?_eq_getElem hb6]
          rw [hbj] at this
          injection this
        rw [hz] at hne
        have hsp : b = b.take (j - 6) ++ b[j - 6] :: b.drop (j - 6 + 1) := by rw [List.getElem_cons_drop, List.take_append_drop]
        have hsp2 : b.set (j - 6) x = b.take (j - 6) ++ x :: b.drop (j - 6 + 1) := by rw [List.set_eq_take_append_cons_drop, if_pos hb6]
        rw [hy, hsp2] at hck
        refine hne (chk_changed _ _ _ _ hx (hb _ (List.getElem_mem hb6)) (hck.trans ?_))
        exact congrArg chk hsp
      · rw [List.set_append_right _ _ (by omega)] at hall
        have hy : y = b := List.append_inj_left hall hlen
        have hlow : low4 (chk y) = (low4 (chk b)).set (j - 6 - b.length) x := List.append_inj_right hall hlen
        rw [hy] at hlow
        have hk : j - 6 - b.length < (low4 (chk b)).length := by show _ < 4; omega
        have hz : (fr b)[j]? = (low4 (chk b))[j - 6 - b.length]? := by
          rw [fr_head, List.getElem?_append_right (by simp; omega)]
          simp only [List.length_cons, List.length_nil]
          rw [List.getElem?_append_right (by omega)]
        have : (low4 (chk b))[j - 6 - b.length]? = some x := by
          rw [hlow, List.getElem?_set, if_pos rfl, if_pos hk]
        rw [hz, this] at hbj
        injection hbj with hbj
        exact hne hbj

/-- The records with which bytes begin. -/
def scanF : Nat → List Int → List (List Int)
  | 0, _ => []
  | f + 1, b => match rec1 b with
    | none => []
    | some x => x :: scanF f (b.drop (x.length + 10))
def scan (b : List Int) : List (List Int) := scanF b.length b
/-- How many bytes records take. -/
def taken : List (List Int) → Nat
  | [] => 0
  | x :: l => x.length + 10 + taken l
/-- The journal of some contents. -/
def jrn : List (List Int) → List Int
  | [] => []
  | x :: l => fr x ++ jrn l
theorem taken_append (a b : List (List Int)) : taken (a ++ b) = taken a + taken b := by
  induction a with
  | nil => simp [taken]
  | cons x a ih => simp only [List.cons_append, taken, ih]; omega
theorem jrn_append (a b : List (List Int)) : jrn (a ++ b) = jrn a ++ jrn b := by
  induction a with
  | nil => rfl
  | cons x a ih => simp only [List.cons_append, jrn, ih, List.append_assoc]
theorem jrn_length (l : List (List Int)) : (jrn l).length = taken l := by
  induction l with
  | nil => rfl
  | cons x l ih => simp only [jrn, taken, List.length_append, fr_length, ih]
theorem rec1_short {b : List Int} (h : b.length < 10) : rec1 b = none := if_pos h
theorem scanF_eq : ∀ (f g : Nat) (b : List Int), b.length ≤ f → b.length ≤ g → scanF f b = scanF g b
  | 0, 0, b, _, _ => rfl
  | 0, g + 1, b, hf, _ => by
    have hr : rec1 b = none := rec1_short (by omega)
    simp only [scanF, hr]
  | f + 1, 0, b, _, hg => by
    have hr : rec1 b = none := rec1_short (by omega)
    simp only [scanF, hr]
  | f + 1, g + 1, b, hf, hg => by
    cases hr : rec1 b with
    | none => simp only [scanF, hr]
    | some x =>
      have h := rec1_some hr
      simp only [scanF, hr]
      rw [scanF_eq f g _ (by rw [List.length_drop]; omega) (by rw [List.length_drop]; omega)]
theorem scan_none {b : List Int} (h : rec1 b = none) : scan b = [] := by
  unfold scan
  cases hb : b.length with
  | zero => rfl
  | succ n => simp only [scanF, h]
theorem scan_some {b x : List Int} (h : rec1 b = some x) : scan b = x :: scan (b.drop (x.length + 10)) := by
  have h1 := rec1_some h
  unfold scan
  cases hb : b.length with
  | zero => omega
  | succ n =>
    simp only [scanF, h]
    rw [scanF_eq n (b.drop (x.length + 10)).length _ (by rw [List.length_drop]; omega) (Nat.le_refl _)]
theorem scan_jrn (l : List (List Int)) (rest : List Int) (h : ∀ x ∈ l, x.length ≤ 60000) : scan (jrn l ++ rest) = l ++ scan rest := by
  induction l with
  | nil => rfl
  | cons x l ih =>
    simp only [jrn, List.append_assoc, List.cons_append]
    rw [scan_some (rec1_fr x _ (h x List.mem_cons_self))]
    congr 1
    rw [show (fr x ++ (jrn l ++ rest)).drop (x.length + 10) = jrn l ++ rest by rw [← fr_length x, List.drop_left']; rfl]
    exact ih fun y hy => h y (List.mem_cons_of_mem _ hy)
theorem scan_all (l : List (List Int)) (h : ∀ x ∈ l, x.length ≤ 60000) : scan (jrn l) = l := by
  have := scan_jrn l [] h
  rw [List.append_nil] at this
  rw [this]
  have e : scan [] = [] := rfl
  rw [e, List.append_nil]
/-- A journal of which one byte was changed: the records ahead of the one with this byte are read. -/
theorem scan_changed (l : List (List Int)) (k : Nat) (hk : k < l.length) (at_ : Nat) (x : Int) (hb : ∀ y ∈ l, AreBytes y ∧ y.length ≤ 60000)
    (h1 : taken (l.take k) ≤ at_) (h2 : at_ < taken (l.take (k + 1))) (hx : 0 ≤ x ∧ x < 256) (hne : (jrn l)[at_]? ≠ some x) : scan ((jrn l).set at_ x) = l.take k := by
  have hsp : l = l.take k ++ l[k] :: l.drop (k + 1) := by rw [List.getElem_cons_drop, List.take_append_drop]
  have hj : jrn l = jrn (l.take k) ++ (fr l[k] ++ jrn (l.drop (k + 1))) := by
    conv => lhs; rw [hsp]
    rw [jrn_append]; rfl
  have ht : taken (l.take (k + 1)) = taken (l.take k) + (l[k].length + 10) := by
    rw [List.take_add_one, List.getElem?_eq_getElem hk, taken_append]
    simp [taken]
  have hl0 := jrn_length (l.take k)
  have hlk := fr_length l[k]
  obtain ⟨j, hj2⟩ : ∃ j, j = at_ - taken (l.take k) := ⟨_, rfl⟩
  have hjl : j < (fr l[k]).length := by omega
  have hset : (jrn l).set at_ x = jrn (l.take k) ++ ((fr l[k]).set j x ++ jrn (l.drop (k + 1))) := by
    rw [hj, List.set_append_right _ _ (by omega), hl0, ← hj2, List.set_append_left _ _ hjl]
  have hgt : (jrn l)[at_]? = some (fr l[k])[j] := by
    rw [hj, List.getElem?_append_right (by omega), hl0, ← hj2, List.getElem?_append_left hjl, List.getElem?_eq_getElem hjl]
  rw [hset, scan_jrn _ _ (fun y hy => (hb y (List.mem_of_mem_take hy)).2), scan_none, List.append_nil]
  exact rec1_changed _ _ (hb _ (List.getElem_mem hk)).1 (hb _ (List.getElem_mem hk)).2 j hjl x hx (fun e => hne (by rw [hgt, e]))
end Go.Proofs.YtlamogpdkmbeoaaGreatDoor
end PartFrP
