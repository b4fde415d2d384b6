/- The texts Wide, NoteA, NoteS, FrP in one. -/
import Derived.Test.YtlamogpdkmbeoaaGreatDoorZbAir
import Derived.Laws.AppendOwn
import Derived.Test.YtlamogpdkmbeoaaGreatDoorZbLogC
set_option linter.unusedVariables false
set_option linter.unusedSimpArgs false
section PartWide
/- Structs of many cells: a store lays the whole block anew; a load reads the whole block; what a call hands back beside it. -/
namespace Go.Proofs.YtlamogpdkmbeoaaGreatDoor
open Go.RowKit

def setFrom (cs : Array Value) : Nat → List Value → Array Value
  | _, [] => cs
  | o, v :: r => setFrom (cs.setIfInBounds o v) (o + 1) r
theorem setFrom_size : ∀ (vs : List Value) (o : Nat) (cs : Array Value), (setFrom cs o vs).size = cs.size
  | [], _, _ => rfl
  | v :: r, o, cs => by unfold setFrom; rw [setFrom_size r]; simp
theorem setFrom_get : ∀ (vs : List Value) (o : Nat) (cs : Array Value) (j : Nat), o + vs.length ≤ cs.size → (setFrom cs o vs)[j]? = if o ≤ j ∧ j < o + vs.length then vs[j - o]? else cs[j]?
  | [], o, cs, j, _ => by unfold setFrom; rw [if_neg (by simp)]
  | v :: r, o, cs, j, h => by
    unfold setFrom
    simp only [List.length_cons] at h ⊢
    rw [setFrom_get r (o + 1) _ j (by simp; omega), Array.getElem?_setIfInBounds]
    by_cases h1 : o + 1 ≤ j ∧ j < o + 1 + r.length
    · rw [if_pos h1, if_pos (by omega), show j - o = (j - (o + 1)) + 1 by omega, List.getElem?_cons_succ]
    · rw [if_neg h1]
      by_cases h2 : o = j
      · subst h2
        rw [if_pos rfl, if_pos (by omega), if_pos (by omega), Nat.sub_self, List.getElem?_cons_zero]
      · rw [if_neg h2, if_neg (by omega)]
theorem setFrom_all (cs : Array Value) (vs : List Value) (h : vs.length = cs.size) : setFrom cs 0 vs = vs.toArray := by
  apply Array.ext_getElem?
  intro j
  rw [setFrom_get vs 0 cs j (by omega)]
  by_cases hj : j < vs.length
  · rw [if_pos (by omega)]; simp
  · rw [if_neg (by omega), Array.getElem?_eq_none (by omega), Array.getElem?_eq_none (by simp; omega)]

section
variable {P : Program} {w w' : World} {g : Nat} {t : TypeId} {cs : Array Value}
theorem Blk.setCells (vs : List Value) : ∀ (o : Nat) {w : World} {cs : Array Value}, Blk w g t cs → Blk (w.setCells g o vs) g t (setFrom cs o vs) := by
  induction vs with
  | nil => intro o w cs h; exact h
  | cons v r ih => intro o w cs h; exact ih (o + 1) (h.put o v)
theorem Blk.whole (h : Blk w g t cs) (vs : Array Value) (hl : vs.size = cs.size) : Blk (w.setCells g 0 vs.toList) g t vs := by
  have := h.setCells vs.toList 0
  rwa [setFrom_all cs vs.toList (by simpa using hl)] at this
theorem Blk.kept {row : Option Nat} (h : Blk w g t cs) (hg : w.grownBy w' row) (hne : some g ≠ row) : Blk w' g t cs := (hg.block g h.lt hne).trans h
theorem grown_setCells (w : World) (g : Nat) : ∀ (vs : List Value) (o : Nat), w.grownBy (w.setCells g o vs) (some g) ∧ (w.setCells g o vs).heap.size = w.heap.size := by
  intro vs
  induction vs generalizing w with
  | nil => intro o; exact ⟨⟨rfl, rfl, rfl, Nat.le_refl _, fun i _ _ => rfl⟩, rfl⟩
  | cons v r ih =>
    intro o
    obtain ⟨h1, h2⟩ := ih (w.setCell ⟨g, o, none⟩ v) (o + 1)
    have h0 : w.grownBy (w.setCell ⟨g, o, none⟩ v) (some g) := ⟨rfl, rfl, rfl, by simp, fun i hi hne => Below.heap_setCell w ⟨g, o, none⟩ v i (fun e => hne (by rw [e]))⟩
    refine ⟨⟨h1.os.trans h0.os, h1.tape.trans h0.tape, h1.output.trans h0.output, Nat.le_trans h0.size h1.size, fun i hi hne => (h1.block i (Nat.lt_of_lt_of_le hi h0.size) hne).trans (h0.block i hi hne)⟩, h2.trans (by simp)⟩

/-- A store of a whole struct into a block that is just that struct. -/
theorem wp_store_blk {op : Oper} {a : Act} {K : Act → World → Prop} {Q : Exit → Act → World → Prop} (ty : TypeId) (x y : Operand) (ho : op.op = .store ty x y)
    (g : Nat) (t : TypeId) (cs vs : Array Value) (hx : a.eval x = .pointer (some ⟨g, 0, none⟩)) (hy : a.eval y = .agg vs) (hB : Blk w g t cs) (hl : vs.size = cs.size)
    (hi : (P.info? ty).map (·.size) = some vs.size) (h1 : vs.all (·.oneCell') = true)
    (h : ∀ w', Blk w' g t vs → w.grownBy w' (some g) → w'.heap.size = w.heap.size → K (a.put op.dst undef) w') : op.wp P a w K Q :=
  wp_store_mid ty x y ho g 0 vs hx hy (there_blk hB (by omega)) hi h1 (h _ (hB.whole vs hl) (grown_setCells w g vs.toList 0).1 (grown_setCells w g vs.toList 0).2)
theorem wpList_store_blk {ops : Array Oper} {rest : List Oper} {op : Oper} {a : Act} {Q : Exit → Act → World → Prop} (hgd : op.guard = none) (ty : TypeId) (x y : Operand) (ho : op.op = .store ty x y)
    (g : Nat) (t : TypeId) (cs vs : Array Value) (hx : a.eval x = .pointer (some ⟨g, 0, none⟩)) (hy : a.eval y = .agg vs) (hB : Blk w g t cs) (hl : vs.size = cs.size)
    (hi : (P.info? ty).map (·.size) = some vs.size) (h1 : vs.all (·.oneCell') = true)
    (h : ∀ w', Blk w' g t vs → w.grownBy w' (some g) → w'.heap.size = w.heap.size → wpList P ops Q rest (a.put op.dst undef) w') : wpList P ops Q (op :: rest) a w :=
  wpList_plain hgd fun _ hK => wp_store_blk ty x y ho g t cs vs hx hy hB hl hi h1 (fun w' b1 b2 b3 => hK _ _ (h w' b1 b2 b3))
/-- A load of a whole struct. -/
theorem wpList_load_blk {ops : Array Oper} {rest : List Oper} {op : Oper} {a : Act} {Q : Exit → Act → World → Prop} (hgd : op.guard = none) (ty : TypeId) (x : Operand) (ho : op.op = .load ty x)
    (g : Nat) (t : TypeId) (cs : Array Value) (d : TypeDesc) (hx : a.eval x = .pointer (some ⟨g, 0, none⟩)) (hB : Blk w g t cs)
    (hu : P.underlying ty = some d) (hd : d.isRow = true) (hi : (P.info? ty).map (·.size) = some cs.size) (h : wpList P ops Q rest (a.put op.dst (.agg cs)) w) : wpList P ops Q (op :: rest) a w :=
  wpList_load_mid hgd ty x ho g 0 hx cs.toList d hB.range hu hd (by simpa using hi) (by simpa using h)
theorem yieldsIf_load_blk {ops : Array Oper} {S : World → Prop} {op : Oper} {a : Act} (hw : Region.wanted op (yielded ops a.tmps) = true) (ty : TypeId) (x : Operand) (ho : op.op = .load ty x)
    (g : Nat) (t : TypeId) (cs : Array Value) (d : TypeDesc) (hx : a.eval x = .pointer (some ⟨g, 0, none⟩)) (hS : ∀ w, S w → Blk w g t cs)
    (hu : P.underlying ty = some d) (hd : d.isRow = true) (hi : (P.info? ty).map (·.size) = some cs.size) : YieldsIf P ops S op (.agg cs) a := by
  have := yieldsIf_load_mid (P := P) hw ty x ho g 0 hx cs.toList d (fun w hw => (hS w hw).range) hu hd (by simpa using hi)
  simpa using this
/-- The results of a call that hands back a struct in a block and something beside it. -/
theorem results_cellb {fn : Func} {p q : Tmp} {ty : TypeId} (h : fn.results = #[.cell p ty, .tmp q]) {tmps : Array Value} {d : TypeDesc}
    (hp : tmps.getD p undef = .pointer (some ⟨g, 0, none⟩)) (hB : Blk w g t cs) (hu : P.underlying ty = some d) (hd : d.isRow = true) (hi : (P.info? ty).map (·.size) = some cs.size) :
    (results fn tmps).run P w = .ok (.tuple #[.agg cs, tmps.getD q undef]) w := by
  have hl : (loadVar ty ⟨g, 0, none⟩).run P w = .ok (.agg cs) w := by
    have := run_loadVar_mid (P := P) w g 0 ty cs.toList d hB.range hu hd (by simpa using hi)
    simpa using this
  exact results_cell2 h hp hl
theorem results_cell1b {fn : Func} {p : Tmp} {ty : TypeId} (h : fn.results = #[.cell p ty]) {tmps : Array Value} {d : TypeDesc}
    (hp : tmps.getD p undef = .pointer (some ⟨g, 0, none⟩)) (hB : Blk w g t cs) (hu : P.underlying ty = some d) (hd : d.isRow = true) (hi : (P.info? ty).map (·.size) = some cs.size) :
    (results fn tmps).run P w = .ok (.agg cs) w := by
  have hl : (loadVar ty ⟨g, 0, none⟩).run P w = .ok (.agg cs) w := by
    have := run_loadVar_mid (P := P) w g 0 ty cs.toList d hB.range hu hd (by simpa using hi)
    simpa using this
  exact results_cell1 h hp hl
end
theorem there_blk_at {w : World} {b : Nat} {t : TypeId} {cs : Array Value} (h : Blk w b t cs) (o n : Nat) (hn : o + n ≤ cs.size) : w.there b o n := fun j hj =>
  ⟨by rw [h.cell, Array.getElem?_eq_getElem (by omega)]; rfl, h.frozen (o + j)⟩
theorem Blk.farCells {w : World} {g b : Nat} {t : TypeId} {cs : Array Value} (h : Blk w g t cs) (hne : g ≠ b) (o : Nat) (vs : List Value) : Blk (w.setCells b o vs) g t cs := by
  have hg := (grown_setCells w b vs o).1
  exact h.kept hg (fun e => hne (Option.some.inj e))
theorem calls_same {P : Program} {f : FuncId} {args : Array Value} {w : World} {v : Value} (h : Calls P f args w fun e w' => e = .returned v ∧ w = w') : Calls P f args w fun e w' => e = .returned v ∧ Below w.heap.size w w' :=
  h.mono fun _ _ ⟨he, hw⟩ => ⟨he, hw ▸ Below.refl _ _⟩
section
variable {P : Program} {ops : Array Oper} {Q : Exit → Act → World → Prop} {md : Region.Mode} {S : World → Prop}
/-- A load of a whole struct comes first (for the merged texts). -/
theorem tk4 {i : Nat} {oi : Oper} {fuel : Nat} {listed : Array Bool} {a : Act} {w : World} {ty : TypeId} {x : Operand} {g : Nat} {t : TypeId} {cs : Array Value} {d : TypeDesc} (hS : ∀ w, S w → Blk w g t cs)
    (h : wpAnyH P md ops Q S fuel (listed.setIfInBounds i true) (a.put oi.dst (.agg cs)) w) (hi : ops[i]? = some oi := by exact rfl) (ho : oi.op = .load ty x := by exact rfl) (hx : a.eval x = .pointer (some ⟨g, 0, none⟩) := by exact rfl) (hs : Region.noSelect ops = true := by kernel_rfl) (hf : Region.free md ops listed i = true := by kernel_rfl)
    (hr : (Region.ready md ops listed).contains i = true := by kernel_rfl) (hw : Region.wanted oi (yielded ops a.tmps) = true := by kernel_rfl) (hu : P.underlying ty = some d := by assumption) (hd : d.isRow = true := by exact rfl) (hz : (P.info? ty).map (·.size) = some cs.size := by first | assumption | kernel_rfl)
    (hQ : ∀ c a' w, Q (.panic c) (a'.put oi.dst (.agg cs)) w → Q (.panic c) a' w := by exact fun _ _ _ h => h) (hT : S w := by assumption) : wpAnyH P md ops Q S (fuel + 1) listed a w :=
  wpAnyH_take hi hs hf hr hQ (yieldsIf_load_blk hw ty x ho g t cs d hx hS hu hd hz) hT h
end
end Go.Proofs.YtlamogpdkmbeoaaGreatDoor
end PartWide

section PartNoteA
/- The walks of 'ValidLog', 'isMark'; what a note is in memory. -/
namespace Go.Proofs.YtlamogpdkmbeoaaGreatDoor
open Go.RowKit Go.Lib Go.Shelf

theorem ValidLog_any (o : Lay) (g : Lg) (js : List Int) (ls : List Ln) (w : World) (hj : RowsAt encI 1 w g.jumps js) (hl : RowsAt Ln.enc 11 w g.lines ls) (hs : ∀ x ∈ ls, x.call.size ≤ 9223372036854775807) (hE : Env w) :
    Calls Tryz.prog 156 #[o.val, g.val] w fun e w' => e = .returned (.bool (logB o g js ls)) ∧ Below w.heap.size w w' := by
  have hC := fun W (hb : Below w.heap.size w W) => Check_any o g js ls W (hj.later hb) (hl.later hb) hs (hE.below hE.big hb)
  obtain ⟨Aj, cj, hvj⟩ := hj.len
  obtain ⟨Al, cl', hvl⟩ := hl.len
  clear hj hl hs hE
  obtain ⟨call, cat, pow, cl, vj, vl⟩ := g
  dsimp only at hvj hvl
  subst hvj; subst hvl
  generalize logB o _ js ls = R at hC ⊢
  obtain ⟨o1, o2, o3⟩ := o
  have hc := hC ((w.alloc (.cells #[.bool o1, .bool o2, .bool o3] 23)).alloc (.cells #[.string call, .int .i64 cat, .int .i64 pow, .int .i64 cl, .slice Aj js.length cj, .slice Al ls.length cl'] 42)) (((Below.refl _ w).alloc (Nat.le_refl _) _).alloc (by simp) _)
  clear hC
  dsimp only [Lay.val, Lg.val, Lg.enc] at hc ⊢
  go_enter Tryz.func156, Tryz.ntmps156
  go_wp2_with (go_at_call 203; refine hc.mono ?_; rintro e w1 ⟨⟨c, i, rfl, hR⟩, hb1⟩; have HR := Lib.hid hR; clear hR)
  go_ret
  refine ⟨?_, (((Below.refl _ w).alloc (Nat.le_refl _) _).alloc (by simp) _).trans (hb1.mono (by simp; omega))⟩
  rw [← HR.out]
  rfl

def markB (c : ByteArray) (n : Int) : Bool := callB c && inB n 1 65535
theorem isMark_any (c : ByteArray) (n : Int) (w : World) (hE : Env w) : Calls Tryz.prog 158 #[.agg #[.string c, .int .i64 n]] w fun e w' => e = .returned (.bool (markB c n)) ∧ Below w.heap.size w w' := by
  have h1 := ValidCall_any c (w.alloc (.cells #[.string c, .int .i64 n] 44)) (hE.below hE.big ((Below.refl _ w).alloc (Nat.le_refl _) _))
  have h2 := fun W => jwithin_any n 1 65535 W
  clear hE
  unfold markB
  generalize callB c = x at h1 ⊢
  generalize inB n 1 65535 = y at h2 ⊢
  cases x
  · go_enter Tryz.func158, Tryz.ntmps158
    go_wp2_with (go_at_call 157; refine h1.mono ?_; rintro e w1 ⟨rfl, hb1⟩)
    go_ret
    exact ⟨by simp, ((Below.refl _ w).alloc (Nat.le_refl _) _).trans (hb1.mono (by simp))⟩
  · go_enter Tryz.func158, Tryz.ntmps158
    go_wp2_with (first | (go_at_call 157; refine h1.mono ?_; rintro e w1 ⟨rfl, hb1⟩; have q1 := (hb1.cell (p := ⟨w.heap.size, 1, none⟩) (by simp)).trans (show _ = some (.int .i64 n) by simp)) | (go_at_call 45; refine (h2 _).mono ?_; rintro e w2 ⟨rfl, rfl⟩))
    go_ret
    exact ⟨by simp, ((Below.refl _ w).alloc (Nat.le_refl _) _).trans (hb1.mono (by simp))⟩

/-- A note as it lies in memory. -/
structure Nt where
  judge : Int
  num : Int
  clock : Int
  kind : Int
  call : ByteArray
  version : Int
  log : Lg
  aC : ByteArray
  aN : Int
  bC : ByteArray
  bN : Int
  rJ : Int
  rN : Int
  hash : Int
  prev : Int
abbrev Nt.enc (n : Nt) : List Value := [.int .i64 n.judge, .int .i64 n.num, .int .i64 n.clock, .int .i64 n.kind, .string n.call, .int .i64 n.version, .string n.log.call, .int .i64 n.log.cat, .int .i64 n.log.pow, .int .i64 n.log.cl, n.log.jumps, n.log.lines, .string n.aC, .int .i64 n.aN, .string n.bC, .int .i64 n.bN, .int .i64 n.rJ, .int .i64 n.rN, .int .i64 n.hash, .int .i64 n.prev]
abbrev Nt.val (n : Nt) : Value := .agg n.enc.toArray
abbrev emptyB : ByteArray := ⟨#[]⟩
abbrev Lg0 : Lg := ⟨emptyB, 0, 0, 0, .slice none 0 0, .slice none 0 0⟩
abbrev Nt0 : Nt := ⟨0, 0, 0, 0, emptyB, 0, Lg0, emptyB, 0, emptyB, 0, 0, 0, 0, 0⟩
/-- The note without the fields that its kind uses. -/
def Nt.rest (n : Nt) : Nt :=
  let r : Nt := { n with judge := 0, num := 0, clock := 0, kind := 0 }
  if n.kind = 1 then { r with log := Lg0, call := emptyB, version := 0 }
  else if n.kind = 2 then { r with call := emptyB, version := 0 }
  else if n.kind = 3 then { r with aC := emptyB, aN := 0 }
  else if n.kind = 4 then { r with aC := emptyB, aN := 0, bC := emptyB, bN := 0 }
  else if n.kind = 5 then { r with aC := emptyB, aN := 0, bC := emptyB, bN := 0 }
  else if n.kind = 6 then { r with rJ := 0, rN := 0 }
  else if n.kind = 7 then { r with hash := 0, prev := 0 }
  else r
/-- Whether the fields that a note's kind uses are as they must be; its log's jumps are js, its log's lines ls. -/
def usedB (o : Lay) (n : Nt) (js : List Int) (ls : List Ln) : Bool :=
  if n.kind = 1 then logB o n.log js ls && (n.call.toList == n.log.call.toList) && inB n.version 1 65535
  else if n.kind = 2 then callB n.call && inB n.version 1 65535
  else if n.kind = 3 then markB n.aC n.aN
  else if n.kind = 4 then markB n.aC n.aN && markB n.bC n.bN && Op.bytesLess n.aC.toList n.bC.toList
  else if n.kind = 5 then markB n.aC n.aN && markB n.bC n.bN && Op.bytesLess n.aC.toList n.bC.toList
  else if n.kind = 6 then inB n.rJ 1 8 && inB n.rN 1 2000
  else if n.kind = 7 then (n.judge == 1) && inB n.hash 1 2147483646 && inB n.prev 0 2147483646
  else false
theorem sizeLog : (Tryz.prog.info? 42).map (·.size) = some 6 := by kernel_rfl
theorem sizeNote : (Tryz.prog.info? 46).map (·.size) = some 20 := by kernel_rfl
end Go.Proofs.YtlamogpdkmbeoaaGreatDoor
end PartNoteA

section PartNoteS
/- A note with its log's jumps and lines; slices of notes in memory. -/
set_option maxRecDepth 100000
namespace Go.Proofs.YtlamogpdkmbeoaaGreatDoor
open Go.RowKit Go.Lib Go.Shelf

/-- A note with its log's jumps and lines. -/
structure Note where
  nt : Nt
  js : List Int
  ls : List Ln
abbrev Note.enc (x : Note) : List Value := x.nt.enc
/-- The note's slices lie in memory. -/
structure Note.At (w : World) (x : Note) : Prop where
  jumps : RowsAt encI 1 w x.nt.log.jumps x.js
  lines : RowsAt Ln.enc 11 w x.nt.log.lines x.ls
  calls : ∀ y ∈ x.ls, y.call.size ≤ 9223372036854775807
theorem Note.At.later {w w' : World} {x : Note} (h : x.At w) (hb : Below w.heap.size w w') : x.At w' := ⟨h.jumps.later hb, h.lines.later hb, h.calls⟩
/-- The value v is a slice of the notes xs. -/
structure NotesAt (w : World) (v : Value) (xs : List Note) : Prop where
  row : RowsAt Note.enc 20 w v xs
  each : ∀ x ∈ xs, x.At w
theorem NotesAt.later {w w' : World} {v : Value} {xs : List Note} (h : NotesAt w v xs) (hb : Below w.heap.size w w') : NotesAt w' v xs := ⟨h.row.later hb, fun x hx => (h.each x hx).later hb⟩
abbrev Note0 : Note := ⟨Nt0, [], []⟩
theorem note_one {x : Note} {w : World} (h : x.At w) : x.nt.enc.toArray.all (·.oneCell') = true := by
  obtain ⟨A, c, h1⟩ := h.jumps.len
  obtain ⟨B, d, h2⟩ := h.lines.len
  simp [Value.oneCell', h1, h2]
end Go.Proofs.YtlamogpdkmbeoaaGreatDoor
end PartNoteS

section PartFrP
/- Plain facts on the journal's records. No program in sight. -/
namespace Go.Proofs.YtlamogpdkmbeoaaGreatDoor

def chkFrom (s : Int) (b : List Int) : Int := b.foldl (fun s x => (s * 31 + x) % 4294967291) s
def chk (b : List Int) : Int := chkFrom 1 b
def hd3 (n : Int) : List Int := [n % 256, n / 256 % 256, n / 65536 % 256]
def low4 (v : Int) : List Int := [v % 256, v / 256 % 256, v / 65536 % 256, v / 16777216 % 256]
/-- The record of bytes. -/
def fr (b : List Int) : List Int := hd3 b.length ++ ((hd3 b.length).map fun x => 255 - x) ++ b ++ low4 (chk b)
def AreBytes (b : List Int) : Prop := ∀ x ∈ b, 0 ≤ x ∧ x < 256
/-- The length that a record's head tells. -/
def told (b : List Int) : Nat := (b.getD 0 0 + 256 * b.getD 1 0 + 65536 * b.getD 2 0).toNat
theorem chkFrom_cons (s x : Int) (b : List Int) : chkFrom s (x :: b) = chkFrom ((s * 31 + x) % 4294967291) b := rfl
theorem chkFrom_append (s : Int) (a b : List Int) : chkFrom s (a ++ b) = chkFrom (chkFrom s a) b := by unfold chkFrom; rw [List.foldl_append]
theorem chkFrom_snoc (s x : Int) (b : List Int) : chkFrom s (b ++ [x]) = (chkFrom s b * 31 + x) % 4294967291 := by rw [chkFrom_append]; rfl
theorem chkFrom_bd (b : List Int) : ∀ s : Int, 0 ≤ s → s < 4294967291 → 0 ≤ chkFrom s b ∧ chkFrom s b < 4294967291 := by
  induction b with
  | nil => intro s h1 h2; exact ⟨h1, h2⟩
  | cons x b ih => intro s h1 h2; rw [chkFrom_cons]; exact ih _ (Int.emod_nonneg _ (by decide)) (Int.emod_lt_of_pos _ (by decide))
theorem chk_bd (b : List Int) : 0 ≤ chk b ∧ chk b < 4294967291 := chkFrom_bd b 1 (by decide) (by decide)
end Go.Proofs.YtlamogpdkmbeoaaGreatDoor
end PartFrP
