/- The texts NoteD, NoteE, NoteF in one. -/
import Derived.Test.YtlamogpdkmbeoaaGreatDoorZbNoteB
import Derived.Test.YtlamogpdkmbeoaaGreatDoorZbNoteC
import Derived.Test.YtlamogpdkmbeoaaGreatDoorZbNote
import Derived.Test.YtlamogpdkmbeoaaGreatDoorZbLed
set_option linter.unusedVariables false
set_option linter.unusedSimpArgs false
section PartNoteD
/- The walk of 'wellFormed'. -/
set_option maxRecDepth 100000
namespace Go.Proofs.YtlamogpdkmbeoaaGreatDoor
open Go.RowKit Go.Lib Go.Shelf

theorem wpList_load_blk_on {P : Program} {w : World} {ops : Array Oper} {rest : List Oper} {op : Oper} {a : Act} {Q : Exit → Act → World → Prop} (hw : Region.wanted op (yielded ops a.tmps) = true) (ty : TypeId) (x : Operand) (ho : op.op = .load ty x)
    (g : Nat) (t : TypeId) (cs : Array Value) (d : TypeDesc) (hx : a.eval x = .pointer (some ⟨g, 0, none⟩)) (hB : Blk w g t cs)
    (hu : P.underlying ty = some d) (hd : d.isRow = true) (hi : (P.info? ty).map (·.size) = some cs.size) (h : wpList P ops Q rest (a.put op.dst (.agg cs)) w) : wpList P ops Q (op :: rest) a w := by
  unfold wpList
  rw [if_pos hw]
  exact Or.inl (wp_load_mid ty x ho g 0 hx cs.toList d hB.range hu hd (by simpa using hi) (by simpa using h))
/-- How many jumps and lines the note has that is left without the fields in use. -/
def restLen (n : Nt) (k : Nat) : Nat := if n.kind = 1 then 0 else k
theorem rest_slices (n : Nt) {Aj Al : Option Addr} {nj cj nl cl : Nat} (hj : n.log.jumps = .slice Aj nj cj) (hl : n.log.lines = .slice Al nl cl) :
    (∃ A c, n.rest.log.jumps = .slice A (restLen n nj) c) ∧ ∃ A c, n.rest.log.lines = .slice A (restLen n nl) c := by
  unfold restLen Nt.rest
  by_cases h1 : n.kind = 1
  · simp [h1]
  · by_cases h2 : n.kind = 2
    · simp [h2, hj, hl]
    · by_cases h3 : n.kind = 3
      · simp [h3, hj, hl]
      · by_cases h4 : n.kind = 4
        · simp [h4, hj, hl]
        · by_cases h5 : n.kind = 5
          · simp [h5, hj, hl]
          · by_cases h6 : n.kind = 6
            · simp [h6, hj, hl]
            · by_cases h7 : n.kind = 7
              · simp [h7, hj, hl]
              · simp [h1, h2, h3, h4, h5, h6, h7, hj, hl]
theorem sameNote0 (m : Nt) {Aj Al : Option Addr} {nj cj nl cl : Nat} (hj : m.log.jumps = .slice Aj nj cj) (hl : m.log.lines = .slice Al nl cl) (h1 : nj ≤ 9223372036854775807) (h2 : nl ≤ 9223372036854775807) (w : World) :
    Calls Tryz.prog 79 #[m.val, Nt0.val] w fun e w' => e = .returned (.bool (m.is0 nj nl)) ∧ Below w.heap.size w w' := by
  obtain ⟨judge, num, clock, kind, call, version, ⟨lcall, cat, pow, cl, vj, vl⟩, aC, aN, bC, bN, rJ, rN, hash, prev⟩ := m
  dsimp only at hj hl
  subst hj; subst hl
  exact sameNote0_any _ _ _ _ _ _ _ _ _ _ _ _ _ _ _ _ _ _ _ _ _ _ _ _ w h1 h2
/-- A note that is well-formed; its log's jumps are js, its lines ls. -/
def goodB (o : Lay) (n : Nt) (js : List Int) (ls : List Ln) : Bool :=
  usedB o n js ls && n.rest.is0 (restLen n js.length) (restLen n ls.length) && inB n.judge 1 8 && inB n.num 1 2000 && inB n.clock 1 1099511627776

set_option maxHeartbeats 16000000 in
theorem wellFormed_any (o : Lay) (n : Nt) (js : List Int) (ls : List Ln) (w : World) (hj : RowsAt encI 1 w n.log.jumps js) (hl : RowsAt Ln.enc 11 w n.log.lines ls) (hs : ∀ x ∈ ls, x.call.size ≤ 9223372036854775807) (hE : Env w) :
    Calls Tryz.prog 93 #[o.val, n.val] w fun e w' => e = .returned (.bool (goodB o n js ls)) ∧ Below w.heap.size w w' := by
  have hU := fun W (hb : Below w.heap.size w W) => used_any o n js ls W (hj.later hb) (hl.later hb) hs (hE.below hE.big hb)
  obtain ⟨Aj, cj, hvj⟩ := hj.len
  obtain ⟨Al, cl', hvl⟩ := hl.len
  have hmj := hj.max
  have hml := hl.max
  unfold maxLen at hmj hml
  obtain ⟨⟨Aj2, cj2, hr1⟩, ⟨Al2, cl2', hr2⟩⟩ := rest_slices n hvj hvl
  have hnj : restLen n js.length ≤ 9223372036854775807 := by unfold restLen; split <;> omega
  have hnl : restLen n ls.length ≤ 9223372036854775807 := by unfold restLen; split <;> omega
  have h2 := fun W => sameNote0 n.rest hr1 hr2 hnj hnl W
  unfold goodB
  have h3 := fun W => jwithin_any n.judge 1 8 W
  have h4 := fun W => jwithin_any n.num 1 2000 W
  have h5 := fun W => jwithin_any n.clock 1 1099511627776 W
  clear hj hl hs hE hmj hml
  generalize usedB o n js ls = z1 at hU ⊢
  generalize n.rest.is0 (restLen n js.length) (restLen n ls.length) = z2 at h2 ⊢
  generalize inB n.judge 1 8 = z3 at h3 ⊢
  generalize inB n.num 1 2000 = z4 at h4 ⊢
  generalize inB n.clock 1 1099511627776 = z5 at h5 ⊢
  generalize n.rest = m at hU h2 hr1 hr2
  generalize restLen n js.length = nj at hr1 hnj
  generalize restLen n ls.length = nl at hr2 hnl
  obtain ⟨judge2, num2, clock2, kind2, call2, version2, ⟨lcall2, cat2, pow2, cl2, vj2, vl2⟩, aC2, aN2, bC2, bN2, rJ2, rN2, hash2, prev2⟩ := m
  dsimp only at hr1 hr2
  subst hr1; subst hr2
  obtain ⟨judge, num, clock, kind, call, version, ⟨lcall, cat, pow, cl, vj, vl⟩, aC, aN, bC, bN, rJ, rN, hash, prev⟩ := n
  obtain ⟨o1, o2, o3⟩ := o
  dsimp only at hvj hvl h3 h4 h5
  subst hvj; subst hvl
  dsimp only [Lay.val, Nt.val, Nt.enc, Nt0, Lg0] at hU h2 ⊢
  have HU := Lib.hid hU
  clear hU hnj hnl
  have U46 := Tryz.underlying46
  obtain ⟨W, hW⟩ : ∃ W, (w.alloc (.cells #[.bool o1, .bool o2, .bool o3] 23)).alloc (.cells #[.int .i64 judge, .int .i64 num, .int .i64 clock, .int .i64 kind, .string call, .int .i64 version, .string lcall, .int .i64 cat, .int .i64 pow, .int .i64 cl, .slice Aj js.length cj, (.slice Al ls.length cl'), .string aC, .int .i64 aN, .string bC, .int .i64 bN, .int .i64 rJ, .int .i64 rN, .int .i64 hash, .int .i64 prev] 46) = W := ⟨_, rfl⟩
  have hN : Blk W (w.heap.size + 1) 46 #[.int .i64 judge, .int .i64 num, .int .i64 clock, .int .i64 kind, .string call, .int .i64 version, .string lcall, .int .i64 cat, .int .i64 pow, .int .i64 cl, .slice Aj js.length cj, (.slice Al ls.length cl'), .string aC, .int .i64 aN, .string bC, .int .i64 bN, .int .i64 rJ, .int .i64 rN, .int .i64 hash, .int .i64 prev] := by rw [← hW]; have := Blk.new (w.alloc (.cells #[.bool o1, .bool o2, .bool o3] 23)) 46 #[.int .i64 judge, .int .i64 num, .int .i64 clock, .int .i64 kind, .string call, .int .i64 version, .string lcall, .int .i64 cat, .int .i64 pow, .int .i64 cl, .slice Aj js.length cj, (.slice Al ls.length cl'), .string aC, .int .i64 aN, .string bC, .int .i64 bN, .int .i64 rJ, .int .i64 rN, .int .i64 hash, .int .i64 prev]; rwa [World.size_alloc] at this
  have hb : Below w.heap.size w W := by rw [← hW]; exact ((Below.refl _ w).alloc (Nat.le_refl _) _).alloc (by simp) _
  have hO : Blk W w.heap.size 23 #[.bool o1, .bool o2, .bool o3] := by rw [← hW]; exact (Blk.new w _ _).alloc _
  go_enter Tryz.func93, Tryz.ntmps93
  go_upto_region 1 with fail
  clear hW
  have O0 : W.cell? ⟨w.heap.size, 0, none⟩ = some (.bool o1) := hO.cell 0
  have O1 : W.cell? ⟨w.heap.size, 1, none⟩ = some (.bool o2) := hO.cell 1
  have O2 : W.cell? ⟨w.heap.size, 2, none⟩ = some (.bool o3) := hO.cell 2
  have HB := Lib.hid hb
  have HN := Lib.hid hN
  have lt0 := hO.lt
  have lt1 := hN.lt
  have hU := HU.out W hb
  clear hb hN hO
  have tok : True := trivial
  go_upto_region 2 with (first
    | (have _t := tok; refine wpList_load_blk rfl 46 _ rfl (w.heap.size + 1) 46 _ _ rfl HN.out U46 rfl sizeNote ?_; clear tok)
    | (go_at_call 134; refine hU.mono ?_; rintro e w1 ⟨rfl, hb1⟩)
    | (refine wpList_store_blk rfl 46 _ _ rfl w1.heap.size 46 #[.int .i64 0, .int .i64 0, .int .i64 0, .int .i64 0, .string ⟨#[]⟩, .int .i64 0, .string ⟨#[]⟩, .int .i64 0, .int .i64 0, .int .i64 0, .slice none 0 0, .slice none 0 0, .string ⟨#[]⟩, .int .i64 0, .string ⟨#[]⟩, .int .i64 0, .int .i64 0, .int .i64 0, .int .i64 0, .int .i64 0] #[.int .i64 judge2, .int .i64 num2, .int .i64 clock2, .int .i64 kind2, .string call2, .int .i64 version2, .string lcall2, .int .i64 cat2, .int .i64 pow2, .int .i64 cl2, .slice Aj2 nj cj2, (.slice Al2 nl cl2'), .string aC2, .int .i64 aN2, .string bC2, .int .i64 bN2, .int .i64 rJ2, .int .i64 rN2, .int .i64 hash2, .int .i64 prev2] rfl rfl (Blk.new w1 _ _) (by rfl) sizeNote (by simp [Value.oneCell']) ?_; intro w2 hM2 hg2 hs2))
  have hsz := hb1.size
  have hN2 := ((HN.out.later hb1).alloc (.cells #[.int .i64 0, .int .i64 0, .int .i64 0, .int .i64 0, .string ⟨#[]⟩, .int .i64 0, .string ⟨#[]⟩, .int .i64 0, .int .i64 0, .int .i64 0, .slice none 0 0, .slice none 0 0, .string ⟨#[]⟩, .int .i64 0, .string ⟨#[]⟩, .int .i64 0, .int .i64 0, .int .i64 0, .int .i64 0, .int .i64 0] 46)).kept hg2 (by intro e; injection e with e; omega)
  have hb2 : Below w.heap.size w w2 := (((HB.out.trans (hb1.mono HB.out.size))).alloc (by have := HB.out.size; omega) _).grown hg2 (by have := HB.out.size; simp; omega) (fun i e => by cases e; have := HB.out.size; omega)
  obtain ⟨r, hr⟩ : ∃ r, w1.heap.size = r := ⟨_, rfl⟩
  rw [hr] at hM2 ⊢
  have HB2 := Lib.hid hb2
  clear hb2 hg2 hs2 hU hb1 hsz hr
  have n0 : w2.cell? ⟨w.heap.size + 1, 0, none⟩ = some (.int .i64 judge) := hN2.cell 0
  have n1 : w2.cell? ⟨w.heap.size + 1, 1, none⟩ = some (.int .i64 num) := hN2.cell 1
  have n2 : w2.cell? ⟨w.heap.size + 1, 2, none⟩ = some (.int .i64 clock) := hN2.cell 2
  have ltr := hM2.lt
  have ltn := hN2.lt
  have HN2 := Lib.hid hN2
  have HM2 := Lib.hid hM2
  clear hM2 hN2
  cases z1
  · as_aux_lemma =>
      go_wp2
      go_ret
      exact ⟨by simp, HB2.out⟩
  · cases z2
    · as_aux_lemma =>
        have tok : True := trivial
        go_wp2_with (first | (have _t := tok; refine wpList_load_blk_on (by kernel_rfl) 46 _ rfl r 46 _ _ rfl HM2.out U46 rfl sizeNote ?_; clear tok) | (go_at_call 79; refine (h2 _).mono ?_; rintro e w3 ⟨rfl, hb3⟩; have k0 := (hb3.cell (p := ⟨w.heap.size + 1, 0, none⟩) ltn).trans n0; have k1 := (hb3.cell (p := ⟨w.heap.size + 1, 1, none⟩) ltn).trans n1; have k2 := (hb3.cell (p := ⟨w.heap.size + 1, 2, none⟩) ltn).trans n2))
        go_ret
        exact ⟨by simp, HB2.out.trans (hb3.mono HB2.out.size)⟩
    · cases z3
      · as_aux_lemma =>
          have tok : True := trivial
          go_wp2_with (first | (have _t := tok; refine wpList_load_blk_on (by kernel_rfl) 46 _ rfl r 46 _ _ rfl HM2.out U46 rfl sizeNote ?_; clear tok) | (go_at_call 79; refine (h2 _).mono ?_; rintro e w3 ⟨rfl, hb3⟩; have k0 := (hb3.cell (p := ⟨w.heap.size + 1, 0, none⟩) ltn).trans n0; have k1 := (hb3.cell (p := ⟨w.heap.size + 1, 1, none⟩) ltn).trans n1; have k2 := (hb3.cell (p := ⟨w.heap.size + 1, 2, none⟩) ltn).trans n2) | (go_at_call 45; ((with_reducible refine (h3 _).mono ?_); rintro e w4 ⟨rfl, rfl⟩)))
          go_ret
          exact ⟨by simp, HB2.out.trans (hb3.mono HB2.out.size)⟩
      · cases z4
        · as_aux_lemma =>
            have tok : True := trivial
            go_wp2_with (first | (have _t := tok; refine wpList_load_blk_on (by kernel_rfl) 46 _ rfl r 46 _ _ rfl HM2.out U46 rfl sizeNote ?_; clear tok) | (go_at_call 79; refine (h2 _).mono ?_; rintro e w3 ⟨rfl, hb3⟩; have k0 := (hb3.cell (p := ⟨w.heap.size + 1, 0, none⟩) ltn).trans n0; have k1 := (hb3.cell (p := ⟨w.heap.size + 1, 1, none⟩) ltn).trans n1; have k2 := (hb3.cell (p := ⟨w.heap.size + 1, 2, none⟩) ltn).trans n2) | (go_at_call 45; ((with_reducible refine (h3 _).mono ?_); rintro e w4 ⟨rfl, rfl⟩)) | (go_at_call 45; ((with_reducible refine (h4 _).mono ?_); rintro e w5 ⟨rfl, rfl⟩)))
            go_ret
            exact ⟨by simp, HB2.out.trans (hb3.mono HB2.out.size)⟩
        · cases z5
          · as_aux_lemma =>
              have tok : True := trivial
              go_wp2_with (first | (have _t := tok; refine wpList_load_blk_on (by kernel_rfl) 46 _ rfl r 46 _ _ rfl HM2.out U46 rfl sizeNote ?_; clear tok) | (go_at_call 79; refine (h2 _).mono ?_; rintro e w3 ⟨rfl, hb3⟩; have k0 := (hb3.cell (p := ⟨w.heap.size + 1, 0, none⟩) ltn).trans n0; have k1 := (hb3.cell (p := ⟨w.heap.size + 1, 1, none⟩) ltn).trans n1; have k2 := (hb3.cell (p := ⟨w.heap.size + 1, 2, none⟩) ltn).trans n2) | (go_at_call 45; ((with_reducible refine (h3 _).mono ?_); rintro e w4 ⟨rfl, rfl⟩)) | (go_at_call 45; ((with_reducible refine (h4 _).mono ?_); rintro e w5 ⟨rfl, rfl⟩)) | (go_at_call 45; ((with_reducible refine (h5 _).mono ?_); rintro e w6 ⟨rfl, rfl⟩)))
              go_ret
              exact ⟨by simp, HB2.out.trans (hb3.mono HB2.out.size)⟩
          · as_aux_lemma =>
              have tok : True := trivial
              go_wp2_with (first | (have _t := tok; refine wpList_load_blk_on (by kernel_rfl) 46 _ rfl r 46 _ _ rfl HM2.out U46 rfl sizeNote ?_; clear tok) | (go_at_call 79; refine (h2 _).mono ?_; rintro e w3 ⟨rfl, hb3⟩; have k0 := (hb3.cell (p := ⟨w.heap.size + 1, 0, none⟩) ltn).trans n0; have k1 := (hb3.cell (p := ⟨w.heap.size + 1, 1, none⟩) ltn).trans n1; have k2 := (hb3.cell (p := ⟨w.heap.size + 1, 2, none⟩) ltn).trans n2) | (go_at_call 45; ((with_reducible refine (h3 _).mono ?_); rintro e w4 ⟨rfl, rfl⟩)) | (go_at_call 45; ((with_reducible refine (h4 _).mono ?_); rintro e w5 ⟨rfl, rfl⟩)) | (go_at_call 45; ((with_reducible refine (h5 _).mono ?_); rintro e w6 ⟨rfl, rfl⟩)))
              go_ret
              exact ⟨by simp, HB2.out.trans (hb3.mono HB2.out.size)⟩
end Go.Proofs.YtlamogpdkmbeoaaGreatDoor
end PartNoteD

section PartNoteE
/- The walks of 'CheckSet' and 'isSet'. -/
set_option maxRecDepth 100000
namespace Go.Proofs.YtlamogpdkmbeoaaGreatDoor
open Go.RowKit Go.Lib Go.Shelf

def Note.good (o : Lay) (x : Note) : Bool := goodB o x.nt x.js x.ls
def cmpN (x y : Note) : Int := cmpName x.nt.judge x.nt.num y.nt.judge y.nt.num
def setAt (o : Lay) (xs : List Note) (i : Nat) : Bool := (xs.getD i Note0).good o && (i == 0 || (cmpN (xs.getD (i - 1) Note0) (xs.getD i Note0) != 0 && cmpN (xs.getD (i - 1) Note0) (xs.getD i Note0) != 1))
def setB (o : Lay) (xs : List Note) : Bool := decide (xs.length ≤ 2000) && (List.range xs.length).all (setAt o xs)
set_option maxHeartbeats 8000000 in
theorem CheckSet_any (o : Lay) (v : Value) (xs : List Note) (w : World) (h : NotesAt w v xs) (hE : Env w) :
    Calls Tryz.prog 59 #[o.val, v] w fun e w' => Checked (setB o xs) e ∧ Below w.heap.size w w' := by
  obtain ⟨R, hR⟩ : ∃ R, R = setB o xs := ⟨_, rfl⟩
  rw [← hR]
  have HR := Lib.hid hR
  clear hR
  have hm := h.row.max
  unfold maxLen at hm
  have U46 := Tryz.underlying46
  have HEACH := Lib.hid h.each
  have HE := Lib.hid hE
  by_cases hlen : xs.length ≤ 2000
  · have gl : ¬ (2000 : Int) < xs.length := by omega
    have HR2 : Hid (R = (List.range xs.length).all (setAt o xs)) := Lib.hid (by rw [HR.out]; unfold setB; rw [decide_eq_true hlen, Bool.true_and])
    rcases h.row.place with ⟨rfl, A, c, rfl⟩ | ⟨b, ao, c, rfl, h0, _, hbb, hcell⟩
    · clear h hE
      obtain ⟨o1, o2, o3⟩ := o
      go_enter Tryz.func59, Tryz.ntmps59
      go_wp2
      refine wp_loop_rounds 1 ?_
      rw [rounds_succ]
      go_wp2
      go_ret2
      exact ⟨⟨_, _, rfl, by rw [HR2.out]; rfl⟩, (Below.refl _ w).alloc (Nat.le_refl _) _⟩
    · have hL : (xs.length : Int) ≤ 2000 := by omega
      have HCELL := Lib.hid hcell
      clear hcell h hE
      have hWF := fun (x : Note) W (hx : x.At W) (hE : Env W) => wellFormed_any o x.nt x.js x.ls W hx.jumps hx.lines hx.calls hE
      have HWF := Lib.hid hWF
      clear hWF
      obtain ⟨oo, hoo⟩ : ∃ oo, oo = o := ⟨_, rfl⟩
      rw [← hoo] at HWF HR HR2 ⊢
      obtain ⟨o1, o2, o3⟩ := o
      obtain ⟨W1, hW1⟩ : ∃ W1, w.alloc (.cells #[.bool o1, .bool o2, .bool o3] 23) = W1 := ⟨_, rfl⟩
      have hb0 : Below w.heap.size w W1 := by rw [← hW1]; exact (Below.refl _ w).alloc (Nat.le_refl _) _
      have hbO : Blk W1 w.heap.size 23 #[.bool o1, .bool o2, .bool o3] := by rw [← hW1]; exact Blk.new w _ _
      have HB0 := Lib.hid hb0
      have HBO := Lib.hid hbO
      have lt0 := hbO.lt
      have le0 := hb0.size
      clear hb0 hbO
      have hoo2 : oo.val = .agg #[.bool o1, .bool o2, .bool o3] := by rw [hoo]
      rw [hoo2]
      have HOO := Lib.hid hoo
      have HOO2 := Lib.hid hoo2
      clear hoo hoo2
      go_enter Tryz.func59, Tryz.ntmps59
      go_wp2
      clear hW1
      go_loopw [13] (fun s13 wr => ∃ k : Nat, k ≤ xs.length ∧ s13 = .int .i64 k ∧ (List.range k).all (setAt oo xs) = true ∧ Below W1.heap.size W1 wr) (fun s13 _ => xs.length - (intOf s13).toNat)
      case atStart => exact ⟨0, Nat.zero_le _, rfl, rfl, Below.refl _ _⟩
      case round =>
        obtain ⟨k, hk, rfl, hall, hbr⟩ := hrel
        have HA := Lib.hid hall
        have HBR := Lib.hid hbr
        have O0 : wr.cell? ⟨w.heap.size, 0, none⟩ = some (.bool o1) := (HBO.out.later hbr).cell 0
        have O1 : wr.cell? ⟨w.heap.size, 1, none⟩ = some (.bool o2) := (HBO.out.later hbr).cell 1
        have O2 : wr.cell? ⟨w.heap.size, 2, none⟩ = some (.bool o3) := (HBO.out.later hbr).cell 2
        have hsz := hbr.size
        have lt3 : w.heap.size < wr.heap.size := by omega
        have lt4 : b < wr.heap.size := by omega
        clear hall hbr
        by_cases hlt : k < xs.length
        · obtain ⟨x, hx⟩ : ∃ x, x = xs[k] := ⟨_, rfl⟩
          have hgx : xs.getD k Note0 = x := by rw [hx, List.getD_eq_getElem?_getD, List.getElem?_eq_getElem hlt]; rfl
          have hxm : x ∈ xs := by rw [hx]; exact List.getElem_mem hlt
          have hrng : wr.rangeAt b (ao + k * 20) x.nt.enc := fun i u hu => (HBR.out.cell (p := ⟨b, ao + k * 20 + i, none⟩) (by show b < _; omega)).trans ((HB0.out.cell (p := ⟨b, ao + k * 20 + i, none⟩) hbb).trans (HCELL.out k hlt i u (by rw [← hx]; exact hu)))
          have hxa : x.At wr := ((HEACH.out x hxm).later HB0.out).later HBR.out
          clear hx
          have HRNG := Lib.hid hrng
          have HXA := Lib.hid hxa
          clear hrng hxa
          have tok : True := trivial
          go_upto_region 6 with (first
            | (have _t := tok; refine wpList_load_mid rfl 46 _ rfl b (ao + k * 20) rfl x.nt.enc _ HRNG.out U46 rfl sizeNote ?_; clear tok)
            | (refine wpList_store_blk rfl 46 _ _ rfl wr.heap.size 46 Nt0.enc.toArray x.nt.enc.toArray rfl rfl (Blk.new wr _ _) (by rfl) sizeNote (note_one HXA.out) ?_; intro w2 hX2 hg2 hs2))
          have hbr2 : Below W1.heap.size W1 w2 := (HBR.out.alloc HBR.out.size _).grown hg2 (by have := HBR.out.size; simp; omega) (fun i e => by cases e; exact HBR.out.size)
          have P0 : w2.cell? ⟨w.heap.size, 0, none⟩ = some (.bool o1) := (HBO.out.later hbr2).cell 0
          have P1 : w2.cell? ⟨w.heap.size, 1, none⟩ = some (.bool o2) := (HBO.out.later hbr2).cell 1
          have P2 : w2.cell? ⟨w.heap.size, 2, none⟩ = some (.bool o3) := (HBO.out.later hbr2).cell 2
          have hxa2 : x.At w2 := ((HEACH.out x hxm).later HB0.out).later hbr2
          have hwf := HWF.out x w2 hxa2 (HE.out.below HE.out.big (HB0.out.trans (hbr2.mono le0)))
          rw [HOO2.out] at hwf
          have HX2 := Lib.hid hX2
          have ltX := hX2.lt
          have HBW := Lib.hid hbr2
          obtain ⟨r, hr⟩ : ∃ r, wr.heap.size = r := ⟨_, rfl⟩
          rw [hr] at HX2 ltX ⊢
          obtain ⟨z, hz⟩ : ∃ z, z = goodB oo x.nt x.js x.ls := ⟨_, rfl⟩
          rw [← hz] at hwf
          clear hX2 hg2 hs2 hbr2 hxa2 O0 O1 O2 hsz hr lt3 lt4
          have tok : True := trivial
          cases z
          · have Hno : Hid (setAt oo xs k = false) := Lib.hid (by unfold setAt Note.good; rw [hgx, ← hz]; rfl)
            clear hz hgx hxm
            go_wp2_with (first
              | (have _t := tok; refine wpList_load_blk rfl 46 _ rfl r 46 _ _ rfl HX2.out U46 rfl sizeNote ?_; clear tok)
              | (go_at_call 93; refine hwf.mono ?_; rintro e w3 ⟨rfl, hb3⟩))
            go_ret2
            exact ⟨checked_bad rfl (by rw [HR2.out]; exact range_all_false hlt Hno.out), HB0.out.trans ((HBW.out.trans (hb3.mono HBW.out.size)).mono le0)⟩
          · have HZ := Lib.hid hz
            have HGX := Lib.hid hgx
            have HXM := Lib.hid hxm
            clear hz hgx hxm
            cases k with
            | zero =>
              have Hy : Hid ((List.range (0 + 1)).all (setAt oo xs) = true) := Lib.hid (by rw [range_all_succ]; unfold setAt Note.good; rw [HGX.out, ← HZ.out]; rfl)
              go_wp2_with (first
                | (have _t := tok; refine wpList_load_blk rfl 46 _ rfl r 46 _ _ rfl HX2.out U46 rfl sizeNote ?_; clear tok)
                | (go_at_call 93; refine hwf.mono ?_; rintro e w3 ⟨rfl, hb3⟩))
              go_roundw
              case rel => exact ⟨0 + 1, by omega, by go_num, Hy.out, HBW.out.trans (hb3.mono HBW.out.size)⟩
              case measure => simp [intOf]; omega
            | succ k =>
              obtain ⟨y, hy⟩ : ∃ y, y = xs[k] := ⟨_, rfl⟩
              have HGY : Hid (xs.getD k Note0 = y) := Lib.hid (by rw [hy, List.getD_eq_getElem?_getD, List.getElem?_eq_getElem (by omega)]; rfl)
              have HRY : Hid (∀ W, Below W1.heap.size W1 W → W.rangeAt b (ao + k * 20) y.nt.enc) := Lib.hid (fun W hW i u hu => (hW.cell (p := ⟨b, ao + k * 20 + i, none⟩) (by show b < _; omega)).trans ((HB0.out.cell (p := ⟨b, ao + k * 20 + i, none⟩) hbb).trans (HCELL.out k (by omega) i u (by rw [← hy]; exact hu))))
              clear hy
              go_upto_region 9 with (first
                | (have _t := tok; refine wpList_load_blk rfl 46 _ rfl r 46 _ _ rfl HX2.out U46 rfl sizeNote ?_; clear tok)
                | (go_at_call 93; refine hwf.mono ?_; rintro e w3 ⟨rfl, hb3⟩))
              have hn1 := fun W => nameOf_any y.nt W
              have hn2 := fun W => nameOf_any x.nt W
              have hcn := fun W => compareNames_any y.nt.judge y.nt.num x.nt.judge x.nt.num W
              obtain ⟨q, hq⟩ : ∃ q, q = cmpName y.nt.judge y.nt.num x.nt.judge x.nt.num := ⟨_, rfl⟩
              rw [← hq] at hcn
              have HQ := Lib.hid hq
              clear hq
              have HB3 : Hid (Below W1.heap.size W1 w3) := Lib.hid (HBW.out.trans (hb3.mono HBW.out.size))
              have hX3 := HX2.out.later hb3
              have le3 := HB3.out.size
              have g1 : (0 : Int) ≤ (k : Int) := by omega
              have g2 : (k : Int) < xs.length := by omega
              have g3 : IntKind.i64.wrap (k : Int) = k := IntWalk.i64_in _ (by omega)
              refine wp_region_held_drew (S := (fun w' => w'.rangeAt b (ao + k * 20) y.nt.enc ∧ Blk w' r 46 x.nt.enc.toArray)) (by kernel_rfl) ?hS1 (fun hHeld => ?_)
              case hS1 => exact ⟨HRY.out _ HB3.out.drew, hX3.drew⟩
              refine tk3 (i := 0) ?_; try simp only [Act.put, zq]
              refine tk3 (i := 1) ?_; try simp only [Act.put, zq]
              refine tk3 (i := 2) ?_; try simp only [Act.put, zq]
              refine tk3 (i := 3) ?_; try simp only [Act.put, zq]
              refine' wpAnyH_take (i := 4) rfl (by kernel_rfl) (by kernel_rfl) (by kernel_rfl) (fun _ _ _ h => h) (yieldsIf_load_mid (by kernel_rfl) _ _ rfl _ _ rfl _ _ (fun w9 hSw => hSw.1) ?hu1_5 ?hd1_5 ?hi1_5) (by assumption) ?_
              case hu1_5 => assumption
              case hd1_5 => rfl
              case hi1_5 => (first | assumption | kernel_rfl)
              (try simp only [Act.put, zq])
              refine tk4 (i := 6) (fun w9 hSw => hSw.2) ?_; try simp only [Act.put, zq]
              refine wpAnyH_ready (rs := [5]) (by kernel_rfl) (by simp) ?_
              refine AllReadyH.cons rfl (fun K hK => ?_) AllReadyH.nil
              go_simp
              (go_at_call 54; ((with_reducible refine (hn1 _).mono ?_); rintro e w4 ⟨rfl, hg4⟩); have hb4 := HB3.out.drew.trans (hg4.below.mono HB3.out.drew.size); have hX4 := hX3.drew.later hg4.below)
              go_wp2_with fail
              refine hK.out _ _ ?hS1_7 (fun hHeld => ?_)
              case hS1_7 => ((try dsimp only); exact ⟨HRY.out _ hb4, hX4⟩)
              clear hK K
              (try simp only [Act.put, zq])
              refine wpAnyH_ready (rs := [7]) (by kernel_rfl) (by simp) ?_
              refine AllReadyH.cons rfl (fun K hK => ?_) AllReadyH.nil
              go_simp
              (go_at_call 54; ((with_reducible refine (hn2 _).mono ?_); rintro e w5 ⟨rfl, hg5⟩); have hb5 := hb4.trans (hg5.below.mono hb4.size); have hX5 := hX4.later hg5.below)
              go_wp2_with fail
              refine hK.out _ _ ?hS1_8 (fun hHeld => ?_)
              case hS1_8 => ((try dsimp only); exact ⟨HRY.out _ hb5, hX5⟩)
              clear hK K
              (try simp only [Act.put, zq])
              refine wpAnyH_ready (rs := [8]) (by kernel_rfl) (by simp) ?_
              refine AllReadyH.cons rfl (fun K hK => ?_) AllReadyH.nil
              go_simp
              (go_at_call 36; refine (hcn _).mono ?_; rintro e w6 ⟨rfl, hg6⟩; have hb6 := hb5.trans (hg6.below.mono hb5.size); have hX6 := hX5.later hg6.below)
              go_wp2_with fail
              refine hK.out _ _ ?hS1_9 (fun hHeld => ?_)
              case hS1_9 => ((try dsimp only); exact ⟨HRY.out _ hb6, hX6⟩)
              clear hK K
              (try simp only [Act.put, zq])
              refine wpAnyH_done (by kernel_rfl) ?_ _
              have HB6 := Lib.hid hb6
              clear g1 g2 g3 hb6 hX6 hb5 hX5 hb4 hX4 hg4 hg5 hg6 hX3 hb3 hn1 hn2 hcn hwf P0 P1 P2
              have hset : setAt oo xs (k + 1) = (q != 0 && q != 1) := by unfold setAt Note.good cmpN; rw [Nat.add_sub_cancel, HGX.out, HGY.out, ← HZ.out, ← HQ.out]; simp
              by_cases h0 : q = 0
              · subst h0
                have Hno : Hid (setAt oo xs (k + 1) = false) := Lib.hid (by rw [hset]; rfl)
                clear hset
                go_wp2
                go_ret2
                exact ⟨checked_bad rfl (by rw [HR2.out]; exact range_all_false hlt Hno.out), HB0.out.trans (HB6.out.mono le0)⟩
              · by_cases h1 : q = 1
                · subst h1
                  have Hno : Hid (setAt oo xs (k + 1) = false) := Lib.hid (by rw [hset]; rfl)
                  clear hset h0
                  go_wp2
                  go_ret2
                  exact ⟨checked_bad rfl (by rw [HR2.out]; exact range_all_false hlt Hno.out), HB0.out.trans (HB6.out.mono le0)⟩
                · have Hy : Hid ((List.range (k + 1 + 1)).all (setAt oo xs) = true) := Lib.hid (by rw [range_all_succ, hset, HA.out]; simp [h0, h1])
                  clear hset
                  have e0 : (q == 0) = false := by simp [h0]
                  have e1 : (q == 1) = false := by simp [h1]
                  go_wp2
                  go_roundw
                  case rel => exact ⟨k + 1 + 1, by omega, by go_num, Hy.out, HB6.out⟩
                  case measure => simp [intOf]; omega
        · have hks : k = xs.length := by omega
          have Hd : Hid (R = true) := Lib.hid (by rw [HR2.out, ← hks]; exact HA.out)
          clear hks
          go_wp2
          go_ret2
          exact ⟨⟨_, _, rfl, by rw [Hd.out]; rfl⟩, HB0.out.trans (HBR.out.mono le0)⟩
  · have gl : (2000 : Int) < xs.length := by omega
    obtain ⟨A, c, rfl⟩ := h.row.len
    clear h hE
    obtain ⟨o1, o2, o3⟩ := o
    go_enter Tryz.func59, Tryz.ntmps59
    go_wp2
    go_ret2
    exact ⟨checked_bad rfl (by rw [HR.out]; unfold setB; rw [decide_eq_false hlen]; rfl), (Below.refl _ w).alloc (Nat.le_refl _) _⟩
theorem isSet_any (o : Lay) (v : Value) (xs : List Note) (w : World) (h : NotesAt w v xs) (hE : Env w) :
    Calls Tryz.prog 31 #[o.val, v] w fun e w' => e = .returned (.bool (setB o xs)) ∧ Below w.heap.size w w' := by
  have hC := fun W (hb : Below w.heap.size w W) => CheckSet_any o v xs W (h.later hb) (hE.below hE.big hb)
  obtain ⟨A, c, rfl⟩ := h.row.len
  clear h hE
  generalize setB o xs = R at hC ⊢
  obtain ⟨o1, o2, o3⟩ := o
  have hc := hC (w.alloc (.cells #[.bool o1, .bool o2, .bool o3] 23)) ((Below.refl _ w).alloc (Nat.le_refl _) _)
  clear hC
  dsimp only [Lay.val] at hc ⊢
  go_enter Tryz.func31, Tryz.ntmps31
  go_wp2_with (go_at_call 59; refine hc.mono ?_; rintro e w1 ⟨⟨c2, i, rfl, hR⟩, hb1⟩; have HR := Lib.hid hR; clear hR)
  go_ret
  refine ⟨?_, ((Below.refl _ w).alloc (Nat.le_refl _) _).trans (hb1.mono (by simp))⟩
  rw [← HR.out]
  rfl
end Go.Proofs.YtlamogpdkmbeoaaGreatDoor
end PartNoteE

section PartNoteF
/- 'slices.DeleteFunc' at notes where nothing is deleted (the clock lies behind every note's). -/
set_option maxRecDepth 100000
namespace Go.Proofs.YtlamogpdkmbeoaaGreatDoor
open Go.RowKit Go.Lib Go.Shelf

instance : Inhabited Note := ⟨Note0⟩
def later (t : Int) (x : Note) : Bool := decide (t < x.nt.clock)
theorem later_any (t : Int) (B : Nat) (x : Note) (w : World) (hB : B < w.heap.size) (hc : w.cell? ⟨B, 0, none⟩ = some (.int .i64 t)) :
    Calls Tryz.prog 48 #[.agg x.enc.toArray, .pointer (some ⟨B, 0, none⟩)] w fun e w' => e = .returned (.bool (later t x)) ∧ Grown w w' := by
  obtain ⟨⟨judge, num, clock, kind, call, version, ⟨lcall, cat, pow, cl, vj, vl⟩, aC, aN, bC, bN, rJ, rN, hash, prev⟩, js, ls⟩ := x
  dsimp only [Note.enc, Nt.enc, later]
  obtain ⟨W, hW⟩ : ∃ W, w.alloc (.cells #[.int .i64 judge, .int .i64 num, .int .i64 clock, .int .i64 kind, .string call, .int .i64 version, .string lcall, .int .i64 cat, .int .i64 pow, .int .i64 cl, vj, vl, .string aC, .int .i64 aN, .string bC, .int .i64 bN, .int .i64 rJ, .int .i64 rN, .int .i64 hash, .int .i64 prev] 46) = W := ⟨_, rfl⟩
  have hg : Grown w W := by rw [← hW]; exact (Grown.refl w).alloc _
  have c2 : W.cell? ⟨w.heap.size, 2, none⟩ = some (.int .i64 clock) := by rw [← hW]; exact (Blk.new w _ _).cell 2
  have cB : W.cell? ⟨B, 0, none⟩ = some (.int .i64 t) := (hg.below.cell (p := ⟨B, 0, none⟩) hB).trans hc
  have HG := Lib.hid hg
  clear hg hc
  go_enter Tryz.func48, Tryz.ntmps48
  go_upto_region 1 with fail
  clear hW
  go_wp2
  go_ret
  exact ⟨rfl, HG.out⟩
theorem later_enters (args : Array Value) (w : World) : (callFunc 48 args).run Tryz.prog w = .ok (.enter 48 args) w := by
  rfl
theorem index_any (t : Int) (B : Nat) (v : Value) (xs : List Note) (w : World) (h : NotesAt w v xs) (hB : B < w.heap.size) (hc : w.cell? ⟨B, 0, none⟩ = some (.int .i64 t)) (hno : ∀ x ∈ xs, x.nt.clock ≤ t) :
    Calls Tryz.prog 81 #[v, .func (.func 48) #[] #[.pointer (some ⟨B, 0, none⟩)]] w fun e w' => e = .returned (.int .i64 (-1)) ∧ Below w.heap.size w w' := by
  have hm := h.row.max
  unfold maxLen at hm
  rcases h.row.place with ⟨rfl, A, c, rfl⟩ | ⟨b, ao, c, rfl, h0, _, hbb, hcell⟩
  · clear h hc hno
    go_enter Tryz.func81, Tryz.ntmps81
    go_wp2
    refine wp_loop_rounds 1 ?_
    rw [rounds_succ]
    go_wp2
    go_ret
    exact ⟨rfl, Below.refl _ w⟩
  · have hp : PredBelow Tryz.prog 48 #[.pointer (some ⟨B, 0, none⟩)] (fun x : Note => .agg x.enc.toArray) (later t) w := fun W x hb =>
      (later_any t B x W (Nat.lt_of_lt_of_le hB hb.size) ((hb.cell (p := ⟨B, 0, none⟩) hB).trans hc)).mono fun _ _ ⟨h, k⟩ => ⟨h, hb.trans (k.below.mono hb.size)⟩
    have hg : ∀ j (hj : j < xs.length), xs[j]! = xs[j] := fun j hj => by rw [List.getElem!_eq_getElem?_getD, List.getElem?_eq_getElem hj]; rfl
    have hi := AnyQ.slices_IndexFunc Tryz.indexNotes 20 Tryz.isAgg46 Tryz.sizeOf46 Note.enc (fun _ => rfl) (later t) 48 #[.pointer (some ⟨B, 0, none⟩)] later_enters b ao xs.length c xs w hp (Nat.le_refl _) hm hbb (fun j hj i u hu => hcell j hj i u (by rw [← hg j hj]; exact hu))
    rw [Lib.idxBy_miss (fun _ y => later t y) xs xs.length default (fun j hj => by
      have := hno xs[j] (List.getElem_mem hj)
      rw [hg j hj]
      unfold later
      exact decide_eq_false (by omega))] at hi
    exact hi
theorem delete_any (t : Int) (B : Nat) (v : Value) (xs : List Note) (w : World) (h : NotesAt w v xs) (hB : B < w.heap.size) (hc : w.cell? ⟨B, 0, none⟩ = some (.int .i64 t)) (hno : ∀ x ∈ xs, x.nt.clock ≤ t) :
    Calls Tryz.prog 46 #[v, .func (.func 48) #[] #[.pointer (some ⟨B, 0, none⟩)]] w fun e w' => e = .returned v ∧ Below w.heap.size w w' := by
  have hi := index_any t B v xs w h hB hc hno
  obtain ⟨A, c, rfl⟩ := h.row.len
  clear h hc hno
  go_enter Tryz.func46, Tryz.ntmps46
  go_wp2_with (go_at_call 81; refine hi.mono ?_; rintro e w1 ⟨rfl, hb1⟩)
  go_ret
  exact ⟨rfl, hb1⟩
end Go.Proofs.YtlamogpdkmbeoaaGreatDoor
end PartNoteF
