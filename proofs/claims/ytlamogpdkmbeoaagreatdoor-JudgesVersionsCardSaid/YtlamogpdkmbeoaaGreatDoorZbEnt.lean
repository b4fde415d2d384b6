/- The texts EntA, OkN in one. -/
import Derived.Test.YtlamogpdkmbeoaaGreatDoorZbCopy
import Derived.Test.YtlamogpdkmbeoaaGreatDoorZbEff
import Derived.Test.YtlamogpdkmbeoaaGreatDoorZbSet
set_option linter.unusedVariables false
set_option linter.unusedSimpArgs false
section PartEntA
/- 'entries': the logs in force. -/
set_option maxRecDepth 100000
namespace Go.Proofs.YtlamogpdkmbeoaaGreatDoor
open Go.RowKit Go.Lib Go.Shelf Go.Maps

/-- What the issues are: each under its own key, each note laid. -/
structure IssOk (w : World) (I : List (MarkK × Note)) : Prop where
  key : ∀ p ∈ I, p.1 = isk p.2
  at_ : ∀ p ∈ I, p.2.At w
  one : ∀ p ∈ I, oneN p.2
  small : ∀ p ∈ I, p.2.js.length ≤ 1000 ∧ p.2.ls.length ≤ 1000
  len : I.length ≤ 2000
  call : ∀ p ∈ I, okS p.2.nt.call
theorem IssOk.later {w w' : World} {I : List (MarkK × Note)} (h : IssOk w I) (hb : Below w.heap.size w w') : IssOk w' I := ⟨h.key, fun p hp => (h.at_ p hp).later hb, h.one, h.small, h.len, h.call⟩
/-- The newest issues of those that 'rest' lacks. -/
structure NewIn (I rest : List (MarkK × Note)) (N : List (ByteArray × Note)) : Prop where
  from_ : ∀ x ∈ N, x.2.nt.call = x.1 ∧ ∃ p ∈ I, p.2 = x.2
  best : ∀ p ∈ I, p ∈ rest ∨ ∃ n, getM N p.2.nt.call = some n ∧ p.2.nt.version ≤ n.nt.version
  keys : (N.map (·.1)).Nodup
theorem putM_key {κ ν : Type} [DecidableEq κ] : ∀ {m : List (κ × ν)} {x k : κ} {y : ν}, k ∈ (putM m x y).map (·.1) → k = x ∨ k ∈ m.map (·.1)
  | [], x, k, y, h => by simpa [putM] using h
  | p :: r, x, k, y, h => by
    unfold putM at h
    split at h
    · rename_i e
      rcases List.mem_cons.1 h with h | h
      · exact .inl h
      · exact .inr (List.mem_cons_of_mem _ h)
    · rcases List.mem_cons.1 h with h | h
      · exact .inr (by rw [h]; simp)
      · rcases putM_key h with h | h
        · exact .inl h
        · exact .inr (List.mem_cons_of_mem _ h)
theorem putM_keys {κ ν : Type} [DecidableEq κ] : ∀ {m : List (κ × ν)} (x : κ) (y : ν), (m.map (·.1)).Nodup → ((putM m x y).map (·.1)).Nodup
  | [], x, y, h => by simp [putM]
  | p :: r, x, y, h => by
    rw [List.map_cons, List.nodup_cons] at h
    unfold putM
    split
    · rename_i e
      rw [List.map_cons, List.nodup_cons]
      exact ⟨by rw [← e]; exact h.1, h.2⟩
    · rename_i e
      rw [List.map_cons, List.nodup_cons]
      refine ⟨fun hk => ?_, putM_keys x y h.2⟩
      rcases putM_key hk with hk | hk
      · exact e hk
      · exact h.1 hk
theorem getM_putM_self {κ ν : Type} [DecidableEq κ] (m : List (κ × ν)) (x : κ) (y : ν) : getM (putM m x y) x = some y := by rw [getM_put, if_pos rfl]
theorem NewIn.put {I a c : List (MarkK × Note)} {N : List (ByteArray × Note)} {p : MarkK × Note} (h : NewIn I (a ++ p :: c) N) (hp : p ∈ I) (hv : ∀ n, getM N p.2.nt.call = some n → n.nt.version < p.2.nt.version) : NewIn I (a ++ c) (putM N p.2.nt.call p.2) := by
  refine ⟨fun x hx => ?_, fun q hq => ?_, putM_keys _ _ h.keys⟩
  · rcases mem_putM hx with rfl | hx
    · exact ⟨rfl, p, hp, rfl⟩
    · exact h.from_ x hx
  · rcases h.best q hq with hq' | ⟨n, hn, hle⟩
    · rcases List.mem_append.1 hq' with h1 | h1
      · exact .inl (by simp [h1])
      · rcases List.mem_cons.1 h1 with rfl | h1
        · exact .inr ⟨q.2, getM_putM_self _ _ _, Int.le_refl _⟩
        · exact .inl (by simp [h1])
    · right
      rw [getM_put]
      by_cases e : p.2.nt.call = q.2.nt.call
      · rw [if_pos e]
        rw [e] at hv
        have := hv n hn
        exact ⟨p.2, rfl, by omega⟩
      · rw [if_neg e]
        exact ⟨n, hn, hle⟩
theorem NewIn.skip {I a c : List (MarkK × Note)} {N : List (ByteArray × Note)} {p : MarkK × Note} (h : NewIn I (a ++ p :: c) N) {n : Note} (hn : getM N p.2.nt.call = some n) (hv : p.2.nt.version ≤ n.nt.version) : NewIn I (a ++ c) N := by
  refine ⟨h.from_, fun q hq => ?_, h.keys⟩
  rcases h.best q hq with hq' | h1
  · rcases List.mem_append.1 hq' with h1 | h1
    · exact .inl (by simp [h1])
    · rcases List.mem_cons.1 h1 with rfl | h1
      · exact .inr ⟨n, hn, hv⟩
      · exact .inl (by simp [h1])
  · exact .inr h1
/-- An entry: its note, and where its log's jumps and lines lie. -/
structure Ent where
  note : Note
  vj : Value
  vl : Value
abbrev Ent.enc (x : Ent) : List Value := [.string x.note.nt.log.call, .int .i64 x.note.nt.log.cat, .int .i64 x.note.nt.log.pow, .int .i64 x.note.nt.log.cl, x.vj, x.vl, .int .i64 x.note.nt.version, .int .i64 x.note.nt.judge, .int .i64 x.note.nt.num]
/-- The value v is a slice of the entries es, with their logs in memory of their own, all of it from block base on. -/
structure EntsAt (base : Nat) (w : World) (v : Value) (es : List Ent) : Prop where
  row : w.ownsRow base 75 9 v es.length (es.flatMap Ent.enc)
  jumps : ∀ x ∈ es, w.ownsRow base 3 1 x.vj x.note.js.length (x.note.js.flatMap encI)
  lines : ∀ x ∈ es, w.ownsRow base 126 11 x.vl x.note.ls.length (x.note.ls.flatMap Ln.enc)
theorem own_later {w w' : World} {base : Nat} {e : TypeId} {size : Nat} {v : Value} {n : Nat} {xs : List Value} (h : w.ownsRow base e size v n xs) (hb : Below w.heap.size w w') : w'.ownsRow base e size v n xs :=
  h.kept (row := none) ⟨hb.os, hb.tape, hb.output, hb.size, fun i hi _ => hb.block i hi⟩ (by cases v.ownBlock <;> simp)
theorem EntsAt.later {base : Nat} {w w' : World} {v : Value} {es : List Ent} (h : EntsAt base w v es) (hb : Below w.heap.size w w') : EntsAt base w' v es :=
  ⟨own_later h.row hb, fun x hx => own_later (h.jumps x hx) hb, fun x hx => own_later (h.lines x hx) hb⟩
theorem EntsAt.push {base : Nat} {w w' : World} {v v' : Value} {es : List Ent} (h : EntsAt base w v es) (x : Ent) (hj : w.ownsRow base 3 1 x.vj x.note.js.length (x.note.js.flatMap encI)) (hl : w.ownsRow base 126 11 x.vl x.note.ls.length (x.note.ls.flatMap Ln.enc))
    (hg : w.grownBy w' v.ownBlock) (hown : w'.ownsRow base 75 9 v' (es.length + 1) (es.flatMap Ent.enc ++ x.enc)) : EntsAt base w' v' (es ++ [x]) := by
  have ho := Only.of_own h.row
  refine ⟨by simpa using hown, fun y hy => ?_, fun y hy => ?_⟩
  · rcases List.mem_append.1 hy with hy | hy
    · exact (h.jumps y hy).kept hg (ho.own (h.jumps y hy) (by decide))
    · simp at hy
      subst hy
      exact hj.kept hg (ho.own hj (by decide))
  · rcases List.mem_append.1 hy with hy | hy
    · exact (h.lines y hy).kept hg (ho.own (h.lines y hy) (by decide))
    · simp at hy
      subst hy
      exact hl.kept hg (ho.own hl (by decide))
/-- The note of a call that is in force. -/
def inForce (L : Led) (N : List (ByteArray × Note)) (c : ByteArray) : Option Note :=
  match getM N c with
  | some n => if (getM L.withdrawn c).getD 0 < n.nt.version then some n else none
  | none => none
theorem own_len {w : World} {base : Nat} {e : TypeId} {size : Nat} {A : Option Addr} {m c : Nat} {n : Nat} {xs : List Value} (h : w.ownsRow base e size (.slice A m c) n xs) : m = n := by
  rcases h.2 with ⟨h1, h2⟩ | ⟨g, cap, cur, h1, _⟩
  · injection h1 with _ h1 _
    omega
  · injection h1 with _ h1 _
theorem infoEntry : ∃ i z, Tryz.prog.info? 75 = some i ∧ i.zero = some z ∧ i.size = 9 ∧ i.bytes = 112 ∧ z.cells.size = 9 := by
  obtain ⟨i, hi⟩ : ∃ i, Tryz.prog.info? 75 = some i := Option.isSome_iff_exists.1 (by kernel_rfl)
  have h1 : ((Tryz.prog.info? 75).bind (·.zero)).map (·.cells.size) = some 9 := by kernel_rfl
  have h2 : (Tryz.prog.info? 75).map (·.size) = some 9 := by kernel_rfl
  have h3 : (Tryz.prog.info? 75).map (·.bytes) = some 112 := by kernel_rfl
  rw [hi] at h1 h2 h3
  obtain ⟨z, hz, hz2⟩ := Option.map_eq_some_iff.1 h1
  exact ⟨i, z, hi, by simpa using hz, by simpa using h2, by simpa using h3, hz2⟩
theorem field_log (c0 c1 c2 c3 c4 c5 c6 c7 c8 c9 c10 c11 c12 c13 c14 c15 c16 c17 c18 c19 : Value) (w : World) : (Instr.field 46 (.agg #[c0, c1, c2, c3, c4, c5, c6, c7, c8, c9, c10, c11, c12, c13, c14, c15, c16, c17, c18, c19]) 6).run Tryz.prog w = .ok (.agg #[c6, c7, c8, c9, c10, c11]) w := by kernel_rfl
set_option maxHeartbeats 8000000 in
theorem entries_any {F : Nat → Prop} {base g : Nat} {L : Led} (w : World) (h : LedAt F base w g L) (hI : IssOk w L.issues) :
    Calls Tryz.prog 82 #[encP g] w fun e w' => ∃ (v : Value) (N : List (ByteArray × Note)) (S : List ByteArray) (es : List Ent), e = .returned v ∧ NewIn L.issues [] N ∧ S.Perm (N.map (·.1)) ∧ (S.map (fun c : ByteArray => c.data.toList)).Pairwise (fun x y => x ≤ y) ∧ es.map (·.note) = S.filterMap (inForce L N) ∧ EntsAt w.heap.size w' v es ∧ Below w.heap.size w w' := by
  have UN := Tryz.underlying46
  have UI := Tryz.underlying180
  have UW := Tryz.underlying204
  have hmm := @run_makeMap Tryz.prog
  obtain ⟨bI, bW, bN, bC, rv, pv, hv, hL⟩ := h
  obtain ⟨W, hW⟩ : ∃ W, w.alloc (.map #[] 0) = W := ⟨_, rfl⟩
  have hb0 : Below w.heap.size w W := by rw [← hW]; exact below_alloc0 _
  have hN0 : MapOf W Tryz.prog 9 Value.string encN w.heap.size [] := by rw [← hW]; exact MapOf.made w encS_inj
  have hL0 := hL.later hb0
  have cI : W.cell? ⟨g, 0, none⟩ = some (.map (some bI)) := hL0.cells.cell 0
  have HL0 := Lib.hid hL0
  have HB := Lib.hid hb0
  have HLw := Lib.hid hL
  have HIw := Lib.hid hI
  have HN0 := Lib.hid hN0
  have HI := Lib.hid (hI.later hb0)
  clear hL hb0 hN0 hL0 hI
  go_enter Tryz.func82, Tryz.ntmps82
  go_wp2_with (refine wpList_range_of rfl _ _ rfl _ Tryz.underlying84 rfl HL0.out.issues ?_; intro w1 hit hg1 hs1)
  go_frame
  obtain ⟨ri, hri⟩ : ∃ ri, W.heap.size = ri := ⟨_, rfl⟩
  rw [hri] at hit ⊢
  have hri2 : w.heap.size < ri := by rw [← hri]; exact HN0.out.lt
  have hb1 : Below w.heap.size w w1 := HB.out.grown hg1 HB.out.size (fun k e => by cases e)
  have hN1 : MapOf w1 Tryz.prog 9 Value.string encN w.heap.size [] := HN0.out.kept hg1 (by simp)
  have hNi : NewIn L.issues L.issues [] := ⟨by simp, fun p hp => .inl hp, by simp⟩
  have HB1 := Lib.hid hb1
  have HN1 := Lib.hid hN1
  have HIT := Lib.hid hit
  have HNI := Lib.hid hNi
  clear hg1 hs1 hri hit hb1 hN1 hNi
  go_loopw [18] (fun _ wr => ∃ rest N, IterOf wr Tryz.prog 180 encMk encN bI ri L.issues rest ∧ NewIn L.issues rest N ∧ MapOf wr Tryz.prog 9 Value.string encN w.heap.size N ∧ Below w.heap.size w wr ∧ N.length + rest.length ≤ L.issues.length) (fun _ wr => leftNum wr bI ri)
  case atStart => exact ⟨L.issues, [], HIT.out, HNI.out, HN1.out, HB1.out, by simp⟩
  case round =>
    obtain ⟨rest, N, hit, hni, hmN, hbr, hlen⟩ := hrel
    have HIT := Lib.hid hit
    have HNI := Lib.hid hni
    have HMN := Lib.hid hmN
    have HBR := Lib.hid hbr
    clear hit hni hmN hbr
    go_wp2_with (at_next; refine wpList_next_of rfl _ rfl rfl HIT.out ?_ ?_)
    · intro hnil
      subst hnil
      have hks := keysNewest_any (some w.heap.size) wr
      have hso := sortedCalls_any encN wr.heap.size w.heap.size N (wr.alloc (.cells #[.map (some w.heap.size)] 204)) (HMN.out.kept (World.grownBy_alloc _ _ none) (by simp)) (by simp) ((Blk.new wr 204 #[.map (some w.heap.size)]).cell 0) (by have := HIw.out.len; simp at hlen; omega)
      have hni : ∀ p ∈ L.issues, ∃ n, getM N p.2.nt.call = some n ∧ p.2.nt.version ≤ n.nt.version := fun p hp => (HNI.out.best p hp).resolve_left (by simp)
      have HNB := Lib.hid hni
      clear hni
      go_wp2_with (first
        | (go_at_call 124; refine hks.mono ?_; rintro e w2 ⟨rfl, rfl⟩)
        | (go_at_call 123; refine hso.mono ?_; rintro e w3 ⟨u, ss, rfl, hp, hrow, hb3⟩; obtain ⟨A3, m3, c3, rfl⟩ := own_slice hrow))
      have hm3 := own_len hrow
      subst hm3
      obtain ⟨S, hS⟩ : ∃ S : List ByteArray, S = (ss.mergeSort (fun x y => decide (x ≤ y))).map (fun s => (⟨s.toArray⟩ : ByteArray)) := ⟨_, rfl⟩
      have hSl : S.length = ss.length := by rw [hS]; simp
      have hSp : S.Perm (N.map (·.1)) := by
        rw [hS]
        refine ((List.mergeSort_perm _ _).map _).trans ((hp.map _).trans ?_)
        rw [List.map_map]
        exact List.Perm.of_eq (List.map_congr_left (fun p _ => by simp))
      have hSs : (S.map (fun c : ByteArray => c.data.toList)).Pairwise (fun x y => x ≤ y) := by
        rw [hS, List.map_map]
        have e : ((fun c : ByteArray => c.data.toList) ∘ fun s : List UInt8 => (⟨s.toArray⟩ : ByteArray)) = id := by funext s; simp
        rw [e, List.map_id]
        have := List.pairwise_mergeSort (le := fun x y : List UInt8 => decide (x ≤ y)) (fun a b c h1 h2 => by simp only [decide_eq_true_eq] at *; exact List.le_trans h1 h2) (fun a b => by simp only [Bool.or_eq_true, decide_eq_true_eq]; exact List.le_total a b) ss
        exact this.imp (fun h => by simpa using h)
      have hrow3 : RowsAt (fun c : ByteArray => [Value.string c]) 1 w3 (.slice A3 S.length c3) S := by
        rw [← hSl] at hrow
        have e : S.flatMap (fun c : ByteArray => [Value.string c]) = (ss.mergeSort (fun x y => decide (x ≤ y))).map encStr := by
          rw [hS]
          generalize ss.mergeSort (fun x y => decide (x ≤ y)) = T
          induction T with
          | nil => rfl
          | cons a T ih => rw [List.map_cons, List.flatMap_cons, ih]; rfl
        rw [← e] at hrow
        exact rows_of_owns 1 (fun _ => rfl) hrow
      rw [← hSl]
      have hb31 : Below wr.heap.size wr w3 := (below_alloc0 _).trans (hb3.mono (by simp))
      have hb30 : Below w.heap.size w w3 := HBR.out.trans (hb31.mono HBR.out.size)
      have hN3 := HMN.out.block (hb31.block _ HMN.out.lt)
      have HN3 := Lib.hid hN3
      have HB3 := Lib.hid hb30
      have HROW := Lib.hid hrow3
      have HSP := Lib.hid hSp
      have HSS := Lib.hid hSs
      have hw3 := hb30.size
      have hSlen : S.length ≤ 2000 := by rw [hSp.length_eq]; have := HIw.out.len; simp at hlen ⊢; omega
      clear hS hSl hSp hSs hrow3 hrow hb31 hb30 hb3 hN3 hp hks hso
      have UE := Tryz.underlying26
      obtain ⟨i0, z0, hi0, hz0, hz1, hz2, hzs⟩ := infoEntry
      have HNI0 := Lib.hid HNI.out
      go_loopw [8, 47] (fun s8 s47 w4 => ∃ (k : Nat) (es : List Ent), k ≤ S.length ∧ s47 = .int .i64 k ∧ EntsAt w3.heap.size w4 s8 es ∧ es.map (·.note) = (S.take k).filterMap (inForce L N) ∧ Below w3.heap.size w3 w4) (fun _ s47 _ => S.length - (intOf s47).toNat)
      case atStart => exact ⟨0, [], Nat.zero_le _, rfl, ⟨World.ownsRow_nil _ _ _ _, by simp, by simp⟩, rfl, Below.refl _ _⟩
      case round =>
        obtain ⟨k, es, hk, rfl, hes, hmap, hb4⟩ := hrel
        by_cases hlt : k < S.length
        · obtain ⟨c, hc⟩ : ∃ c, c = S[k] := ⟨_, rfl⟩
          have hmap' : Hid ((S.take (k + 1)).filterMap (inForce L N) = (S.take k).filterMap (inForce L N) ++ (inForce L N c).toList) := Lib.hid (by
            rw [List.take_add_one, List.getElem?_eq_getElem hlt, List.filterMap_append, ← hc]
            simp only [Option.toList, List.filterMap_cons, List.filterMap_nil]
            cases inForce L N c <;> rfl)
          have hcN : c ∈ N.map (·.1) := HSP.out.mem_iff.1 (by rw [hc]; exact List.getElem_mem hlt)
          obtain ⟨b3, o3, eA, hb3, hcell⟩ : ∃ b3 o3, A3 = some ⟨b3, o3, none⟩ ∧ b3 < w3.heap.size ∧ w3.cell? ⟨b3, o3 + k, none⟩ = some (.string c) := by
            obtain ⟨A2, c2, e1, _, e3⟩ := HROW.out
            obtain ⟨b2, o2, e4, e5, e6⟩ := e3 k hlt
            injection e1 with e1 _ _
            exact ⟨b2, o2, e1.trans e4, e5, by have := e6 0 (.string S[k]) rfl; rw [Nat.mul_one] at this; rw [hc]; exact this⟩
          subst eA
          have hb4' := HB3.out.trans (hb4.mono hw3)
          obtain ⟨n, hn⟩ : ∃ n, getM N c = some n := by
            obtain ⟨p, hp, e⟩ := List.mem_map.1 hcN
            have hap := HN3.out.apart
            obtain ⟨j, hj⟩ := List.getElem?_of_mem hp
            exact ⟨_, getM_at hap hj e⟩
          obtain ⟨hnc, q0, hq0, hqn⟩ := HNI0.out.from_ _ (getM_mem hn)
          dsimp only at hnc hqn
          have hno : oneN n := by rw [← hqn]; exact HIw.out.one _ hq0
          have hcs : okS c := by rw [← hnc, ← hqn]; exact HIw.out.call _ hq0
          have hcp := fun W (hb : Below w.heap.size w W) => copied_any n W ((show n.At w by rw [← hqn]; exact HIw.out.at_ _ hq0).later hb) hno (by rw [← hqn]; exact (HIw.out.small _ hq0).1) (by rw [← hqn]; exact (HIw.out.small _ hq0).2)
          have hnm := fun W => nameOf_any n.nt W
          have hcc : wr.cell? ⟨b3, o3 + k, none⟩ = some (.string c) := (hb4.cell (p := ⟨b3, o3 + k, none⟩) hb3).trans hcell
          have hN4 : MapOf wr Tryz.prog 9 Value.string encN w.heap.size N := HN3.out.block (hb4.block _ HN3.out.lt)
          have hL4 := HLw.out.later hb4'
          have cW : wr.cell? ⟨g, 1, none⟩ = some (.map (some bW)) := hL4.cells.cell 1
          have HKS := Lib.hid (key_str c hcs)
          have HN4 := Lib.hid hN4
          have HL4 := Lib.hid hL4
          have HNO := Lib.hid hno
          have HCP := Lib.hid hcp
          have HES := Lib.hid hes
          have HM := Lib.hid hmap
          have HB4 := Lib.hid hb4
          have HGET := Lib.hid hn
          have HC := Lib.hid hc
          have lg := hL4.cells.lt
          clear hcell hcs hcp hno hq0 hqn hnc hn hN4 hL4 hcN hes hmap hb4 hb4' hc
          go_upto_region 13 with (first
            | (refine wpList_lookup_of rfl false _ _ _ rfl 46 keyedStr UW _ zeroNote rfl HN4.out c rfl HKS.out ?_; rw [HGET.out]; dsimp only [lookV])
            | (refine wpList_store_blk rfl 46 _ _ rfl wr.heap.size 46 Nt0.enc.toArray n.nt.enc.toArray rfl rfl (Blk.new wr _ _) (by rfl) sizeNote HNO.out ?_; intro w5 hX5 hg5 hs5; clear hs5))
          have hb5 : Below wr.heap.size wr w5 := (below_alloc0 _).grown hg5 (by simp) (fun k e => by cases e; exact Nat.le_refl _)
          obtain ⟨nb, hnb⟩ : ∃ nb, wr.heap.size = nb := ⟨_, rfl⟩
          have hB5 : Below w.heap.size w w5 := (HB3.out.trans (HB4.out.mono hw3)).trans (hb5.mono (by have := HB4.out.size; omega))
          have hL5 := HLw.out.later hB5
          have hes5 := HES.out.later hb5
          rw [hnb] at hX5 ⊢
          have n5 : w5.cell? ⟨nb, 5, none⟩ = some (.int .i64 n.nt.version) := hX5.cell 5
          have cW5 : w5.cell? ⟨g, 1, none⟩ = some (.map (some bW)) := hL5.cells.cell 1
          have hmW := hL5.withdrawn
          obtain ⟨u, hu⟩ : ∃ u, lookV encI' (.int .i64 0) false (getM L.withdrawn c) = .int .i64 u ∧ u = (getM L.withdrawn c).getD 0 := by
            cases getM L.withdrawn c with
            | none => exact ⟨0, rfl, rfl⟩
            | some z => exact ⟨z, rfl, rfl⟩
          have HU := Lib.hid hu
          have UWd := Tryz.underlying85
          have HX5 := Lib.hid hX5
          have HES5 := Lib.hid hes5
          have HB5 := Lib.hid hB5
          have hsz5 : w3.heap.size ≤ w5.heap.size ∧ w3.heap.size ≤ nb := by have h1 := HB4.out.size; have h2 := hb5.size; omega
          have hb35 : Below w3.heap.size w3 w5 := HB4.out.trans (hb5.mono (by have h1 := HB4.out.size; omega))
          have HB35 := Lib.hid hb35
          have lX := hX5.lt
          clear hu hL5 hes5 hX5 hB5 hg5 hb5 hnb hb35 cW hcc
          (try go_frame)
          refine wp_region_held_drew (S := (fun w' => w'.cell? ⟨nb, 5, none⟩ = some (.int .i64 n.nt.version) ∧ w'.cell? ⟨g, 1, none⟩ = some (.map (some bW)) ∧ MapOf w' Tryz.prog 9 Value.string encI' bW L.withdrawn)) (by kernel_rfl) ?hS1 (fun hHeld => ?_)
          case hS1 => exact ⟨n5, cW5, hmW.block rfl⟩
          refine tk3 (i := 0) ?_; try simp only [Act.put, zq]
          refine tk3 (i := 1) ?_; try simp only [Act.put, zq]
          refine tk3 (i := 2) ?_; try simp only [Act.put, zq]
          refine tk3 (i := 3) ?_; try simp only [Act.put, zq]
          refine tk3 (i := 4) ?_; try simp only [Act.put, zq]
          refine tk3 (i := 5) ?_; try simp only [Act.put, zq]
          refine tk3 (i := 6) ?_; try simp only [Act.put, zq]
          refine' wpAnyH_take (i := 7) rfl (by kernel_rfl) (by kernel_rfl) (by kernel_rfl) (fun _ _ _ h => h) (yieldsIf_lookup_of (by kernel_rfl) false _ _ _ rfl 3 keyedStr UWd _ zeroInt rfl (fun w9 hSw => hSw.2.2) c rfl HKS.out) (by assumption) ?_
          (rw [HU.out.1])
          (try simp only [Act.put, zq])
          refine tk3 (i := 8) ?_; try simp only [Act.put, zq]
          refine wpAnyH_done (by kernel_rfl) ?_ _
          clear hHeld hmW cW5
          go_wp2
          · rename_i hv
            have hif : inForce L N c = some n := by unfold inForce; rw [HGET.out]; simp only []; rw [← HU.out.2, if_pos (by omega)]
            have HIF := Lib.hid hif
            have hwd : Below w5.heap.size w5 w5.drew := (Below.refl _ _).drew
            have hB5 : Below w.heap.size w w5.drew := HB5.out.drew
            have n5' : w5.drew.cell? ⟨nb, 5, none⟩ = some (.int .i64 n.nt.version) := n5
            have hles : es.length ≤ 2000 := by
              have h1 := congrArg List.length HM.out
              have h2 := List.length_filterMap_le (inForce L N) (S.take k)
              rw [List.length_map] at h1
              rw [List.length_take] at h2
              omega
            have hmx : es.length + 1 ≤ maxLen := by unfold maxLen; omega
            have hmb : (es.length + 1) * 112 ≤ 140737488355328 := by omega
            have hnt : n.nt.val = .agg n.nt.enc.toArray := rfl
            clear hv hif n5
            have hSk : ∀ w' : World, Below w5.heap.size w5 w' → w'.cell? ⟨nb, 5, none⟩ = some (.int .i64 n.nt.version) ∧ Blk w' nb 46 n.nt.enc.toArray := fun w' hb => ⟨(hb.cell (p := ⟨nb, 5, none⟩) lX).trans n5', HX5.out.later hb⟩
            have HSK := Lib.hid hSk
            clear hSk
            have hfl := field_log
            refine wp_region_held_drew (S := (fun w' => w'.cell? ⟨nb, 5, none⟩ = some (.int .i64 n.nt.version) ∧ Blk w' nb 46 n.nt.enc.toArray)) (by kernel_rfl) ?hS2 (fun hHeld => ?_)
            case hS2 => exact ⟨n5', HX5.out.drewN 2⟩
            refine tk3 (i := 0) ?_; try simp only [Act.put, zq]
            refine tk4 (i := 1) (fun w9 hSw => hSw.2) ?_; try simp only [Act.put, zq]
            refine tk3 (i := 4) ?_; try simp only [Act.put, zq]
            refine tk3 (i := 5) ?_; try simp only [Act.put, zq]
            refine tk4 (i := 6) (fun w9 hSw => hSw.2) ?_; try simp only [Act.put, zq]
            refine wpAnyH_ready (rs := [2]) (by kernel_rfl) (by simp) ?_
            refine AllReadyH.cons rfl (fun K hK => ?_) AllReadyH.nil
            go_simp
            (go_at_call 80; refine (HCP.out _ hB5.drew).mono ?_; rintro e w6 ⟨vj, vl, rfl, hj6, hl6, hb6⟩; obtain ⟨Aj, mj, cj, rfl⟩ := own_slice hj6; obtain ⟨Al, ml, cl, rfl⟩ := own_slice hl6; have hb6 : Below w5.heap.size w5 w6 := (Below.refl _ w5).drew.drew.trans hb6; dsimp only [encN, Note.with, Note.enc, Nt.enc])
            go_wp2_with fail
            refine hK.out _ _ ?hS2_6 (fun hHeld => ?_)
            case hS2_6 => ((try dsimp only); exact HSK.out _ hb6)
            clear hK K
            (try simp only [Act.put, zq])
            refine tk3 (i := 3) ?_; try simp only [Act.put, zq]
            refine wpAnyH_ready (rs := [7]) (by kernel_rfl) (by simp) ?_
            refine AllReadyH.cons rfl (fun K hK => ?_) AllReadyH.nil
            go_simp
            (go_at_call 54; ((with_reducible refine (hnm _).mono ?_); rintro e w7 ⟨rfl, hg7⟩); have hb7 : Below w5.heap.size w5 w7 := hb6.trans (hg7.below.mono hb6.size))
            go_wp2_with fail
            refine hK.out _ _ ?hS2_8 (fun hHeld => ?_)
            case hS2_8 => ((try dsimp only); exact HSK.out _ hb7)
            clear hK K
            (try simp only [Act.put, zq])
            refine tk3 (i := 8) ?_; try simp only [Act.put, zq]
            refine wpAnyH_ready (rs := [9]) (by kernel_rfl) (by simp) ?_
            refine AllReadyH.cons rfl (fun K hK => ?_) AllReadyH.nil
            go_simp
            refine hK.out _ _ ?hS2_10 (fun hHeld => ?_)
            case hS2_10 => ((try dsimp only); exact HSK.out _ (hb7.alloc hb7.size _))
            clear hK K
            (try simp only [Act.put, zq])
            refine wpAnyH_ready (rs := [10]) (by kernel_rfl) (by simp) ?_
            refine AllReadyH.cons rfl (fun K hK => ?_) AllReadyH.nil
            (rw [if_pos (by kernel_rfl)]; refine wp_append_lies _ _ _ _ rfl w3.heap.size 75 i0 z0 9 112 UE hi0 hz0 hz1 hz2 hzs (by decide) u8 es.length (es.flatMap Ent.enc) rfl (HES5.out.later (hb7.alloc hb7.size _)).row ⟨w7.heap.size, 0, none⟩ 1 1 (Ent.enc ⟨n, .slice Aj mj cj, .slice Al ml cl⟩) rfl rfl (World.news_of_block (Blk.new w7 _ _)) (by simp [Value.oneCell']) (by decide) hmx hmb (by have := hb7.size; simp; omega) _ rfl ?_; intro g' cap w8 hown' hgrow hat hlt8; have hbc := hb7.alloc hb7.size (.cells (Ent.enc ⟨n, .slice Aj mj cj, .slice Al ml cl⟩).toArray 75); have hesF := (HES5.out.later hbc).push ⟨n, .slice Aj mj cj, .slice Al ml cl⟩ (own_later (own_later (ownsRow_base_a hj6 hsz5.1) (hg7.below)) (below_alloc0 _)) (own_later (own_later (ownsRow_base_a hl6 hsz5.1) (hg7.below)) (below_alloc0 _)) hgrow hown'; have hbF : Below w3.heap.size w3 w8 := (HB35.out.trans (hbc.mono hsz5.1)).grown hgrow (by have := hbc.size; omega) (fun q e => (HES5.out.row.lt q e).1))
            refine hK.out _ _ ?hS2_11 (fun hHeld => ?_)
            case hS2_11 => ((try dsimp only); exact ⟨(hgrow.cell_far ⟨nb, 5, none⟩ ((HX5.out.later hbc).lt) ((Only.of_own (HES5.out.later hbc).row).ne (HX5.out.later hbc).tag (by decide))).trans ((hbc.cell (p := ⟨nb, 5, none⟩) lX).trans n5'), (HX5.out.later hbc).kept hgrow ((Only.of_own (HES5.out.later hbc).row).ne (HX5.out.later hbc).tag (by decide))⟩)
            clear hK K
            (try simp only [Act.put, zq])
            refine tk3 (i := 11) ?_; try simp only [Act.put, zq]
            refine wpAnyH_done (by kernel_rfl) ?_ _
            have HESF := Lib.hid hesF
            have HBF := Lib.hid hbF
            clear hHeld hesF hbF hgrow hown' hbc hj6 hl6 hb6 hb7 hg7
            go_wp2
            (try go_frame)
            go_roundw
            case rel => exact ⟨k + 1, es ++ [⟨n, .slice Aj mj cj, .slice Al ml cl⟩], by omega, by go_num, by simpa using HESF.out, by rw [hmap'.out, List.map_append, HM.out, HIF.out]; rfl, HBF.out⟩
            case measure =>
              show S.length - ((k : Int) + 1).toNat < S.length - (k : Int).toNat
              omega
          · rename_i hv
            have hif : inForce L N c = none := by unfold inForce; rw [HGET.out]; simp only []; rw [← HU.out.2, if_neg (by omega)]
            refine ⟨⟨k + 1, es, by omega, by go_num, HES5.out.later (Below.refl _ _).drew, by rw [hmap'.out, HM.out, hif]; simp, HB35.out.drew⟩, ?_⟩
            show S.length - ((k : Int) + 1).toNat < S.length - (k : Int).toNat
            omega
        · have hks : k = S.length := by omega
          have HE : Hid (es.map (·.note) = S.filterMap (inForce L N)) := Lib.hid (by rw [hks, List.take_length] at hmap; exact hmap)
          have HES := Lib.hid hes
          have HB4 := Lib.hid hb4
          clear hks hes hmap hb4
          go_wp2
          go_ret
          refine ⟨_, N, S, es, rfl, HNI0.out, HSP.out, HSS.out, HE.out, ⟨ownsRow_base_a HES.out.row hw3, fun x hx => ownsRow_base_a (HES.out.jumps x hx) hw3, fun x hx => ownsRow_base_a (HES.out.lines x hx) hw3⟩, HB3.out.trans (HB4.out.mono hw3)⟩
    · intro x kc kv n y w2 hrest hpm hit2 hg2 hs2 hen
      have hno : oneN n := HIw.out.one _ hpm
      have hkey : (kc, kv) = isk n := HIw.out.key _ hpm
      obtain ⟨rfl, rfl⟩ : kc = n.nt.call ∧ kv = n.nt.version := Prod.mk.inj hkey
      have HNO := Lib.hid hno
      have HG2 := Lib.hid hg2
      clear hs2 hno hkey hg2
      go_upto_region 5 with (first
        | (refine wpList_store_blk rfl 180 _ _ rfl w2.heap.size 180 #[.string ⟨#[]⟩, .int .i64 0] #[.string n.nt.call, .int .i64 n.nt.version] rfl rfl ((Blk.new w2 _ _).alloc _) (by rfl) sizeIssue (by simp [Value.oneCell']) ?_; intro w3 hK3 hg3 hs3; have hZ3 : Blk w3 (w2.heap.size + 1) 46 Nt0.enc.toArray := (by have := (Blk.new (w2.alloc (.cells #[.string ⟨#[]⟩, .int .i64 0] 180)) 46 Nt0.enc.toArray); rw [World.size_alloc] at this; exact this.kept hg3 (by intro e; injection e with e; omega)); clear hs3)
        | (refine wpList_store_blk rfl 46 _ _ rfl (w2.heap.size + 1) 46 Nt0.enc.toArray n.nt.enc.toArray rfl rfl hZ3 (by rfl) sizeNote HNO.out ?_; intro w4 hX4 hg4 hs4; clear hs4))
      have hbw : Below w2.heap.size w2 w4 := (((below_alloc0 _).alloc (by simp) _).grown hg3 (by simp; omega) (fun k e => by cases e; exact Nat.le_refl _)).grown hg4 (by have := hg3.size; simp at this; omega) (fun k e => by cases e; omega)
      have hK4 := hK3.kept hg4 (by intro e; injection e with e; omega)
      have hB2 : Below w.heap.size w w2 := HBR.out.grown HG2.out HBR.out.size (fun k e => by cases e; omega)
      have hB4 : Below w.heap.size w w4 := hB2.trans (hbw.mono hB2.size)
      have hN2 := HMN.out.kept HG2.out (by intro e; injection e with e; omega)
      have hN4 : MapOf w4 Tryz.prog 9 Value.string encN w.heap.size N := hN2.block (hbw.block _ hN2.lt)
      have hit4 := hit2.block (hbw.block _ hit2.of.lt) (hbw.block _ hit2.lt)
      obtain ⟨kb, hkb⟩ : ∃ kb, w2.heap.size = kb := ⟨_, rfl⟩
      rw [hkb] at hK4 hX4 ⊢
      have hw24 := hbw.size
      have k0 : w4.cell? ⟨kb, 0, none⟩ = some (.string n.nt.call) := hK4.cell 0
      have n5 : w4.cell? ⟨kb + 1, 5, none⟩ = some (.int .i64 n.nt.version) := hX4.cell 5
      have hwb : w.heap.size < kb := by have := hit2.lt; omega
      have hkl := hX4.lt
      have hks := key_str n.nt.call (HIw.out.call _ hpm)
      have HX4 := Lib.hid hX4
      have HB4 := Lib.hid hB4
      have HN4 := Lib.hid hN4
      have HIT4 := Lib.hid hit4
      have HK4 := Lib.hid hK4
      have HKS := Lib.hid hks
      have HPM := Lib.hid hpm
      subst hrest
      have hlen' : N.length + (x ++ y).length + 1 ≤ L.issues.length := by simp at hlen ⊢; omega
      clear hbw hB2 hB4 hN2 hN4 hit4 hit2 hK3 hK4 hX4 hg3 hg4 hZ3 hkb hw24 hen hks hpm hlen
      obtain ⟨R, hR⟩ : ∃ R, R = getM N n.nt.call := ⟨_, rfl⟩
      have HR := Lib.hid hR
      clear hR
      cases R with
      | none =>
        go_upto_region 6 with (first
          | (refine wpList_lookup_of rfl true _ _ _ rfl 46 keyedStr UW _ zeroNote rfl HN4.out n.nt.call rfl HKS.out ?_; rw [← HR.out]; dsimp only [lookV])
          | (refine wpList_store_blk rfl 46 _ _ rfl w4.heap.size 46 Nt0.enc.toArray Nt0.enc.toArray rfl rfl (Blk.new w4 _ _) (by rfl) sizeNote (by simp [Value.oneCell']) ?_; intro w5 hO5 hg5 hs5; clear hs5))
        have hb5 : Below w4.heap.size w4 w5 := (below_alloc0 _).grown hg5 (by simp) (fun k e => by cases e; exact Nat.le_refl _)
        have hX5 := HX4.out.later hb5
        have hN5 : MapOf w5 Tryz.prog 9 Value.string encN w.heap.size N := HN4.out.block (hb5.block _ HN4.out.lt)
        have hit5 := HIT4.out.block (hb5.block _ HIT4.out.of.lt) (hb5.block _ HIT4.out.lt)
        have hB5 : Below w.heap.size w w5 := HB4.out.trans (hb5.mono HB4.out.size)
        have k0' : w5.cell? ⟨kb, 0, none⟩ = some (.string n.nt.call) := (HK4.out.later hb5).cell 0
        have n5' : w5.cell? ⟨kb + 1, 5, none⟩ = some (.int .i64 n.nt.version) := hX5.cell 5
        have HX5 := Lib.hid hX5
        have HN5 := Lib.hid hN5
        have HIT5 := Lib.hid hit5
        have HB5 := Lib.hid hB5
        clear hX5 hN5 hit5 hB5 hb5 hg5 hO5 k0 n5
        have tok : True := trivial
        go_wp2_with (first
          | (have _t := tok; refine wpList_load_blk rfl 46 _ rfl (kb + 1) 46 _ _ rfl HX5.out UN rfl sizeNote ?_; clear tok)
          | (refine wpList_mapUpdate_of rfl _ _ _ _ rfl 46 keyedStr UW rfl HN5.out n.nt.call n rfl rfl HKS.out ?_; intro w6 hm6 hg6 hs6; clear hs6))
        (try go_frame)
        go_roundw
        case rel =>
          refine ⟨x ++ y, putM N n.nt.call n, HIT5.out.kept hg6 (by intro e; injection e with e; have := HIT5.out.of.lt; have h1 := HLw.out.issues.lt; omega) (by intro e; injection e with e; omega), HNI.out.put HPM.out (fun q hq => by rw [← HR.out] at hq; cases hq), hm6, HB5.out.grown hg6 HB5.out.size (fun k e => by cases e; exact Nat.le_refl _), ?_⟩
          have := putM_length_le N n.nt.call n
          omega
        case measure =>
          rw [(HIT5.out.kept hg6 (by intro e; injection e with e; have h1 := HLw.out.issues.lt; omega) (by intro e; injection e with e; omega)).left, HIT.out.left]
          first | (simp; done) | (simp only [List.length_append, List.length_cons]; omega)
      | some o =>
        obtain ⟨q0, hq0, hqo⟩ := (HNI.out.from_ _ (getM_mem HR.out.symm)).2
        have hoo : oneN o := by have e : o = q0.2 := hqo.symm; rw [e]; exact HIw.out.one _ hq0
        have HOO := Lib.hid hoo
        clear hq0 hqo hoo
        go_upto_region 6 with (first
          | (refine wpList_lookup_of rfl true _ _ _ rfl 46 keyedStr UW _ zeroNote rfl HN4.out n.nt.call rfl HKS.out ?_; rw [← HR.out]; dsimp only [lookV])
          | (refine wpList_store_blk rfl 46 _ _ rfl w4.heap.size 46 Nt0.enc.toArray o.nt.enc.toArray rfl rfl (Blk.new w4 _ _) (by rfl) sizeNote HOO.out ?_; intro w5 hO5 hg5 hs5; clear hs5))
        have o5 : w5.cell? ⟨w4.heap.size, 5, none⟩ = some (.int .i64 o.nt.version) := hO5.cell 5
        have hb5 : Below w4.heap.size w4 w5 := (below_alloc0 _).grown hg5 (by simp) (fun k e => by cases e; exact Nat.le_refl _)
        have hX5 := HX4.out.later hb5
        have hN5 : MapOf w5 Tryz.prog 9 Value.string encN w.heap.size N := HN4.out.block (hb5.block _ HN4.out.lt)
        have hit5 := HIT4.out.block (hb5.block _ HIT4.out.of.lt) (hb5.block _ HIT4.out.lt)
        have hB5 : Below w.heap.size w w5 := HB4.out.trans (hb5.mono HB4.out.size)
        have k0' : w5.cell? ⟨kb, 0, none⟩ = some (.string n.nt.call) := (HK4.out.later hb5).cell 0
        have n5' : w5.cell? ⟨kb + 1, 5, none⟩ = some (.int .i64 n.nt.version) := hX5.cell 5
        have HX5 := Lib.hid hX5
        have HN5 := Lib.hid hN5
        have HIT5 := Lib.hid hit5
        have HB5 := Lib.hid hB5
        by_cases hv : o.nt.version < n.nt.version
        · have d1 : decide (o.nt.version < n.nt.version) = true := decide_eq_true hv
          have HV := Lib.hid hv
          clear hv
          clear hX5 hN5 hit5 hB5 hb5 hg5 hO5 k0 n5
          have tok : True := trivial
          go_wp2_with (first
            | (have _t := tok; refine wpList_load_blk rfl 46 _ rfl (kb + 1) 46 _ _ rfl HX5.out UN rfl sizeNote ?_; clear tok)
            | (refine wpList_mapUpdate_of rfl _ _ _ _ rfl 46 keyedStr UW rfl HN5.out n.nt.call n rfl rfl HKS.out ?_; intro w6 hm6 hg6 hs6; clear hs6))
          (try go_frame)
          go_roundw
          case rel =>
            refine ⟨x ++ y, putM N n.nt.call n, HIT5.out.kept hg6 (by intro e; injection e with e; have := HIT5.out.of.lt; have h1 := HLw.out.issues.lt; omega) (by intro e; injection e with e; omega), HNI.out.put HPM.out (fun q hq => by rw [← HR.out] at hq; cases hq; exact HV.out), hm6, HB5.out.grown hg6 HB5.out.size (fun k e => by cases e; exact Nat.le_refl _), ?_⟩
            have := putM_length_le N n.nt.call n
            omega
          case measure =>
            rw [(HIT5.out.kept hg6 (by intro e; injection e with e; have h1 := HLw.out.issues.lt; omega) (by intro e; injection e with e; omega)).left, HIT.out.left]
            first | (simp; done) | (simp only [List.length_append, List.length_cons]; omega)
        · have d1 : decide (o.nt.version < n.nt.version) = false := decide_eq_false hv
          have HV := Lib.hid hv
          clear hv hX5 hN5 hit5 hB5 hb5 hg5 hO5 k0 n5
          go_wp2
          (try go_frame)
          go_roundw
          case rel => exact ⟨x ++ y, N, HIT5.out, HNI.out.skip HR.out.symm (Int.not_lt.1 HV.out), HN5.out, HB5.out, by omega⟩
          case measure =>
            rw [HIT5.out.left, HIT.out.left, List.length_append, List.length_append, List.length_cons]
            omega
end Go.Proofs.YtlamogpdkmbeoaaGreatDoor
end PartEntA

section PartOkN
/- A well-formed note is one that the walks need; what the ledger of well-formed notes holds. -/
set_option maxRecDepth 100000
namespace Go.Proofs.YtlamogpdkmbeoaaGreatDoor
open Go.RowKit Go.Lib Go.Shelf Go.Maps

theorem okI_of {n : Int} (h1 : -9223372036854775808 ≤ n) (h2 : n ≤ 9223372036854775807) : okI n := by
  unfold okI
  exact WalkArith.wf_i64 (by omega)
theorem okI_inB {n lo hi : Int} (h : inB n lo hi = true) (h1 : -9223372036854775808 ≤ lo) (h2 : hi ≤ 9223372036854775807) : okI n := by
  have := inB_iff.1 h
  exact okI_of (by omega) (by omega)
theorem okS_call {c : ByteArray} (h : callB c = true) : okS c := by
  unfold callB at h
  simp at h
  unfold okS maxLen
  omega
theorem okS_empty {c : ByteArray} (h : c.toList.isEmpty = true) : okS c := by
  rw [ByteArray.toList_eq] at h
  unfold okS
  have : c.size = 0 := by
    have h1 : c.data.toList = [] := by simpa using h
    have : c.data = #[] := by simpa using h1
    show c.data.size = 0
    rw [this]; rfl
  omega
theorem okI_0 {n : Int} (h : (n == 0) = true) : okI n := by
  have : n = 0 := by simpa using h
  subst this
  rfl
theorem toList_inj {c d : ByteArray} (h : (c.toList == d.toList) = true) : c = d := by
  rw [ByteArray.toList_eq, ByteArray.toList_eq] at h
  have h1 : c.data.toList = d.data.toList := by simpa using h
  have h2 : c.data = d.data := Array.toList_inj.1 h1
  cases c; cases d
  simpa using h2
/-- What a well-formed note gives. -/
structure GoodN (x : Note) : Prop where
  call : okS x.nt.call
  version : okI x.nt.version
  aC : okS x.nt.aC
  aN : okI x.nt.aN
  bC : okS x.nt.bC
  bN : okI x.nt.bN
  rJ : okI x.nt.rJ
  rN : okI x.nt.rN
  judge : 1 ≤ x.nt.judge ∧ x.nt.judge ≤ 8
  num : 1 ≤ x.nt.num ∧ x.nt.num ≤ 2000
  clock : 1 ≤ x.nt.clock ∧ x.nt.clock ≤ 1099511627776
  kind : 1 ≤ x.nt.kind ∧ x.nt.kind ≤ 7
  log : x.nt.kind = 1 → x.js.length ≤ 16 ∧ x.ls.length ≤ 400
  duo : x.nt.kind = 4 ∨ x.nt.kind = 5 → Op.bytesLess x.nt.aC.toList x.nt.bC.toList = true
theorem goodN {o : Lay} {x : Note} (h : x.good o = true) : GoodN x := by
  unfold Note.good goodB at h
  simp only [Bool.and_eq_true] at h
  obtain ⟨⟨⟨⟨hu, h0⟩, hj⟩, hn⟩, hc⟩ := h
  have hj := inB_iff.1 hj
  have hn := inB_iff.1 hn
  have hc := inB_iff.1 hc
  generalize restLen x.nt x.js.length = nj at h0
  generalize restLen x.nt x.ls.length = nl at h0
  by_cases h1 : x.nt.kind = 1
  · simp only [usedB, h1, if_true, Bool.and_eq_true, logB] at hu
    simp only [Nt.rest, h1, if_true, Nt.is0, Bool.and_eq_true, nums0B, log0B] at h0
    obtain ⟨⟨hl, he⟩, hv⟩ := hu
    obtain ⟨⟨⟨hl1, hl2⟩, ⟨⟨⟨⟨hl3, _⟩, _⟩, _⟩, _⟩⟩, _⟩ := hl
    obtain ⟨⟨⟨⟨⟨_, hcall⟩, haC, haN⟩, hbC, hbN⟩, hrJ, hrN⟩, _⟩ := h0
    have he := toList_inj he
    exact ⟨by rw [he]; exact okS_call hl3, okI_inB hv (by decide) (by decide), okS_empty haC, okI_0 haN, okS_empty hbC, okI_0 hbN, okI_0 hrJ, okI_0 hrN, hj, hn, hc, by omega, fun _ => ⟨by simpa using hl1, by simpa using hl2⟩, by omega⟩
  by_cases h2 : x.nt.kind = 2
  · simp only [usedB, h1, h2, if_true, if_false, Bool.and_eq_true] at hu
    simp [usedB, h1, h2] at hu
    simp only [Nt.rest, h2] at h0
    simp only [show ¬ (2 : Int) = 1 by decide, if_true, if_false, Nt.is0, Bool.and_eq_true, nums0B, log0B] at h0
    obtain ⟨⟨⟨⟨⟨_, hcall⟩, haC, haN⟩, hbC, hbN⟩, hrJ, hrN⟩, _⟩ := h0
    exact ⟨okS_call hu.1, okI_inB hu.2 (by decide) (by decide), okS_empty haC, okI_0 haN, okS_empty hbC, okI_0 hbN, okI_0 hrJ, okI_0 hrN, hj, hn, hc, by omega, by omega, by omega⟩
  by_cases h3 : x.nt.kind = 3
  · simp [usedB, h3, markB] at hu
    simp only [Nt.rest, h3] at h0
    simp only [show ¬ (3 : Int) = 1 by decide, show ¬ (3 : Int) = 2 by decide, if_true, if_false, Nt.is0, Bool.and_eq_true, nums0B, log0B] at h0
    obtain ⟨⟨⟨⟨⟨⟨⟨⟨_, hver⟩, _⟩, _⟩, hcall⟩, haC, haN⟩, hbC, hbN⟩, hrJ, hrN⟩, _⟩ := h0
    exact ⟨okS_empty hcall, okI_0 hver, okS_call hu.1, okI_inB hu.2 (by decide) (by decide), okS_empty hbC, okI_0 hbN, okI_0 hrJ, okI_0 hrN, hj, hn, hc, by omega, by omega, by omega⟩
  by_cases h4 : x.nt.kind = 4
  · simp [usedB, h4, markB] at hu
    simp only [Nt.rest, h4] at h0
    simp only [show ¬ (4 : Int) = 1 by decide, show ¬ (4 : Int) = 2 by decide, show ¬ (4 : Int) = 3 by decide, if_true, if_false, Nt.is0, Bool.and_eq_true, nums0B, log0B] at h0
    obtain ⟨⟨⟨⟨⟨⟨⟨⟨_, hver⟩, _⟩, _⟩, hcall⟩, haC, haN⟩, hbC, hbN⟩, hrJ, hrN⟩, _⟩ := h0
    exact ⟨okS_empty hcall, okI_0 hver, okS_call hu.1.1.1, okI_inB hu.1.1.2 (by decide) (by decide), okS_call hu.1.2.1, okI_inB hu.1.2.2 (by decide) (by decide), okI_0 hrJ, okI_0 hrN, hj, hn, hc, by omega, by omega, fun _ => hu.2⟩
  by_cases h5 : x.nt.kind = 5
  · simp [usedB, h5, markB] at hu
    simp only [Nt.rest, h5] at h0
    simp only [show ¬ (5 : Int) = 1 by decide, show ¬ (5 : Int) = 2 by decide, show ¬ (5 : Int) = 3 by decide, show ¬ (5 : Int) = 4 by decide, if_true, if_false, Nt.is0, Bool.and_eq_true, nums0B, log0B] at h0
    obtain ⟨⟨⟨⟨⟨⟨⟨⟨_, hver⟩, _⟩, _⟩, hcall⟩, haC, haN⟩, hbC, hbN⟩, hrJ, hrN⟩, _⟩ := h0
    exact ⟨okS_empty hcall, okI_0 hver, okS_call hu.1.1.1, okI_inB hu.1.1.2 (by decide) (by decide), okS_call hu.1.2.1, okI_inB hu.1.2.2 (by decide) (by decide), okI_0 hrJ, okI_0 hrN, hj, hn, hc, by omega, by omega, fun _ => hu.2⟩
  by_cases h6 : x.nt.kind = 6
  · simp [usedB, h6] at hu
    simp only [Nt.rest, h6] at h0
    simp only [show ¬ (6 : Int) = 1 by decide, show ¬ (6 : Int) = 2 by decide, show ¬ (6 : Int) = 3 by decide, show ¬ (6 : Int) = 4 by decide, show ¬ (6 : Int) = 5 by decide, if_true, if_false, Nt.is0, Bool.and_eq_true, nums0B, log0B] at h0
    obtain ⟨⟨⟨⟨⟨⟨⟨⟨_, hver⟩, _⟩, _⟩, hcall⟩, haC, haN⟩, hbC, hbN⟩, _⟩, _⟩ := h0
    exact ⟨okS_empty hcall, okI_0 hver, okS_empty haC, okI_0 haN, okS_empty hbC, okI_0 hbN, okI_inB hu.1 (by decide) (by decide), okI_inB hu.2 (by decide) (by decide), hj, hn, hc, by omega, by omega, by omega⟩
  by_cases h7 : x.nt.kind = 7
  · simp only [Nt.rest, h7] at h0
    simp only [show ¬ (7 : Int) = 1 by decide, show ¬ (7 : Int) = 2 by decide, show ¬ (7 : Int) = 3 by decide, show ¬ (7 : Int) = 4 by decide, show ¬ (7 : Int) = 5 by decide, show ¬ (7 : Int) = 6 by decide, if_true, if_false, Nt.is0, Bool.and_eq_true, nums0B, log0B] at h0
    obtain ⟨⟨⟨⟨⟨⟨⟨⟨_, hver⟩, _⟩, _⟩, hcall⟩, haC, haN⟩, hbC, hbN⟩, hrJ, hrN⟩, _⟩ := h0
    exact ⟨okS_empty hcall, okI_0 hver, okS_empty haC, okI_0 haN, okS_empty hbC, okI_0 hbN, okI_0 hrJ, okI_0 hrN, hj, hn, hc, by omega, by omega, by omega⟩
  · simp [usedB, h1, h2, h3, h4, h5, h6, h7] at hu
theorem GoodN.note {x : Note} {w : World} (h : GoodN x) (hA : x.At w) : NoteOk x :=
  ⟨note_one hA, h.call, h.version, okI_of (by have := h.judge; omega) (by have := h.judge; omega), okI_of (by have := h.num; omega) (by have := h.num; omega), h.rJ, h.rN, h.kind⟩
theorem setB_len {o : Lay} {xs : List Note} (h : setB o xs = true) : xs.length ≤ 2000 := by
  unfold setB at h
  simp at h
  exact h.1
theorem setB_good {o : Lay} {xs : List Note} (h : setB o xs = true) : ∀ x ∈ xs, x.good o = true := by
  unfold setB at h
  simp only [Bool.and_eq_true] at h
  intro x hx
  obtain ⟨i, hi, rfl⟩ := List.getElem_of_mem hx
  have := List.all_eq_true.1 h.2 i (List.mem_range.2 hi)
  unfold setAt at this
  simp only [Bool.and_eq_true] at this
  have h1 := this.1
  rwa [List.getD_eq_getElem?_getD, List.getElem?_eq_getElem hi] at h1
/-- What the ledger of the notes ds holds. -/
structure LedOf (ds : List Note) (L : Led) : Prop where
  issues : ∀ p ∈ L.issues, p.1 = isk p.2 ∧ p.2 ∈ ds ∧ p.2.nt.kind = 1
  issuesN : L.issues.length ≤ ds.length
  rulings : ∀ x ∈ L.rulings, x.note ∈ ds ∧ (x.note.nt.kind = 3 ∨ x.note.nt.kind = 4 ∨ x.note.nt.kind = 5) ∧ x.judges.length ≤ 1 + ds.length
  rulingsN : L.rulings.length ≤ ds.length
  conflicts : L.conflicts.length ≤ ds.length
theorem LedOf.grow {ds : List Note} {L : Led} (h : LedOf ds L) (x : Note) : LedOf (ds ++ [x]) L :=
  ⟨fun p hp => ⟨(h.issues p hp).1, List.mem_append_left _ (h.issues p hp).2.1, (h.issues p hp).2.2⟩, by have := h.issuesN; simp; omega, fun y hy => ⟨List.mem_append_left _ (h.rulings y hy).1, (h.rulings y hy).2.1, by have := (h.rulings y hy).2.2; simp; omega⟩, by have := h.rulingsN; simp; omega, by have := h.conflicts; simp; omega⟩
theorem LedOf.conf {ds : List Note} {L : Led} (h : LedOf ds L) (x : Note) (k : NameK) : LedOf (ds ++ [x]) { L with conflicts := putM L.conflicts k true } := by
  have h1 := h.grow x
  refine ⟨h1.issues, h1.issuesN, h1.rulings, h1.rulingsN, ?_⟩
  have := putM_length_le L.conflicts k true
  have := h.conflicts
  simp
  omega
theorem LedOf.stepB {ds : List Note} {L L1 : Led} {x : Note} {ok : Bool} (h : LedOf ds L) (hx : 1 ≤ x.nt.kind ∧ x.nt.kind ≤ 7) (hs : StepB x L ok L1) : LedOf (ds ++ [x]) L1 ∧ (ok = false → L1 = L) := by
  have h0 := h.grow x
  unfold StepB at hs
  split at hs
  · rename_i hk
    obtain ⟨rfl, rfl⟩ := hs
    split
    · rename_i hlo
      refine ⟨⟨fun p hp => ?_, ?_, h0.rulings, h0.rulingsN, h0.conflicts⟩, fun e => by rw [hlo] at e; cases e⟩
      · rcases mem_putM hp with rfl | hp
        · exact ⟨rfl, by simp, hk⟩
        · exact h0.issues p hp
      · have := putM_length_le L.issues (isk x) x
        have := h.issuesN
        simp [logLed]
        omega
    · exact ⟨h0, fun _ => rfl⟩
  · split at hs
    · obtain ⟨rfl, rfl⟩ := hs
      split
      · rename_i hlo
        exact ⟨⟨h0.issues, h0.issuesN, h0.rulings, h0.rulingsN, h0.conflicts⟩, fun e => by rw [hlo] at e; cases e⟩
      · exact ⟨h0, fun _ => rfl⟩
    · split at hs
      · obtain ⟨rfl, rfl⟩ := hs
        split
        · rename_i hlo
          refine ⟨?_, fun e => by rw [hlo] at e; cases e⟩
          unfold sgLed
          split
          · rename_i r hr
            refine ⟨h0.issues, h0.issuesN, fun y hy => ?_, by simpa using h0.rulingsN, h0.conflicts⟩
            obtain ⟨z, hz, rfl⟩ := List.mem_map.1 hy
            have h1 := h0.rulings z hz
            have h2 := h.rulings z hz
            unfold signAt
            split
            · refine ⟨h1.1, h1.2.1, ?_⟩
              have := putM_length_le z.judges x.nt.judge true
              have := h2.2.2
              simp
              omega
            · exact h1
          · exact h0
        · exact ⟨h0, fun _ => rfl⟩
      · split at hs
        · obtain ⟨rfl, rfl⟩ := hs
          split
          · rename_i hlo
            exact ⟨⟨h0.issues, h0.issuesN, h0.rulings, h0.rulingsN, h0.conflicts⟩, fun e => by rw [hlo] at e; cases e⟩
          · exact ⟨h0, fun _ => rfl⟩
        · obtain ⟨rfl, r, j, rfl⟩ := hs
          refine ⟨⟨h0.issues, h0.issuesN, fun y hy => ?_, by have := h.rulingsN; simp [ruleLed]; omega, h0.conflicts⟩, by simp⟩
          rcases List.mem_append.1 hy with hy | hy
          · exact h0.rulings y hy
          · simp at hy
            subst hy
            exact ⟨by simp, by dsimp only; omega, by simp⟩
theorem ledOf {ds : List Note} {L : Led} (h : Steps Led0 ds L) (hk : ∀ x ∈ ds, 1 ≤ x.nt.kind ∧ x.nt.kind ≤ 7) : LedOf ds L := by
  obtain ⟨A, hA⟩ : ∃ A, A = Led0 := ⟨_, rfl⟩
  rw [← hA] at h
  induction h with
  | nil => subst hA; exact ⟨by simp, by simp, by simp, by simp, by simp⟩
  | snoc h1 h2 ih =>
    have ih := ih (fun x hx => hk x (List.mem_append_left _ hx))
    obtain ⟨ok, L1', hB, rfl⟩ := h2
    have := ih.stepB (hk _ (by simp)) hB
    cases ok
    · have h3 := this.2 rfl
      subst h3
      simpa using ih.conf _ _
    · simpa using this.1
theorem LedOf.issOk {ds : List Note} {L : Led} {w : World} (h : LedOf ds L) (hg : ∀ x ∈ ds, GoodN x) (hA : ∀ x ∈ ds, x.At w) (hn : ds.length ≤ 2000) : IssOk w L.issues :=
  ⟨fun p hp => (h.issues p hp).1, fun p hp => hA _ (h.issues p hp).2.1, fun p hp => note_one (hA _ (h.issues p hp).2.1), fun p hp => by have := (hg _ (h.issues p hp).2.1).log (h.issues p hp).2.2; omega, by have := h.issuesN; omega, fun p hp => (hg _ (h.issues p hp).2.1).call⟩
end Go.Proofs.YtlamogpdkmbeoaaGreatDoor
end PartOkN
