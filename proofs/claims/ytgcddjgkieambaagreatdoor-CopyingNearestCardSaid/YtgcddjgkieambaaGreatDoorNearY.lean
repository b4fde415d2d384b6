/- Printed by merge.py out of NearB, NearC, NearD, NearE. -/
import Derived.Test.YtgcddjgkieambaaGreatDoorNearX
import Derived.Test.YtgcddjgkieambaaGreatDoorHCost
import Derived.Test.YtgcddjgkieambaaGreatDoorRisesA
import Derived.Test.YtgcddjgkieambaaGreatDoorRises
import Derived.Test.YtgcddjgkieambaaGreatDoorAsk
import Derived.SliceStrings
section PartNearB
/- The walk of 'Nearest': texts that are all short and of characters. -/
set_option linter.unusedVariables false
set_option linter.unusedSimpArgs false
namespace Go.Proofs.YtgcddjgkieambaaGreatDoor
open Go.RowKit Go.Maps

/-- Texts in memory, as a slice's first elements. -/
def StrsP (w : World) (A : Option Addr) (L : List ByteArray) : Prop := ∀ j, j < L.length → ∃ a, A = some a ∧ a.block < w.heap.size ∧ w.cell? (a.add j) = some (.string (L.getD j ByteArray.empty))
theorem StrsP.later {w w' : World} {A : Option Addr} {L : List ByteArray} (h : StrsP w A L) (hb : Below w.heap.size w w') : StrsP w' A L := fun j hj => by
  obtain ⟨a, e, hl, hc⟩ := h j hj
  exact ⟨a, e, Nat.lt_of_lt_of_le hl hb.size, (hb.cell (p := a.add j) (by rw [add_block]; exact hl)).trans hc⟩
theorem own_rowK {W : World} {B g n cap : Nat} {r : List Int} (h : W.ownsRow B 3 1 (.slice (some ⟨g, 0, none⟩) n cap) n (r.map fun z => .int .i64 z)) (hn : n = r.length) : RowK W g 3 cap r.length (fun j => .int .i64 (r.getD j 0)) ∧ B ≤ g ∧ n ≤ cap := by
  obtain ⟨_, h⟩ := h
  rcases h with ⟨h, _⟩ | ⟨g', cap', cur, hv, hb, hh, h1, h2, h3, h4⟩
  · cases h
  · injection hv with e1 e2 e3
    injection e1 with e1
    injection e1 with e1
    subst e1 e3
    refine ⟨⟨cur, hh, by omega, fun k hk => ?_⟩, hb, h1⟩
    have h5 : (cur.toList.take (n * 1))[k]? = (r.map fun z => Value.int .i64 z)[k]? := by rw [h4]
    rw [List.getElem?_take, if_pos (by omega), List.getElem?_map, List.getElem?_eq_getElem hk] at h5
    rw [← Array.getElem?_toList, h5]
    simp [List.getD, List.getElem?_eq_getElem hk]
theorem seg_getD (r : List Int) : St.seg (fun j => r.getD j 0) 0 r.length = r := by
  apply List.ext_getElem
  · rw [St.seg_length]; omega
  · intro i h1 h2
    rw [St.seg_get, Nat.zero_add]
    simp [List.getD, List.getElem?_eq_getElem h2]
theorem own_one (W : World) (s : ByteArray) (B : Nat) (hB : B ≤ W.heap.size) : (W.alloc (.cells #[.string s] 9)).ownsRow B 9 1 (.slice (some ⟨W.heap.size, 0, none⟩) 1 1) 1 [.string s] :=
  ⟨rfl, .inr ⟨W.heap.size, 1, #[.string s], rfl, hB, heap_alloc_new W _, Nat.le_refl _, by decide, rfl, rfl⟩⟩

theorem own_far {W : World} {B n mb : Nat} {e : TypeId} {z : Nat} {v : Value} {xs : List Value} (h : W.ownsRow B e z v n xs) (hb : mb < B) : some mb ≠ v.ownBlock := fun e => by
  have := (h.lt mb e.symm).1
  omega
set_option maxRecDepth 100000 in
set_option maxHeartbeats 2000000 in
theorem sort_nil (w : World) (fv : Value) : Calls Tryz.prog 97 #[.slice none 0 0, fv] w fun e w' => e = .returned (.tuple #[]) ∧ w = w' := by
  have HI : Hid (∀ W : World, Calls Tryz.prog 139 #[.slice none 0 0, .int .i64 0, .int .i64 0, fv] W fun e w' => e = .returned (.tuple #[]) ∧ W = w') := Lib.hid fun W => by
    go_enter Tryz.func139, Tryz.ntmps139
    go_wp2
    refine wp_loop_rounds 1 ?_
    rw [rounds_succ]
    go_wp2
    go_end0
    exact ⟨rfl, rfl⟩
  have HS : Hid (∀ W : World, Calls Tryz.prog 122 #[.slice none 0 0, .int .i64 0, fv] W fun e w' => e = .returned (.tuple #[]) ∧ W = w') := Lib.hid fun W => by
    go_enter Tryz.func122, Tryz.ntmps122
    go_wp2
    refine wp_loop_rounds 1 ?_
    rw [rounds_succ]
    go_wp2_with (go_at_call 139; refine (HI.out _).mono ?_; rintro e w1 ⟨rfl, rfl⟩)
    refine wp_loop_rounds 1 ?_
    rw [rounds_succ]
    go_wp2
    go_end0
    exact ⟨rfl, rfl⟩
  go_enter Tryz.func97, Tryz.ntmps97
  go_wp2_with (go_at_call 122; refine (HS.out _).mono ?_; rintro e w1 ⟨rfl, rfl⟩)
  go_end0
  exact ⟨rfl, rfl⟩
/-- The costs of the texts. -/
abbrev cstN (m : Int) (h : ByteArray) (L : List ByteArray) (i : Nat) : Int := costOf m (L.getD i ByteArray.empty) h
theorem nkey_nk (m : Int) (h : ByteArray) (L : List ByteArray) : nkey m h L = nk (cstN m h L) L.length := rfl
theorem nkey_at (m : Int) (h : ByteArray) (L : List ByteArray) (i : Nat) (hi : i < L.length) : nkey m h L (i : Int) = cstN m h L i := by unfold nkey; rw [Int.toNat_natCast, if_pos hi]

/-- What the texts are, taken apart: rows of numbers that lie below. -/
theorem rows_at {W w' : World} {LL : List ByteArray} (h : IndO W LL LL.length w') {j : Nat} (hj : j < LL.length) : ∃ A c, w'.cell? ⟨W.heap.size, j, none⟩ = some (.slice A (LL.getD j ByteArray.empty).size c) ∧ Idx w' A (LL.getD j ByteArray.empty).size (row (LL.getD j ByteArray.empty)) := by
  obtain ⟨vals, hr, hv, _⟩ := h
  obtain ⟨⟨A, c, e1, i1, _⟩, _⟩ := hv j hj
  refine ⟨A, c, ?_, i1⟩
  rw [hr.cell hj, if_pos hj, e1]

/-- The store of a cost, at a later world. -/
theorem store_cost {W : World} {mb k : Nat} {cst : Nat → Int} (hown : OwnsN W mb k cst) (hk : k ≤ 1000000) (hc : -9223372036854775808 ≤ cst k ∧ cst k ≤ 9223372036854775807) :
    ∃ w', (Instr.mapUpdate 111 (.map (some mb)) (.int .i64 (k : Int)) (.int .i64 (cst k))).run Tryz.prog W = .ok () w' ∧ OwnsN w' mb (k + 1) cst ∧ W.grownBy w' (some mb) := by
  obtain ⟨w', h1, h2, h3⟩ := hown.update law3 Tryz.underlying111 (by unfold maxLen; omega) (keyOf_int_mk Tryz.underlying3 (wf3 (by omega) : (Lit.int .i64 (k : Int)).wf = true)) (plainElem_int Tryz.underlying3 (wf3 hc) : plainElem (H := Unit) Tryz.prog 3 (.int .i64 (cst k)) = _)
  exact ⟨w', h1, h2, h3⟩

set_option maxRecDepth 100000 in
set_option maxHeartbeats 8000000 in
theorem Nearest_go (m : Int) (h : ByteArray) (L : List ByteArray) (most : Int) (A : Option Addr) (c : Nat) (w : World) (hm : isMode m) (hne : L ≠ []) (hS : StrsP w A L) (hn : L.length ≤ 40) (hh : h.size ≤ 64 ∧ allChars h) (hL : ∀ j, j < L.length → (L.getD j ByteArray.empty).size ≤ 64 ∧ allChars (L.getD j ByteArray.empty)) :
    Calls Tryz.prog 56 #[.int .i64 m, .string h, .slice A L.length c, .int .i64 most] w fun e w' => (∃ A' c' r, e = .returned (.tuple #[.slice A' r.length c', .int .i64 0]) ∧ Nums w' A' r ∧ Near (nkey m h L) most L.length r) ∧ Below w.heap.size w w' := by
  obtain ⟨i0, hi, hz0, hz1, hz2⟩ := info_parts info9
  obtain ⟨i1, hj, hy0, hy1, hy2⟩ := info_parts info3
  have hmm := @run_makeMap Tryz.prog
  have hmf : ∀ (fn : Fn) (first cap : Array Value) (w : World), (Instr.makeFunc fn first cap).run Tryz.prog w = .ok (.func fn first cap) w := fun _ _ _ _ => rfl
  have HLL : Hid (∀ j, j < (h :: L).length → ((h :: L).getD j ByteArray.empty).size ≤ 64 ∧ allChars ((h :: L).getD j ByteArray.empty)) := Lib.hid fun j hj => by
    cases j with
    | zero => exact hh
    | succ j => exact hL j (by simpa using hj)
  have HI : Hid (∀ (b c : Nat) (W : World), Strs W b (h :: L) → Calls Tryz.prog 96 #[.slice (some ⟨b, 0, none⟩) (L.length + 1) c] W fun e w' => e = .returned (.tuple #[.slice (some ⟨W.heap.size, 0, none⟩) (L.length + 1) (L.length + 1), .int .i64 0]) ∧ IndO W (h :: L) (h :: L).length w' ∧ Below W.heap.size W w' ∧ W.heap.size < w'.heap.size) :=
    Lib.hid fun b c W hs => (indices_short b c (h :: L) W (by simp; omega) hs (fun j hj => (HLL.out j hj).1)).mono fun e w' ⟨ho, hb⟩ => by
      rcases ho with ⟨_, he, hI⟩ | ⟨⟨j, hj, hn⟩, _⟩
      · exact ⟨he, hI, hb, by obtain ⟨vals, hr, _⟩ := hI; exact hr.lt⟩
      · exact absurd (HLL.out j hj).2 hn
  have f400 : decide ((L.length : Int) > 400) = false := by simp; omega
  have f400' : decide (400 < (L.length : Int)) = false := by simp; omega
  have n400 : ¬ 400 < L.length := by omega
  have HS := Lib.hid hS
  have Hm := Lib.hid hm
  obtain ⟨a, rfl⟩ : ∃ a, A = some a := by
    obtain ⟨a, e, _⟩ := hS 0 (by cases L with | nil => exact absurd rfl hne | cons x l => simp)
    exact ⟨a, e⟩
  · clear hS hh hL hm
    go_enter Tryz.func56, Tryz.ntmps56
    go_wp2_with (first
      | (go_at_call 87; refine (waysT m _ Hm.out).mono ?_; rintro e w1 ⟨T, x, rfl, hC, hb1⟩)
      | (at_builtin; refine wpList_append_own _ rfl _ _ 36 rfl w1.heap.size 9 i0 (.string ⟨#[]⟩) 1 16 Tryz.underlying36 hi hz0 hz1 hz2 rfl (by decide) _ 1 [.string h] rfl (own_one w1 h _ (Nat.le_refl _)) a L.length c (L.map fun s => .string s) rfl ?c1 ?c2 ?c3 ?c4 ?c5 ?c6 ?_))
    case c1 => simp
    case c2 =>
      intro j u hj
      have hj' : j < L.length := by have := (List.getElem?_eq_some_iff.1 hj).1; simpa using this
      obtain ⟨a', e, hl, hc⟩ := HS.out j hj'
      obtain rfl : a = a' := Option.some.inj e
      have hb0 : Below w.heap.size w (w1.alloc (.cells #[.string h] 9)) := hb1.alloc hb1.size _
      rw [(hb0.cell (p := a.add j) (by rw [add_block]; exact hl)).trans hc]
      rw [List.getElem?_map, List.getElem?_eq_getElem hj'] at hj
      simp only [Option.map_some, Option.some.injEq] at hj
      rw [← hj]
      simp [List.getD, List.getElem?_eq_getElem hj']
    case c3 => intro u hu; obtain ⟨s, _, rfl⟩ := List.mem_map.1 hu; rfl
    case c4 => unfold maxLen; omega
    case c5 => omega
    case c6 => simp
    · intro v' w2 hown hgrow _
      obtain ⟨g, cap, hv, _, hlt⟩ := hown.form (by omega)
      subst hv
      rw [Nat.add_comm 1 L.length] at hown ⊢
      have hb2 : Below w.heap.size w w2 := (hb1.alloc hb1.size _).grown hgrow (by have := hb1.size; simp; omega) (fun k hk => by simp [Value.ownBlock] at hk; have := hb1.size; omega)
      have hC2 : WaysV w2 m (.iface T x) := hC.later (((Below.refl w1.heap.size w1).alloc (Nat.le_refl _) (.cells #[.string h] 9)).grown hgrow (by simp) (fun k hk => by simp [Value.ownBlock] at hk; omega))
      have hst : Strs w2 g (h :: L) := ⟨hlt, fun j hj => by
        rw [hown.cellAt j (by simpa using hj)]
        cases j with
        | zero => rfl
        | succ j =>
          have hj' : j < L.length := by simpa using hj
          simp [List.getD, List.getElem?_eq_getElem hj']⟩
      have HST := Lib.hid hst
      have HC2 := Lib.hid hC2
      have HB2 := Lib.hid hb2
      clear hown hgrow hst hC2 hb2 hC hb1
      go_wp2_with (first | (go_at_call 96; refine (HI.out _ _ _ HST.out).mono ?_; rintro e w3 ⟨rfl, hIO, hb3, hlt3⟩))
      have HB3 := Lib.hid (HB2.out.trans (hb3.mono HB2.out.size))
      have HROW := Lib.hid (fun j hj => rows_at hIO (j := j) hj)
      have HC3 := Lib.hid (HC2.out.later hb3)
      have hg3 : w2.heap.size < w3.heap.size := hlt3
      obtain ⟨ib, hib⟩ : ∃ ib, ib = w2.heap.size := ⟨_, rfl⟩
      rw [← hib] at HROW hg3 ⊢
      obtain ⟨W, hW⟩ : ∃ W, W = (w3.alloc (Obj.map #[] 0)).alloc (Obj.cells #[Value.map (some w3.heap.size)] 111) := ⟨_, rfl⟩
      have hbx0 : W.cell? ⟨w3.heap.size + 1, 0, none⟩ = some (.map (some w3.heap.size)) := by
        rw [hW]
        exact (show (w3.alloc (Obj.map #[] 0)).heap.size = w3.heap.size + 1 by simp) ▸ (Blk.new (w3.alloc (Obj.map #[] 0)) 111 #[Value.map (some w3.heap.size)]).cell 0
      have hown0 : OwnsN W w3.heap.size 0 (cstN m h L) := by rw [hW]; exact (World.ownsMap_made w3 _ _ _).alloc _
      have hbW : Below w3.heap.size w3 W := by rw [hW]; exact (below_alloc0 _).alloc (by simp) _
      have hsW : W.heap.size = w3.heap.size + 2 := by rw [hW]; show (((w3.heap.push _).push _)).size = _; simp
      rw [← hW]
      have HX0 := Lib.hid hbx0
      have HO0 := Lib.hid hown0
      have HBW := Lib.hid hbW
      clear hW hib hIO hb3 hlt3 hbx0 hown0 hbW
      go_loopw [15, 47] (fun v15 v47 wx => ∃ i : Nat, i ≤ L.length ∧ v47 = .int .i64 i ∧ wx.cell? ⟨w3.heap.size + 1, 0, none⟩ = some (.map (some w3.heap.size)) ∧ OwnsN wx w3.heap.size i (cstN m h L) ∧
        wx.ownsRow (w3.heap.size + 2) 3 1 v15 (nfil (nkey m h L) most i).length ((nfil (nkey m h L) most i).map fun z => .int .i64 z) ∧ Below w3.heap.size w3 wx ∧ w3.heap.size + 2 ≤ wx.heap.size) (fun _ v47 _ => L.length - (intOf v47).toNat)
      case atStart => exact ⟨0, by omega, rfl, HX0.out, HO0.out, World.ownsRow_nil _ _ _ _, HBW.out, by omega⟩
      case round =>
        obtain ⟨i, hi, rfl, hbx, hown, hrow, hb, hsz⟩ := hrel
        have Hown := Lib.hid hown
        have Hrow := Lib.hid hrow
        have Hb := Lib.hid hb
        by_cases hlt : i < L.length
        · have f1 : decide ((i : Int) < (L.length : Int)) = true := by simp; omega
          have f2 : (i : Int) < (L.length : Int) := by omega
          have f3 : (0 : Int) ≤ (i : Int) := by omega
          have q1 : IntKind.i64.wrap ((i : Int) + 1) = (i : Int) + 1 := IntWalk.i64_in _ (by omega)
          obtain ⟨A1, c1, r1, x1⟩ := HROW.out (i + 1) (by simp; omega)
          obtain ⟨A0, c0, r0, x0⟩ := HROW.out 0 (by simp)
          have hl1 := HLL.out (i + 1) (by simp; omega)
          have hl0 := HLL.out 0 (by simp)
          have e1 : (h :: L).getD (i + 1) ByteArray.empty = L.getD i ByteArray.empty := by simp [List.getD]
          have e0 : (h :: L).getD 0 ByteArray.empty = h := rfl
          rw [e1] at r1 x1 hl1
          rw [e0] at r0 x0 hl0
          have hz : cstN m h L i = Cm.T (Cm.missC m) (Cm.extraC m) (atC m (row (L.getD i ByteArray.empty)) (row h)) (row (L.getD i ByteArray.empty)).length (row h).length := by
            unfold cstN costOf
            rw [if_pos (errOf_of ⟨Hm.out, hl1.1, hl0.1, hl1.2, hl0.2⟩), row_length, row_length]
          have hbd := costOf_bd m (L.getD i ByteArray.empty) h
          obtain ⟨s, hs⟩ : ∃ s, s = L.getD i ByteArray.empty := ⟨_, rfl⟩
          rw [← hs] at r1 x1 hl1 hz
          obtain ⟨z, hzz⟩ : ∃ z, z = cstN m h L i := ⟨_, rfl⟩
          have hcz := hzz
          rw [← hzz] at hz
          have HH : Hid (∀ W', Below w3.heap.size w3 W' → Calls Tryz.prog 65 #[.agg #[.iface T x, .slice A1 s.size c1, .slice A0 h.size c0]] W' fun e w' => e = .returned (.int .i64 z) ∧ Below W'.heap.size W' w') := Lib.hid fun W' hW' => by
            rw [hz]
            exact cost_heard m T x A1 A0 s.size h.size c1 c0 (row s) (row h) W' ⟨(HC3.out.later hW').costs', x1.later hW', x0.later hW', row_lt hl1.2, row_lt hl0.2, by rw [row_length]; exact hl1.1, by rw [row_length]; exact hl0.1⟩
          have t1 : wr.cell? ⟨ib, 1 + i, none⟩ = some (.slice A1 s.size c1) := by rw [Nat.add_comm]; exact (hb.cell (p := ⟨ib, i + 1, none⟩) hg3).trans r1
          have t0 : wr.cell? ⟨ib, 0, none⟩ = some (.slice A0 h.size c0) := (hb.cell (p := ⟨ib, 0, none⟩) hg3).trans r0
          have hdr : Below w3.heap.size w3 wr.drew := hb.drew
          have HZ := Lib.hid hcz
          have hbd' : 0 ≤ z ∧ z ≤ 20000 := by rw [hcz]; exact hbd
          have HKEY := Lib.hid (nkey_at m h L i hlt)
          clear hz hzz hcz hbd hs hl1 hl0 e1 e0 r1 r0 x1 x0 hrow hown hb
          go_wp2
          go_region_held3 (fun w' => w'.cell? ⟨w3.heap.size + 1, 0, none⟩ = some (.map (some w3.heap.size)) ∧ w'.cell? ⟨ib, 0, none⟩ = some (.slice A0 h.size c0)) (simp [*]) (first
            | (go_at_call 65; refine (HH.out _ hdr).mono ?_; rintro e w5 ⟨rfl, hb5⟩; have l1 : w3.heap.size + 1 < wr.drew.heap.size := hsz; have l0 : ib < wr.drew.heap.size := Nat.lt_of_lt_of_le hg3 hdr.size; have j1 := (hb5.cell (p := ⟨w3.heap.size + 1, 0, none⟩) l1).trans hbx; have j0 := (hb5.cell (p := ⟨ib, 0, none⟩) l0).trans t0; obtain ⟨w6, hrun, hown6, hg6⟩ := store_cost (cst := cstN m h L) (W := w5) (Hown.out.drew.kept (row := none) ⟨hb5.os, hb5.tape, hb5.output, hb5.size, fun k hk _ => hb5.block k hk⟩ (by simp)) (by omega) (by rw [← HZ.out]; omega); rw [← HZ.out] at hrun; have j6 := (hg6.cell_far ⟨w3.heap.size + 1, 0, none⟩ (Nat.lt_of_lt_of_le l1 hb5.size) (by simp)).trans j1; have j7 := (hg6.cell_far ⟨ib, 0, none⟩ (Nat.lt_of_lt_of_le l0 hb5.size) (by simp; omega)).trans j0; have Hown6 := Lib.hid hown6; have Hb6 := Lib.hid ((hdr.trans (hb5.mono hdr.size)).grown hg6 (by have := hdr.size; have := hb5.size; omega) (fun k hk => by cases hk; exact Nat.le_refl _)); have Hrow6 := Lib.hid ((own_later (show wr.drew.ownsRow _ _ _ _ _ _ from Hrow.out) hb5).kept hg6 (.inr (own_far (mb := w3.heap.size) Hrow.out (by omega)).symm)); have hs6 : w3.heap.size + 2 ≤ w6.heap.size := Nat.le_trans (Nat.le_trans hsz hb5.size) hg6.size; clear hown6 hg6))
          all_goals
            have hlook := look_run Hown6.out i (by omega)
            rw [if_pos (by omega), ← HZ.out] at hlook
            clear hrun j0 j1 t0 t1 hbx
            by_cases hmo : z ≤ most
            · have g1 : decide (z ≤ most) = true := by simpa using hmo
              have hnf : nfil (nkey m h L) most (i + 1) = nfil (nkey m h L) most i ++ [(i : Int)] := by rw [nfil_succ, if_pos (by rw [HKEY.out, ← HZ.out]; exact hmo)]
              have HNF := Lib.hid hnf
              have hlen := nfil_length (nkey m h L) most i
              clear hnf hmo
              go_wp2_with (first
                | (at_builtin; refine wpList_append_own _ rfl _ _ 38 rfl (w3.heap.size + 2) 3 i1 (.int .i64 0) 1 8 Tryz.underlying38 hj hy0 hy1 hy2 rfl (by decide) _ _ _ rfl (Hrow6.out.alloc _) ⟨w6.heap.size, 0, none⟩ 1 1 [.int .i64 (i : Int)] rfl rfl ?d1 ?d2 ?d3 ?d4 ?d5 ?_))
              case d1 =>
                intro j u hj
                match j, hj with
                | 0, hj => simp at hj; subst hj; simp [Addr.add]
              case d2 => intro u hu; simp at hu; subst hu; rfl
              case d3 => unfold maxLen; omega
              case d4 => omega
              case d5 => simp; omega
              · intro v' w7 hown7 hg7 _
                have j8 := (hg7.cell_far ⟨w3.heap.size + 1, 0, none⟩ (by simp; omega) (own_far Hrow6.out (by simp))).trans ((World.cell?_alloc_some w6 _ (.cells #[.int .i64 (i : Int)] 3) (by rw [j6]; rfl)).trans j6)
                have HO7 := Lib.hid ((Hown6.out.alloc (.cells #[.int .i64 (i : Int)] 3)).kept hg7 (own_far Hrow6.out (by omega)))
                have HB7 := Lib.hid ((Hb6.out.alloc (by omega) (.cells #[.int .i64 (i : Int)] 3)).grown hg7 (by simp; omega) (fun k hk => by have := (Hrow6.out.lt k hk).1; omega))
                have hs7 : w3.heap.size + 2 ≤ w7.heap.size := Nat.le_trans hs6 (Nat.le_trans (by simp) hg7.size)
                have HR7 := Lib.hid hown7
                clear hown7 hg7
                go_wp2
                go_roundw
                case rel => exact ⟨i + 1, by omega, by go_num, j8, HO7.out, by rw [HNF.out, List.map_append, List.length_append]; exact HR7.out, HB7.out, hs7⟩
                case measure => simp [intOf] <;> omega
            · have g1 : decide (z ≤ most) = false := by simpa using hmo
              have hnf : nfil (nkey m h L) most (i + 1) = nfil (nkey m h L) most i := by rw [nfil_succ, if_neg (by rw [HKEY.out, ← HZ.out]; exact hmo), List.append_nil]
              have HNF := Lib.hid hnf
              clear hnf hmo
              go_wp2
              go_roundw
              case rel => exact ⟨i + 1, by omega, by go_num, j6, Hown6.out, by rw [HNF.out]; exact Hrow6.out, Hb6.out, hs6⟩
              case measure => simp [intOf] <;> omega
        · obtain rfl : i = L.length := by omega
          have f1 : decide ((L.length : Int) < (L.length : Int)) = false := by simp
          obtain ⟨r, hr⟩ : ∃ r, r = nfil (nkey m h L) most L.length := ⟨_, rfl⟩
          have hlen := nfil_length (nkey m h L) most L.length
          rw [← hr] at hlen
          have HRR := Lib.hid hr
          have Hbt := Lib.hid (HB3.out.trans (hb.mono HB3.out.size))
          have hl3 := HB3.out.size
          rcases hrow.2 with ⟨hv, h0⟩ | ⟨gg, cc, cur, hv, hge, hh, _⟩
          · subst hv
            have hnil : r = [] := List.eq_nil_of_length_eq_zero (by rw [hr]; exact h0)
            have HSN := Lib.hid (sort_nil wr (.func (.func 98) #[] #[.pointer (some ⟨w3.heap.size + 1, 0, none⟩)]))
            clear hrow hown hb hbx hr h0 hlen
            go_wp2_with (first | (go_at_call 97; refine HSN.out.mono ?_; rintro e w8 ⟨rfl, rfl⟩))
            go_ret2
            exact ⟨⟨none, 0, [], rfl, fun j hj => by simp at hj, ⟨List.Pairwise.nil, by rw [← HRR.out, hnil]⟩⟩, Hbt.out⟩
          · have hgl : gg < wr.heap.size := (Array.getElem?_eq_some_iff.1 hh).1
            subst hv
            clear hh
            rw [← hr] at hrow
            obtain ⟨k1, k2, k3⟩ := own_rowK hrow rfl
            have hSR : SR wr wr gg cc r.length (fun j => r.getD j 0) := ⟨k1, ⟨rfl, rfl, rfl, Nat.le_refl _, fun _ _ _ => rfl⟩⟩
            have hmem : ∀ x ∈ r, 0 ≤ x ∧ x < L.length ∧ nkey m h L x ≤ most := fun x hx => nfil_mem (hr ▸ hx)
            have hgd : ∀ j (hj : j < r.length), r.getD j 0 = r[j]'hj := fun j hj => by simp [List.getD, List.getElem?_eq_getElem hj]
            have hSO := sortStable_any wr wr gg cc r.length cc (fun j => r.getD j 0) (nk (cstN m h L) L.length) (.pointer (some ⟨w3.heap.size + 1, 0, none⟩))
              (cmpOK_of wr gg (w3.heap.size + 1) w3.heap.size L.length (cstN m h L) hbx hown (by omega) (by omega)) hSR k3 (by omega)
              (fun j hj => by show 0 ≤ r.getD j 0 ∧ r.getD j 0 ≤ 1000000; rw [hgd j hj]; have := hmem _ (List.getElem_mem hj); omega)
              (fun x y hxy hy => by
                show r.getD x 0 < r.getD y 0
                rw [hgd x (by omega), hgd y hy]
                have := nfil_rise (nkey m h L) most L.length
                rw [← hr] at this
                exact List.pairwise_iff_getElem.1 this x y (by omega) hy hxy)
            rw [← hr]
            have HSO := Lib.hid hSO
            have hgw : w.heap.size ≤ gg := by omega
            clear hrow hown hb hbx hr hlen k1 hSR hmem hgd hSO
            go_wp2_with (first | (go_at_call 97; refine HSO.out.mono ?_; rintro e w8 ⟨rfl, d8, hS8, hM8⟩))
            go_ret2
            have e8 : (St.seg d8 0 r.length).length = r.length := by rw [St.seg_length]; omega
            refine ⟨⟨some ⟨gg, 0, none⟩, cc, St.seg d8 0 r.length, by rw [e8]; rfl, fun j hj => ⟨⟨gg, 0, none⟩, rfl, Nat.lt_of_lt_of_le hgl hS8.2.size, ?_⟩, ?_⟩, Hbt.out.grown hS8.2 (by have := Hbt.out.size; omega) (fun k hk => by cases hk; exact hgw)⟩
            · rw [e8] at hj
              have ea : (⟨gg, 0, none⟩ : Addr).add j = ⟨gg, j, none⟩ := by unfold Addr.add; split <;> simp_all
              rw [ea, hS8.cell hj]
              congr 2
              have : j < (St.seg d8 0 r.length).length := by rw [e8]; exact hj
              simp [List.getD, List.getElem?_eq_getElem this, St.seg_get]
            · rw [nkey_nk]
              refine Near.of_merged ?_ hM8
              rw [seg_getD, HRR.out, nkey_nk]
end Go.Proofs.YtgcddjgkieambaaGreatDoor
end PartNearB

section PartNearC
/- The walk of 'Nearest' at no texts, and where it returns an error. -/
set_option linter.unusedVariables false
set_option linter.unusedSimpArgs false
namespace Go.Proofs.YtgcddjgkieambaaGreatDoor
open Go.RowKit Go.Maps

set_option maxRecDepth 100000 in
set_option maxHeartbeats 8000000 in
theorem Nearest_mode (m : Int) (h : ByteArray) (most : Int) (v : Value) (w : World) (hm : ¬ isMode m) : Calls Tryz.prog 56 #[.int .i64 m, .string h, v, .int .i64 most] w fun e w' => e = .returned (.tuple #[.slice none 0 0, .int .i64 40]) ∧ Below w.heap.size w w' := by
  go_enter Tryz.func56, Tryz.ntmps56
  go_wp2_with (go_at_call 87; refine (waysOf_no m _ hm).mono ?_; rintro e w' ⟨rfl, rfl⟩)
  go_ret2
  exact ⟨rfl, Below.refl _ _⟩

/-- The texts put together, as the call lays them. -/
def Joined (w W : World) (B : Nat) (v : Value) (LL : List ByteArray) : Prop := ∃ g cap, v = .slice (some ⟨g, 0, none⟩) LL.length cap ∧ Strs W g LL ∧ Below w.heap.size w W

set_option maxRecDepth 100000 in
set_option maxHeartbeats 8000000 in
theorem Nearest_err (m : Int) (h : ByteArray) (L : List ByteArray) (most : Int) (a : Addr) (c : Nat) (w : World) (hm : isMode m) (hS : StrsP w (some a) L) (hn : L.length ≤ 1000) (e1 er : Int) (her : er = if e1 = 2 ∨ 400 < L.length then 2 else e1) (h0 : er ≠ 0)
    (hI : ∀ (b c : Nat) (W : World), Strs W b (h :: L) → Calls Tryz.prog 96 #[.slice (some ⟨b, 0, none⟩) (L.length + 1) c] W fun e w' => (∃ v, e = .returned (.tuple #[v, .int .i64 e1])) ∧ Below W.heap.size W w') :
    Calls Tryz.prog 56 #[.int .i64 m, .string h, .slice (some a) L.length c, .int .i64 most] w fun e w' => e = .returned (.tuple #[.slice none 0 0, .int .i64 er]) ∧ Below w.heap.size w w' := by
  have HER := Lib.hid her
  have H0 := Lib.hid h0
  clear her h0
  obtain ⟨i0, hi, hz0, hz1, hz2⟩ := info_parts info9
  have HI := Lib.hid hI
  have HS := Lib.hid hS
  have Hm := Lib.hid hm
  clear hS hm hI
  go_enter Tryz.func56, Tryz.ntmps56
  go_wp2_with (first
    | (go_at_call 87; refine (waysT m _ Hm.out).mono ?_; rintro e w1 ⟨T, x, rfl, hC, hb1⟩)
    | (at_builtin; refine wpList_append_own _ rfl _ _ 36 rfl w1.heap.size 9 i0 (.string ⟨#[]⟩) 1 16 Tryz.underlying36 hi hz0 hz1 hz2 rfl (by decide) _ 1 [.string h] rfl (own_one w1 h _ (Nat.le_refl _)) a L.length c (L.map fun s => .string s) rfl ?c1 ?c2 ?c3 ?c4 ?c5 ?c6 ?_))
  case c1 => simp
  case c2 =>
    intro j u hj
    have hj' : j < L.length := by have := (List.getElem?_eq_some_iff.1 hj).1; simpa using this
    obtain ⟨a', e, hl, hc⟩ := HS.out j hj'
    obtain rfl : a = a' := Option.some.inj e
    have hb0 : Below w.heap.size w (w1.alloc (.cells #[.string h] 9)) := hb1.alloc hb1.size _
    rw [(hb0.cell (p := a.add j) (by rw [add_block]; exact hl)).trans hc]
    rw [List.getElem?_map, List.getElem?_eq_getElem hj'] at hj
    simp only [Option.map_some, Option.some.injEq] at hj
    rw [← hj]
    simp [List.getD, List.getElem?_eq_getElem hj']
  case c3 => intro u hu; obtain ⟨s, _, rfl⟩ := List.mem_map.1 hu; rfl
  case c4 => unfold maxLen; omega
  case c5 => omega
  case c6 => simp
  · intro v' w2 hown hgrow _
    obtain ⟨g, cap, hv, _, hlt⟩ := hown.form (by omega)
    subst hv
    rw [Nat.add_comm 1 L.length] at hown ⊢
    have hb2 : Below w.heap.size w w2 := (hb1.alloc hb1.size _).grown hgrow (by have := hb1.size; simp; omega) (fun k hk => by simp [Value.ownBlock] at hk; have := hb1.size; omega)
    have hst : Strs w2 g (h :: L) := ⟨hlt, fun j hj => by
      rw [hown.cellAt j (by simpa using hj)]
      cases j with
      | zero => rfl
      | succ j =>
        have hj' : j < L.length := by simpa using hj
        simp [List.getD, List.getElem?_eq_getElem hj']⟩
    have HST := Lib.hid hst
    have HB2 := Lib.hid hb2
    clear hown hgrow hst hb2 hC hb1
    by_cases h2 : e1 = 2
    · subst h2
      go_wp2_with (first | (go_at_call 96; refine (HI.out _ _ _ HST.out).mono ?_; rintro e w3 ⟨⟨v, rfl⟩, hb3⟩; have Hb3 := Lib.hid (HB2.out.trans (hb3.mono HB2.out.size)); clear hb3))
      go_ret2
      exact ⟨by have he := HER.out; simp at he; rw [he]; rfl, Hb3.out⟩
    · have d2 : (e1 == 2) = false := by simpa using h2
      by_cases h4 : 400 < L.length
      · have f400 : decide ((L.length : Int) > 400) = true := by simp; omega
        have f400' : decide (400 < (L.length : Int)) = true := by simp; omega
        go_wp2_with (first | (go_at_call 96; refine (HI.out _ _ _ HST.out).mono ?_; rintro e w3 ⟨⟨v, rfl⟩, hb3⟩; have Hb3 := Lib.hid (HB2.out.trans (hb3.mono HB2.out.size)); clear hb3))
        go_ret2
        exact ⟨by rw [HER.out, if_pos (.inr h4)]; rfl, Hb3.out⟩
      · have f400 : decide ((L.length : Int) > 400) = false := by simp; omega
        have f400' : decide (400 < (L.length : Int)) = false := by simp; omega
        have hif : ¬ (e1 = 2 ∨ 400 < L.length) := fun h => h.elim h2 h4
        have he : er = e1 := by rw [HER.out, if_neg hif]
        have d0 : (e1 != 0) = true := by have := H0.out; rw [he] at this; simpa using this
        have HE := Lib.hid he
        clear hif h2 he
        go_wp2_with (first | (go_at_call 96; refine (HI.out _ _ _ HST.out).mono ?_; rintro e w3 ⟨⟨v, rfl⟩, hb3⟩; have Hb3 := Lib.hid (HB2.out.trans (hb3.mono HB2.out.size)); clear hb3))
        go_ret2
        exact ⟨by rw [HE.out]; rfl, Hb3.out⟩

/-- No texts: only the one that was heard is taken apart. -/
theorem strs_one (w : World) (s : ByteArray) : Strs (w.alloc (.cells #[.string s] 9)) w.heap.size [s] := by
  have hB := Blk.new w 9 #[.string s]
  refine ⟨hB.lt, fun j hj => ?_⟩
  obtain rfl : j = 0 := by simpa using hj
  exact hB.cell 0

set_option maxRecDepth 100000 in
set_option maxHeartbeats 8000000 in
theorem Nearest_nil (m : Int) (h : ByteArray) (most : Int) (A : Option Addr) (c : Nat) (w : World) (hm : isMode m) (er : Int) (h0 : er = 0 ∨ er = 2 ∨ er = 41)
    (hI : ∀ (b c : Nat) (W : World), Strs W b [h] → Calls Tryz.prog 96 #[.slice (some ⟨b, 0, none⟩) 1 c] W fun e w' => (∃ ib v, e = .returned (.tuple #[v, .int .i64 er]) ∧ (er = 0 → v = .slice (some ⟨ib, 0, none⟩) 1 1)) ∧ Below W.heap.size W w') :
    Calls Tryz.prog 56 #[.int .i64 m, .string h, .slice A 0 c, .int .i64 most] w fun e w' => e = .returned (.tuple #[.slice none 0 0, .int .i64 er]) ∧ Below w.heap.size w w' := by
  obtain ⟨i0, hi, hz0, hz1, hz2⟩ := info_parts info9
  have hmm := @run_makeMap Tryz.prog
  have hmf : ∀ (fn : Fn) (first cap : Array Value) (w : World), (Instr.makeFunc fn first cap).run Tryz.prog w = .ok (.func fn first cap) w := fun _ _ _ _ => rfl
  have HI := Lib.hid hI
  have Hm := Lib.hid hm
  have HSN := Lib.hid sort_nil
  clear hm hI
  cases A with
  | none =>
    rcases h0 with rfl | rfl | rfl
    · go_enter Tryz.func56, Tryz.ntmps56
      go_wp2_with (first
        | (go_at_call 87; refine (waysT m _ Hm.out).mono ?_; rintro e w1 ⟨T, x, rfl, hC, hb1⟩)
        | (go_at_call 96; refine (HI.out _ _ _ (strs_one w1 h)).mono ?_; rintro e w3 ⟨⟨ib, v, rfl, hv⟩, hb3⟩; obtain rfl := hv trivial; have HB := Lib.hid ((hb1.alloc hb1.size _).trans (hb3.mono (by have := hb1.size; simp; omega))); clear hv hb3 hb1 hC))
      refine wp_loop_rounds 1 ?_
      rw [rounds_succ]
      go_wp2_with (first | (go_at_call 97; refine (HSN.out _ _).mono ?_; rintro e w8 ⟨rfl, rfl⟩))
      go_ret2
      exact ⟨rfl, (HB.out.alloc HB.out.size _).alloc (by have := HB.out.size; simp; omega) _⟩
    · go_enter Tryz.func56, Tryz.ntmps56
      go_wp2_with (first
        | (go_at_call 87; refine (waysT m _ Hm.out).mono ?_; rintro e w1 ⟨T, x, rfl, hC, hb1⟩)
        | (go_at_call 96; refine (HI.out _ _ _ (strs_one w1 h)).mono ?_; rintro e w3 ⟨⟨ib, v, rfl, hv⟩, hb3⟩; have HB := Lib.hid ((hb1.alloc hb1.size _).trans (hb3.mono (by have := hb1.size; simp; omega))); clear hv hb3 hb1 hC))
      go_ret2
      exact ⟨rfl, HB.out⟩
    · go_enter Tryz.func56, Tryz.ntmps56
      go_wp2_with (first
        | (go_at_call 87; refine (waysT m _ Hm.out).mono ?_; rintro e w1 ⟨T, x, rfl, hC, hb1⟩)
        | (go_at_call 96; refine (HI.out _ _ _ (strs_one w1 h)).mono ?_; rintro e w3 ⟨⟨ib, v, rfl, hv⟩, hb3⟩; have HB := Lib.hid ((hb1.alloc hb1.size _).trans (hb3.mono (by have := hb1.size; simp; omega))); clear hv hb3 hb1 hC))
      go_ret2
      exact ⟨rfl, HB.out⟩
  | some a =>
    rcases h0 with rfl | rfl | rfl
    · go_enter Tryz.func56, Tryz.ntmps56
      go_wp2_with (first
        | (go_at_call 87; refine (waysT m _ Hm.out).mono ?_; rintro e w1 ⟨T, x, rfl, hC, hb1⟩)
        | (go_at_call 96; refine (HI.out _ _ _ (strs_one w1 h)).mono ?_; rintro e w3 ⟨⟨ib, v, rfl, hv⟩, hb3⟩; obtain rfl := hv trivial; have HB := Lib.hid ((hb1.alloc hb1.size _).trans (hb3.mono (by have := hb1.size; simp; omega))); clear hv hb3 hb1 hC))
      refine wp_loop_rounds 1 ?_
      rw [rounds_succ]
      go_wp2_with (first | (go_at_call 97; refine (HSN.out _ _).mono ?_; rintro e w8 ⟨rfl, rfl⟩))
      go_ret2
      exact ⟨rfl, (HB.out.alloc HB.out.size _).alloc (by have := HB.out.size; simp; omega) _⟩
    · go_enter Tryz.func56, Tryz.ntmps56
      go_wp2_with (first
        | (go_at_call 87; refine (waysT m _ Hm.out).mono ?_; rintro e w1 ⟨T, x, rfl, hC, hb1⟩)
        | (go_at_call 96; refine (HI.out _ _ _ (strs_one w1 h)).mono ?_; rintro e w3 ⟨⟨ib, v, rfl, hv⟩, hb3⟩; have HB := Lib.hid ((hb1.alloc hb1.size _).trans (hb3.mono (by have := hb1.size; simp; omega))); clear hv hb3 hb1 hC))
      go_ret2
      exact ⟨rfl, HB.out⟩
    · go_enter Tryz.func56, Tryz.ntmps56
      go_wp2_with (first
        | (go_at_call 87; refine (waysT m _ Hm.out).mono ?_; rintro e w1 ⟨T, x, rfl, hC, hb1⟩)
        | (go_at_call 96; refine (HI.out _ _ _ (strs_one w1 h)).mono ?_; rintro e w3 ⟨⟨ib, v, rfl, hv⟩, hb3⟩; have HB := Lib.hid ((hb1.alloc hb1.size _).trans (hb3.mono (by have := hb1.size; simp; omega))); clear hv hb3 hb1 hC))
      go_ret2
      exact ⟨rfl, HB.out⟩
end Go.Proofs.YtgcddjgkieambaaGreatDoor
end PartNearC

section PartNearD
/- 'Nearest' at all texts. -/
set_option linter.unusedVariables false
set_option linter.unusedSimpArgs false
namespace Go.Proofs.YtgcddjgkieambaaGreatDoor
open Go.RowKit Go.Maps

/-- The error of taking texts apart. -/
def idxE (LL : List ByteArray) : Int := if LL.any (fun s => decide (64 < s.size)) = true then 2 else if LL.all okText = true then 0 else 41
theorem idxE_cases (LL : List ByteArray) : idxE LL = 0 ∨ idxE LL = 2 ∨ idxE LL = 41 := by unfold idxE; split; exact .inr (.inl rfl); split; exact .inl rfl; exact .inr (.inr rfl)
theorem nrE_idx {m : Int} (hm : isMode m) (h : ByteArray) (L : List ByteArray) : nrE m h L = if idxE (h :: L) = 2 ∨ 400 < L.length then 2 else idxE (h :: L) := by
  unfold nrE
  rw [if_neg (fun e => e hm)]
  by_cases h4 : 400 < L.length
  · rw [if_pos (.inr (.inl h4)), if_pos (.inr h4)]
  · by_cases ha : (h :: L).any (fun s => decide (64 < s.size)) = true
    · have e2 : idxE (h :: L) = 2 := if_pos ha
      have hL : 64 < h.size ∨ 400 < L.length ∨ L.any (fun s => decide (64 < s.size)) = true := by
        rw [List.any_cons, Bool.or_eq_true] at ha
        rcases ha with ha | ha
        · exact .inl (of_decide_eq_true ha)
        · exact .inr (.inr ha)
      rw [if_pos hL, if_pos (Or.inl e2)]
    · have e2 : idxE (h :: L) = if (h :: L).all okText = true then 0 else 41 := if_neg ha
      rw [List.any_cons, Bool.or_eq_true] at ha
      have hno : ¬ (64 < h.size ∨ 400 < L.length ∨ L.any (fun s => decide (64 < s.size)) = true) := by
        rintro (e | e | e)
        · exact ha (.inl (by simpa using e))
        · exact h4 e
        · exact ha (.inr e)
      rw [if_neg hno, e2]
      have e3 : (h :: L).all okText = true ↔ okText h = true ∧ L.all okText = true := by rw [List.all_cons, Bool.and_eq_true]
      by_cases hc : okText h = true ∧ L.all okText = true
      · rw [if_pos hc, if_pos (e3.2 hc), if_neg (by rintro (e | e); exact absurd e (by decide); exact h4 e)]
      · rw [if_neg hc, if_neg (fun e => hc (e3.1 e)), if_neg (by rintro (e | e); exact absurd e (by decide); exact h4 e)]
theorem getD_mem {LL : List ByteArray} {j : Nat} (hj : j < LL.length) : LL.getD j ByteArray.empty ∈ LL := by rw [getD_get _ _ hj]; exact List.getElem_mem _
theorem indices_all (b c : Nat) (LL : List ByteArray) (w : World) (hL : LL.length ≤ 1001) (h : Strs w b LL) :
    Calls Tryz.prog 96 #[.slice (some ⟨b, 0, none⟩) LL.length c] w fun e w' => (∃ v, e = .returned (.tuple #[v, .int .i64 (idxE LL)]) ∧ (idxE LL = 0 → v = .slice (some ⟨w.heap.size, 0, none⟩) LL.length LL.length)) ∧ Below w.heap.size w w' := by
  by_cases ha : LL.any (fun s => decide (64 < s.size)) = true
  · have e2 : idxE LL = 2 := if_pos ha
    obtain ⟨s, hs, hl⟩ := List.any_eq_true.1 ha
    exact (indices_long b c LL w (by omega) h ⟨s, hs, of_decide_eq_true hl⟩).mono fun e w' hh => ⟨⟨_, by rw [e2]; exact hh.1, fun e => absurd (e2 ▸ e) (by decide)⟩, hh.2 ▸ Below.refl _ _⟩
  · have e2 : idxE LL = if LL.all okText = true then 0 else 41 := if_neg ha
    have hsh : ∀ j, j < LL.length → (LL.getD j ByteArray.empty).size ≤ 64 := fun j hj => by
      rcases Nat.lt_or_ge 64 (LL.getD j ByteArray.empty).size with h1 | h1
      · exact absurd (List.any_eq_true.2 ⟨_, getD_mem hj, by simpa using h1⟩) ha
      · exact h1
    refine (indices_short b c LL w (by omega) h hsh).mono fun e w' ⟨ho, hb⟩ => ⟨?_, hb⟩
    rcases ho with ⟨hall, he, _⟩ | ⟨⟨j, hj, hn⟩, he⟩
    · have e3 : idxE LL = 0 := by
        rw [e2, if_pos]
        rw [List.all_eq_true]
        intro s hs
        obtain ⟨j, hj, rfl⟩ := List.getElem_of_mem hs
        have := hall j hj
        rw [getD_get _ _ hj] at this
        exact (okText_iff _).2 this
      exact ⟨_, by rw [e3]; exact he, fun _ => rfl⟩
    · have e3 : idxE LL = 41 := by
        rw [e2, if_neg]
        intro hall
        rw [List.all_eq_true] at hall
        exact hn ((okText_iff _).1 (hall _ (getD_mem hj)))
      exact ⟨_, by rw [e3]; exact he, fun e => absurd (e3 ▸ e) (by decide)⟩

/-- What both programs return. -/
def NearOut (m : Int) (h : ByteArray) (L : List ByteArray) (most : Int) (w : World) (e : Ending) (w' : World) : Prop :=
  ((nrE m h L = 0 ∧ ∃ A' c' r, e = .returned (.tuple #[.slice A' r.length c', .int .i64 0]) ∧ Nums w' A' r ∧ Near (nkey m h L) most L.length r) ∨ (nrE m h L ≠ 0 ∧ e = .returned (.tuple #[.slice none 0 0, .int .i64 (nrE m h L)]))) ∧ Below w.heap.size w w'
theorem Nearest_any (m : Int) (h : ByteArray) (L : List ByteArray) (most : Int) (A : Option Addr) (c : Nat) (w : World) (hS : StrsP w A L) (hn : L.length ≤ 40 ∨ (400 < L.length ∧ L.length ≤ 1000)) :
    Calls Tryz.prog 56 #[.int .i64 m, .string h, .slice A L.length c, .int .i64 most] w (NearOut m h L most w) := by
  by_cases hm : isMode m
  · have hE := nrE_idx hm h L
    cases L with
    | nil =>
      have hE0 : nrE m h [] = idxE [h] := by
        rw [hE]
        rcases idxE_cases [h] with e | e | e <;> rw [e] <;> decide
      refine (Nearest_nil m h most A c w hm (idxE [h]) (idxE_cases _) (fun b c W hst => (indices_all b c [h] W (by simp) hst).mono fun e w' ⟨⟨v, h1, h2⟩, h3⟩ => ⟨⟨W.heap.size, v, h1, h2⟩, h3⟩)).mono fun e w' ⟨he, hb⟩ => ⟨?_, hb⟩
      by_cases h0 : idxE [h] = 0
      · rw [h0] at he
        exact .inl ⟨hE0.trans h0, none, 0, [], he, fun j hj => by simp at hj, Near.zero _ _⟩
      · exact .inr ⟨by rw [hE0]; exact h0, by rw [hE0]; exact he⟩
    | cons s0 l0 =>
      obtain ⟨a, rfl⟩ : ∃ a, A = some a := by
        obtain ⟨a, e, _⟩ := hS 0 (by simp)
        exact ⟨a, e⟩
      by_cases h0 : nrE m h (s0 :: l0) = 0
      · have hc : ¬ (idxE (h :: s0 :: l0) = 2 ∨ 400 < (s0 :: l0).length) := fun e => by rw [hE, if_pos e] at h0; exact absurd h0 (by decide)
        have hi : idxE (h :: s0 :: l0) = 0 := by rw [hE, if_neg hc] at h0; exact h0
        have hno : ¬ (h :: s0 :: l0).any (fun s => decide (64 < s.size)) = true := fun e => hc (.inl (if_pos e))
        have hall : (h :: s0 :: l0).all okText = true := by
          have : idxE (h :: s0 :: l0) = if (h :: s0 :: l0).all okText = true then 0 else 41 := if_neg hno
          rw [hi] at this
          by_cases e : (h :: s0 :: l0).all okText = true
          · exact e
          · rw [if_neg e] at this; exact absurd this (by decide)
        have hone : ∀ s ∈ h :: s0 :: l0, s.size ≤ 64 ∧ allChars s := fun s hs => ⟨by
          rcases Nat.lt_or_ge 64 s.size with h1 | h1
          · exact absurd (List.any_eq_true.2 ⟨s, hs, by simpa using h1⟩) hno
          · exact h1, (okText_iff s).1 (List.all_eq_true.1 hall s hs)⟩
        refine (Nearest_go m h (s0 :: l0) most (some a) c w hm (by simp) hS (by omega) (hone h List.mem_cons_self) (fun j hj => hone _ (List.mem_cons_of_mem _ (getD_mem hj)))).mono fun e w' ⟨⟨A', c', r, h1, h2, h3⟩, hb⟩ => ⟨.inl ⟨h0, A', c', r, h1, h2, h3⟩, hb⟩
      · refine (Nearest_err m h (s0 :: l0) most a c w hm hS (by omega) (idxE (h :: s0 :: l0)) (nrE m h (s0 :: l0)) hE h0 (fun b c W hst => (indices_all b c (h :: s0 :: l0) W (by simp at hn ⊢; omega) hst).mono fun e w' ⟨⟨v, h1, _⟩, h3⟩ => ⟨⟨v, h1⟩, h3⟩)).mono fun e w' ⟨he, hb⟩ => ⟨.inr ⟨h0, he⟩, hb⟩
  · have hE : nrE m h L = 40 := if_pos hm
    refine (Nearest_mode m h most _ w hm).mono fun e w' ⟨he, hb⟩ => ⟨.inr ⟨by rw [hE]; decide, by rw [hE]; exact he⟩, hb⟩
end Go.Proofs.YtgcddjgkieambaaGreatDoor
end PartNearD

section PartNearE
/- Texts of a parameter; what an answer without an error says of the texts. -/
set_option linter.unusedVariables false
set_option linter.unusedSimpArgs false
namespace Go.Proofs.YtgcddjgkieambaaGreatDoor
open Go.RowKit Go.Maps

theorem StrsP.place {w : World} {A : Option Addr} {L : List ByteArray} (h : StrsP w A L) (h0 : 0 < L.length) :
    ∃ (g o : Nat), A = some ⟨g, o, none⟩ ∧ g < w.heap.size ∧ ∀ k, k < L.length → w.cell? ⟨g, o + k, none⟩ = some (.string (L.getD k ByteArray.empty)) := by
  obtain ⟨a, rfl, hb, hc0⟩ := h 0 h0
  have hsp : a.spot = none := by
    have := World.cell?_spot hc0
    simpa [Addr.add] using this
  obtain ⟨g, o, sp⟩ := a
  simp only at hsp
  subst hsp
  refine ⟨g, o, rfl, hb, fun k hk => ?_⟩
  obtain ⟨a', e, _, hc⟩ := h k hk
  injection e with e
  rw [← e, Addr.add_lit] at hc
  exact hc
theorem Nums.place0 {w : World} {A : Option Addr} {l : List Int} (h : Nums w A l) (h0 : 0 < l.length) :
    ∃ (g o : Nat), A = some ⟨g, o, none⟩ ∧ g < w.heap.size ∧ ∀ k, k < l.length → w.cell? ⟨g, o + k, none⟩ = some (.int .i64 (l.getD k 0)) := by
  obtain ⟨a, rfl, hb, hc0⟩ := h 0 h0
  have hsp : a.spot = none := by
    have := World.cell?_spot hc0
    simpa [Addr.add] using this
  obtain ⟨g, o, sp⟩ := a
  simp only at hsp
  subst hsp
  refine ⟨g, o, rfl, hb, fun k hk => ?_⟩
  obtain ⟨a', e, _, hc⟩ := h k hk
  injection e with e
  rw [← e, Addr.add_lit] at hc
  exact hc
theorem nrE_err {m : Int} {h : ByteArray} {L : List ByteArray} (h0 : nrE m h L = 0) : ∀ j, j < L.length → errOf m (L.getD j ByteArray.empty) h = 0 := by
  unfold nrE at h0
  intro j hj
  split at h0
  · omega
  · rename_i hm
    split at h0
    · omega
    · rename_i hl
      split at h0
      · rename_i hc
        have hs := getD_mem hj
        refine errOf_of ⟨Classical.not_not.1 hm, ?_, by omega, (okText_iff _).1 (List.all_eq_true.1 hc.2 _ hs), (okText_iff _).1 hc.1⟩
        rcases Nat.lt_or_ge 64 (L.getD j ByteArray.empty).size with h1 | h1
        · exact absurd (.inr (.inr (List.any_eq_true.2 ⟨_, hs, by simpa using h1⟩))) hl
        · exact h1
      · omega
/-- How often a number stands in the first places. -/
def cntN (r : List Int) (i j : Nat) : Int := if (j : Int) ∈ r.take i then 1 else 0
theorem cntN_zero (r : List Int) (j : Nat) : cntN r 0 j = 0 := by unfold cntN; rw [if_neg (by simp)]
theorem take_snoc (r : List Int) (i : Nat) (h : i < r.length) : r.take (i + 1) = r.take i ++ [r[i]'h] := by rw [List.take_add_one, List.getElem?_eq_getElem h]; rfl
theorem cntN_next {r : List Int} {i : Nat} (h : i < r.length) (x : Nat) (hx : r[i]'h = (x : Int)) (j : Nat) : cntN r (i + 1) j = if j = x then 1 else cntN r i j := by
  unfold cntN
  rw [take_snoc r i h, hx]
  by_cases e : j = x
  · rw [if_pos e, if_pos (by rw [e]; simp)]
  · rw [if_neg e]
    have : ((j : Int) ∈ r.take i ++ [(x : Int)]) ↔ (j : Int) ∈ r.take i := by
      rw [List.mem_append, List.mem_singleton]
      exact ⟨fun h => h.elim id fun h => absurd (by omega) e, .inl⟩
    by_cases h2 : (j : Int) ∈ r.take i
    · rw [if_pos h2, if_pos (this.2 h2)]
    · rw [if_neg h2, if_neg (fun h => h2 (this.1 h))]
theorem cntN_new {key : Int → Int} {r : List Int} (hu : St.Up key r) {i : Nat} (h : i < r.length) (x : Nat) (hx : r[i]'h = (x : Int)) : cntN r i x = 0 := by
  unfold cntN
  rw [if_neg]
  intro hm
  obtain ⟨k, hk, hke⟩ := List.getElem_of_mem hm
  rw [List.length_take] at hk
  rw [List.getElem_take] at hke
  have := List.pairwise_iff_getElem.1 hu k i (by omega) h (by omega)
  rw [hke, hx] at this
  unfold St.lx at this
  omega
theorem cntN_all {key : Int → Int} {most : Int} {n : Nat} {r : List Int} (hN : Near key most n r) (j : Nat) (hj : j < n) : cntN r r.length j = if key (j : Int) ≤ most then 1 else 0 := by
  unfold cntN
  rw [List.take_of_length_le (Nat.le_refl _)]
  by_cases h : key (j : Int) ≤ most
  · rw [if_pos h, if_pos (hN.2.mem_iff.2 (nfil_of hj h))]
  · rw [if_neg h, if_neg (fun hm => h (hN.mem hm).2.2)]
/-- The last cost that was met. -/
def lastC (key : Int → Int) (r : List Int) (i : Nat) : Int := if i = 0 then 0 else key (r.getD (i - 1) 0)

theorem cells9 : Tryz.prog.cellsOf 9 = 1 := by kernel_rfl
/-- A cell that reads as a slice of texts is one. -/
theorem strs_open {H : Type} {enc : TypeId × Value → H} {W : World} {n : Nat} {v : Value} {y : DataW H × List MemPlace} (h : DataW.trod enc Tryz.prog W 0 (fun _ => true) true n 36 [v] = some y) : ∃ A c L, v = .slice A L.length c ∧ StrsP W A L := by
  rcases Go.ChangeShapes.open_strings Tryz.underlying36 Tryz.underlying9 cells9 h with ⟨hc, _⟩ | ⟨a, len, cap, ss, hc, _, hlc, hm, hz, _, hcell, hwf⟩
  · simp only [List.cons.injEq, and_true] at hc
    exact ⟨none, 0, [], hc, fun j hj => by simp at hj⟩
  · simp only [List.cons.injEq, and_true] at hc
    have hz : ss.length = cap := by simpa using hz
    have hl : (ss.take len).length = len := by rw [List.length_take, hz]; omega
    refine ⟨some a, cap, ss.take len, by rw [hl]; exact hc, fun j hj => ⟨a, rfl, ?_, ?_⟩⟩
    · rw [hl] at hj
      have := World.block_lt_of_cell? W _ (hcell j (by rw [hz]; omega))
      rwa [add_block] at this
    · rw [hl] at hj
      rw [hcell j (by rw [hz]; omega)]
      congr 2
      simp [List.getD, hj]
end Go.Proofs.YtgcddjgkieambaaGreatDoor
end PartNearE
