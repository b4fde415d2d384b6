/- Printed by merge.py out of NearR, NearS, NearT. -/
import Derived.Test.YtgcddjgkieambaaGreatDoorNearY
import Derived.Test.YtgcddjgkieambaaGreatDoorRefF
import Derived.Laws.AppendOwnNone
section PartNearR
/- The walk of the reference's 'Nearest': the errors. -/
set_option linter.unusedVariables false
set_option linter.unusedSimpArgs false
namespace Go.Proofs.YtgcddjgkieambaaGreatDoor
open Go.RowKit Go.Maps

theorem mdY {m : Int} (h : isMode m) (w : World) : Calls Tryz.prog 88 #[.int .i64 m] w fun e w' => e = .returned (.bool true) ∧ w = w' := by
  have e : (decide (1 ≤ m) && decide (m ≤ 3)) = true := by have h' : m = 1 ∨ m = 2 ∨ m = 3 := h; simp; omega
  have := ref_isMode m w
  rwa [e] at this
theorem mdN {m : Int} (h : ¬ isMode m) (w : World) : Calls Tryz.prog 88 #[.int .i64 m] w fun e w' => e = .returned (.bool false) ∧ w = w' := by
  have e : (decide (1 ≤ m) && decide (m ≤ 3)) = false := by
    have h' : ¬ (m = 1 ∨ m = 2 ∨ m = 3) := h
    rw [Bool.and_eq_false_iff, decide_eq_false_iff_not, decide_eq_false_iff_not]; omega
  have := ref_isMode m w
  rwa [e] at this
abbrev lg (s : ByteArray) : Bool := decide (64 < s.size)
theorem any_snoc (L : List ByteArray) (k : Nat) (h : k < L.length) : (L.take (k + 1)).any lg = ((L.take k).any lg || lg (L.getD k ByteArray.empty)) := by
  rw [List.take_add_one, List.getElem?_eq_getElem h, List.any_append, getD_get _ _ h]
  simp

set_option maxRecDepth 100000 in
set_option maxHeartbeats 4000000 in
theorem refNearest_mode (m : Int) (h : ByteArray) (v : Value) (most : Int) (w : World) (hm : ¬ isMode m) : Calls Tryz.prog 57 #[.int .i64 m, .string h, v, .int .i64 most] w fun e w' => e = .returned (.tuple #[.slice none 0 0, .int .i64 40]) ∧ w = w' := by
  have HI := Lib.hid (fun W => mdN hm W)
  clear hm
  go_enter Tryz.func57, Tryz.ntmps57
  go_wp2_with (go_at_call 88; refine (HI.out _).mono ?_; rintro e w1 ⟨rfl, rfl⟩)
  go_ret2
  exact ⟨rfl, rfl⟩

set_option maxRecDepth 100000 in
set_option maxHeartbeats 4000000 in
theorem refNearest_big (m : Int) (h : ByteArray) (A : Option Addr) (n c : Nat) (most : Int) (w : World) (hm : isMode m) (hn : n ≤ 1000) (hb : 64 < h.size ∨ 400 < n) :
    Calls Tryz.prog 57 #[.int .i64 m, .string h, .slice A n c, .int .i64 most] w fun e w' => e = .returned (.tuple #[.slice none 0 0, .int .i64 2]) ∧ w = w' := by
  have HI := Lib.hid (fun W => mdY hm W)
  clear hm
  by_cases h1 : 64 < h.size
  · have d1 : decide ((h.size : Int) > 64) = true := by simp; omega
    have d1' : decide (64 < (h.size : Int)) = true := by simp; omega
    clear hb
    go_enter Tryz.func57, Tryz.ntmps57
    go_wp2_with (go_at_call 88; refine (HI.out _).mono ?_; rintro e w1 ⟨rfl, rfl⟩)
    go_loop [10, 11] (fun v10 v11 => ∃ k : Nat, k ≤ n ∧ v11 = .int .i64 k ∧ v10 = .bool true) (fun _ v11 => n - (intOf v11).toNat)
    case atStart => exact ⟨0, by omega, rfl, rfl⟩
    case round =>
      obtain ⟨k, hk, rfl, rfl⟩ := hrel
      by_cases hlt : k < n
      · have f1 : decide ((k : Int) < (n : Int)) = true := by simp; omega
        have q1 : IntKind.i64.wrap ((k : Int) + 1) = (k : Int) + 1 := IntWalk.i64_in _ (by omega)
        go_wp2
        go_round
        case rel => exact ⟨k + 1, by omega, by go_num, rfl⟩
        case measure => simp [intOf] <;> omega
      · obtain rfl : k = n := by omega
        have f1 : decide ((k : Int) < (k : Int)) = false := by simp
        go_wp2
        go_ret2
        exact ⟨rfl, rfl⟩
  · have d1 : decide ((h.size : Int) > 64) = false := by simp; omega
    have d1' : decide (64 < (h.size : Int)) = false := by simp; omega
    have d2 : decide ((n : Int) > 400) = true := by simp; omega
    have d2' : decide (400 < (n : Int)) = true := by simp; omega
    clear hb
    go_enter Tryz.func57, Tryz.ntmps57
    go_wp2_with (go_at_call 88; refine (HI.out _).mono ?_; rintro e w1 ⟨rfl, rfl⟩)
    go_loop [10, 11] (fun v10 v11 => ∃ k : Nat, k ≤ n ∧ v11 = .int .i64 k ∧ v10 = .bool true) (fun _ v11 => n - (intOf v11).toNat)
    case atStart => exact ⟨0, by omega, rfl, rfl⟩
    case round =>
      obtain ⟨k, hk, rfl, rfl⟩ := hrel
      by_cases hlt : k < n
      · have f1 : decide ((k : Int) < (n : Int)) = true := by simp; omega
        have q1 : IntKind.i64.wrap ((k : Int) + 1) = (k : Int) + 1 := IntWalk.i64_in _ (by omega)
        go_wp2
        go_round
        case rel => exact ⟨k + 1, by omega, by go_num, rfl⟩
        case measure => simp [intOf] <;> omega
      · obtain rfl : k = n := by omega
        have f1 : decide ((k : Int) < (k : Int)) = false := by simp
        go_wp2
        go_ret2
        exact ⟨rfl, rfl⟩

set_option maxRecDepth 100000 in
set_option maxHeartbeats 4000000 in
theorem refNearest_long (m : Int) (h : ByteArray) (L : List ByteArray) (g0 o c : Nat) (most : Int) (w : World) (hm : isMode m) (hh : h.size ≤ 64) (hn : L.length ≤ 400) (hg : g0 < w.heap.size) (hS : ∀ k, k < L.length → w.cell? ⟨g0, o + k, none⟩ = some (.string (L.getD k ByteArray.empty))) (ha : L.any lg = true) :
    Calls Tryz.prog 57 #[.int .i64 m, .string h, .slice (some ⟨g0, o, none⟩) L.length c, .int .i64 most] w fun e w' => e = .returned (.tuple #[.slice none 0 0, .int .i64 2]) ∧ w = w' := by
  have HI := Lib.hid (fun W => mdY hm W)
  have HS := Lib.hid hS
  have d1 : decide ((h.size : Int) > 64) = false := by simp; omega
  have d1' : decide (64 < (h.size : Int)) = false := by simp; omega
  have d2 : decide ((L.length : Int) > 400) = false := by simp; omega
  have d2' : decide (400 < (L.length : Int)) = false := by simp; omega
  have n1 : ¬ 64 < h.size := by omega
  have n2 : ¬ 400 < L.length := by omega
  clear hm hS
  go_enter Tryz.func57, Tryz.ntmps57
  go_wp2_with (go_at_call 88; refine (HI.out _).mono ?_; rintro e w1 ⟨rfl, rfl⟩)
  go_loop [10, 11] (fun v10 v11 => ∃ k : Nat, k ≤ L.length ∧ v11 = .int .i64 k ∧ v10 = .bool ((L.take k).any lg)) (fun _ v11 => L.length - (intOf v11).toNat)
  case atStart => exact ⟨0, by omega, rfl, rfl⟩
  case round =>
    obtain ⟨k, hk, rfl, rfl⟩ := hrel
    by_cases hlt : k < L.length
    · have f1 : decide ((k : Int) < (L.length : Int)) = true := by simp; omega
      have f2 : (k : Int) < (L.length : Int) := by omega
      have f3 : (0 : Int) ≤ (k : Int) := by omega
      have q1 : IntKind.i64.wrap ((k : Int) + 1) = (k : Int) + 1 := IntWalk.i64_in _ (by omega)
      have hs := HS.out k hlt
      have HNX := Lib.hid (any_snoc L k hlt)
      generalize L.getD k ByteArray.empty = s at hs HNX
      cases hb : (L.take k).any lg
      · rw [hb] at HNX
        obtain ⟨u, hu⟩ : ∃ u, u = lg s := ⟨_, rfl⟩
        have g1 : decide ((s.size : Int) > 64) = u := by rw [hu]; unfold lg; rw [Bool.eq_iff_iff, decide_eq_true_iff, decide_eq_true_iff]; omega
        have g2 : decide (64 < (s.size : Int)) = u := g1
        have g3 : decide (64 < s.size) = u := hu.symm
        have HN2 : Hid ((L.take (k + 1)).any lg = u) := Lib.hid (by rw [HNX.out, hu]; rfl)
        clear hb hu HNX
        go_wp2
        go_round
        case rel => exact ⟨k + 1, by omega, by go_num, by rw [HN2.out]⟩
        case measure => simp [intOf] <;> omega
      · rw [hb] at HNX
        have HN2 : Hid ((L.take (k + 1)).any lg = true) := Lib.hid (by rw [HNX.out]; rfl)
        clear hb HNX hs
        go_wp2
        go_round
        case rel => exact ⟨k + 1, by omega, by go_num, by rw [HN2.out]⟩
        case measure => simp [intOf] <;> omega
    · obtain rfl : k = L.length := by omega
      have f1 : decide ((L.length : Int) < (L.length : Int)) = false := by simp
      rw [List.take_of_length_le (Nat.le_refl _), ha]
      go_wp2
      go_ret2
      exact ⟨rfl, rfl⟩
end Go.Proofs.YtgcddjgkieambaaGreatDoor
end PartNearR

section PartNearS
/- The walk of the reference's 'Nearest' at texts that are all short. -/
set_option linter.unusedVariables false
set_option linter.unusedSimpArgs false
namespace Go.Proofs.YtgcddjgkieambaaGreatDoor
open Go.RowKit Go.Maps

theorem own_empty (W : World) (B : Nat) (hB : B ≤ W.heap.size) : (W.alloc (.cells #[] 3)).ownsRow B 3 1 (.slice (some ⟨W.heap.size, 0, none⟩) 0 0) 0 [] :=
  ⟨rfl, .inr ⟨W.heap.size, 0, #[], rfl, hB, heap_alloc_new W _, Nat.le_refl _, by decide, rfl, rfl⟩⟩
theorem own_base {W : World} {B B' n : Nat} {v : Value} {xs : List Value} (h : W.ownsRow B 3 1 v n xs) (hb : B' ≤ B) : W.ownsRow B' 3 1 v n xs := by
  obtain ⟨h1, h2⟩ := h
  refine ⟨h1, ?_⟩
  rcases h2 with h2 | ⟨g, cap, cur, a, b, c⟩
  · exact .inl h2
  · exact .inr ⟨g, cap, cur, a, Nat.le_trans hb b, c⟩
theorem own_cells {W : World} {B g n cap : Nat} {xs : List Value} (h : W.ownsRow B 3 1 (.slice (some ⟨g, 0, none⟩) n cap) n xs) (k : Nat) (hk : k < n) : W.cell? ⟨g, k, none⟩ = xs[k]? := h.cellAt k (by omega)
/-- A row of its own, read as numbers. -/
theorem own_nums {W : World} {B : Nat} {v : Value} {r : List Int} (h : W.ownsRow B 3 1 v r.length (r.map fun z => .int .i64 z)) : ∃ A c, v = .slice A r.length c ∧ Nums W A r := by
  by_cases h0 : r = []
  · subst h0
    rcases h.2 with ⟨e, _⟩ | ⟨g, cap, cur, e, _⟩
    · exact ⟨none, 0, e, fun j hj => by simp at hj⟩
    · exact ⟨_, _, e, fun j hj => by simp at hj⟩
  · have hp : 0 < r.length := List.length_pos_iff.2 h0
    obtain ⟨g, cap, e, _, hlt⟩ := h.form hp
    refine ⟨_, _, e, fun j hj => ⟨⟨g, 0, none⟩, rfl, hlt, ?_⟩⟩
    subst e
    have ea : (⟨g, 0, none⟩ : Addr).add j = ⟨g, j, none⟩ := by rw [Addr.add_lit, Nat.zero_add]
    rw [ea, own_cells h j hj, List.getElem?_map, List.getElem?_eq_getElem hj]
    simp [List.getD, List.getElem?_eq_getElem hj]
theorem own_num (W : World) (B : Nat) (z : Int) : ∀ j u, [Value.int .i64 z][j]? = some u → (W.alloc (.cells #[.int .i64 z] 3)).cell? ((⟨W.heap.size, 0, none⟩ : Addr).add j) = some u := by
  intro j u hj
  match j, hj with
  | 0, hj => simp at hj; subst hj; simp [Addr.add]
theorem one_num (z : Int) : ∀ u ∈ [Value.int .i64 z], u.oneCell' = true := fun u hu => by simp at hu; subst hu; rfl
/-- The costs of the first texts, as values. -/
def atL (cst : Nat → Int) (i : Nat) : List Value := (List.range i).map fun j => .int .i64 (cst j)
theorem atL_next (cst : Nat → Int) (i : Nat) : atL cst (i + 1) = atL cst i ++ [.int .i64 (cst i)] := by unfold atL; rw [List.range_succ, List.map_append]; rfl
theorem atL_get (cst : Nat → Int) (i j : Nat) (h : j < i) : (atL cst i)[j]? = some (.int .i64 (cst j)) := by unfold atL; simp [h]
/-- The two rows lie apart. -/
def Sep (v v' : Value) : Prop := ∀ g, v.ownBlock = some g → v'.ownBlock ≠ some g

set_option maxRecDepth 100000 in
set_option maxHeartbeats 8000000 in
theorem refNearest_go (m : Int) (h : ByteArray) (L : List ByteArray) (g0 o c : Nat) (most : Int) (w : World) (hm : isMode m) (hh : h.size ≤ 64) (hn : L.length ≤ 400) (hg : g0 < w.heap.size) (hS : ∀ k, k < L.length → w.cell? ⟨g0, o + k, none⟩ = some (.string (L.getD k ByteArray.empty)))
    (hsh : ∀ k, k < L.length → (L.getD k ByteArray.empty).size ≤ 64)
    (her : ∀ k, k < L.length → errOf m (L.getD k ByteArray.empty) h ≠ 0 → nrE m h L = errOf m (L.getD k ByteArray.empty) h)
    (hfin : (∀ k, k < L.length → errOf m (L.getD k ByteArray.empty) h = 0) → nrE m h L = errOf m ⟨#[]⟩ h) :
    Calls Tryz.prog 57 #[.int .i64 m, .string h, .slice (some ⟨g0, o, none⟩) L.length c, .int .i64 most] w (NearOut m h L most w) := by
  obtain ⟨i1, hj, hy0, hy1, hy2⟩ := info_parts info3
  have HI := Lib.hid (fun W => mdY hm W)
  have HS := Lib.hid hS
  have HSH := Lib.hid hsh
  have HER := Lib.hid her
  have HFIN := Lib.hid hfin
  have HT := Lib.hid (fun W => ref_texts m ⟨#[]⟩ h W)
  have d1 : decide ((h.size : Int) > 64) = false := by simp; omega
  have d1' : decide (64 < (h.size : Int)) = false := by simp; omega
  have d2 : decide ((L.length : Int) > 400) = false := by simp; omega
  have d2' : decide (400 < (L.length : Int)) = false := by simp; omega
  have n1 : ¬ 64 < h.size := by omega
  have n2 : ¬ 400 < L.length := by omega
  clear hm hS hsh her hfin
  go_enter Tryz.func57, Tryz.ntmps57
  go_wp2_with (go_at_call 88; refine (HI.out _).mono ?_; rintro e w1 ⟨rfl, rfl⟩)
  go_loop [10, 11] (fun v10 v11 => ∃ k : Nat, k ≤ L.length ∧ v11 = .int .i64 k ∧ v10 = .bool false) (fun _ v11 => L.length - (intOf v11).toNat)
  case atStart => exact ⟨0, by omega, rfl, rfl⟩
  case round =>
    obtain ⟨k, hk, rfl, rfl⟩ := hrel
    by_cases hlt : k < L.length
    · have f1 : decide ((k : Int) < (L.length : Int)) = true := by simp; omega
      have f2 : (k : Int) < (L.length : Int) := by omega
      have f3 : (0 : Int) ≤ (k : Int) := by omega
      have q1 : IntKind.i64.wrap ((k : Int) + 1) = (k : Int) + 1 := IntWalk.i64_in _ (by omega)
      have hs := HS.out k hlt
      have hz := HSH.out k hlt
      generalize L.getD k ByteArray.empty = s at hs hz
      have g1 : decide ((s.size : Int) > 64) = false := by simp; omega
      have g2 : decide (64 < (s.size : Int)) = false := by simp; omega
      go_wp2
      go_round
      case rel => exact ⟨k + 1, by omega, by go_num, rfl⟩
      case measure => simp [intOf] <;> omega
    · obtain rfl : k = L.length := by omega
      have f1 : decide ((L.length : Int) < (L.length : Int)) = false := by simp
      go_wp2
      clear f1
      go_loopw [12, 13, 14] (fun v12 v13 v14 wx => ∃ (i : Nat) (r : List Int), i ≤ L.length ∧ v14 = .int .i64 i ∧ Near (nkey m h L) most i r ∧ (r = [] → v12 = .slice none 0 0) ∧ wx.ownsRow w.heap.size 3 1 v12 r.length (r.map fun z => .int .i64 z) ∧
        wx.ownsRow w.heap.size 3 1 v13 i (atL (cstN m h L) i) ∧ Sep v12 v13 ∧ Below w.heap.size w wx ∧ (∀ k, k < i → errOf m (L.getD k ByteArray.empty) h = 0)) (fun _ _ v14 _ => L.length - (intOf v14).toNat)
      case atStart => exact ⟨0, [], by omega, rfl, Near.zero _ _, fun _ => rfl, World.ownsRow_nil _ _ _ _, World.ownsRow_nil _ _ _ _, fun g e => by simp [Value.ownBlock] at e, Below.refl _ _, fun k hk => by omega⟩
      case round =>
        obtain ⟨i, r, hi, rfl, hNe, hnil, ho, ha, hsep, hb, hek⟩ := hrel
        have HNE := Lib.hid hNe
        have HNIL := Lib.hid hnil
        have HO := Lib.hid ho
        have HAT := Lib.hid ha
        have HSEP := Lib.hid hsep
        have HB := Lib.hid hb
        have HEK := Lib.hid hek
        have hbs := hb.size
        clear hnil ho ha hsep hek hNe
        by_cases hlt : i < L.length
        · have f1 : decide ((i : Int) < (L.length : Int)) = true := by simp; omega
          have f2 : (i : Int) < (L.length : Int) := by omega
          have f3 : (0 : Int) ≤ (i : Int) := by omega
          have q1 : IntKind.i64.wrap ((i : Int) + 1) = (i : Int) + 1 := IntWalk.i64_in _ (by omega)
          have hs := (hb.cell (p := ⟨g0, o + i, none⟩) hg).trans (HS.out i hlt)
          have HC := Lib.hid (fun W => refCost_any m (L.getD i ByteArray.empty) h W)
          have hbd := costOf_bd m (L.getD i ByteArray.empty) h
          have hE1 := HER.out i hlt
          have HKEY := Lib.hid (nkey_at m h L i hlt)
          obtain ⟨z, hz⟩ : ∃ z, z = cstN m h L i := ⟨_, rfl⟩
          have hz' : costOf m (L.getD i ByteArray.empty) h = z := hz.symm
          rw [hz'] at HC hbd
          rw [← hz] at HKEY
          have HZ := Lib.hid hz
          obtain ⟨er, her⟩ : ∃ er, er = errOf m (L.getD i ByteArray.empty) h := ⟨_, rfl⟩
          rw [← her] at HC hE1
          have HERI := Lib.hid her
          generalize L.getD i ByteArray.empty = s at hs HC
          clear hz hz' her hb
          by_cases he : er = 0
          · subst he
            go_wp2_with (first
              | (go_at_call 22; refine (HC.out _).mono ?_; rintro e w5 ⟨rfl, hb5⟩; have hs5 := hb5.size; have HAT5 := Lib.hid ((own_later HAT.out hb5).alloc (.cells #[.int .i64 z] 3)))
              | (at_builtin; refine wpList_append_lies _ rfl _ _ 38 rfl w.heap.size 3 i1 (.int .i64 0) 1 8 Tryz.underlying38 hj hy0 hy1 hy2 rfl (by decide) _ _ _ rfl HAT5.out ⟨w5.heap.size, 0, none⟩ 1 1 [.int .i64 z] rfl rfl (own_num _ 0 z) (one_num z) (by omega) (by unfold maxLen; omega) (by omega) (by simp; omega) _ rfl ?_))
            · intro g1 cap1 w6 hat6 hg6 hsep6 hlt6
              have hW5 : (w5.alloc (Obj.cells #[Value.int IntKind.i64 z] 3)).heap.size = w5.heap.size + 1 := by simp
              have hB6 : Below w.heap.size w w6 := ((HB.out.trans (hb5.mono HB.out.size)).alloc (by omega) _).grown hg6 (by omega) (fun k hk => ((own_later HAT.out hb5).lt k hk).1)
              have hO6 : w6.ownsRow w.heap.size 3 1 u12 r.length (r.map fun z => .int .i64 z) := ((own_later HO.out hb5).alloc _).kept hg6 (by
                cases hv : u12.ownBlock with
                | none => exact .inl rfl
                | some g => exact .inr fun e => HSEP.out g hv e.symm)
              have hS6 : ∀ g, u12.ownBlock = some g → g ≠ g1 := fun g hv e => by
                subst e
                rcases hsep6 with h1 | h1
                · exact HSEP.out g hv h1
                · have := (HO.out.lt g hv).2; omega
              have hat7 : w6.ownsRow w.heap.size 3 1 (.slice (some ⟨g1, 0, none⟩) (i + 1) cap1) (i + 1) (atL (cstN m h L) (i + 1)) := by
                rw [atL_next, ← HZ.out]; exact hat6
              have hek2 : ∀ k, k < i + 1 → errOf m (L.getD k ByteArray.empty) h = 0 := fun k hk => by
                by_cases e : k = i
                · subst e; exact HERI.out.symm
                · exact HEK.out k (by omega)
              have HB6 := Lib.hid hB6
              have HO6 := Lib.hid hO6
              have HS6 := Lib.hid hS6
              have HA6 := Lib.hid hat7
              have HEK2 := Lib.hid hek2
              have hs6 := hB6.size
              clear hat6 hg6 hsep6 hB6 hO6 hS6 hat7 hek2 hb5 hE1 HAT5
              by_cases hmo : z ≤ most
              · have g1' : decide (z > most) = false := by simp; omega
                have g1'' : decide (most < z) = false := by simp; omega
                have hk0 : nkey m h L (i : Int) ≤ most := by rw [HKEY.out]; exact hmo
                have HK0 := Lib.hid hk0
                clear hmo hk0
                cases r with
                | nil =>
                  obtain rfl := HNIL.out rfl
                  go_wp2
                  refine wp_loop_rounds 1 ?_
                  rw [rounds_succ]
                  go_wp2_with (first
                    | (at_builtin; refine wpList_append_lies _ rfl _ _ 38 rfl w.heap.size 3 i1 (.int .i64 0) 1 8 Tryz.underlying38 hj hy0 hy1 hy2 rfl (by decide) _ 0 [] rfl ((own_empty w6 w.heap.size hs6).alloc _) ⟨w6.heap.size + 1, 0, none⟩ 1 1 [.int .i64 (i : Int)] rfl rfl ?n1 (one_num _) (by omega) (by unfold maxLen; omega) (by omega) (by simp; omega) _ rfl ?_))
                  case n1 =>
                    intro j u hj
                    match j, hj with
                    | 0, hj =>
                      simp at hj; subst hj
                      have := own_num (w6.alloc (.cells #[] 3)) 0 (i : Int) 0 _ rfl
                      simpa using this
                  · intro g2 cap2 w7 ho7 hg7 hsep7 hlt7
                    have hg2 : w6.heap.size ≤ g2 := by
                      rcases hsep7 with h1 | h1
                      · have h1' : some w6.heap.size = some g2 := h1
                        injection h1' with h1'
                        omega
                      · rw [h1]; first | omega | (simp only [World.alloc, Array.size_push]; omega)
                    have HA7 := Lib.hid (((HA6.out.alloc (.cells #[] 3)).alloc (.cells #[.int .i64 (i : Int)] 3)).kept hg7 (.inr (by simp [Value.ownBlock]; omega)))
                    have HB7 := Lib.hid (((HB6.out.alloc hs6 (.cells #[] 3)).alloc (by simp; omega) (.cells #[.int .i64 (i : Int)] 3)).grown hg7 (by simp; omega) (fun k hk => by simp [Value.ownBlock] at hk; omega))
                    have HO7 := Lib.hid ho7
                    have HN2 := Lib.hid (HNE.out.put (p := 0) HK0.out (by simp) (.inl rfl) (.inl rfl))
                    clear ho7 hg7 hsep7
                    go_wp2_with (first | (at_builtin; refine wpList_append_own_none rfl _ _ 38 rfl w.heap.size 3 i1 1 Tryz.underlying38 hj _ 1 _ rfl HO7.out rfl ?_))
                    go_wp2
                    go_roundw
                    case rel => exact ⟨i + 1, [(i : Int)], by omega, by go_num, HN2.out, fun e => by simp at e, HO7.out, HA7.out, fun g hv => by
                      simp [Value.ownBlock] at hv ⊢
                      omega, HB7.out, HEK2.out⟩
                    case measure => simp [intOf] <;> omega
                | cons r0 rl =>
                  obtain ⟨r, hr⟩ : ∃ r, r = r0 :: rl := ⟨_, rfl⟩
                  rw [← hr] at HNE HO HO6
                  have hrp : 0 < r.length := by rw [hr]; simp
                  clear hr HNIL
                  obtain ⟨g12, cap12, rfl, _, _⟩ := HO6.out.form hrp
                  have hij : r.length ≤ i := HNE.out.length
                  go_wp2
                  go_loop [17] (fun v17 => ∃ k : Nat, k ≤ r.length ∧ v17 = .int .i64 k ∧ (k = r.length ∨ z < nkey m h L (r.getD k 0))) (fun v17 => (intOf v17).toNat)
                  case atStart => exact ⟨r.length, Nat.le_refl _, rfl, .inl rfl⟩
                  case round =>
                    obtain ⟨k, hkl, rfl, hk2⟩ := hrel
                    by_cases hk0 : 0 < k
                    · have f4 : decide ((k : Int) > 0) = true := by simp; omega
                      have f4' : decide ((0 : Int) < (k : Int)) = true := by simp; omega
                      obtain ⟨p, hp⟩ : ∃ p, p = k - 1 := ⟨_, rfl⟩
                      have ep : (k : Int) - 1 = (p : Int) := by omega
                      have qp : IntKind.i64.wrap (p : Int) = (p : Int) := IntWalk.i64_in _ (by omega)
                      have gp : (p : Int) < (r.length : Int) := by omega
                      have gp0 : (0 : Int) ≤ (p : Int) := by omega
                      have hpl : p < r.length := by omega
                      have hmr := HNE.out.mem (List.getElem_mem hpl)
                      obtain ⟨j, hjx⟩ := Int.eq_ofNat_of_zero_le hmr.1
                      have hji : j < i := by have := hmr.2.1; rw [hjx] at this; omega
                      have co : w6.cell? ⟨g12, p, none⟩ = some (.int .i64 (j : Int)) := (own_cells HO6.out p hpl).trans (by rw [List.getElem?_map, List.getElem?_eq_getElem hpl, hjx]; rfl)
                      have ca : w6.cell? ⟨g1, j, none⟩ = some (.int .i64 (cstN m h L j)) := (own_cells HA6.out j (by omega)).trans (atL_get _ _ _ (by omega))
                      have hgd : r.getD p 0 = (j : Int) := by rw [← hjx]; simp [List.getD, List.getElem?_eq_getElem hpl]
                      have hkx : nkey m h L (r.getD p 0) = cstN m h L j := by rw [hgd]; exact nkey_at m h L j (by omega)
                      have gj : (j : Int) < (i : Int) + 1 := by omega
                      have gj0 : (0 : Int) ≤ (j : Int) := by omega
                      obtain ⟨y, hy⟩ : ∃ y, y = cstN m h L j := ⟨_, rfl⟩
                      rw [← hy] at ca hkx
                      by_cases hyz : z < y
                      · have g5 : decide (y > z) = true := by simpa using hyz
                        have g5' : decide (z < y) = true := by simpa using hyz
                        have HKX := Lib.hid (show z < nkey m h L (r.getD p 0) by rw [hkx]; exact hyz)
                        have hpk : p ≤ r.length ∧ p < k := by omega
                        clear hk2 hp hmr hjx hgd hkx hy hyz hpl
                        go_wp2
                        go_round
                        case rel => exact ⟨p, hpk.1, rfl, .inr HKX.out⟩
                        case measure => simp [intOf] <;> omega
                      · have g5 : decide (y > z) = false := by simp; omega
                        have g5' : decide (z < y) = false := by simp; omega
                        have hk1 : k = 0 ∨ nkey m h L (r.getD (k - 1) 0) ≤ z := .inr (by rw [← hp, hkx]; omega)
                        clear hp hmr hjx hgd hkx hy hyz hpl
                        have ho6 := HO6.out
                        have HCUT := Lib.hid (HNE.out.put (p := k) HK0.out hkl (by
                          rcases hk1 with e | e
                          · exact .inl e
                          · exact .inr (by rw [HKEY.out]; exact e)) (by
                          rcases hk2 with e | e
                          · exact .inl e
                          · exact .inr (by rw [HKEY.out]; exact e)))
                        have c12 : r.length ≤ cap12 := (own_rowK HO6.out rfl).2.2
                        have k1' : (k : Int) ≤ (cap12 : Int) := by omega
                        have k2' : (0 : Int) ≤ (k : Int) := by omega
                        have k3' : (k : Int) ≤ (r.length : Int) := by omega
                        have kn1 : k ≤ cap12 := by omega
                        have hNL := HNE.out.length
                        have HCELL := Lib.hid (fun j (hj : j < r.length) => (own_cells HO6.out j hj).trans (by rw [List.getElem?_map, List.getElem?_eq_getElem hj]; rfl : _ = some (.int .i64 (r[j]'hj))))
                        have hg12 : g12 < w6.heap.size := (HO6.out.lt g12 rfl).2
                        have hg1 : g1 < w6.heap.size := (HA6.out.lt g1 rfl).2
                        clear hk1 hk2 ho6
                        go_wp2_with (first
                          | (at_builtin; refine wpList_append_own _ rfl _ _ 38 rfl w6.heap.size 3 i1 (.int .i64 0) 1 8 Tryz.underlying38 hj hy0 hy1 hy2 rfl (by decide) _ 0 [] rfl (own_empty w6 w6.heap.size (Nat.le_refl _)) ⟨g12, 0, none⟩ k cap12 ((r.map fun z => Value.int .i64 z).take k) rfl (by simp; omega) ?n1 ?n2 (by unfold maxLen; omega) (by omega) (by simp) ?_))
                        case n1 =>
                          intro j u hj
                          have hj' : j < k := by have := (List.getElem?_eq_some_iff.1 hj).1; simp at this; omega
                          rw [List.getElem?_take, if_pos hj', List.getElem?_map, List.getElem?_eq_getElem (by omega)] at hj
                          simp only [Option.map_some, Option.some.injEq] at hj
                          rw [← hj]
                          first
                          | exact HCELL.out j (by omega)
                          | (rw [Addr.add_lit, Nat.zero_add]; exact (World.cell?_alloc_some w6 _ _ (by rw [HCELL.out j (by omega)]; rfl)).trans (HCELL.out j (by omega)))
                          | (simp [Addr.add_lit]; exact HCELL.out j (by omega))
                        case n2 => intro u hu; obtain ⟨z, _, rfl⟩ := List.mem_map.1 (List.mem_of_mem_take hu); rfl
                        · intro v7 w7 ho7 hg7 _
                          have hw7 : w6.heap.size < w7.heap.size := by have := hg7.size; simp only [World.alloc, Array.size_push] at this; omega
                          have HB7 := Lib.hid ((HB6.out.alloc hs6 (.cells #[] 3)).grown hg7 (by simp only [World.alloc, Array.size_push]; omega) (fun k hk => by simp [Value.ownBlock] at hk; omega))
                          have HO7 := Lib.hid ((HO6.out.alloc (.cells #[] 3)).kept hg7 (.inr (by simp [Value.ownBlock]; omega)))
                          have HA7 := Lib.hid ((HA6.out.alloc (.cells #[] 3)).kept hg7 (.inr (by simp [Value.ownBlock]; omega)))
                          have HN7 := Lib.hid ho7
                          have HL7 := Lib.hid ho7.lt
                          clear ho7 hg7
                          go_wp2_with (first
                            | (at_builtin; refine wpList_append_own _ rfl _ _ 38 rfl w6.heap.size 3 i1 (.int .i64 0) 1 8 Tryz.underlying38 hj hy0 hy1 hy2 rfl (by decide) _ _ _ rfl (HN7.out.alloc _) ⟨w7.heap.size, 0, none⟩ 1 1 [.int .i64 (i : Int)] rfl rfl (own_num _ 0 i) (one_num _) (by unfold maxLen; omega) (by omega) (by simp only [World.alloc, Array.size_push]; omega) ?_))
                          · intro v8 w8 ho8 hg8 _
                            have hw8 : w7.heap.size < w8.heap.size := by have := hg8.size; simp only [World.alloc, Array.size_push] at this; omega
                            have HB8 := Lib.hid ((HB7.out.alloc (by omega) (.cells #[.int .i64 (i : Int)] 3)).grown hg8 (by simp only [World.alloc, Array.size_push]; omega) (fun k hk => by have := HL7.out k hk; omega))
                            have HO8 := Lib.hid ((HO7.out.alloc (.cells #[.int .i64 (i : Int)] 3)).kept hg8 (.inr fun e => by have := HL7.out g12 e.symm; omega))
                            have HA8 := Lib.hid ((HA7.out.alloc (.cells #[.int .i64 (i : Int)] 3)).kept hg8 (.inr fun e => by have := HL7.out g1 e.symm; omega))
                            have HN8 := Lib.hid ho8
                            have HL8 := Lib.hid ho8.lt
                            clear ho8 hg8
                            have hlen : (r.take k ++ (i : Int) :: r.drop k).length = k + 1 + (r.length - k) := by simp; omega
                            have hmap : (r.take k ++ (i : Int) :: r.drop k).map (fun z => Value.int .i64 z) = (r.map fun z => Value.int .i64 z).take k ++ .int .i64 (i : Int) :: (r.map fun z => Value.int .i64 z).drop k := by simp
                            by_cases hkc : cap12 = k
                            · have hkc2 : r.length = k := by omega
                              have hdr : (r.map fun z => Value.int .i64 z).drop k = [] := by rw [List.drop_eq_nil_iff]; simp; omega
                              have hlen1 : k + 1 + (r.length - k) = k + 1 + 0 := by omega
                              go_wp2_with (first
                                | (at_builtin; refine wpList_append_own _ rfl _ _ 38 rfl w6.heap.size 3 i1 (.int .i64 0) 1 8 Tryz.underlying38 hj hy0 hy1 hy2 rfl (by decide) _ _ _ rfl HN8.out ⟨g12, 0, none⟩ 0 0 [] rfl rfl (fun j u hj => by simp at hj) (fun u hu => by simp at hu) (by unfold maxLen; omega) (by omega) (by omega) ?_))
                              · intro v9 w9 ho9 hg9 _
                                have HB9 := Lib.hid (HB8.out.grown hg9 (by omega) (fun k hk => by have := HL8.out k hk; omega))
                                have HA9 := Lib.hid (HA8.out.kept hg9 (.inr fun e => by have := HL8.out g1 e.symm; omega))
                                have HL9 := Lib.hid ho9.lt
                                have HN9 := Lib.hid (own_base ho9 hs6)
                                clear ho9 hg9
                                go_wp2
                                go_roundw
                                case rel => exact ⟨i + 1, r.take k ++ (i : Int) :: r.drop k, by omega, by go_num, HCUT.out, fun e => by simp at e, by rw [hlen, hmap, hdr, hlen1]; exact HN9.out, HA9.out, fun g hv e => by
                                  have := HL9.out g hv
                                  have e' : some g1 = some g := e
                                  injection e' with e'
                                  omega, HB9.out, HEK2.out⟩
                                case measure => simp [intOf] <;> omega
                            · have hkc2 : ¬ k = cap12 := fun e => hkc e.symm
                              go_wp2_with (first
                                | (at_builtin; refine wpList_append_own _ rfl _ _ 38 rfl w6.heap.size 3 i1 (.int .i64 0) 1 8 Tryz.underlying38 hj hy0 hy1 hy2 rfl (by decide) _ _ _ rfl HN8.out _ (r.length - k) (cap12 - k) ((r.map fun z => Value.int .i64 z).drop k) rfl (by simp) ?s2 ?s3 (by unfold maxLen; omega) (by omega) (by omega) ?_))
                              case s2 =>
                                intro j u hj
                                have hj' : k + j < r.length := by have := (List.getElem?_eq_some_iff.1 hj).1; simp at this; omega
                                rw [List.getElem?_drop, List.getElem?_map, List.getElem?_eq_getElem hj'] at hj
                                simp only [Option.map_some, Option.some.injEq] at hj
                                rw [← hj, Addr.add_lit]
                                exact (own_cells HO8.out (k + j) hj').trans (by rw [List.getElem?_map, List.getElem?_eq_getElem hj']; rfl)
                              case s3 => intro u hu; obtain ⟨z, _, rfl⟩ := List.mem_map.1 (List.mem_of_mem_drop hu); rfl
                              · intro v9 w9 ho9 hg9 _
                                have HB9 := Lib.hid (HB8.out.grown hg9 (by omega) (fun k hk => by have := HL8.out k hk; omega))
                                have HA9 := Lib.hid (HA8.out.kept hg9 (.inr fun e => by have := HL8.out g1 e.symm; omega))
                                have HL9 := Lib.hid ho9.lt
                                have HN9 := Lib.hid (own_base ho9 hs6)
                                clear ho9 hg9
                                go_wp2
                                go_roundw
                                case rel => exact ⟨i + 1, r.take k ++ (i : Int) :: r.drop k, by omega, by go_num, HCUT.out, fun e => by simp at e, by rw [hlen, hmap]; exact HN9.out, HA9.out, fun g hv e => by
                                  have := HL9.out g hv
                                  have e' : some g1 = some g := e
                                  injection e' with e'
                                  omega, HB9.out, HEK2.out⟩
                                case measure => simp [intOf] <;> omega
                    · have f4 : decide ((k : Int) > 0) = false := by simp; omega
                      have f4' : decide ((0 : Int) < (k : Int)) = false := by simp; omega
                      have hk1 : k = 0 ∨ nkey m h L (r.getD (k - 1) 0) ≤ z := .inl (by omega)
                      have ho6 := HO6.out
                      have HCUT := Lib.hid (HNE.out.put (p := k) HK0.out hkl (by
                        rcases hk1 with e | e
                        · exact .inl e
                        · exact .inr (by rw [HKEY.out]; exact e)) (by
                        rcases hk2 with e | e
                        · exact .inl e
                        · exact .inr (by rw [HKEY.out]; exact e)))
                      have c12 : r.length ≤ cap12 := (own_rowK HO6.out rfl).2.2
                      have k1' : (k : Int) ≤ (cap12 : Int) := by omega
                      have k2' : (0 : Int) ≤ (k : Int) := by omega
                      have k3' : (k : Int) ≤ (r.length : Int) := by omega
                      have kn1 : k ≤ cap12 := by omega
                      have hNL := HNE.out.length
                      have HCELL := Lib.hid (fun j (hj : j < r.length) => (own_cells HO6.out j hj).trans (by rw [List.getElem?_map, List.getElem?_eq_getElem hj]; rfl : _ = some (.int .i64 (r[j]'hj))))
                      have hg12 : g12 < w6.heap.size := (HO6.out.lt g12 rfl).2
                      have hg1 : g1 < w6.heap.size := (HA6.out.lt g1 rfl).2
                      clear hk1 hk2 ho6
                      go_wp2_with (first
                        | (at_builtin; refine wpList_append_own _ rfl _ _ 38 rfl w6.heap.size 3 i1 (.int .i64 0) 1 8 Tryz.underlying38 hj hy0 hy1 hy2 rfl (by decide) _ 0 [] rfl (own_empty w6 w6.heap.size (Nat.le_refl _)) ⟨g12, 0, none⟩ k cap12 ((r.map fun z => Value.int .i64 z).take k) rfl (by simp; omega) ?n1 ?n2 (by unfold maxLen; omega) (by omega) (by simp) ?_))
                      case n1 =>
                        intro j u hj
                        have hj' : j < k := by have := (List.getElem?_eq_some_iff.1 hj).1; simp at this; omega
                        rw [List.getElem?_take, if_pos hj', List.getElem?_map, List.getElem?_eq_getElem (by omega)] at hj
                        simp only [Option.map_some, Option.some.injEq] at hj
                        rw [← hj]
                        first
                        | exact HCELL.out j (by omega)
                        | (rw [Addr.add_lit, Nat.zero_add]; exact (World.cell?_alloc_some w6 _ _ (by rw [HCELL.out j (by omega)]; rfl)).trans (HCELL.out j (by omega)))
                        | (simp [Addr.add_lit]; exact HCELL.out j (by omega))
                      case n2 => intro u hu; obtain ⟨z, _, rfl⟩ := List.mem_map.1 (List.mem_of_mem_take hu); rfl
                      · intro v7 w7 ho7 hg7 _
                        have hw7 : w6.heap.size < w7.heap.size := by have := hg7.size; simp only [World.alloc, Array.size_push] at this; omega
                        have HB7 := Lib.hid ((HB6.out.alloc hs6 (.cells #[] 3)).grown hg7 (by simp only [World.alloc, Array.size_push]; omega) (fun k hk => by simp [Value.ownBlock] at hk; omega))
                        have HO7 := Lib.hid ((HO6.out.alloc (.cells #[] 3)).kept hg7 (.inr (by simp [Value.ownBlock]; omega)))
                        have HA7 := Lib.hid ((HA6.out.alloc (.cells #[] 3)).kept hg7 (.inr (by simp [Value.ownBlock]; omega)))
                        have HN7 := Lib.hid ho7
                        have HL7 := Lib.hid ho7.lt
                        clear ho7 hg7
                        go_wp2_with (first
                          | (at_builtin; refine wpList_append_own _ rfl _ _ 38 rfl w6.heap.size 3 i1 (.int .i64 0) 1 8 Tryz.underlying38 hj hy0 hy1 hy2 rfl (by decide) _ _ _ rfl (HN7.out.alloc _) ⟨w7.heap.size, 0, none⟩ 1 1 [.int .i64 (i : Int)] rfl rfl (own_num _ 0 i) (one_num _) (by unfold maxLen; omega) (by omega) (by simp only [World.alloc, Array.size_push]; omega) ?_))
                        · intro v8 w8 ho8 hg8 _
                          have hw8 : w7.heap.size < w8.heap.size := by have := hg8.size; simp only [World.alloc, Array.size_push] at this; omega
                          have HB8 := Lib.hid ((HB7.out.alloc (by omega) (.cells #[.int .i64 (i : Int)] 3)).grown hg8 (by simp only [World.alloc, Array.size_push]; omega) (fun k hk => by have := HL7.out k hk; omega))
                          have HO8 := Lib.hid ((HO7.out.alloc (.cells #[.int .i64 (i : Int)] 3)).kept hg8 (.inr fun e => by have := HL7.out g12 e.symm; omega))
                          have HA8 := Lib.hid ((HA7.out.alloc (.cells #[.int .i64 (i : Int)] 3)).kept hg8 (.inr fun e => by have := HL7.out g1 e.symm; omega))
                          have HN8 := Lib.hid ho8
                          have HL8 := Lib.hid ho8.lt
                          clear ho8 hg8
                          have hlen : (r.take k ++ (i : Int) :: r.drop k).length = k + 1 + (r.length - k) := by simp; omega
                          have hmap : (r.take k ++ (i : Int) :: r.drop k).map (fun z => Value.int .i64 z) = (r.map fun z => Value.int .i64 z).take k ++ .int .i64 (i : Int) :: (r.map fun z => Value.int .i64 z).drop k := by simp
                          by_cases hkc : cap12 = k
                          · have hkc2 : r.length = k := by omega
                            have hdr : (r.map fun z => Value.int .i64 z).drop k = [] := by rw [List.drop_eq_nil_iff]; simp; omega
                            have hlen1 : k + 1 + (r.length - k) = k + 1 + 0 := by omega
                            go_wp2_with (first
                              | (at_builtin; refine wpList_append_own _ rfl _ _ 38 rfl w6.heap.size 3 i1 (.int .i64 0) 1 8 Tryz.underlying38 hj hy0 hy1 hy2 rfl (by decide) _ _ _ rfl HN8.out ⟨g12, 0, none⟩ 0 0 [] rfl rfl (fun j u hj => by simp at hj) (fun u hu => by simp at hu) (by unfold maxLen; omega) (by omega) (by omega) ?_))
                            · intro v9 w9 ho9 hg9 _
                              have HB9 := Lib.hid (HB8.out.grown hg9 (by omega) (fun k hk => by have := HL8.out k hk; omega))
                              have HA9 := Lib.hid (HA8.out.kept hg9 (.inr fun e => by have := HL8.out g1 e.symm; omega))
                              have HL9 := Lib.hid ho9.lt
                              have HN9 := Lib.hid (own_base ho9 hs6)
                              clear ho9 hg9
                              go_wp2
                              go_roundw
                              case rel => exact ⟨i + 1, r.take k ++ (i : Int) :: r.drop k, by omega, by go_num, HCUT.out, fun e => by simp at e, by rw [hlen, hmap, hdr, hlen1]; exact HN9.out, HA9.out, fun g hv e => by
                                have := HL9.out g hv
                                have e' : some g1 = some g := e
                                injection e' with e'
                                omega, HB9.out, HEK2.out⟩
                              case measure => simp [intOf] <;> omega
                          · have hkc2 : ¬ k = cap12 := fun e => hkc e.symm
                            go_wp2_with (first
                              | (at_builtin; refine wpList_append_own _ rfl _ _ 38 rfl w6.heap.size 3 i1 (.int .i64 0) 1 8 Tryz.underlying38 hj hy0 hy1 hy2 rfl (by decide) _ _ _ rfl HN8.out _ (r.length - k) (cap12 - k) ((r.map fun z => Value.int .i64 z).drop k) rfl (by simp) ?s2 ?s3 (by unfold maxLen; omega) (by omega) (by omega) ?_))
                            case s2 =>
                              intro j u hj
                              have hj' : k + j < r.length := by have := (List.getElem?_eq_some_iff.1 hj).1; simp at this; omega
                              rw [List.getElem?_drop, List.getElem?_map, List.getElem?_eq_getElem hj'] at hj
                              simp only [Option.map_some, Option.some.injEq] at hj
                              rw [← hj, Addr.add_lit]
                              exact (own_cells HO8.out (k + j) hj').trans (by rw [List.getElem?_map, List.getElem?_eq_getElem hj']; rfl)
                            case s3 => intro u hu; obtain ⟨z, _, rfl⟩ := List.mem_map.1 (List.mem_of_mem_drop hu); rfl
                            · intro v9 w9 ho9 hg9 _
                              have HB9 := Lib.hid (HB8.out.grown hg9 (by omega) (fun k hk => by have := HL8.out k hk; omega))
                              have HA9 := Lib.hid (HA8.out.kept hg9 (.inr fun e => by have := HL8.out g1 e.symm; omega))
                              have HL9 := Lib.hid ho9.lt
                              have HN9 := Lib.hid (own_base ho9 hs6)
                              clear ho9 hg9
                              go_wp2
                              go_roundw
                              case rel => exact ⟨i + 1, r.take k ++ (i : Int) :: r.drop k, by omega, by go_num, HCUT.out, fun e => by simp at e, by rw [hlen, hmap]; exact HN9.out, HA9.out, fun g hv e => by
                                have := HL9.out g hv
                                have e' : some g1 = some g := e
                                injection e' with e'
                                omega, HB9.out, HEK2.out⟩
                              case measure => simp [intOf] <;> omega
              · have g1' : decide (z > most) = true := by simp; omega
                have g1'' : decide (most < z) = true := by simp; omega
                have hk0 : ¬ nkey m h L (i : Int) ≤ most := by rw [HKEY.out]; exact hmo
                have HN2 := Lib.hid (HNE.out.skip hk0)
                clear hmo hk0
                go_wp2
                go_roundw
                case rel => exact ⟨i + 1, r, by omega, by go_num, HN2.out, HNIL.out, HO6.out, HA6.out, fun g hv => by
                  show some g1 ≠ some g
                  intro e
                  injection e with e
                  exact HS6.out g hv e.symm, HB6.out, HEK2.out⟩
                case measure => simp [intOf] <;> omega
          · have g0 : (er != 0) = true := by simpa using he
            have HE2 := Lib.hid (hE1 he)
            have HE0 := Lib.hid he
            clear hE1 he
            go_wp2_with (first | (go_at_call 22; refine (HC.out _).mono ?_; rintro e w5 ⟨rfl, hb5⟩))
            go_ret2
            exact ⟨.inr ⟨by rw [HE2.out]; exact HE0.out, by rw [HE2.out]; rfl⟩, HB.out.trans (hb5.mono HB.out.size)⟩
        · obtain rfl : i = L.length := by omega
          have f1 : decide ((L.length : Int) < (L.length : Int)) = false := by simp
          have hE := HFIN.out HEK.out
          rw [← hE] at HT
          obtain ⟨er, her⟩ : ∃ er, er = nrE m h L := ⟨_, rfl⟩
          have HER2 := Lib.hid her
          rw [← her] at HT
          clear her hE hb
          by_cases he : er = 0
          · subst he
            go_wp2_with (first | (go_at_call 70; refine (HT.out _).mono ?_; rintro e w5 ⟨rfl, hb5⟩))
            go_ret2
            obtain ⟨A, c', hv, hN⟩ := own_nums (own_later HO.out hb5)
            exact ⟨.inl ⟨HER2.out.symm, A, c', r, by rw [hv]; rfl, hN, HNE.out⟩, HB.out.trans (hb5.mono HB.out.size)⟩
          · have g0 : (er != 0) = true := by simpa using he
            have HE0 := Lib.hid he
            clear he
            go_wp2_with (first | (go_at_call 70; refine (HT.out _).mono ?_; rintro e w5 ⟨rfl, hb5⟩))
            go_ret2
            exact ⟨.inr ⟨by rw [← HER2.out]; exact HE0.out, by rw [← HER2.out]; rfl⟩, HB.out.trans (hb5.mono HB.out.size)⟩
end Go.Proofs.YtgcddjgkieambaaGreatDoor
end PartNearS

section PartNearT
/- CopyingNearest: the reference's 'Nearest' at any texts; the walk of the statement's function. -/
set_option linter.unusedVariables false
set_option linter.unusedSimpArgs false
namespace Go.Proofs.YtgcddjgkieambaaGreatDoor
open Go.RowKit Go.Maps

set_option maxRecDepth 100000 in
set_option maxHeartbeats 4000000 in
theorem refNearest_nil (m : Int) (h : ByteArray) (A : Option Addr) (c : Nat) (most : Int) (w : World) (hm : isMode m) (hh : h.size ≤ 64) :
    Calls Tryz.prog 57 #[.int .i64 m, .string h, .slice A 0 c, .int .i64 most] w fun e w' => e = .returned (.tuple #[.slice none 0 0, .int .i64 (errOf m ⟨#[]⟩ h)]) ∧ Below w.heap.size w w' := by
  have HI := Lib.hid (fun W => mdY hm W)
  have HT := Lib.hid (fun W => ref_texts m ⟨#[]⟩ h W)
  have d1 : decide ((h.size : Int) > 64) = false := by simp; omega
  have d1' : decide (64 < (h.size : Int)) = false := by simp; omega
  have n1 : ¬ 64 < h.size := by omega
  generalize errOf m ⟨#[]⟩ h = er at HT
  clear hm hh
  by_cases he : er = 0
  · subst he
    go_enter Tryz.func57, Tryz.ntmps57
    go_wp2_with (go_at_call 88; refine (HI.out _).mono ?_; rintro e w1 ⟨rfl, rfl⟩)
    refine wp_loop_rounds 1 ?_
    rw [rounds_succ]
    go_wp2
    refine wp_loop_rounds 1 ?_
    rw [rounds_succ]
    go_wp2_with (first | (go_at_call 70; refine (HT.out _).mono ?_; rintro e w5 ⟨rfl, hb5⟩))
    go_ret2
    exact ⟨rfl, hb5⟩
  · have g0 : (er != 0) = true := by simpa using he
    clear he
    go_enter Tryz.func57, Tryz.ntmps57
    go_wp2_with (go_at_call 88; refine (HI.out _).mono ?_; rintro e w1 ⟨rfl, rfl⟩)
    refine wp_loop_rounds 1 ?_
    rw [rounds_succ]
    go_wp2
    refine wp_loop_rounds 1 ?_
    rw [rounds_succ]
    go_wp2_with (first | (go_at_call 70; refine (HT.out _).mono ?_; rintro e w5 ⟨rfl, hb5⟩))
    go_ret2
    exact ⟨rfl, hb5⟩

theorem nrE_short {m : Int} {h : ByteArray} {L : List ByteArray} (hm : isMode m) (hb : ¬ (64 < h.size ∨ 400 < L.length ∨ L.any lg = true)) : nrE m h L = if okText h = true ∧ L.all okText = true then 0 else 41 := by
  unfold nrE
  rw [if_neg (fun e => e hm), if_neg hb]
theorem nrE_big {m : Int} {h : ByteArray} {L : List ByteArray} (hm : isMode m) (hb : 64 < h.size ∨ 400 < L.length ∨ L.any lg = true) : nrE m h L = 2 := by
  unfold nrE
  rw [if_neg (fun e => e hm), if_pos hb]
theorem errOf_short {m : Int} {s h : ByteArray} (hm : isMode m) (h1 : s.size ≤ 64) (h2 : h.size ≤ 64) : errOf m s h = if okText s = true ∧ okText h = true then 0 else 41 := by
  unfold errOf
  rw [if_neg (fun e => e hm), if_neg (by omega)]
theorem okText_nil : okText ⟨#[]⟩ = true := by decide

/-- What both programs return, in one form. -/
def NearOne (m : Int) (h : ByteArray) (L : List ByteArray) (most : Int) (w : World) (e : Ending) (w' : World) : Prop :=
  (∃ A' c' r, e = .returned (.tuple #[.slice A' r.length c', .int .i64 (nrE m h L)]) ∧ Nums w' A' r ∧ (nrE m h L = 0 → Near (nkey m h L) most L.length r) ∧ (nrE m h L ≠ 0 → r = [])) ∧ Below w.heap.size w w'
theorem nearOne_of {m : Int} {h : ByteArray} {L : List ByteArray} {most : Int} {w : World} {e : Ending} {w' : World} (H : NearOut m h L most w e w') : NearOne m h L most w e w' := by
  obtain ⟨H, hb⟩ := H
  refine ⟨?_, hb⟩
  rcases H with ⟨h0, A', c', r, he, hN, hr⟩ | ⟨h0, he⟩
  · exact ⟨A', c', r, by rw [h0]; exact he, hN, fun _ => hr, fun h1 => absurd h0 h1⟩
  · exact ⟨none, 0, [], he, fun j hj => by simp at hj, fun h1 => absurd h1 h0, fun _ => rfl⟩
theorem nearOne_eq {m : Int} {h : ByteArray} {L : List ByteArray} {most : Int} {r r' : List Int} (h1 : nrE m h L = 0 → Near (nkey m h L) most L.length r) (h2 : nrE m h L ≠ 0 → r = []) (h1' : nrE m h L = 0 → Near (nkey m h L) most L.length r') (h2' : nrE m h L ≠ 0 → r' = []) : r = r' := by
  by_cases h0 : nrE m h L = 0
  · exact (h1 h0).unique (h1' h0)
  · rw [h2 h0, h2' h0]

theorem nearOne_len {m : Int} {h : ByteArray} {L : List ByteArray} {most : Int} {r : List Int} (h1 : nrE m h L = 0 → Near (nkey m h L) most L.length r) (h2 : nrE m h L ≠ 0 → r = []) : r.length ≤ L.length := by
  by_cases h0 : nrE m h L = 0
  · exact (h1 h0).length
  · rw [h2 h0]; exact Nat.zero_le _

theorem refNearest_any (m : Int) (h : ByteArray) (L : List ByteArray) (most : Int) (A : Option Addr) (c : Nat) (w : World) (hS : StrsP w A L) (hn : L.length ≤ 1000) :
    Calls Tryz.prog 57 #[.int .i64 m, .string h, .slice A L.length c, .int .i64 most] w (NearOut m h L most w) := by
  by_cases hm : isMode m
  · by_cases hb : 64 < h.size ∨ 400 < L.length
    · have hE : nrE m h L = 2 := nrE_big hm (hb.elim .inl fun e => .inr (.inl e))
      refine (refNearest_big m h A L.length c most w hm hn hb).mono fun e w' ⟨he, hw⟩ => ⟨.inr ⟨by rw [hE]; decide, by rw [hE]; exact he⟩, hw ▸ Below.refl _ _⟩
    · by_cases h0 : 0 < L.length
      · obtain ⟨g0, o, rfl, hg, hc⟩ := hS.place h0
        by_cases hl : L.any lg = true
        · have hE : nrE m h L = 2 := nrE_big hm (.inr (.inr hl))
          refine (refNearest_long m h L g0 o c most w hm (by omega) (by omega) hg hc hl).mono fun e w' ⟨he, hw⟩ => ⟨.inr ⟨by rw [hE]; decide, by rw [hE]; exact he⟩, hw ▸ Below.refl _ _⟩
        · have hsh : ∀ k, k < L.length → (L.getD k ByteArray.empty).size ≤ 64 := fun k hk => by
            rcases Nat.lt_or_ge 64 (L.getD k ByteArray.empty).size with h1 | h1
            · exact absurd (List.any_eq_true.2 ⟨_, getD_mem hk, by simpa [lg] using h1⟩) hl
            · exact h1
          have hE : nrE m h L = if okText h = true ∧ L.all okText = true then 0 else 41 := nrE_short hm (fun e => by
            rcases e with e | e | e
            · exact hb (.inl e)
            · exact hb (.inr e)
            · exact hl e)
          refine refNearest_go m h L g0 o c most w hm (by omega) (by omega) hg hc hsh (fun k hk hne => ?_) (fun hall => ?_)
          · have e1 := errOf_short (m := m) hm (hsh k hk) (show h.size ≤ 64 by omega)
            by_cases hk2 : okText (L.getD k ByteArray.empty) = true ∧ okText h = true
            · rw [if_pos hk2] at e1; exact absurd e1 hne
            · rw [e1, if_neg hk2, hE, if_neg]
              intro hc2
              exact hk2 ⟨List.all_eq_true.1 hc2.2 _ (getD_mem hk), hc2.1⟩
          · have e1 := errOf_short (m := m) (s := ⟨#[]⟩) hm (by decide) (show h.size ≤ 64 by omega)
            have hh0 := hall 0 h0
            rw [errOf_short (m := m) hm (hsh 0 h0) (show h.size ≤ 64 by omega)] at hh0
            have hok : okText h = true := by
              by_cases hk2 : okText (L.getD 0 ByteArray.empty) = true ∧ okText h = true
              · exact hk2.2
              · rw [if_neg hk2] at hh0; exact absurd hh0 (by decide)
            have hall2 : L.all okText = true := by
             rw [List.all_eq_true]
             intro s hs
             obtain ⟨k, hk, rfl⟩ := List.getElem_of_mem hs
             have hhk := hall k hk
             rw [errOf_short (m := m) hm (hsh k hk) (show h.size ≤ 64 by omega)] at hhk
             by_cases hk2 : okText (L.getD k ByteArray.empty) = true ∧ okText h = true
             · have := hk2.1
               rwa [List.getD, List.getElem?_eq_getElem hk] at this
             · rw [if_neg hk2] at hhk; exact absurd hhk (by decide)
            rw [e1, hE, if_pos ⟨hok, hall2⟩, if_pos ⟨okText_nil, hok⟩]
      · obtain rfl : L = [] := List.length_eq_zero_iff.1 (by omega)
        have e1 := errOf_short (m := m) (s := ⟨#[]⟩) hm (by decide) (show h.size ≤ 64 by omega)
        have hE : nrE m h [] = if okText h = true ∧ ([] : List ByteArray).all okText = true then 0 else 41 := nrE_short hm (fun e => by
          rcases e with e | e | e
          · exact hb (.inl e)
          · exact hb (.inr e)
          · simp at e)
        have hEE : nrE m h [] = errOf m ⟨#[]⟩ h := by
          rw [e1, hE]
          by_cases hok : okText h = true
          · rw [if_pos ⟨hok, rfl⟩, if_pos ⟨okText_nil, hok⟩]
          · rw [if_neg (fun e => hok e.1), if_neg (fun e => hok e.2)]
        refine (refNearest_nil m h A c most w hm (by omega)).mono fun e w' ⟨he, hw⟩ => ⟨?_, hw⟩
        rw [← hEE] at he
        by_cases h0 : nrE m h [] = 0
        · rw [h0] at he
          exact .inl ⟨h0, none, 0, [], he, fun j hj => by simp at hj, Near.zero _ _⟩
        · exact .inr ⟨h0, he⟩
  · have hE : nrE m h L = 40 := if_pos hm
    refine (refNearest_mode m h _ most w hm).mono fun e w' ⟨he, hw⟩ => ⟨.inr ⟨by rw [hE]; decide, by rw [hE]; exact he⟩, hw ▸ Below.refl _ _⟩
set_option maxRecDepth 100000 in
set_option maxHeartbeats 4000000 in
theorem NearQ_out (m : Int) (x y code : ByteArray) (a b most : Int) (A : Option Addr) (n c : Nat) (v8 v9 v10 v11 : Value) (w : World) (hP : Pow w) (hl : ¬ x.size ≤ 200 ∨ (40 < n ∧ n ≤ 400) ∨ 800 < n) :
    Calls Tryz.prog 14 #[.agg (askV m x y code a b most (.slice A n c) v8 v9 v10 v11)] w fun e w' => e = .returned (.bool true) ∧ Below w.heap.size w w' := by
  have HB0 := Lib.hid (Blk.new w 40 (askV m x y code a b most (.slice A n c) v8 v9 v10 v11))
  have HA := Lib.hid (fun o => awake_any (w.alloc o) (hP.later (below_alloc0 _)))
  clear hP
  by_cases h1 : x.size ≤ 200
  · have d1 : decide ((x.size : Int) ≤ 200) = true := by simp; omega
    have d2 : decide ((n : Int) > 40) = true := by simp; omega
    have d2' : decide (40 < (n : Int)) = true := by simp; omega
    have n2 : 40 < n := by omega
    by_cases h2 : n ≤ 400
    · have d3 : decide ((n : Int) ≤ 400) = true := by simp; omega
      clear hl h1
      go_enter Tryz.func14, Tryz.ntmps14
      go_wp2_with (first
        | (go_at_call 18; refine (HA.out _).mono ?_; rintro e w1 ⟨rfl, hb1⟩; have hB := HB0.out.later hb1; have hbt := below_trans' (below_alloc0 _) hb1; obtain ⟨k0, k1, k2, k3, k4, k5, k6, k7, _⟩ := blk12 hB)
        | (go_at_call 19; refine (brief_any _ _).mono ?_; rintro e w2 ⟨rfl, rfl⟩))
      go_ret
      exact ⟨rfl, hbt⟩
    · have d3 : decide ((n : Int) ≤ 400) = false := by simp; omega
      have d4 : decide ((n : Int) > 800) = true := by simp; omega
      have d4' : decide (800 < (n : Int)) = true := by simp; omega
      have n4 : 800 < n := by omega
      clear hl h1
      go_enter Tryz.func14, Tryz.ntmps14
      go_wp2_with (first
        | (go_at_call 18; refine (HA.out _).mono ?_; rintro e w1 ⟨rfl, hb1⟩; have hB := HB0.out.later hb1; have hbt := below_trans' (below_alloc0 _) hb1; obtain ⟨k0, k1, k2, k3, k4, k5, k6, k7, _⟩ := blk12 hB)
        | (go_at_call 19; refine (brief_any _ _).mono ?_; rintro e w2 ⟨rfl, rfl⟩))
      go_ret
      exact ⟨rfl, hbt⟩
  · have d1 : decide ((x.size : Int) ≤ 200) = false := by simp; omega
    clear hl h1
    go_enter Tryz.func14, Tryz.ntmps14
    go_wp2_with (first
      | (go_at_call 18; refine (HA.out _).mono ?_; rintro e w1 ⟨rfl, hb1⟩; have hB := HB0.out.later hb1; have hbt := below_trans' (below_alloc0 _) hb1; obtain ⟨k0, k1, k2, k3, k4, k5, k6, k7, _⟩ := blk12 hB)
      | (go_at_call 19; refine (brief_any _ _).mono ?_; rintro e w2 ⟨rfl, rfl⟩))
    go_ret
    exact ⟨rfl, hbt⟩

set_option maxRecDepth 100000 in
set_option maxHeartbeats 8000000 in
theorem NearQ_few (m : Int) (x y code : ByteArray) (a b most : Int) (A : Option Addr) (L : List ByteArray) (c : Nat) (v8 v9 v10 v11 : Value) (w : World) (hP : Pow w) (hS : StrsP w A L) (hx : x.size ≤ 200) (hn : L.length ≤ 40) :
    Calls Tryz.prog 14 #[.agg (askV m x y code a b most (.slice A L.length c) v8 v9 v10 v11)] w fun e w' => e = .returned (.bool true) ∧ Below w.heap.size w w' := by
  have HB0 := Lib.hid (Blk.new w 40 (askV m x y code a b most (.slice A L.length c) v8 v9 v10 v11))
  have HA := Lib.hid (fun o => awake_any (w.alloc o) (hP.later (below_alloc0 _)))
  have HN : Hid (∀ W, Below w.heap.size w W → Calls Tryz.prog 56 #[.int .i64 m, .string x, .slice A L.length c, .int .i64 most] W (NearOne m x L most W)) :=
    Lib.hid fun W hb => (Nearest_any m x L most A c W (hS.later hb) (by omega)).mono fun e w' h => nearOne_of h
  have HR : Hid (∀ W, Below w.heap.size w W → Calls Tryz.prog 57 #[.int .i64 m, .string x, .slice A L.length c, .int .i64 most] W (NearOne m x L most W)) :=
    Lib.hid fun W hb => (refNearest_any m x L most A c W (hS.later hb) (by omega)).mono fun e w' h => nearOne_of h
  have HS := Lib.hid hS
  have d1 : decide ((x.size : Int) ≤ 200) = true := by simp; omega
  have d2 : decide ((L.length : Int) > 40) = false := by simp; omega
  have d2' : decide (40 < (L.length : Int)) = false := by simp; omega
  have n2 : ¬ 40 < L.length := by omega
  have d4 : decide ((L.length : Int) > 800) = false := by simp; omega
  have d4' : decide (800 < (L.length : Int)) = false := by simp; omega
  have n4 : ¬ 800 < L.length := by omega
  clear hP hS hx
  go_enter Tryz.func14, Tryz.ntmps14
  go_wp2_with (first
    | (go_at_call 18; refine (HA.out _).mono ?_; rintro e w1 ⟨rfl, hb1⟩; have hB := HB0.out.later hb1; have hbt := below_trans' (below_alloc0 _) hb1; obtain ⟨k0, k1, k2, k3, k4, k5, k6, k7, _⟩ := blk12 hB)
    | (go_at_call 19; refine (brief_any _ _).mono ?_; rintro e w2 ⟨rfl, rfl⟩))
  have HBX := Lib.hid hB
  have HBT := Lib.hid hbt
  have HSX := Lib.hid (HS.out.later hbt)
  clear hB hbt hb1
  go_loop [4] (fun v4 => ∃ i : Nat, i ≤ L.length ∧ v4 = .int .i64 i) (fun v4 => L.length - (intOf v4).toNat)
  case atStart => exact ⟨0, by omega, rfl⟩
  case round =>
    obtain ⟨i, hi, rfl⟩ := hrel
    by_cases hlt : i < L.length
    · have f1 : decide ((i : Int) < (L.length : Int)) = true := by simp; omega
      have f2 : (i : Int) < (L.length : Int) := by omega
      have f3 : (0 : Int) ≤ (i : Int) := by omega
      have q1 : IntKind.i64.wrap ((i : Int) + 1) = (i : Int) + 1 := IntWalk.i64_in _ (by omega)
      obtain ⟨g0, o, rfl, hg, hc⟩ := HSX.out.place (by omega)
      have hs := hc i hlt
      generalize L.getD i ByteArray.empty = s at hs
      clear hc
      by_cases hz : s.size ≤ 200
      · have g1 : decide ((s.size : Int) ≤ 200) = true := by simp; omega
        clear hz
        go_wp2_with (first | (go_at_call 19; refine (brief_any _ _).mono ?_; rintro e w2 ⟨rfl, rfl⟩))
        go_round
        case rel => exact ⟨i + 1, by omega, by go_num⟩
        case measure => simp [intOf] <;> omega
      · have g1 : decide ((s.size : Int) ≤ 200) = false := by simp; omega
        clear hz
        go_wp2_with (first | (go_at_call 19; refine (brief_any _ _).mono ?_; rintro e w2 ⟨rfl, rfl⟩))
        go_ret
        exact ⟨rfl, HBT.out⟩
    · obtain rfl : i = L.length := by omega
      have f1 : decide ((L.length : Int) < (L.length : Int)) = false := by simp
      obtain ⟨er, her⟩ : ∃ er, er = nrE m x L := ⟨_, rfl⟩
      have HER := Lib.hid her
      unfold NearOne at HN HR
      rw [← her] at HN HR
      clear her
      go_wp2_with (first
        | (go_at_call 56; refine (HN.out _ HBT.out).mono ?_; rintro e w3 ⟨⟨A1, c1, r1, rfl, hN1, hr1, hr1'⟩, hb3⟩; have hB := HBX.out.later hb3; have hbt := below_trans' HBT.out hb3; obtain ⟨k0, k1, k2, k3, k4, k5, k6, k7, _⟩ := blk12 hB)
        | (go_at_call 57; refine (HR.out _ hbt).mono ?_; rintro e w4 ⟨⟨A2, c2, r2, rfl, hN2, hr2, hr2'⟩, hb4⟩; have hbt4 := below_trans' hbt hb4; have hN1' := hN1.later hb4; obtain rfl : r1 = r2 := nearOne_eq (HER.out ▸ hr1) (HER.out ▸ hr1') (HER.out ▸ hr2) (HER.out ▸ hr2'); have hl1 : r1.length ≤ L.length := nearOne_len (m := m) (h := x) (L := L) (most := most) (HER.out ▸ hr1) (HER.out ▸ hr1'); have hl2 : r1.length ≤ 1000000 := by omega)
        | (go_at_call 34; refine (same_any A1 A2 c1 c2 r1 r1 _ hN1' hN2 hl2).mono ?_; rintro e w5 ⟨rfl, q, rfl⟩))
      go_ret
      exact ⟨rfl, below_drewN' hbt4 _⟩

set_option maxRecDepth 100000 in
set_option maxHeartbeats 8000000 in
theorem NearQ_many (m : Int) (x y code : ByteArray) (a b most : Int) (A : Option Addr) (L : List ByteArray) (c : Nat) (v8 v9 v10 v11 : Value) (w : World) (hP : Pow w) (hS : StrsP w A L) (hx : x.size ≤ 200) (hn : 400 < L.length ∧ L.length ≤ 800) :
    Calls Tryz.prog 14 #[.agg (askV m x y code a b most (.slice A L.length c) v8 v9 v10 v11)] w fun e w' => e = .returned (.bool true) ∧ Below w.heap.size w w' := by
  have HB0 := Lib.hid (Blk.new w 40 (askV m x y code a b most (.slice A L.length c) v8 v9 v10 v11))
  have HA := Lib.hid (fun o => awake_any (w.alloc o) (hP.later (below_alloc0 _)))
  have HN : Hid (∀ W, Below w.heap.size w W → Calls Tryz.prog 56 #[.int .i64 m, .string x, .slice A L.length c, .int .i64 most] W (NearOne m x L most W)) :=
    Lib.hid fun W hb => (Nearest_any m x L most A c W (hS.later hb) (by omega)).mono fun e w' h => nearOne_of h
  have HR : Hid (∀ W, Below w.heap.size w W → Calls Tryz.prog 57 #[.int .i64 m, .string x, .slice A L.length c, .int .i64 most] W (NearOne m x L most W)) :=
    Lib.hid fun W hb => (refNearest_any m x L most A c W (hS.later hb) (by omega)).mono fun e w' h => nearOne_of h
  have HS := Lib.hid hS
  have d1 : decide ((x.size : Int) ≤ 200) = true := by simp; omega
  have d2 : decide ((L.length : Int) > 40) = true := by simp; omega
  have d2' : decide (40 < (L.length : Int)) = true := by simp; omega
  have n2 : 40 < L.length := by omega
  have d3 : decide ((L.length : Int) ≤ 400) = false := by simp; omega
  have n3 : ¬ L.length ≤ 400 := by omega
  have d4 : decide ((L.length : Int) > 800) = false := by simp; omega
  have d4' : decide (800 < (L.length : Int)) = false := by simp; omega
  have n4 : ¬ 800 < L.length := by omega
  clear hP hS hx
  go_enter Tryz.func14, Tryz.ntmps14
  go_wp2_with (first
    | (go_at_call 18; refine (HA.out _).mono ?_; rintro e w1 ⟨rfl, hb1⟩; have hB := HB0.out.later hb1; have hbt := below_trans' (below_alloc0 _) hb1; obtain ⟨k0, k1, k2, k3, k4, k5, k6, k7, _⟩ := blk12 hB)
    | (go_at_call 19; refine (brief_any _ _).mono ?_; rintro e w2 ⟨rfl, rfl⟩))
  have HBX := Lib.hid hB
  have HBT := Lib.hid hbt
  have HSX := Lib.hid (HS.out.later hbt)
  clear hB hbt hb1
  go_loop [4] (fun v4 => ∃ i : Nat, i ≤ L.length ∧ v4 = .int .i64 i) (fun v4 => L.length - (intOf v4).toNat)
  case atStart => exact ⟨0, by omega, rfl⟩
  case round =>
    obtain ⟨i, hi, rfl⟩ := hrel
    by_cases hlt : i < L.length
    · have f1 : decide ((i : Int) < (L.length : Int)) = true := by simp; omega
      have f2 : (i : Int) < (L.length : Int) := by omega
      have f3 : (0 : Int) ≤ (i : Int) := by omega
      have q1 : IntKind.i64.wrap ((i : Int) + 1) = (i : Int) + 1 := IntWalk.i64_in _ (by omega)
      obtain ⟨g0, o, rfl, hg, hc⟩ := HSX.out.place (by omega)
      have hs := hc i hlt
      generalize L.getD i ByteArray.empty = s at hs
      clear hc
      by_cases hz : s.size ≤ 200
      · have g1 : decide ((s.size : Int) ≤ 200) = true := by simp; omega
        clear hz
        go_wp2_with (first | (go_at_call 19; refine (brief_any _ _).mono ?_; rintro e w2 ⟨rfl, rfl⟩))
        go_round
        case rel => exact ⟨i + 1, by omega, by go_num⟩
        case measure => simp [intOf] <;> omega
      · have g1 : decide ((s.size : Int) ≤ 200) = false := by simp; omega
        clear hz
        go_wp2_with (first | (go_at_call 19; refine (brief_any _ _).mono ?_; rintro e w2 ⟨rfl, rfl⟩))
        go_ret
        exact ⟨rfl, HBT.out⟩
    · obtain rfl : i = L.length := by omega
      have f1 : decide ((L.length : Int) < (L.length : Int)) = false := by simp
      obtain ⟨er, her⟩ : ∃ er, er = nrE m x L := ⟨_, rfl⟩
      have HER := Lib.hid her
      unfold NearOne at HN HR
      rw [← her] at HN HR
      clear her
      go_wp2_with (first
        | (go_at_call 56; refine (HN.out _ HBT.out).mono ?_; rintro e w3 ⟨⟨A1, c1, r1, rfl, hN1, hr1, hr1'⟩, hb3⟩; have hB := HBX.out.later hb3; have hbt := below_trans' HBT.out hb3; obtain ⟨k0, k1, k2, k3, k4, k5, k6, k7, _⟩ := blk12 hB)
        | (go_at_call 57; refine (HR.out _ hbt).mono ?_; rintro e w4 ⟨⟨A2, c2, r2, rfl, hN2, hr2, hr2'⟩, hb4⟩; have hbt4 := below_trans' hbt hb4; have hN1' := hN1.later hb4; obtain rfl : r1 = r2 := nearOne_eq (HER.out ▸ hr1) (HER.out ▸ hr1') (HER.out ▸ hr2) (HER.out ▸ hr2'); have hl1 : r1.length ≤ L.length := nearOne_len (m := m) (h := x) (L := L) (most := most) (HER.out ▸ hr1) (HER.out ▸ hr1'); have hl2 : r1.length ≤ 1000000 := by omega)
        | (go_at_call 34; refine (same_any A1 A2 c1 c2 r1 r1 _ hN1' hN2 hl2).mono ?_; rintro e w5 ⟨rfl, q, rfl⟩))
      go_ret
      exact ⟨rfl, below_drewN' hbt4 _⟩

theorem NearQ_any (m : Int) (x y code : ByteArray) (a b most : Int) (A : Option Addr) (L : List ByteArray) (c : Nat) (v8 v9 v10 v11 : Value) (w : World) (hP : Pow w) (hS : StrsP w A L) :
    Calls Tryz.prog 14 #[.agg (askV m x y code a b most (.slice A L.length c) v8 v9 v10 v11)] w fun e w' => e = .returned (.bool true) ∧ Below w.heap.size w w' := by
  by_cases h : ¬ x.size ≤ 200 ∨ (40 < L.length ∧ L.length ≤ 400) ∨ 800 < L.length
  · exact NearQ_out m x y code a b most A L.length c v8 v9 v10 v11 w hP h
  · by_cases h2 : L.length ≤ 40
    · exact NearQ_few m x y code a b most A L c v8 v9 v10 v11 w hP hS (by omega) h2
    · exact NearQ_many m x y code a b most A L c v8 v9 v10 v11 w hP hS (by omega) (by omega)
end Go.Proofs.YtgcddjgkieambaaGreatDoor
end PartNearT
