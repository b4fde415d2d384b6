/- The walk of 'Nearest' at no texts, and where it returns an error. -/
import Derived.Test.YtgcddjgkieambaaGreatDoorNearB
set_option linter.unusedVariables false
set_option linter.unusedSimpArgs false
namespace Go.Proofs.YtgcddjgkieambaaGreatDoor
open Go.RowKit Go.Maps

set_option maxRecDepth 100000 in
set_option maxHeartbeats 8000000 in
theorem Nearest_mode (m : Int) (h : ByteArray) (most : Int) (v : Value) (w : World) (hm : ¬ isMode m) : Calls Tryz.prog 56 #[.int .i64 m, .string h, v, .int .i64 most] w fun e w' => e = .returned (.tuple #[.slice none 0 0, .int .i64 40]) ∧ Below w.heap.size w w' := by
  go_enter Tryz.func56, Tryz.ntmps56
  go_wp2_with (go_at_call 87; refine (waysOf_no m _ hm).mono ?_; rintro e w' ⟨rfl, rfl⟩)
  go_ret2
  exact ⟨rfl, Below.refl _ _⟩

/-- The texts put together, as the call lays them. -/
def Joined (w W : World) (B : Nat) (v : Value) (LL : List ByteArray) : Prop := ∃ g cap, v = .slice (some ⟨g, 0, none⟩) LL.length cap ∧ Strs W g LL ∧ Below w.heap.size w W

set_option maxRecDepth 100000 in
set_option maxHeartbeats 8000000 in
theorem Nearest_err (m : Int) (h : ByteArray) (L : List ByteArray) (most : Int) (a : Addr) (c : Nat) (w : World) (hm : isMode m) (hS : StrsP w (some a) L) (hn : L.length ≤ 1000) (e1 er : Int) (her : er = if e1 = 2 ∨ 400 < L.length then 2 else e1) (h0 : er ≠ 0)
    (hI : ∀ (b c : Nat) (W : World), Strs W b (h :: L) → Calls Tryz.prog 96 #[.slice (some ⟨b, 0, none⟩) (L.length + 1) c] W fun e w' => (∃ v, e = .returned (.tuple #[v, .int .i64 e1])) ∧ Below W.heap.size W w') :
    Calls Tryz.prog 56 #[.int .i64 m, .string h, .slice (some a) L.length c, .int .i64 most] w fun e w' => e = .returned (.tuple #[.slice none 0 0, .int .i64 er]) ∧ Below w.heap.size w w' := by
  have HER := Lib.hid her
  have H0 := Lib.hid h0
  clear her h0
  obtain ⟨i0, hi, hz0, hz1, hz2⟩ := info_parts info9
  have HI := Lib.hid hI
  have HS := Lib.hid hS
  have Hm := Lib.hid hm
  clear hS hm hI
  go_enter Tryz.func56, Tryz.ntmps56
  go_wp2_with (first
    | (go_at_call 87; refine (waysT m _ Hm.out).mono ?_; rintro e w1 ⟨T, x, rfl, hC, hb1⟩)
    | (at_builtin; refine wpList_append_own _ rfl _ _ 36 rfl w1.heap.size 9 i0 (.string ⟨#[]⟩) 1 16 Tryz.underlying36 hi hz0 hz1 hz2 rfl (by decide) _ 1 [.string h] rfl (own_one w1 h _ (Nat.le_refl _)) a L.length c (L.map fun s => .string s) rfl ?c1 ?c2 ?c3 ?c4 ?c5 ?c6 ?_))
  case c1 => simp
  case c2 =>
    intro j u hj
    have hj' : j < L.length := by have := (List.getElem?_eq_some_iff.1 hj).1; simpa using this
    obtain ⟨a', e, hl, hc⟩ := HS.out j hj'
    obtain rfl : a = a' := Option.some.inj e
    have hb0 : Below w.heap.size w (w1.alloc (.cells #[.string h] 9)) := hb1.alloc hb1.size _
    rw [(hb0.cell (p := a.add j) (by rw [add_block]; exact hl)).trans hc]
    rw [List.getElem?_map, List.getElem?_eq_getElem hj'] at hj
    simp only [Option.map_some, Option.some.injEq] at hj
    rw [← hj]
    simp [List.getD, List.getElem?_eq_getElem hj']
  case c3 => intro u hu; obtain ⟨s, _, rfl⟩ := List.mem_map.1 hu; rfl
  case c4 => unfold maxLen; omega
  case c5 => omega
  case c6 => simp
  · intro v' w2 hown hgrow _
    obtain ⟨g, cap, hv, _, hlt⟩ := hown.form (by omega)
    subst hv
    rw [Nat.add_comm 1 L.length] at hown ⊢
    have hb2 : Below w.heap.size w w2 := (hb1.alloc hb1.size _).grown hgrow (by have := hb1.size; simp; omega) (fun k hk => by simp [Value.ownBlock] at hk; have := hb1.size; omega)
    have hst : Strs w2 g (h :: L) := ⟨hlt, fun j hj => by
      rw [hown.cellAt j (by simpa using hj)]
      cases j with
      | zero => rfl
      | succ j =>
        have hj' : j < L.length := by simpa using hj
        simp [List.getD, List.getElem?_eq_getElem hj']⟩
    have HST := Lib.hid hst
    have HB2 := Lib.hid hb2
    clear hown hgrow hst hb2 hC hb1
    by_cases h2 : e1 = 2
    · subst h2
      go_wp2_with (first | (go_at_call 96; refine (HI.out _ _ _ HST.out).mono ?_; rintro e w3 ⟨⟨v, rfl⟩, hb3⟩; have Hb3 := Lib.hid (HB2.out.trans (hb3.mono HB2.out.size)); clear hb3))
      go_ret2
      exact ⟨by have he := HER.out; simp at he; rw [he]; rfl, Hb3.out⟩
    · have d2 : (e1 == 2) = false := by simpa using h2
      by_cases h4 : 400 < L.length
      · have f400 : decide ((L.length : Int) > 400) = true := by simp; omega
        have f400' : decide (400 < (L.length : Int)) = true := by simp; omega
        go_wp2_with (first | (go_at_call 96; refine (HI.out _ _ _ HST.out).mono ?_; rintro e w3 ⟨⟨v, rfl⟩, hb3⟩; have Hb3 := Lib.hid (HB2.out.trans (hb3.mono HB2.out.size)); clear hb3))
        go_ret2
        exact ⟨by rw [HER.out, if_pos (.inr h4)]; rfl, Hb3.out⟩
      · have f400 : decide ((L.length : Int) > 400) = false := by simp; omega
        have f400' : decide (400 < (L.length : Int)) = false := by simp; omega
        have hif : ¬ (e1 = 2 ∨ 400 < L.length) := fun h => h.elim h2 h4
        have he : er = e1 := by rw [HER.out, if_neg hif]
        have d0 : (e1 != 0) = true := by have := H0.out; rw [he] at this; simpa using this
        have HE := Lib.hid he
        clear hif h2 he
        go_wp2_with (first | (go_at_call 96; refine (HI.out _ _ _ HST.out).mono ?_; rintro e w3 ⟨⟨v, rfl⟩, hb3⟩; have Hb3 := Lib.hid (HB2.out.trans (hb3.mono HB2.out.size)); clear hb3))
        go_ret2
        exact ⟨by rw [HE.out]; rfl, Hb3.out⟩

/-- No texts: only the one that was heard is taken apart. -/
theorem strs_one (w : World) (s : ByteArray) : Strs (w.alloc (.cells #[.string s] 9)) w.heap.size [s] := by
  have hB := Blk.new w 9 #[.string s]
  refine ⟨hB.lt, fun j hj => ?_⟩
  obtain rfl : j = 0 := by simpa using hj
  exact hB.cell 0

set_option maxRecDepth 100000 in
set_option maxHeartbeats 8000000 in
theorem Nearest_nil (m : Int) (h : ByteArray) (most : Int) (A : Option Addr) (c : Nat) (w : World) (hm : isMode m) (er : Int) (h0 : er = 0 ∨ er = 2 ∨ er = 41)
    (hI : ∀ (b c : Nat) (W : World), Strs W b [h] → Calls Tryz.prog 96 #[.slice (some ⟨b, 0, none⟩) 1 c] W fun e w' => (∃ ib v, e = .returned (.tuple #[v, .int .i64 er]) ∧ (er = 0 → v = .slice (some ⟨ib, 0, none⟩) 1 1)) ∧ Below W.heap.size W w') :
    Calls Tryz.prog 56 #[.int .i64 m, .string h, .slice A 0 c, .int .i64 most] w fun e w' => e = .returned (.tuple #[.slice none 0 0, .int .i64 er]) ∧ Below w.heap.size w w' := by
  obtain ⟨i0, hi, hz0, hz1, hz2⟩ := info_parts info9
  have hmm := @run_makeMap Tryz.prog
  have hmf : ∀ (fn : Fn) (first cap : Array Value) (w : World), (Instr.makeFunc fn first cap).run Tryz.prog w = .ok (.func fn first cap) w := fun _ _ _ _ => rfl
  have HI := Lib.hid hI
  have Hm := Lib.hid hm
  have HSN := Lib.hid sort_nil
  clear hm hI
  cases A with
  | none =>
    rcases h0 with rfl | rfl | rfl
    · go_enter Tryz.func56, Tryz.ntmps56
      go_wp2_with (first
        | (go_at_call 87; refine (waysT m _ Hm.out).mono ?_; rintro e w1 ⟨T, x, rfl, hC, hb1⟩)
        | (go_at_call 96; refine (HI.out _ _ _ (strs_one w1 h)).mono ?_; rintro e w3 ⟨⟨ib, v, rfl, hv⟩, hb3⟩; obtain rfl := hv trivial; have HB := Lib.hid ((hb1.alloc hb1.size _).trans (hb3.mono (by have := hb1.size; simp; omega))); clear hv hb3 hb1 hC))
      refine wp_loop_rounds 1 ?_
      rw [rounds_succ]
      go_wp2_with (first | (go_at_call 97; refine (HSN.out _ _).mono ?_; rintro e w8 ⟨rfl, rfl⟩))
      go_ret2
      exact ⟨rfl, (HB.out.alloc HB.out.size _).alloc (by have := HB.out.size; simp; omega) _⟩
    · go_enter Tryz.func56, Tryz.ntmps56
      go_wp2_with (first
        | (go_at_call 87; refine (waysT m _ Hm.out).mono ?_; rintro e w1 ⟨T, x, rfl, hC, hb1⟩)
        | (go_at_call 96; refine (HI.out _ _ _ (strs_one w1 h)).mono ?_; rintro e w3 ⟨⟨ib, v, rfl, hv⟩, hb3⟩; have HB := Lib.hid ((hb1.alloc hb1.size _).trans (hb3.mono (by have := hb1.size; simp; omega))); clear hv hb3 hb1 hC))
      go_ret2
      exact ⟨rfl, HB.out⟩
    · go_enter Tryz.func56, Tryz.ntmps56
      go_wp2_with (first
        | (go_at_call 87; refine (waysT m _ Hm.out).mono ?_; rintro e w1 ⟨T, x, rfl, hC, hb1⟩)
        | (go_at_call 96; refine (HI.out _ _ _ (strs_one w1 h)).mono ?_; rintro e w3 ⟨⟨ib, v, rfl, hv⟩, hb3⟩; have HB := Lib.hid ((hb1.alloc hb1.size _).trans (hb3.mono (by have := hb1.size; simp; omega))); clear hv hb3 hb1 hC))
      go_ret2
      exact ⟨rfl, HB.out⟩
  | some a =>
    rcases h0 with rfl | rfl | rfl
    · go_enter Tryz.func56, Tryz.ntmps56
      go_wp2_with (first
        | (go_at_call 87; refine (waysT m _ Hm.out).mono ?_; rintro e w1 ⟨T, x, rfl, hC, hb1⟩)
        | (go_at_call 96; refine (HI.out _ _ _ (strs_one w1 h)).mono ?_; rintro e w3 ⟨⟨ib, v, rfl, hv⟩, hb3⟩; obtain rfl := hv trivial; have HB := Lib.hid ((hb1.alloc hb1.size _).trans (hb3.mono (by have := hb1.size; simp; omega))); clear hv hb3 hb1 hC))
      refine wp_loop_rounds 1 ?_
      rw [rounds_succ]
      go_wp2_with (first | (go_at_call 97; refine (HSN.out _ _).mono ?_; rintro e w8 ⟨rfl, rfl⟩))
      go_ret2
      exact ⟨rfl, (HB.out.alloc HB.out.size _).alloc (by have := HB.out.size; simp; omega) _⟩
    · go_enter Tryz.func56, Tryz.ntmps56
      go_wp2_with (first
        | (go_at_call 87; refine (waysT m _ Hm.out).mono ?_; rintro e w1 ⟨T, x, rfl, hC, hb1⟩)
        | (go_at_call 96; refine (HI.out _ _ _ (strs_one w1 h)).mono ?_; rintro e w3 ⟨⟨ib, v, rfl, hv⟩, hb3⟩; have HB := Lib.hid ((hb1.alloc hb1.size _).trans (hb3.mono (by have := hb1.size; simp; omega))); clear hv hb3 hb1 hC))
      go_ret2
      exact ⟨rfl, HB.out⟩
    · go_enter Tryz.func56, Tryz.ntmps56
      go_wp2_with (first
        | (go_at_call 87; refine (waysT m _ Hm.out).mono ?_; rintro e w1 ⟨T, x, rfl, hC, hb1⟩)
        | (go_at_call 96; refine (HI.out _ _ _ (strs_one w1 h)).mono ?_; rintro e w3 ⟨⟨ib, v, rfl, hv⟩, hb3⟩; have HB := Lib.hid ((hb1.alloc hb1.size _).trans (hb3.mono (by have := hb1.size; simp; omega))); clear hv hb3 hb1 hC))
      go_ret2
      exact ⟨rfl, HB.out⟩
end Go.Proofs.YtgcddjgkieambaaGreatDoor
