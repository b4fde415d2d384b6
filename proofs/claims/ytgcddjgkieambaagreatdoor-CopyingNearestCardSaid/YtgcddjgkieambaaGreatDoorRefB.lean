/- The walks of the reference's 'indices' and 'texts'. -/
import Derived.Test.YtgcddjgkieambaaGreatDoorRefA
import Derived.Test.YtgcddjgkieambaaGreatDoorRise
import Derived.Test.YtgcddjgkieambaaGreatDoorCost
set_option linter.unusedVariables false
set_option linter.unusedSimpArgs false
namespace Go.Proofs.YtgcddjgkieambaaGreatDoor
open Go.RowKit

theorem byte_row (s : ByteArray) (k : Nat) (h : k < s.size) : (row s).getD k 0 = (Cm.ixc s[k]).toNat := by
  have hl : k < (row s).length := by rw [row_length]; exact h
  rw [getD_get _ _ hl]
  simp only [row, List.getElem_map]
  rfl
theorem byte_mem (s : ByteArray) (k : Nat) (h : k < s.size) : s[k] ∈ s.data.toList := by
  have : s[k] = s.data.toList[k]'(by simpa using h) := rfl
  rw [this]
  exact List.getElem_mem _
theorem chars_of {s : ByteArray} (h : ∀ (k : Nat) (hk : k < s.size), 0 ≤ Cm.ixc s[k]) : allChars s := by
  intro c hc
  obtain ⟨k, hk, rfl⟩ := List.getElem_of_mem hc
  exact h k (by simpa using hk)

/-- What holds at the head of each round of the reference's 'indices'. -/
def RiIx (s : ByteArray) (w : World) (v4 v5 : Value) (wx : World) : Prop :=
  ∃ k : Nat, k ≤ s.size ∧ v5 = .int .i64 k ∧ (∀ (j : Nat) (hj : j < s.size), j < k → 0 ≤ Cm.ixc s[j]) ∧ wx.ownsRow w.heap.size 3 1 v4 k ((List.range k).map fun j => .int .i64 (((row s).getD j 0 : Nat) : Int)) ∧ Below w.heap.size w wx
def RiOut (s : ByteArray) (w : World) (e : Ending) (w' : World) : Prop :=
  ((allChars s ∧ ∃ v, e = .returned (.tuple #[v, .bool true]) ∧ OwnI w' v ((row s).map fun (k : Nat) => (k : Int))) ∨ (¬ allChars s ∧ e = .returned (.tuple #[.slice none 0 0, .bool false]))) ∧ Below w.heap.size w w'

set_option maxRecDepth 100000 in
set_option maxHeartbeats 4000000 in
theorem ref_indices (s : ByteArray) (w : World) (hs : s.size ≤ 1000000) : Calls Tryz.prog 72 #[.string s] w (RiOut s w) := by
  obtain ⟨i0, hi, hz0, hz1, hz2⟩ := info_parts info3
  go_enter Tryz.func72, Tryz.ntmps72
  go_wp2
  go_loopw [4, 5] (fun v4 v5 wx => RiIx s w v4 v5 wx) (fun _ v5 _ => s.size - (intOf v5).toNat)
  case atStart => exact ⟨0, by omega, rfl, fun j hj h => by omega, World.ownsRow_nil _ _ _ _, Below.refl _ _⟩
  case round =>
    obtain ⟨k, hk, rfl, hall, hown, hb⟩ := hrel
    have Hall := Lib.hid hall
    have Hown := Lib.hid hown
    have Hb := Lib.hid hb
    have hsz := hb.size
    clear hall hb
    by_cases hlt : k < s.size
    · have f1 : decide ((k : Int) < (s.size : Int)) = true := by simp; omega
      have f2 : (k : Int) < (s.size : Int) := by omega
      have f3 : (0 : Int) ≤ (k : Int) := by omega
      have q1 : IntKind.i64.wrap ((k : Int) + 1) = (k : Int) + 1 := IntWalk.i64_in _ (by omega)
      have HA := Lib.hid (fun W => ref_at s[k] W)
      have hbr := byte_row s k hlt
      have hmem := byte_mem s k hlt
      obtain ⟨z, hz⟩ : ∃ z, z = Cm.ixc s[k] := ⟨_, rfl⟩
      rw [← hz] at HA hbr
      have Hz := Lib.hid hz
      have Hmem := Lib.hid hmem
      clear hz hmem
      by_cases h0 : z < 0
      · have g0 : decide (z < 0) = true := by simpa using h0
        have Hno := Lib.hid (show ¬ allChars s from fun h => by have := h _ Hmem.out; rw [← Hz.out] at this; omega)
        clear h0 hbr hown
        go_wp2_with (go_at_call 111; refine (HA.out _).mono ?_; rintro e w1 ⟨rfl, rfl⟩)
        go_ret2
        exact ⟨.inr ⟨Hno.out, rfl⟩, Hb.out⟩
      · have g0 : decide (z < 0) = false := by simpa using h0
        have Hbr := Lib.hid (show (((row s).getD k 0 : Nat) : Int) = z by rw [hbr]; omega)
        have H0 := Lib.hid (show 0 ≤ z by omega)
        clear h0 hbr
        go_wp2_with (first
          | (go_at_call 111; refine (HA.out _).mono ?_; rintro e w1 ⟨rfl, rfl⟩)
          | (at_builtin; refine wpList_append_own _ rfl _ _ 38 rfl w.heap.size 3 i0 (.int .i64 0) 1 8 Tryz.underlying38 hi hz0 hz1 hz2 rfl (by decide) _ _ _ rfl (hown.alloc _) ⟨wr.heap.size, 0, none⟩ 1 1 [.int .i64 z] rfl rfl ?c1 ?c2 ?c3 ?c4 ?c5 ?_))
        case c1 =>
          intro j u hj
          match j, hj with
          | 0, hj => simp at hj; subst hj; simp [Addr.add]
        case c2 => intro u hu; simp at hu; subst hu; rfl
        case c3 => unfold maxLen; omega
        case c4 => omega
        case c5 => simp; omega
        · intro v' w3 hown' hgrow _
          have hB := (Hb.out.alloc hsz (Obj.cells #[.int .i64 z] 3)).grown hgrow (by simp; omega) (fun g hg => (hown.lt g hg).1)
          have HR := Lib.hid (And.intro hown' hB)
          clear hown' hgrow hB hown
          go_wp2
          go_roundw
          case rel => exact ⟨k + 1, by omega, by go_num, fun j hj h => by
            by_cases e : j = k
            · subst e; rw [← Hz.out]; exact H0.out
            · exact Hall.out j hj (by omega), by rw [List.range_succ, List.map_append, List.map_singleton, Hbr.out]; exact HR.out.1, HR.out.2⟩
          case measure => simp [intOf] <;> omega
    · obtain rfl : k = s.size := by omega
      have f1 : decide ((s.size : Int) < (s.size : Int)) = false := by simp
      have Hyes := Lib.hid (chars_of (fun k hk => Hall.out k hk hk))
      clear hown
      go_wp2
      go_ret2
      refine ⟨.inl ⟨Hyes.out, _, rfl, ⟨w.heap.size, ?_⟩⟩, Hb.out⟩
      rw [List.length_map, row_length, List.map_map]
      have e : (row s).map (Value.int .i64 ∘ fun (k : Nat) => (k : Int)) = (List.range s.size).map fun j => Value.int .i64 (((row s).getD j 0 : Nat) : Int) := by
        rw [← row_length s, ← Go.Deep.map_by_index (row s) 0 (fun (k : Nat) => Value.int .i64 (k : Int))]
        rfl
      rw [e]
      exact Hown.out

theorem ref_ixb (s : ByteArray) (w : World) (hs : s.size ≤ 1000000) : Calls Tryz.prog 72 #[.string s] w fun e w' => ∃ v, e = .returned (.tuple #[v, .bool (okText s)]) ∧ Below w.heap.size w w' :=
  (ref_indices s w hs).mono fun e w' ⟨h, hb⟩ => by
    rcases h with ⟨hc, v, he, _⟩ | ⟨hc, he⟩
    · rw [(okText_iff s).2 hc]; exact ⟨v, he, hb⟩
    · have : okText s = false := by
        cases hx : okText s
        · rfl
        · exact absurd ((okText_iff s).1 hx) hc
      rw [this]; exact ⟨_, he, hb⟩

set_option maxRecDepth 100000 in
set_option maxHeartbeats 4000000 in
theorem ref_texts (m : Int) (s h : ByteArray) (w : World) : Calls Tryz.prog 70 #[.int .i64 m, .string s, .string h] w fun e w' => e = .returned (.int .i64 (errOf m s h)) ∧ Below w.heap.size w w' := by
  have HM := Lib.hid (fun W => ref_isMode m W)
  have hmo : isMode m ↔ (decide (1 ≤ m) && decide (m ≤ 3)) = true := by
    unfold isMode
    rw [Bool.and_eq_true, decide_eq_true_iff, decide_eq_true_iff]; omega
  rcases errOf_cases m s h with ⟨e, hm⟩ | ⟨e, hm, hl⟩ | ⟨e, hm, l1, l2, hc⟩ | ⟨e, hm, l1, l2, c1, c2⟩
  · rw [e]
    have hb : (decide (1 ≤ m) && decide (m ≤ 3)) = false := by
      cases hx : (decide (1 ≤ m) && decide (m ≤ 3))
      · rfl
      · exact absurd (hmo.2 hx) hm
    rw [hb] at HM
    clear e hm hmo hb
    go_enter Tryz.func70, Tryz.ntmps70
    go_wp2_with (go_at_call 88; refine (HM.out _).mono ?_; rintro e w1 ⟨rfl, rfl⟩)
    go_ret
    exact ⟨rfl, Below.refl _ _⟩
  · rw [e]
    rw [hmo.1 hm] at HM
    clear e hm hmo
    by_cases h1 : 64 < s.size
    · have d1 : decide ((64 : Int) < (s.size : Int)) = true := by simp; omega
      clear hl h1
      go_enter Tryz.func70, Tryz.ntmps70
      go_wp2_with (go_at_call 88; refine (HM.out _).mono ?_; rintro e w1 ⟨rfl, rfl⟩)
      go_ret
      exact ⟨rfl, Below.refl _ _⟩
    · have d1 : decide ((64 : Int) < (s.size : Int)) = false := by simp; omega
      have d2 : decide ((64 : Int) < (h.size : Int)) = true := by simp; omega
      clear hl h1
      go_enter Tryz.func70, Tryz.ntmps70
      go_wp2_with (go_at_call 88; refine (HM.out _).mono ?_; rintro e w1 ⟨rfl, rfl⟩)
      go_ret
      exact ⟨rfl, Below.refl _ _⟩
  · rw [e]
    rw [hmo.1 hm] at HM
    have d1 : decide ((64 : Int) < (s.size : Int)) = false := by simp; omega
    have d2 : decide ((64 : Int) < (h.size : Int)) = false := by simp; omega
    have I1 := Lib.hid (fun W => ref_ixb s W (by omega))
    have I2 := Lib.hid (fun W => ref_ixb h W (by omega))
    rw [← okText_iff, ← okText_iff] at hc
    generalize okText s = b1 at I1 hc
    generalize okText h = b2 at I2 hc
    clear e hm hmo l1 l2
    cases b1
    · clear hc
      go_enter Tryz.func70, Tryz.ntmps70
      go_wp2_with (first
        | (go_at_call 88; refine (HM.out _).mono ?_; rintro e w1 ⟨rfl, rfl⟩)
        | (go_at_call 72; ((with_reducible refine (I1.out _).mono ?_); rintro e w1 ⟨v1, rfl, hb1⟩))
        | (go_at_call 72; ((with_reducible refine (I2.out _).mono ?_); rintro e w2 ⟨v2, rfl, hb2⟩)))
      go_ret
      exact ⟨rfl, below_trans' hb1 hb2⟩
    · cases b2
      · clear hc
        go_enter Tryz.func70, Tryz.ntmps70
        go_wp2_with (first
          | (go_at_call 88; refine (HM.out _).mono ?_; rintro e w1 ⟨rfl, rfl⟩)
          | (go_at_call 72; ((with_reducible refine (I1.out _).mono ?_); rintro e w1 ⟨v1, rfl, hb1⟩))
          | (go_at_call 72; ((with_reducible refine (I2.out _).mono ?_); rintro e w2 ⟨v2, rfl, hb2⟩)))
        go_ret
        exact ⟨rfl, below_trans' hb1 hb2⟩
      · exact absurd ⟨rfl, rfl⟩ hc
  · rw [e]
    rw [hmo.1 hm] at HM
    have d1 : decide ((64 : Int) < (s.size : Int)) = false := by simp; omega
    have d2 : decide ((64 : Int) < (h.size : Int)) = false := by simp; omega
    have I1 := Lib.hid (fun W => ref_ixb s W (by omega))
    have I2 := Lib.hid (fun W => ref_ixb h W (by omega))
    rw [(okText_iff s).2 c1] at I1
    rw [(okText_iff h).2 c2] at I2
    clear e hm hmo l1 l2 c1 c2
    go_enter Tryz.func70, Tryz.ntmps70
    go_wp2_with (first
      | (go_at_call 88; refine (HM.out _).mono ?_; rintro e w1 ⟨rfl, rfl⟩)
      | (go_at_call 72; ((with_reducible refine (I1.out _).mono ?_); rintro e w1 ⟨v1, rfl, hb1⟩))
      | (go_at_call 72; ((with_reducible refine (I2.out _).mono ?_); rintro e w2 ⟨v2, rfl, hb2⟩)))
    go_ret
    exact ⟨rfl, below_trans' hb1 hb2⟩
end Go.Proofs.YtgcddjgkieambaaGreatDoor
