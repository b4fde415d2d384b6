/- The walks of 'Char' and of the reference's: the character of a code. -/
import Derived.Test.YtgcddjgkieambaaGreatDoorCharP
import Derived.Test.YtgcddjgkieambaaGreatDoorApartP
set_option linter.unusedVariables false
set_option linter.unusedSimpArgs false
namespace Go.Proofs.YtgcddjgkieambaaGreatDoor
open Go.RowKit Go.Maps Go.WideMaps

theorem law9 : Keyed Tryz.prog 9 := string_keyed Tryz.underlying9
theorem zero9 (w : World) : (zeroValue 9).run Tryz.prog w = .ok (.string ⟨#[]⟩) w := by kernel_rfl

set_option maxRecDepth 100000 in
set_option maxHeartbeats 8000000 in
theorem Char_loop (s : ByteArray) (w : World) (hs : s.size ≤ 1000) (c : ByteArray) (z : Int) (hY : (∃ i, i < 37 ∧ Cm.codeB i = s ∧ c = chB i ∧ z = 0) ∨ ((∀ i, i < 37 → Cm.codeB i ≠ s) ∧ c = ⟨#[]⟩ ∧ z = 3)) :
    Calls Tryz.prog 37 #[.string s] w fun e w' => e = .returned (.tuple #[.string c, .int .i64 z]) ∧ Below w.heap.size w w' := by
  have hmm := @run_makeMap Tryz.prog
  have f0 := field96_0
  have HY := Lib.hid hY
  clear hY
  go_enter Tryz.func37, Tryz.ntmps37
  go_wp2_with (go_at_call 85; refine (table_any _).mono ?_; rintro e w1 ⟨rfl, hb1⟩)
  have HM : Hid (w1.ownsMap Tryz.prog 9 (plainElem (H := Unit) Tryz.prog 9) w.heap.size 0 (mapC 0)) := Lib.hid ((World.ownsMap_made w Tryz.prog 9 (plainElem (H := Unit) Tryz.prog 9)).kept (row := none) ⟨hb1.os, hb1.tape, hb1.output, hb1.size, fun k hk _ => hb1.block k hk⟩ (by simp))
  have HB := Lib.hid (below_trans' (below_alloc0 _) hb1)
  clear hb1
  go_loopw [11] (fun v11 wx => ∃ k : Nat, k ≤ 37 ∧ v11 = .int .i64 k ∧ wx.ownsMap Tryz.prog 9 (plainElem (H := Unit) Tryz.prog 9) w.heap.size k (mapC k) ∧ Below w.heap.size w wx) (fun v11 _ => 37 - (intOf v11).toNat)
  case atStart => exact ⟨0, by omega, rfl, HM.out, HB.out⟩
  case round =>
    obtain ⟨k, hk, rfl, hown, hb⟩ := hrel
    by_cases hlt : k < 37
    · have f1 : decide ((k : Int) < 37) = true := by simp; omega
      have f2 : (k : Int) < 37 := by omega
      have f3 : (0 : Int) ≤ (k : Int) := by omega
      have f4 : (k : Int) + 1 ≤ 37 := by omega
      have f5 : (k : Int) ≤ (k : Int) + 1 := by omega
      have f6 : (0 : Int) ≤ (k : Int) + 1 := by omega
      have q1 : IntKind.i64.wrap ((k : Int) + 1) = (k : Int) + 1 := IntWalk.i64_in _ (by omega)
      have hi := sent_at_nat k hlt
      have hsl := char_slice k hlt
      unfold charsB at hsl
      have hkey : keyOf Tryz.prog 9 (.string (Cm.codeB k)) = some (codeK k) := keyOf_string_mk Tryz.underlying9 (by have := codeB_small k; unfold maxLen; omega)
      have hval : (plainElem (H := Unit) Tryz.prog 9) (.string (chB k)) = some (charV k, []) := plainElem_string Tryz.underlying9 (by unfold maxLen; show 1 ≤ _; omega)
      have hmc : mapC (k + 1) = (mapC k).put (codeK k) (charV k) := rfl
      obtain ⟨cd, hcd⟩ : ∃ c, c = Cm.codeB k := ⟨_, rfl⟩
      obtain ⟨fm, hfm⟩ : ∃ c, c = Cm.famZ k := ⟨_, rfl⟩
      obtain ⟨ch, hch⟩ : ∃ c, c = chB k := ⟨_, rfl⟩
      rw [← hcd] at hi hkey
      rw [← hfm] at hi
      rw [← hch] at hsl hval
      have HMC := Lib.hid hmc
      have Hkey := Lib.hid hkey
      have Hval := Lib.hid hval
      have Hown := Lib.hid hown
      have Hb := Lib.hid hb
      have hsz := hb.size
      clear hcd hfm hch hmc hkey hval hown hb
      go_wp2
      have c0 : (wr.alloc (.cells #[.string cd, .int .i64 fm] 96)).cell? ⟨wr.heap.size, 0, none⟩ = some (.string cd) := (Blk.new wr 96 #[.string cd, .int .i64 fm]).cell 0
      have HO1 := Lib.hid (Hown.out.alloc (.cells #[.string cd, .int .i64 fm] 96)).drew
      have HB1 := Lib.hid ((Hb.out.alloc hsz (.cells #[.string cd, .int .i64 fm] 96)).drew)
      obtain ⟨W1, hW1⟩ : ∃ W, W = wr.alloc (.cells #[.string cd, .int .i64 fm] 96) := ⟨_, rfl⟩
      rw [← hW1] at c0 HO1 HB1 ⊢
      have hs1 : w.heap.size ≤ W1.drew.heap.size := HB1.out.size
      have hlt1 : wr.heap.size < W1.drew.heap.size := by rw [hW1]; show wr.heap.size < (wr.heap.push _).size; simp
      have hlt0 := Hown.out.lt
      obtain ⟨w2, hrun, hown2, hgrow2⟩ := HO1.out.update law9 Tryz.underlying99 (by unfold maxLen; omega) Hkey.out Hval.out
      have c2 : w2.cell? ⟨wr.heap.size, 0, none⟩ = some (.string cd) := (hgrow2.cell_far ⟨wr.heap.size, 0, none⟩ hlt1 (by simp; omega)).trans c0
      have HR := Lib.hid (And.intro hown2 (HB1.out.grown hgrow2 hs1 (fun j hj => by cases hj; exact Nat.le_refl _)))
      clear hW1 hi f0 hown2 hgrow2 hlt1 hlt0
      go_region_held3 (fun w' => w'.cell? ⟨wr.heap.size, 0, none⟩ = some (.string cd)) (simp [*]) (fail)
      all_goals
        go_wp2
        go_roundw
        case rel => exact ⟨k + 1, by omega, by go_num, by rw [HMC.out]; exact HR.out.1, HR.out.2⟩
        case measure => simp [intOf] <;> omega
    · obtain rfl : k = 37 := by omega
      have f1 : decide (((37 : Nat) : Int) < 37) = false := by simp
      have hkey : keyOf Tryz.prog 9 (.string s) = some (.string s.data.toList) := keyOf_string_mk Tryz.underlying9 (by unfold maxLen; omega)
      have hz : plainElem (H := Unit) Tryz.prog 9 (.string ⟨#[]⟩) = some (.lit (.string []), []) := plainElem_string Tryz.underlying9 (by decide)
      obtain ⟨v, ps, hlook, hv⟩ := hown.look_ok law9 Tryz.underlying99 (zero9 wr) hz hkey
      obtain ⟨t, rfl, ht, _⟩ := plainElem_string_inv Tryz.underlying9 hv
      rcases HY.out with ⟨i, hi, hci, hc, rfl⟩ | ⟨hno, hc, rfl⟩
      · obtain ⟨h1, h2⟩ := mapC_has i 37 (by omega) hi
        have hk' : codeK i = .string s.data.toList := by rw [← hci]
        rw [hk'] at h1
        rw [h1] at hlook
        have hct : t = c := by
          have h3 := h2 (.lit (.string []))
          rw [hk'] at h3
          rw [h3] at ht
          have : [Cm.chars.getD i 0] = t.data.toList := by simp at ht; simpa using ht.1
          rw [hc]
          exact ByteArray.ext (Array.ext' (by rw [← this]; rfl))
        subst hct
        have Hb := Lib.hid hb
        clear h1 h2 hk' ht hv hz hkey hown hb hci hc hi
        go_wp2
        go_ret2
        exact ⟨rfl, Hb.out⟩
      · rw [mapC_not s hno 37 (by omega)] at hlook
        have Hb := Lib.hid hb
        subst hc
        clear ht hv hz hkey hown hb hno
        go_wp2
        go_ret2
        exact ⟨rfl, Hb.out⟩
/-- What both give for a code: its character, or an error. -/
def ChrOf (s c : ByteArray) (z : Int) : Prop := (∃ i, i < 37 ∧ Cm.codeB i = s ∧ c = chB i ∧ z = 0) ∨ ((∀ i, i < 37 → Cm.codeB i ≠ s) ∧ c = ⟨#[]⟩ ∧ z = 3)
theorem chr_some (s : ByteArray) : ∃ c z, ChrOf s c z := by
  rcases code_or s with ⟨i, hi, h⟩ | h
  · exact ⟨chB i, 0, .inl ⟨i, hi, h, rfl, rfl⟩⟩
  · exact ⟨⟨#[]⟩, 3, .inr ⟨h, rfl, rfl⟩⟩

set_option maxRecDepth 100000 in
set_option maxHeartbeats 8000000 in
theorem refChar_any (s c : ByteArray) (z : Int) (w : World) (hY : ChrOf s c z) : Calls Tryz.prog 40 #[.string s] w fun e w' => e = .returned (.tuple #[.string c, .int .i64 z]) ∧ Below w.heap.size w w' := by
  have HY := Lib.hid hY
  clear hY
  go_enter Tryz.func40, Tryz.ntmps40
  go_wp2_with (go_at_call 73; refine (ref_codes _).mono ?_; rintro e w2 ⟨rfl, hC, hb2⟩; have HC := Lib.hid hC; have HB := Lib.hid hb2; clear hC hb2)
  go_loopw [5] (fun v5 wx => ∃ k : Nat, k ≤ 37 ∧ v5 = .int .i64 k ∧ (∀ j, j < k → Cm.codeB j ≠ s) ∧ ∃ q, wx = w2.drewN q) (fun v5 _ => 37 - (intOf v5).toNat)
  case atStart => exact ⟨0, by omega, rfl, fun j hj => by omega, 0, rfl⟩
  case round =>
    obtain ⟨k, hk, rfl, hno, q, rfl⟩ := hrel
    have Hno := Lib.hid hno
    clear hno
    by_cases hlt : k < 37
    · have f1 : decide ((k : Int) < 37) = true := by simp; omega
      have f2 : (k : Int) < 37 := by omega
      have f3 : (0 : Int) ≤ (k : Int) := by omega
      have q1 : IntKind.i64.wrap ((k : Int) + 1) = (k : Int) + 1 := IntWalk.i64_in _ (by omega)
      have c1 := HC.out.2 k hlt
      have lg := HC.out.1
      have hsl := char_slice k hlt
      unfold charsB at hsl
      by_cases he : Cm.codeB k = s
      · have e1 : c = chB k := by
          rcases HY.out with ⟨i, hi, hci, hc, _⟩ | ⟨h, _⟩
          · rw [hc, codes_apart hi hlt (hci.trans he.symm)]
          · exact absurd he (h k hlt)
        have e2 : z = 0 := by
          rcases HY.out with ⟨i, hi, hci, hc, h⟩ | ⟨h, _⟩
          · exact h
          · exact absurd he (h k hlt)
        subst e1 e2
        rw [he] at c1
        clear he
        go_wp2
        go_ret2
        exact ⟨rfl, below_drewN' HB.out q⟩
      · have g1 := bytes_ne he
        have g2 := bytes_ne' he
        have He := Lib.hid he
        generalize Cm.codeB k = t at c1 g1 g2
        clear he
        go_wp2
        go_roundw
        case rel => exact ⟨k + 1, by omega, by go_num, fun j hj => by
          by_cases e : j = k
          · subst e; exact He.out
          · exact Hno.out j (by omega), q, rfl⟩
        case measure => simp [intOf] <;> omega
    · obtain rfl : k = 37 := by omega
      have e1 : c = ⟨#[]⟩ := by
        rcases HY.out with ⟨i, hi, hci, hc, _⟩ | ⟨_, h, _⟩
        · exact absurd hci (Hno.out i hi)
        · exact h
      have e2 : z = 3 := by
        rcases HY.out with ⟨i, hi, hci, hc, _⟩ | ⟨_, _, h⟩
        · exact absurd hci (Hno.out i hi)
        · exact h
      subst e1 e2
      go_wp2
      go_ret2
      exact ⟨rfl, below_drewN' HB.out q⟩
end Go.Proofs.YtgcddjgkieambaaGreatDoor
