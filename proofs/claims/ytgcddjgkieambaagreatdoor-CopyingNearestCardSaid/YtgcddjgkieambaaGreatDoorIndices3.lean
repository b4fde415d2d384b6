/- The walk of 'indices' at texts that are not too long. -/
import Derived.Test.YtgcddjgkieambaaGreatDoorIndices2
set_option linter.unusedVariables false
set_option linter.unusedSimpArgs false
namespace Go.Proofs.YtgcddjgkieambaaGreatDoor
open Go.RowKit

/-- What 'indices' returns where no text is too long. -/
def IndOut (w : World) (L : List ByteArray) (e : Ending) (w' : World) : Prop :=
  (((∀ j, j < L.length → allChars (L.getD j ByteArray.empty)) ∧ e = .returned (.tuple #[.slice (some ⟨w.heap.size, 0, none⟩) L.length L.length, .int .i64 0]) ∧ IndO w L L.length w') ∨
    ((∃ j, j < L.length ∧ ¬ allChars (L.getD j ByteArray.empty)) ∧ e = .returned (.tuple #[.slice none 0 0, .int .i64 41]))) ∧ Below w.heap.size w w'

theorem extract_one (s : ByteArray) (i : Nat) (h : i < s.size) : s.extract i (i + 1) = ⟨#[s[i]]⟩ := by
  apply ByteArray.ext
  rw [ByteArray.data_extract]
  apply Array.ext'
  simp [Array.toList_extract, List.extract_eq_take_drop]
  have h' : i < s.data.toList.length := by simpa using h
  rw [List.take_one, List.head?_drop, List.getElem?_eq_getElem h']
  rfl

set_option maxRecDepth 100000 in
set_option maxHeartbeats 2000000 in
theorem indices_short (b c : Nat) (L : List ByteArray) (w : World) (hL : L.length ≤ 1000000) (h : Strs w b L) (hl : ∀ j, j < L.length → (L.getD j ByteArray.empty).size ≤ 64) :
    Calls Tryz.prog 96 #[.slice (some ⟨b, 0, none⟩) L.length c] w (IndOut w L) := by
  have hd : decide (0 ≤ firstLong L) = false := by rw [firstLong_none hl]; rfl
  have hc := Lib.hid (containsLong b c L w hL h false hd)
  have hmk := fun W => run_mk (P := Tryz.prog) 37 38 _ _ Tryz.underlying37 info38 L.length (L.length : Int) rfl (by omega) (by omega) W
  obtain ⟨i0, hi, hz0, hz1, hz2⟩ := info_parts info3
  have H := Lib.hid h
  have HL := Lib.hid hl
  clear h hl hd
  go_enter Tryz.func96, Tryz.ntmps96
  go_wp2_with (go_at_call 120; refine hc.out.mono ?_; rintro e w' ⟨rfl, rfl⟩)
  have H0 := RowA.made w 38 (.slice none 0 0) L.length rfl
  go_loopw [17] (fun i wr => ∃ k : Nat, k ≤ L.length ∧ i = .int .i64 k ∧ IndO w L k wr) (fun i _ => L.length - (intOf i).toNat)
  case atStart => exact ⟨0, Nat.zero_le _, rfl, fun _ => .slice none 0 0, H0.congr fun j hj => by simp, fun j hj => absurd hj (by omega), below_alloc0 _⟩
  case round =>
    obtain ⟨k, hk, rfl, hO⟩ := hrel
    clear H0 hmk hc
    by_cases hlt : k < L.length
    · obtain ⟨vals, hO1, hO2, hO3⟩ := hO
      obtain ⟨s, hs⟩ : ∃ s, s = L.getD k ByteArray.empty := ⟨_, rfl⟩
      have hcs := (H.out.later hO3).2 k hlt
      have hss := HL.out k hlt
      rw [← hs] at hcs hss
      have Hs := Lib.hid hs
      have HO2 := Lib.hid hO2
      clear hs hO2
      have hd0 : decide ((k : Int) < (L.length : Int)) = true := by simp; omega
      have hd1 : decide (k < L.length) = true := by simp; omega
      have hsz := hO3.size
      have hgl := hO1.lt
      obtain ⟨wo, rfl⟩ : ∃ wo : World, wo = wr := ⟨_, rfl⟩
      go_wp2
      go_loopw [24] (fun z wx => ∃ i : Nat, i ≤ s.size ∧ z = .int .i64 i ∧ IndI w L k vals wo i wx) (fun z _ => s.size - (intOf z).toNat)
      case atStart => exact ⟨0, Nat.zero_le _, rfl, IndI.start hO1⟩
      case round =>
        obtain ⟨i, his, rfl, hI⟩ := hrel
        by_cases hil : i < s.size
        · obtain ⟨v, h1, h2, h3, h4⟩ := hI
          have hex := extract_one s i hil
          obtain ⟨ch, hch⟩ : ∃ ch, ch = s[i] := ⟨_, rfl⟩
          rw [← hch] at hex
          have hcat : s.data.toList[i]? = some ch := by
            rw [hch, List.getElem?_eq_getElem (by simpa using hil)]; rfl
          have cg : wr.cell? ⟨w.heap.size, k, none⟩ = some v := (h1.cell hlt).trans (by simp)
          have Hcat := Lib.hid hcat
          clear hcat hch
          by_cases hch0 : 0 ≤ Cm.ixc ch
          · have hd2 : decide (0 ≤ Cm.ixc ch) = true := by simpa using hch0
            have hN := Lib.hid (fun (w1 : World) (v' : Value) (o : Obj) a b => IndI.step (o := o) (w1 := w1) (v' := v') hlt hgl h1 h2 h3 h4 (by rw [← Hs.out]; exact hil) (by rw [← Hs.out]; exact Hcat.out) hch0 a b)
            have hlw := h1.lt
            have hfar := Lib.hid (fun (w1 : World) (o : Obj) (hg : (wr.alloc o).grownBy w1 v.ownBlock) =>
              (⟨(hg.cell_far ⟨w.heap.size, k, none⟩ (by simp; omega) (fun e => by have h5 : wo.heap.size ≤ w.heap.size := (h2.lt _ e.symm).1; omega)).trans (((h1.alloc o).cell hlt).trans (by simp)),
                (hg.frozen_far ⟨w.heap.size, k, none⟩ (by simp; omega) (fun e => by have h5 : wo.heap.size ≤ w.heap.size := (h2.lt _ e.symm).1; omega)).trans ((h1.alloc o).frozen k)⟩ : w1.cell? ⟨w.heap.size, k, none⟩ = some v ∧ w1.frozen? ⟨w.heap.size, k, none⟩ = false))
            have hwx := h3.size
            obtain ⟨xs, hxs⟩ : ∃ xs, xs = (((row (L.getD k ByteArray.empty)).take i).map fun (z : Nat) => Value.int .i64 z) := ⟨_, rfl⟩
            rw [← hxs] at h2 hN
            clear hxs h1 h3 h4
            go_wp2_with (first
              | (at_builtin; refine wpList_append_own _ rfl _ _ 38 rfl wo.heap.size 3 i0 (.int .i64 0) 1 8 Tryz.underlying38 hi hz0 hz1 hz2 rfl (by decide) _ _ _ rfl (h2.alloc _) ⟨wr.heap.size, 0, none⟩ 1 1 [.int .i64 (Cm.ixc ch)] rfl rfl ?c1 ?c2 ?c3 ?c4 ?c5 ?_)
              | (go_at_call 84; refine (index_one _ _).mono ?_; rintro e w' ⟨rfl, rfl⟩))
            case c1 =>
              intro j u hj
              match j, hj with
              | 0, hj => simp at hj; subst hj; simp [Addr.add]
            case c2 => intro u hu; simp at hu; subst hu; rfl
            case c3 => unfold maxLen; omega
            case c4 => omega
            case c5 => simp; omega
            · intro v' w1 hown' hgrow _
              obtain ⟨cg1, fg1⟩ := hfar.out _ _ hgrow
              have hN2 := Lib.hid (hN.out _ _ _ hown' hgrow)
              obtain ⟨gg, cap, hv, _, _⟩ := hown'.form (by omega)
              clear hown' hgrow h2 cg
              subst hv
              go_wp2
              go_roundw
              case rel => exact ⟨i + 1, by omega, by go_num, hN2.out⟩
              case measure => simp [intOf]; omega
          · have hd2 : decide (0 ≤ Cm.ixc ch) = false := by simpa using hch0
            have hbad : Hid (∃ j, j < L.length ∧ ¬ allChars (L.getD j ByteArray.empty)) := ⟨k, hlt, fun hall => hch0 (hall ch (by rw [← Hs.out]; exact List.mem_of_getElem? Hcat.out))⟩
            have hbe := Lib.hid (below_only hO3 h3 (Nat.le_refl _) hsz)
            clear hO3 hO1 h1 h2 h3 h4 cg hcs hch0
            go_wp2_with (go_at_call 84; refine (index_one _ _).mono ?_; rintro e w' ⟨rfl, rfl⟩)
            go_ret2
            exact ⟨.inr ⟨hbad.out, rfl⟩, hbe.out⟩
        · obtain rfl : i = s.size := by omega
          have hN := Lib.hid (IndI.done (by rw [← Hs.out]; exact hI) HO2.out hO3 hO1)
          clear hI hO1 hO3 hcs
          go_wp2
          go_roundw
          case rel => exact ⟨k + 1, by omega, by go_num, hN.out⟩
          case measure => simp [intOf]; omega
    · obtain rfl : k = L.length := by omega
      have HO := Lib.hid hO
      clear hO
      go_wp2
      go_ret2
      exact ⟨.inl ⟨fun j hj => by
        obtain ⟨vals, _, h2, _⟩ := HO.out
        exact (h2 j hj).2, rfl, HO.out⟩, by
        obtain ⟨vals, _, _, h3⟩ := HO.out
        exact h3⟩
end Go.Proofs.YtgcddjgkieambaaGreatDoor
