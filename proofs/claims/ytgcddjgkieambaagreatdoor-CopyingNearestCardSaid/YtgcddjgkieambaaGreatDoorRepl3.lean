/- The walk of the byte replacer: each byte through its table. -/
import Derived.Test.YtgcddjgkieambaaGreatDoorRepl2
import Derived.Laws.IdiomStrings
set_option linter.unusedVariables false
set_option linter.unusedSimpArgs false
namespace Go.Proofs.YtgcddjgkieambaaGreatDoor
open Go.RowKit

def byteAt (s : ByteArray) (j : Nat) : UInt8 := s.data.toList.getD j 0
theorem byteAt_eq (s : ByteArray) (j : Nat) (h : j < s.size) : s[j] = byteAt s j := by
  unfold byteAt
  rw [getD_get _ _ (by simpa using h)]; rfl
/-- Each byte through f. -/
def mapB (f : UInt8 → UInt8) (s : ByteArray) : ByteArray := ⟨(s.data.toList.map f).toArray⟩
theorem mapB_same {f : UInt8 → UInt8} {s : ByteArray} (h : ∀ j, j < s.size → f (byteAt s j) = byteAt s j) : mapB f s = s := by
  unfold mapB
  have : s.data.toList.map f = s.data.toList := by
    apply List.ext_getElem (by simp)
    intro j h1 h2
    rw [List.getElem_map]
    have := h j (by simpa using h2)
    unfold byteAt at this
    rwa [getD_get _ _ h2] at this
  rw [this]
/-- A buffer of n bytes. -/
def Buf (w : World) (g n : Nat) (F : Nat → UInt8) : Prop := g < w.heap.size ∧ ∀ j, j < n → w.cell? ⟨g, j, none⟩ = some (.int .u8 (F j).toNat) ∧ w.frozen? ⟨g, j, none⟩ = false
theorem Buf.put {w : World} {g n : Nat} {F F' : Nat → UInt8} (h : Buf w g n F) {k : Nat} {u : UInt8} (hk : k < n) (hF : ∀ j, j < n → F' j = if j = k then u else F j) : Buf (w.setCell ⟨g, k, none⟩ (.int .u8 u.toNat)) g n F' :=
  ⟨by simpa [World.setCell] using h.1, fun j hj => by
    rw [hF j hj]
    by_cases e : j = k
    · subst e
      rw [if_pos rfl]
      exact ⟨World.cell?_setCell_same _ _ _ (h.2 j hj).1, by simpa using (h.2 j hj).2⟩
    · rw [if_neg e]
      exact ⟨(World.cell?_setCell_other _ _ _ _ (fun h => e (by injection h with _ h; exact h.symm))).trans (h.2 j hj).1, by simpa using (h.2 j hj).2⟩⟩
theorem Buf.congr {w : World} {g n : Nat} {F F' : Nat → UInt8} (h : Buf w g n F) (hF : ∀ j, j < n → F' j = F j) : Buf w g n F' := ⟨h.1, fun j hj => by rw [hF j hj]; exact h.2 j hj⟩
theorem conv_bytes (s : ByteArray) (W : World) : ∃ cap W1, (convert 9 180 (.string s)).run Tryz.prog W = .ok (.slice (some ⟨W.heap.size, 0, none⟩) s.size cap) W1 ∧ Buf W1 W.heap.size s.size (byteAt s) ∧ Below W.heap.size W W1 := by
  refine ⟨_, _, run_bytes_of_string (P := Tryz.prog) W 9 180 5 s Tryz.underlying9 Tryz.underlying180 Tryz.underlying5, ⟨by simp, fun j hj => ?_⟩, ((Below.refl _ _).drew.alloc (Nat.le_refl _) _)⟩
  have hj' : j < s.data.size := hj
  have h1 := World.cell?_alloc_mark W.drew (bytesRow s (grownCap W s.size 0 5)) 5 ((bytesRow s (grownCap W s.size 0 5)).size, (bytesRow s (grownCap W s.size 0 5)).size + 1) j
  have h2 := bytesRow_at s (grownCap W s.size 0 5) j hj'
  have h3 := World.frozen?_alloc_mark W.drew (bytesRow s (grownCap W s.size 0 5)) 5 (bytesRow s (grownCap W s.size 0 5)).size ((bytesRow s (grownCap W s.size 0 5)).size + 1) j
  have hlt : j < (bytesRow s (grownCap W s.size 0 5)).size := (Array.getElem?_eq_some_iff.1 h2).1
  refine ⟨?_, ?_⟩
  · refine h1.trans (h2.trans ?_)
    rw [← byteAt_eq s j hj]; rfl
  · refine h3.trans ?_
    rw [decide_eq_false (by omega)]; rfl

/-- What holds at the head of each round. -/
def ReRel (f : UInt8 → UInt8) (s : ByteArray) (wo : World) (v5 v6 : Value) (wx : World) : Prop :=
  ∃ i : Nat, i ≤ s.size ∧ v6 = .int .i64 i ∧ Below wo.heap.size wo wx ∧
    ((v5 = .slice none 0 0 ∧ ∀ j, j < i → f (byteAt s j) = byteAt s j) ∨ (∃ g cap, v5 = .slice (some ⟨g, 0, none⟩) s.size cap ∧ wo.heap.size ≤ g ∧ Buf wx g s.size (fun j => if j < i then f (byteAt s j) else byteAt s j)))

theorem ByteTab.at {w : World} {r : Nat} {f : UInt8 → UInt8} (h : ByteTab w r f) (x : UInt8) : w.cell? ⟨r, x.toNat, none⟩ = some (.int .u8 (f x).toNat) := by
  have := RowK.cell h (k := x.toNat) (UInt8.toNat_lt _)
  rwa [show UInt8.ofNat x.toNat = x by simp] at this

set_option maxRecDepth 100000 in
set_option maxHeartbeats 2000000 in
theorem replace_bytes (r : Nat) (f : UInt8 → UInt8) (s : ByteArray) (w : World) (hT : ByteTab w r f) (hs : s.size ≤ 9223372036854775806) :
    Calls Tryz.prog 258 #[.pointer (some ⟨r, 0, none⟩), .string s] w fun e w' => e = .returned (.string (mapB f s)) ∧ Below w.heap.size w w' := by
  have HT := Lib.hid hT
  have hrl := RowK.lt hT
  have hnil0 : ∀ W : World, (binOp .eql 180 (.slice none 0 0) (.slice none 0 0)).run Tryz.prog W = .ok (.bool true) W := fun W => Lib.run_eql_slice_nil W 180 5 none 0 0 0 0 Tryz.underlying180
  have hnil1 : ∀ (W : World) (a : Addr) (n c : Nat), (binOp .eql 180 (.slice (some a) n c) (.slice none 0 0)).run Tryz.prog W = .ok (.bool false) W := fun W a n c => Lib.run_eql_slice_nil W 180 5 (some a) n c 0 0 Tryz.underlying180
  clear hT
  go_enter Tryz.func258, Tryz.ntmps258
  go_wp2
  go_loopw [5, 6] (fun v5 v6 wx => ReRel f s w v5 v6 wx) (fun _ v6 _ => s.size - (intOf v6).toNat)
  case atStart => exact ⟨0, by omega, rfl, Below.refl _ _, .inl ⟨rfl, fun j hj => by omega⟩⟩
  case round =>
    obtain ⟨i, hi, rfl, hb, hst⟩ := hrel
    by_cases hlt : i < s.size
    · have ct := (HT.out.later hb)
      have q1 : IntKind.i64.wrap ((i : Int) + 1) = (i : Int) + 1 := IntWalk.i64_in _ (by omega)
      have d1 : decide ((i : Int) < (s.size : Int)) = true := by simp; omega
      obtain ⟨x, hx⟩ : ∃ x, x = byteAt s i := ⟨_, rfl⟩
      obtain ⟨y, hy⟩ : ∃ y, y = f x := ⟨_, rfl⟩
      have hix : ∀ (h : i < s.size), s[i] = x := fun h => (byteAt_eq s i h).trans hx.symm
      have ct := ByteTab.at (show ByteTab wr r f from HT.out.later hb) x
      rw [← hy] at ct
      have bx : (x.toNat : Int) < 256 := by have := UInt8.toNat_lt x; omega
      have hsz := hb.size
      have Hx := Lib.hid hx
      have Hy := Lib.hid hy
      have Hb := Lib.hid hb
      clear hx hy hb
      by_cases hyx : y = x
      · have d2 : ((y.toNat : Int) != (x.toNat : Int)) = false := by rw [hyx]; simp
        have Hyx := Lib.hid hyx
        have Hst := Lib.hid hst
        clear hyx hst
        go_wp2
        go_roundw
        case rel =>
          refine ⟨i + 1, by omega, by go_num, Hb.out, ?_⟩
          have hfx : f (byteAt s i) = byteAt s i := by rw [← Hx.out, ← Hy.out]; exact Hyx.out
          rcases Hst.out with ⟨e, h⟩ | ⟨g, cap, e, hg, hB⟩
          · exact .inl ⟨e, fun j hj => by
              by_cases e : j = i
              · subst e; exact hfx
              · exact h j (by omega)⟩
          · exact .inr ⟨g, cap, e, hg, hB.congr fun j hj => by
              by_cases e : j = i
              · subst e; simp [hfx]
              · by_cases h2 : j < i
                · simp [h2, show j < i + 1 by omega]
                · simp [h2, show ¬ j < i + 1 by omega]⟩
        case measure => simp [intOf]; omega
      · have d2 : ((y.toNat : Int) != (x.toNat : Int)) = true := by
          simp only [bne_iff_ne, ne_eq]
          exact fun e => hyx (UInt8.toNat_inj.1 (by omega))
        clear hyx
        rcases hst with ⟨rfl, h⟩ | ⟨g, cap, rfl, hg, hB⟩
        · obtain ⟨cap, W1, hcv, hB, hb1⟩ := conv_bytes s wr
          have ct1 := (hb1.cell (p := ⟨r, x.toNat, none⟩) (by simp; omega)).trans ct
          have k1 := hB.2 i hlt
          obtain ⟨k2, k3⟩ := k1
          have hgl : wr.heap.size ≠ r := by omega
          have HN := Lib.hid (hB.put (F' := fun j => if j < i + 1 then f (byteAt s j) else byteAt s j) (u := y) hlt (fun j hj => by
            by_cases e : j = i
            · subst e; rw [if_pos (by omega), if_pos rfl, Hy.out, Hx.out]
            · rw [if_neg e]
              by_cases h2 : j < i
              · rw [if_pos (by omega)]; exact h j h2
              · rw [if_neg (by omega)]))
          have Hb1 := Lib.hid hb1
          clear hB hb1 h
          go_wp2
          go_roundw
          case rel => exact ⟨i + 1, by omega, by go_num, (below_trans' Hb.out Hb1.out).setCell (by simp; omega) _, .inr ⟨_, cap, rfl, hsz, HN.out⟩⟩
          case measure => simp [intOf]; omega
        · obtain ⟨k2, k3⟩ := hB.2 i hlt
          have HN := Lib.hid (hB.put (F' := fun j => if j < i + 1 then f (byteAt s j) else byteAt s j) (u := y) hlt (fun j hj => by
            by_cases e : j = i
            · subst e; rw [if_pos (by omega), if_pos rfl, Hy.out, Hx.out]
            · rw [if_neg e]
              by_cases h2 : j < i
              · rw [if_pos (by omega), if_pos h2]
              · rw [if_neg (by omega), if_neg h2]))
          clear hB
          go_wp2
          go_roundw
          case rel => exact ⟨i + 1, by omega, by go_num, Hb.out.setCell hg _, .inr ⟨g, cap, rfl, hg, HN.out⟩⟩
          case measure => simp [intOf]; omega
    · obtain rfl : i = s.size := by omega
      have Hb := Lib.hid hb
      clear hb
      rcases hst with ⟨rfl, h⟩ | ⟨g, cap, rfl, hg, hB⟩
      · have hm := Lib.hid (mapB_same h)
        clear h
        go_wp2
        go_ret
        exact ⟨by rw [hm.out]; rfl, Hb.out⟩
      · have hl : (s.data.toList.map f).length = s.size := by simp
        have hcb := run_convert_bytes_back (P := Tryz.prog) wr 180 9 5 ⟨g, 0, none⟩ cap (s.data.toList.map f) Tryz.underlying180 Tryz.underlying5 Tryz.underlying9 (fun j hj => by
          have h1 := (hB.2 j (by rw [← hl]; exact hj)).1
          simp only at h1
          rw [if_pos (by rw [← hl]; exact hj)] at h1
          rw [show (⟨g, 0, none⟩ : Addr).add j = ⟨g, j, none⟩ by cases j <;> simp [Addr.add], h1]
          unfold byteAt
          rw [getD_get _ _ (by simpa using hj), List.getElem_map])
        rw [hl] at hcb
        clear hB hl
        go_wp2
        go_ret
        exact ⟨rfl, Hb.out⟩
end Go.Proofs.YtgcddjgkieambaaGreatDoor
