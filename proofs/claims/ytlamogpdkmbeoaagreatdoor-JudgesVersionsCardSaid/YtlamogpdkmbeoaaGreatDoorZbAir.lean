/- The texts AirD, AirE, AirF, RowsG, LogA, LogB in one. -/
import Derived.Test.YtlamogpdkmbeoaaGreatDoorZbAirC
import Derived.Laws.EntriesVeiled
import Derived.Lib.SplitLaws
import Derived.Test.YtlamogpdkmbeoaaGreatDoorZbShelfB
import Derived.Test.YtlamogpdkmbeoaaGreatDoorZbMem
set_option linter.unusedVariables false
set_option linter.unusedSimpArgs false
section PartAirD
/- The walks of call signs: the list of forms, what a text is parted to, what is a call sign. -/
namespace Go.Proofs.YtlamogpdkmbeoaaGreatDoor
open Go.RowKit Go.Lib Go.Shelf

abbrev formCells (B : Nat) : Array Value := #[.int .i64 1, .func (.func 247) #[] #[.pointer (some ⟨B, 0, none⟩)], .int .i64 2, .func (.func 248) #[] #[.pointer (some ⟨B, 0, none⟩)], .int .i64 2, .func (.func 250) #[] #[.pointer (some ⟨B, 0, none⟩)], .int .i64 3, .func (.func 252) #[] #[.pointer (some ⟨B, 0, none⟩)]]

theorem forms_any (w : World) : Calls Tryz.prog 233 #[] w fun e w' => e = .returned (.slice (some ⟨w.heap.size + 1, 0, none⟩) 4 4) ∧
    w' = (w.alloc (.cells #[.func (.func 245) #[] #[]] 275)).alloc (.cells (formCells w.heap.size) 299) := by
  go_enter Tryz.func233, Tryz.ntmps233
  go_wp2
  go_ret
  exact ⟨rfl, rfl⟩
theorem below_four0 {w w1 : World} (h : Below w.heap.size w w1) (a b c d : Value) : Below w.heap.size w ((((w1.setCell ⟨w.heap.size, 0, none⟩ a).setCell ⟨w.heap.size, 1, none⟩ b).setCell ⟨w.heap.size, 2, none⟩ c).setCell ⟨w.heap.size, 3, none⟩ d) :=
  (((h.setCell (Nat.le_refl _) _).setCell (Nat.le_refl _) _).setCell (Nat.le_refl _) _).setCell (Nat.le_refl _) _
theorem below_four {w w1 : World} (h : Below w.heap.size w w1) (o : Obj) (a b c d : Value) : Below w.heap.size w (((((w1.setCell ⟨w.heap.size, 0, none⟩ a).setCell ⟨w.heap.size, 1, none⟩ b).setCell ⟨w.heap.size, 2, none⟩ c).setCell ⟨w.heap.size, 3, none⟩ d).alloc o) :=
  (below_four0 h a b c d).alloc (below_four0 h a b c d).size o

set_option maxHeartbeats 4000000 in
theorem split_1 (s : ByteArray) (x0 : ByteArray) (ws : List ByteArray) (w : World) (hs : s.size ≤ 16) (hE : Env w) (zx0 : x0.size ≤ 9223372036854775807)
    (hsp : ∀ W, Below w.heap.size w W → Calls Tryz.prog 232 #[.string s, .string ⟨#[47]⟩] W fun e w' => e = .returned (.slice (some ⟨W.heap.size, 0, none⟩) 1 1) ∧ w' = W.alloc (.cells #[.string x0] 9)) :
    Calls Tryz.prog 204 #[.string s] w fun e w' => Parted (baseB x0) e ∧ Below w.heap.size w w' := by
  have hsz : (s.size : Int) ≤ 16 := by omega
  have hsp1 := hsp _ ((Below.refl _ w).alloc (Nat.le_refl _) zeroParts)
  clear hsp hs
  have HE := Lib.hid hE
  clear hE
  go_enter Tryz.func204, Tryz.ntmps204
  go_wp2_with (first | (go_at_call 232; refine hsp1.mono ?_; rintro e w1 ⟨rfl, rfl⟩) | (go_at_call 233; refine (forms_any _).mono ?_; rintro e w2 ⟨rfl, rfl⟩))
  obtain ⟨W0, hW0⟩ : ∃ W0, (((w.alloc zeroParts).alloc (.cells #[.string x0] 9)).alloc (.cells #[.func (.func 245) #[] #[]] 275)).alloc (.cells (formCells (w.heap.size + 1 + 1)) 299) = W0 := ⟨_, rfl⟩
  have hP : Blk W0 w.heap.size 273 #[.string ⟨#[]⟩, .string ⟨#[]⟩, .string ⟨#[]⟩, .string ⟨#[]⟩] := by rw [← hW0]; exact (((Blk.new w _ _).alloc _).alloc _).alloc _
  have hS : Blk W0 (w.heap.size + 1) 9 #[.string x0] := by rw [← hW0]; have := ((Blk.new (w.alloc zeroParts) 9 #[.string x0]).alloc (.cells #[.func (.func 245) #[] #[]] 275)).alloc (.cells (formCells (w.heap.size + 1 + 1)) 299); rwa [World.size_alloc] at this
  have hG : Blk W0 (w.heap.size + 1 + 1) 275 #[.func (.func 245) #[] #[]] := by rw [← hW0]; have := (Blk.new ((w.alloc zeroParts).alloc (.cells #[.string x0] 9)) 275 #[.func (.func 245) #[] #[]]).alloc (.cells (formCells (w.heap.size + 1 + 1)) 299); rwa [World.size_alloc, World.size_alloc] at this
  have hF : Blk W0 (w.heap.size + 1 + 1 + 1) 299 (formCells (w.heap.size + 1 + 1)) := by rw [← hW0]; have := Blk.new (((w.alloc zeroParts).alloc (.cells #[.string x0] 9)).alloc (.cells #[.func (.func 245) #[] #[]] 275)) 299 (formCells (w.heap.size + 1 + 1)); rwa [World.size_alloc, World.size_alloc, World.size_alloc] at this
  have hb0 : Below w.heap.size w W0 := by rw [← hW0]; exact ((((Below.refl _ w).alloc (Nat.le_refl _) _).alloc (by simp) _).alloc (by simp; omega) _).alloc (by simp; omega) _
  have hz0 : W0.heap.size = w.heap.size + 1 + 1 + 1 + 1 := by rw [← hW0]; simp
  rw [hW0]
  clear hW0
  have hE0 := Lib.hid (HE.out.below HE.out.big hb0)
  clear HE
  have HP_ := Lib.hid hP
  have HS_ := Lib.hid hS
  have HG_ := Lib.hid hG
  have HF_ := Lib.hid hF
  have HB0_ := Lib.hid hb0
  have HZ0_ := Lib.hid hz0
  clear hP hS hG hF hb0 hz0
  go_loopw [17] (fun s17 wr => ((s17 = .int .i64 0) ∨ (s17 = .int .i64 1 ∧ baseB x0 = false) ∨ (s17 = .int .i64 2 ∧ baseB x0 = false) ∨ (s17 = .int .i64 3 ∧ baseB x0 = false) ∨ (s17 = .int .i64 4 ∧ baseB x0 = false)) ∧ Below W0.heap.size W0 wr) (fun s17 _ => 4 - (intOf s17).toNat)
  case atStart => exact ⟨.inl rfl, Below.refl _ _⟩
  case round =>
    obtain ⟨hrel, hbr⟩ := hrel
    have hE := Lib.hid (hE0.out.below hE0.out.big hbr)
    have hF := HF_.out.later hbr
    have hG := HG_.out.later hbr
    have hS := HS_.out.later hbr
    have hP := HP_.out.later hbr
    have hz := hbr.size
    have hz0 := HZ0_.out
    have hz1 : w.heap.size + 1 + 1 + 1 + 1 ≤ wr.heap.size := by omega
    have f0 : wr.cell? ⟨w.heap.size + 1 + 1 + 1, 0, none⟩ = some (.int .i64 1) := hF.cell 0
    have f1 : wr.cell? ⟨w.heap.size + 1 + 1 + 1, 1, none⟩ = some (.func (.func 247) #[] #[.pointer (some ⟨w.heap.size + 1 + 1, 0, none⟩)]) := hF.cell 1
    have f2 : wr.cell? ⟨w.heap.size + 1 + 1 + 1, 2, none⟩ = some (.int .i64 2) := hF.cell 2
    have f3 : wr.cell? ⟨w.heap.size + 1 + 1 + 1, 3, none⟩ = some (.func (.func 248) #[] #[.pointer (some ⟨w.heap.size + 1 + 1, 0, none⟩)]) := hF.cell 3
    have f4 : wr.cell? ⟨w.heap.size + 1 + 1 + 1, 4, none⟩ = some (.int .i64 2) := hF.cell 4
    have f5 : wr.cell? ⟨w.heap.size + 1 + 1 + 1, 5, none⟩ = some (.func (.func 250) #[] #[.pointer (some ⟨w.heap.size + 1 + 1, 0, none⟩)]) := hF.cell 5
    have f6 : wr.cell? ⟨w.heap.size + 1 + 1 + 1, 6, none⟩ = some (.int .i64 3) := hF.cell 6
    have f7 : wr.cell? ⟨w.heap.size + 1 + 1 + 1, 7, none⟩ = some (.func (.func 252) #[] #[.pointer (some ⟨w.heap.size + 1 + 1, 0, none⟩)]) := hF.cell 7
    have HG := Lib.hid hG
    have HS := Lib.hid hS
    have HP := Lib.hid hP
    have HBR := Lib.hid hbr
    clear hF hG hS hP hbr hz hz0
    rcases hrel with rfl | ⟨rfl, h0⟩ | ⟨rfl, h0⟩ | ⟨rfl, h0⟩ | ⟨rfl, h0⟩
    · -- form 0
      have hcl := fun o : Obj => forms2_any x0 (w.heap.size + 1) (w.heap.size + 1 + 1) 1 (wr.alloc o) zx0 (hE.out.below hE.out.big ((Below.refl _ wr).alloc (Nat.le_refl _) o)) (by simp; omega) (by simp; omega) ((HS.out.alloc _).cell 0) ((HG.out.alloc o).cell 0)
      cases hok : baseB x0 <;> rw [hok] at hcl <;> have Hok := Lib.hid hok <;> clear hok
      · go_wp2_with (go_at_call 247; refine (hcl _).mono ?_; rintro e w3 ⟨⟨c1, c2, c3, c4, rfl⟩, hb3⟩; have hbw3 : Below W0.heap.size W0 w3 := (HBR.out.alloc HBR.out.size _).trans (hb3.mono (by have := HBR.out.size; simp; omega)))
        go_roundw
        case measure => simp [intOf]
        case rel => exact ⟨by simp [Hok.out], hbw3.alloc hbw3.size _⟩
      · have r0 : wr.cell? ⟨w.heap.size, 0, none⟩ = some (.string ⟨#[]⟩) := HP.out.cell 0
        have r1 : wr.cell? ⟨w.heap.size, 1, none⟩ = some (.string ⟨#[]⟩) := HP.out.cell 1
        have r2 : wr.cell? ⟨w.heap.size, 2, none⟩ = some (.string ⟨#[]⟩) := HP.out.cell 2
        have r3 : wr.cell? ⟨w.heap.size, 3, none⟩ = some (.string ⟨#[]⟩) := HP.out.cell 3
        have rf := HP.out.frozen
        go_wp2_with (go_at_call 247; refine (hcl _).mono ?_; rintro e w3 ⟨⟨c1, c2, c3, c4, rfl⟩, hb3⟩; have hP3 := (HP.out.alloc _).later hb3; have hz3 : wr.heap.size + 1 ≤ w3.heap.size := (by have := hb3.size; simp at this; omega); have lt3 : w.heap.size < w3.heap.size := (by omega); have ne4 : ¬ w3.heap.size = w.heap.size := (by omega); have hbw3 : Below W0.heap.size W0 w3 := (HBR.out.alloc HBR.out.size _).trans (hb3.mono (by have := HBR.out.size; simp; omega)); have rf3 := hP3.frozen; have t0 : w3.cell? ⟨w.heap.size, 0, none⟩ = some (.string ⟨#[]⟩) := hP3.cell 0; have t1 : w3.cell? ⟨w.heap.size, 1, none⟩ = some (.string ⟨#[]⟩) := hP3.cell 1; have t2 : w3.cell? ⟨w.heap.size, 2, none⟩ = some (.string ⟨#[]⟩) := hP3.cell 2; have t3 : w3.cell? ⟨w.heap.size, 3, none⟩ = some (.string ⟨#[]⟩) := hP3.cell 3)
        refine bodyPost_ret (v := .tuple #[.agg #[.string c1, .string c2, .string c3, .string c4], .bool true]) ?res rfl ⟨⟨_, _, _, _, ret_p ?val⟩, ?bel⟩
        case val => simp [Hok.out]
        case res => simp [results, Tryz.results204, go_sem, *]
        case bel => exact below_four (HB0_.out.trans (hbw3.mono (by have := HZ0_.out; omega))) _ _ _ _ _
    · -- form 1
      have Hh0 := Lib.hid h0
      clear h0
      go_wp2
      go_roundw
      case rel => exact ⟨.inr (.inr (.inl ⟨rfl, Hh0.out⟩)), HBR.out.alloc (Nat.le_trans (by have := HZ0_.out; omega) hz1) _⟩
      case measure => simp [intOf]
    · -- form 2
      have Hh0 := Lib.hid h0
      clear h0
      go_wp2
      go_roundw
      case rel => exact ⟨.inr (.inr (.inr (.inl ⟨rfl, Hh0.out⟩))), HBR.out.alloc (Nat.le_trans (by have := HZ0_.out; omega) hz1) _⟩
      case measure => simp [intOf]
    · -- form 3
      have Hh0 := Lib.hid h0
      clear h0
      go_wp2
      go_roundw
      case rel => exact ⟨.inr (.inr (.inr (.inr (⟨rfl, Hh0.out⟩)))), HBR.out.alloc (Nat.le_trans (by have := HZ0_.out; omega) hz1) _⟩
      case measure => simp [intOf]
    · -- form 4
      have Hh0 := Lib.hid h0
      clear h0
      have r0 : wr.cell? ⟨w.heap.size, 0, none⟩ = some (.string ⟨#[]⟩) := HP.out.cell 0
      have r1 : wr.cell? ⟨w.heap.size, 1, none⟩ = some (.string ⟨#[]⟩) := HP.out.cell 1
      have r2 : wr.cell? ⟨w.heap.size, 2, none⟩ = some (.string ⟨#[]⟩) := HP.out.cell 2
      have r3 : wr.cell? ⟨w.heap.size, 3, none⟩ = some (.string ⟨#[]⟩) := HP.out.cell 3
      have rf := HP.out.frozen
      go_wp2
      refine bodyPost_ret (v := .tuple #[.agg #[.string ⟨#[]⟩, .string ⟨#[]⟩, .string ⟨#[]⟩, .string ⟨#[]⟩], .bool false]) ?res rfl ⟨⟨_, _, _, _, ret_p ?val⟩, ?bel⟩
      case val => simp [Hh0.out]
      case res => simp [results, Tryz.results204, go_sem, *]
      case bel => exact below_four0 (HB0_.out.trans (HBR.out.mono (by have := HZ0_.out; omega))) _ _ _ _

set_option maxHeartbeats 4000000 in
theorem split_2 (s : ByteArray) (x0 x1 : ByteArray) (ws : List ByteArray) (w : World) (hs : s.size ≤ 16) (hE : Env w) (zx0 : x0.size ≤ 9223372036854775807) (zx1 : x1.size ≤ 9223372036854775807)
    (hsp : ∀ W, Below w.heap.size w W → Calls Tryz.prog 232 #[.string s, .string ⟨#[47]⟩] W fun e w' => e = .returned (.slice (some ⟨W.heap.size, 0, none⟩) 2 2) ∧ w' = W.alloc (.cells #[.string x0, .string x1] 9)) :
    Calls Tryz.prog 204 #[.string s] w fun e w' => Parted ((baseB x1 && areaB x0 && decide (x0.size < x1.size)) || (baseB x0 && strokeB x1)) e ∧ Below w.heap.size w w' := by
  have hsz : (s.size : Int) ≤ 16 := by omega
  have hsp1 := hsp _ ((Below.refl _ w).alloc (Nat.le_refl _) zeroParts)
  clear hsp hs
  have HE := Lib.hid hE
  clear hE
  go_enter Tryz.func204, Tryz.ntmps204
  go_wp2_with (first | (go_at_call 232; refine hsp1.mono ?_; rintro e w1 ⟨rfl, rfl⟩) | (go_at_call 233; refine (forms_any _).mono ?_; rintro e w2 ⟨rfl, rfl⟩))
  obtain ⟨W0, hW0⟩ : ∃ W0, (((w.alloc zeroParts).alloc (.cells #[.string x0, .string x1] 9)).alloc (.cells #[.func (.func 245) #[] #[]] 275)).alloc (.cells (formCells (w.heap.size + 1 + 1)) 299) = W0 := ⟨_, rfl⟩
  have hP : Blk W0 w.heap.size 273 #[.string ⟨#[]⟩, .string ⟨#[]⟩, .string ⟨#[]⟩, .string ⟨#[]⟩] := by rw [← hW0]; exact (((Blk.new w _ _).alloc _).alloc _).alloc _
  have hS : Blk W0 (w.heap.size + 1) 9 #[.string x0, .string x1] := by rw [← hW0]; have := ((Blk.new (w.alloc zeroParts) 9 #[.string x0, .string x1]).alloc (.cells #[.func (.func 245) #[] #[]] 275)).alloc (.cells (formCells (w.heap.size + 1 + 1)) 299); rwa [World.size_alloc] at this
  have hG : Blk W0 (w.heap.size + 1 + 1) 275 #[.func (.func 245) #[] #[]] := by rw [← hW0]; have := (Blk.new ((w.alloc zeroParts).alloc (.cells #[.string x0, .string x1] 9)) 275 #[.func (.func 245) #[] #[]]).alloc (.cells (formCells (w.heap.size + 1 + 1)) 299); rwa [World.size_alloc, World.size_alloc] at this
  have hF : Blk W0 (w.heap.size + 1 + 1 + 1) 299 (formCells (w.heap.size + 1 + 1)) := by rw [← hW0]; have := Blk.new (((w.alloc zeroParts).alloc (.cells #[.string x0, .string x1] 9)).alloc (.cells #[.func (.func 245) #[] #[]] 275)) 299 (formCells (w.heap.size + 1 + 1)); rwa [World.size_alloc, World.size_alloc, World.size_alloc] at this
  have hb0 : Below w.heap.size w W0 := by rw [← hW0]; exact ((((Below.refl _ w).alloc (Nat.le_refl _) _).alloc (by simp) _).alloc (by simp; omega) _).alloc (by simp; omega) _
  have hz0 : W0.heap.size = w.heap.size + 1 + 1 + 1 + 1 := by rw [← hW0]; simp
  rw [hW0]
  clear hW0
  have hE0 := Lib.hid (HE.out.below HE.out.big hb0)
  clear HE
  have HP_ := Lib.hid hP
  have HS_ := Lib.hid hS
  have HG_ := Lib.hid hG
  have HF_ := Lib.hid hF
  have HB0_ := Lib.hid hb0
  have HZ0_ := Lib.hid hz0
  clear hP hS hG hF hb0 hz0
  go_loopw [17] (fun s17 wr => ((s17 = .int .i64 0) ∨ (s17 = .int .i64 1) ∨ (s17 = .int .i64 2 ∧ (baseB x1 && areaB x0 && decide (x0.size < x1.size)) = false) ∨ (s17 = .int .i64 3 ∧ (baseB x1 && areaB x0 && decide (x0.size < x1.size)) = false ∧ (baseB x0 && strokeB x1) = false) ∨ (s17 = .int .i64 4 ∧ (baseB x1 && areaB x0 && decide (x0.size < x1.size)) = false ∧ (baseB x0 && strokeB x1) = false)) ∧ Below W0.heap.size W0 wr) (fun s17 _ => 4 - (intOf s17).toNat)
  case atStart => exact ⟨.inl rfl, Below.refl _ _⟩
  case round =>
    obtain ⟨hrel, hbr⟩ := hrel
    have hE := Lib.hid (hE0.out.below hE0.out.big hbr)
    have hF := HF_.out.later hbr
    have hG := HG_.out.later hbr
    have hS := HS_.out.later hbr
    have hP := HP_.out.later hbr
    have hz := hbr.size
    have hz0 := HZ0_.out
    have hz1 : w.heap.size + 1 + 1 + 1 + 1 ≤ wr.heap.size := by omega
    have f0 : wr.cell? ⟨w.heap.size + 1 + 1 + 1, 0, none⟩ = some (.int .i64 1) := hF.cell 0
    have f1 : wr.cell? ⟨w.heap.size + 1 + 1 + 1, 1, none⟩ = some (.func (.func 247) #[] #[.pointer (some ⟨w.heap.size + 1 + 1, 0, none⟩)]) := hF.cell 1
    have f2 : wr.cell? ⟨w.heap.size + 1 + 1 + 1, 2, none⟩ = some (.int .i64 2) := hF.cell 2
    have f3 : wr.cell? ⟨w.heap.size + 1 + 1 + 1, 3, none⟩ = some (.func (.func 248) #[] #[.pointer (some ⟨w.heap.size + 1 + 1, 0, none⟩)]) := hF.cell 3
    have f4 : wr.cell? ⟨w.heap.size + 1 + 1 + 1, 4, none⟩ = some (.int .i64 2) := hF.cell 4
    have f5 : wr.cell? ⟨w.heap.size + 1 + 1 + 1, 5, none⟩ = some (.func (.func 250) #[] #[.pointer (some ⟨w.heap.size + 1 + 1, 0, none⟩)]) := hF.cell 5
    have f6 : wr.cell? ⟨w.heap.size + 1 + 1 + 1, 6, none⟩ = some (.int .i64 3) := hF.cell 6
    have f7 : wr.cell? ⟨w.heap.size + 1 + 1 + 1, 7, none⟩ = some (.func (.func 252) #[] #[.pointer (some ⟨w.heap.size + 1 + 1, 0, none⟩)]) := hF.cell 7
    have HG := Lib.hid hG
    have HS := Lib.hid hS
    have HP := Lib.hid hP
    have HBR := Lib.hid hbr
    clear hF hG hS hP hbr hz hz0
    rcases hrel with rfl | rfl | ⟨rfl, h1⟩ | ⟨rfl, h1, h2⟩ | ⟨rfl, h1, h2⟩
    · -- form 0
      go_wp2
      go_roundw
      case rel => exact ⟨.inr (.inl rfl), HBR.out.alloc (Nat.le_trans (by have := HZ0_.out; omega) hz1) _⟩
      case measure => simp [intOf]
    · -- form 1
      have hcl := fun o : Obj => forms3_any x0 x1 (w.heap.size + 1) (w.heap.size + 1 + 1) 2 (wr.alloc o) zx1 (hE.out.below hE.out.big ((Below.refl _ wr).alloc (Nat.le_refl _) o)) (by simp; omega) (by simp; omega) ((HS.out.alloc _).cell 0) ((HS.out.alloc _).cell 1) ((HG.out.alloc o).cell 0)
      cases hok : (baseB x1 && areaB x0 && decide (x0.size < x1.size)) <;> rw [hok] at hcl <;> have Hok := Lib.hid hok <;> clear hok
      · go_wp2_with (go_at_call 248; refine (hcl _).mono ?_; rintro e w3 ⟨⟨c1, c2, c3, c4, rfl⟩, hb3⟩; have hbw3 : Below W0.heap.size W0 w3 := (HBR.out.alloc HBR.out.size _).trans (hb3.mono (by have := HBR.out.size; simp; omega)))
        go_roundw
        case measure => simp [intOf]
        case rel => exact ⟨by simp [Hok.out], hbw3.alloc hbw3.size _⟩
      · have r0 : wr.cell? ⟨w.heap.size, 0, none⟩ = some (.string ⟨#[]⟩) := HP.out.cell 0
        have r1 : wr.cell? ⟨w.heap.size, 1, none⟩ = some (.string ⟨#[]⟩) := HP.out.cell 1
        have r2 : wr.cell? ⟨w.heap.size, 2, none⟩ = some (.string ⟨#[]⟩) := HP.out.cell 2
        have r3 : wr.cell? ⟨w.heap.size, 3, none⟩ = some (.string ⟨#[]⟩) := HP.out.cell 3
        have rf := HP.out.frozen
        go_wp2_with (go_at_call 248; refine (hcl _).mono ?_; rintro e w3 ⟨⟨c1, c2, c3, c4, rfl⟩, hb3⟩; have hP3 := (HP.out.alloc _).later hb3; have hz3 : wr.heap.size + 1 ≤ w3.heap.size := (by have := hb3.size; simp at this; omega); have lt3 : w.heap.size < w3.heap.size := (by omega); have ne4 : ¬ w3.heap.size = w.heap.size := (by omega); have hbw3 : Below W0.heap.size W0 w3 := (HBR.out.alloc HBR.out.size _).trans (hb3.mono (by have := HBR.out.size; simp; omega)); have rf3 := hP3.frozen; have t0 : w3.cell? ⟨w.heap.size, 0, none⟩ = some (.string ⟨#[]⟩) := hP3.cell 0; have t1 : w3.cell? ⟨w.heap.size, 1, none⟩ = some (.string ⟨#[]⟩) := hP3.cell 1; have t2 : w3.cell? ⟨w.heap.size, 2, none⟩ = some (.string ⟨#[]⟩) := hP3.cell 2; have t3 : w3.cell? ⟨w.heap.size, 3, none⟩ = some (.string ⟨#[]⟩) := hP3.cell 3)
        refine bodyPost_ret (v := .tuple #[.agg #[.string c1, .string c2, .string c3, .string c4], .bool true]) ?res rfl ⟨⟨_, _, _, _, ret_p ?val⟩, ?bel⟩
        case val => simp [Hok.out]
        case res => simp [results, Tryz.results204, go_sem, *]
        case bel => exact below_four (HB0_.out.trans (hbw3.mono (by have := HZ0_.out; omega))) _ _ _ _ _
    · -- form 2
      have Hh1 := Lib.hid h1
      clear h1
      have hcl := fun o : Obj => forms4_any x0 x1 (w.heap.size + 1) (w.heap.size + 1 + 1) 2 (wr.alloc o) zx0 (hE.out.below hE.out.big ((Below.refl _ wr).alloc (Nat.le_refl _) o)) (by simp; omega) (by simp; omega) ((HS.out.alloc _).cell 0) ((HS.out.alloc _).cell 1) ((HG.out.alloc o).cell 0)
      cases hok : (baseB x0 && strokeB x1) <;> rw [hok] at hcl <;> have Hok := Lib.hid hok <;> clear hok
      · go_wp2_with (go_at_call 250; refine (hcl _).mono ?_; rintro e w3 ⟨⟨c1, c2, c3, c4, rfl⟩, hb3⟩; have hbw3 : Below W0.heap.size W0 w3 := (HBR.out.alloc HBR.out.size _).trans (hb3.mono (by have := HBR.out.size; simp; omega)))
        go_roundw
        case measure => simp [intOf]
        case rel => exact ⟨by simp [Hok.out, Hh1.out], hbw3.alloc hbw3.size _⟩
      · have r0 : wr.cell? ⟨w.heap.size, 0, none⟩ = some (.string ⟨#[]⟩) := HP.out.cell 0
        have r1 : wr.cell? ⟨w.heap.size, 1, none⟩ = some (.string ⟨#[]⟩) := HP.out.cell 1
        have r2 : wr.cell? ⟨w.heap.size, 2, none⟩ = some (.string ⟨#[]⟩) := HP.out.cell 2
        have r3 : wr.cell? ⟨w.heap.size, 3, none⟩ = some (.string ⟨#[]⟩) := HP.out.cell 3
        have rf := HP.out.frozen
        go_wp2_with (go_at_call 250; refine (hcl _).mono ?_; rintro e w3 ⟨⟨c1, c2, c3, c4, rfl⟩, hb3⟩; have hP3 := (HP.out.alloc _).later hb3; have hz3 : wr.heap.size + 1 ≤ w3.heap.size := (by have := hb3.size; simp at this; omega); have lt3 : w.heap.size < w3.heap.size := (by omega); have ne4 : ¬ w3.heap.size = w.heap.size := (by omega); have hbw3 : Below W0.heap.size W0 w3 := (HBR.out.alloc HBR.out.size _).trans (hb3.mono (by have := HBR.out.size; simp; omega)); have rf3 := hP3.frozen; have t0 : w3.cell? ⟨w.heap.size, 0, none⟩ = some (.string ⟨#[]⟩) := hP3.cell 0; have t1 : w3.cell? ⟨w.heap.size, 1, none⟩ = some (.string ⟨#[]⟩) := hP3.cell 1; have t2 : w3.cell? ⟨w.heap.size, 2, none⟩ = some (.string ⟨#[]⟩) := hP3.cell 2; have t3 : w3.cell? ⟨w.heap.size, 3, none⟩ = some (.string ⟨#[]⟩) := hP3.cell 3)
        refine bodyPost_ret (v := .tuple #[.agg #[.string c1, .string c2, .string c3, .string c4], .bool true]) ?res rfl ⟨⟨_, _, _, _, ret_p ?val⟩, ?bel⟩
        case val => simp [Hok.out, Hh1.out]
        case res => simp [results, Tryz.results204, go_sem, *]
        case bel => exact below_four (HB0_.out.trans (hbw3.mono (by have := HZ0_.out; omega))) _ _ _ _ _
    · -- form 3
      have Hh1 := Lib.hid h1
      have Hh2 := Lib.hid h2
      clear h1 h2
      go_wp2
      go_roundw
      case rel => exact ⟨.inr (.inr (.inr (.inr (⟨rfl, Hh1.out, Hh2.out⟩)))), HBR.out.alloc (Nat.le_trans (by have := HZ0_.out; omega) hz1) _⟩
      case measure => simp [intOf]
    · -- form 4
      have Hh1 := Lib.hid h1
      have Hh2 := Lib.hid h2
      clear h1 h2
      have r0 : wr.cell? ⟨w.heap.size, 0, none⟩ = some (.string ⟨#[]⟩) := HP.out.cell 0
      have r1 : wr.cell? ⟨w.heap.size, 1, none⟩ = some (.string ⟨#[]⟩) := HP.out.cell 1
      have r2 : wr.cell? ⟨w.heap.size, 2, none⟩ = some (.string ⟨#[]⟩) := HP.out.cell 2
      have r3 : wr.cell? ⟨w.heap.size, 3, none⟩ = some (.string ⟨#[]⟩) := HP.out.cell 3
      have rf := HP.out.frozen
      go_wp2
      refine bodyPost_ret (v := .tuple #[.agg #[.string ⟨#[]⟩, .string ⟨#[]⟩, .string ⟨#[]⟩, .string ⟨#[]⟩], .bool false]) ?res rfl ⟨⟨_, _, _, _, ret_p ?val⟩, ?bel⟩
      case val => simp [Hh1.out, Hh2.out]
      case res => simp [results, Tryz.results204, go_sem, *]
      case bel => exact below_four0 (HB0_.out.trans (HBR.out.mono (by have := HZ0_.out; omega))) _ _ _ _

set_option maxHeartbeats 4000000 in
theorem split_3 (s : ByteArray) (x0 x1 x2 : ByteArray) (ws : List ByteArray) (w : World) (hs : s.size ≤ 16) (hE : Env w) (zx0 : x0.size ≤ 9223372036854775807) (zx1 : x1.size ≤ 9223372036854775807) (zx2 : x2.size ≤ 9223372036854775807)
    (hsp : ∀ W, Below w.heap.size w W → Calls Tryz.prog 232 #[.string s, .string ⟨#[47]⟩] W fun e w' => e = .returned (.slice (some ⟨W.heap.size, 0, none⟩) 3 3) ∧ w' = W.alloc (.cells #[.string x0, .string x1, .string x2] 9)) :
    Calls Tryz.prog 204 #[.string s] w fun e w' => Parted ((baseB x1 && areaB x0 && strokeB x2)) e ∧ Below w.heap.size w w' := by
  have hsz : (s.size : Int) ≤ 16 := by omega
  have hsp1 := hsp _ ((Below.refl _ w).alloc (Nat.le_refl _) zeroParts)
  clear hsp hs
  have HE := Lib.hid hE
  clear hE
  go_enter Tryz.func204, Tryz.ntmps204
  go_wp2_with (first | (go_at_call 232; refine hsp1.mono ?_; rintro e w1 ⟨rfl, rfl⟩) | (go_at_call 233; refine (forms_any _).mono ?_; rintro e w2 ⟨rfl, rfl⟩))
  obtain ⟨W0, hW0⟩ : ∃ W0, (((w.alloc zeroParts).alloc (.cells #[.string x0, .string x1, .string x2] 9)).alloc (.cells #[.func (.func 245) #[] #[]] 275)).alloc (.cells (formCells (w.heap.size + 1 + 1)) 299) = W0 := ⟨_, rfl⟩
  have hP : Blk W0 w.heap.size 273 #[.string ⟨#[]⟩, .string ⟨#[]⟩, .string ⟨#[]⟩, .string ⟨#[]⟩] := by rw [← hW0]; exact (((Blk.new w _ _).alloc _).alloc _).alloc _
  have hS : Blk W0 (w.heap.size + 1) 9 #[.string x0, .string x1, .string x2] := by rw [← hW0]; have := ((Blk.new (w.alloc zeroParts) 9 #[.string x0, .string x1, .string x2]).alloc (.cells #[.func (.func 245) #[] #[]] 275)).alloc (.cells (formCells (w.heap.size + 1 + 1)) 299); rwa [World.size_alloc] at this
  have hG : Blk W0 (w.heap.size + 1 + 1) 275 #[.func (.func 245) #[] #[]] := by rw [← hW0]; have := (Blk.new ((w.alloc zeroParts).alloc (.cells #[.string x0, .string x1, .string x2] 9)) 275 #[.func (.func 245) #[] #[]]).alloc (.cells (formCells (w.heap.size + 1 + 1)) 299); rwa [World.size_alloc, World.size_alloc] at this
  have hF : Blk W0 (w.heap.size + 1 + 1 + 1) 299 (formCells (w.heap.size + 1 + 1)) := by rw [← hW0]; have := Blk.new (((w.alloc zeroParts).alloc (.cells #[.string x0, .string x1, .string x2] 9)).alloc (.cells #[.func (.func 245) #[] #[]] 275)) 299 (formCells (w.heap.size + 1 + 1)); rwa [World.size_alloc, World.size_alloc, World.size_alloc] at this
  have hb0 : Below w.heap.size w W0 := by rw [← hW0]; exact ((((Below.refl _ w).alloc (Nat.le_refl _) _).alloc (by simp) _).alloc (by simp; omega) _).alloc (by simp; omega) _
  have hz0 : W0.heap.size = w.heap.size + 1 + 1 + 1 + 1 := by rw [← hW0]; simp
  rw [hW0]
  clear hW0
  have hE0 := Lib.hid (HE.out.below HE.out.big hb0)
  clear HE
  have HP_ := Lib.hid hP
  have HS_ := Lib.hid hS
  have HG_ := Lib.hid hG
  have HF_ := Lib.hid hF
  have HB0_ := Lib.hid hb0
  have HZ0_ := Lib.hid hz0
  clear hP hS hG hF hb0 hz0
  go_loopw [17] (fun s17 wr => ((s17 = .int .i64 0) ∨ (s17 = .int .i64 1) ∨ (s17 = .int .i64 2) ∨ (s17 = .int .i64 3) ∨ (s17 = .int .i64 4 ∧ (baseB x1 && areaB x0 && strokeB x2) = false)) ∧ Below W0.heap.size W0 wr) (fun s17 _ => 4 - (intOf s17).toNat)
  case atStart => exact ⟨.inl rfl, Below.refl _ _⟩
  case round =>
    obtain ⟨hrel, hbr⟩ := hrel
    have hE := Lib.hid (hE0.out.below hE0.out.big hbr)
    have hF := HF_.out.later hbr
    have hG := HG_.out.later hbr
    have hS := HS_.out.later hbr
    have hP := HP_.out.later hbr
    have hz := hbr.size
    have hz0 := HZ0_.out
    have hz1 : w.heap.size + 1 + 1 + 1 + 1 ≤ wr.heap.size := by omega
    have f0 : wr.cell? ⟨w.heap.size + 1 + 1 + 1, 0, none⟩ = some (.int .i64 1) := hF.cell 0
    have f1 : wr.cell? ⟨w.heap.size + 1 + 1 + 1, 1, none⟩ = some (.func (.func 247) #[] #[.pointer (some ⟨w.heap.size + 1 + 1, 0, none⟩)]) := hF.cell 1
    have f2 : wr.cell? ⟨w.heap.size + 1 + 1 + 1, 2, none⟩ = some (.int .i64 2) := hF.cell 2
    have f3 : wr.cell? ⟨w.heap.size + 1 + 1 + 1, 3, none⟩ = some (.func (.func 248) #[] #[.pointer (some ⟨w.heap.size + 1 + 1, 0, none⟩)]) := hF.cell 3
    have f4 : wr.cell? ⟨w.heap.size + 1 + 1 + 1, 4, none⟩ = some (.int .i64 2) := hF.cell 4
    have f5 : wr.cell? ⟨w.heap.size + 1 + 1 + 1, 5, none⟩ = some (.func (.func 250) #[] #[.pointer (some ⟨w.heap.size + 1 + 1, 0, none⟩)]) := hF.cell 5
    have f6 : wr.cell? ⟨w.heap.size + 1 + 1 + 1, 6, none⟩ = some (.int .i64 3) := hF.cell 6
    have f7 : wr.cell? ⟨w.heap.size + 1 + 1 + 1, 7, none⟩ = some (.func (.func 252) #[] #[.pointer (some ⟨w.heap.size + 1 + 1, 0, none⟩)]) := hF.cell 7
    have HG := Lib.hid hG
    have HS := Lib.hid hS
    have HP := Lib.hid hP
    have HBR := Lib.hid hbr
    clear hF hG hS hP hbr hz hz0
    rcases hrel with rfl | rfl | rfl | rfl | ⟨rfl, h3⟩
    · -- form 0
      go_wp2
      go_roundw
      case rel => exact ⟨.inr (.inl rfl), HBR.out.alloc (Nat.le_trans (by have := HZ0_.out; omega) hz1) _⟩
      case measure => simp [intOf]
    · -- form 1
      go_wp2
      go_roundw
      case rel => exact ⟨.inr (.inr (.inl rfl)), HBR.out.alloc (Nat.le_trans (by have := HZ0_.out; omega) hz1) _⟩
      case measure => simp [intOf]
    · -- form 2
      go_wp2
      go_roundw
      case rel => exact ⟨.inr (.inr (.inr (.inl rfl))), HBR.out.alloc (Nat.le_trans (by have := HZ0_.out; omega) hz1) _⟩
      case measure => simp [intOf]
    · -- form 3
      have hcl := fun o : Obj => forms5_any x0 x1 x2 (w.heap.size + 1) (w.heap.size + 1 + 1) 3 (wr.alloc o) zx1 (hE.out.below hE.out.big ((Below.refl _ wr).alloc (Nat.le_refl _) o)) (by simp; omega) (by simp; omega) ((HS.out.alloc _).cell 0) ((HS.out.alloc _).cell 1) ((HS.out.alloc _).cell 2) ((HG.out.alloc o).cell 0)
      cases hok : (baseB x1 && areaB x0 && strokeB x2) <;> rw [hok] at hcl <;> have Hok := Lib.hid hok <;> clear hok
      · go_wp2_with (go_at_call 252; refine (hcl _).mono ?_; rintro e w3 ⟨⟨c1, c2, c3, c4, rfl⟩, hb3⟩; have hbw3 : Below W0.heap.size W0 w3 := (HBR.out.alloc HBR.out.size _).trans (hb3.mono (by have := HBR.out.size; simp; omega)))
        go_roundw
        case measure => simp [intOf]
        case rel => exact ⟨by simp [Hok.out], hbw3.alloc hbw3.size _⟩
      · have r0 : wr.cell? ⟨w.heap.size, 0, none⟩ = some (.string ⟨#[]⟩) := HP.out.cell 0
        have r1 : wr.cell? ⟨w.heap.size, 1, none⟩ = some (.string ⟨#[]⟩) := HP.out.cell 1
        have r2 : wr.cell? ⟨w.heap.size, 2, none⟩ = some (.string ⟨#[]⟩) := HP.out.cell 2
        have r3 : wr.cell? ⟨w.heap.size, 3, none⟩ = some (.string ⟨#[]⟩) := HP.out.cell 3
        have rf := HP.out.frozen
        go_wp2_with (go_at_call 252; refine (hcl _).mono ?_; rintro e w3 ⟨⟨c1, c2, c3, c4, rfl⟩, hb3⟩; have hP3 := (HP.out.alloc _).later hb3; have hz3 : wr.heap.size + 1 ≤ w3.heap.size := (by have := hb3.size; simp at this; omega); have lt3 : w.heap.size < w3.heap.size := (by omega); have ne4 : ¬ w3.heap.size = w.heap.size := (by omega); have hbw3 : Below W0.heap.size W0 w3 := (HBR.out.alloc HBR.out.size _).trans (hb3.mono (by have := HBR.out.size; simp; omega)); have rf3 := hP3.frozen; have t0 : w3.cell? ⟨w.heap.size, 0, none⟩ = some (.string ⟨#[]⟩) := hP3.cell 0; have t1 : w3.cell? ⟨w.heap.size, 1, none⟩ = some (.string ⟨#[]⟩) := hP3.cell 1; have t2 : w3.cell? ⟨w.heap.size, 2, none⟩ = some (.string ⟨#[]⟩) := hP3.cell 2; have t3 : w3.cell? ⟨w.heap.size, 3, none⟩ = some (.string ⟨#[]⟩) := hP3.cell 3)
        refine bodyPost_ret (v := .tuple #[.agg #[.string c1, .string c2, .string c3, .string c4], .bool true]) ?res rfl ⟨⟨_, _, _, _, ret_p ?val⟩, ?bel⟩
        case val => simp [Hok.out]
        case res => simp [results, Tryz.results204, go_sem, *]
        case bel => exact below_four (HB0_.out.trans (hbw3.mono (by have := HZ0_.out; omega))) _ _ _ _ _
    · -- form 4
      have Hh3 := Lib.hid h3
      clear h3
      have r0 : wr.cell? ⟨w.heap.size, 0, none⟩ = some (.string ⟨#[]⟩) := HP.out.cell 0
      have r1 : wr.cell? ⟨w.heap.size, 1, none⟩ = some (.string ⟨#[]⟩) := HP.out.cell 1
      have r2 : wr.cell? ⟨w.heap.size, 2, none⟩ = some (.string ⟨#[]⟩) := HP.out.cell 2
      have r3 : wr.cell? ⟨w.heap.size, 3, none⟩ = some (.string ⟨#[]⟩) := HP.out.cell 3
      have rf := HP.out.frozen
      go_wp2
      refine bodyPost_ret (v := .tuple #[.agg #[.string ⟨#[]⟩, .string ⟨#[]⟩, .string ⟨#[]⟩, .string ⟨#[]⟩], .bool false]) ?res rfl ⟨⟨_, _, _, _, ret_p ?val⟩, ?bel⟩
      case val => simp [Hh3.out]
      case res => simp [results, Tryz.results204, go_sem, *]
      case bel => exact below_four0 (HB0_.out.trans (HBR.out.mono (by have := HZ0_.out; omega))) _ _ _ _

set_option maxHeartbeats 4000000 in
theorem split_n (s : ByteArray) (N : Nat) (hN : 4 ≤ N) (ws : List ByteArray) (w : World) (hs : s.size ≤ 16) (hE : Env w)
    (hsp : ∀ W, Below w.heap.size w W → Calls Tryz.prog 232 #[.string s, .string ⟨#[47]⟩] W fun e w' => e = .returned (.slice (some ⟨W.heap.size, 0, none⟩) N N) ∧ w' = W.alloc (.cells (ws.map Value.string).toArray 9)) :
    Calls Tryz.prog 204 #[.string s] w fun e w' => Parted (false) e ∧ Below w.heap.size w w' := by
  have hsz : (s.size : Int) ≤ 16 := by omega
  have hsp1 := hsp _ ((Below.refl _ w).alloc (Nat.le_refl _) zeroParts)
  clear hsp hs
  have HE := Lib.hid hE
  clear hE
  have n1 : ((1 : Int) != (N : Int)) = true := by rw [bne_iff_ne]; omega
  have n2 : ((2 : Int) != (N : Int)) = true := by rw [bne_iff_ne]; omega
  have n3 : ((3 : Int) != (N : Int)) = true := by rw [bne_iff_ne]; omega
  go_enter Tryz.func204, Tryz.ntmps204
  go_wp2_with (first | (go_at_call 232; refine hsp1.mono ?_; rintro e w1 ⟨rfl, rfl⟩) | (go_at_call 233; refine (forms_any _).mono ?_; rintro e w2 ⟨rfl, rfl⟩))
  obtain ⟨W0, hW0⟩ : ∃ W0, (((w.alloc zeroParts).alloc (.cells (ws.map Value.string).toArray 9)).alloc (.cells #[.func (.func 245) #[] #[]] 275)).alloc (.cells (formCells (w.heap.size + 1 + 1)) 299) = W0 := ⟨_, rfl⟩
  have hP : Blk W0 w.heap.size 273 #[.string ⟨#[]⟩, .string ⟨#[]⟩, .string ⟨#[]⟩, .string ⟨#[]⟩] := by rw [← hW0]; exact (((Blk.new w _ _).alloc _).alloc _).alloc _
  have hS : Blk W0 (w.heap.size + 1) 9 (ws.map Value.string).toArray := by rw [← hW0]; have := ((Blk.new (w.alloc zeroParts) 9 (ws.map Value.string).toArray).alloc (.cells #[.func (.func 245) #[] #[]] 275)).alloc (.cells (formCells (w.heap.size + 1 + 1)) 299); rwa [World.size_alloc] at this
  have hG : Blk W0 (w.heap.size + 1 + 1) 275 #[.func (.func 245) #[] #[]] := by rw [← hW0]; have := (Blk.new ((w.alloc zeroParts).alloc (.cells (ws.map Value.string).toArray 9)) 275 #[.func (.func 245) #[] #[]]).alloc (.cells (formCells (w.heap.size + 1 + 1)) 299); rwa [World.size_alloc, World.size_alloc] at this
  have hF : Blk W0 (w.heap.size + 1 + 1 + 1) 299 (formCells (w.heap.size + 1 + 1)) := by rw [← hW0]; have := Blk.new (((w.alloc zeroParts).alloc (.cells (ws.map Value.string).toArray 9)).alloc (.cells #[.func (.func 245) #[] #[]] 275)) 299 (formCells (w.heap.size + 1 + 1)); rwa [World.size_alloc, World.size_alloc, World.size_alloc] at this
  have hb0 : Below w.heap.size w W0 := by rw [← hW0]; exact ((((Below.refl _ w).alloc (Nat.le_refl _) _).alloc (by simp) _).alloc (by simp; omega) _).alloc (by simp; omega) _
  have hz0 : W0.heap.size = w.heap.size + 1 + 1 + 1 + 1 := by rw [← hW0]; simp
  rw [hW0]
  clear hW0
  have hE0 := Lib.hid (HE.out.below HE.out.big hb0)
  clear HE
  have HP_ := Lib.hid hP
  have HS_ := Lib.hid hS
  have HG_ := Lib.hid hG
  have HF_ := Lib.hid hF
  have HB0_ := Lib.hid hb0
  have HZ0_ := Lib.hid hz0
  clear hP hS hG hF hb0 hz0
  go_loopw [17] (fun s17 wr => ((s17 = .int .i64 0) ∨ (s17 = .int .i64 1) ∨ (s17 = .int .i64 2) ∨ (s17 = .int .i64 3) ∨ (s17 = .int .i64 4)) ∧ Below W0.heap.size W0 wr) (fun s17 _ => 4 - (intOf s17).toNat)
  case atStart => exact ⟨.inl rfl, Below.refl _ _⟩
  case round =>
    obtain ⟨hrel, hbr⟩ := hrel
    have hE := Lib.hid (hE0.out.below hE0.out.big hbr)
    have hF := HF_.out.later hbr
    have hG := HG_.out.later hbr
    have hS := HS_.out.later hbr
    have hP := HP_.out.later hbr
    have hz := hbr.size
    have hz0 := HZ0_.out
    have hz1 : w.heap.size + 1 + 1 + 1 + 1 ≤ wr.heap.size := by omega
    have f0 : wr.cell? ⟨w.heap.size + 1 + 1 + 1, 0, none⟩ = some (.int .i64 1) := hF.cell 0
    have f1 : wr.cell? ⟨w.heap.size + 1 + 1 + 1, 1, none⟩ = some (.func (.func 247) #[] #[.pointer (some ⟨w.heap.size + 1 + 1, 0, none⟩)]) := hF.cell 1
    have f2 : wr.cell? ⟨w.heap.size + 1 + 1 + 1, 2, none⟩ = some (.int .i64 2) := hF.cell 2
    have f3 : wr.cell? ⟨w.heap.size + 1 + 1 + 1, 3, none⟩ = some (.func (.func 248) #[] #[.pointer (some ⟨w.heap.size + 1 + 1, 0, none⟩)]) := hF.cell 3
    have f4 : wr.cell? ⟨w.heap.size + 1 + 1 + 1, 4, none⟩ = some (.int .i64 2) := hF.cell 4
    have f5 : wr.cell? ⟨w.heap.size + 1 + 1 + 1, 5, none⟩ = some (.func (.func 250) #[] #[.pointer (some ⟨w.heap.size + 1 + 1, 0, none⟩)]) := hF.cell 5
    have f6 : wr.cell? ⟨w.heap.size + 1 + 1 + 1, 6, none⟩ = some (.int .i64 3) := hF.cell 6
    have f7 : wr.cell? ⟨w.heap.size + 1 + 1 + 1, 7, none⟩ = some (.func (.func 252) #[] #[.pointer (some ⟨w.heap.size + 1 + 1, 0, none⟩)]) := hF.cell 7
    have HG := Lib.hid hG
    have HS := Lib.hid hS
    have HP := Lib.hid hP
    have HBR := Lib.hid hbr
    clear hF hG hS hP hbr hz hz0
    rcases hrel with rfl | rfl | rfl | rfl | rfl
    · -- form 0
      go_wp2
      go_roundw
      case rel => exact ⟨.inr (.inl rfl), HBR.out.alloc (Nat.le_trans (by have := HZ0_.out; omega) hz1) _⟩
      case measure => simp [intOf]
    · -- form 1
      go_wp2
      go_roundw
      case rel => exact ⟨.inr (.inr (.inl rfl)), HBR.out.alloc (Nat.le_trans (by have := HZ0_.out; omega) hz1) _⟩
      case measure => simp [intOf]
    · -- form 2
      go_wp2
      go_roundw
      case rel => exact ⟨.inr (.inr (.inr (.inl rfl))), HBR.out.alloc (Nat.le_trans (by have := HZ0_.out; omega) hz1) _⟩
      case measure => simp [intOf]
    · -- form 3
      go_wp2
      go_roundw
      case rel => exact ⟨.inr (.inr (.inr (.inr (rfl)))), HBR.out.alloc (Nat.le_trans (by have := HZ0_.out; omega) hz1) _⟩
      case measure => simp [intOf]
    · -- form 4
      have r0 : wr.cell? ⟨w.heap.size, 0, none⟩ = some (.string ⟨#[]⟩) := HP.out.cell 0
      have r1 : wr.cell? ⟨w.heap.size, 1, none⟩ = some (.string ⟨#[]⟩) := HP.out.cell 1
      have r2 : wr.cell? ⟨w.heap.size, 2, none⟩ = some (.string ⟨#[]⟩) := HP.out.cell 2
      have r3 : wr.cell? ⟨w.heap.size, 3, none⟩ = some (.string ⟨#[]⟩) := HP.out.cell 3
      have rf := HP.out.frozen
      go_wp2
      refine bodyPost_ret (v := .tuple #[.agg #[.string ⟨#[]⟩, .string ⟨#[]⟩, .string ⟨#[]⟩, .string ⟨#[]⟩], .bool false]) ?res rfl ⟨⟨_, _, _, _, ret_p ?val⟩, ?bel⟩
      case val => rfl
      case res => simp [results, Tryz.results204, go_sem, *]
      case bel => exact below_four0 (HB0_.out.trans (HBR.out.mono (by have := HZ0_.out; omega))) _ _ _ _

end Go.Proofs.YtlamogpdkmbeoaaGreatDoor
end PartAirD

section PartAirE
/- The walk of 'ValidCall', at every text. -/
namespace Go.Proofs.YtlamogpdkmbeoaaGreatDoor
open Go.RowKit Go.Lib Go.Shelf

abbrev slash : ByteArray := ⟨#[47]⟩
def words (s : ByteArray) : List ByteArray := Lib.splitB slash 0 (Lib.countB s slash) s
def callOf : List ByteArray → Bool
  | [a] => baseB a
  | [a, b] => (baseB b && areaB a && decide (a.size < b.size)) || (baseB a && strokeB b)
  | [a, b, c] => baseB b && areaB a && strokeB c
  | _ => false
def callB (s : ByteArray) : Bool := decide (s.size ≤ 16) && callOf (words s)

theorem words_length (s : ByteArray) : (words s).length = Lib.countB s slash + 1 := Lib.splitB_all slash (by decide) 0 _ s rfl
theorem splitB_sizes (sep : ByteArray) : ∀ (k : Nat) (s x : ByteArray), x ∈ Lib.splitB sep 0 k s → x.size ≤ s.size
  | 0, s, x, h => by
    rw [Lib.splitB_zero] at h
    simp at h; rw [h]; exact Nat.le_refl _
  | k + 1, s, x, h => by
    unfold Lib.splitB at h
    split at h
    · simp at h; rw [h]; exact Nat.le_refl _
    · rcases List.mem_cons.1 h with rfl | h
      · simp; omega
      · have := splitB_sizes sep k _ x h
        simp at this
        omega
theorem words_sizes {s x : ByteArray} (h : x ∈ words s) : x.size ≤ s.size := splitB_sizes _ _ _ _ h

theorem split_any (s : ByteArray) (w : World) (hE : Env w) : Calls Tryz.prog 204 #[.string s] w fun e w' => Parted (callB s) e ∧ Below w.heap.size w w' := by
  by_cases hs : s.size ≤ 16
  · have hsp : ∀ W, Below w.heap.size w W → Calls Tryz.prog 232 #[.string s, .string slash] W fun e w' => e = .returned (.slice (some ⟨W.heap.size, 0, none⟩) (words s).length (words s).length) ∧ w' = W.alloc (.cells ((words s).map Value.string).toArray 9) := fun W hb => by
      obtain ⟨m, hm⟩ := (hE.below hE.big hb).len
      rw [words_length]
      exact Tryz.strings_Split s slash m W (by omega) hm (by decide)
    have hz : ∀ x ∈ words s, x.size ≤ 9223372036854775807 := fun x hx => by have := words_sizes hx; omega
    unfold callB
    rw [decide_eq_true hs, Bool.true_and]
    have hl := words_length s
    generalize words s = ws at hsp hz hl ⊢
    match ws, hsp, hz, hl with
    | [], _, _, hl => simp at hl
    | [a], hsp, hz, _ => exact split_1 s a [] w hs hE (hz _ (by simp)) hsp
    | [a, b], hsp, hz, _ => exact split_2 s a b [] w hs hE (hz _ (by simp)) (hz _ (by simp)) hsp
    | [a, b, c], hsp, hz, _ => exact split_3 s a b c [] w hs hE (hz _ (by simp)) (hz _ (by simp)) (hz _ (by simp)) hsp
    | a :: b :: c :: d :: l, hsp, hz, _ => exact split_n s (a :: b :: c :: d :: l).length (by simp) (a :: b :: c :: d :: l) w hs hE hsp
  · have h16 : ¬ (s.size : Int) ≤ 16 := by omega
    unfold callB
    rw [decide_eq_false hs, Bool.false_and]
    clear hE
    go_enter Tryz.func204, Tryz.ntmps204
    go_wp2
    refine bodyPost_ret (v := .tuple #[.agg #[.string ⟨#[]⟩, .string ⟨#[]⟩, .string ⟨#[]⟩, .string ⟨#[]⟩], .bool false]) (by simp [results, Tryz.results204, go_sem, *]) rfl ⟨⟨_, _, _, _, rfl⟩, ?_⟩
    exact (Below.refl _ w).alloc (Nat.le_refl _) _

theorem ValidCall_any (s : ByteArray) (w : World) (hE : Env w) : Calls Tryz.prog 157 #[.string s] w fun e w' => e = .returned (.bool (callB s)) ∧ Below w.heap.size w w' := by
  have h1 := split_any s w hE
  clear hE
  go_enter Tryz.func157, Tryz.ntmps157
  go_wp2_with (go_at_call 204; refine h1.mono ?_; rintro e w1 ⟨⟨c1, c2, c3, c4, rfl⟩, hb1⟩)
  go_ret
  exact ⟨rfl, hb1.alloc hb1.size _⟩
end Go.Proofs.YtlamogpdkmbeoaaGreatDoor
end PartAirE

section PartAirF
/- The walk of 'ValidExchange'. -/
namespace Go.Proofs.YtlamogpdkmbeoaaGreatDoor
open Go.RowKit Go.Lib Go.Shelf

/-- A part of an exchange: whether the layout has it, its number, the most that it may be, its digits. -/
structure Prt where
  has : Bool
  n : Int
  most : Int
  digits : Int
  deriving Inhabited
def Prt.enc (x : Prt) : List Value := [.bool x.has, .int .i64 x.n, .int .i64 x.most, .int .i64 x.digits]
/-- A part that is wrong. -/
def Prt.bad (x : Prt) : Bool := (x.has != inB x.n 1 x.most) || (!x.has && x.n != 0)

set_option maxHeartbeats 1000000 in
theorem bad_any (x : Prt) (w : World) : Calls Tryz.prog 256 #[.agg #[.bool x.has, .int .i64 x.n, .int .i64 x.most, .int .i64 x.digits]] w fun e w' => e = .returned (.bool x.bad) ∧ Below w.heap.size w w' := by
  obtain ⟨has, n, most, digits⟩ := x
  unfold Prt.bad
  dsimp only
  have hw : ∀ W, Calls Tryz.prog 257 #[.int .i64 n, .int .i64 1, .int .i64 most] W fun e w' => e = .returned (.bool (inB n 1 most)) ∧ w' = W := fun W => (awithin_any n 1 most W).mono fun _ _ ⟨h, e⟩ => ⟨h, e.symm⟩
  generalize inB n 1 most = z at hw ⊢
  cases has
  · cases z
    · by_cases hn : n = 0
      · have hn' : (n != 0) = false := by simp [hn]
        have hn2 : (n == 0) = true := by simp [hn]
        clear hn
        go_enter Tryz.func256, Tryz.ntmps256
        go_wp2
        go_quiet ((go_at_call 257; exact Calls.quiet_of_same (hw _)))
        go_wp2
        go_ret
        exact ⟨by simp [hn'], below_drewN' ((Below.refl _ w).alloc (Nat.le_refl _) _) _⟩
      · have hn' : (n != 0) = true := by simp [hn]
        have hn2 : (n == 0) = false := by simp [hn]
        clear hn
        go_enter Tryz.func256, Tryz.ntmps256
        go_wp2
        go_quiet ((go_at_call 257; exact Calls.quiet_of_same (hw _)))
        go_wp2
        go_ret
        exact ⟨by simp [hn'], below_drewN' ((Below.refl _ w).alloc (Nat.le_refl _) _) _⟩
    · go_enter Tryz.func256, Tryz.ntmps256
      go_wp2
      go_quiet ((go_at_call 257; exact Calls.quiet_of_same (hw _)))
      go_wp2
      go_ret
      exact ⟨by simp, below_drewN' ((Below.refl _ w).alloc (Nat.le_refl _) _) _⟩
  · cases z
    · go_enter Tryz.func256, Tryz.ntmps256
      go_wp2
      go_quiet ((go_at_call 257; exact Calls.quiet_of_same (hw _)))
      go_wp2
      go_ret
      exact ⟨by simp, below_drewN' ((Below.refl _ w).alloc (Nat.le_refl _) _) _⟩
    · go_enter Tryz.func256, Tryz.ntmps256
      go_wp2
      go_quiet ((go_at_call 257; exact Calls.quiet_of_same (hw _)))
      go_wp2
      go_ret
      exact ⟨by simp, below_drewN' ((Below.refl _ w).alloc (Nat.le_refl _) _) _⟩

theorem bad_at (w : World) : PredBelow Tryz.prog 256 #[] (fun x : Prt => .agg x.enc.toArray) Prt.bad w := fun W x hb => (bad_any x W).mono fun _ _ ⟨h, k⟩ => ⟨h, hb.trans (k.mono hb.size)⟩
theorem bad_enters : ∀ args w, (callFunc 256 args).run Tryz.prog w = .ok (.enter 256 args) w := enters_of Tryz.func256 (by kernel_rfl) rfl

/-- The layout of exchanges; an exchange. -/
structure Lay where
  r : Bool
  s : Bool
  z : Bool
structure Exc where
  r : Int
  s : Int
  z : Int
abbrev Lay.val (o : Lay) : Value := .agg #[.bool o.r, .bool o.s, .bool o.z]
abbrev Exc.val (x : Exc) : Value := .agg #[.int .i64 x.r, .int .i64 x.s, .int .i64 x.z]
def partsOf (o : Lay) (x : Exc) : List Prt := [⟨o.r, x.r, 599, 1⟩, ⟨o.s, x.s, 99999, 3⟩, ⟨o.z, x.z, 99, 2⟩]
def excB (o : Lay) (x : Exc) : Bool := !(partsOf o x).any Prt.bad

theorem parts_any (o : Lay) (x : Exc) (w : World) : Calls Tryz.prog 255 #[o.val, x.val] w fun e w' =>
    e = .returned (.slice (some ⟨w.heap.size + 2, 0, none⟩) 3 3) ∧ Blk w' (w.heap.size + 2) 315 ((partsOf o x).flatMap Prt.enc).toArray ∧ Below w.heap.size w w' := by
  obtain ⟨o1, o2, o3⟩ := o
  obtain ⟨x1, x2, x3⟩ := x
  go_enter Tryz.func255, Tryz.ntmps255
  go_wp2
  go_ret
  refine ⟨rfl, ?_, (((Below.refl _ w).alloc (Nat.le_refl _) _).alloc (by simp) _).alloc (by simp; omega) _⟩
  have := Blk.new ((w.alloc (.cells #[.bool o1, .bool o2, .bool o3] 23)).alloc (.cells #[.int .i64 x1, .int .i64 x2, .int .i64 x3] 124)) 315 ((partsOf ⟨o1, o2, o3⟩ ⟨x1, x2, x3⟩).flatMap Prt.enc).toArray
  rw [World.size_alloc, World.size_alloc] at this
  exact this

set_option maxHeartbeats 1000000 in
theorem ValidExchange_any (o : Lay) (x : Exc) (w : World) : Calls Tryz.prog 243 #[o.val, x.val] w fun e w' => e = .returned (.bool (excB o x)) ∧ Below w.heap.size w w' := by
  have hcon : ∀ (b : Nat) (W : World), Blk W b 315 ((partsOf o x).flatMap Prt.enc).toArray → Calls Tryz.prog 254 #[.slice (some ⟨b, 0, none⟩) 3 3, .func (.func 256) #[] #[]] W fun e w' => e = .returned (.bool ((partsOf o x).any Prt.bad)) ∧ Below W.heap.size W w' := fun b W hB => by
    have h := AnyQ.slices_ContainsFunc Tryz.hasPart 4 Tryz.isAgg315 Tryz.sizeOf315 Prt.enc (fun _ => rfl) Prt.bad 256 #[] bad_enters b 0 3 3 (partsOf o x) W (bad_at W) (Nat.le_refl 3) (by omega) hB.lt (fun j hj i v hi => by
      rw [hB.cell]
      have hj3 : j < 3 := hj
      match j, hj3, hi with
      | 0, _, hi => match i, hi with
        | 0, hi => exact hi
        | 1, hi => exact hi
        | 2, hi => exact hi
        | 3, hi => exact hi
        | i + 4, hi => simp [partsOf, Prt.enc] at hi
      | 1, _, hi => match i, hi with
        | 0, hi => exact hi
        | 1, hi => exact hi
        | 2, hi => exact hi
        | 3, hi => exact hi
        | i + 4, hi => simp [partsOf, Prt.enc] at hi
      | 2, _, hi => match i, hi with
        | 0, hi => exact hi
        | 1, hi => exact hi
        | 2, hi => exact hi
        | 3, hi => exact hi
        | i + 4, hi => simp [partsOf, Prt.enc] at hi)
    exact h
  unfold excB
  generalize (partsOf o x).any Prt.bad = r at hcon ⊢
  have hp : ∀ W, Calls Tryz.prog 255 #[o.val, x.val] W fun e w' => (∃ b, e = .returned (.slice (some ⟨b, 0, none⟩) 3 3) ∧ Blk w' b 315 ((partsOf o x).flatMap Prt.enc).toArray) ∧ Below W.heap.size W w' := fun W => (parts_any o x W).mono fun _ _ ⟨h1, h2, h3⟩ => ⟨⟨_, h1, h2⟩, h3⟩
  obtain ⟨o1, o2, o3⟩ := o
  obtain ⟨x1, x2, x3⟩ := x
  dsimp only [Lay.val, Exc.val] at hp ⊢
  go_enter Tryz.func243, Tryz.ntmps243
  go_wp2_with (first | (go_at_call 255; refine (hp _).mono ?_; rintro e w1 ⟨⟨b, rfl, hB1⟩, hb1⟩) | (go_at_call 254; refine (hcon _ _ hB1).mono ?_; rintro e w2 ⟨rfl, hb2⟩))
  go_ret
  have h0 : Below w.heap.size w w1 := (((Below.refl _ w).alloc (Nat.le_refl _) _).alloc (by simp) _).trans (hb1.mono (by simp; omega))
  exact ⟨rfl, h0.trans (hb2.mono h0.size)⟩
end Go.Proofs.YtlamogpdkmbeoaaGreatDoor
end PartAirF

section PartRowsG
/- Slices whose elements are known: a word for all of them. -/
namespace Go.Proofs.YtlamogpdkmbeoaaGreatDoor
open Go.RowKit

/-- The value v is a slice whose elements are xs, of k cells each. -/
def RowsAt {α : Type} (enc : α → List Value) (k : Nat) (w : World) (v : Value) (xs : List α) : Prop :=
  ∃ A c, v = .slice A xs.length c ∧ xs.length ≤ maxLen ∧ ∀ j (h : j < xs.length), ∃ b o, A = some ⟨b, o, none⟩ ∧ b < w.heap.size ∧ ∀ i u, (enc xs[j])[i]? = some u → w.cell? ⟨b, o + j * k + i, none⟩ = some u

section
variable {α : Type} {enc : α → List Value} {k : Nat} {w w' : World} {v : Value} {xs : List α}
theorem RowsAt.later (h : RowsAt enc k w v xs) (hb : Below w.heap.size w w') : RowsAt enc k w' v xs := by
  obtain ⟨A, c, rfl, hl, hc⟩ := h
  refine ⟨A, c, rfl, hl, fun j hj => ?_⟩
  obtain ⟨b, o, rfl, hlt, hcell⟩ := hc j hj
  exact ⟨b, o, rfl, Nat.lt_of_lt_of_le hlt hb.size, fun i u hu => (hb.cell (p := ⟨b, o + j * k + i, none⟩) hlt).trans (hcell i u hu)⟩
/-- Nothing in it; or a place where the elements lie. -/
theorem RowsAt.place (h : RowsAt enc k w v xs) : (xs = [] ∧ ∃ A c, v = .slice A 0 c) ∨ ∃ b o c, v = .slice (some ⟨b, o, none⟩) xs.length c ∧ 0 < xs.length ∧ xs.length ≤ maxLen ∧ b < w.heap.size ∧
    ∀ j (h : j < xs.length) i u, (enc xs[j])[i]? = some u → w.cell? ⟨b, o + j * k + i, none⟩ = some u := by
  obtain ⟨A, c, rfl, hl, hc⟩ := h
  cases xs with
  | nil => exact .inl ⟨rfl, A, c, rfl⟩
  | cons x xs =>
    obtain ⟨b, o, rfl, hlt, _⟩ := hc 0 (by simp)
    refine .inr ⟨b, o, c, rfl, by simp, hl, hlt, fun j hj i u hu => ?_⟩
    obtain ⟨b', o', e, _, hcell⟩ := hc j hj
    injection e with e
    injection e with e1 e2
    subst e1; subst e2
    exact hcell i u hu
theorem RowsAt.nil (A : Option Addr) (c : Nat) : RowsAt enc k w (.slice A 0 c) [] := ⟨A, c, rfl, Nat.zero_le _, fun j hj => by simp at hj⟩
theorem RowsAt.mk {b o c : Nat} (hl : xs.length ≤ maxLen) (hb : b < w.heap.size) (hc : ∀ j (h : j < xs.length) i u, (enc xs[j])[i]? = some u → w.cell? ⟨b, o + j * k + i, none⟩ = some u) : RowsAt enc k w (.slice (some ⟨b, o, none⟩) xs.length c) xs :=
  ⟨_, c, rfl, hl, fun j hj => ⟨b, o, rfl, hb, hc j hj⟩⟩
theorem RowsAt.len (h : RowsAt enc k w v xs) : ∃ A c, v = .slice A xs.length c := by obtain ⟨A, c, e, _⟩ := h; exact ⟨A, c, e⟩
theorem RowsAt.max (h : RowsAt enc k w v xs) : xs.length ≤ maxLen := by obtain ⟨A, c, _, e, _⟩ := h; exact e
end

abbrev encI : Int → List Value := fun n => [.int .i64 n]
/-- The same at whole numbers. -/
theorem RowsAt.ints {w : World} {v : Value} {xs : List Int} (h : RowsAt encI 1 w v xs) : (xs = [] ∧ ∃ A c, v = .slice A 0 c) ∨ ∃ b o c, v = .slice (some ⟨b, o, none⟩) xs.length c ∧ 0 < xs.length ∧ xs.length ≤ maxLen ∧ b < w.heap.size ∧
    ∀ j (h : j < xs.length), w.cell? ⟨b, o + j, none⟩ = some (.int .i64 xs[j]) := by
  rcases h.place with h | ⟨b, o, c, h1, h2, h3, h4, h5⟩
  · exact .inl h
  · refine .inr ⟨b, o, c, h1, h2, h3, h4, fun j hj => ?_⟩
    have := h5 j hj 0 _ rfl
    rwa [Nat.mul_one, Nat.add_zero] at this
end Go.Proofs.YtlamogpdkmbeoaaGreatDoor
end PartRowsG

section PartLogA
/- The walks of what was heard, and of a line. -/
namespace Go.Proofs.YtlamogpdkmbeoaaGreatDoor
open Go.RowKit Go.Lib Go.Shelf

/-- A character of a call that was heard. -/
def chB (c : UInt8) : Bool := inB c.toNat 65 90 || inB c.toNat 48 57 || ((c.toNat : Int) == 47)
def heardB (s : ByteArray) : Bool := inB s.size 1 16 && s.data.toList.all chB
theorem take_all (s : ByteArray) (k : Nat) (h : k < s.size) : (s.data.toList.take (k + 1)).all chB = ((s.data.toList.take k).all chB && chB s[k]) := by
  rw [List.take_succ_eq_append_getElem (by simpa using h), List.all_append]
  simp; rfl

set_option maxHeartbeats 2000000 in
theorem heard_any (s : ByteArray) (w : World) (hs : s.size ≤ 9223372036854775807) : Calls Tryz.prog 242 #[.string s] w fun e w' => e = .returned (.bool (heardB s)) ∧ w = w' := by
  have h0 := fun W => lwithin_any s.size 1 16 W
  unfold heardB
  generalize inB s.size 1 16 = z at h0 ⊢
  go_enter Tryz.func242, Tryz.ntmps242
  go_wp2_with (go_at_call 229; refine (h0 _).mono ?_; rintro e w1 ⟨rfl, rfl⟩)
  go_loop [3, 11] (fun s3 s11 => ∃ k : Nat, k ≤ s.size ∧ s11 = .int .i64 k ∧ s3 = .bool (z && (s.data.toList.take k).all chB)) (fun _ s11 => s.size - (intOf s11).toNat)
  case atStart => exact ⟨0, Nat.zero_le _, rfl, by simp⟩
  case round =>
    obtain ⟨k, hk, rfl, rfl⟩ := hrel
    by_cases hlt : k < s.size
    · have hc1 : (0 : Int) ≤ s[k].toNat := by omega
      have hc2 : (s[k].toNat : Int) ≤ 255 := by have := s[k].toNat_lt; omega
      have hn := take_all s k hlt
      have Hn : Hid ((z && (s.data.toList.take (k + 1)).all chB) = ((z && (s.data.toList.take k).all chB) && chB s[k])) := Lib.hid (by rw [hn, Bool.and_assoc])
      clear hn
      generalize (z && (s.data.toList.take k).all chB) = q at Hn ⊢
      have h1 := fun W => lwithin_any (s[k].toNat : Int) 65 90 W
      have h2 := fun W => lwithin_any (s[k].toNat : Int) 48 57 W
      rw [show chB s[k] = (inB s[k].toNat 65 90 || inB s[k].toNat 48 57 || ((s[k].toNat : Int) == 47)) from rfl] at Hn
      generalize inB (s[k].toNat : Int) 65 90 = x at h1 Hn
      generalize inB (s[k].toNat : Int) 48 57 = y at h2 Hn
      cases q
      · have Hn := Lib.hid (Hn.out.trans (Bool.false_and _))
        go_wp2
        go_round
        case rel => exact ⟨k + 1, by omega, by go_num, by rw [Hn.out]⟩
        case measure => simp [intOf]; omega
      · cases x
        · cases y
          · cases hz : ((s[k].toNat : Int) == 47) <;> rw [hz] at Hn <;> have Hn := Lib.hid Hn.out
            · go_wp2_with (first | (go_at_call 229; ((with_reducible refine (h1 _).mono ?_); rintro e w1 ⟨rfl, rfl⟩)) | (go_at_call 229; ((with_reducible refine (h2 _).mono ?_); rintro e w1 ⟨rfl, rfl⟩)))
              go_round
              case rel => exact ⟨k + 1, by omega, by go_num, by rw [Hn.out]; rfl⟩
              case measure => simp [intOf]; omega
            · go_wp2_with (first | (go_at_call 229; ((with_reducible refine (h1 _).mono ?_); rintro e w1 ⟨rfl, rfl⟩)) | (go_at_call 229; ((with_reducible refine (h2 _).mono ?_); rintro e w1 ⟨rfl, rfl⟩)))
              go_round
              case rel => exact ⟨k + 1, by omega, by go_num, by rw [Hn.out]; rfl⟩
              case measure => simp [intOf]; omega
          · go_wp2_with (first | (go_at_call 229; ((with_reducible refine (h1 _).mono ?_); rintro e w1 ⟨rfl, rfl⟩)) | (go_at_call 229; ((with_reducible refine (h2 _).mono ?_); rintro e w1 ⟨rfl, rfl⟩)))
            go_round
            case rel => exact ⟨k + 1, by omega, by go_num, by rw [Hn.out]; rfl⟩
            case measure => simp [intOf]; omega
        · go_wp2_with (go_at_call 229; ((with_reducible refine (h1 _).mono ?_); rintro e w1 ⟨rfl, rfl⟩))
          go_round
          case rel => exact ⟨k + 1, by omega, by go_num, by rw [Hn.out]; rfl⟩
          case measure => simp [intOf]; omega
    · have hks : k = s.size := by omega
      have hall : (s.data.toList.take k).all chB = s.data.toList.all chB := by rw [List.take_of_length_le (by rw [← Lib.size_eq]; omega)]
      rw [hall]
      clear hall
      go_wp2
      go_ret
      exact ⟨rfl, rfl⟩
end Go.Proofs.YtlamogpdkmbeoaaGreatDoor
end PartLogA

section PartLogB
/- The walks of a line, and of jumps. -/
namespace Go.Proofs.YtlamogpdkmbeoaaGreatDoor
open Go.RowKit Go.Lib Go.Shelf

/-- A line of a log. -/
structure Ln where
  num : Int
  khz : Int
  mode : Int
  minute : Int
  call : ByteArray
  sent : Exc
  got : Exc
abbrev Ln.enc (x : Ln) : List Value := [.int .i64 x.num, .int .i64 x.khz, .int .i64 x.mode, .int .i64 x.minute, .string x.call, .int .i64 x.sent.r, .int .i64 x.sent.s, .int .i64 x.sent.z, .int .i64 x.got.r, .int .i64 x.got.s, .int .i64 x.got.z]
abbrev Ln.val (x : Ln) : Value := .agg x.enc.toArray
def lineB (o : Lay) (x : Ln) : Bool := inB x.num 1 65535 && inB x.khz 1 10000000 && inB x.mode 1 3 && inB x.minute 0 20000 && heardB x.call && excB o x.sent && excB o x.got

set_option maxHeartbeats 4000000 in
theorem ValidLine_any (o : Lay) (x : Ln) (w : World) (hs : x.call.size ≤ 9223372036854775807) : Calls Tryz.prog 231 #[o.val, x.val] w fun e w' => e = .returned (.bool (lineB o x)) ∧ Below w.heap.size w w' := by
  unfold lineB
  obtain ⟨num, khz, mode, minute, call, sent, got⟩ := x
  dsimp only at hs ⊢
  have h1 := fun W => lwithin_any num 1 65535 W
  have h2 := fun W => lwithin_any khz 1 10000000 W
  have h3 := fun W => lwithin_any mode 1 3 W
  have h4 := fun W => lwithin_any minute 0 20000 W
  have h5 := fun W => heard_any call W hs
  have h6 := fun W => ValidExchange_any o sent W
  have h7 := fun W => ValidExchange_any o got W
  generalize inB num 1 65535 = z1 at h1 ⊢
  generalize inB khz 1 10000000 = z2 at h2 ⊢
  generalize inB mode 1 3 = z3 at h3 ⊢
  generalize inB minute 0 20000 = z4 at h4 ⊢
  generalize heardB call = z5 at h5 ⊢
  generalize excB o sent = z6 at h6 ⊢
  generalize excB o got = z7 at h7 ⊢
  clear hs
  obtain ⟨o1, o2, o3⟩ := o
  obtain ⟨r1, s1, k1⟩ := sent
  obtain ⟨r2, s2, k2⟩ := got
  dsimp only [Lay.val, Exc.val, Ln.val, Ln.enc] at h6 h7 ⊢
  cases z1
  · go_enter Tryz.func231, Tryz.ntmps231
    go_wp2_with (first | (go_at_call 229; ((with_reducible refine (h1 _).mono ?_); rintro e w1 ⟨rfl, rfl⟩)))
    go_ret
    exact ⟨by simp, (((Below.refl _ w).alloc (Nat.le_refl _) _).alloc (by simp) _)⟩
  · cases z2
    · go_enter Tryz.func231, Tryz.ntmps231
      go_wp2_with (first | (go_at_call 229; ((with_reducible refine (h1 _).mono ?_); rintro e w1 ⟨rfl, rfl⟩)) | (go_at_call 229; ((with_reducible refine (h2 _).mono ?_); rintro e w2 ⟨rfl, rfl⟩)))
      go_ret
      exact ⟨by simp, (((Below.refl _ w).alloc (Nat.le_refl _) _).alloc (by simp) _)⟩
    · cases z3
      · go_enter Tryz.func231, Tryz.ntmps231
        go_wp2_with (first | (go_at_call 229; ((with_reducible refine (h1 _).mono ?_); rintro e w1 ⟨rfl, rfl⟩)) | (go_at_call 229; ((with_reducible refine (h2 _).mono ?_); rintro e w2 ⟨rfl, rfl⟩)) | (go_at_call 229; ((with_reducible refine (h3 _).mono ?_); rintro e w3 ⟨rfl, rfl⟩)))
        go_ret
        exact ⟨by simp, (((Below.refl _ w).alloc (Nat.le_refl _) _).alloc (by simp) _)⟩
      · cases z4
        · go_enter Tryz.func231, Tryz.ntmps231
          go_wp2_with (first | (go_at_call 229; ((with_reducible refine (h1 _).mono ?_); rintro e w1 ⟨rfl, rfl⟩)) | (go_at_call 229; ((with_reducible refine (h2 _).mono ?_); rintro e w2 ⟨rfl, rfl⟩)) | (go_at_call 229; ((with_reducible refine (h3 _).mono ?_); rintro e w3 ⟨rfl, rfl⟩)) | (go_at_call 229; ((with_reducible refine (h4 _).mono ?_); rintro e w4 ⟨rfl, rfl⟩)))
          go_ret
          exact ⟨by simp, (((Below.refl _ w).alloc (Nat.le_refl _) _).alloc (by simp) _)⟩
        · cases z5
          · go_enter Tryz.func231, Tryz.ntmps231
            go_wp2_with (first | (go_at_call 229; ((with_reducible refine (h1 _).mono ?_); rintro e w1 ⟨rfl, rfl⟩)) | (go_at_call 229; ((with_reducible refine (h2 _).mono ?_); rintro e w2 ⟨rfl, rfl⟩)) | (go_at_call 229; ((with_reducible refine (h3 _).mono ?_); rintro e w3 ⟨rfl, rfl⟩)) | (go_at_call 229; ((with_reducible refine (h4 _).mono ?_); rintro e w4 ⟨rfl, rfl⟩)) | (go_at_call 242; refine (h5 _).mono ?_; rintro e w5 ⟨rfl, rfl⟩))
            go_ret
            exact ⟨by simp, (((Below.refl _ w).alloc (Nat.le_refl _) _).alloc (by simp) _)⟩
          · cases z6
            · go_enter Tryz.func231, Tryz.ntmps231
              go_wp2_with (first | (go_at_call 229; ((with_reducible refine (h1 _).mono ?_); rintro e w1 ⟨rfl, rfl⟩)) | (go_at_call 229; ((with_reducible refine (h2 _).mono ?_); rintro e w2 ⟨rfl, rfl⟩)) | (go_at_call 229; ((with_reducible refine (h3 _).mono ?_); rintro e w3 ⟨rfl, rfl⟩)) | (go_at_call 229; ((with_reducible refine (h4 _).mono ?_); rintro e w4 ⟨rfl, rfl⟩)) | (go_at_call 242; refine (h5 _).mono ?_; rintro e w5 ⟨rfl, rfl⟩) | (go_at_call 243; ((with_reducible refine (h6 _).mono ?_); rintro e w6 ⟨rfl, hb6⟩; obtain ⟨hc6, hf6⟩ := bcell hb6)))
              go_ret
              exact ⟨by simp, ((((Below.refl _ w).alloc (Nat.le_refl _) _).alloc (by simp) _).trans (hb6.mono (by simp; omega)))⟩
            · cases z7
              · go_enter Tryz.func231, Tryz.ntmps231
                go_wp2_with (first | (go_at_call 229; ((with_reducible refine (h1 _).mono ?_); rintro e w1 ⟨rfl, rfl⟩)) | (go_at_call 229; ((with_reducible refine (h2 _).mono ?_); rintro e w2 ⟨rfl, rfl⟩)) | (go_at_call 229; ((with_reducible refine (h3 _).mono ?_); rintro e w3 ⟨rfl, rfl⟩)) | (go_at_call 229; ((with_reducible refine (h4 _).mono ?_); rintro e w4 ⟨rfl, rfl⟩)) | (go_at_call 242; refine (h5 _).mono ?_; rintro e w5 ⟨rfl, rfl⟩) | (go_at_call 243; ((with_reducible refine (h6 _).mono ?_); rintro e w6 ⟨rfl, hb6⟩; obtain ⟨hc6, hf6⟩ := bcell hb6)) | (go_at_call 243; ((with_reducible refine (h7 _).mono ?_); rintro e w7 ⟨rfl, hb7⟩; obtain ⟨hc7, hf7⟩ := bcell hb7)))
                go_ret
                exact ⟨by simp, (((((Below.refl _ w).alloc (Nat.le_refl _) _).alloc (by simp) _).trans (hb6.mono (by simp; omega))).trans (hb7.mono (by have := hb6.size; simp at *; omega)))⟩
              · go_enter Tryz.func231, Tryz.ntmps231
                go_wp2_with (first | (go_at_call 229; ((with_reducible refine (h1 _).mono ?_); rintro e w1 ⟨rfl, rfl⟩)) | (go_at_call 229; ((with_reducible refine (h2 _).mono ?_); rintro e w2 ⟨rfl, rfl⟩)) | (go_at_call 229; ((with_reducible refine (h3 _).mono ?_); rintro e w3 ⟨rfl, rfl⟩)) | (go_at_call 229; ((with_reducible refine (h4 _).mono ?_); rintro e w4 ⟨rfl, rfl⟩)) | (go_at_call 242; refine (h5 _).mono ?_; rintro e w5 ⟨rfl, rfl⟩) | (go_at_call 243; ((with_reducible refine (h6 _).mono ?_); rintro e w6 ⟨rfl, hb6⟩; obtain ⟨hc6, hf6⟩ := bcell hb6)) | (go_at_call 243; ((with_reducible refine (h7 _).mono ?_); rintro e w7 ⟨rfl, hb7⟩; obtain ⟨hc7, hf7⟩ := bcell hb7)))
                go_ret
                exact ⟨by simp, (((((Below.refl _ w).alloc (Nat.le_refl _) _).alloc (by simp) _).trans (hb6.mono (by simp; omega))).trans (hb7.mono (by have := hb6.size; simp at *; omega)))⟩

/-- The jump at place i is as it must be. -/
def jumpAt (js : List Int) (i : Nat) : Bool := inB (js.getD i 0) 1 20000 && (i == 0 || decide (js.getD (i - 1) 0 < js.getD i 0))
def jumpsB (js : List Int) : Bool := (List.range js.length).all (jumpAt js) && decide (js.length ≤ 16)
theorem range_all_succ (p : Nat → Bool) (k : Nat) : (List.range (k + 1)).all p = ((List.range k).all p && p k) := by rw [List.range_succ, List.all_append]; simp
theorem range_all_false {p : Nat → Bool} {k n : Nat} (hk : k < n) (h : p k = false) : (List.range n).all p = false := by
  rw [List.all_eq_false]
  exact ⟨k, List.mem_range.2 hk, by simp [h]⟩

set_option maxHeartbeats 4000000 in
theorem jumps_any (js : List Int) (v : Value) (w : World) (h : RowsAt encI 1 w v js) : Calls Tryz.prog 230 #[v] w fun e w' => e = .returned (.bool (jumpsB js)) ∧ w = w' := by
  rcases h.ints with ⟨rfl, A, c, rfl⟩ | ⟨b, o, c, rfl, h0, hm, hb, hc⟩
  · go_enter Tryz.func230, Tryz.ntmps230
    go_wp2
    refine wp_loop_rounds 1 ?_
    rw [rounds_succ]
    go_wp2
    go_ret
    exact ⟨rfl, rfl⟩
  · unfold maxLen at hm
    have hL : (js.length : Int) ≤ 9223372036854775807 := by omega
    have HC := Lib.hid hc
    clear hc h
    go_enter Tryz.func230, Tryz.ntmps230
    go_wp2
    go_loop [7] (fun s7 => ∃ k : Nat, k ≤ js.length ∧ s7 = .int .i64 k ∧ (List.range k).all (jumpAt js) = true) (fun s7 => js.length - (intOf s7).toNat)
    case atStart => exact ⟨0, Nat.zero_le _, rfl, rfl⟩
    case round =>
      obtain ⟨k, hk, rfl, hall⟩ := hrel
      have HA := Lib.hid hall
      clear hall
      by_cases hlt : k < js.length
      · have hck := HC.out k hlt
        obtain ⟨x, hx⟩ : ∃ x, x = js[k] := ⟨_, rfl⟩
        rw [← hx] at hck
        have hgx : js.getD k 0 = x := by rw [hx, List.getD_eq_getElem?_getD, List.getElem?_eq_getElem hlt]; rfl
        clear hx
        have h1 := fun W => lwithin_any x 1 20000 W
        cases hz : inB x 1 20000 <;> rw [hz] at h1
        · have hno : jumpAt js k = false := by unfold jumpAt; rw [hgx, hz]; rfl
          have Hno : Hid (jumpsB js = false) := Lib.hid (by unfold jumpsB; rw [range_all_false hlt hno]; rfl)
          clear hno hgx hz
          go_wp2_with (go_at_call 229; refine (h1 _).mono ?_; rintro e w1 ⟨rfl, rfl⟩)
          go_ret
          exact ⟨by rw [Hno.out]; rfl, rfl⟩
        · cases k with
          | zero =>
            have hck : w.cell? ⟨b, o, none⟩ = some (.int .i64 x) := hck
            have hyes : jumpAt js 0 = true := by unfold jumpAt; rw [hgx, hz]; rfl
            have Hy : Hid ((List.range (0 + 1)).all (jumpAt js) = true) := Lib.hid (by rw [range_all_succ, hyes]; rfl)
            clear hyes hgx hz
            go_wp2_with (go_at_call 229; refine (h1 _).mono ?_; rintro e w1 ⟨rfl, rfl⟩)
            go_round
            case rel => exact ⟨0 + 1, by omega, by go_num, Hy.out⟩
            case measure => simp [intOf]; omega
          | succ k =>
            have hcp := HC.out k (by omega)
            obtain ⟨y, hy⟩ : ∃ y, y = js[k] := ⟨_, rfl⟩
            rw [← hy] at hcp
            have hgy : js.getD k 0 = y := by rw [hy, List.getD_eq_getElem?_getD, List.getElem?_eq_getElem (by omega)]; rfl
            clear hy
            have hs1 : (((k + 1 : Nat) : Int) - 1) = (k : Int) := by omega
            by_cases hxy : x ≤ y
            · have hno : jumpAt js (k + 1) = false := by unfold jumpAt; rw [Nat.add_sub_cancel, hgx, hgy, hz]; simp; omega
              have Hno : Hid (jumpsB js = false) := Lib.hid (by unfold jumpsB; rw [range_all_false hlt hno]; rfl)
              clear hno hgx hz hgy
              go_wp2_with (go_at_call 229; refine (h1 _).mono ?_; rintro e w1 ⟨rfl, rfl⟩)
              go_ret
              exact ⟨by rw [Hno.out]; rfl, rfl⟩
            · have hyes : jumpAt js (k + 1) = true := by unfold jumpAt; rw [Nat.add_sub_cancel, hgx, hgy, hz]; simp; omega
              have Hy : Hid ((List.range (k + 1 + 1)).all (jumpAt js) = true) := Lib.hid (by rw [range_all_succ, hyes, HA.out]; rfl)
              clear hyes hgx hz hgy
              go_wp2_with (go_at_call 229; refine (h1 _).mono ?_; rintro e w1 ⟨rfl, rfl⟩)
              go_round
              case rel => exact ⟨k + 1 + 1, by omega, by go_num, Hy.out⟩
              case measure => simp [intOf]; omega
      · have hks : k = js.length := by omega
        have Hj : Hid (jumpsB js = decide ((js.length : Int) ≤ 16)) := Lib.hid (by unfold jumpsB; rw [← hks, HA.out, Bool.true_and]; exact decide_eq_decide.2 (by omega))
        clear hks
        go_wp2
        go_ret
        exact ⟨by rw [Hj.out]; rfl, rfl⟩
end Go.Proofs.YtlamogpdkmbeoaaGreatDoor
end PartLogB
