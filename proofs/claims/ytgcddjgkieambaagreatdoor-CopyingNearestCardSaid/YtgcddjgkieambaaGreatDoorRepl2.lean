/- sync.Once over a replacer's table: buildOnce, doSlow, Do. -/
import Derived.Test.YtgcddjgkieambaaGreatDoorRepl
import Derived.Laws.EntriesVeiled
set_option linter.unusedVariables false
set_option linter.unusedSimpArgs false
namespace Go.Proofs.YtgcddjgkieambaaGreatDoor
open Go.RowKit

theorem Pairs.far {w : World} {g b : Nat} {p q : Nat → UInt8} (h : Pairs w g p q) (hb : g ≠ b) (i : Nat) (u : Value) : Pairs (w.setCell ⟨b, i, none⟩ u) g p q :=
  ⟨by simpa [World.setCell] using h.1, fun k hk => ⟨(World.cell?_setCell_other _ _ _ _ (fun e => hb (by injection e with e; exact e.symm))).trans (h.2 k hk).1, (World.cell?_setCell_other _ _ _ _ (fun e => hb (by injection e with e; exact e.symm))).trans (h.2 k hk).2⟩⟩
theorem blk5 {w : World} {b : Nat} {t : TypeId} {x0 x1 x2 x3 x4 : Value} (h : Blk w b t #[x0, x1, x2, x3, x4]) : w.cell? ⟨b, 0, none⟩ = some x0 ∧ w.cell? ⟨b, 1, none⟩ = some x1 ∧ w.cell? ⟨b, 2, none⟩ = some x2 ∧ w.cell? ⟨b, 3, none⟩ = some x3 ∧ w.cell? ⟨b, 4, none⟩ = some x4 :=
  ⟨h.cell 0, h.cell 1, h.cell 2, h.cell 3, h.cell 4⟩

set_option maxRecDepth 100000 in
set_option maxHeartbeats 1000000 in
theorem once_build (b g c : Nat) (p q : Nat → UInt8) (x0 x1 x2 x3 : Value) (w : World) (hB : Blk w b 171 #[x0, x1, x2, x3, .slice (some ⟨g, 0, none⟩) 6 c]) (hp : Pairs w g p q) :
    Calls Tryz.prog 142 #[.pointer (some ⟨b, 0, none⟩)] w fun e w' => e = .returned (.tuple #[]) ∧ ∃ r, ByteTab w' r (rp p q 3) ∧ Blk w' b 171 #[x0, x1, x2, .iface 214 (.pointer (some ⟨r, 0, none⟩)), .slice none 0 0] ∧ r ≠ b ∧ Below b w w' := by
  have HB := Lib.hid hB
  have hl := hB.lt
  have HC := Lib.hid (build_any b g c p q w (hB.cell 4) hp)
  clear hp hB
  go_enter Tryz.func142, Tryz.ntmps142
  go_wp2_with (go_at_call 161; refine HC.out.mono ?_; rintro e w1 ⟨r, rfl, hT, hr, hb1⟩; have hB1 := HB.out.later hb1; obtain ⟨k0, k1, k2, k3, k4⟩ := blk5 hB1; have f3 := hB1.frozen 3; have f4 := hB1.frozen 4)
  go_end0
  have hne : r ≠ b := by omega
  have hbb : Below b w w1 := hb1.mono (Nat.le_of_lt hl)
  exact ⟨rfl, r, (RowK.far hT (p := ⟨b, 3, none⟩) hne _).far (p := ⟨b, 4, none⟩) hne _, (hB1.put 3 _).put 4 _, hne, ((hbb.setCell (p := ⟨b, 3, none⟩) (Nat.le_refl _) _).setCell (p := ⟨b, 4, none⟩) (Nat.le_refl _) _)⟩

set_option maxRecDepth 100000 in
set_option maxHeartbeats 1600000 in
theorem slow_any (b g c : Nat) (p q : Nat → UInt8) (x2 x3 : Value) (w : World) (hB : Blk w b 171 #[.int .u32 0, .int .i32 0, x2, x3, .slice (some ⟨g, 0, none⟩) 6 c]) (hp : Pairs w g p q) (hg : g ≠ b) :
    Calls Tryz.prog 160 #[.pointer (some ⟨b, 0, none⟩), .func (.func 142) #[.pointer (some ⟨b, 0, none⟩)] #[]] w fun e w' => e = .returned (.tuple #[]) ∧
      ∃ r, ByteTab w' r (rp p q 3) ∧ Blk w' b 171 #[.int .u32 1, .int .i32 0, x2, .iface 214 (.pointer (some ⟨r, 0, none⟩)), .slice none 0 0] ∧ Below b w w' := by
  have HB := Lib.hid hB
  have hB1 := hB.put 1 (.int .i32 1)
  have HB1 := Lib.hid hB1
  obtain ⟨c0, c1, c2, c3, c4⟩ := blk5 hB
  have f1 := hB.frozen 1
  have HC := Lib.hid (once_build b g c p q _ _ _ _ (w.setCell ⟨b, 1, none⟩ (.int .i32 1)) hB1 (hp.far hg 1 _))
  have hl := run_call_load (P := Tryz.prog) Tryz.func175 (by kernel_rfl) (by kernel_rfl) (by kernel_rfl) .u32 (by kernel_rfl) (w := w.setCell ⟨b, 1, none⟩ (.int .i32 1)) (a := ⟨b, 0, none⟩) (x := 0) (hB1.cell 0)
  have hnot : ∀ (x : Bool) (w : World), (Op.unary .not (.bool x)).run Tryz.prog w = .ok (.bool (!x)) w := fun _ _ => rfl
  have hlt := hB.lt
  clear hB hB1 hp
  go_enter_defers Tryz.func160, Tryz.ntmps160
  go_wp2_with (first | (go_at_call 176; refine (lock_free ⟨b, 1, none⟩ _ (by go_simp) (by go_simp)).mono ?_; rintro e w' ⟨rfl, rfl⟩) | (go_at_call 159; go_in) | (go_at_call 142; refine HC.out.mono ?_; rintro e w1 ⟨rfl, r, hT, hB2, hr, hb⟩))
  have HT := Lib.hid hT
  have HB2 := Lib.hid hB2
  have Hb := Lib.hid hb
  clear hT hB2 hb
  refine leaves_cons (f := 178) (args := #[.pointer (some ⟨b, 0, none⟩), .bool true]) (by simp) (by simp [go_sem]) ?_
  refine (store_deferred ⟨b, 0, none⟩ (.int .u32 0) .returning _ (HB2.out.cell 0) (HB2.out.frozen 0)).mono ?_
  rintro e u' w'' ⟨rfl, rfl, rfl⟩
  have hB3 := HB2.out.drew.put 0 (.int .u32 1)
  refine leaves_cons (f := 177) (args := #[.pointer (some ⟨b, 1, none⟩)]) (by simp [settle]) (by simp [go_sem]) ?_
  refine (unlock_deferred ⟨b, 1, none⟩ _ _ (hB3.cell 1) (hB3.frozen 1)).mono ?_
  rintro e u' w'' ⟨rfl, rfl, rfl⟩
  have hB4 := hB3.put 1 (.int .i32 0)
  have hbb : Below b w w1 := (((Below.refl b w).setCell (p := ⟨b, 1, none⟩) (Nat.le_refl _) _).trans Hb.out)
  have hfin : ∃ r, ByteTab (((w1.drew).setCell ⟨b, 0, none⟩ (.int .u32 1)).setCell ⟨b, 1, none⟩ (.int .i32 0)) r (rp p q 3) ∧ Blk (((w1.drew).setCell ⟨b, 0, none⟩ (.int .u32 1)).setCell ⟨b, 1, none⟩ (.int .i32 0)) b 171 #[.int .u32 1, .int .i32 0, x2, .iface 214 (.pointer (some ⟨r, 0, none⟩)), .slice none 0 0] ∧
      Below b w (((w1.drew).setCell ⟨b, 0, none⟩ (.int .u32 1)).setCell ⟨b, 1, none⟩ (.int .i32 0)) :=
    ⟨r, (RowK.far (RowK.drew HT.out) (p := ⟨b, 0, none⟩) hr _).far (p := ⟨b, 1, none⟩) hr _, hB4, (hbb.drew.setCell (p := ⟨b, 0, none⟩) (Nat.le_refl _) _).setCell (p := ⟨b, 1, none⟩) (Nat.le_refl _) _⟩
  have Hfin := Lib.hid hfin
  clear hfin hB4 hB3 hbb
  simp [Leaves, settle, results, Tryz.results160]
  exact Hfin.out

set_option maxRecDepth 100000 in
set_option maxHeartbeats 1600000 in
theorem do_first (b g c : Nat) (p q : Nat → UInt8) (x2 x3 : Value) (w : World) (hB : Blk w b 171 #[.int .u32 0, .int .i32 0, x2, x3, .slice (some ⟨g, 0, none⟩) 6 c]) (hp : Pairs w g p q) (hg : g ≠ b) :
    Calls Tryz.prog 141 #[.pointer (some ⟨b, 0, none⟩), .func (.func 142) #[.pointer (some ⟨b, 0, none⟩)] #[]] w fun e w' => e = .returned (.tuple #[]) ∧
      ∃ r, ByteTab w' r (rp p q 3) ∧ Blk w' b 171 #[.int .u32 1, .int .i32 0, x2, .iface 214 (.pointer (some ⟨r, 0, none⟩)), .slice none 0 0] ∧ Below b w w' := by
  have HC := Lib.hid (slow_any b g c p q x2 x3 w hB hp hg)
  have hl := run_call_load (P := Tryz.prog) Tryz.func175 (by kernel_rfl) (by kernel_rfl) (by kernel_rfl) .u32 (by kernel_rfl) (w := w) (a := ⟨b, 0, none⟩) (x := 0) (hB.cell 0)
  have hnot : ∀ (x : Bool) (w : World), (Op.unary .not (.bool x)).run Tryz.prog w = .ok (.bool (!x)) w := fun _ _ => rfl
  clear hB hp
  go_enter Tryz.func141, Tryz.ntmps141
  go_wp2_with (first | (go_at_call 160; refine HC.out.mono ?_; rintro e w1 ⟨rfl, hx⟩) | (go_at_call 159; go_in))
  have HX := Lib.hid hx
  clear hx
  go_end0
  exact ⟨rfl, HX.out⟩
end Go.Proofs.YtgcddjgkieambaaGreatDoor
