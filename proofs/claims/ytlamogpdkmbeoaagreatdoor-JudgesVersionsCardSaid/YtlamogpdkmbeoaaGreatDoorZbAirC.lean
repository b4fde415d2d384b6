/- The walks of call signs: the forms. -/
import Derived.Test.YtlamogpdkmbeoaaGreatDoorZbMem
set_option linter.unusedVariables false
set_option linter.unusedSimpArgs false
namespace Go.Proofs.YtlamogpdkmbeoaaGreatDoor
open Go.RowKit Go.Lib Go.Shelf

theorem bcell {W w1 : World} (hb : Below W.heap.size W w1) : (∀ b o, b < W.heap.size → w1.cell? ⟨b, o, none⟩ = W.cell? ⟨b, o, none⟩) ∧ (∀ b o, b < W.heap.size → w1.frozen? ⟨b, o, none⟩ = W.frozen? ⟨b, o, none⟩) :=
  ⟨fun b o h => hb.cell (p := ⟨b, o, none⟩) h, fun b o h => hb.frozen (p := ⟨b, o, none⟩) h⟩

/-- Parts of a call sign, and whether it is one. -/
def Parted (x : Bool) (e : Ending) : Prop := ∃ a b c d : ByteArray, e = .returned (.tuple #[.agg #[.string a, .string b, .string c, .string d], .bool x])

theorem ret_p {x y : Bool} {a b c d : Value} (h : y = x) : Ending.returned (.tuple #[.agg #[a, b, c, d], .bool y]) = .returned (.tuple #[.agg #[a, b, c, d], .bool x]) := by rw [h]
set_option maxHeartbeats 1000000 in
theorem forms1_any (s : ByteArray) (w : World) (hs : s.size ≤ 9223372036854775807) (hE : Env w) :
    Calls Tryz.prog 245 #[.string s] w fun e w' => Parted (baseB s) e ∧ Below w.heap.size w w' := by
  have hbase : ∀ W, Below w.heap.size w W → Calls Tryz.prog 246 #[.string s] W _ := fun W hb => base_any s W hs (hE.below hE.big hb)
  clear hE
  have h0 := hbase _ ((Below.refl _ w).alloc (Nat.le_refl _) (.cells #[.string ⟨#[]⟩, .string ⟨#[]⟩, .string ⟨#[]⟩, .string ⟨#[]⟩] 273))
  go_enter Tryz.func245, Tryz.ntmps245
  go_wp2_with (go_at_call 246; refine h0.mono ?_; rintro e w1 ⟨⟨a, b, rfl⟩, hb1⟩; obtain ⟨hc, hf⟩ := bcell hb1; have hz : w.heap.size + 1 ≤ w1.heap.size := by have := hb1.size; simp at this; omega)
  refine bodyPost_ret (v := .tuple #[.agg #[.string ⟨#[]⟩, .string a, .string b, .string ⟨#[]⟩], .bool (baseB s)]) (by simp [results, Tryz.results245, go_sem, hc, hf]) rfl ⟨⟨_, _, _, _, rfl⟩, ?_⟩
  exact ((((((Below.refl _ w).alloc (Nat.le_refl _) _).trans (hb1.mono (by simp))).setCell (Nat.le_refl _) _).setCell (Nat.le_refl _) _).setCell (Nat.le_refl _) _).setCell (Nat.le_refl _) _

abbrev zeroParts : Obj := .cells #[.string ⟨#[]⟩, .string ⟨#[]⟩, .string ⟨#[]⟩, .string ⟨#[]⟩] 273
theorem old_cell {w : World} {a : Addr} {v : Value} (h : w.cell? a = some v) (o : Obj) : (w.alloc o).cell? a = some v := by rw [World.cell?_alloc_some _ _ _ (by rw [h]; rfl)]; exact h
set_option maxHeartbeats 2000000 in
theorem forms2_any (x : ByteArray) (b Bf cap : Nat) (w : World) (hs : x.size ≤ 9223372036854775807) (hE : Env w) (hb : b < w.heap.size) (hB : Bf < w.heap.size)
    (hx : w.cell? ⟨b, 0, none⟩ = some (.string x)) (hg : w.cell? ⟨Bf, 0, none⟩ = some (.func (.func 245) #[] #[])) :
    Calls Tryz.prog 247 #[.slice (some ⟨b, 0, none⟩) 1 cap, .pointer (some ⟨Bf, 0, none⟩)] w fun e w' => Parted (baseB x) e ∧ Below w.heap.size w w' := by
  have hbase : ∀ W, Below w.heap.size w W → Calls Tryz.prog 245 #[.string x] W _ := fun W hb => forms1_any x W hs (hE.below hE.big hb)
  have hx1 := old_cell hx zeroParts
  have hg1 := old_cell hg zeroParts
  have nb : w.heap.size ≠ b := by omega
  have nB : w.heap.size ≠ Bf := by omega
  clear hE
  go_enter Tryz.func247, Tryz.ntmps247
  go_wp2
  go_region_held3 (fun w' => w'.cell? ⟨b, 0, none⟩ = some (.string x) ∧ w'.cell? ⟨Bf, 0, none⟩ = some (.func (.func 245) #[] #[])) (go_keep) ((go_at_call 245; refine (hbase _ (((Below.refl _ w).alloc (Nat.le_refl _) _).drew)).mono ?_; rintro e w1 ⟨⟨c1, c2, c3, c4, rfl⟩, hb1⟩; obtain ⟨hc, hf⟩ := bcell hb1; have hz : w.heap.size + 1 ≤ w1.heap.size := (by have := hb1.size; simp at this; omega); have hx2 := (hb1.cell (p := ⟨b, 0, none⟩) (by simp; omega)).trans hx1; have hg2 := (hb1.cell (p := ⟨Bf, 0, none⟩) (by simp; omega)).trans hg1))
  go_wp2
  refine bodyPost_ret (v := .tuple #[.agg #[.string c1, .string c2, .string c3, .string c4], .bool (baseB x)]) (by simp [results, Tryz.results247, go_sem, hc, hf]) rfl ⟨⟨_, _, _, _, rfl⟩, ?_⟩
  exact ((((((Below.refl _ w).alloc (Nat.le_refl _) _).drew.trans (hb1.mono (by simp))).setCell (Nat.le_refl _) _).setCell (Nat.le_refl _) _).setCell (Nat.le_refl _) _).setCell (Nat.le_refl _) _

/-- Behind the call of 'based': the parts lie in a block of their own. -/
def PartAt (w : World) (g : Nat) (c1 c2 c3 c4 : ByteArray) (wx : World) : Prop :=
  w.heap.size < g ∧ Blk wx g 273 #[.string c1, .string c2, .string c3, .string c4] ∧ Blk wx w.heap.size 273 #[.string ⟨#[]⟩, .string ⟨#[]⟩, .string ⟨#[]⟩, .string ⟨#[]⟩] ∧ Below w.heap.size w wx
theorem part_in {w w1 : World} (hb1 : Below ((w.alloc zeroParts).alloc zeroParts).drew.heap.size ((w.alloc zeroParts).alloc zeroParts).drew w1) (c1 c2 c3 c4 : ByteArray) :
    PartAt w (w.heap.size + 1) c1 c2 c3 c4 ((((w1.setCell ⟨w.heap.size + 1, 0, none⟩ (.string c1)).setCell ⟨w.heap.size + 1, 1, none⟩ (.string c2)).setCell ⟨w.heap.size + 1, 2, none⟩ (.string c3)).setCell ⟨w.heap.size + 1, 3, none⟩ (.string c4)) := by
  have hn := (Blk.new (w.alloc zeroParts) 273 #[.string ⟨#[]⟩, .string ⟨#[]⟩, .string ⟨#[]⟩, .string ⟨#[]⟩]).drew.later hb1
  rw [World.size_alloc] at hn
  have ho := ((Blk.new w 273 #[.string ⟨#[]⟩, .string ⟨#[]⟩, .string ⟨#[]⟩, .string ⟨#[]⟩]).alloc zeroParts).drew.later hb1
  refine ⟨by omega, (((hn.put 0 _).put 1 _).put 2 _).put 3 _, (((ho.far (by simp) _).far (by simp) _).far (by simp) _).far (by simp) _, ?_⟩
  have hb : Below w.heap.size w w1 := (((Below.refl _ w).alloc (Nat.le_refl _) _).alloc (by simp) _).drew.trans (hb1.mono (by simp; omega))
  exact (((hb.setCell (by simp) _).setCell (by simp) _).setCell (by simp) _).setCell (by simp) _
theorem part_behind {w w1 : World} (hb1 : Below (w.alloc zeroParts).drew.heap.size (w.alloc zeroParts).drew w1) (c1 c2 c3 c4 : ByteArray) :
    PartAt w w1.heap.size c1 c2 c3 c4 (w1.alloc (.cells #[.string c1, .string c2, .string c3, .string c4] 273)) := by
  have hs := hb1.size
  simp at hs
  have ho := (Blk.new w 273 #[.string ⟨#[]⟩, .string ⟨#[]⟩, .string ⟨#[]⟩, .string ⟨#[]⟩]).drew.later hb1
  refine ⟨by omega, Blk.new _ _ _, ho.alloc _, ?_⟩
  have hb : Below w.heap.size w w1 := ((Below.refl _ w).alloc (Nat.le_refl _) _).drew.trans (hb1.mono (by simp))
  exact hb.alloc (by omega) _

set_option maxHeartbeats 4000000 in
theorem forms3_any (x0 x1 : ByteArray) (b Bf cap : Nat) (w : World) (hs : x1.size ≤ 9223372036854775807) (hE : Env w) (hb : b < w.heap.size) (hB : Bf < w.heap.size)
    (hx0 : w.cell? ⟨b, 0, none⟩ = some (.string x0))
    (hx1 : w.cell? ⟨b, 1, none⟩ = some (.string x1))
    (hg : w.cell? ⟨Bf, 0, none⟩ = some (.func (.func 245) #[] #[])) :
    Calls Tryz.prog 248 #[.slice (some ⟨b, 0, none⟩) 2 cap, .pointer (some ⟨Bf, 0, none⟩)] w fun e w' => Parted (baseB x1 && areaB x0 && decide (x0.size < x1.size)) e ∧ Below w.heap.size w w' := by
  have hbase : ∀ W, Below w.heap.size w W → Calls Tryz.prog 245 #[.string x1] W _ := fun W hb => forms1_any x1 W hs (hE.below hE.big hb)
  have hy1 := old_cell hx1 zeroParts
  have hg1 := old_cell hg zeroParts
  have nb : w.heap.size ≠ b := by omega
  have nB : w.heap.size ≠ Bf := by omega
  have nb' : ¬ w.heap.size + 1 = b := by omega
  have nB' : ¬ w.heap.size + 1 = Bf := by omega
  clear hE
  generalize baseB x1 = z1 at hbase ⊢
  go_enter Tryz.func248, Tryz.ntmps248
  go_upto_region 1 with fail
  go_cut [5, 6] (fun s5 s6 wx => ∃ (g : Nat) (c1 c2 c3 c4 : ByteArray), s5 = .pointer (some ⟨g, 0, none⟩) ∧ s6 = .bool z1 ∧ PartAt w g c1 c2 c3 c4 wx)
  case first =>
    have hy2 := old_cell hy1 zeroParts
    have hg2 := old_cell hg1 zeroParts
    go_region_held3 (fun w' => w'.cell? ⟨b, 1, none⟩ = some (.string x1) ∧ w'.cell? ⟨Bf, 0, none⟩ = some (.func (.func 245) #[] #[])) (go_keep) ((go_at_call 245; refine (hbase _ (by first | exact ((Below.refl _ w).alloc (Nat.le_refl _) _).drew | exact (((Below.refl _ w).alloc (Nat.le_refl _) _).alloc (by simp) _).drew)).mono ?_; rintro e w1 ⟨⟨c1, c2, c3, c4, rfl⟩, hb1⟩; obtain ⟨hc, hf⟩ := bcell hb1; have hz : w.heap.size + 1 ≤ w1.heap.size := (by have := hb1.size; simp at this; omega); have hy3 := (hb1.cell (p := ⟨b, 1, none⟩) (by simp; omega)).trans (by first | exact hy1 | exact hy2); have hg3 := (hb1.cell (p := ⟨Bf, 0, none⟩) (by simp; omega)).trans (by first | exact hg1 | exact hg2); have nb1 : w1.heap.size ≠ b := (by omega); have nB1 : w1.heap.size ≠ Bf := (by omega)))
    all_goals
      go_wp2_with fail
      go_meet
      first | exact ⟨_, _, _, _, _, rfl, rfl, part_in hb1 _ _ _ _⟩ | exact ⟨_, _, _, _, _, rfl, rfl, part_behind hb1 _ _ _ _⟩
  case rest =>
    obtain ⟨g, c1, c2, c3, c4, rfl, rfl, hg, hp, hr, hbw⟩ := hcut
    have kx0 := (hbw.cell (p := ⟨b, 0, none⟩) hb).trans hx0
    have kx1 := (hbw.cell (p := ⟨b, 1, none⟩) hb).trans hx1
    have p0 := hp.cell 0
    have p1 := hp.cell 1
    have p2 := hp.cell 2
    have p3 := hp.cell 3
    have pf := hp.frozen
    have ngb : ¬ g = b := by omega
    clear hbase
    go_wp2
    have hp3 := (hp.put 0 (.string x0))
    have hr3 := (hr.far (p := ⟨g, 0, none⟩) (by simp; omega) (.string x0))
    have hb3 := (hbw.setCell (p := ⟨g, 0, none⟩) (by simp; omega) (.string x0))
    have qx0 : (wc.setCell ⟨g, 0, none⟩ (.string x0)).cell? ⟨b, 0, none⟩ = some (.string x0) := by simp [World.cell?_setCell_far, kx0, ngb]
    have qx1 : (wc.setCell ⟨g, 0, none⟩ (.string x0)).cell? ⟨b, 1, none⟩ = some (.string x1) := by simp [World.cell?_setCell_far, kx1, ngb]
    clear kx0 kx1 p0 p1 p2 p3 pf hx0 hx1 hy1 hp hr hbw
    generalize (wc.setCell ⟨g, 0, none⟩ (.string x0)) = W3 at hp3 hr3 hb3 qx0 qx1 ⊢
    have p0 := hp3.cell 0
    have p1 := hp3.cell 1
    have p2 := hp3.cell 2
    have p3 := hp3.cell 3
    have r0 := hr3.cell 0
    have r1 := hr3.cell 1
    have r2 := hr3.cell 2
    have r3 := hr3.cell 3
    have rf := hr3.frozen
    have ng : ¬ w.heap.size = g := by omega
    have hs3 : w.heap.size < W3.heap.size := hr3.lt
    have hsg := hp3.lt
    have hsb : b < W3.heap.size := by omega
    simp only [List.getElem?_toArray, List.getElem?_cons_zero, List.getElem?_cons_succ, Array.getElem?_setIfInBounds] at p0 p1 p2 p3 r0 r1 r2 r3
    cases z1
    · go_wp2
      refine wp_region_held_drew (S := (fun w' => w'.cell? ⟨g, 0, none⟩ = some (.string x0) ∧ w'.cell? ⟨g, 1, none⟩ = some (.string c2) ∧ w'.cell? ⟨g, 2, none⟩ = some (.string c3) ∧ w'.cell? ⟨g, 3, none⟩ = some (.string c4) ∧ w'.cell? ⟨b, 0, none⟩ = some (.string x0) ∧ w'.cell? ⟨b, 1, none⟩ = some (.string x1))) (by kernel_rfl) ?hS1 (fun hHeld => ?_)
      case hS1 => ((try dsimp only); simp [*])
      refine tk3 (i := 0) ?_; try simp only [Act.put, zq]
      refine tk3 (i := 1) ?_; try simp only [Act.put, zq]
      refine tk3 (i := 2) ?_; try simp only [Act.put, zq]
      refine tk2 (i := 3) ?_; try simp only [Act.put, zq]
      refine tk2 (i := 4) ?_; try simp only [Act.put, zq]
      refine tk2 (i := 5) ?_; try simp only [Act.put, zq]
      refine tk2 (i := 6) ?_; try simp only [Act.put, zq]
      refine tk3 (i := 7) ?_; try simp only [Act.put, zq]
      refine tk3 (i := 8) ?_; try simp only [Act.put, zq]
      refine tk2 (i := 9) ?_; try simp only [Act.put, zq]
      refine tk2 (i := 10) ?_; try simp only [Act.put, zq]
      refine tk2 (i := 11) ?_; try simp only [Act.put, zq]
      refine tk2 (i := 12) ?_; try simp only [Act.put, zq]
      refine tk2 (i := 13) ?_; try simp only [Act.put, zq]
      refine tk2 (i := 14) ?_; try simp only [Act.put, zq]
      refine tk2 (i := 15) ?_; try simp only [Act.put, zq]
      refine tk2 (i := 16) ?_; try simp only [Act.put, zq]
      refine tk2 (i := 17) ?_; try simp only [Act.put, zq]
      refine tk3 (i := 18) ?_; try simp only [Act.put, zq]
      refine wpAnyH_ready (rs := [19]) (by kernel_rfl) (by simp) ?_
      refine AllReadyH.cons rfl (fun K hK => ?_) AllReadyH.nil
      go_simp
      refine hK.out _ _ ?hS1_20 (fun hHeld => ?_)
      case hS1_20 => ((try dsimp only); go_keep)
      clear hK K
      (try simp only [Act.put, zq])
      refine tk3 (i := 20) ?_; try simp only [Act.put, zq]
      refine wpAnyH_done (by kernel_rfl) ?_ _
      go_wp2
      refine bodyPost_ret (v := .tuple #[.agg #[.string x0, .string c2, .string c3, .string c4], .bool false]) (by simp [results, Tryz.results248, go_sem, *]) rfl ⟨⟨_, _, _, _, ret_p (by simp)⟩, ?_⟩
      exact ((((hb3.setCell (Nat.le_refl _) _).setCell (Nat.le_refl _) _).setCell (Nat.le_refl _) _).setCell (Nat.le_refl _) _).drew
    · have hA := fun w => area_any x0 w
      cases hz2 : areaB x0 <;> rw [hz2] at hA
      · go_wp2
        refine wp_region_held_drew (S := (fun w' => w'.cell? ⟨g, 0, none⟩ = some (.string x0) ∧ w'.cell? ⟨g, 1, none⟩ = some (.string c2) ∧ w'.cell? ⟨g, 2, none⟩ = some (.string c3) ∧ w'.cell? ⟨g, 3, none⟩ = some (.string c4) ∧ w'.cell? ⟨b, 0, none⟩ = some (.string x0) ∧ w'.cell? ⟨b, 1, none⟩ = some (.string x1))) (by kernel_rfl) ?hS2 (fun hHeld => ?_)
        case hS2 => ((try dsimp only); simp [*])
        refine tk3 (i := 0) ?_; try simp only [Act.put, zq]
        refine tk3 (i := 1) ?_; try simp only [Act.put, zq]
        refine tk3 (i := 2) ?_; try simp only [Act.put, zq]
        refine tk3 (i := 3) ?_; try simp only [Act.put, zq]
        refine tk3 (i := 4) ?_; try simp only [Act.put, zq]
        refine tk3 (i := 5) ?_; try simp only [Act.put, zq]
        refine wpAnyH_ready (rs := [6]) (by kernel_rfl) (by simp) ?_
        refine AllReadyH.cons rfl (fun K hK => ?_) AllReadyH.nil
        go_simp
        (go_at_call 249; refine (hA _).mono ?_; rintro e wa0 ⟨rfl, hbwa0⟩; have hpwa0 := hp3.drew.later hbwa0; have hrwa0 := hr3.drew.later hbwa0; have hszwa0 := hbwa0.size; have p0wa0 := (hbwa0.cell (p := ⟨g, 0, none⟩) (by simp at *; omega)).trans p0; have p1wa0 := (hbwa0.cell (p := ⟨g, 1, none⟩) (by simp at *; omega)).trans p1; have p2wa0 := (hbwa0.cell (p := ⟨g, 2, none⟩) (by simp at *; omega)).trans p2; have p3wa0 := (hbwa0.cell (p := ⟨g, 3, none⟩) (by simp at *; omega)).trans p3; have r0wa0 := (hbwa0.cell (p := ⟨w.heap.size, 0, none⟩) (by simp at *; omega)).trans r0; have r1wa0 := (hbwa0.cell (p := ⟨w.heap.size, 1, none⟩) (by simp at *; omega)).trans r1; have r2wa0 := (hbwa0.cell (p := ⟨w.heap.size, 2, none⟩) (by simp at *; omega)).trans r2; have r3wa0 := (hbwa0.cell (p := ⟨w.heap.size, 3, none⟩) (by simp at *; omega)).trans r3; have qx0wa0 := (hbwa0.cell (p := ⟨b, 0, none⟩) (by simp at *; omega)).trans qx0; have qx1wa0 := (hbwa0.cell (p := ⟨b, 1, none⟩) (by simp at *; omega)).trans qx1; have rfwa0 := hrwa0.frozen)
        go_wp2_with fail
        refine hK.out _ _ ?hS2_7 (fun hHeld => ?_)
        case hS2_7 => ((try dsimp only); go_keep)
        clear hK K
        (try simp only [Act.put, zq])
        refine tk3 (i := 7) ?_; try simp only [Act.put, zq]
        refine tk3 (i := 8) ?_; try simp only [Act.put, zq]
        refine tk2 (i := 9) ?_; try simp only [Act.put, zq]
        refine tk2 (i := 10) ?_; try simp only [Act.put, zq]
        refine tk2 (i := 11) ?_; try simp only [Act.put, zq]
        refine tk2 (i := 12) ?_; try simp only [Act.put, zq]
        refine tk2 (i := 13) ?_; try simp only [Act.put, zq]
        refine tk2 (i := 14) ?_; try simp only [Act.put, zq]
        refine tk2 (i := 15) ?_; try simp only [Act.put, zq]
        refine tk2 (i := 16) ?_; try simp only [Act.put, zq]
        refine tk2 (i := 17) ?_; try simp only [Act.put, zq]
        refine tk3 (i := 18) ?_; try simp only [Act.put, zq]
        refine wpAnyH_ready (rs := [19]) (by kernel_rfl) (by simp) ?_
        refine AllReadyH.cons rfl (fun K hK => ?_) AllReadyH.nil
        go_simp
        refine hK.out _ _ ?hS2_20 (fun hHeld => ?_)
        case hS2_20 => ((try dsimp only); go_keep)
        clear hK K
        (try simp only [Act.put, zq])
        refine tk3 (i := 20) ?_; try simp only [Act.put, zq]
        refine wpAnyH_done (by kernel_rfl) ?_ _
        go_wp2
        refine bodyPost_ret (v := .tuple #[.agg #[.string x0, .string c2, .string c3, .string c4], .bool false]) (by simp [results, Tryz.results248, go_sem, *]) rfl ⟨⟨_, _, _, _, ret_p (by simp [hz2])⟩, ?_⟩
        exact (((((hb3.drew.trans (hbwa0.mono (by simp at *; omega)))).setCell (Nat.le_refl _) _).setCell (Nat.le_refl _) _).setCell (Nat.le_refl _) _).setCell (Nat.le_refl _) _
      · go_wp2
        refine wp_region_held_drew (S := (fun w' => w'.cell? ⟨g, 0, none⟩ = some (.string x0) ∧ w'.cell? ⟨g, 1, none⟩ = some (.string c2) ∧ w'.cell? ⟨g, 2, none⟩ = some (.string c3) ∧ w'.cell? ⟨g, 3, none⟩ = some (.string c4) ∧ w'.cell? ⟨b, 0, none⟩ = some (.string x0) ∧ w'.cell? ⟨b, 1, none⟩ = some (.string x1))) (by kernel_rfl) ?hS3 (fun hHeld => ?_)
        case hS3 => ((try dsimp only); simp [*])
        refine tk3 (i := 0) ?_; try simp only [Act.put, zq]
        refine tk3 (i := 1) ?_; try simp only [Act.put, zq]
        refine tk3 (i := 2) ?_; try simp only [Act.put, zq]
        refine tk3 (i := 3) ?_; try simp only [Act.put, zq]
        refine tk3 (i := 4) ?_; try simp only [Act.put, zq]
        refine tk3 (i := 5) ?_; try simp only [Act.put, zq]
        refine wpAnyH_ready (rs := [6]) (by kernel_rfl) (by simp) ?_
        refine AllReadyH.cons rfl (fun K hK => ?_) AllReadyH.nil
        go_simp
        (go_at_call 249; refine (hA _).mono ?_; rintro e wa0 ⟨rfl, hbwa0⟩; have hpwa0 := hp3.drew.later hbwa0; have hrwa0 := hr3.drew.later hbwa0; have hszwa0 := hbwa0.size; have p0wa0 := (hbwa0.cell (p := ⟨g, 0, none⟩) (by simp at *; omega)).trans p0; have p1wa0 := (hbwa0.cell (p := ⟨g, 1, none⟩) (by simp at *; omega)).trans p1; have p2wa0 := (hbwa0.cell (p := ⟨g, 2, none⟩) (by simp at *; omega)).trans p2; have p3wa0 := (hbwa0.cell (p := ⟨g, 3, none⟩) (by simp at *; omega)).trans p3; have r0wa0 := (hbwa0.cell (p := ⟨w.heap.size, 0, none⟩) (by simp at *; omega)).trans r0; have r1wa0 := (hbwa0.cell (p := ⟨w.heap.size, 1, none⟩) (by simp at *; omega)).trans r1; have r2wa0 := (hbwa0.cell (p := ⟨w.heap.size, 2, none⟩) (by simp at *; omega)).trans r2; have r3wa0 := (hbwa0.cell (p := ⟨w.heap.size, 3, none⟩) (by simp at *; omega)).trans r3; have qx0wa0 := (hbwa0.cell (p := ⟨b, 0, none⟩) (by simp at *; omega)).trans qx0; have qx1wa0 := (hbwa0.cell (p := ⟨b, 1, none⟩) (by simp at *; omega)).trans qx1; have rfwa0 := hrwa0.frozen)
        go_wp2_with fail
        refine hK.out _ _ ?hS3_7 (fun hHeld => ?_)
        case hS3_7 => ((try dsimp only); go_keep)
        clear hK K
        (try simp only [Act.put, zq])
        refine tk3 (i := 7) ?_; try simp only [Act.put, zq]
        refine tk3 (i := 8) ?_; try simp only [Act.put, zq]
        refine tk3 (i := 9) ?_; try simp only [Act.put, zq]
        refine tk3 (i := 10) ?_; try simp only [Act.put, zq]
        refine tk3 (i := 11) ?_; try simp only [Act.put, zq]
        refine tk3 (i := 12) ?_; try simp only [Act.put, zq]
        refine tk3 (i := 13) ?_; try simp only [Act.put, zq]
        refine tk3 (i := 14) ?_; try simp only [Act.put, zq]
        refine tk3 (i := 15) ?_; try simp only [Act.put, zq]
        refine tk3 (i := 16) ?_; try simp only [Act.put, zq]
        refine tk3 (i := 17) ?_; try simp only [Act.put, zq]
        refine tk3 (i := 18) ?_; try simp only [Act.put, zq]
        refine wpAnyH_ready (rs := [19]) (by kernel_rfl) (by simp) ?_
        refine AllReadyH.cons rfl (fun K hK => ?_) AllReadyH.nil
        go_simp
        refine hK.out _ _ ?hS3_20 (fun hHeld => ?_)
        case hS3_20 => ((try dsimp only); go_keep)
        clear hK K
        (try simp only [Act.put, zq])
        refine tk3 (i := 20) ?_; try simp only [Act.put, zq]
        refine wpAnyH_done (by kernel_rfl) ?_ _
        go_wp2
        refine bodyPost_ret (v := .tuple #[.agg #[.string x0, .string c2, .string c3, .string c4], .bool (decide (x0.size < x1.size))]) (by simp [results, Tryz.results248, go_sem, *]) rfl ⟨⟨_, _, _, _, ret_p (by simp [hz2])⟩, ?_⟩
        exact (((((hb3.drew.trans (hbwa0.mono (by simp at *; omega)))).setCell (Nat.le_refl _) _).setCell (Nat.le_refl _) _).setCell (Nat.le_refl _) _).setCell (Nat.le_refl _) _

set_option maxHeartbeats 4000000 in
theorem forms4_any (x0 x1 : ByteArray) (b Bf cap : Nat) (w : World) (hs : x0.size ≤ 9223372036854775807) (hE : Env w) (hb : b < w.heap.size) (hB : Bf < w.heap.size)
    (hx0 : w.cell? ⟨b, 0, none⟩ = some (.string x0))
    (hx1 : w.cell? ⟨b, 1, none⟩ = some (.string x1))
    (hg : w.cell? ⟨Bf, 0, none⟩ = some (.func (.func 245) #[] #[])) :
    Calls Tryz.prog 250 #[.slice (some ⟨b, 0, none⟩) 2 cap, .pointer (some ⟨Bf, 0, none⟩)] w fun e w' => Parted (baseB x0 && strokeB x1) e ∧ Below w.heap.size w w' := by
  have hbase : ∀ W, Below w.heap.size w W → Calls Tryz.prog 245 #[.string x0] W _ := fun W hb => forms1_any x0 W hs (hE.below hE.big hb)
  have hy1 := old_cell hx0 zeroParts
  have hg1 := old_cell hg zeroParts
  have nb : w.heap.size ≠ b := by omega
  have nB : w.heap.size ≠ Bf := by omega
  have nb' : ¬ w.heap.size + 1 = b := by omega
  have nB' : ¬ w.heap.size + 1 = Bf := by omega
  clear hE
  generalize baseB x0 = z1 at hbase ⊢
  go_enter Tryz.func250, Tryz.ntmps250
  go_upto_region 1 with fail
  go_cut [5, 6] (fun s5 s6 wx => ∃ (g : Nat) (c1 c2 c3 c4 : ByteArray), s5 = .pointer (some ⟨g, 0, none⟩) ∧ s6 = .bool z1 ∧ PartAt w g c1 c2 c3 c4 wx)
  case first =>
    have hy2 := old_cell hy1 zeroParts
    have hg2 := old_cell hg1 zeroParts
    go_region_held3 (fun w' => w'.cell? ⟨b, 0, none⟩ = some (.string x0) ∧ w'.cell? ⟨Bf, 0, none⟩ = some (.func (.func 245) #[] #[])) (go_keep) ((go_at_call 245; refine (hbase _ (by first | exact ((Below.refl _ w).alloc (Nat.le_refl _) _).drew | exact (((Below.refl _ w).alloc (Nat.le_refl _) _).alloc (by simp) _).drew)).mono ?_; rintro e w1 ⟨⟨c1, c2, c3, c4, rfl⟩, hb1⟩; obtain ⟨hc, hf⟩ := bcell hb1; have hz : w.heap.size + 1 ≤ w1.heap.size := (by have := hb1.size; simp at this; omega); have hy3 := (hb1.cell (p := ⟨b, 0, none⟩) (by simp; omega)).trans (by first | exact hy1 | exact hy2); have hg3 := (hb1.cell (p := ⟨Bf, 0, none⟩) (by simp; omega)).trans (by first | exact hg1 | exact hg2); have nb1 : w1.heap.size ≠ b := (by omega); have nB1 : w1.heap.size ≠ Bf := (by omega)))
    all_goals
      go_wp2_with fail
      go_meet
      first | exact ⟨_, _, _, _, _, rfl, rfl, part_in hb1 _ _ _ _⟩ | exact ⟨_, _, _, _, _, rfl, rfl, part_behind hb1 _ _ _ _⟩
  case rest =>
    obtain ⟨g, c1, c2, c3, c4, rfl, rfl, hg, hp, hr, hbw⟩ := hcut
    have kx0 := (hbw.cell (p := ⟨b, 0, none⟩) hb).trans hx0
    have kx1 := (hbw.cell (p := ⟨b, 1, none⟩) hb).trans hx1
    have p0 := hp.cell 0
    have p1 := hp.cell 1
    have p2 := hp.cell 2
    have p3 := hp.cell 3
    have pf := hp.frozen
    have ngb : ¬ g = b := by omega
    clear hbase
    go_wp2
    have hp3 := (hp.put 3 (.string x1))
    have hr3 := (hr.far (p := ⟨g, 3, none⟩) (by simp; omega) (.string x1))
    have hb3 := (hbw.setCell (p := ⟨g, 3, none⟩) (by simp; omega) (.string x1))
    have qx0 : (wc.setCell ⟨g, 3, none⟩ (.string x1)).cell? ⟨b, 0, none⟩ = some (.string x0) := by simp [World.cell?_setCell_far, kx0, ngb]
    have qx1 : (wc.setCell ⟨g, 3, none⟩ (.string x1)).cell? ⟨b, 1, none⟩ = some (.string x1) := by simp [World.cell?_setCell_far, kx1, ngb]
    clear kx0 kx1 p0 p1 p2 p3 pf hx0 hx1 hy1 hp hr hbw
    generalize (wc.setCell ⟨g, 3, none⟩ (.string x1)) = W3 at hp3 hr3 hb3 qx0 qx1 ⊢
    have p0 := hp3.cell 0
    have p1 := hp3.cell 1
    have p2 := hp3.cell 2
    have p3 := hp3.cell 3
    have r0 := hr3.cell 0
    have r1 := hr3.cell 1
    have r2 := hr3.cell 2
    have r3 := hr3.cell 3
    have rf := hr3.frozen
    have ng : ¬ w.heap.size = g := by omega
    have hs3 : w.heap.size < W3.heap.size := hr3.lt
    have hsg := hp3.lt
    have hsb : b < W3.heap.size := by omega
    simp only [List.getElem?_toArray, List.getElem?_cons_zero, List.getElem?_cons_succ, Array.getElem?_setIfInBounds] at p0 p1 p2 p3 r0 r1 r2 r3
    cases z1
    · go_wp2
      refine wp_region_held_drew (S := (fun w' => w'.cell? ⟨g, 0, none⟩ = some (.string c1) ∧ w'.cell? ⟨g, 1, none⟩ = some (.string c2) ∧ w'.cell? ⟨g, 2, none⟩ = some (.string c3) ∧ w'.cell? ⟨g, 3, none⟩ = some (.string x1) ∧ w'.cell? ⟨b, 0, none⟩ = some (.string x0) ∧ w'.cell? ⟨b, 1, none⟩ = some (.string x1))) (by kernel_rfl) ?hS4 (fun hHeld => ?_)
      case hS4 => ((try dsimp only); simp [*])
      refine tk3 (i := 0) ?_; try simp only [Act.put, zq]
      refine tk3 (i := 1) ?_; try simp only [Act.put, zq]
      refine tk3 (i := 2) ?_; try simp only [Act.put, zq]
      refine tk2 (i := 3) ?_; try simp only [Act.put, zq]
      refine tk2 (i := 4) ?_; try simp only [Act.put, zq]
      refine tk2 (i := 5) ?_; try simp only [Act.put, zq]
      refine tk2 (i := 6) ?_; try simp only [Act.put, zq]
      refine tk3 (i := 7) ?_; try simp only [Act.put, zq]
      refine wpAnyH_ready (rs := [8]) (by kernel_rfl) (by simp) ?_
      refine AllReadyH.cons rfl (fun K hK => ?_) AllReadyH.nil
      go_simp
      refine hK.out _ _ ?hS4_9 (fun hHeld => ?_)
      case hS4_9 => ((try dsimp only); go_keep)
      clear hK K
      (try simp only [Act.put, zq])
      refine tk3 (i := 9) ?_; try simp only [Act.put, zq]
      refine wpAnyH_done (by kernel_rfl) ?_ _
      go_wp2
      refine bodyPost_ret (v := .tuple #[.agg #[.string c1, .string c2, .string c3, .string x1], .bool false]) (by simp [results, Tryz.results250, go_sem, *]) rfl ⟨⟨_, _, _, _, ret_p (by simp)⟩, ?_⟩
      exact ((((hb3.setCell (Nat.le_refl _) _).setCell (Nat.le_refl _) _).setCell (Nat.le_refl _) _).setCell (Nat.le_refl _) _).drew
    · have hS := fun w => stroke_any x1 w
      cases hz2 : strokeB x1 <;> rw [hz2] at hS
      · go_wp2
        refine wp_region_held_drew (S := (fun w' => w'.cell? ⟨g, 0, none⟩ = some (.string c1) ∧ w'.cell? ⟨g, 1, none⟩ = some (.string c2) ∧ w'.cell? ⟨g, 2, none⟩ = some (.string c3) ∧ w'.cell? ⟨g, 3, none⟩ = some (.string x1) ∧ w'.cell? ⟨b, 0, none⟩ = some (.string x0) ∧ w'.cell? ⟨b, 1, none⟩ = some (.string x1))) (by kernel_rfl) ?hS5 (fun hHeld => ?_)
        case hS5 => ((try dsimp only); simp [*])
        refine tk3 (i := 0) ?_; try simp only [Act.put, zq]
        refine tk3 (i := 1) ?_; try simp only [Act.put, zq]
        refine tk3 (i := 2) ?_; try simp only [Act.put, zq]
        refine tk3 (i := 3) ?_; try simp only [Act.put, zq]
        refine tk3 (i := 4) ?_; try simp only [Act.put, zq]
        refine tk3 (i := 5) ?_; try simp only [Act.put, zq]
        refine wpAnyH_ready (rs := [6]) (by kernel_rfl) (by simp) ?_
        refine AllReadyH.cons rfl (fun K hK => ?_) AllReadyH.nil
        go_simp
        (go_at_call 251; refine (hS _).mono ?_; rintro e wa0 ⟨rfl, hbwa0⟩; have hpwa0 := hp3.drew.later hbwa0; have hrwa0 := hr3.drew.later hbwa0; have hszwa0 := hbwa0.size; have p0wa0 := (hbwa0.cell (p := ⟨g, 0, none⟩) (by simp at *; omega)).trans p0; have p1wa0 := (hbwa0.cell (p := ⟨g, 1, none⟩) (by simp at *; omega)).trans p1; have p2wa0 := (hbwa0.cell (p := ⟨g, 2, none⟩) (by simp at *; omega)).trans p2; have p3wa0 := (hbwa0.cell (p := ⟨g, 3, none⟩) (by simp at *; omega)).trans p3; have r0wa0 := (hbwa0.cell (p := ⟨w.heap.size, 0, none⟩) (by simp at *; omega)).trans r0; have r1wa0 := (hbwa0.cell (p := ⟨w.heap.size, 1, none⟩) (by simp at *; omega)).trans r1; have r2wa0 := (hbwa0.cell (p := ⟨w.heap.size, 2, none⟩) (by simp at *; omega)).trans r2; have r3wa0 := (hbwa0.cell (p := ⟨w.heap.size, 3, none⟩) (by simp at *; omega)).trans r3; have qx0wa0 := (hbwa0.cell (p := ⟨b, 0, none⟩) (by simp at *; omega)).trans qx0; have qx1wa0 := (hbwa0.cell (p := ⟨b, 1, none⟩) (by simp at *; omega)).trans qx1; have rfwa0 := hrwa0.frozen)
        go_wp2_with fail
        refine hK.out _ _ ?hS5_7 (fun hHeld => ?_)
        case hS5_7 => ((try dsimp only); go_keep)
        clear hK K
        (try simp only [Act.put, zq])
        refine tk3 (i := 7) ?_; try simp only [Act.put, zq]
        refine wpAnyH_ready (rs := [8]) (by kernel_rfl) (by simp) ?_
        refine AllReadyH.cons rfl (fun K hK => ?_) AllReadyH.nil
        go_simp
        refine hK.out _ _ ?hS5_9 (fun hHeld => ?_)
        case hS5_9 => ((try dsimp only); go_keep)
        clear hK K
        (try simp only [Act.put, zq])
        refine tk3 (i := 9) ?_; try simp only [Act.put, zq]
        refine wpAnyH_done (by kernel_rfl) ?_ _
        go_wp2
        refine bodyPost_ret (v := .tuple #[.agg #[.string c1, .string c2, .string c3, .string x1], .bool false]) (by simp [results, Tryz.results250, go_sem, *]) rfl ⟨⟨_, _, _, _, ret_p (by simp [hz2])⟩, ?_⟩
        exact (((((hb3.drew.trans (hbwa0.mono (by simp at *; omega)))).setCell (Nat.le_refl _) _).setCell (Nat.le_refl _) _).setCell (Nat.le_refl _) _).setCell (Nat.le_refl _) _
      · go_wp2
        refine wp_region_held_drew (S := (fun w' => w'.cell? ⟨g, 0, none⟩ = some (.string c1) ∧ w'.cell? ⟨g, 1, none⟩ = some (.string c2) ∧ w'.cell? ⟨g, 2, none⟩ = some (.string c3) ∧ w'.cell? ⟨g, 3, none⟩ = some (.string x1) ∧ w'.cell? ⟨b, 0, none⟩ = some (.string x0) ∧ w'.cell? ⟨b, 1, none⟩ = some (.string x1))) (by kernel_rfl) ?hS6 (fun hHeld => ?_)
        case hS6 => ((try dsimp only); simp [*])
        refine tk3 (i := 0) ?_; try simp only [Act.put, zq]
        refine tk3 (i := 1) ?_; try simp only [Act.put, zq]
        refine tk3 (i := 2) ?_; try simp only [Act.put, zq]
        refine tk3 (i := 3) ?_; try simp only [Act.put, zq]
        refine tk3 (i := 4) ?_; try simp only [Act.put, zq]
        refine tk3 (i := 5) ?_; try simp only [Act.put, zq]
        refine wpAnyH_ready (rs := [6]) (by kernel_rfl) (by simp) ?_
        refine AllReadyH.cons rfl (fun K hK => ?_) AllReadyH.nil
        go_simp
        (go_at_call 251; refine (hS _).mono ?_; rintro e wa0 ⟨rfl, hbwa0⟩; have hpwa0 := hp3.drew.later hbwa0; have hrwa0 := hr3.drew.later hbwa0; have hszwa0 := hbwa0.size; have p0wa0 := (hbwa0.cell (p := ⟨g, 0, none⟩) (by simp at *; omega)).trans p0; have p1wa0 := (hbwa0.cell (p := ⟨g, 1, none⟩) (by simp at *; omega)).trans p1; have p2wa0 := (hbwa0.cell (p := ⟨g, 2, none⟩) (by simp at *; omega)).trans p2; have p3wa0 := (hbwa0.cell (p := ⟨g, 3, none⟩) (by simp at *; omega)).trans p3; have r0wa0 := (hbwa0.cell (p := ⟨w.heap.size, 0, none⟩) (by simp at *; omega)).trans r0; have r1wa0 := (hbwa0.cell (p := ⟨w.heap.size, 1, none⟩) (by simp at *; omega)).trans r1; have r2wa0 := (hbwa0.cell (p := ⟨w.heap.size, 2, none⟩) (by simp at *; omega)).trans r2; have r3wa0 := (hbwa0.cell (p := ⟨w.heap.size, 3, none⟩) (by simp at *; omega)).trans r3; have qx0wa0 := (hbwa0.cell (p := ⟨b, 0, none⟩) (by simp at *; omega)).trans qx0; have qx1wa0 := (hbwa0.cell (p := ⟨b, 1, none⟩) (by simp at *; omega)).trans qx1; have rfwa0 := hrwa0.frozen)
        go_wp2_with fail
        refine hK.out _ _ ?hS6_7 (fun hHeld => ?_)
        case hS6_7 => ((try dsimp only); go_keep)
        clear hK K
        (try simp only [Act.put, zq])
        refine tk3 (i := 7) ?_; try simp only [Act.put, zq]
        refine wpAnyH_ready (rs := [8]) (by kernel_rfl) (by simp) ?_
        refine AllReadyH.cons rfl (fun K hK => ?_) AllReadyH.nil
        go_simp
        refine hK.out _ _ ?hS6_9 (fun hHeld => ?_)
        case hS6_9 => ((try dsimp only); go_keep)
        clear hK K
        (try simp only [Act.put, zq])
        refine tk3 (i := 9) ?_; try simp only [Act.put, zq]
        refine wpAnyH_done (by kernel_rfl) ?_ _
        go_wp2
        refine bodyPost_ret (v := .tuple #[.agg #[.string c1, .string c2, .string c3, .string x1], .bool true]) (by simp [results, Tryz.results250, go_sem, *]) rfl ⟨⟨_, _, _, _, ret_p (by simp [hz2])⟩, ?_⟩
        exact (((((hb3.drew.trans (hbwa0.mono (by simp at *; omega)))).setCell (Nat.le_refl _) _).setCell (Nat.le_refl _) _).setCell (Nat.le_refl _) _).setCell (Nat.le_refl _) _

set_option maxHeartbeats 4000000 in
theorem forms5_any (x0 x1 x2 : ByteArray) (b Bf cap : Nat) (w : World) (hs : x1.size ≤ 9223372036854775807) (hE : Env w) (hb : b < w.heap.size) (hB : Bf < w.heap.size)
    (hx0 : w.cell? ⟨b, 0, none⟩ = some (.string x0))
    (hx1 : w.cell? ⟨b, 1, none⟩ = some (.string x1))
    (hx2 : w.cell? ⟨b, 2, none⟩ = some (.string x2))
    (hg : w.cell? ⟨Bf, 0, none⟩ = some (.func (.func 245) #[] #[])) :
    Calls Tryz.prog 252 #[.slice (some ⟨b, 0, none⟩) 3 cap, .pointer (some ⟨Bf, 0, none⟩)] w fun e w' => Parted (baseB x1 && areaB x0 && strokeB x2) e ∧ Below w.heap.size w w' := by
  have hbase : ∀ W, Below w.heap.size w W → Calls Tryz.prog 245 #[.string x1] W _ := fun W hb => forms1_any x1 W hs (hE.below hE.big hb)
  have hy1 := old_cell hx1 zeroParts
  have hg1 := old_cell hg zeroParts
  have nb : w.heap.size ≠ b := by omega
  have nB : w.heap.size ≠ Bf := by omega
  have nb' : ¬ w.heap.size + 1 = b := by omega
  have nB' : ¬ w.heap.size + 1 = Bf := by omega
  clear hE
  generalize baseB x1 = z1 at hbase ⊢
  go_enter Tryz.func252, Tryz.ntmps252
  go_upto_region 1 with fail
  go_cut [5, 6] (fun s5 s6 wx => ∃ (g : Nat) (c1 c2 c3 c4 : ByteArray), s5 = .pointer (some ⟨g, 0, none⟩) ∧ s6 = .bool z1 ∧ PartAt w g c1 c2 c3 c4 wx)
  case first =>
    have hy2 := old_cell hy1 zeroParts
    have hg2 := old_cell hg1 zeroParts
    go_region_held3 (fun w' => w'.cell? ⟨b, 1, none⟩ = some (.string x1) ∧ w'.cell? ⟨Bf, 0, none⟩ = some (.func (.func 245) #[] #[])) (go_keep) ((go_at_call 245; refine (hbase _ (by first | exact ((Below.refl _ w).alloc (Nat.le_refl _) _).drew | exact (((Below.refl _ w).alloc (Nat.le_refl _) _).alloc (by simp) _).drew)).mono ?_; rintro e w1 ⟨⟨c1, c2, c3, c4, rfl⟩, hb1⟩; obtain ⟨hc, hf⟩ := bcell hb1; have hz : w.heap.size + 1 ≤ w1.heap.size := (by have := hb1.size; simp at this; omega); have hy3 := (hb1.cell (p := ⟨b, 1, none⟩) (by simp; omega)).trans (by first | exact hy1 | exact hy2); have hg3 := (hb1.cell (p := ⟨Bf, 0, none⟩) (by simp; omega)).trans (by first | exact hg1 | exact hg2); have nb1 : w1.heap.size ≠ b := (by omega); have nB1 : w1.heap.size ≠ Bf := (by omega)))
    all_goals
      go_wp2_with fail
      go_meet
      first | exact ⟨_, _, _, _, _, rfl, rfl, part_in hb1 _ _ _ _⟩ | exact ⟨_, _, _, _, _, rfl, rfl, part_behind hb1 _ _ _ _⟩
  case rest =>
    obtain ⟨g, c1, c2, c3, c4, rfl, rfl, hg, hp, hr, hbw⟩ := hcut
    have kx0 := (hbw.cell (p := ⟨b, 0, none⟩) hb).trans hx0
    have kx1 := (hbw.cell (p := ⟨b, 1, none⟩) hb).trans hx1
    have kx2 := (hbw.cell (p := ⟨b, 2, none⟩) hb).trans hx2
    have p0 := hp.cell 0
    have p1 := hp.cell 1
    have p2 := hp.cell 2
    have p3 := hp.cell 3
    have pf := hp.frozen
    have ngb : ¬ g = b := by omega
    clear hbase
    go_wp2
    go_region_held3 (fun w' => w'.cell? ⟨b, 0, none⟩ = some (.string x0) ∧ w'.cell? ⟨b, 1, none⟩ = some (.string x1) ∧ w'.cell? ⟨b, 2, none⟩ = some (.string x2)) (go_keep) (fail)
    have hp3 := ((hp.put 0 (.string x0)).put 3 (.string x2)).drew
    have hr3 := ((hr.far (p := ⟨g, 0, none⟩) (by simp; omega) (.string x0)).far (p := ⟨g, 3, none⟩) (by simp; omega) (.string x2)).drew
    have hb3 := ((hbw.setCell (p := ⟨g, 0, none⟩) (by simp; omega) (.string x0)).setCell (p := ⟨g, 3, none⟩) (by simp; omega) (.string x2)).drew
    have qx0 : ((wc.setCell ⟨g, 0, none⟩ (.string x0)).setCell ⟨g, 3, none⟩ (.string x2)).drew.cell? ⟨b, 0, none⟩ = some (.string x0) := by simp [World.cell?_setCell_far, kx0, ngb]
    have qx1 : ((wc.setCell ⟨g, 0, none⟩ (.string x0)).setCell ⟨g, 3, none⟩ (.string x2)).drew.cell? ⟨b, 1, none⟩ = some (.string x1) := by simp [World.cell?_setCell_far, kx1, ngb]
    have qx2 : ((wc.setCell ⟨g, 0, none⟩ (.string x0)).setCell ⟨g, 3, none⟩ (.string x2)).drew.cell? ⟨b, 2, none⟩ = some (.string x2) := by simp [World.cell?_setCell_far, kx2, ngb]
    clear kx0 kx1 kx2 p0 p1 p2 p3 pf hx0 hx1 hx2 hy1 hp hr hbw
    generalize ((wc.setCell ⟨g, 0, none⟩ (.string x0)).setCell ⟨g, 3, none⟩ (.string x2)).drew = W3 at hp3 hr3 hb3 qx0 qx1 qx2 ⊢
    have p0 := hp3.cell 0
    have p1 := hp3.cell 1
    have p2 := hp3.cell 2
    have p3 := hp3.cell 3
    have r0 := hr3.cell 0
    have r1 := hr3.cell 1
    have r2 := hr3.cell 2
    have r3 := hr3.cell 3
    have rf := hr3.frozen
    have ng : ¬ w.heap.size = g := by omega
    have hs3 : w.heap.size < W3.heap.size := hr3.lt
    have hsg := hp3.lt
    have hsb : b < W3.heap.size := by omega
    simp only [List.getElem?_toArray, List.getElem?_cons_zero, List.getElem?_cons_succ, Array.getElem?_setIfInBounds] at p0 p1 p2 p3 r0 r1 r2 r3
    cases z1
    · go_wp2
      refine wp_region_held_drew (S := (fun w' => w'.cell? ⟨g, 0, none⟩ = some (.string x0) ∧ w'.cell? ⟨g, 1, none⟩ = some (.string c2) ∧ w'.cell? ⟨g, 2, none⟩ = some (.string c3) ∧ w'.cell? ⟨g, 3, none⟩ = some (.string x2) ∧ w'.cell? ⟨b, 0, none⟩ = some (.string x0) ∧ w'.cell? ⟨b, 1, none⟩ = some (.string x1) ∧ w'.cell? ⟨b, 2, none⟩ = some (.string x2))) (by kernel_rfl) ?hS7 (fun hHeld => ?_)
      case hS7 => ((try dsimp only); simp [*])
      refine tk3 (i := 0) ?_; try simp only [Act.put, zq]
      refine tk3 (i := 1) ?_; try simp only [Act.put, zq]
      refine tk3 (i := 2) ?_; try simp only [Act.put, zq]
      refine tk2 (i := 3) ?_; try simp only [Act.put, zq]
      refine tk2 (i := 4) ?_; try simp only [Act.put, zq]
      refine tk2 (i := 5) ?_; try simp only [Act.put, zq]
      refine tk2 (i := 6) ?_; try simp only [Act.put, zq]
      refine tk3 (i := 7) ?_; try simp only [Act.put, zq]
      refine tk3 (i := 8) ?_; try simp only [Act.put, zq]
      refine tk2 (i := 9) ?_; try simp only [Act.put, zq]
      refine tk2 (i := 10) ?_; try simp only [Act.put, zq]
      refine tk2 (i := 11) ?_; try simp only [Act.put, zq]
      refine tk2 (i := 12) ?_; try simp only [Act.put, zq]
      refine tk3 (i := 13) ?_; try simp only [Act.put, zq]
      refine wpAnyH_ready (rs := [14]) (by kernel_rfl) (by simp) ?_
      refine AllReadyH.cons rfl (fun K hK => ?_) AllReadyH.nil
      go_simp
      refine hK.out _ _ ?hS7_15 (fun hHeld => ?_)
      case hS7_15 => ((try dsimp only); go_keep)
      clear hK K
      (try simp only [Act.put, zq])
      refine tk3 (i := 15) ?_; try simp only [Act.put, zq]
      refine wpAnyH_done (by kernel_rfl) ?_ _
      go_wp2
      refine bodyPost_ret (v := .tuple #[.agg #[.string x0, .string c2, .string c3, .string x2], .bool false]) (by simp [results, Tryz.results252, go_sem, *]) rfl ⟨⟨_, _, _, _, ret_p (by simp)⟩, ?_⟩
      exact ((((hb3.setCell (Nat.le_refl _) _).setCell (Nat.le_refl _) _).setCell (Nat.le_refl _) _).setCell (Nat.le_refl _) _).drew
    · have hA := fun w => area_any x0 w
      cases hz2 : areaB x0 <;> rw [hz2] at hA
      · go_wp2
        refine wp_region_held_drew (S := (fun w' => w'.cell? ⟨g, 0, none⟩ = some (.string x0) ∧ w'.cell? ⟨g, 1, none⟩ = some (.string c2) ∧ w'.cell? ⟨g, 2, none⟩ = some (.string c3) ∧ w'.cell? ⟨g, 3, none⟩ = some (.string x2) ∧ w'.cell? ⟨b, 0, none⟩ = some (.string x0) ∧ w'.cell? ⟨b, 1, none⟩ = some (.string x1) ∧ w'.cell? ⟨b, 2, none⟩ = some (.string x2))) (by kernel_rfl) ?hS8 (fun hHeld => ?_)
        case hS8 => ((try dsimp only); simp [*])
        refine tk3 (i := 0) ?_; try simp only [Act.put, zq]
        refine tk3 (i := 1) ?_; try simp only [Act.put, zq]
        refine tk3 (i := 2) ?_; try simp only [Act.put, zq]
        refine tk3 (i := 3) ?_; try simp only [Act.put, zq]
        refine tk3 (i := 4) ?_; try simp only [Act.put, zq]
        refine tk3 (i := 5) ?_; try simp only [Act.put, zq]
        refine wpAnyH_ready (rs := [6]) (by kernel_rfl) (by simp) ?_
        refine AllReadyH.cons rfl (fun K hK => ?_) AllReadyH.nil
        go_simp
        (go_at_call 249; refine (hA _).mono ?_; rintro e wa0 ⟨rfl, hbwa0⟩; have hpwa0 := hp3.drew.later hbwa0; have hrwa0 := hr3.drew.later hbwa0; have hszwa0 := hbwa0.size; have p0wa0 := (hbwa0.cell (p := ⟨g, 0, none⟩) (by simp at *; omega)).trans p0; have p1wa0 := (hbwa0.cell (p := ⟨g, 1, none⟩) (by simp at *; omega)).trans p1; have p2wa0 := (hbwa0.cell (p := ⟨g, 2, none⟩) (by simp at *; omega)).trans p2; have p3wa0 := (hbwa0.cell (p := ⟨g, 3, none⟩) (by simp at *; omega)).trans p3; have r0wa0 := (hbwa0.cell (p := ⟨w.heap.size, 0, none⟩) (by simp at *; omega)).trans r0; have r1wa0 := (hbwa0.cell (p := ⟨w.heap.size, 1, none⟩) (by simp at *; omega)).trans r1; have r2wa0 := (hbwa0.cell (p := ⟨w.heap.size, 2, none⟩) (by simp at *; omega)).trans r2; have r3wa0 := (hbwa0.cell (p := ⟨w.heap.size, 3, none⟩) (by simp at *; omega)).trans r3; have qx0wa0 := (hbwa0.cell (p := ⟨b, 0, none⟩) (by simp at *; omega)).trans qx0; have qx1wa0 := (hbwa0.cell (p := ⟨b, 1, none⟩) (by simp at *; omega)).trans qx1; have qx2wa0 := (hbwa0.cell (p := ⟨b, 2, none⟩) (by simp at *; omega)).trans qx2; have rfwa0 := hrwa0.frozen)
        go_wp2_with fail
        refine hK.out _ _ ?hS8_7 (fun hHeld => ?_)
        case hS8_7 => ((try dsimp only); go_keep)
        clear hK K
        (try simp only [Act.put, zq])
        refine tk3 (i := 7) ?_; try simp only [Act.put, zq]
        refine tk3 (i := 8) ?_; try simp only [Act.put, zq]
        refine tk2 (i := 9) ?_; try simp only [Act.put, zq]
        refine tk2 (i := 10) ?_; try simp only [Act.put, zq]
        refine tk2 (i := 11) ?_; try simp only [Act.put, zq]
        refine tk2 (i := 12) ?_; try simp only [Act.put, zq]
        refine tk3 (i := 13) ?_; try simp only [Act.put, zq]
        refine wpAnyH_ready (rs := [14]) (by kernel_rfl) (by simp) ?_
        refine AllReadyH.cons rfl (fun K hK => ?_) AllReadyH.nil
        go_simp
        refine hK.out _ _ ?hS8_15 (fun hHeld => ?_)
        case hS8_15 => ((try dsimp only); go_keep)
        clear hK K
        (try simp only [Act.put, zq])
        refine tk3 (i := 15) ?_; try simp only [Act.put, zq]
        refine wpAnyH_done (by kernel_rfl) ?_ _
        go_wp2
        refine bodyPost_ret (v := .tuple #[.agg #[.string x0, .string c2, .string c3, .string x2], .bool false]) (by simp [results, Tryz.results252, go_sem, *]) rfl ⟨⟨_, _, _, _, ret_p (by simp [hz2])⟩, ?_⟩
        exact (((((hb3.drew.trans (hbwa0.mono (by simp at *; omega)))).setCell (Nat.le_refl _) _).setCell (Nat.le_refl _) _).setCell (Nat.le_refl _) _).setCell (Nat.le_refl _) _
      · have hS := fun w => stroke_any x2 w
        cases hz3 : strokeB x2 <;> rw [hz3] at hS
        · go_wp2
          refine wp_region_held_drew (S := (fun w' => w'.cell? ⟨g, 0, none⟩ = some (.string x0) ∧ w'.cell? ⟨g, 1, none⟩ = some (.string c2) ∧ w'.cell? ⟨g, 2, none⟩ = some (.string c3) ∧ w'.cell? ⟨g, 3, none⟩ = some (.string x2) ∧ w'.cell? ⟨b, 0, none⟩ = some (.string x0) ∧ w'.cell? ⟨b, 1, none⟩ = some (.string x1) ∧ w'.cell? ⟨b, 2, none⟩ = some (.string x2))) (by kernel_rfl) ?hS9 (fun hHeld => ?_)
          case hS9 => ((try dsimp only); simp [*])
          refine tk3 (i := 0) ?_; try simp only [Act.put, zq]
          refine tk3 (i := 1) ?_; try simp only [Act.put, zq]
          refine tk3 (i := 2) ?_; try simp only [Act.put, zq]
          refine tk3 (i := 3) ?_; try simp only [Act.put, zq]
          refine tk3 (i := 4) ?_; try simp only [Act.put, zq]
          refine tk3 (i := 5) ?_; try simp only [Act.put, zq]
          refine wpAnyH_ready (rs := [6]) (by kernel_rfl) (by simp) ?_
          refine AllReadyH.cons rfl (fun K hK => ?_) AllReadyH.nil
          go_simp
          (go_at_call 249; refine (hA _).mono ?_; rintro e wa0 ⟨rfl, hbwa0⟩; have hpwa0 := hp3.drew.later hbwa0; have hrwa0 := hr3.drew.later hbwa0; have hszwa0 := hbwa0.size; have p0wa0 := (hbwa0.cell (p := ⟨g, 0, none⟩) (by simp at *; omega)).trans p0; have p1wa0 := (hbwa0.cell (p := ⟨g, 1, none⟩) (by simp at *; omega)).trans p1; have p2wa0 := (hbwa0.cell (p := ⟨g, 2, none⟩) (by simp at *; omega)).trans p2; have p3wa0 := (hbwa0.cell (p := ⟨g, 3, none⟩) (by simp at *; omega)).trans p3; have r0wa0 := (hbwa0.cell (p := ⟨w.heap.size, 0, none⟩) (by simp at *; omega)).trans r0; have r1wa0 := (hbwa0.cell (p := ⟨w.heap.size, 1, none⟩) (by simp at *; omega)).trans r1; have r2wa0 := (hbwa0.cell (p := ⟨w.heap.size, 2, none⟩) (by simp at *; omega)).trans r2; have r3wa0 := (hbwa0.cell (p := ⟨w.heap.size, 3, none⟩) (by simp at *; omega)).trans r3; have qx0wa0 := (hbwa0.cell (p := ⟨b, 0, none⟩) (by simp at *; omega)).trans qx0; have qx1wa0 := (hbwa0.cell (p := ⟨b, 1, none⟩) (by simp at *; omega)).trans qx1; have qx2wa0 := (hbwa0.cell (p := ⟨b, 2, none⟩) (by simp at *; omega)).trans qx2; have rfwa0 := hrwa0.frozen)
          go_wp2_with fail
          refine hK.out _ _ ?hS9_7 (fun hHeld => ?_)
          case hS9_7 => ((try dsimp only); go_keep)
          clear hK K
          (try simp only [Act.put, zq])
          refine tk3 (i := 7) ?_; try simp only [Act.put, zq]
          refine tk3 (i := 8) ?_; try simp only [Act.put, zq]
          refine tk3 (i := 9) ?_; try simp only [Act.put, zq]
          refine tk3 (i := 10) ?_; try simp only [Act.put, zq]
          refine tk3 (i := 11) ?_; try simp only [Act.put, zq]
          refine wpAnyH_ready (rs := [12]) (by kernel_rfl) (by simp) ?_
          refine AllReadyH.cons rfl (fun K hK => ?_) AllReadyH.nil
          go_simp
          (go_at_call 251; refine (hS _).mono ?_; rintro e wa1 ⟨rfl, hbwa1⟩; have hpwa1 := hpwa0.later hbwa1; have hrwa1 := hrwa0.later hbwa1; have hszwa1 := hbwa1.size; have p0wa1 := (hbwa1.cell (p := ⟨g, 0, none⟩) (by simp at *; omega)).trans p0wa0; have p1wa1 := (hbwa1.cell (p := ⟨g, 1, none⟩) (by simp at *; omega)).trans p1wa0; have p2wa1 := (hbwa1.cell (p := ⟨g, 2, none⟩) (by simp at *; omega)).trans p2wa0; have p3wa1 := (hbwa1.cell (p := ⟨g, 3, none⟩) (by simp at *; omega)).trans p3wa0; have r0wa1 := (hbwa1.cell (p := ⟨w.heap.size, 0, none⟩) (by simp at *; omega)).trans r0wa0; have r1wa1 := (hbwa1.cell (p := ⟨w.heap.size, 1, none⟩) (by simp at *; omega)).trans r1wa0; have r2wa1 := (hbwa1.cell (p := ⟨w.heap.size, 2, none⟩) (by simp at *; omega)).trans r2wa0; have r3wa1 := (hbwa1.cell (p := ⟨w.heap.size, 3, none⟩) (by simp at *; omega)).trans r3wa0; have qx0wa1 := (hbwa1.cell (p := ⟨b, 0, none⟩) (by simp at *; omega)).trans qx0wa0; have qx1wa1 := (hbwa1.cell (p := ⟨b, 1, none⟩) (by simp at *; omega)).trans qx1wa0; have qx2wa1 := (hbwa1.cell (p := ⟨b, 2, none⟩) (by simp at *; omega)).trans qx2wa0; have rfwa1 := hrwa1.frozen)
          go_wp2_with fail
          refine hK.out _ _ ?hS9_13 (fun hHeld => ?_)
          case hS9_13 => ((try dsimp only); go_keep)
          clear hK K
          (try simp only [Act.put, zq])
          refine tk3 (i := 13) ?_; try simp only [Act.put, zq]
          refine wpAnyH_ready (rs := [14]) (by kernel_rfl) (by simp) ?_
          refine AllReadyH.cons rfl (fun K hK => ?_) AllReadyH.nil
          go_simp
          refine hK.out _ _ ?hS9_15 (fun hHeld => ?_)
          case hS9_15 => ((try dsimp only); go_keep)
          clear hK K
          (try simp only [Act.put, zq])
          refine tk3 (i := 15) ?_; try simp only [Act.put, zq]
          refine wpAnyH_done (by kernel_rfl) ?_ _
          go_wp2
          refine bodyPost_ret (v := .tuple #[.agg #[.string x0, .string c2, .string c3, .string x2], .bool false]) (by simp [results, Tryz.results252, go_sem, *]) rfl ⟨⟨_, _, _, _, ret_p (by simp [hz2, hz3])⟩, ?_⟩
          exact ((((((hb3.drew.trans (hbwa0.mono (by simp at *; omega))).trans (hbwa1.mono (by simp at *; omega)))).setCell (Nat.le_refl _) _).setCell (Nat.le_refl _) _).setCell (Nat.le_refl _) _).setCell (Nat.le_refl _) _
        · go_wp2
          refine wp_region_held_drew (S := (fun w' => w'.cell? ⟨g, 0, none⟩ = some (.string x0) ∧ w'.cell? ⟨g, 1, none⟩ = some (.string c2) ∧ w'.cell? ⟨g, 2, none⟩ = some (.string c3) ∧ w'.cell? ⟨g, 3, none⟩ = some (.string x2) ∧ w'.cell? ⟨b, 0, none⟩ = some (.string x0) ∧ w'.cell? ⟨b, 1, none⟩ = some (.string x1) ∧ w'.cell? ⟨b, 2, none⟩ = some (.string x2))) (by kernel_rfl) ?hS10 (fun hHeld => ?_)
          case hS10 => ((try dsimp only); simp [*])
          refine tk3 (i := 0) ?_; try simp only [Act.put, zq]
          refine tk3 (i := 1) ?_; try simp only [Act.put, zq]
          refine tk3 (i := 2) ?_; try simp only [Act.put, zq]
          refine tk3 (i := 3) ?_; try simp only [Act.put, zq]
          refine tk3 (i := 4) ?_; try simp only [Act.put, zq]
          refine tk3 (i := 5) ?_; try simp only [Act.put, zq]
          refine wpAnyH_ready (rs := [6]) (by kernel_rfl) (by simp) ?_
          refine AllReadyH.cons rfl (fun K hK => ?_) AllReadyH.nil
          go_simp
          (go_at_call 249; refine (hA _).mono ?_; rintro e wa0 ⟨rfl, hbwa0⟩; have hpwa0 := hp3.drew.later hbwa0; have hrwa0 := hr3.drew.later hbwa0; have hszwa0 := hbwa0.size; have p0wa0 := (hbwa0.cell (p := ⟨g, 0, none⟩) (by simp at *; omega)).trans p0; have p1wa0 := (hbwa0.cell (p := ⟨g, 1, none⟩) (by simp at *; omega)).trans p1; have p2wa0 := (hbwa0.cell (p := ⟨g, 2, none⟩) (by simp at *; omega)).trans p2; have p3wa0 := (hbwa0.cell (p := ⟨g, 3, none⟩) (by simp at *; omega)).trans p3; have r0wa0 := (hbwa0.cell (p := ⟨w.heap.size, 0, none⟩) (by simp at *; omega)).trans r0; have r1wa0 := (hbwa0.cell (p := ⟨w.heap.size, 1, none⟩) (by simp at *; omega)).trans r1; have r2wa0 := (hbwa0.cell (p := ⟨w.heap.size, 2, none⟩) (by simp at *; omega)).trans r2; have r3wa0 := (hbwa0.cell (p := ⟨w.heap.size, 3, none⟩) (by simp at *; omega)).trans r3; have qx0wa0 := (hbwa0.cell (p := ⟨b, 0, none⟩) (by simp at *; omega)).trans qx0; have qx1wa0 := (hbwa0.cell (p := ⟨b, 1, none⟩) (by simp at *; omega)).trans qx1; have qx2wa0 := (hbwa0.cell (p := ⟨b, 2, none⟩) (by simp at *; omega)).trans qx2; have rfwa0 := hrwa0.frozen)
          go_wp2_with fail
          refine hK.out _ _ ?hS10_7 (fun hHeld => ?_)
          case hS10_7 => ((try dsimp only); go_keep)
          clear hK K
          (try simp only [Act.put, zq])
          refine tk3 (i := 7) ?_; try simp only [Act.put, zq]
          refine tk3 (i := 8) ?_; try simp only [Act.put, zq]
          refine tk3 (i := 9) ?_; try simp only [Act.put, zq]
          refine tk3 (i := 10) ?_; try simp only [Act.put, zq]
          refine tk3 (i := 11) ?_; try simp only [Act.put, zq]
          refine wpAnyH_ready (rs := [12]) (by kernel_rfl) (by simp) ?_
          refine AllReadyH.cons rfl (fun K hK => ?_) AllReadyH.nil
          go_simp
          (go_at_call 251; refine (hS _).mono ?_; rintro e wa1 ⟨rfl, hbwa1⟩; have hpwa1 := hpwa0.later hbwa1; have hrwa1 := hrwa0.later hbwa1; have hszwa1 := hbwa1.size; have p0wa1 := (hbwa1.cell (p := ⟨g, 0, none⟩) (by simp at *; omega)).trans p0wa0; have p1wa1 := (hbwa1.cell (p := ⟨g, 1, none⟩) (by simp at *; omega)).trans p1wa0; have p2wa1 := (hbwa1.cell (p := ⟨g, 2, none⟩) (by simp at *; omega)).trans p2wa0; have p3wa1 := (hbwa1.cell (p := ⟨g, 3, none⟩) (by simp at *; omega)).trans p3wa0; have r0wa1 := (hbwa1.cell (p := ⟨w.heap.size, 0, none⟩) (by simp at *; omega)).trans r0wa0; have r1wa1 := (hbwa1.cell (p := ⟨w.heap.size, 1, none⟩) (by simp at *; omega)).trans r1wa0; have r2wa1 := (hbwa1.cell (p := ⟨w.heap.size, 2, none⟩) (by simp at *; omega)).trans r2wa0; have r3wa1 := (hbwa1.cell (p := ⟨w.heap.size, 3, none⟩) (by simp at *; omega)).trans r3wa0; have qx0wa1 := (hbwa1.cell (p := ⟨b, 0, none⟩) (by simp at *; omega)).trans qx0wa0; have qx1wa1 := (hbwa1.cell (p := ⟨b, 1, none⟩) (by simp at *; omega)).trans qx1wa0; have qx2wa1 := (hbwa1.cell (p := ⟨b, 2, none⟩) (by simp at *; omega)).trans qx2wa0; have rfwa1 := hrwa1.frozen)
          go_wp2_with fail
          refine hK.out _ _ ?hS10_13 (fun hHeld => ?_)
          case hS10_13 => ((try dsimp only); go_keep)
          clear hK K
          (try simp only [Act.put, zq])
          refine tk3 (i := 13) ?_; try simp only [Act.put, zq]
          refine wpAnyH_ready (rs := [14]) (by kernel_rfl) (by simp) ?_
          refine AllReadyH.cons rfl (fun K hK => ?_) AllReadyH.nil
          go_simp
          refine hK.out _ _ ?hS10_15 (fun hHeld => ?_)
          case hS10_15 => ((try dsimp only); go_keep)
          clear hK K
          (try simp only [Act.put, zq])
          refine tk3 (i := 15) ?_; try simp only [Act.put, zq]
          refine wpAnyH_done (by kernel_rfl) ?_ _
          go_wp2
          refine bodyPost_ret (v := .tuple #[.agg #[.string x0, .string c2, .string c3, .string x2], .bool true]) (by simp [results, Tryz.results252, go_sem, *]) rfl ⟨⟨_, _, _, _, ret_p (by simp [hz2, hz3])⟩, ?_⟩
          exact ((((((hb3.drew.trans (hbwa0.mono (by simp at *; omega))).trans (hbwa1.mono (by simp at *; omega)))).setCell (Nat.le_refl _) _).setCell (Nat.le_refl _) _).setCell (Nat.le_refl _) _).setCell (Nat.le_refl _) _

end Go.Proofs.YtlamogpdkmbeoaaGreatDoor
