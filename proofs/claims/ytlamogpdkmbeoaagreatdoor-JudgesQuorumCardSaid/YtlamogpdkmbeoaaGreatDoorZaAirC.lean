/- The walks of call signs: the forms. -/
import Derived.Test.YtlamogpdkmbeoaaGreatDoorZaMem
set_option linter.unusedVariables false
set_option linter.unusedSimpArgs false
namespace Go.Proofs.YtlamogpdkmbeoaaGreatDoor
open List renaming getElem_toArray → zq1, getElem_cons_succ → zq2, getElem_cons_zero → zq3, setIfInBounds_toArray → zq4, set_cons_zero → zq5, set_cons_succ → zq6
open Go.RowKit Go.Lib Go.Shelf

theorem bcell {W w1 : World} (hb : Below W.heap.size W w1) : (∀ b o, b < W.heap.size → w1.cell? ⟨b, o, none⟩ = W.cell? ⟨b, o, none⟩) ∧ (∀ b o, b < W.heap.size → w1.frozen? ⟨b, o, none⟩ = W.frozen? ⟨b, o, none⟩) :=
  ⟨fun b o h => hb.cell (p := ⟨b, o, none⟩) h, fun b o h => hb.frozen (p := ⟨b, o, none⟩) h⟩

/-- Parts of a call sign, and whether it is one. -/
def Parted (x : Bool) (e : Ending) : Prop := ∃ a b c d : ByteArray, e = .returned (.tuple #[.agg #[.string a, .string b, .string c, .string d], .bool x])

theorem ret_p {x y : Bool} {a b c d : Value} (h : y = x) : Ending.returned (.tuple #[.agg #[a, b, c, d], .bool y]) = .returned (.tuple #[.agg #[a, b, c, d], .bool x]) := by rw [h]
set_option maxHeartbeats 1000000 in
theorem forms1_any (s : ByteArray) (w : World) (hs : s.size ≤ 9223372036854775807) (hE : Env w) :
    Calls Tryz.prog 245 #[.string s] w fun e w' => Parted (baseB s) e ∧ Below w.heap.size w w' := by
  have hbase : ∀ W, Below w.heap.size w W → Calls Tryz.prog 246 #[.string s] W _ := fun W hb => base_any s W hs (hE.below hE.big hb)
  clear hE
  have h0 := hbase _ ((Below.refl _ w).alloc (Nat.le_refl _) (.cells #[.string ⟨#[]⟩, .string ⟨#[]⟩, .string ⟨#[]⟩, .string ⟨#[]⟩] 273))
  go_enter Tryz.func245, Tryz.ntmps245
  go_wp2_with (go_at_call 246; refine h0.mono ?_; rintro e w1 ⟨⟨a, b, rfl⟩, hb1⟩; obtain ⟨hc, hf⟩ := bcell hb1; have hz : w.heap.size + 1 ≤ w1.heap.size := by have := hb1.size; simp at this; omega)
  refine bodyPost_ret (v := .tuple #[.agg #[.string ⟨#[]⟩, .string a, .string b, .string ⟨#[]⟩], .bool (baseB s)]) (by simp [results, Tryz.results245, go_sem, hc, hf]) rfl ⟨⟨_, _, _, _, rfl⟩, ?_⟩
  exact ((((((Below.refl _ w).alloc (Nat.le_refl _) _).trans (hb1.mono (by simp))).setCell (Nat.le_refl _) _).setCell (Nat.le_refl _) _).setCell (Nat.le_refl _) _).setCell (Nat.le_refl _) _

abbrev zeroParts : Obj := .cells #[.string ⟨#[]⟩, .string ⟨#[]⟩, .string ⟨#[]⟩, .string ⟨#[]⟩] 273
theorem old_cell {w : World} {a : Addr} {v : Value} (h : w.cell? a = some v) (o : Obj) : (w.alloc o).cell? a = some v := by rw [World.cell?_alloc_some _ _ _ (by rw [h]; rfl)]; exact h
set_option maxHeartbeats 2000000 in
theorem forms2_any (x : ByteArray) (b Bf cap : Nat) (w : World) (hs : x.size ≤ 9223372036854775807) (hE : Env w) (hb : b < w.heap.size) (hB : Bf < w.heap.size)
    (hx : w.cell? ⟨b, 0, none⟩ = some (.string x)) (hg : w.cell? ⟨Bf, 0, none⟩ = some (.func (.func 245) #[] #[])) :
    Calls Tryz.prog 247 #[.slice (some ⟨b, 0, none⟩) 1 cap, .pointer (some ⟨Bf, 0, none⟩)] w fun e w' => Parted (baseB x) e ∧ Below w.heap.size w w' := by
  have hbase : ∀ W, Below w.heap.size w W → Calls Tryz.prog 245 #[.string x] W _ := fun W hb => forms1_any x W hs (hE.below hE.big hb)
  have hx1 := old_cell hx zeroParts
  have hg1 := old_cell hg zeroParts
  have nb : w.heap.size ≠ b := by omega
  have nB : w.heap.size ≠ Bf := by omega
  clear hE
  go_enter Tryz.func247, Tryz.ntmps247
  go_wp2
  go_region_held3 (fun w' => w'.cell? ⟨b, 0, none⟩ = some (.string x) ∧ w'.cell? ⟨Bf, 0, none⟩ = some (.func (.func 245) #[] #[])) (go_keep) ((go_at_call 245; refine (hbase _ (((Below.refl _ w).alloc (Nat.le_refl _) _).drew)).mono ?_; rintro e w1 ⟨⟨c1, c2, c3, c4, rfl⟩, hb1⟩; obtain ⟨hc, hf⟩ := bcell hb1; have hz : w.heap.size + 1 ≤ w1.heap.size := (by have := hb1.size; simp at this; omega); have hx2 := (hb1.cell (p := ⟨b, 0, none⟩) (by simp; omega)).trans hx1; have hg2 := (hb1.cell (p := ⟨Bf, 0, none⟩) (by simp; omega)).trans hg1))
  go_wp2
  refine bodyPost_ret (v := .tuple #[.agg #[.string c1, .string c2, .string c3, .string c4], .bool (baseB x)]) (by simp [results, Tryz.results247, go_sem, hc, hf]) rfl ⟨⟨_, _, _, _, rfl⟩, ?_⟩
  exact ((((((Below.refl _ w).alloc (Nat.le_refl _) _).drew.trans (hb1.mono (by simp))).setCell (Nat.le_refl _) _).setCell (Nat.le_refl _) _).setCell (Nat.le_refl _) _).setCell (Nat.le_refl _) _

/-- Behind the call of 'based': the parts lie in a block of their own. -/
def PartAt (w : World) (g : Nat) (c1 c2 c3 c4 : ByteArray) (wx : World) : Prop :=
  w.heap.size < g ∧ Blk wx g 273 #[.string c1, .string c2, .string c3, .string c4] ∧ Blk wx w.heap.size 273 #[.string ⟨#[]⟩, .string ⟨#[]⟩, .string ⟨#[]⟩, .string ⟨#[]⟩] ∧ Below w.heap.size w wx
theorem part_in {w w1 : World} (hb1 : Below ((w.alloc zeroParts).alloc zeroParts).drew.heap.size ((w.alloc zeroParts).alloc zeroParts).drew w1) (c1 c2 c3 c4 : ByteArray) :
    PartAt w (w.heap.size + 1) c1 c2 c3 c4 ((((w1.setCell ⟨w.heap.size + 1, 0, none⟩ (.string c1)).setCell ⟨w.heap.size + 1, 1, none⟩ (.string c2)).setCell ⟨w.heap.size + 1, 2, none⟩ (.string c3)).setCell ⟨w.heap.size + 1, 3, none⟩ (.string c4)) := by
  have hn := (Blk.new (w.alloc zeroParts) 273 #[.string ⟨#[]⟩, .string ⟨#[]⟩, .string ⟨#[]⟩, .string ⟨#[]⟩]).drew.later hb1
  rw [World.size_alloc] at hn
  have ho := ((Blk.new w 273 #[.string ⟨#[]⟩, .string ⟨#[]⟩, .string ⟨#[]⟩, .string ⟨#[]⟩]).alloc zeroParts).drew.later hb1
  refine ⟨by omega, (((hn.put 0 _).put 1 _).put 2 _).put 3 _, (((ho.far (by simp) _).far (by simp) _).far (by simp) _).far (by simp) _, ?_⟩
  have hb : Below w.heap.size w w1 := (((Below.refl _ w).alloc (Nat.le_refl _) _).alloc (by simp) _).drew.trans (hb1.mono (by simp; omega))
  exact (((hb.setCell (by simp) _).setCell (by simp) _).setCell (by simp) _).setCell (by simp) _
theorem part_behind {w w1 : World} (hb1 : Below (w.alloc zeroParts).drew.heap.size (w.alloc zeroParts).drew w1) (c1 c2 c3 c4 : ByteArray) :
    PartAt w w1.heap.size c1 c2 c3 c4 (w1.alloc (.cells #[.string c1, .string c2, .string c3, .string c4] 273)) := by
  have hs := hb1.size
  simp at hs
  have ho := (Blk.new w 273 #[.string ⟨#[]⟩, .string ⟨#[]⟩, .string ⟨#[]⟩, .string ⟨#[]⟩]).drew.later hb1
  refine ⟨by omega, Blk.new _ _ _, ho.alloc _, ?_⟩
  have hb : Below w.heap.size w w1 := ((Below.refl _ w).alloc (Nat.le_refl _) _).drew.trans (hb1.mono (by simp))
  exact hb.alloc (by omega) _

set_option maxHeartbeats 4000000 in
theorem forms3_any (x0 x1 : ByteArray) (b Bf cap : Nat) (w : World) (hs : x1.size ≤ 9223372036854775807) (hE : Env w) (hb : b < w.heap.size) (hB : Bf < w.heap.size)
    (hx0 : w.cell? ⟨b, 0, none⟩ = some (.string x0))
    (hx1 : w.cell? ⟨b, 1, none⟩ = some (.string x1))
    (hg : w.cell? ⟨Bf, 0, none⟩ = some (.func (.func 245) #[] #[])) :
    Calls Tryz.prog 248 #[.slice (some ⟨b, 0, none⟩) 2 cap, .pointer (some ⟨Bf, 0, none⟩)] w fun e w' => Parted (baseB x1 && areaB x0 && decide (x0.size < x1.size)) e ∧ Below w.heap.size w w' := by
  have hbase : ∀ W, Below w.heap.size w W → Calls Tryz.prog 245 #[.string x1] W _ := fun W hb => forms1_any x1 W hs (hE.below hE.big hb)
  have hy1 := old_cell hx1 zeroParts
  have hg1 := old_cell hg zeroParts
  have nb : w.heap.size ≠ b := by omega
  have nB : w.heap.size ≠ Bf := by omega
  have nb' : ¬ w.heap.size + 1 = b := by omega
  have nB' : ¬ w.heap.size + 1 = Bf := by omega
  clear hE
  generalize baseB x1 = z1 at hbase ⊢
  go_enter Tryz.func248, Tryz.ntmps248
  go_upto_region 1 with fail
  go_cut [5, 6] (fun s5 s6 wx => ∃ (g : Nat) (c1 c2 c3 c4 : ByteArray), s5 = .pointer (some ⟨g, 0, none⟩) ∧ s6 = .bool z1 ∧ PartAt w g c1 c2 c3 c4 wx)
  case first =>
    have hy2 := old_cell hy1 zeroParts
    have hg2 := old_cell hg1 zeroParts
    go_region_held3 (fun w' => w'.cell? ⟨b, 1, none⟩ = some (.string x1) ∧ w'.cell? ⟨Bf, 0, none⟩ = some (.func (.func 245) #[] #[])) (go_keep) ((go_at_call 245; refine (hbase _ (by first | exact ((Below.refl _ w).alloc (Nat.le_refl _) _).drew | exact (((Below.refl _ w).alloc (Nat.le_refl _) _).alloc (by simp) _).drew)).mono ?_; rintro e w1 ⟨⟨c1, c2, c3, c4, rfl⟩, hb1⟩; obtain ⟨hc, hf⟩ := bcell hb1; have hz : w.heap.size + 1 ≤ w1.heap.size := (by have := hb1.size; simp at this; omega); have hy3 := (hb1.cell (p := ⟨b, 1, none⟩) (by simp; omega)).trans (by first | exact hy1 | exact hy2); have hg3 := (hb1.cell (p := ⟨Bf, 0, none⟩) (by simp; omega)).trans (by first | exact hg1 | exact hg2); have nb1 : w1.heap.size ≠ b := (by omega); have nB1 : w1.heap.size ≠ Bf := (by omega)))
    all_goals
      go_wp2_with fail
      go_meet
      first | exact ⟨_, _, _, _, _, rfl, rfl, part_in hb1 _ _ _ _⟩ | exact ⟨_, _, _, _, _, rfl, rfl, part_behind hb1 _ _ _ _⟩
  case rest =>
    obtain ⟨g, c1, c2, c3, c4, rfl, rfl, hg, hp, hr, hbw⟩ := hcut
    have kx0 := (hbw.cell (p := ⟨b, 0, none⟩) hb).trans hx0
    have kx1 := (hbw.cell (p := ⟨b, 1, none⟩) hb).trans hx1
    have p0 := hp.cell 0
    have p1 := hp.cell 1
    have p2 := hp.cell 2
    have p3 := hp.cell 3
    have pf := hp.frozen
    have ngb : ¬ g = b := by omega
    clear hbase
    go_wp2
    have hp3 := (hp.put 0 (.string x0))
    have hr3 := (hr.far (p := ⟨g, 0, none⟩) (by simp; omega) (.string x0))
    have hb3 := (hbw.setCell (p := ⟨g, 0, none⟩) (by simp; omega) (.string x0))
    have qx0 : (wc.setCell ⟨g, 0, none⟩ (.string x0)).cell? ⟨b, 0, none⟩ = some (.string x0) := by simp [World.cell?_setCell_far, kx0, ngb]
    have qx1 : (wc.setCell ⟨g, 0, none⟩ (.string x0)).cell? ⟨b, 1, none⟩ = some (.string x1) := by simp [World.cell?_setCell_far, kx1, ngb]
    clear kx0 kx1 p0 p1 p2 p3 pf hx0 hx1 hy1 hp hr hbw
    generalize (wc.setCell ⟨g, 0, none⟩ (.string x0)) = W3 at hp3 hr3 hb3 qx0 qx1 ⊢
    have p0 := hp3.cell 0
    have p1 := hp3.cell 1
    have p2 := hp3.cell 2
    have p3 := hp3.cell 3
    have r0 := hr3.cell 0
    have r1 := hr3.cell 1
    have r2 := hr3.cell 2
    have r3 := hr3.cell 3
    have rf := hr3.frozen
    have ng : ¬ w.heap.size = g := by omega
    have hs3 : w.heap.size < W3.heap.size := hr3.lt
    have hsg := hp3.lt
    have hsb : b < W3.heap.size := by omega
    simp only [List.getElem?_toArray, List.getElem?_cons_zero, List.getElem?_cons_succ, Array.getElem?_setIfInBounds] at p0 p1 p2 p3 r0 r1 r2 r3
    cases z1
    · go_wp2
      refine wp_region_held_drew (S := (fun w' => w'.cell? ⟨g, 0, none⟩ = some (.string x0) ∧ w'.cell? ⟨g, 1, none⟩ = some (.string c2) ∧ w'.cell? ⟨g, 2, none⟩ = some (.string c3) ∧ w'.cell? ⟨g, 3, none⟩ = some (.string c4) ∧ w'.cell? ⟨b, 0, none⟩ = some (.string x0) ∧ w'.cell? ⟨b, 1, none⟩ = some (.string x1))) (by kernel_rfl) ?hS1 (fun hHeld => ?_)
      case hS1 => ((try dsimp only); simp [*])
      refine tk1 (i := 0) (v := ?v1_1) ?hy1_1 ?_
      case hy1_1 => ((intro w hSw; (try dsimp only at hSw); go_simp) <;> with_reducible rfl)
      (try simp only [Act.put, zq1, zq2, zq3, zq4, zq5, zq6])
      refine tk1 (i := 1) (v := ?v1_2) ?hy1_2 ?_
      case hy1_2 => ((intro w hSw; (try dsimp only at hSw); go_simp) <;> with_reducible rfl)
      (try simp only [Act.put, zq1, zq2, zq3, zq4, zq5, zq6])
      refine tk1 (i := 2) (v := ?v1_3) ?hy1_3 ?_
      case hy1_3 => ((intro w hSw; (try dsimp only at hSw); go_simp) <;> with_reducible rfl)
      (try simp only [Act.put, zq1, zq2, zq3, zq4, zq5, zq6])
      refine tk2 (i := 3) ?_
      (try simp only [Act.put, zq1, zq2, zq3, zq4, zq5, zq6])
      refine tk2 (i := 4) ?_
      (try simp only [Act.put, zq1, zq2, zq3, zq4, zq5, zq6])
      refine tk2 (i := 5) ?_
      (try simp only [Act.put, zq1, zq2, zq3, zq4, zq5, zq6])
      refine tk2 (i := 6) ?_
      (try simp only [Act.put, zq1, zq2, zq3, zq4, zq5, zq6])
      refine tk1 (i := 7) (v := ?v1_8) ?hy1_8 ?_
      case hy1_8 => ((intro w hSw; (try dsimp only at hSw); go_simp) <;> with_reducible rfl)
      (try simp only [Act.put, zq1, zq2, zq3, zq4, zq5, zq6])
      refine tk1 (i := 8) (v := ?v1_9) ?hy1_9 ?_
      case hy1_9 => ((intro w hSw; (try dsimp only at hSw); go_simp) <;> with_reducible rfl)
      (try simp only [Act.put, zq1, zq2, zq3, zq4, zq5, zq6])
      refine tk2 (i := 9) ?_
      (try simp only [Act.put, zq1, zq2, zq3, zq4, zq5, zq6])
      refine tk2 (i := 10) ?_
      (try simp only [Act.put, zq1, zq2, zq3, zq4, zq5, zq6])
      refine tk2 (i := 11) ?_
      (try simp only [Act.put, zq1, zq2, zq3, zq4, zq5, zq6])
      refine tk2 (i := 12) ?_
      (try simp only [Act.put, zq1, zq2, zq3, zq4, zq5, zq6])
      refine tk2 (i := 13) ?_
      (try simp only [Act.put, zq1, zq2, zq3, zq4, zq5, zq6])
      refine tk2 (i := 14) ?_
      (try simp only [Act.put, zq1, zq2, zq3, zq4, zq5, zq6])
      refine tk2 (i := 15) ?_
      (try simp only [Act.put, zq1, zq2, zq3, zq4, zq5, zq6])
      refine tk2 (i := 16) ?_
      (try simp only [Act.put, zq1, zq2, zq3, zq4, zq5, zq6])
      refine tk2 (i := 17) ?_
      (try simp only [Act.put, zq1, zq2, zq3, zq4, zq5, zq6])
      refine tk1 (i := 18) (v := ?v1_19) ?hy1_19 ?_
      case hy1_19 => ((intro w hSw; (try dsimp only at hSw); go_simp) <;> with_reducible rfl)
      (try simp only [Act.put, zq1, zq2, zq3, zq4, zq5, zq6])
      refine wpAnyH_ready (rs := [19]) (by kernel_rfl) (by simp) ?_
      refine AllReadyH.cons rfl (fun K hK => ?_) AllReadyH.nil
      go_simp
      refine hK.out _ _ ?hS1_20 (fun hHeld => ?_)
      case hS1_20 => ((try dsimp only); go_keep)
      clear hK K
      (try simp only [Act.put, zq1, zq2, zq3, zq4, zq5, zq6])
      refine tk1 (i := 20) (v := ?v1_21) ?hy1_21 ?_
      case hy1_21 => ((intro w hSw; (try dsimp only at hSw); go_simp) <;> with_reducible rfl)
      (try simp only [Act.put, zq1, zq2, zq3, zq4, zq5, zq6])
      refine wpAnyH_done (by kernel_rfl) ?_ _
      go_wp2
      refine bodyPost_ret (v := .tuple #[.agg #[.string x0, .string c2, .string c3, .string c4], .bool false]) (by simp [results, Tryz.results248, go_sem, *]) rfl ⟨⟨_, _, _, _, ret_p (by simp)⟩, ?_⟩
      exact ((((hb3.setCell (Nat.le_refl _) _).setCell (Nat.le_refl _) _).setCell (Nat.le_refl _) _).setCell (Nat.le_refl _) _).drew
    · have hA := fun w => area_any x0 w
      cases hz2 : areaB x0 <;> rw [hz2] at hA
      · go_wp2
        refine wp_region_held_drew (S := (fun w' => w'.cell? ⟨g, 0, none⟩ = some (.string x0) ∧ w'.cell? ⟨g, 1, none⟩ = some (.string c2) ∧ w'.cell? ⟨g, 2, none⟩ = some (.string c3) ∧ w'.cell? ⟨g, 3, none⟩ = some (.string c4) ∧ w'.cell? ⟨b, 0, none⟩ = some (.string x0) ∧ w'.cell? ⟨b, 1, none⟩ = some (.string x1))) (by kernel_rfl) ?hS2 (fun hHeld => ?_)
        case hS2 => ((try dsimp only); simp [*])
        refine tk1 (i := 0) (v := ?v2_1) ?hy2_1 ?_
        case hy2_1 => ((intro w hSw; (try dsimp only at hSw); go_simp) <;> with_reducible rfl)
        (try simp only [Act.put, zq1, zq2, zq3, zq4, zq5, zq6])
        refine tk1 (i := 1) (v := ?v2_2) ?hy2_2 ?_
        case hy2_2 => ((intro w hSw; (try dsimp only at hSw); go_simp) <;> with_reducible rfl)
        (try simp only [Act.put, zq1, zq2, zq3, zq4, zq5, zq6])
        refine tk1 (i := 2) (v := ?v2_3) ?hy2_3 ?_
        case hy2_3 => ((intro w hSw; (try dsimp only at hSw); go_simp) <;> with_reducible rfl)
        (try simp only [Act.put, zq1, zq2, zq3, zq4, zq5, zq6])
        refine tk1 (i := 3) (v := ?v2_4) ?hy2_4 ?_
        case hy2_4 => ((intro w hSw; (try dsimp only at hSw); go_simp) <;> with_reducible rfl)
        (try simp only [Act.put, zq1, zq2, zq3, zq4, zq5, zq6])
        refine tk1 (i := 4) (v := ?v2_5) ?hy2_5 ?_
        case hy2_5 => ((intro w hSw; (try dsimp only at hSw); go_simp) <;> with_reducible rfl)
        (try simp only [Act.put, zq1, zq2, zq3, zq4, zq5, zq6])
        refine tk1 (i := 5) (v := ?v2_6) ?hy2_6 ?_
        case hy2_6 => ((intro w hSw; (try dsimp only at hSw); go_simp) <;> with_reducible rfl)
        (try simp only [Act.put, zq1, zq2, zq3, zq4, zq5, zq6])
        refine wpAnyH_ready (rs := [6]) (by kernel_rfl) (by simp) ?_
        refine AllReadyH.cons rfl (fun K hK => ?_) AllReadyH.nil
        go_simp
        (go_at_call 249; refine (hA _).mono ?_; rintro e wa0 ⟨rfl, hbwa0⟩; have hpwa0 := hp3.drew.later hbwa0; have hrwa0 := hr3.drew.later hbwa0; have hszwa0 := hbwa0.size; have p0wa0 := (hbwa0.cell (p := ⟨g, 0, none⟩) (by simp at *; omega)).trans p0; have p1wa0 := (hbwa0.cell (p := ⟨g, 1, none⟩) (by simp at *; omega)).trans p1; have p2wa0 := (hbwa0.cell (p := ⟨g, 2, none⟩) (by simp at *; omega)).trans p2; have p3wa0 := (hbwa0.cell (p := ⟨g, 3, none⟩) (by simp at *; omega)).trans p3; have r0wa0 := (hbwa0.cell (p := ⟨w.heap.size, 0, none⟩) (by simp at *; omega)).trans r0; have r1wa0 := (hbwa0.cell (p := ⟨w.heap.size, 1, none⟩) (by simp at *; omega)).trans r1; have r2wa0 := (hbwa0.cell (p := ⟨w.heap.size, 2, none⟩) (by simp at *; omega)).trans r2; have r3wa0 := (hbwa0.cell (p := ⟨w.heap.size, 3, none⟩) (by simp at *; omega)).trans r3; have qx0wa0 := (hbwa0.cell (p := ⟨b, 0, none⟩) (by simp at *; omega)).trans qx0; have qx1wa0 := (hbwa0.cell (p := ⟨b, 1, none⟩) (by simp at *; omega)).trans qx1; have rfwa0 := hrwa0.frozen)
        go_wp2_with fail
        refine hK.out _ _ ?hS2_7 (fun hHeld => ?_)
        case hS2_7 => ((try dsimp only); go_keep)
        clear hK K
        (try simp only [Act.put, zq1, zq2, zq3, zq4, zq5, zq6])
        refine tk1 (i := 7) (v := ?v2_8) ?hy2_8 ?_
        case hy2_8 => ((intro w hSw; (try dsimp only at hSw); go_simp) <;> with_reducible rfl)
        (try simp only [Act.put, zq1, zq2, zq3, zq4, zq5, zq6])
        refine tk1 (i := 8) (v := ?v2_9) ?hy2_9 ?_
        case hy2_9 => ((intro w hSw; (try dsimp only at hSw); go_simp) <;> with_reducible rfl)
        (try simp only [Act.put, zq1, zq2, zq3, zq4, zq5, zq6])
        refine tk2 (i := 9) ?_
        (try simp only [Act.put, zq1, zq2, zq3, zq4, zq5, zq6])
        refine tk2 (i := 10) ?_
        (try simp only [Act.put, zq1, zq2, zq3, zq4, zq5, zq6])
        refine tk2 (i := 11) ?_
        (try simp only [Act.put, zq1, zq2, zq3, zq4, zq5, zq6])
        refine tk2 (i := 12) ?_
        (try simp only [Act.put, zq1, zq2, zq3, zq4, zq5, zq6])
        refine tk2 (i := 13) ?_
        (try simp only [Act.put, zq1, zq2, zq3, zq4, zq5, zq6])
        refine tk2 (i := 14) ?_
        (try simp only [Act.put, zq1, zq2, zq3, zq4, zq5, zq6])
        refine tk2 (i := 15) ?_
        (try simp only [Act.put, zq1, zq2, zq3, zq4, zq5, zq6])
        refine tk2 (i := 16) ?_
        (try simp only [Act.put, zq1, zq2, zq3, zq4, zq5, zq6])
        refine tk2 (i := 17) ?_
        (try simp only [Act.put, zq1, zq2, zq3, zq4, zq5, zq6])
        refine tk1 (i := 18) (v := ?v2_19) ?hy2_19 ?_
        case hy2_19 => ((intro w hSw; (try dsimp only at hSw); go_simp) <;> with_reducible rfl)
        (try simp only [Act.put, zq1, zq2, zq3, zq4, zq5, zq6])
        refine wpAnyH_ready (rs := [19]) (by kernel_rfl) (by simp) ?_
        refine AllReadyH.cons rfl (fun K hK => ?_) AllReadyH.nil
        go_simp
        refine hK.out _ _ ?hS2_20 (fun hHeld => ?_)
        case hS2_20 => ((try dsimp only); go_keep)
        clear hK K
        (try simp only [Act.put, zq1, zq2, zq3, zq4, zq5, zq6])
        refine tk1 (i := 20) (v := ?v2_21) ?hy2_21 ?_
        case hy2_21 => ((intro w hSw; (try dsimp only at hSw); go_simp) <;> with_reducible rfl)
        (try simp only [Act.put, zq1, zq2, zq3, zq4, zq5, zq6])
        refine wpAnyH_done (by kernel_rfl) ?_ _
        go_wp2
        refine bodyPost_ret (v := .tuple #[.agg #[.string x0, .string c2, .string c3, .string c4], .bool false]) (by simp [results, Tryz.results248, go_sem, *]) rfl ⟨⟨_, _, _, _, ret_p (by simp [hz2])⟩, ?_⟩
        exact (((((hb3.drew.trans (hbwa0.mono (by simp at *; omega)))).setCell (Nat.le_refl _) _).setCell (Nat.le_refl _) _).setCell (Nat.le_refl _) _).setCell (Nat.le_refl _) _
      · go_wp2
        refine wp_region_held_drew (S := (fun w' => w'.cell? ⟨g, 0, none⟩ = some (.string x0) ∧ w'.cell? ⟨g, 1, none⟩ = some (.string c2) ∧ w'.cell? ⟨g, 2, none⟩ = some (.string c3) ∧ w'.cell? ⟨g, 3, none⟩ = some (.string c4) ∧ w'.cell? ⟨b, 0, none⟩ = some (.string x0) ∧ w'.cell? ⟨b, 1, none⟩ = some (.string x1))) (by kernel_rfl) ?hS3 (fun hHeld => ?_)
        case hS3 => ((try dsimp only); simp [*])
        refine tk1 (i := 0) (v := ?v3_1) ?hy3_1 ?_
        case hy3_1 => ((intro w hSw; (try dsimp only at hSw); go_simp) <;> with_reducible rfl)
        (try simp only [Act.put, zq1, zq2, zq3, zq4, zq5, zq6])
        refine tk1 (i := 1) (v := ?v3_2) ?hy3_2 ?_
        case hy3_2 => ((intro w hSw; (try dsimp only at hSw); go_simp) <;> with_reducible rfl)
        (try simp only [Act.put, zq1, zq2, zq3, zq4, zq5, zq6])
        refine tk1 (i := 2) (v := ?v3_3) ?hy3_3 ?_
        case hy3_3 => ((intro w hSw; (try dsimp only at hSw); go_simp) <;> with_reducible rfl)
        (try simp only [Act.put, zq1, zq2, zq3, zq4, zq5, zq6])
        refine tk1 (i := 3) (v := ?v3_4) ?hy3_4 ?_
        case hy3_4 => ((intro w hSw; (try dsimp only at hSw); go_simp) <;> with_reducible rfl)
        (try simp only [Act.put, zq1, zq2, zq3, zq4, zq5, zq6])
        refine tk1 (i := 4) (v := ?v3_5) ?hy3_5 ?_
        case hy3_5 => ((intro w hSw; (try dsimp only at hSw); go_simp) <;> with_reducible rfl)
        (try simp only [Act.put, zq1, zq2, zq3, zq4, zq5, zq6])
        refine tk1 (i := 5) (v := ?v3_6) ?hy3_6 ?_
        case hy3_6 => ((intro w hSw; (try dsimp only at hSw); go_simp) <;> with_reducible rfl)
        (try simp only [Act.put, zq1, zq2, zq3, zq4, zq5, zq6])
        refine wpAnyH_ready (rs := [6]) (by kernel_rfl) (by simp) ?_
        refine AllReadyH.cons rfl (fun K hK => ?_) AllReadyH.nil
        go_simp
        (go_at_call 249; refine (hA _).mono ?_; rintro e wa0 ⟨rfl, hbwa0⟩; have hpwa0 := hp3.drew.later hbwa0; have hrwa0 := hr3.drew.later hbwa0; have hszwa0 := hbwa0.size; have p0wa0 := (hbwa0.cell (p := ⟨g, 0, none⟩) (by simp at *; omega)).trans p0; have p1wa0 := (hbwa0.cell (p := ⟨g, 1, none⟩) (by simp at *; omega)).trans p1; have p2wa0 := (hbwa0.cell (p := ⟨g, 2, none⟩) (by simp at *; omega)).trans p2; have p3wa0 := (hbwa0.cell (p := ⟨g, 3, none⟩) (by simp at *; omega)).trans p3; have r0wa0 := (hbwa0.cell (p := ⟨w.heap.size, 0, none⟩) (by simp at *; omega)).trans r0; have r1wa0 := (hbwa0.cell (p := ⟨w.heap.size, 1, none⟩) (by simp at *; omega)).trans r1; have r2wa0 := (hbwa0.cell (p := ⟨w.heap.size, 2, none⟩) (by simp at *; omega)).trans r2; have r3wa0 := (hbwa0.cell (p := ⟨w.heap.size, 3, none⟩) (by simp at *; omega)).trans r3; have qx0wa0 := (hbwa0.cell (p := ⟨b, 0, none⟩) (by simp at *; omega)).trans qx0; have qx1wa0 := (hbwa0.cell (p := ⟨b, 1, none⟩) (by simp at *; omega)).trans qx1; have rfwa0 := hrwa0.frozen)
        go_wp2_with fail
        refine hK.out _ _ ?hS3_7 (fun hHeld => ?_)
        case hS3_7 => ((try dsimp only); go_keep)
        clear hK K
        (try simp only [Act.put, zq1, zq2, zq3, zq4, zq5, zq6])
        refine tk1 (i := 7) (v := ?v3_8) ?hy3_8 ?_
        case hy3_8 => ((intro w hSw; (try dsimp only at hSw); go_simp) <;> with_reducible rfl)
        (try simp only [Act.put, zq1, zq2, zq3, zq4, zq5, zq6])
        refine tk1 (i := 8) (v := ?v3_9) ?hy3_9 ?_
        case hy3_9 => ((intro w hSw; (try dsimp only at hSw); go_simp) <;> with_reducible rfl)
        (try simp only [Act.put, zq1, zq2, zq3, zq4, zq5, zq6])
        refine tk1 (i := 9) (v := ?v3_10) ?hy3_10 ?_
        case hy3_10 => ((intro w hSw; (try dsimp only at hSw); go_simp) <;> with_reducible rfl)
        (try simp only [Act.put, zq1, zq2, zq3, zq4, zq5, zq6])
        refine tk1 (i := 10) (v := ?v3_11) ?hy3_11 ?_
        case hy3_11 => ((intro w hSw; (try dsimp only at hSw); go_simp) <;> with_reducible rfl)
        (try simp only [Act.put, zq1, zq2, zq3, zq4, zq5, zq6])
        refine tk1 (i := 11) (v := ?v3_12) ?hy3_12 ?_
        case hy3_12 => ((intro w hSw; (try dsimp only at hSw); go_simp) <;> with_reducible rfl)
        (try simp only [Act.put, zq1, zq2, zq3, zq4, zq5, zq6])
        refine tk1 (i := 12) (v := ?v3_13) ?hy3_13 ?_
        case hy3_13 => ((intro w hSw; (try dsimp only at hSw); go_simp) <;> with_reducible rfl)
        (try simp only [Act.put, zq1, zq2, zq3, zq4, zq5, zq6])
        refine tk1 (i := 13) (v := ?v3_14) ?hy3_14 ?_
        case hy3_14 => ((intro w hSw; (try dsimp only at hSw); go_simp) <;> with_reducible rfl)
        (try simp only [Act.put, zq1, zq2, zq3, zq4, zq5, zq6])
        refine tk1 (i := 14) (v := ?v3_15) ?hy3_15 ?_
        case hy3_15 => ((intro w hSw; (try dsimp only at hSw); go_simp) <;> with_reducible rfl)
        (try simp only [Act.put, zq1, zq2, zq3, zq4, zq5, zq6])
        refine tk1 (i := 15) (v := ?v3_16) ?hy3_16 ?_
        case hy3_16 => ((intro w hSw; (try dsimp only at hSw); go_simp) <;> with_reducible rfl)
        (try simp only [Act.put, zq1, zq2, zq3, zq4, zq5, zq6])
        refine tk1 (i := 16) (v := ?v3_17) ?hy3_17 ?_
        case hy3_17 => ((intro w hSw; (try dsimp only at hSw); go_simp) <;> with_reducible rfl)
        (try simp only [Act.put, zq1, zq2, zq3, zq4, zq5, zq6])
        refine tk1 (i := 17) (v := ?v3_18) ?hy3_18 ?_
        case hy3_18 => ((intro w hSw; (try dsimp only at hSw); go_simp) <;> with_reducible rfl)
        (try simp only [Act.put, zq1, zq2, zq3, zq4, zq5, zq6])
        refine tk1 (i := 18) (v := ?v3_19) ?hy3_19 ?_
        case hy3_19 => ((intro w hSw; (try dsimp only at hSw); go_simp) <;> with_reducible rfl)
        (try simp only [Act.put, zq1, zq2, zq3, zq4, zq5, zq6])
        refine wpAnyH_ready (rs := [19]) (by kernel_rfl) (by simp) ?_
        refine AllReadyH.cons rfl (fun K hK => ?_) AllReadyH.nil
        go_simp
        refine hK.out _ _ ?hS3_20 (fun hHeld => ?_)
        case hS3_20 => ((try dsimp only); go_keep)
        clear hK K
        (try simp only [Act.put, zq1, zq2, zq3, zq4, zq5, zq6])
        refine tk1 (i := 20) (v := ?v3_21) ?hy3_21 ?_
        case hy3_21 => ((intro w hSw; (try dsimp only at hSw); go_simp) <;> with_reducible rfl)
        (try simp only [Act.put, zq1, zq2, zq3, zq4, zq5, zq6])
        refine wpAnyH_done (by kernel_rfl) ?_ _
        go_wp2
        refine bodyPost_ret (v := .tuple #[.agg #[.string x0, .string c2, .string c3, .string c4], .bool (decide (x0.size < x1.size))]) (by simp [results, Tryz.results248, go_sem, *]) rfl ⟨⟨_, _, _, _, ret_p (by simp [hz2])⟩, ?_⟩
        exact (((((hb3.drew.trans (hbwa0.mono (by simp at *; omega)))).setCell (Nat.le_refl _) _).setCell (Nat.le_refl _) _).setCell (Nat.le_refl _) _).setCell (Nat.le_refl _) _

set_option maxHeartbeats 4000000 in
theorem forms4_any (x0 x1 : ByteArray) (b Bf cap : Nat) (w : World) (hs : x0.size ≤ 9223372036854775807) (hE : Env w) (hb : b < w.heap.size) (hB : Bf < w.heap.size)
    (hx0 : w.cell? ⟨b, 0, none⟩ = some (.string x0))
    (hx1 : w.cell? ⟨b, 1, none⟩ = some (.string x1))
    (hg : w.cell? ⟨Bf, 0, none⟩ = some (.func (.func 245) #[] #[])) :
    Calls Tryz.prog 250 #[.slice (some ⟨b, 0, none⟩) 2 cap, .pointer (some ⟨Bf, 0, none⟩)] w fun e w' => Parted (baseB x0 && strokeB x1) e ∧ Below w.heap.size w w' := by
  have hbase : ∀ W, Below w.heap.size w W → Calls Tryz.prog 245 #[.string x0] W _ := fun W hb => forms1_any x0 W hs (hE.below hE.big hb)
  have hy1 := old_cell hx0 zeroParts
  have hg1 := old_cell hg zeroParts
  have nb : w.heap.size ≠ b := by omega
  have nB : w.heap.size ≠ Bf := by omega
  have nb' : ¬ w.heap.size + 1 = b := by omega
  have nB' : ¬ w.heap.size + 1 = Bf := by omega
  clear hE
  generalize baseB x0 = z1 at hbase ⊢
  go_enter Tryz.func250, Tryz.ntmps250
  go_upto_region 1 with fail
  go_cut [5, 6] (fun s5 s6 wx => ∃ (g : Nat) (c1 c2 c3 c4 : ByteArray), s5 = .pointer (some ⟨g, 0, none⟩) ∧ s6 = .bool z1 ∧ PartAt w g c1 c2 c3 c4 wx)
  case first =>
    have hy2 := old_cell hy1 zeroParts
    have hg2 := old_cell hg1 zeroParts
    go_region_held3 (fun w' => w'.cell? ⟨b, 0, none⟩ = some (.string x0) ∧ w'.cell? ⟨Bf, 0, none⟩ = some (.func (.func 245) #[] #[])) (go_keep) ((go_at_call 245; refine (hbase _ (by first | exact ((Below.refl _ w).alloc (Nat.le_refl _) _).drew | exact (((Below.refl _ w).alloc (Nat.le_refl _) _).alloc (by simp) _).drew)).mono ?_; rintro e w1 ⟨⟨c1, c2, c3, c4, rfl⟩, hb1⟩; obtain ⟨hc, hf⟩ := bcell hb1; have hz : w.heap.size + 1 ≤ w1.heap.size := (by have := hb1.size; simp at this; omega); have hy3 := (hb1.cell (p := ⟨b, 0, none⟩) (by simp; omega)).trans (by first | exact hy1 | exact hy2); have hg3 := (hb1.cell (p := ⟨Bf, 0, none⟩) (by simp; omega)).trans (by first | exact hg1 | exact hg2); have nb1 : w1.heap.size ≠ b := (by omega); have nB1 : w1.heap.size ≠ Bf := (by omega)))
    all_goals
      go_wp2_with fail
      go_meet
      first | exact ⟨_, _, _, _, _, rfl, rfl, part_in hb1 _ _ _ _⟩ | exact ⟨_, _, _, _, _, rfl, rfl, part_behind hb1 _ _ _ _⟩
  case rest =>
    obtain ⟨g, c1, c2, c3, c4, rfl, rfl, hg, hp, hr, hbw⟩ := hcut
    have kx0 := (hbw.cell (p := ⟨b, 0, none⟩) hb).trans hx0
    have kx1 := (hbw.cell (p := ⟨b, 1, none⟩) hb).trans hx1
    have p0 := hp.cell 0
    have p1 := hp.cell 1
    have p2 := hp.cell 2
    have p3 := hp.cell 3
    have pf := hp.frozen
    have ngb : ¬ g = b := by omega
    clear hbase
    go_wp2
    have hp3 := (hp.put 3 (.string x1))
    have hr3 := (hr.far (p := ⟨g, 3, none⟩) (by simp; omega) (.string x1))
    have hb3 := (hbw.setCell (p := ⟨g, 3, none⟩) (by simp; omega) (.string x1))
    have qx0 : (wc.setCell ⟨g, 3, none⟩ (.string x1)).cell? ⟨b, 0, none⟩ = some (.string x0) := by simp [World.cell?_setCell_far, kx0, ngb]
    have qx1 : (wc.setCell ⟨g, 3, none⟩ (.string x1)).cell? ⟨b, 1, none⟩ = some (.string x1) := by simp [World.cell?_setCell_far, kx1, ngb]
    clear kx0 kx1 p0 p1 p2 p3 pf hx0 hx1 hy1 hp hr hbw
    generalize (wc.setCell ⟨g, 3, none⟩ (.string x1)) = W3 at hp3 hr3 hb3 qx0 qx1 ⊢
    have p0 := hp3.cell 0
    have p1 := hp3.cell 1
    have p2 := hp3.cell 2
    have p3 := hp3.cell 3
    have r0 := hr3.cell 0
    have r1 := hr3.cell 1
    have r2 := hr3.cell 2
    have r3 := hr3.cell 3
    have rf := hr3.frozen
    have ng : ¬ w.heap.size = g := by omega
    have hs3 : w.heap.size < W3.heap.size := hr3.lt
    have hsg := hp3.lt
    have hsb : b < W3.heap.size := by omega
    simp only [List.getElem?_toArray, List.getElem?_cons_zero, List.getElem?_cons_succ, Array.getElem?_setIfInBounds] at p0 p1 p2 p3 r0 r1 r2 r3
    cases z1
    · go_wp2
      refine wp_region_held_drew (S := (fun w' => w'.cell? ⟨g, 0, none⟩ = some (.string c1) ∧ w'.cell? ⟨g, 1, none⟩ = some (.string c2) ∧ w'.cell? ⟨g, 2, none⟩ = some (.string c3) ∧ w'.cell? ⟨g, 3, none⟩ = some (.string x1) ∧ w'.cell? ⟨b, 0, none⟩ = some (.string x0) ∧ w'.cell? ⟨b, 1, none⟩ = some (.string x1))) (by kernel_rfl) ?hS4 (fun hHeld => ?_)
      case hS4 => ((try dsimp only); simp [*])
      refine tk1 (i := 0) (v := ?v4_1) ?hy4_1 ?_
      case hy4_1 => ((intro w hSw; (try dsimp only at hSw); go_simp) <;> with_reducible rfl)
      (try simp only [Act.put, zq1, zq2, zq3, zq4, zq5, zq6])
      refine tk1 (i := 1) (v := ?v4_2) ?hy4_2 ?_
      case hy4_2 => ((intro w hSw; (try dsimp only at hSw); go_simp) <;> with_reducible rfl)
      (try simp only [Act.put, zq1, zq2, zq3, zq4, zq5, zq6])
      refine tk1 (i := 2) (v := ?v4_3) ?hy4_3 ?_
      case hy4_3 => ((intro w hSw; (try dsimp only at hSw); go_simp) <;> with_reducible rfl)
      (try simp only [Act.put, zq1, zq2, zq3, zq4, zq5, zq6])
      refine tk2 (i := 3) ?_
      (try simp only [Act.put, zq1, zq2, zq3, zq4, zq5, zq6])
      refine tk2 (i := 4) ?_
      (try simp only [Act.put, zq1, zq2, zq3, zq4, zq5, zq6])
      refine tk2 (i := 5) ?_
      (try simp only [Act.put, zq1, zq2, zq3, zq4, zq5, zq6])
      refine tk2 (i := 6) ?_
      (try simp only [Act.put, zq1, zq2, zq3, zq4, zq5, zq6])
      refine tk1 (i := 7) (v := ?v4_8) ?hy4_8 ?_
      case hy4_8 => ((intro w hSw; (try dsimp only at hSw); go_simp) <;> with_reducible rfl)
      (try simp only [Act.put, zq1, zq2, zq3, zq4, zq5, zq6])
      refine wpAnyH_ready (rs := [8]) (by kernel_rfl) (by simp) ?_
      refine AllReadyH.cons rfl (fun K hK => ?_) AllReadyH.nil
      go_simp
      refine hK.out _ _ ?hS4_9 (fun hHeld => ?_)
      case hS4_9 => ((try dsimp only); go_keep)
      clear hK K
      (try simp only [Act.put, zq1, zq2, zq3, zq4, zq5, zq6])
      refine tk1 (i := 9) (v := ?v4_10) ?hy4_10 ?_
      case hy4_10 => ((intro w hSw; (try dsimp only at hSw); go_simp) <;> with_reducible rfl)
      (try simp only [Act.put, zq1, zq2, zq3, zq4, zq5, zq6])
      refine wpAnyH_done (by kernel_rfl) ?_ _
      go_wp2
      refine bodyPost_ret (v := .tuple #[.agg #[.string c1, .string c2, .string c3, .string x1], .bool false]) (by simp [results, Tryz.results250, go_sem, *]) rfl ⟨⟨_, _, _, _, ret_p (by simp)⟩, ?_⟩
      exact ((((hb3.setCell (Nat.le_refl _) _).setCell (Nat.le_refl _) _).setCell (Nat.le_refl _) _).setCell (Nat.le_refl _) _).drew
    · have hS := fun w => stroke_any x1 w
      cases hz2 : strokeB x1 <;> rw [hz2] at hS
      · go_wp2
        refine wp_region_held_drew (S := (fun w' => w'.cell? ⟨g, 0, none⟩ = some (.string c1) ∧ w'.cell? ⟨g, 1, none⟩ = some (.string c2) ∧ w'.cell? ⟨g, 2, none⟩ = some (.string c3) ∧ w'.cell? ⟨g, 3, none⟩ = some (.string x1) ∧ w'.cell? ⟨b, 0, none⟩ = some (.string x0) ∧ w'.cell? ⟨b, 1, none⟩ = some (.string x1))) (by kernel_rfl) ?hS5 (fun hHeld => ?_)
        case hS5 => ((try dsimp only); simp [*])
        refine tk1 (i := 0) (v := ?v5_1) ?hy5_1 ?_
        case hy5_1 => ((intro w hSw; (try dsimp only at hSw); go_simp) <;> with_reducible rfl)
        (try simp only [Act.put, zq1, zq2, zq3, zq4, zq5, zq6])
        refine tk1 (i := 1) (v := ?v5_2) ?hy5_2 ?_
        case hy5_2 => ((intro w hSw; (try dsimp only at hSw); go_simp) <;> with_reducible rfl)
        (try simp only [Act.put, zq1, zq2, zq3, zq4, zq5, zq6])
        refine tk1 (i := 2) (v := ?v5_3) ?hy5_3 ?_
        case hy5_3 => ((intro w hSw; (try dsimp only at hSw); go_simp) <;> with_reducible rfl)
        (try simp only [Act.put, zq1, zq2, zq3, zq4, zq5, zq6])
        refine tk1 (i := 3) (v := ?v5_4) ?hy5_4 ?_
        case hy5_4 => ((intro w hSw; (try dsimp only at hSw); go_simp) <;> with_reducible rfl)
        (try simp only [Act.put, zq1, zq2, zq3, zq4, zq5, zq6])
        refine tk1 (i := 4) (v := ?v5_5) ?hy5_5 ?_
        case hy5_5 => ((intro w hSw; (try dsimp only at hSw); go_simp) <;> with_reducible rfl)
        (try simp only [Act.put, zq1, zq2, zq3, zq4, zq5, zq6])
        refine tk1 (i := 5) (v := ?v5_6) ?hy5_6 ?_
        case hy5_6 => ((intro w hSw; (try dsimp only at hSw); go_simp) <;> with_reducible rfl)
        (try simp only [Act.put, zq1, zq2, zq3, zq4, zq5, zq6])
        refine wpAnyH_ready (rs := [6]) (by kernel_rfl) (by simp) ?_
        refine AllReadyH.cons rfl (fun K hK => ?_) AllReadyH.nil
        go_simp
        (go_at_call 251; refine (hS _).mono ?_; rintro e wa0 ⟨rfl, hbwa0⟩; have hpwa0 := hp3.drew.later hbwa0; have hrwa0 := hr3.drew.later hbwa0; have hszwa0 := hbwa0.size; have p0wa0 := (hbwa0.cell (p := ⟨g, 0, none⟩) (by simp at *; omega)).trans p0; have p1wa0 := (hbwa0.cell (p := ⟨g, 1, none⟩) (by simp at *; omega)).trans p1; have p2wa0 := (hbwa0.cell (p := ⟨g, 2, none⟩) (by simp at *; omega)).trans p2; have p3wa0 := (hbwa0.cell (p := ⟨g, 3, none⟩) (by simp at *; omega)).trans p3; have r0wa0 := (hbwa0.cell (p := ⟨w.heap.size, 0, none⟩) (by simp at *; omega)).trans r0; have r1wa0 := (hbwa0.cell (p := ⟨w.heap.size, 1, none⟩) (by simp at *; omega)).trans r1; have r2wa0 := (hbwa0.cell (p := ⟨w.heap.size, 2, none⟩) (by simp at *; omega)).trans r2; have r3wa0 := (hbwa0.cell (p := ⟨w.heap.size, 3, none⟩) (by simp at *; omega)).trans r3; have qx0wa0 := (hbwa0.cell (p := ⟨b, 0, none⟩) (by simp at *; omega)).trans qx0; have qx1wa0 := (hbwa0.cell (p := ⟨b, 1, none⟩) (by simp at *; omega)).trans qx1; have rfwa0 := hrwa0.frozen)
        go_wp2_with fail
        refine hK.out _ _ ?hS5_7 (fun hHeld => ?_)
        case hS5_7 => ((try dsimp only); go_keep)
        clear hK K
        (try simp only [Act.put, zq1, zq2, zq3, zq4, zq5, zq6])
        refine tk1 (i := 7) (v := ?v5_8) ?hy5_8 ?_
        case hy5_8 => ((intro w hSw; (try dsimp only at hSw); go_simp) <;> with_reducible rfl)
        (try simp only [Act.put, zq1, zq2, zq3, zq4, zq5, zq6])
        refine wpAnyH_ready (rs := [8]) (by kernel_rfl) (by simp) ?_
        refine AllReadyH.cons rfl (fun K hK => ?_) AllReadyH.nil
        go_simp
        refine hK.out _ _ ?hS5_9 (fun hHeld => ?_)
        case hS5_9 => ((try dsimp only); go_keep)
        clear hK K
        (try simp only [Act.put, zq1, zq2, zq3, zq4, zq5, zq6])
        refine tk1 (i := 9) (v := ?v5_10) ?hy5_10 ?_
        case hy5_10 => ((intro w hSw; (try dsimp only at hSw); go_simp) <;> with_reducible rfl)
        (try simp only [Act.put, zq1, zq2, zq3, zq4, zq5, zq6])
        refine wpAnyH_done (by kernel_rfl) ?_ _
        go_wp2
        refine bodyPost_ret (v := .tuple #[.agg #[.string c1, .string c2, .string c3, .string x1], .bool false]) (by simp [results, Tryz.results250, go_sem, *]) rfl ⟨⟨_, _, _, _, ret_p (by simp [hz2])⟩, ?_⟩
        exact (((((hb3.drew.trans (hbwa0.mono (by simp at *; omega)))).setCell (Nat.le_refl _) _).setCell (Nat.le_refl _) _).setCell (Nat.le_refl _) _).setCell (Nat.le_refl _) _
      · go_wp2
        refine wp_region_held_drew (S := (fun w' => w'.cell? ⟨g, 0, none⟩ = some (.string c1) ∧ w'.cell? ⟨g, 1, none⟩ = some (.string c2) ∧ w'.cell? ⟨g, 2, none⟩ = some (.string c3) ∧ w'.cell? ⟨g, 3, none⟩ = some (.string x1) ∧ w'.cell? ⟨b, 0, none⟩ = some (.string x0) ∧ w'.cell? ⟨b, 1, none⟩ = some (.string x1))) (by kernel_rfl) ?hS6 (fun hHeld => ?_)
        case hS6 => ((try dsimp only); simp [*])
        refine tk1 (i := 0) (v := ?v6_1) ?hy6_1 ?_
        case hy6_1 => ((intro w hSw; (try dsimp only at hSw); go_simp) <;> with_reducible rfl)
        (try simp only [Act.put, zq1, zq2, zq3, zq4, zq5, zq6])
        refine tk1 (i := 1) (v := ?v6_2) ?hy6_2 ?_
        case hy6_2 => ((intro w hSw; (try dsimp only at hSw); go_simp) <;> with_reducible rfl)
        (try simp only [Act.put, zq1, zq2, zq3, zq4, zq5, zq6])
        refine tk1 (i := 2) (v := ?v6_3) ?hy6_3 ?_
        case hy6_3 => ((intro w hSw; (try dsimp only at hSw); go_simp) <;> with_reducible rfl)
        (try simp only [Act.put, zq1, zq2, zq3, zq4, zq5, zq6])
        refine tk1 (i := 3) (v := ?v6_4) ?hy6_4 ?_
        case hy6_4 => ((intro w hSw; (try dsimp only at hSw); go_simp) <;> with_reducible rfl)
        (try simp only [Act.put, zq1, zq2, zq3, zq4, zq5, zq6])
        refine tk1 (i := 4) (v := ?v6_5) ?hy6_5 ?_
        case hy6_5 => ((intro w hSw; (try dsimp only at hSw); go_simp) <;> with_reducible rfl)
        (try simp only [Act.put, zq1, zq2, zq3, zq4, zq5, zq6])
        refine tk1 (i := 5) (v := ?v6_6) ?hy6_6 ?_
        case hy6_6 => ((intro w hSw; (try dsimp only at hSw); go_simp) <;> with_reducible rfl)
        (try simp only [Act.put, zq1, zq2, zq3, zq4, zq5, zq6])
        refine wpAnyH_ready (rs := [6]) (by kernel_rfl) (by simp) ?_
        refine AllReadyH.cons rfl (fun K hK => ?_) AllReadyH.nil
        go_simp
        (go_at_call 251; refine (hS _).mono ?_; rintro e wa0 ⟨rfl, hbwa0⟩; have hpwa0 := hp3.drew.later hbwa0; have hrwa0 := hr3.drew.later hbwa0; have hszwa0 := hbwa0.size; have p0wa0 := (hbwa0.cell (p := ⟨g, 0, none⟩) (by simp at *; omega)).trans p0; have p1wa0 := (hbwa0.cell (p := ⟨g, 1, none⟩) (by simp at *; omega)).trans p1; have p2wa0 := (hbwa0.cell (p := ⟨g, 2, none⟩) (by simp at *; omega)).trans p2; have p3wa0 := (hbwa0.cell (p := ⟨g, 3, none⟩) (by simp at *; omega)).trans p3; have r0wa0 := (hbwa0.cell (p := ⟨w.heap.size, 0, none⟩) (by simp at *; omega)).trans r0; have r1wa0 := (hbwa0.cell (p := ⟨w.heap.size, 1, none⟩) (by simp at *; omega)).trans r1; have r2wa0 := (hbwa0.cell (p := ⟨w.heap.size, 2, none⟩) (by simp at *; omega)).trans r2; have r3wa0 := (hbwa0.cell (p := ⟨w.heap.size, 3, none⟩) (by simp at *; omega)).trans r3; have qx0wa0 := (hbwa0.cell (p := ⟨b, 0, none⟩) (by simp at *; omega)).trans qx0; have qx1wa0 := (hbwa0.cell (p := ⟨b, 1, none⟩) (by simp at *; omega)).trans qx1; have rfwa0 := hrwa0.frozen)
        go_wp2_with fail
        refine hK.out _ _ ?hS6_7 (fun hHeld => ?_)
        case hS6_7 => ((try dsimp only); go_keep)
        clear hK K
        (try simp only [Act.put, zq1, zq2, zq3, zq4, zq5, zq6])
        refine tk1 (i := 7) (v := ?v6_8) ?hy6_8 ?_
        case hy6_8 => ((intro w hSw; (try dsimp only at hSw); go_simp) <;> with_reducible rfl)
        (try simp only [Act.put, zq1, zq2, zq3, zq4, zq5, zq6])
        refine wpAnyH_ready (rs := [8]) (by kernel_rfl) (by simp) ?_
        refine AllReadyH.cons rfl (fun K hK => ?_) AllReadyH.nil
        go_simp
        refine hK.out _ _ ?hS6_9 (fun hHeld => ?_)
        case hS6_9 => ((try dsimp only); go_keep)
        clear hK K
        (try simp only [Act.put, zq1, zq2, zq3, zq4, zq5, zq6])
        refine tk1 (i := 9) (v := ?v6_10) ?hy6_10 ?_
        case hy6_10 => ((intro w hSw; (try dsimp only at hSw); go_simp) <;> with_reducible rfl)
        (try simp only [Act.put, zq1, zq2, zq3, zq4, zq5, zq6])
        refine wpAnyH_done (by kernel_rfl) ?_ _
        go_wp2
        refine bodyPost_ret (v := .tuple #[.agg #[.string c1, .string c2, .string c3, .string x1], .bool true]) (by simp [results, Tryz.results250, go_sem, *]) rfl ⟨⟨_, _, _, _, ret_p (by simp [hz2])⟩, ?_⟩
        exact (((((hb3.drew.trans (hbwa0.mono (by simp at *; omega)))).setCell (Nat.le_refl _) _).setCell (Nat.le_refl _) _).setCell (Nat.le_refl _) _).setCell (Nat.le_refl _) _

set_option maxHeartbeats 4000000 in
theorem forms5_any (x0 x1 x2 : ByteArray) (b Bf cap : Nat) (w : World) (hs : x1.size ≤ 9223372036854775807) (hE : Env w) (hb : b < w.heap.size) (hB : Bf < w.heap.size)
    (hx0 : w.cell? ⟨b, 0, none⟩ = some (.string x0))
    (hx1 : w.cell? ⟨b, 1, none⟩ = some (.string x1))
    (hx2 : w.cell? ⟨b, 2, none⟩ = some (.string x2))
    (hg : w.cell? ⟨Bf, 0, none⟩ = some (.func (.func 245) #[] #[])) :
    Calls Tryz.prog 252 #[.slice (some ⟨b, 0, none⟩) 3 cap, .pointer (some ⟨Bf, 0, none⟩)] w fun e w' => Parted (baseB x1 && areaB x0 && strokeB x2) e ∧ Below w.heap.size w w' := by
  have hbase : ∀ W, Below w.heap.size w W → Calls Tryz.prog 245 #[.string x1] W _ := fun W hb => forms1_any x1 W hs (hE.below hE.big hb)
  have hy1 := old_cell hx1 zeroParts
  have hg1 := old_cell hg zeroParts
  have nb : w.heap.size ≠ b := by omega
  have nB : w.heap.size ≠ Bf := by omega
  have nb' : ¬ w.heap.size + 1 = b := by omega
  have nB' : ¬ w.heap.size + 1 = Bf := by omega
  clear hE
  generalize baseB x1 = z1 at hbase ⊢
  go_enter Tryz.func252, Tryz.ntmps252
  go_upto_region 1 with fail
  go_cut [5, 6] (fun s5 s6 wx => ∃ (g : Nat) (c1 c2 c3 c4 : ByteArray), s5 = .pointer (some ⟨g, 0, none⟩) ∧ s6 = .bool z1 ∧ PartAt w g c1 c2 c3 c4 wx)
  case first =>
    have hy2 := old_cell hy1 zeroParts
    have hg2 := old_cell hg1 zeroParts
    go_region_held3 (fun w' => w'.cell? ⟨b, 1, none⟩ = some (.string x1) ∧ w'.cell? ⟨Bf, 0, none⟩ = some (.func (.func 245) #[] #[])) (go_keep) ((go_at_call 245; refine (hbase _ (by first | exact ((Below.refl _ w).alloc (Nat.le_refl _) _).drew | exact (((Below.refl _ w).alloc (Nat.le_refl _) _).alloc (by simp) _).drew)).mono ?_; rintro e w1 ⟨⟨c1, c2, c3, c4, rfl⟩, hb1⟩; obtain ⟨hc, hf⟩ := bcell hb1; have hz : w.heap.size + 1 ≤ w1.heap.size := (by have := hb1.size; simp at this; omega); have hy3 := (hb1.cell (p := ⟨b, 1, none⟩) (by simp; omega)).trans (by first | exact hy1 | exact hy2); have hg3 := (hb1.cell (p := ⟨Bf, 0, none⟩) (by simp; omega)).trans (by first | exact hg1 | exact hg2); have nb1 : w1.heap.size ≠ b := (by omega); have nB1 : w1.heap.size ≠ Bf := (by omega)))
    all_goals
      go_wp2_with fail
      go_meet
      first | exact ⟨_, _, _, _, _, rfl, rfl, part_in hb1 _ _ _ _⟩ | exact ⟨_, _, _, _, _, rfl, rfl, part_behind hb1 _ _ _ _⟩
  case rest =>
    obtain ⟨g, c1, c2, c3, c4, rfl, rfl, hg, hp, hr, hbw⟩ := hcut
    have kx0 := (hbw.cell (p := ⟨b, 0, none⟩) hb).trans hx0
    have kx1 := (hbw.cell (p := ⟨b, 1, none⟩) hb).trans hx1
    have kx2 := (hbw.cell (p := ⟨b, 2, none⟩) hb).trans hx2
    have p0 := hp.cell 0
    have p1 := hp.cell 1
    have p2 := hp.cell 2
    have p3 := hp.cell 3
    have pf := hp.frozen
    have ngb : ¬ g = b := by omega
    clear hbase
    go_wp2
    go_region_held3 (fun w' => w'.cell? ⟨b, 0, none⟩ = some (.string x0) ∧ w'.cell? ⟨b, 1, none⟩ = some (.string x1) ∧ w'.cell? ⟨b, 2, none⟩ = some (.string x2)) (go_keep) (fail)
    have hp3 := ((hp.put 0 (.string x0)).put 3 (.string x2)).drew
    have hr3 := ((hr.far (p := ⟨g, 0, none⟩) (by simp; omega) (.string x0)).far (p := ⟨g, 3, none⟩) (by simp; omega) (.string x2)).drew
    have hb3 := ((hbw.setCell (p := ⟨g, 0, none⟩) (by simp; omega) (.string x0)).setCell (p := ⟨g, 3, none⟩) (by simp; omega) (.string x2)).drew
    have qx0 : ((wc.setCell ⟨g, 0, none⟩ (.string x0)).setCell ⟨g, 3, none⟩ (.string x2)).drew.cell? ⟨b, 0, none⟩ = some (.string x0) := by simp [World.cell?_setCell_far, kx0, ngb]
    have qx1 : ((wc.setCell ⟨g, 0, none⟩ (.string x0)).setCell ⟨g, 3, none⟩ (.string x2)).drew.cell? ⟨b, 1, none⟩ = some (.string x1) := by simp [World.cell?_setCell_far, kx1, ngb]
    have qx2 : ((wc.setCell ⟨g, 0, none⟩ (.string x0)).setCell ⟨g, 3, none⟩ (.string x2)).drew.cell? ⟨b, 2, none⟩ = some (.string x2) := by simp [World.cell?_setCell_far, kx2, ngb]
    clear kx0 kx1 kx2 p0 p1 p2 p3 pf hx0 hx1 hx2 hy1 hp hr hbw
    generalize ((wc.setCell ⟨g, 0, none⟩ (.string x0)).setCell ⟨g, 3, none⟩ (.string x2)).drew = W3 at hp3 hr3 hb3 qx0 qx1 qx2 ⊢
    have p0 := hp3.cell 0
    have p1 := hp3.cell 1
    have p2 := hp3.cell 2
    have p3 := hp3.cell 3
    have r0 := hr3.cell 0
    have r1 := hr3.cell 1
    have r2 := hr3.cell 2
    have r3 := hr3.cell 3
    have rf := hr3.frozen
    have ng : ¬ w.heap.size = g := by omega
    have hs3 : w.heap.size < W3.heap.size := hr3.lt
    have hsg := hp3.lt
    have hsb : b < W3.heap.size := by omega
    simp only [List.getElem?_toArray, List.getElem?_cons_zero, List.getElem?_cons_succ, Array.getElem?_setIfInBounds] at p0 p1 p2 p3 r0 r1 r2 r3
    cases z1
    · go_wp2
      refine wp_region_held_drew (S := (fun w' => w'.cell? ⟨g, 0, none⟩ = some (.string x0) ∧ w'.cell? ⟨g, 1, none⟩ = some (.string c2) ∧ w'.cell? ⟨g, 2, none⟩ = some (.string c3) ∧ w'.cell? ⟨g, 3, none⟩ = some (.string x2) ∧ w'.cell? ⟨b, 0, none⟩ = some (.string x0) ∧ w'.cell? ⟨b, 1, none⟩ = some (.string x1) ∧ w'.cell? ⟨b, 2, none⟩ = some (.string x2))) (by kernel_rfl) ?hS7 (fun hHeld => ?_)
      case hS7 => ((try dsimp only); simp [*])
      refine tk1 (i := 0) (v := ?v7_1) ?hy7_1 ?_
      case hy7_1 => ((intro w hSw; (try dsimp only at hSw); go_simp) <;> with_reducible rfl)
      (try simp only [Act.put, zq1, zq2, zq3, zq4, zq5, zq6])
      refine tk1 (i := 1) (v := ?v7_2) ?hy7_2 ?_
      case hy7_2 => ((intro w hSw; (try dsimp only at hSw); go_simp) <;> with_reducible rfl)
      (try simp only [Act.put, zq1, zq2, zq3, zq4, zq5, zq6])
      refine tk1 (i := 2) (v := ?v7_3) ?hy7_3 ?_
      case hy7_3 => ((intro w hSw; (try dsimp only at hSw); go_simp) <;> with_reducible rfl)
      (try simp only [Act.put, zq1, zq2, zq3, zq4, zq5, zq6])
      refine tk2 (i := 3) ?_
      (try simp only [Act.put, zq1, zq2, zq3, zq4, zq5, zq6])
      refine tk2 (i := 4) ?_
      (try simp only [Act.put, zq1, zq2, zq3, zq4, zq5, zq6])
      refine tk2 (i := 5) ?_
      (try simp only [Act.put, zq1, zq2, zq3, zq4, zq5, zq6])
      refine tk2 (i := 6) ?_
      (try simp only [Act.put, zq1, zq2, zq3, zq4, zq5, zq6])
      refine tk1 (i := 7) (v := ?v7_8) ?hy7_8 ?_
      case hy7_8 => ((intro w hSw; (try dsimp only at hSw); go_simp) <;> with_reducible rfl)
      (try simp only [Act.put, zq1, zq2, zq3, zq4, zq5, zq6])
      refine tk1 (i := 8) (v := ?v7_9) ?hy7_9 ?_
      case hy7_9 => ((intro w hSw; (try dsimp only at hSw); go_simp) <;> with_reducible rfl)
      (try simp only [Act.put, zq1, zq2, zq3, zq4, zq5, zq6])
      refine tk2 (i := 9) ?_
      (try simp only [Act.put, zq1, zq2, zq3, zq4, zq5, zq6])
      refine tk2 (i := 10) ?_
      (try simp only [Act.put, zq1, zq2, zq3, zq4, zq5, zq6])
      refine tk2 (i := 11) ?_
      (try simp only [Act.put, zq1, zq2, zq3, zq4, zq5, zq6])
      refine tk2 (i := 12) ?_
      (try simp only [Act.put, zq1, zq2, zq3, zq4, zq5, zq6])
      refine tk1 (i := 13) (v := ?v7_14) ?hy7_14 ?_
      case hy7_14 => ((intro w hSw; (try dsimp only at hSw); go_simp) <;> with_reducible rfl)
      (try simp only [Act.put, zq1, zq2, zq3, zq4, zq5, zq6])
      refine wpAnyH_ready (rs := [14]) (by kernel_rfl) (by simp) ?_
      refine AllReadyH.cons rfl (fun K hK => ?_) AllReadyH.nil
      go_simp
      refine hK.out _ _ ?hS7_15 (fun hHeld => ?_)
      case hS7_15 => ((try dsimp only); go_keep)
      clear hK K
      (try simp only [Act.put, zq1, zq2, zq3, zq4, zq5, zq6])
      refine tk1 (i := 15) (v := ?v7_16) ?hy7_16 ?_
      case hy7_16 => ((intro w hSw; (try dsimp only at hSw); go_simp) <;> with_reducible rfl)
      (try simp only [Act.put, zq1, zq2, zq3, zq4, zq5, zq6])
      refine wpAnyH_done (by kernel_rfl) ?_ _
      go_wp2
      refine bodyPost_ret (v := .tuple #[.agg #[.string x0, .string c2, .string c3, .string x2], .bool false]) (by simp [results, Tryz.results252, go_sem, *]) rfl ⟨⟨_, _, _, _, ret_p (by simp)⟩, ?_⟩
      exact ((((hb3.setCell (Nat.le_refl _) _).setCell (Nat.le_refl _) _).setCell (Nat.le_refl _) _).setCell (Nat.le_refl _) _).drew
    · have hA := fun w => area_any x0 w
      cases hz2 : areaB x0 <;> rw [hz2] at hA
      · go_wp2
        refine wp_region_held_drew (S := (fun w' => w'.cell? ⟨g, 0, none⟩ = some (.string x0) ∧ w'.cell? ⟨g, 1, none⟩ = some (.string c2) ∧ w'.cell? ⟨g, 2, none⟩ = some (.string c3) ∧ w'.cell? ⟨g, 3, none⟩ = some (.string x2) ∧ w'.cell? ⟨b, 0, none⟩ = some (.string x0) ∧ w'.cell? ⟨b, 1, none⟩ = some (.string x1) ∧ w'.cell? ⟨b, 2, none⟩ = some (.string x2))) (by kernel_rfl) ?hS8 (fun hHeld => ?_)
        case hS8 => ((try dsimp only); simp [*])
        refine tk1 (i := 0) (v := ?v8_1) ?hy8_1 ?_
        case hy8_1 => ((intro w hSw; (try dsimp only at hSw); go_simp) <;> with_reducible rfl)
        (try simp only [Act.put, zq1, zq2, zq3, zq4, zq5, zq6])
        refine tk1 (i := 1) (v := ?v8_2) ?hy8_2 ?_
        case hy8_2 => ((intro w hSw; (try dsimp only at hSw); go_simp) <;> with_reducible rfl)
        (try simp only [Act.put, zq1, zq2, zq3, zq4, zq5, zq6])
        refine tk1 (i := 2) (v := ?v8_3) ?hy8_3 ?_
        case hy8_3 => ((intro w hSw; (try dsimp only at hSw); go_simp) <;> with_reducible rfl)
        (try simp only [Act.put, zq1, zq2, zq3, zq4, zq5, zq6])
        refine tk1 (i := 3) (v := ?v8_4) ?hy8_4 ?_
        case hy8_4 => ((intro w hSw; (try dsimp only at hSw); go_simp) <;> with_reducible rfl)
        (try simp only [Act.put, zq1, zq2, zq3, zq4, zq5, zq6])
        refine tk1 (i := 4) (v := ?v8_5) ?hy8_5 ?_
        case hy8_5 => ((intro w hSw; (try dsimp only at hSw); go_simp) <;> with_reducible rfl)
        (try simp only [Act.put, zq1, zq2, zq3, zq4, zq5, zq6])
        refine tk1 (i := 5) (v := ?v8_6) ?hy8_6 ?_
        case hy8_6 => ((intro w hSw; (try dsimp only at hSw); go_simp) <;> with_reducible rfl)
        (try simp only [Act.put, zq1, zq2, zq3, zq4, zq5, zq6])
        refine wpAnyH_ready (rs := [6]) (by kernel_rfl) (by simp) ?_
        refine AllReadyH.cons rfl (fun K hK => ?_) AllReadyH.nil
        go_simp
        (go_at_call 249; refine (hA _).mono ?_; rintro e wa0 ⟨rfl, hbwa0⟩; have hpwa0 := hp3.drew.later hbwa0; have hrwa0 := hr3.drew.later hbwa0; have hszwa0 := hbwa0.size; have p0wa0 := (hbwa0.cell (p := ⟨g, 0, none⟩) (by simp at *; omega)).trans p0; have p1wa0 := (hbwa0.cell (p := ⟨g, 1, none⟩) (by simp at *; omega)).trans p1; have p2wa0 := (hbwa0.cell (p := ⟨g, 2, none⟩) (by simp at *; omega)).trans p2; have p3wa0 := (hbwa0.cell (p := ⟨g, 3, none⟩) (by simp at *; omega)).trans p3; have r0wa0 := (hbwa0.cell (p := ⟨w.heap.size, 0, none⟩) (by simp at *; omega)).trans r0; have r1wa0 := (hbwa0.cell (p := ⟨w.heap.size, 1, none⟩) (by simp at *; omega)).trans r1; have r2wa0 := (hbwa0.cell (p := ⟨w.heap.size, 2, none⟩) (by simp at *; omega)).trans r2; have r3wa0 := (hbwa0.cell (p := ⟨w.heap.size, 3, none⟩) (by simp at *; omega)).trans r3; have qx0wa0 := (hbwa0.cell (p := ⟨b, 0, none⟩) (by simp at *; omega)).trans qx0; have qx1wa0 := (hbwa0.cell (p := ⟨b, 1, none⟩) (by simp at *; omega)).trans qx1; have qx2wa0 := (hbwa0.cell (p := ⟨b, 2, none⟩) (by simp at *; omega)).trans qx2; have rfwa0 := hrwa0.frozen)
        go_wp2_with fail
        refine hK.out _ _ ?hS8_7 (fun hHeld => ?_)
        case hS8_7 => ((try dsimp only); go_keep)
        clear hK K
        (try simp only [Act.put, zq1, zq2, zq3, zq4, zq5, zq6])
        refine tk1 (i := 7) (v := ?v8_8) ?hy8_8 ?_
        case hy8_8 => ((intro w hSw; (try dsimp only at hSw); go_simp) <;> with_reducible rfl)
        (try simp only [Act.put, zq1, zq2, zq3, zq4, zq5, zq6])
        refine tk1 (i := 8) (v := ?v8_9) ?hy8_9 ?_
        case hy8_9 => ((intro w hSw; (try dsimp only at hSw); go_simp) <;> with_reducible rfl)
        (try simp only [Act.put, zq1, zq2, zq3, zq4, zq5, zq6])
        refine tk2 (i := 9) ?_
        (try simp only [Act.put, zq1, zq2, zq3, zq4, zq5, zq6])
        refine tk2 (i := 10) ?_
        (try simp only [Act.put, zq1, zq2, zq3, zq4, zq5, zq6])
        refine tk2 (i := 11) ?_
        (try simp only [Act.put, zq1, zq2, zq3, zq4, zq5, zq6])
        refine tk2 (i := 12) ?_
        (try simp only [Act.put, zq1, zq2, zq3, zq4, zq5, zq6])
        refine tk1 (i := 13) (v := ?v8_14) ?hy8_14 ?_
        case hy8_14 => ((intro w hSw; (try dsimp only at hSw); go_simp) <;> with_reducible rfl)
        (try simp only [Act.put, zq1, zq2, zq3, zq4, zq5, zq6])
        refine wpAnyH_ready (rs := [14]) (by kernel_rfl) (by simp) ?_
        refine AllReadyH.cons rfl (fun K hK => ?_) AllReadyH.nil
        go_simp
        refine hK.out _ _ ?hS8_15 (fun hHeld => ?_)
        case hS8_15 => ((try dsimp only); go_keep)
        clear hK K
        (try simp only [Act.put, zq1, zq2, zq3, zq4, zq5, zq6])
        refine tk1 (i := 15) (v := ?v8_16) ?hy8_16 ?_
        case hy8_16 => ((intro w hSw; (try dsimp only at hSw); go_simp) <;> with_reducible rfl)
        (try simp only [Act.put, zq1, zq2, zq3, zq4, zq5, zq6])
        refine wpAnyH_done (by kernel_rfl) ?_ _
        go_wp2
        refine bodyPost_ret (v := .tuple #[.agg #[.string x0, .string c2, .string c3, .string x2], .bool false]) (by simp [results, Tryz.results252, go_sem, *]) rfl ⟨⟨_, _, _, _, ret_p (by simp [hz2])⟩, ?_⟩
        exact (((((hb3.drew.trans (hbwa0.mono (by simp at *; omega)))).setCell (Nat.le_refl _) _).setCell (Nat.le_refl _) _).setCell (Nat.le_refl _) _).setCell (Nat.le_refl _) _
      · have hS := fun w => stroke_any x2 w
        cases hz3 : strokeB x2 <;> rw [hz3] at hS
        · go_wp2
          refine wp_region_held_drew (S := (fun w' => w'.cell? ⟨g, 0, none⟩ = some (.string x0) ∧ w'.cell? ⟨g, 1, none⟩ = some (.string c2) ∧ w'.cell? ⟨g, 2, none⟩ = some (.string c3) ∧ w'.cell? ⟨g, 3, none⟩ = some (.string x2) ∧ w'.cell? ⟨b, 0, none⟩ = some (.string x0) ∧ w'.cell? ⟨b, 1, none⟩ = some (.string x1) ∧ w'.cell? ⟨b, 2, none⟩ = some (.string x2))) (by kernel_rfl) ?hS9 (fun hHeld => ?_)
          case hS9 => ((try dsimp only); simp [*])
          refine tk1 (i := 0) (v := ?v9_1) ?hy9_1 ?_
          case hy9_1 => ((intro w hSw; (try dsimp only at hSw); go_simp) <;> with_reducible rfl)
          (try simp only [Act.put, zq1, zq2, zq3, zq4, zq5, zq6])
          refine tk1 (i := 1) (v := ?v9_2) ?hy9_2 ?_
          case hy9_2 => ((intro w hSw; (try dsimp only at hSw); go_simp) <;> with_reducible rfl)
          (try simp only [Act.put, zq1, zq2, zq3, zq4, zq5, zq6])
          refine tk1 (i := 2) (v := ?v9_3) ?hy9_3 ?_
          case hy9_3 => ((intro w hSw; (try dsimp only at hSw); go_simp) <;> with_reducible rfl)
          (try simp only [Act.put, zq1, zq2, zq3, zq4, zq5, zq6])
          refine tk1 (i := 3) (v := ?v9_4) ?hy9_4 ?_
          case hy9_4 => ((intro w hSw; (try dsimp only at hSw); go_simp) <;> with_reducible rfl)
          (try simp only [Act.put, zq1, zq2, zq3, zq4, zq5, zq6])
          refine tk1 (i := 4) (v := ?v9_5) ?hy9_5 ?_
          case hy9_5 => ((intro w hSw; (try dsimp only at hSw); go_simp) <;> with_reducible rfl)
          (try simp only [Act.put, zq1, zq2, zq3, zq4, zq5, zq6])
          refine tk1 (i := 5) (v := ?v9_6) ?hy9_6 ?_
          case hy9_6 => ((intro w hSw; (try dsimp only at hSw); go_simp) <;> with_reducible rfl)
          (try simp only [Act.put, zq1, zq2, zq3, zq4, zq5, zq6])
          refine wpAnyH_ready (rs := [6]) (by kernel_rfl) (by simp) ?_
          refine AllReadyH.cons rfl (fun K hK => ?_) AllReadyH.nil
          go_simp
          (go_at_call 249; refine (hA _).mono ?_; rintro e wa0 ⟨rfl, hbwa0⟩; have hpwa0 := hp3.drew.later hbwa0; have hrwa0 := hr3.drew.later hbwa0; have hszwa0 := hbwa0.size; have p0wa0 := (hbwa0.cell (p := ⟨g, 0, none⟩) (by simp at *; omega)).trans p0; have p1wa0 := (hbwa0.cell (p := ⟨g, 1, none⟩) (by simp at *; omega)).trans p1; have p2wa0 := (hbwa0.cell (p := ⟨g, 2, none⟩) (by simp at *; omega)).trans p2; have p3wa0 := (hbwa0.cell (p := ⟨g, 3, none⟩) (by simp at *; omega)).trans p3; have r0wa0 := (hbwa0.cell (p := ⟨w.heap.size, 0, none⟩) (by simp at *; omega)).trans r0; have r1wa0 := (hbwa0.cell (p := ⟨w.heap.size, 1, none⟩) (by simp at *; omega)).trans r1; have r2wa0 := (hbwa0.cell (p := ⟨w.heap.size, 2, none⟩) (by simp at *; omega)).trans r2; have r3wa0 := (hbwa0.cell (p := ⟨w.heap.size, 3, none⟩) (by simp at *; omega)).trans r3; have qx0wa0 := (hbwa0.cell (p := ⟨b, 0, none⟩) (by simp at *; omega)).trans qx0; have qx1wa0 := (hbwa0.cell (p := ⟨b, 1, none⟩) (by simp at *; omega)).trans qx1; have qx2wa0 := (hbwa0.cell (p := ⟨b, 2, none⟩) (by simp at *; omega)).trans qx2; have rfwa0 := hrwa0.frozen)
          go_wp2_with fail
          refine hK.out _ _ ?hS9_7 (fun hHeld => ?_)
          case hS9_7 => ((try dsimp only); go_keep)
          clear hK K
          (try simp only [Act.put, zq1, zq2, zq3, zq4, zq5, zq6])
          refine tk1 (i := 7) (v := ?v9_8) ?hy9_8 ?_
          case hy9_8 => ((intro w hSw; (try dsimp only at hSw); go_simp) <;> with_reducible rfl)
          (try simp only [Act.put, zq1, zq2, zq3, zq4, zq5, zq6])
          refine tk1 (i := 8) (v := ?v9_9) ?hy9_9 ?_
          case hy9_9 => ((intro w hSw; (try dsimp only at hSw); go_simp) <;> with_reducible rfl)
          (try simp only [Act.put, zq1, zq2, zq3, zq4, zq5, zq6])
          refine tk1 (i := 9) (v := ?v9_10) ?hy9_10 ?_
          case hy9_10 => ((intro w hSw; (try dsimp only at hSw); go_simp) <;> with_reducible rfl)
          (try simp only [Act.put, zq1, zq2, zq3, zq4, zq5, zq6])
          refine tk1 (i := 10) (v := ?v9_11) ?hy9_11 ?_
          case hy9_11 => ((intro w hSw; (try dsimp only at hSw); go_simp) <;> with_reducible rfl)
          (try simp only [Act.put, zq1, zq2, zq3, zq4, zq5, zq6])
          refine tk1 (i := 11) (v := ?v9_12) ?hy9_12 ?_
          case hy9_12 => ((intro w hSw; (try dsimp only at hSw); go_simp) <;> with_reducible rfl)
          (try simp only [Act.put, zq1, zq2, zq3, zq4, zq5, zq6])
          refine wpAnyH_ready (rs := [12]) (by kernel_rfl) (by simp) ?_
          refine AllReadyH.cons rfl (fun K hK => ?_) AllReadyH.nil
          go_simp
          (go_at_call 251; refine (hS _).mono ?_; rintro e wa1 ⟨rfl, hbwa1⟩; have hpwa1 := hpwa0.later hbwa1; have hrwa1 := hrwa0.later hbwa1; have hszwa1 := hbwa1.size; have p0wa1 := (hbwa1.cell (p := ⟨g, 0, none⟩) (by simp at *; omega)).trans p0wa0; have p1wa1 := (hbwa1.cell (p := ⟨g, 1, none⟩) (by simp at *; omega)).trans p1wa0; have p2wa1 := (hbwa1.cell (p := ⟨g, 2, none⟩) (by simp at *; omega)).trans p2wa0; have p3wa1 := (hbwa1.cell (p := ⟨g, 3, none⟩) (by simp at *; omega)).trans p3wa0; have r0wa1 := (hbwa1.cell (p := ⟨w.heap.size, 0, none⟩) (by simp at *; omega)).trans r0wa0; have r1wa1 := (hbwa1.cell (p := ⟨w.heap.size, 1, none⟩) (by simp at *; omega)).trans r1wa0; have r2wa1 := (hbwa1.cell (p := ⟨w.heap.size, 2, none⟩) (by simp at *; omega)).trans r2wa0; have r3wa1 := (hbwa1.cell (p := ⟨w.heap.size, 3, none⟩) (by simp at *; omega)).trans r3wa0; have qx0wa1 := (hbwa1.cell (p := ⟨b, 0, none⟩) (by simp at *; omega)).trans qx0wa0; have qx1wa1 := (hbwa1.cell (p := ⟨b, 1, none⟩) (by simp at *; omega)).trans qx1wa0; have qx2wa1 := (hbwa1.cell (p := ⟨b, 2, none⟩) (by simp at *; omega)).trans qx2wa0; have rfwa1 := hrwa1.frozen)
          go_wp2_with fail
          refine hK.out _ _ ?hS9_13 (fun hHeld => ?_)
          case hS9_13 => ((try dsimp only); go_keep)
          clear hK K
          (try simp only [Act.put, zq1, zq2, zq3, zq4, zq5, zq6])
          refine tk1 (i := 13) (v := ?v9_14) ?hy9_14 ?_
          case hy9_14 => ((intro w hSw; (try dsimp only at hSw); go_simp) <;> with_reducible rfl)
          (try simp only [Act.put, zq1, zq2, zq3, zq4, zq5, zq6])
          refine wpAnyH_ready (rs := [14]) (by kernel_rfl) (by simp) ?_
          refine AllReadyH.cons rfl (fun K hK => ?_) AllReadyH.nil
          go_simp
          refine hK.out _ _ ?hS9_15 (fun hHeld => ?_)
          case hS9_15 => ((try dsimp only); go_keep)
          clear hK K
          (try simp only [Act.put, zq1, zq2, zq3, zq4, zq5, zq6])
          refine tk1 (i := 15) (v := ?v9_16) ?hy9_16 ?_
          case hy9_16 => ((intro w hSw; (try dsimp only at hSw); go_simp) <;> with_reducible rfl)
          (try simp only [Act.put, zq1, zq2, zq3, zq4, zq5, zq6])
          refine wpAnyH_done (by kernel_rfl) ?_ _
          go_wp2
          refine bodyPost_ret (v := .tuple #[.agg #[.string x0, .string c2, .string c3, .string x2], .bool false]) (by simp [results, Tryz.results252, go_sem, *]) rfl ⟨⟨_, _, _, _, ret_p (by simp [hz2, hz3])⟩, ?_⟩
          exact ((((((hb3.drew.trans (hbwa0.mono (by simp at *; omega))).trans (hbwa1.mono (by simp at *; omega)))).setCell (Nat.le_refl _) _).setCell (Nat.le_refl _) _).setCell (Nat.le_refl _) _).setCell (Nat.le_refl _) _
        · go_wp2
          refine wp_region_held_drew (S := (fun w' => w'.cell? ⟨g, 0, none⟩ = some (.string x0) ∧ w'.cell? ⟨g, 1, none⟩ = some (.string c2) ∧ w'.cell? ⟨g, 2, none⟩ = some (.string c3) ∧ w'.cell? ⟨g, 3, none⟩ = some (.string x2) ∧ w'.cell? ⟨b, 0, none⟩ = some (.string x0) ∧ w'.cell? ⟨b, 1, none⟩ = some (.string x1) ∧ w'.cell? ⟨b, 2, none⟩ = some (.string x2))) (by kernel_rfl) ?hS10 (fun hHeld => ?_)
          case hS10 => ((try dsimp only); simp [*])
          refine tk1 (i := 0) (v := ?v10_1) ?hy10_1 ?_
          case hy10_1 => ((intro w hSw; (try dsimp only at hSw); go_simp) <;> with_reducible rfl)
          (try simp only [Act.put, zq1, zq2, zq3, zq4, zq5, zq6])
          refine tk1 (i := 1) (v := ?v10_2) ?hy10_2 ?_
          case hy10_2 => ((intro w hSw; (try dsimp only at hSw); go_simp) <;> with_reducible rfl)
          (try simp only [Act.put, zq1, zq2, zq3, zq4, zq5, zq6])
          refine tk1 (i := 2) (v := ?v10_3) ?hy10_3 ?_
          case hy10_3 => ((intro w hSw; (try dsimp only at hSw); go_simp) <;> with_reducible rfl)
          (try simp only [Act.put, zq1, zq2, zq3, zq4, zq5, zq6])
          refine tk1 (i := 3) (v := ?v10_4) ?hy10_4 ?_
          case hy10_4 => ((intro w hSw; (try dsimp only at hSw); go_simp) <;> with_reducible rfl)
          (try simp only [Act.put, zq1, zq2, zq3, zq4, zq5, zq6])
          refine tk1 (i := 4) (v := ?v10_5) ?hy10_5 ?_
          case hy10_5 => ((intro w hSw; (try dsimp only at hSw); go_simp) <;> with_reducible rfl)
          (try simp only [Act.put, zq1, zq2, zq3, zq4, zq5, zq6])
          refine tk1 (i := 5) (v := ?v10_6) ?hy10_6 ?_
          case hy10_6 => ((intro w hSw; (try dsimp only at hSw); go_simp) <;> with_reducible rfl)
          (try simp only [Act.put, zq1, zq2, zq3, zq4, zq5, zq6])
          refine wpAnyH_ready (rs := [6]) (by kernel_rfl) (by simp) ?_
          refine AllReadyH.cons rfl (fun K hK => ?_) AllReadyH.nil
          go_simp
          (go_at_call 249; refine (hA _).mono ?_; rintro e wa0 ⟨rfl, hbwa0⟩; have hpwa0 := hp3.drew.later hbwa0; have hrwa0 := hr3.drew.later hbwa0; have hszwa0 := hbwa0.size; have p0wa0 := (hbwa0.cell (p := ⟨g, 0, none⟩) (by simp at *; omega)).trans p0; have p1wa0 := (hbwa0.cell (p := ⟨g, 1, none⟩) (by simp at *; omega)).trans p1; have p2wa0 := (hbwa0.cell (p := ⟨g, 2, none⟩) (by simp at *; omega)).trans p2; have p3wa0 := (hbwa0.cell (p := ⟨g, 3, none⟩) (by simp at *; omega)).trans p3; have r0wa0 := (hbwa0.cell (p := ⟨w.heap.size, 0, none⟩) (by simp at *; omega)).trans r0; have r1wa0 := (hbwa0.cell (p := ⟨w.heap.size, 1, none⟩) (by simp at *; omega)).trans r1; have r2wa0 := (hbwa0.cell (p := ⟨w.heap.size, 2, none⟩) (by simp at *; omega)).trans r2; have r3wa0 := (hbwa0.cell (p := ⟨w.heap.size, 3, none⟩) (by simp at *; omega)).trans r3; have qx0wa0 := (hbwa0.cell (p := ⟨b, 0, none⟩) (by simp at *; omega)).trans qx0; have qx1wa0 := (hbwa0.cell (p := ⟨b, 1, none⟩) (by simp at *; omega)).trans qx1; have qx2wa0 := (hbwa0.cell (p := ⟨b, 2, none⟩) (by simp at *; omega)).trans qx2; have rfwa0 := hrwa0.frozen)
          go_wp2_with fail
          refine hK.out _ _ ?hS10_7 (fun hHeld => ?_)
          case hS10_7 => ((try dsimp only); go_keep)
          clear hK K
          (try simp only [Act.put, zq1, zq2, zq3, zq4, zq5, zq6])
          refine tk1 (i := 7) (v := ?v10_8) ?hy10_8 ?_
          case hy10_8 => ((intro w hSw; (try dsimp only at hSw); go_simp) <;> with_reducible rfl)
          (try simp only [Act.put, zq1, zq2, zq3, zq4, zq5, zq6])
          refine tk1 (i := 8) (v := ?v10_9) ?hy10_9 ?_
          case hy10_9 => ((intro w hSw; (try dsimp only at hSw); go_simp) <;> with_reducible rfl)
          (try simp only [Act.put, zq1, zq2, zq3, zq4, zq5, zq6])
          refine tk1 (i := 9) (v := ?v10_10) ?hy10_10 ?_
          case hy10_10 => ((intro w hSw; (try dsimp only at hSw); go_simp) <;> with_reducible rfl)
          (try simp only [Act.put, zq1, zq2, zq3, zq4, zq5, zq6])
          refine tk1 (i := 10) (v := ?v10_11) ?hy10_11 ?_
          case hy10_11 => ((intro w hSw; (try dsimp only at hSw); go_simp) <;> with_reducible rfl)
          (try simp only [Act.put, zq1, zq2, zq3, zq4, zq5, zq6])
          refine tk1 (i := 11) (v := ?v10_12) ?hy10_12 ?_
          case hy10_12 => ((intro w hSw; (try dsimp only at hSw); go_simp) <;> with_reducible rfl)
          (try simp only [Act.put, zq1, zq2, zq3, zq4, zq5, zq6])
          refine wpAnyH_ready (rs := [12]) (by kernel_rfl) (by simp) ?_
          refine AllReadyH.cons rfl (fun K hK => ?_) AllReadyH.nil
          go_simp
          (go_at_call 251; refine (hS _).mono ?_; rintro e wa1 ⟨rfl, hbwa1⟩; have hpwa1 := hpwa0.later hbwa1; have hrwa1 := hrwa0.later hbwa1; have hszwa1 := hbwa1.size; have p0wa1 := (hbwa1.cell (p := ⟨g, 0, none⟩) (by simp at *; omega)).trans p0wa0; have p1wa1 := (hbwa1.cell (p := ⟨g, 1, none⟩) (by simp at *; omega)).trans p1wa0; have p2wa1 := (hbwa1.cell (p := ⟨g, 2, none⟩) (by simp at *; omega)).trans p2wa0; have p3wa1 := (hbwa1.cell (p := ⟨g, 3, none⟩) (by simp at *; omega)).trans p3wa0; have r0wa1 := (hbwa1.cell (p := ⟨w.heap.size, 0, none⟩) (by simp at *; omega)).trans r0wa0; have r1wa1 := (hbwa1.cell (p := ⟨w.heap.size, 1, none⟩) (by simp at *; omega)).trans r1wa0; have r2wa1 := (hbwa1.cell (p := ⟨w.heap.size, 2, none⟩) (by simp at *; omega)).trans r2wa0; have r3wa1 := (hbwa1.cell (p := ⟨w.heap.size, 3, none⟩) (by simp at *; omega)).trans r3wa0; have qx0wa1 := (hbwa1.cell (p := ⟨b, 0, none⟩) (by simp at *; omega)).trans qx0wa0; have qx1wa1 := (hbwa1.cell (p := ⟨b, 1, none⟩) (by simp at *; omega)).trans qx1wa0; have qx2wa1 := (hbwa1.cell (p := ⟨b, 2, none⟩) (by simp at *; omega)).trans qx2wa0; have rfwa1 := hrwa1.frozen)
          go_wp2_with fail
          refine hK.out _ _ ?hS10_13 (fun hHeld => ?_)
          case hS10_13 => ((try dsimp only); go_keep)
          clear hK K
          (try simp only [Act.put, zq1, zq2, zq3, zq4, zq5, zq6])
          refine tk1 (i := 13) (v := ?v10_14) ?hy10_14 ?_
          case hy10_14 => ((intro w hSw; (try dsimp only at hSw); go_simp) <;> with_reducible rfl)
          (try simp only [Act.put, zq1, zq2, zq3, zq4, zq5, zq6])
          refine wpAnyH_ready (rs := [14]) (by kernel_rfl) (by simp) ?_
          refine AllReadyH.cons rfl (fun K hK => ?_) AllReadyH.nil
          go_simp
          refine hK.out _ _ ?hS10_15 (fun hHeld => ?_)
          case hS10_15 => ((try dsimp only); go_keep)
          clear hK K
          (try simp only [Act.put, zq1, zq2, zq3, zq4, zq5, zq6])
          refine tk1 (i := 15) (v := ?v10_16) ?hy10_16 ?_
          case hy10_16 => ((intro w hSw; (try dsimp only at hSw); go_simp) <;> with_reducible rfl)
          (try simp only [Act.put, zq1, zq2, zq3, zq4, zq5, zq6])
          refine wpAnyH_done (by kernel_rfl) ?_ _
          go_wp2
          refine bodyPost_ret (v := .tuple #[.agg #[.string x0, .string c2, .string c3, .string x2], .bool true]) (by simp [results, Tryz.results252, go_sem, *]) rfl ⟨⟨_, _, _, _, ret_p (by simp [hz2, hz3])⟩, ?_⟩
          exact ((((((hb3.drew.trans (hbwa0.mono (by simp at *; omega))).trans (hbwa1.mono (by simp at *; omega)))).setCell (Nat.le_refl _) _).setCell (Nat.le_refl _) _).setCell (Nat.le_refl _) _).setCell (Nat.le_refl _) _

end Go.Proofs.YtlamogpdkmbeoaaGreatDoor
