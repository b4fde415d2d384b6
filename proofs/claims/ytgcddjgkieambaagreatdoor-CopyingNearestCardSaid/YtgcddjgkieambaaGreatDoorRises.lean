/- CopyingRises: the walk of the statement's function. -/
import Derived.Test.YtgcddjgkieambaaGreatDoorRisesA
import Derived.Test.YtgcddjgkieambaaGreatDoorAwake
set_option linter.unusedVariables false
set_option linter.unusedSimpArgs false
namespace Go.Proofs.YtgcddjgkieambaaGreatDoor
open Go.RowKit

theorem blk12 {w : World} {g : Nat} {t : TypeId} {c0 c1 c2 c3 c4 c5 c6 c7 c8 c9 c10 c11 : Value} (h : Blk w g t #[c0, c1, c2, c3, c4, c5, c6, c7, c8, c9, c10, c11]) :
    w.cell? ⟨g, 0, none⟩ = some c0 ∧ w.cell? ⟨g, 1, none⟩ = some c1 ∧ w.cell? ⟨g, 2, none⟩ = some c2 ∧ w.cell? ⟨g, 3, none⟩ = some c3 ∧ w.cell? ⟨g, 4, none⟩ = some c4 ∧ w.cell? ⟨g, 5, none⟩ = some c5 ∧ w.cell? ⟨g, 6, none⟩ = some c6 ∧
      w.cell? ⟨g, 7, none⟩ = some c7 ∧ w.cell? ⟨g, 8, none⟩ = some c8 ∧ w.cell? ⟨g, 9, none⟩ = some c9 ∧ w.cell? ⟨g, 10, none⟩ = some c10 ∧ w.cell? ⟨g, 11, none⟩ = some c11 :=
  ⟨h.cell 0, h.cell 1, h.cell 2, h.cell 3, h.cell 4, h.cell 5, h.cell 6, h.cell 7, h.cell 8, h.cell 9, h.cell 10, h.cell 11⟩

theorem below_of_drew {w w' : World} {q : Nat} (h : w' = w.drewN q) : Below w.heap.size w w' := h ▸ below_drewN0 q

/-- The cells of an Ask in which a walk looks at the numbers alone. -/
abbrev askV (m : Int) (x y code : ByteArray) (a b most : Int) (v7 v8 v9 v10 v11 : Value) : Array Value := #[.int .i64 m, .string x, .string y, .string code, .int .i64 a, .int .i64 b, .int .i64 most, v7, v8, v9, v10, v11]

set_option maxRecDepth 100000 in
set_option maxHeartbeats 4000000 in
theorem Rises_long (m : Int) (x y code : ByteArray) (a b most : Int) (v7 v8 v9 : Value) (A B : Option Addr) (c d : Nat) (l r : List Int) (w : World) (hP : Pow w) (hl : 100 < l.length ∨ 200 < r.length) :
    Calls Tryz.prog 8 #[.agg (askV m x y code a b most v7 v8 v9 (.slice A l.length c) (.slice B r.length d))] w fun e w' => e = .returned (.bool true) ∧ Below w.heap.size w w' := by
  have HB0 := Lib.hid (Blk.new w 40 (askV m x y code a b most v7 v8 v9 (.slice A l.length c) (.slice B r.length d)))
  have HA := Lib.hid (fun o => awake_any (w.alloc o) (hP.later (below_alloc0 _)))
  clear hP
  by_cases h1 : 100 < l.length
  · have d1 : decide ((100 : Int) < (l.length : Int)) = true := by simp; omega
    clear hl h1
    go_enter Tryz.func8, Tryz.ntmps8
    go_wp2_with (go_at_call 18; refine (HA.out _).mono ?_; rintro e w1 ⟨rfl, hb1⟩; have hB := HB0.out.later hb1; have hbt := below_trans' (below_alloc0 _) hb1; obtain ⟨_, _, _, _, _, _, _, _, _, _, k10, k11⟩ := blk12 hB)
    go_ret
    exact ⟨rfl, hbt⟩
  · have d1 : decide ((100 : Int) < (l.length : Int)) = false := by simp; omega
    have d2 : decide ((200 : Int) < (r.length : Int)) = true := by simp; omega
    clear hl h1
    go_enter Tryz.func8, Tryz.ntmps8
    go_wp2_with (go_at_call 18; refine (HA.out _).mono ?_; rintro e w1 ⟨rfl, hb1⟩; have hB := HB0.out.later hb1; have hbt := below_trans' (below_alloc0 _) hb1; obtain ⟨_, _, _, _, _, _, _, _, _, _, k10, k11⟩ := blk12 hB)
    go_ret
    exact ⟨rfl, hbt⟩

set_option maxRecDepth 100000 in
set_option maxHeartbeats 4000000 in
theorem Rises_no (m : Int) (x y code : ByteArray) (a b most : Int) (v7 v8 v9 : Value) (A B : Option Addr) (c d : Nat) (l r : List Int) (w : World) (hP : Pow w) (hl : l.length ≤ 100 ∧ r.length ≤ 200) (hN : Nums w A l) (he : serErr l ≠ 0) :
    Calls Tryz.prog 8 #[.agg (askV m x y code a b most v7 v8 v9 (.slice A l.length c) (.slice B r.length d))] w fun e w' => e = .returned (.bool true) ∧ Below w.heap.size w w' := by
  have HB0 := Lib.hid (Blk.new w 40 (askV m x y code a b most v7 v8 v9 (.slice A l.length c) (.slice B r.length d)))
  have HA := Lib.hid (fun o => awake_any (w.alloc o) (hP.later (below_alloc0 _)))
  have HR := Lib.hid (fun W (hb : Below w.heap.size w W) => Rise_no A c l W (hN.later hb) he)
  have HC := Lib.hid (fun W (hb : Below w.heap.size w W) => Chain_no A c l W (hN.later hb) he)
  have d1 : decide ((100 : Int) < (l.length : Int)) = false := by simp; omega
  have d2 : decide ((200 : Int) < (r.length : Int)) = false := by simp; omega
  obtain ⟨z, hz⟩ : ∃ z, z = serErr l := ⟨_, rfl⟩
  rw [← hz] at HR HC he
  have d3 : (z != 0) = true := by simpa using he
  clear hP hl hN he hz
  go_enter Tryz.func8, Tryz.ntmps8
  go_wp2_with (first
    | (go_at_call 18; refine (HA.out _).mono ?_; rintro e w1 ⟨rfl, hb1⟩; have hB := HB0.out.later hb1; have hbt := below_trans' (below_alloc0 _) hb1; obtain ⟨_, _, _, _, _, _, _, _, _, _, k10, k11⟩ := blk12 hB)
    | (go_at_call 30; refine (HR.out _ hbt).mono ?_; rintro e w2 ⟨rfl, hb2⟩; have hB := hB.later hb2; have hbt := below_trans' hbt hb2; obtain ⟨_, _, _, _, _, _, _, _, _, _, k10, k11⟩ := blk12 hB)
    | (go_at_call 28; refine (HC.out _ hbt).mono ?_; rintro e w2 ⟨rfl, hb2⟩; have hB := hB.later hb2; have hbt := below_trans' hbt hb2; obtain ⟨_, _, _, _, _, _, _, _, _, _, k10, k11⟩ := blk12 hB))
  go_ret
  exact ⟨rfl, hbt⟩

set_option maxRecDepth 100000 in
set_option maxHeartbeats 4000000 in
theorem Rises_ok (m : Int) (x y code : ByteArray) (a b most : Int) (v7 v8 v9 : Value) (A B : Option Addr) (c d : Nat) (l r : List Int) (w : World) (hP : Pow w) (hl : l.length ≤ 100 ∧ r.length ≤ 200) (hN : Nums w A l) (hM : Nums w B r) (he : serErr l = 0) :
    Calls Tryz.prog 8 #[.agg (askV m x y code a b most v7 v8 v9 (.slice A l.length c) (.slice B r.length d))] w fun e w' => e = .returned (.bool true) ∧ Below w.heap.size w w' := by
  have HB0 := Lib.hid (Blk.new w 40 (askV m x y code a b most v7 v8 v9 (.slice A l.length c) (.slice B r.length d)))
  have HA := Lib.hid (fun o => awake_any (w.alloc o) (hP.later (below_alloc0 _)))
  have HR := Lib.hid (fun W (hb : Below w.heap.size w W) => Rise_ok A c l W (hN.later hb) he)
  have HC := Lib.hid (fun W (hb : Below w.heap.size w W) => Chain_ok A c l W (hN.later hb) he)
  have HK1 := Lib.hid (fun (R : Option Addr) (cr : Nat) W (hb : Below w.heap.size w W) (h : Nums W R (Cm.rise l (Cm.chain l))) => ckRise_any A R c cr l (Cm.rise l (Cm.chain l)) W (hN.later hb) h)
  have HK2 := Lib.hid (fun W (hb : Below w.heap.size w W) => ckRise_any A B c d l r W (hN.later hb) (hM.later hb))
  have HRi := Lib.hid (fun (R : Option Addr) (cr : Nat) W (h : Nums W R (Cm.rise l (Cm.chain l))) => rising_any R cr (Cm.rise l (Cm.chain l)) W h (by rw [Cm.rise_length]; omega))
  obtain ⟨o1, o2⟩ := rises_own he
  have o3 : risB (Cm.rise l (Cm.chain l)) = true := (risB_rising _).2 (Cm.rise_rising (serErr_len he))
  have hlen : (Cm.rise l (Cm.chain l)).length = l.length := Cm.rise_length _
  have hkeep := fun k hk => Cm.rise_keeps (l := l) k hk
  have hleast := fun h : ckE l r = 0 => rises_least h
  have hcl := Cm.chain_length (l := l)
  have hbe := Cm.best_le (l := l)
  unfold CkOut at HK1 HK2
  rw [o1, o2] at HK1
  rw [o3] at HRi
  generalize Cm.chain l = ks at HR HC HK1 HRi hlen hkeep hleast hcl
  generalize Cm.rise l ks = rs at HR HK1 HRi hlen hkeep
  rw [hlen] at HK1 HRi
  obtain ⟨ce, hce⟩ : ∃ z, z = ckE l r := ⟨_, rfl⟩
  obtain ⟨cn, hcn⟩ : ∃ z, z = ckN l r := ⟨_, rfl⟩
  rw [← hce, ← hcn] at HK2
  rw [← hce, ← hcn] at hleast
  have d1 : decide ((100 : Int) < (l.length : Int)) = false := by simp; omega
  have d2 : decide ((200 : Int) < (r.length : Int)) = false := by simp; omega
  have q1 : IntKind.i64.wrap ((l.length : Int) - (ks.length : Int)) = (l.length : Int) - (ks.length : Int) := IntWalk.i64_in _ (by omega)
  have HLen := Lib.hid hlen
  have HKeep := Lib.hid hkeep
  have HLeast := Lib.hid hleast
  have hkl : ks.length ≤ 100 := by omega
  have Hl := Lib.hid hl
  have hN6 := Lib.hid (fun W (hb : Below w.heap.size w W) => hN.later hb)
  clear hP hl hN hM he hce hcn o1 o2 o3 hlen hkeep hleast hcl hbe
  go_enter Tryz.func8, Tryz.ntmps8
  go_wp2_with (first
    | (go_at_call 18; refine (HA.out _).mono ?_; rintro e w1 ⟨rfl, hb1⟩; have hB := HB0.out.later hb1; have hbt := below_trans' (below_alloc0 _) hb1; obtain ⟨_, _, _, _, _, _, _, _, _, _, k10, k11⟩ := blk12 hB)
    | (go_at_call 30; refine (HR.out _ hbt).mono ?_; rintro e w2 ⟨v1, rfl, hO1, hb2⟩; obtain ⟨R1, cr1, rfl, hR1⟩ := hO1.form; rw [HLen.out] ; have hB := hB.later hb2; have hbt := below_trans' hbt hb2; obtain ⟨_, _, _, _, _, _, _, _, _, _, k10, k11⟩ := blk12 hB)
    | (go_at_call 28; refine (HC.out _ hbt).mono ?_; rintro e w3 ⟨v2, rfl, hO2, hb3⟩; obtain ⟨R2, cr2, rfl, hR2⟩ := hO2.form; rw [List.length_map]; have hB := hB.later hb3; have hbt := below_trans' hbt hb3; have hR1 := hR1.later hb3; obtain ⟨_, _, _, _, _, _, _, _, _, _, k10, k11⟩ := blk12 hB)
    | (go_at_call 32; ((with_reducible refine (HK1.out R1 cr1 _ hbt hR1).mono ?_); rintro e w4 ⟨rfl, q4, hw4⟩; have hb4 := below_of_drew hw4; clear hw4; have hB := hB.later hb4; have hbt := below_trans' hbt hb4; have hR1 := hR1.later hb4; have hR2 := hR2.later hb4; obtain ⟨_, _, _, _, _, _, _, _, _, _, k10, k11⟩ := blk12 hB))
    | (go_at_call 32; ((with_reducible refine (HK2.out _ hbt).mono ?_); rintro e w5 ⟨rfl, q5, hw5⟩; have hb5 := below_of_drew hw5; clear hw5; have hB := hB.later hb5; have hbt := below_trans' hbt hb5; have hR1 := hR1.later hb5; have hR2 := hR2.later hb5; obtain ⟨_, _, _, _, _, _, _, _, _, _, k10, k11⟩ := blk12 hB))
    | (go_at_call 38; refine (HRi.out R1 cr1 _ hR1).mono ?_; rintro e w6 ⟨rfl, q6, hw6⟩; have hb6 := below_of_drew hw6; clear hw6; have hB := hB.later hb6; have hbt := below_trans' hbt hb6; have hR1 := hR1.later hb6; have hR2 := hR2.later hb6; obtain ⟨_, _, _, _, _, _, _, _, _, _, k10, k11⟩ := blk12 hB))
  have HB := Lib.hid hB
  have Hbt := Lib.hid hbt
  have H1 := Lib.hid hR1
  have H2 := Lib.hid hR2
  have HN6 := Lib.hid (hN6.out _ hbt)
  clear hR1 hR2 hbt
  go_loopw [12] (fun v wx => ∃ k q : Nat, k ≤ ks.length ∧ v = .int .i64 k ∧ wx = w6.drewN q) (fun v _ => ks.length - (intOf v).toNat)
  case atStart => exact ⟨0, 0, by omega, rfl, rfl⟩
  case round =>
    obtain ⟨k, q, hk, rfl, rfl⟩ := hrel
    by_cases hlt : k < ks.length
    · have e1 : decide ((k : Int) < (ks.length : Int)) = true := by simp; omega
      have e2 : (k : Int) < (ks.length : Int) := by omega
      have e3 : (0 : Int) ≤ (k : Int) := by omega
      have p1 : IntKind.i64.wrap ((k : Int) + 1) = (k : Int) + 1 := IntWalk.i64_in _ (by omega)
      obtain ⟨a2, rfl, _, c2⟩ := H2.out k (by rw [List.length_map]; exact hlt)
      obtain ⟨y, hy⟩ : ∃ y, y = ks.getD k 0 := ⟨_, rfl⟩
      have hin : y ∈ ks := by rw [hy, getD_get _ _ hlt]; exact List.getElem_mem _
      have hm : (ks.map fun (k : Nat) => (k : Int)).getD k 0 = (y : Int) := by
        rw [hy, getD_get _ _ (by rw [List.length_map]; exact hlt), getD_get _ _ hlt, List.getElem_map]
      rw [hm] at c2
      obtain ⟨hyl, hye⟩ := HKeep.out y hin
      obtain ⟨a1, rfl, _, c1⟩ := H1.out y (by rw [HLen.out]; exact hyl)
      obtain ⟨a3, rfl, _, c3⟩ := HN6.out y hyl
      rw [hye] at c1
      obtain ⟨z, hz⟩ : ∃ z, z = l.getD y 0 := ⟨_, rfl⟩
      rw [← hz] at c1 c3
      clear hy hin hm hye hz
      have f1 : decide ((y : Int) < 0) = false := by simp
      have f2 : decide ((l.length : Int) ≤ (y : Int)) = false := by simp; omega
      have f2' : decide ((y : Int) ≥ (l.length : Int)) = false := by simp; omega
      have f3 : (0 : Int) ≤ (y : Int) := by omega
      have f4 : (y : Int) < (l.length : Int) := by omega
      go_wp2
      go_quiet (fail)
      go_wp2
      go_roundw
      case rel => exact ⟨k + 1, q + nq, by omega, by go_num, by first | rfl | exact drewN_two w6 q nq⟩
      case measure => simp [intOf]; omega
    · obtain rfl : k = ks.length := by omega
      have e1 : decide ((ks.length : Int) < (ks.length : Int)) = false := by simp
      have Hq := Lib.hid (below_trans' Hbt.out (below_drewN0 q))
      by_cases hce : ce = 0
      · have g1 : (ce != 0) = false := by simpa using hce
        have g2 := HLeast.out hce
        have g3 : decide ((l.length : Int) - (ks.length : Int) ≤ cn) = true := by simpa using g2
        have g4 : decide (cn ≥ (l.length : Int) - (ks.length : Int)) = true := by simpa using g2
        clear g2 hce
        go_wp2
        go_ret
        exact ⟨rfl, Hq.out⟩
      · have g1 : (ce != 0) = true := by simpa using hce
        clear hce
        go_wp2
        go_ret
        exact ⟨rfl, Hq.out⟩

theorem Rises_any (m : Int) (x y code : ByteArray) (a b most : Int) (v7 v8 v9 : Value) (A B : Option Addr) (c d : Nat) (l r : List Int) (w : World) (hP : Pow w) (hN : Nums w A l) (hM : Nums w B r) :
    Calls Tryz.prog 8 #[.agg (askV m x y code a b most v7 v8 v9 (.slice A l.length c) (.slice B r.length d))] w fun e w' => e = .returned (.bool true) ∧ Below w.heap.size w w' := by
  by_cases hl : l.length ≤ 100 ∧ r.length ≤ 200
  · by_cases he : serErr l = 0
    · exact Rises_ok m x y code a b most v7 v8 v9 A B c d l r w hP hl hN hM he
    · exact Rises_no m x y code a b most v7 v8 v9 A B c d l r w hP hl hN he
  · exact Rises_long m x y code a b most v7 v8 v9 A B c d l r w hP (by omega)
end Go.Proofs.YtgcddjgkieambaaGreatDoor
