/- CopyingBetter: the walk of the statement's function. -/
import Derived.Test.YtgcddjgkieambaaGreatDoorNearE
set_option linter.unusedVariables false
set_option linter.unusedSimpArgs false
namespace Go.Proofs.YtgcddjgkieambaaGreatDoor
open Go.RowKit Go.Maps

set_option maxRecDepth 100000 in
set_option maxHeartbeats 4000000 in
theorem Better_out (m : Int) (x y code : ByteArray) (a b most : Int) (A : Option Addr) (n c : Nat) (v8 v9 v10 v11 : Value) (w : World) (hP : Pow w) (hl : ¬ (x.size ≤ 200 ∧ n ≤ 40)) :
    Calls Tryz.prog 15 #[.agg (askV m x y code a b most (.slice A n c) v8 v9 v10 v11)] w fun e w' => e = .returned (.bool true) ∧ Below w.heap.size w w' := by
  have HB0 := Lib.hid (Blk.new w 40 (askV m x y code a b most (.slice A n c) v8 v9 v10 v11))
  have HA := Lib.hid (fun o => awake_any (w.alloc o) (hP.later (below_alloc0 _)))
  clear hP
  by_cases h1 : x.size ≤ 200
  · have d1 : decide ((x.size : Int) ≤ 200) = true := by simp; omega
    have d2 : decide ((n : Int) > 40) = true := by simp; omega
    have d2' : decide (40 < (n : Int)) = true := by simp; omega
    clear hl h1
    go_enter Tryz.func15, Tryz.ntmps15
    go_wp2_with (first
      | (go_at_call 18; refine (HA.out _).mono ?_; rintro e w1 ⟨rfl, hb1⟩; have hB := HB0.out.later hb1; have hbt := below_trans' (below_alloc0 _) hb1; obtain ⟨k0, k1, k2, k3, k4, k5, k6, k7, _⟩ := blk12 hB)
      | (go_at_call 19; refine (brief_any _ _).mono ?_; rintro e w2 ⟨rfl, rfl⟩))
    go_ret
    exact ⟨rfl, hbt⟩
  · have d1 : decide ((x.size : Int) ≤ 200) = false := by simp; omega
    clear hl h1
    go_enter Tryz.func15, Tryz.ntmps15
    go_wp2_with (first
      | (go_at_call 18; refine (HA.out _).mono ?_; rintro e w1 ⟨rfl, hb1⟩; have hB := HB0.out.later hb1; have hbt := below_trans' (below_alloc0 _) hb1; obtain ⟨k0, k1, k2, k3, k4, k5, k6, k7, _⟩ := blk12 hB)
      | (go_at_call 19; refine (brief_any _ _).mono ?_; rintro e w2 ⟨rfl, rfl⟩))
    go_ret
    exact ⟨rfl, hbt⟩

set_option maxRecDepth 100000 in
set_option maxHeartbeats 4000000 in
theorem Better_no (m : Int) (x y code : ByteArray) (a b most : Int) (A : Option Addr) (L : List ByteArray) (c : Nat) (v8 v9 v10 v11 : Value) (w : World) (hP : Pow w) (hS : StrsP w A L) (hx : x.size ≤ 200) (hn : L.length ≤ 40) (he : nrE m x L ≠ 0) :
    Calls Tryz.prog 15 #[.agg (askV m x y code a b most (.slice A L.length c) v8 v9 v10 v11)] w fun e w' => e = .returned (.bool true) ∧ Below w.heap.size w w' := by
  have HB0 := Lib.hid (Blk.new w 40 (askV m x y code a b most (.slice A L.length c) v8 v9 v10 v11))
  have HA := Lib.hid (fun o => awake_any (w.alloc o) (hP.later (below_alloc0 _)))
  have HN : Hid (∀ W, Below w.heap.size w W → Calls Tryz.prog 56 #[.int .i64 m, .string x, .slice A L.length c, .int .i64 most] W fun e w' => e = .returned (.tuple #[.slice none 0 0, .int .i64 (nrE m x L)]) ∧ Below W.heap.size W w') :=
    Lib.hid fun W hb => (Nearest_any m x L most A c W (hS.later hb) (.inl hn)).mono fun e w' ⟨h1, h2⟩ => ⟨by
      rcases h1 with ⟨h, _⟩ | ⟨_, h⟩
      · exact absurd h he
      · exact h, h2⟩
  have d1 : decide ((x.size : Int) ≤ 200) = true := by simp; omega
  have d2 : decide ((L.length : Int) > 40) = false := by simp; omega
  have d2' : decide (40 < (L.length : Int)) = false := by simp; omega
  have n2 : ¬ 40 < L.length := by omega
  generalize nrE m x L = er at HN he
  have d0 : (er != 0) = true := by simpa using he
  generalize L.length = n at HB0 HN d2 d2' n2 ⊢
  clear hP hS hx hn he
  go_enter Tryz.func15, Tryz.ntmps15
  go_wp2_with (first
    | (go_at_call 18; refine (HA.out _).mono ?_; rintro e w1 ⟨rfl, hb1⟩; have hB := HB0.out.later hb1; have hbt := below_trans' (below_alloc0 _) hb1; obtain ⟨k0, k1, k2, k3, k4, k5, k6, k7, _⟩ := blk12 hB)
    | (go_at_call 19; refine (brief_any _ _).mono ?_; rintro e w2 ⟨rfl, rfl⟩)
    | (go_at_call 56; refine (HN.out _ hbt).mono ?_; rintro e w3 ⟨rfl, hb3⟩; have hB := hB.later hb3; have hbt := below_trans' hbt hb3; obtain ⟨k0, k1, k2, k3, k4, k5, k6, k7, _⟩ := blk12 hB))
  go_ret
  exact ⟨rfl, hbt⟩

set_option maxRecDepth 100000 in
set_option maxHeartbeats 8000000 in
theorem Better_ok (m : Int) (x y code : ByteArray) (a b most : Int) (A : Option Addr) (L : List ByteArray) (c : Nat) (v8 v9 v10 v11 : Value) (w : World) (hP : Pow w) (hS : StrsP w A L) (hx : x.size ≤ 200) (hn : L.length ≤ 40) (he : nrE m x L = 0) :
    Calls Tryz.prog 15 #[.agg (askV m x y code a b most (.slice A L.length c) v8 v9 v10 v11)] w fun e w' => e = .returned (.bool true) ∧ Below w.heap.size w w' := by
  have HB0 := Lib.hid (Blk.new w 40 (askV m x y code a b most (.slice A L.length c) v8 v9 v10 v11))
  have HA := Lib.hid (fun o => awake_any (w.alloc o) (hP.later (below_alloc0 _)))
  have HN : Hid (∀ W, Below w.heap.size w W → Calls Tryz.prog 56 #[.int .i64 m, .string x, .slice A L.length c, .int .i64 most] W fun e w' => (∃ A' c' r, e = .returned (.tuple #[.slice A' r.length c', .int .i64 0]) ∧ Nums w' A' r ∧ Near (nkey m x L) most L.length r) ∧ Below W.heap.size W w') :=
    Lib.hid fun W hb => (Nearest_any m x L most A c W (hS.later hb) (.inl hn)).mono fun e w' ⟨h1, h2⟩ => ⟨by
      rcases h1 with ⟨_, h⟩ | ⟨h, _⟩
      · exact h
      · exact absurd he h, h2⟩
  have HCO := Lib.hid (fun (j : Nat) (hj : j < L.length) W => Cost_ok m (L.getD j ByteArray.empty) x W (nrE_err he j hj))
  have hmk := fun W => run_mk (P := Tryz.prog) 38 3 _ _ Tryz.underlying38 info3 L.length (L.length : Int) rfl (by omega) (by omega) W
  have HMK := Lib.hid (fun W => RowA.made W 3 (.int .i64 0) L.length rfl)
  have HS := Lib.hid hS
  have d1 : decide ((x.size : Int) ≤ 200) = true := by simp; omega
  have d2 : decide ((L.length : Int) > 40) = false := by simp; omega
  have d2' : decide (40 < (L.length : Int)) = false := by simp; omega
  have n2 : ¬ 40 < L.length := by omega
  clear hP hS hx he
  go_enter Tryz.func15, Tryz.ntmps15
  go_wp2_with (first
    | (go_at_call 18; refine (HA.out _).mono ?_; rintro e w1 ⟨rfl, hb1⟩; have hB := HB0.out.later hb1; have hbt := below_trans' (below_alloc0 _) hb1; obtain ⟨k0, k1, k2, k3, k4, k5, k6, k7, _⟩ := blk12 hB)
    | (go_at_call 19; refine (brief_any _ _).mono ?_; rintro e w2 ⟨rfl, rfl⟩)
    | (go_at_call 56; refine (HN.out _ hbt).mono ?_; rintro e w3 ⟨⟨A', c', r, rfl, hNu, hNe⟩, hb3⟩; have hB := hB.later hb3; have hbt := below_trans' hbt hb3; obtain ⟨k0, k1, k2, k3, k4, k5, k6, k7, _⟩ := blk12 hB))
  have HNE := Lib.hid hNe
  have HNU := Lib.hid hNu
  have HBX := Lib.hid hB
  have HBT := Lib.hid hbt
  have HSX := Lib.hid (HS.out.later hbt)
  have hrl : r.length ≤ L.length := hNe.length
  have hM0 := HMK.out w3
  obtain ⟨W, hW⟩ : ∃ W, W = w3.alloc (Obj.cells (madeCells #[Value.int IntKind.i64 0] L.length) 3) := ⟨_, rfl⟩
  have hM1 : RowA W w3.heap.size 3 L.length (fun j => .int .i64 (cntN r 0 j)) := by rw [hW]; exact RowK.congr hM0 (fun j _ => by rw [cntN_zero])
  have HW0 := Lib.hid (show Below w3.heap.size w3 W from hW ▸ below_alloc0 _)
  have HM1 := Lib.hid hM1
  rw [← hW]
  clear hNe hNu hB hbt hM0 hM1 hW hb3 hb1 hmk k0 k1 k2 k3 k4 k5 k6 k7
  go_loopw [7, 8] (fun v7 v8 wx => ∃ i : Nat, i ≤ r.length ∧ v8 = .int .i64 i ∧ v7 = .int .i64 (lastC (nkey m x L) r i) ∧ Below w3.heap.size w3 wx ∧ RowA wx w3.heap.size 3 L.length (fun j => .int .i64 (cntN r i j))) (fun _ v8 _ => r.length - (intOf v8).toNat)
  case atStart => exact ⟨0, by omega, rfl, rfl, HW0.out, HM1.out⟩
  case round =>
    obtain ⟨i, hi, rfl, rfl, hb, hM⟩ := hrel
    by_cases hlt : i < r.length
    · have f1 : decide ((i : Int) < (r.length : Int)) = true := by simp; omega
      have f2 : (i : Int) < (r.length : Int) := by omega
      have f3 : (0 : Int) ≤ (i : Int) := by omega
      have q1 : IntKind.i64.wrap ((i : Int) + 1) = (i : Int) + 1 := IntWalk.i64_in _ (by omega)
      obtain ⟨k0, k1, k2, k3, k4, k5, k6, k7, _⟩ := blk12 (HBX.out.later hb)
      have hbx : w.heap.size < w3.heap.size := HBX.out.lt
      obtain ⟨g1, o1, rfl, l1, hc1⟩ := HNU.out.place0 (by omega)
      obtain ⟨g2, o2, rfl, l2, hc2⟩ := HSX.out.place (by omega)
      have hgr : r.getD i 0 = r[i]'hlt := by simp [List.getD, List.getElem?_eq_getElem hlt]
      have hmr := HNE.out.mem (List.getElem_mem hlt)
      obtain ⟨j, hj⟩ := Int.eq_ofNat_of_zero_le hmr.1
      have hjn : j < L.length := by have := hmr.2.1; rw [hj] at this; omega
      have cr := (hb.cell (p := ⟨g1, o1 + i, none⟩) l1).trans (hc1 i hlt)
      rw [hgr, hj] at cr
      have ct := (hb.cell (p := ⟨g2, o2 + j, none⟩) l2).trans (hc2 j hjn)
      have hkj := nkey_at m x L j hjn
      have hzm : cstN m x L j ≤ most := by rw [← hkj, ← hj]; exact hmr.2.2
      have HC := Lib.hid (HCO.out j hjn)
      have hbd := costOf_bd m (L.getD j ByteArray.empty) x
      have hnew := cntN_new HNE.out.1 hlt j hj
      have HNX := Lib.hid (fun u => cntN_next hlt j hj u)
      have hlast : lastC (nkey m x L) r i ≤ cstN m x L j ∧ (0 < i → cstN m x L j = lastC (nkey m x L) r i → r.getD (i - 1) 0 < (j : Int)) := by
        unfold lastC
        by_cases h0 : i = 0
        · rw [if_pos h0]; exact ⟨hbd.1, fun h => absurd h (by omega)⟩
        · rw [if_neg h0]
          have hlp : i - 1 < r.length := by omega
          have := List.pairwise_iff_getElem.1 HNE.out.1 (i - 1) i hlp hlt (by omega)
          rw [hj] at this
          have hg : r.getD (i - 1) 0 = r[i - 1]'hlp := by simp [List.getD, List.getElem?_eq_getElem hlp]
          rw [hg]
          unfold St.lx at this
          rw [hkj] at this
          refine ⟨by omega, fun _ he => ?_⟩
          rcases this with h | h
          · omega
          · exact h.2
      have HLN : Hid (lastC (nkey m x L) r (i + 1) = cstN m x L j) := Lib.hid (by unfold lastC; rw [if_neg (by omega), Nat.add_sub_cancel, hgr, hj, hkj])
      obtain ⟨z, hz⟩ : ∃ z, z = cstN m x L j := ⟨_, rfl⟩
      have hz' : costOf m (L.getD j ByteArray.empty) x = z := hz.symm
      rw [← hz] at hzm hlast HLN
      rw [hz'] at HC
      obtain ⟨s, hs⟩ : ∃ s, s = L.getD j ByteArray.empty := ⟨_, rfl⟩
      rw [← hs] at ct HC
      obtain ⟨la, hla⟩ : ∃ la, la = lastC (nkey m x L) r i := ⟨_, rfl⟩
      rw [← hla] at hlast ⊢
      have e1 : decide ((j : Int) < 0) = false := by simp
      have e2 : decide ((j : Int) ≥ (L.length : Int)) = false := by simp; omega
      have e2' : decide ((L.length : Int) ≤ (j : Int)) = false := by simp; omega
      have e2n : ¬ L.length ≤ j := by omega
      have j1 : (j : Int) < (L.length : Int) := by omega
      have j2 : (0 : Int) ≤ (j : Int) := by omega
      have e3 : decide (z < la) = false := by simp; omega
      have e4 : decide (z > most) = false := by simp; omega
      have e4' : decide (most < z) = false := by simp; omega
      have cc := hM.cell hjn
      simp only [hnew] at cc
      have cf := hM.frozen j
      have HM := Lib.hid hM
      have Hb := Lib.hid hb
      have hdr := hb.drew
      have lx : w.heap.size < wr.drew.heap.size := Nat.lt_of_lt_of_le hbx hdr.size
      have ly : g1 < wr.drew.heap.size := Nat.lt_of_lt_of_le l1 hdr.size
      have lz : g2 < wr.drew.heap.size := Nat.lt_of_lt_of_le l2 hdr.size
      have HL2 := Lib.hid hlast.2
      have HNW := Lib.hid hnew
      have HC1 := Lib.hid (fun k hk => (hb.cell (p := ⟨g1, o1 + k, none⟩) l1).trans (hc1 k hk))
      clear hM hb hz hz' hs hla hlast hbd hnew hkj hmr hj hgr hc1 hc2 hzm
      go_wp2
      go_region_held3 (fun w' => w'.cell? ⟨w.heap.size, 0, none⟩ = some (.int .i64 m) ∧ w'.cell? ⟨w.heap.size, 1, none⟩ = some (.string x) ∧ w'.cell? ⟨w.heap.size, 7, none⟩ = some (.slice (some ⟨g2, o2, none⟩) L.length c) ∧ w'.cell? ⟨g1, o1 + i, none⟩ = some (.int .i64 (j : Int)) ∧ w'.cell? ⟨g2, o2 + j, none⟩ = some (.string s)) (simp [*]) (first
        | (go_at_call 20; refine (HC.out _).mono ?_; rintro e w5 ⟨rfl, hb5⟩; have m0 := (hb5.cell (p := ⟨w.heap.size, 0, none⟩) lx).trans k0; have m1 := (hb5.cell (p := ⟨w.heap.size, 1, none⟩) lx).trans k1; have m6 := (hb5.cell (p := ⟨w.heap.size, 6, none⟩) lx).trans k6; have m7 := (hb5.cell (p := ⟨w.heap.size, 7, none⟩) lx).trans k7; have mr := (hb5.cell (p := ⟨g1, o1 + i, none⟩) ly).trans cr; have mt := (hb5.cell (p := ⟨g2, o2 + j, none⟩) lz).trans ct))
      all_goals
        have HB5 := Lib.hid (hdr.trans (hb5.mono hdr.size))
        have hM5 := RowK.later (show RowA wr.drew w3.heap.size 3 L.length _ from HM.out) hb5
        have cc5 : w5.cell? ⟨w3.heap.size, j, none⟩ = some (.int .i64 0) := (hM5.cell hjn).trans (by rw [HNW.out])
        have cf5 := hM5.frozen j
        have HM5 := Lib.hid hM5
        have HR5 := Lib.hid (fun k hk => (hb5.cell (p := ⟨g1, o1 + k, none⟩) ly).trans (HC1.out k hk))
        clear k0 k1 k2 k3 k4 k5 k6 k7 cr ct cc cf hM5 hb5
        by_cases h0 : i = 0
        · have g0 : decide ((i : Int) > 0) = false := by simp; omega
          have g0' : decide ((0 : Int) < (i : Int)) = false := by simp; omega
          have gn : ¬ 0 < i := by omega
          clear h0
          go_wp2
          go_quiet (fail)
          go_wp2
          go_roundw
          case rel => exact ⟨i + 1, by omega, by go_num, by rw [HLN.out], (below_drewN' HB5.out _).setCell (Nat.le_refl _) _, RowA.put (k := j) (u := .int .i64 1) (RowK.drewN HM5.out _) (fun u _ => by rw [HNX.out]; split <;> rfl)⟩
          case measure => simp [intOf] <;> omega
        · have g0 : decide ((i : Int) > 0) = true := by simp; omega
          have g0' : decide ((0 : Int) < (i : Int)) = true := by simp; omega
          have gn : 0 < i := by omega
          by_cases hzl : z = la
          · have gz : (z == la) = true := by simpa using hzl
            obtain ⟨p, hp⟩ : ∃ p, p = i - 1 := ⟨_, rfl⟩
            have ep : (i : Int) - 1 = (p : Int) := by omega
            have qp : IntKind.i64.wrap (p : Int) = (p : Int) := IntWalk.i64_in _ (by omega)
            have gp : (p : Int) < (r.length : Int) := by omega
            have gp0 : (0 : Int) ≤ (p : Int) := by omega
            have cp := HR5.out p (by omega)
            have hlt2 := HL2.out gn hzl
            rw [← hp] at hlt2
            obtain ⟨y', hy⟩ : ∃ y, y = r.getD p 0 := ⟨_, rfl⟩
            rw [← hy] at cp hlt2
            have gy : decide ((j : Int) ≤ y') = false := by simp; omega
            clear h0 hzl hp hy hlt2
            go_wp2
            go_quiet (fail)
            go_wp2
            go_roundw
            case rel => exact ⟨i + 1, by omega, by go_num, by rw [HLN.out], (below_drewN' HB5.out _).setCell (Nat.le_refl _) _, RowA.put (k := j) (u := .int .i64 1) (RowK.drewN HM5.out _) (fun u _ => by rw [HNX.out]; split <;> rfl)⟩
            case measure => simp [intOf] <;> omega
          · have gz : (z == la) = false := by simpa using hzl
            clear h0 hzl
            go_wp2
            go_quiet (fail)
            go_wp2
            go_roundw
            case rel => exact ⟨i + 1, by omega, by go_num, by rw [HLN.out], (below_drewN' HB5.out _).setCell (Nat.le_refl _) _, RowA.put (k := j) (u := .int .i64 1) (RowK.drewN HM5.out _) (fun u _ => by rw [HNX.out]; split <;> rfl)⟩
            case measure => simp [intOf] <;> omega
    · obtain rfl : i = r.length := by omega
      have f1 : decide ((r.length : Int) < (r.length : Int)) = false := by simp
      have HB2 := Lib.hid hb
      have HM2 := Lib.hid hM
      obtain ⟨la, hla⟩ : ∃ la, la = lastC (nkey m x L) r r.length := ⟨_, rfl⟩
      rw [← hla]
      clear hb hM hla
      go_wp2
      go_loopw [11] (fun v11 wx => ∃ i : Nat, i ≤ L.length ∧ v11 = .int .i64 i ∧ Below w3.heap.size w3 wx ∧ RowA wx w3.heap.size 3 L.length (fun j => .int .i64 (cntN r r.length j))) (fun v11 _ => L.length - (intOf v11).toNat)
      case atStart => exact ⟨0, by omega, rfl, HB2.out, HM2.out⟩
      case round =>
        obtain ⟨j, hj, rfl, hb, hM⟩ := hrel
        by_cases hlt : j < L.length
        · have f1 : decide ((j : Int) < (L.length : Int)) = true := by simp; omega
          have f2 : (j : Int) < (L.length : Int) := by omega
          have f3 : (0 : Int) ≤ (j : Int) := by omega
          have q1 : IntKind.i64.wrap ((j : Int) + 1) = (j : Int) + 1 := IntWalk.i64_in _ (by omega)
          obtain ⟨k0, k1, k2, k3, k4, k5, k6, k7, _⟩ := blk12 (HBX.out.later hb)
          have hbx : w.heap.size < w3.heap.size := HBX.out.lt
          obtain ⟨g2, o2, rfl, l2, hc2⟩ := HSX.out.place (by omega)
          have ct := (hb.cell (p := ⟨g2, o2 + j, none⟩) l2).trans (hc2 j hlt)
          have hkj := nkey_at m x L j hlt
          have HC := Lib.hid (HCO.out j hlt)
          have hcn := cntN_all HNE.out j hlt
          rw [hkj] at hcn
          obtain ⟨z, hz⟩ : ∃ z, z = cstN m x L j := ⟨_, rfl⟩
          have hz' : costOf m (L.getD j ByteArray.empty) x = z := hz.symm
          rw [← hz] at hcn
          rw [hz'] at HC
          obtain ⟨s, hs⟩ : ∃ s, s = L.getD j ByteArray.empty := ⟨_, rfl⟩
          rw [← hs] at ct HC
          have HM := Lib.hid hM
          have hdr := hb.drew
          have lx : w.heap.size < wr.drew.heap.size := Nat.lt_of_lt_of_le hbx hdr.size
          have lz : g2 < wr.drew.heap.size := Nat.lt_of_lt_of_le l2 hdr.size
          have HCN := Lib.hid hcn
          clear hM hb hz hz' hs hkj hc2 hcn
          go_wp2
          go_region_held3 (fun w' => w'.cell? ⟨w.heap.size, 0, none⟩ = some (.int .i64 m) ∧ w'.cell? ⟨w.heap.size, 1, none⟩ = some (.string x) ∧ w'.cell? ⟨w.heap.size, 7, none⟩ = some (.slice (some ⟨g2, o2, none⟩) L.length c) ∧ w'.cell? ⟨g2, o2 + j, none⟩ = some (.string s)) (simp [*]) (first
            | (go_at_call 20; refine (HC.out _).mono ?_; rintro e w5 ⟨rfl, hb5⟩; have m0 := (hb5.cell (p := ⟨w.heap.size, 0, none⟩) lx).trans k0; have m1 := (hb5.cell (p := ⟨w.heap.size, 1, none⟩) lx).trans k1; have m6 := (hb5.cell (p := ⟨w.heap.size, 6, none⟩) lx).trans k6; have m7 := (hb5.cell (p := ⟨w.heap.size, 7, none⟩) lx).trans k7; have mt := (hb5.cell (p := ⟨g2, o2 + j, none⟩) lz).trans ct))
          all_goals
            have HB5 := Lib.hid (hdr.trans (hb5.mono hdr.size))
            have hM5 := RowK.later (show RowA wr.drew w3.heap.size 3 L.length _ from HM.out) hb5
            have HM5 := Lib.hid hM5
            clear k0 k1 k2 k3 k4 k5 k6 k7 ct hb5
            by_cases hzm : z ≤ most
            · have cc5 : w5.cell? ⟨w3.heap.size, j, none⟩ = some (.int .i64 1) := (hM5.cell hlt).trans (by rw [HCN.out, if_pos hzm])
              have g1 : decide (z ≤ most) = true := by simpa using hzm
              clear hM5 hzm
              go_wp2
              go_quiet (fail)
              go_wp2
              go_roundw
              case rel => exact ⟨j + 1, by omega, by go_num, below_drewN' HB5.out _, RowK.drewN HM5.out _⟩
              case measure => simp [intOf] <;> omega
            · have cc5 : w5.cell? ⟨w3.heap.size, j, none⟩ = some (.int .i64 0) := (hM5.cell hlt).trans (by rw [HCN.out, if_neg hzm])
              have g1 : decide (z ≤ most) = false := by simpa using hzm
              clear hM5 hzm
              go_wp2
              go_quiet (fail)
              go_wp2
              go_roundw
              case rel => exact ⟨j + 1, by omega, by go_num, below_drewN' HB5.out _, RowK.drewN HM5.out _⟩
              case measure => simp [intOf] <;> omega
        · obtain rfl : j = L.length := by omega
          have f1 : decide ((L.length : Int) < (L.length : Int)) = false := by simp
          have Hbe := Lib.hid (HBT.out.trans (hb.mono HBT.out.size))
          clear hb hM
          go_wp2
          go_ret
          exact ⟨rfl, Hbe.out⟩

theorem Better_any (m : Int) (x y code : ByteArray) (a b most : Int) (A : Option Addr) (L : List ByteArray) (c : Nat) (v8 v9 v10 v11 : Value) (w : World) (hP : Pow w) (hS : StrsP w A L) :
    Calls Tryz.prog 15 #[.agg (askV m x y code a b most (.slice A L.length c) v8 v9 v10 v11)] w fun e w' => e = .returned (.bool true) ∧ Below w.heap.size w w' := by
  by_cases hl : x.size ≤ 200 ∧ L.length ≤ 40
  · by_cases he : nrE m x L = 0
    · exact Better_ok m x y code a b most A L c v8 v9 v10 v11 w hP hS hl.1 hl.2 he
    · exact Better_no m x y code a b most A L c v8 v9 v10 v11 w hP hS hl.1 hl.2 he
  · exact Better_out m x y code a b most A L.length c v8 v9 v10 v11 w hP hl
end Go.Proofs.YtgcddjgkieambaaGreatDoor
