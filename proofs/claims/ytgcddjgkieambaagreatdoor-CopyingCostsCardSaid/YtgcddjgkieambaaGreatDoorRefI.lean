/- The walk of the reference's 'Align'. -/
import Derived.Test.YtgcddjgkieambaaGreatDoorRefG
import Derived.Test.YtgcddjgkieambaaGreatDoorAlignB
import Derived.Deep.AppendLies
set_option linter.unusedVariables false
set_option linter.unusedSimpArgs false
namespace Go.Proofs.YtgcddjgkieambaaGreatDoor
open Go.RowKit

set_option maxRecDepth 100000 in
set_option maxHeartbeats 1000000 in
theorem refAlign_no (m : Int) (s h : ByteArray) (w : World) (he : errOf m s h ≠ 0) :
    Calls Tryz.prog 23 #[.int .i64 m, .string s, .string h] w fun e w' => e = .returned (.tuple #[.slice none 0 0, .int .i64 (errOf m s h)]) ∧ Below w.heap.size w w' := by
  have HT := Lib.hid (fun W => ref_texts m s h W)
  obtain ⟨er, her⟩ : ∃ er, er = errOf m s h := ⟨_, rfl⟩
  rw [← her] at HT he ⊢
  have h0 : (er != 0) = true := by simpa using he
  clear he her
  go_enter Tryz.func23, Tryz.ntmps23
  go_wp2_with (go_at_call 70; refine (HT.out _).mono ?_; rintro e w1 ⟨rfl, hb1⟩)
  go_ret2
  exact ⟨rfl, hb1⟩

theorem nums_list {w : World} {A : Option Addr} {xs : List Nat} (h : Nums w A (xs.map fun (k : Nat) => (k : Int))) {j : Nat} (hj : j < xs.length) : ∃ a, A = some a ∧ a.block < w.heap.size ∧ w.cell? (a.add j) = some (.int .i64 (xs.getD j 0 : Nat)) := by
  obtain ⟨a, e, hb, hc⟩ := h j (by rw [List.length_map]; exact hj)
  refine ⟨a, e, hb, ?_⟩
  rw [hc, getD_get _ _ (by rw [List.length_map]; exact hj), getD_get _ _ hj, List.getElem_map]

set_option maxRecDepth 100000 in
set_option maxHeartbeats 8000000 in
theorem refAlign_ok (m : Int) (s h : ByteArray) (w : World) (he : errOf m s h = 0) :
    Calls Tryz.prog 23 #[.int .i64 m, .string s, .string h] w fun e w' => ∃ v, e = .returned (.tuple #[v, .int .i64 0]) ∧ Steps w' v (Cm.ali m (row s) (row h)) ∧ Below w.heap.size w w' := by
  obtain ⟨hm, l1, l2, c1, c2⟩ := errOf_okR he
  have I1 := Lib.hid (fun W => ref_ixok s W (by omega) c1)
  have I2 := Lib.hid (fun W => ref_ixok h W (by omega) c2)
  have HE := Lib.hid (fun W => ref_texts m s h W)
  rw [he] at HE
  have HRs := Lib.hid (fun W => ref_rest m s h W he)
  have HR1 := Lib.hid (fun j hj => row_lt c1 j hj)
  have HR2 := Lib.hid (fun j hj => row_lt c2 j hj)
  rw [← row_length s] at I1 HRs l1
  rw [← row_length h] at I2 HRs l2
  obtain ⟨xs, hxs⟩ : ∃ xs, xs = row s := ⟨_, rfl⟩
  obtain ⟨ys, hys⟩ : ∃ ys, ys = row h := ⟨_, rfl⟩
  rw [← hxs] at I1 HRs l1 HR1 ⊢
  rw [← hys] at I2 HRs l2 HR2 ⊢
  have Hm := Lib.hid hm
  clear hxs hys hm he c1 c2
  go_enter Tryz.func23, Tryz.ntmps23
  go_wp2_with (first
    | (go_at_call 70; refine (HE.out _).mono ?_; rintro e w0 ⟨rfl, hb0⟩)
    | (go_at_call 72; ((with_reducible refine (I1.out _).mono ?_); rintro e w1 ⟨A, ca, rfl, n1, hb1⟩; have hbt := below_trans' hb0 hb1))
    | (go_at_call 72; ((with_reducible refine (I2.out _).mono ?_); rintro e w2 ⟨B, cb, rfl, n2, hb2⟩; have n1 := n1.later hb2; have hbt := below_trans' hbt hb2))
    | (go_at_call 73; refine (ref_codes _).mono ?_; rintro e w3 ⟨rfl, hC, hb3⟩; have n1 := n1.later hb3; have n2 := n2.later hb3; have hbt := below_trans' hbt hb3)
    | (go_at_call 74; refine (HRs.out _).mono ?_; rintro e w4 ⟨v, rfl, ⟨g, r, rfl, _, hg, hr⟩, hb4⟩; have n1 := n1.later hb4; have n2 := n2.later hb4; have hC := hC.later hb4; have hbt := below_trans' hbt hb4))
  have N1 := Lib.hid n1
  have N2 := Lib.hid n2
  have HC := Lib.hid hC
  have Hbt := Lib.hid hbt
  have HG := Lib.hid (And.intro hg hr)
  obtain ⟨gc, hgc⟩ : ∃ g, g = w2.heap.size := ⟨_, rfl⟩
  rw [← hgc] at HC ⊢
  clear n1 n2 hC hbt hb0 hb1 hb2 hb3 hb4 hg hr hgc I1 I2 HE HRs
  have bm := Cm.missC_bd m
  have be := Cm.extraC_bd m
  obtain ⟨i0, hi0, hz0, hz1, hz2⟩ := info_parts info34
  go_loopw [15, 16, 17] (fun v15 v16 v17 wx => AlRel m xs ys w4 v15 v16 v17 wx) (fun _ v16 v17 _ => (xs.length - (intOf v16).toNat) + (ys.length - (intOf v17).toNat))
  case atStart => exact ⟨0, 0, xs.length + ys.length, [], rfl, rfl, by omega, by omega, by omega, by simp, rfl, World.ownsRow_nil _ _ _ _, Below.refl _ _⟩
  case round =>
    obtain ⟨i, k, f, pre, rfl, rfl, hi, hk, hf, hp, hall, hown, hb⟩ := hrel
    have hsz := hb.size
    have hG := HG.out.1.later hb
    have lg := hG.lt
    have HCr := HC.out.later hb
    have lgc := HCr.1
    have HSw := Lib.hid (fun (a d : Nat) (ha : a < 37) (hd : d < 37) W (hW : Below wr.heap.size wr W) => ref_swap gc m a d W Hm.out ha hd (HCr.later hW))
    have Hown := Lib.hid hown
    have Hall := Lib.hid hall
    have Hb := Lib.hid hb
    have hD0 : Below wr.heap.size wr wr.drew := (Below.refl _ _).drew
    have cg0 := hG.cell (k := i) (by omega)
    have hr0 := (HG.out.2 i (by omega)).2.later hb
    have lr0 := hr0.lt
    have cz00 := hr0.cell (k := k) (by omega)
    clear hown hall
    by_cases hin : i < xs.length
    · have d1 : decide ((i : Int) < (xs.length : Int)) = true := by simp; omega
      have d1' : decide (i < xs.length) = true := by simp; omega
      have q1 : IntKind.i64.wrap ((i : Int) + 1) = (i : Int) + 1 := IntWalk.i64_in _ (by omega)
      have y1 : (0 : Int) ≤ (i : Int) + 1 := by omega
      have y2 : ((i : Int) + 1).toNat = i + 1 := by omega
      have y3 : (i : Int) + 1 < (xs.length : Int) + 1 := by omega
      have y4 : (i : Int) < (xs.length : Int) + 1 := by omega
      have y5 : (i : Int) < (xs.length : Int) := by omega
      have cg1 := hG.cell (k := i + 1) (by omega)
      have hr1 := (HG.out.2 (i + 1) (by omega)).2.later hb
      have lr1 := hr1.lt
      have cz10 := hr1.cell (k := k) (by omega)
      obtain ⟨z00, hz00⟩ : ∃ z, z = Cm.Lf m xs ys i k := ⟨_, rfl⟩
      obtain ⟨z10, hz10⟩ : ∃ z, z = Cm.Lf m xs ys (i + 1) k := ⟨_, rfl⟩
      have bz10 := Cm.Lf_bd (mode := m) (s := xs) (h := ys) (i := i + 1) (k := k) l1 l2
      rw [← hz00] at cz00
      rw [← hz10] at cz10 bz10
      have q3 : IntKind.i64.wrap (z10 + Cm.missC m) = z10 + Cm.missC m := IntWalk.i64_in _ (by omega)
      by_cases hkm : k < ys.length
      · have d2 : decide ((k : Int) < (ys.length : Int)) = true := by simp; omega
        have d2' : decide (k < ys.length) = true := by simp; omega
        have q2 : IntKind.i64.wrap ((k : Int) + 1) = (k : Int) + 1 := IntWalk.i64_in _ (by omega)
        have x1 : (0 : Int) ≤ (k : Int) + 1 := by omega
        have x2 : ((k : Int) + 1).toNat = k + 1 := by omega
        have x3 : (k : Int) + 1 < (ys.length : Int) + 1 := by omega
        have x4 : (k : Int) < (ys.length : Int) + 1 := by omega
        have x5 : (k : Int) < (ys.length : Int) := by omega
        have cz11 := hr1.cell (k := k + 1) (by omega)
        obtain ⟨z11, hz11⟩ : ∃ z, z = Cm.Lf m xs ys (i + 1) (k + 1) := ⟨_, rfl⟩
        obtain ⟨za, hza⟩ : ∃ z, z = Cm.atL m xs ys i k := ⟨_, rfl⟩
        have bz11 := Cm.Lf_bd (mode := m) (s := xs) (h := ys) (i := i + 1) (k := k + 1) l1 l2
        have bza := Cm.atL_bd (mode := m) (s := xs) (h := ys) (i := i) (k := k)
        rw [← hz11] at cz11 bz11
        rw [← hza] at bza
        obtain ⟨pa, rfl, la4, ca4⟩ := nums_list N1.out (j := i) hin
        obtain ⟨pb, rfl, lb4, cb4⟩ := nums_list N2.out (j := k) hkm
        have lA4 : (pa.add i).block < w4.heap.size := by rw [add_block]; exact la4
        have lB4 : (pb.add k).block < w4.heap.size := by rw [add_block]; exact lb4
        have ca0 := (hb.cell lA4).trans ca4
        have cb0 := (hb.cell lB4).trans cb4
        have la := Nat.lt_of_lt_of_le la4 hsz
        have lb := Nat.lt_of_lt_of_le lb4 hsz
        have lA : (pa.add i).block < wr.heap.size := by rw [add_block]; exact la
        have lB : (pb.add k).block < wr.heap.size := by rw [add_block]; exact lb
        have HW := Lib.hid (HSw.out _ _ (HR1.out i hin) (HR2.out k hkm))
        have hswe : Cm.sw m (xs.getD i 0) (ys.getD k 0) = za := by rw [hza]; rfl
        rw [hswe] at HW
        obtain ⟨xa, hxa⟩ : ∃ x, x = xs.getD i 0 := ⟨_, rfl⟩
        obtain ⟨xb, hxb⟩ : ∃ x, x = ys.getD k 0 := ⟨_, rfl⟩
        rw [← hxa] at ca0 ca4 HW
        rw [← hxb] at cb0 cb4 HW
        have q4 : IntKind.i64.wrap (z11 + za) = z11 + za := IntWalk.i64_in _ (by omega)
        clear HSw hswe hxa hxb hr0 hr1 hG HCr hb
        by_cases hsw : z00 = za + z11
        · have d3 : (z00 == z11 + za) = true := by simp; omega
          obtain ⟨f, rfl⟩ : ∃ g, f = g + 1 := ⟨f - 1, by omega⟩
          have Hst : Hid (alX m xs ys (f + 1) i k = ((i : Int), (k : Int), za) :: alX m xs ys f (i + 1) (k + 1)) := by
            refine Lib.hid ?_
            rw [hza]; exact Cm.alFrom_swap hin hkm (by rw [← hz00, ← hz11, ← hza]; exact hsw)
          clear hz00 hz10 hz11 hza hsw
          go_wp2
          go_region_held3 (fun w' => w'.cell? ⟨g, i, none⟩ = some (.slice (some ⟨r i, 0, none⟩) (ys.length + 1) (ys.length + 1)) ∧ w'.cell? ⟨r i, k, none⟩ = some (.int .i64 z00) ∧ w'.cell? ⟨g, i + 1, none⟩ = some (.slice (some ⟨r (i + 1), 0, none⟩) (ys.length + 1) (ys.length + 1)) ∧ w'.cell? ⟨r (i + 1), k + 1, none⟩ = some (.int .i64 z11) ∧ w'.cell? (pa.add i) = some (.int .i64 (xa : Int)) ∧ w'.cell? (pb.add k) = some (.int .i64 (xb : Int))) (simp [*]) (first | (go_at_call 75; refine (HW.out _ hD0).mono ?_; rintro e w5 ⟨rfl, hb5⟩; have ha := below_trans' hD0 hb5; have j0 := (ha.cell (p := ⟨g, i, none⟩) lg).trans cg0; have j1 := (ha.cell (p := ⟨r i, k, none⟩) lr0).trans cz00; have j2 := (ha.cell (p := ⟨g, i + 1, none⟩) lg).trans cg1; have j3 := (ha.cell (p := ⟨r (i + 1), k + 1, none⟩) lr1).trans cz11; have j4 := (ha.cell lA).trans ca0; have j5 := (ha.cell lB).trans cb0))
          all_goals
            have hE1 := ha.drew
            go_wp2
            go_region_held3 (fun w' => w'.cell? (pa.add i) = some (.int .i64 (xa : Int)) ∧ w'.cell? (pb.add k) = some (.int .i64 (xb : Int))) (simp [*, World.cell?_alloc_some, World.cell?_setCell_far]) (first
              | (refine step_append_lies _ (by rfl) _ _ _ (by rfl) w4.heap.size 34 i0 _ 3 24 Tryz.underlying30 hi0 hz0 hz1 hz2 rfl (by omega) _ _ _ (by rfl) (hownb.alloc _) ⟨wb4.heap.size, 0, none⟩ 1 1 [.int .i64 (i : Int), .int .i64 (k : Int), .int .i64 za] (by rfl) (by rfl) (own_news3 _ _ _ _ _) (one_ints _ _ _) (by omega) (by unfold maxLen; omega) (by omega) (by have := hb4.size; simp; omega) _ rfl ?_; intro gq cq w1 hown' hgrow _ _; have hs4 := hb4.size; have hBel := ((below_trans' Hb.out hb4).alloc (by omega) _).grown hgrow (by simp; omega) (fun g hg => (hownb.lt g hg).1); have m6 := (hBel.cell lA4).trans ca4; have m7 := (hBel.cell lB4).trans cb4)
              | (go_at_call 75; refine (HW.out _ hE1).mono ?_; rintro e wb4 ⟨rfl, hbwb4⟩; have hb4 := below_trans' hE1 hbwb4; have hownb := own_later Hown.out hb4; have j6 := (hb4.cell lA).trans ca0; have j7 := (hb4.cell lB).trans cb0))
            all_goals
              have hRel := Lib.hid (fun v16 v17 h16 h17 => AlRel.step (i' := i + 1) (k' := k + 1) (by omega) (by omega) (by omega) (by omega) Hall.out Hst.out hown' hBel v16 v17 h16 h17)
              clear hown' hgrow hBel
              go_wp2
              go_roundw
              case rel => exact hRel.out _ _ (by go_num) (by go_num)
              case measure => simp [intOf]; omega
        · have d3 : (z00 == z11 + za) = false := by simp; omega
          obtain ⟨f, rfl⟩ : ∃ g, f = g + 1 := ⟨f - 1, by omega⟩
          by_cases hms : z00 = Cm.missC m + z10
          · have d4 : (z00 == z10 + Cm.missC m) = true := by simp; omega
            have Hst : Hid (alX m xs ys (f + 1) i k = ((i : Int), -1, Cm.missC m) :: alX m xs ys f (i + 1) k) := by
              refine Lib.hid ?_
              exact Cm.alFrom_miss hin (fun e => hsw (by rw [hz00, hz11, hza]; exact e.2)) (by rw [← hz00, ← hz10]; exact hms)
            clear hz00 hz10 hz11 hza hsw hms
            go_wp2
            go_region_held3 (fun w' => w'.cell? ⟨g, i, none⟩ = some (.slice (some ⟨r i, 0, none⟩) (ys.length + 1) (ys.length + 1)) ∧ w'.cell? ⟨r i, k, none⟩ = some (.int .i64 z00) ∧ w'.cell? ⟨g, i + 1, none⟩ = some (.slice (some ⟨r (i + 1), 0, none⟩) (ys.length + 1) (ys.length + 1)) ∧ w'.cell? ⟨r (i + 1), k + 1, none⟩ = some (.int .i64 z11) ∧ w'.cell? (pa.add i) = some (.int .i64 (xa : Int)) ∧ w'.cell? (pb.add k) = some (.int .i64 (xb : Int))) (simp [*]) (first | (go_at_call 75; refine (HW.out _ hD0).mono ?_; rintro e w5 ⟨rfl, hb5⟩; have ha := below_trans' hD0 hb5; have j0 := (ha.cell (p := ⟨g, i, none⟩) lg).trans cg0; have j1 := (ha.cell (p := ⟨r i, k, none⟩) lr0).trans cz00; have j2 := (ha.cell (p := ⟨g, i + 1, none⟩) lg).trans cg1; have j3 := (ha.cell (p := ⟨r (i + 1), k + 1, none⟩) lr1).trans cz11; have j4 := (ha.cell lA).trans ca0; have j5 := (ha.cell lB).trans cb0))
            all_goals
              have hE := ha.drew
              have j6 := (ha.cell (p := ⟨r (i + 1), k, none⟩) lr1).trans cz10
              go_wp2
              go_region_held3 (fun w' => w'.cell? ⟨g, i, none⟩ = some (.slice (some ⟨r i, 0, none⟩) (ys.length + 1) (ys.length + 1)) ∧ w'.cell? ⟨r i, k, none⟩ = some (.int .i64 z00) ∧ w'.cell? ⟨g, i + 1, none⟩ = some (.slice (some ⟨r (i + 1), 0, none⟩) (ys.length + 1) (ys.length + 1)) ∧ w'.cell? ⟨r (i + 1), k, none⟩ = some (.int .i64 z10)) (simp [*]) (first | (go_at_call 76; refine (ref_miss _ _).mono ?_; rintro e w' ⟨rfl, rfl⟩))
              all_goals
                have hownb := own_later Hown.out hE
                have hs4 := hE.size
                have hs5 := ha.size
                go_wp2_with (first
                  | (at_builtin; refine wpList_append_lies _ rfl _ _ 30 (by rfl) w4.heap.size 34 i0 _ 3 24 Tryz.underlying30 hi0 hz0 hz1 hz2 rfl (by omega) _ _ _ (by rfl) (hownb.alloc _) ⟨_, 0, none⟩ 1 1 [.int .i64 (i : Int), .int .i64 (-1), .int .i64 (Cm.missC m)] (by rfl) (by rfl) (own_news3 _ _ _ _ _) (one_ints _ _ _) (by omega) (by unfold maxLen; omega) (by omega) (by simp; omega) _ rfl ?_; intro gq cq w1 hown' hgrow _ _)
                  | (go_at_call 76; refine (ref_miss _ _).mono ?_; rintro e w' ⟨rfl, rfl⟩))
                have hBel := ((below_trans' Hb.out hE).alloc (by omega) _).grown hgrow (by simp; omega) (fun g hg => (hownb.lt g hg).1)
                have hRel := Lib.hid (fun v16 v17 h16 h17 => AlRel.step (i' := i + 1) (k' := k) (by omega) (by omega) (by omega) (by omega) Hall.out Hst.out hown' hBel v16 v17 h16 h17)
                clear hown' hgrow hBel
                go_wp2
                go_roundw
                case rel => exact hRel.out _ _ (by go_num) (by go_num)
                case measure => simp [intOf]; omega
          · have d4 : (z00 == z10 + Cm.missC m) = false := by simp; omega
            have Hst : Hid (alX m xs ys (f + 1) i k = (-1, (k : Int), Cm.extraC m) :: alX m xs ys f i (k + 1)) := by
              refine Lib.hid ?_
              exact Cm.alFrom_extra hkm (fun e => hsw (by rw [hz00, hz11, hza]; exact e.2)) (fun e => hms (by rw [hz00, hz10]; exact e.2))
            clear hz00 hz10 hz11 hza hsw hms
            go_wp2
            go_region_held3 (fun w' => w'.cell? ⟨g, i, none⟩ = some (.slice (some ⟨r i, 0, none⟩) (ys.length + 1) (ys.length + 1)) ∧ w'.cell? ⟨r i, k, none⟩ = some (.int .i64 z00) ∧ w'.cell? ⟨g, i + 1, none⟩ = some (.slice (some ⟨r (i + 1), 0, none⟩) (ys.length + 1) (ys.length + 1)) ∧ w'.cell? ⟨r (i + 1), k + 1, none⟩ = some (.int .i64 z11) ∧ w'.cell? (pa.add i) = some (.int .i64 (xa : Int)) ∧ w'.cell? (pb.add k) = some (.int .i64 (xb : Int))) (simp [*]) (first | (go_at_call 75; refine (HW.out _ hD0).mono ?_; rintro e w5 ⟨rfl, hb5⟩; have ha := below_trans' hD0 hb5; have j0 := (ha.cell (p := ⟨g, i, none⟩) lg).trans cg0; have j1 := (ha.cell (p := ⟨r i, k, none⟩) lr0).trans cz00; have j2 := (ha.cell (p := ⟨g, i + 1, none⟩) lg).trans cg1; have j3 := (ha.cell (p := ⟨r (i + 1), k + 1, none⟩) lr1).trans cz11; have j4 := (ha.cell lA).trans ca0; have j5 := (ha.cell lB).trans cb0))
            all_goals
              have hE := ha.drew
              have j6 := (ha.cell (p := ⟨r (i + 1), k, none⟩) lr1).trans cz10
              go_wp2
              go_region_held3 (fun w' => w'.cell? ⟨g, i, none⟩ = some (.slice (some ⟨r i, 0, none⟩) (ys.length + 1) (ys.length + 1)) ∧ w'.cell? ⟨r i, k, none⟩ = some (.int .i64 z00) ∧ w'.cell? ⟨g, i + 1, none⟩ = some (.slice (some ⟨r (i + 1), 0, none⟩) (ys.length + 1) (ys.length + 1)) ∧ w'.cell? ⟨r (i + 1), k, none⟩ = some (.int .i64 z10)) (simp [*]) (first | (go_at_call 76; refine (ref_miss _ _).mono ?_; rintro e w' ⟨rfl, rfl⟩))
              all_goals
                have hownb := own_later Hown.out hE
                have hs4 := hE.size
                have hs5 := ha.size
                go_wp2_with (first
                  | (at_builtin; refine wpList_append_lies _ rfl _ _ 30 (by rfl) w4.heap.size 34 i0 _ 3 24 Tryz.underlying30 hi0 hz0 hz1 hz2 rfl (by omega) _ _ _ (by rfl) (hownb.alloc _) ⟨_, 0, none⟩ 1 1 [.int .i64 (-1), .int .i64 (k : Int), .int .i64 (Cm.extraC m)] (by rfl) (by rfl) (own_news3 _ _ _ _ _) (one_ints _ _ _) (by omega) (by unfold maxLen; omega) (by omega) (by simp; omega) _ rfl ?_; intro gq cq w1 hown' hgrow _ _)
                  | (go_at_call 77; refine (ref_extra _ _).mono ?_; rintro e w' ⟨rfl, rfl⟩))
                have hBel := ((below_trans' Hb.out hE).alloc (by omega) _).grown hgrow (by simp; omega) (fun g hg => (hownb.lt g hg).1)
                have hRel := Lib.hid (fun v16 v17 h16 h17 => AlRel.step (i' := i) (k' := k + 1) (by omega) (by omega) (by omega) (by omega) Hall.out Hst.out hown' hBel v16 v17 h16 h17)
                clear hown' hgrow hBel
                go_wp2
                go_roundw
                case rel => exact hRel.out _ _ (by go_num) (by go_num)
                case measure => simp [intOf]; omega
      · have d2 : decide ((k : Int) < (ys.length : Int)) = false := by simp; omega
        have d2' : decide (k < ys.length) = false := by simp; omega
        have x4 : (k : Int) < (ys.length : Int) + 1 := by omega
        obtain ⟨f, rfl⟩ : ∃ g, f = g + 1 := ⟨f - 1, by omega⟩
        have hms : z00 = Cm.missC m + z10 := by rw [hz00, hz10]; exact Cm.Lf_miss hin (by omega)
        have d4 : (z00 == z10 + Cm.missC m) = true := by simp; omega
        have Hst : Hid (alX m xs ys (f + 1) i k = ((i : Int), -1, Cm.missC m) :: alX m xs ys f (i + 1) k) := by
          refine Lib.hid ?_
          exact Cm.alFrom_miss hin (fun e => hkm e.1) (by rw [← hz00, ← hz10]; exact hms)
        clear hz00 hz10 hms hr0 hr1 hG HCr hb HSw
        go_wp2
        go_quiet (fail)
        have hQ := below_drewN' (Below.refl wr.heap.size wr) nq
        all_goals
          have hE := hQ.drew
          go_wp2
          go_region_held3 (fun w' => w'.cell? ⟨g, i, none⟩ = some (.slice (some ⟨r i, 0, none⟩) (ys.length + 1) (ys.length + 1)) ∧ w'.cell? ⟨r i, k, none⟩ = some (.int .i64 z00) ∧ w'.cell? ⟨g, i + 1, none⟩ = some (.slice (some ⟨r (i + 1), 0, none⟩) (ys.length + 1) (ys.length + 1)) ∧ w'.cell? ⟨r (i + 1), k, none⟩ = some (.int .i64 z10)) (simp [*]) (first | (go_at_call 76; refine (ref_miss _ _).mono ?_; rintro e w' ⟨rfl, rfl⟩))
          all_goals
            have hownb := own_later Hown.out hE
            have hs4 := hE.size
            go_wp2_with (first
              | (at_builtin; refine wpList_append_lies _ rfl _ _ 30 (by rfl) w4.heap.size 34 i0 _ 3 24 Tryz.underlying30 hi0 hz0 hz1 hz2 rfl (by omega) _ _ _ (by rfl) (hownb.alloc _) ⟨_, 0, none⟩ 1 1 [.int .i64 (i : Int), .int .i64 (-1), .int .i64 (Cm.missC m)] (by rfl) (by rfl) (own_news3 _ _ _ _ _) (one_ints _ _ _) (by omega) (by unfold maxLen; omega) (by omega) (by simp; omega) _ rfl ?_; intro gq cq w1 hown' hgrow _ _)
              | (go_at_call 76; refine (ref_miss _ _).mono ?_; rintro e w' ⟨rfl, rfl⟩))
            have hBel := ((below_trans' Hb.out hE).alloc (by omega) _).grown hgrow (by simp; omega) (fun g hg => (hownb.lt g hg).1)
            have hRel := Lib.hid (fun v16 v17 h16 h17 => AlRel.step (i' := i + 1) (k' := k) (by omega) (by omega) (by omega) (by omega) Hall.out Hst.out hown' hBel v16 v17 h16 h17)
            clear hown' hgrow hBel
            go_wp2
            go_roundw
            case rel => exact hRel.out _ _ (by go_num) (by go_num)
            case measure => simp [intOf]; omega
    · have d1 : decide ((i : Int) < (xs.length : Int)) = false := by simp; omega
      have d1' : decide (i < xs.length) = false := by simp; omega
      by_cases hkm : k < ys.length
      · have d2 : decide ((k : Int) < (ys.length : Int)) = true := by simp; omega
        have d2' : decide (k < ys.length) = true := by simp; omega
        have q2 : IntKind.i64.wrap ((k : Int) + 1) = (k : Int) + 1 := IntWalk.i64_in _ (by omega)
        obtain ⟨f, rfl⟩ : ∃ g, f = g + 1 := ⟨f - 1, by omega⟩
        have Hst : Hid (alX m xs ys (f + 1) i k = (-1, (k : Int), Cm.extraC m) :: alX m xs ys f i (k + 1)) := by
          refine Lib.hid ?_
          exact Cm.alFrom_extra hkm (fun e => hin e.1) (fun e => hin e.1)
        clear hr0 hG HCr hb HSw
        go_wp2
        go_quiet (fail)
        have hQ := below_drewN' (Below.refl wr.heap.size wr) nq
        all_goals
          go_wp2
          go_quiet (fail)
          have hE := below_drewN' hQ nq
          all_goals
            have hownb := own_later Hown.out hE
            have hs4 := hE.size
            go_wp2_with (first
              | (at_builtin; refine wpList_append_lies _ rfl _ _ 30 (by rfl) w4.heap.size 34 i0 _ 3 24 Tryz.underlying30 hi0 hz0 hz1 hz2 rfl (by omega) _ _ _ (by rfl) (hownb.alloc _) ⟨_, 0, none⟩ 1 1 [.int .i64 (-1), .int .i64 (k : Int), .int .i64 (Cm.extraC m)] (by rfl) (by rfl) (own_news3 _ _ _ _ _) (one_ints _ _ _) (by omega) (by unfold maxLen; omega) (by omega) (by simp; omega) _ rfl ?_; intro gq cq w1 hown' hgrow _ _)
              | (go_at_call 77; refine (ref_extra _ _).mono ?_; rintro e w' ⟨rfl, rfl⟩))
            have hBel := ((below_trans' Hb.out (below_drewN0 (w := wr) _)).alloc hsz _).grown hgrow (by simp; omega) (fun g hg => (hownb.lt g hg).1)
            have hRel := Lib.hid (fun v16 v17 h16 h17 => AlRel.step (i' := i) (k' := k + 1) (by omega) (by omega) (by omega) (by omega) Hall.out Hst.out hown' hBel v16 v17 h16 h17)
            clear hown' hgrow hBel
            go_wp2
            go_roundw
            case rel => exact hRel.out _ _ (by go_num) (by go_num)
            case measure => simp [intOf]; omega
      · have d2 : decide ((k : Int) < (ys.length : Int)) = false := by simp; omega
        have d2' : decide (k < ys.length) = false := by simp; omega
        have Hst : Hid (Cm.ali m xs ys = pre) := by
          refine Lib.hid ?_
          have h1 := Hall.out
          rw [alX, Cm.alFrom_end hin hkm, List.append_nil] at h1
          exact h1
        clear hr0 hG HCr hb HSw
        go_wp2
        go_ret2
        exact ⟨_, rfl, ⟨_, by rw [Hst.out]; exact Hown.out⟩, below_trans' Hbt.out Hb.out⟩
end Go.Proofs.YtgcddjgkieambaaGreatDoor
