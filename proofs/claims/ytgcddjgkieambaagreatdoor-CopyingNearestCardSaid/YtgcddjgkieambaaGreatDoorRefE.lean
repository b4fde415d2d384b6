/- The walk of the reference's 'table'. -/
import Derived.Test.YtgcddjgkieambaaGreatDoorRefD
set_option linter.unusedVariables false
set_option linter.unusedSimpArgs false
namespace Go.Proofs.YtgcddjgkieambaaGreatDoor
open Go.RowKit

theorem errOf_okR {m : Int} {s t : ByteArray} (h : errOf m s t = 0) : isMode m ∧ s.size ≤ 64 ∧ t.size ≤ 64 ∧ allChars s ∧ allChars t := by
  rcases errOf_cases m s t with ⟨e, _⟩ | ⟨e, _⟩ | ⟨e, _⟩ | ⟨_, h⟩
  · omega
  · omega
  · omega
  · exact h

theorem ref_missQ (m : Int) (w : World) : Calls Tryz.prog 76 #[.int .i64 m] w fun e w' => e = .returned (.int .i64 (Cm.missC m)) ∧ ∃ q, w' = w.drewN q := (ref_miss m w).mono fun e w' ⟨h, hw⟩ => ⟨h, 0, hw ▸ rfl⟩
theorem ref_extraQ (m : Int) (w : World) : Calls Tryz.prog 77 #[.int .i64 m] w fun e w' => e = .returned (.int .i64 (Cm.extraC m)) ∧ ∃ q, w' = w.drewN q := (ref_extra m w).mono fun e w' ⟨h, hw⟩ => ⟨h, 0, hw ▸ rfl⟩
theorem FillI.drewN {w : World} {n m : Nat} {ms ex : Int} {sw : Nat → Nat → Int} {i : Nat} {r : Nat → Nat} {b k : Nat} {wx : World} (h : FillI w n m ms ex sw i r b k wx) (q : Nat) : FillI w n m ms ex sw i r b k (wx.drewN q) :=
  ⟨h.1, h.2.1, h.2.2.1, h.2.2.2.1, below_drewN' h.2.2.2.2 q⟩
theorem ref_ixok (s : ByteArray) (w : World) (hs : s.size ≤ 1000000) (hc : allChars s) : Calls Tryz.prog 72 #[.string s] w fun e w' => ∃ A c, e = .returned (.tuple #[.slice A s.size c, .bool true]) ∧ Nums w' A ((row s).map fun (k : Nat) => (k : Int)) ∧ Below w.heap.size w w' :=
  (ref_indices s w hs).mono fun e w' ⟨h, hb⟩ => by
    rcases h with ⟨_, v, he, hO⟩ | ⟨hn, _⟩
    · obtain ⟨A, c, rfl, hN⟩ := hO.form
      rw [List.length_map, row_length] at he
      exact ⟨A, c, he, hN, hb⟩
    · exact absurd hc hn
theorem nums_row {w : World} {A : Option Addr} {s : ByteArray} (h : Nums w A ((row s).map fun (k : Nat) => (k : Int))) {j : Nat} (hj : j < s.size) : ∃ a, A = some a ∧ a.block < w.heap.size ∧ w.cell? (a.add j) = some (.int .i64 ((row s).getD j 0 : Nat)) := by
  have hl : j < (row s).length := by rw [row_length]; exact hj
  obtain ⟨a, e, hb, hc⟩ := h j (by rw [List.length_map]; exact hl)
  refine ⟨a, e, hb, ?_⟩
  rw [hc, getD_get _ _ (by rw [List.length_map]; exact hl), getD_get _ _ hl, List.getElem_map]

set_option maxRecDepth 100000 in
set_option maxHeartbeats 8000000 in
theorem ref_table (m : Int) (s h : ByteArray) (w : World) (he : errOf m s h = 0) :
    Calls Tryz.prog 71 #[.int .i64 m, .string s, .string h] w fun e w' => ∃ v, e = .returned v ∧ Tab w' w.heap.size v (s.size + 1) (h.size + 1) (Cm.T (Cm.missC m) (Cm.extraC m) (atC m (row s) (row h))) ∧ Below w.heap.size w w' := by
  obtain ⟨hm, l1, l2, c1, c2⟩ := errOf_okR he
  have I1 := Lib.hid (fun W => ref_ixok s W (by omega) c1)
  have I2 := Lib.hid (fun W => ref_ixok h W (by omega) c2)
  have HR1 := Lib.hid (fun j hj => row_lt c1 j hj)
  have HR2 := Lib.hid (fun j hj => row_lt c2 j hj)
  have Hm := Lib.hid hm
  have h0 := Cm.missC_bd m
  have h1 := Cm.extraC_bd m
  have HSw := Lib.hid (fun i k => Cm.sw_bd m ((row s).getD i 0) ((row h).getD k 0))
  have hmk := fun W => run_mk (P := Tryz.prog) 37 38 _ _ Tryz.underlying37 info38 (s.size + 1) ((s.size : Int) + 1) (by omega) (by omega) (by omega) W
  have hmk2 := fun W => run_mk (P := Tryz.prog) 38 3 _ _ Tryz.underlying38 info3 (h.size + 1) ((h.size : Int) + 1) (by omega) (by omega) (by omega) W
  obtain ⟨sw, hsw⟩ : ∃ sw, sw = atC m (row s) (row h) := ⟨_, rfl⟩
  have hswb : ∀ i k, 0 ≤ sw i k ∧ sw i k ≤ 1000 := fun i k => by rw [hsw]; exact HSw.out i k
  have Hsw := Lib.hid hsw
  have Hswb := Lib.hid hswb
  rw [← hsw]
  clear he c1 c2 hm hsw hswb
  go_enter Tryz.func71, Tryz.ntmps71
  go_wp2_with (first
    | (go_at_call 72; ((with_reducible refine (I1.out _).mono ?_); rintro e w1 ⟨A, ca, rfl, n1, hb1⟩))
    | (go_at_call 72; ((with_reducible refine (I2.out _).mono ?_); rintro e w2 ⟨B, cb, rfl, n2, hb2⟩; have n1 := n1.later hb2; have hbt := below_trans' hb1 hb2))
    | (go_at_call 73; refine (ref_codes _).mono ?_; rintro e w3 ⟨rfl, hC, hb3⟩; have n1 := n1.later hb3; have n2 := n2.later hb3; have hbt := below_trans' hbt hb3))
  have H0 := Lib.hid (RowA.made w3 38 (.slice none 0 0) (s.size + 1) rfl)
  have N1 := Lib.hid n1
  have N2 := Lib.hid n2
  have HC := Lib.hid hC
  have Hbt := Lib.hid hbt
  have hw2 := hb3.size
  clear n1 n2 hC hbt hb1 hb2 hb3 I1 I2
  obtain ⟨gc, hgc⟩ : ∃ g, g = w2.heap.size := ⟨_, rfl⟩
  rw [← hgc] at HC ⊢
  clear hgc
  go_loopw [13] (fun c wr => ∃ i : Nat, i ≤ s.size + 1 ∧ c = .int .i64 i ∧ FillO w3 s.size h.size (Cm.missC m) (Cm.extraC m) sw i wr) (fun c _ => s.size + 1 - (intOf c).toNat)
  case atStart => exact ⟨0, Nat.zero_le _, rfl, fun _ => 0, H0.out.congr fun k _ => by simp, fun j hj => absurd hj (by omega), below_alloc0 _⟩
  case round =>
    obtain ⟨i, hi, rfl, r, hg, hr, hb⟩ := hrel
    by_cases hlt : i < s.size + 1
    · obtain ⟨W2, hW2⟩ : ∃ W2, W2 = wr.alloc (.cells (madeCells (Value.int .i64 0).cells (h.size + 1)) 3) := ⟨_, rfl⟩
      have k2 := hmk2 wr
      rw [← hW2] at k2
      clear hmk2 hmk
      have hg2 : RowA W2 w3.heap.size 38 (s.size + 1) _ := hW2 ▸ hg.alloc _
      have hi2 : RowA W2 wr.heap.size 3 (h.size + 1) (fun _ => .int .i64 0) := hW2 ▸ RowA.made wr 3 (.int .i64 0) (h.size + 1) rfl
      have hr2 : ∀ j, j < i → w3.heap.size ≤ r j ∧ r j < wr.heap.size ∧ RowA W2 (r j) 3 (h.size + 1) (fun k => .int .i64 (Cm.T (Cm.missC m) (Cm.extraC m) sw j k)) := fun j hj => ⟨(hr j hj).1, (hr j hj).2.lt, hW2 ▸ (hr j hj).2.alloc _⟩
      have hb2 : Below w3.heap.size w3 W2 := hW2 ▸ hb.alloc hb.size _
      have hsz := hb.size
      have hlt2 := hg.lt
      clear hW2 hr
      have cg := hg2.cell hlt
      simp only [Nat.lt_irrefl, if_false] at cg
      have fg := hg2.frozen i
      have cg2 := hg2.put (k := i) (u := .slice (some ⟨wr.heap.size, 0, none⟩) (h.size + 1) (h.size + 1)) (f' := fun j => if j < i + 1 then .slice (some ⟨if j = i then wr.heap.size else r j, 0, none⟩) (h.size + 1) (h.size + 1) else .slice none 0 0) (fun j _ => by
        by_cases e : j = i
        · subst e; simp
        · by_cases e2 : j < i
          · simp [e, e2, show j < i + 1 by omega]
          · simp [e, e2, show ¬ j < i + 1 by omega])
      have cg3 := cg2.cell hlt
      simp only [Nat.lt_succ_self, if_true] at cg3
      obtain ⟨wo, rfl⟩ : ∃ wo : World, wo = wr := ⟨_, rfl⟩
      have hd0 : decide ((i : Int) ≤ (s.size : Int)) = true := by simp; omega
      have hd0' : decide (i ≤ s.size) = true := by simp; omega
      have hd1 : (i : Int) < (s.size : Int) + 1 := by omega
      have hd2 : (0 : Int) ≤ (i : Int) := by omega
      have q1 : IntKind.i64.wrap ((i : Int) + 1) = (i : Int) + 1 := IntWalk.i64_in _ (by omega)
      go_wp2
      clear q1
      go_loopw [14] (fun c wx => ∃ k : Nat, k ≤ h.size + 1 ∧ c = .int .i64 k ∧ FillI w3 s.size h.size (Cm.missC m) (Cm.extraC m) sw i r wo.heap.size k wx) (fun c _ => h.size + 1 - (intOf c).toNat)
      case atStart =>
        exact ⟨0, Nat.zero_le _, rfl, cg2, fun j hj => ⟨(hr2 j hj).1, (hr2 j hj).2.1, (hr2 j hj).2.2.far (by show r j ≠ _; exact (hr2 j hj).2.2.ne_ hg2 (by decide)) _⟩, hlt2, (hi2.far (by show wo.heap.size ≠ w3.heap.size; omega) _).congr fun k _ => by simp, hb2.setCell (Nat.le_refl _) _⟩
      case round =>
        obtain ⟨k, hk, rfl, hI⟩ := hrel
        clear cg2 cg3 cg fg hr2 hi2 hg2 hb2 k2 hd0 hd0'
        by_cases hkl : k < h.size + 1
        · have x1 : decide ((k : Int) ≤ (h.size : Int)) = true := by simp; omega
          have x1' : decide (k ≤ h.size) = true := by simp; omega
          have x2 : (k : Int) < (h.size : Int) + 1 := by omega
          have x3 : (0 : Int) ≤ (k : Int) := by omega
          have q1 : IntKind.i64.wrap ((k : Int) + 1) = (k : Int) + 1 := IntWalk.i64_in _ (by omega)
          have hsw1 := Hswb.out
          have cM : wr.cell? ⟨w3.heap.size, i, none⟩ = some (.slice (some ⟨wo.heap.size, 0, none⟩) (h.size + 1) (h.size + 1)) := (hI.1.cell (by omega)).trans (by simp)
          have c3 : wr.cell? ⟨wo.heap.size, k, none⟩ = some (.int .i64 0) := (hI.2.2.2.1.cell (by omega)).trans (by simp)
          have c4 := hI.2.2.2.1.frozen k
          have lM := hI.1.lt
          have lo := hI.2.2.2.1.lt
          have nM : ¬ wo.heap.size = w3.heap.size := by omega
          have HI := Lib.hid (fun (wy : World) (hb : Below wr.heap.size wr wy) (u : Int) (hu : u = Cm.T (Cm.missC m) (Cm.extraC m) sw i k) => hI.step hb hu)
          by_cases hi0 : i = 0
          · have Hi0 := Lib.hid hi0
            have v1 : ((i : Int) == 0) = true := by simp; omega
            have v2 : decide ((i : Int) > 0) = false := by simp; omega
            have v2' : decide (0 < i) = false := by simp; omega
            by_cases hk0 : k = 0
            · have Hk0 := Lib.hid hk0
              have v3 : ((k : Int) == 0) = true := by simp; omega
              have hN := Lib.hid (hI.stay (by rw [Hi0.out, Hk0.out, Cm.T_00]))
              clear hI hsw1 hi0 hk0
              go_wp2
              go_roundw
              case rel => exact ⟨k + 1, by omega, by go_num, hN.out⟩
              case measure => simp [intOf] <;> omega
            · have hk1 : 1 ≤ k := by omega
              have v3 : ((k : Int) == 0) = false := by simp; omega
              have v4 : decide ((k : Int) > 0) = true := by simp; omega
              have v4' : decide (0 < k) = true := by simp; omega
              have c2 : wr.cell? ⟨wo.heap.size, k - 1, none⟩ = some (.int .i64 (Cm.T (Cm.missC m) (Cm.extraC m) sw i (k - 1))) := (hI.2.2.2.1.cell (by omega)).trans (by rw [if_pos (by omega)])
              have b1 := Cm.T_bd (Cm.missC m) (Cm.extraC m) sw h0 h1 hsw1 i (k - 1) (by omega) (by omega)
              have w1 : IntKind.i64.wrap ((k : Int) - 1) = (k : Int) - 1 := IntWalk.i64_in _ (by omega)
              have w2 : (0 : Int) ≤ (k : Int) - 1 := by omega
              have w2' : (1 : Int) ≤ (k : Int) := by omega
              have w3' : ((k : Int) - 1).toNat = k - 1 := by omega
              have w5 : (k : Int) - 1 < (h.size : Int) + 1 := by omega
              have HF := Lib.hid (T_0p (Cm.missC m) (Cm.extraC m) sw i k hi0 hk1)
              have w4 : IntKind.i64.wrap (Cm.T (Cm.missC m) (Cm.extraC m) sw i (k - 1) + Cm.extraC m) = Cm.T (Cm.missC m) (Cm.extraC m) sw i (k - 1) + Cm.extraC m := IntWalk.i64_in _ (by omega)
              have B1 := Lib.hid b1
              have H1 := Lib.hid h1
              clear hI hsw1 hi0 hk0 b1 Hswb
              go_wp2
              go_region_held3 (fun w' => w'.cell? ⟨w3.heap.size, i, none⟩ = some (.slice (some ⟨wo.heap.size, 0, none⟩) (h.size + 1) (h.size + 1)) ∧ w'.cell? ⟨wo.heap.size, k - 1, none⟩ = some (.int .i64 (Cm.T (Cm.missC m) (Cm.extraC m) sw i (k - 1)))) (simp [*]) (first | (go_at_call 77; refine (ref_extra _ _).mono ?_; rintro e w' ⟨rfl, rfl⟩))
              all_goals
                go_wp2
                go_roundw
                case rel => exact ⟨k + 1, by omega, by go_num, HI.out _ ((Below.refl _ _).drew) _ (by have a := HF.out; have b := B1.out; have c := H1.out; omega)⟩
                case measure => simp [intOf] <;> omega
          · have hi1 : 1 ≤ i := by omega
            have v1 : ((i : Int) == 0) = false := by simp; omega
            have v2 : decide ((i : Int) > 0) = true := by simp; omega
            have v2' : decide (0 < i) = true := by simp; omega
            have c0 : wr.cell? ⟨w3.heap.size, i - 1, none⟩ = some (.slice (some ⟨r (i - 1), 0, none⟩) (h.size + 1) (h.size + 1)) := (hI.1.cell (by omega)).trans (by rw [if_pos (by omega), if_neg (by omega)])
            have hrr := hI.2.1 (i - 1) (by omega)
            have c5 : wr.cell? ⟨r (i - 1), k, none⟩ = some (.int .i64 (Cm.T (Cm.missC m) (Cm.extraC m) sw (i - 1) k)) := hrr.2.2.cell (by omega)
            have lr := hrr.2.2.lt
            have y1 : IntKind.i64.wrap ((i : Int) - 1) = (i : Int) - 1 := IntWalk.i64_in _ (by omega)
            have y2 : (0 : Int) ≤ (i : Int) - 1 := by omega
            have y2' : (1 : Int) ≤ (i : Int) := by omega
            have y3 : ((i : Int) - 1).toNat = i - 1 := by omega
            have y4 : (i : Int) - 1 < (s.size : Int) + 1 := by omega
            have y5 : ¬ wo.heap.size = r (i - 1) := by omega
            have b2 := Cm.T_bd (Cm.missC m) (Cm.extraC m) sw h0 h1 hsw1 (i - 1) k (by omega) (by omega)
            have y6 : IntKind.i64.wrap (Cm.T (Cm.missC m) (Cm.extraC m) sw (i - 1) k + Cm.missC m) = Cm.T (Cm.missC m) (Cm.extraC m) sw (i - 1) k + Cm.missC m := IntWalk.i64_in _ (by omega)
            by_cases hk0 : k = 0
            · have v3 : ((k : Int) == 0) = true := by simp; omega
              have v4 : decide ((k : Int) > 0) = false := by simp; omega
              have v4' : decide (0 < k) = false := by simp; omega
              have HF := Lib.hid (T_p0 (Cm.missC m) (Cm.extraC m) sw i k hk0 hi1)
              have B2 := Lib.hid b2
              have H0' := Lib.hid h0
              clear hI hsw1 hi0 hk0 b2 hrr Hswb
              go_wp2
              go_region_held3 (fun w' => w'.cell? ⟨w3.heap.size, i - 1, none⟩ = some (.slice (some ⟨r (i - 1), 0, none⟩) (h.size + 1) (h.size + 1)) ∧ w'.cell? ⟨r (i - 1), k, none⟩ = some (.int .i64 (Cm.T (Cm.missC m) (Cm.extraC m) sw (i - 1) k))) (simp [*]) (first | (go_at_call 76; refine (ref_miss _ _).mono ?_; rintro e w' ⟨rfl, rfl⟩))
              all_goals
                go_wp2
                go_roundw
                case rel => exact ⟨k + 1, by omega, by go_num, HI.out _ ((Below.refl _ _).drew) _ (by have a := HF.out; have b := B2.out; have c := H0'.out; omega)⟩
                case measure => simp [intOf] <;> omega
            · have hk1 : 1 ≤ k := by omega
              have v3 : ((k : Int) == 0) = false := by simp; omega
              have v4 : decide ((k : Int) > 0) = true := by simp; omega
              have v4' : decide (0 < k) = true := by simp; omega
              have c2 : wr.cell? ⟨wo.heap.size, k - 1, none⟩ = some (.int .i64 (Cm.T (Cm.missC m) (Cm.extraC m) sw i (k - 1))) := (hI.2.2.2.1.cell (by omega)).trans (by rw [if_pos (by omega)])
              have c6 : wr.cell? ⟨r (i - 1), k - 1, none⟩ = some (.int .i64 (Cm.T (Cm.missC m) (Cm.extraC m) sw (i - 1) (k - 1))) := hrr.2.2.cell (by omega)
              have b1 := Cm.T_bd (Cm.missC m) (Cm.extraC m) sw h0 h1 hsw1 i (k - 1) (by omega) (by omega)
              have b3 := Cm.T_bd (Cm.missC m) (Cm.extraC m) sw h0 h1 hsw1 (i - 1) (k - 1) (by omega) (by omega)
              have b4 := hsw1 (i - 1) (k - 1)
              have z1 : IntKind.i64.wrap ((k : Int) - 1) = (k : Int) - 1 := IntWalk.i64_in _ (by omega)
              have z2 : (0 : Int) ≤ (k : Int) - 1 := by omega
              have z2' : (1 : Int) ≤ (k : Int) := by omega
              have z3 : ((k : Int) - 1).toNat = k - 1 := by omega
              have z4 : (k : Int) - 1 < (h.size : Int) + 1 := by omega
              have z5 : (k : Int) - 1 < (h.size : Int) := by omega
              have z6 : (i : Int) - 1 < (s.size : Int) := by omega
              have z7 : IntKind.i64.wrap (Cm.T (Cm.missC m) (Cm.extraC m) sw i (k - 1) + Cm.extraC m) = Cm.T (Cm.missC m) (Cm.extraC m) sw i (k - 1) + Cm.extraC m := IntWalk.i64_in _ (by omega)
              have z8 : IntKind.i64.wrap (Cm.T (Cm.missC m) (Cm.extraC m) sw (i - 1) (k - 1) + sw (i - 1) (k - 1)) = Cm.T (Cm.missC m) (Cm.extraC m) sw (i - 1) (k - 1) + sw (i - 1) (k - 1) := IntWalk.i64_in _ (by omega)
              have HF := Lib.hid (T_pp (Cm.missC m) (Cm.extraC m) sw i k hk1 hi1)
              obtain ⟨pa, rfl, la, ca0⟩ := nums_row N1.out (j := i - 1) (by omega)
              obtain ⟨pb, rfl, lb, cb0⟩ := nums_row N2.out (j := k - 1) (by omega)
              have hbw := hI.2.2.2.2
              have cA := (hbw.cell (p := pa.add (i - 1)) (by rw [add_block]; exact la)).trans ca0
              have cB := (hbw.cell (p := pb.add (k - 1)) (by rw [add_block]; exact lb)).trans cb0
              have hx1 := HR1.out (i - 1) (by rw [row_length]; omega)
              have hx2 := HR2.out (k - 1) (by rw [row_length]; omega)
              have hswe : sw (i - 1) (k - 1) = Cm.sw m ((row s).getD (i - 1) 0) ((row h).getD (k - 1) 0) := by rw [Hsw.out]; rfl
              have HCr := HC.out.later hbw
              have HW := Lib.hid (fun W (hb : Below wr.heap.size wr W) => ref_swap gc m ((row s).getD (i - 1) 0) ((row h).getD (k - 1) 0) W Hm.out hx1 hx2 (HCr.later hb))
              rw [← hswe] at HW
              obtain ⟨xa, hxa⟩ : ∃ x, x = (row s).getD (i - 1) 0 := ⟨_, rfl⟩
              obtain ⟨xb, hxb⟩ : ∃ x, x = (row h).getD (k - 1) 0 := ⟨_, rfl⟩
              rw [← hxa] at cA HW
              rw [← hxb] at cB HW
              have BB := Lib.hid (And.intro b1 (And.intro b2 (And.intro b3 b4)))
              have H0' := Lib.hid h0
              have H1' := Lib.hid h1
              have lA : (pa.add (i - 1)).block < wr.heap.size := World.block_lt_of_cell? wr _ cA
              have lB : (pb.add (k - 1)).block < wr.heap.size := World.block_lt_of_cell? wr _ cB
              have HFz := Lib.hid (fun wy (hb : Below wr.heap.size wr wy) => (hI.2.2.2.1.later hb).frozen k)
              clear hI hsw1 hi0 hk0 b1 b2 b3 b4 hrr Hswb ca0 cb0 hbw hx1 hx2 hswe HCr hxa hxb
              have hD : Below wr.heap.size wr wr.drew := (Below.refl _ _).drew
              go_wp2
              go_region_held3 (fun w' => w'.cell? ⟨w3.heap.size, i - 1, none⟩ = some (.slice (some ⟨r (i - 1), 0, none⟩) (h.size + 1) (h.size + 1)) ∧ w'.cell? ⟨r (i - 1), k - 1, none⟩ = some (.int .i64 (Cm.T (Cm.missC m) (Cm.extraC m) sw (i - 1) (k - 1))) ∧ w'.cell? (pa.add (i - 1)) = some (.int .i64 (xa : Int)) ∧ w'.cell? (pb.add (k - 1)) = some (.int .i64 (xb : Int))) (simp [*]) (first | (go_at_call 75; refine (HW.out _ hD).mono ?_; rintro e w5 ⟨rfl, hb5⟩; have j0 := (hb5.cell (p := ⟨w3.heap.size, i - 1, none⟩) (by assumption)).trans c0; have j1 := (hb5.cell (p := ⟨r (i - 1), k - 1, none⟩) lr).trans c6; have j2 := (hb5.cell lA).trans cA; have j3 := (hb5.cell lB).trans cB))
              all_goals
                have g0 := (hb5.cell (p := ⟨w3.heap.size, i - 1, none⟩) (by assumption)).trans c0
                have g1 := (hb5.cell (p := ⟨r (i - 1), k, none⟩) lr).trans c5
                have g2 := (hb5.cell (p := ⟨w3.heap.size, i, none⟩) lM).trans cM
                have g3 := (hb5.cell (p := ⟨wo.heap.size, k - 1, none⟩) lo).trans c2
                have g4 := (hb5.cell (p := ⟨wo.heap.size, k, none⟩) lo).trans c3
                have hb6 : Below wr.heap.size wr w5 := hD.trans hb5
                have g5 := HFz.out _ hb6
                have Hb6 := Lib.hid hb6
                clear hb6 j0 j1 j2 j3 hb5 c0 c5 cM c2 c3 c4 cA cB HFz HW hD
                go_wp2
                go_region_held3 (fun w' => w'.cell? ⟨w3.heap.size, i - 1, none⟩ = some (.slice (some ⟨r (i - 1), 0, none⟩) (h.size + 1) (h.size + 1)) ∧ w'.cell? ⟨r (i - 1), k, none⟩ = some (.int .i64 (Cm.T (Cm.missC m) (Cm.extraC m) sw (i - 1) k))) (simp [*]) (first | (go_at_call 76; refine (ref_miss _ _).mono ?_; rintro e w' ⟨rfl, rfl⟩))
                all_goals
                  go_wp2
                  go_region_held3 (fun w' => w'.cell? ⟨w3.heap.size, i, none⟩ = some (.slice (some ⟨wo.heap.size, 0, none⟩) (h.size + 1) (h.size + 1)) ∧ w'.cell? ⟨wo.heap.size, k - 1, none⟩ = some (.int .i64 (Cm.T (Cm.missC m) (Cm.extraC m) sw i (k - 1)))) (simp [*]) (first | (go_at_call 77; refine (ref_extra _ _).mono ?_; rintro e w' ⟨rfl, rfl⟩))
                  all_goals
                    go_wp2
                    go_roundw
                    case rel => exact ⟨k + 1, by omega, by go_num, HI.out _ Hb6.out.drew.drew _ (by have a := HF.out; have b := BB.out; have c := H0'.out; have d := H1'.out; omega)⟩
                    case measure => simp [intOf] <;> omega
        · obtain rfl : k = h.size + 1 := by omega
          have x1 : decide (((h.size + 1 : Nat) : Int) ≤ (h.size : Int)) = false := by simp; omega
          have x1' : decide ((h.size : Int) + 1 ≤ (h.size : Int)) = false := by simp; omega
          have q1 : IntKind.i64.wrap ((i : Int) + 1) = (i : Int) + 1 := IntWalk.i64_in _ (by omega)
          have hO := Lib.hid hI.done
          clear hI
          go_wp2
          go_roundw
          case rel => exact ⟨i + 1, by omega, by go_num, hO.out⟩
          case measure => simp [intOf] <;> omega
    · obtain rfl : i = s.size + 1 := by omega
      clear hmk hmk2
      have f1 : decide (((s.size + 1 : Nat) : Int) ≤ (s.size : Int)) = false := by simp; omega
      have f1' : decide ((s.size : Int) + 1 ≤ (s.size : Int)) = false := by simp; omega
      have HT : Hid (Tab wr w.heap.size (.slice (some ⟨w3.heap.size, 0, none⟩) (s.size + 1) (s.size + 1)) (s.size + 1) (h.size + 1) (Cm.T (Cm.missC m) (Cm.extraC m) sw) ∧ Below w.heap.size w wr) :=
        ⟨⟨_, r, rfl, Hbt.out.size, hg.congr fun k hk => by rw [if_pos hk], fun j hj => ⟨Nat.le_trans Hbt.out.size (hr j hj).1, (hr j hj).2⟩⟩, below_trans' Hbt.out hb⟩
      clear hg hr hb
      go_wp2
      go_ret
      exact ⟨_, rfl, HT.out⟩
end Go.Proofs.YtgcddjgkieambaaGreatDoor
