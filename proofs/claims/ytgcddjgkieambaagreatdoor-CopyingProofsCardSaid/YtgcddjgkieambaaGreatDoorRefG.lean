/- The walk of the reference's 'rest': the table of what is left. -/
import Derived.Test.YtgcddjgkieambaaGreatDoorRefE
import Derived.Test.YtgcddjgkieambaaGreatDoorAlignP
set_option linter.unusedVariables false
set_option linter.unusedSimpArgs false
namespace Go.Proofs.YtgcddjgkieambaaGreatDoor
open Go.RowKit

/-- The rows from i on are done. -/
def RestO (w : World) (n m : Nat) (f : Nat → Nat → Int) (i : Nat) (wr : World) : Prop :=
  ∃ r : Nat → Nat, RowA wr w.heap.size 38 (n + 1) (fun j => if i ≤ j then .slice (some ⟨r j, 0, none⟩) (m + 1) (m + 1) else .slice none 0 0) ∧
    (∀ j, i ≤ j → j < n + 1 → w.heap.size ≤ r j ∧ RowA wr (r j) 3 (m + 1) (fun k => .int .i64 (f j k))) ∧ Below w.heap.size w wr
/-- Row i, in block b, is done from k on. -/
def RestI (w : World) (n m : Nat) (f : Nat → Nat → Int) (i : Nat) (r : Nat → Nat) (b k : Nat) (wx : World) : Prop :=
  RowA wx w.heap.size 38 (n + 1) (fun j => if i ≤ j then .slice (some ⟨if j = i then b else r j, 0, none⟩) (m + 1) (m + 1) else .slice none 0 0) ∧
    (∀ j, i < j → j < n + 1 → w.heap.size ≤ r j ∧ r j < b ∧ RowA wx (r j) 3 (m + 1) (fun k => .int .i64 (f j k))) ∧ w.heap.size < b ∧
    RowA wx b 3 (m + 1) (fun k' => .int .i64 (if k ≤ k' then f i k' else 0)) ∧ Below w.heap.size w wx
theorem RestI.done {w : World} {n m : Nat} {f : Nat → Nat → Int} {i : Nat} {r : Nat → Nat} {b : Nat} {wx : World} (h : RestI w n m f i r b 0 wx) : RestO w n m f i wx := by
  obtain ⟨h1, h2, h3, h4, h5⟩ := h
  refine ⟨fun j => if j = i then b else r j, h1, fun j hj hn => ?_, h5⟩
  by_cases e : j = i
  · subst e; simp only [if_true]; exact ⟨by omega, h4.congr fun k hk => by rw [if_pos (Nat.zero_le _)]⟩
  · simp only [e, if_false]; obtain ⟨a, _, c⟩ := h2 j (by omega) hn; exact ⟨a, c⟩
theorem RestI.stay {w : World} {n m : Nat} {f : Nat → Nat → Int} {i : Nat} {r : Nat → Nat} {b k : Nat} {wx : World} (h : RestI w n m f i r b (k + 1) wx) (hu : 0 = f i k) : RestI w n m f i r b k wx := by
  obtain ⟨h1, h2, h3, h4, h5⟩ := h
  refine ⟨h1, h2, h3, h4.congr fun j hj => ?_, h5⟩
  by_cases e : j = k
  · subst e; simp [← hu]
  · by_cases e2 : k ≤ j
    · simp [e2, show k + 1 ≤ j by omega]
    · simp [e2, show ¬ k + 1 ≤ j by omega]
theorem RestI.step {w : World} {n m : Nat} {f : Nat → Nat → Int} {i : Nat} {r : Nat → Nat} {b k : Nat} {wx wy : World} (h : RestI w n m f i r b (k + 1) wx) (hb : Below wx.heap.size wx wy) {u : Int} (hu : u = f i k) :
    RestI w n m f i r b k (wy.setCell ⟨b, k, none⟩ (.int .i64 u)) := by
  obtain ⟨h1, h2, h3, h4, h5⟩ := h
  subst hu
  refine ⟨(h1.later hb).far (by show w.heap.size ≠ b; omega) _, fun j hj hn => ⟨(h2 j hj hn).1, (h2 j hj hn).2.1, ((h2 j hj hn).2.2.later hb).far (by show r j ≠ b; have := (h2 j hj hn).2.1; omega) _⟩, h3, RowA.put (h4.later hb) (fun j hj => ?_), (h5.trans (hb.mono h5.size)).setCell (by show w.heap.size ≤ b; omega) _⟩
  by_cases e : j = k
  · subst e; simp
  · by_cases e2 : k ≤ j
    · simp [e, e2, show k + 1 ≤ j by omega]
    · simp [e, e2, show ¬ k + 1 ≤ j by omega]

set_option maxRecDepth 100000 in
set_option maxHeartbeats 8000000 in
theorem ref_rest (m : Int) (s h : ByteArray) (w : World) (he : errOf m s h = 0) :
    Calls Tryz.prog 74 #[.int .i64 m, .string s, .string h] w fun e w' => ∃ v, e = .returned v ∧ Tab w' w.heap.size v (s.size + 1) (h.size + 1) (Cm.Lf m (row s) (row h)) ∧ Below w.heap.size w w' := by
  obtain ⟨hm, l1, l2, c1, c2⟩ := errOf_okR he
  have I1 := Lib.hid (fun W => ref_ixok s W (by omega) c1)
  have I2 := Lib.hid (fun W => ref_ixok h W (by omega) c2)
  have HR1 := Lib.hid (fun j hj => row_lt c1 j hj)
  have HR2 := Lib.hid (fun j hj => row_lt c2 j hj)
  have Hm := Lib.hid hm
  have h0 := Cm.missC_bd m
  have h1 := Cm.extraC_bd m
  have hmk := fun W => run_mk (P := Tryz.prog) 37 38 _ _ Tryz.underlying37 info38 (s.size + 1) ((s.size : Int) + 1) (by omega) (by omega) (by omega) W
  have hmk2 := fun W => run_mk (P := Tryz.prog) 38 3 _ _ Tryz.underlying38 info3 (h.size + 1) ((h.size : Int) + 1) (by omega) (by omega) (by omega) W
  obtain ⟨f, hf⟩ : ∃ f, f = Cm.Lf m (row s) (row h) := ⟨_, rfl⟩
  obtain ⟨sw, hsw⟩ : ∃ sw, sw = Cm.atL m (row s) (row h) := ⟨_, rfl⟩
  have Fss := Lib.hid (fun i k (hi : i < s.size) (hk : k < h.size) => show f i k = min (min (Cm.missC m + f (i + 1) k) (Cm.extraC m + f i (k + 1))) (sw i k + f (i + 1) (k + 1)) by
    rw [hf, hsw]; exact Cm.Lf_ss (by rw [row_length]; exact hi) (by rw [row_length]; exact hk))
  have Fms := Lib.hid (fun i (hi : i < s.size) => show f i h.size = Cm.missC m + f (i + 1) h.size by rw [hf]; exact Cm.Lf_miss (by rw [row_length]; exact hi) (by rw [row_length]; exact Nat.le_refl _))
  have Fex := Lib.hid (fun k (hk : k < h.size) => show f s.size k = Cm.extraC m + f s.size (k + 1) by rw [hf]; exact Cm.Lf_extra (by rw [row_length]; exact Nat.le_refl _) (by rw [row_length]; exact hk))
  have Fen := Lib.hid (show 0 = f s.size h.size by rw [hf]; exact (Cm.Lf_end (by rw [row_length]; exact Nat.le_refl _) (by rw [row_length]; exact Nat.le_refl _)).symm)
  have Fbd := Lib.hid (fun i k => show 0 ≤ f i k ∧ f i k ≤ 20000 by rw [hf]; exact Cm.Lf_bd (by rw [row_length]; omega) (by rw [row_length]; omega))
  have Sbd := Lib.hid (fun i k => show 0 ≤ sw i k ∧ sw i k ≤ 1000 by rw [hsw]; exact Cm.atL_bd)
  have Hsw := Lib.hid hsw
  rw [← hf]
  clear he c1 c2 hm hsw hf
  go_enter Tryz.func74, Tryz.ntmps74
  go_wp2_with (first
    | (go_at_call 72; ((with_reducible refine (I1.out _).mono ?_); rintro e w1 ⟨A, ca, rfl, n1, hb1⟩))
    | (go_at_call 72; ((with_reducible refine (I2.out _).mono ?_); rintro e w2 ⟨B, cb, rfl, n2, hb2⟩; have n1 := n1.later hb2; have hbt := below_trans' hb1 hb2))
    | (go_at_call 73; refine (ref_codes _).mono ?_; rintro e w3 ⟨rfl, hC, hb3⟩; have n1 := n1.later hb3; have n2 := n2.later hb3; have hbt := below_trans' hbt hb3))
  have H0 := Lib.hid (RowA.made w3 38 (.slice none 0 0) (s.size + 1) rfl)
  have N1 := Lib.hid n1
  have N2 := Lib.hid n2
  have HC := Lib.hid hC
  have Hbt := Lib.hid hbt
  have hw2 := hb3.size
  clear n1 n2 hC hbt hb1 hb2 hb3 I1 I2
  obtain ⟨gc, hgc⟩ : ∃ g, g = w2.heap.size := ⟨_, rfl⟩
  rw [← hgc] at HC ⊢
  clear hgc
  go_loopw [13] (fun c wr => ∃ (i : Nat) (z : Int), i ≤ s.size + 1 ∧ z = (i : Int) - 1 ∧ c = .int .i64 z ∧ RestO w3 s.size h.size f i wr) (fun c _ => (intOf c + 1).toNat)
  case atStart => exact ⟨s.size + 1, (s.size : Int), Nat.le_refl _, by omega, rfl, fun _ => 0, H0.out.congr fun k hk => by rw [if_neg (by omega)], fun j hj hn => absurd hj (by omega), below_alloc0 _⟩
  case round =>
    obtain ⟨i', z, hi', hz, rfl, r, hg, hr, hb⟩ := hrel
    by_cases hi0 : i' = 0
    · subst hi0
      obtain rfl : z = -1 := by omega
      clear hmk hmk2 hz
      have HT : Hid (Tab wr w.heap.size (.slice (some ⟨w3.heap.size, 0, none⟩) (s.size + 1) (s.size + 1)) (s.size + 1) (h.size + 1) f ∧ Below w.heap.size w wr) :=
        ⟨⟨_, r, rfl, Hbt.out.size, hg.congr fun k hk => by rw [if_pos (Nat.zero_le _)], fun j hj => ⟨Nat.le_trans Hbt.out.size (hr j (Nat.zero_le _) hj).1, (hr j (Nat.zero_le _) hj).2⟩⟩, below_trans' Hbt.out hb⟩
      clear hg hr hb
      go_wp2
      go_ret
      exact ⟨_, rfl, HT.out⟩
    · obtain ⟨i, rfl⟩ : ∃ i, i' = i + 1 := ⟨i' - 1, by omega⟩
      obtain rfl : z = (i : Int) := by omega
      clear hz hi0
      have hi : i < s.size + 1 := by omega
      obtain ⟨W2, hW2⟩ : ∃ W2, W2 = wr.alloc (.cells (madeCells (Value.int .i64 0).cells (h.size + 1)) 3) := ⟨_, rfl⟩
      have k2 := hmk2 wr
      rw [← hW2] at k2
      clear hmk2 hmk
      have hg2 : RowA W2 w3.heap.size 38 (s.size + 1) _ := hW2 ▸ hg.alloc _
      have hi2 : RowA W2 wr.heap.size 3 (h.size + 1) (fun _ => .int .i64 0) := hW2 ▸ RowA.made wr 3 (.int .i64 0) (h.size + 1) rfl
      have hr2 : ∀ j, i < j → j < s.size + 1 → w3.heap.size ≤ r j ∧ r j < wr.heap.size ∧ RowA W2 (r j) 3 (h.size + 1) (fun k => .int .i64 (f j k)) := fun j hj hn => ⟨(hr j hj hn).1, (hr j hj hn).2.lt, hW2 ▸ (hr j hj hn).2.alloc _⟩
      have hb2 : Below w3.heap.size w3 W2 := hW2 ▸ hb.alloc hb.size _
      have hsz := hb.size
      have hlt2 := hg.lt
      clear hW2 hr
      have cg := hg2.cell hi
      rw [if_neg (by omega)] at cg
      have fg := hg2.frozen i
      have cg2 := hg2.put (k := i) (u := .slice (some ⟨wr.heap.size, 0, none⟩) (h.size + 1) (h.size + 1)) (f' := fun j => if i ≤ j then .slice (some ⟨if j = i then wr.heap.size else r j, 0, none⟩) (h.size + 1) (h.size + 1) else .slice none 0 0) (fun j _ => by
        by_cases e : j = i
        · subst e; simp
        · by_cases e2 : i ≤ j
          · simp [e, e2, show i + 1 ≤ j by omega]
          · simp [e, e2, show ¬ i + 1 ≤ j by omega])
      have cg3 := cg2.cell hi
      simp only [Nat.le_refl, if_true] at cg3
      obtain ⟨wo, rfl⟩ : ∃ wo : World, wo = wr := ⟨_, rfl⟩
      have hd1 : (i : Int) < (s.size : Int) + 1 := by omega
      have hd2 : (0 : Int) ≤ (i : Int) := by omega
      have q1 : IntKind.i64.wrap ((i : Int) - 1) = (i : Int) - 1 := IntWalk.i64_in _ (by omega)
      go_wp2
      clear q1
      go_loopw [14] (fun c wx => ∃ (k : Nat) (z : Int), k ≤ h.size + 1 ∧ z = (k : Int) - 1 ∧ c = .int .i64 z ∧ RestI w3 s.size h.size f i r wo.heap.size k wx) (fun c _ => (intOf c + 1).toNat)
      case atStart =>
        exact ⟨h.size + 1, (h.size : Int), Nat.le_refl _, by omega, rfl, cg2, fun j hj hn => ⟨(hr2 j hj hn).1, (hr2 j hj hn).2.1, (hr2 j hj hn).2.2.far (by show r j ≠ _; exact (hr2 j hj hn).2.2.ne_ hg2 (by decide)) _⟩, hlt2, (hi2.far (by show wo.heap.size ≠ w3.heap.size; omega) _).congr fun k hk => by rw [if_neg (by omega)], hb2.setCell (Nat.le_refl _) _⟩
      case round =>
        obtain ⟨k', z, hk', hz, rfl, hI⟩ := hrel
        clear cg2 cg3 cg fg hr2 hi2 hg2 hb2 k2
        by_cases hk0 : k' = 0
        · subst hk0
          obtain rfl : z = -1 := by omega
          have q1 : IntKind.i64.wrap ((i : Int) - 1) = (i : Int) - 1 := IntWalk.i64_in _ (by omega)
          have hO := Lib.hid hI.done
          clear hI hz
          go_wp2
          go_roundw
          case rel => exact ⟨i, (i : Int) - 1, by omega, rfl, rfl, hO.out⟩
          case measure => simp [intOf] <;> omega
        · obtain ⟨k, rfl⟩ : ∃ k, k' = k + 1 := ⟨k' - 1, by omega⟩
          obtain rfl : z = (k : Int) := by omega
          clear hz hk0
          have x2 : (k : Int) < (h.size : Int) + 1 := by omega
          have x3 : (0 : Int) ≤ (k : Int) := by omega
          have q1 : IntKind.i64.wrap ((k : Int) - 1) = (k : Int) - 1 := IntWalk.i64_in _ (by omega)
          have cM : wr.cell? ⟨w3.heap.size, i, none⟩ = some (.slice (some ⟨wo.heap.size, 0, none⟩) (h.size + 1) (h.size + 1)) := (hI.1.cell (by omega)).trans (by simp)
          have c3 : wr.cell? ⟨wo.heap.size, k, none⟩ = some (.int .i64 0) := (hI.2.2.2.1.cell (by omega)).trans (by rw [if_neg (by omega)])
          have c4 := hI.2.2.2.1.frozen k
          have lM := hI.1.lt
          have lo := hI.2.2.2.1.lt
          have nM : ¬ wo.heap.size = w3.heap.size := by omega
          have HI := Lib.hid (fun (wy : World) (hb : Below wr.heap.size wr wy) (u : Int) (hu : u = f i k) => hI.step hb hu)
          have H0' := Lib.hid h0
          have H1' := Lib.hid h1
          by_cases hin : i = s.size
          · have Hin := Lib.hid hin
            have v1 : ((i : Int) == (s.size : Int)) = true := by simp; omega
            have v1' : (i == s.size) = true := by simp; omega
            have v2 : decide ((i : Int) < (s.size : Int)) = false := by simp; omega
            have v2' : decide (i < s.size) = false := by simp; omega
            by_cases hkn : k = h.size
            · have v3 : ((k : Int) == (h.size : Int)) = true := by simp; omega
              have v3' : (k == h.size) = true := by simp; omega
              have hN := Lib.hid (hI.stay (by rw [hin, hkn]; exact Fen.out))
              clear hI hin hkn
              go_wp2
              go_roundw
              case rel => exact ⟨k, (k : Int) - 1, by omega, rfl, rfl, hN.out⟩
              case measure => simp [intOf] <;> omega
            · have v3 : ((k : Int) == (h.size : Int)) = false := by simp; omega
              have v3' : (k == h.size) = false := by simp; omega
              have v4 : decide ((k : Int) < (h.size : Int)) = true := by simp; omega
              have v4' : decide (k < h.size) = true := by simp; omega
              have c2 : wr.cell? ⟨wo.heap.size, k + 1, none⟩ = some (.int .i64 (f i (k + 1))) := (hI.2.2.2.1.cell (by omega)).trans (by rw [if_pos (Nat.le_refl _)])
              have w1 : IntKind.i64.wrap ((k : Int) + 1) = (k : Int) + 1 := IntWalk.i64_in _ (by omega)
              have w2 : (0 : Int) ≤ (k : Int) + 1 := by omega
              have w3' : ((k : Int) + 1).toNat = k + 1 := by omega
              have w5 : (k : Int) + 1 < (h.size : Int) + 1 := by omega
              have w6 : (k : Int) < (h.size : Int) := by omega
              have HF := Lib.hid (Fex.out k (by omega))
              rw [← hin] at HF
              have b1 := Fbd.out i (k + 1)
              have w4 : IntKind.i64.wrap (f i (k + 1) + Cm.extraC m) = f i (k + 1) + Cm.extraC m := IntWalk.i64_in _ (by omega)
              have B1 := Lib.hid b1
              clear hI hin hkn b1
              go_wp2
              go_region_held3 (fun w' => w'.cell? ⟨w3.heap.size, i, none⟩ = some (.slice (some ⟨wo.heap.size, 0, none⟩) (h.size + 1) (h.size + 1)) ∧ w'.cell? ⟨wo.heap.size, k + 1, none⟩ = some (.int .i64 (f i (k + 1)))) (simp [*]) (first | (go_at_call 77; refine (ref_extra _ _).mono ?_; rintro e w' ⟨rfl, rfl⟩))
              all_goals
                go_wp2
                go_roundw
                case rel => exact ⟨k, (k : Int) - 1, by omega, rfl, rfl, HI.out _ ((Below.refl _ _).drew) _ (by have a := HF.out; have b := B1.out; have c := H1'.out; omega)⟩
                case measure => simp [intOf] <;> omega
          · have v1 : ((i : Int) == (s.size : Int)) = false := by simp; omega
            have v1' : (i == s.size) = false := by simp; omega
            have v2 : decide ((i : Int) < (s.size : Int)) = true := by simp; omega
            have v2' : decide (i < s.size) = true := by simp; omega
            have c0 : wr.cell? ⟨w3.heap.size, i + 1, none⟩ = some (.slice (some ⟨r (i + 1), 0, none⟩) (h.size + 1) (h.size + 1)) := (hI.1.cell (by omega)).trans (by rw [if_pos (by omega), if_neg (by omega)])
            have hrr := hI.2.1 (i + 1) (by omega) (by omega)
            have c5 : wr.cell? ⟨r (i + 1), k, none⟩ = some (.int .i64 (f (i + 1) k)) := hrr.2.2.cell (by omega)
            have lr := hrr.2.2.lt
            have y1 : IntKind.i64.wrap ((i : Int) + 1) = (i : Int) + 1 := IntWalk.i64_in _ (by omega)
            have y2 : (0 : Int) ≤ (i : Int) + 1 := by omega
            have y3 : ((i : Int) + 1).toNat = i + 1 := by omega
            have y4 : (i : Int) + 1 < (s.size : Int) + 1 := by omega
            have y6 : (i : Int) < (s.size : Int) := by omega
            have y5 : ¬ wo.heap.size = r (i + 1) := by omega
            have b2 := Fbd.out (i + 1) k
            have y7 : IntKind.i64.wrap (f (i + 1) k + Cm.missC m) = f (i + 1) k + Cm.missC m := IntWalk.i64_in _ (by omega)
            by_cases hkn : k = h.size
            · have v3 : ((k : Int) == (h.size : Int)) = true := by simp; omega
              have v3' : (k == h.size) = true := by simp; omega
              have v4 : decide ((k : Int) < (h.size : Int)) = false := by simp; omega
              have v4' : decide (k < h.size) = false := by simp; omega
              have HF := Lib.hid (Fms.out i (by omega))
              rw [← hkn] at HF
              have B2 := Lib.hid b2
              clear hI hin hkn b2 hrr
              go_wp2
              go_region_held3 (fun w' => w'.cell? ⟨w3.heap.size, i + 1, none⟩ = some (.slice (some ⟨r (i + 1), 0, none⟩) (h.size + 1) (h.size + 1)) ∧ w'.cell? ⟨r (i + 1), k, none⟩ = some (.int .i64 (f (i + 1) k))) (simp [*]) (first | (go_at_call 76; refine (ref_miss _ _).mono ?_; rintro e w' ⟨rfl, rfl⟩))
              all_goals
                go_wp2
                go_roundw
                case rel => exact ⟨k, (k : Int) - 1, by omega, rfl, rfl, HI.out _ ((Below.refl _ _).drew) _ (by have a := HF.out; have b := B2.out; have c := H0'.out; omega)⟩
                case measure => simp [intOf] <;> omega
            · have v3 : ((k : Int) == (h.size : Int)) = false := by simp; omega
              have v3' : (k == h.size) = false := by simp; omega
              have v4 : decide ((k : Int) < (h.size : Int)) = true := by simp; omega
              have v4' : decide (k < h.size) = true := by simp; omega
              have c2 : wr.cell? ⟨wo.heap.size, k + 1, none⟩ = some (.int .i64 (f i (k + 1))) := (hI.2.2.2.1.cell (by omega)).trans (by rw [if_pos (Nat.le_refl _)])
              have c6 : wr.cell? ⟨r (i + 1), k + 1, none⟩ = some (.int .i64 (f (i + 1) (k + 1))) := hrr.2.2.cell (by omega)
              have b1 := Fbd.out i (k + 1)
              have b3 := Fbd.out (i + 1) (k + 1)
              have b4 := Sbd.out i k
              have z1 : IntKind.i64.wrap ((k : Int) + 1) = (k : Int) + 1 := IntWalk.i64_in _ (by omega)
              have z2 : (0 : Int) ≤ (k : Int) + 1 := by omega
              have z3 : ((k : Int) + 1).toNat = k + 1 := by omega
              have z4 : (k : Int) + 1 < (h.size : Int) + 1 := by omega
              have z6 : (k : Int) < (h.size : Int) := by omega
              have z7 : IntKind.i64.wrap (f i (k + 1) + Cm.extraC m) = f i (k + 1) + Cm.extraC m := IntWalk.i64_in _ (by omega)
              have z8 : IntKind.i64.wrap (f (i + 1) (k + 1) + sw i k) = f (i + 1) (k + 1) + sw i k := IntWalk.i64_in _ (by omega)
              have HF := Lib.hid (Fss.out i k (by omega) (by omega))
              obtain ⟨pa, rfl, la, ca0⟩ := nums_row N1.out (j := i) (by omega)
              obtain ⟨pb, rfl, lb, cb0⟩ := nums_row N2.out (j := k) (by omega)
              have hbw := hI.2.2.2.2
              have cA := (hbw.cell (p := pa.add i) (by rw [add_block]; exact la)).trans ca0
              have cB := (hbw.cell (p := pb.add k) (by rw [add_block]; exact lb)).trans cb0
              have hx1 := HR1.out i (by rw [row_length]; omega)
              have hx2 := HR2.out k (by rw [row_length]; omega)
              have hswe : sw i k = Cm.sw m ((row s).getD i 0) ((row h).getD k 0) := by rw [Hsw.out]; rfl
              have HCr := HC.out.later hbw
              have HW := Lib.hid (fun W (hb : Below wr.heap.size wr W) => ref_swap gc m ((row s).getD i 0) ((row h).getD k 0) W Hm.out hx1 hx2 (HCr.later hb))
              rw [← hswe] at HW
              obtain ⟨xa, hxa⟩ : ∃ x, x = (row s).getD i 0 := ⟨_, rfl⟩
              obtain ⟨xb, hxb⟩ : ∃ x, x = (row h).getD k 0 := ⟨_, rfl⟩
              rw [← hxa] at cA HW
              rw [← hxb] at cB HW
              have BB := Lib.hid (And.intro b1 (And.intro b2 (And.intro b3 b4)))
              have lA : (pa.add i).block < wr.heap.size := World.block_lt_of_cell? wr _ cA
              have lB : (pb.add k).block < wr.heap.size := World.block_lt_of_cell? wr _ cB
              have HFz := Lib.hid (fun wy (hb : Below wr.heap.size wr wy) => (hI.2.2.2.1.later hb).frozen k)
              clear hI hin hkn b1 b2 b3 b4 hrr ca0 cb0 hbw hx1 hx2 hswe HCr hxa hxb
              have hD : Below wr.heap.size wr wr.drew := (Below.refl _ _).drew
              go_wp2
              go_region_held3 (fun w' => w'.cell? ⟨w3.heap.size, i + 1, none⟩ = some (.slice (some ⟨r (i + 1), 0, none⟩) (h.size + 1) (h.size + 1)) ∧ w'.cell? ⟨r (i + 1), k + 1, none⟩ = some (.int .i64 (f (i + 1) (k + 1))) ∧ w'.cell? (pa.add i) = some (.int .i64 (xa : Int)) ∧ w'.cell? (pb.add k) = some (.int .i64 (xb : Int))) (simp [*]) (first | (go_at_call 75; refine (HW.out _ hD).mono ?_; rintro e w5 ⟨rfl, hb5⟩; have j0 := (hb5.cell (p := ⟨w3.heap.size, i + 1, none⟩) (by assumption)).trans c0; have j1 := (hb5.cell (p := ⟨r (i + 1), k + 1, none⟩) lr).trans c6; have j2 := (hb5.cell lA).trans cA; have j3 := (hb5.cell lB).trans cB))
              all_goals
                have g0 := (hb5.cell (p := ⟨w3.heap.size, i + 1, none⟩) (by assumption)).trans c0
                have g1 := (hb5.cell (p := ⟨r (i + 1), k, none⟩) lr).trans c5
                have g2 := (hb5.cell (p := ⟨w3.heap.size, i, none⟩) lM).trans cM
                have g3 := (hb5.cell (p := ⟨wo.heap.size, k + 1, none⟩) lo).trans c2
                have g4 := (hb5.cell (p := ⟨wo.heap.size, k, none⟩) lo).trans c3
                have hb6 : Below wr.heap.size wr w5 := hD.trans hb5
                have g5 := HFz.out _ hb6
                have Hb6 := Lib.hid hb6
                clear hb6 j0 j1 j2 j3 hb5 c0 c5 cM c2 c3 c4 cA cB HFz HW hD
                go_wp2
                go_region_held3 (fun w' => w'.cell? ⟨w3.heap.size, i + 1, none⟩ = some (.slice (some ⟨r (i + 1), 0, none⟩) (h.size + 1) (h.size + 1)) ∧ w'.cell? ⟨r (i + 1), k, none⟩ = some (.int .i64 (f (i + 1) k))) (simp [*]) (first | (go_at_call 76; refine (ref_miss _ _).mono ?_; rintro e w' ⟨rfl, rfl⟩))
                all_goals
                  go_wp2
                  go_region_held3 (fun w' => w'.cell? ⟨w3.heap.size, i, none⟩ = some (.slice (some ⟨wo.heap.size, 0, none⟩) (h.size + 1) (h.size + 1)) ∧ w'.cell? ⟨wo.heap.size, k + 1, none⟩ = some (.int .i64 (f i (k + 1)))) (simp [*]) (first | (go_at_call 77; refine (ref_extra _ _).mono ?_; rintro e w' ⟨rfl, rfl⟩))
                  all_goals
                    go_wp2
                    go_roundw
                    case rel => exact ⟨k, (k : Int) - 1, by omega, rfl, rfl, HI.out _ Hb6.out.drew.drew _ (by have a := HF.out; have b := BB.out; have c := H0'.out; have d := H1'.out; omega)⟩
                    case measure => simp [intOf] <;> omega
end Go.Proofs.YtgcddjgkieambaaGreatDoor
