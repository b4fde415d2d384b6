/- The walk of the reference's 'CheckAlign'. Printed by proa.py. -/
import Derived.Test.YtgcddjgkieambaaGreatDoorWitA
import Derived.Test.YtgcddjgkieambaaGreatDoorRefG
set_option linter.unusedVariables false
set_option linter.unusedSimpArgs false
namespace Go.Proofs.YtgcddjgkieambaaGreatDoor
open Go.RowKit

set_option maxRecDepth 100000 in
set_option maxHeartbeats 1000000 in
theorem refCkAl_no (m : Int) (s h : ByteArray) (v : Value) (w : World) (he : errOf m s h ≠ 0) :
    Calls Tryz.prog 49 #[.int .i64 m, .string s, .string h, v] w fun e w' => e = .returned (.tuple #[.int .i64 0, .int .i64 (errOf m s h)]) ∧ Below w.heap.size w w' := by
  have HT := Lib.hid (fun W => ref_texts m s h W)
  obtain ⟨er, her⟩ : ∃ er, er = errOf m s h := ⟨_, rfl⟩
  rw [← her] at HT he ⊢
  have h0 : (er != 0) = true := by simpa using he
  clear he her
  go_enter Tryz.func49, Tryz.ntmps49
  go_wp2_with (go_at_call 70; refine (HT.out _).mono ?_; rintro e w1 ⟨rfl, hb1⟩)
  go_ret2
  exact ⟨rfl, hb1⟩
theorem nums_listP {w : World} {A : Option Addr} {xs : List Nat} (h : Nums w A (xs.map fun (k : Nat) => (k : Int))) {j : Nat} (hj : j < xs.length) : ∃ a, A = some a ∧ a.block < w.heap.size ∧ w.cell? (a.add j) = some (.int .i64 (xs.getD j 0 : Nat)) := by
  obtain ⟨a, e, hb, hc⟩ := h j (by rw [List.length_map]; exact hj)
  refine ⟨a, e, hb, ?_⟩
  rw [hc, getD_get _ _ (by rw [List.length_map]; exact hj), getD_get _ _ hj, List.getElem_map]
theorem ck_none {n m : Nat} {at_ : Nat → Nat → Int} {ms ex : Int} {l : List (Int × Int × Int)} {i k j : Nat} {c s1 s2 s3 : Int} (hlt : j < l.length) (hpre : Cm.ckFrom n m at_ ms ex (l.take j) (0, 0, 0) = some (i, k, c)) (hx : (s1, s2, s3) = l.getD j (0, 0, 0))
    (a : ¬ (i < n ∧ k < m ∧ s1 = i ∧ s2 = k ∧ s3 = at_ i k)) (b : ¬ (i < n ∧ s1 = i ∧ s2 = -1 ∧ s3 = ms)) (d : ¬ (k < m ∧ s1 = -1 ∧ s2 = k ∧ s3 = ex)) : Cm.ckFrom n m at_ ms ex l (0, 0, 0) = none := by
  refine Cm.ckFrom_fail l (j + 1) _ ?_
  rw [Cm.ckFrom_next l j hlt, hpre, Option.bind_some, ← hx, Cm.ckNext, Cm.ckStep, if_neg (fun e => a ?_), if_neg (fun e => b ?_), if_neg (fun e => d ?_)]
  · rfl
  · have h := e.2; simp only [Prod.mk.injEq] at h; exact ⟨e.1, h⟩
  · have h := e.2; simp only [Prod.mk.injEq] at h; exact ⟨e.1, h⟩
  · have h := e.2.2; simp only [Prod.mk.injEq] at h; exact ⟨e.1, e.2.1, h⟩

set_option maxRecDepth 100000 in
set_option maxHeartbeats 8000000 in
theorem refCkAl_ok (m : Int) (s h : ByteArray) (R : Option Addr) (cr : Nat) (l : List (Int × Int × Int)) (w : World) (hS : StepsG w R l) (hl : l.length ≤ 1000000) (he : errOf m s h = 0) :
    Calls Tryz.prog 49 #[.int .i64 m, .string s, .string h, .slice R l.length cr] w fun e w' => e = .returned (.tuple #[.int .i64 (ckN1 m s h l), .int .i64 (ckE1 m s h l)]) ∧ Below w.heap.size w w' := by
  obtain ⟨hm, l1, l2, c1, c2⟩ := errOf_ok he
  have I1 := Lib.hid (fun W => ref_ixok s W (by omega) c1)
  have I2 := Lib.hid (fun W => ref_ixok h W (by omega) c2)
  have HT := Lib.hid (fun W => ref_texts m s h W)
  rw [he] at HT
  have HR1 := Lib.hid (fun j hj => row_lt c1 j hj)
  have HR2 := Lib.hid (fun j hj => row_lt c2 j hj)
  rw [← row_length s] at I1 l1
  rw [← row_length h] at I2 l2
  have hN1 : ckN1 m s h l = (Cm.ckAl m (row s) (row h) l).getD 0 := by rw [ckN1, if_neg (fun h => h he)]
  have hE1 : ckE1 m s h l = if (Cm.ckAl m (row s) (row h) l).isSome then 0 else 42 := by rw [ckE1, if_neg (fun h => h he)]
  obtain ⟨xs, hxs⟩ : ∃ xs, xs = row s := ⟨_, rfl⟩
  obtain ⟨ys, hys⟩ : ∃ ys, ys = row h := ⟨_, rfl⟩
  rw [← hxs] at I1 l1 HR1 hN1 hE1
  rw [← hys] at I2 l2 HR2 hN1 hE1
  have HN := Lib.hid (ck_law m xs ys l _ _ hN1 hE1)
  obtain ⟨N, hNN⟩ : ∃ N, N = ckN1 m s h l := ⟨_, rfl⟩
  obtain ⟨E, hEE⟩ : ∃ E, E = ckE1 m s h l := ⟨_, rfl⟩
  rw [← hNN, ← hEE] at HN ⊢
  obtain ⟨at_, hat_⟩ : ∃ a, a = Cm.atL m xs ys := ⟨_, rfl⟩
  obtain ⟨ms, hms0⟩ : ∃ a, a = Cm.missC m := ⟨_, rfl⟩
  obtain ⟨ex, hex0⟩ : ∃ a, a = Cm.extraC m := ⟨_, rfl⟩
  rw [← hat_, ← hms0, ← hex0] at HN
  have hmsb : 0 ≤ ms ∧ ms ≤ 10 := by rw [hms0]; exact Cm.missC_bd m
  have hexb : 0 ≤ ex ∧ ex ≤ 10 := by rw [hex0]; exact Cm.extraC_bd m
  have hat : ∀ i k, 0 ≤ at_ i k ∧ at_ i k ≤ 1000 := fun i k => by rw [hat_]; exact Cm.atL_bd
  have HM := Lib.hid (fun W => ref_miss m W)
  have HE := Lib.hid (fun W => ref_extra m W)
  rw [← hms0] at HM
  rw [← hex0] at HE
  have Hat := Lib.hid hat
  have Hat_ := Lib.hid hat_
  have HS := Lib.hid hS
  have Hm := Lib.hid hm
  clear hxs hys c1 c2 hm hN1 hE1 hNN hEE hS hat_ hms0 hex0 hat he
  go_enter Tryz.func49, Tryz.ntmps49
  go_wp2_with (first
    | (go_at_call 70; refine (HT.out _).mono ?_; rintro e w0 ⟨rfl, hb0⟩)
    | (go_at_call 72; ((with_reducible refine (I1.out _).mono ?_); rintro e w1 ⟨A, ca, rfl, n1, hb1⟩; have hbt := below_trans' hb0 hb1))
    | (go_at_call 72; ((with_reducible refine (I2.out _).mono ?_); rintro e w2 ⟨B, cb, rfl, n2, hb2⟩; have n1 := n1.later hb2; have hbt := below_trans' hbt hb2))
    | (go_at_call 73; refine (ref_codes _).mono ?_; rintro e w3 ⟨rfl, hC, hb3⟩; have n1 := n1.later hb3; have n2 := n2.later hb3; have hbt := below_trans' hbt hb3))
  have N1 := Lib.hid n1
  have N2 := Lib.hid n2
  have HC := Lib.hid hC
  have Hb1 := Lib.hid hbt
  have HSt := Lib.hid (HS.out.later hbt)
  obtain ⟨gc, hgc⟩ : ∃ g, g = w2.heap.size := ⟨_, rfl⟩
  rw [← hgc] at HC ⊢
  clear n1 n2 hC hbt hb0 hb1 hb2 hb3 hgc I1 I2 HT HS
  go_loopw [16, 17, 18, 19] (fun v12 v13 v14 v29 wx => ∃ (i k j : Nat) (c : Int), v12 = .int .i64 i ∧ v13 = .int .i64 k ∧ v14 = .int .i64 c ∧ v29 = .int .i64 j ∧ j ≤ l.length ∧ i ≤ xs.length ∧ k ≤ ys.length ∧ Cm.ckFrom xs.length ys.length at_ ms ex (l.take j) (0, 0, 0) = some (i, k, c) ∧ Below w3.heap.size w3 wx) (fun _ _ _ v29 _ => l.length - (intOf v29).toNat)
  case atStart => exact ⟨0, 0, 0, 0, rfl, rfl, rfl, rfl, by omega, by omega, by omega, rfl, Below.refl _ _⟩
  case round =>
    obtain ⟨i, k, j, c, rfl, rfl, rfl, rfl, hj, hi, hk, hpre, hb⟩ := hrel
    by_cases hlt : j < l.length
    case neg =>
      obtain rfl : j = l.length := by omega
      rw [List.take_length] at hpre
      have Hn := Lib.hid (HN.out.2 i k c hpre)
      have e1 : decide ((l.length : Int) < (l.length : Int)) = false := by simp
      have Hb := Lib.hid hb
      clear hpre hb
      by_cases hin : i < xs.length
      · have d1 : decide ((i : Int) < (xs.length : Int)) = true := by simp; omega
        have d1' : decide (i < xs.length) = true := by simp; omega
        have Hno := Lib.hid (Hn.out.1 (Or.inl hin))
        go_wp2
        go_ret2
        exact ⟨by rw [Hno.out.1, Hno.out.2]; rfl, below_trans' Hb1.out Hb.out⟩
      · have d1 : decide ((i : Int) < (xs.length : Int)) = false := by simp; omega
        have d1' : decide (i < xs.length) = false := by simp; omega
        by_cases hkm : k < ys.length
        · have d2 : decide ((k : Int) < (ys.length : Int)) = true := by simp; omega
          have d2' : decide (k < ys.length) = true := by simp; omega
          have Hno := Lib.hid (Hn.out.1 (Or.inr hkm))
          go_wp2
          go_ret2
          exact ⟨by rw [Hno.out.1, Hno.out.2]; rfl, below_trans' Hb1.out Hb.out⟩
        · have d2 : decide ((k : Int) < (ys.length : Int)) = false := by simp; omega
          have d2' : decide (k < ys.length) = false := by simp; omega
          have Hno := Lib.hid (Hn.out.2 (by omega))
          go_wp2
          go_ret2
          exact ⟨by rw [Hno.out.1, Hno.out.2]; rfl, below_trans' Hb1.out Hb.out⟩
    have e1 : decide ((j : Int) < (l.length : Int)) = true := by simp; omega
    have e1' : decide (j < l.length) = true := by simp; omega
    have e2 : (j : Int) < (l.length : Int) := by omega
    have e3 : (0 : Int) ≤ (j : Int) := by omega
    have q1 : IntKind.i64.wrap ((j : Int) + 1) = (j : Int) + 1 := IntWalk.i64_in _ (by omega)
    have q2 : IntKind.i64.wrap ((i : Int) + 1) = (i : Int) + 1 := IntWalk.i64_in _ (by omega)
    have q3 : IntKind.i64.wrap ((k : Int) + 1) = (k : Int) + 1 := IntWalk.i64_in _ (by omega)
    have hpth := Cm.ckFrom_path (l.take j) hpre .nil ⟨Nat.zero_le _, Nat.zero_le _⟩
    have hcb := Cm.path_bd hpth.1 hmsb hexb Hat.out
    simp only at hcb
    have Hpre := Lib.hid hpre
    obtain ⟨g, o, rfl, lg, x0, x1, x2⟩ := (HSt.out.later hb) j hlt
    obtain ⟨X, hX⟩ : ∃ X, X = l.getD j (0, 0, 0) := ⟨_, rfl⟩
    rw [← hX] at x0 x1 x2
    obtain ⟨s1, s2, s3⟩ := X
    simp only at x0 x1 x2
    have Hx := Lib.hid hX
    have hsz := hb.size
    have hbA := Lib.hid (hb.alloc hsz (Obj.cells #[.int .i64 s1, .int .i64 s2, .int .i64 s3] 34))
    have Hb := Lib.hid hb
    have hat := Hat.out
    clear hpre hpth hX hb
    by_cases E1 : s1 = (i : Int)
    · have hn4 : ¬ s1 = -1 := by omega
      have fE1 : (s1 == (i : Int)) = true := by rw [E1]; simp
      have fE4 : (s1 == -1) = false := by simpa using hn4
      by_cases E2 : s2 = (k : Int)
      · have hn3 : ¬ s2 = -1 := by omega
        have fE2 : (s2 == (k : Int)) = true := by rw [E2]; simp
        have fE3 : (s2 == -1) = false := by simpa using hn3
        by_cases hin : i < xs.length
        · skip
          have d1 : decide ((i : Int) < (xs.length : Int)) = true := by simp; omega
          have d1' : decide (i < xs.length) = true := by simp; omega
          have d1'' : (i : Int) < (xs.length : Int) := by omega
          by_cases hkm : k < ys.length
          · skip
            have d2 : decide ((k : Int) < (ys.length : Int)) = true := by simp; omega
            have d2' : decide (k < ys.length) = true := by simp; omega
            have d2'' : (k : Int) < (ys.length : Int) := by omega
            obtain ⟨pa, rfl, la4, ca4⟩ := nums_listP N1.out (j := i) hin
            obtain ⟨pb, rfl, lb4, cb4⟩ := nums_listP N2.out (j := k) hkm
            obtain ⟨st, hst⟩ : ∃ st, st = wr.heap.size := ⟨_, rfl⟩
            obtain ⟨W2, hW2⟩ : ∃ W2, W2 = wr.alloc (.cells #[.int .i64 s1, .int .i64 s2, .int .i64 s3] 34) := ⟨_, rfl⟩
            have hb2 : Below w3.heap.size w3 W2 := hW2 ▸ hbA.out
            have hB3 : Blk W2 st 34 #[.int .i64 s1, .int .i64 s2, .int .i64 s3] := by rw [hW2, hst]; exact Blk.new wr 34 _
            have t0 : W2.cell? ⟨st, 0, none⟩ = some (.int .i64 s1) := hB3.cell 0
            have t1 : W2.cell? ⟨st, 1, none⟩ = some (.int .i64 s2) := hB3.cell 1
            have t2 : W2.cell? ⟨st, 2, none⟩ = some (.int .i64 s3) := hB3.cell 2
            have lst := hB3.lt
            have ca0 := (hb2.cell (p := pa.add i) (by rw [add_block]; exact la4)).trans ca4
            have cb0 := (hb2.cell (p := pb.add k) (by rw [add_block]; exact lb4)).trans cb4
            have lA : (pa.add i).block < W2.heap.size := World.block_lt_of_cell? W2 _ ca0
            have lB : (pb.add k).block < W2.heap.size := World.block_lt_of_cell? W2 _ cb0
            have HCr := HC.out.later hb2
            have HW := Lib.hid (fun W (hW : Below W2.heap.size W2 W) => ref_swap gc m _ _ W Hm.out (HR1.out i hin) (HR2.out k hkm) (HCr.later hW))
            have hswe : Cm.sw m (xs.getD i 0) (ys.getD k 0) = at_ i k := by rw [Hat_.out]; rfl
            rw [hswe] at HW
            obtain ⟨xa, hxa⟩ : ∃ x, x = xs.getD i 0 := ⟨_, rfl⟩
            obtain ⟨xb, hxb⟩ : ∃ x, x = ys.getD k 0 := ⟨_, rfl⟩
            rw [← hxa] at ca0 HW
            rw [← hxb] at cb0 HW
            have hD0 : Below W2.heap.size W2 W2.drew := (Below.refl _ _).drew
            have Hb2 := Lib.hid hb2
            have ba := hat i k
            have g1 : IntKind.i64.wrap (c + at_ i k) = c + at_ i k := IntWalk.i64_in _ (by omega)
            clear HCr hswe hxa hxb hb2 hB3 la4 ca4 lb4 cb4
            by_cases h3 : s3 = at_ i k
            · have f3 : (s3 != at_ i k) = false := by rw [h3]; simp
              have Hnx : Hid (Cm.ckFrom xs.length ys.length at_ ms ex (l.take (j + 1)) (0, 0, 0) = some (i + 1, k + 1, c + at_ i k)) := Lib.hid (by rw [Cm.ckFrom_next l j hlt, Hpre.out, Option.bind_some, ← Hx.out, E1, E2, h3]; exact Cm.ckNext_swap c hin hkm)
              clear E1 E2 h3 hn3 hn4
              go_wp2
              rw [← hW2, ← hst]
              clear hW2 hst
              go_region_held3 (fun w' => w'.cell? ⟨st, 0, none⟩ = some (.int .i64 s1) ∧ w'.cell? ⟨st, 1, none⟩ = some (.int .i64 s2) ∧ w'.cell? ⟨st, 2, none⟩ = some (.int .i64 s3) ∧ w'.cell? (pa.add i) = some (.int .i64 (xa : Int)) ∧ w'.cell? (pb.add k) = some (.int .i64 (xb : Int))) (simp [*]) (first | (go_at_call 75; refine (HW.out _ hD0).mono ?_; rintro e w5 ⟨rfl, hb5⟩; have ha := below_trans' hD0 hb5; have j0 := (ha.cell (p := ⟨st, 0, none⟩) lst).trans t0; have j1 := (ha.cell (p := ⟨st, 1, none⟩) lst).trans t1; have j2 := (ha.cell (p := ⟨st, 2, none⟩) lst).trans t2; have j4 := (ha.cell lA).trans ca0; have j5 := (ha.cell lB).trans cb0))
              all_goals
                have hEnd := Lib.hid (below_trans' Hb2.out ha)
                go_wp2
                go_roundw
                case rel => exact ⟨i + 1, k + 1, j + 1, _, by go_num, by go_num, rfl, by go_num, by omega, by omega, by omega, Hnx.out, hEnd.out⟩
                case measure => simp [intOf] <;> omega
            · have f3 : (s3 != at_ i k) = true := by rw [bne_iff_ne]; exact h3
              have Hno := Lib.hid (HN.out.1 (ck_none hlt Hpre.out Hx.out (fun e => h3 e.2.2.2.2) (fun e => hn3 e.2.2.1) (fun e => hn4 e.2.1)))
              clear E1 E2 h3 hn3 hn4
              go_wp2
              rw [← hW2, ← hst]
              clear hW2 hst
              go_region_held3 (fun w' => w'.cell? ⟨st, 0, none⟩ = some (.int .i64 s1) ∧ w'.cell? ⟨st, 1, none⟩ = some (.int .i64 s2) ∧ w'.cell? ⟨st, 2, none⟩ = some (.int .i64 s3) ∧ w'.cell? (pa.add i) = some (.int .i64 (xa : Int)) ∧ w'.cell? (pb.add k) = some (.int .i64 (xb : Int))) (simp [*]) (first | (go_at_call 75; refine (HW.out _ hD0).mono ?_; rintro e w5 ⟨rfl, hb5⟩; have ha := below_trans' hD0 hb5; have j0 := (ha.cell (p := ⟨st, 0, none⟩) lst).trans t0; have j1 := (ha.cell (p := ⟨st, 1, none⟩) lst).trans t1; have j2 := (ha.cell (p := ⟨st, 2, none⟩) lst).trans t2; have j4 := (ha.cell lA).trans ca0; have j5 := (ha.cell lB).trans cb0))
              all_goals
                have hEnd := Lib.hid (below_trans' Hb2.out ha)
                go_wp2
                go_ret2
                exact ⟨by rw [Hno.out.1, Hno.out.2]; rfl, below_trans' Hb1.out hEnd.out⟩
          · skip
            have d2 : decide ((k : Int) < (ys.length : Int)) = false := by simp; omega
            have d2' : decide (k < ys.length) = false := by simp; omega
            have Hno := Lib.hid (HN.out.1 (ck_none hlt Hpre.out Hx.out (fun e => hkm e.2.1) (fun e => hn3 e.2.2.1) (fun e => hn4 e.2.1)))
            clear E1 E2 hn3 hn4
            go_wp2_with (first | (go_at_call 76; refine (HM.out _).mono ?_; rintro e w' ⟨rfl, rfl⟩) | (go_at_call 77; refine (HE.out _).mono ?_; rintro e w' ⟨rfl, rfl⟩))
            go_ret2
            exact ⟨by rw [Hno.out.1, Hno.out.2]; rfl, below_trans' Hb1.out hbA.out⟩
        · skip
          have d1 : decide ((i : Int) < (xs.length : Int)) = false := by simp; omega
          have d1' : decide (i < xs.length) = false := by simp; omega
          have Hno := Lib.hid (HN.out.1 (ck_none hlt Hpre.out Hx.out (fun e => hin e.1) (fun e => hin e.1) (fun e => hn4 e.2.1)))
          clear E1 E2 hn3 hn4
          go_wp2_with (first | (go_at_call 76; refine (HM.out _).mono ?_; rintro e w' ⟨rfl, rfl⟩) | (go_at_call 77; refine (HE.out _).mono ?_; rintro e w' ⟨rfl, rfl⟩))
          go_ret2
          exact ⟨by rw [Hno.out.1, Hno.out.2]; rfl, below_trans' Hb1.out hbA.out⟩
      · skip
        have fE2 : (s2 == (k : Int)) = false := by simpa using E2
        by_cases E3 : s2 = -1
        · skip
          have fE3 : (s2 == -1) = true := by rw [E3]; simp
          by_cases hin : i < xs.length
          · skip
            have d1 : decide ((i : Int) < (xs.length : Int)) = true := by simp; omega
            have d1' : decide (i < xs.length) = true := by simp; omega
            have d1'' : (i : Int) < (xs.length : Int) := by omega
            by_cases h3 : s3 = ms
            · have f3 : (s3 != ms) = false := by rw [h3]; simp
              have Hnx : Hid (Cm.ckFrom xs.length ys.length at_ ms ex (l.take (j + 1)) (0, 0, 0) = some (i + 1, k, c + ms)) := Lib.hid (by rw [Cm.ckFrom_next l j hlt, Hpre.out, Option.bind_some, ← Hx.out, E1, E3, h3]; exact Cm.ckNext_miss c hin)
              have g1 : IntKind.i64.wrap (c + ms) = c + ms := IntWalk.i64_in _ (by omega)
              clear E1 E2 E3 h3 hn4
              go_wp2_with (first | (go_at_call 76; refine (HM.out _).mono ?_; rintro e w' ⟨rfl, rfl⟩) | (go_at_call 77; refine (HE.out _).mono ?_; rintro e w' ⟨rfl, rfl⟩))
              go_roundw
              case rel => exact ⟨i + 1, k, j + 1, _, by go_num, by go_num, rfl, by go_num, by omega, by omega, by omega, Hnx.out, hbA.out⟩
              case measure => simp [intOf] <;> omega
            · have f3 : (s3 != ms) = true := by rw [bne_iff_ne]; exact h3
              have Hno := Lib.hid (HN.out.1 (ck_none hlt Hpre.out Hx.out (fun e => E2 e.2.2.2.1) (fun e => h3 e.2.2.2) (fun e => hn4 e.2.1)))
              clear E1 E2 E3 h3 hn4
              go_wp2_with (first | (go_at_call 76; refine (HM.out _).mono ?_; rintro e w' ⟨rfl, rfl⟩) | (go_at_call 77; refine (HE.out _).mono ?_; rintro e w' ⟨rfl, rfl⟩))
              go_ret2
              exact ⟨by rw [Hno.out.1, Hno.out.2]; rfl, below_trans' Hb1.out hbA.out⟩
          · skip
            have d1 : decide ((i : Int) < (xs.length : Int)) = false := by simp; omega
            have d1' : decide (i < xs.length) = false := by simp; omega
            have Hno := Lib.hid (HN.out.1 (ck_none hlt Hpre.out Hx.out (fun e => hin e.1) (fun e => hin e.1) (fun e => hn4 e.2.1)))
            clear E1 E2 E3 hn4
            go_wp2_with (first | (go_at_call 76; refine (HM.out _).mono ?_; rintro e w' ⟨rfl, rfl⟩) | (go_at_call 77; refine (HE.out _).mono ?_; rintro e w' ⟨rfl, rfl⟩))
            go_ret2
            exact ⟨by rw [Hno.out.1, Hno.out.2]; rfl, below_trans' Hb1.out hbA.out⟩
        · skip
          have fE3 : (s2 == -1) = false := by simpa using E3
          have Hno := Lib.hid (HN.out.1 (ck_none hlt Hpre.out Hx.out (fun e => E2 e.2.2.2.1) (fun e => E3 e.2.2.1) (fun e => hn4 e.2.1)))
          clear E1 E2 E3 hn4
          go_wp2_with (first | (go_at_call 76; refine (HM.out _).mono ?_; rintro e w' ⟨rfl, rfl⟩) | (go_at_call 77; refine (HE.out _).mono ?_; rintro e w' ⟨rfl, rfl⟩))
          go_ret2
          exact ⟨by rw [Hno.out.1, Hno.out.2]; rfl, below_trans' Hb1.out hbA.out⟩
    · skip
      have fE1 : (s1 == (i : Int)) = false := by simpa using E1
      by_cases E4 : s1 = -1
      · skip
        have fE4 : (s1 == -1) = true := by rw [E4]; simp
        by_cases E2 : s2 = (k : Int)
        · skip
          have fE2 : (s2 == (k : Int)) = true := by rw [E2]; simp
          by_cases hkm : k < ys.length
          · skip
            have d2 : decide ((k : Int) < (ys.length : Int)) = true := by simp; omega
            have d2' : decide (k < ys.length) = true := by simp; omega
            have d2'' : (k : Int) < (ys.length : Int) := by omega
            by_cases h3 : s3 = ex
            · have f3 : (s3 != ex) = false := by rw [h3]; simp
              have Hnx : Hid (Cm.ckFrom xs.length ys.length at_ ms ex (l.take (j + 1)) (0, 0, 0) = some (i, k + 1, c + ex)) := Lib.hid (by rw [Cm.ckFrom_next l j hlt, Hpre.out, Option.bind_some, ← Hx.out, E4, E2, h3]; exact Cm.ckNext_extra c hkm)
              have g1 : IntKind.i64.wrap (c + ex) = c + ex := IntWalk.i64_in _ (by omega)
              clear E1 E2 E4 h3
              go_wp2_with (first | (go_at_call 76; refine (HM.out _).mono ?_; rintro e w' ⟨rfl, rfl⟩) | (go_at_call 77; refine (HE.out _).mono ?_; rintro e w' ⟨rfl, rfl⟩))
              go_roundw
              case rel => exact ⟨i, k + 1, j + 1, _, by go_num, by go_num, rfl, by go_num, by omega, by omega, by omega, Hnx.out, hbA.out⟩
              case measure => simp [intOf] <;> omega
            · have f3 : (s3 != ex) = true := by rw [bne_iff_ne]; exact h3
              have Hno := Lib.hid (HN.out.1 (ck_none hlt Hpre.out Hx.out (fun e => E1 e.2.2.1) (fun e => E1 e.2.1) (fun e => h3 e.2.2.2)))
              clear E1 E2 E4 h3
              go_wp2_with (first | (go_at_call 76; refine (HM.out _).mono ?_; rintro e w' ⟨rfl, rfl⟩) | (go_at_call 77; refine (HE.out _).mono ?_; rintro e w' ⟨rfl, rfl⟩))
              go_ret2
              exact ⟨by rw [Hno.out.1, Hno.out.2]; rfl, below_trans' Hb1.out hbA.out⟩
          · skip
            have d2 : decide ((k : Int) < (ys.length : Int)) = false := by simp; omega
            have d2' : decide (k < ys.length) = false := by simp; omega
            have Hno := Lib.hid (HN.out.1 (ck_none hlt Hpre.out Hx.out (fun e => E1 e.2.2.1) (fun e => E1 e.2.1) (fun e => hkm e.1)))
            clear E1 E2 E4
            go_wp2_with (first | (go_at_call 76; refine (HM.out _).mono ?_; rintro e w' ⟨rfl, rfl⟩) | (go_at_call 77; refine (HE.out _).mono ?_; rintro e w' ⟨rfl, rfl⟩))
            go_ret2
            exact ⟨by rw [Hno.out.1, Hno.out.2]; rfl, below_trans' Hb1.out hbA.out⟩
        · skip
          have fE2 : (s2 == (k : Int)) = false := by simpa using E2
          have Hno := Lib.hid (HN.out.1 (ck_none hlt Hpre.out Hx.out (fun e => E1 e.2.2.1) (fun e => E1 e.2.1) (fun e => E2 e.2.2.1)))
          clear E1 E2 E4
          go_wp2_with (first | (go_at_call 76; refine (HM.out _).mono ?_; rintro e w' ⟨rfl, rfl⟩) | (go_at_call 77; refine (HE.out _).mono ?_; rintro e w' ⟨rfl, rfl⟩))
          go_ret2
          exact ⟨by rw [Hno.out.1, Hno.out.2]; rfl, below_trans' Hb1.out hbA.out⟩
      · skip
        have fE4 : (s1 == -1) = false := by simpa using E4
        have Hno := Lib.hid (HN.out.1 (ck_none hlt Hpre.out Hx.out (fun e => E1 e.2.2.1) (fun e => E1 e.2.1) (fun e => E4 e.2.1)))
        clear E1 E4
        go_wp2_with (first | (go_at_call 76; refine (HM.out _).mono ?_; rintro e w' ⟨rfl, rfl⟩) | (go_at_call 77; refine (HE.out _).mono ?_; rintro e w' ⟨rfl, rfl⟩))
        go_ret2
        exact ⟨by rw [Hno.out.1, Hno.out.2]; rfl, below_trans' Hb1.out hbA.out⟩

theorem refCkAl_any (m : Int) (s h : ByteArray) (R : Option Addr) (cr : Nat) (l : List (Int × Int × Int)) (w : World) (hS : StepsG w R l) (hl : l.length ≤ 1000000) :
    Calls Tryz.prog 49 #[.int .i64 m, .string s, .string h, .slice R l.length cr] w fun e w' => e = .returned (.tuple #[.int .i64 (ckN1 m s h l), .int .i64 (ckE1 m s h l)]) ∧ Below w.heap.size w w' := by
  by_cases he : errOf m s h = 0
  · exact refCkAl_ok m s h R cr l w hS hl he
  · rw [ckN1, ckE1, if_pos he, if_pos he]; exact refCkAl_no m s h _ w he
end Go.Proofs.YtgcddjgkieambaaGreatDoor
