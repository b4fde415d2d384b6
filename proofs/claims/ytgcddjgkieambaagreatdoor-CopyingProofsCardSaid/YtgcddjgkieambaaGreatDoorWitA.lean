/- The walk of 'CheckAlign'. Printed by wita.py. -/
import Derived.Test.YtgcddjgkieambaaGreatDoorWitP
import Derived.Test.YtgcddjgkieambaaGreatDoorAsk2
import Derived.Test.YtgcddjgkieambaaGreatDoorApartP
set_option linter.unusedVariables false
set_option linter.unusedSimpArgs false
namespace Go.Proofs.YtgcddjgkieambaaGreatDoor
open Go.RowKit

set_option maxRecDepth 100000 in
theorem eql34 (a b c a' b' c' : Int) (W : World) : (binOp .eql 34 (.agg #[.int .i64 a, .int .i64 b, .int .i64 c]) (.agg #[.int .i64 a', .int .i64 b', .int .i64 c'])).run Tryz.prog W = .ok (.bool (a == a' && (b == b' && c == c'))) W := by
  rw [run_eql_struct, run_equalIn_agg W 9999 34 _ _ (by kernel_rfl) (by kernel_rfl)]
  simp only [Program.fieldsOf, Tryz.underlying34]
  cases h1 : (a == a') <;> cases h2 : (b == b') <;> cases h3 : (c == c') <;> simp [Op.eqFields, go_sem, Tryz.underlying3, h1, h2, h3]

/-- What 'CheckAlign' returns: what the steps cost, and the error. -/
def ckN1 (m : Int) (s h : ByteArray) (l : List (Int × Int × Int)) : Int := if errOf m s h ≠ 0 then 0 else (Cm.ckAl m (row s) (row h) l).getD 0
def ckE1 (m : Int) (s h : ByteArray) (l : List (Int × Int × Int)) : Int := if errOf m s h ≠ 0 then errOf m s h else if (Cm.ckAl m (row s) (row h) l).isSome then 0 else 42
theorem ck_law (m : Int) (xs ys : List Nat) (l : List (Int × Int × Int)) (N E : Int) (hN : N = (Cm.ckAl m xs ys l).getD 0) (hE : E = if (Cm.ckAl m xs ys l).isSome then 0 else 42) :
    (Cm.ckFrom xs.length ys.length (Cm.atL m xs ys) (Cm.missC m) (Cm.extraC m) l (0, 0, 0) = none → N = 0 ∧ E = 42) ∧
      ∀ i k c, Cm.ckFrom xs.length ys.length (Cm.atL m xs ys) (Cm.missC m) (Cm.extraC m) l (0, 0, 0) = some (i, k, c) → (i < xs.length ∨ k < ys.length → N = 0 ∧ E = 42) ∧ (¬ (i < xs.length ∨ k < ys.length) → N = c ∧ E = 0) := by
  unfold Cm.ckAl at hN hE
  refine ⟨fun h => ?_, fun i k c h => ⟨fun h' => ?_, fun h' => ?_⟩⟩
  · rw [h] at hN hE; exact ⟨by simpa using hN, by simpa using hE⟩
  · rw [h] at hN hE; simp only [if_pos h'] at hN hE; exact ⟨by simpa using hN, by simpa using hE⟩
  · rw [h] at hN hE; simp only [if_neg h'] at hN hE; exact ⟨by simpa using hN, by simpa using hE⟩

set_option maxRecDepth 100000 in
set_option maxHeartbeats 1000000 in
theorem CkAlign_no (m : Int) (s h : ByteArray) (v : Value) (w : World) (he : errOf m s h ≠ 0) :
    Calls Tryz.prog 48 #[.int .i64 m, .string s, .string h, v] w fun e w' => e = .returned (.tuple #[.int .i64 0, .int .i64 (errOf m s h)]) ∧ Below w.heap.size w w' := by
  have hc := fun W => hearing_no m s h W he
  obtain ⟨er, her⟩ : ∃ er, er = errOf m s h := ⟨_, rfl⟩
  rw [← her] at hc he ⊢
  have h0 : (er != 0) = true := by simpa using he
  have HC := Lib.hid hc
  clear hc her he
  unfold zeroHeard at HC
  go_enter Tryz.func48, Tryz.ntmps48
  go_wp2_with (first | (go_at_call 64; refine (HC.out _).mono ?_; rintro e w1 ⟨rfl, hb1⟩))
  go_ret2
  exact ⟨rfl, (hb1.alloc hb1.size _)⟩

set_option maxRecDepth 100000 in
set_option maxHeartbeats 8000000 in
theorem CkAlign_ok (m : Int) (s h : ByteArray) (R : Option Addr) (cr : Nat) (l : List (Int × Int × Int)) (w : World) (hS : StepsG w R l) (hl : l.length ≤ 1000000) (he : errOf m s h = 0) :
    Calls Tryz.prog 48 #[.int .i64 m, .string s, .string h, .slice R l.length cr] w fun e w' => e = .returned (.tuple #[.int .i64 (ckN1 m s h l), .int .i64 (ckE1 m s h l)]) ∧ Below w.heap.size w w' := by
  obtain ⟨hm, l1, l2, c1, c2⟩ := errOf_ok he
  have hA := hearing_ok m s h w hm l1 l2 c1 c2
  rw [← row_length s] at hA l1
  rw [← row_length h] at hA l2
  have hN1 : ckN1 m s h l = (Cm.ckAl m (row s) (row h) l).getD 0 := by rw [ckN1, if_neg (fun h => h he)]
  have hE1 : ckE1 m s h l = if (Cm.ckAl m (row s) (row h) l).isSome then 0 else 42 := by rw [ckE1, if_neg (fun h => h he)]
  obtain ⟨xs, hxs⟩ : ∃ xs, xs = row s := ⟨_, rfl⟩
  obtain ⟨ys, hys⟩ : ∃ ys, ys = row h := ⟨_, rfl⟩
  rw [← hxs, ← hys] at hA hN1 hE1
  rw [← hxs] at l1
  rw [← hys] at l2
  have HN := Lib.hid (ck_law m xs ys l _ _ hN1 hE1)
  obtain ⟨N, hNN⟩ : ∃ N, N = ckN1 m s h l := ⟨_, rfl⟩
  obtain ⟨E, hEE⟩ : ∃ E, E = ckE1 m s h l := ⟨_, rfl⟩
  rw [← hNN, ← hEE] at HN ⊢
  obtain ⟨at_, hat_⟩ : ∃ a, a = Cm.atL m xs ys := ⟨_, rfl⟩
  obtain ⟨ms, hms0⟩ : ∃ a, a = Cm.missC m := ⟨_, rfl⟩
  obtain ⟨ex, hex0⟩ : ∃ a, a = Cm.extraC m := ⟨_, rfl⟩
  rw [← hat_, ← hms0, ← hex0] at HN
  have hmsb : 0 ≤ ms ∧ ms ≤ 10 := by rw [hms0]; exact Cm.missC_bd m
  have hexb : 0 ≤ ex ∧ ex ≤ 10 := by rw [hex0]; exact Cm.extraC_bd m
  have hat : ∀ i k, 0 ≤ at_ i k ∧ at_ i k ≤ 1000 := fun i k => by rw [hat_]; exact Cm.atL_bd
  have Hat := Lib.hid hat
  have HA := Lib.hid hA
  have HS := Lib.hid hS
  have Hat_ := Lib.hid hat_
  have Hms0 := Lib.hid hms0
  have Hex0 := Lib.hid hex0
  have hql := fun a b c a' b' c' W => eql34 a b c a' b' c' W
  clear hA hxs hys c1 c2 hm hN1 hE1 hNN hEE hS hat_ hms0 hex0 hat he
  go_enter Tryz.func48, Tryz.ntmps48
  go_wp2_with (first | (go_at_call 64; refine HA.out.mono ?_; rintro e w1 ⟨T, x, A, B, ca, cb, rfl, hH, hb1⟩))
  have hb2 := hb1.alloc hb1.size (Obj.cells #[.iface T x, .slice A xs.length ca, .slice B ys.length cb] 75)
  have hH2 := hH.later (below_alloc0 (Obj.cells #[.iface T x, .slice A xs.length ca, .slice B ys.length cb] 75))
  have hB2 := Blk.new w1 75 #[.iface T x, .slice A xs.length ca, .slice B ys.length cb]
  obtain ⟨b, hbb⟩ : ∃ b, b = w1.heap.size := ⟨_, rfl⟩
  obtain ⟨W, hW⟩ : ∃ W, W = w1.alloc (Obj.cells #[.iface T x, .slice A xs.length ca, .slice B ys.length cb] 75) := ⟨_, rfl⟩
  rw [← hW] at hb2 hH2 hB2 ⊢
  rw [← hbb] at hB2 ⊢
  have Hb1 := Lib.hid hb2
  have HSt := Lib.hid (HS.out.later hb2)
  have HH := Lib.hid hH2
  have HBb := Lib.hid hB2
  obtain ⟨fm, fe, fs, hc⟩ := hH2.c
  have HM5 := Lib.hid (fun W' hB => hc.cm W' hB)
  have HE5 := Lib.hid (fun W' hB => hc.ce W' hB)
  rw [← Hms0.out] at HM5
  rw [← Hex0.out] at HE5
  have hmm := hc.mm
  have hem := hc.em
  have hme := hc.me
  have hee := hc.ee
  unfold Enters at hem hee
  clear hc hW hbb hb1 hb2 hH hH2 hB2 HA HS
  go_loopw [12, 13, 14, 29] (fun v12 v13 v14 v29 wx => ∃ (i k j : Nat) (c : Int), v12 = .int .i64 i ∧ v13 = .int .i64 k ∧ v14 = .int .i64 c ∧ v29 = .int .i64 j ∧ j ≤ l.length ∧ i ≤ xs.length ∧ k ≤ ys.length ∧ Cm.ckFrom xs.length ys.length at_ ms ex (l.take j) (0, 0, 0) = some (i, k, c) ∧ Below W.heap.size W wx) (fun _ _ _ v29 _ => l.length - (intOf v29).toNat)
  case atStart => exact ⟨0, 0, 0, 0, rfl, rfl, rfl, rfl, by omega, by omega, by omega, rfl, Below.refl _ _⟩
  case round =>
    obtain ⟨i, k, j, c, rfl, rfl, rfl, rfl, hj, hi, hk, hpre, hb⟩ := hrel
    have hBr := HBb.out.later hb
    have lbr := hBr.lt
    by_cases hlt : j < l.length
    case neg =>
      obtain rfl : j = l.length := by omega
      rw [List.take_length] at hpre
      have Hn := Lib.hid (HN.out.2 i k c hpre)
      have c0 : wr.cell? ⟨b, 0, none⟩ = some (.iface T x) := hBr.cell 0
      have c1 : wr.cell? ⟨b, 1, none⟩ = some (.slice A xs.length ca) := hBr.cell 1
      have c2 : wr.cell? ⟨b, 2, none⟩ = some (.slice B ys.length cb) := hBr.cell 2
      have e1 : decide ((l.length : Int) < (l.length : Int)) = false := by simp
      have Hb := Lib.hid hb
      clear hpre hb hBr
      by_cases hin : i < xs.length
      · have d1 : decide ((i : Int) < (xs.length : Int)) = true := by simp; omega
        have d1' : decide (i < xs.length) = true := by simp; omega
        have Hno := Lib.hid (Hn.out.1 (Or.inl hin))
        go_wp2
        go_ret2
        exact ⟨by rw [Hno.out.1, Hno.out.2]; rfl, below_trans' Hb1.out Hb.out⟩
      · have d1 : decide ((i : Int) < (xs.length : Int)) = false := by simp; omega
        have d1' : decide (i < xs.length) = false := by simp; omega
        by_cases hkm : k < ys.length
        · have d2 : decide ((k : Int) < (ys.length : Int)) = true := by simp; omega
          have d2' : decide (k < ys.length) = true := by simp; omega
          have Hno := Lib.hid (Hn.out.1 (Or.inr hkm))
          go_wp2
          go_ret2
          exact ⟨by rw [Hno.out.1, Hno.out.2]; rfl, below_trans' Hb1.out Hb.out⟩
        · have d2 : decide ((k : Int) < (ys.length : Int)) = false := by simp; omega
          have d2' : decide (k < ys.length) = false := by simp; omega
          have Hno := Lib.hid (Hn.out.2 (by omega))
          go_wp2
          go_ret2
          exact ⟨by rw [Hno.out.1, Hno.out.2]; rfl, below_trans' Hb1.out Hb.out⟩
    have e1 : decide ((j : Int) < (l.length : Int)) = true := by simp; omega
    have e2 : (j : Int) < (l.length : Int) := by omega
    have e3 : (0 : Int) ≤ (j : Int) := by omega
    have q1 : IntKind.i64.wrap ((j : Int) + 1) = (j : Int) + 1 := IntWalk.i64_in _ (by omega)
    have q2 : IntKind.i64.wrap ((i : Int) + 1) = (i : Int) + 1 := IntWalk.i64_in _ (by omega)
    have q3 : IntKind.i64.wrap ((k : Int) + 1) = (k : Int) + 1 := IntWalk.i64_in _ (by omega)
    have hpth := Cm.ckFrom_path (l.take j) hpre .nil ⟨Nat.zero_le _, Nat.zero_le _⟩
    have hcb := Cm.path_bd hpth.1 hmsb hexb Hat.out
    simp only at hcb
    have Hpre := Lib.hid hpre
    obtain ⟨g, o, rfl, lg, x0, x1, x2⟩ := (HSt.out.later hb) j hlt
    obtain ⟨X, hX⟩ : ∃ X, X = l.getD j (0, 0, 0) := ⟨_, rfl⟩
    rw [← hX] at x0 x1 x2
    obtain ⟨s1, s2, s3⟩ := X
    simp only at x0 x1 x2
    have Hx := Lib.hid hX
    obtain ⟨st, hst⟩ : ∃ st, st = wr.heap.size := ⟨_, rfl⟩
    obtain ⟨W2, hW2⟩ : ∃ W2, W2 = wr.alloc (.cells #[.int .i64 s1, .int .i64 s2, .int .i64 s3] 34) := ⟨_, rfl⟩
    have hbW : Below wr.heap.size wr W2 := hW2 ▸ below_alloc0 _
    have hB3 : Blk W2 st 34 #[.int .i64 s1, .int .i64 s2, .int .i64 s3] := by rw [hW2, hst]; exact Blk.new wr 34 _
    have hBW := hBr.later hbW
    have c0 : W2.cell? ⟨b, 0, none⟩ = some (.iface T x) := hBW.cell 0
    have c1 : W2.cell? ⟨b, 1, none⟩ = some (.slice A xs.length ca) := hBW.cell 1
    have c2 : W2.cell? ⟨b, 2, none⟩ = some (.slice B ys.length cb) := hBW.cell 2
    have t0 : W2.cell? ⟨st, 0, none⟩ = some (.int .i64 s1) := hB3.cell 0
    have t1 : W2.cell? ⟨st, 1, none⟩ = some (.int .i64 s2) := hB3.cell 1
    have t2 : W2.cell? ⟨st, 2, none⟩ = some (.int .i64 s3) := hB3.cell 2
    have lb := hBW.lt
    have lst := hB3.lt
    have hHW := (HH.out.later hb).later hbW
    have HA0 := Lib.hid (fun (a d : Int) h0 h1 h2 h3 W' (hW' : Below W2.heap.size W2 W') => (show Calls Tryz.prog 69 #[.agg #[.iface T x, .slice A xs.length ca, .slice B ys.length cb], .int .i64 a, .int .i64 d] W' fun e w' => e = .returned (.int .i64 (at_ a.toNat d.toNat)) ∧ Below W'.heap.size W' w' from by
      rw [Hat_.out]; exact at_any m T x A B _ _ ca cb xs ys a d W' (hHW.later hW') h0 h1 h2 h3))
    have hbWW := below_trans' hb hbW
    have HM := Lib.hid (fun W' (hW' : Below W2.heap.size W2 W') => HM5.out W' (below_trans' hbWW hW'))
    have HE := Lib.hid (fun W' (hW' : Below W2.heap.size W2 W') => HE5.out W' (below_trans' hbWW hW'))
    have Hb := Lib.hid hb
    have h0 : Below W2.heap.size W2 W2 := Below.refl _ _
    have hat := Hat.out
    clear hpre hpth hX hBr hBW hB3 hHW hbWW hb
    by_cases hin : i < xs.length
    · have d1 : decide ((i : Int) < (xs.length : Int)) = true := by simp; omega
      have d1' : decide (i < xs.length) = true := by simp; omega
      by_cases hkm : k < ys.length
      · have d2 : decide ((k : Int) < (ys.length : Int)) = true := by simp; omega
        have d2' : decide (k < ys.length) = true := by simp; omega
        have ba := hat i k
        have HA := Lib.hid (HA0.out i k (by omega) (by omega) (by omega) (by omega))
        simp only [Int.toNat_natCast] at HA
        by_cases hsw : s1 = (i : Int) ∧ s2 = (k : Int) ∧ s3 = at_ i k
        · skip
          obtain ⟨es1, es2, es3⟩ := hsw
          have Hnx : Hid (Cm.ckFrom xs.length ys.length at_ ms ex (l.take (j + 1)) (0, 0, 0) = some (i + 1, k + 1, c + s3)) := Lib.hid (by rw [Cm.ckFrom_next l j hlt, Hpre.out, Option.bind_some, ← Hx.out, es1, es2, es3]; exact Cm.ckNext_swap c hin hkm)
          have f1 : (s1 == (i : Int) && (s2 == (k : Int) && s3 == at_ i k)) = true := by rw [es1, es2, es3]; simp
          have g1 : IntKind.i64.wrap (c + s3) = c + s3 := IntWalk.i64_in _ (by omega)
          clear es1 es2 es3
          go_wp2
          rw [← hW2, ← hst]
          clear hW2 hst
          have hE1 := h0.drew
          go_region_held3 (fun w' => w'.cell? ⟨b, 0, none⟩ = some (.iface T x) ∧ w'.cell? ⟨b, 1, none⟩ = some (.slice A xs.length ca) ∧ w'.cell? ⟨b, 2, none⟩ = some (.slice B ys.length cb) ∧ w'.cell? ⟨st, 0, none⟩ = some (.int .i64 s1) ∧ w'.cell? ⟨st, 1, none⟩ = some (.int .i64 s2) ∧ w'.cell? ⟨st, 2, none⟩ = some (.int .i64 s3)) (simp [*]) (first | (go_at_call 69; refine (HA.out _ hE1).mono ?_; rintro e wa ⟨rfl, hwa⟩; have ha := below_trans' hE1 hwa; have ka0 := (ha.cell (p := ⟨b, 0, none⟩) lb).trans c0; have ka1 := (ha.cell (p := ⟨b, 1, none⟩) lb).trans c1; have ka2 := (ha.cell (p := ⟨b, 2, none⟩) lb).trans c2; have ka3 := (ha.cell (p := ⟨st, 0, none⟩) lst).trans t0; have ka4 := (ha.cell (p := ⟨st, 1, none⟩) lst).trans t1; have ka5 := (ha.cell (p := ⟨st, 2, none⟩) lst).trans t2))
          all_goals
            have hEnd := Lib.hid (below_trans' Hb.out (below_trans' hbW ha))
            go_wp2
            go_roundw
            case rel => exact ⟨i + 1, k + 1, j + 1, _, by go_num, by go_num, rfl, by go_num, by omega, by omega, by omega, Hnx.out, hEnd.out⟩
            case measure => simp [intOf] <;> omega
        · have f1 : (s1 == (i : Int) && (s2 == (k : Int) && s3 == at_ i k)) = false := by
            cases hz : (s1 == (i : Int) && (s2 == (k : Int) && s3 == at_ i k))
            · rfl
            · simp at hz; exact absurd hz hsw
          by_cases hms : s1 = (i : Int) ∧ s2 = -1 ∧ s3 = ms
          · skip
            obtain ⟨es1, es2, es3⟩ := hms
            have Hnx : Hid (Cm.ckFrom xs.length ys.length at_ ms ex (l.take (j + 1)) (0, 0, 0) = some (i + 1, k, c + s3)) := Lib.hid (by rw [Cm.ckFrom_next l j hlt, Hpre.out, Option.bind_some, ← Hx.out, es1, es2, es3]; exact Cm.ckNext_miss c hin)
            have f2 : (s1 == (i : Int) && (s2 == -1 && s3 == ms)) = true := by rw [es1, es2, es3]; simp
            have g1 : IntKind.i64.wrap (c + s3) = c + s3 := IntWalk.i64_in _ (by omega)
            clear es1 es2 es3
            go_wp2
            rw [← hW2, ← hst]
            clear hW2 hst
            have hE1 := h0.drew
            go_region_held3 (fun w' => w'.cell? ⟨b, 0, none⟩ = some (.iface T x) ∧ w'.cell? ⟨b, 1, none⟩ = some (.slice A xs.length ca) ∧ w'.cell? ⟨b, 2, none⟩ = some (.slice B ys.length cb) ∧ w'.cell? ⟨st, 0, none⟩ = some (.int .i64 s1) ∧ w'.cell? ⟨st, 1, none⟩ = some (.int .i64 s2) ∧ w'.cell? ⟨st, 2, none⟩ = some (.int .i64 s3)) (simp [*]) (first | (go_at_call 69; refine (HA.out _ hE1).mono ?_; rintro e wa ⟨rfl, hwa⟩; have ha := below_trans' hE1 hwa; have ka0 := (ha.cell (p := ⟨b, 0, none⟩) lb).trans c0; have ka1 := (ha.cell (p := ⟨b, 1, none⟩) lb).trans c1; have ka2 := (ha.cell (p := ⟨b, 2, none⟩) lb).trans c2; have ka3 := (ha.cell (p := ⟨st, 0, none⟩) lst).trans t0; have ka4 := (ha.cell (p := ⟨st, 1, none⟩) lst).trans t1; have ka5 := (ha.cell (p := ⟨st, 2, none⟩) lst).trans t2))
            all_goals
              go_wp2
              have hE2 := ha.drew
              go_region_held3 (fun w' => w'.cell? ⟨b, 0, none⟩ = some (.iface T x) ∧ w'.cell? ⟨b, 1, none⟩ = some (.slice A xs.length ca) ∧ w'.cell? ⟨b, 2, none⟩ = some (.slice B ys.length cb) ∧ w'.cell? ⟨st, 0, none⟩ = some (.int .i64 s1) ∧ w'.cell? ⟨st, 1, none⟩ = some (.int .i64 s2) ∧ w'.cell? ⟨st, 2, none⟩ = some (.int .i64 s3)) (simp [*]) (first | (go_at_fn fm; refine (HM.out _ hE2).mono ?_; rintro e wb ⟨rfl, hwb⟩; have hb1 := below_trans' hE2 hwb; have kb0 := (hb1.cell (p := ⟨b, 0, none⟩) lb).trans c0; have kb1 := (hb1.cell (p := ⟨b, 1, none⟩) lb).trans c1; have kb2 := (hb1.cell (p := ⟨b, 2, none⟩) lb).trans c2; have kb3 := (hb1.cell (p := ⟨st, 0, none⟩) lst).trans t0; have kb4 := (hb1.cell (p := ⟨st, 1, none⟩) lst).trans t1; have kb5 := (hb1.cell (p := ⟨st, 2, none⟩) lst).trans t2))
              all_goals
                have hEnd := Lib.hid (below_trans' Hb.out (below_trans' hbW hb1))
                go_wp2
                go_roundw
                case rel => exact ⟨i + 1, k, j + 1, _, by go_num, by go_num, rfl, by go_num, by omega, by omega, by omega, Hnx.out, hEnd.out⟩
                case measure => simp [intOf] <;> omega
          · have f2 : (s1 == (i : Int) && (s2 == -1 && s3 == ms)) = false := by
              cases hz : (s1 == (i : Int) && (s2 == -1 && s3 == ms))
              · rfl
              · simp at hz; exact absurd hz hms
            by_cases hex : s1 = -1 ∧ s2 = (k : Int) ∧ s3 = ex
            · skip
              obtain ⟨es1, es2, es3⟩ := hex
              have Hnx : Hid (Cm.ckFrom xs.length ys.length at_ ms ex (l.take (j + 1)) (0, 0, 0) = some (i, k + 1, c + s3)) := Lib.hid (by rw [Cm.ckFrom_next l j hlt, Hpre.out, Option.bind_some, ← Hx.out, es1, es2, es3]; exact Cm.ckNext_extra c hkm)
              have f3 : (s1 == -1 && (s2 == (k : Int) && s3 == ex)) = true := by rw [es1, es2, es3]; simp
              have g1 : IntKind.i64.wrap (c + s3) = c + s3 := IntWalk.i64_in _ (by omega)
              clear es1 es2 es3
              go_wp2
              rw [← hW2, ← hst]
              clear hW2 hst
              have hE1 := h0.drew
              go_region_held3 (fun w' => w'.cell? ⟨b, 0, none⟩ = some (.iface T x) ∧ w'.cell? ⟨b, 1, none⟩ = some (.slice A xs.length ca) ∧ w'.cell? ⟨b, 2, none⟩ = some (.slice B ys.length cb) ∧ w'.cell? ⟨st, 0, none⟩ = some (.int .i64 s1) ∧ w'.cell? ⟨st, 1, none⟩ = some (.int .i64 s2) ∧ w'.cell? ⟨st, 2, none⟩ = some (.int .i64 s3)) (simp [*]) (first | (go_at_call 69; refine (HA.out _ hE1).mono ?_; rintro e wa ⟨rfl, hwa⟩; have ha := below_trans' hE1 hwa; have ka0 := (ha.cell (p := ⟨b, 0, none⟩) lb).trans c0; have ka1 := (ha.cell (p := ⟨b, 1, none⟩) lb).trans c1; have ka2 := (ha.cell (p := ⟨b, 2, none⟩) lb).trans c2; have ka3 := (ha.cell (p := ⟨st, 0, none⟩) lst).trans t0; have ka4 := (ha.cell (p := ⟨st, 1, none⟩) lst).trans t1; have ka5 := (ha.cell (p := ⟨st, 2, none⟩) lst).trans t2))
              all_goals
                go_wp2
                have hE2 := ha.drew
                go_region_held3 (fun w' => w'.cell? ⟨b, 0, none⟩ = some (.iface T x) ∧ w'.cell? ⟨b, 1, none⟩ = some (.slice A xs.length ca) ∧ w'.cell? ⟨b, 2, none⟩ = some (.slice B ys.length cb) ∧ w'.cell? ⟨st, 0, none⟩ = some (.int .i64 s1) ∧ w'.cell? ⟨st, 1, none⟩ = some (.int .i64 s2) ∧ w'.cell? ⟨st, 2, none⟩ = some (.int .i64 s3)) (simp [*]) (first | (go_at_fn fm; refine (HM.out _ hE2).mono ?_; rintro e wb ⟨rfl, hwb⟩; have hb1 := below_trans' hE2 hwb; have kb0 := (hb1.cell (p := ⟨b, 0, none⟩) lb).trans c0; have kb1 := (hb1.cell (p := ⟨b, 1, none⟩) lb).trans c1; have kb2 := (hb1.cell (p := ⟨b, 2, none⟩) lb).trans c2; have kb3 := (hb1.cell (p := ⟨st, 0, none⟩) lst).trans t0; have kb4 := (hb1.cell (p := ⟨st, 1, none⟩) lst).trans t1; have kb5 := (hb1.cell (p := ⟨st, 2, none⟩) lst).trans t2))
                all_goals
                  go_wp2
                  have hE3 := hb1.drew
                  go_region_held3 (fun w' => w'.cell? ⟨b, 0, none⟩ = some (.iface T x) ∧ w'.cell? ⟨b, 1, none⟩ = some (.slice A xs.length ca) ∧ w'.cell? ⟨b, 2, none⟩ = some (.slice B ys.length cb) ∧ w'.cell? ⟨st, 0, none⟩ = some (.int .i64 s1) ∧ w'.cell? ⟨st, 1, none⟩ = some (.int .i64 s2) ∧ w'.cell? ⟨st, 2, none⟩ = some (.int .i64 s3)) (simp [*]) (first | (go_at_fn fe; refine (HE.out _ hE3).mono ?_; rintro e wc ⟨rfl, hwc⟩; have hc1 := below_trans' hE3 hwc; have kc0 := (hc1.cell (p := ⟨b, 0, none⟩) lb).trans c0; have kc1 := (hc1.cell (p := ⟨b, 1, none⟩) lb).trans c1; have kc2 := (hc1.cell (p := ⟨b, 2, none⟩) lb).trans c2; have kc3 := (hc1.cell (p := ⟨st, 0, none⟩) lst).trans t0; have kc4 := (hc1.cell (p := ⟨st, 1, none⟩) lst).trans t1; have kc5 := (hc1.cell (p := ⟨st, 2, none⟩) lst).trans t2))
                  all_goals
                    have hEnd := Lib.hid (below_trans' Hb.out (below_trans' hbW hc1))
                    go_wp2
                    go_roundw
                    case rel => exact ⟨i, k + 1, j + 1, _, by go_num, by go_num, rfl, by go_num, by omega, by omega, by omega, Hnx.out, hEnd.out⟩
                    case measure => simp [intOf] <;> omega
            · have f3 : (s1 == -1 && (s2 == (k : Int) && s3 == ex)) = false := by
                cases hz : (s1 == -1 && (s2 == (k : Int) && s3 == ex))
                · rfl
                · simp at hz; exact absurd hz hex
              have Hno : Hid (N = 0 ∧ E = 42) := Lib.hid (HN.out.1 (by refine Cm.ckFrom_fail l (j + 1) _ ?_; rw [Cm.ckFrom_next l j hlt, Hpre.out, Option.bind_some, ← Hx.out, Cm.ckNext, Cm.ckStep, if_neg (fun e => hsw (by have h := e.2.2; simp only [Prod.mk.injEq] at h; exact h)), if_neg (fun e => hms (by have h := e.2; simp only [Prod.mk.injEq] at h; exact h)), if_neg (fun e => hex (by have h := e.2; simp only [Prod.mk.injEq] at h; exact h))]; rfl))
              go_wp2
              rw [← hW2, ← hst]
              clear hW2 hst
              have hE1 := h0.drew
              go_region_held3 (fun w' => w'.cell? ⟨b, 0, none⟩ = some (.iface T x) ∧ w'.cell? ⟨b, 1, none⟩ = some (.slice A xs.length ca) ∧ w'.cell? ⟨b, 2, none⟩ = some (.slice B ys.length cb) ∧ w'.cell? ⟨st, 0, none⟩ = some (.int .i64 s1) ∧ w'.cell? ⟨st, 1, none⟩ = some (.int .i64 s2) ∧ w'.cell? ⟨st, 2, none⟩ = some (.int .i64 s3)) (simp [*]) (first | (go_at_call 69; refine (HA.out _ hE1).mono ?_; rintro e wa ⟨rfl, hwa⟩; have ha := below_trans' hE1 hwa; have ka0 := (ha.cell (p := ⟨b, 0, none⟩) lb).trans c0; have ka1 := (ha.cell (p := ⟨b, 1, none⟩) lb).trans c1; have ka2 := (ha.cell (p := ⟨b, 2, none⟩) lb).trans c2; have ka3 := (ha.cell (p := ⟨st, 0, none⟩) lst).trans t0; have ka4 := (ha.cell (p := ⟨st, 1, none⟩) lst).trans t1; have ka5 := (ha.cell (p := ⟨st, 2, none⟩) lst).trans t2))
              all_goals
                go_wp2
                have hE2 := ha.drew
                go_region_held3 (fun w' => w'.cell? ⟨b, 0, none⟩ = some (.iface T x) ∧ w'.cell? ⟨b, 1, none⟩ = some (.slice A xs.length ca) ∧ w'.cell? ⟨b, 2, none⟩ = some (.slice B ys.length cb) ∧ w'.cell? ⟨st, 0, none⟩ = some (.int .i64 s1) ∧ w'.cell? ⟨st, 1, none⟩ = some (.int .i64 s2) ∧ w'.cell? ⟨st, 2, none⟩ = some (.int .i64 s3)) (simp [*]) (first | (go_at_fn fm; refine (HM.out _ hE2).mono ?_; rintro e wb ⟨rfl, hwb⟩; have hb1 := below_trans' hE2 hwb; have kb0 := (hb1.cell (p := ⟨b, 0, none⟩) lb).trans c0; have kb1 := (hb1.cell (p := ⟨b, 1, none⟩) lb).trans c1; have kb2 := (hb1.cell (p := ⟨b, 2, none⟩) lb).trans c2; have kb3 := (hb1.cell (p := ⟨st, 0, none⟩) lst).trans t0; have kb4 := (hb1.cell (p := ⟨st, 1, none⟩) lst).trans t1; have kb5 := (hb1.cell (p := ⟨st, 2, none⟩) lst).trans t2))
                all_goals
                  go_wp2
                  have hE3 := hb1.drew
                  go_region_held3 (fun w' => w'.cell? ⟨b, 0, none⟩ = some (.iface T x) ∧ w'.cell? ⟨b, 1, none⟩ = some (.slice A xs.length ca) ∧ w'.cell? ⟨b, 2, none⟩ = some (.slice B ys.length cb) ∧ w'.cell? ⟨st, 0, none⟩ = some (.int .i64 s1) ∧ w'.cell? ⟨st, 1, none⟩ = some (.int .i64 s2) ∧ w'.cell? ⟨st, 2, none⟩ = some (.int .i64 s3)) (simp [*]) (first | (go_at_fn fe; refine (HE.out _ hE3).mono ?_; rintro e wc ⟨rfl, hwc⟩; have hc1 := below_trans' hE3 hwc; have kc0 := (hc1.cell (p := ⟨b, 0, none⟩) lb).trans c0; have kc1 := (hc1.cell (p := ⟨b, 1, none⟩) lb).trans c1; have kc2 := (hc1.cell (p := ⟨b, 2, none⟩) lb).trans c2; have kc3 := (hc1.cell (p := ⟨st, 0, none⟩) lst).trans t0; have kc4 := (hc1.cell (p := ⟨st, 1, none⟩) lst).trans t1; have kc5 := (hc1.cell (p := ⟨st, 2, none⟩) lst).trans t2))
                  all_goals
                    have hEnd := Lib.hid (below_trans' Hb.out (below_trans' hbW hc1))
                    go_wp2
                    go_ret2
                    exact ⟨by rw [Hno.out.1, Hno.out.2]; rfl, below_trans' Hb1.out hEnd.out⟩
      · have d2 : decide ((k : Int) < (ys.length : Int)) = false := by simp; omega
        have d2' : decide (k < ys.length) = false := by simp; omega
        by_cases hms : s1 = (i : Int) ∧ s2 = -1 ∧ s3 = ms
        · skip
          obtain ⟨es1, es2, es3⟩ := hms
          have Hnx : Hid (Cm.ckFrom xs.length ys.length at_ ms ex (l.take (j + 1)) (0, 0, 0) = some (i + 1, k, c + s3)) := Lib.hid (by rw [Cm.ckFrom_next l j hlt, Hpre.out, Option.bind_some, ← Hx.out, es1, es2, es3]; exact Cm.ckNext_miss c hin)
          have f2 : (s1 == (i : Int) && (s2 == -1 && s3 == ms)) = true := by rw [es1, es2, es3]; simp
          have g1 : IntKind.i64.wrap (c + s3) = c + s3 := IntWalk.i64_in _ (by omega)
          clear es1 es2 es3
          go_wp2
          rw [← hW2, ← hst]
          clear hW2 hst
          go_quiet (fail)
          have hQ1 := below_drewN' h0 nq
          go_wp2
          have hE2 := hQ1.drew
          go_region_held3 (fun w' => w'.cell? ⟨b, 0, none⟩ = some (.iface T x) ∧ w'.cell? ⟨b, 1, none⟩ = some (.slice A xs.length ca) ∧ w'.cell? ⟨b, 2, none⟩ = some (.slice B ys.length cb) ∧ w'.cell? ⟨st, 0, none⟩ = some (.int .i64 s1) ∧ w'.cell? ⟨st, 1, none⟩ = some (.int .i64 s2) ∧ w'.cell? ⟨st, 2, none⟩ = some (.int .i64 s3)) (simp [*]) (first | (go_at_fn fm; refine (HM.out _ hE2).mono ?_; rintro e wb ⟨rfl, hwb⟩; have hb1 := below_trans' hE2 hwb; have kb0 := (hb1.cell (p := ⟨b, 0, none⟩) lb).trans c0; have kb1 := (hb1.cell (p := ⟨b, 1, none⟩) lb).trans c1; have kb2 := (hb1.cell (p := ⟨b, 2, none⟩) lb).trans c2; have kb3 := (hb1.cell (p := ⟨st, 0, none⟩) lst).trans t0; have kb4 := (hb1.cell (p := ⟨st, 1, none⟩) lst).trans t1; have kb5 := (hb1.cell (p := ⟨st, 2, none⟩) lst).trans t2))
          all_goals
            have hEnd := Lib.hid (below_trans' Hb.out (below_trans' hbW hb1))
            go_wp2
            go_roundw
            case rel => exact ⟨i + 1, k, j + 1, _, by go_num, by go_num, rfl, by go_num, by omega, by omega, by omega, Hnx.out, hEnd.out⟩
            case measure => simp [intOf] <;> omega
        · have f2 : (s1 == (i : Int) && (s2 == -1 && s3 == ms)) = false := by
            cases hz : (s1 == (i : Int) && (s2 == -1 && s3 == ms))
            · rfl
            · simp at hz; exact absurd hz hms
          have Hno : Hid (N = 0 ∧ E = 42) := Lib.hid (HN.out.1 (by refine Cm.ckFrom_fail l (j + 1) _ ?_; rw [Cm.ckFrom_next l j hlt, Hpre.out, Option.bind_some, ← Hx.out, Cm.ckNext, Cm.ckStep, if_neg (fun e => hkm e.2.1), if_neg (fun e => hms (by have h := e.2; simp only [Prod.mk.injEq] at h; exact h)), if_neg (fun e => hkm e.1)]; rfl))
          go_wp2
          rw [← hW2, ← hst]
          clear hW2 hst
          go_quiet (fail)
          have hQ1 := below_drewN' h0 nq
          go_wp2
          have hE2 := hQ1.drew
          go_region_held3 (fun w' => w'.cell? ⟨b, 0, none⟩ = some (.iface T x) ∧ w'.cell? ⟨b, 1, none⟩ = some (.slice A xs.length ca) ∧ w'.cell? ⟨b, 2, none⟩ = some (.slice B ys.length cb) ∧ w'.cell? ⟨st, 0, none⟩ = some (.int .i64 s1) ∧ w'.cell? ⟨st, 1, none⟩ = some (.int .i64 s2) ∧ w'.cell? ⟨st, 2, none⟩ = some (.int .i64 s3)) (simp [*]) (first | (go_at_fn fm; refine (HM.out _ hE2).mono ?_; rintro e wb ⟨rfl, hwb⟩; have hb1 := below_trans' hE2 hwb; have kb0 := (hb1.cell (p := ⟨b, 0, none⟩) lb).trans c0; have kb1 := (hb1.cell (p := ⟨b, 1, none⟩) lb).trans c1; have kb2 := (hb1.cell (p := ⟨b, 2, none⟩) lb).trans c2; have kb3 := (hb1.cell (p := ⟨st, 0, none⟩) lst).trans t0; have kb4 := (hb1.cell (p := ⟨st, 1, none⟩) lst).trans t1; have kb5 := (hb1.cell (p := ⟨st, 2, none⟩) lst).trans t2))
          all_goals
            go_wp2
            go_quiet (fail)
            have hQ3 := below_drewN' hb1 nq
            have hEnd := Lib.hid (below_trans' Hb.out (below_trans' hbW hQ3))
            go_wp2
            go_ret2
            exact ⟨by rw [Hno.out.1, Hno.out.2]; rfl, below_trans' Hb1.out hEnd.out⟩
    · have d1 : decide ((i : Int) < (xs.length : Int)) = false := by simp; omega
      have d1' : decide (i < xs.length) = false := by simp; omega
      by_cases hkm : k < ys.length
      · have d2 : decide ((k : Int) < (ys.length : Int)) = true := by simp; omega
        have d2' : decide (k < ys.length) = true := by simp; omega
        by_cases hex : s1 = -1 ∧ s2 = (k : Int) ∧ s3 = ex
        · skip
          obtain ⟨es1, es2, es3⟩ := hex
          have Hnx : Hid (Cm.ckFrom xs.length ys.length at_ ms ex (l.take (j + 1)) (0, 0, 0) = some (i, k + 1, c + s3)) := Lib.hid (by rw [Cm.ckFrom_next l j hlt, Hpre.out, Option.bind_some, ← Hx.out, es1, es2, es3]; exact Cm.ckNext_extra c hkm)
          have f3 : (s1 == -1 && (s2 == (k : Int) && s3 == ex)) = true := by rw [es1, es2, es3]; simp
          have g1 : IntKind.i64.wrap (c + s3) = c + s3 := IntWalk.i64_in _ (by omega)
          clear es1 es2 es3
          go_wp2
          rw [← hW2, ← hst]
          clear hW2 hst
          go_quiet (fail)
          have hQ1 := below_drewN' h0 nq
          go_wp2
          go_quiet (fail)
          have hQ2 := below_drewN' hQ1 nq
          go_wp2
          go_region_held3 (fun w' => w'.cell? ⟨b, 0, none⟩ = some (.iface T x) ∧ w'.cell? ⟨b, 1, none⟩ = some (.slice A xs.length ca) ∧ w'.cell? ⟨b, 2, none⟩ = some (.slice B ys.length cb) ∧ w'.cell? ⟨st, 0, none⟩ = some (.int .i64 s1) ∧ w'.cell? ⟨st, 1, none⟩ = some (.int .i64 s2) ∧ w'.cell? ⟨st, 2, none⟩ = some (.int .i64 s3)) (simp [*]) (first | (go_at_fn fe; refine (HE.out _ (below_drewN0 (w := W2) _)).mono ?_; rintro e wc ⟨rfl, hwc⟩; have hc1 := below_trans' (below_drewN0 (w := W2) _) hwc; have kc0 := (hc1.cell (p := ⟨b, 0, none⟩) lb).trans c0; have kc1 := (hc1.cell (p := ⟨b, 1, none⟩) lb).trans c1; have kc2 := (hc1.cell (p := ⟨b, 2, none⟩) lb).trans c2; have kc3 := (hc1.cell (p := ⟨st, 0, none⟩) lst).trans t0; have kc4 := (hc1.cell (p := ⟨st, 1, none⟩) lst).trans t1; have kc5 := (hc1.cell (p := ⟨st, 2, none⟩) lst).trans t2))
          all_goals
            have hEnd := Lib.hid (below_trans' Hb.out (below_trans' hbW hc1))
            go_wp2
            go_roundw
            case rel => exact ⟨i, k + 1, j + 1, _, by go_num, by go_num, rfl, by go_num, by omega, by omega, by omega, Hnx.out, hEnd.out⟩
            case measure => simp [intOf] <;> omega
        · have f3 : (s1 == -1 && (s2 == (k : Int) && s3 == ex)) = false := by
            cases hz : (s1 == -1 && (s2 == (k : Int) && s3 == ex))
            · rfl
            · simp at hz; exact absurd hz hex
          have Hno : Hid (N = 0 ∧ E = 42) := Lib.hid (HN.out.1 (by refine Cm.ckFrom_fail l (j + 1) _ ?_; rw [Cm.ckFrom_next l j hlt, Hpre.out, Option.bind_some, ← Hx.out, Cm.ckNext, Cm.ckStep, if_neg (fun e => hin e.1), if_neg (fun e => hin e.1), if_neg (fun e => hex (by have h := e.2; simp only [Prod.mk.injEq] at h; exact h))]; rfl))
          go_wp2
          rw [← hW2, ← hst]
          clear hW2 hst
          go_quiet (fail)
          have hQ1 := below_drewN' h0 nq
          go_wp2
          go_quiet (fail)
          have hQ2 := below_drewN' hQ1 nq
          go_wp2
          go_region_held3 (fun w' => w'.cell? ⟨b, 0, none⟩ = some (.iface T x) ∧ w'.cell? ⟨b, 1, none⟩ = some (.slice A xs.length ca) ∧ w'.cell? ⟨b, 2, none⟩ = some (.slice B ys.length cb) ∧ w'.cell? ⟨st, 0, none⟩ = some (.int .i64 s1) ∧ w'.cell? ⟨st, 1, none⟩ = some (.int .i64 s2) ∧ w'.cell? ⟨st, 2, none⟩ = some (.int .i64 s3)) (simp [*]) (first | (go_at_fn fe; refine (HE.out _ (below_drewN0 (w := W2) _)).mono ?_; rintro e wc ⟨rfl, hwc⟩; have hc1 := below_trans' (below_drewN0 (w := W2) _) hwc; have kc0 := (hc1.cell (p := ⟨b, 0, none⟩) lb).trans c0; have kc1 := (hc1.cell (p := ⟨b, 1, none⟩) lb).trans c1; have kc2 := (hc1.cell (p := ⟨b, 2, none⟩) lb).trans c2; have kc3 := (hc1.cell (p := ⟨st, 0, none⟩) lst).trans t0; have kc4 := (hc1.cell (p := ⟨st, 1, none⟩) lst).trans t1; have kc5 := (hc1.cell (p := ⟨st, 2, none⟩) lst).trans t2))
          all_goals
            have hEnd := Lib.hid (below_trans' Hb.out (below_trans' hbW hc1))
            go_wp2
            go_ret2
            exact ⟨by rw [Hno.out.1, Hno.out.2]; rfl, below_trans' Hb1.out hEnd.out⟩
      · have d2 : decide ((k : Int) < (ys.length : Int)) = false := by simp; omega
        have d2' : decide (k < ys.length) = false := by simp; omega
        have Hno : Hid (N = 0 ∧ E = 42) := Lib.hid (HN.out.1 (by refine Cm.ckFrom_fail l (j + 1) _ ?_; rw [Cm.ckFrom_next l j hlt, Hpre.out, Option.bind_some, ← Hx.out, Cm.ckNext, Cm.ckStep, if_neg (fun e => hin e.1), if_neg (fun e => hin e.1), if_neg (fun e => hkm e.1)]; rfl))
        go_wp2
        rw [← hW2, ← hst]
        clear hW2 hst
        go_quiet (fail)
        have hQ1 := below_drewN' h0 nq
        go_wp2
        go_quiet (fail)
        have hQ2 := below_drewN' hQ1 nq
        go_wp2
        go_quiet (fail)
        have hQ3 := below_drewN' hQ2 nq
        have hEnd := Lib.hid (below_trans' Hb.out (below_trans' hbW hQ3))
        go_wp2
        go_ret2
        exact ⟨by rw [Hno.out.1, Hno.out.2]; rfl, below_trans' Hb1.out hEnd.out⟩

theorem CkAlign_any (m : Int) (s h : ByteArray) (R : Option Addr) (cr : Nat) (l : List (Int × Int × Int)) (w : World) (hS : StepsG w R l) (hl : l.length ≤ 1000000) :
    Calls Tryz.prog 48 #[.int .i64 m, .string s, .string h, .slice R l.length cr] w fun e w' => e = .returned (.tuple #[.int .i64 (ckN1 m s h l), .int .i64 (ckE1 m s h l)]) ∧ Below w.heap.size w w' := by
  by_cases he : errOf m s h = 0
  · exact CkAlign_ok m s h R cr l w hS hl he
  · rw [ckN1, ckE1, if_pos he, if_pos he]; exact CkAlign_no m s h _ w he
end Go.Proofs.YtgcddjgkieambaaGreatDoor
