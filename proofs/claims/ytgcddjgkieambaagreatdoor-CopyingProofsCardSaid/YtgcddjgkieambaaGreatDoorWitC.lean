/- The walk of 'CheckTable'. Printed by witc.py. -/
import Derived.Test.YtgcddjgkieambaaGreatDoorWitP
import Derived.Test.YtgcddjgkieambaaGreatDoorWitB
import Derived.Deep.RegionHeld3
import Derived.Test.YtgcddjgkieambaaGreatDoorApartP
set_option linter.unusedVariables false
set_option linter.unusedSimpArgs false
namespace Go.Proofs.YtgcddjgkieambaaGreatDoor
open Go.RowKit

set_option maxRecDepth 100000 in
set_option maxHeartbeats 1000000 in
theorem CkTable_no (m : Int) (s h : ByteArray) (v : Value) (w : World) (he : errOf m s h ≠ 0) :
    Calls Tryz.prog 50 #[.int .i64 m, .string s, .string h, v] w fun e w' => e = .returned (.tuple #[.int .i64 0, .int .i64 (errOf m s h)]) ∧ Below w.heap.size w w' := by
  have hc := fun W => hearing_no m s h W he
  obtain ⟨er, her⟩ : ∃ er, er = errOf m s h := ⟨_, rfl⟩
  rw [← her] at hc he ⊢
  have h0 : (er != 0) = true := by simpa using he
  have HC := Lib.hid hc
  clear hc her he
  unfold zeroHeard at HC
  go_enter Tryz.func50, Tryz.ntmps50
  go_wp2_with (first | (go_at_call 64; refine (HC.out _).mono ?_; rintro e w1 ⟨rfl, hb1⟩))
  go_ret2
  exact ⟨rfl, (hb1.alloc hb1.size _)⟩

theorem one_newB (w : World) (v : Value) (t : TypeId) : Below w.heap.size w (w.drew.alloc (.cells #[v] t)) := (Below.refl _ _).drew.alloc (Nat.le_refl _) _
theorem one_new (w : World) (v : Value) (t : TypeId) : Blk (w.drew.alloc (.cells #[v] t)) w.heap.size t #[v] := Blk.new w.drew t #[v]
theorem one_newB' (w : World) (v : Value) (t : TypeId) : Below w.heap.size w ((w.alloc (.cells #[v] t)).drew) := ((Below.refl _ _).alloc (Nat.le_refl _) _).drew
theorem one_new' (w : World) (v : Value) (t : TypeId) : Blk ((w.alloc (.cells #[v] t)).drew) w.heap.size t #[v] := (Blk.new w t #[v]).drew

set_option maxRecDepth 100000 in
set_option maxHeartbeats 16000000 in
theorem CkTable_ok (m : Int) (s h : ByteArray) (R : Option Addr) (cr : Nat) (L : List (List Int)) (w : World) (hS : RowsG w R L) (hl : L.length ≤ 1000000) (he : errOf m s h = 0) :
    Calls Tryz.prog 50 #[.int .i64 m, .string s, .string h, .slice R L.length cr] w fun e w' => e = .returned (.tuple #[.int .i64 (ckN2 m s h L), .int .i64 (ckE2 m s h L)]) ∧ Below w.heap.size w w' := by
  obtain ⟨hm, l1, l2, c1, c2⟩ := errOf_ok he
  have hA := hearing_ok m s h w hm l1 l2 c1 c2
  rw [← row_length s] at hA l1
  rw [← row_length h] at hA l2
  have hN1 : ckN2 m s h L = (ckTb m (row s) (row h) L).getD 0 := by rw [ckN2, if_neg (fun h => h he)]
  have hE1 : ckE2 m s h L = if (ckTb m (row s) (row h) L).isSome then 0 else 42 := by rw [ckE2, if_neg (fun h => h he)]
  obtain ⟨xs, hxs⟩ : ∃ xs, xs = row s := ⟨_, rfl⟩
  obtain ⟨ys, hys⟩ : ∃ ys, ys = row h := ⟨_, rfl⟩
  rw [← hxs, ← hys] at hA hN1 hE1
  rw [← hxs] at l1
  rw [← hys] at l2
  have HN := Lib.hid (tb_law m xs ys L _ _ hN1 hE1)
  obtain ⟨N, hNN⟩ : ∃ N, N = ckN2 m s h L := ⟨_, rfl⟩
  obtain ⟨E, hEE⟩ : ∃ E, E = ckE2 m s h L := ⟨_, rfl⟩
  rw [← hNN, ← hEE] at HN ⊢
  obtain ⟨at_, hat_⟩ : ∃ a, a = Cm.atL m xs ys := ⟨_, rfl⟩
  obtain ⟨ms, hms0⟩ : ∃ a, a = Cm.missC m := ⟨_, rfl⟩
  obtain ⟨ex, hex0⟩ : ∃ a, a = Cm.extraC m := ⟨_, rfl⟩
  rw [← hat_, ← hms0, ← hex0] at HN
  have hmsb : 0 ≤ ms ∧ ms ≤ 10 := by rw [hms0]; exact Cm.missC_bd m
  have hexb : 0 ≤ ex ∧ ex ≤ 10 := by rw [hex0]; exact Cm.extraC_bd m
  have hat : ∀ i k, 0 ≤ at_ i k ∧ at_ i k ≤ 1000 := fun i k => by rw [hat_]; exact Cm.atL_bd
  have Hat := Lib.hid hat
  have HA := Lib.hid hA
  have HS := Lib.hid hS
  have Hat_ := Lib.hid hat_
  have Hms0 := Lib.hid hms0
  have Hex0 := Lib.hid hex0
  have hmf : ∀ (fn : Fn) (first cap : Array Value) (w : World), (Instr.makeFunc fn first cap).run Tryz.prog w = .ok (.func fn first cap) w := fun _ _ _ _ => rfl
  clear hA hxs hys c1 c2 hm hN1 hE1 hNN hEE hS hat_ hms0 hex0 hat he
  go_enter Tryz.func50, Tryz.ntmps50
  go_upto_region 4 with (first | (go_at_call 64; refine HA.out.mono ?_; rintro e w1 ⟨T, x, A, B, ca, cb, rfl, hH, hb1⟩))
  have hb2 := hb1.alloc hb1.size (Obj.cells #[.iface T x, .slice A xs.length ca, .slice B ys.length cb] 75)
  have hH2 := hH.later (below_alloc0 (Obj.cells #[.iface T x, .slice A xs.length ca, .slice B ys.length cb] 75))
  have hB2 := Blk.new w1 75 #[.iface T x, .slice A xs.length ca, .slice B ys.length cb]
  obtain ⟨b, hbb⟩ : ∃ b, b = w1.heap.size := ⟨_, rfl⟩
  obtain ⟨W, hW⟩ : ∃ W, W = w1.alloc (Obj.cells #[.iface T x, .slice A xs.length ca, .slice B ys.length cb] 75) := ⟨_, rfl⟩
  rw [← hW] at hb2 hH2 hB2 ⊢
  rw [← hbb] at hB2 ⊢
  have lW := hB2.lt
  have hn0 : ¬ W.heap.size = b := by omega
  obtain ⟨q0, q1, q2, _, _, _⟩ := blk3 hB2
  have Hb1 := Lib.hid hb2
  have HSt := Lib.hid (HS.out.later hb2)
  have HH := Lib.hid hH2
  have HBb := Lib.hid hB2
  obtain ⟨fm, fe, fs, hc⟩ := hH2.c
  have HM5 := Lib.hid (fun W' hB => hc.cm W' hB)
  have HE5 := Lib.hid (fun W' hB => hc.ce W' hB)
  rw [← Hms0.out] at HM5
  rw [← Hex0.out] at HE5
  have hmm := hc.mm
  have hem := hc.em
  have hme := hc.me
  have hee := hc.ee
  unfold Enters at hem hee
  clear hc hW hbb hb1 hb2 hH hH2 hB2 HA HS
  go_cut [12, 13] (fun s12 s13 wx => ∃ pm : Nat, s12 = .int .i64 xs.length ∧ s13 = .pointer (some ⟨pm, 0, none⟩) ∧ Blk wx pm 3 #[.int .i64 ys.length] ∧ Below W.heap.size W wx)
  case first =>
    go_region_held3 (fun w' => w'.cell? ⟨b, 1, none⟩ = some (.slice A xs.length ca) ∧ w'.cell? ⟨b, 2, none⟩ = some (.slice B ys.length cb)) (simp [*, World.cell?_alloc_some, World.cell?_setCell_far]) (fail)
    all_goals
      go_wp2_with fail
      go_meet
      first
        | exact ⟨_, rfl, rfl, one_new _ _ _, one_newB _ _ _⟩
        | exact ⟨_, rfl, rfl, one_new' _ _ _, one_newB' _ _ _⟩
  case rest =>
  obtain ⟨pm, rfl, rfl, hpm, hbc⟩ := hcut
  have HBc := Lib.hid (HBb.out.later hbc)
  have HHc := Lib.hid (HH.out.later hbc)
  have HSc := Lib.hid (HSt.out.later hbc)
  have HMc := Lib.hid (fun W' (hW' : Below wc.heap.size wc W') => HM5.out W' (below_trans' hbc hW'))
  have HEc := Lib.hid (fun W' (hW' : Below wc.heap.size wc W') => HE5.out W' (below_trans' hbc hW'))
  have Hbc := Lib.hid (below_trans' Hb1.out hbc)
  have Hpm := Lib.hid hpm
  have cpm : wc.cell? ⟨pm, 0, none⟩ = some (.int .i64 ys.length) := hpm.cell 0
  clear hpm hbc q0 q1 q2 HBb HH HSt HM5 HE5 Hb1 lW hn0
  by_cases hlen : L.length = xs.length + 1
  case neg =>
    have d0 : ((L.length : Int) != (xs.length : Int) + 1) = true := by rw [bne_iff_ne]; omega
    have g0 : IntKind.i64.wrap ((xs.length : Int) + 1) = (xs.length : Int) + 1 := IntWalk.i64_in _ (by omega)
    have Hno := Lib.hid (HN.out.1 (by unfold formedB; rw [decide_eq_false hlen]; rfl))
    clear hlen
    go_wp2
    go_ret2
    exact ⟨by rw [Hno.out.1, Hno.out.2]; rfl, Hbc.out⟩
  have d0 : ((L.length : Int) != (xs.length : Int) + 1) = false := by simp; omega
  have g0 : IntKind.i64.wrap ((xs.length : Int) + 1) = (xs.length : Int) + 1 := IntWalk.i64_in _ (by omega)
  have HCR := Lib.hid (contains_rows R cr L pm ys.length wc hl HSc.out cpm (by omega))
  cases hsz : sized ys.length L
  case false =>
    rw [hsz] at HCR
    have Hno := Lib.hid (HN.out.1 (by unfold formedB; rw [hsz]; simp))
    clear hlen hsz
    go_wp2_with (go_at_call 89; refine HCR.out.mono ?_; rintro e w2 ⟨rfl, rfl⟩)
    go_ret2
    exact ⟨by rw [Hno.out.1, Hno.out.2]; rfl, Hbc.out⟩
  rw [hsz] at HCR
  have Hsz := Lib.hid hsz
  have HLen := Lib.hid hlen
  clear hlen hsz
  go_wp2_with (go_at_call 89; refine HCR.out.mono ?_; rintro e w2 ⟨rfl, rfl⟩)
  clear HCR
  go_loop [47] (fun v47 => ∃ j : Nat, j ≤ L.length ∧ v47 = .int .i64 j ∧ ∀ j', j' < j → noBig (L.getD j' []) = true) (fun v47 => L.length - (intOf v47).toNat)
  case atStart => exact ⟨0, by omega, rfl, fun j hj => absurd hj (by omega)⟩
  case round =>
  obtain ⟨j, hj, rfl, hnb⟩ := hrel
  by_cases hlt : j < L.length
  case pos =>
    have e1 : decide ((j : Int) < (L.length : Int)) = true := by simp; omega
    have e2 : (j : Int) < (L.length : Int) := by omega
    have e3 : (0 : Int) ≤ (j : Int) := by omega
    have e4 : IntKind.i64.wrap ((j : Int) + 1) = (j : Int) + 1 := IntWalk.i64_in _ (by omega)
    obtain ⟨a, rfl, _, Rj, rj, cj, hnj⟩ := HSc.out j hlt
    have hlj : (L.getD j []).length ≤ 1000000 := by rw [(sized_iff _ L).1 Hsz.out j hlt]; omega
    have HCB := Lib.hid (contains_big Rj rj (L.getD j []) wc hlj hnj)
    obtain ⟨rj', hrj'⟩ : ∃ r, r = L.getD j [] := ⟨_, rfl⟩
    rw [← hrj'] at cj HCB
    have Hrj := Lib.hid hrj'
    have Hnb := Lib.hid hnb
    clear hnj hlj hrj' hnb
    cases hz : noBig rj'
    · rw [hz] at HCB
      have Hno := Lib.hid (HN.out.1 (by
        have : L.all noBig = false := by
          cases ho : L.all noBig
          · rfl
          · have := (allBig_iff L).1 ho j hlt
            rw [← Hrj.out, hz] at this; exact this.symm
        unfold formedB; rw [this]; simp))
      clear hz
      go_wp2_with (go_at_call 91; refine HCB.out.mono ?_; rintro e w3 ⟨rfl, rfl⟩)
      go_ret2
      exact ⟨by rw [Hno.out.1, Hno.out.2]; rfl, Hbc.out⟩
    · rw [hz] at HCB
      have Hz := Lib.hid hz
      clear hz
      go_wp2_with (go_at_call 91; refine HCB.out.mono ?_; rintro e w3 ⟨rfl, rfl⟩)
      go_round
      case rel => exact ⟨j + 1, by omega, by go_num, fun j' hj' => by
        by_cases e : j' = j
        · subst e; rw [← Hrj.out]; exact Hz.out
        · exact Hnb.out j' (by omega)⟩
      case measure => simp [intOf]; omega
  obtain rfl : j = L.length := by omega
  have hform : formedB xs.length ys.length L = true := by
    unfold formedB
    rw [decide_eq_true HLen.out, Hsz.out, (allBig_iff L).2 hnb]; rfl
  have HFb := Lib.hid (fun i k hi hk => formed_bd hform (i := i) (k := k) hi hk)
  have HN2 := Lib.hid (HN.out.2 hform _ rfl)
  have hrows : ∀ i, i < L.length → (L.getD i []).length = ys.length + 1 := (sized_iff _ L).1 Hsz.out
  have Hrows := Lib.hid hrows
  have e1 : decide ((L.length : Int) < (L.length : Int)) = false := by simp
  -- the table's block; the row of an index
  obtain ⟨a, ha, hla0, R00, rr00, hcl00, _⟩ := HSc.out 0 (by have := HLen.out; omega)
  have hsp : a.spot = none := by
    have := World.cell?_spot hcl00
    simpa [Addr.add] using this
  obtain ⟨ga, oa, sp⟩ := a
  simp only at hsp
  subst hsp
  subst ha
  clear hcl00
  have HrowAt : ∀ wr : World, Below wc.heap.size wc wr → ∀ i, i < L.length → ∃ (gp op r0 : Nat), wr.cell? ⟨ga, oa + i, none⟩ = some (.slice (some ⟨gp, op, none⟩) (ys.length + 1) r0) ∧ ga < wr.heap.size ∧ gp < wr.heap.size ∧ ∀ k, k < ys.length + 1 → wr.cell? ⟨gp, op + k, none⟩ = some (.int .i64 ((L.getD i []).getD k 0)) := by
    intro wr hbr i hi
    obtain ⟨a', ha', hla, R0, r0, hcl, hnu⟩ := (HSc.out.later hbr) i hi
    cases ha'
    rw [hrows i hi] at hcl
    obtain ⟨p0, rfl, hp0, hc0⟩ := hnu 0 (by rw [hrows i hi]; omega)
    have hsp0 : p0.spot = none := by
      have := World.cell?_spot hc0
      simpa [Addr.add] using this
    obtain ⟨gp, op, sp0⟩ := p0
    simp only at hsp0
    subst hsp0
    rw [Addr.add_lit] at hcl
    refine ⟨gp, op, r0, hcl, hla, hp0, fun k hk => ?_⟩
    obtain ⟨p0', hp, _, hck⟩ := hnu k (by rw [hrows i hi]; exact hk)
    cases hp
    rw [Addr.add_lit] at hck
    exact hck
  have HRowAt := Lib.hid HrowAt
  obtain ⟨gp0, op0, r0, co0, _, lp0, hrow0⟩ := HrowAt wc (Below.refl _ _) 0 (by have := HLen.out; omega)
  have ce00 := hrow0 0 (by omega)
  obtain ⟨x00, hx00⟩ : ∃ x, x = fL L 0 0 := ⟨_, rfl⟩
  rw [show ((L.getD 0 []).getD 0 0) = fL L 0 0 from rfl, ← hx00] at ce00
  have f0 : (0 : Int) < (L.length : Int) := by have := HLen.out; omega
  have f0' : 0 < L.length := by have := HLen.out; omega
  have f0n : L ≠ [] := by intro e; rw [e] at f0'; simp at f0'
  have f1 : (0 : Int) < (ys.length : Int) + 1 := by omega
  obtain ⟨B0, hB0⟩ : ∃ z, z = decide (fL L 0 0 = 0) := ⟨_, rfl⟩
  have f2 : (x00 == 0) = B0 := by rw [hB0, hx00]; rfl
  have HB0 := Lib.hid hB0
  have co0' : wc.cell? ⟨ga, oa, none⟩ = some (.slice (some ⟨gp0, op0, none⟩) (ys.length + 1) r0) := by simpa using co0
  have ce00' : wc.cell? ⟨gp0, op0, none⟩ = some (.int .i64 x00) := by simpa using ce00
  clear hrow0 HrowAt hnb hx00 hrows hform hB0 hla0
  go_wp2
  clear f0 f0' f0n f1 f2 co0 ce00 lp0 e1 co0' ce00'
  go_loopw [16, 62] (fun v16 v62 wx => ∃ i : Nat, i ≤ xs.length + 1 ∧ v62 = .int .i64 i ∧ v16 = .bool (B0 && Cm.rowsOk xs.length ys.length at_ ms ex (fL L) i) ∧ Below wc.heap.size wc wx) (fun _ v62 _ => xs.length + 1 - (intOf v62).toNat)
  case atStart => exact ⟨0, by omega, rfl, by simp [Cm.rowsOk], Below.refl _ _⟩
  case round =>
  obtain ⟨i, hi, rfl, rfl, hb⟩ := hrel
  have Hbo := Lib.hid hb
  by_cases hit : i < xs.length + 1
  case neg =>
    obtain rfl : i = xs.length + 1 := by omega
    have e1 : decide ((xs.length : Int) + 1 < (xs.length : Int) + 1) = false := by simp
    have e1' : decide (((xs.length + 1 : Nat) : Int) < (xs.length : Int) + 1) = false := by simp
    have hpmr := (Hpm.out.later hb).cell 0
    have cpmr : wr.cell? ⟨pm, 0, none⟩ = some (.int .i64 ys.length) := hpmr
    obtain ⟨gp0, op0, r0, co0, _, lp0, hrow0⟩ := HRowAt.out wr hb xs.length (by have := HLen.out; omega)
    have ce00 := hrow0 ys.length (by omega)
    obtain ⟨x00, hx00⟩ : ∃ x, x = fL L xs.length ys.length := ⟨_, rfl⟩
    rw [show ((L.getD xs.length []).getD ys.length 0) = fL L xs.length ys.length from rfl, ← hx00] at ce00
    have f0 : (xs.length : Int) < (L.length : Int) := by have := HLen.out; omega
    have f1 : (ys.length : Int) < (ys.length : Int) + 1 := by omega
    have HX := Lib.hid hx00
    obtain ⟨z, hz⟩ : ∃ z, z = (B0 && Cm.rowsOk xs.length ys.length at_ ms ex (fL L) (xs.length + 1)) := ⟨_, rfl⟩
    have htb : z = Cm.tabOk xs.length ys.length at_ ms ex (fL L) := by rw [hz, HB0.out]; rfl
    rw [← htb] at HN2
    rw [← hz]
    clear hrow0 hx00 hz htb hb hpmr
    cases z
    · have Hno := Lib.hid (HN2.out.1 rfl)
      go_wp2
      go_ret2
      exact ⟨by rw [Hno.out.1, Hno.out.2]; rfl, below_trans' Hbc.out Hbo.out⟩
    · have Hyes := Lib.hid (HN2.out.2 rfl)
      go_wp2
      go_quiet (fail)
      go_wp2
      go_ret2
      exact ⟨by rw [Hyes.out.1, Hyes.out.2, ← HX.out]; rfl, below_drewN' (below_trans' Hbc.out Hbo.out) _⟩
  have e1 : decide ((i : Int) < (xs.length : Int) + 1) = true := by simp; omega
  have e3 : (0 : Int) ≤ (i : Int) := by omega
  have e4 : IntKind.i64.wrap ((i : Int) + 1) = (i : Int) + 1 := IntWalk.i64_in _ (by omega)
  have e5 : (i : Int) < (L.length : Int) := by have := HLen.out; omega
  have g5 : IntKind.i64.wrap ((ys.length : Int) + 1) = (ys.length : Int) + 1 := IntWalk.i64_in _ (by omega)
  have cpmr : wr.cell? ⟨pm, 0, none⟩ = some (.int .i64 ys.length) := (Hpm.out.later hb).cell 0
  obtain ⟨C0, hC0⟩ : ∃ z, z = (B0 && Cm.rowsOk xs.length ys.length at_ ms ex (fL L) i) := ⟨_, rfl⟩
  have HC0 := Lib.hid hC0
  rw [← hC0]
  obtain ⟨wo, rfl⟩ : ∃ wo : World, wo = wr := ⟨_, rfl⟩
  clear hC0 hb
  go_wp2
  go_loopw [16, 67] (fun v16 v67 wx => ∃ k : Nat, k ≤ ys.length + 1 ∧ v67 = .int .i64 k ∧ v16 = .bool (B0 && Cm.rowsOk xs.length ys.length at_ ms ex (fL L) i && Cm.rowOk xs.length ys.length at_ ms ex (fL L) i k) ∧ Below wc.heap.size wc wx) (fun _ v67 _ => ys.length + 1 - (intOf v67).toNat)
  case atStart => exact ⟨0, by omega, rfl, by rw [HC0.out]; simp [Cm.rowOk], Hbo.out⟩
  case round =>
    obtain ⟨k, hk, rfl, rfl, hb⟩ := hrel
    have Hb := Lib.hid hb
    by_cases hkt : k < ys.length + 1
    case neg =>
      obtain rfl : k = ys.length + 1 := by omega
      have f1 : decide ((ys.length : Int) + 1 < (ys.length : Int) + 1) = false := by simp
      have f1' : decide (((ys.length + 1 : Nat) : Int) < (ys.length : Int) + 1) = false := by simp
      obtain ⟨z, hz⟩ : ∃ z, z = (B0 && Cm.rowsOk xs.length ys.length at_ ms ex (fL L) i && Cm.rowOk xs.length ys.length at_ ms ex (fL L) i (ys.length + 1)) := ⟨_, rfl⟩
      rw [← hz]
      have HZ := Lib.hid hz
      clear hz hb
      go_wp2
      go_roundw
      case rel => exact ⟨i + 1, by omega, by go_num, by rw [Cm.rowsOk_succ, ← Bool.and_assoc, ← HZ.out], Hb.out⟩
      case measure => simp [intOf] <;> omega
    have q1 : decide ((k : Int) < (ys.length : Int) + 1) = true := by simp; omega
    have q3 : (0 : Int) ≤ (k : Int) := by omega
    have q4 : IntKind.i64.wrap ((k : Int) + 1) = (k : Int) + 1 := IntWalk.i64_in _ (by omega)
    have q5 : (k : Int) < (ys.length : Int) + 1 := by omega
    have hpmr := Hpm.out.later hb
    have cm : wr.cell? ⟨pm, 0, none⟩ = some (.int .i64 ys.length) := hpmr.cell 0
    have lpm := hpmr.lt
    have hBr := HBc.out.later hb
    have lb := hBr.lt
    have c0 : wr.cell? ⟨b, 0, none⟩ = some (.iface T x) := hBr.cell 0
    have c1 : wr.cell? ⟨b, 1, none⟩ = some (.slice A xs.length ca) := hBr.cell 1
    have c2 : wr.cell? ⟨b, 2, none⟩ = some (.slice B ys.length cb) := hBr.cell 2
    have hrowAt := HRowAt.out wr hb
    have hLl := HLen.out
    obtain ⟨gp0, op0, r0, co0, la, lp0, hrow0⟩ := hrowAt i (by omega)
    have ce00 := hrow0 k (by omega)
    have bx00 := HFb.out i k (by omega) (by omega)
    obtain ⟨x00, hx00⟩ : ∃ x, x = fL L i k := ⟨_, rfl⟩
    rw [show ((L.getD i []).getD k 0) = fL L i k from rfl, ← hx00] at ce00
    rw [← hx00] at bx00
    have hHr := HHc.out.later hb
    have HA0 := Lib.hid (fun (a d : Int) h0 h1 h2 h3 W' (hW' : Below wr.heap.size wr W') => (show Calls Tryz.prog 69 #[.agg #[.iface T x, .slice A xs.length ca, .slice B ys.length cb], .int .i64 a, .int .i64 d] W' fun e w' => e = .returned (.int .i64 (at_ a.toNat d.toNat)) ∧ Below W'.heap.size W' w' from by
      rw [Hat_.out]; exact at_any m T x A B _ _ ca cb xs ys a d W' (hHr.later hW') h0 h1 h2 h3))
    have HM := Lib.hid (fun W' (hW' : Below wr.heap.size wr W') => HMc.out W' (below_trans' hb hW'))
    have HE := Lib.hid (fun W' (hW' : Below wr.heap.size wr W') => HEc.out W' (below_trans' hb hW'))
    have h0 : Below wr.heap.size wr wr := Below.refl _ _
    obtain ⟨z, hz⟩ : ∃ z, z = (B0 && Cm.rowsOk xs.length ys.length at_ ms ex (fL L) i && Cm.rowOk xs.length ys.length at_ ms ex (fL L) i k) := ⟨_, rfl⟩
    rw [← hz]
    have HZ := Lib.hid hz
    clear hz hb hBr hpmr hHr cpmr
    cases z
    · skip
      have Hnz : Hid (Value.bool false = Value.bool (B0 && Cm.rowsOk xs.length ys.length at_ ms ex (fL L) i && Cm.rowOk xs.length ys.length at_ ms ex (fL L) i (k + 1))) := Lib.hid (by rw [Cm.rowOk_succ, ← Bool.and_assoc, ← HZ.out]; rfl)
      clear hLl hrowAt hrow0 hx00
      as_aux_lemma =>
        go_wp2
        go_quiet (fail)
        have hQ1 := below_drewN' h0 nq
        go_wp2
        go_quiet (fail)
        have hQ2 := below_drewN' hQ1 nq
        have hEnd := Lib.hid (below_trans' Hb.out hQ2)
        go_wp2
        go_roundw
        case rel => exact ⟨k + 1, by omega, by go_num, Hnz.out, by first | exact hEnd.out | (rw [← drewN_two]; exact hEnd.out)⟩
        case measure => simp [intOf] <;> omega
    · by_cases hin : i = xs.length
      · have d1 : ((i : Int) == (xs.length : Int)) = true := by simp; omega
        by_cases hkm : k = ys.length
        · have d2 : ((k : Int) == (ys.length : Int)) = true := by simp; omega
          have Hnz : Hid (Value.bool true = Value.bool (B0 && Cm.rowsOk xs.length ys.length at_ ms ex (fL L) i && Cm.rowOk xs.length ys.length at_ ms ex (fL L) i (k + 1))) := Lib.hid (by rw [Cm.rowOk_succ, ← Bool.and_assoc, ← HZ.out]; unfold Cm.cellOk; rw [decide_eq_true hin, decide_eq_true hkm]; rfl)
          clear hin hkm
          clear hLl hrowAt hrow0 hx00
          as_aux_lemma =>
            go_wp2
            go_quiet (fail)
            have hQ1 := below_drewN' h0 nq
            go_wp2
            go_quiet (fail)
            have hQ2 := below_drewN' hQ1 nq
            have hEnd := Lib.hid (below_trans' Hb.out hQ2)
            go_wp2
            go_roundw
            case rel => exact ⟨k + 1, by omega, by go_num, Hnz.out, by first | exact hEnd.out | (rw [← drewN_two]; exact hEnd.out)⟩
            case measure => simp [intOf] <;> omega
        · have d2 : ((k : Int) == (ys.length : Int)) = false := by simp; omega
          have ce01 := hrow0 (k + 1) (by omega)
          have bx01 := HFb.out i (k + 1) (by omega) (by omega)
          obtain ⟨x01, hx01⟩ : ∃ x, x = fL L i (k + 1) := ⟨_, rfl⟩
          rw [show ((L.getD i []).getD (k + 1) 0) = fL L i (k + 1) from rfl, ← hx01] at ce01
          rw [← hx01] at bx01
          have g2 : IntKind.i64.wrap (x00 + ex) = x00 + ex := IntWalk.i64_in _ (by omega)
          have y2 : (k : Int) + 1 < (ys.length : Int) + 1 := by omega
          have y3 : ((k : Int) + 1).toNat = k + 1 := by omega
          have y4 : (0 : Int) ≤ (k : Int) + 1 := by omega
          obtain ⟨z2, hz2⟩ : ∃ z, z = decide (x01 ≤ x00 + ex) := ⟨_, rfl⟩
          have f2 : decide (x01 ≤ x00 + ex) = z2 := hz2.symm
          have Hnz : Hid (Value.bool z2 = Value.bool (B0 && Cm.rowsOk xs.length ys.length at_ ms ex (fL L) i && Cm.rowOk xs.length ys.length at_ ms ex (fL L) i (k + 1))) := Lib.hid (by rw [Cm.rowOk_succ, ← Bool.and_assoc, ← HZ.out]; unfold Cm.cellOk; rw [← hx00, ← hx01, decide_eq_true hin, decide_eq_false hkm, ← hz2]; cases z2 <;> rfl)
          clear hin hkm hz2
          clear hLl hrowAt hrow0 hx00 hx01
          as_aux_lemma =>
            go_wp2
            refine wp_region_held_drew (S := (fun w' => w'.cell? ⟨b, 0, none⟩ = some (.iface T x) ∧ w'.cell? ⟨b, 1, none⟩ = some (.slice A xs.length ca) ∧ w'.cell? ⟨b, 2, none⟩ = some (.slice B ys.length cb) ∧ w'.cell? ⟨pm, 0, none⟩ = some (.int .i64 ys.length) ∧ w'.cell? ⟨ga, oa + i, none⟩ = some (.slice (some ⟨gp0, op0, none⟩) (ys.length + 1) r0) ∧ w'.cell? ⟨gp0, op0 + k, none⟩ = some (.int .i64 x00) ∧ w'.cell? ⟨gp0, op0 + (k + 1), none⟩ = some (.int .i64 x01))) (by kernel_rfl) ?hS1 (fun hHeld => ?_)
            case hS1 => ((try dsimp only); simp [*])
            refine wpAnyH_take (i := 0) (v := ?v0_1) rfl (by kernel_rfl) (by kernel_rfl) (by kernel_rfl) (fun _ _ _ h => h) (Or.inl ⟨by kernel_rfl, ?hy0_1⟩) (by assumption) ?_
            case hy0_1 => ((intro w hSw; (try dsimp only at hSw); go_simp) <;> with_reducible rfl)
            (try simp only [Act.put, List.getElem_toArray, List.getElem_cons_succ, List.getElem_cons_zero, List.setIfInBounds_toArray, List.set_cons_zero, List.set_cons_succ])
            refine wpAnyH_take (i := 1) (v := ?v1_1) rfl (by kernel_rfl) (by kernel_rfl) (by kernel_rfl) (fun _ _ _ h => h) (Or.inl ⟨by kernel_rfl, ?hy1_1⟩) (by assumption) ?_
            case hy1_1 => ((intro w hSw; (try dsimp only at hSw); go_simp) <;> with_reducible rfl)
            (try simp only [Act.put, List.getElem_toArray, List.getElem_cons_succ, List.getElem_cons_zero, List.setIfInBounds_toArray, List.set_cons_zero, List.set_cons_succ])
            refine wpAnyH_take (i := 2) (v := ?v2_1) rfl (by kernel_rfl) (by kernel_rfl) (by kernel_rfl) (fun _ _ _ h => h) (Or.inl ⟨by kernel_rfl, ?hy2_1⟩) (by assumption) ?_
            case hy2_1 => ((intro w hSw; (try dsimp only at hSw); go_simp) <;> with_reducible rfl)
            (try simp only [Act.put, List.getElem_toArray, List.getElem_cons_succ, List.getElem_cons_zero, List.setIfInBounds_toArray, List.set_cons_zero, List.set_cons_succ])
            refine wpAnyH_take (i := 3) (v := ?v3_1) rfl (by kernel_rfl) (by kernel_rfl) (by kernel_rfl) (fun _ _ _ h => h) (Or.inl ⟨by kernel_rfl, ?hy3_1⟩) (by assumption) ?_
            case hy3_1 => ((intro w hSw; (try dsimp only at hSw); go_simp) <;> with_reducible rfl)
            (try simp only [Act.put, List.getElem_toArray, List.getElem_cons_succ, List.getElem_cons_zero, List.setIfInBounds_toArray, List.set_cons_zero, List.set_cons_succ])
            refine wpAnyH_take (i := 4) (v := ?v4_1) rfl (by kernel_rfl) (by kernel_rfl) (by kernel_rfl) (fun _ _ _ h => h) (Or.inl ⟨by kernel_rfl, ?hy4_1⟩) (by assumption) ?_
            case hy4_1 => ((intro w hSw; (try dsimp only at hSw); go_simp) <;> with_reducible rfl)
            (try simp only [Act.put, List.getElem_toArray, List.getElem_cons_succ, List.getElem_cons_zero, List.setIfInBounds_toArray, List.set_cons_zero, List.set_cons_succ])
            refine wpAnyH_take (i := 5) (v := ?v5_1) rfl (by kernel_rfl) (by kernel_rfl) (by kernel_rfl) (fun _ _ _ h => h) (Or.inl ⟨by kernel_rfl, ?hy5_1⟩) (by assumption) ?_
            case hy5_1 => ((intro w hSw; (try dsimp only at hSw); go_simp) <;> with_reducible rfl)
            (try simp only [Act.put, List.getElem_toArray, List.getElem_cons_succ, List.getElem_cons_zero, List.setIfInBounds_toArray, List.set_cons_zero, List.set_cons_succ])
            refine wpAnyH_take (i := 6) (v := undef) rfl (by kernel_rfl) (by kernel_rfl) (by kernel_rfl) (fun _ _ _ h => h) (Or.inr ⟨by kernel_rfl, rfl⟩) (by assumption) ?_
            (try simp only [Act.put, List.getElem_toArray, List.getElem_cons_succ, List.getElem_cons_zero, List.setIfInBounds_toArray, List.set_cons_zero, List.set_cons_succ])
            refine wpAnyH_take (i := 7) (v := undef) rfl (by kernel_rfl) (by kernel_rfl) (by kernel_rfl) (fun _ _ _ h => h) (Or.inr ⟨by kernel_rfl, rfl⟩) (by assumption) ?_
            (try simp only [Act.put, List.getElem_toArray, List.getElem_cons_succ, List.getElem_cons_zero, List.setIfInBounds_toArray, List.set_cons_zero, List.set_cons_succ])
            refine wpAnyH_take (i := 8) (v := undef) rfl (by kernel_rfl) (by kernel_rfl) (by kernel_rfl) (fun _ _ _ h => h) (Or.inr ⟨by kernel_rfl, rfl⟩) (by assumption) ?_
            (try simp only [Act.put, List.getElem_toArray, List.getElem_cons_succ, List.getElem_cons_zero, List.setIfInBounds_toArray, List.set_cons_zero, List.set_cons_succ])
            refine wpAnyH_take (i := 9) (v := undef) rfl (by kernel_rfl) (by kernel_rfl) (by kernel_rfl) (fun _ _ _ h => h) (Or.inr ⟨by kernel_rfl, rfl⟩) (by assumption) ?_
            (try simp only [Act.put, List.getElem_toArray, List.getElem_cons_succ, List.getElem_cons_zero, List.setIfInBounds_toArray, List.set_cons_zero, List.set_cons_succ])
            refine wpAnyH_take (i := 10) (v := undef) rfl (by kernel_rfl) (by kernel_rfl) (by kernel_rfl) (fun _ _ _ h => h) (Or.inr ⟨by kernel_rfl, rfl⟩) (by assumption) ?_
            (try simp only [Act.put, List.getElem_toArray, List.getElem_cons_succ, List.getElem_cons_zero, List.setIfInBounds_toArray, List.set_cons_zero, List.set_cons_succ])
            refine wpAnyH_take (i := 11) (v := undef) rfl (by kernel_rfl) (by kernel_rfl) (by kernel_rfl) (fun _ _ _ h => h) (Or.inr ⟨by kernel_rfl, rfl⟩) (by assumption) ?_
            (try simp only [Act.put, List.getElem_toArray, List.getElem_cons_succ, List.getElem_cons_zero, List.setIfInBounds_toArray, List.set_cons_zero, List.set_cons_succ])
            refine wpAnyH_take (i := 12) (v := undef) rfl (by kernel_rfl) (by kernel_rfl) (by kernel_rfl) (fun _ _ _ h => h) (Or.inr ⟨by kernel_rfl, rfl⟩) (by assumption) ?_
            (try simp only [Act.put, List.getElem_toArray, List.getElem_cons_succ, List.getElem_cons_zero, List.setIfInBounds_toArray, List.set_cons_zero, List.set_cons_succ])
            refine wpAnyH_take (i := 13) (v := undef) rfl (by kernel_rfl) (by kernel_rfl) (by kernel_rfl) (fun _ _ _ h => h) (Or.inr ⟨by kernel_rfl, rfl⟩) (by assumption) ?_
            (try simp only [Act.put, List.getElem_toArray, List.getElem_cons_succ, List.getElem_cons_zero, List.setIfInBounds_toArray, List.set_cons_zero, List.set_cons_succ])
            refine wpAnyH_take (i := 14) (v := undef) rfl (by kernel_rfl) (by kernel_rfl) (by kernel_rfl) (fun _ _ _ h => h) (Or.inr ⟨by kernel_rfl, rfl⟩) (by assumption) ?_
            (try simp only [Act.put, List.getElem_toArray, List.getElem_cons_succ, List.getElem_cons_zero, List.setIfInBounds_toArray, List.set_cons_zero, List.set_cons_succ])
            refine wpAnyH_take (i := 15) (v := undef) rfl (by kernel_rfl) (by kernel_rfl) (by kernel_rfl) (fun _ _ _ h => h) (Or.inr ⟨by kernel_rfl, rfl⟩) (by assumption) ?_
            (try simp only [Act.put, List.getElem_toArray, List.getElem_cons_succ, List.getElem_cons_zero, List.setIfInBounds_toArray, List.set_cons_zero, List.set_cons_succ])
            refine wpAnyH_take (i := 16) (v := undef) rfl (by kernel_rfl) (by kernel_rfl) (by kernel_rfl) (fun _ _ _ h => h) (Or.inr ⟨by kernel_rfl, rfl⟩) (by assumption) ?_
            (try simp only [Act.put, List.getElem_toArray, List.getElem_cons_succ, List.getElem_cons_zero, List.setIfInBounds_toArray, List.set_cons_zero, List.set_cons_succ])
            refine wpAnyH_take (i := 17) (v := undef) rfl (by kernel_rfl) (by kernel_rfl) (by kernel_rfl) (fun _ _ _ h => h) (Or.inr ⟨by kernel_rfl, rfl⟩) (by assumption) ?_
            (try simp only [Act.put, List.getElem_toArray, List.getElem_cons_succ, List.getElem_cons_zero, List.setIfInBounds_toArray, List.set_cons_zero, List.set_cons_succ])
            refine wpAnyH_take (i := 18) (v := undef) rfl (by kernel_rfl) (by kernel_rfl) (by kernel_rfl) (fun _ _ _ h => h) (Or.inr ⟨by kernel_rfl, rfl⟩) (by assumption) ?_
            (try simp only [Act.put, List.getElem_toArray, List.getElem_cons_succ, List.getElem_cons_zero, List.setIfInBounds_toArray, List.set_cons_zero, List.set_cons_succ])
            refine wpAnyH_take (i := 19) (v := undef) rfl (by kernel_rfl) (by kernel_rfl) (by kernel_rfl) (fun _ _ _ h => h) (Or.inr ⟨by kernel_rfl, rfl⟩) (by assumption) ?_
            (try simp only [Act.put, List.getElem_toArray, List.getElem_cons_succ, List.getElem_cons_zero, List.setIfInBounds_toArray, List.set_cons_zero, List.set_cons_succ])
            refine wpAnyH_take (i := 20) (v := undef) rfl (by kernel_rfl) (by kernel_rfl) (by kernel_rfl) (fun _ _ _ h => h) (Or.inr ⟨by kernel_rfl, rfl⟩) (by assumption) ?_
            (try simp only [Act.put, List.getElem_toArray, List.getElem_cons_succ, List.getElem_cons_zero, List.setIfInBounds_toArray, List.set_cons_zero, List.set_cons_succ])
            refine wpAnyH_take (i := 21) (v := undef) rfl (by kernel_rfl) (by kernel_rfl) (by kernel_rfl) (fun _ _ _ h => h) (Or.inr ⟨by kernel_rfl, rfl⟩) (by assumption) ?_
            (try simp only [Act.put, List.getElem_toArray, List.getElem_cons_succ, List.getElem_cons_zero, List.setIfInBounds_toArray, List.set_cons_zero, List.set_cons_succ])
            refine wpAnyH_take (i := 22) (v := undef) rfl (by kernel_rfl) (by kernel_rfl) (by kernel_rfl) (fun _ _ _ h => h) (Or.inr ⟨by kernel_rfl, rfl⟩) (by assumption) ?_
            (try simp only [Act.put, List.getElem_toArray, List.getElem_cons_succ, List.getElem_cons_zero, List.setIfInBounds_toArray, List.set_cons_zero, List.set_cons_succ])
            refine wpAnyH_take (i := 23) (v := undef) rfl (by kernel_rfl) (by kernel_rfl) (by kernel_rfl) (fun _ _ _ h => h) (Or.inr ⟨by kernel_rfl, rfl⟩) (by assumption) ?_
            (try simp only [Act.put, List.getElem_toArray, List.getElem_cons_succ, List.getElem_cons_zero, List.setIfInBounds_toArray, List.set_cons_zero, List.set_cons_succ])
            refine wpAnyH_take (i := 24) (v := undef) rfl (by kernel_rfl) (by kernel_rfl) (by kernel_rfl) (fun _ _ _ h => h) (Or.inr ⟨by kernel_rfl, rfl⟩) (by assumption) ?_
            (try simp only [Act.put, List.getElem_toArray, List.getElem_cons_succ, List.getElem_cons_zero, List.setIfInBounds_toArray, List.set_cons_zero, List.set_cons_succ])
            refine wpAnyH_take (i := 25) (v := undef) rfl (by kernel_rfl) (by kernel_rfl) (by kernel_rfl) (fun _ _ _ h => h) (Or.inr ⟨by kernel_rfl, rfl⟩) (by assumption) ?_
            (try simp only [Act.put, List.getElem_toArray, List.getElem_cons_succ, List.getElem_cons_zero, List.setIfInBounds_toArray, List.set_cons_zero, List.set_cons_succ])
            refine wpAnyH_take (i := 26) (v := ?v26_1) rfl (by kernel_rfl) (by kernel_rfl) (by kernel_rfl) (fun _ _ _ h => h) (Or.inl ⟨by kernel_rfl, ?hy26_1⟩) (by assumption) ?_
            case hy26_1 => ((intro w hSw; (try dsimp only at hSw); go_simp) <;> with_reducible rfl)
            (try simp only [Act.put, List.getElem_toArray, List.getElem_cons_succ, List.getElem_cons_zero, List.setIfInBounds_toArray, List.set_cons_zero, List.set_cons_succ])
            refine wpAnyH_take (i := 27) (v := ?v27_1) rfl (by kernel_rfl) (by kernel_rfl) (by kernel_rfl) (fun _ _ _ h => h) (Or.inl ⟨by kernel_rfl, ?hy27_1⟩) (by assumption) ?_
            case hy27_1 => ((intro w hSw; (try dsimp only at hSw); go_simp) <;> with_reducible rfl)
            (try simp only [Act.put, List.getElem_toArray, List.getElem_cons_succ, List.getElem_cons_zero, List.setIfInBounds_toArray, List.set_cons_zero, List.set_cons_succ])
            refine wpAnyH_take (i := 28) (v := ?v28_1) rfl (by kernel_rfl) (by kernel_rfl) (by kernel_rfl) (fun _ _ _ h => h) (Or.inl ⟨by kernel_rfl, ?hy28_1⟩) (by assumption) ?_
            case hy28_1 => ((intro w hSw; (try dsimp only at hSw); go_simp) <;> with_reducible rfl)
            (try simp only [Act.put, List.getElem_toArray, List.getElem_cons_succ, List.getElem_cons_zero, List.setIfInBounds_toArray, List.set_cons_zero, List.set_cons_succ])
            refine wpAnyH_take (i := 29) (v := ?v29_1) rfl (by kernel_rfl) (by kernel_rfl) (by kernel_rfl) (fun _ _ _ h => h) (Or.inl ⟨by kernel_rfl, ?hy29_1⟩) (by assumption) ?_
            case hy29_1 => ((intro w hSw; (try dsimp only at hSw); go_simp) <;> with_reducible rfl)
            (try simp only [Act.put, List.getElem_toArray, List.getElem_cons_succ, List.getElem_cons_zero, List.setIfInBounds_toArray, List.set_cons_zero, List.set_cons_succ])
            refine wpAnyH_take (i := 30) (v := ?v30_1) rfl (by kernel_rfl) (by kernel_rfl) (by kernel_rfl) (fun _ _ _ h => h) (Or.inl ⟨by kernel_rfl, ?hy30_1⟩) (by assumption) ?_
            case hy30_1 => ((intro w hSw; (try dsimp only at hSw); go_simp) <;> with_reducible rfl)
            (try simp only [Act.put, List.getElem_toArray, List.getElem_cons_succ, List.getElem_cons_zero, List.setIfInBounds_toArray, List.set_cons_zero, List.set_cons_succ])
            refine wpAnyH_take (i := 31) (v := ?v31_1) rfl (by kernel_rfl) (by kernel_rfl) (by kernel_rfl) (fun _ _ _ h => h) (Or.inl ⟨by kernel_rfl, ?hy31_1⟩) (by assumption) ?_
            case hy31_1 => ((intro w hSw; (try dsimp only at hSw); go_simp) <;> with_reducible rfl)
            (try simp only [Act.put, List.getElem_toArray, List.getElem_cons_succ, List.getElem_cons_zero, List.setIfInBounds_toArray, List.set_cons_zero, List.set_cons_succ])
            refine wpAnyH_take (i := 32) (v := ?v32_1) rfl (by kernel_rfl) (by kernel_rfl) (by kernel_rfl) (fun _ _ _ h => h) (Or.inl ⟨by kernel_rfl, ?hy32_1⟩) (by assumption) ?_
            case hy32_1 => ((intro w hSw; (try dsimp only at hSw); go_simp) <;> with_reducible rfl)
            (try simp only [Act.put, List.getElem_toArray, List.getElem_cons_succ, List.getElem_cons_zero, List.setIfInBounds_toArray, List.set_cons_zero, List.set_cons_succ])
            refine wpAnyH_take (i := 33) (v := ?v33_1) rfl (by kernel_rfl) (by kernel_rfl) (by kernel_rfl) (fun _ _ _ h => h) (Or.inl ⟨by kernel_rfl, ?hy33_1⟩) (by assumption) ?_
            case hy33_1 => ((intro w hSw; (try dsimp only at hSw); go_simp) <;> with_reducible rfl)
            (try simp only [Act.put, List.getElem_toArray, List.getElem_cons_succ, List.getElem_cons_zero, List.setIfInBounds_toArray, List.set_cons_zero, List.set_cons_succ])
            refine wpAnyH_take (i := 34) (v := ?v34_1) rfl (by kernel_rfl) (by kernel_rfl) (by kernel_rfl) (fun _ _ _ h => h) (Or.inl ⟨by kernel_rfl, ?hy34_1⟩) (by assumption) ?_
            case hy34_1 => ((intro w hSw; (try dsimp only at hSw); go_simp) <;> with_reducible rfl)
            (try simp only [Act.put, List.getElem_toArray, List.getElem_cons_succ, List.getElem_cons_zero, List.setIfInBounds_toArray, List.set_cons_zero, List.set_cons_succ])
            refine wpAnyH_take (i := 35) (v := ?v35_1) rfl (by kernel_rfl) (by kernel_rfl) (by kernel_rfl) (fun _ _ _ h => h) (Or.inl ⟨by kernel_rfl, ?hy35_1⟩) (by assumption) ?_
            case hy35_1 => ((intro w hSw; (try dsimp only at hSw); go_simp) <;> with_reducible rfl)
            (try simp only [Act.put, List.getElem_toArray, List.getElem_cons_succ, List.getElem_cons_zero, List.setIfInBounds_toArray, List.set_cons_zero, List.set_cons_succ])
            refine wpAnyH_take (i := 36) (v := ?v36_1) rfl (by kernel_rfl) (by kernel_rfl) (by kernel_rfl) (fun _ _ _ h => h) (Or.inl ⟨by kernel_rfl, ?hy36_1⟩) (by assumption) ?_
            case hy36_1 => ((intro w hSw; (try dsimp only at hSw); go_simp) <;> with_reducible rfl)
            (try simp only [Act.put, List.getElem_toArray, List.getElem_cons_succ, List.getElem_cons_zero, List.setIfInBounds_toArray, List.set_cons_zero, List.set_cons_succ])
            refine wpAnyH_take (i := 37) (v := ?v37_1) rfl (by kernel_rfl) (by kernel_rfl) (by kernel_rfl) (fun _ _ _ h => h) (Or.inl ⟨by kernel_rfl, ?hy37_1⟩) (by assumption) ?_
            case hy37_1 => ((intro w hSw; (try dsimp only at hSw); go_simp) <;> with_reducible rfl)
            (try simp only [Act.put, List.getElem_toArray, List.getElem_cons_succ, List.getElem_cons_zero, List.setIfInBounds_toArray, List.set_cons_zero, List.set_cons_succ])
            refine wpAnyH_take (i := 38) (v := ?v38_1) rfl (by kernel_rfl) (by kernel_rfl) (by kernel_rfl) (fun _ _ _ h => h) (Or.inl ⟨by kernel_rfl, ?hy38_1⟩) (by assumption) ?_
            case hy38_1 => ((intro w hSw; (try dsimp only at hSw); go_simp) <;> with_reducible rfl)
            (try simp only [Act.put, List.getElem_toArray, List.getElem_cons_succ, List.getElem_cons_zero, List.setIfInBounds_toArray, List.set_cons_zero, List.set_cons_succ])
            refine wpAnyH_take (i := 39) (v := ?v39_1) rfl (by kernel_rfl) (by kernel_rfl) (by kernel_rfl) (fun _ _ _ h => h) (Or.inl ⟨by kernel_rfl, ?hy39_1⟩) (by assumption) ?_
            case hy39_1 => ((intro w hSw; (try dsimp only at hSw); go_simp) <;> with_reducible rfl)
            (try simp only [Act.put, List.getElem_toArray, List.getElem_cons_succ, List.getElem_cons_zero, List.setIfInBounds_toArray, List.set_cons_zero, List.set_cons_succ])
            refine wpAnyH_take (i := 40) (v := ?v40_1) rfl (by kernel_rfl) (by kernel_rfl) (by kernel_rfl) (fun _ _ _ h => h) (Or.inl ⟨by kernel_rfl, ?hy40_1⟩) (by assumption) ?_
            case hy40_1 => ((intro w hSw; (try dsimp only at hSw); go_simp) <;> with_reducible rfl)
            (try simp only [Act.put, List.getElem_toArray, List.getElem_cons_succ, List.getElem_cons_zero, List.setIfInBounds_toArray, List.set_cons_zero, List.set_cons_succ])
            refine wpAnyH_take (i := 41) (v := ?v41_1) rfl (by kernel_rfl) (by kernel_rfl) (by kernel_rfl) (fun _ _ _ h => h) (Or.inl ⟨by kernel_rfl, ?hy41_1⟩) (by assumption) ?_
            case hy41_1 => ((intro w hSw; (try dsimp only at hSw); go_simp) <;> with_reducible rfl)
            (try simp only [Act.put, List.getElem_toArray, List.getElem_cons_succ, List.getElem_cons_zero, List.setIfInBounds_toArray, List.set_cons_zero, List.set_cons_succ])
            refine wpAnyH_take (i := 42) (v := ?v42_1) rfl (by kernel_rfl) (by kernel_rfl) (by kernel_rfl) (fun _ _ _ h => h) (Or.inl ⟨by kernel_rfl, ?hy42_1⟩) (by assumption) ?_
            case hy42_1 => ((intro w hSw; (try dsimp only at hSw); go_simp) <;> with_reducible rfl)
            (try simp only [Act.put, List.getElem_toArray, List.getElem_cons_succ, List.getElem_cons_zero, List.setIfInBounds_toArray, List.set_cons_zero, List.set_cons_succ])
            refine wpAnyH_take (i := 43) (v := ?v43_1) rfl (by kernel_rfl) (by kernel_rfl) (by kernel_rfl) (fun _ _ _ h => h) (Or.inl ⟨by kernel_rfl, ?hy43_1⟩) (by assumption) ?_
            case hy43_1 => ((intro w hSw; (try dsimp only at hSw); go_simp) <;> with_reducible rfl)
            (try simp only [Act.put, List.getElem_toArray, List.getElem_cons_succ, List.getElem_cons_zero, List.setIfInBounds_toArray, List.set_cons_zero, List.set_cons_succ])
            refine wpAnyH_take (i := 44) (v := ?v44_1) rfl (by kernel_rfl) (by kernel_rfl) (by kernel_rfl) (fun _ _ _ h => h) (Or.inl ⟨by kernel_rfl, ?hy44_1⟩) (by assumption) ?_
            case hy44_1 => ((intro w hSw; (try dsimp only at hSw); go_simp) <;> with_reducible rfl)
            (try simp only [Act.put, List.getElem_toArray, List.getElem_cons_succ, List.getElem_cons_zero, List.setIfInBounds_toArray, List.set_cons_zero, List.set_cons_succ])
            refine wpAnyH_take (i := 45) (v := ?v45_1) rfl (by kernel_rfl) (by kernel_rfl) (by kernel_rfl) (fun _ _ _ h => h) (Or.inl ⟨by kernel_rfl, ?hy45_1⟩) (by assumption) ?_
            case hy45_1 => ((intro w hSw; (try dsimp only at hSw); go_simp) <;> with_reducible rfl)
            (try simp only [Act.put, List.getElem_toArray, List.getElem_cons_succ, List.getElem_cons_zero, List.setIfInBounds_toArray, List.set_cons_zero, List.set_cons_succ])
            refine wpAnyH_take (i := 46) (v := ?v46_1) rfl (by kernel_rfl) (by kernel_rfl) (by kernel_rfl) (fun _ _ _ h => h) (Or.inl ⟨by kernel_rfl, ?hy46_1⟩) (by assumption) ?_
            case hy46_1 => ((intro w hSw; (try dsimp only at hSw); go_simp) <;> with_reducible rfl)
            (try simp only [Act.put, List.getElem_toArray, List.getElem_cons_succ, List.getElem_cons_zero, List.setIfInBounds_toArray, List.set_cons_zero, List.set_cons_succ])
            refine wpAnyH_take (i := 47) (v := ?v47_1) rfl (by kernel_rfl) (by kernel_rfl) (by kernel_rfl) (fun _ _ _ h => h) (Or.inl ⟨by kernel_rfl, ?hy47_1⟩) (by assumption) ?_
            case hy47_1 => ((intro w hSw; (try dsimp only at hSw); go_simp) <;> with_reducible rfl)
            (try simp only [Act.put, List.getElem_toArray, List.getElem_cons_succ, List.getElem_cons_zero, List.setIfInBounds_toArray, List.set_cons_zero, List.set_cons_succ])
            refine wpAnyH_take (i := 48) (v := ?v48_1) rfl (by kernel_rfl) (by kernel_rfl) (by kernel_rfl) (fun _ _ _ h => h) (Or.inl ⟨by kernel_rfl, ?hy48_1⟩) (by assumption) ?_
            case hy48_1 => ((intro w hSw; (try dsimp only at hSw); go_simp) <;> with_reducible rfl)
            (try simp only [Act.put, List.getElem_toArray, List.getElem_cons_succ, List.getElem_cons_zero, List.setIfInBounds_toArray, List.set_cons_zero, List.set_cons_succ])
            refine wpAnyH_take (i := 49) (v := ?v49_1) rfl (by kernel_rfl) (by kernel_rfl) (by kernel_rfl) (fun _ _ _ h => h) (Or.inl ⟨by kernel_rfl, ?hy49_1⟩) (by assumption) ?_
            case hy49_1 => ((intro w hSw; (try dsimp only at hSw); go_simp) <;> with_reducible rfl)
            (try simp only [Act.put, List.getElem_toArray, List.getElem_cons_succ, List.getElem_cons_zero, List.setIfInBounds_toArray, List.set_cons_zero, List.set_cons_succ])
            have hR1 := h0.drew
            refine wpAnyH_ready (rs := [50]) (by kernel_rfl) (by simp) ?_
            refine AllReadyH.cons rfl (fun K hK => ?_) AllReadyH.nil
            go_simp
            (go_at_fn fe; refine (HE.out _ hR1).mono ?_; rintro e wc' ⟨rfl, hwc⟩; have hc1 := below_trans' hR1 hwc; have kcb0 := (hc1.cell (p := ⟨b, 0, none⟩) lb).trans c0; have kcb1 := (hc1.cell (p := ⟨b, 1, none⟩) lb).trans c1; have kcb2 := (hc1.cell (p := ⟨b, 2, none⟩) lb).trans c2; have kcpm := (hc1.cell (p := ⟨pm, 0, none⟩) lpm).trans cm; have kco0 := (hc1.cell (p := ⟨ga, oa + i, none⟩) la).trans co0; have kce00 := (hc1.cell (p := ⟨gp0, op0 + k, none⟩) lp0).trans ce00; have kce01 := (hc1.cell (p := ⟨gp0, op0 + (k + 1), none⟩) lp0).trans ce01)
            go_wp2_with fail
            refine hK.out _ _ ?hS50_1 (fun hHeld => ?_)
            case hS50_1 => ((try dsimp only); simp [*])
            clear hK K
            (try simp only [Act.put, List.getElem_toArray, List.getElem_cons_succ, List.getElem_cons_zero, List.setIfInBounds_toArray, List.set_cons_zero, List.set_cons_succ])
            refine wpAnyH_take (i := 51) (v := ?v51_1) rfl (by kernel_rfl) (by kernel_rfl) (by kernel_rfl) (fun _ _ _ h => h) (Or.inl ⟨by kernel_rfl, ?hy51_1⟩) (by assumption) ?_
            case hy51_1 => ((intro w hSw; (try dsimp only at hSw); go_simp) <;> with_reducible rfl)
            (try simp only [Act.put, List.getElem_toArray, List.getElem_cons_succ, List.getElem_cons_zero, List.setIfInBounds_toArray, List.set_cons_zero, List.set_cons_succ])
            refine wpAnyH_take (i := 52) (v := ?v52_1) rfl (by kernel_rfl) (by kernel_rfl) (by kernel_rfl) (fun _ _ _ h => h) (Or.inl ⟨by kernel_rfl, ?hy52_1⟩) (by assumption) ?_
            case hy52_1 => ((intro w hSw; (try dsimp only at hSw); go_simp) <;> with_reducible rfl)
            (try simp only [Act.put, List.getElem_toArray, List.getElem_cons_succ, List.getElem_cons_zero, List.setIfInBounds_toArray, List.set_cons_zero, List.set_cons_succ])
            refine wpAnyH_take (i := 53) (v := ?v53_1) rfl (by kernel_rfl) (by kernel_rfl) (by kernel_rfl) (fun _ _ _ h => h) (Or.inl ⟨by kernel_rfl, ?hy53_1⟩) (by assumption) ?_
            case hy53_1 => ((intro w hSw; (try dsimp only at hSw); go_simp) <;> with_reducible rfl)
            (try simp only [Act.put, List.getElem_toArray, List.getElem_cons_succ, List.getElem_cons_zero, List.setIfInBounds_toArray, List.set_cons_zero, List.set_cons_succ])
            refine wpAnyH_take (i := 54) (v := ?v54_1) rfl (by kernel_rfl) (by kernel_rfl) (by kernel_rfl) (fun _ _ _ h => h) (Or.inl ⟨by kernel_rfl, ?hy54_1⟩) (by assumption) ?_
            case hy54_1 => ((intro w hSw; (try dsimp only at hSw); go_simp) <;> with_reducible rfl)
            (try simp only [Act.put, List.getElem_toArray, List.getElem_cons_succ, List.getElem_cons_zero, List.setIfInBounds_toArray, List.set_cons_zero, List.set_cons_succ])
            refine wpAnyH_take (i := 55) (v := ?v55_1) rfl (by kernel_rfl) (by kernel_rfl) (by kernel_rfl) (fun _ _ _ h => h) (Or.inl ⟨by kernel_rfl, ?hy55_1⟩) (by assumption) ?_
            case hy55_1 => ((intro w hSw; (try dsimp only at hSw); go_simp) <;> with_reducible rfl)
            (try simp only [Act.put, List.getElem_toArray, List.getElem_cons_succ, List.getElem_cons_zero, List.setIfInBounds_toArray, List.set_cons_zero, List.set_cons_succ])
            refine wpAnyH_done (by kernel_rfl) ?_ _
            cases z2
            all_goals
              go_wp2
              go_quiet (fail)
              have hQ2 := below_drewN' hc1 nq
              have hEnd := Lib.hid (below_trans' Hb.out hQ2)
              go_wp2
              go_roundw
              case rel => exact ⟨k + 1, by omega, by go_num, Hnz.out, by first | exact hEnd.out | (rw [← drewN_two]; exact hEnd.out)⟩
              case measure => simp [intOf] <;> omega
      · have d1 : ((i : Int) == (xs.length : Int)) = false := by simp; omega
        obtain ⟨gp1, op1, r1, co1, _, lp1, hrow1⟩ := hrowAt (i + 1) (by omega)
        have ce10 := hrow1 k (by omega)
        have bx10 := HFb.out (i + 1) k (by omega) (by omega)
        obtain ⟨x10, hx10⟩ : ∃ x, x = fL L (i + 1) k := ⟨_, rfl⟩
        rw [show ((L.getD (i + 1) []).getD k 0) = fL L (i + 1) k from rfl, ← hx10] at ce10
        rw [← hx10] at bx10
        have g1 : IntKind.i64.wrap (x00 + ms) = x00 + ms := IntWalk.i64_in _ (by omega)
        have y1 : (i : Int) + 1 < (L.length : Int) := by omega
        have y5 : ((i : Int) + 1).toNat = i + 1 := by omega
        have y6 : (0 : Int) ≤ (i : Int) + 1 := by omega
        by_cases h1 : x10 ≤ x00 + ms
        · have f1 : decide (x10 ≤ x00 + ms) = true := by simpa using h1
          by_cases hkm : k = ys.length
          · have d2 : ((k : Int) == (ys.length : Int)) = true := by simp; omega
            have Hnz : Hid (Value.bool true = Value.bool (B0 && Cm.rowsOk xs.length ys.length at_ ms ex (fL L) i && Cm.rowOk xs.length ys.length at_ ms ex (fL L) i (k + 1))) := Lib.hid (by rw [Cm.rowOk_succ, ← Bool.and_assoc, ← HZ.out]; unfold Cm.cellOk; rw [← hx00, ← hx10, decide_eq_false hin, decide_eq_true hkm, decide_eq_true h1]; rfl)
            clear hin hkm h1
            clear hLl hrowAt hrow0 hx00 hrow1 hx10
            as_aux_lemma =>
              go_wp2
              refine wp_region_held_drew (S := (fun w' => w'.cell? ⟨b, 0, none⟩ = some (.iface T x) ∧ w'.cell? ⟨b, 1, none⟩ = some (.slice A xs.length ca) ∧ w'.cell? ⟨b, 2, none⟩ = some (.slice B ys.length cb) ∧ w'.cell? ⟨pm, 0, none⟩ = some (.int .i64 ys.length) ∧ w'.cell? ⟨ga, oa + i, none⟩ = some (.slice (some ⟨gp0, op0, none⟩) (ys.length + 1) r0) ∧ w'.cell? ⟨ga, oa + (i + 1), none⟩ = some (.slice (some ⟨gp1, op1, none⟩) (ys.length + 1) r1) ∧ w'.cell? ⟨gp0, op0 + k, none⟩ = some (.int .i64 x00) ∧ w'.cell? ⟨gp1, op1 + k, none⟩ = some (.int .i64 x10))) (by kernel_rfl) ?hS2 (fun hHeld => ?_)
              case hS2 => ((try dsimp only); simp [*])
              refine wpAnyH_take (i := 0) (v := ?v0_2) rfl (by kernel_rfl) (by kernel_rfl) (by kernel_rfl) (fun _ _ _ h => h) (Or.inl ⟨by kernel_rfl, ?hy0_2⟩) (by assumption) ?_
              case hy0_2 => ((intro w hSw; (try dsimp only at hSw); go_simp) <;> with_reducible rfl)
              (try simp only [Act.put, List.getElem_toArray, List.getElem_cons_succ, List.getElem_cons_zero, List.setIfInBounds_toArray, List.set_cons_zero, List.set_cons_succ])
              refine wpAnyH_take (i := 1) (v := ?v1_2) rfl (by kernel_rfl) (by kernel_rfl) (by kernel_rfl) (fun _ _ _ h => h) (Or.inl ⟨by kernel_rfl, ?hy1_2⟩) (by assumption) ?_
              case hy1_2 => ((intro w hSw; (try dsimp only at hSw); go_simp) <;> with_reducible rfl)
              (try simp only [Act.put, List.getElem_toArray, List.getElem_cons_succ, List.getElem_cons_zero, List.setIfInBounds_toArray, List.set_cons_zero, List.set_cons_succ])
              refine wpAnyH_take (i := 2) (v := ?v2_2) rfl (by kernel_rfl) (by kernel_rfl) (by kernel_rfl) (fun _ _ _ h => h) (Or.inl ⟨by kernel_rfl, ?hy2_2⟩) (by assumption) ?_
              case hy2_2 => ((intro w hSw; (try dsimp only at hSw); go_simp) <;> with_reducible rfl)
              (try simp only [Act.put, List.getElem_toArray, List.getElem_cons_succ, List.getElem_cons_zero, List.setIfInBounds_toArray, List.set_cons_zero, List.set_cons_succ])
              refine wpAnyH_take (i := 3) (v := ?v3_2) rfl (by kernel_rfl) (by kernel_rfl) (by kernel_rfl) (fun _ _ _ h => h) (Or.inl ⟨by kernel_rfl, ?hy3_2⟩) (by assumption) ?_
              case hy3_2 => ((intro w hSw; (try dsimp only at hSw); go_simp) <;> with_reducible rfl)
              (try simp only [Act.put, List.getElem_toArray, List.getElem_cons_succ, List.getElem_cons_zero, List.setIfInBounds_toArray, List.set_cons_zero, List.set_cons_succ])
              refine wpAnyH_take (i := 4) (v := ?v4_2) rfl (by kernel_rfl) (by kernel_rfl) (by kernel_rfl) (fun _ _ _ h => h) (Or.inl ⟨by kernel_rfl, ?hy4_2⟩) (by assumption) ?_
              case hy4_2 => ((intro w hSw; (try dsimp only at hSw); go_simp) <;> with_reducible rfl)
              (try simp only [Act.put, List.getElem_toArray, List.getElem_cons_succ, List.getElem_cons_zero, List.setIfInBounds_toArray, List.set_cons_zero, List.set_cons_succ])
              refine wpAnyH_take (i := 5) (v := ?v5_2) rfl (by kernel_rfl) (by kernel_rfl) (by kernel_rfl) (fun _ _ _ h => h) (Or.inl ⟨by kernel_rfl, ?hy5_2⟩) (by assumption) ?_
              case hy5_2 => ((intro w hSw; (try dsimp only at hSw); go_simp) <;> with_reducible rfl)
              (try simp only [Act.put, List.getElem_toArray, List.getElem_cons_succ, List.getElem_cons_zero, List.setIfInBounds_toArray, List.set_cons_zero, List.set_cons_succ])
              refine wpAnyH_take (i := 6) (v := ?v6_2) rfl (by kernel_rfl) (by kernel_rfl) (by kernel_rfl) (fun _ _ _ h => h) (Or.inl ⟨by kernel_rfl, ?hy6_2⟩) (by assumption) ?_
              case hy6_2 => ((intro w hSw; (try dsimp only at hSw); go_simp) <;> with_reducible rfl)
              (try simp only [Act.put, List.getElem_toArray, List.getElem_cons_succ, List.getElem_cons_zero, List.setIfInBounds_toArray, List.set_cons_zero, List.set_cons_succ])
              refine wpAnyH_take (i := 7) (v := ?v7_2) rfl (by kernel_rfl) (by kernel_rfl) (by kernel_rfl) (fun _ _ _ h => h) (Or.inl ⟨by kernel_rfl, ?hy7_2⟩) (by assumption) ?_
              case hy7_2 => ((intro w hSw; (try dsimp only at hSw); go_simp) <;> with_reducible rfl)
              (try simp only [Act.put, List.getElem_toArray, List.getElem_cons_succ, List.getElem_cons_zero, List.setIfInBounds_toArray, List.set_cons_zero, List.set_cons_succ])
              refine wpAnyH_take (i := 8) (v := ?v8_2) rfl (by kernel_rfl) (by kernel_rfl) (by kernel_rfl) (fun _ _ _ h => h) (Or.inl ⟨by kernel_rfl, ?hy8_2⟩) (by assumption) ?_
              case hy8_2 => ((intro w hSw; (try dsimp only at hSw); go_simp) <;> with_reducible rfl)
              (try simp only [Act.put, List.getElem_toArray, List.getElem_cons_succ, List.getElem_cons_zero, List.setIfInBounds_toArray, List.set_cons_zero, List.set_cons_succ])
              refine wpAnyH_take (i := 9) (v := ?v9_2) rfl (by kernel_rfl) (by kernel_rfl) (by kernel_rfl) (fun _ _ _ h => h) (Or.inl ⟨by kernel_rfl, ?hy9_2⟩) (by assumption) ?_
              case hy9_2 => ((intro w hSw; (try dsimp only at hSw); go_simp) <;> with_reducible rfl)
              (try simp only [Act.put, List.getElem_toArray, List.getElem_cons_succ, List.getElem_cons_zero, List.setIfInBounds_toArray, List.set_cons_zero, List.set_cons_succ])
              refine wpAnyH_take (i := 10) (v := ?v10_2) rfl (by kernel_rfl) (by kernel_rfl) (by kernel_rfl) (fun _ _ _ h => h) (Or.inl ⟨by kernel_rfl, ?hy10_2⟩) (by assumption) ?_
              case hy10_2 => ((intro w hSw; (try dsimp only at hSw); go_simp) <;> with_reducible rfl)
              (try simp only [Act.put, List.getElem_toArray, List.getElem_cons_succ, List.getElem_cons_zero, List.setIfInBounds_toArray, List.set_cons_zero, List.set_cons_succ])
              refine wpAnyH_take (i := 11) (v := ?v11_2) rfl (by kernel_rfl) (by kernel_rfl) (by kernel_rfl) (fun _ _ _ h => h) (Or.inl ⟨by kernel_rfl, ?hy11_2⟩) (by assumption) ?_
              case hy11_2 => ((intro w hSw; (try dsimp only at hSw); go_simp) <;> with_reducible rfl)
              (try simp only [Act.put, List.getElem_toArray, List.getElem_cons_succ, List.getElem_cons_zero, List.setIfInBounds_toArray, List.set_cons_zero, List.set_cons_succ])
              refine wpAnyH_take (i := 12) (v := ?v12_2) rfl (by kernel_rfl) (by kernel_rfl) (by kernel_rfl) (fun _ _ _ h => h) (Or.inl ⟨by kernel_rfl, ?hy12_2⟩) (by assumption) ?_
              case hy12_2 => ((intro w hSw; (try dsimp only at hSw); go_simp) <;> with_reducible rfl)
              (try simp only [Act.put, List.getElem_toArray, List.getElem_cons_succ, List.getElem_cons_zero, List.setIfInBounds_toArray, List.set_cons_zero, List.set_cons_succ])
              refine wpAnyH_take (i := 13) (v := ?v13_2) rfl (by kernel_rfl) (by kernel_rfl) (by kernel_rfl) (fun _ _ _ h => h) (Or.inl ⟨by kernel_rfl, ?hy13_2⟩) (by assumption) ?_
              case hy13_2 => ((intro w hSw; (try dsimp only at hSw); go_simp) <;> with_reducible rfl)
              (try simp only [Act.put, List.getElem_toArray, List.getElem_cons_succ, List.getElem_cons_zero, List.setIfInBounds_toArray, List.set_cons_zero, List.set_cons_succ])
              refine wpAnyH_take (i := 14) (v := ?v14_2) rfl (by kernel_rfl) (by kernel_rfl) (by kernel_rfl) (fun _ _ _ h => h) (Or.inl ⟨by kernel_rfl, ?hy14_2⟩) (by assumption) ?_
              case hy14_2 => ((intro w hSw; (try dsimp only at hSw); go_simp) <;> with_reducible rfl)
              (try simp only [Act.put, List.getElem_toArray, List.getElem_cons_succ, List.getElem_cons_zero, List.setIfInBounds_toArray, List.set_cons_zero, List.set_cons_succ])
              refine wpAnyH_take (i := 15) (v := ?v15_2) rfl (by kernel_rfl) (by kernel_rfl) (by kernel_rfl) (fun _ _ _ h => h) (Or.inl ⟨by kernel_rfl, ?hy15_2⟩) (by assumption) ?_
              case hy15_2 => ((intro w hSw; (try dsimp only at hSw); go_simp) <;> with_reducible rfl)
              (try simp only [Act.put, List.getElem_toArray, List.getElem_cons_succ, List.getElem_cons_zero, List.setIfInBounds_toArray, List.set_cons_zero, List.set_cons_succ])
              refine wpAnyH_take (i := 16) (v := ?v16_2) rfl (by kernel_rfl) (by kernel_rfl) (by kernel_rfl) (fun _ _ _ h => h) (Or.inl ⟨by kernel_rfl, ?hy16_2⟩) (by assumption) ?_
              case hy16_2 => ((intro w hSw; (try dsimp only at hSw); go_simp) <;> with_reducible rfl)
              (try simp only [Act.put, List.getElem_toArray, List.getElem_cons_succ, List.getElem_cons_zero, List.setIfInBounds_toArray, List.set_cons_zero, List.set_cons_succ])
              refine wpAnyH_take (i := 17) (v := ?v17_2) rfl (by kernel_rfl) (by kernel_rfl) (by kernel_rfl) (fun _ _ _ h => h) (Or.inl ⟨by kernel_rfl, ?hy17_2⟩) (by assumption) ?_
              case hy17_2 => ((intro w hSw; (try dsimp only at hSw); go_simp) <;> with_reducible rfl)
              (try simp only [Act.put, List.getElem_toArray, List.getElem_cons_succ, List.getElem_cons_zero, List.setIfInBounds_toArray, List.set_cons_zero, List.set_cons_succ])
              refine wpAnyH_take (i := 18) (v := ?v18_2) rfl (by kernel_rfl) (by kernel_rfl) (by kernel_rfl) (fun _ _ _ h => h) (Or.inl ⟨by kernel_rfl, ?hy18_2⟩) (by assumption) ?_
              case hy18_2 => ((intro w hSw; (try dsimp only at hSw); go_simp) <;> with_reducible rfl)
              (try simp only [Act.put, List.getElem_toArray, List.getElem_cons_succ, List.getElem_cons_zero, List.setIfInBounds_toArray, List.set_cons_zero, List.set_cons_succ])
              refine wpAnyH_take (i := 19) (v := ?v19_2) rfl (by kernel_rfl) (by kernel_rfl) (by kernel_rfl) (fun _ _ _ h => h) (Or.inl ⟨by kernel_rfl, ?hy19_2⟩) (by assumption) ?_
              case hy19_2 => ((intro w hSw; (try dsimp only at hSw); go_simp) <;> with_reducible rfl)
              (try simp only [Act.put, List.getElem_toArray, List.getElem_cons_succ, List.getElem_cons_zero, List.setIfInBounds_toArray, List.set_cons_zero, List.set_cons_succ])
              refine wpAnyH_take (i := 20) (v := ?v20_2) rfl (by kernel_rfl) (by kernel_rfl) (by kernel_rfl) (fun _ _ _ h => h) (Or.inl ⟨by kernel_rfl, ?hy20_2⟩) (by assumption) ?_
              case hy20_2 => ((intro w hSw; (try dsimp only at hSw); go_simp) <;> with_reducible rfl)
              (try simp only [Act.put, List.getElem_toArray, List.getElem_cons_succ, List.getElem_cons_zero, List.setIfInBounds_toArray, List.set_cons_zero, List.set_cons_succ])
              refine wpAnyH_take (i := 21) (v := ?v21_2) rfl (by kernel_rfl) (by kernel_rfl) (by kernel_rfl) (fun _ _ _ h => h) (Or.inl ⟨by kernel_rfl, ?hy21_2⟩) (by assumption) ?_
              case hy21_2 => ((intro w hSw; (try dsimp only at hSw); go_simp) <;> with_reducible rfl)
              (try simp only [Act.put, List.getElem_toArray, List.getElem_cons_succ, List.getElem_cons_zero, List.setIfInBounds_toArray, List.set_cons_zero, List.set_cons_succ])
              refine wpAnyH_take (i := 22) (v := ?v22_2) rfl (by kernel_rfl) (by kernel_rfl) (by kernel_rfl) (fun _ _ _ h => h) (Or.inl ⟨by kernel_rfl, ?hy22_2⟩) (by assumption) ?_
              case hy22_2 => ((intro w hSw; (try dsimp only at hSw); go_simp) <;> with_reducible rfl)
              (try simp only [Act.put, List.getElem_toArray, List.getElem_cons_succ, List.getElem_cons_zero, List.setIfInBounds_toArray, List.set_cons_zero, List.set_cons_succ])
              have hR1 := h0.drew
              refine wpAnyH_ready (rs := [23]) (by kernel_rfl) (by simp) ?_
              refine AllReadyH.cons rfl (fun K hK => ?_) AllReadyH.nil
              go_simp
              (go_at_fn fm; refine (HM.out _ hR1).mono ?_; rintro e wb ⟨rfl, hwb⟩; have hb1 := below_trans' hR1 hwb; have kbb0 := (hb1.cell (p := ⟨b, 0, none⟩) lb).trans c0; have kbb1 := (hb1.cell (p := ⟨b, 1, none⟩) lb).trans c1; have kbb2 := (hb1.cell (p := ⟨b, 2, none⟩) lb).trans c2; have kbpm := (hb1.cell (p := ⟨pm, 0, none⟩) lpm).trans cm; have kbo0 := (hb1.cell (p := ⟨ga, oa + i, none⟩) la).trans co0; have kbo1 := (hb1.cell (p := ⟨ga, oa + (i + 1), none⟩) la).trans co1; have kbe00 := (hb1.cell (p := ⟨gp0, op0 + k, none⟩) lp0).trans ce00; have kbe10 := (hb1.cell (p := ⟨gp1, op1 + k, none⟩) lp1).trans ce10)
              go_wp2_with fail
              refine hK.out _ _ ?hS23_2 (fun hHeld => ?_)
              case hS23_2 => ((try dsimp only); simp [*])
              clear hK K
              (try simp only [Act.put, List.getElem_toArray, List.getElem_cons_succ, List.getElem_cons_zero, List.setIfInBounds_toArray, List.set_cons_zero, List.set_cons_succ])
              refine wpAnyH_take (i := 24) (v := ?v24_2) rfl (by kernel_rfl) (by kernel_rfl) (by kernel_rfl) (fun _ _ _ h => h) (Or.inl ⟨by kernel_rfl, ?hy24_2⟩) (by assumption) ?_
              case hy24_2 => ((intro w hSw; (try dsimp only at hSw); go_simp) <;> with_reducible rfl)
              (try simp only [Act.put, List.getElem_toArray, List.getElem_cons_succ, List.getElem_cons_zero, List.setIfInBounds_toArray, List.set_cons_zero, List.set_cons_succ])
              refine wpAnyH_take (i := 25) (v := ?v25_2) rfl (by kernel_rfl) (by kernel_rfl) (by kernel_rfl) (fun _ _ _ h => h) (Or.inl ⟨by kernel_rfl, ?hy25_2⟩) (by assumption) ?_
              case hy25_2 => ((intro w hSw; (try dsimp only at hSw); go_simp) <;> with_reducible rfl)
              (try simp only [Act.put, List.getElem_toArray, List.getElem_cons_succ, List.getElem_cons_zero, List.setIfInBounds_toArray, List.set_cons_zero, List.set_cons_succ])
              refine wpAnyH_take (i := 26) (v := ?v26_2) rfl (by kernel_rfl) (by kernel_rfl) (by kernel_rfl) (fun _ _ _ h => h) (Or.inl ⟨by kernel_rfl, ?hy26_2⟩) (by assumption) ?_
              case hy26_2 => ((intro w hSw; (try dsimp only at hSw); go_simp) <;> with_reducible rfl)
              (try simp only [Act.put, List.getElem_toArray, List.getElem_cons_succ, List.getElem_cons_zero, List.setIfInBounds_toArray, List.set_cons_zero, List.set_cons_succ])
              refine wpAnyH_take (i := 27) (v := ?v27_2) rfl (by kernel_rfl) (by kernel_rfl) (by kernel_rfl) (fun _ _ _ h => h) (Or.inl ⟨by kernel_rfl, ?hy27_2⟩) (by assumption) ?_
              case hy27_2 => ((intro w hSw; (try dsimp only at hSw); go_simp) <;> with_reducible rfl)
              (try simp only [Act.put, List.getElem_toArray, List.getElem_cons_succ, List.getElem_cons_zero, List.setIfInBounds_toArray, List.set_cons_zero, List.set_cons_succ])
              refine wpAnyH_take (i := 28) (v := ?v28_2) rfl (by kernel_rfl) (by kernel_rfl) (by kernel_rfl) (fun _ _ _ h => h) (Or.inl ⟨by kernel_rfl, ?hy28_2⟩) (by assumption) ?_
              case hy28_2 => ((intro w hSw; (try dsimp only at hSw); go_simp) <;> with_reducible rfl)
              (try simp only [Act.put, List.getElem_toArray, List.getElem_cons_succ, List.getElem_cons_zero, List.setIfInBounds_toArray, List.set_cons_zero, List.set_cons_succ])
              refine wpAnyH_take (i := 29) (v := ?v29_2) rfl (by kernel_rfl) (by kernel_rfl) (by kernel_rfl) (fun _ _ _ h => h) (Or.inl ⟨by kernel_rfl, ?hy29_2⟩) (by assumption) ?_
              case hy29_2 => ((intro w hSw; (try dsimp only at hSw); go_simp) <;> with_reducible rfl)
              (try simp only [Act.put, List.getElem_toArray, List.getElem_cons_succ, List.getElem_cons_zero, List.setIfInBounds_toArray, List.set_cons_zero, List.set_cons_succ])
              refine wpAnyH_take (i := 30) (v := ?v30_2) rfl (by kernel_rfl) (by kernel_rfl) (by kernel_rfl) (fun _ _ _ h => h) (Or.inl ⟨by kernel_rfl, ?hy30_2⟩) (by assumption) ?_
              case hy30_2 => ((intro w hSw; (try dsimp only at hSw); go_simp) <;> with_reducible rfl)
              (try simp only [Act.put, List.getElem_toArray, List.getElem_cons_succ, List.getElem_cons_zero, List.setIfInBounds_toArray, List.set_cons_zero, List.set_cons_succ])
              refine wpAnyH_take (i := 31) (v := ?v31_2) rfl (by kernel_rfl) (by kernel_rfl) (by kernel_rfl) (fun _ _ _ h => h) (Or.inl ⟨by kernel_rfl, ?hy31_2⟩) (by assumption) ?_
              case hy31_2 => ((intro w hSw; (try dsimp only at hSw); go_simp) <;> with_reducible rfl)
              (try simp only [Act.put, List.getElem_toArray, List.getElem_cons_succ, List.getElem_cons_zero, List.setIfInBounds_toArray, List.set_cons_zero, List.set_cons_succ])
              refine wpAnyH_take (i := 32) (v := ?v32_2) rfl (by kernel_rfl) (by kernel_rfl) (by kernel_rfl) (fun _ _ _ h => h) (Or.inl ⟨by kernel_rfl, ?hy32_2⟩) (by assumption) ?_
              case hy32_2 => ((intro w hSw; (try dsimp only at hSw); go_simp) <;> with_reducible rfl)
              (try simp only [Act.put, List.getElem_toArray, List.getElem_cons_succ, List.getElem_cons_zero, List.setIfInBounds_toArray, List.set_cons_zero, List.set_cons_succ])
              refine wpAnyH_take (i := 33) (v := undef) rfl (by kernel_rfl) (by kernel_rfl) (by kernel_rfl) (fun _ _ _ h => h) (Or.inr ⟨by kernel_rfl, rfl⟩) (by assumption) ?_
              (try simp only [Act.put, List.getElem_toArray, List.getElem_cons_succ, List.getElem_cons_zero, List.setIfInBounds_toArray, List.set_cons_zero, List.set_cons_succ])
              refine wpAnyH_take (i := 34) (v := undef) rfl (by kernel_rfl) (by kernel_rfl) (by kernel_rfl) (fun _ _ _ h => h) (Or.inr ⟨by kernel_rfl, rfl⟩) (by assumption) ?_
              (try simp only [Act.put, List.getElem_toArray, List.getElem_cons_succ, List.getElem_cons_zero, List.setIfInBounds_toArray, List.set_cons_zero, List.set_cons_succ])
              refine wpAnyH_take (i := 35) (v := undef) rfl (by kernel_rfl) (by kernel_rfl) (by kernel_rfl) (fun _ _ _ h => h) (Or.inr ⟨by kernel_rfl, rfl⟩) (by assumption) ?_
              (try simp only [Act.put, List.getElem_toArray, List.getElem_cons_succ, List.getElem_cons_zero, List.setIfInBounds_toArray, List.set_cons_zero, List.set_cons_succ])
              refine wpAnyH_take (i := 36) (v := undef) rfl (by kernel_rfl) (by kernel_rfl) (by kernel_rfl) (fun _ _ _ h => h) (Or.inr ⟨by kernel_rfl, rfl⟩) (by assumption) ?_
              (try simp only [Act.put, List.getElem_toArray, List.getElem_cons_succ, List.getElem_cons_zero, List.setIfInBounds_toArray, List.set_cons_zero, List.set_cons_succ])
              refine wpAnyH_take (i := 37) (v := undef) rfl (by kernel_rfl) (by kernel_rfl) (by kernel_rfl) (fun _ _ _ h => h) (Or.inr ⟨by kernel_rfl, rfl⟩) (by assumption) ?_
              (try simp only [Act.put, List.getElem_toArray, List.getElem_cons_succ, List.getElem_cons_zero, List.setIfInBounds_toArray, List.set_cons_zero, List.set_cons_succ])
              refine wpAnyH_take (i := 38) (v := undef) rfl (by kernel_rfl) (by kernel_rfl) (by kernel_rfl) (fun _ _ _ h => h) (Or.inr ⟨by kernel_rfl, rfl⟩) (by assumption) ?_
              (try simp only [Act.put, List.getElem_toArray, List.getElem_cons_succ, List.getElem_cons_zero, List.setIfInBounds_toArray, List.set_cons_zero, List.set_cons_succ])
              refine wpAnyH_take (i := 39) (v := undef) rfl (by kernel_rfl) (by kernel_rfl) (by kernel_rfl) (fun _ _ _ h => h) (Or.inr ⟨by kernel_rfl, rfl⟩) (by assumption) ?_
              (try simp only [Act.put, List.getElem_toArray, List.getElem_cons_succ, List.getElem_cons_zero, List.setIfInBounds_toArray, List.set_cons_zero, List.set_cons_succ])
              refine wpAnyH_take (i := 40) (v := undef) rfl (by kernel_rfl) (by kernel_rfl) (by kernel_rfl) (fun _ _ _ h => h) (Or.inr ⟨by kernel_rfl, rfl⟩) (by assumption) ?_
              (try simp only [Act.put, List.getElem_toArray, List.getElem_cons_succ, List.getElem_cons_zero, List.setIfInBounds_toArray, List.set_cons_zero, List.set_cons_succ])
              refine wpAnyH_take (i := 41) (v := undef) rfl (by kernel_rfl) (by kernel_rfl) (by kernel_rfl) (fun _ _ _ h => h) (Or.inr ⟨by kernel_rfl, rfl⟩) (by assumption) ?_
              (try simp only [Act.put, List.getElem_toArray, List.getElem_cons_succ, List.getElem_cons_zero, List.setIfInBounds_toArray, List.set_cons_zero, List.set_cons_succ])
              refine wpAnyH_take (i := 42) (v := undef) rfl (by kernel_rfl) (by kernel_rfl) (by kernel_rfl) (fun _ _ _ h => h) (Or.inr ⟨by kernel_rfl, rfl⟩) (by assumption) ?_
              (try simp only [Act.put, List.getElem_toArray, List.getElem_cons_succ, List.getElem_cons_zero, List.setIfInBounds_toArray, List.set_cons_zero, List.set_cons_succ])
              refine wpAnyH_take (i := 43) (v := undef) rfl (by kernel_rfl) (by kernel_rfl) (by kernel_rfl) (fun _ _ _ h => h) (Or.inr ⟨by kernel_rfl, rfl⟩) (by assumption) ?_
              (try simp only [Act.put, List.getElem_toArray, List.getElem_cons_succ, List.getElem_cons_zero, List.setIfInBounds_toArray, List.set_cons_zero, List.set_cons_succ])
              refine wpAnyH_take (i := 44) (v := undef) rfl (by kernel_rfl) (by kernel_rfl) (by kernel_rfl) (fun _ _ _ h => h) (Or.inr ⟨by kernel_rfl, rfl⟩) (by assumption) ?_
              (try simp only [Act.put, List.getElem_toArray, List.getElem_cons_succ, List.getElem_cons_zero, List.setIfInBounds_toArray, List.set_cons_zero, List.set_cons_succ])
              refine wpAnyH_take (i := 45) (v := undef) rfl (by kernel_rfl) (by kernel_rfl) (by kernel_rfl) (fun _ _ _ h => h) (Or.inr ⟨by kernel_rfl, rfl⟩) (by assumption) ?_
              (try simp only [Act.put, List.getElem_toArray, List.getElem_cons_succ, List.getElem_cons_zero, List.setIfInBounds_toArray, List.set_cons_zero, List.set_cons_succ])
              refine wpAnyH_take (i := 46) (v := undef) rfl (by kernel_rfl) (by kernel_rfl) (by kernel_rfl) (fun _ _ _ h => h) (Or.inr ⟨by kernel_rfl, rfl⟩) (by assumption) ?_
              (try simp only [Act.put, List.getElem_toArray, List.getElem_cons_succ, List.getElem_cons_zero, List.setIfInBounds_toArray, List.set_cons_zero, List.set_cons_succ])
              refine wpAnyH_take (i := 47) (v := undef) rfl (by kernel_rfl) (by kernel_rfl) (by kernel_rfl) (fun _ _ _ h => h) (Or.inr ⟨by kernel_rfl, rfl⟩) (by assumption) ?_
              (try simp only [Act.put, List.getElem_toArray, List.getElem_cons_succ, List.getElem_cons_zero, List.setIfInBounds_toArray, List.set_cons_zero, List.set_cons_succ])
              refine wpAnyH_take (i := 48) (v := undef) rfl (by kernel_rfl) (by kernel_rfl) (by kernel_rfl) (fun _ _ _ h => h) (Or.inr ⟨by kernel_rfl, rfl⟩) (by assumption) ?_
              (try simp only [Act.put, List.getElem_toArray, List.getElem_cons_succ, List.getElem_cons_zero, List.setIfInBounds_toArray, List.set_cons_zero, List.set_cons_succ])
              refine wpAnyH_take (i := 49) (v := undef) rfl (by kernel_rfl) (by kernel_rfl) (by kernel_rfl) (fun _ _ _ h => h) (Or.inr ⟨by kernel_rfl, rfl⟩) (by assumption) ?_
              (try simp only [Act.put, List.getElem_toArray, List.getElem_cons_succ, List.getElem_cons_zero, List.setIfInBounds_toArray, List.set_cons_zero, List.set_cons_succ])
              refine wpAnyH_take (i := 50) (v := undef) rfl (by kernel_rfl) (by kernel_rfl) (by kernel_rfl) (fun _ _ _ h => h) (Or.inr ⟨by kernel_rfl, rfl⟩) (by assumption) ?_
              (try simp only [Act.put, List.getElem_toArray, List.getElem_cons_succ, List.getElem_cons_zero, List.setIfInBounds_toArray, List.set_cons_zero, List.set_cons_succ])
              refine wpAnyH_take (i := 51) (v := undef) rfl (by kernel_rfl) (by kernel_rfl) (by kernel_rfl) (fun _ _ _ h => h) (Or.inr ⟨by kernel_rfl, rfl⟩) (by assumption) ?_
              (try simp only [Act.put, List.getElem_toArray, List.getElem_cons_succ, List.getElem_cons_zero, List.setIfInBounds_toArray, List.set_cons_zero, List.set_cons_succ])
              refine wpAnyH_take (i := 52) (v := undef) rfl (by kernel_rfl) (by kernel_rfl) (by kernel_rfl) (fun _ _ _ h => h) (Or.inr ⟨by kernel_rfl, rfl⟩) (by assumption) ?_
              (try simp only [Act.put, List.getElem_toArray, List.getElem_cons_succ, List.getElem_cons_zero, List.setIfInBounds_toArray, List.set_cons_zero, List.set_cons_succ])
              refine wpAnyH_take (i := 53) (v := ?v53_2) rfl (by kernel_rfl) (by kernel_rfl) (by kernel_rfl) (fun _ _ _ h => h) (Or.inl ⟨by kernel_rfl, ?hy53_2⟩) (by assumption) ?_
              case hy53_2 => ((intro w hSw; (try dsimp only at hSw); go_simp) <;> with_reducible rfl)
              (try simp only [Act.put, List.getElem_toArray, List.getElem_cons_succ, List.getElem_cons_zero, List.setIfInBounds_toArray, List.set_cons_zero, List.set_cons_succ])
              refine wpAnyH_take (i := 54) (v := ?v54_2) rfl (by kernel_rfl) (by kernel_rfl) (by kernel_rfl) (fun _ _ _ h => h) (Or.inl ⟨by kernel_rfl, ?hy54_2⟩) (by assumption) ?_
              case hy54_2 => ((intro w hSw; (try dsimp only at hSw); go_simp) <;> with_reducible rfl)
              (try simp only [Act.put, List.getElem_toArray, List.getElem_cons_succ, List.getElem_cons_zero, List.setIfInBounds_toArray, List.set_cons_zero, List.set_cons_succ])
              refine wpAnyH_take (i := 55) (v := ?v55_2) rfl (by kernel_rfl) (by kernel_rfl) (by kernel_rfl) (fun _ _ _ h => h) (Or.inl ⟨by kernel_rfl, ?hy55_2⟩) (by assumption) ?_
              case hy55_2 => ((intro w hSw; (try dsimp only at hSw); go_simp) <;> with_reducible rfl)
              (try simp only [Act.put, List.getElem_toArray, List.getElem_cons_succ, List.getElem_cons_zero, List.setIfInBounds_toArray, List.set_cons_zero, List.set_cons_succ])
              refine wpAnyH_done (by kernel_rfl) ?_ _
              go_wp2
              go_quiet (fail)
              have hQ2 := below_drewN' hb1 nq
              have hEnd := Lib.hid (below_trans' Hb.out hQ2)
              go_wp2
              go_roundw
              case rel => exact ⟨k + 1, by omega, by go_num, Hnz.out, by first | exact hEnd.out | (rw [← drewN_two]; exact hEnd.out)⟩
              case measure => simp [intOf] <;> omega
          · have d2 : ((k : Int) == (ys.length : Int)) = false := by simp; omega
            have ce01 := hrow0 (k + 1) (by omega)
            have bx01 := HFb.out i (k + 1) (by omega) (by omega)
            obtain ⟨x01, hx01⟩ : ∃ x, x = fL L i (k + 1) := ⟨_, rfl⟩
            rw [show ((L.getD i []).getD (k + 1) 0) = fL L i (k + 1) from rfl, ← hx01] at ce01
            rw [← hx01] at bx01
            have g2 : IntKind.i64.wrap (x00 + ex) = x00 + ex := IntWalk.i64_in _ (by omega)
            have y2 : (k : Int) + 1 < (ys.length : Int) + 1 := by omega
            have y3 : ((k : Int) + 1).toNat = k + 1 := by omega
            have y4 : (0 : Int) ≤ (k : Int) + 1 := by omega
            have ce11 := hrow1 (k + 1) (by omega)
            have bx11 := HFb.out (i + 1) (k + 1) (by omega) (by omega)
            obtain ⟨x11, hx11⟩ : ∃ x, x = fL L (i + 1) (k + 1) := ⟨_, rfl⟩
            rw [show ((L.getD (i + 1) []).getD (k + 1) 0) = fL L (i + 1) (k + 1) from rfl, ← hx11] at ce11
            rw [← hx11] at bx11
            have ba := Hat.out i k
            have g3 : IntKind.i64.wrap (x00 + at_ i k) = x00 + at_ i k := IntWalk.i64_in _ (by omega)
            have HA := Lib.hid (HA0.out i k (by omega) (by omega) (by omega) (by omega))
            simp only [Int.toNat_natCast] at HA
            obtain ⟨z2, hz2⟩ : ∃ z, z = decide (x01 ≤ x00 + ex) := ⟨_, rfl⟩
            obtain ⟨z3, hz3⟩ : ∃ z, z = decide (x11 ≤ x00 + at_ i k) := ⟨_, rfl⟩
            have f2 : decide (x01 ≤ x00 + ex) = z2 := hz2.symm
            have f3 : decide (x11 ≤ x00 + at_ i k) = z3 := hz3.symm
            have Hnz : Hid (Value.bool (z2 && z3) = Value.bool (B0 && Cm.rowsOk xs.length ys.length at_ ms ex (fL L) i && Cm.rowOk xs.length ys.length at_ ms ex (fL L) i (k + 1))) := Lib.hid (by rw [Cm.rowOk_succ, ← Bool.and_assoc, ← HZ.out]; unfold Cm.cellOk; rw [← hx00, ← hx01, ← hx10, ← hx11, decide_eq_false hin, decide_eq_false hkm, decide_eq_true h1, ← hz2, ← hz3]; cases z2 <;> cases z3 <;> rfl)
            clear hin hkm h1 hz2 hz3
            clear hLl hrowAt hrow0 hx00 hrow1 hx10 hx01 hx11
            as_aux_lemma =>
              go_wp2
              have hD := h0.drew
              go_region_held3 (fun w' => w'.cell? ⟨b, 0, none⟩ = some (.iface T x) ∧ w'.cell? ⟨b, 1, none⟩ = some (.slice A xs.length ca) ∧ w'.cell? ⟨b, 2, none⟩ = some (.slice B ys.length cb) ∧ w'.cell? ⟨pm, 0, none⟩ = some (.int .i64 ys.length) ∧ w'.cell? ⟨ga, oa + i, none⟩ = some (.slice (some ⟨gp0, op0, none⟩) (ys.length + 1) r0) ∧ w'.cell? ⟨ga, oa + (i + 1), none⟩ = some (.slice (some ⟨gp1, op1, none⟩) (ys.length + 1) r1) ∧ w'.cell? ⟨gp0, op0 + k, none⟩ = some (.int .i64 x00) ∧ w'.cell? ⟨gp1, op1 + k, none⟩ = some (.int .i64 x10) ∧ w'.cell? ⟨gp0, op0 + (k + 1), none⟩ = some (.int .i64 x01) ∧ w'.cell? ⟨gp1, op1 + (k + 1), none⟩ = some (.int .i64 x11)) (simp [*]) (first | (go_at_fn fe; refine (HE.out _ hb1).mono ?_; rintro e wc' ⟨rfl, hwc⟩; have hc1 := below_trans' hb1 hwc; have kcb0 := (hc1.cell (p := ⟨b, 0, none⟩) lb).trans c0; have kcb1 := (hc1.cell (p := ⟨b, 1, none⟩) lb).trans c1; have kcb2 := (hc1.cell (p := ⟨b, 2, none⟩) lb).trans c2; have kcpm := (hc1.cell (p := ⟨pm, 0, none⟩) lpm).trans cm; have kco0 := (hc1.cell (p := ⟨ga, oa + i, none⟩) la).trans co0; have kco1 := (hc1.cell (p := ⟨ga, oa + (i + 1), none⟩) la).trans co1; have kce00 := (hc1.cell (p := ⟨gp0, op0 + k, none⟩) lp0).trans ce00; have kce10 := (hc1.cell (p := ⟨gp1, op1 + k, none⟩) lp1).trans ce10; have kce01 := (hc1.cell (p := ⟨gp0, op0 + (k + 1), none⟩) lp0).trans ce01; have kce11 := (hc1.cell (p := ⟨gp1, op1 + (k + 1), none⟩) lp1).trans ce11) | (go_at_fn fm; refine (HM.out _ hD).mono ?_; rintro e wb ⟨rfl, hwb⟩; have hb1 := below_trans' hD hwb; have kbb0 := (hb1.cell (p := ⟨b, 0, none⟩) lb).trans c0; have kbb1 := (hb1.cell (p := ⟨b, 1, none⟩) lb).trans c1; have kbb2 := (hb1.cell (p := ⟨b, 2, none⟩) lb).trans c2; have kbpm := (hb1.cell (p := ⟨pm, 0, none⟩) lpm).trans cm; have kbo0 := (hb1.cell (p := ⟨ga, oa + i, none⟩) la).trans co0; have kbo1 := (hb1.cell (p := ⟨ga, oa + (i + 1), none⟩) la).trans co1; have kbe00 := (hb1.cell (p := ⟨gp0, op0 + k, none⟩) lp0).trans ce00; have kbe10 := (hb1.cell (p := ⟨gp1, op1 + k, none⟩) lp1).trans ce10; have kbe01 := (hb1.cell (p := ⟨gp0, op0 + (k + 1), none⟩) lp0).trans ce01; have kbe11 := (hb1.cell (p := ⟨gp1, op1 + (k + 1), none⟩) lp1).trans ce11))
              all_goals
                cases z2
                · go_wp2
                  go_quiet (fail)
                  have hQ2 := below_drewN' hc1 nq
                  have hEnd := Lib.hid (below_trans' Hb.out hQ2)
                  go_wp2
                  go_roundw
                  case rel => exact ⟨k + 1, by omega, by go_num, Hnz.out, by first | exact hEnd.out | (rw [← drewN_two]; exact hEnd.out)⟩
                  case measure => simp [intOf] <;> omega
                · go_wp2
                  have hE2 := hc1.drew
                  go_region_held3 (fun w' => w'.cell? ⟨b, 0, none⟩ = some (.iface T x) ∧ w'.cell? ⟨b, 1, none⟩ = some (.slice A xs.length ca) ∧ w'.cell? ⟨b, 2, none⟩ = some (.slice B ys.length cb) ∧ w'.cell? ⟨pm, 0, none⟩ = some (.int .i64 ys.length) ∧ w'.cell? ⟨ga, oa + i, none⟩ = some (.slice (some ⟨gp0, op0, none⟩) (ys.length + 1) r0) ∧ w'.cell? ⟨ga, oa + (i + 1), none⟩ = some (.slice (some ⟨gp1, op1, none⟩) (ys.length + 1) r1) ∧ w'.cell? ⟨gp0, op0 + k, none⟩ = some (.int .i64 x00) ∧ w'.cell? ⟨gp1, op1 + k, none⟩ = some (.int .i64 x10) ∧ w'.cell? ⟨gp0, op0 + (k + 1), none⟩ = some (.int .i64 x01) ∧ w'.cell? ⟨gp1, op1 + (k + 1), none⟩ = some (.int .i64 x11)) (simp [*]) (first | (go_at_call 69; refine (HA.out _ hE2).mono ?_; rintro e wa ⟨rfl, hwa⟩; have ha := below_trans' hE2 hwa; have kab0 := (ha.cell (p := ⟨b, 0, none⟩) lb).trans c0; have kab1 := (ha.cell (p := ⟨b, 1, none⟩) lb).trans c1; have kab2 := (ha.cell (p := ⟨b, 2, none⟩) lb).trans c2; have kapm := (ha.cell (p := ⟨pm, 0, none⟩) lpm).trans cm; have kao0 := (ha.cell (p := ⟨ga, oa + i, none⟩) la).trans co0; have kao1 := (ha.cell (p := ⟨ga, oa + (i + 1), none⟩) la).trans co1; have kae00 := (ha.cell (p := ⟨gp0, op0 + k, none⟩) lp0).trans ce00; have kae10 := (ha.cell (p := ⟨gp1, op1 + k, none⟩) lp1).trans ce10; have kae01 := (ha.cell (p := ⟨gp0, op0 + (k + 1), none⟩) lp0).trans ce01; have kae11 := (ha.cell (p := ⟨gp1, op1 + (k + 1), none⟩) lp1).trans ce11))
                  all_goals
                    have hEnd := Lib.hid (below_trans' Hb.out ha)
                    go_wp2
                    go_roundw
                    case rel => exact ⟨k + 1, by omega, by go_num, Hnz.out, by first | exact hEnd.out | (rw [← drewN_two]; exact hEnd.out)⟩
                    case measure => simp [intOf] <;> omega
        · have f1 : decide (x10 ≤ x00 + ms) = false := by simpa using h1
          have Hnz : Hid (Value.bool false = Value.bool (B0 && Cm.rowsOk xs.length ys.length at_ ms ex (fL L) i && Cm.rowOk xs.length ys.length at_ ms ex (fL L) i (k + 1))) := Lib.hid (by rw [Cm.rowOk_succ, ← Bool.and_assoc, ← HZ.out]; unfold Cm.cellOk; rw [← hx00, ← hx10, decide_eq_false hin, decide_eq_false h1]; rfl)
          clear hin h1
          clear hLl hrowAt hrow0 hx00 hrow1 hx10
          as_aux_lemma =>
            go_wp2
            refine wp_region_held_drew (S := (fun w' => w'.cell? ⟨b, 0, none⟩ = some (.iface T x) ∧ w'.cell? ⟨b, 1, none⟩ = some (.slice A xs.length ca) ∧ w'.cell? ⟨b, 2, none⟩ = some (.slice B ys.length cb) ∧ w'.cell? ⟨pm, 0, none⟩ = some (.int .i64 ys.length) ∧ w'.cell? ⟨ga, oa + i, none⟩ = some (.slice (some ⟨gp0, op0, none⟩) (ys.length + 1) r0) ∧ w'.cell? ⟨ga, oa + (i + 1), none⟩ = some (.slice (some ⟨gp1, op1, none⟩) (ys.length + 1) r1) ∧ w'.cell? ⟨gp0, op0 + k, none⟩ = some (.int .i64 x00) ∧ w'.cell? ⟨gp1, op1 + k, none⟩ = some (.int .i64 x10))) (by kernel_rfl) ?hS3 (fun hHeld => ?_)
            case hS3 => ((try dsimp only); simp [*])
            refine wpAnyH_take (i := 0) (v := ?v0_3) rfl (by kernel_rfl) (by kernel_rfl) (by kernel_rfl) (fun _ _ _ h => h) (Or.inl ⟨by kernel_rfl, ?hy0_3⟩) (by assumption) ?_
            case hy0_3 => ((intro w hSw; (try dsimp only at hSw); go_simp) <;> with_reducible rfl)
            (try simp only [Act.put, List.getElem_toArray, List.getElem_cons_succ, List.getElem_cons_zero, List.setIfInBounds_toArray, List.set_cons_zero, List.set_cons_succ])
            refine wpAnyH_take (i := 1) (v := ?v1_3) rfl (by kernel_rfl) (by kernel_rfl) (by kernel_rfl) (fun _ _ _ h => h) (Or.inl ⟨by kernel_rfl, ?hy1_3⟩) (by assumption) ?_
            case hy1_3 => ((intro w hSw; (try dsimp only at hSw); go_simp) <;> with_reducible rfl)
            (try simp only [Act.put, List.getElem_toArray, List.getElem_cons_succ, List.getElem_cons_zero, List.setIfInBounds_toArray, List.set_cons_zero, List.set_cons_succ])
            refine wpAnyH_take (i := 2) (v := ?v2_3) rfl (by kernel_rfl) (by kernel_rfl) (by kernel_rfl) (fun _ _ _ h => h) (Or.inl ⟨by kernel_rfl, ?hy2_3⟩) (by assumption) ?_
            case hy2_3 => ((intro w hSw; (try dsimp only at hSw); go_simp) <;> with_reducible rfl)
            (try simp only [Act.put, List.getElem_toArray, List.getElem_cons_succ, List.getElem_cons_zero, List.setIfInBounds_toArray, List.set_cons_zero, List.set_cons_succ])
            refine wpAnyH_take (i := 3) (v := ?v3_3) rfl (by kernel_rfl) (by kernel_rfl) (by kernel_rfl) (fun _ _ _ h => h) (Or.inl ⟨by kernel_rfl, ?hy3_3⟩) (by assumption) ?_
            case hy3_3 => ((intro w hSw; (try dsimp only at hSw); go_simp) <;> with_reducible rfl)
            (try simp only [Act.put, List.getElem_toArray, List.getElem_cons_succ, List.getElem_cons_zero, List.setIfInBounds_toArray, List.set_cons_zero, List.set_cons_succ])
            refine wpAnyH_take (i := 4) (v := ?v4_3) rfl (by kernel_rfl) (by kernel_rfl) (by kernel_rfl) (fun _ _ _ h => h) (Or.inl ⟨by kernel_rfl, ?hy4_3⟩) (by assumption) ?_
            case hy4_3 => ((intro w hSw; (try dsimp only at hSw); go_simp) <;> with_reducible rfl)
            (try simp only [Act.put, List.getElem_toArray, List.getElem_cons_succ, List.getElem_cons_zero, List.setIfInBounds_toArray, List.set_cons_zero, List.set_cons_succ])
            refine wpAnyH_take (i := 5) (v := ?v5_3) rfl (by kernel_rfl) (by kernel_rfl) (by kernel_rfl) (fun _ _ _ h => h) (Or.inl ⟨by kernel_rfl, ?hy5_3⟩) (by assumption) ?_
            case hy5_3 => ((intro w hSw; (try dsimp only at hSw); go_simp) <;> with_reducible rfl)
            (try simp only [Act.put, List.getElem_toArray, List.getElem_cons_succ, List.getElem_cons_zero, List.setIfInBounds_toArray, List.set_cons_zero, List.set_cons_succ])
            refine wpAnyH_take (i := 6) (v := ?v6_3) rfl (by kernel_rfl) (by kernel_rfl) (by kernel_rfl) (fun _ _ _ h => h) (Or.inl ⟨by kernel_rfl, ?hy6_3⟩) (by assumption) ?_
            case hy6_3 => ((intro w hSw; (try dsimp only at hSw); go_simp) <;> with_reducible rfl)
            (try simp only [Act.put, List.getElem_toArray, List.getElem_cons_succ, List.getElem_cons_zero, List.setIfInBounds_toArray, List.set_cons_zero, List.set_cons_succ])
            refine wpAnyH_take (i := 7) (v := ?v7_3) rfl (by kernel_rfl) (by kernel_rfl) (by kernel_rfl) (fun _ _ _ h => h) (Or.inl ⟨by kernel_rfl, ?hy7_3⟩) (by assumption) ?_
            case hy7_3 => ((intro w hSw; (try dsimp only at hSw); go_simp) <;> with_reducible rfl)
            (try simp only [Act.put, List.getElem_toArray, List.getElem_cons_succ, List.getElem_cons_zero, List.setIfInBounds_toArray, List.set_cons_zero, List.set_cons_succ])
            refine wpAnyH_take (i := 8) (v := ?v8_3) rfl (by kernel_rfl) (by kernel_rfl) (by kernel_rfl) (fun _ _ _ h => h) (Or.inl ⟨by kernel_rfl, ?hy8_3⟩) (by assumption) ?_
            case hy8_3 => ((intro w hSw; (try dsimp only at hSw); go_simp) <;> with_reducible rfl)
            (try simp only [Act.put, List.getElem_toArray, List.getElem_cons_succ, List.getElem_cons_zero, List.setIfInBounds_toArray, List.set_cons_zero, List.set_cons_succ])
            refine wpAnyH_take (i := 9) (v := ?v9_3) rfl (by kernel_rfl) (by kernel_rfl) (by kernel_rfl) (fun _ _ _ h => h) (Or.inl ⟨by kernel_rfl, ?hy9_3⟩) (by assumption) ?_
            case hy9_3 => ((intro w hSw; (try dsimp only at hSw); go_simp) <;> with_reducible rfl)
            (try simp only [Act.put, List.getElem_toArray, List.getElem_cons_succ, List.getElem_cons_zero, List.setIfInBounds_toArray, List.set_cons_zero, List.set_cons_succ])
            refine wpAnyH_take (i := 10) (v := ?v10_3) rfl (by kernel_rfl) (by kernel_rfl) (by kernel_rfl) (fun _ _ _ h => h) (Or.inl ⟨by kernel_rfl, ?hy10_3⟩) (by assumption) ?_
            case hy10_3 => ((intro w hSw; (try dsimp only at hSw); go_simp) <;> with_reducible rfl)
            (try simp only [Act.put, List.getElem_toArray, List.getElem_cons_succ, List.getElem_cons_zero, List.setIfInBounds_toArray, List.set_cons_zero, List.set_cons_succ])
            refine wpAnyH_take (i := 11) (v := ?v11_3) rfl (by kernel_rfl) (by kernel_rfl) (by kernel_rfl) (fun _ _ _ h => h) (Or.inl ⟨by kernel_rfl, ?hy11_3⟩) (by assumption) ?_
            case hy11_3 => ((intro w hSw; (try dsimp only at hSw); go_simp) <;> with_reducible rfl)
            (try simp only [Act.put, List.getElem_toArray, List.getElem_cons_succ, List.getElem_cons_zero, List.setIfInBounds_toArray, List.set_cons_zero, List.set_cons_succ])
            refine wpAnyH_take (i := 12) (v := ?v12_3) rfl (by kernel_rfl) (by kernel_rfl) (by kernel_rfl) (fun _ _ _ h => h) (Or.inl ⟨by kernel_rfl, ?hy12_3⟩) (by assumption) ?_
            case hy12_3 => ((intro w hSw; (try dsimp only at hSw); go_simp) <;> with_reducible rfl)
            (try simp only [Act.put, List.getElem_toArray, List.getElem_cons_succ, List.getElem_cons_zero, List.setIfInBounds_toArray, List.set_cons_zero, List.set_cons_succ])
            refine wpAnyH_take (i := 13) (v := ?v13_3) rfl (by kernel_rfl) (by kernel_rfl) (by kernel_rfl) (fun _ _ _ h => h) (Or.inl ⟨by kernel_rfl, ?hy13_3⟩) (by assumption) ?_
            case hy13_3 => ((intro w hSw; (try dsimp only at hSw); go_simp) <;> with_reducible rfl)
            (try simp only [Act.put, List.getElem_toArray, List.getElem_cons_succ, List.getElem_cons_zero, List.setIfInBounds_toArray, List.set_cons_zero, List.set_cons_succ])
            refine wpAnyH_take (i := 14) (v := ?v14_3) rfl (by kernel_rfl) (by kernel_rfl) (by kernel_rfl) (fun _ _ _ h => h) (Or.inl ⟨by kernel_rfl, ?hy14_3⟩) (by assumption) ?_
            case hy14_3 => ((intro w hSw; (try dsimp only at hSw); go_simp) <;> with_reducible rfl)
            (try simp only [Act.put, List.getElem_toArray, List.getElem_cons_succ, List.getElem_cons_zero, List.setIfInBounds_toArray, List.set_cons_zero, List.set_cons_succ])
            refine wpAnyH_take (i := 15) (v := ?v15_3) rfl (by kernel_rfl) (by kernel_rfl) (by kernel_rfl) (fun _ _ _ h => h) (Or.inl ⟨by kernel_rfl, ?hy15_3⟩) (by assumption) ?_
            case hy15_3 => ((intro w hSw; (try dsimp only at hSw); go_simp) <;> with_reducible rfl)
            (try simp only [Act.put, List.getElem_toArray, List.getElem_cons_succ, List.getElem_cons_zero, List.setIfInBounds_toArray, List.set_cons_zero, List.set_cons_succ])
            refine wpAnyH_take (i := 16) (v := ?v16_3) rfl (by kernel_rfl) (by kernel_rfl) (by kernel_rfl) (fun _ _ _ h => h) (Or.inl ⟨by kernel_rfl, ?hy16_3⟩) (by assumption) ?_
            case hy16_3 => ((intro w hSw; (try dsimp only at hSw); go_simp) <;> with_reducible rfl)
            (try simp only [Act.put, List.getElem_toArray, List.getElem_cons_succ, List.getElem_cons_zero, List.setIfInBounds_toArray, List.set_cons_zero, List.set_cons_succ])
            refine wpAnyH_take (i := 17) (v := ?v17_3) rfl (by kernel_rfl) (by kernel_rfl) (by kernel_rfl) (fun _ _ _ h => h) (Or.inl ⟨by kernel_rfl, ?hy17_3⟩) (by assumption) ?_
            case hy17_3 => ((intro w hSw; (try dsimp only at hSw); go_simp) <;> with_reducible rfl)
            (try simp only [Act.put, List.getElem_toArray, List.getElem_cons_succ, List.getElem_cons_zero, List.setIfInBounds_toArray, List.set_cons_zero, List.set_cons_succ])
            refine wpAnyH_take (i := 18) (v := ?v18_3) rfl (by kernel_rfl) (by kernel_rfl) (by kernel_rfl) (fun _ _ _ h => h) (Or.inl ⟨by kernel_rfl, ?hy18_3⟩) (by assumption) ?_
            case hy18_3 => ((intro w hSw; (try dsimp only at hSw); go_simp) <;> with_reducible rfl)
            (try simp only [Act.put, List.getElem_toArray, List.getElem_cons_succ, List.getElem_cons_zero, List.setIfInBounds_toArray, List.set_cons_zero, List.set_cons_succ])
            refine wpAnyH_take (i := 19) (v := ?v19_3) rfl (by kernel_rfl) (by kernel_rfl) (by kernel_rfl) (fun _ _ _ h => h) (Or.inl ⟨by kernel_rfl, ?hy19_3⟩) (by assumption) ?_
            case hy19_3 => ((intro w hSw; (try dsimp only at hSw); go_simp) <;> with_reducible rfl)
            (try simp only [Act.put, List.getElem_toArray, List.getElem_cons_succ, List.getElem_cons_zero, List.setIfInBounds_toArray, List.set_cons_zero, List.set_cons_succ])
            refine wpAnyH_take (i := 20) (v := ?v20_3) rfl (by kernel_rfl) (by kernel_rfl) (by kernel_rfl) (fun _ _ _ h => h) (Or.inl ⟨by kernel_rfl, ?hy20_3⟩) (by assumption) ?_
            case hy20_3 => ((intro w hSw; (try dsimp only at hSw); go_simp) <;> with_reducible rfl)
            (try simp only [Act.put, List.getElem_toArray, List.getElem_cons_succ, List.getElem_cons_zero, List.setIfInBounds_toArray, List.set_cons_zero, List.set_cons_succ])
            refine wpAnyH_take (i := 21) (v := ?v21_3) rfl (by kernel_rfl) (by kernel_rfl) (by kernel_rfl) (fun _ _ _ h => h) (Or.inl ⟨by kernel_rfl, ?hy21_3⟩) (by assumption) ?_
            case hy21_3 => ((intro w hSw; (try dsimp only at hSw); go_simp) <;> with_reducible rfl)
            (try simp only [Act.put, List.getElem_toArray, List.getElem_cons_succ, List.getElem_cons_zero, List.setIfInBounds_toArray, List.set_cons_zero, List.set_cons_succ])
            refine wpAnyH_take (i := 22) (v := ?v22_3) rfl (by kernel_rfl) (by kernel_rfl) (by kernel_rfl) (fun _ _ _ h => h) (Or.inl ⟨by kernel_rfl, ?hy22_3⟩) (by assumption) ?_
            case hy22_3 => ((intro w hSw; (try dsimp only at hSw); go_simp) <;> with_reducible rfl)
            (try simp only [Act.put, List.getElem_toArray, List.getElem_cons_succ, List.getElem_cons_zero, List.setIfInBounds_toArray, List.set_cons_zero, List.set_cons_succ])
            have hR1 := h0.drew
            refine wpAnyH_ready (rs := [23]) (by kernel_rfl) (by simp) ?_
            refine AllReadyH.cons rfl (fun K hK => ?_) AllReadyH.nil
            go_simp
            (go_at_fn fm; refine (HM.out _ hR1).mono ?_; rintro e wb ⟨rfl, hwb⟩; have hb1 := below_trans' hR1 hwb; have kbb0 := (hb1.cell (p := ⟨b, 0, none⟩) lb).trans c0; have kbb1 := (hb1.cell (p := ⟨b, 1, none⟩) lb).trans c1; have kbb2 := (hb1.cell (p := ⟨b, 2, none⟩) lb).trans c2; have kbpm := (hb1.cell (p := ⟨pm, 0, none⟩) lpm).trans cm; have kbo0 := (hb1.cell (p := ⟨ga, oa + i, none⟩) la).trans co0; have kbo1 := (hb1.cell (p := ⟨ga, oa + (i + 1), none⟩) la).trans co1; have kbe00 := (hb1.cell (p := ⟨gp0, op0 + k, none⟩) lp0).trans ce00; have kbe10 := (hb1.cell (p := ⟨gp1, op1 + k, none⟩) lp1).trans ce10)
            go_wp2_with fail
            refine hK.out _ _ ?hS23_3 (fun hHeld => ?_)
            case hS23_3 => ((try dsimp only); simp [*])
            clear hK K
            (try simp only [Act.put, List.getElem_toArray, List.getElem_cons_succ, List.getElem_cons_zero, List.setIfInBounds_toArray, List.set_cons_zero, List.set_cons_succ])
            refine wpAnyH_take (i := 24) (v := ?v24_3) rfl (by kernel_rfl) (by kernel_rfl) (by kernel_rfl) (fun _ _ _ h => h) (Or.inl ⟨by kernel_rfl, ?hy24_3⟩) (by assumption) ?_
            case hy24_3 => ((intro w hSw; (try dsimp only at hSw); go_simp) <;> with_reducible rfl)
            (try simp only [Act.put, List.getElem_toArray, List.getElem_cons_succ, List.getElem_cons_zero, List.setIfInBounds_toArray, List.set_cons_zero, List.set_cons_succ])
            refine wpAnyH_take (i := 25) (v := ?v25_3) rfl (by kernel_rfl) (by kernel_rfl) (by kernel_rfl) (fun _ _ _ h => h) (Or.inl ⟨by kernel_rfl, ?hy25_3⟩) (by assumption) ?_
            case hy25_3 => ((intro w hSw; (try dsimp only at hSw); go_simp) <;> with_reducible rfl)
            (try simp only [Act.put, List.getElem_toArray, List.getElem_cons_succ, List.getElem_cons_zero, List.setIfInBounds_toArray, List.set_cons_zero, List.set_cons_succ])
            refine wpAnyH_take (i := 26) (v := ?v26_3) rfl (by kernel_rfl) (by kernel_rfl) (by kernel_rfl) (fun _ _ _ h => h) (Or.inl ⟨by kernel_rfl, ?hy26_3⟩) (by assumption) ?_
            case hy26_3 => ((intro w hSw; (try dsimp only at hSw); go_simp) <;> with_reducible rfl)
            (try simp only [Act.put, List.getElem_toArray, List.getElem_cons_succ, List.getElem_cons_zero, List.setIfInBounds_toArray, List.set_cons_zero, List.set_cons_succ])
            refine wpAnyH_take (i := 27) (v := ?v27_3) rfl (by kernel_rfl) (by kernel_rfl) (by kernel_rfl) (fun _ _ _ h => h) (Or.inl ⟨by kernel_rfl, ?hy27_3⟩) (by assumption) ?_
            case hy27_3 => ((intro w hSw; (try dsimp only at hSw); go_simp) <;> with_reducible rfl)
            (try simp only [Act.put, List.getElem_toArray, List.getElem_cons_succ, List.getElem_cons_zero, List.setIfInBounds_toArray, List.set_cons_zero, List.set_cons_succ])
            refine wpAnyH_take (i := 28) (v := ?v28_3) rfl (by kernel_rfl) (by kernel_rfl) (by kernel_rfl) (fun _ _ _ h => h) (Or.inl ⟨by kernel_rfl, ?hy28_3⟩) (by assumption) ?_
            case hy28_3 => ((intro w hSw; (try dsimp only at hSw); go_simp) <;> with_reducible rfl)
            (try simp only [Act.put, List.getElem_toArray, List.getElem_cons_succ, List.getElem_cons_zero, List.setIfInBounds_toArray, List.set_cons_zero, List.set_cons_succ])
            refine wpAnyH_take (i := 29) (v := undef) rfl (by kernel_rfl) (by kernel_rfl) (by kernel_rfl) (fun _ _ _ h => h) (Or.inr ⟨by kernel_rfl, rfl⟩) (by assumption) ?_
            (try simp only [Act.put, List.getElem_toArray, List.getElem_cons_succ, List.getElem_cons_zero, List.setIfInBounds_toArray, List.set_cons_zero, List.set_cons_succ])
            refine wpAnyH_take (i := 30) (v := undef) rfl (by kernel_rfl) (by kernel_rfl) (by kernel_rfl) (fun _ _ _ h => h) (Or.inr ⟨by kernel_rfl, rfl⟩) (by assumption) ?_
            (try simp only [Act.put, List.getElem_toArray, List.getElem_cons_succ, List.getElem_cons_zero, List.setIfInBounds_toArray, List.set_cons_zero, List.set_cons_succ])
            refine wpAnyH_take (i := 31) (v := undef) rfl (by kernel_rfl) (by kernel_rfl) (by kernel_rfl) (fun _ _ _ h => h) (Or.inr ⟨by kernel_rfl, rfl⟩) (by assumption) ?_
            (try simp only [Act.put, List.getElem_toArray, List.getElem_cons_succ, List.getElem_cons_zero, List.setIfInBounds_toArray, List.set_cons_zero, List.set_cons_succ])
            refine wpAnyH_take (i := 32) (v := undef) rfl (by kernel_rfl) (by kernel_rfl) (by kernel_rfl) (fun _ _ _ h => h) (Or.inr ⟨by kernel_rfl, rfl⟩) (by assumption) ?_
            (try simp only [Act.put, List.getElem_toArray, List.getElem_cons_succ, List.getElem_cons_zero, List.setIfInBounds_toArray, List.set_cons_zero, List.set_cons_succ])
            refine wpAnyH_take (i := 33) (v := undef) rfl (by kernel_rfl) (by kernel_rfl) (by kernel_rfl) (fun _ _ _ h => h) (Or.inr ⟨by kernel_rfl, rfl⟩) (by assumption) ?_
            (try simp only [Act.put, List.getElem_toArray, List.getElem_cons_succ, List.getElem_cons_zero, List.setIfInBounds_toArray, List.set_cons_zero, List.set_cons_succ])
            refine wpAnyH_take (i := 34) (v := undef) rfl (by kernel_rfl) (by kernel_rfl) (by kernel_rfl) (fun _ _ _ h => h) (Or.inr ⟨by kernel_rfl, rfl⟩) (by assumption) ?_
            (try simp only [Act.put, List.getElem_toArray, List.getElem_cons_succ, List.getElem_cons_zero, List.setIfInBounds_toArray, List.set_cons_zero, List.set_cons_succ])
            refine wpAnyH_take (i := 35) (v := undef) rfl (by kernel_rfl) (by kernel_rfl) (by kernel_rfl) (fun _ _ _ h => h) (Or.inr ⟨by kernel_rfl, rfl⟩) (by assumption) ?_
            (try simp only [Act.put, List.getElem_toArray, List.getElem_cons_succ, List.getElem_cons_zero, List.setIfInBounds_toArray, List.set_cons_zero, List.set_cons_succ])
            refine wpAnyH_take (i := 36) (v := undef) rfl (by kernel_rfl) (by kernel_rfl) (by kernel_rfl) (fun _ _ _ h => h) (Or.inr ⟨by kernel_rfl, rfl⟩) (by assumption) ?_
            (try simp only [Act.put, List.getElem_toArray, List.getElem_cons_succ, List.getElem_cons_zero, List.setIfInBounds_toArray, List.set_cons_zero, List.set_cons_succ])
            refine wpAnyH_take (i := 37) (v := undef) rfl (by kernel_rfl) (by kernel_rfl) (by kernel_rfl) (fun _ _ _ h => h) (Or.inr ⟨by kernel_rfl, rfl⟩) (by assumption) ?_
            (try simp only [Act.put, List.getElem_toArray, List.getElem_cons_succ, List.getElem_cons_zero, List.setIfInBounds_toArray, List.set_cons_zero, List.set_cons_succ])
            refine wpAnyH_take (i := 38) (v := undef) rfl (by kernel_rfl) (by kernel_rfl) (by kernel_rfl) (fun _ _ _ h => h) (Or.inr ⟨by kernel_rfl, rfl⟩) (by assumption) ?_
            (try simp only [Act.put, List.getElem_toArray, List.getElem_cons_succ, List.getElem_cons_zero, List.setIfInBounds_toArray, List.set_cons_zero, List.set_cons_succ])
            refine wpAnyH_take (i := 39) (v := undef) rfl (by kernel_rfl) (by kernel_rfl) (by kernel_rfl) (fun _ _ _ h => h) (Or.inr ⟨by kernel_rfl, rfl⟩) (by assumption) ?_
            (try simp only [Act.put, List.getElem_toArray, List.getElem_cons_succ, List.getElem_cons_zero, List.setIfInBounds_toArray, List.set_cons_zero, List.set_cons_succ])
            refine wpAnyH_take (i := 40) (v := undef) rfl (by kernel_rfl) (by kernel_rfl) (by kernel_rfl) (fun _ _ _ h => h) (Or.inr ⟨by kernel_rfl, rfl⟩) (by assumption) ?_
            (try simp only [Act.put, List.getElem_toArray, List.getElem_cons_succ, List.getElem_cons_zero, List.setIfInBounds_toArray, List.set_cons_zero, List.set_cons_succ])
            refine wpAnyH_take (i := 41) (v := undef) rfl (by kernel_rfl) (by kernel_rfl) (by kernel_rfl) (fun _ _ _ h => h) (Or.inr ⟨by kernel_rfl, rfl⟩) (by assumption) ?_
            (try simp only [Act.put, List.getElem_toArray, List.getElem_cons_succ, List.getElem_cons_zero, List.setIfInBounds_toArray, List.set_cons_zero, List.set_cons_succ])
            refine wpAnyH_take (i := 42) (v := undef) rfl (by kernel_rfl) (by kernel_rfl) (by kernel_rfl) (fun _ _ _ h => h) (Or.inr ⟨by kernel_rfl, rfl⟩) (by assumption) ?_
            (try simp only [Act.put, List.getElem_toArray, List.getElem_cons_succ, List.getElem_cons_zero, List.setIfInBounds_toArray, List.set_cons_zero, List.set_cons_succ])
            refine wpAnyH_take (i := 43) (v := undef) rfl (by kernel_rfl) (by kernel_rfl) (by kernel_rfl) (fun _ _ _ h => h) (Or.inr ⟨by kernel_rfl, rfl⟩) (by assumption) ?_
            (try simp only [Act.put, List.getElem_toArray, List.getElem_cons_succ, List.getElem_cons_zero, List.setIfInBounds_toArray, List.set_cons_zero, List.set_cons_succ])
            refine wpAnyH_take (i := 44) (v := undef) rfl (by kernel_rfl) (by kernel_rfl) (by kernel_rfl) (fun _ _ _ h => h) (Or.inr ⟨by kernel_rfl, rfl⟩) (by assumption) ?_
            (try simp only [Act.put, List.getElem_toArray, List.getElem_cons_succ, List.getElem_cons_zero, List.setIfInBounds_toArray, List.set_cons_zero, List.set_cons_succ])
            refine wpAnyH_take (i := 45) (v := undef) rfl (by kernel_rfl) (by kernel_rfl) (by kernel_rfl) (fun _ _ _ h => h) (Or.inr ⟨by kernel_rfl, rfl⟩) (by assumption) ?_
            (try simp only [Act.put, List.getElem_toArray, List.getElem_cons_succ, List.getElem_cons_zero, List.setIfInBounds_toArray, List.set_cons_zero, List.set_cons_succ])
            refine wpAnyH_take (i := 46) (v := undef) rfl (by kernel_rfl) (by kernel_rfl) (by kernel_rfl) (fun _ _ _ h => h) (Or.inr ⟨by kernel_rfl, rfl⟩) (by assumption) ?_
            (try simp only [Act.put, List.getElem_toArray, List.getElem_cons_succ, List.getElem_cons_zero, List.setIfInBounds_toArray, List.set_cons_zero, List.set_cons_succ])
            refine wpAnyH_take (i := 47) (v := undef) rfl (by kernel_rfl) (by kernel_rfl) (by kernel_rfl) (fun _ _ _ h => h) (Or.inr ⟨by kernel_rfl, rfl⟩) (by assumption) ?_
            (try simp only [Act.put, List.getElem_toArray, List.getElem_cons_succ, List.getElem_cons_zero, List.setIfInBounds_toArray, List.set_cons_zero, List.set_cons_succ])
            refine wpAnyH_take (i := 48) (v := undef) rfl (by kernel_rfl) (by kernel_rfl) (by kernel_rfl) (fun _ _ _ h => h) (Or.inr ⟨by kernel_rfl, rfl⟩) (by assumption) ?_
            (try simp only [Act.put, List.getElem_toArray, List.getElem_cons_succ, List.getElem_cons_zero, List.setIfInBounds_toArray, List.set_cons_zero, List.set_cons_succ])
            refine wpAnyH_take (i := 49) (v := undef) rfl (by kernel_rfl) (by kernel_rfl) (by kernel_rfl) (fun _ _ _ h => h) (Or.inr ⟨by kernel_rfl, rfl⟩) (by assumption) ?_
            (try simp only [Act.put, List.getElem_toArray, List.getElem_cons_succ, List.getElem_cons_zero, List.setIfInBounds_toArray, List.set_cons_zero, List.set_cons_succ])
            refine wpAnyH_take (i := 50) (v := undef) rfl (by kernel_rfl) (by kernel_rfl) (by kernel_rfl) (fun _ _ _ h => h) (Or.inr ⟨by kernel_rfl, rfl⟩) (by assumption) ?_
            (try simp only [Act.put, List.getElem_toArray, List.getElem_cons_succ, List.getElem_cons_zero, List.setIfInBounds_toArray, List.set_cons_zero, List.set_cons_succ])
            refine wpAnyH_take (i := 51) (v := undef) rfl (by kernel_rfl) (by kernel_rfl) (by kernel_rfl) (fun _ _ _ h => h) (Or.inr ⟨by kernel_rfl, rfl⟩) (by assumption) ?_
            (try simp only [Act.put, List.getElem_toArray, List.getElem_cons_succ, List.getElem_cons_zero, List.setIfInBounds_toArray, List.set_cons_zero, List.set_cons_succ])
            refine wpAnyH_take (i := 52) (v := undef) rfl (by kernel_rfl) (by kernel_rfl) (by kernel_rfl) (fun _ _ _ h => h) (Or.inr ⟨by kernel_rfl, rfl⟩) (by assumption) ?_
            (try simp only [Act.put, List.getElem_toArray, List.getElem_cons_succ, List.getElem_cons_zero, List.setIfInBounds_toArray, List.set_cons_zero, List.set_cons_succ])
            refine wpAnyH_take (i := 53) (v := undef) rfl (by kernel_rfl) (by kernel_rfl) (by kernel_rfl) (fun _ _ _ h => h) (Or.inr ⟨by kernel_rfl, rfl⟩) (by assumption) ?_
            (try simp only [Act.put, List.getElem_toArray, List.getElem_cons_succ, List.getElem_cons_zero, List.setIfInBounds_toArray, List.set_cons_zero, List.set_cons_succ])
            refine wpAnyH_take (i := 54) (v := ?v54_3) rfl (by kernel_rfl) (by kernel_rfl) (by kernel_rfl) (fun _ _ _ h => h) (Or.inl ⟨by kernel_rfl, ?hy54_3⟩) (by assumption) ?_
            case hy54_3 => ((intro w hSw; (try dsimp only at hSw); go_simp) <;> with_reducible rfl)
            (try simp only [Act.put, List.getElem_toArray, List.getElem_cons_succ, List.getElem_cons_zero, List.setIfInBounds_toArray, List.set_cons_zero, List.set_cons_succ])
            refine wpAnyH_take (i := 55) (v := ?v55_3) rfl (by kernel_rfl) (by kernel_rfl) (by kernel_rfl) (fun _ _ _ h => h) (Or.inl ⟨by kernel_rfl, ?hy55_3⟩) (by assumption) ?_
            case hy55_3 => ((intro w hSw; (try dsimp only at hSw); go_simp) <;> with_reducible rfl)
            (try simp only [Act.put, List.getElem_toArray, List.getElem_cons_succ, List.getElem_cons_zero, List.setIfInBounds_toArray, List.set_cons_zero, List.set_cons_succ])
            refine wpAnyH_done (by kernel_rfl) ?_ _
            go_wp2
            go_quiet (fail)
            have hQ2 := below_drewN' hb1 nq
            have hEnd := Lib.hid (below_trans' Hb.out hQ2)
            go_wp2
            go_roundw
            case rel => exact ⟨k + 1, by omega, by go_num, Hnz.out, by first | exact hEnd.out | (rw [← drewN_two]; exact hEnd.out)⟩
            case measure => simp [intOf] <;> omega

theorem CkTable_any (m : Int) (s h : ByteArray) (R : Option Addr) (cr : Nat) (L : List (List Int)) (w : World) (hS : RowsG w R L) (hl : L.length ≤ 1000000) :
    Calls Tryz.prog 50 #[.int .i64 m, .string s, .string h, .slice R L.length cr] w fun e w' => e = .returned (.tuple #[.int .i64 (ckN2 m s h L), .int .i64 (ckE2 m s h L)]) ∧ Below w.heap.size w w' := by
  by_cases he : errOf m s h = 0
  · exact CkTable_ok m s h R cr L w hS hl he
  · rw [ckN2, ckE2, if_pos he, if_pos he]; exact CkTable_no m s h _ w he
end Go.Proofs.YtgcddjgkieambaaGreatDoor
