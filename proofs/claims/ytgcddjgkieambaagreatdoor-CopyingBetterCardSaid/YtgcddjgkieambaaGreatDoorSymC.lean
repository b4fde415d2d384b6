/- The walk of the library's 'symMergeCmpFunc': the last number alone, and the general case. -/
import Derived.Test.YtgcddjgkieambaaGreatDoorSymB
set_option linter.unusedVariables false
set_option linter.unusedSimpArgs false
namespace Go.Proofs.YtgcddjgkieambaaGreatDoor
open Go.RowKit

set_option maxRecDepth 100000 in
set_option maxHeartbeats 8000000 in
theorem sym_last (w W : World) (g sz n c a m b : Nat) (d : Nat → Int) (key : Int → Int) (cb : Value) (HC0 : CmpOK w g key cb) (hS : SR w W g sz n d) (hsz : n ≤ sz) (hn : n ≤ 1000000) (hO : OkRow d n) (hb : b = m + 1) (ham : a + 1 < m) (hbn : b ≤ n) :
    Calls Tryz.prog 140 #[.slice (some ⟨g, 0, none⟩) n c, .int .i64 a, .int .i64 m, .int .i64 b, .func (.func 98) #[] #[cb]] W fun e w' => e = .returned (.tuple #[]) ∧
      ∃ i, a ≤ i ∧ i ≤ m ∧ (i = a ∨ key (d (i - 1)) ≤ key (d m)) ∧ (i = m ∨ key (d m) < key (d i)) ∧ SR w w' g sz n (St.rotF d i m b) := by
  have eg := enters_of Tryz.func98 (by kernel_rfl) rfl
  unfold Enters at eg
  have HC := Lib.hid HC0
  have HS := Lib.hid hS
  have HO := Lib.hid hO
  have Hb := Lib.hid hb
  obtain ⟨ma, hma⟩ : ∃ x, x = m - a := ⟨_, rfl⟩
  have e1 : (m : Int) - (a : Int) = (ma : Int) := by omega
  have qma : IntKind.i64.wrap (ma : Int) = (ma : Int) := IntWalk.i64_in _ (by omega)
  have gma : ((ma : Int) == 1) = false := by simp; omega
  have e2 : (b : Int) - (m : Int) = 1 := by omega
  have lm : m < n := by omega
  clear HC0 hS hO hb hma
  go_enter Tryz.func140, Tryz.ntmps140
  go_wp2
  go_loopw [14, 15] (fun v14 v15 wx => ∃ i j : Nat, a ≤ i ∧ i ≤ j ∧ j ≤ m ∧ v14 = .int .i64 i ∧ v15 = .int .i64 j ∧ (i = a ∨ key (d (i - 1)) ≤ key (d m)) ∧ (j = m ∨ key (d m) < key (d j)) ∧ SR w wx g sz n d) (fun v14 v15 _ => (intOf v15).toNat - (intOf v14).toNat)
  case atStart => exact ⟨a, m, Nat.le_refl _, by omega, Nat.le_refl _, rfl, rfl, .inl rfl, .inl rfl, HS.out⟩
  case round =>
    obtain ⟨i, j, hmi, hij0, hjb, rfl, rfl, hl, hr, hR⟩ := hrel
    have HL := Lib.hid hl
    have HR := Lib.hid hr
    clear hl hr
    by_cases hij : i < j
    · have f1 : decide ((i : Int) < (j : Int)) = true := by simp; omega
      obtain ⟨h, hh⟩ : ∃ h, h = (i + j) / 2 := ⟨_, rfl⟩
      have x1 : ((i : Int) + (j : Int)) / 2 = (h : Int) := by omega
      have q1 : IntKind.i64.wrap ((i : Int) + (j : Int)) = (i : Int) + (j : Int) := IntWalk.i64_in _ (by omega)
      have q2 : IntKind.u64.wrap ((i : Int) + (j : Int)) = (i : Int) + (j : Int) := IntWalk.u64_in _ (by omega)
      have q3 : IntKind.i64.wrap (h : Int) = (h : Int) := IntWalk.i64_in _ (by omega)
      have q4 : IntKind.i64.wrap ((h : Int) + 1) = (h : Int) + 1 := IntWalk.i64_in _ (by omega)
      have lh : h < n := by omega
      have b1 : (h : Int) < (n : Int) := by omega
      have b2 : (0 : Int) ≤ (h : Int) := by omega
      have b3 : (m : Int) < (n : Int) := by omega
      have b4 : (0 : Int) ≤ (m : Int) := by omega
      have hih : i ≤ h ∧ h < j := by omega
      have ch := hR.cell lh
      have cm := hR.cell lm
      have o1 := HO.out h lh
      have o2 := HO.out m lm
      have hc := fun q => HC.out (wr.drewN q) (hR.drewN q).2 (d m) (d h) o2.1 o2.2 o1.1 o1.2
      have HRW := Lib.hid hR
      obtain ⟨u, hu⟩ : ∃ u, u = d h := ⟨_, rfl⟩
      obtain ⟨v, hv⟩ : ∃ v, v = d m := ⟨_, rfl⟩
      rw [← hu] at ch hc
      rw [← hv] at cm hc
      obtain ⟨z, hz⟩ : ∃ z, z = cmpK key v u := ⟨_, rfl⟩
      have hzl : decide (z < 0) = decide (key v < key u) := by rw [hz]; exact cmpK_lt
      rw [← hz] at hc
      have HCC := Lib.hid hc
      have Hu := Lib.hid hu
      have Hv := Lib.hid hv
      by_cases hlt : key v < key u
      · rw [decide_eq_true hlt] at hzl
        have Hlt := Lib.hid hlt
        clear hlt hc hz hR hh o1 o2 hu hv
        go_wp2
        go_quiet (first | (go_at_call 98; exact Calls.quiet_of (HCC.out _)))
        go_wp2
        go_roundw
        case rel => exact ⟨i, h, by omega, by omega, by omega, rfl, rfl, HL.out, .inr (by rw [← Hu.out, ← Hv.out]; exact Hlt.out), HRW.out.drewN _⟩
        case measure => simp [intOf] <;> omega
      · rw [decide_eq_false hlt] at hzl
        have Hlt := Lib.hid (Int.not_lt.1 hlt)
        clear hlt hc hz hR hh o1 o2 hu hv
        go_wp2
        go_quiet (first | (go_at_call 98; exact Calls.quiet_of (HCC.out _)))
        go_wp2
        go_roundw
        case rel => exact ⟨h + 1, j, by omega, by omega, by omega, by go_num, rfl, .inr (by rw [Nat.add_sub_cancel, ← Hu.out, ← Hv.out]; exact Hlt.out), HR.out, HRW.out.drewN _⟩
        case measure => simp [intOf] <;> omega
    · obtain rfl : i = j := by omega
      have f1 : decide ((i : Int) < (i : Int)) = false := by simp
      have HRW := Lib.hid hR
      clear hR
      go_wp2
      go_loopw [17] (fun v17 wx => ∃ k : Nat, i ≤ k ∧ k ≤ m ∧ v17 = .int .i64 k ∧ SR w wx g sz n (St.rotF d k m b)) (fun v17 _ => (intOf v17).toNat - i)
      case atStart => exact ⟨m, hjb, Nat.le_refl _, rfl, by rw [St.rotF_left]; exact HRW.out⟩
      case round =>
        obtain ⟨k, hak, hkp, rfl, hR⟩ := hrel
        by_cases hlt : i < k
        · have f2 : decide ((k : Int) > (i : Int)) = true := by simp; omega
          have f2' : decide ((i : Int) < (k : Int)) = true := by simp; omega
          obtain ⟨p, hp⟩ : ∃ p, p = k - 1 := ⟨_, rfl⟩
          have ep : (k : Int) - 1 = (p : Int) := by omega
          have qp : IntKind.i64.wrap (p : Int) = (p : Int) := IntWalk.i64_in _ (by omega)
          have gx : (k : Int) < (n : Int) := by omega
          have gp : (p : Int) < (n : Int) := by omega
          have gx0 : (0 : Int) ≤ (k : Int) := by omega
          have gp0 : (0 : Int) ≤ (p : Int) := by omega
          have cx := hR.cell (k := k) (by omega)
          have cp := hR.cell (k := p) (by omega)
          have fx := hR.1.frozen k
          have fp := hR.1.frozen p
          have hne : ¬ k = p := by omega
          have hne' : ¬ p = k := by omega
          have HN := Lib.hid ((hR.put hsz (k := k) (u := St.rotF d k m b p) (d' := fun j => if j = k then St.rotF d k m b p else St.rotF d k m b j) (fun j _ => rfl)).put hsz (k := p) (u := St.rotF d k m b k) (d' := St.rotF d p m b) (fun j _ => by
            have := St.rot_back_step d (m := m) (k := p) (by omega) j
            rw [← Hb.out, show p + 1 = k by omega] at this
            exact this.symm))
          have hpk : i ≤ p ∧ p ≤ m ∧ p < k := by omega
          clear hR hp
          generalize St.rotF d k m b k = u at cx HN
          generalize St.rotF d k m b p = v at cp HN
          obtain ⟨wq, hwq⟩ : ∃ wq : World, wq = wr := ⟨_, rfl⟩
          rw [← hwq] at cx cp fx fp HN ⊢
          clear hwq
          go_wp2
          go_region
          go_wp2
          go_roundw
          case rel => exact ⟨p, hpk.1, hpk.2.1, rfl, HN.out.drew⟩
          case measure => simp [intOf] <;> omega
        · obtain rfl : k = i := by omega
          have f2 : decide ((k : Int) > (k : Int)) = false := by simp
          have f2' : decide ((k : Int) < (k : Int)) = false := by simp
          have HRR := Lib.hid hR
          clear hR
          go_wp2
          (try simp only [Exit.inBlock, Exit.then])
          refine bodyPost_ret (results_none rfl _ _ _) rfl ?_
          exact ⟨rfl, k, hmi, hjb, HL.out, HR.out, HRR.out⟩

set_option maxRecDepth 100000 in
set_option maxHeartbeats 8000000 in
theorem sym_hi (w W : World) (g sz n c a m b : Nat) (d : Nat → Int) (key : Int → Int) (cb : Value) (HC0 : CmpOK w g key cb) (hS : SR w W g sz n d) (hsz : n ≤ sz) (hn : n ≤ 1000000) (hO : OkRow d n) (hH : St.Halves key d a m b) (ham : a + 1 < m) (hmb : m + 1 < b) (hbn : b ≤ n) (mid nn s0 r0 pp : Nat) (hmid : mid = (a + b) / 2) (hnn : nn = mid + m) (hpp : pp = nn - 1) (hgt : mid < m) (hs0 : s0 = nn - b) (hr0 : r0 = mid)
    (hI : ∀ (a' m' b' : Nat) (d' : Nat → Int) (W' : World), b' - a' < b - a → SR w W' g sz n d' → OkRow d' n → St.Halves key d' a' m' b' → a' < m' → m' < b' → b' ≤ n →
      Calls Tryz.prog 140 #[.slice (some ⟨g, 0, none⟩) n c, .int .i64 a', .int .i64 m', .int .i64 b', .func (.func 98) #[] #[cb]] W' fun e w' => e = .returned (.tuple #[]) ∧ ∃ d'', SR w w' g sz n d'' ∧ St.Merged key d' d'' a' b') :
    Calls Tryz.prog 140 #[.slice (some ⟨g, 0, none⟩) n c, .int .i64 a, .int .i64 m, .int .i64 b, .func (.func 98) #[] #[cb]] W fun e w' => e = .returned (.tuple #[]) ∧
      ∃ d', SR w w' g sz n d' ∧ St.Merged key d d' a b := by
  have eg := enters_of Tryz.func98 (by kernel_rfl) rfl
  unfold Enters at eg
  have HC := Lib.hid HC0
  have HS := Lib.hid hS
  have HO := Lib.hid hO
  have HI := Lib.hid hI
  have HH := Lib.hid hH
  have Hnn := Lib.hid hnn
  have Hmid := Lib.hid hmid
  have HROT := Lib.hid (fun (s e : Nat) W' hS h1 h2 h3 => rotate_any w W' g sz n c s m e d (.func (.func 98) #[] #[cb]) hS hsz hn h1 h2 h3)
  obtain ⟨ma, hma⟩ : ∃ x, x = m - a := ⟨_, rfl⟩
  have e1 : (m : Int) - (a : Int) = (ma : Int) := by omega
  have qma : IntKind.i64.wrap (ma : Int) = (ma : Int) := IntWalk.i64_in _ (by omega)
  have gma : ((ma : Int) == 1) = false := by simp; omega
  obtain ⟨bm, hbm⟩ : ∃ x, x = b - m := ⟨_, rfl⟩
  have e2 : (b : Int) - (m : Int) = (bm : Int) := by omega
  have qbm : IntKind.i64.wrap (bm : Int) = (bm : Int) := IntWalk.i64_in _ (by omega)
  have gbm : ((bm : Int) == 1) = false := by simp; omega
  have e3 : ((a : Int) + (b : Int)) / 2 = (mid : Int) := by omega
  have q31 : IntKind.i64.wrap ((a : Int) + (b : Int)) = (a : Int) + (b : Int) := IntWalk.i64_in _ (by omega)
  have q32 : IntKind.u64.wrap ((a : Int) + (b : Int)) = (a : Int) + (b : Int) := IntWalk.u64_in _ (by omega)
  have q33 : IntKind.i64.wrap (mid : Int) = (mid : Int) := IntWalk.i64_in _ (by omega)
  have e4 : (mid : Int) + (m : Int) = (nn : Int) := by omega
  have q4 : IntKind.i64.wrap (nn : Int) = (nn : Int) := IntWalk.i64_in _ (by omega)
  have e5 : (nn : Int) - 1 = (pp : Int) := by omega
  have q5 : IntKind.i64.wrap (pp : Int) = (pp : Int) := IntWalk.i64_in _ (by omega)
  have g0 : decide ((m : Int) > (mid : Int)) = true := by simp; omega
  have g0' : decide ((mid : Int) < (m : Int)) = true := by simp; omega
  have e6 : (nn : Int) - (b : Int) = (s0 : Int) := by omega
  have q6 : IntKind.i64.wrap (s0 : Int) = (s0 : Int) := IntWalk.i64_in _ (by omega)
  have hbds : mid < b ∧ a < mid ∧ m < b ∧ a ≤ s0 ∧ s0 ≤ r0 ∧ r0 ≤ m := by omega
  have hx0 : nn ≤ b + s0 ∧ r0 + m ≤ nn ∧ nn ≤ pp + 1 ∧ pp + 1 ≤ nn := by omega
  have HS0 := Lib.hid hs0
  have HR0 := Lib.hid hr0
  have Hgt := Lib.hid hgt
  clear HC0 hS hO hI hH hnn hmid hpp hma hbm hs0 hr0 hgt
  go_enter Tryz.func140, Tryz.ntmps140
  go_wp2
  go_loopw [20, 21] (fun v20 v21 wx => ∃ i j : Nat, s0 ≤ i ∧ i ≤ j ∧ j ≤ r0 ∧ v20 = .int .i64 i ∧ v21 = .int .i64 j ∧ (i = s0 ∨ key (d (i - 1)) ≤ key (d (pp - (i - 1)))) ∧ (j = r0 ∨ key (d (pp - j)) < key (d j)) ∧ SR w wx g sz n d) (fun v20 v21 _ => (intOf v21).toNat - (intOf v20).toNat)
  case atStart => exact ⟨s0, r0, Nat.le_refl _, hbds.2.2.2.2.1, Nat.le_refl _, rfl, by rw [HR0.out], .inl rfl, .inl rfl, HS.out⟩
  case round =>
    obtain ⟨i, j, hmi, hij0, hjb, rfl, rfl, hl, hr, hR⟩ := hrel
    have HL := Lib.hid hl
    have HR := Lib.hid hr
    clear hl hr
    by_cases hij : i < j
    · have f1 : decide ((i : Int) < (j : Int)) = true := by simp; omega
      obtain ⟨h, hh⟩ : ∃ h, h = (i + j) / 2 := ⟨_, rfl⟩
      have x1 : ((i : Int) + (j : Int)) / 2 = (h : Int) := by omega
      have q7 : IntKind.i64.wrap ((i : Int) + (j : Int)) = (i : Int) + (j : Int) := IntWalk.i64_in _ (by omega)
      have q8 : IntKind.u64.wrap ((i : Int) + (j : Int)) = (i : Int) + (j : Int) := IntWalk.u64_in _ (by omega)
      have q9 : IntKind.i64.wrap (h : Int) = (h : Int) := IntWalk.i64_in _ (by omega)
      have q10 : IntKind.i64.wrap ((h : Int) + 1) = (h : Int) + 1 := IntWalk.i64_in _ (by omega)
      obtain ⟨x, hx⟩ : ∃ x, x = pp - h := ⟨_, rfl⟩
      have x2 : (pp : Int) - (h : Int) = (x : Int) := by omega
      have q11 : IntKind.i64.wrap (x : Int) = (x : Int) := IntWalk.i64_in _ (by omega)
      have lh : h < n := by omega
      have lx : x < n := by omega
      have b1 : (h : Int) < (n : Int) := by omega
      have b2 : (0 : Int) ≤ (h : Int) := by omega
      have b3 : (x : Int) < (n : Int) := by omega
      have b4 : (0 : Int) ≤ (x : Int) := by omega
      have hih : i ≤ h ∧ h < j := by omega
      have ch := hR.cell lh
      have cx := hR.cell lx
      have o1 := HO.out h lh
      have o2 := HO.out x lx
      have hc := fun q => HC.out (wr.drewN q) (hR.drewN q).2 (d x) (d h) o2.1 o2.2 o1.1 o1.2
      have HRW := Lib.hid hR
      have Hx := Lib.hid hx
      obtain ⟨u, hu⟩ : ∃ u, u = d h := ⟨_, rfl⟩
      obtain ⟨v, hv⟩ : ∃ v, v = d x := ⟨_, rfl⟩
      rw [← hu] at ch hc
      rw [← hv] at cx hc
      obtain ⟨z, hz⟩ : ∃ z, z = cmpK key v u := ⟨_, rfl⟩
      have hzl : decide (z < 0) = decide (key v < key u) := by rw [hz]; exact cmpK_lt
      rw [← hz] at hc
      have HCC := Lib.hid hc
      have Hu := Lib.hid hu
      have Hv := Lib.hid hv
      by_cases hlt : key v < key u
      · rw [decide_eq_true hlt] at hzl
        have Hlt := Lib.hid hlt
        clear hlt hc hz hR hh o1 o2 hu hv hx
        go_wp2
        go_quiet (first | (go_at_call 98; exact Calls.quiet_of (HCC.out _)))
        go_wp2
        go_roundw
        case rel => exact ⟨i, h, by omega, by omega, by omega, rfl, rfl, HL.out, .inr (by rw [← Hx.out, ← Hu.out, ← Hv.out]; exact Hlt.out), HRW.out.drewN _⟩
        case measure => simp [intOf] <;> omega
      · rw [decide_eq_false hlt] at hzl
        have Hlt := Lib.hid (Int.not_lt.1 hlt)
        clear hlt hc hz hR hh o1 o2 hu hv hx
        go_wp2
        go_quiet (first | (go_at_call 98; exact Calls.quiet_of (HCC.out _)))
        go_wp2
        go_roundw
        case rel => exact ⟨h + 1, j, by omega, by omega, by omega, by go_num, rfl, .inr (by rw [Nat.add_sub_cancel, ← Hx.out, ← Hu.out, ← Hv.out]; exact Hlt.out), HR.out, HRW.out.drewN _⟩
        case measure => simp [intOf] <;> omega
    · obtain rfl : i = j := by omega
      have f1 : decide ((i : Int) < (i : Int)) = false := by simp
      obtain ⟨s, hs⟩ : ∃ s, s = i := ⟨_, rfl⟩
      rw [← hs] at hmi hjb HL HR hij f1 ⊢
      clear hs hij hij0
      obtain ⟨e, he⟩ : ∃ e, e = nn - s := ⟨_, rfl⟩
      have ee : (nn : Int) - (s : Int) = (e : Int) := by omega
      have qe : IntKind.i64.wrap (e : Int) = (e : Int) := IntWalk.i64_in _ (by omega)
      have hC : St.Cut key d a m b s e := by
        have := St.cut_search (mid := mid) (s0 := s0) (r0 := r0) (s := s) HH.out (by omega) (by omega) Hmid.out (.inl ⟨Hgt.out, by rw [HS0.out, Hnn.out], HR0.out⟩) hmi hjb (by
          rcases HL.out with h | h
          · exact .inl h
          · right; rw [← Hnn.out, show nn - 1 = pp by omega]; exact Int.not_lt.2 h) (by
          rcases HR.out with h | h
          · exact .inl h
          · right; rw [← Hnn.out, show nn - 1 = pp by omega]; exact h)
        rw [← Hnn.out, ← he] at this
        exact this
      have hmid2 : mid = s + (e - m) := by have := hC.as; have := hC.sm; have := hC.me; have := Hnn.out; omega
      have c1 := hC.as
      have c2 := hC.sm
      have c3 := hC.me
      have c4 := hC.eb
      have HCut := Lib.hid hC
      obtain ⟨h1, h2⟩ := St.rot_halves HH.out hC hmid2
      have HH1 := Lib.hid h1
      have HH2 := Lib.hid h2
      have hok := HO.out.rot (a := s) c2 c3 (by omega)
      have IH1 := Lib.hid (fun W' hS (k1 : a < s) (k2 : s < mid) => HI.out a s mid (St.rotF d s m e) W' (by omega) hS hok h1 k1 k2 (by omega))
      have IH2 := Lib.hid (fun d2 (hM : St.Merged key (St.rotF d s m e) d2 a mid) W' hS (k1 : mid < e) (k2 : e < b) => HI.out mid e b d2 W' (by omega) hS (hok.merged hM (by omega)) (h2.later (fun x z1 z2 => St.merged_out hM x (.inr z1))) k1 k2 hbn)
      have HRot := Lib.hid (fun W' hS k1 k2 => HROT.out s e W' hS k1 k2 (by omega))
      have HD := Lib.hid hR
      clear hC h1 h2 hok he
      by_cases hsm : s < m
      · by_cases hme : m < e
        · by_cases k1 : a < s
          · by_cases k2 : e < b
            · skip
              have k_s_m : s < m := by omega
              have g_s_m : decide ((s : Int) < (m : Int)) = true := by simp; omega
              have k_m_e : m < e := by omega
              have g_m_e : decide ((m : Int) < (e : Int)) = true := by simp; omega
              have k_s_mid : s < mid := by omega
              have g_s_mid : decide ((s : Int) < (mid : Int)) = true := by simp; omega
              have k_mid_e : mid < e := by omega
              have g_mid_e : decide ((mid : Int) < (e : Int)) = true := by simp; omega
              have k_a_s : a < s := by omega
              have g_a_s : decide ((a : Int) < (s : Int)) = true := by simp; omega
              have k_e_b : e < b := by omega
              have g_e_b : decide ((e : Int) < (b : Int)) = true := by simp; omega
              have Hm2 := Lib.hid hmid2
              clear hR hmid2
              go_wp2_with (first | (go_at_call 158; refine (HRot.out _ HD.out k_s_m k_m_e).mono ?_; rintro e5 w5 ⟨rfl, hS5⟩) | (go_at_call 140; ((with_reducible refine (IH1.out _ hS5 k_a_s k_s_mid).mono ?_); rintro e6 w6 ⟨rfl, d2, hS6, hM1⟩)) | (go_at_call 140; ((with_reducible refine (IH2.out _ hM1 _ hS6 k_mid_e k_e_b).mono ?_); rintro e7 w7 ⟨rfl, d3, hS7, hM2⟩)))
              go_end0
              exact ⟨rfl, d3, hS7, St.merged_all HH.out HCut.out Hm2.out hM1 hM2⟩
            · skip
              have k_s_m : s < m := by omega
              have g_s_m : decide ((s : Int) < (m : Int)) = true := by simp; omega
              have k_m_e : m < e := by omega
              have g_m_e : decide ((m : Int) < (e : Int)) = true := by simp; omega
              have k_s_mid : s < mid := by omega
              have g_s_mid : decide ((s : Int) < (mid : Int)) = true := by simp; omega
              have k_mid_e : mid < e := by omega
              have g_mid_e : decide ((mid : Int) < (e : Int)) = true := by simp; omega
              have k_a_s : a < s := by omega
              have g_a_s : decide ((a : Int) < (s : Int)) = true := by simp; omega
              have k_e_b : ¬ e < b := by omega
              have g_e_b : decide ((e : Int) < (b : Int)) = false := by simp; omega
              have Z7 := Lib.hid (show mid = e ∨ e = b from (.inr (by omega)))
              have Hm2 := Lib.hid hmid2
              clear hR hmid2
              go_wp2_with (first | (go_at_call 158; refine (HRot.out _ HD.out k_s_m k_m_e).mono ?_; rintro e5 w5 ⟨rfl, hS5⟩) | (go_at_call 140; ((with_reducible refine (IH1.out _ hS5 k_a_s k_s_mid).mono ?_); rintro e6 w6 ⟨rfl, d2, hS6, hM1⟩)))
              go_end0
              exact ⟨rfl, _, hS6, St.merged_all HH.out HCut.out Hm2.out hM1 (St.merged_self ((HH2.out.later (fun x h1 h2 => (St.merged_out hM1 x (.inr h1)))) ) Z7.out)⟩
          · by_cases k2 : e < b
            · skip
              have k_s_m : s < m := by omega
              have g_s_m : decide ((s : Int) < (m : Int)) = true := by simp; omega
              have k_m_e : m < e := by omega
              have g_m_e : decide ((m : Int) < (e : Int)) = true := by simp; omega
              have k_s_mid : s < mid := by omega
              have g_s_mid : decide ((s : Int) < (mid : Int)) = true := by simp; omega
              have k_mid_e : mid < e := by omega
              have g_mid_e : decide ((mid : Int) < (e : Int)) = true := by simp; omega
              have k_a_s : ¬ a < s := by omega
              have g_a_s : decide ((a : Int) < (s : Int)) = false := by simp; omega
              have k_e_b : e < b := by omega
              have g_e_b : decide ((e : Int) < (b : Int)) = true := by simp; omega
              have HM1 := Lib.hid (St.merged_self HH1.out (.inl (by omega)))
              have Hm2 := Lib.hid hmid2
              clear hR hmid2
              go_wp2_with (first | (go_at_call 158; refine (HRot.out _ HD.out k_s_m k_m_e).mono ?_; rintro e5 w5 ⟨rfl, hS5⟩) | (go_at_call 140; ((with_reducible refine (IH2.out _ HM1.out _ hS5 k_mid_e k_e_b).mono ?_); rintro e7 w7 ⟨rfl, d3, hS7, hM2⟩)))
              go_end0
              exact ⟨rfl, d3, hS7, St.merged_all HH.out HCut.out Hm2.out HM1.out hM2⟩
            · skip
              have k_s_m : s < m := by omega
              have g_s_m : decide ((s : Int) < (m : Int)) = true := by simp; omega
              have k_m_e : m < e := by omega
              have g_m_e : decide ((m : Int) < (e : Int)) = true := by simp; omega
              have k_s_mid : s < mid := by omega
              have g_s_mid : decide ((s : Int) < (mid : Int)) = true := by simp; omega
              have k_mid_e : mid < e := by omega
              have g_mid_e : decide ((mid : Int) < (e : Int)) = true := by simp; omega
              have k_a_s : ¬ a < s := by omega
              have g_a_s : decide ((a : Int) < (s : Int)) = false := by simp; omega
              have k_e_b : ¬ e < b := by omega
              have g_e_b : decide ((e : Int) < (b : Int)) = false := by simp; omega
              have HM1 := Lib.hid (St.merged_self HH1.out (.inl (by omega)))
              have Z7 := Lib.hid (show mid = e ∨ e = b from (.inr (by omega)))
              have Hm2 := Lib.hid hmid2
              clear hR hmid2
              go_wp2_with (first | (go_at_call 158; refine (HRot.out _ HD.out k_s_m k_m_e).mono ?_; rintro e5 w5 ⟨rfl, hS5⟩))
              go_end0
              exact ⟨rfl, _, hS5, St.merged_all HH.out HCut.out Hm2.out HM1.out (St.merged_self ((HH2.out.later (fun x h1 h2 => (St.merged_out HM1.out x (.inr h1)))) ) Z7.out)⟩
        · by_cases k1 : a < s
          · skip
            have k_s_m : s < m := by omega
            have g_s_m : decide ((s : Int) < (m : Int)) = true := by simp; omega
            have k_m_e : ¬ m < e := by omega
            have g_m_e : decide ((m : Int) < (e : Int)) = false := by simp; omega
            have k_s_mid : ¬ s < mid := by omega
            have g_s_mid : decide ((s : Int) < (mid : Int)) = false := by simp; omega
            have k_mid_e : mid < e := by omega
            have g_mid_e : decide ((mid : Int) < (e : Int)) = true := by simp; omega
            have k_e_b : e < b := by omega
            have g_e_b : decide ((e : Int) < (b : Int)) = true := by simp; omega
            have k_a_s : a < s := by omega
            have g_a_s : decide ((a : Int) < (s : Int)) = true := by simp; omega
            have hS5 : SR w wr g sz n (St.rotF d s m e) := by rw [show e = m by omega, St.rotF_right]; exact HD.out
            have HM1 := Lib.hid (St.merged_self HH1.out (.inr (by omega)))
            have Hm2 := Lib.hid hmid2
            clear hR hmid2
            go_wp2_with (first | (go_at_call 140; ((with_reducible refine (IH2.out _ HM1.out _ hS5 k_mid_e k_e_b).mono ?_); rintro e7 w7 ⟨rfl, d3, hS7, hM2⟩)))
            go_end0
            exact ⟨rfl, d3, hS7, St.merged_all HH.out HCut.out Hm2.out HM1.out hM2⟩
          · skip
            have k_s_m : s < m := by omega
            have g_s_m : decide ((s : Int) < (m : Int)) = true := by simp; omega
            have k_m_e : ¬ m < e := by omega
            have g_m_e : decide ((m : Int) < (e : Int)) = false := by simp; omega
            have k_s_mid : ¬ s < mid := by omega
            have g_s_mid : decide ((s : Int) < (mid : Int)) = false := by simp; omega
            have k_mid_e : mid < e := by omega
            have g_mid_e : decide ((mid : Int) < (e : Int)) = true := by simp; omega
            have k_e_b : e < b := by omega
            have g_e_b : decide ((e : Int) < (b : Int)) = true := by simp; omega
            have k_a_s : ¬ a < s := by omega
            have g_a_s : decide ((a : Int) < (s : Int)) = false := by simp; omega
            have hS5 : SR w wr g sz n (St.rotF d s m e) := by rw [show e = m by omega, St.rotF_right]; exact HD.out
            have HM1 := Lib.hid (St.merged_self HH1.out (.inr (by omega)))
            have Hm2 := Lib.hid hmid2
            clear hR hmid2
            go_wp2_with (first | (go_at_call 140; ((with_reducible refine (IH2.out _ HM1.out _ hS5 k_mid_e k_e_b).mono ?_); rintro e7 w7 ⟨rfl, d3, hS7, hM2⟩)))
            go_end0
            exact ⟨rfl, d3, hS7, St.merged_all HH.out HCut.out Hm2.out HM1.out hM2⟩
      · exact absurd hmid2 (by have := Hgt.out; have := HR0.out; omega)

set_option maxRecDepth 100000 in
set_option maxHeartbeats 8000000 in
theorem sym_lo (w W : World) (g sz n c a m b : Nat) (d : Nat → Int) (key : Int → Int) (cb : Value) (HC0 : CmpOK w g key cb) (hS : SR w W g sz n d) (hsz : n ≤ sz) (hn : n ≤ 1000000) (hO : OkRow d n) (hH : St.Halves key d a m b) (ham : a + 1 < m) (hmb : m + 1 < b) (hbn : b ≤ n) (mid nn s0 r0 pp : Nat) (hmid : mid = (a + b) / 2) (hnn : nn = mid + m) (hpp : pp = nn - 1) (hgt : m ≤ mid) (hs0 : s0 = a) (hr0 : r0 = m)
    (hI : ∀ (a' m' b' : Nat) (d' : Nat → Int) (W' : World), b' - a' < b - a → SR w W' g sz n d' → OkRow d' n → St.Halves key d' a' m' b' → a' < m' → m' < b' → b' ≤ n →
      Calls Tryz.prog 140 #[.slice (some ⟨g, 0, none⟩) n c, .int .i64 a', .int .i64 m', .int .i64 b', .func (.func 98) #[] #[cb]] W' fun e w' => e = .returned (.tuple #[]) ∧ ∃ d'', SR w w' g sz n d'' ∧ St.Merged key d' d'' a' b') :
    Calls Tryz.prog 140 #[.slice (some ⟨g, 0, none⟩) n c, .int .i64 a, .int .i64 m, .int .i64 b, .func (.func 98) #[] #[cb]] W fun e w' => e = .returned (.tuple #[]) ∧
      ∃ d', SR w w' g sz n d' ∧ St.Merged key d d' a b := by
  have eg := enters_of Tryz.func98 (by kernel_rfl) rfl
  unfold Enters at eg
  have HC := Lib.hid HC0
  have HS := Lib.hid hS
  have HO := Lib.hid hO
  have HI := Lib.hid hI
  have HH := Lib.hid hH
  have Hnn := Lib.hid hnn
  have Hmid := Lib.hid hmid
  have HROT := Lib.hid (fun (s e : Nat) W' hS h1 h2 h3 => rotate_any w W' g sz n c s m e d (.func (.func 98) #[] #[cb]) hS hsz hn h1 h2 h3)
  obtain ⟨ma, hma⟩ : ∃ x, x = m - a := ⟨_, rfl⟩
  have e1 : (m : Int) - (a : Int) = (ma : Int) := by omega
  have qma : IntKind.i64.wrap (ma : Int) = (ma : Int) := IntWalk.i64_in _ (by omega)
  have gma : ((ma : Int) == 1) = false := by simp; omega
  obtain ⟨bm, hbm⟩ : ∃ x, x = b - m := ⟨_, rfl⟩
  have e2 : (b : Int) - (m : Int) = (bm : Int) := by omega
  have qbm : IntKind.i64.wrap (bm : Int) = (bm : Int) := IntWalk.i64_in _ (by omega)
  have gbm : ((bm : Int) == 1) = false := by simp; omega
  have e3 : ((a : Int) + (b : Int)) / 2 = (mid : Int) := by omega
  have q31 : IntKind.i64.wrap ((a : Int) + (b : Int)) = (a : Int) + (b : Int) := IntWalk.i64_in _ (by omega)
  have q32 : IntKind.u64.wrap ((a : Int) + (b : Int)) = (a : Int) + (b : Int) := IntWalk.u64_in _ (by omega)
  have q33 : IntKind.i64.wrap (mid : Int) = (mid : Int) := IntWalk.i64_in _ (by omega)
  have e4 : (mid : Int) + (m : Int) = (nn : Int) := by omega
  have q4 : IntKind.i64.wrap (nn : Int) = (nn : Int) := IntWalk.i64_in _ (by omega)
  have e5 : (nn : Int) - 1 = (pp : Int) := by omega
  have q5 : IntKind.i64.wrap (pp : Int) = (pp : Int) := IntWalk.i64_in _ (by omega)
  have g0 : decide ((m : Int) > (mid : Int)) = false := by simp; omega
  have g0' : decide ((mid : Int) < (m : Int)) = false := by simp; omega
  have gN : ¬ mid < m := by omega
  have gN' : decide (mid < m) = false := by simp; omega
  have hbds : mid < b ∧ a < mid ∧ m < b ∧ a ≤ s0 ∧ s0 ≤ r0 ∧ r0 ≤ m := by omega
  have hx0 : nn ≤ b + s0 ∧ r0 + m ≤ nn ∧ nn ≤ pp + 1 ∧ pp + 1 ≤ nn := by omega
  have HS0 := Lib.hid hs0
  have HR0 := Lib.hid hr0
  have Hgt := Lib.hid hgt
  clear HC0 hS hO hI hH hnn hmid hpp hma hbm hs0 hr0 hgt
  go_enter Tryz.func140, Tryz.ntmps140
  go_wp2
  go_loopw [20, 21] (fun v20 v21 wx => ∃ i j : Nat, s0 ≤ i ∧ i ≤ j ∧ j ≤ r0 ∧ v20 = .int .i64 i ∧ v21 = .int .i64 j ∧ (i = s0 ∨ key (d (i - 1)) ≤ key (d (pp - (i - 1)))) ∧ (j = r0 ∨ key (d (pp - j)) < key (d j)) ∧ SR w wx g sz n d) (fun v20 v21 _ => (intOf v21).toNat - (intOf v20).toNat)
  case atStart => exact ⟨s0, r0, Nat.le_refl _, hbds.2.2.2.2.1, Nat.le_refl _, by rw [HS0.out], by rw [HR0.out], .inl rfl, .inl rfl, HS.out⟩
  case round =>
    obtain ⟨i, j, hmi, hij0, hjb, rfl, rfl, hl, hr, hR⟩ := hrel
    have HL := Lib.hid hl
    have HR := Lib.hid hr
    clear hl hr
    by_cases hij : i < j
    · have f1 : decide ((i : Int) < (j : Int)) = true := by simp; omega
      obtain ⟨h, hh⟩ : ∃ h, h = (i + j) / 2 := ⟨_, rfl⟩
      have x1 : ((i : Int) + (j : Int)) / 2 = (h : Int) := by omega
      have q7 : IntKind.i64.wrap ((i : Int) + (j : Int)) = (i : Int) + (j : Int) := IntWalk.i64_in _ (by omega)
      have q8 : IntKind.u64.wrap ((i : Int) + (j : Int)) = (i : Int) + (j : Int) := IntWalk.u64_in _ (by omega)
      have q9 : IntKind.i64.wrap (h : Int) = (h : Int) := IntWalk.i64_in _ (by omega)
      have q10 : IntKind.i64.wrap ((h : Int) + 1) = (h : Int) + 1 := IntWalk.i64_in _ (by omega)
      obtain ⟨x, hx⟩ : ∃ x, x = pp - h := ⟨_, rfl⟩
      have x2 : (pp : Int) - (h : Int) = (x : Int) := by omega
      have q11 : IntKind.i64.wrap (x : Int) = (x : Int) := IntWalk.i64_in _ (by omega)
      have lh : h < n := by omega
      have lx : x < n := by omega
      have b1 : (h : Int) < (n : Int) := by omega
      have b2 : (0 : Int) ≤ (h : Int) := by omega
      have b3 : (x : Int) < (n : Int) := by omega
      have b4 : (0 : Int) ≤ (x : Int) := by omega
      have hih : i ≤ h ∧ h < j := by omega
      have ch := hR.cell lh
      have cx := hR.cell lx
      have o1 := HO.out h lh
      have o2 := HO.out x lx
      have hc := fun q => HC.out (wr.drewN q) (hR.drewN q).2 (d x) (d h) o2.1 o2.2 o1.1 o1.2
      have HRW := Lib.hid hR
      have Hx := Lib.hid hx
      obtain ⟨u, hu⟩ : ∃ u, u = d h := ⟨_, rfl⟩
      obtain ⟨v, hv⟩ : ∃ v, v = d x := ⟨_, rfl⟩
      rw [← hu] at ch hc
      rw [← hv] at cx hc
      obtain ⟨z, hz⟩ : ∃ z, z = cmpK key v u := ⟨_, rfl⟩
      have hzl : decide (z < 0) = decide (key v < key u) := by rw [hz]; exact cmpK_lt
      rw [← hz] at hc
      have HCC := Lib.hid hc
      have Hu := Lib.hid hu
      have Hv := Lib.hid hv
      by_cases hlt : key v < key u
      · rw [decide_eq_true hlt] at hzl
        have Hlt := Lib.hid hlt
        clear hlt hc hz hR hh o1 o2 hu hv hx
        go_wp2
        go_quiet (first | (go_at_call 98; exact Calls.quiet_of (HCC.out _)))
        go_wp2
        go_roundw
        case rel => exact ⟨i, h, by omega, by omega, by omega, rfl, rfl, HL.out, .inr (by rw [← Hx.out, ← Hu.out, ← Hv.out]; exact Hlt.out), HRW.out.drewN _⟩
        case measure => simp [intOf] <;> omega
      · rw [decide_eq_false hlt] at hzl
        have Hlt := Lib.hid (Int.not_lt.1 hlt)
        clear hlt hc hz hR hh o1 o2 hu hv hx
        go_wp2
        go_quiet (first | (go_at_call 98; exact Calls.quiet_of (HCC.out _)))
        go_wp2
        go_roundw
        case rel => exact ⟨h + 1, j, by omega, by omega, by omega, by go_num, rfl, .inr (by rw [Nat.add_sub_cancel, ← Hx.out, ← Hu.out, ← Hv.out]; exact Hlt.out), HR.out, HRW.out.drewN _⟩
        case measure => simp [intOf] <;> omega
    · obtain rfl : i = j := by omega
      have f1 : decide ((i : Int) < (i : Int)) = false := by simp
      obtain ⟨s, hs⟩ : ∃ s, s = i := ⟨_, rfl⟩
      rw [← hs] at hmi hjb HL HR hij f1 ⊢
      clear hs hij hij0
      obtain ⟨e, he⟩ : ∃ e, e = nn - s := ⟨_, rfl⟩
      have ee : (nn : Int) - (s : Int) = (e : Int) := by omega
      have qe : IntKind.i64.wrap (e : Int) = (e : Int) := IntWalk.i64_in _ (by omega)
      have hC : St.Cut key d a m b s e := by
        have := St.cut_search (mid := mid) (s0 := s0) (r0 := r0) (s := s) HH.out (by omega) (by omega) Hmid.out (.inr ⟨Hgt.out, HS0.out, HR0.out⟩) hmi hjb (by
          rcases HL.out with h | h
          · exact .inl h
          · right; rw [← Hnn.out, show nn - 1 = pp by omega]; exact Int.not_lt.2 h) (by
          rcases HR.out with h | h
          · exact .inl h
          · right; rw [← Hnn.out, show nn - 1 = pp by omega]; exact h)
        rw [← Hnn.out, ← he] at this
        exact this
      have hmid2 : mid = s + (e - m) := by have := hC.as; have := hC.sm; have := hC.me; have := Hnn.out; omega
      have c1 := hC.as
      have c2 := hC.sm
      have c3 := hC.me
      have c4 := hC.eb
      have HCut := Lib.hid hC
      obtain ⟨h1, h2⟩ := St.rot_halves HH.out hC hmid2
      have HH1 := Lib.hid h1
      have HH2 := Lib.hid h2
      have hok := HO.out.rot (a := s) c2 c3 (by omega)
      have IH1 := Lib.hid (fun W' hS (k1 : a < s) (k2 : s < mid) => HI.out a s mid (St.rotF d s m e) W' (by omega) hS hok h1 k1 k2 (by omega))
      have IH2 := Lib.hid (fun d2 (hM : St.Merged key (St.rotF d s m e) d2 a mid) W' hS (k1 : mid < e) (k2 : e < b) => HI.out mid e b d2 W' (by omega) hS (hok.merged hM (by omega)) (h2.later (fun x z1 z2 => St.merged_out hM x (.inr z1))) k1 k2 hbn)
      have HRot := Lib.hid (fun W' hS k1 k2 => HROT.out s e W' hS k1 k2 (by omega))
      have HD := Lib.hid hR
      clear hC h1 h2 hok he
      by_cases hsm : s < m
      · by_cases hme : m < e
        · by_cases k1 : a < s
          · by_cases k2 : e < b
            · skip
              have k_s_m : s < m := by omega
              have g_s_m : decide ((s : Int) < (m : Int)) = true := by simp; omega
              have k_m_e : m < e := by omega
              have g_m_e : decide ((m : Int) < (e : Int)) = true := by simp; omega
              have k_s_mid : s < mid := by omega
              have g_s_mid : decide ((s : Int) < (mid : Int)) = true := by simp; omega
              have k_mid_e : mid < e := by omega
              have g_mid_e : decide ((mid : Int) < (e : Int)) = true := by simp; omega
              have k_a_s : a < s := by omega
              have g_a_s : decide ((a : Int) < (s : Int)) = true := by simp; omega
              have k_e_b : e < b := by omega
              have g_e_b : decide ((e : Int) < (b : Int)) = true := by simp; omega
              have Hm2 := Lib.hid hmid2
              clear hR hmid2
              go_wp2_with (first | (go_at_call 158; refine (HRot.out _ HD.out k_s_m k_m_e).mono ?_; rintro e5 w5 ⟨rfl, hS5⟩) | (go_at_call 140; ((with_reducible refine (IH1.out _ hS5 k_a_s k_s_mid).mono ?_); rintro e6 w6 ⟨rfl, d2, hS6, hM1⟩)) | (go_at_call 140; ((with_reducible refine (IH2.out _ hM1 _ hS6 k_mid_e k_e_b).mono ?_); rintro e7 w7 ⟨rfl, d3, hS7, hM2⟩)))
              go_end0
              exact ⟨rfl, d3, hS7, St.merged_all HH.out HCut.out Hm2.out hM1 hM2⟩
            · skip
              have k_s_m : s < m := by omega
              have g_s_m : decide ((s : Int) < (m : Int)) = true := by simp; omega
              have k_m_e : m < e := by omega
              have g_m_e : decide ((m : Int) < (e : Int)) = true := by simp; omega
              have k_s_mid : s < mid := by omega
              have g_s_mid : decide ((s : Int) < (mid : Int)) = true := by simp; omega
              have k_mid_e : mid < e := by omega
              have g_mid_e : decide ((mid : Int) < (e : Int)) = true := by simp; omega
              have k_a_s : a < s := by omega
              have g_a_s : decide ((a : Int) < (s : Int)) = true := by simp; omega
              have k_e_b : ¬ e < b := by omega
              have g_e_b : decide ((e : Int) < (b : Int)) = false := by simp; omega
              have Z7 := Lib.hid (show mid = e ∨ e = b from (.inr (by omega)))
              have Hm2 := Lib.hid hmid2
              clear hR hmid2
              go_wp2_with (first | (go_at_call 158; refine (HRot.out _ HD.out k_s_m k_m_e).mono ?_; rintro e5 w5 ⟨rfl, hS5⟩) | (go_at_call 140; ((with_reducible refine (IH1.out _ hS5 k_a_s k_s_mid).mono ?_); rintro e6 w6 ⟨rfl, d2, hS6, hM1⟩)))
              go_end0
              exact ⟨rfl, _, hS6, St.merged_all HH.out HCut.out Hm2.out hM1 (St.merged_self ((HH2.out.later (fun x h1 h2 => (St.merged_out hM1 x (.inr h1)))) ) Z7.out)⟩
          · by_cases k2 : e < b
            · skip
              have k_s_m : s < m := by omega
              have g_s_m : decide ((s : Int) < (m : Int)) = true := by simp; omega
              have k_m_e : m < e := by omega
              have g_m_e : decide ((m : Int) < (e : Int)) = true := by simp; omega
              have k_s_mid : s < mid := by omega
              have g_s_mid : decide ((s : Int) < (mid : Int)) = true := by simp; omega
              have k_mid_e : mid < e := by omega
              have g_mid_e : decide ((mid : Int) < (e : Int)) = true := by simp; omega
              have k_a_s : ¬ a < s := by omega
              have g_a_s : decide ((a : Int) < (s : Int)) = false := by simp; omega
              have k_e_b : e < b := by omega
              have g_e_b : decide ((e : Int) < (b : Int)) = true := by simp; omega
              have HM1 := Lib.hid (St.merged_self HH1.out (.inl (by omega)))
              have Hm2 := Lib.hid hmid2
              clear hR hmid2
              go_wp2_with (first | (go_at_call 158; refine (HRot.out _ HD.out k_s_m k_m_e).mono ?_; rintro e5 w5 ⟨rfl, hS5⟩) | (go_at_call 140; ((with_reducible refine (IH2.out _ HM1.out _ hS5 k_mid_e k_e_b).mono ?_); rintro e7 w7 ⟨rfl, d3, hS7, hM2⟩)))
              go_end0
              exact ⟨rfl, d3, hS7, St.merged_all HH.out HCut.out Hm2.out HM1.out hM2⟩
            · skip
              have k_s_m : s < m := by omega
              have g_s_m : decide ((s : Int) < (m : Int)) = true := by simp; omega
              have k_m_e : m < e := by omega
              have g_m_e : decide ((m : Int) < (e : Int)) = true := by simp; omega
              have k_s_mid : s < mid := by omega
              have g_s_mid : decide ((s : Int) < (mid : Int)) = true := by simp; omega
              have k_mid_e : mid < e := by omega
              have g_mid_e : decide ((mid : Int) < (e : Int)) = true := by simp; omega
              have k_a_s : ¬ a < s := by omega
              have g_a_s : decide ((a : Int) < (s : Int)) = false := by simp; omega
              have k_e_b : ¬ e < b := by omega
              have g_e_b : decide ((e : Int) < (b : Int)) = false := by simp; omega
              have HM1 := Lib.hid (St.merged_self HH1.out (.inl (by omega)))
              have Z7 := Lib.hid (show mid = e ∨ e = b from (.inr (by omega)))
              have Hm2 := Lib.hid hmid2
              clear hR hmid2
              go_wp2_with (first | (go_at_call 158; refine (HRot.out _ HD.out k_s_m k_m_e).mono ?_; rintro e5 w5 ⟨rfl, hS5⟩))
              go_end0
              exact ⟨rfl, _, hS5, St.merged_all HH.out HCut.out Hm2.out HM1.out (St.merged_self ((HH2.out.later (fun x h1 h2 => (St.merged_out HM1.out x (.inr h1)))) ) Z7.out)⟩
        · exact absurd hmid2 (by have := Hgt.out; omega)
      · by_cases hme : m < e
        · skip
          have k_s_m : ¬ s < m := by omega
          have g_s_m : decide ((s : Int) < (m : Int)) = false := by simp; omega
          have k_a_s : a < s := by omega
          have g_a_s : decide ((a : Int) < (s : Int)) = true := by simp; omega
          have k_mid_e : ¬ mid < e := by omega
          have g_mid_e : decide ((mid : Int) < (e : Int)) = false := by simp; omega
          have k_s_mid : s < mid := by omega
          have g_s_mid : decide ((s : Int) < (mid : Int)) = true := by simp; omega
          have hS5 : SR w wr g sz n (St.rotF d s m e) := by rw [show s = m by omega, St.rotF_left]; exact HD.out
          have Z7 := Lib.hid (show mid = e ∨ e = b from (.inl (by omega)))
          have Hm2 := Lib.hid hmid2
          clear hR hmid2
          go_wp2_with (first | (go_at_call 140; ((with_reducible refine (IH1.out _ hS5 k_a_s k_s_mid).mono ?_); rintro e6 w6 ⟨rfl, d2, hS6, hM1⟩)))
          go_end0
          exact ⟨rfl, _, hS6, St.merged_all HH.out HCut.out Hm2.out hM1 (St.merged_self ((HH2.out.later (fun x h1 h2 => (St.merged_out hM1 x (.inr h1)))) ) Z7.out)⟩
        · skip
          have k_s_m : ¬ s < m := by omega
          have g_s_m : decide ((s : Int) < (m : Int)) = false := by simp; omega
          have k_a_s : a < s := by omega
          have g_a_s : decide ((a : Int) < (s : Int)) = true := by simp; omega
          have k_mid_e : ¬ mid < e := by omega
          have g_mid_e : decide ((mid : Int) < (e : Int)) = false := by simp; omega
          have k_s_mid : ¬ s < mid := by omega
          have g_s_mid : decide ((s : Int) < (mid : Int)) = false := by simp; omega
          have hS5 : SR w wr g sz n (St.rotF d s m e) := by rw [show s = m by omega, St.rotF_left]; exact HD.out
          have HM1 := Lib.hid (St.merged_self HH1.out (.inr (by omega)))
          have Z7 := Lib.hid (show mid = e ∨ e = b from (.inl (by omega)))
          have Hm2 := Lib.hid hmid2
          clear hR hmid2
          go_wp2
          go_end0
          exact ⟨rfl, _, hS5, St.merged_all HH.out HCut.out Hm2.out HM1.out (St.merged_self ((HH2.out.later (fun x h1 h2 => (St.merged_out HM1.out x (.inr h1)))) ) Z7.out)⟩

/-- The merge, at every segment. -/
theorem symMerge_any (w : World) (g sz n c : Nat) (key : Int → Int) (cb : Value) (HC0 : CmpOK w g key cb) (hsz : n ≤ sz) (hn : n ≤ 1000000) : ∀ (N a m b : Nat) (d : Nat → Int) (W : World), b - a < N → SR w W g sz n d → OkRow d n → St.Halves key d a m b → a < m → m < b → b ≤ n →
    Calls Tryz.prog 140 #[.slice (some ⟨g, 0, none⟩) n c, .int .i64 a, .int .i64 m, .int .i64 b, .func (.func 98) #[] #[cb]] W fun e w' => e = .returned (.tuple #[]) ∧ ∃ d', SR w w' g sz n d' ∧ St.Merged key d d' a b
  | 0, _, _, _, _, _, h, _, _, _, _, _, _ => absurd h (by omega)
  | N + 1, a, m, b, d, W, hN, hS, hO, hH, ham, hmb, hb => by
    by_cases h1 : m = a + 1
    · refine (sym_first w W g sz n c a m b d key cb HC0 hS hsz hn hO h1 hmb hb).mono fun e w' h => ?_
      obtain ⟨he, i, i1, i2, i3, i4, hS'⟩ := h
      subst h1
      exact ⟨he, _, hS', St.insert_first hH i1 i2 i3 (i4.imp id Int.not_lt.2)⟩
    · by_cases h2 : b = m + 1
      · refine (sym_last w W g sz n c a m b d key cb HC0 hS hsz hn hO h2 (by omega) hb).mono fun e w' h => ?_
        obtain ⟨he, i, i1, i2, i3, i4, hS'⟩ := h
        subst h2
        exact ⟨he, _, hS', St.insert_last hH i1 i2 (i3.imp id Int.not_lt.2) i4⟩
      · have hI : ∀ (a' m' b' : Nat) (d' : Nat → Int) (W' : World), b' - a' < b - a → SR w W' g sz n d' → OkRow d' n → St.Halves key d' a' m' b' → a' < m' → m' < b' → b' ≤ n → _ := fun a' m' b' d' W' hlt hS' hO' hH' h3 h4 h5 => symMerge_any w g sz n c key cb HC0 hsz hn N a' m' b' d' W' (by omega) hS' hO' hH' h3 h4 h5
        by_cases h3 : (a + b) / 2 < m
        · exact sym_hi w W g sz n c a m b d key cb HC0 hS hsz hn hO hH (by omega) (by omega) hb _ _ _ _ _ rfl rfl rfl h3 rfl rfl hI
        · exact sym_lo w W g sz n c a m b d key cb HC0 hS hsz hn hO hH (by omega) (by omega) hb _ _ _ _ _ rfl rfl rfl (by omega) rfl rfl hI
end Go.Proofs.YtgcddjgkieambaaGreatDoor
