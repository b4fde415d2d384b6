/- The walks of both readings of a number: 'figure', the reference's 'Number', 'Number' and its function. -/
import Derived.Test.YtgcddjgkieambaaGreatDoorReadP
import Derived.Test.YtgcddjgkieambaaGreatDoorLinA
import Derived.Shelf.Strings.SlTrimAscii
import Derived.Lib.ConvBytes
set_option linter.unusedVariables false
set_option linter.unusedSimpArgs false
namespace Go.Proofs.YtgcddjgkieambaaGreatDoor
open Go.RowKit Go.Shelf

theorem modeY {m : Int} (h : isMode m) (w : World) : Calls Tryz.prog 88 #[.int .i64 m] w fun e w' => e = .returned (.bool true) ∧ w = w' := by
  have e : (decide (1 ≤ m) && decide (m ≤ 3)) = true := by have h' : m = 1 ∨ m = 2 ∨ m = 3 := h; simp; omega
  have := ref_isMode m w
  rwa [e] at this
theorem modeN {m : Int} (h : ¬ isMode m) (w : World) : Calls Tryz.prog 88 #[.int .i64 m] w fun e w' => e = .returned (.bool false) ∧ w = w' := by
  have e : (decide (1 ≤ m) && decide (m ≤ 3)) = false := by
    have h' : ¬ (m = 1 ∨ m = 2 ∨ m = 3) := h
    rw [Bool.and_eq_false_iff, decide_eq_false_iff_not, decide_eq_false_iff_not]; omega
  have := ref_isMode m w
  rwa [e] at this
/-- The figure that a byte's number stands for, or -1. -/
def figZ (m z : Int) : Int := if 48 ≤ z ∧ z ≤ 57 then z - 48 else if m = 1 ∧ z = 84 then 0 else if m = 1 ∧ z = 65 then 1 else if m = 1 ∧ z = 78 then 9 else -1
theorem figI_figZ (m : Int) (c : UInt8) : figZ m (c.toNat : Int) = figI m c := by
  by_cases hm : m = 1
  · subst hm
    have : (List.range 256).all (fun n => decide (figZ 1 ((UInt8.ofNat n).toNat : Int) = figI 1 (UInt8.ofNat n))) = true := by decide +kernel
    have h1 := of_decide_eq_true (List.all_eq_true.1 this c.toNat (List.mem_range.2 c.toNat_lt))
    rwa [UInt8.ofNat_toNat] at h1
  · unfold figZ figI readF
    rw [if_neg (show ¬ (m = 1 ∧ (c.toNat : Int) = 84) from fun h => hm h.1), if_neg (show ¬ (m = 1 ∧ (c.toNat : Int) = 65) from fun h => hm h.1), if_neg (show ¬ (m = 1 ∧ (c.toNat : Int) = 78) from fun h => hm h.1), if_neg hm]
    by_cases hd : isDig c = true
    · rw [if_pos hd, if_pos (by have := isDig_iff.1 hd; omega)]
    · rw [if_neg hd, if_neg (fun h => hd (isDig_iff.2 (by omega)))]

set_option maxRecDepth 100000 in
set_option maxHeartbeats 4000000 in
theorem ref_figure (m z : Int) (w : World) (h0 : 0 ≤ z) (h9 : z ≤ 255) : Calls Tryz.prog 107 #[.int .i64 m, .int .u8 z] w fun e w' => e = .returned (.int .i64 (figZ m z)) ∧ w = w' := by
  by_cases h1 : 48 ≤ z
  · have d1 : decide (z ≥ 48) = true := by simpa using h1
    have d1' : decide (48 ≤ z) = true := by simpa using h1
    by_cases h2 : z ≤ 57
    · have d2 : decide (z ≤ 57) = true := by simpa using h2
      have q1 : IntKind.u8.wrap (z - 48) = z - 48 := IntWalk.u8_in _ (by omega)
      have q2 : IntKind.i64.wrap (z - 48) = z - 48 := IntWalk.i64_in _ (by omega)
      rw [show figZ m z = z - 48 by unfold figZ; rw [if_pos ⟨h1, h2⟩]]
      clear h1 h2 h0 h9
      go_enter Tryz.func107, Tryz.ntmps107
      go_wp2
      go_ret
      exact ⟨rfl, rfl⟩
    · have d2 : decide (z ≤ 57) = false := by simpa using h2
      by_cases hm : m = 1
      · subst hm
        have e0 : figZ 1 z = if z = 84 then 0 else if z = 65 then 1 else if z = 78 then 9 else -1 := by unfold figZ; simp [h2]
        rw [e0]
        clear e0 h1 h2 h0 h9
        by_cases c1 : z = 84
        · subst c1
          go_enter Tryz.func107, Tryz.ntmps107
          go_wp2
          go_ret
          exact ⟨rfl, rfl⟩
        · by_cases c2 : z = 65
          · subst c2
            go_enter Tryz.func107, Tryz.ntmps107
            go_wp2
            go_ret
            exact ⟨rfl, rfl⟩
          · by_cases c3 : z = 78
            · subst c3
              go_enter Tryz.func107, Tryz.ntmps107
              go_wp2
              go_ret
              exact ⟨rfl, rfl⟩
            · have k1 : (z == 84) = false := by simpa using c1
              have k2 : (z == 65) = false := by simpa using c2
              have k3 : (z == 78) = false := by simpa using c3
              rw [if_neg c1, if_neg c2, if_neg c3]
              clear c1 c2 c3
              go_enter Tryz.func107, Tryz.ntmps107
              go_wp2
              go_ret
              exact ⟨rfl, rfl⟩
      · have k0 : (m == 1) = false := by simpa using hm
        rw [show figZ m z = -1 by unfold figZ; rw [if_neg (by omega), if_neg (fun h => hm h.1), if_neg (fun h => hm h.1), if_neg (fun h => hm h.1)]]
        clear hm h1 h2 h0 h9
        go_enter Tryz.func107, Tryz.ntmps107
        go_wp2
        go_ret
        exact ⟨rfl, rfl⟩
  · have d1 : decide (z ≥ 48) = false := by simpa using h1
    have d1' : decide (48 ≤ z) = false := by simpa using h1
    have k1 : (z == 84) = false := by simp; omega
    have k2 : (z == 65) = false := by simp; omega
    have k3 : (z == 78) = false := by simp; omega
    rw [show figZ m z = -1 by unfold figZ; rw [if_neg (by omega), if_neg (by omega), if_neg (by omega), if_neg (by omega)]]
    clear h1 h0 h9
    by_cases hm : m = 1
    · subst hm
      go_enter Tryz.func107, Tryz.ntmps107
      go_wp2
      go_ret
      exact ⟨rfl, rfl⟩
    · have k0 : (m == 1) = false := by simpa using hm
      clear hm
      go_enter Tryz.func107, Tryz.ntmps107
      go_wp2
      go_ret
      exact ⟨rfl, rfl⟩

/-- The list of the bytes as they are read. -/
def rdL (m : Int) (s : ByteArray) : List UInt8 := (readB m s).data.toList
theorem rdL_length (m : Int) (s : ByteArray) : (rdL m s).length = s.size := by unfold rdL; rw [← size_list, readB_size]
theorem rdL_fig (m : Int) (s : ByteArray) (k : Nat) (h : k < s.size) (h' : k < (rdL m s).length) : figZ m ((s[k]'h).toNat : Int) = if isDig ((rdL m s)[k]'h') then (((rdL m s)[k]'h').toNat : Int) - 48 else -1 := by
  have e : (rdL m s)[k]'h' = readF m (s[k]'h) := by
    unfold rdL
    simp only [readB_list, List.getElem_map]
    rfl
  rw [figI_figZ, e]
  rfl
theorem rdL_dig (m : Int) (s : ByteArray) : digB (readB m s) = (rdL m s).all isDig := rfl

set_option maxRecDepth 100000 in
set_option maxHeartbeats 4000000 in
theorem refNumber_loop (m : Int) (s : ByteArray) (w : World) (hm : isMode m) (h1 : 1 ≤ s.size) (h5 : s.size ≤ 5) : Calls Tryz.prog 61 #[.int .i64 m, .string s] w fun e w' => e = .returned (.tuple #[.int .i64 (nuV m s), .int .i64 (nuE m s)]) ∧ w = w' := by
  have HI := Lib.hid (fun W => modeY hm W)
  have HF := Lib.hid (fun z W h0 h9 => ref_figure m z W h0 h9)
  obtain ⟨V, hV⟩ : ∃ V, V = nuV m s := ⟨_, rfl⟩
  obtain ⟨E, hE⟩ : ∃ E, E = nuE m s := ⟨_, rfl⟩
  rw [← hV, ← hE]
  have HE := Lib.hid (show E = if digB (readB m s) = false then 1 else 0 by
    rw [hE]; unfold nuE; rw [if_neg (show ¬ ¬ (m = 1 ∨ m = 2 ∨ m = 3) from fun e => e hm)]
    by_cases hd : digB (readB m s) = false
    · rw [if_pos (.inr (.inr hd)), if_pos hd]
    · rw [if_neg hd, if_neg (by intro h; rcases h with h | h | h <;> first | omega | exact hd h)])
  have HV := Lib.hid (show V = if E = 0 then (valD (rdL m s) : Int) else 0 by rw [hV, hE]; rfl)
  have d1 : decide ((s.size : Int) < 1) = false := by simp; omega
  have d2 : decide ((s.size : Int) > 5) = false := by simp; omega
  have d2' : decide (5 < (s.size : Int)) = false := by simp; omega
  clear hm hV hE
  go_enter Tryz.func61, Tryz.ntmps61
  go_wp2_with (go_at_call 88; refine (HI.out _).mono ?_; rintro e w1 ⟨rfl, rfl⟩)
  go_loop [6, 7] (fun v6 v7 => ∃ k : Nat, k ≤ s.size ∧ v7 = .int .i64 k ∧ v6 = .int .i64 (valD ((rdL m s).take k) : Nat) ∧ ((rdL m s).take k).all isDig = true) (fun _ v7 => s.size - (intOf v7).toNat)
  case atStart => exact ⟨0, by omega, rfl, rfl, rfl⟩
  case round =>
    obtain ⟨k, hk, rfl, rfl, hall⟩ := hrel
    by_cases hlt : k < s.size
    · have f1 : decide ((k : Int) < (s.size : Int)) = true := by simp; omega
      have f2 : (k : Int) < (s.size : Int) := by omega
      have f3 : (0 : Int) ≤ (k : Int) := by omega
      have q1 : IntKind.i64.wrap ((k : Int) + 1) = (k : Int) + 1 := IntWalk.i64_in _ (by omega)
      have hl : k < (rdL m s).length := by rw [rdL_length]; exact hlt
      have hfz := rdL_fig m s k hlt hl
      have hu : (s[k]'hlt).toNat < 256 := (s[k]'hlt).toNat_lt
      have HG := Lib.hid (fun W => HF.out ((s[k]'hlt).toNat : Int) W (by omega) (by omega))
      rw [hfz] at HG
      have hnx := valD_take (rdL m s) k hl
      have hbd := valD_lt 4 ((rdL m s).take k) (by rw [List.length_take]; omega) (fun c hc => (isDig_iff.1 (List.all_eq_true.1 hall c hc)).2)
      have hax : ((rdL m s).take (k + 1)).all isDig = (((rdL m s).take k).all isDig && isDig ((rdL m s)[k]'hl)) := by
        rw [List.take_add_one, List.getElem?_eq_getElem hl, List.all_append]; simp
      obtain ⟨x, hx⟩ : ∃ x, x = (rdL m s)[k]'hl := ⟨_, rfl⟩
      rw [← hx] at HG hnx hax
      obtain ⟨n, hn⟩ : ∃ n, n = valD ((rdL m s).take k) := ⟨_, rfl⟩
      rw [← hn] at hnx hbd ⊢
      by_cases hd : isDig x = true
      · have hxd := isDig_iff.1 hd
        rw [if_pos hd] at HG
        have Hax := Lib.hid (show ((rdL m s).take (k + 1)).all isDig = true by rw [hax, hall, hd]; rfl)
        obtain ⟨d, hdd⟩ : ∃ d : Int, d = (x.toNat : Int) - 48 := ⟨_, rfl⟩
        rw [← hdd] at HG
        have g0 : decide (d < 0) = false := by simp; omega
        have q2 : IntKind.i64.wrap (10 * (n : Int)) = 10 * (n : Int) := IntWalk.i64_in _ (by omega)
        have q3 : IntKind.i64.wrap (10 * (n : Int) + d) = 10 * (n : Int) + d := IntWalk.i64_in _ (by omega)
        have Hnx := Lib.hid (show (valD ((rdL m s).take (k + 1)) : Int) = 10 * (n : Int) + d by rw [hnx]; omega)
        clear hnx hbd hax hx hn hxd hd hdd hall hfz hu hl
        go_wp2_with (go_at_call 107; refine (HG.out _).mono ?_; rintro e w1 ⟨rfl, rfl⟩)
        go_round
        case rel => exact ⟨k + 1, by omega, by go_num, by rw [Hnx.out], Hax.out⟩
        case measure => simp [intOf] <;> omega
      · rw [if_neg hd] at HG
        have hno : digB (readB m s) = false := by
          rw [rdL_dig, List.all_eq_false]
          exact ⟨x, hx ▸ List.getElem_mem _, hd⟩
        have he : E = 1 := by rw [HE.out, if_pos hno]
        have hv : V = 0 := by rw [HV.out, if_neg (by omega)]
        subst he
        subst hv
        clear hnx hbd hax hx hn hd hall hfz hu hl hno HE HV
        go_wp2_with (go_at_call 107; refine (HG.out _).mono ?_; rintro e w1 ⟨rfl, rfl⟩)
        go_ret2
        exact ⟨rfl, rfl⟩
    · obtain rfl : k = s.size := by omega
      have f1 : decide ((s.size : Int) < (s.size : Int)) = false := by simp
      have htk : (rdL m s).take s.size = rdL m s := List.take_of_length_le (by rw [rdL_length]; omega)
      rw [htk] at hall ⊢
      have he : E = 0 := by rw [HE.out, rdL_dig, hall]; rfl
      have hv : V = (valD (rdL m s) : Int) := by rw [HV.out, if_pos he]
      subst he
      have Hv := Lib.hid hv
      clear hv hall htk HE HV
      generalize valD (rdL m s) = n at Hv
      go_wp2
      go_ret2
      exact ⟨by rw [Hv.out]; rfl, rfl⟩

set_option maxRecDepth 100000 in
set_option maxHeartbeats 4000000 in
theorem refNumber_any (m : Int) (s : ByteArray) (w : World) : Calls Tryz.prog 61 #[.int .i64 m, .string s] w fun e w' => e = .returned (.tuple #[.int .i64 (nuV m s), .int .i64 (nuE m s)]) ∧ w = w' := by
  by_cases hm : isMode m
  · by_cases h : 1 ≤ s.size ∧ s.size ≤ 5
    · exact refNumber_loop m s w hm h.1 h.2
    · have HI := Lib.hid (fun W => modeY hm W)
      have e1 : nuE m s = 1 := by unfold nuE; rw [if_neg (fun e => e hm), if_pos (by omega)]
      have e2 : nuV m s = 0 := by unfold nuV; rw [e1]; rfl
      rw [e1, e2]
      by_cases h1 : s.size < 1
      · have d1 : decide ((s.size : Int) < 1) = true := by simp; omega
        clear e1 e2 h h1 hm
        go_enter Tryz.func61, Tryz.ntmps61
        go_wp2_with (go_at_call 88; refine (HI.out _).mono ?_; rintro e w1 ⟨rfl, rfl⟩)
        go_ret2
        exact ⟨rfl, rfl⟩
      · have d1 : decide ((s.size : Int) < 1) = false := by simp; omega
        have d2 : decide ((s.size : Int) > 5) = true := by simp; omega
        have d2' : decide (5 < (s.size : Int)) = true := by simp; omega
        clear e1 e2 h h1 hm
        go_enter Tryz.func61, Tryz.ntmps61
        go_wp2_with (go_at_call 88; refine (HI.out _).mono ?_; rintro e w1 ⟨rfl, rfl⟩)
        go_ret2
        exact ⟨rfl, rfl⟩
  · have HI := Lib.hid (fun W => modeN hm W)
    have e1 : nuE m s = 40 := by unfold nuE; rw [if_pos (show ¬ (m = 1 ∨ m = 2 ∨ m = 3) from hm)]
    have e2 : nuV m s = 0 := by unfold nuV; rw [e1]; rfl
    rw [e1, e2]
    clear e1 e2 hm
    go_enter Tryz.func61, Tryz.ntmps61
    go_wp2_with (go_at_call 88; refine (HI.out _).mono ?_; rintro e w1 ⟨rfl, rfl⟩)
    go_ret2
    exact ⟨rfl, rfl⟩

/-- What is no figure. -/
def noFig (x : Nat) : Bool := decide (x < 48) || decide (57 < x)
theorem noFig_at (w : World) : PredAt Tryz.prog 105 #[] encR noFig w := fun W x _ => by
  show Calls Tryz.prog 105 #[.int .i32 (x : Int)] W fun e w' => e = .returned (.bool (noFig x)) ∧ ∃ q, w' = W.drewN q
  by_cases h : x < 48
  · have d1 : decide ((x : Int) < 48) = true := by simp; omega
    rw [show noFig x = true by unfold noFig; rw [decide_eq_true h]; rfl]
    clear h
    go_enter Tryz.func105, Tryz.ntmps105
    go_wp2
    go_ret
    exact ⟨rfl, 0, rfl⟩
  · have d1 : decide ((x : Int) < 48) = false := by simp; omega
    by_cases h2 : 57 < x
    · have d2 : decide ((x : Int) > 57) = true := by simp; omega
      have d2' : decide (57 < (x : Int)) = true := by simp; omega
      rw [show noFig x = true by unfold noFig; rw [decide_eq_true h2, Bool.or_true]]
      clear h h2
      go_enter Tryz.func105, Tryz.ntmps105
      go_wp2
      go_ret
      exact ⟨rfl, 0, rfl⟩
    · have d2 : decide ((x : Int) > 57) = false := by simp; omega
      have d2' : decide (57 < (x : Int)) = false := by simp; omega
      rw [show noFig x = false by unfold noFig; rw [decide_eq_false h2, decide_eq_false h]; rfl]
      clear h h2
      go_enter Tryz.func105, Tryz.ntmps105
      go_wp2
      go_ret
      exact ⟨rfl, 0, rfl⟩
theorem idx_figs (s : ByteArray) (h : digB s = true) : ∀ f pos, Lib.idxFuncFrom noFig true s f pos = -1
  | 0, _ => rfl
  | f + 1, pos => by
    unfold Lib.idxFuncFrom
    split
    · rename_i hp
      have hm : (s[pos]'hp) ∈ s.data.toList := List.getElem_mem (l := s.data.toList) (by simpa using hp)
      have hd := digB_mem h _ hm
      rw [decode_ascii s pos hp (by omega)]
      rw [if_neg (show ¬ noFig (s[pos]'hp).toNat = true by unfold noFig; simp; omega)]
      exact idx_figs s h f _
    · rfl

theorem pairsN (w : World) : Pairs (w.alloc (.cells #[.string ⟨#[84]⟩, .string ⟨#[48]⟩, .string ⟨#[65]⟩, .string ⟨#[49]⟩, .string ⟨#[78]⟩, .string ⟨#[57]⟩] 9)) w.heap.size pN qN := by
  have hB := Blk.new w 9 #[.string ⟨#[84]⟩, .string ⟨#[48]⟩, .string ⟨#[65]⟩, .string ⟨#[49]⟩, .string ⟨#[78]⟩, .string ⟨#[57]⟩]
  exact ⟨hB.lt, fun k hk => by
    match k, hk with
    | 0, _ => exact ⟨hB.cell 0, hB.cell 1⟩
    | 1, _ => exact ⟨hB.cell 2, hB.cell 3⟩
    | 2, _ => exact ⟨hB.cell 4, hB.cell 5⟩⟩
theorem short_any (m : Int) (s : ByteArray) (g0 c0 : Nat) (w : World) (hs : s.size ≤ 9223372036854775806) (hp : Pairs w g0 pN qN) :
    Calls Tryz.prog 100 #[.int .i64 m, .string s, .slice (some ⟨g0, 0, none⟩) 6 c0] w fun e w' => e = .returned (.string (readB m s)) ∧ Below w.heap.size w w' := by
  unfold readB
  by_cases hm : m = 1
  · subst hm
    rw [if_pos rfl]
    exact short_ok s g0 c0 pN qN w hs hp
  · rw [if_neg hm]
    exact (short_no m s _ w hm).mono fun e w' h => ⟨h.1, h.2 ▸ Below.refl _ _⟩
theorem below_bytesW (w : World) (s : ByteArray) : Below w.heap.size w (Lib.bytesWorld w 5 s) := ⟨rfl, rfl, rfl, by rw [Lib.bytesWorld_size]; omega, fun k hk => Lib.bytesWorld_at_old w 5 s k (by omega)⟩
def figB : ByteArray := ⟨#[48, 49, 50, 51, 52, 53, 54, 55, 56, 57]⟩
theorem trim_any (s : ByteArray) (w : World) (hs : s.size ≤ 9223372036854775807) :
    Calls Tryz.prog 103 #[.string s, .string ⟨#[48, 49, 50, 51, 52, 53, 54, 55, 56, 57]⟩] w fun e w' => e = .returned (.string ⟨(Lib.trimS s.data.toList figs).toArray⟩) ∧ Below w.heap.size w w' :=
  Any.strings_Trim_laid Tryz.lays160 (by kernel_rfl) s ⟨#[48, 49, 50, 51, 52, 53, 54, 55, 56, 57]⟩ w hs (by decide) (ascii_of_all (by decide))

set_option maxRecDepth 100000 in
set_option maxHeartbeats 4000000 in
theorem Number_any (m : Int) (s : ByteArray) (w : World) (hs : s.size ≤ 1000000) : Calls Tryz.prog 60 #[.int .i64 m, .string s] w fun e w' => e = .returned (.tuple #[.int .i64 (nuV m s), .int .i64 (nuE m s)]) ∧ Below w.heap.size w w' := by
  by_cases hm : isMode m
  · have Hm := Lib.hid hm
    have HS := Lib.hid (fun g0 c0 W (hp : Pairs W g0 pN qN) => short_any m s g0 c0 W (by omega) hp)
    have hz := readB_size m s
    have hE : nuE m s = if s.size < 1 ∨ 5 < s.size ∨ digB (readB m s) = false then 1 else 0 := by unfold nuE; rw [if_neg (show ¬ ¬ (m = 1 ∨ m = 2 ∨ m = 3) from fun e => e hm)]
    have hV : nuV m s = if nuE m s = 0 then (valD (readB m s).data.toList : Int) else 0 := rfl
    rw [hV, hE]
    rw [← hz]
    rw [← hz] at hs
    generalize readB m s = d at HS hs ⊢
    clear hV hE hz hm
    by_cases h1 : d.size < 1
    · have d1 : decide ((d.size : Int) < 1) = true := by simp; omega
      rw [if_pos (Or.inl h1), if_neg (by decide)]
      clear h1 hs
      go_enter Tryz.func60, Tryz.ntmps60
      go_wp2_with (first
        | (go_at_call 87; refine (waysT m _ Hm.out).mono ?_; rintro e w1 ⟨T, x, rfl, hC, hb1⟩)
        | (go_at_call 100; refine (HS.out _ _ _ (pairsN _)).mono ?_; rintro e w2 ⟨rfl, hb2⟩))
      go_ret2
      exact ⟨rfl, (hb1.alloc hb1.size _).trans (hb2.mono (by have := hb1.size; simp; omega))⟩
    · have d1 : decide ((d.size : Int) < 1) = false := by simp; omega
      by_cases h5 : 5 < d.size
      · have d2 : decide ((d.size : Int) > 5) = true := by simp; omega
        have d2' : decide (5 < (d.size : Int)) = true := by simp; omega
        rw [if_pos (Or.inr (Or.inl h5)), if_neg (by decide)]
        clear h1 h5 hs
        go_enter Tryz.func60, Tryz.ntmps60
        go_wp2_with (first
          | (go_at_call 87; refine (waysT m _ Hm.out).mono ?_; rintro e w1 ⟨T, x, rfl, hC, hb1⟩)
          | (go_at_call 100; refine (HS.out _ _ _ (pairsN _)).mono ?_; rintro e w2 ⟨rfl, hb2⟩))
        go_ret2
        exact ⟨rfl, (hb1.alloc hb1.size _).trans (hb2.mono (by have := hb1.size; simp; omega))⟩
      · have d2 : decide ((d.size : Int) > 5) = false := by simp; omega
        have d2' : decide (5 < (d.size : Int)) = false := by simp; omega
        have HT := Lib.hid (fun W => trim_any d W (by omega))
        cases hd : digB d
        · rw [if_pos (Or.inr (Or.inr rfl)), if_neg (by decide)]
          have hne := trim_not (l := d.data.toList) hd
          generalize Lib.trimS d.data.toList figs = r at HT hne
          obtain ⟨b, t, rfl⟩ := List.exists_cons_of_ne_nil hne
          have n0 : (⟨(b :: t).toArray⟩ : ByteArray) ≠ ⟨#[]⟩ := fun e => by have := congrArg (fun s : ByteArray => s.data.toList) e; simp at this
          have n1 := bytes_ne' n0
          have n2 : ((⟨(b :: t).toArray⟩ : ByteArray) != ⟨#[]⟩) = true := by rw [bne, n1]; rfl
          have n3 := bytes_ne n0
          have n4 : (⟨(b :: t).toArray⟩ : ByteArray).toList.isEmpty = false := by rw [Lib.toList_data]; rfl
          generalize (⟨(b :: t).toArray⟩ : ByteArray) = r at HT n1 n2 n3 n4
          clear h1 h5 hs hd hne n0
          go_enter Tryz.func60, Tryz.ntmps60
          go_wp2_with (first
            | (go_at_call 87; refine (waysT m _ Hm.out).mono ?_; rintro e w1 ⟨T, x, rfl, hC, hb1⟩)
            | (go_at_call 100; refine (HS.out _ _ _ (pairsN _)).mono ?_; rintro e w2 ⟨rfl, hb2⟩; have hb2 := (hb1.alloc hb1.size _).trans (hb2.mono (by have := hb1.size; simp; omega)))
            | (go_at_call 103; refine (HT.out _).mono ?_; rintro e w3 ⟨rfl, hb3⟩; have hb3 := below_trans' hb2 hb3))
          go_ret2
          exact ⟨rfl, hb3⟩
        · rw [if_neg (show ¬ (d.size < 1 ∨ 5 < d.size ∨ true = false) from fun h => by rcases h with h | h | h; exact h1 h; exact h5 h; exact absurd h (by decide)), if_pos rfl]
          have ht := trim_dig (l := d.data.toList) hd
          rw [ht] at HT
          have HF := Lib.hid (fun W => Tryz.strings_ContainsFunc 105 #[] (enters_of Tryz.func105 (by kernel_rfl) rfl) noFig d W (noFig_at W))
          rw [show Lib.idxFunc noFig true d = -1 from idx_figs d hd _ _] at HF
          have hdm := digB_mem hd
          have HA := Lib.hid (fun W => Tryz.strconv_Atoi d _ (by omega) (atoi_dig (by rw [← size_list]; omega) hdm) W)
          generalize (valD d.data.toList : Int) = n at HA ⊢
          clear h1 h5 hs hd ht hdm
          go_enter Tryz.func60, Tryz.ntmps60
          go_wp2_with (first
            | (go_at_call 87; refine (waysT m _ Hm.out).mono ?_; rintro e w1 ⟨T, x, rfl, hC, hb1⟩)
            | (go_at_call 100; refine (HS.out _ _ _ (pairsN _)).mono ?_; rintro e w2 ⟨rfl, hb2⟩; have hb2 := (hb1.alloc hb1.size _).trans (hb2.mono (by have := hb1.size; simp; omega)))
            | (go_at_call 103; refine (HT.out _).mono ?_; rintro e w3 ⟨rfl, hb3⟩; have hb3 := below_trans' hb2 hb3)
            | (go_at_call 104; refine (HF.out _).mono ?_; rintro e w4 ⟨rfl, hb4⟩; have hb4 := below_trans' hb3 hb4)
            | (go_at_call 106; refine (HA.out _).mono ?_; rintro e w5 ⟨rfl, t, rfl⟩; have hb5 := below_trans' hb4 (below_bytesW _ t)))
          go_ret2
          exact ⟨rfl, hb5⟩
  · have e1 : nuE m s = 40 := by unfold nuE; rw [if_pos (show ¬ (m = 1 ∨ m = 2 ∨ m = 3) from hm)]
    have e2 : nuV m s = 0 := by unfold nuV; rw [e1]; rfl
    rw [e1, e2]
    clear e1 e2
    go_enter Tryz.func60, Tryz.ntmps60
    go_wp2_with (first | (go_at_call 87; refine (waysOf_no m _ hm).mono ?_; rintro e w' ⟨rfl, rfl⟩))
    go_ret2
    exact ⟨rfl, Below.refl _ _⟩
end Go.Proofs.YtgcddjgkieambaaGreatDoor
