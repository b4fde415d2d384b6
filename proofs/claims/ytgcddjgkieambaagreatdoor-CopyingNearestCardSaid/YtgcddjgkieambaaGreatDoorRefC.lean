/- The walk of the reference's 'changes': the least number of changes of signs, by one row that is overwritten. -/
import Derived.Test.YtgcddjgkieambaaGreatDoorRefB
import Derived.Test.YtgcddjgkieambaaGreatDoorFill
import Derived.BigRegion
set_option linter.unusedVariables false
set_option linter.unusedSimpArgs false
namespace Go.Proofs.YtgcddjgkieambaaGreatDoor
open Go.RowKit

def byt (s : ByteArray) (k : Nat) : UInt8 := s.data.toList.getD k 0
theorem byt_at (s : ByteArray) (k : Nat) (h : k < s.size) : s[k] = byt s k := by
  have hk : k < s.data.toList.length := by simpa using h
  rw [byt, getD_get _ _ hk]
  rfl
/-- The cost of a change of two signs. -/
def sg (a b : ByteArray) (x y : Nat) : Int := if byt a x = byt b y then 0 else 1
theorem sg_bd (a b : ByteArray) (x y : Nat) : 0 ≤ sg a b x y ∧ sg a b x y ≤ 1000 := by unfold sg; split <;> omega
abbrev TS (a b : ByteArray) : Nat → Nat → Int := Cm.T 1 1 (sg a b)
theorem TS_bd (a b : ByteArray) (i k : Nat) (hi : i ≤ 1000) (hk : k ≤ 1000) : 0 ≤ TS a b i k ∧ TS a b i k ≤ 20000 := Cm.T_bd 1 1 _ (by omega) (by omega) (sg_bd a b) i k hi hk
theorem TS_0 (a b : ByteArray) (k : Nat) : TS a b 0 k = (k : Int) := by simp [TS, Cm.T]
theorem TS_s0 (a b : ByteArray) (i : Nat) : TS a b i 0 = (i : Int) := by
  induction i with
  | zero => exact TS_0 a b 0
  | succ i ih => show Cm.T 1 1 (sg a b) (i + 1) 0 = _; rw [Cm.T_s0]; have : Cm.T 1 1 (sg a b) i 0 = (i : Int) := ih; omega
/-- The row, k numbers of the next one being laid. -/
def RowT (a b : ByteArray) (g i k : Nat) (wx : World) : Prop := RowA wx g 3 (b.size + 1) (fun x => .int .i64 (if x ≤ k then TS a b (i + 1) x else TS a b i x))
def RowS (a b : ByteArray) (g i : Nat) (wx : World) : Prop := RowA wx g 3 (b.size + 1) (fun x => .int .i64 (TS a b i x))
theorem RowS.begin {a b : ByteArray} {g i : Nat} {wx : World} (h : RowS a b g i wx) (u : Int) (hu : u = (i : Int) + 1) : RowT a b g i 0 (wx.setCell ⟨g, 0, none⟩ (.int .i64 u)) := by
  subst hu
  refine RowA.put h fun x hx => ?_
  by_cases e : x = 0
  · subst e; rw [if_pos (Nat.le_refl _), if_pos rfl, TS_s0]; rfl
  · rw [if_neg e, if_neg (by omega)]
theorem RowT.step {a b : ByteArray} {g i k : Nat} {wx : World} (h : RowT a b g i k wx) (u : Int) (hu : u = TS a b (i + 1) (k + 1)) : RowT a b g i (k + 1) (wx.setCell ⟨g, k + 1, none⟩ (.int .i64 u)) := by
  subst hu
  refine RowA.put h fun x hx => ?_
  by_cases e : x = k + 1
  · subst e; rw [if_pos (Nat.le_refl _), if_pos rfl]
  · rw [if_neg e]
    by_cases e2 : x ≤ k
    · rw [if_pos (by omega), if_pos e2]
    · rw [if_neg (by omega), if_neg e2]
theorem RowT.done {a b : ByteArray} {g i : Nat} {wx : World} (h : RowT a b g i b.size wx) : RowS a b g (i + 1) wx := RowK.congr h fun x hx => by rw [if_pos (by omega)]
theorem TS_step (a b : ByteArray) (i k : Nat) (s : Int) (hs : s = TS a b i k + sg a b i k) : min s (min (TS a b (i + 1) k + 1) (TS a b i (k + 1) + 1)) = TS a b (i + 1) (k + 1) := by
  have := Cm.T_ss (m := 1) (e := 1) (sw := sg a b) i k
  show _ = Cm.T 1 1 (sg a b) (i + 1) (k + 1)
  rw [this, hs]
  show min (Cm.T 1 1 (sg a b) i k + sg a b i k) (min (Cm.T 1 1 (sg a b) (i + 1) k + 1) (Cm.T 1 1 (sg a b) i (k + 1) + 1)) = _
  omega

set_option maxRecDepth 100000 in
set_option maxHeartbeats 8000000 in
theorem ref_changes (a b : ByteArray) (w : World) (ha : a.size ≤ 100) (hb : b.size ≤ 100) : Calls Tryz.prog 112 #[.string a, .string b] w fun e w' => e = .returned (.int .i64 (TS a b a.size b.size)) ∧ Below w.heap.size w w' := by
  have hmk := fun W => run_mk (P := Tryz.prog) 38 3 _ _ Tryz.underlying38 info3 (b.size + 1) ((b.size : Int) + 1) (by omega) (by omega) (by omega) W
  have H0 := Lib.hid (RowA.made w 3 (.int .i64 0) (b.size + 1) rfl)
  go_enter Tryz.func112, Tryz.ntmps112
  go_wp2
  go_loopw [6] (fun v6 wx => ∃ k : Nat, k ≤ b.size + 1 ∧ v6 = .int .i64 k ∧ RowA wx w.heap.size 3 (b.size + 1) (fun x => .int .i64 (if x < k then (x : Int) else 0)) ∧ Below w.heap.size w wx) (fun v6 _ => b.size + 1 - (intOf v6).toNat)
  case atStart => exact ⟨0, by omega, rfl, RowK.congr H0.out (fun x hx => by simp), below_alloc0 _⟩
  case round =>
    obtain ⟨k, hk, rfl, hR, hB⟩ := hrel
    clear hmk
    by_cases hlt : k ≤ b.size
    · have f1 : decide ((k : Int) ≤ (b.size : Int)) = true := by simp; omega
      have f2 : (k : Int) < (b.size : Int) + 1 := by omega
      have f3 : (0 : Int) ≤ (k : Int) := by omega
      have q1 : IntKind.i64.wrap ((k : Int) + 1) = (k : Int) + 1 := IntWalk.i64_in _ (by omega)
      obtain ⟨cv, cg⟩ := hR.has (k := k) (by omega)
      have cf := hR.frozen k
      have HN := Lib.hid (hR.put (k := k) (u := .int .i64 (k : Int)) (f' := fun x => .int .i64 (if x < k + 1 then (x : Int) else 0)) (fun x hx => by
        by_cases e : x = k
        · subst e; simp
        · rw [if_neg e]
          by_cases e2 : x < k
          · rw [if_pos e2, if_pos (by omega)]
          · rw [if_neg e2, if_neg (by omega)]))
      have HB := Lib.hid hB
      clear hR hB
      go_wp2
      go_roundw
      case rel => exact ⟨k + 1, by omega, by go_num, HN.out, HB.out.setCell (Nat.le_refl _) _⟩
      case measure => simp [intOf] <;> omega
    · obtain rfl : k = b.size + 1 := by omega
      have f1 : decide (((b.size + 1 : Nat) : Int) ≤ (b.size : Int)) = false := by simp; omega
      have f1' : decide ((b.size : Int) + 1 ≤ (b.size : Int)) = false := by simp; omega
      have HS0 := Lib.hid (show RowS a b w.heap.size 0 wr from RowK.congr hR (fun x hx => by rw [if_pos (by omega), TS_0]))
      have HB := Lib.hid hB
      clear hR hB
      obtain ⟨w0, rfl⟩ : ∃ w0 : World, w0 = wr := ⟨_, rfl⟩
      go_wp2
      clear f1 f1'
      go_loopw [7] (fun v7 wx => ∃ i : Nat, i ≤ a.size ∧ v7 = .int .i64 i ∧ RowS a b w.heap.size i wx ∧ Below w.heap.size w wx) (fun v7 _ => a.size - (intOf v7).toNat)
      case atStart => exact ⟨0, by omega, rfl, HS0.out, HB.out⟩
      case round =>
        obtain ⟨i, hi, rfl, hR, hB⟩ := hrel
        by_cases hlt : i < a.size
        · have f1 : decide ((i : Int) < (a.size : Int)) = true := by simp; omega
          have f2 : (0 : Int) < (b.size : Int) + 1 := by omega
          have q1 : IntKind.i64.wrap ((i : Int) + 1) = (i : Int) + 1 := IntWalk.i64_in _ (by omega)
          have c0 : wr.cell? ⟨w.heap.size, 0, none⟩ = some (.int .i64 (i : Int)) := (hR.cell (by omega)).trans (by rw [TS_s0])
          have cf := hR.frozen 0
          have HN := Lib.hid (hR.begin ((i : Int) + 1) rfl)
          have HB2 := Lib.hid (hB.setCell (p := ⟨w.heap.size, 0, none⟩) (Nat.le_refl _) (.int .i64 ((i : Int) + 1)))
          clear hR hB
          go_wp2
          clear c0 cf
          obtain ⟨wo, rfl⟩ : ∃ wo : World, wo = wr := ⟨_, rfl⟩
          go_loopw [8, 9] (fun v8 v9 wx => ∃ k : Nat, k ≤ b.size ∧ v9 = .int .i64 k ∧ v8 = .int .i64 (TS a b i k) ∧ RowT a b w.heap.size i k wx ∧ Below w.heap.size w wx) (fun _ v9 _ => b.size - (intOf v9).toNat)
          case atStart => exact ⟨0, by omega, rfl, by rw [TS_s0], HN.out, HB2.out⟩
          case round =>
            obtain ⟨k, hk, rfl, rfl, hR, hB⟩ := hrel
            by_cases hkl : k < b.size
            · have g1 : decide ((k : Int) < (b.size : Int)) = true := by simp; omega
              have g2 : (k : Int) < (b.size : Int) := by omega
              have g3 : (0 : Int) ≤ (k : Int) := by omega
              have g4 : (k : Int) + 1 < (b.size : Int) + 1 := by omega
              have g4' : (k : Int) < (b.size : Int) + 1 := by omega
              have g5 : (i : Int) < (a.size : Int) := by omega
              have g6 : (0 : Int) ≤ (i : Int) := by omega
              have g7 : (0 : Int) ≤ (k : Int) + 1 := by omega
              have g8 : ((k : Int) + 1).toNat = k + 1 := by omega
              have q2 : IntKind.i64.wrap ((k : Int) + 1) = (k : Int) + 1 := IntWalk.i64_in _ (by omega)
              have ck : wr.cell? ⟨w.heap.size, k, none⟩ = some (.int .i64 (TS a b (i + 1) k)) := (hR.cell (by omega)).trans (by rw [if_pos (Nat.le_refl _)])
              have ck1 : wr.cell? ⟨w.heap.size, k + 1, none⟩ = some (.int .i64 (TS a b i (k + 1))) := (hR.cell (by omega)).trans (by rw [if_neg (by omega)])
              have cf := hR.frozen (k + 1)
              have lg := hR.lt
              have b1 := TS_bd a b i k (by omega) (by omega)
              have b2 := TS_bd a b (i + 1) k (by omega) (by omega)
              have b3 := TS_bd a b i (k + 1) (by omega) (by omega)
              have hst := TS_step a b i k
              have hsg : sg a b i k = if byt a i = byt b k then 0 else 1 := rfl
              have h1 := byt_at a i hlt
              have h2 := byt_at b k hkl
              have HR := Lib.hid (fun u hu => hR.step u hu)
              have HRd := Lib.hid (fun (n : Nat) u hu => RowT.step (RowK.drewN hR n : RowT a b w.heap.size i k (wr.drewN n)) u hu)
              have HB := Lib.hid hB
              obtain ⟨A, hA⟩ : ∃ z, z = TS a b i k := ⟨_, rfl⟩
              obtain ⟨B, hBB⟩ : ∃ z, z = TS a b (i + 1) k := ⟨_, rfl⟩
              obtain ⟨C, hC⟩ : ∃ z, z = TS a b i (k + 1) := ⟨_, rfl⟩
              rw [← hA] at hst b1 ⊢
              rw [← hBB] at ck hst b2
              rw [← hC] at ck1 hst b3
              have HC := Lib.hid hC
              have q3 : IntKind.i64.wrap (A + 1) = A + 1 := IntWalk.i64_in _ (by omega)
              have q4 : IntKind.i64.wrap (B + 1) = B + 1 := IntWalk.i64_in _ (by omega)
              have q5 : IntKind.i64.wrap (C + 1) = C + 1 := IntWalk.i64_in _ (by omega)
              have e1 : ((a[i]'hlt).toNat : Int) = ((byt a i).toNat : Int) := by rw [h1]
              have e2 : ((b[k]'hkl).toNat : Int) = ((byt b k).toNat : Int) := by rw [h2]
              obtain ⟨x, hx⟩ : ∃ x, x = byt a i := ⟨_, rfl⟩
              obtain ⟨y, hy⟩ : ∃ x, x = byt b k := ⟨_, rfl⟩
              rw [← hx] at e1 hsg
              rw [← hy] at e2 hsg
              clear hR hB hA hBB hC h1 h2 hx hy
              by_cases hxy : x = y
              · have e3 : ((x.toNat : Int) != (y.toNat : Int)) = false := by rw [hxy]; simp
                have HF := Lib.hid (hst A (by rw [hsg, if_pos hxy]; omega))
                clear hst hsg hxy b1 b2 b3
                go_wp2
                go_quiet (fail)
                go_wp2
                go_region
                all_goals
                  go_wp2
                  go_roundw
                  case rel => exact ⟨k + 1, by omega, by go_num, by rw [HC.out], HRd.out _ _ (by have h := HF.out; omega), (below_drewN' HB.out _).setCell (Nat.le_refl _) _⟩
                  case measure => simp [intOf] <;> omega
              · have e3 : ((x.toNat : Int) != (y.toNat : Int)) = true := by
                  rw [bne_iff_ne]
                  exact fun e => hxy (UInt8.toNat_inj.1 (by omega))
                have HF := Lib.hid (hst (A + 1) (by rw [hsg, if_neg hxy]))
                clear hst hsg hxy b1 b2 b3
                go_wp2
                go_quiet (fail)
                go_wp2
                go_region
                all_goals
                  go_wp2
                  go_roundw
                  case rel => exact ⟨k + 1, by omega, by go_num, by rw [HC.out], HRd.out _ _ (by have h := HF.out; omega), (below_drewN' HB.out _).setCell (Nat.le_refl _) _⟩
                  case measure => simp [intOf] <;> omega
            · obtain rfl : k = b.size := by omega
              have g1 : decide ((b.size : Int) < (b.size : Int)) = false := by simp
              have HD := Lib.hid hR.done
              have HB := Lib.hid hB
              clear hR hB
              go_wp2
              go_roundw
              case rel => exact ⟨i + 1, by omega, by go_num, HD.out, HB.out⟩
              case measure => simp [intOf] <;> omega
        · obtain rfl : i = a.size := by omega
          have f1 : decide ((a.size : Int) < (a.size : Int)) = false := by simp
          have f2 : (b.size : Int) < (b.size : Int) + 1 := by omega
          have c1 : wr.cell? ⟨w.heap.size, b.size, none⟩ = some (.int .i64 (TS a b a.size b.size)) := hR.cell (by omega)
          have HB := Lib.hid hB
          clear hR hB
          go_wp2
          go_ret
          exact ⟨rfl, HB.out⟩
end Go.Proofs.YtgcddjgkieambaaGreatDoor
