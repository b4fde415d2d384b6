/- The walk of the generic function 'filled' at int: it returns the table of least costs. -/
import Derived.Test.YtgcddjgkieambaaGreatDoorChecked
import Derived.Test.YtgcddjgkieambaaGreatDoorDist
import Derived.Test.YtgcddjgkieambaaGreatDoorMem
import Derived.WalkSpells
import Derived.WalkLawsBesides
import Derived.BigQuiet
import Derived.Deep.QuietTactic
import Derived.Lib.Hide
import Derived.Deep.RegionHeld3
import Derived.Outline
import Derived.Shelf.Abstract
set_option linter.unusedVariables false
set_option linter.unusedSimpArgs false
namespace Go.Proofs.YtgcddjgkieambaaGreatDoor
open Go.RowKit

theorem info3 : (Tryz.prog.info? 3).map (fun i => (i.zero, i.size, i.bytes)) = some (some (.int .i64 0), 1, 8) := by kernel_rfl
theorem info38 : (Tryz.prog.info? 38).map (fun i => (i.zero, i.size, i.bytes)) = some (some (.slice none 0 0), 1, 24) := by kernel_rfl

/-- A table of numbers in memory: n rows of m columns. -/
def Tab (w : World) (B : Nat) (v : Value) (n m : Nat) (f : Nat → Nat → Int) : Prop :=
  ∃ (g : Nat) (r : Nat → Nat), v = .slice (some ⟨g, 0, none⟩) n n ∧ B ≤ g ∧ RowA w g 38 n (fun j => .slice (some ⟨r j, 0, none⟩) m m) ∧
    ∀ j, j < n → B ≤ r j ∧ RowA w (r j) 3 m (fun k => .int .i64 (f j k))

/-- The first i rows are done. -/
def FillO (w : World) (n m : Nat) (ms ex : Int) (sw : Nat → Nat → Int) (i : Nat) (wr : World) : Prop :=
  ∃ r : Nat → Nat, RowA wr w.heap.size 38 (n + 1) (fun j => if j < i then .slice (some ⟨r j, 0, none⟩) (m + 1) (m + 1) else .slice none 0 0) ∧
    (∀ j, j < i → w.heap.size ≤ r j ∧ RowA wr (r j) 3 (m + 1) (fun k => .int .i64 (Cm.T ms ex sw j k))) ∧ Below w.heap.size w wr

/-- Row i, in block b, is done up to k. -/
def FillI (w : World) (n m : Nat) (ms ex : Int) (sw : Nat → Nat → Int) (i : Nat) (r : Nat → Nat) (b k : Nat) (wx : World) : Prop :=
  RowA wx w.heap.size 38 (n + 1) (fun j => if j < i + 1 then .slice (some ⟨if j = i then b else r j, 0, none⟩) (m + 1) (m + 1) else .slice none 0 0) ∧
    (∀ j, j < i → w.heap.size ≤ r j ∧ r j < b ∧ RowA wx (r j) 3 (m + 1) (fun k => .int .i64 (Cm.T ms ex sw j k))) ∧ w.heap.size < b ∧
    RowA wx b 3 (m + 1) (fun k' => .int .i64 (if k' < k then Cm.T ms ex sw i k' else 0)) ∧ Below w.heap.size w wx

theorem FillI.done {w : World} {n m : Nat} {ms ex : Int} {sw : Nat → Nat → Int} {i : Nat} {r : Nat → Nat} {b : Nat} {wx : World} (h : FillI w n m ms ex sw i r b (m + 1) wx) : FillO w n m ms ex sw (i + 1) wx := by
  obtain ⟨h1, h2, h3, h4, h5⟩ := h
  refine ⟨fun j => if j = i then b else r j, h1, fun j hj => ?_, h5⟩
  by_cases e : j = i
  · subst e; simp only [if_true]; exact ⟨by omega, h4.congr fun k hk => by rw [if_pos hk]⟩
  · simp only [e, if_false]; obtain ⟨a, _, c⟩ := h2 j (by omega); exact ⟨a, c⟩

theorem FillI.stay {w : World} {n m : Nat} {ms ex : Int} {sw : Nat → Nat → Int} {i : Nat} {r : Nat → Nat} {b k : Nat} {wx : World} (h : FillI w n m ms ex sw i r b k wx) (hu : 0 = Cm.T ms ex sw i k) :
    FillI w n m ms ex sw i r b (k + 1) wx := by
  obtain ⟨h1, h2, h3, h4, h5⟩ := h
  refine ⟨h1, h2, h3, h4.congr fun j hj => ?_, h5⟩
  by_cases e : j = k
  · subst e; simp [← hu]
  · by_cases e2 : j < k
    · simp [e2, show j < k + 1 by omega]
    · simp [e2, show ¬ j < k + 1 by omega]

theorem FillI.drew {w : World} {n m : Nat} {ms ex : Int} {sw : Nat → Nat → Int} {i : Nat} {r : Nat → Nat} {b k : Nat} {wx : World} (h : FillI w n m ms ex sw i r b k wx) : FillI w n m ms ex sw i r b k wx.drew :=
  ⟨h.1, h.2.1, h.2.2.1, h.2.2.2.1, h.2.2.2.2.drew⟩

/-- The next number of row i is stored. -/
theorem FillI.step {w : World} {n m : Nat} {ms ex : Int} {sw : Nat → Nat → Int} {i : Nat} {r : Nat → Nat} {b k : Nat} {wx wy : World} (h : FillI w n m ms ex sw i r b k wx) (hb : Below wx.heap.size wx wy) {u : Int} (hu : u = Cm.T ms ex sw i k) :
    FillI w n m ms ex sw i r b (k + 1) (wy.setCell ⟨b, k, none⟩ (.int .i64 u)) := by
  obtain ⟨h1, h2, h3, h4, h5⟩ := h
  subst hu
  have l4 := h4.lt
  refine ⟨(h1.later hb).far (by show w.heap.size ≠ b; omega) _, fun j hj => ⟨(h2 j hj).1, (h2 j hj).2.1, ((h2 j hj).2.2.later hb).far (by show r j ≠ b; have := (h2 j hj).2.1; omega) _⟩, h3, RowA.put (h4.later hb) (fun j hj => ?_), (h5.trans (hb.mono h5.size)).setCell (by show w.heap.size ≤ b; omega) _⟩
  by_cases e : j = k
  · subst e; simp
  · by_cases e2 : j < k
    · simp [e, e2, show j < k + 1 by omega]
    · simp [e, e2, show ¬ j < k + 1 by omega]

theorem cell_off (w : World) (p a : Addr) (v : Value) (h : p.off ≠ a.off) : (w.setCell p v).cell? a = w.cell? a :=
  World.cell?_setCell_other w p a v (fun e => h (by rw [e]))
theorem T_0p (ms ex : Int) (sw : Nat → Nat → Int) (i k : Nat) (hi : i = 0) (h : 1 ≤ k) : Cm.T ms ex sw i (k - 1) + ex = Cm.T ms ex sw i k := by
  subst hi
  obtain ⟨k', rfl⟩ : ∃ k', k = k' + 1 := ⟨k - 1, by omega⟩
  exact (Cm.T_0s k').symm
theorem T_pp (ms ex : Int) (sw : Nat → Nat → Int) (i k : Nat) (hk : 1 ≤ k) (h : 1 ≤ i) : (if Cm.T ms ex sw (i - 1) (k - 1) + sw (i - 1) (k - 1) < if Cm.T ms ex sw i (k - 1) + ex < Cm.T ms ex sw (i - 1) k + ms then Cm.T ms ex sw i (k - 1) + ex else Cm.T ms ex sw (i - 1) k + ms then Cm.T ms ex sw (i - 1) (k - 1) + sw (i - 1) (k - 1) else if Cm.T ms ex sw i (k - 1) + ex < Cm.T ms ex sw (i - 1) k + ms then Cm.T ms ex sw i (k - 1) + ex else Cm.T ms ex sw (i - 1) k + ms) = Cm.T ms ex sw i k := by
  obtain ⟨i', rfl⟩ : ∃ k', i = k' + 1 := ⟨i - 1, by omega⟩
  obtain ⟨k', rfl⟩ : ∃ k', k = k' + 1 := ⟨k - 1, by omega⟩
  have := Cm.T_ss (m := ms) (e := ex) (sw := sw) i' k'
  simp only [Nat.add_sub_cancel]
  rw [this]
  split <;> split <;> omega
theorem T_p0 (ms ex : Int) (sw : Nat → Nat → Int) (i k : Nat) (hk : k = 0) (h : 1 ≤ i) : Cm.T ms ex sw (i - 1) k + ms = Cm.T ms ex sw i k := by
  subst hk
  obtain ⟨k', rfl⟩ : ∃ k', i = k' + 1 := ⟨i - 1, by omega⟩
  exact (Cm.T_s0 k').symm

set_option maxRecDepth 100000 in
set_option maxHeartbeats 2000000 in
theorem filled_any (g : Nat) (fs lb : Array Value) (eg : ∀ args w, (callFunc g args).run Tryz.prog w = .ok (.enter g args) w)
    (n m : Nat) (ms ex : Int) (sw : Nat → Nat → Int) (w : World) (hn : n ≤ 200) (hm : m ≤ 200) (h0 : 0 ≤ ms ∧ ms ≤ 10) (h1 : 0 ≤ ex ∧ ex ≤ 10) (h2 : ∀ i k, 0 ≤ sw i k ∧ sw i k ≤ 1000)
    (hF : ∀ (W : World) (x y : Int), 0 ≤ x → x < n → 0 ≤ y → y < m → Below w.heap.size w W → Calls Tryz.prog g (fs ++ (#[.int .i64 x, .int .i64 y] ++ lb)) W fun e w' => e = .returned (.int .i64 (sw x.toNat y.toNat)) ∧ Below W.heap.size W w') :
    Calls Tryz.prog 110 #[.int .i64 n, .int .i64 m, .func (.func g) fs lb, .int .i64 ms, .int .i64 ex] w fun e w' => ∃ v, e = .returned v ∧ Tab w' w.heap.size v (n + 1) (m + 1) (Cm.T ms ex sw) ∧ Below w.heap.size w w' := by
  have hmk := fun W => run_mk (P := Tryz.prog) 37 38 _ _ Tryz.underlying37 info38 (n + 1) ((n : Int) + 1) (by omega) (by omega) (by omega) W
  have hmk2 := fun W => run_mk (P := Tryz.prog) 38 3 _ _ Tryz.underlying38 info3 (m + 1) ((m : Int) + 1) (by omega) (by omega) (by omega) W
  have HF := Lib.hid hF
  clear hF
  go_enter Tryz.func110, Tryz.ntmps110
  go_wp2
  have H0 := RowA.made w 38 (.slice none 0 0) (n + 1) rfl
  go_loopw [19] (fun c wr => ∃ i : Nat, i ≤ n + 1 ∧ c = .int .i64 i ∧ FillO w n m ms ex sw i wr) (fun c _ => n + 1 - (intOf c).toNat)
  case atStart => exact ⟨0, Nat.zero_le _, rfl, fun _ => 0, H0.congr fun k _ => by simp, fun j hj => absurd hj (by omega), below_alloc0 _⟩
  case round =>
    obtain ⟨i, hi, rfl, r, hg, hr, hb⟩ := hrel
    clear H0
    by_cases hlt : i < n + 1
    · obtain ⟨W2, hW2⟩ : ∃ W2, W2 = wr.alloc (.cells (madeCells (Value.int .i64 0).cells (m + 1)) 3) := ⟨_, rfl⟩
      have k2 := hmk2 wr
      rw [← hW2] at k2
      clear hmk2 hmk
      have hg2 : RowA W2 w.heap.size 38 (n + 1) _ := hW2 ▸ hg.alloc _
      have hi2 : RowA W2 wr.heap.size 3 (m + 1) (fun _ => .int .i64 0) := hW2 ▸ RowA.made wr 3 (.int .i64 0) (m + 1) rfl
      have hr2 : ∀ j, j < i → w.heap.size ≤ r j ∧ r j < wr.heap.size ∧ RowA W2 (r j) 3 (m + 1) (fun k => .int .i64 (Cm.T ms ex sw j k)) := fun j hj => ⟨(hr j hj).1, (hr j hj).2.lt, hW2 ▸ (hr j hj).2.alloc _⟩
      have hb2 : Below w.heap.size w W2 := hW2 ▸ hb.alloc hb.size _
      have hsz := hb.size
      have hlt2 := hg.lt
      clear hW2 hr
      have cg := hg2.cell hlt
      simp only [Nat.lt_irrefl, if_false] at cg
      have fg := hg2.frozen i
      have cg2 := hg2.put (k := i) (u := .slice (some ⟨wr.heap.size, 0, none⟩) (m + 1) (m + 1)) (f' := fun j => if j < i + 1 then .slice (some ⟨if j = i then wr.heap.size else r j, 0, none⟩) (m + 1) (m + 1) else .slice none 0 0) (fun j _ => by
        by_cases e : j = i
        · subst e; simp
        · by_cases e2 : j < i
          · simp [e, e2, show j < i + 1 by omega]
          · simp [e, e2, show ¬ j < i + 1 by omega])
      have cg3 := cg2.cell hlt
      simp only [Nat.lt_succ_self, if_true] at cg3
      obtain ⟨wo, rfl⟩ : ∃ wo : World, wo = wr := ⟨_, rfl⟩
      have hd0 : decide ((i : Int) < (n : Int) + 1) = true := by simp; omega
      go_wp2
      go_loopw [33] (fun c wx => ∃ k : Nat, k ≤ m + 1 ∧ c = .int .i64 k ∧ FillI w n m ms ex sw i r wo.heap.size k wx) (fun c _ => m + 1 - (intOf c).toNat)
      case atStart =>
        exact ⟨0, Nat.zero_le _, rfl, cg2, fun j hj => ⟨(hr2 j hj).1, (hr2 j hj).2.1, (hr2 j hj).2.2.far (by show r j ≠ _; exact (hr2 j hj).2.2.ne_ hg2 (by decide)) _⟩, hlt2, (hi2.far (by show wo.heap.size ≠ w.heap.size; omega) _).congr fun k _ => by simp, hb2.setCell (Nat.le_refl _) _⟩
      case round =>
        obtain ⟨k, hk, rfl, hI⟩ := hrel
        clear cg2 cg3 cg fg hr2 hi2 hg2 hb2 k2
        by_cases hkl : k < m + 1
        · by_cases hi0 : i = 0
          · have Hi0 := Lib.hid hi0
            have v1 : ((i : Int) == 0) = true := by simp; omega
            have c1 : wr.cell? ⟨w.heap.size, i, none⟩ = some (.slice (some ⟨wo.heap.size, 0, none⟩) (m + 1) (m + 1)) := (hI.1.cell (by omega)).trans (by simp)
            have v2 : (i : Int) < (n : Int) + 1 := by omega
            clear hi0
            by_cases hk0 : k = 0
            · have Hk0 := Lib.hid hk0
              have v3 : ((k : Int) == 0) = true := by simp; omega
              clear hk0
              have hN := Lib.hid (hI.stay (by rw [Hi0.out, Hk0.out, Cm.T_00]))
              clear hI
              go_wp2
              go_roundw
              case rel => exact ⟨k + 1, by omega, by go_num, hN.out⟩
              case measure => simp [intOf]; omega
            · have hk1 : 1 ≤ k := by omega
              have v3 : ((k : Int) == 0) = false := by simp; omega
              have c2 : wr.cell? ⟨wo.heap.size, k - 1, none⟩ = some (.int .i64 (Cm.T ms ex sw i (k - 1))) := (hI.2.2.2.1.cell (by omega)).trans (by rw [if_pos (by omega)])
              have c3 : wr.cell? ⟨wo.heap.size, k, none⟩ = some (.int .i64 0) := (hI.2.2.2.1.cell (by omega)).trans (by simp)
              have c4 := hI.2.2.2.1.frozen k
              have hN := Lib.hid (fun (wy : World) (hb : Below wr.heap.size wr wy) => hI.step hb (T_0p ms ex sw i k Hi0.out hk1))
              have b1 := Cm.T_bd ms ex sw h0 h1 h2 i (k - 1) (by omega) (by omega)
              have w1 : IntKind.i64.wrap ((k : Int) - 1) = (k : Int) - 1 := IntWalk.i64_in _ (by omega)
              have w2 : (0 : Int) ≤ (k : Int) - 1 := by omega
              have w3 : ((k : Int) - 1).toNat = k - 1 := by omega
              have w4 : IntKind.i64.wrap (Cm.T ms ex sw i (k - 1) + ex) = Cm.T ms ex sw i (k - 1) + ex := IntWalk.i64_in _ (by omega)
              have w5 : (k : Int) - 1 < (m : Int) + 1 := by omega
              have w5' : (1 : Int) ≤ (k : Int) := by omega
              have w5'' : (k : Int) < (m : Int) + 1 := by omega
              have w6 : ¬ wo.heap.size = w.heap.size := by omega
              have w7 : ¬ k = k - 1 := by omega
              clear hI
              go_wp2
              go_region_held3 (fun w' => w'.cell? ⟨w.heap.size, i, none⟩ = some (.slice (some ⟨wo.heap.size, 0, none⟩) (m + 1) (m + 1)) ∧ w'.cell? ⟨wo.heap.size, k - 1, none⟩ = some (.int .i64 (Cm.T ms ex sw i (k - 1)))) (simp [*, World.cell?_alloc_some, World.cell?_setCell_far, cell_off]) (fail)
              go_wp2
              go_roundw
              case rel => exact ⟨k + 1, by omega, by go_num, (hN.out _ (Below.refl _ _)).drew⟩
              case measure => simp [intOf]; omega
          · have hi1 : 1 ≤ i := by omega
            have c0 : wr.cell? ⟨w.heap.size, i - 1, none⟩ = some (.slice (some ⟨r (i - 1), 0, none⟩) (m + 1) (m + 1)) := (hI.1.cell (by omega)).trans (by rw [if_pos (by omega), if_neg (by omega)])
            have c1 : wr.cell? ⟨w.heap.size, i, none⟩ = some (.slice (some ⟨wo.heap.size, 0, none⟩) (m + 1) (m + 1)) := (hI.1.cell (by omega)).trans (by simp)
            have c3 : wr.cell? ⟨wo.heap.size, k, none⟩ = some (.int .i64 0) := (hI.2.2.2.1.cell (by omega)).trans (by simp)
            have c4 := hI.2.2.2.1.frozen k
            have hrr := hI.2.1 (i - 1) (by omega)
            have c5 : wr.cell? ⟨r (i - 1), k, none⟩ = some (.int .i64 (Cm.T ms ex sw (i - 1) k)) := hrr.2.2.cell (by omega)
            have w1 : IntKind.i64.wrap ((i : Int) - 1) = (i : Int) - 1 := IntWalk.i64_in _ (by omega)
            have w2 : (0 : Int) ≤ (i : Int) - 1 := by omega
            have w3 : ((i : Int) - 1).toNat = i - 1 := by omega
            have w5 : (i : Int) - 1 < (n : Int) + 1 := by omega
            have w5' : (1 : Int) ≤ (i : Int) := by omega
            have w5'' : (i : Int) < (n : Int) + 1 := by omega
            have w6 : ¬ wo.heap.size = w.heap.size := by omega
            have w8 : ¬ wo.heap.size = r (i - 1) := by omega
            have w9 : ¬ i = i - 1 := by omega
            have w10 : ((i : Int) == 0) = false := by simp; omega
            have b1 := Cm.T_bd ms ex sw h0 h1 h2 (i - 1) k (by omega) (by omega)
            by_cases hk0 : k = 0
            · have Hk0 := Lib.hid hk0
              have v3 : ((k : Int) == 0) = true := by simp; omega
              have v4 : (k : Int) < (m : Int) + 1 := by omega
              clear hk0
              have hN := Lib.hid (fun (wy : World) (hb : Below wr.heap.size wr wy) => hI.step hb (T_p0 ms ex sw i k Hk0.out hi1))
              have w4 : IntKind.i64.wrap (Cm.T ms ex sw (i - 1) k + ms) = Cm.T ms ex sw (i - 1) k + ms := IntWalk.i64_in _ (by omega)
              clear hI hrr
              go_wp2
              go_region_held3 (fun w' => w'.cell? ⟨w.heap.size, i - 1, none⟩ = some (.slice (some ⟨r (i - 1), 0, none⟩) (m + 1) (m + 1)) ∧ w'.cell? ⟨w.heap.size, i, none⟩ = some (.slice (some ⟨wo.heap.size, 0, none⟩) (m + 1) (m + 1)) ∧ w'.cell? ⟨r (i - 1), k, none⟩ = some (.int .i64 (Cm.T ms ex sw (i - 1) k))) (simp [*, World.cell?_alloc_some, World.cell?_setCell_far, cell_off]) (fail)
              go_wp2
              go_roundw
              case rel => exact ⟨k + 1, by omega, by go_num, (hN.out _ (Below.refl _ _)).drew⟩
              case measure => simp [intOf]; omega
            · have hk1 : 1 ≤ k := by omega
              have v3 : ((k : Int) == 0) = false := by simp; omega
              have c2 : wr.cell? ⟨wo.heap.size, k - 1, none⟩ = some (.int .i64 (Cm.T ms ex sw i (k - 1))) := (hI.2.2.2.1.cell (by omega)).trans (by rw [if_pos (by omega)])
              have c6 : wr.cell? ⟨r (i - 1), k - 1, none⟩ = some (.int .i64 (Cm.T ms ex sw (i - 1) (k - 1))) := hrr.2.2.cell (by omega)
              have hN := Lib.hid (fun (wy : World) (hb : Below wr.heap.size wr wy) => hI.step hb (T_pp ms ex sw i k hk1 hi1))
              have b2 := Cm.T_bd ms ex sw h0 h1 h2 i (k - 1) (by omega) (by omega)
              have b3 := Cm.T_bd ms ex sw h0 h1 h2 (i - 1) (k - 1) (by omega) (by omega)
              have b4 := h2 (i - 1) (k - 1)
              have q1 : IntKind.i64.wrap ((k : Int) - 1) = (k : Int) - 1 := IntWalk.i64_in _ (by omega)
              have q2 : (0 : Int) ≤ (k : Int) - 1 := by omega
              have q3 : ((k : Int) - 1).toNat = k - 1 := by omega
              have q4 : IntKind.i64.wrap (Cm.T ms ex sw (i - 1) k + ms) = Cm.T ms ex sw (i - 1) k + ms := IntWalk.i64_in _ (by omega)
              have q5 : IntKind.i64.wrap (Cm.T ms ex sw i (k - 1) + ex) = Cm.T ms ex sw i (k - 1) + ex := IntWalk.i64_in _ (by omega)
              have q6 : IntKind.i64.wrap (Cm.T ms ex sw (i - 1) (k - 1) + sw (i - 1) (k - 1)) = Cm.T ms ex sw (i - 1) (k - 1) + sw (i - 1) (k - 1) := IntWalk.i64_in _ (by omega)
              have q7 : (k : Int) - 1 < (m : Int) + 1 := by omega
              have q8 : (1 : Int) ≤ (k : Int) := by omega
              have q9 : (k : Int) < (m : Int) + 1 := by omega
              have q10 : ¬ k = k - 1 := by omega
              have hF0 := fun (W : World) (hb : Below wr.heap.size wr W) => HF.out W ((i : Int) - 1) ((k : Int) - 1) (by omega) (by omega) (by omega) (by omega) (hI.2.2.2.2.trans (hb.mono hI.2.2.2.2.size))
              rw [w3, q3] at hF0
              have HF0 := Lib.hid hF0
              clear hI hrr hF0
              have l1 := World.block_lt_of_cell? wr _ c0
              have l2 := World.block_lt_of_cell? wr _ c3
              have l3 := World.block_lt_of_cell? wr _ c5
              go_wp2
              go_region_held3 (fun w' => w'.cell? ⟨w.heap.size, i - 1, none⟩ = some (.slice (some ⟨r (i - 1), 0, none⟩) (m + 1) (m + 1)) ∧ w'.cell? ⟨w.heap.size, i, none⟩ = some (.slice (some ⟨wo.heap.size, 0, none⟩) (m + 1) (m + 1)) ∧ w'.cell? ⟨r (i - 1), k, none⟩ = some (.int .i64 (Cm.T ms ex sw (i - 1) k)) ∧ w'.cell? ⟨r (i - 1), k - 1, none⟩ = some (.int .i64 (Cm.T ms ex sw (i - 1) (k - 1))) ∧ w'.cell? ⟨wo.heap.size, k - 1, none⟩ = some (.int .i64 (Cm.T ms ex sw i (k - 1)))) (simp [*, World.cell?_alloc_some, World.cell?_setCell_far, cell_off]) (first | (go_at_fn g; refine (HF0.out _ (Below.refl _ _).drew).mono ?_; rintro e w1 ⟨rfl, hbc⟩; have d0 := (hbc.cell (p := ⟨w.heap.size, i - 1, none⟩) l1).trans c0; have d1 := (hbc.cell (p := ⟨w.heap.size, i, none⟩) l1).trans c1; have d2 := (hbc.cell (p := ⟨r (i - 1), k, none⟩) l3).trans c5; have d3 := (hbc.cell (p := ⟨r (i - 1), k - 1, none⟩) l3).trans c6; have d4 := (hbc.cell (p := ⟨wo.heap.size, k - 1, none⟩) l2).trans c2; have d5 := (hbc.cell (p := ⟨wo.heap.size, k, none⟩) l2).trans c3; have d6 := (hbc.frozen (p := ⟨wo.heap.size, k, none⟩) l2).trans c4))
              go_wp2
              go_roundw
              case rel => exact ⟨k + 1, by omega, by go_num, hN.out _ ((Below.refl _ _).drew.trans (by assumption))⟩
              case measure => simp [intOf]; omega
        · obtain rfl : k = m + 1 := by omega
          have hO := Lib.hid hI.done
          clear hI
          go_wp2
          go_roundw
          case rel => exact ⟨i + 1, by omega, by go_num, hO.out⟩
          case measure => simp [intOf]; omega
    · obtain rfl : i = n + 1 := by omega
      clear hmk hmk2
      obtain ⟨g2, hg2⟩ : ∃ g2, g2 = w.heap.size := ⟨_, rfl⟩
      have HT : Hid (Tab wr w.heap.size (.slice (some ⟨w.heap.size, 0, none⟩) (n + 1) (n + 1)) (n + 1) (m + 1) (Cm.T ms ex sw) ∧ Below w.heap.size w wr) :=
        ⟨⟨_, r, rfl, Nat.le_refl _, hg.congr fun k hk => by rw [if_pos hk], hr⟩, hb⟩
      clear hg hr hb
      go_wp2
      go_ret
      exact ⟨_, rfl, HT.out⟩
end Go.Proofs.YtgcddjgkieambaaGreatDoor
