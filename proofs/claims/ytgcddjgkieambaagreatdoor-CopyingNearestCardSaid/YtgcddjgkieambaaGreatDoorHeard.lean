/- The walks of the methods of 'heard': the cost of a swap at two places, the table, the least cost. -/
import Derived.Test.YtgcddjgkieambaaGreatDoorCosts
set_option linter.unusedVariables false
set_option linter.unusedSimpArgs false
namespace Go.Proofs.YtgcddjgkieambaaGreatDoor
open Go.RowKit

/-- A slice of numbers in memory, from the head of its block; an empty one may be anything. -/
def Idx (w : World) (A : Option Addr) (n : Nat) (s : List Nat) : Prop :=
  n = s.length ∧ (0 < s.length → ∃ b, A = some ⟨b, 0, none⟩ ∧ b < w.heap.size ∧ ∀ j, j < s.length → w.cell? ⟨b, j, none⟩ = some (.int .i64 (s.getD j 0 : Nat)))
theorem Idx.later {w w' : World} {A : Option Addr} {n : Nat} {s : List Nat} (h : Idx w A n s) (hb : Below w.heap.size w w') : Idx w' A n s :=
  ⟨h.1, fun hp => by
    obtain ⟨b, e, hl, hc⟩ := h.2 hp
    exact ⟨b, e, Nat.lt_of_lt_of_le hl hb.size, fun j hj => (hb.cell (p := ⟨b, j, none⟩) hl).trans (hc j hj)⟩⟩

/-- What is heard: the costs of a mode, and two texts of characters. -/
structure Heard (w : World) (mode : Int) (T : TypeId) (x : Value) (A B : Option Addr) (n m : Nat) (s h : List Nat) : Prop where
  c : ∃ fm fe fs, Costs w mode T x fm fe fs
  a : Idx w A n s
  b : Idx w B m h
  sa : ∀ j, j < s.length → s.getD j 0 < 37
  hb : ∀ j, j < h.length → h.getD j 0 < 37
  sl : s.length ≤ 64
  hl : h.length ≤ 64
theorem Heard.later {w w' : World} {mode : Int} {T : TypeId} {x : Value} {A B : Option Addr} {n m : Nat} {s h : List Nat} (H : Heard w mode T x A B n m s h) (hb : Below w.heap.size w w') : Heard w' mode T x A B n m s h :=
  ⟨by obtain ⟨a, b, c, h⟩ := H.c; exact ⟨a, b, c, h.later hb⟩, H.a.later hb, H.b.later hb, H.sa, H.hb, H.sl, H.hl⟩

/-- The cost of a swap of two places. -/
def atC (mode : Int) (s h : List Nat) (i k : Nat) : Int := Cm.sw mode (s.getD i 0) (h.getD k 0)

set_option maxRecDepth 100000 in
set_option maxHeartbeats 1000000 in
theorem at_any (mode : Int) (T : TypeId) (x : Value) (A B : Option Addr) (n m ca cb : Nat) (s h : List Nat) (i k : Int) (w : World) (H : Heard w mode T x A B n m s h)
    (h0 : 0 ≤ i) (h1 : i < s.length) (h2 : 0 ≤ k) (h3 : k < h.length) :
    Calls Tryz.prog 69 #[.agg #[.iface T x, .slice A n ca, .slice B m cb], .int .i64 i, .int .i64 k] w fun e w' => e = .returned (.int .i64 (atC mode s h i.toNat k.toNat)) ∧ Below w.heap.size w w' := by
  obtain ⟨i, rfl⟩ := Int.eq_ofNat_of_zero_le h0
  obtain ⟨k, rfl⟩ := Int.eq_ofNat_of_zero_le h2
  simp only [Int.toNat_natCast]
  obtain ⟨fm, fe, fs, hc⟩ := H.c
  have hsa := H.sa i (by omega)
  have hsb := H.hb k (by omega)
  have la := H.sl
  have lb := H.hl
  obtain ⟨ba, rfl, ha1, ha2⟩ := H.a.2 (by omega)
  obtain ⟨bb, rfl, hb1, hb2⟩ := H.b.2 (by omega)
  obtain rfl := H.a.1
  obtain rfl := H.b.1
  obtain ⟨si, hsi⟩ : ∃ z, z = s.getD i 0 := ⟨_, rfl⟩
  obtain ⟨hk, hhk⟩ : ∃ z, z = h.getD k 0 := ⟨_, rfl⟩
  have cA := ha2 i (by omega)
  have cB := hb2 k (by omega)
  have hat : atC mode s h i k = Cm.sw mode si hk := by rw [hsi, hhk]; rfl
  rw [← hsi] at cA hsa
  rw [← hhk] at cB hsb
  rw [hat]
  clear hsi hhk hat
  obtain ⟨W, hW⟩ : ∃ W, W = w.alloc (.cells #[.iface T x, .slice (some ⟨ba, 0, none⟩) s.length ca, .slice (some ⟨bb, 0, none⟩) h.length cb] 75) := ⟨_, rfl⟩
  have hbW : Below w.heap.size w W := hW ▸ below_alloc0 _
  have hB : Blk W w.heap.size 75 _ := hW ▸ Blk.new w 75 _
  have c0 : W.cell? ⟨w.heap.size, 0, none⟩ = some (.iface T x) := hB.cell 0
  have c1 : W.cell? ⟨w.heap.size, 1, none⟩ = some (.slice (some ⟨ba, 0, none⟩) s.length ca) := hB.cell 1
  have c2 : W.cell? ⟨w.heap.size, 2, none⟩ = some (.slice (some ⟨bb, 0, none⟩) h.length cb) := hB.cell 2
  have c3 := (hbW.cell (p := ⟨ba, i, none⟩) ha1).trans cA
  have c4 := (hbW.cell (p := ⟨bb, k, none⟩) hb1).trans cB
  have l0 := hB.lt
  have l1 : ba < W.heap.size := Nat.lt_of_lt_of_le ha1 hbW.size
  have l2 : bb < W.heap.size := Nat.lt_of_lt_of_le hb1 hbW.size
  have hcs := Lib.hid (fun W' hB => (hc.later hbW).cs W' _ _ hsa hsb hB)
  have hms := hc.ms
  have hes := hc.es
  unfold Enters at hes
  clear hc H ha2 hb2 cA cB hB
  have HbW := Lib.hid hbW
  go_enter Tryz.func69, Tryz.ntmps69
  go_wp2
  rw [← hW]
  clear hW hbW
  go_region_held3 (fun w' => w'.cell? ⟨w.heap.size, 0, none⟩ = some (.iface T x) ∧ w'.cell? ⟨w.heap.size, 1, none⟩ = some (.slice (some ⟨ba, 0, none⟩) s.length ca) ∧ w'.cell? ⟨w.heap.size, 2, none⟩ = some (.slice (some ⟨bb, 0, none⟩) h.length cb) ∧ w'.cell? ⟨ba, i, none⟩ = some (.int .i64 (si : Int)) ∧ w'.cell? ⟨bb, k, none⟩ = some (.int .i64 (hk : Int))) (simp [*]) (first | (go_at_fn fs; refine (hcs.out _ (Below.refl _ _).drew).mono ?_; rintro e w1 ⟨rfl, hbc⟩; have d0 := (hbc.cell (p := ⟨w.heap.size, 0, none⟩) l0).trans c0; have d1 := (hbc.cell (p := ⟨w.heap.size, 1, none⟩) l0).trans c1; have d2 := (hbc.cell (p := ⟨w.heap.size, 2, none⟩) l0).trans c2; have d3 := (hbc.cell (p := ⟨ba, i, none⟩) l1).trans c3; have d4 := (hbc.cell (p := ⟨bb, k, none⟩) l2).trans c4))
  go_wp2
  go_ret
  exact ⟨rfl, below_trans' HbW.out.drew (by assumption)⟩

theorem Tab.less {w : World} {B B' : Nat} {v : Value} {n m : Nat} {f : Nat → Nat → Int} (h : Tab w B v n m f) (hB : B' ≤ B) : Tab w B' v n m f := by
  obtain ⟨g, r, e, h1, h2, h3⟩ := h
  exact ⟨g, r, e, Nat.le_trans hB h1, h2, fun j hj => ⟨Nat.le_trans hB (h3 j hj).1, (h3 j hj).2⟩⟩

set_option maxRecDepth 100000 in
set_option maxHeartbeats 1000000 in
theorem table_heard (mode : Int) (T : TypeId) (x : Value) (A B : Option Addr) (n m ca cb : Nat) (s h : List Nat) (w : World) (H : Heard w mode T x A B n m s h) :
    Calls Tryz.prog 67 #[.agg #[.iface T x, .slice A n ca, .slice B m cb]] w fun e w' => ∃ v, e = .returned v ∧ Tab w' w.heap.size v (s.length + 1) (h.length + 1) (Cm.T (Cm.missC mode) (Cm.extraC mode) (atC mode s h)) ∧ Below w.heap.size w w' := by
  obtain ⟨fm, fe, fs, hc⟩ := H.c
  have la := H.sl
  have lb := H.hl
  obtain rfl := H.a.1
  obtain rfl := H.b.1
  obtain ⟨W, hW⟩ : ∃ W, W = w.alloc (.cells #[.iface T x, .slice A s.length ca, .slice B h.length cb] 75) := ⟨_, rfl⟩
  have hbW : Below w.heap.size w W := hW ▸ below_alloc0 _
  have hB : Blk W w.heap.size 75 _ := hW ▸ Blk.new w 75 _
  have c0 : W.cell? ⟨w.heap.size, 0, none⟩ = some (.iface T x) := hB.cell 0
  have c1 : W.cell? ⟨w.heap.size, 1, none⟩ = some (.slice A s.length ca) := hB.cell 1
  have c2 : W.cell? ⟨w.heap.size, 2, none⟩ = some (.slice B h.length cb) := hB.cell 2
  have l0 := hB.lt
  have hcm := Lib.hid (fun W' hB => (hc.later hbW).cm W' hB)
  have hce := Lib.hid (fun W' hB => (hc.later hbW).ce W' hB)
  have hmm := hc.mm
  have hem := hc.em
  have hme := hc.me
  have hee := hc.ee
  unfold Enters at hem hee
  have hmf : ∀ (fn : Fn) (first cap : Array Value) (w : World), (Instr.makeFunc fn first cap).run Tryz.prog w = .ok (.func fn first cap) w := fun _ _ _ _ => rfl
  have bm := Cm.missC_bd mode
  have be := Cm.extraC_bd mode
  have hF : ∀ W1 : World, Below W.heap.size W W1 → Calls Tryz.prog 110 #[.int .i64 s.length, .int .i64 h.length, .func (.func 69) #[.agg #[.iface T x, .slice A s.length ca, .slice B h.length cb]] #[], .int .i64 (Cm.missC mode), .int .i64 (Cm.extraC mode)] W1 fun e w' => ∃ v, e = .returned v ∧ Tab w' W1.heap.size v (s.length + 1) (h.length + 1) (Cm.T (Cm.missC mode) (Cm.extraC mode) (atC mode s h)) ∧ Below W1.heap.size W1 w' := fun W1 hB1 =>
    filled_any 69 #[.agg #[.iface T x, .slice A s.length ca, .slice B h.length cb]] #[] (enters_of Tryz.func69 (by kernel_rfl) rfl) s.length h.length _ _ (atC mode s h) W1 (by omega) (by omega) bm be (fun i k => Cm.sw_bd mode _ _)
      (fun W2 x y a1 a2 a3 a4 hB2 => at_any mode T _ A B _ _ ca cb s h x y W2 (((H.later hbW).later hB1).later hB2) a1 a2 a3 a4)
  have HF := Lib.hid hF
  clear hc H hF hB bm be
  have HbW := Lib.hid hbW
  go_enter Tryz.func67, Tryz.ntmps67
  go_wp2
  rw [← hW]
  clear hW hbW
  have hW0 : Below W.heap.size W W.drew := (Below.refl _ _).drew
  go_region_held3 (fun w' => w'.cell? ⟨w.heap.size, 0, none⟩ = some (.iface T x) ∧ w'.cell? ⟨w.heap.size, 1, none⟩ = some (.slice A s.length ca) ∧ w'.cell? ⟨w.heap.size, 2, none⟩ = some (.slice B h.length cb)) (simp [*]) (first | (go_at_fn fm; refine (hcm.out _ hW0).mono ?_; rintro e w1 ⟨rfl, hbc⟩; have hW1 := below_trans' hW0 hbc; have d0 := (hW1.cell (p := ⟨w.heap.size, 0, none⟩) l0).trans c0; have d1 := (hW1.cell (p := ⟨w.heap.size, 1, none⟩) l0).trans c1; have d2 := (hW1.cell (p := ⟨w.heap.size, 2, none⟩) l0).trans c2) | (go_at_fn fe; refine (hce.out _ hW1).mono ?_; rintro e w2 ⟨rfl, hbc2⟩; have hW2 := below_trans' hW1 hbc2; have g0 := (hW2.cell (p := ⟨w.heap.size, 0, none⟩) l0).trans c0; have g1 := (hW2.cell (p := ⟨w.heap.size, 1, none⟩) l0).trans c1; have g2 := (hW2.cell (p := ⟨w.heap.size, 2, none⟩) l0).trans c2) | (go_at_call 110; refine (HF.out _ hW2).mono ?_; rintro e w3 ⟨v, rfl, hT, hbc3⟩; have hW3 := below_trans' hW2 hbc3; have k0 := (hW3.cell (p := ⟨w.heap.size, 0, none⟩) l0).trans c0; have k1 := (hW3.cell (p := ⟨w.heap.size, 1, none⟩) l0).trans c1; have k2 := (hW3.cell (p := ⟨w.heap.size, 2, none⟩) l0).trans c2))
  all_goals
    go_wp2
    go_ret
    exact ⟨_, rfl, hT.less (Nat.le_trans HbW.out.size hW2.size), below_trans' HbW.out hW3⟩

end Go.Proofs.YtgcddjgkieambaaGreatDoor
