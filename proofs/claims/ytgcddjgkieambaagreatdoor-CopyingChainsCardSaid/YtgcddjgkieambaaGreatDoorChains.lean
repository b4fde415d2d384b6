/- CopyingChains: the walk of the statement's function. -/
import Derived.Test.YtgcddjgkieambaaGreatDoorRefChC
import Derived.Test.YtgcddjgkieambaaGreatDoorRises
set_option linter.unusedVariables false
set_option linter.unusedSimpArgs false
namespace Go.Proofs.YtgcddjgkieambaaGreatDoor
open Go.RowKit

/-- Whether the statement looks at all at lists of so many numbers. -/
def chLook (n m : Nat) : Bool := !((decide (100 < n) && decide (n ≤ 400)) || decide (800 < n) || decide (200 < m))

set_option maxRecDepth 100000 in
set_option maxHeartbeats 4000000 in
theorem Chains_long (m : Int) (x y code : ByteArray) (a b most : Int) (v7 v8 v9 : Value) (A B : Option Addr) (c d : Nat) (l r : List Int) (w : World) (hP : Pow w) (hl : (100 < l.length ∧ l.length ≤ 400) ∨ 800 < l.length ∨ 200 < r.length) :
    Calls Tryz.prog 6 #[.agg (askV m x y code a b most v7 v8 v9 (.slice A l.length c) (.slice B r.length d))] w fun e w' => e = .returned (.bool true) ∧ Below w.heap.size w w' := by
  have HB0 := Lib.hid (Blk.new w 40 (askV m x y code a b most v7 v8 v9 (.slice A l.length c) (.slice B r.length d)))
  have HA := Lib.hid (fun o => awake_any (w.alloc o) (hP.later (below_alloc0 _)))
  clear hP
  by_cases h1 : 100 < l.length
  · have d1 : decide ((100 : Int) < (l.length : Int)) = true := by simp; omega
    by_cases h2 : l.length ≤ 400
    · have d2 : decide ((l.length : Int) ≤ 400) = true := by simp; omega
      clear hl h1 h2
      go_enter Tryz.func6, Tryz.ntmps6
      go_wp2_with (go_at_call 18; refine (HA.out _).mono ?_; rintro e w1 ⟨rfl, hb1⟩; have hB := HB0.out.later hb1; have hbt := below_trans' (below_alloc0 _) hb1; obtain ⟨_, _, _, _, _, _, _, _, _, _, k10, k11⟩ := blk12 hB)
      go_ret
      exact ⟨rfl, hbt⟩
    · have d2 : decide ((l.length : Int) ≤ 400) = false := by simp; omega
      by_cases h3 : 800 < l.length
      · have d3 : decide ((800 : Int) < (l.length : Int)) = true := by simp; omega
        clear hl h1 h2 h3
        go_enter Tryz.func6, Tryz.ntmps6
        go_wp2_with (go_at_call 18; refine (HA.out _).mono ?_; rintro e w1 ⟨rfl, hb1⟩; have hB := HB0.out.later hb1; have hbt := below_trans' (below_alloc0 _) hb1; obtain ⟨_, _, _, _, _, _, _, _, _, _, k10, k11⟩ := blk12 hB)
        go_ret
        exact ⟨rfl, hbt⟩
      · have d3 : decide ((800 : Int) < (l.length : Int)) = false := by simp; omega
        have d4 : decide ((200 : Int) < (r.length : Int)) = true := by simp; omega
        clear hl h1 h2 h3
        go_enter Tryz.func6, Tryz.ntmps6
        go_wp2_with (go_at_call 18; refine (HA.out _).mono ?_; rintro e w1 ⟨rfl, hb1⟩; have hB := HB0.out.later hb1; have hbt := below_trans' (below_alloc0 _) hb1; obtain ⟨_, _, _, _, _, _, _, _, _, _, k10, k11⟩ := blk12 hB)
        go_ret
        exact ⟨rfl, hbt⟩
  · have d1 : decide ((100 : Int) < (l.length : Int)) = false := by simp; omega
    have d3 : decide ((800 : Int) < (l.length : Int)) = false := by simp; omega
    have d4 : decide ((200 : Int) < (r.length : Int)) = true := by simp; omega
    clear hl h1
    go_enter Tryz.func6, Tryz.ntmps6
    go_wp2_with (go_at_call 18; refine (HA.out _).mono ?_; rintro e w1 ⟨rfl, hb1⟩; have hB := HB0.out.later hb1; have hbt := below_trans' (below_alloc0 _) hb1; obtain ⟨_, _, _, _, _, _, _, _, _, _, k10, k11⟩ := blk12 hB)
    go_ret
    exact ⟨rfl, hbt⟩

set_option maxRecDepth 100000 in
set_option maxHeartbeats 8000000 in
theorem Chains_go (m : Int) (x y code : ByteArray) (a b most : Int) (v7 v8 v9 : Value) (A B : Option Addr) (c d : Nat) (l r : List Int) (w : World) (hP : Pow w) (hN : Nums w A l) (hM : Nums w B r) (hr : r.length ≤ 200)
    (xs ys : List Int) (er n k : Int) (hxs : xs.length ≤ 1000000) (hys : ys.length ≤ 1000000)
    (h28 : ∀ W, Below w.heap.size w W → Calls Tryz.prog 28 #[.slice A l.length c] W fun e w' => ∃ R cr, e = .returned (.tuple #[.slice R xs.length cr, .int .i64 er]) ∧ Nums w' R xs ∧ Below W.heap.size W w')
    (h29 : ∀ W, Below w.heap.size w W → Calls Tryz.prog 29 #[.slice A l.length c] W fun e w' => ∃ R cr, e = .returned (.tuple #[.slice R xs.length cr, .int .i64 er]) ∧ Nums w' R xs ∧ Below W.heap.size W w')
    (h30 : ∀ W, Below w.heap.size w W → Calls Tryz.prog 30 #[.slice A l.length c] W fun e w' => ∃ R cr, e = .returned (.tuple #[.slice R ys.length cr, .int .i64 er]) ∧ Nums w' R ys ∧ Below W.heap.size W w')
    (h31 : ∀ W, Below w.heap.size w W → Calls Tryz.prog 31 #[.slice A l.length c] W fun e w' => ∃ R cr, e = .returned (.tuple #[.slice R ys.length cr, .int .i64 er]) ∧ Nums w' R ys ∧ Below W.heap.size W w')
    (h32 : ∀ W, Below w.heap.size w W → Calls Tryz.prog 32 #[.slice A l.length c, .slice B r.length d] W fun e w' => e = .returned (.tuple #[.int .i64 n, .int .i64 k]) ∧ ∃ q, w' = W.drewN q)
    (h33 : ∀ W, Below w.heap.size w W → Calls Tryz.prog 33 #[.slice A l.length c, .slice B r.length d] W fun e w' => e = .returned (.tuple #[.int .i64 n, .int .i64 k]) ∧ ∃ q, w' = W.drewN q) :
    ∀ (hlook : (¬ (100 < l.length ∧ l.length ≤ 400)) ∧ l.length ≤ 800), Calls Tryz.prog 6 #[.agg (askV m x y code a b most v7 v8 v9 (.slice A l.length c) (.slice B r.length d))] w fun e w' => e = .returned (.bool true) ∧ Below w.heap.size w w' := by
  intro hlook
  have HB0 := Lib.hid (Blk.new w 40 (askV m x y code a b most v7 v8 v9 (.slice A l.length c) (.slice B r.length d)))
  have HA := Lib.hid (fun o => awake_any (w.alloc o) (hP.later (below_alloc0 _)))
  have H28 := Lib.hid h28
  have H29 := Lib.hid h29
  have H30 := Lib.hid h30
  have H31 := Lib.hid h31
  have H32 := Lib.hid h32
  have H33 := Lib.hid h33
  have HSx := Lib.hid (fun (R R' : Option Addr) (cr cr' : Nat) W (h : Nums W R xs) (h' : Nums W R' xs) => same_any R R' cr cr' xs xs W h h' hxs)
  have HSy := Lib.hid (fun (R R' : Option Addr) (cr cr' : Nat) W (h : Nums W R ys) (h' : Nums W R' ys) => same_any R R' cr cr' ys ys W h h' hys)
  rw [decide_eq_true (rfl : xs = xs)] at HSx
  rw [decide_eq_true (rfl : ys = ys)] at HSy
  have d3 : decide ((800 : Int) < (l.length : Int)) = false := by simp; omega
  have d4 : decide ((200 : Int) < (r.length : Int)) = false := by simp; omega
  clear hP hN hM h28 h29 h30 h31 h32 h33 hxs hys
  by_cases h1 : 100 < l.length
  · have d1 : decide ((100 : Int) < (l.length : Int)) = true := by simp; omega
    have d2 : decide ((l.length : Int) ≤ 400) = false := by simp; omega
    clear h1 hlook hr
    go_enter Tryz.func6, Tryz.ntmps6
    go_wp2_with (first
      | (go_at_call 18; refine (HA.out _).mono ?_; rintro e w1 ⟨rfl, hb1⟩; have hB := HB0.out.later hb1; have hbt := below_trans' (below_alloc0 _) hb1; obtain ⟨_, _, _, _, _, _, _, _, _, _, k10, k11⟩ := blk12 hB)
      | (go_at_call 28; refine (H28.out _ hbt).mono ?_; rintro e w2 ⟨R1, c1, rfl, n1, hb2⟩; have hB := hB.later hb2; have hbt := below_trans' hbt hb2; obtain ⟨_, _, _, _, _, _, _, _, _, _, k10, k11⟩ := blk12 hB)
      | (go_at_call 29; refine (H29.out _ hbt).mono ?_; rintro e w3 ⟨R2, c2, rfl, n2, hb3⟩; have hB := hB.later hb3; have hbt := below_trans' hbt hb3; have n1 := n1.later hb3; obtain ⟨_, _, _, _, _, _, _, _, _, _, k10, k11⟩ := blk12 hB)
      | (go_at_call 30; refine (H30.out _ hbt).mono ?_; rintro e w4 ⟨R3, c3, rfl, n3, hb4⟩; have hB := hB.later hb4; have hbt := below_trans' hbt hb4; have n1 := n1.later hb4; have n2 := n2.later hb4; obtain ⟨_, _, _, _, _, _, _, _, _, _, k10, k11⟩ := blk12 hB)
      | (go_at_call 31; refine (H31.out _ hbt).mono ?_; rintro e w5 ⟨R4, c4, rfl, n4, hb5⟩; have hB := hB.later hb5; have hbt := below_trans' hbt hb5; have n1 := n1.later hb5; have n2 := n2.later hb5; have n3 := n3.later hb5; obtain ⟨_, _, _, _, _, _, _, _, _, _, k10, k11⟩ := blk12 hB)
      | (go_at_call 32; refine (H32.out _ hbt).mono ?_; rintro e w6 ⟨rfl, q6, hw6⟩; have hb6 := below_of_drew hw6; clear hw6; have hB := hB.later hb6; have hbt := below_trans' hbt hb6; have n1 := n1.later hb6; have n2 := n2.later hb6; have n3 := n3.later hb6; have n4 := n4.later hb6; obtain ⟨_, _, _, _, _, _, _, _, _, _, k10, k11⟩ := blk12 hB)
      | (go_at_call 33; refine (H33.out _ hbt).mono ?_; rintro e w7 ⟨rfl, q7, hw7⟩; have hb7 := below_of_drew hw7; clear hw7; have hB := hB.later hb7; have hbt := below_trans' hbt hb7; have n1 := n1.later hb7; have n2 := n2.later hb7; have n3 := n3.later hb7; have n4 := n4.later hb7; obtain ⟨_, _, _, _, _, _, _, _, _, _, k10, k11⟩ := blk12 hB)
      | (go_at_call 34; ((with_reducible refine (HSx.out R1 R2 c1 c2 _ n1 n2).mono ?_); rintro e w8 ⟨rfl, q8, hw8⟩; have hb8 := below_of_drew hw8; clear hw8; have hB := hB.later hb8; have hbt := below_trans' hbt hb8; have n3 := n3.later hb8; have n4 := n4.later hb8; obtain ⟨_, _, _, _, _, _, _, _, _, _, k10, k11⟩ := blk12 hB))
      | (go_at_call 34; ((with_reducible refine (HSy.out R3 R4 c3 c4 _ n3 n4).mono ?_); rintro e w9 ⟨rfl, q9, hw9⟩; have hb9 := below_of_drew hw9; clear hw9; have hB := hB.later hb9; have hbt := below_trans' hbt hb9; obtain ⟨_, _, _, _, _, _, _, _, _, _, k10, k11⟩ := blk12 hB)))
    go_ret
    exact ⟨by simp, hbt⟩
  · have d1 : decide ((100 : Int) < (l.length : Int)) = false := by simp; omega
    clear h1 hlook hr
    go_enter Tryz.func6, Tryz.ntmps6
    go_wp2_with (first
      | (go_at_call 18; refine (HA.out _).mono ?_; rintro e w1 ⟨rfl, hb1⟩; have hB := HB0.out.later hb1; have hbt := below_trans' (below_alloc0 _) hb1; obtain ⟨_, _, _, _, _, _, _, _, _, _, k10, k11⟩ := blk12 hB)
      | (go_at_call 28; refine (H28.out _ hbt).mono ?_; rintro e w2 ⟨R1, c1, rfl, n1, hb2⟩; have hB := hB.later hb2; have hbt := below_trans' hbt hb2; obtain ⟨_, _, _, _, _, _, _, _, _, _, k10, k11⟩ := blk12 hB)
      | (go_at_call 29; refine (H29.out _ hbt).mono ?_; rintro e w3 ⟨R2, c2, rfl, n2, hb3⟩; have hB := hB.later hb3; have hbt := below_trans' hbt hb3; have n1 := n1.later hb3; obtain ⟨_, _, _, _, _, _, _, _, _, _, k10, k11⟩ := blk12 hB)
      | (go_at_call 30; refine (H30.out _ hbt).mono ?_; rintro e w4 ⟨R3, c3, rfl, n3, hb4⟩; have hB := hB.later hb4; have hbt := below_trans' hbt hb4; have n1 := n1.later hb4; have n2 := n2.later hb4; obtain ⟨_, _, _, _, _, _, _, _, _, _, k10, k11⟩ := blk12 hB)
      | (go_at_call 31; refine (H31.out _ hbt).mono ?_; rintro e w5 ⟨R4, c4, rfl, n4, hb5⟩; have hB := hB.later hb5; have hbt := below_trans' hbt hb5; have n1 := n1.later hb5; have n2 := n2.later hb5; have n3 := n3.later hb5; obtain ⟨_, _, _, _, _, _, _, _, _, _, k10, k11⟩ := blk12 hB)
      | (go_at_call 32; refine (H32.out _ hbt).mono ?_; rintro e w6 ⟨rfl, q6, hw6⟩; have hb6 := below_of_drew hw6; clear hw6; have hB := hB.later hb6; have hbt := below_trans' hbt hb6; have n1 := n1.later hb6; have n2 := n2.later hb6; have n3 := n3.later hb6; have n4 := n4.later hb6; obtain ⟨_, _, _, _, _, _, _, _, _, _, k10, k11⟩ := blk12 hB)
      | (go_at_call 33; refine (H33.out _ hbt).mono ?_; rintro e w7 ⟨rfl, q7, hw7⟩; have hb7 := below_of_drew hw7; clear hw7; have hB := hB.later hb7; have hbt := below_trans' hbt hb7; have n1 := n1.later hb7; have n2 := n2.later hb7; have n3 := n3.later hb7; have n4 := n4.later hb7; obtain ⟨_, _, _, _, _, _, _, _, _, _, k10, k11⟩ := blk12 hB)
      | (go_at_call 34; ((with_reducible refine (HSx.out R1 R2 c1 c2 _ n1 n2).mono ?_); rintro e w8 ⟨rfl, q8, hw8⟩; have hb8 := below_of_drew hw8; clear hw8; have hB := hB.later hb8; have hbt := below_trans' hbt hb8; have n3 := n3.later hb8; have n4 := n4.later hb8; obtain ⟨_, _, _, _, _, _, _, _, _, _, k10, k11⟩ := blk12 hB))
      | (go_at_call 34; ((with_reducible refine (HSy.out R3 R4 c3 c4 _ n3 n4).mono ?_); rintro e w9 ⟨rfl, q9, hw9⟩; have hb9 := below_of_drew hw9; clear hw9; have hB := hB.later hb9; have hbt := below_trans' hbt hb9; obtain ⟨_, _, _, _, _, _, _, _, _, _, k10, k11⟩ := blk12 hB)))
    go_ret
    exact ⟨by simp, hbt⟩

theorem Chains_any (m : Int) (x y code : ByteArray) (a b most : Int) (v7 v8 v9 : Value) (A B : Option Addr) (c d : Nat) (l r : List Int) (w : World) (hP : Pow w) (hN : Nums w A l) (hM : Nums w B r) :
    Calls Tryz.prog 6 #[.agg (askV m x y code a b most v7 v8 v9 (.slice A l.length c) (.slice B r.length d))] w fun e w' => e = .returned (.bool true) ∧ Below w.heap.size w w' := by
  by_cases hl : (100 < l.length ∧ l.length ≤ 400) ∨ 800 < l.length ∨ 200 < r.length
  · exact Chains_long m x y code a b most v7 v8 v9 A B c d l r w hP hl
  · have hk : ∀ W, Below w.heap.size w W → Calls Tryz.prog 32 #[.slice A l.length c, .slice B r.length d] W fun e w' => e = .returned (.tuple #[.int .i64 (ckN l r), .int .i64 (ckE l r)]) ∧ ∃ q, w' = W.drewN q := fun W hb => ckRise_any A B c d l r W (hN.later hb) (hM.later hb)
    have hk2 : ∀ W, Below w.heap.size w W → Calls Tryz.prog 33 #[.slice A l.length c, .slice B r.length d] W fun e w' => e = .returned (.tuple #[.int .i64 (ckN l r), .int .i64 (ckE l r)]) ∧ ∃ q, w' = W.drewN q := fun W hb => refCk_any A B c d l r W (hN.later hb) (hM.later hb) (by omega)
    by_cases he : serErr l = 0
    · have hl4 := serErr_len he
      have hcl := Cm.chain_length (l := l)
      have hbb := Cm.best_le (l := l)
      refine Chains_go m x y code a b most v7 v8 v9 A B c d l r w hP hN hM (by omega) ((Cm.chain l).map fun (k : Nat) => (k : Int)) (Cm.rise l (Cm.chain l)) 0 (ckN l r) (ckE l r) (by rw [List.length_map]; omega) (by rw [Cm.rise_length]; omega) ?_ ?_ ?_ ?_ hk hk2 ⟨by omega, by omega⟩
      · exact fun W hb => (Chain_ok A c l W (hN.later hb) he).mono fun e w' ⟨v, h1, h2, h3⟩ => by obtain ⟨R, cr, rfl, hR⟩ := h2.form; exact ⟨R, cr, h1, hR, h3⟩
      · exact fun W hb => (refChain_ok A c l W (hN.later hb) he).mono fun e w' ⟨v, h1, h2, h3⟩ => by obtain ⟨R, cr, rfl, hR⟩ := h2.form; exact ⟨R, cr, h1, hR, h3⟩
      · exact fun W hb => (Rise_ok A c l W (hN.later hb) he).mono fun e w' ⟨v, h1, h2, h3⟩ => by obtain ⟨R, cr, rfl, hR⟩ := h2.form; exact ⟨R, cr, h1, hR, h3⟩
      · exact fun W hb => (refRise_ok A c l W (hN.later hb) he).mono fun e w' ⟨v, h1, h2, h3⟩ => by obtain ⟨R, cr, rfl, hR⟩ := h2.form; exact ⟨R, cr, h1, hR, h3⟩
    · have hnil : ∀ W : World, Nums W none [] := fun W j hj => by simp at hj
      refine Chains_go m x y code a b most v7 v8 v9 A B c d l r w hP hN hM (by omega) [] [] (serErr l) (ckN l r) (ckE l r) (by simp) (by simp) ?_ ?_ ?_ ?_ hk hk2 ⟨by omega, by omega⟩
      · exact fun W hb => (Chain_no A c l W (hN.later hb) he).mono fun e w' ⟨h1, h2⟩ => ⟨none, 0, h1, hnil w', h2⟩
      · exact fun W hb => (refChain_no A c l W (hN.later hb) he).mono fun e w' ⟨h1, h2⟩ => ⟨none, 0, h1, hnil w', h2 ▸ Below.refl _ _⟩
      · exact fun W hb => (Rise_no A c l W (hN.later hb) he).mono fun e w' ⟨h1, h2⟩ => ⟨none, 0, h1, hnil w', h2⟩
      · exact fun W hb => (refRise_no A c l W (hN.later hb) he).mono fun e w' ⟨h1, h2⟩ => ⟨none, 0, h1, hnil w', h2 ▸ Below.refl _ _⟩
end Go.Proofs.YtgcddjgkieambaaGreatDoor
