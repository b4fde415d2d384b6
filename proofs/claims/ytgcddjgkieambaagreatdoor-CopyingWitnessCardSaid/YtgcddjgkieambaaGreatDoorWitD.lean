/- CopyingWitness: the walk of the statement's function. -/
import Derived.Test.YtgcddjgkieambaaGreatDoorWitA
import Derived.Test.YtgcddjgkieambaaGreatDoorWitC
import Derived.Test.YtgcddjgkieambaaGreatDoorRises
import Derived.Test.YtgcddjgkieambaaGreatDoorJoinsP
set_option linter.unusedVariables false
set_option linter.unusedSimpArgs false
namespace Go.Proofs.YtgcddjgkieambaaGreatDoor
open Go.RowKit

set_option maxRecDepth 100000 in
set_option maxHeartbeats 4000000 in
theorem Wit_long (m : Int) (x y code : ByteArray) (a b most : Int) (v7 v10 v11 : Value) (A B : Option Addr) (c d : Nat) (L : List (List Int)) (l : List (Int × Int × Int)) (w : World) (hP : Pow w) (hl : ¬ (x.size ≤ 200 ∧ y.size ≤ 200 ∧ l.length ≤ 200 ∧ L.length ≤ 100)) :
    Calls Tryz.prog 13 #[.agg (askV m x y code a b most v7 (.slice A L.length c) (.slice B l.length d) v10 v11)] w fun e w' => e = .returned (.bool true) ∧ Below w.heap.size w w' := by
  have HB0 := Lib.hid (Blk.new w 40 (askV m x y code a b most v7 (.slice A L.length c) (.slice B l.length d) v10 v11))
  have HA := Lib.hid (fun o => awake_any (w.alloc o) (hP.later (below_alloc0 _)))
  clear hP
  by_cases h1 : x.size ≤ 200
  · have d1 : decide ((x.size : Int) ≤ 200) = true := by simp; omega
    by_cases h2 : y.size ≤ 200
    · have d2 : decide ((y.size : Int) ≤ 200) = true := by simp; omega
      by_cases h3 : l.length ≤ 200
      · have d3 : decide ((200 : Int) < (l.length : Int)) = false := by simp; omega
        have d4 : decide ((100 : Int) < (L.length : Int)) = true := by simp; omega
        clear hl h1 h2 h3
        go_enter Tryz.func13, Tryz.ntmps13
        go_wp2_with (first
          | (go_at_call 18; refine (HA.out _).mono ?_; rintro e w1 ⟨rfl, hb1⟩; have hB := HB0.out.later hb1; have hbt := below_trans' (below_alloc0 _) hb1; obtain ⟨k0, k1, k2, _, _, _, _, _, k8, k9, _⟩ := blk12 hB)
          | (go_at_call 19; refine (brief_any _ _).mono ?_; rintro e w2 ⟨rfl, rfl⟩))
        go_ret
        exact ⟨rfl, hbt⟩
      · have d3 : decide ((200 : Int) < (l.length : Int)) = true := by simp; omega
        clear hl h1 h2 h3
        go_enter Tryz.func13, Tryz.ntmps13
        go_wp2_with (first
          | (go_at_call 18; refine (HA.out _).mono ?_; rintro e w1 ⟨rfl, hb1⟩; have hB := HB0.out.later hb1; have hbt := below_trans' (below_alloc0 _) hb1; obtain ⟨k0, k1, k2, _, _, _, _, _, k8, k9, _⟩ := blk12 hB)
          | (go_at_call 19; refine (brief_any _ _).mono ?_; rintro e w2 ⟨rfl, rfl⟩))
        go_ret
        exact ⟨rfl, hbt⟩
    · have d2 : decide ((y.size : Int) ≤ 200) = false := by simp; omega
      clear hl h1 h2
      go_enter Tryz.func13, Tryz.ntmps13
      go_wp2_with (first
        | (go_at_call 18; refine (HA.out _).mono ?_; rintro e w1 ⟨rfl, hb1⟩; have hB := HB0.out.later hb1; have hbt := below_trans' (below_alloc0 _) hb1; obtain ⟨k0, k1, k2, _, _, _, _, _, k8, k9, _⟩ := blk12 hB)
        | (go_at_call 19; refine (brief_any _ _).mono ?_; rintro e w2 ⟨rfl, rfl⟩))
      go_ret
      exact ⟨rfl, hbt⟩
  · have d1 : decide ((x.size : Int) ≤ 200) = false := by simp; omega
    clear hl h1
    go_enter Tryz.func13, Tryz.ntmps13
    go_wp2_with (first
      | (go_at_call 18; refine (HA.out _).mono ?_; rintro e w1 ⟨rfl, hb1⟩; have hB := HB0.out.later hb1; have hbt := below_trans' (below_alloc0 _) hb1; obtain ⟨k0, k1, k2, _, _, _, _, _, k8, k9, _⟩ := blk12 hB)
      | (go_at_call 19; refine (brief_any _ _).mono ?_; rintro e w2 ⟨rfl, rfl⟩))
    go_ret
    exact ⟨rfl, hbt⟩

set_option maxRecDepth 100000 in
set_option maxHeartbeats 4000000 in
theorem Wit_no (m : Int) (x y code : ByteArray) (a b most : Int) (v7 v10 v11 : Value) (A B : Option Addr) (c d : Nat) (L : List (List Int)) (l : List (Int × Int × Int)) (w : World) (hP : Pow w) (hl : x.size ≤ 200 ∧ y.size ≤ 200 ∧ l.length ≤ 200 ∧ L.length ≤ 100) (he : errOf m x y ≠ 0) :
    Calls Tryz.prog 13 #[.agg (askV m x y code a b most v7 (.slice A L.length c) (.slice B l.length d) v10 v11)] w fun e w' => e = .returned (.bool true) ∧ Below w.heap.size w w' := by
  have HB0 := Lib.hid (Blk.new w 40 (askV m x y code a b most v7 (.slice A L.length c) (.slice B l.length d) v10 v11))
  have HA := Lib.hid (fun o => awake_any (w.alloc o) (hP.later (below_alloc0 _)))
  have H20 := Lib.hid (fun W => Cost_no m x y W he)
  have H21 := Lib.hid (fun W => Align_no m x y W he)
  have H24 := Lib.hid (fun W => Table_no m x y W he)
  obtain ⟨er, her⟩ : ∃ er, er = errOf m x y := ⟨_, rfl⟩
  rw [← her] at H20 H21 H24 he
  have d5 : (er != 0) = true := by simpa using he
  have d1 : decide ((x.size : Int) ≤ 200) = true := by simp; omega
  have d2 : decide ((y.size : Int) ≤ 200) = true := by simp; omega
  have d3 : decide ((200 : Int) < (l.length : Int)) = false := by simp; omega
  have d4 : decide ((100 : Int) < (L.length : Int)) = false := by simp; omega
  clear hP hl he her
  go_enter Tryz.func13, Tryz.ntmps13
  go_wp2_with (first
    | (go_at_call 18; refine (HA.out _).mono ?_; rintro e w1 ⟨rfl, hb1⟩; have hB := HB0.out.later hb1; have hbt := below_trans' (below_alloc0 _) hb1; obtain ⟨k0, k1, k2, _, _, _, _, _, k8, k9, _⟩ := blk12 hB)
    | (go_at_call 19; refine (brief_any _ _).mono ?_; rintro e w2 ⟨rfl, rfl⟩)
    | (go_at_call 20; refine (H20.out _).mono ?_; rintro e w2 ⟨rfl, hb2⟩; have hB := hB.later hb2; have hbt := below_trans' hbt hb2; obtain ⟨k0, k1, k2, _, _, _, _, _, k8, k9, _⟩ := blk12 hB)
    | (go_at_call 21; refine (H21.out _).mono ?_; rintro e w3 ⟨rfl, hb3⟩; have hB := hB.later hb3; have hbt := below_trans' hbt hb3; obtain ⟨k0, k1, k2, _, _, _, _, _, k8, k9, _⟩ := blk12 hB)
    | (go_at_call 24; refine (H24.out _).mono ?_; rintro e w4 ⟨rfl, hb4⟩; have hB := hB.later hb4; have hbt := below_trans' hbt hb4; obtain ⟨k0, k1, k2, _, _, _, _, _, k8, k9, _⟩ := blk12 hB))
  go_ret
  exact ⟨by simp, hbt⟩

set_option maxRecDepth 100000 in
set_option maxHeartbeats 8000000 in
theorem Wit_go (m : Int) (x y code : ByteArray) (a b most : Int) (v7 v10 v11 : Value) (A B : Option Addr) (c d : Nat) (L : List (List Int)) (l : List (Int × Int × Int)) (w : World) (hP : Pow w) (hl : x.size ≤ 200 ∧ y.size ≤ 200 ∧ l.length ≤ 200 ∧ L.length ≤ 100)
    (co : Int) (xs : List (Int × Int × Int)) (LT : List (List Int)) (c2 k2 d2 m2 : Int)
    (h20 : ∀ W, Calls Tryz.prog 20 #[.int .i64 m, .string x, .string y] W fun e w' => e = .returned (.tuple #[.int .i64 co, .int .i64 0]) ∧ Below W.heap.size W w')
    (h21 : ∀ W, Calls Tryz.prog 21 #[.int .i64 m, .string x, .string y] W fun e w' => ∃ R cr, e = .returned (.tuple #[.slice R xs.length cr, .int .i64 0]) ∧ StepsG w' R xs ∧ Below W.heap.size W w')
    (h24 : ∀ W, Calls Tryz.prog 24 #[.int .i64 m, .string x, .string y] W fun e w' => ∃ R cr, e = .returned (.tuple #[.slice R LT.length cr, .int .i64 0]) ∧ RowsG w' R LT ∧ Below W.heap.size W w')
    (h48 : ∀ W R cr, StepsG W R xs → Calls Tryz.prog 48 #[.int .i64 m, .string x, .string y, .slice R xs.length cr] W fun e w' => e = .returned (.tuple #[.int .i64 co, .int .i64 0]) ∧ Below W.heap.size W w')
    (h50 : ∀ W R cr, RowsG W R LT → Calls Tryz.prog 50 #[.int .i64 m, .string x, .string y, .slice R LT.length cr] W fun e w' => e = .returned (.tuple #[.int .i64 co, .int .i64 0]) ∧ Below W.heap.size W w')
    (h48' : ∀ W, Below w.heap.size w W → Calls Tryz.prog 48 #[.int .i64 m, .string x, .string y, .slice B l.length d] W fun e w' => e = .returned (.tuple #[.int .i64 c2, .int .i64 k2]) ∧ Below W.heap.size W w')
    (h50' : ∀ W, Below w.heap.size w W → Calls Tryz.prog 50 #[.int .i64 m, .string x, .string y, .slice A L.length c] W fun e w' => e = .returned (.tuple #[.int .i64 d2, .int .i64 m2]) ∧ Below W.heap.size W w')
    (pk pm : Bool) (hk : (k2 != 0) = pk) (hm : (m2 != 0) = pm) (hkc : pk = false → co ≤ c2) (hmd : pm = false → d2 ≤ co) :
    Calls Tryz.prog 13 #[.agg (askV m x y code a b most v7 (.slice A L.length c) (.slice B l.length d) v10 v11)] w fun e w' => e = .returned (.bool true) ∧ Below w.heap.size w w' := by
  have HB0 := Lib.hid (Blk.new w 40 (askV m x y code a b most v7 (.slice A L.length c) (.slice B l.length d) v10 v11))
  have HA := Lib.hid (fun o => awake_any (w.alloc o) (hP.later (below_alloc0 _)))
  have H20 := Lib.hid h20
  have H21 := Lib.hid h21
  have H24 := Lib.hid h24
  have H48 := Lib.hid h48
  have H50 := Lib.hid h50
  have H48' := Lib.hid h48'
  have H50' := Lib.hid h50'
  have d1 : decide ((x.size : Int) ≤ 200) = true := by simp; omega
  have d2' : decide ((y.size : Int) ≤ 200) = true := by simp; omega
  have d3 : decide ((200 : Int) < (l.length : Int)) = false := by simp; omega
  have d4 : decide ((100 : Int) < (L.length : Int)) = false := by simp; omega
  have hco : (co != co) = false := by simp
  clear hP hl h20 h21 h24 h48 h50 h48' h50'
  have Hk : pk = true ∨ decide (co ≤ c2) = true := by
    cases pk
    · exact .inr (decide_eq_true (hkc rfl))
    · exact .inl rfl
  have Hm : pm = true ∨ decide (d2 ≤ co) = true := by
    cases pm
    · exact .inr (decide_eq_true (hmd rfl))
    · exact .inl rfl
  clear hkc hmd
  have fin : ∀ (p q r s : Bool), (p = true ∨ q = true) → (r = true ∨ s = true) → ((p || q) && (r || s)) = true := by
    intro p q r s h1 h2
    cases p <;> cases q <;> cases r <;> cases s <;> simp_all
  cases pk <;> cases pm
  all_goals
    have e1 : decide (co ≤ c2) = true ∨ True := Or.inr trivial
    clear e1
    simp only [Bool.false_eq_true, false_or, true_or, reduceCtorEq] at Hk Hm
    clear fin
    go_enter Tryz.func13, Tryz.ntmps13
    go_wp2_with (first
      | (go_at_call 18; refine (HA.out _).mono ?_; rintro e w1 ⟨rfl, hb1⟩; have hB := HB0.out.later hb1; have hbt := below_trans' (below_alloc0 _) hb1; obtain ⟨k0, k1, k2, _, _, _, _, _, k8, k9, _⟩ := blk12 hB)
      | (go_at_call 19; refine (brief_any _ _).mono ?_; rintro e w2 ⟨rfl, rfl⟩)
      | (go_at_call 20; refine (H20.out _).mono ?_; rintro e w2 ⟨rfl, hb2⟩; have hB := hB.later hb2; have hbt := below_trans' hbt hb2; obtain ⟨k0, k1, k2, _, _, _, _, _, k8, k9, _⟩ := blk12 hB)
      | (go_at_call 21; refine (H21.out _).mono ?_; rintro e w3 ⟨R1, c1, rfl, n1, hb3⟩; have hB := hB.later hb3; have hbt := below_trans' hbt hb3; obtain ⟨k0, k1, k2, _, _, _, _, _, k8, k9, _⟩ := blk12 hB)
      | (go_at_call 24; refine (H24.out _).mono ?_; rintro e w4 ⟨R2, cc2, rfl, n2, hb4⟩; have hB := hB.later hb4; have hbt := below_trans' hbt hb4; have n1 := n1.later hb4; obtain ⟨k0, k1, k2, _, _, _, _, _, k8, k9, _⟩ := blk12 hB)
      | (go_at_call 48; ((with_reducible refine (H48.out _ R1 c1 n1).mono ?_); rintro e w5 ⟨rfl, hb5⟩; have hB := hB.later hb5; have hbt := below_trans' hbt hb5; have n2 := n2.later hb5; obtain ⟨k0, k1, k2, _, _, _, _, _, k8, k9, _⟩ := blk12 hB))
      | (go_at_call 50; ((with_reducible refine (H50.out _ R2 cc2 n2).mono ?_); rintro e w6 ⟨rfl, hb6⟩; have hB := hB.later hb6; have hbt := below_trans' hbt hb6; obtain ⟨k0, k1, k2, _, _, _, _, _, k8, k9, _⟩ := blk12 hB))
      | (go_at_call 48; ((with_reducible refine (H48'.out _ hbt).mono ?_); rintro e w7 ⟨rfl, hb7⟩; have hB := hB.later hb7; have hbt := below_trans' hbt hb7; obtain ⟨k0, k1, k2, _, _, _, _, _, k8, k9, _⟩ := blk12 hB))
      | (go_at_call 50; ((with_reducible refine (H50'.out _ hbt).mono ?_); rintro e w8 ⟨rfl, hb8⟩; have hB := hB.later hb8; have hbt := below_trans' hbt hb8; obtain ⟨k0, k1, k2, _, _, _, _, _, k8, k9, _⟩ := blk12 hB)))
    go_ret
    exact ⟨by simp, hbt⟩

theorem rowsOf_len (n m : Nat) (f : Nat → Nat → Int) : (rowsOf n m f).length = n := by simp [rowsOf]
theorem rowsOf_at (n m : Nat) (f : Nat → Nat → Int) {i : Nat} (h : i < n) : (rowsOf n m f).getD i [] = (List.range m).map (f i) := getD_rangeMap n _ _ h
theorem fL_rowsOf (n m : Nat) (f : Nat → Nat → Int) {i k : Nat} (hi : i < n) (hk : k < m) : fL (rowsOf n m f) i k = f i k := by
  rw [fL, rowsOf_at n m f hi, getD_rangeMap m _ _ hk]
theorem formed_rowsOf (n m : Nat) (f : Nat → Nat → Int) (h : ∀ i k, i ≤ n → k ≤ m → 0 ≤ f i k ∧ f i k ≤ 20000) : formedB n m (rowsOf (n + 1) (m + 1) f) = true := by
  unfold formedB
  rw [decide_eq_true (rowsOf_len _ _ _), Bool.true_and, Bool.and_eq_true]
  refine ⟨(sized_iff _ _).2 fun j hj => ?_, (allBig_iff _).2 fun j hj => (noBig_iff _).2 fun k hk => ?_⟩
  · rw [rowsOf_len] at hj
    rw [rowsOf_at _ _ _ hj]; simp
  · rw [rowsOf_len] at hj
    rw [rowsOf_at _ _ _ hj] at hk ⊢
    have hk' : k < m + 1 := by simpa using hk
    rw [getD_rangeMap _ _ _ hk']
    have := h j k (by omega) (by omega)
    unfold bigNum
    rw [Bool.or_eq_false_iff, decide_eq_false_iff_not, decide_eq_false_iff_not]
    omega
theorem tabOk_congr {n m : Nat} {at_ : Nat → Nat → Int} {ms ex : Int} {f g : Nat → Nat → Int} (h : ∀ i k, i ≤ n → k ≤ m → f i k = g i k) : Cm.tabOk n m at_ ms ex f = Cm.tabOk n m at_ ms ex g := by
  have key : ∀ {f g : Nat → Nat → Int}, (∀ i k, i ≤ n → k ≤ m → f i k = g i k) → Cm.tabOk n m at_ ms ex f = true → Cm.tabOk n m at_ ms ex g = true := by
    intro f g h ht
    rw [Cm.tabOk_iff] at ht ⊢
    refine ⟨by rw [← h 0 0 (Nat.zero_le _) (Nat.zero_le _)]; exact ht.1, fun i hi k hk => ?_⟩
    rw [← Cm.cellOk_congr h hi hk]
    exact ht.2 i hi k hk
  cases e : Cm.tabOk n m at_ ms ex f
  · cases e2 : Cm.tabOk n m at_ ms ex g
    · rfl
    · rw [key (fun i k hi hk => (h i k hi hk).symm) e2] at e; cases e
  · exact (key h e).symm

theorem Wit_any (m : Int) (x y code : ByteArray) (a b most : Int) (v7 v10 v11 : Value) (A B : Option Addr) (c d : Nat) (L : List (List Int)) (l : List (Int × Int × Int)) (w : World) (hP : Pow w) (hN : RowsG w A L) (hM : StepsG w B l) :
    Calls Tryz.prog 13 #[.agg (askV m x y code a b most v7 (.slice A L.length c) (.slice B l.length d) v10 v11)] w fun e w' => e = .returned (.bool true) ∧ Below w.heap.size w w' := by
  by_cases hl : x.size ≤ 200 ∧ y.size ≤ 200 ∧ l.length ≤ 200 ∧ L.length ≤ 100
  · by_cases he : errOf m x y = 0
    · obtain ⟨_, l1, l2, _, _⟩ := errOf_ok he
      have hco : costOf m x y = Cm.mc m (row x) (row y) := costOf_mc he
      have hbd := fun i k (hi : i ≤ x.size) (hk : k ≤ y.size) => Cm.T_bd (Cm.missC m) (Cm.extraC m) (Cm.atL m (row x) (row y)) (Cm.missC_bd m) (Cm.extraC_bd m) (fun _ _ => Cm.atL_bd) i k (by omega) (by omega)
      have hform := formed_rowsOf x.size y.size (Cm.T (Cm.missC m) (Cm.extraC m) (Cm.atL m (row x) (row y))) hbd
      have htab : Cm.tabOk (row x).length (row y).length (Cm.atL m (row x) (row y)) (Cm.missC m) (Cm.extraC m) (fL (rowsOf (x.size + 1) (y.size + 1) (Cm.T (Cm.missC m) (Cm.extraC m) (Cm.atL m (row x) (row y))))) = true := by
        rw [tabOk_congr (g := Cm.T (Cm.missC m) (Cm.extraC m) (Cm.atL m (row x) (row y))) (fun i k hi hk => fL_rowsOf _ _ _ (by rw [row_length] at hi; omega) (by rw [row_length] at hk; omega))]
        exact Cm.tabOk_T
      have htb : ckTb m (row x) (row y) (rowsOf (x.size + 1) (y.size + 1) (Cm.T (Cm.missC m) (Cm.extraC m) (Cm.atL m (row x) (row y)))) = some (costOf m x y) := by
        unfold ckTb
        rw [row_length, row_length] at htab ⊢
        rw [hform, htab, Bool.true_and, if_pos rfl, fL_rowsOf _ _ _ (by omega) (by omega), costOf, if_pos he]
        rfl
      have hal : ckN1 m x y (Cm.ali m (row x) (row y)) = costOf m x y ∧ ckE1 m x y (Cm.ali m (row x) (row y)) = 0 := by
        rw [ckN1, ckE1, if_neg (fun h => h he), if_neg (fun h => h he), Cm.ckAl_ali, hco]
        exact ⟨rfl, rfl⟩
      have htb2 : ckN2 m x y (rowsOf (x.size + 1) (y.size + 1) (Cm.T (Cm.missC m) (Cm.extraC m) (Cm.atL m (row x) (row y)))) = costOf m x y ∧ ckE2 m x y (rowsOf (x.size + 1) (y.size + 1) (Cm.T (Cm.missC m) (Cm.extraC m) (Cm.atL m (row x) (row y)))) = 0 := by
        rw [ckN2, ckE2, if_neg (fun h => h he), if_neg (fun h => h he), htb]
        exact ⟨rfl, rfl⟩
      refine Wit_go m x y code a b most v7 v10 v11 A B c d L l w hP hl (costOf m x y) (Cm.ali m (row x) (row y)) (rowsOf (x.size + 1) (y.size + 1) (Cm.T (Cm.missC m) (Cm.extraC m) (Cm.atL m (row x) (row y)))) (ckN1 m x y l) (ckE1 m x y l) (ckN2 m x y L) (ckE2 m x y L)
        (fun W => Cost_ok m x y W he) ?_ ?_ ?_ ?_ ?_ ?_ _ _ rfl rfl ?_ ?_
      · exact fun W => (Align_ok m x y W he).mono fun e w' ⟨v, h1, h2, h3⟩ => by obtain ⟨R, cr, rfl, hR⟩ := h2.form; exact ⟨R, cr, h1, hR.toG, h3⟩
      · exact fun W => (Table_ok m x y W he).mono fun e w' ⟨v, h1, h2, h3⟩ => by obtain ⟨R, rfl, hR⟩ := h2.toG; exact ⟨R, _, h1, hR, h3⟩
      · intro W R cr hR
        have := CkAlign_any m x y R cr _ W hR (ali_length he)
        rwa [hal.1, hal.2] at this
      · intro W R cr hR
        have := CkTable_any m x y R cr _ W hR (by rw [rowsOf_len]; omega)
        rwa [htb2.1, htb2.2] at this
      · exact fun W hb => CkAlign_any m x y B d l W (hM.later hb) (by omega)
      · exact fun W hb => CkTable_any m x y A c L W (hN.later hb) (by omega)
      · intro hp
        have hz : ckE1 m x y l = 0 := by simpa using hp
        rw [ckE1, if_neg (fun h => h he)] at hz
        rw [ckN1, if_neg (fun h => h he)]
        cases hc : Cm.ckAl m (row x) (row y) l with
        | none => rw [hc] at hz; simp at hz
        | some cc => rw [hco]; exact Cm.ckAl_ge hc
      · intro hp
        have hz : ckE2 m x y L = 0 := by simpa using hp
        rw [ckE2, if_neg (fun h => h he)] at hz
        rw [ckN2, if_neg (fun h => h he)]
        unfold ckTb at hz ⊢
        by_cases hf : (formedB (row x).length (row y).length L && Cm.tabOk (row x).length (row y).length (Cm.atL m (row x) (row y)) (Cm.missC m) (Cm.extraC m) (fL L)) = true
        · rw [if_pos hf]
          rw [Bool.and_eq_true] at hf
          rw [hco]
          exact Cm.tabOk_le hf.2
        · rw [if_neg hf] at hz; simp at hz
    · exact Wit_no m x y code a b most v7 v10 v11 A B c d L l w hP hl he
  · exact Wit_long m x y code a b most v7 v10 v11 A B c d L l w hP hl
end Go.Proofs.YtgcddjgkieambaaGreatDoor
