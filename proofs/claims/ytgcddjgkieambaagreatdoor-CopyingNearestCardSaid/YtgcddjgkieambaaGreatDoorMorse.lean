/- The walk of morse.swap. -/
import Derived.Test.YtgcddjgkieambaaGreatDoorLeaf2
import Derived.Test.YtgcddjgkieambaaGreatDoorFill
set_option linter.unusedVariables false
set_option linter.unusedSimpArgs false
namespace Go.Proofs.YtgcddjgkieambaaGreatDoor
open Go.RowKit

theorem codeB_size (i : Nat) : (Cm.codeB i).size = Cm.clen i := by simp [Cm.codeB, Cm.clen, ByteArray.size]
theorem ba_get (l : List UInt8) (x : Nat) (h : x < (ByteArray.mk l.toArray).size) : (ByteArray.mk l.toArray)[x] = l.getD x 0 := by
  have h' : x < l.length := by simpa [ByteArray.size] using h
  show l.toArray[x]'(by simpa using h') = _
  simp [List.getD, List.getElem?_eq_getElem h']
theorem codeB_at (i x : Nat) (h : x < (Cm.codeB i).size) : (Cm.codeB i)[x] = (Cm.codeL.getD i []).getD x 0 := ba_get _ x h
theorem ret_int {k : IntKind} {a b : Int} (h : a = b) : Ending.returned (.int k a) = .returned (.int k b) := by rw [h]
theorem sign_of (a b : UInt8) : (if ((a.toNat : Int) == (b.toNat : Int)) = true then (0 : Int) else 1) = if a = b then 0 else 1 := by
  by_cases h : a = b
  · simp [h]
  · have : a.toNat ≠ b.toNat := fun e => h (UInt8.toNat_inj.1 e)
    rw [if_neg h, if_neg (by simp only [beq_iff_eq]; omega)]

theorem sign_walk (i k x y : Nat) (g1 : x < (Cm.codeB i).size) (g2 : y < (Cm.codeB k).size) : Cm.sign i k x y = if (((Cm.codeB i)[x].toNat : Int) == ((Cm.codeB k)[y].toNat : Int)) = true then 0 else 1 := by
  rw [sign_of, codeB_at i x g1, codeB_at k y g2]; rfl

set_option maxHeartbeats 1000000 in
theorem sign_any (i k : Nat) (pa pb : Nat) (x y : Int) (w : World) (h0 : 0 ≤ x) (h1 : x < Cm.clen i) (h2 : 0 ≤ y) (h3 : y < Cm.clen k)
    (ha : w.cell? ⟨pa, 0, none⟩ = some (.string (Cm.codeB i))) (hb : w.cell? ⟨pb, 0, none⟩ = some (.string (Cm.codeB k))) :
    Calls Tryz.prog 234 #[.int .i64 x, .int .i64 y, .pointer (some ⟨pa, 0, none⟩), .pointer (some ⟨pb, 0, none⟩)] w fun e w' => e = .returned (.int .i64 (Cm.sign i k x.toNat y.toNat)) ∧ Below w.heap.size w w' := by
  obtain ⟨xn, rfl⟩ := Int.eq_ofNat_of_zero_le h0
  obtain ⟨yn, rfl⟩ := Int.eq_ofNat_of_zero_le h2
  have g1 : xn < (Cm.codeB i).size := by rw [codeB_size]; omega
  have g2 : yn < (Cm.codeB k).size := by rw [codeB_size]; omega
  go_enter Tryz.func234, Tryz.ntmps234
  go_wp2
  go_quiet ((go_at_call 235; exact Calls.quiet_of_same ((one_any _ _).mono fun _ _ h => ⟨h.1, h.2.symm⟩)))
  go_wp2
  all_goals
    go_ret
    exact ⟨ret_int (by rw [sign_walk i k xn yn g1 g2]; first | rw [if_pos (by assumption)] | rw [if_neg (by assumption)]), below_drewN0 _⟩

set_option maxHeartbeats 1000000 in
theorem morse_same (b : Nat) (i : Int) (w : World) : Calls Tryz.prog 233 #[.pointer (some ⟨b, 0, none⟩), .int .i64 i, .int .i64 i] w fun e w' => e = .returned (.int .i64 0) ∧ w = w' := by
  go_enter Tryz.func233, Tryz.ntmps233
  go_wp2
  go_ret
  exact ⟨rfl, rfl⟩

/-- What a block of the characters' texts holds at the character i. -/
theorem sents_even : ∀ i : Nat, i < 37 → Cm.sents[i * 2]? = some (.string (Cm.codeB i)) ∧ Cm.sents[i * 2 + 1]? = some (.int .i64 (Cm.famZ i))
  | 0, _ => ⟨by kernel_rfl, by kernel_rfl⟩
  | 1, _ => ⟨by kernel_rfl, by kernel_rfl⟩
  | 2, _ => ⟨by kernel_rfl, by kernel_rfl⟩
  | 3, _ => ⟨by kernel_rfl, by kernel_rfl⟩
  | 4, _ => ⟨by kernel_rfl, by kernel_rfl⟩
  | 5, _ => ⟨by kernel_rfl, by kernel_rfl⟩
  | 6, _ => ⟨by kernel_rfl, by kernel_rfl⟩
  | 7, _ => ⟨by kernel_rfl, by kernel_rfl⟩
  | 8, _ => ⟨by kernel_rfl, by kernel_rfl⟩
  | 9, _ => ⟨by kernel_rfl, by kernel_rfl⟩
  | 10, _ => ⟨by kernel_rfl, by kernel_rfl⟩
  | 11, _ => ⟨by kernel_rfl, by kernel_rfl⟩
  | 12, _ => ⟨by kernel_rfl, by kernel_rfl⟩
  | 13, _ => ⟨by kernel_rfl, by kernel_rfl⟩
  | 14, _ => ⟨by kernel_rfl, by kernel_rfl⟩
  | 15, _ => ⟨by kernel_rfl, by kernel_rfl⟩
  | 16, _ => ⟨by kernel_rfl, by kernel_rfl⟩
  | 17, _ => ⟨by kernel_rfl, by kernel_rfl⟩
  | 18, _ => ⟨by kernel_rfl, by kernel_rfl⟩
  | 19, _ => ⟨by kernel_rfl, by kernel_rfl⟩
  | 20, _ => ⟨by kernel_rfl, by kernel_rfl⟩
  | 21, _ => ⟨by kernel_rfl, by kernel_rfl⟩
  | 22, _ => ⟨by kernel_rfl, by kernel_rfl⟩
  | 23, _ => ⟨by kernel_rfl, by kernel_rfl⟩
  | 24, _ => ⟨by kernel_rfl, by kernel_rfl⟩
  | 25, _ => ⟨by kernel_rfl, by kernel_rfl⟩
  | 26, _ => ⟨by kernel_rfl, by kernel_rfl⟩
  | 27, _ => ⟨by kernel_rfl, by kernel_rfl⟩
  | 28, _ => ⟨by kernel_rfl, by kernel_rfl⟩
  | 29, _ => ⟨by kernel_rfl, by kernel_rfl⟩
  | 30, _ => ⟨by kernel_rfl, by kernel_rfl⟩
  | 31, _ => ⟨by kernel_rfl, by kernel_rfl⟩
  | 32, _ => ⟨by kernel_rfl, by kernel_rfl⟩
  | 33, _ => ⟨by kernel_rfl, by kernel_rfl⟩
  | 34, _ => ⟨by kernel_rfl, by kernel_rfl⟩
  | 35, _ => ⟨by kernel_rfl, by kernel_rfl⟩
  | 36, _ => ⟨by kernel_rfl, by kernel_rfl⟩
  | n + 37, h => absurd h (by omega)

theorem two_a (w : World) (u v : Value) (t t' : TypeId) : ((w.alloc (.cells #[u] t)).alloc (.cells #[v] t')).drew.cell? ⟨w.heap.size, 0, none⟩ = some u :=
  (((Blk.new w t #[u]).alloc (.cells #[v] t')).drew).cell 0
theorem two_size (w : World) (u v : Value) (t t' : TypeId) : ((w.alloc (.cells #[u] t)).alloc (.cells #[v] t')).drew.heap.size = w.heap.size + 2 := by
  show ((w.heap.push _).push _).size = _
  simp
theorem two_b (w : World) (u v : Value) (t t' : TypeId) : ((w.alloc (.cells #[u] t)).alloc (.cells #[v] t')).drew.cell? ⟨w.heap.size + 1, 0, none⟩ = some v := by
  have h := ((Blk.new (w.alloc (.cells #[u] t)) t' #[v]).drew).cell 0
  simp at h ⊢

set_option maxRecDepth 100000 in
set_option maxHeartbeats 1000000 in
theorem morse_other (b : Nat) (i k : Nat) (w : World) (hb : Blk w b 132 Cm.sents) (hi : i < 37) (hk : k < 37) (hik : i ≠ k) : Calls Tryz.prog 233 #[.pointer (some ⟨b, 0, none⟩), .int .i64 i, .int .i64 k] w fun e w' => e = .returned (.int .i64 (Cm.cdist i k)) ∧ Below w.heap.size w w' := by
  have hd : ((i : Int) == (k : Int)) = false := by simp; omega
  have c1 : w.cell? ⟨b, i * 2, none⟩ = some (.string (Cm.codeB i)) := (hb.cell _).trans (sents_even i hi).1
  have c2 : w.cell? ⟨b, k * 2, none⟩ = some (.string (Cm.codeB k)) := (hb.cell _).trans (sents_even k hk).1
  have hlt := hb.lt
  have z1 : (0 : Int) ≤ (i : Int) := by omega
  have z2 : (i : Int) < 37 := by omega
  have z3 : (0 : Int) ≤ (k : Int) := by omega
  have z4 : (k : Int) < 37 := by omega
  have z5 : i * 2 < Cm.sents.size := by rw [show Cm.sents.size = 74 by kernel_rfl]; omega
  have n1 := World.new_ne w _ c1
  have s1 : (Cm.codeB i).size ≤ 5 := by rw [codeB_size]; exact Cm.clen_le i
  have s2 : (Cm.codeB k).size ≤ 5 := by rw [codeB_size]; exact Cm.clen_le k
  go_enter Tryz.func233, Tryz.ntmps233
  go_wp2
  go_region_held3 (fun w' => w'.cell? ⟨b, i * 2, none⟩ = some (.string (Cm.codeB i)) ∧ w'.cell? ⟨b, k * 2, none⟩ = some (.string (Cm.codeB k))) (simp [*, World.cell?_alloc_some, World.cell?_setCell_far, cell_off]) (fail)
  · have e1 : (((w.alloc (Obj.cells #[Value.string (Cm.codeB i)] 9)).alloc (Obj.cells #[Value.string (Cm.codeB k)] 9)).drew).cell? ⟨w.heap.size, 0, none⟩ = some (.string (Cm.codeB i)) := two_a _ _ _ _ _
    have e2 : (((w.alloc (Obj.cells #[Value.string (Cm.codeB i)] 9)).alloc (Obj.cells #[Value.string (Cm.codeB k)] 9)).drew).cell? ⟨w.heap.size + 1, 0, none⟩ = some (.string (Cm.codeB k)) := two_b _ _ _ _ _
    have hbW : Below w.heap.size w (((w.alloc (Obj.cells #[Value.string (Cm.codeB i)] 9)).alloc (Obj.cells #[Value.string (Cm.codeB k)] 9)).drew) := (((Below.refl _ _).alloc (Nat.le_refl _) _).alloc (by simp) _).drew
    obtain ⟨W, hW⟩ : ∃ W, W = ((w.alloc (Obj.cells #[Value.string (Cm.codeB i)] 9)).alloc (Obj.cells #[Value.string (Cm.codeB k)] 9)).drew := ⟨_, rfl⟩
    have l1 : w.heap.size < W.heap.size := by rw [hW, two_size]; omega
    have l2 : w.heap.size + 1 < W.heap.size := by rw [hW, two_size]; omega
    rw [← hW] at e1 e2 hbW ⊢
    clear hW hb
    have hF : ∀ (W' : World) (x y : Int), 0 ≤ x → x < (Cm.codeB i).size → 0 ≤ y → y < (Cm.codeB k).size → Below W.heap.size W W' → Calls Tryz.prog 234 (#[] ++ (#[.int .i64 x, .int .i64 y] ++ #[.pointer (some ⟨w.heap.size, 0, none⟩), .pointer (some ⟨w.heap.size + 1, 0, none⟩)])) W' fun e w' => e = .returned (.int .i64 (Cm.sign i k x.toNat y.toNat)) ∧ Below W'.heap.size W' w' := fun W' x y a1 a2 a3 a4 hB =>
      sign_any i k _ _ x y W' a1 (by rw [← codeB_size]; exact a2) a3 (by rw [← codeB_size]; exact a4) ((hB.cell (p := ⟨w.heap.size, 0, none⟩) l1).trans e1) ((hB.cell (p := ⟨w.heap.size + 1, 0, none⟩) l2).trans e2)
    have hC := filled_any 234 #[] #[.pointer (some ⟨w.heap.size, 0, none⟩), .pointer (some ⟨w.heap.size + 1, 0, none⟩)] (enters_of Tryz.func234 (by kernel_rfl) rfl) (Cm.codeB i).size (Cm.codeB k).size 1 1 (Cm.sign i k) W (by omega) (by omega) (by omega) (by omega) (fun x y => Cm.sign_bd i k x y) hF
    clear hF
    have HC := Lib.hid hC
    clear hC
    go_wp2_with (go_at_call 110; refine HC.out.mono ?_; rintro e w1 ⟨v, rfl, hT, hb1⟩)
    obtain ⟨g, r, rfl, hg0, hg, hr⟩ := hT
    have d1 := (hb1.cell (p := ⟨w.heap.size, 0, none⟩) l1).trans e1
    have d2 := (hb1.cell (p := ⟨w.heap.size + 1, 0, none⟩) l2).trans e2
    have d3 := hg.cell (k := (Cm.codeB i).size) (by omega)
    have d4 := (hr (Cm.codeB i).size (by omega)).2.cell (k := (Cm.codeB k).size) (by omega)
    have z6 : ((Cm.codeB i).size : Int) < ((Cm.codeB i).size : Int) + 1 := by omega
    have hfin := Lib.hid (show Below w.heap.size w w1 from hbW.trans (hb1.mono hbW.size))
    have hcd : Cm.T 1 1 (Cm.sign i k) (Cm.codeB i).size (Cm.codeB k).size = Cm.cdist i k := by rw [codeB_size, codeB_size]; rfl
    rw [hcd] at d4
    clear hg hr hb1 hbW hcd HC e1 e2
    go_quiet (fail)
    go_wp2
    go_ret
    exact ⟨rfl, below_drewN' hfin.out _⟩
  · have e1 : (((w.alloc (Obj.cells #[Value.string (Cm.codeB k)] 9)).alloc (Obj.cells #[Value.string (Cm.codeB i)] 9)).drew).cell? ⟨w.heap.size + 1, 0, none⟩ = some (.string (Cm.codeB i)) := two_b _ _ _ _ _
    have e2 : (((w.alloc (Obj.cells #[Value.string (Cm.codeB k)] 9)).alloc (Obj.cells #[Value.string (Cm.codeB i)] 9)).drew).cell? ⟨w.heap.size, 0, none⟩ = some (.string (Cm.codeB k)) := two_a _ _ _ _ _
    have hbW : Below w.heap.size w (((w.alloc (Obj.cells #[Value.string (Cm.codeB k)] 9)).alloc (Obj.cells #[Value.string (Cm.codeB i)] 9)).drew) := (((Below.refl _ _).alloc (Nat.le_refl _) _).alloc (by simp) _).drew
    obtain ⟨W, hW⟩ : ∃ W, W = ((w.alloc (Obj.cells #[Value.string (Cm.codeB k)] 9)).alloc (Obj.cells #[Value.string (Cm.codeB i)] 9)).drew := ⟨_, rfl⟩
    have l1 : w.heap.size + 1 < W.heap.size := by rw [hW, two_size]; omega
    have l2 : w.heap.size < W.heap.size := by rw [hW, two_size]; omega
    rw [← hW] at e1 e2 hbW ⊢
    clear hW hb
    have hF : ∀ (W' : World) (x y : Int), 0 ≤ x → x < (Cm.codeB i).size → 0 ≤ y → y < (Cm.codeB k).size → Below W.heap.size W W' → Calls Tryz.prog 234 (#[] ++ (#[.int .i64 x, .int .i64 y] ++ #[.pointer (some ⟨w.heap.size + 1, 0, none⟩), .pointer (some ⟨w.heap.size, 0, none⟩)])) W' fun e w' => e = .returned (.int .i64 (Cm.sign i k x.toNat y.toNat)) ∧ Below W'.heap.size W' w' := fun W' x y a1 a2 a3 a4 hB =>
      sign_any i k _ _ x y W' a1 (by rw [← codeB_size]; exact a2) a3 (by rw [← codeB_size]; exact a4) ((hB.cell (p := ⟨w.heap.size + 1, 0, none⟩) l1).trans e1) ((hB.cell (p := ⟨w.heap.size, 0, none⟩) l2).trans e2)
    have hC := filled_any 234 #[] #[.pointer (some ⟨w.heap.size + 1, 0, none⟩), .pointer (some ⟨w.heap.size, 0, none⟩)] (enters_of Tryz.func234 (by kernel_rfl) rfl) (Cm.codeB i).size (Cm.codeB k).size 1 1 (Cm.sign i k) W (by omega) (by omega) (by omega) (by omega) (fun x y => Cm.sign_bd i k x y) hF
    clear hF
    have HC := Lib.hid hC
    clear hC
    go_wp2_with (go_at_call 110; refine HC.out.mono ?_; rintro e w1 ⟨v, rfl, hT, hb1⟩)
    obtain ⟨g, r, rfl, hg0, hg, hr⟩ := hT
    have d1 := (hb1.cell (p := ⟨w.heap.size + 1, 0, none⟩) l1).trans e1
    have d2 := (hb1.cell (p := ⟨w.heap.size, 0, none⟩) l2).trans e2
    have d3 := hg.cell (k := (Cm.codeB i).size) (by omega)
    have d4 := (hr (Cm.codeB i).size (by omega)).2.cell (k := (Cm.codeB k).size) (by omega)
    have z6 : ((Cm.codeB i).size : Int) < ((Cm.codeB i).size : Int) + 1 := by omega
    have hfin := Lib.hid (show Below w.heap.size w w1 from hbW.trans (hb1.mono hbW.size))
    have hcd : Cm.T 1 1 (Cm.sign i k) (Cm.codeB i).size (Cm.codeB k).size = Cm.cdist i k := by rw [codeB_size, codeB_size]; rfl
    rw [hcd] at d4
    clear hg hr hb1 hbW hcd HC e1 e2
    go_quiet (fail)
    go_wp2
    go_ret
    exact ⟨rfl, below_drewN' hfin.out _⟩
end Go.Proofs.YtgcddjgkieambaaGreatDoor
