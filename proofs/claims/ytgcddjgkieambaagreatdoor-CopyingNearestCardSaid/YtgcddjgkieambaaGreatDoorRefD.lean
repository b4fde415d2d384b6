/- The walks of the reference's 'codes' and 'swap'. -/
import Derived.Test.YtgcddjgkieambaaGreatDoorRefC
import Derived.Test.YtgcddjgkieambaaGreatDoorMorse
set_option linter.unusedVariables false
set_option linter.unusedSimpArgs false
namespace Go.Proofs.YtgcddjgkieambaaGreatDoor
open Go.RowKit

/-- The codes of all characters, in block g. -/
def CodesAt (w : World) (g : Nat) : Prop := g < w.heap.size ∧ ∀ j, j < 37 → w.cell? ⟨g, j, none⟩ = some (.string (Cm.codeB j))
theorem CodesAt.later {w w' : World} {g : Nat} (h : CodesAt w g) (hb : Below w.heap.size w w') : CodesAt w' g :=
  ⟨Nat.lt_of_lt_of_le h.1 hb.size, fun j hj => (hb.cell (p := ⟨g, j, none⟩) h.1).trans (h.2 j hj)⟩
def codesV : Array Value := ((List.range 37).map fun j => Value.string (Cm.codeB j)).toArray
theorem codesAt_new (w : World) : CodesAt (w.alloc (.cells codesV 9)) w.heap.size := by
  have hb := Blk.new w 9 codesV
  refine ⟨hb.lt, fun j hj => ?_⟩
  rw [hb.cell]
  simp [codesV, hj]
set_option maxRecDepth 100000 in
set_option maxHeartbeats 2000000 in
theorem ref_codes (w : World) : Calls Tryz.prog 73 #[] w fun e w' => e = .returned (.slice (some ⟨w.heap.size, 0, none⟩) 37 37) ∧ CodesAt w' w.heap.size ∧ Below w.heap.size w w' := by
  have HC := Lib.hid (codesAt_new w)
  have e : codesV = #[.string (Cm.codeB 0), .string (Cm.codeB 1)] ++ codesV.extract 2 37 := by kernel_rfl
  clear e
  go_enter Tryz.func73, Tryz.ntmps73
  go_wp2
  go_ret
  exact ⟨rfl, HC.out, below_alloc0 _⟩

/-- The families as digits. -/
def famB : ByteArray := { data := #[50, 49, 49, 49, 49, 51, 49, 50, 52, 50, 50, 51, 51, 51, 54, 49, 53, 55, 51, 49, 53, 49, 53, 51, 52, 49, 54, 54, 53, 49, 54, 52, 55, 51, 50, 52, 55] }
theorem famB_at (k : Nat) (h : k < famB.size) : ((famB[k]).toNat : Int) = 48 + Cm.famZ k := by
  have hk : k < 37 := h
  have e : famB[k] = famB.data.toList.getD k 0 := by
    have hl : k < famB.data.toList.length := by simpa using h
    rw [getD_get _ _ hl]; rfl
  have : (List.range 37).all (fun k => decide (((famB.data.toList.getD k 0).toNat : Int) = 48 + Cm.famZ k)) = true := by decide +kernel
  exact (congrArg (fun x : UInt8 => (x.toNat : Int)) e).trans (of_decide_eq_true (List.all_eq_true.1 this k (List.mem_range.2 hk)))
theorem sg_sign (i k : Nat) : sg (Cm.codeB i) (Cm.codeB k) = Cm.sign i k := by
  funext x y
  rfl
theorem TS_cdist (i k : Nat) : TS (Cm.codeB i) (Cm.codeB k) (Cm.codeB i).size (Cm.codeB k).size = Cm.cdist i k := by
  unfold TS Cm.cdist
  rw [sg_sign, codeB_size, codeB_size]

set_option maxRecDepth 100000 in
set_option maxHeartbeats 4000000 in
theorem ref_swap (g : Nat) (m : Int) (i k : Nat) (w : World) (hm : isMode m) (hi : i < 37) (hk : k < 37) (hC : CodesAt w g) :
    Calls Tryz.prog 75 #[.slice (some ⟨g, 0, none⟩) 37 37, .int .i64 m, .int .i64 i, .int .i64 k] w fun e w' => e = .returned (.int .i64 (Cm.sw m i k)) ∧ Below w.heap.size w w' := by
  by_cases hik : i = k
  · subst hik
    have e : Cm.sw m i i = 0 := by unfold Cm.sw Cm.swM Cm.swV Cm.swD; split <;> (try split) <;> simp
    rw [e]
    have d0 : ((i : Int) == (i : Int)) = true := by simp
    clear hC e
    go_enter Tryz.func75, Tryz.ntmps75
    go_wp2
    go_ret
    exact ⟨rfl, Below.refl _ _⟩
  · have d0 : ((i : Int) == (k : Int)) = false := by simp; omega
    by_cases h1 : m = 1
    · have d1 : (m == 1) = true := by simpa using h1
      have e : Cm.sw m i k = Cm.cdist i k := by unfold Cm.sw Cm.swM; rw [if_pos h1, if_neg hik]
      rw [e]
      have s1 : (Cm.codeB i).size ≤ 5 := by rw [codeB_size]; exact Cm.clen_le i
      have s2 : (Cm.codeB k).size ≤ 5 := by rw [codeB_size]; exact Cm.clen_le k
      have HX := Lib.hid (fun W => ref_changes (Cm.codeB i) (Cm.codeB k) W (by omega) (by omega))
      rw [TS_cdist] at HX
      have c1 := hC.2 i hi
      have c2 := hC.2 k hk
      have lg := hC.1
      generalize Cm.cdist i k = z at HX
      generalize Cm.codeB i = s at HX c1
      generalize Cm.codeB k = t at HX c2
      have f1 : (i : Int) < 37 := by omega
      have f2 : (k : Int) < 37 := by omega
      have f3 : (0 : Int) ≤ (i : Int) := by omega
      have f4 : (0 : Int) ≤ (k : Int) := by omega
      clear e s1 s2 hC hik h1 hm
      go_enter Tryz.func75, Tryz.ntmps75
      go_wp2
      go_region_held3 (fun w' => w'.cell? ⟨g, i, none⟩ = some (.string s) ∧ w'.cell? ⟨g, k, none⟩ = some (.string t)) (simp [*]) (first | (go_at_call 112; refine (HX.out _).mono ?_; rintro e w5 ⟨rfl, hb5⟩; have j1 := (hb5.cell (p := ⟨g, i, none⟩) lg).trans c1; have j2 := (hb5.cell (p := ⟨g, k, none⟩) lg).trans c2))
      all_goals
        go_wp2
        go_ret
        exact ⟨rfl, (Below.refl _ _).drew.trans hb5⟩
    · have d1 : (m == 1) = false := by simpa using h1
      by_cases h3 : m = 3
      · have d3 : (m == 3) = true := by simpa using h3
        have e : Cm.sw m i k = 2 := by unfold Cm.sw Cm.swD; rw [if_neg h1, if_neg (by omega), if_neg hik]
        rw [e]
        clear hC e hik h1 h3 hm
        go_enter Tryz.func75, Tryz.ntmps75
        go_wp2
        go_ret
        exact ⟨rfl, Below.refl _ _⟩
      · have d3 : (m == 3) = false := by simpa using h3
        have h2 : m = 2 := by unfold isMode at hm; omega
        have f1 : (i : Int) < 37 := by omega
        have f2 : (k : Int) < 37 := by omega
        have f3 : (0 : Int) ≤ (i : Int) := by omega
        have f4 : (0 : Int) ≤ (k : Int) := by omega
        have a1 := famB_at i hi
        have a2 := famB_at k hk
        unfold famB at a1 a2
        have e0 : Cm.sw m i k = if Cm.famZ i = Cm.famZ k then 1 else 3 := by unfold Cm.sw Cm.swV; rw [if_neg h1, if_pos h2, if_neg hik]
        rw [e0]
        generalize Cm.famZ i = x at a1
        generalize Cm.famZ k = y at a2
        clear hC e0 hik h1 h3 h2 hm
        by_cases hxy : x = y
        · rw [if_pos hxy]
          have g1 : ((48 + x : Int) == 48 + y) = true := by simp; omega
          clear hxy
          go_enter Tryz.func75, Tryz.ntmps75
          go_wp2
          go_quiet (fail)
          go_wp2
          go_ret
          exact ⟨rfl, below_drewN0 _⟩
        · rw [if_neg hxy]
          have g1 : ((48 + x : Int) == 48 + y) = false := by simp; omega
          clear hxy
          go_enter Tryz.func75, Tryz.ntmps75
          go_wp2
          go_quiet (fail)
          go_wp2
          go_ret
          exact ⟨rfl, below_drewN0 _⟩
end Go.Proofs.YtgcddjgkieambaaGreatDoor
