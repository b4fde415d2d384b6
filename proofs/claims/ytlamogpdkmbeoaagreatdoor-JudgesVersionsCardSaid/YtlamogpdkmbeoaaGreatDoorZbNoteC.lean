/- The texts NoteC, NoteC2 in one. -/
import Derived.Test.YtlamogpdkmbeoaaGreatDoorZbNote
import Derived.Laws.StructEq
import Derived.ChangeKeysEq
import Derived.Test.YtlamogpdkmbeoaaGreatDoorZbShelf
set_option linter.unusedVariables false
set_option linter.unusedSimpArgs false
section PartNoteC
/- Equality of marks, names, seven numbers; the walks of 'sameNote' and 'logs.Same' against the empty note. -/
set_option maxRecDepth 100000
namespace Go.Proofs.YtlamogpdkmbeoaaGreatDoor
open Go.RowKit Go.Lib Go.Shelf

theorem eqMark (c c' : ByteArray) (n n' : Int) (w : World) : (binOp .eql 44 (.agg #[.string c, .int .i64 n]) (.agg #[.string c', .int .i64 n'])).run Tryz.prog w = .ok (.bool (c.toList == c'.toList && n == n')) w := by
  have u3 := Tryz.underlying3
  have a3 := Tryz.isAgg3
  have z3 := Tryz.sizeOf3
  have u9 := Tryz.underlying9
  have a9 := Tryz.isAgg9
  have z9 := Tryz.sizeOf9
  have hS : Tryz.prog.underlying 44 = some (.struct (Tryz.prog.fieldsOf 44)) := by kernel_rfl
  have hp : Tryz.prog.stoodInHeld 44 = false := by kernel_rfl
  rw [run_eql_struct, show (10000 : Nat) = 9999 + 1 from rfl, run_equalIn_agg w 9999 44 _ _ hS hp]
  simp only [Program.fieldsOf, Tryz.underlying44]
  go_simp
  cases h1 : (c.toList == c'.toList) <;> cases h2 : (n == n') <;> simp_all
theorem eqName (a b a' b' : Int) (w : World) : (binOp .eql 37 (.agg #[.int .i64 a, .int .i64 b]) (.agg #[.int .i64 a', .int .i64 b'])).run Tryz.prog w = .ok (.bool (a == a' && b == b')) w := by
  have u3 := Tryz.underlying3
  have a3 := Tryz.isAgg3
  have z3 := Tryz.sizeOf3
  have hS : Tryz.prog.underlying 37 = some (.struct (Tryz.prog.fieldsOf 37)) := by kernel_rfl
  have hp : Tryz.prog.stoodInHeld 37 = false := by kernel_rfl
  rw [run_eql_struct, show (10000 : Nat) = 9999 + 1 from rfl, run_equalIn_agg w 9999 37 _ _ hS hp]
  simp only [Program.fieldsOf, Tryz.underlying37]
  go_simp
  cases h1 : (a == a') <;> cases h2 : (b == b') <;> simp_all
theorem eqSeven (a1 a2 a3 a4 a5 a6 a7 b1 b2 b3 b4 b5 b6 b7 : Int) (w : World) : (binOp .eql 202 (.agg #[.int .i64 a1, .int .i64 a2, .int .i64 a3, .int .i64 a4, .int .i64 a5, .int .i64 a6, .int .i64 a7]) (.agg #[.int .i64 b1, .int .i64 b2, .int .i64 b3, .int .i64 b4, .int .i64 b5, .int .i64 b6, .int .i64 b7])).run Tryz.prog w = .ok (.bool (a1 == b1 && a2 == b2 && a3 == b3 && a4 == b4 && a5 == b5 && a6 == b6 && a7 == b7)) w := by
  have u3 := Tryz.underlying3
  have a3' := Tryz.isAgg3
  have z3 := Tryz.sizeOf3
  obtain ⟨i, hi⟩ : ∃ i, Tryz.prog.info? 3 = some i := by
    have h : (Tryz.prog.info? 3).isSome = true := by kernel_rfl
    exact Option.isSome_iff_exists.1 h
  have hc : Tryz.prog.cellsOf 3 = 1 := by kernel_rfl
  rw [run_eql_struct, show (10000 : Nat) = 9999 + 1 from rfl, run_equalIn_array w 9999 _ _ Tryz.underlying202 hi, hc]
  simp only [List.range, List.range.loop, Op.eqItems]
  go_simp
  cases h1 : (a1 == b1) <;> cases h2 : (a2 == b2) <;> cases h3 : (a3 == b3) <;> cases h4 : (a4 == b4) <;> cases h5 : (a5 == b5) <;> cases h6 : (a6 == b6) <;> cases h7 : (a7 == b7) <;> simp_all
end Go.Proofs.YtlamogpdkmbeoaaGreatDoor
end PartNoteC

section PartNoteC2
/- The walks of 'numbers', and of 'logs.Same' and 'sameNote' against the empty ones. -/
set_option maxRecDepth 100000
namespace Go.Proofs.YtlamogpdkmbeoaaGreatDoor
open Go.RowKit Go.Lib Go.Shelf

set_option maxHeartbeats 2000000 in
theorem numbers_any (judge num clock kind : Int) (call : ByteArray) (version : Int) (lcall : ByteArray) (cat pow cl : Int) (Aj : Option Addr) (nj cj : Nat) (Al : Option Addr) (nl cl' : Nat) (aC : ByteArray) (aN : Int) (bC : ByteArray) (bN rJ rN hash prev : Int) (w : World) : Calls Tryz.prog 121 #[.agg #[.int .i64 judge, .int .i64 num, .int .i64 clock, .int .i64 kind, .string call, .int .i64 version, .string lcall, .int .i64 cat, .int .i64 pow, .int .i64 cl, .slice Aj nj cj, .slice Al nl cl', .string aC, .int .i64 aN, .string bC, .int .i64 bN, .int .i64 rJ, .int .i64 rN, .int .i64 hash, .int .i64 prev]] w fun e w' => e = .returned (.agg #[.int .i64 judge, .int .i64 num, .int .i64 clock, .int .i64 kind, .int .i64 version, .int .i64 hash, .int .i64 prev]) ∧ Below w.heap.size w w' := by
  go_enter Tryz.func121, Tryz.ntmps121
  go_wp2
  have hB := Blk.new (w.alloc (.cells #[.int .i64 judge, .int .i64 num, .int .i64 clock, .int .i64 kind, .string call, .int .i64 version, .string lcall, .int .i64 cat, .int .i64 pow, .int .i64 cl, .slice Aj nj cj, .slice Al nl cl', .string aC, .int .i64 aN, .string bC, .int .i64 bN, .int .i64 rJ, .int .i64 rN, .int .i64 hash, .int .i64 prev] 46)) 202 #[.int .i64 judge, .int .i64 num, .int .i64 clock, .int .i64 kind, .int .i64 version, .int .i64 hash, .int .i64 prev]
  rw [World.size_alloc] at hB
  exact bodyPost_ret (results_cell1b Tryz.results121 rfl hB Tryz.underlying202 rfl (by kernel_rfl)) rfl ⟨rfl, ((Below.refl _ w).alloc (Nat.le_refl _) _).alloc (by simp) _⟩

theorem eqLines0 (A : Option Addr) (n c : Nat) (w : World) (hn : n ≤ 9223372036854775807) : Calls Tryz.prog 147 #[.slice A n c, .slice none 0 0] w fun e w' => e = .returned (.bool (n == 0)) ∧ w = w' := by
  cases n with
  | zero =>
    go_enter Tryz.func147, Tryz.ntmps147
    go_wp2
    refine wp_loop_rounds 1 ?_
    rw [rounds_succ]
    go_wp2
    go_ret
    exact ⟨rfl, rfl⟩
  | succ n =>
    have h1 : (((n + 1 : Nat) : Int) != 0) = true := by rw [bne_iff_ne]; omega
    have h2 : (((n : Nat) : Int) + 1 != 0) = true := by rw [bne_iff_ne]; omega
    go_enter Tryz.func147, Tryz.ntmps147
    go_wp2
    go_ret
    exact ⟨rfl, rfl⟩
theorem eqInts0 (A : Option Addr) (n c : Nat) (w : World) (hn : n ≤ 9223372036854775807) : Calls Tryz.prog 146 #[.slice A n c, .slice none 0 0] w fun e w' => e = .returned (.bool (n == 0)) ∧ w = w' := by
  cases n with
  | zero =>
    go_enter Tryz.func146, Tryz.ntmps146
    go_wp2
    refine wp_loop_rounds 1 ?_
    rw [rounds_succ]
    go_wp2
    go_ret
    exact ⟨rfl, rfl⟩
  | succ n =>
    have h1 : (((n + 1 : Nat) : Int) != 0) = true := by rw [bne_iff_ne]; omega
    have h2 : (((n : Nat) : Int) + 1 != 0) = true := by rw [bne_iff_ne]; omega
    go_enter Tryz.func146, Tryz.ntmps146
    go_wp2
    go_ret
    exact ⟨rfl, rfl⟩

/-- A log that is the empty one. -/
def log0B (lcall : ByteArray) (cat pow cl : Int) (nj nl : Nat) : Bool := lcall.toList.isEmpty && (cat == 0) && (pow == 0) && (cl == 0) && (nj == 0) && (nl == 0)
set_option maxHeartbeats 4000000 in
theorem same0_any (lcall : ByteArray) (cat pow cl : Int) (Aj : Option Addr) (nj cj : Nat) (Al : Option Addr) (nl cl' : Nat) (w : World) (hj : nj ≤ 9223372036854775807) (hl : nl ≤ 9223372036854775807) :
    Calls Tryz.prog 122 #[.agg #[.string lcall, .int .i64 cat, .int .i64 pow, .int .i64 cl, .slice Aj nj cj, .slice Al nl cl'], .agg #[.string ⟨#[]⟩, .int .i64 0, .int .i64 0, .int .i64 0, .slice none 0 0, .slice none 0 0]] w fun e w' => e = .returned (.bool (log0B lcall cat pow cl nj nl)) ∧ Below w.heap.size w w' := by
  have h5 := fun W => eqInts0 Aj nj cj W hj
  have h6 := fun W => eqLines0 Al nl cl' W hl
  unfold log0B
  generalize (nj == 0) = z5 at h5 ⊢
  generalize (nl == 0) = z6 at h6 ⊢
  clear hj hl
  cases hz1 : lcall.toList.isEmpty
  · go_enter Tryz.func122, Tryz.ntmps122
    go_wp2
    go_ret
    exact ⟨by simp [*], ((Below.refl _ w).alloc (Nat.le_refl _) _).alloc (by simp) _⟩
  · cases hz2 : (cat == 0)
    · go_enter Tryz.func122, Tryz.ntmps122
      go_wp2
      go_ret
      exact ⟨by simp [*], ((Below.refl _ w).alloc (Nat.le_refl _) _).alloc (by simp) _⟩
    · cases hz3 : (pow == 0)
      · go_enter Tryz.func122, Tryz.ntmps122
        go_wp2
        go_ret
        exact ⟨by simp [*], ((Below.refl _ w).alloc (Nat.le_refl _) _).alloc (by simp) _⟩
      · cases hz4 : (cl == 0)
        · go_enter Tryz.func122, Tryz.ntmps122
          go_wp2
          go_ret
          exact ⟨by simp [*], ((Below.refl _ w).alloc (Nat.le_refl _) _).alloc (by simp) _⟩
        · cases z5
          · go_enter Tryz.func122, Tryz.ntmps122
            go_wp2_with (first | (go_at_call 146; refine (h5 _).mono ?_; rintro e w5 ⟨rfl, rfl⟩))
            go_ret
            exact ⟨by simp [*], ((Below.refl _ w).alloc (Nat.le_refl _) _).alloc (by simp) _⟩
          · cases z6
            · go_enter Tryz.func122, Tryz.ntmps122
              go_wp2_with (first | (go_at_call 146; refine (h5 _).mono ?_; rintro e w5 ⟨rfl, rfl⟩) | (go_at_call 147; refine (h6 _).mono ?_; rintro e w6 ⟨rfl, rfl⟩))
              go_ret
              exact ⟨by simp [*], ((Below.refl _ w).alloc (Nat.le_refl _) _).alloc (by simp) _⟩
            · go_enter Tryz.func122, Tryz.ntmps122
              go_wp2_with (first | (go_at_call 146; refine (h5 _).mono ?_; rintro e w5 ⟨rfl, rfl⟩) | (go_at_call 147; refine (h6 _).mono ?_; rintro e w6 ⟨rfl, rfl⟩))
              go_ret
              exact ⟨by simp [*], ((Below.refl _ w).alloc (Nat.le_refl _) _).alloc (by simp) _⟩

def nums0B (judge num clock kind version hash prev : Int) : Bool := judge == 0 && num == 0 && clock == 0 && kind == 0 && version == 0 && hash == 0 && prev == 0
/-- A note that is the empty one. -/
def Nt.is0 (n : Nt) (nj nl : Nat) : Bool := nums0B n.judge n.num n.clock n.kind n.version n.hash n.prev && n.call.toList.isEmpty && (n.aC.toList.isEmpty && n.aN == 0) && (n.bC.toList.isEmpty && n.bN == 0) && (n.rJ == 0 && n.rN == 0) && log0B n.log.call n.log.cat n.log.pow n.log.cl nj nl
set_option maxHeartbeats 16000000 in
theorem sameNote0_any (judge num clock kind : Int) (call : ByteArray) (version : Int) (lcall : ByteArray) (cat pow cl : Int) (Aj : Option Addr) (nj cj : Nat) (Al : Option Addr) (nl cl' : Nat) (aC : ByteArray) (aN : Int) (bC : ByteArray) (bN rJ rN hash prev : Int) (w : World) (hj : nj ≤ 9223372036854775807) (hl : nl ≤ 9223372036854775807) :
    Calls Tryz.prog 79 #[.agg #[.int .i64 judge, .int .i64 num, .int .i64 clock, .int .i64 kind, .string call, .int .i64 version, .string lcall, .int .i64 cat, .int .i64 pow, .int .i64 cl, .slice Aj nj cj, .slice Al nl cl', .string aC, .int .i64 aN, .string bC, .int .i64 bN, .int .i64 rJ, .int .i64 rN, .int .i64 hash, .int .i64 prev], .agg #[.int .i64 0, .int .i64 0, .int .i64 0, .int .i64 0, .string ⟨#[]⟩, .int .i64 0, .string ⟨#[]⟩, .int .i64 0, .int .i64 0, .int .i64 0, .slice none 0 0, .slice none 0 0, .string ⟨#[]⟩, .int .i64 0, .string ⟨#[]⟩, .int .i64 0, .int .i64 0, .int .i64 0, .int .i64 0, .int .i64 0]] w fun e w' => e = .returned (.bool (nums0B judge num clock kind version hash prev && call.toList.isEmpty && (aC.toList.isEmpty && aN == 0) && (bC.toList.isEmpty && bN == 0) && (rJ == 0 && rN == 0) && log0B lcall cat pow cl nj nl)) ∧ Below w.heap.size w w' := by
  have h1 := fun W => numbers_any judge num clock kind call version lcall cat pow cl Aj nj cj Al nl cl' aC aN bC bN rJ rN hash prev W
  have h2 := fun W => numbers_any 0 0 0 0 ⟨#[]⟩ 0 ⟨#[]⟩ 0 0 0 none 0 0 none 0 0 ⟨#[]⟩ 0 ⟨#[]⟩ 0 0 0 0 0 W
  have h3 := fun W => same0_any lcall cat pow cl Aj nj cj Al nl cl' W hj hl
  have q1 : ∀ w, (binOp .eql 202 (.agg #[.int .i64 judge, .int .i64 num, .int .i64 clock, .int .i64 kind, .int .i64 version, .int .i64 hash, .int .i64 prev]) (.agg #[.int .i64 0, .int .i64 0, .int .i64 0, .int .i64 0, .int .i64 0, .int .i64 0, .int .i64 0])).run Tryz.prog w = .ok (.bool (nums0B judge num clock kind version hash prev)) w := fun w => eqSeven _ _ _ _ _ _ _ _ _ _ _ _ _ _ w
  have t0 : (⟨#[]⟩ : ByteArray).toList = [] := by first | rfl | decide | simp
  have e0 : ∀ c : ByteArray, (c.toList == (⟨#[]⟩ : ByteArray).toList) = c.toList.isEmpty := fun c => by rw [t0]; cases c.toList <;> rfl
  have q3 : ∀ w, (binOp .eql 44 (.agg #[.string aC, .int .i64 aN]) (.agg #[.string ⟨#[]⟩, .int .i64 0])).run Tryz.prog w = .ok (.bool (aC.toList.isEmpty && aN == 0)) w := fun w => by rw [eqMark]; exact congrArg (fun b => Result.ok (Value.bool (b && aN == 0)) w) (e0 aC)
  have q4 : ∀ w, (binOp .eql 44 (.agg #[.string bC, .int .i64 bN]) (.agg #[.string ⟨#[]⟩, .int .i64 0])).run Tryz.prog w = .ok (.bool (bC.toList.isEmpty && bN == 0)) w := fun w => by rw [eqMark]; exact congrArg (fun b => Result.ok (Value.bool (b && bN == 0)) w) (e0 bC)
  have q5 : ∀ w, (binOp .eql 37 (.agg #[.int .i64 rJ, .int .i64 rN]) (.agg #[.int .i64 0, .int .i64 0])).run Tryz.prog w = .ok (.bool (rJ == 0 && rN == 0)) w := fun w => eqName _ _ _ _ w
  clear t0 e0 hj hl
  generalize nums0B judge num clock kind version hash prev = z1 at q1 ⊢
  obtain ⟨z2, hz2⟩ : ∃ z2, z2 = call.toList.isEmpty := ⟨_, rfl⟩
  rw [← hz2]
  have hc0 : z2 = false → ¬ call.toList = [] := fun h e => by rw [hz2, e] at h; cases h
  have hc1 : z2 = true → call.toList = [] := fun h => by rw [hz2] at h; exact List.isEmpty_iff.1 h
  clear hz2
  have HC0 := Lib.hid hc0
  have HC1 := Lib.hid hc1
  clear hc0 hc1
  generalize (aC.toList.isEmpty && aN == 0) = z3 at q3 ⊢
  generalize (bC.toList.isEmpty && bN == 0) = z4 at q4 ⊢
  generalize (rJ == 0 && rN == 0) = z5 at q5 ⊢
  generalize log0B lcall cat pow cl nj nl = z6 at h3 ⊢
  have gM : Tryz.prog.eqGuardType Tryz.prog.depth 44 = false := by kernel_rfl
  have gN : Tryz.prog.eqGuardType Tryz.prog.depth 37 = false := by kernel_rfl
  have gS : Tryz.prog.eqGuardType Tryz.prog.depth 202 = false := by kernel_rfl
  have U46 := Tryz.underlying46
  go_enter Tryz.func79, Tryz.ntmps79
  go_upto_region 2 with fail
  obtain ⟨W, hW⟩ : ∃ W, (w.alloc (.cells #[.int .i64 judge, .int .i64 num, .int .i64 clock, .int .i64 kind, .string call, .int .i64 version, .string lcall, .int .i64 cat, .int .i64 pow, .int .i64 cl, .slice Aj nj cj, .slice Al nl cl', .string aC, .int .i64 aN, .string bC, .int .i64 bN, .int .i64 rJ, .int .i64 rN, .int .i64 hash, .int .i64 prev] 46)).alloc (.cells #[.int .i64 0, .int .i64 0, .int .i64 0, .int .i64 0, .string ⟨#[]⟩, .int .i64 0, .string ⟨#[]⟩, .int .i64 0, .int .i64 0, .int .i64 0, .slice none 0 0, .slice none 0 0, .string ⟨#[]⟩, .int .i64 0, .string ⟨#[]⟩, .int .i64 0, .int .i64 0, .int .i64 0, .int .i64 0, .int .i64 0] 46) = W := ⟨_, rfl⟩
  have hA : Blk W w.heap.size 46 #[.int .i64 judge, .int .i64 num, .int .i64 clock, .int .i64 kind, .string call, .int .i64 version, .string lcall, .int .i64 cat, .int .i64 pow, .int .i64 cl, .slice Aj nj cj, .slice Al nl cl', .string aC, .int .i64 aN, .string bC, .int .i64 bN, .int .i64 rJ, .int .i64 rN, .int .i64 hash, .int .i64 prev] := by rw [← hW]; exact (Blk.new w _ _).alloc _
  have hB : Blk W (w.heap.size + 1) 46 #[.int .i64 0, .int .i64 0, .int .i64 0, .int .i64 0, .string ⟨#[]⟩, .int .i64 0, .string ⟨#[]⟩, .int .i64 0, .int .i64 0, .int .i64 0, .slice none 0 0, .slice none 0 0, .string ⟨#[]⟩, .int .i64 0, .string ⟨#[]⟩, .int .i64 0, .int .i64 0, .int .i64 0, .int .i64 0, .int .i64 0] := by rw [← hW]; have := Blk.new (w.alloc (.cells #[.int .i64 judge, .int .i64 num, .int .i64 clock, .int .i64 kind, .string call, .int .i64 version, .string lcall, .int .i64 cat, .int .i64 pow, .int .i64 cl, .slice Aj nj cj, .slice Al nl cl', .string aC, .int .i64 aN, .string bC, .int .i64 bN, .int .i64 rJ, .int .i64 rN, .int .i64 hash, .int .i64 prev] 46)) 46 #[.int .i64 0, .int .i64 0, .int .i64 0, .int .i64 0, .string ⟨#[]⟩, .int .i64 0, .string ⟨#[]⟩, .int .i64 0, .int .i64 0, .int .i64 0, .slice none 0 0, .slice none 0 0, .string ⟨#[]⟩, .int .i64 0, .string ⟨#[]⟩, .int .i64 0, .int .i64 0, .int .i64 0, .int .i64 0, .int .i64 0]; rwa [World.size_alloc] at this
  have hb : Below w.heap.size w W := by rw [← hW]; exact ((Below.refl _ w).alloc (Nat.le_refl _) _).alloc (by simp) _
  rw [hW]
  clear hW
  have HB := Lib.hid hb.drew
  clear hb
  cases z1
  · as_aux_lemma =>
      refine wp_region_held_drew (S := (fun w' => Blk w' w.heap.size 46 #[.int .i64 judge, .int .i64 num, .int .i64 clock, .int .i64 kind, .string call, .int .i64 version, .string lcall, .int .i64 cat, .int .i64 pow, .int .i64 cl, .slice Aj nj cj, .slice Al nl cl', .string aC, .int .i64 aN, .string bC, .int .i64 bN, .int .i64 rJ, .int .i64 rN, .int .i64 hash, .int .i64 prev] ∧ Blk w' (w.heap.size + 1) 46 #[.int .i64 0, .int .i64 0, .int .i64 0, .int .i64 0, .string ⟨#[]⟩, .int .i64 0, .string ⟨#[]⟩, .int .i64 0, .int .i64 0, .int .i64 0, .slice none 0 0, .slice none 0 0, .string ⟨#[]⟩, .int .i64 0, .string ⟨#[]⟩, .int .i64 0, .int .i64 0, .int .i64 0, .int .i64 0, .int .i64 0])) (by kernel_rfl) ?hS1 (fun hHeld => ?_)
      case hS1 => exact ⟨hA.drew, hB.drew⟩
      refine tk3 (i := 0) ?_; try simp only [Act.put, zq]
      refine tk4 (i := 1) (fun w9 hSw => hSw.1) ?_; try simp only [Act.put, zq]
      refine tk3 (i := 3) ?_; try simp only [Act.put, zq]
      refine tk4 (i := 4) (fun w9 hSw => hSw.2) ?_; try simp only [Act.put, zq]
      refine wpAnyH_ready (rs := [2]) (by kernel_rfl) (by simp) ?_
      refine AllReadyH.cons rfl (fun K hK => ?_) AllReadyH.nil
      go_simp
      (go_at_call 121; ((with_reducible refine (h1 _).mono ?_); rintro e w1 ⟨rfl, hx1⟩); have hA1 := hA.drew.later hx1; have hB1 := hB.drew.later hx1; have hb1 : Below w.heap.size w w1 := HB.out.trans (hx1.mono HB.out.size))
      go_wp2_with fail
      refine hK.out _ _ ?hS1_5 (fun hHeld => ?_)
      case hS1_5 => ((try dsimp only); exact ⟨hA1, hB1⟩)
      clear hK K
      (try simp only [Act.put, zq])
      refine wpAnyH_ready (rs := [5]) (by kernel_rfl) (by simp) ?_
      refine AllReadyH.cons rfl (fun K hK => ?_) AllReadyH.nil
      go_simp
      (go_at_call 121; ((with_reducible refine (h2 _).mono ?_); rintro e w2 ⟨rfl, hx2⟩); have hA2 := hA1.later hx2; have hB2 := hB1.later hx2; have hb2 : Below w.heap.size w w2 := hb1.trans (hx2.mono hb1.size))
      go_wp2_with fail
      refine hK.out _ _ ?hS1_6 (fun hHeld => ?_)
      case hS1_6 => ((try dsimp only); exact ⟨hA2, hB2⟩)
      clear hK K
      (try simp only [Act.put, zq])
      refine tk3 (i := 6) ?_; try simp only [Act.put, zq]
      refine tk3 (i := 7) ?_; try simp only [Act.put, zq]
      refine tk2 (i := 8) ?_; try simp only [Act.put, zq]
      refine tk2 (i := 9) ?_; try simp only [Act.put, zq]
      refine tk2 (i := 10) ?_; try simp only [Act.put, zq]
      refine tk2 (i := 11) ?_; try simp only [Act.put, zq]
      refine tk2 (i := 12) ?_; try simp only [Act.put, zq]
      refine tk3 (i := 13) ?_; try simp only [Act.put, zq]
      refine tk3 (i := 14) ?_; try simp only [Act.put, zq]
      refine tk2 (i := 15) ?_; try simp only [Act.put, zq]
      refine tk2 (i := 16) ?_; try simp only [Act.put, zq]
      refine tk2 (i := 17) ?_; try simp only [Act.put, zq]
      refine tk2 (i := 18) ?_; try simp only [Act.put, zq]
      refine tk2 (i := 19) ?_; try simp only [Act.put, zq]
      refine tk3 (i := 20) ?_; try simp only [Act.put, zq]
      refine tk3 (i := 21) ?_; try simp only [Act.put, zq]
      refine tk2 (i := 22) ?_; try simp only [Act.put, zq]
      refine tk2 (i := 23) ?_; try simp only [Act.put, zq]
      refine tk2 (i := 24) ?_; try simp only [Act.put, zq]
      refine tk2 (i := 25) ?_; try simp only [Act.put, zq]
      refine tk2 (i := 26) ?_; try simp only [Act.put, zq]
      refine tk3 (i := 27) ?_; try simp only [Act.put, zq]
      refine tk3 (i := 28) ?_; try simp only [Act.put, zq]
      refine tk2 (i := 29) ?_; try simp only [Act.put, zq]
      refine tk2 (i := 30) ?_; try simp only [Act.put, zq]
      refine tk2 (i := 31) ?_; try simp only [Act.put, zq]
      refine tk2 (i := 32) ?_; try simp only [Act.put, zq]
      refine tk2 (i := 33) ?_; try simp only [Act.put, zq]
      refine tk3 (i := 34) ?_; try simp only [Act.put, zq]
      refine tk3 (i := 35) ?_; try simp only [Act.put, zq]
      refine tk2 (i := 36) ?_; try simp only [Act.put, zq]
      refine tk2 (i := 37) ?_; try simp only [Act.put, zq]
      refine tk2 (i := 38) ?_; try simp only [Act.put, zq]
      refine tk2 (i := 39) ?_; try simp only [Act.put, zq]
      refine tk2 (i := 40) ?_; try simp only [Act.put, zq]
      refine tk3 (i := 41) ?_; try simp only [Act.put, zq]
      refine tk3 (i := 42) ?_; try simp only [Act.put, zq]
      refine wpAnyH_done (by kernel_rfl) ?_ _
      go_wp2
      go_ret
      exact ⟨by simp, hb2⟩
  · cases z2
    · have hce := HC0.out rfl
      have hce2 : (call.toList == ([] : List UInt8)) = false := by simpa using hce
      have hce3 : call.toList.isEmpty = false := by simpa using hce
      as_aux_lemma =>
        refine wp_region_held_drew (S := (fun w' => Blk w' w.heap.size 46 #[.int .i64 judge, .int .i64 num, .int .i64 clock, .int .i64 kind, .string call, .int .i64 version, .string lcall, .int .i64 cat, .int .i64 pow, .int .i64 cl, .slice Aj nj cj, .slice Al nl cl', .string aC, .int .i64 aN, .string bC, .int .i64 bN, .int .i64 rJ, .int .i64 rN, .int .i64 hash, .int .i64 prev] ∧ Blk w' (w.heap.size + 1) 46 #[.int .i64 0, .int .i64 0, .int .i64 0, .int .i64 0, .string ⟨#[]⟩, .int .i64 0, .string ⟨#[]⟩, .int .i64 0, .int .i64 0, .int .i64 0, .slice none 0 0, .slice none 0 0, .string ⟨#[]⟩, .int .i64 0, .string ⟨#[]⟩, .int .i64 0, .int .i64 0, .int .i64 0, .int .i64 0, .int .i64 0])) (by kernel_rfl) ?hS2 (fun hHeld => ?_)
        case hS2 => exact ⟨hA.drew, hB.drew⟩
        refine tk3 (i := 0) ?_; try simp only [Act.put, zq]
        refine tk4 (i := 1) (fun w9 hSw => hSw.1) ?_; try simp only [Act.put, zq]
        refine tk3 (i := 3) ?_; try simp only [Act.put, zq]
        refine tk4 (i := 4) (fun w9 hSw => hSw.2) ?_; try simp only [Act.put, zq]
        refine wpAnyH_ready (rs := [2]) (by kernel_rfl) (by simp) ?_
        refine AllReadyH.cons rfl (fun K hK => ?_) AllReadyH.nil
        go_simp
        (go_at_call 121; ((with_reducible refine (h1 _).mono ?_); rintro e w1 ⟨rfl, hx1⟩); have hA1 := hA.drew.later hx1; have hB1 := hB.drew.later hx1; have hb1 : Below w.heap.size w w1 := HB.out.trans (hx1.mono HB.out.size))
        go_wp2_with fail
        refine hK.out _ _ ?hS2_5 (fun hHeld => ?_)
        case hS2_5 => ((try dsimp only); exact ⟨hA1, hB1⟩)
        clear hK K
        (try simp only [Act.put, zq])
        refine wpAnyH_ready (rs := [5]) (by kernel_rfl) (by simp) ?_
        refine AllReadyH.cons rfl (fun K hK => ?_) AllReadyH.nil
        go_simp
        (go_at_call 121; ((with_reducible refine (h2 _).mono ?_); rintro e w2 ⟨rfl, hx2⟩); have hA2 := hA1.later hx2; have hB2 := hB1.later hx2; have hb2 : Below w.heap.size w w2 := hb1.trans (hx2.mono hb1.size))
        go_wp2_with fail
        refine hK.out _ _ ?hS2_6 (fun hHeld => ?_)
        case hS2_6 => ((try dsimp only); exact ⟨hA2, hB2⟩)
        clear hK K
        (try simp only [Act.put, zq])
        refine tk3 (i := 6) ?_; try simp only [Act.put, zq]
        refine tk3 (i := 7) ?_; try simp only [Act.put, zq]
        refine tk3 (i := 8) ?_; try simp only [Act.put, zq]
        refine tk1 (i := 9) (v := ?v2_10) ?hy2_10 ?_
        case hy2_10 => ((intro w9 hSw; have e0 : w9.cell? ⟨w.heap.size, 4, none⟩ = some (.string call) := hSw.1.cell 4; go_simp) <;> with_reducible rfl)
        (try simp only [Act.put, zq])
        refine tk3 (i := 10) ?_; try simp only [Act.put, zq]
        refine tk1 (i := 11) (v := ?v2_12) ?hy2_12 ?_
        case hy2_12 => ((intro w9 hSw; have e0 : w9.cell? ⟨(w.heap.size + 1), 4, none⟩ = some (.string ⟨#[]⟩) := hSw.2.cell 4; go_simp) <;> with_reducible rfl)
        (try simp only [Act.put, zq])
        refine tk3 (i := 12) ?_; try simp only [Act.put, zq]
        refine tk3 (i := 13) ?_; try simp only [Act.put, zq]
        refine tk3 (i := 14) ?_; try simp only [Act.put, zq]
        refine tk2 (i := 15) ?_; try simp only [Act.put, zq]
        refine tk2 (i := 16) ?_; try simp only [Act.put, zq]
        refine tk2 (i := 17) ?_; try simp only [Act.put, zq]
        refine tk2 (i := 18) ?_; try simp only [Act.put, zq]
        refine tk2 (i := 19) ?_; try simp only [Act.put, zq]
        refine tk3 (i := 20) ?_; try simp only [Act.put, zq]
        refine tk3 (i := 21) ?_; try simp only [Act.put, zq]
        refine tk2 (i := 22) ?_; try simp only [Act.put, zq]
        refine tk2 (i := 23) ?_; try simp only [Act.put, zq]
        refine tk2 (i := 24) ?_; try simp only [Act.put, zq]
        refine tk2 (i := 25) ?_; try simp only [Act.put, zq]
        refine tk2 (i := 26) ?_; try simp only [Act.put, zq]
        refine tk3 (i := 27) ?_; try simp only [Act.put, zq]
        refine tk3 (i := 28) ?_; try simp only [Act.put, zq]
        refine tk2 (i := 29) ?_; try simp only [Act.put, zq]
        refine tk2 (i := 30) ?_; try simp only [Act.put, zq]
        refine tk2 (i := 31) ?_; try simp only [Act.put, zq]
        refine tk2 (i := 32) ?_; try simp only [Act.put, zq]
        refine tk2 (i := 33) ?_; try simp only [Act.put, zq]
        refine tk3 (i := 34) ?_; try simp only [Act.put, zq]
        refine tk3 (i := 35) ?_; try simp only [Act.put, zq]
        refine tk2 (i := 36) ?_; try simp only [Act.put, zq]
        refine tk2 (i := 37) ?_; try simp only [Act.put, zq]
        refine tk2 (i := 38) ?_; try simp only [Act.put, zq]
        refine tk2 (i := 39) ?_; try simp only [Act.put, zq]
        refine tk2 (i := 40) ?_; try simp only [Act.put, zq]
        refine tk3 (i := 41) ?_; try simp only [Act.put, zq]
        refine tk3 (i := 42) ?_; try simp only [Act.put, zq]
        refine wpAnyH_done (by kernel_rfl) ?_ _
        go_wp2
        go_ret
        exact ⟨by simp, hb2⟩
    · have hce := HC1.out rfl
      cases z3
      · as_aux_lemma =>
          refine wp_region_held_drew (S := (fun w' => Blk w' w.heap.size 46 #[.int .i64 judge, .int .i64 num, .int .i64 clock, .int .i64 kind, .string call, .int .i64 version, .string lcall, .int .i64 cat, .int .i64 pow, .int .i64 cl, .slice Aj nj cj, .slice Al nl cl', .string aC, .int .i64 aN, .string bC, .int .i64 bN, .int .i64 rJ, .int .i64 rN, .int .i64 hash, .int .i64 prev] ∧ Blk w' (w.heap.size + 1) 46 #[.int .i64 0, .int .i64 0, .int .i64 0, .int .i64 0, .string ⟨#[]⟩, .int .i64 0, .string ⟨#[]⟩, .int .i64 0, .int .i64 0, .int .i64 0, .slice none 0 0, .slice none 0 0, .string ⟨#[]⟩, .int .i64 0, .string ⟨#[]⟩, .int .i64 0, .int .i64 0, .int .i64 0, .int .i64 0, .int .i64 0])) (by kernel_rfl) ?hS3 (fun hHeld => ?_)
          case hS3 => exact ⟨hA.drew, hB.drew⟩
          refine tk3 (i := 0) ?_; try simp only [Act.put, zq]
          refine tk4 (i := 1) (fun w9 hSw => hSw.1) ?_; try simp only [Act.put, zq]
          refine tk3 (i := 3) ?_; try simp only [Act.put, zq]
          refine tk4 (i := 4) (fun w9 hSw => hSw.2) ?_; try simp only [Act.put, zq]
          refine wpAnyH_ready (rs := [2]) (by kernel_rfl) (by simp) ?_
          refine AllReadyH.cons rfl (fun K hK => ?_) AllReadyH.nil
          go_simp
          (go_at_call 121; ((with_reducible refine (h1 _).mono ?_); rintro e w1 ⟨rfl, hx1⟩); have hA1 := hA.drew.later hx1; have hB1 := hB.drew.later hx1; have hb1 : Below w.heap.size w w1 := HB.out.trans (hx1.mono HB.out.size))
          go_wp2_with fail
          refine hK.out _ _ ?hS3_5 (fun hHeld => ?_)
          case hS3_5 => ((try dsimp only); exact ⟨hA1, hB1⟩)
          clear hK K
          (try simp only [Act.put, zq])
          refine wpAnyH_ready (rs := [5]) (by kernel_rfl) (by simp) ?_
          refine AllReadyH.cons rfl (fun K hK => ?_) AllReadyH.nil
          go_simp
          (go_at_call 121; ((with_reducible refine (h2 _).mono ?_); rintro e w2 ⟨rfl, hx2⟩); have hA2 := hA1.later hx2; have hB2 := hB1.later hx2; have hb2 : Below w.heap.size w w2 := hb1.trans (hx2.mono hb1.size))
          go_wp2_with fail
          refine hK.out _ _ ?hS3_6 (fun hHeld => ?_)
          case hS3_6 => ((try dsimp only); exact ⟨hA2, hB2⟩)
          clear hK K
          (try simp only [Act.put, zq])
          refine tk3 (i := 6) ?_; try simp only [Act.put, zq]
          refine tk3 (i := 7) ?_; try simp only [Act.put, zq]
          refine tk3 (i := 8) ?_; try simp only [Act.put, zq]
          refine tk1 (i := 9) (v := ?v3_10) ?hy3_10 ?_
          case hy3_10 => ((intro w9 hSw; have e0 : w9.cell? ⟨w.heap.size, 4, none⟩ = some (.string call) := hSw.1.cell 4; go_simp) <;> with_reducible rfl)
          (try simp only [Act.put, zq])
          refine tk3 (i := 10) ?_; try simp only [Act.put, zq]
          refine tk1 (i := 11) (v := ?v3_12) ?hy3_12 ?_
          case hy3_12 => ((intro w9 hSw; have e0 : w9.cell? ⟨(w.heap.size + 1), 4, none⟩ = some (.string ⟨#[]⟩) := hSw.2.cell 4; go_simp) <;> with_reducible rfl)
          (try simp only [Act.put, zq])
          refine tk3 (i := 12) ?_; try simp only [Act.put, zq]
          refine tk3 (i := 13) ?_; try simp only [Act.put, zq]
          refine tk3 (i := 14) ?_; try simp only [Act.put, zq]
          refine tk3 (i := 15) ?_; try simp only [Act.put, zq]
          refine tk1 (i := 16) (v := ?v3_17) ?hy3_17 ?_
          case hy3_17 => ((intro w9 hSw; have e0 : w9.cell? ⟨w.heap.size, 12, none⟩ = some (.string aC) := hSw.1.cell 12; have e1 : w9.cell? ⟨w.heap.size, 13, none⟩ = some (.int .i64 aN) := hSw.1.cell 13; go_simp) <;> with_reducible rfl)
          (try simp only [Act.put, zq])
          refine tk3 (i := 17) ?_; try simp only [Act.put, zq]
          refine tk1 (i := 18) (v := ?v3_19) ?hy3_19 ?_
          case hy3_19 => ((intro w9 hSw; have e0 : w9.cell? ⟨(w.heap.size + 1), 12, none⟩ = some (.string ⟨#[]⟩) := hSw.2.cell 12; have e1 : w9.cell? ⟨(w.heap.size + 1), 13, none⟩ = some (.int .i64 0) := hSw.2.cell 13; go_simp) <;> with_reducible rfl)
          (try simp only [Act.put, zq])
          refine tk3 (i := 19) ?_; try simp only [Act.put, zq]
          refine tk3 (i := 20) ?_; try simp only [Act.put, zq]
          refine tk3 (i := 21) ?_; try simp only [Act.put, zq]
          refine tk2 (i := 22) ?_; try simp only [Act.put, zq]
          refine tk2 (i := 23) ?_; try simp only [Act.put, zq]
          refine tk2 (i := 24) ?_; try simp only [Act.put, zq]
          refine tk2 (i := 25) ?_; try simp only [Act.put, zq]
          refine tk2 (i := 26) ?_; try simp only [Act.put, zq]
          refine tk3 (i := 27) ?_; try simp only [Act.put, zq]
          refine tk3 (i := 28) ?_; try simp only [Act.put, zq]
          refine tk2 (i := 29) ?_; try simp only [Act.put, zq]
          refine tk2 (i := 30) ?_; try simp only [Act.put, zq]
          refine tk2 (i := 31) ?_; try simp only [Act.put, zq]
          refine tk2 (i := 32) ?_; try simp only [Act.put, zq]
          refine tk2 (i := 33) ?_; try simp only [Act.put, zq]
          refine tk3 (i := 34) ?_; try simp only [Act.put, zq]
          refine tk3 (i := 35) ?_; try simp only [Act.put, zq]
          refine tk2 (i := 36) ?_; try simp only [Act.put, zq]
          refine tk2 (i := 37) ?_; try simp only [Act.put, zq]
          refine tk2 (i := 38) ?_; try simp only [Act.put, zq]
          refine tk2 (i := 39) ?_; try simp only [Act.put, zq]
          refine tk2 (i := 40) ?_; try simp only [Act.put, zq]
          refine tk3 (i := 41) ?_; try simp only [Act.put, zq]
          refine tk3 (i := 42) ?_; try simp only [Act.put, zq]
          refine wpAnyH_done (by kernel_rfl) ?_ _
          go_wp2
          go_ret
          exact ⟨by simp, hb2⟩
      · cases z4
        · as_aux_lemma =>
            refine wp_region_held_drew (S := (fun w' => Blk w' w.heap.size 46 #[.int .i64 judge, .int .i64 num, .int .i64 clock, .int .i64 kind, .string call, .int .i64 version, .string lcall, .int .i64 cat, .int .i64 pow, .int .i64 cl, .slice Aj nj cj, .slice Al nl cl', .string aC, .int .i64 aN, .string bC, .int .i64 bN, .int .i64 rJ, .int .i64 rN, .int .i64 hash, .int .i64 prev] ∧ Blk w' (w.heap.size + 1) 46 #[.int .i64 0, .int .i64 0, .int .i64 0, .int .i64 0, .string ⟨#[]⟩, .int .i64 0, .string ⟨#[]⟩, .int .i64 0, .int .i64 0, .int .i64 0, .slice none 0 0, .slice none 0 0, .string ⟨#[]⟩, .int .i64 0, .string ⟨#[]⟩, .int .i64 0, .int .i64 0, .int .i64 0, .int .i64 0, .int .i64 0])) (by kernel_rfl) ?hS4 (fun hHeld => ?_)
            case hS4 => exact ⟨hA.drew, hB.drew⟩
            refine tk3 (i := 0) ?_; try simp only [Act.put, zq]
            refine tk4 (i := 1) (fun w9 hSw => hSw.1) ?_; try simp only [Act.put, zq]
            refine tk3 (i := 3) ?_; try simp only [Act.put, zq]
            refine tk4 (i := 4) (fun w9 hSw => hSw.2) ?_; try simp only [Act.put, zq]
            refine wpAnyH_ready (rs := [2]) (by kernel_rfl) (by simp) ?_
            refine AllReadyH.cons rfl (fun K hK => ?_) AllReadyH.nil
            go_simp
            (go_at_call 121; ((with_reducible refine (h1 _).mono ?_); rintro e w1 ⟨rfl, hx1⟩); have hA1 := hA.drew.later hx1; have hB1 := hB.drew.later hx1; have hb1 : Below w.heap.size w w1 := HB.out.trans (hx1.mono HB.out.size))
            go_wp2_with fail
            refine hK.out _ _ ?hS4_5 (fun hHeld => ?_)
            case hS4_5 => ((try dsimp only); exact ⟨hA1, hB1⟩)
            clear hK K
            (try simp only [Act.put, zq])
            refine wpAnyH_ready (rs := [5]) (by kernel_rfl) (by simp) ?_
            refine AllReadyH.cons rfl (fun K hK => ?_) AllReadyH.nil
            go_simp
            (go_at_call 121; ((with_reducible refine (h2 _).mono ?_); rintro e w2 ⟨rfl, hx2⟩); have hA2 := hA1.later hx2; have hB2 := hB1.later hx2; have hb2 : Below w.heap.size w w2 := hb1.trans (hx2.mono hb1.size))
            go_wp2_with fail
            refine hK.out _ _ ?hS4_6 (fun hHeld => ?_)
            case hS4_6 => ((try dsimp only); exact ⟨hA2, hB2⟩)
            clear hK K
            (try simp only [Act.put, zq])
            refine tk3 (i := 6) ?_; try simp only [Act.put, zq]
            refine tk3 (i := 7) ?_; try simp only [Act.put, zq]
            refine tk3 (i := 8) ?_; try simp only [Act.put, zq]
            refine tk1 (i := 9) (v := ?v4_10) ?hy4_10 ?_
            case hy4_10 => ((intro w9 hSw; have e0 : w9.cell? ⟨w.heap.size, 4, none⟩ = some (.string call) := hSw.1.cell 4; go_simp) <;> with_reducible rfl)
            (try simp only [Act.put, zq])
            refine tk3 (i := 10) ?_; try simp only [Act.put, zq]
            refine tk1 (i := 11) (v := ?v4_12) ?hy4_12 ?_
            case hy4_12 => ((intro w9 hSw; have e0 : w9.cell? ⟨(w.heap.size + 1), 4, none⟩ = some (.string ⟨#[]⟩) := hSw.2.cell 4; go_simp) <;> with_reducible rfl)
            (try simp only [Act.put, zq])
            refine tk3 (i := 12) ?_; try simp only [Act.put, zq]
            refine tk3 (i := 13) ?_; try simp only [Act.put, zq]
            refine tk3 (i := 14) ?_; try simp only [Act.put, zq]
            refine tk3 (i := 15) ?_; try simp only [Act.put, zq]
            refine tk1 (i := 16) (v := ?v4_17) ?hy4_17 ?_
            case hy4_17 => ((intro w9 hSw; have e0 : w9.cell? ⟨w.heap.size, 12, none⟩ = some (.string aC) := hSw.1.cell 12; have e1 : w9.cell? ⟨w.heap.size, 13, none⟩ = some (.int .i64 aN) := hSw.1.cell 13; go_simp) <;> with_reducible rfl)
            (try simp only [Act.put, zq])
            refine tk3 (i := 17) ?_; try simp only [Act.put, zq]
            refine tk1 (i := 18) (v := ?v4_19) ?hy4_19 ?_
            case hy4_19 => ((intro w9 hSw; have e0 : w9.cell? ⟨(w.heap.size + 1), 12, none⟩ = some (.string ⟨#[]⟩) := hSw.2.cell 12; have e1 : w9.cell? ⟨(w.heap.size + 1), 13, none⟩ = some (.int .i64 0) := hSw.2.cell 13; go_simp) <;> with_reducible rfl)
            (try simp only [Act.put, zq])
            refine tk3 (i := 19) ?_; try simp only [Act.put, zq]
            refine tk3 (i := 20) ?_; try simp only [Act.put, zq]
            refine tk3 (i := 21) ?_; try simp only [Act.put, zq]
            refine tk3 (i := 22) ?_; try simp only [Act.put, zq]
            refine tk1 (i := 23) (v := ?v4_24) ?hy4_24 ?_
            case hy4_24 => ((intro w9 hSw; have e0 : w9.cell? ⟨w.heap.size, 14, none⟩ = some (.string bC) := hSw.1.cell 14; have e1 : w9.cell? ⟨w.heap.size, 15, none⟩ = some (.int .i64 bN) := hSw.1.cell 15; go_simp) <;> with_reducible rfl)
            (try simp only [Act.put, zq])
            refine tk3 (i := 24) ?_; try simp only [Act.put, zq]
            refine tk1 (i := 25) (v := ?v4_26) ?hy4_26 ?_
            case hy4_26 => ((intro w9 hSw; have e0 : w9.cell? ⟨(w.heap.size + 1), 14, none⟩ = some (.string ⟨#[]⟩) := hSw.2.cell 14; have e1 : w9.cell? ⟨(w.heap.size + 1), 15, none⟩ = some (.int .i64 0) := hSw.2.cell 15; go_simp) <;> with_reducible rfl)
            (try simp only [Act.put, zq])
            refine tk3 (i := 26) ?_; try simp only [Act.put, zq]
            refine tk3 (i := 27) ?_; try simp only [Act.put, zq]
            refine tk3 (i := 28) ?_; try simp only [Act.put, zq]
            refine tk2 (i := 29) ?_; try simp only [Act.put, zq]
            refine tk2 (i := 30) ?_; try simp only [Act.put, zq]
            refine tk2 (i := 31) ?_; try simp only [Act.put, zq]
            refine tk2 (i := 32) ?_; try simp only [Act.put, zq]
            refine tk2 (i := 33) ?_; try simp only [Act.put, zq]
            refine tk3 (i := 34) ?_; try simp only [Act.put, zq]
            refine tk3 (i := 35) ?_; try simp only [Act.put, zq]
            refine tk2 (i := 36) ?_; try simp only [Act.put, zq]
            refine tk2 (i := 37) ?_; try simp only [Act.put, zq]
            refine tk2 (i := 38) ?_; try simp only [Act.put, zq]
            refine tk2 (i := 39) ?_; try simp only [Act.put, zq]
            refine tk2 (i := 40) ?_; try simp only [Act.put, zq]
            refine tk3 (i := 41) ?_; try simp only [Act.put, zq]
            refine tk3 (i := 42) ?_; try simp only [Act.put, zq]
            refine wpAnyH_done (by kernel_rfl) ?_ _
            go_wp2
            go_ret
            exact ⟨by simp, hb2⟩
        · cases z5
          · as_aux_lemma =>
              refine wp_region_held_drew (S := (fun w' => Blk w' w.heap.size 46 #[.int .i64 judge, .int .i64 num, .int .i64 clock, .int .i64 kind, .string call, .int .i64 version, .string lcall, .int .i64 cat, .int .i64 pow, .int .i64 cl, .slice Aj nj cj, .slice Al nl cl', .string aC, .int .i64 aN, .string bC, .int .i64 bN, .int .i64 rJ, .int .i64 rN, .int .i64 hash, .int .i64 prev] ∧ Blk w' (w.heap.size + 1) 46 #[.int .i64 0, .int .i64 0, .int .i64 0, .int .i64 0, .string ⟨#[]⟩, .int .i64 0, .string ⟨#[]⟩, .int .i64 0, .int .i64 0, .int .i64 0, .slice none 0 0, .slice none 0 0, .string ⟨#[]⟩, .int .i64 0, .string ⟨#[]⟩, .int .i64 0, .int .i64 0, .int .i64 0, .int .i64 0, .int .i64 0])) (by kernel_rfl) ?hS5 (fun hHeld => ?_)
              case hS5 => exact ⟨hA.drew, hB.drew⟩
              refine tk3 (i := 0) ?_; try simp only [Act.put, zq]
              refine tk4 (i := 1) (fun w9 hSw => hSw.1) ?_; try simp only [Act.put, zq]
              refine tk3 (i := 3) ?_; try simp only [Act.put, zq]
              refine tk4 (i := 4) (fun w9 hSw => hSw.2) ?_; try simp only [Act.put, zq]
              refine wpAnyH_ready (rs := [2]) (by kernel_rfl) (by simp) ?_
              refine AllReadyH.cons rfl (fun K hK => ?_) AllReadyH.nil
              go_simp
              (go_at_call 121; ((with_reducible refine (h1 _).mono ?_); rintro e w1 ⟨rfl, hx1⟩); have hA1 := hA.drew.later hx1; have hB1 := hB.drew.later hx1; have hb1 : Below w.heap.size w w1 := HB.out.trans (hx1.mono HB.out.size))
              go_wp2_with fail
              refine hK.out _ _ ?hS5_5 (fun hHeld => ?_)
              case hS5_5 => ((try dsimp only); exact ⟨hA1, hB1⟩)
              clear hK K
              (try simp only [Act.put, zq])
              refine wpAnyH_ready (rs := [5]) (by kernel_rfl) (by simp) ?_
              refine AllReadyH.cons rfl (fun K hK => ?_) AllReadyH.nil
              go_simp
              (go_at_call 121; ((with_reducible refine (h2 _).mono ?_); rintro e w2 ⟨rfl, hx2⟩); have hA2 := hA1.later hx2; have hB2 := hB1.later hx2; have hb2 : Below w.heap.size w w2 := hb1.trans (hx2.mono hb1.size))
              go_wp2_with fail
              refine hK.out _ _ ?hS5_6 (fun hHeld => ?_)
              case hS5_6 => ((try dsimp only); exact ⟨hA2, hB2⟩)
              clear hK K
              (try simp only [Act.put, zq])
              refine tk3 (i := 6) ?_; try simp only [Act.put, zq]
              refine tk3 (i := 7) ?_; try simp only [Act.put, zq]
              refine tk3 (i := 8) ?_; try simp only [Act.put, zq]
              refine tk1 (i := 9) (v := ?v5_10) ?hy5_10 ?_
              case hy5_10 => ((intro w9 hSw; have e0 : w9.cell? ⟨w.heap.size, 4, none⟩ = some (.string call) := hSw.1.cell 4; go_simp) <;> with_reducible rfl)
              (try simp only [Act.put, zq])
              refine tk3 (i := 10) ?_; try simp only [Act.put, zq]
              refine tk1 (i := 11) (v := ?v5_12) ?hy5_12 ?_
              case hy5_12 => ((intro w9 hSw; have e0 : w9.cell? ⟨(w.heap.size + 1), 4, none⟩ = some (.string ⟨#[]⟩) := hSw.2.cell 4; go_simp) <;> with_reducible rfl)
              (try simp only [Act.put, zq])
              refine tk3 (i := 12) ?_; try simp only [Act.put, zq]
              refine tk3 (i := 13) ?_; try simp only [Act.put, zq]
              refine tk3 (i := 14) ?_; try simp only [Act.put, zq]
              refine tk3 (i := 15) ?_; try simp only [Act.put, zq]
              refine tk1 (i := 16) (v := ?v5_17) ?hy5_17 ?_
              case hy5_17 => ((intro w9 hSw; have e0 : w9.cell? ⟨w.heap.size, 12, none⟩ = some (.string aC) := hSw.1.cell 12; have e1 : w9.cell? ⟨w.heap.size, 13, none⟩ = some (.int .i64 aN) := hSw.1.cell 13; go_simp) <;> with_reducible rfl)
              (try simp only [Act.put, zq])
              refine tk3 (i := 17) ?_; try simp only [Act.put, zq]
              refine tk1 (i := 18) (v := ?v5_19) ?hy5_19 ?_
              case hy5_19 => ((intro w9 hSw; have e0 : w9.cell? ⟨(w.heap.size + 1), 12, none⟩ = some (.string ⟨#[]⟩) := hSw.2.cell 12; have e1 : w9.cell? ⟨(w.heap.size + 1), 13, none⟩ = some (.int .i64 0) := hSw.2.cell 13; go_simp) <;> with_reducible rfl)
              (try simp only [Act.put, zq])
              refine tk3 (i := 19) ?_; try simp only [Act.put, zq]
              refine tk3 (i := 20) ?_; try simp only [Act.put, zq]
              refine tk3 (i := 21) ?_; try simp only [Act.put, zq]
              refine tk3 (i := 22) ?_; try simp only [Act.put, zq]
              refine tk1 (i := 23) (v := ?v5_24) ?hy5_24 ?_
              case hy5_24 => ((intro w9 hSw; have e0 : w9.cell? ⟨w.heap.size, 14, none⟩ = some (.string bC) := hSw.1.cell 14; have e1 : w9.cell? ⟨w.heap.size, 15, none⟩ = some (.int .i64 bN) := hSw.1.cell 15; go_simp) <;> with_reducible rfl)
              (try simp only [Act.put, zq])
              refine tk3 (i := 24) ?_; try simp only [Act.put, zq]
              refine tk1 (i := 25) (v := ?v5_26) ?hy5_26 ?_
              case hy5_26 => ((intro w9 hSw; have e0 : w9.cell? ⟨(w.heap.size + 1), 14, none⟩ = some (.string ⟨#[]⟩) := hSw.2.cell 14; have e1 : w9.cell? ⟨(w.heap.size + 1), 15, none⟩ = some (.int .i64 0) := hSw.2.cell 15; go_simp) <;> with_reducible rfl)
              (try simp only [Act.put, zq])
              refine tk3 (i := 26) ?_; try simp only [Act.put, zq]
              refine tk3 (i := 27) ?_; try simp only [Act.put, zq]
              refine tk3 (i := 28) ?_; try simp only [Act.put, zq]
              refine tk3 (i := 29) ?_; try simp only [Act.put, zq]
              refine tk1 (i := 30) (v := ?v5_31) ?hy5_31 ?_
              case hy5_31 => ((intro w9 hSw; have e0 : w9.cell? ⟨w.heap.size, 16, none⟩ = some (.int .i64 rJ) := hSw.1.cell 16; have e1 : w9.cell? ⟨w.heap.size, 17, none⟩ = some (.int .i64 rN) := hSw.1.cell 17; go_simp) <;> with_reducible rfl)
              (try simp only [Act.put, zq])
              refine tk3 (i := 31) ?_; try simp only [Act.put, zq]
              refine tk1 (i := 32) (v := ?v5_33) ?hy5_33 ?_
              case hy5_33 => ((intro w9 hSw; have e0 : w9.cell? ⟨(w.heap.size + 1), 16, none⟩ = some (.int .i64 0) := hSw.2.cell 16; have e1 : w9.cell? ⟨(w.heap.size + 1), 17, none⟩ = some (.int .i64 0) := hSw.2.cell 17; go_simp) <;> with_reducible rfl)
              (try simp only [Act.put, zq])
              refine tk3 (i := 33) ?_; try simp only [Act.put, zq]
              refine tk3 (i := 34) ?_; try simp only [Act.put, zq]
              refine tk3 (i := 35) ?_; try simp only [Act.put, zq]
              refine tk2 (i := 36) ?_; try simp only [Act.put, zq]
              refine tk2 (i := 37) ?_; try simp only [Act.put, zq]
              refine tk2 (i := 38) ?_; try simp only [Act.put, zq]
              refine tk2 (i := 39) ?_; try simp only [Act.put, zq]
              refine tk2 (i := 40) ?_; try simp only [Act.put, zq]
              refine tk3 (i := 41) ?_; try simp only [Act.put, zq]
              refine tk3 (i := 42) ?_; try simp only [Act.put, zq]
              refine wpAnyH_done (by kernel_rfl) ?_ _
              go_wp2
              go_ret
              exact ⟨by simp, hb2⟩
          · as_aux_lemma =>
              refine wp_region_held_drew (S := (fun w' => Blk w' w.heap.size 46 #[.int .i64 judge, .int .i64 num, .int .i64 clock, .int .i64 kind, .string call, .int .i64 version, .string lcall, .int .i64 cat, .int .i64 pow, .int .i64 cl, .slice Aj nj cj, .slice Al nl cl', .string aC, .int .i64 aN, .string bC, .int .i64 bN, .int .i64 rJ, .int .i64 rN, .int .i64 hash, .int .i64 prev] ∧ Blk w' (w.heap.size + 1) 46 #[.int .i64 0, .int .i64 0, .int .i64 0, .int .i64 0, .string ⟨#[]⟩, .int .i64 0, .string ⟨#[]⟩, .int .i64 0, .int .i64 0, .int .i64 0, .slice none 0 0, .slice none 0 0, .string ⟨#[]⟩, .int .i64 0, .string ⟨#[]⟩, .int .i64 0, .int .i64 0, .int .i64 0, .int .i64 0, .int .i64 0])) (by kernel_rfl) ?hS6 (fun hHeld => ?_)
              case hS6 => exact ⟨hA.drew, hB.drew⟩
              refine tk3 (i := 0) ?_; try simp only [Act.put, zq]
              refine tk4 (i := 1) (fun w9 hSw => hSw.1) ?_; try simp only [Act.put, zq]
              refine tk3 (i := 3) ?_; try simp only [Act.put, zq]
              refine tk4 (i := 4) (fun w9 hSw => hSw.2) ?_; try simp only [Act.put, zq]
              refine wpAnyH_ready (rs := [2]) (by kernel_rfl) (by simp) ?_
              refine AllReadyH.cons rfl (fun K hK => ?_) AllReadyH.nil
              go_simp
              (go_at_call 121; ((with_reducible refine (h1 _).mono ?_); rintro e w1 ⟨rfl, hx1⟩); have hA1 := hA.drew.later hx1; have hB1 := hB.drew.later hx1; have hb1 : Below w.heap.size w w1 := HB.out.trans (hx1.mono HB.out.size))
              go_wp2_with fail
              refine hK.out _ _ ?hS6_5 (fun hHeld => ?_)
              case hS6_5 => ((try dsimp only); exact ⟨hA1, hB1⟩)
              clear hK K
              (try simp only [Act.put, zq])
              refine wpAnyH_ready (rs := [5]) (by kernel_rfl) (by simp) ?_
              refine AllReadyH.cons rfl (fun K hK => ?_) AllReadyH.nil
              go_simp
              (go_at_call 121; ((with_reducible refine (h2 _).mono ?_); rintro e w2 ⟨rfl, hx2⟩); have hA2 := hA1.later hx2; have hB2 := hB1.later hx2; have hb2 : Below w.heap.size w w2 := hb1.trans (hx2.mono hb1.size))
              go_wp2_with fail
              refine hK.out _ _ ?hS6_6 (fun hHeld => ?_)
              case hS6_6 => ((try dsimp only); exact ⟨hA2, hB2⟩)
              clear hK K
              (try simp only [Act.put, zq])
              refine tk3 (i := 6) ?_; try simp only [Act.put, zq]
              refine tk3 (i := 7) ?_; try simp only [Act.put, zq]
              refine tk3 (i := 8) ?_; try simp only [Act.put, zq]
              refine tk1 (i := 9) (v := ?v6_10) ?hy6_10 ?_
              case hy6_10 => ((intro w9 hSw; have e0 : w9.cell? ⟨w.heap.size, 4, none⟩ = some (.string call) := hSw.1.cell 4; go_simp) <;> with_reducible rfl)
              (try simp only [Act.put, zq])
              refine tk3 (i := 10) ?_; try simp only [Act.put, zq]
              refine tk1 (i := 11) (v := ?v6_12) ?hy6_12 ?_
              case hy6_12 => ((intro w9 hSw; have e0 : w9.cell? ⟨(w.heap.size + 1), 4, none⟩ = some (.string ⟨#[]⟩) := hSw.2.cell 4; go_simp) <;> with_reducible rfl)
              (try simp only [Act.put, zq])
              refine tk3 (i := 12) ?_; try simp only [Act.put, zq]
              refine tk3 (i := 13) ?_; try simp only [Act.put, zq]
              refine tk3 (i := 14) ?_; try simp only [Act.put, zq]
              refine tk3 (i := 15) ?_; try simp only [Act.put, zq]
              refine tk1 (i := 16) (v := ?v6_17) ?hy6_17 ?_
              case hy6_17 => ((intro w9 hSw; have e0 : w9.cell? ⟨w.heap.size, 12, none⟩ = some (.string aC) := hSw.1.cell 12; have e1 : w9.cell? ⟨w.heap.size, 13, none⟩ = some (.int .i64 aN) := hSw.1.cell 13; go_simp) <;> with_reducible rfl)
              (try simp only [Act.put, zq])
              refine tk3 (i := 17) ?_; try simp only [Act.put, zq]
              refine tk1 (i := 18) (v := ?v6_19) ?hy6_19 ?_
              case hy6_19 => ((intro w9 hSw; have e0 : w9.cell? ⟨(w.heap.size + 1), 12, none⟩ = some (.string ⟨#[]⟩) := hSw.2.cell 12; have e1 : w9.cell? ⟨(w.heap.size + 1), 13, none⟩ = some (.int .i64 0) := hSw.2.cell 13; go_simp) <;> with_reducible rfl)
              (try simp only [Act.put, zq])
              refine tk3 (i := 19) ?_; try simp only [Act.put, zq]
              refine tk3 (i := 20) ?_; try simp only [Act.put, zq]
              refine tk3 (i := 21) ?_; try simp only [Act.put, zq]
              refine tk3 (i := 22) ?_; try simp only [Act.put, zq]
              refine tk1 (i := 23) (v := ?v6_24) ?hy6_24 ?_
              case hy6_24 => ((intro w9 hSw; have e0 : w9.cell? ⟨w.heap.size, 14, none⟩ = some (.string bC) := hSw.1.cell 14; have e1 : w9.cell? ⟨w.heap.size, 15, none⟩ = some (.int .i64 bN) := hSw.1.cell 15; go_simp) <;> with_reducible rfl)
              (try simp only [Act.put, zq])
              refine tk3 (i := 24) ?_; try simp only [Act.put, zq]
              refine tk1 (i := 25) (v := ?v6_26) ?hy6_26 ?_
              case hy6_26 => ((intro w9 hSw; have e0 : w9.cell? ⟨(w.heap.size + 1), 14, none⟩ = some (.string ⟨#[]⟩) := hSw.2.cell 14; have e1 : w9.cell? ⟨(w.heap.size + 1), 15, none⟩ = some (.int .i64 0) := hSw.2.cell 15; go_simp) <;> with_reducible rfl)
              (try simp only [Act.put, zq])
              refine tk3 (i := 26) ?_; try simp only [Act.put, zq]
              refine tk3 (i := 27) ?_; try simp only [Act.put, zq]
              refine tk3 (i := 28) ?_; try simp only [Act.put, zq]
              refine tk3 (i := 29) ?_; try simp only [Act.put, zq]
              refine tk1 (i := 30) (v := ?v6_31) ?hy6_31 ?_
              case hy6_31 => ((intro w9 hSw; have e0 : w9.cell? ⟨w.heap.size, 16, none⟩ = some (.int .i64 rJ) := hSw.1.cell 16; have e1 : w9.cell? ⟨w.heap.size, 17, none⟩ = some (.int .i64 rN) := hSw.1.cell 17; go_simp) <;> with_reducible rfl)
              (try simp only [Act.put, zq])
              refine tk3 (i := 31) ?_; try simp only [Act.put, zq]
              refine tk1 (i := 32) (v := ?v6_33) ?hy6_33 ?_
              case hy6_33 => ((intro w9 hSw; have e0 : w9.cell? ⟨(w.heap.size + 1), 16, none⟩ = some (.int .i64 0) := hSw.2.cell 16; have e1 : w9.cell? ⟨(w.heap.size + 1), 17, none⟩ = some (.int .i64 0) := hSw.2.cell 17; go_simp) <;> with_reducible rfl)
              (try simp only [Act.put, zq])
              refine tk3 (i := 33) ?_; try simp only [Act.put, zq]
              refine tk3 (i := 34) ?_; try simp only [Act.put, zq]
              refine tk3 (i := 35) ?_; try simp only [Act.put, zq]
              refine tk3 (i := 36) ?_; try simp only [Act.put, zq]
              refine tk1 (i := 37) (v := ?v6_38) ?hy6_38 ?_
              case hy6_38 => ((intro w9 hSw; have e0 : w9.cell? ⟨w.heap.size, 6, none⟩ = some (.string lcall) := hSw.1.cell 6; have e1 : w9.cell? ⟨w.heap.size, 7, none⟩ = some (.int .i64 cat) := hSw.1.cell 7; have e2 : w9.cell? ⟨w.heap.size, 8, none⟩ = some (.int .i64 pow) := hSw.1.cell 8; have e3 : w9.cell? ⟨w.heap.size, 9, none⟩ = some (.int .i64 cl) := hSw.1.cell 9; have e4 : w9.cell? ⟨w.heap.size, 10, none⟩ = some (.slice Aj nj cj) := hSw.1.cell 10; have e5 : w9.cell? ⟨w.heap.size, 11, none⟩ = some (.slice Al nl cl') := hSw.1.cell 11; go_simp) <;> with_reducible rfl)
              (try simp only [Act.put, zq])
              refine tk3 (i := 38) ?_; try simp only [Act.put, zq]
              refine tk1 (i := 39) (v := ?v6_40) ?hy6_40 ?_
              case hy6_40 => ((intro w9 hSw; have e0 : w9.cell? ⟨(w.heap.size + 1), 6, none⟩ = some (.string ⟨#[]⟩) := hSw.2.cell 6; have e1 : w9.cell? ⟨(w.heap.size + 1), 7, none⟩ = some (.int .i64 0) := hSw.2.cell 7; have e2 : w9.cell? ⟨(w.heap.size + 1), 8, none⟩ = some (.int .i64 0) := hSw.2.cell 8; have e3 : w9.cell? ⟨(w.heap.size + 1), 9, none⟩ = some (.int .i64 0) := hSw.2.cell 9; have e4 : w9.cell? ⟨(w.heap.size + 1), 10, none⟩ = some (.slice none 0 0) := hSw.2.cell 10; have e5 : w9.cell? ⟨(w.heap.size + 1), 11, none⟩ = some (.slice none 0 0) := hSw.2.cell 11; go_simp) <;> with_reducible rfl)
              (try simp only [Act.put, zq])
              refine wpAnyH_ready (rs := [40]) (by kernel_rfl) (by simp) ?_
              refine AllReadyH.cons rfl (fun K hK => ?_) AllReadyH.nil
              go_simp
              (go_at_call 122; refine (h3 _).mono ?_; rintro e w3 ⟨rfl, hx3⟩; have hA3 := hA2.later hx3; have hB3 := hB2.later hx3; have hb3 : Below w.heap.size w w3 := hb2.trans (hx3.mono hb2.size))
              go_wp2_with fail
              refine hK.out _ _ ?hS6_41 (fun hHeld => ?_)
              case hS6_41 => ((try dsimp only); exact ⟨hA3, hB3⟩)
              clear hK K
              (try simp only [Act.put, zq])
              refine tk3 (i := 41) ?_; try simp only [Act.put, zq]
              refine tk3 (i := 42) ?_; try simp only [Act.put, zq]
              refine wpAnyH_done (by kernel_rfl) ?_ _
              go_wp2
              go_ret
              exact ⟨by simp, hb3⟩
end Go.Proofs.YtlamogpdkmbeoaaGreatDoor
end PartNoteC2
