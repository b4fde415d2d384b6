/- The walks of the leaves: characters, codes, the costs of one mode. -/
import Derived.Test.YtgcddjgkieambaaGreatDoorChecked
import Derived.Test.YtgcddjgkieambaaGreatDoorShelf
import Derived.Test.YtgcddjgkieambaaGreatDoorChars
import Derived.Test.YtgcddjgkieambaaGreatDoorMem
import Derived.WalkSpells
import Derived.WalkLawsBesides
import Derived.BigQuiet
import Derived.Deep.QuietTactic
import Derived.Lib.Hide
import Derived.Deep.RegionHeld3
import Derived.Outline
set_option linter.unusedVariables false
set_option linter.unusedSimpArgs false
namespace Go.Proofs.YtgcddjgkieambaaGreatDoor
open Go.RowKit

theorem one_any (b : Bool) (w : World) : Calls Tryz.prog 235 #[.bool b] w fun e w' => e = .returned (.int .i64 (if b then 0 else 1)) ∧ w = w' := by
  cases b
  · go_enter Tryz.func235, Tryz.ntmps235
    go_wp2
    go_ret
    exact ⟨rfl, rfl⟩
  · go_enter Tryz.func235, Tryz.ntmps235
    go_wp2
    go_ret
    exact ⟨rfl, rfl⟩

theorem data_of_one {s : ByteArray} (h : s.size = 1) : ∃ c, s = ⟨#[c]⟩ := by
  obtain ⟨⟨l⟩⟩ := s
  match l, h with
  | [c], _ => exact ⟨c, rfl⟩

theorem index_one (c : UInt8) (w : World) : Calls Tryz.prog 84 #[.string ⟨#[c]⟩] w fun e w' => e = .returned (.tuple #[.int .i64 (Cm.ixc c), .bool (decide (0 ≤ Cm.ixc c))]) ∧ w = w' := by
  go_enter Tryz.func84, Tryz.ntmps84
  go_wp2_with (go_at_call 115; refine (Tryz.strings_Index_one _ _ _).mono ?_; rintro e w' ⟨rfl, rfl⟩)
  go_ret2
  exact ⟨by rw [← Cm.indexByte_chars]; rfl, rfl⟩
theorem index_bad (s : ByteArray) (w : World) (h : s.size ≠ 1) (hs : s.size ≤ 9223372036854775807) : Calls Tryz.prog 84 #[.string s] w fun e w' => e = .returned (.tuple #[.int .i64 0, .bool false]) ∧ w = w' := by
  have h1 : ((s.size : Int) != 1) = true := by rw [bne_iff_ne]; omega
  go_enter Tryz.func84, Tryz.ntmps84
  go_wp2
  go_ret2
  exact ⟨rfl, rfl⟩

theorem zero97 : Tryz.zeroCells97.size = 74 := by kernel_rfl
theorem size97 : (Tryz.prog.info? 97).map (·.size) = some 74 := by kernel_rfl
theorem sents_one : Cm.sents.all (·.oneCell') = true := by kernel_rfl

set_option maxRecDepth 100000 in
set_option maxHeartbeats 8000000 in
theorem table_any (w : World) : Calls Tryz.prog 85 #[] w fun e w' => e = .returned (.agg Cm.sents) ∧ Below w.heap.size w w' := by
  have hB := Blk.new w 97 Tryz.zeroCells97
  have hT : (w.alloc (.cells Tryz.zeroCells97 97)).there w.heap.size 0 74 := there_blk hB (by rw [zero97]; exact Nat.le_refl _)
  go_enter Tryz.func85, Tryz.ntmps85
  go_wp2_with (first | (refine wpList_build_known rfl 96 _ rfl _ (by kernel_rfl) ?_) | (refine wpList_build_known rfl 97 _ rfl Cm.sents (by kernel_rfl) ?_) | (refine wpList_store_mid rfl 97 _ _ rfl w.heap.size 0 Cm.sents rfl rfl hT size97 sents_one ?_))
  have hR : ((w.alloc (.cells Tryz.zeroCells97 97)).setCells w.heap.size 0 Cm.sents.toList).rangeAt w.heap.size 0 Cm.sents.toList := World.rangeAt_setCells_same _ _ _ _ hT
  have hL := run_loadVar_mid (P := Tryz.prog) _ w.heap.size 0 97 Cm.sents.toList _ hR Tryz.underlying97 rfl size97
  exact bodyPost_ret (v := .agg Cm.sents) (results_cell1 Tryz.results85 rfl hL) rfl ⟨rfl, below_setCells (Nat.le_refl _) _ _ (below_alloc0 _)⟩

theorem sent_at_nat : ∀ i : Nat, i < 37 → ∀ w, (Instr.index 97 (.agg Cm.sents) (.int .i64 (i : Int))).run Tryz.prog w = .ok (.agg #[.string (Cm.codeB i), .int .i64 (Cm.famZ i)]) w
  | 0, _ => fun _ => by kernel_rfl
  | 1, _ => fun _ => by kernel_rfl
  | 2, _ => fun _ => by kernel_rfl
  | 3, _ => fun _ => by kernel_rfl
  | 4, _ => fun _ => by kernel_rfl
  | 5, _ => fun _ => by kernel_rfl
  | 6, _ => fun _ => by kernel_rfl
  | 7, _ => fun _ => by kernel_rfl
  | 8, _ => fun _ => by kernel_rfl
  | 9, _ => fun _ => by kernel_rfl
  | 10, _ => fun _ => by kernel_rfl
  | 11, _ => fun _ => by kernel_rfl
  | 12, _ => fun _ => by kernel_rfl
  | 13, _ => fun _ => by kernel_rfl
  | 14, _ => fun _ => by kernel_rfl
  | 15, _ => fun _ => by kernel_rfl
  | 16, _ => fun _ => by kernel_rfl
  | 17, _ => fun _ => by kernel_rfl
  | 18, _ => fun _ => by kernel_rfl
  | 19, _ => fun _ => by kernel_rfl
  | 20, _ => fun _ => by kernel_rfl
  | 21, _ => fun _ => by kernel_rfl
  | 22, _ => fun _ => by kernel_rfl
  | 23, _ => fun _ => by kernel_rfl
  | 24, _ => fun _ => by kernel_rfl
  | 25, _ => fun _ => by kernel_rfl
  | 26, _ => fun _ => by kernel_rfl
  | 27, _ => fun _ => by kernel_rfl
  | 28, _ => fun _ => by kernel_rfl
  | 29, _ => fun _ => by kernel_rfl
  | 30, _ => fun _ => by kernel_rfl
  | 31, _ => fun _ => by kernel_rfl
  | 32, _ => fun _ => by kernel_rfl
  | 33, _ => fun _ => by kernel_rfl
  | 34, _ => fun _ => by kernel_rfl
  | 35, _ => fun _ => by kernel_rfl
  | 36, _ => fun _ => by kernel_rfl
  | n + 37, h => absurd h (by omega)
theorem sent_at (z : Int) (h0 : 0 ≤ z) (h1 : z < 37) (w : World) : (Instr.index 97 (.agg Cm.sents) (.int .i64 z)).run Tryz.prog w = .ok (.agg #[.string (Cm.codeB z.toNat), .int .i64 (Cm.famZ z.toNat)]) w := by
  have h := sent_at_nat z.toNat (by omega) w
  rwa [Int.toNat_of_nonneg h0] at h

end Go.Proofs.YtgcddjgkieambaaGreatDoor
