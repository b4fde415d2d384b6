/- The walk of heard.cost: the least cost. -/
import Derived.Test.YtgcddjgkieambaaGreatDoorHeard
set_option linter.unusedVariables false
set_option linter.unusedSimpArgs false
namespace Go.Proofs.YtgcddjgkieambaaGreatDoor
open Go.RowKit
set_option maxRecDepth 100000 in
set_option maxHeartbeats 8000000 in
theorem cost_heard (mode : Int) (T : TypeId) (x : Value) (A B : Option Addr) (n m ca cb : Nat) (s h : List Nat) (w : World) (H : Heard w mode T x A B n m s h) :
    Calls Tryz.prog 65 #[.agg #[.iface T x, .slice A n ca, .slice B m cb]] w fun e w' => e = .returned (.int .i64 (Cm.T (Cm.missC mode) (Cm.extraC mode) (atC mode s h) s.length h.length)) ∧ Below w.heap.size w w' := by
  have la := H.sl
  have lb := H.hl
  have hC := fun W1 (hB : Below w.heap.size w W1) => table_heard mode T x A B n m ca cb s h W1 (H.later hB)
  have HC := Lib.hid hC
  clear hC
  obtain rfl := H.a.1
  obtain rfl := H.b.1
  clear H
  obtain ⟨W, hW⟩ : ∃ W, W = w.alloc (.cells #[.iface T x, .slice A s.length ca, .slice B h.length cb] 75) := ⟨_, rfl⟩
  have hbW : Below w.heap.size w W := hW ▸ below_alloc0 _
  have hB : Blk W w.heap.size 75 _ := hW ▸ Blk.new w 75 _
  have c0 : W.cell? ⟨w.heap.size, 0, none⟩ = some (.iface T x) := hB.cell 0
  have c1 : W.cell? ⟨w.heap.size, 1, none⟩ = some (.slice A s.length ca) := hB.cell 1
  have c2 : W.cell? ⟨w.heap.size, 2, none⟩ = some (.slice B h.length cb) := hB.cell 2
  have l0 := hB.lt
  have HbW := Lib.hid hbW
  have z1 : (s.length : Int) < (s.length : Int) + 1 := by omega
  have z2 : (h.length : Int) < (h.length : Int) + 1 := by omega
  go_enter Tryz.func65, Tryz.ntmps65
  go_wp2
  rw [← hW]
  clear hW hbW hB
  have hW0 : Below w.heap.size w W.drew := HbW.out.drew
  have hW0' : Below W.heap.size W W.drew := (Below.refl _ _).drew
  go_region_with (first | (go_at_call 67; refine (HC.out _ hW0).mono ?_; rintro e w1 ⟨v, rfl, ⟨g, r, rfl, _, hg, hr⟩, hbc⟩; have hW1 := below_trans' hW0' hbc; have d0 := (hW1.cell (p := ⟨w.heap.size, 0, none⟩) l0).trans c0; have d1 := (hW1.cell (p := ⟨w.heap.size, 1, none⟩) l0).trans c1; have d2 := (hW1.cell (p := ⟨w.heap.size, 2, none⟩) l0).trans c2; have d3 := hg.cell (k := s.length) (by omega); have d4 := (hr s.length (by omega)).2.cell (k := h.length) (by omega); clear hg hr))
  all_goals
    go_wp2
    go_ret
    exact ⟨rfl, below_trans' HbW.out hW1⟩
end Go.Proofs.YtgcddjgkieambaaGreatDoor
