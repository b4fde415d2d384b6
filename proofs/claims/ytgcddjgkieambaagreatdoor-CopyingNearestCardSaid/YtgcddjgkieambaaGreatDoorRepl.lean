/- The byte table of a replacer: what 'build' makes out of three pairs of one-byte texts. -/
import Derived.Test.YtgcddjgkieambaaGreatDoorOnce
import Derived.Test.YtgcddjgkieambaaGreatDoorIndices2
set_option linter.unusedVariables false
set_option linter.unusedSimpArgs false
namespace Go.Proofs.YtgcddjgkieambaaGreatDoor
open Go.RowKit

/-- The byte for a byte, the last c of three pairs being known. -/
def rp (p q : Nat → UInt8) : Nat → UInt8 → UInt8
  | 0, x => x
  | c + 1, x => if x = p (2 - c) then q (2 - c) else rp p q c x
/-- Three pairs of one-byte texts, in block g. -/
def Pairs (w : World) (g : Nat) (p q : Nat → UInt8) : Prop := g < w.heap.size ∧ ∀ k, k < 3 → w.cell? ⟨g, 2 * k, none⟩ = some (.string ⟨#[p k]⟩) ∧ w.cell? ⟨g, 2 * k + 1, none⟩ = some (.string ⟨#[q k]⟩)
theorem Pairs.later {w w' : World} {g : Nat} {p q : Nat → UInt8} (h : Pairs w g p q) (hb : Below w.heap.size w w') : Pairs w' g p q :=
  ⟨Nat.lt_of_lt_of_le h.1 hb.size, fun k hk => ⟨(hb.cell (p := ⟨g, 2 * k, none⟩) h.1).trans (h.2 k hk).1, (hb.cell (p := ⟨g, 2 * k + 1, none⟩) h.1).trans (h.2 k hk).2⟩⟩
/-- The table of a byte replacer, in block r. -/
def ByteTab (w : World) (r : Nat) (f : UInt8 → UInt8) : Prop := RowA w r 213 256 (fun j => .int .u8 (f (UInt8.ofNat j)).toNat)

theorem info5 : (Tryz.prog.info? 5).map (fun i => (i.zero, i.size, i.bytes)) = some (some (.int .u8 0), 1, 1) := by kernel_rfl

/-- The table, the last c of three pairs being laid into it. -/
def RpTab (w : World) (r : Nat) (p q : Nat → UInt8) (c : Nat) : Prop := ByteTab w r (rp p q c)
theorem ofNat_eq (j : Nat) (hj : j < 256) (x : UInt8) : UInt8.ofNat j = x ↔ j = x.toNat := by
  constructor
  · rintro rfl; simp; omega
  · rintro rfl; simp
theorem RpTab.step {w : World} {r : Nat} {p q : Nat → UInt8} {c : Nat} (h : RpTab w r p q c) : RpTab (w.setCell ⟨r, (p (2 - c)).toNat, none⟩ (.int .u8 (q (2 - c)).toNat)) r p q (c + 1) :=
  RowA.put h (fun j hj => by
    simp only [rp, ofNat_eq j hj]
    split <;> rfl)
theorem RpTab.begin {w : World} {r : Nat} {p q : Nat → UInt8} (h : RowA w r 213 256 (fun j => .int .u8 (j : Nat))) : RpTab w r p q 0 :=
  RowK.congr h (fun k hk => by simp only [rp, UInt8.toNat_ofNat']; rw [Nat.mod_eq_of_lt (by omega)])
theorem zc213 : Tryz.zeroCells213 = Array.replicate 256 (.int .u8 0) := by kernel_rfl
theorem setRow_blk {w : World} {g : Nat} {t : TypeId} {cs cs' : Array Value} (h : Blk w g t cs) : Blk (w.setRow g cs') g t cs' := by
  unfold Blk at h ⊢; simp [World.setRow, Array.getElem?_modify, h]
theorem zero_row (w : World) : ∃ W1 : World, (storeCells ⟨w.heap.size, 0, none⟩ Tryz.zeroCells213.toList).run Tryz.prog (w.alloc (.cells Tryz.zeroCells213 213)) = .ok () W1 ∧ RowK W1 w.heap.size 213 256 0 (fun j => .int .u8 (j : Nat)) ∧ Below w.heap.size w W1 := by
  have hB := Blk.new w 213 Tryz.zeroCells213
  refine ⟨_, run_storeCells_from (P := Tryz.prog) w.heap.size 213 Tryz.zeroCells213.toList 0 Tryz.zeroCells213 _ hB (by rw [Nat.zero_add, Array.length_toList]) ?_, ⟨_, setRow_blk hB, by rw [zc213, List.take_zero, List.nil_append, Array.toArray_toList, Array.size_replicate], fun k hk => by omega⟩, ?_⟩
  · intro v hv
    rw [zc213, Array.toList_replicate] at hv
    rw [List.eq_of_mem_replicate hv]; rfl
  · have h0 := below_alloc0 (w := w) (Obj.cells Tryz.zeroCells213 213)
    refine ⟨h0.os, h0.tape, h0.output, by simp [World.setRow], fun g hg => ?_⟩
    rw [← h0.block g hg]
    simp only [World.setRow, Array.getElem?_modify]
    rw [if_neg (by omega)]
/-- A measure of a number that goes down to -2. -/
def below2 (z : Int) : Nat := (z + 2).toNat
theorem u8_in (k : Nat) (h : k < 256) : IntKind.u8.wrap (k : Int) = (k : Int) := IntWalk.u8_in _ (by omega)

set_option maxRecDepth 100000 in
set_option maxHeartbeats 4000000 in
theorem build_any (b g c : Nat) (p q : Nat → UInt8) (w : World) (hc : w.cell? ⟨b, 4, none⟩ = some (.slice (some ⟨g, 0, none⟩) 6 c)) (hp : Pairs w g p q) :
    Calls Tryz.prog 161 #[.pointer (some ⟨b, 0, none⟩)] w fun e w' => ∃ r, e = .returned (.iface 214 (.pointer (some ⟨r, 0, none⟩))) ∧ ByteTab w' r (rp p q 3) ∧ w.heap.size ≤ r ∧ Below w.heap.size w w' := by
  have HP := Lib.hid hp
  have hg := hp.1
  clear hp
  have hg0 := HP.out.2 0 (by omega)
  have hg1 := HP.out.2 1 (by omega)
  have hg2 := HP.out.2 2 (by omega)
  have c0 : w.cell? ⟨g, 0, none⟩ = some (.string ⟨#[p 0]⟩) := hg0.1
  have c1 : w.cell? ⟨g, 1, none⟩ = some (.string ⟨#[q 0]⟩) := hg0.2
  have c2 : w.cell? ⟨g, 2, none⟩ = some (.string ⟨#[p 1]⟩) := hg1.1
  have c3 : w.cell? ⟨g, 3, none⟩ = some (.string ⟨#[q 1]⟩) := hg1.2
  have c4 : w.cell? ⟨g, 4, none⟩ = some (.string ⟨#[p 2]⟩) := hg2.1
  have c5 : w.cell? ⟨g, 5, none⟩ = some (.string ⟨#[q 2]⟩) := hg2.2
  clear hg0 hg1 hg2
  have hs : ∀ x : UInt8, (ByteArray.mk #[x]).size = 1 := fun _ => rfl
  go_enter Tryz.func161, Tryz.ntmps161
  go_wp2
  go_loop [4, 5] (fun a i => a = .bool true ∧ (i = .int .i64 0 ∨ i = .int .i64 2 ∨ i = .int .i64 4 ∨ i = .int .i64 6)) (fun _ i => 6 - (intOf i).toNat)
  case atStart => exact ⟨rfl, .inl rfl⟩
  case round =>
    obtain ⟨rfl, rfl | rfl | rfl | rfl⟩ := hrel
    · go_wp2
      go_round
      case rel => exact ⟨rfl, .inr (.inl rfl)⟩
      case measure => simp [intOf]
    · go_wp2
      go_round
      case rel => exact ⟨rfl, .inr (.inr (.inl rfl))⟩
      case measure => simp [intOf]
    · go_wp2
      go_round
      case rel => exact ⟨rfl, .inr (.inr (.inr rfl))⟩
      case measure => simp [intOf]
    · obtain ⟨W1, hst, hrow, hb1⟩ := zero_row w
      obtain ⟨r, hr⟩ : ∃ r, r = w.heap.size := ⟨_, rfl⟩
      have HR0 := Lib.hid hrow
      have HB1 := Lib.hid hb1
      clear hrow hb1 hr r
      go_wp2
      clear hst
      go_loopw [61] (fun i wx => ∃ k : Nat, k ≤ 256 ∧ i = .int .i64 k ∧ RowK wx w.heap.size 213 256 k (fun j => .int .u8 (j : Nat)) ∧ Below w.heap.size w wx) (fun i _ => 256 - (intOf i).toNat)
      case atStart => exact ⟨0, by omega, rfl, HR0.out, HB1.out⟩
      case round =>
        obtain ⟨k, hk, rfl, hrow, hb⟩ := hrel
        by_cases hlt : k < 256
        · have d1 : (k : Int) < 256 := by omega
          have d2 : (0 : Int) ≤ (k : Int) := by omega
          have q1 : IntKind.i64.wrap ((k : Int) + 1) = (k : Int) + 1 := IntWalk.i64_in _ (by omega)
          have q2 := u8_in k hlt
          obtain ⟨v, hv⟩ := hrow.has hlt
          have hf := hrow.frozen k
          have HN := Lib.hid (hrow.next hlt rfl)
          have Hb := Lib.hid hb
          clear hrow hb
          go_wp2
          go_roundw
          case rel => exact ⟨k + 1, by omega, by go_num, HN.out, Hb.out.setCell (Nat.le_refl _) _⟩
          case measure => simp [intOf]; omega
        · obtain rfl : k = 256 := by omega
          have HR := Lib.hid (RpTab.begin (p := p) (q := q) hrow)
          have Hb := Lib.hid hb
          clear hrow hb
          obtain ⟨wo, rfl⟩ : ∃ wo : World, wo = wr := ⟨_, rfl⟩
          have hx : ∀ (x : UInt8) (h : 0 < (ByteArray.mk #[x]).size), (ByteArray.mk #[x])[0] = x := fun _ _ => rfl
          go_wp2
          go_loopw [8] (fun i wx => ∃ z : Int, i = .int .i64 z ∧ ((z = 4 ∧ RpTab wx w.heap.size p q 0) ∨ (z = 2 ∧ RpTab wx w.heap.size p q 1) ∨ (z = 0 ∧ RpTab wx w.heap.size p q 2) ∨ (z = -2 ∧ RpTab wx w.heap.size p q 3)) ∧ Below w.heap.size w wx) (fun i _ => below2 (intOf i))
          case atStart => exact ⟨4, rfl, .inl ⟨rfl, HR.out⟩, Hb.out⟩
          case round =>
            obtain ⟨z, rfl, ⟨rfl, hT⟩ | ⟨rfl, hT⟩ | ⟨rfl, hT⟩ | ⟨hz, hT⟩, hb⟩ := hrel
            · have hl := hT.lt
              obtain ⟨v, hv⟩ := RowK.has hT (k := (p 2).toNat) (UInt8.toNat_lt _)
              have hf := RowK.frozen hT (p 2).toNat
              have hN := RpTab.step hT
              simp only [Nat.sub_self, Nat.sub_zero, Nat.reduceSub, Nat.reduceAdd] at hN
              have HN := Lib.hid hN
              have e1 : wr.cell? ⟨g, 4, none⟩ = some (.string ⟨#[p 2]⟩) := (hb.cell (p := ⟨g, 4, none⟩) hg).trans c4
              have e2 : wr.cell? ⟨g, 5, none⟩ = some (.string ⟨#[q 2]⟩) := (hb.cell (p := ⟨g, 5, none⟩) hg).trans c5
              have bp : ((p 2).toNat : Int) < 256 := by have := UInt8.toNat_lt (p 2); omega
              have Hb := Lib.hid hb
              clear hb hT hN
              go_wp2
              go_roundw
              case rel => exact ⟨2, rfl, (.inr (.inl ⟨rfl, HN.out⟩)), Hb.out.setCell (Nat.le_refl _) _⟩
              case measure => simp [intOf, below2]
            · have hl := hT.lt
              obtain ⟨v, hv⟩ := RowK.has hT (k := (p 1).toNat) (UInt8.toNat_lt _)
              have hf := RowK.frozen hT (p 1).toNat
              have hN := RpTab.step hT
              simp only [Nat.sub_self, Nat.sub_zero, Nat.reduceSub, Nat.reduceAdd] at hN
              have HN := Lib.hid hN
              have e1 : wr.cell? ⟨g, 2, none⟩ = some (.string ⟨#[p 1]⟩) := (hb.cell (p := ⟨g, 2, none⟩) hg).trans c2
              have e2 : wr.cell? ⟨g, 3, none⟩ = some (.string ⟨#[q 1]⟩) := (hb.cell (p := ⟨g, 3, none⟩) hg).trans c3
              have bp : ((p 1).toNat : Int) < 256 := by have := UInt8.toNat_lt (p 1); omega
              have Hb := Lib.hid hb
              clear hb hT hN
              go_wp2
              go_roundw
              case rel => exact ⟨0, rfl, (.inr (.inr (.inl ⟨rfl, HN.out⟩))), Hb.out.setCell (Nat.le_refl _) _⟩
              case measure => simp [intOf, below2]
            · have hl := hT.lt
              obtain ⟨v, hv⟩ := RowK.has hT (k := (p 0).toNat) (UInt8.toNat_lt _)
              have hf := RowK.frozen hT (p 0).toNat
              have hN := RpTab.step hT
              simp only [Nat.sub_self, Nat.sub_zero, Nat.reduceSub, Nat.reduceAdd] at hN
              have HN := Lib.hid hN
              have e1 : wr.cell? ⟨g, 0, none⟩ = some (.string ⟨#[p 0]⟩) := (hb.cell (p := ⟨g, 0, none⟩) hg).trans c0
              have e2 : wr.cell? ⟨g, 1, none⟩ = some (.string ⟨#[q 0]⟩) := (hb.cell (p := ⟨g, 1, none⟩) hg).trans c1
              have bp : ((p 0).toNat : Int) < 256 := by have := UInt8.toNat_lt (p 0); omega
              have Hb := Lib.hid hb
              clear hb hT hN
              go_wp2
              go_roundw
              case rel => exact ⟨-2, rfl, (.inr (.inr (.inr ⟨rfl, HN.out⟩))), Hb.out.setCell (Nat.le_refl _) _⟩
              case measure => simp [intOf, below2]
            · have dz : decide (z ≥ 0) = false := by simp; omega
              have dz' : decide (0 ≤ z) = false := by simp; omega
              have HT := Lib.hid hT
              have Hb := Lib.hid hb
              clear hT hb hz
              go_wp2
              go_ret
              exact ⟨_, rfl, HT.out, Nat.le_refl _, Hb.out⟩
end Go.Proofs.YtgcddjgkieambaaGreatDoor
