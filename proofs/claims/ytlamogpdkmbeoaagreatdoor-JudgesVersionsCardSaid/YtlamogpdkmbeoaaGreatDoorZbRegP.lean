/- The texts RegP, KnoP in one. -/
import Derived.Test.YtlamogpdkmbeoaaGreatDoorZbLedP
import Derived.Test.YtlamogpdkmbeoaaGreatDoorZbQuo
import Derived.Test.YtlamogpdkmbeoaaGreatDoorZbFold
import Derived.Test.YtlamogpdkmbeoaaGreatDoorZbMerK
set_option linter.unusedVariables false
set_option linter.unusedSimpArgs false
section PartRegP
/- Registers of notes of the same content are the same. -/
set_option maxRecDepth 100000
namespace Go.Proofs.YtlamogpdkmbeoaaGreatDoor
open Go.RowKit Go.Lib Go.Shelf Go.Maps

theorem getM_key {κ ν : Type} [DecidableEq κ] {m : List (κ × ν)} {k : κ} (h : k ∈ m.map (·.1)) : ∃ x, getM m k = some x := by
  induction m with
  | nil => simp at h
  | cons p m ih =>
    by_cases e : p.1 = k
    · exact ⟨p.2, by unfold getM; rw [if_pos e]⟩
    · simp only [List.map_cons, List.mem_cons] at h
      obtain ⟨x, h1⟩ := ih (h.resolve_left (fun h => e h.symm))
      exact ⟨x, by unfold getM; rw [if_neg e]; exact h1⟩
/-- The issues' keys are all different and their own. -/
structure IssP (I : List (MarkK × Note)) : Prop where
  keys : (I.map (·.1)).Nodup
  own : ∀ p ∈ I, p.1 = isk p.2
theorem issP_fold : ∀ (ds : List Note) (P : PL), IssP P.issues → IssP (ds.foldl pStep P).issues
  | [], P, h => h
  | x :: ds, P, h => by
    rw [List.foldl_cons]
    refine issP_fold ds _ ?_
    unfold pStep
    split
    · unfold pTake
      by_cases k1 : x.nt.kind = 1
      · rw [if_pos k1]
        refine ⟨putM_nodup _ _ h.keys, fun p hp => ?_⟩
        rcases mem_putM hp with rfl | hp
        · rfl
        · exact h.own p hp
      · rw [if_neg k1]
        split
        · exact h
        · split
          · exact h
          · split <;> exact h
    · exact h

/-! The entries. -/
theorem new_keys {I : List (MarkK × Note)} {N : List (ByteArray × Note)} (h : NewIn I [] N) (c : ByteArray) : c ∈ N.map (·.1) ↔ ∃ p ∈ I, p.2.nt.call = c := by
  constructor
  · intro hc
    obtain ⟨x, hx, rfl⟩ := List.mem_map.1 hc
    obtain ⟨h1, p, hp, e⟩ := h.from_ x hx
    exact ⟨p, hp, by rw [e]; exact h1⟩
  · rintro ⟨p, hp, rfl⟩
    rcases h.best p hp with hn | ⟨n, hn, _⟩
    · cases hn
    · exact List.mem_map_of_mem (f := (·.1)) (getM_mem hn)
theorem can_call {x y : Note} (h : can x = can y) : x.nt.call = y.nt.call := by
  have : (can x).nt.call = (can y).nt.call := by rw [h]
  exact this
theorem can_version {x y : Note} (h : can x = can y) : x.nt.version = y.nt.version := by
  have : (can x).nt.version = (can y).nt.version := by rw [h]
  exact this
/-! The overrulings. -/
end Go.Proofs.YtlamogpdkmbeoaaGreatDoor
end PartRegP

section PartKnoP
/- What is known by a clock: plain facts. -/
set_option maxRecDepth 100000
namespace Go.Proofs.YtlamogpdkmbeoaaGreatDoor
open Go.RowKit Go.Lib Go.Shelf Go.Maps

theorem SameN.can {x y : Note} (h : SameN x y) : can x = can y := by rw [h.eq]; rfl
theorem sameNs_can {xs ys : List Note} (h : SameNs xs ys) : xs.map can = ys.map can := by
  refine List.ext_getElem? fun i => ?_
  rw [List.getElem?_map, List.getElem?_map]
  by_cases hi : i < xs.length
  · have hj : i < ys.length := by rw [← h.1]; exact hi
    rw [List.getElem?_eq_getElem hi, List.getElem?_eq_getElem hj]
    exact congrArg some (h.2 i _ _ (List.getElem?_eq_getElem hi) (List.getElem?_eq_getElem hj)).can
  · rw [List.getElem?_eq_none (by omega), List.getElem?_eq_none (by have := h.1; omega)]
/-- A part of a union that the one set has none of is the other set's. -/
theorem part_same {o : Lay} {l more all : List Note} {p : Note → Bool} (hp : ∀ x y, SameN x y → p x = p y) (h : MP o l more 0 all) (hm : ∀ x ∈ more, p x = false) : (l.filter p).map can = (all.filter p).map can := by
  obtain ⟨hl, _, ha, _, hu⟩ := h.un
  refine sameNs_can (same_lists (setB_filter hl _) (setB_filter ha _) (fun x hx => ?_) (fun y hy => ?_))
  · obtain ⟨hx1, hx2⟩ := List.mem_filter.1 hx
    obtain ⟨z, hz, hs⟩ := hu.has x (.inl hx1)
    exact ⟨z, List.mem_filter.2 ⟨hz, by rw [← hp x z hs]; exact hx2⟩, hs⟩
  · obtain ⟨hy1, hy2⟩ := List.mem_filter.1 hy
    obtain ⟨x, hx, hs⟩ := hu.of y hy1
    have hk : p x = true := by rw [← hp y x hs]; exact hy2
    rcases hx with hx | hx
    · exact ⟨x, List.mem_filter.2 ⟨hx, hk⟩, hs.symm⟩
    · rw [hm x hx] at hk; cases hk
/-- Known by the clock t. -/
def known (t : Int) (x : Note) : Bool := decide (x.nt.clock ≤ t)
end Go.Proofs.YtlamogpdkmbeoaaGreatDoor
end PartKnoP
