/- The texts QuoB, QuoR in one. -/
import Derived.Test.YtlamogpdkmbeoaaGreatDoorZbChJ
import Derived.Test.YtlamogpdkmbeoaaGreatDoorZbNoteC
import Derived.Test.YtlamogpdkmbeoaaGreatDoorZbLedP
set_option linter.unusedVariables false
set_option linter.unusedSimpArgs false
section PartQuoB
/- The reference's 'SameRulings'. -/
set_option maxRecDepth 100000
namespace Go.Proofs.YtlamogpdkmbeoaaGreatDoor
open Go.RowKit Go.Lib Go.Shelf Go.Maps

/-- An overruling as it is handed back: its name, the slice of its judges, the judges. -/
structure RL where
  k : NameK
  v : Value
  js : List Int
abbrev RL.enc (x : RL) : List Value := [.int .i64 x.k.1, .int .i64 x.k.2, x.v]
structure RulsAt (w : World) (v : Value) (rs : List RL) : Prop where
  row : RowsAt RL.enc 3 w v rs
  each : ∀ x ∈ rs, RowsAt encI 1 w x.v x.js
theorem RulsAt.later {w w' : World} {v : Value} {rs : List RL} (h : RulsAt w v rs) (hb : Below w.heap.size w w') : RulsAt w' v rs := ⟨h.row.later hb, fun x hx => (h.each x hx).later hb⟩
theorem neqName (a b a' b' : Int) (w : World) : (binOp .neq 37 (.agg #[.int .i64 a, .int .i64 b]) (.agg #[.int .i64 a', .int .i64 b'])).run Tryz.prog w = .ok (.bool (!(a == a' && b == b'))) w := by
  have u3 := Tryz.underlying3
  have a3 := Tryz.isAgg3
  have z3 := Tryz.sizeOf3
  have hS : Tryz.prog.underlying 37 = some (.struct (Tryz.prog.fieldsOf 37)) := by kernel_rfl
  have hp : Tryz.prog.stoodInHeld 37 = false := by kernel_rfl
  rw [run_neq_struct, show (10000 : Nat) = 9999 + 1 from rfl, run_equalIn_agg w 9999 37 _ _ hS hp]
  simp only [Program.fieldsOf, Tryz.underlying37]
  go_simp
  cases h1 : (a == a') <;> cases h2 : (b == b') <;> simp_all
end Go.Proofs.YtlamogpdkmbeoaaGreatDoor
end PartQuoB

section PartQuoR
/- Overrulings that wait, quorums: plain facts. -/
set_option maxRecDepth 100000
namespace Go.Proofs.YtlamogpdkmbeoaaGreatDoor
open Go.RowKit Go.Lib Go.Shelf Go.Maps

abbrev sortI (js : List Int) : List Int := js.mergeSort fun a b => decide (a ≤ b)
abbrev toRL (p : Pend) : RL := ⟨nm p.rul.note, p.v, sortI p.js⟩
abbrev waits (q : Int) (p : Pend) : Bool := decide ((p.js.length : Int) < q)
theorem flat_i' (bs : List Int) : bs.flatMap encI = bs.map encI' := by
  induction bs with
  | nil => rfl
  | cons b r ih => simp [List.flatMap_cons, ih]
theorem RowsAt.mapped {α β : Type} {enc : α → List Value} {enc' : β → List Value} {f : α → β} {k : Nat} {w : World} {v : Value} {xs : List α} (h : RowsAt enc k w v xs) (he : ∀ x, enc' (f x) = enc x) : RowsAt enc' k w v (xs.map f) := by
  obtain ⟨A, c, e, hm, hc⟩ := h
  refine ⟨A, c, by rw [List.length_map]; exact e, by rw [List.length_map]; exact hm, fun j hj => ?_⟩
  rw [List.length_map] at hj
  obtain ⟨b, o, h1, h2, h3⟩ := hc j hj
  exact ⟨b, o, h1, h2, fun i u hu => h3 i u (by rw [← hu, List.getElem_map, he])⟩
theorem rulsAt_of {b : Nat} {w : World} {v : Value} {ps : List Pend} (h : RowsAt Pend.enc 3 w v ps) (he : ∀ p ∈ ps, PendOk b w p) : RulsAt w v (ps.map toRL) :=
  ⟨h.mapped (fun _ => rfl), fun x hx => by
    obtain ⟨p, hp, rfl⟩ := List.mem_map.1 hx
    have := (he p hp).row
    refine rows_of_owns 1 (fun _ => rfl) (base := b) (e := 3) ?_
    have e1 : (sortI p.js).length = p.js.length := (List.mergeSort_perm _ _).length_eq
    show w.ownsRow b 3 1 p.v (sortI p.js).length ((sortI p.js).flatMap encI)
    rw [e1, flat_i']
    exact this⟩
theorem below_reg {w2 w3 : World} {cs : Array Value} (hg : (w2.alloc (.cells cs 32)).grownBy w3 (some w2.heap.size)) : Below w2.heap.size w2 w3 :=
  (below_alloc0 (.cells cs 32)).grown hg (by simp) (fun j e => by injection e with e; omega)
end Go.Proofs.YtlamogpdkmbeoaaGreatDoor
end PartQuoR
