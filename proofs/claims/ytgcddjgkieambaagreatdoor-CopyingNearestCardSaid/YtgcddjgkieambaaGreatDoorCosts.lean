/- The walks of the costs of the three modes, and what a value of the interface 'ways' is good for. -/
import Derived.Test.YtgcddjgkieambaaGreatDoorMorse
set_option linter.unusedVariables false
set_option linter.unusedSimpArgs false
namespace Go.Proofs.YtgcddjgkieambaaGreatDoor
open Go.RowKit

theorem miss_1 (x : Value) (w : World) : Calls Tryz.prog 232 #[x] w fun e w' => e = .returned (.int .i64 3) ∧ w = w' := by
  go_enter Tryz.func232, Tryz.ntmps232
  go_wp2
  go_ret
  exact ⟨rfl, rfl⟩
theorem extra_1 (x : Value) (w : World) : Calls Tryz.prog 231 #[x] w fun e w' => e = .returned (.int .i64 3) ∧ w = w' := by
  go_enter Tryz.func231, Tryz.ntmps231
  go_wp2
  go_ret
  exact ⟨rfl, rfl⟩
theorem miss_2 (x : Value) (w : World) : Calls Tryz.prog 237 #[x] w fun e w' => e = .returned (.int .i64 2) ∧ w = w' := by
  go_enter Tryz.func237, Tryz.ntmps237
  go_wp2
  go_ret
  exact ⟨rfl, rfl⟩
theorem extra_2 (x : Value) (w : World) : Calls Tryz.prog 236 #[x] w fun e w' => e = .returned (.int .i64 3) ∧ w = w' := by
  go_enter Tryz.func236, Tryz.ntmps236
  go_wp2
  go_ret
  exact ⟨rfl, rfl⟩
theorem miss_3 (w : World) : Calls Tryz.prog 240 #[.agg #[]] w fun e w' => e = .returned (.int .i64 2) ∧ Below w.heap.size w w' := by
  go_enter Tryz.func240, Tryz.ntmps240
  go_wp2
  go_ret
  exact ⟨rfl, by first | exact Below.refl _ _ | exact below_alloc0 _⟩
theorem extra_3 (w : World) : Calls Tryz.prog 239 #[.agg #[]] w fun e w' => e = .returned (.int .i64 2) ∧ Below w.heap.size w w' := by
  go_enter Tryz.func239, Tryz.ntmps239
  go_wp2
  go_ret
  exact ⟨rfl, by first | exact Below.refl _ _ | exact below_alloc0 _⟩

theorem data_swap (i k : Nat) (w : World) : Calls Tryz.prog 241 #[.agg #[], .int .i64 i, .int .i64 k] w fun e w' => e = .returned (.int .i64 (Cm.swD i k)) ∧ Below w.heap.size w w' := by
  by_cases h : i = k
  · subst h
    go_enter Tryz.func241, Tryz.ntmps241
    go_wp2_with (go_at_call 235; refine (one_any _ _).mono ?_; rintro e w' ⟨rfl, rfl⟩)
    go_ret
    exact ⟨ret_int (by simp [Cm.swD]), by first | exact Below.refl _ _ | exact below_alloc0 _⟩
  · have hd : ((i : Int) == (k : Int)) = false := by simp; omega
    go_enter Tryz.func241, Tryz.ntmps241
    go_wp2_with (go_at_call 235; refine (one_any _ _).mono ?_; rintro e w' ⟨rfl, rfl⟩)
    go_ret
    exact ⟨ret_int (by simp [Cm.swD, h]), by first | exact Below.refl _ _ | exact below_alloc0 _⟩

set_option maxRecDepth 100000 in
theorem voice_swap (b : Nat) (i k : Nat) (w : World) (hb : Blk w b 134 Cm.sents) (hi : i < 37) (hk : k < 37) : Calls Tryz.prog 238 #[.pointer (some ⟨b, 0, none⟩), .int .i64 i, .int .i64 k] w fun e w' => e = .returned (.int .i64 (Cm.swV i k)) ∧ Below w.heap.size w w' := by
  have c1 : w.cell? ⟨b, i * 2 + 1, none⟩ = some (.int .i64 (Cm.famZ i)) := (hb.cell _).trans (sents_even i hi).2
  have c2 : w.cell? ⟨b, k * 2 + 1, none⟩ = some (.int .i64 (Cm.famZ k)) := (hb.cell _).trans (sents_even k hk).2
  have z1 : (0 : Int) ≤ (i : Int) := by omega
  have z2 : (i : Int) < 37 := by omega
  have z3 : (0 : Int) ≤ (k : Int) := by omega
  have z4 : (k : Int) < 37 := by omega
  by_cases h : i = k
  · subst h
    go_enter Tryz.func238, Tryz.ntmps238
    go_wp2
    go_ret
    exact ⟨ret_int (by simp [Cm.swV]), Below.refl _ _⟩
  · have hd : ((i : Int) == (k : Int)) = false := by simp; omega
    by_cases hf : Cm.famZ i = Cm.famZ k
    · have hd2 : (Cm.famZ i == Cm.famZ k) = true := by simp [hf]
      have Hf := Lib.hid hf
      clear hf
      go_enter Tryz.func238, Tryz.ntmps238
      go_wp2
      go_quiet (fail)
      go_wp2
      go_ret
      exact ⟨ret_int (by simp [Cm.swV, h, Hf.out]), below_drewN0 _⟩
    · have hd2 : (Cm.famZ i == Cm.famZ k) = false := by simp [hf]
      have Hf := Lib.hid hf
      clear hf
      go_enter Tryz.func238, Tryz.ntmps238
      go_wp2
      go_quiet (fail)
      go_wp2
      go_ret
      exact ⟨ret_int (by simp [Cm.swV, h, Hf.out]), below_drewN0 _⟩

theorem morse_swap (b : Nat) (i k : Nat) (w : World) (hb : Blk w b 132 Cm.sents) (hi : i < 37) (hk : k < 37) : Calls Tryz.prog 233 #[.pointer (some ⟨b, 0, none⟩), .int .i64 i, .int .i64 k] w fun e w' => e = .returned (.int .i64 (Cm.swM i k)) ∧ Below w.heap.size w w' := by
  by_cases h : i = k
  · subst h
    exact (morse_same b i w).mono fun e w' ⟨he, hw⟩ => ⟨by rw [he]; simp [Cm.swM], hw ▸ Below.refl _ _⟩
  · exact (morse_other b i k w hb hi hk h).mono fun e w' ⟨he, hw⟩ => ⟨by rw [he]; simp [Cm.swM, h], hw⟩

/-- What a value of the interface 'ways' is good for: its three methods, and what they return in this world and in later ones. -/
structure Costs (w : World) (mode : Int) (T : TypeId) (x : Value) (fm fe fs : FuncId) : Prop where
  mm : ∀ w, (method 395 T x "pileup/copying.miss").run Tryz.prog w = .ok (fm, x) w
  me : ∀ w, (method 395 T x "pileup/copying.extra").run Tryz.prog w = .ok (fe, x) w
  ms : ∀ w, (method 395 T x "pileup/copying.swap").run Tryz.prog w = .ok (fs, x) w
  em : Enters Tryz.prog fm
  ee : Enters Tryz.prog fe
  es : Enters Tryz.prog fs
  cm : ∀ W, Below w.heap.size w W → Calls Tryz.prog fm #[x] W fun e w' => e = .returned (.int .i64 (Cm.missC mode)) ∧ Below W.heap.size W w'
  ce : ∀ W, Below w.heap.size w W → Calls Tryz.prog fe #[x] W fun e w' => e = .returned (.int .i64 (Cm.extraC mode)) ∧ Below W.heap.size W w'
  cs : ∀ W (i k : Nat), i < 37 → k < 37 → Below w.heap.size w W → Calls Tryz.prog fs #[x, .int .i64 i, .int .i64 k] W fun e w' => e = .returned (.int .i64 (Cm.sw mode i k)) ∧ Below W.heap.size W w'

theorem Costs.later {w w' : World} {mode : Int} {T : TypeId} {x : Value} {fm fe fs : FuncId} (h : Costs w mode T x fm fe fs) (hb : Below w.heap.size w w') : Costs w' mode T x fm fe fs :=
  ⟨h.mm, h.me, h.ms, h.em, h.ee, h.es, fun W hW => h.cm W (below_trans' hb hW), fun W hW => h.ce W (below_trans' hb hW), fun W i k hi hk hW => h.cs W i k hi hk (below_trans' hb hW)⟩

theorem quiet_below {P : Program} {f : FuncId} {args : Array Value} {w : World} {v : Value} (h : Calls P f args w fun e w' => e = .returned v ∧ w = w') : Calls P f args w fun e w' => e = .returned v ∧ Below w.heap.size w w' :=
  h.mono fun _ _ ⟨he, hw⟩ => ⟨he, hw ▸ Below.refl _ _⟩

theorem WaysV.costs {w : World} {mode : Int} {v : Value} (h : WaysV w mode v) : ∃ T x fm fe fs, v = .iface T x ∧ Costs w mode T x fm fe fs := by
  rcases h with ⟨rfl, b, rfl, hb⟩ | ⟨rfl, b, rfl, hb⟩ | ⟨rfl, rfl⟩
  · exact ⟨130, _, 232, 231, 233, rfl, ⟨fun _ => by kernel_rfl, fun _ => by kernel_rfl, fun _ => by kernel_rfl, enters_of Tryz.func232 (by kernel_rfl) rfl, enters_of Tryz.func231 (by kernel_rfl) rfl, enters_of Tryz.func233 (by kernel_rfl) rfl,
      fun W _ => quiet_below (miss_1 _ W), fun W _ => quiet_below (extra_1 _ W), fun W i k hi hk hW => morse_swap b i k W (hb.later hW) hi hk⟩⟩
  · exact ⟨133, _, 237, 236, 238, rfl, ⟨fun _ => by kernel_rfl, fun _ => by kernel_rfl, fun _ => by kernel_rfl, enters_of Tryz.func237 (by kernel_rfl) rfl, enters_of Tryz.func236 (by kernel_rfl) rfl, enters_of Tryz.func238 (by kernel_rfl) rfl,
      fun W _ => quiet_below (miss_2 _ W), fun W _ => quiet_below (extra_2 _ W), fun W i k hi hk hW => voice_swap b i k W (hb.later hW) hi hk⟩⟩
  · exact ⟨136, _, 240, 239, 241, rfl, ⟨fun _ => by kernel_rfl, fun _ => by kernel_rfl, fun _ => by kernel_rfl, enters_of Tryz.func240 (by kernel_rfl) rfl, enters_of Tryz.func239 (by kernel_rfl) rfl, enters_of Tryz.func241 (by kernel_rfl) rfl,
      fun W _ => miss_3 W, fun W _ => extra_3 W, fun W i k hi hk hW => data_swap i k W⟩⟩

theorem costsOf (m : Int) (w : World) (h : isMode m) : Calls Tryz.prog 87 #[.int .i64 m] w fun e w' => ∃ T x fm fe fs, e = .returned (.tuple #[.iface T x, .bool true]) ∧ Costs w' m T x fm fe fs ∧ Below w.heap.size w w' :=
  (waysOf_ok m w h).mono fun e w' ⟨v, he, hv, hb⟩ => by
    obtain ⟨T, x, fm, fe, fs, rfl, hc⟩ := hv.costs
    exact ⟨T, x, fm, fe, fs, he, hc, hb⟩
end Go.Proofs.YtgcddjgkieambaaGreatDoor
