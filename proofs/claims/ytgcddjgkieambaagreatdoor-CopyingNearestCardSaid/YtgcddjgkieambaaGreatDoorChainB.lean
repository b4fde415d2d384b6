/- The walk of the closure of 'Chain' that tells how many numbers can stay from a place on (it calls itself, and keeps what it knows). -/
import Derived.Test.YtgcddjgkieambaaGreatDoorChainA
import Derived.Test.YtgcddjgkieambaaGreatDoorIndices2
set_option linter.unusedVariables false
set_option linter.unusedSimpArgs false
namespace Go.Proofs.YtgcddjgkieambaaGreatDoor
open Go.RowKit

def fStays (pl pn : Nat) : Value := .func (.func 79) #[] #[.pointer (some ⟨pl, 0, none⟩), .pointer (some ⟨pn, 0, none⟩)]
def fFollows (ps pl : Nat) : Value := .func (.func 80) #[] #[.pointer (some ⟨ps, 0, none⟩), .pointer (some ⟨pl, 0, none⟩)]
def fMost (pk pn pf pm : Nat) : Value := .func (.func 81) #[] #[.pointer (some ⟨pk, 0, none⟩), .pointer (some ⟨pn, 0, none⟩), .pointer (some ⟨pf, 0, none⟩), .pointer (some ⟨pm, 0, none⟩)]

/-- What lies in memory behind 'Chain''s beginning: its variables, and what is known so far (in block kb). -/
structure ChW (pl pn ps pk pf pm kb : Nat) (A : Option Addr) (c : Nat) (l : List Int) (w : World) : Prop where
  l0 : w.cell? ⟨pl, 0, none⟩ = some (.slice A l.length c)
  n0 : w.cell? ⟨pn, 0, none⟩ = some (.int .i64 l.length)
  s0 : w.cell? ⟨ps, 0, none⟩ = some (fStays pl pn)
  k0 : w.cell? ⟨pk, 0, none⟩ = some (.slice (some ⟨kb, 0, none⟩) l.length l.length)
  f0 : w.cell? ⟨pf, 0, none⟩ = some (fFollows ps pl)
  m0 : w.cell? ⟨pm, 0, none⟩ = some (fMost pk pn pf pm)
  nl : pl ≠ kb
  nn : pn ≠ kb
  ns : ps ≠ kb
  nk : pk ≠ kb
  nf : pf ≠ kb
  nm : pm ≠ kb
  na : 0 < l.length → ∀ a, A = some a → a.block ≠ kb
  nums : Nums w A l
  kn : ∃ kn : Nat → Nat, RowA w kb 3 l.length (fun j => .int .i64 (kn j : Nat)) ∧ ∀ j, j < l.length → kn j = 0 ∨ kn j = Cm.gg l j

theorem cell_only {w w' : World} {kb : Nat} {p : Addr} {v : Value} (hg : w.grownBy w' (some kb)) (h : w.cell? p = some v) (hp : p.block ≠ kb) : w'.cell? p = some v :=
  hg.cell h (fun e => hp (by injection e))
theorem Nums.only {w w' : World} {kb : Nat} {A : Option Addr} {l : List Int} (h : Nums w A l) (hg : w.grownBy w' (some kb)) (hA : 0 < l.length → ∀ a, A = some a → a.block ≠ kb) : Nums w' A l := fun j hj => by
  obtain ⟨a, e, hl, hc⟩ := h j hj
  exact ⟨a, e, Nat.lt_of_lt_of_le hl hg.size, cell_only hg hc (by rw [add_block]; exact hA (by omega) a e)⟩
section
variable {pl pn ps pk pf pm kb : Nat} {A : Option Addr} {c : Nat} {l : List Int} {w w' : World}
theorem ChW.only (h : ChW pl pn ps pk pf pm kb A c l w) (hg : w.grownBy w' (some kb)) (hk : ∃ kn : Nat → Nat, RowA w' kb 3 l.length (fun j => .int .i64 (kn j : Nat)) ∧ ∀ j, j < l.length → kn j = 0 ∨ kn j = Cm.gg l j) : ChW pl pn ps pk pf pm kb A c l w' :=
  ⟨cell_only hg h.l0 h.nl, cell_only hg h.n0 h.nn, cell_only hg h.s0 h.ns, cell_only hg h.k0 h.nk, cell_only hg h.f0 h.nf, cell_only hg h.m0 h.nm, h.nl, h.nn, h.ns, h.nk, h.nf, h.nm, h.na, h.nums.only hg h.na, hk⟩
theorem ChW.drewN (h : ChW pl pn ps pk pf pm kb A c l w) (q : Nat) : ChW pl pn ps pk pf pm kb A c l (w.drewN q) := by
  have hb : Below w.heap.size w (w.drewN q) := below_drewN0 q
  exact ⟨h.l0, h.n0, h.s0, h.k0, h.f0, h.m0, h.nl, h.nn, h.ns, h.nk, h.nf, h.nm, h.na, h.nums.later hb, h.kn⟩
theorem ChW.keep {B : Nat} (h : ChW pl pn ps pk pf pm kb A c l w) (hb : Below B w w') (hl : pl < B) (hn : pn < B) (hs : ps < B) (hk : pk < B) (hf : pf < B) (hm : pm < B) (hkb : kb < B) (hA : 0 < l.length → ∀ a, A = some a → a.block < B) : ChW pl pn ps pk pf pm kb A c l w' := by
  obtain ⟨kn, hr, hkn⟩ := h.kn
  exact ⟨(hb.cell (p := ⟨pl, 0, none⟩) hl).trans h.l0, (hb.cell (p := ⟨pn, 0, none⟩) hn).trans h.n0, (hb.cell (p := ⟨ps, 0, none⟩) hs).trans h.s0, (hb.cell (p := ⟨pk, 0, none⟩) hk).trans h.k0, (hb.cell (p := ⟨pf, 0, none⟩) hf).trans h.f0, (hb.cell (p := ⟨pm, 0, none⟩) hm).trans h.m0,
    h.nl, h.nn, h.ns, h.nk, h.nf, h.nm, h.na, fun j hj => by
      obtain ⟨a, e, hl, hc⟩ := h.nums j hj
      exact ⟨a, e, Nat.lt_of_lt_of_le hl hb.size, (hb.cell (p := a.add j) (by rw [add_block]; exact hA (by omega) a e)).trans hc⟩, kn, hr.below hb hkb, hkn⟩
theorem only_drewN {row : Option Nat} (q : Nat) : w.grownBy (w.drewN q) row := ⟨rfl, rfl, rfl, Nat.le_refl _, fun _ _ _ => rfl⟩

theorem ChW.follows (h : ChW pl pn ps pk pf pm kb A c l w) (hS : Serial l) (i k : Int) (h0 : i < l.length) (h1 : 0 ≤ k) (h2 : k < l.length) :
    Calls Tryz.prog 80 #[.int .i64 i, .int .i64 k, .pointer (some ⟨ps, 0, none⟩), .pointer (some ⟨pl, 0, none⟩)] w fun e w' => e = .returned (.bool (Cm.fol l i k.toNat)) ∧ ∃ q, w' = w.drewN q := by
  obtain ⟨k, rfl⟩ := Int.eq_ofNat_of_zero_le h1
  simp only [Int.toNat_natCast]
  by_cases hi : i < 0
  · exact follows_neg ps pl pn A c l i k w hi (by omega) hS h.s0 h.l0 h.n0 h.nums
  · obtain ⟨i, rfl⟩ := Int.eq_ofNat_of_zero_le (show 0 ≤ i by omega)
    exact follows_pos ps pl pn A c l i k w (by omega) (by omega) hS h.s0 h.l0 h.n0 h.nums
end

/-- What is known when the loop has come to k. -/
def MostRel (pl pn ps pk pf pm kb : Nat) (A : Option Addr) (c : Nat) (l : List Int) (i : Nat) (wo : World) (v7 v8 : Value) (wx : World) : Prop :=
  ∃ k : Nat, i + 1 ≤ k ∧ k ≤ l.length ∧ v7 = .int .i64 (Cm.mx (Cm.gg l) (Cm.fol l i) (i + 1) (k - (i + 1)) : Nat) ∧ v8 = .int .i64 k ∧ ChW pl pn ps pk pf pm kb A c l wx ∧ wo.grownBy wx (some kb)

theorem RowA.putN {w : World} {b n : Nat} {kn : Nat → Nat} {g : Nat → Nat} (H : RowA w b 3 n (fun j => .int .i64 (kn j : Nat))) (hk : ∀ j, j < n → kn j = 0 ∨ kn j = g j) (i : Nat) (z : Nat) (hz : z = g i) :
    ∃ kn' : Nat → Nat, RowA (w.setCell ⟨b, i, none⟩ (.int .i64 (z : Nat))) b 3 n (fun j => .int .i64 (kn' j : Nat)) ∧ (∀ j, j < n → kn' j = 0 ∨ kn' j = g j) ∧ kn' i = z :=
  ⟨fun j => if j = i then z else kn j, H.put (fun j _ => by simp only; split <;> rfl), fun j hj => by
    by_cases e : j = i
    · subst e; simp [hz]
    · simp only [e, if_false]; exact hk j hj, by simp⟩

set_option maxRecDepth 100000 in
set_option maxHeartbeats 4000000 in
theorem most_any (pl pn ps pk pf pm kb : Nat) (A : Option Addr) (c : Nat) (l : List Int) (hS : Serial l) : ∀ (d i : Nat), i < l.length → l.length - i ≤ d → ∀ w, ChW pl pn ps pk pf pm kb A c l w →
    Calls Tryz.prog 81 #[.int .i64 i, .pointer (some ⟨pk, 0, none⟩), .pointer (some ⟨pn, 0, none⟩), .pointer (some ⟨pf, 0, none⟩), .pointer (some ⟨pm, 0, none⟩)] w
      fun e w' => e = .returned (.int .i64 (Cm.gg l i : Nat)) ∧ ChW pl pn ps pk pf pm kb A c l w' ∧ w.grownBy w' (some kb) := by
  intro d
  induction d with
  | zero => intro i h1 h2; omega
  | succ d ih =>
    intro i hi hd w H
    obtain ⟨kn, hkr, hkn⟩ := H.kn
    have ck := hkr.cell hi
    have c1 := H.k0
    have c2 := H.n0
    have hl := hS.1
    have hp := Cm.gg_pos (l := l) i hi
    have hgl := Cm.gg_le (l := l) i hi
    have p1 : (0 : Int) ≤ (i : Int) := by omega
    have p2 : (i : Int) < (l.length : Int) := by omega
    have q1 : IntKind.i64.wrap ((i : Int) + 1) = (i : Int) + 1 := IntWalk.i64_in _ (by omega)
    by_cases hz : kn i = 0
    · rw [hz] at ck
      have hm := Cm.gg_eq (l := l) i hi
      have HH := Lib.hid H
      have IH := Lib.hid ih
      clear hkr hkn H ih
      go_enter Tryz.func81, Tryz.ntmps81
      go_wp2
      go_loopw [7, 8] (fun v7 v8 wx => MostRel pl pn ps pk pf pm kb A c l i w v7 v8 wx) (fun _ v8 _ => l.length - (intOf v8).toNat)
      case atStart => exact ⟨i + 1, by omega, by omega, by rw [Nat.sub_self]; rfl, by go_num, HH.out, World.grownBy.refl _ _⟩
      case round =>
        obtain ⟨k, hk1, hk2, rfl, rfl, hW, hg⟩ := hrel
        have e1 := hW.n0
        have e2 := hW.f0
        have e3 := hW.m0
        unfold fFollows at e2
        unfold fMost at e3
        by_cases hlt : k < l.length
        · have d1 : decide ((k : Int) < (l.length : Int)) = true := by simp; omega
          have q2 : IntKind.i64.wrap ((k : Int) + 1) = (k : Int) + 1 := IntWalk.i64_in _ (by omega)
          have hmx : Cm.mx (Cm.gg l) (Cm.fol l i) (i + 1) (k + 1 - (i + 1)) = if Cm.fol l i k then max (Cm.mx (Cm.gg l) (Cm.fol l i) (i + 1) (k - (i + 1))) (Cm.gg l k) else Cm.mx (Cm.gg l) (Cm.fol l i) (i + 1) (k - (i + 1)) := by
            rw [show k + 1 - (i + 1) = (k - (i + 1)) + 1 by omega, Cm.mx, show i + 1 + (k - (i + 1)) = k by omega]
          obtain ⟨z, hz0⟩ : ∃ z, z = Cm.mx (Cm.gg l) (Cm.fol l i) (i + 1) (k - (i + 1)) := ⟨_, rfl⟩
          rw [← hz0] at hmx ⊢
          have HF := Lib.hid (hW.follows hS i k (by omega) (by omega) (by omega))
          simp only [Int.toNat_natCast] at HF
          have HM := Lib.hid (fun q => IH.out k hlt (by omega) (wr.drewN q) (hW.drewN q))
          have HW := Lib.hid hW
          have Hg := Lib.hid hg
          clear hW hg hz0
          cases hfo : Cm.fol l i k with
          | false =>
            rw [hfo] at HF hmx
            have Hmx := Lib.hid hmx
            clear hmx hfo
            go_wp2_with (first | (go_at_call 80; refine HF.out.mono ?_; rintro e w1 ⟨rfl, q, rfl⟩))
            go_roundw
            case rel => exact ⟨k + 1, by omega, by omega, by rw [Hmx.out]; rfl, by go_num, HW.out.drewN _, Hg.out.trans (only_drewN _)⟩
            case measure => simp [intOf]; omega
          | true =>
            rw [hfo] at HF hmx
            have Hmx := Lib.hid hmx
            clear hmx hfo
            go_wp2_with (first | (go_at_call 80; refine HF.out.mono ?_; rintro e w1 ⟨rfl, q, rfl⟩) | (go_at_call 81; refine (HM.out q).mono ?_; rintro e w2 ⟨rfl, hW2, hg2⟩))
            go_roundw
            case rel => exact ⟨k + 1, by omega, by omega, by rw [Hmx.out]; simp only [if_true]; exact congrArg (Value.int .i64) (by omega), by go_num, hW2, (Hg.out.trans (only_drewN _)).trans hg2⟩
            case measure => simp [intOf]; omega
        · obtain rfl : k = l.length := by omega
          obtain ⟨kn2, hkr2, hkn2⟩ := hW.kn
          have c3 := hW.k0
          have c4 := hkr2.cell hi
          have c5 := hkr2.frozen i
          rw [show l.length - (i + 1) = l.length - 1 - i by omega]
          obtain ⟨z, hz0⟩ : ∃ z, z = Cm.mx (Cm.gg l) (Cm.fol l i) (i + 1) (l.length - 1 - i) := ⟨_, rfl⟩
          rw [← hz0] at hm ⊢
          have q3 : IntKind.i64.wrap ((z : Int) + 1) = (z : Int) + 1 := IntWalk.i64_in _ (by omega)
          have Hk2 := Lib.hid hkr2
          have Hkn2 := Lib.hid hkn2
          have HW := Lib.hid hW
          have Hg := Lib.hid hg
          have Hm := Lib.hid hm
          have nk := hW.nk
          have hnk : kb ≠ pk := fun e => nk e.symm
          clear hkr2 hkn2 hW hg hm hz0
          go_wp2
          go_ret
          rw [show (z : Int) + 1 = ((z + 1 : Nat) : Int) by omega]
          obtain ⟨kn3, h1, h2, _⟩ := RowA.putN Hk2.out Hkn2.out i (z + 1) Hm.out.symm
          exact ⟨by rw [Hm.out]; rfl, HW.out.only (only_set (World.grownBy.refl _ _) _ _) ⟨kn3, h1, h2⟩, Hg.out.trans (only_set (World.grownBy.refl _ _) _ _)⟩
    · have hkz : kn i = Cm.gg l i := (hkn i hi).resolve_left hz
      rw [hkz] at ck
      have hd0 : (((Cm.gg l i : Nat) : Int) == 0) = false := by simp; omega
      have HH := Lib.hid H
      clear hkr hkn H ih
      go_enter Tryz.func81, Tryz.ntmps81
      go_wp2
      go_ret
      exact ⟨rfl, HH.out, World.grownBy.refl _ _⟩
end Go.Proofs.YtgcddjgkieambaaGreatDoor
