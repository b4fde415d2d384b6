/- Plain facts for the reference's chain: what its table holds, row by row. No program in sight. -/
import Derived.Test.YtgcddjgkieambaaGreatDoorChainP
set_option linter.unusedVariables false
set_option linter.unusedSimpArgs false
namespace Go.Proofs.YtgcddjgkieambaaGreatDoor.Cm

/-- What the table of the reference holds of place i: how many can stay from there on, 0 if the number at i cannot. -/
def bst (l : List Int) (i : Nat) : Nat := if stay l i then gg l i else 0
/-- What it holds of place i when the places up to k are looked at. -/
def pb (l : List Int) (i k : Nat) : Nat := mx (gg l) (fol l i) (i + 1) (k - (i + 1)) + 1
section
variable {l : List Int}
theorem bst_pos {i : Nat} (hi : i < l.length) : 0 < bst l i ↔ stay l i = true := by
  unfold bst
  split
  · exact ⟨fun _ => ‹_›, fun _ => gg_pos i hi⟩
  · exact ⟨fun h => absurd h (by omega), fun h => absurd h ‹_›⟩
theorem bst_le {i : Nat} (hi : i < l.length) : bst l i ≤ l.length := by
  unfold bst
  split
  · have := gg_le (l := l) i hi; omega
  · omega
theorem pb_start (i : Nat) : pb l i (i + 1) = 1 := by unfold pb; rw [Nat.sub_self]; rfl
theorem pb_end {i : Nat} (hi : i < l.length) (hs : stay l i = true) : pb l i l.length = bst l i := by
  unfold pb bst
  rw [if_pos hs, gg_eq i hi, show l.length - (i + 1) = l.length - 1 - i by omega]
theorem pb_succ {i k : Nat} (hk : i < k) : pb l i (k + 1) = if fol l i k then max (pb l i k) (gg l k + 1) else pb l i k := by
  unfold pb
  rw [show k + 1 - (i + 1) = (k - (i + 1)) + 1 by omega, mx, show i + 1 + (k - (i + 1)) = k by omega]
  split
  · omega
  · rfl
theorem pb_le {i k : Nat} (hi : i < k) (hk : k ≤ l.length) : pb l i k ≤ l.length := by
  unfold pb
  have := mx_ub (F := gg l) (p := fol l i) (a := i + 1) (c := k - (i + 1)) (B := l.length - (i + 1)) (fun x h1 h2 h3 => by have := gg_le (l := l) x (by omega); omega)
  omega
theorem fol_bst {i k : Nat} (hk : k < l.length) : fol l i k = (decide (0 < bst l k) && decide ((k : Int) - i ≤ l.getD k 0 - l.getD i 0)) := by
  unfold fol
  have h := bst_pos (l := l) hk
  rw [show decide ((i : Int) < 0) = false by simp, Bool.false_or]
  cases hs : stay l k
  · have e0 : decide (0 < bst l k) = false := decide_eq_false (fun e => by have := h.1 e; rw [hs] at this; cases this)
    rw [e0, Bool.false_and, Bool.false_and]
  · have e0 : decide (0 < bst l k) = true := decide_eq_true (h.2 hs)
    rw [e0, Int.toNat_natCast]
theorem fol_gg {i : Int} {k : Nat} (h : fol l i k = true) : gg l k = bst l k := by unfold bst; rw [if_pos (fol_stay h)]
theorem mx_bst (k : Nat) (hk : k < l.length) : mx (gg l) (stay l) 0 (k + 1) = max (mx (gg l) (stay l) 0 k) (bst l k) := by
  rw [mx, Nat.zero_add]
  unfold bst
  split
  · rfl
  · omega
theorem mx_len (k : Nat) (hk : k ≤ l.length) : mx (gg l) (stay l) 0 k ≤ l.length := mx_ub fun x h1 h2 h3 => by have := gg_le (l := l) x (by omega); omega
/-- The chain from place k on. -/
theorem chn_next (b : Nat) (i : Int) (t k : Nat) (hk : k < l.length) : chn l b (l.length - k) i t = if fol l i k && decide ((gg l k : Int) = (b : Int) - t) then k :: chn l b (l.length - (k + 1)) (k : Int) (t + 1) else chn l b (l.length - (k + 1)) i t := by
  obtain ⟨c, hc⟩ : ∃ c, l.length - k = c + 1 := ⟨l.length - k - 1, by omega⟩
  have h1 : l.length - (c + 1) = k := by omega
  have h2 : l.length - (k + 1) = c := by omega
  rw [hc, h2, chn, h1]
/-- The last place that is kept, -1 if none is. -/
def lastK (ks : List Nat) : Int := if ks = [] then -1 else ((ks.getD (ks.length - 1) 0 : Nat) : Int)
theorem lastK_snoc (ks : List Nat) (k : Nat) : lastK (ks ++ [k]) = (k : Int) := by
  unfold lastK
  rw [if_neg (by simp)]
  simp [List.getD]
theorem fol_last {ks : List Nat} {k : Nat} (hk : k < l.length) : fol l (lastK ks) k = (decide (0 < bst l k) && (decide ((ks.length : Int) - 1 < 0) || decide ((k : Int) - (ks.getD (ks.length - 1) 0 : Nat) ≤ l.getD k 0 - l.getD (ks.getD (ks.length - 1) 0) 0))) := by
  have h := bst_pos (l := l) hk
  have hs : stay l k = decide (0 < bst l k) := by
    cases e : stay l k
    · rw [decide_eq_false (fun x => by have := h.1 x; rw [e] at this; cases this)]
    · rw [decide_eq_true (h.2 e)]
  unfold fol
  rw [hs]
  congr 1
  unfold lastK
  by_cases he : ks = []
  · subst he; simp
  · have hl : 0 < ks.length := List.length_pos_iff.2 he
    rw [if_neg he, decide_eq_false (show ¬ (((ks.getD (ks.length - 1) 0 : Nat) : Int) < 0) by omega), decide_eq_false (show ¬ ((ks.length : Int) - 1 < 0) by omega), Int.toNat_natCast]
end
end Go.Proofs.YtgcddjgkieambaaGreatDoor.Cm
