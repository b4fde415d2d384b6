/- Plain facts on numbers as they are read: what a text of figures says, and that a number is read from its own figures. No program in sight. -/
import Derived.Test.YtgcddjgkieambaaGreatDoorNumP
import Derived.Lib.Atoi
import Derived.Lib.SlTrimSet
set_option linter.unusedVariables false
set_option linter.unusedSimpArgs false
namespace Go.Proofs.YtgcddjgkieambaaGreatDoor
open Go.RowKit

def pN : Nat → UInt8 | 0 => 84 | 1 => 65 | _ => 78
def qN : Nat → UInt8 | 0 => 48 | 1 => 49 | _ => 57
def readF (m : Int) (c : UInt8) : UInt8 := if m = 1 then rp pN qN 3 c else c
/-- A text as it is read in a mode. -/
def readB (m : Int) (s : ByteArray) : ByteArray := if m = 1 then mapB (rp pN qN 3) s else s
theorem readB_list (m : Int) (s : ByteArray) : (readB m s).data.toList = s.data.toList.map (readF m) := by
  unfold readB
  split
  · rename_i h
    rw [mapB_list]
    exact List.map_congr_left fun c _ => by unfold readF; rw [if_pos h]
  · rename_i h
    have e : readF m = id := funext fun c => by unfold readF; rw [if_neg h]; rfl
    rw [e, List.map_id]
theorem readB_size (m : Int) (s : ByteArray) : (readB m s).size = s.size := by rw [size_list, readB_list, List.length_map, ← size_list]
def isDig (c : UInt8) : Bool := decide (48 ≤ c.toNat) && decide (c.toNat ≤ 57)
def digB (s : ByteArray) : Bool := s.data.toList.all isDig
/-- The error of reading a number, and the number. -/
def nuE (m : Int) (s : ByteArray) : Int := if ¬ (m = 1 ∨ m = 2 ∨ m = 3) then 40 else if s.size < 1 ∨ 5 < s.size ∨ digB (readB m s) = false then 1 else 0
def nuV (m : Int) (s : ByteArray) : Int := if nuE m s = 0 then (valD (readB m s).data.toList : Int) else 0
theorem nuE_ok {m : Int} {s : ByteArray} (h : nuE m s = 0) : (m = 1 ∨ m = 2 ∨ m = 3) ∧ 1 ≤ s.size ∧ s.size ≤ 5 ∧ digB (readB m s) = true := by
  unfold nuE at h
  split at h
  · omega
  · split at h
    · omega
    · rename_i h1 h2
      exact ⟨Classical.not_not.1 h1, by omega, by omega, by cases hd : digB (readB m s) <;> simp_all⟩
theorem isDig_iff {c : UInt8} : isDig c = true ↔ 48 ≤ c.toNat ∧ c.toNat ≤ 57 := by unfold isDig; simp
theorem digB_mem {s : ByteArray} (h : digB s = true) : ∀ c ∈ s.data.toList, 48 ≤ c.toNat ∧ c.toNat ≤ 57 := fun c hc => isDig_iff.1 (List.all_eq_true.1 h c hc)

/-- What the library's reading of digits says of a row of digits. -/
theorem decFrom_fold : ∀ (l : List UInt8) (acc : Nat), (∀ c ∈ l, 48 ≤ c.toNat ∧ c.toNat ≤ 57) → Lib.decFrom acc l = some (l.foldl (fun a c => 10 * a + (c.toNat - 48)) acc)
  | [], acc, _ => rfl
  | c :: l, acc, h => by
    have hc := h c List.mem_cons_self
    have hd : Lib.digitVal c = some (c.toNat - 48) := by unfold Lib.digitVal; rw [if_pos hc]
    rw [Lib.decFrom, hd]
    show Lib.decFrom (acc * 10 + (c.toNat - 48)) l = _
    rw [decFrom_fold l _ (fun x hx => h x (List.mem_cons_of_mem _ hx)), List.foldl_cons, Nat.mul_comm acc 10]
theorem atoi_dig {l : List UInt8} (h0 : 1 ≤ l.length) (h : ∀ c ∈ l, 48 ≤ c.toNat ∧ c.toNat ≤ 57) : Lib.atoi l = some ((valD l : Nat) : Int) := by
  cases l with
  | nil => simp at h0
  | cons b r =>
    have hb := h b List.mem_cons_self
    have n1 : (b == 45) = false := by rw [beq_eq_false_iff_ne]; intro e; rw [e] at hb; exact absurd hb.1 (by decide)
    have n2 : (b == 43) = false := by rw [beq_eq_false_iff_ne]; intro e; rw [e] at hb; exact absurd hb.1 (by decide)
    have e : Lib.decNat (b :: r) = some (valD (b :: r)) := by
      unfold Lib.decNat
      rw [List.isEmpty_cons, if_neg (by simp), decFrom_fold _ _ h]
      rfl
    simp only [Lib.atoi, n1, n2, e]
    rfl

def figs : List UInt8 := [48, 49, 50, 51, 52, 53, 54, 55, 56, 57]
theorem figs_dig (c : UInt8) : figs.contains c = isDig c := by
  have : (List.range 256).all (fun n => decide (figs.contains (UInt8.ofNat n) = isDig (UInt8.ofNat n))) = true := by decide +kernel
  have h1 := of_decide_eq_true (List.all_eq_true.1 this c.toNat (List.mem_range.2 c.toNat_lt))
  rwa [UInt8.ofNat_toNat] at h1
theorem drop_all {p : UInt8 → Bool} : ∀ {l : List UInt8}, l.all p = true → l.dropWhile p = []
  | [], _ => rfl
  | c :: l, h => by
    rw [List.all_cons, Bool.and_eq_true] at h
    rw [List.dropWhile_cons_of_pos h.1]
    exact drop_all h.2
theorem drop_mem {p : UInt8 → Bool} {x : UInt8} (hx : p x = false) : ∀ {l : List UInt8}, x ∈ l → x ∈ l.dropWhile p
  | c :: l, h => by
    by_cases hc : p c = true
    · rw [List.dropWhile_cons_of_pos hc]
      rcases List.mem_cons.1 h with e | h
      · rw [e, hc] at hx; exact absurd hx (by decide)
      · exact drop_mem hx h
    · rw [List.dropWhile_cons_of_neg hc]; exact h
theorem trim_dig {l : List UInt8} (h : l.all isDig = true) : Lib.trimS l figs = [] := by
  have hp : (figs.contains · : UInt8 → Bool) = isDig := funext figs_dig
  unfold Lib.trimS Lib.trimRightS Lib.trimLeftS
  have e := drop_all (p := isDig) (l := l.reverse) (by rw [List.all_reverse]; exact h)
  rw [hp, e]
  rfl
theorem trim_not {l : List UInt8} (h : l.all isDig = false) : Lib.trimS l figs ≠ [] := by
  have hp : (figs.contains · : UInt8 → Bool) = isDig := funext figs_dig
  obtain ⟨x, hx, hd⟩ : ∃ x ∈ l, isDig x = false := by
    rw [List.all_eq_false] at h
    obtain ⟨x, hx, hd⟩ := h
    exact ⟨x, hx, by simpa using hd⟩
  unfold Lib.trimS Lib.trimRightS Lib.trimLeftS
  rw [hp]
  exact List.ne_nil_of_mem (drop_mem hd (List.mem_reverse.2 (drop_mem hd (List.mem_reverse.2 hx))))

/-- The figure that a byte stands for, or -1. -/
def figI (m : Int) (c : UInt8) : Int := if isDig (readF m c) then ((readF m c).toNat : Int) - 48 else -1
/-- The value of the first figures. -/
theorem valD_take (l : List UInt8) (k : Nat) (h : k < l.length) : valD (l.take (k + 1)) = 10 * valD (l.take k) + ((l[k]'h).toNat - 48) := by
  rw [List.take_add_one, List.getElem?_eq_getElem h]
  exact valD_snoc _ _
theorem valD_lt : ∀ (k : Nat) (l : List UInt8), l.length ≤ k → (∀ c ∈ l, c.toNat ≤ 57) → valD l < 10 ^ k
  | 0, l, h, _ => by
    obtain rfl : l = [] := List.eq_nil_of_length_eq_zero (by omega)
    decide
  | k + 1, l, hk, h => by
    rcases List.eq_nil_or_concat l with rfl | ⟨l', c, rfl⟩
    · exact Nat.pow_pos (by omega)
    · rw [List.concat_eq_append] at hk h ⊢
      rw [List.length_append, List.length_singleton] at hk
      have h1 := valD_lt k l' (by omega) (fun x hx => h x (List.mem_append_left _ hx))
      have h2 := h c (List.mem_append_right _ (List.mem_singleton.2 rfl))
      rw [valD_snoc, Nat.pow_succ]
      omega

/-- A number is read from its own figures. -/
theorem read_back (m n : Int) (h0 : 0 ≤ n) : readB m (sentNum m n) = itoaB n := by
  apply ByteArray.ext
  apply Array.ext'
  rw [readB_list]
  unfold sentNum
  split
  · rename_i hm
    rw [mapB_list, List.map_map]
    have : ∀ c ∈ (itoaB n).data.toList, (readF m ∘ rp pD qD 3) c = c := by
      intro c hc
      obtain ⟨i, hi, rfl⟩ := dig_of (itoaB_mem h0 c hc)
      have : (List.range 10).all (fun i => decide (rp pN qN 3 (rp pD qD 3 (UInt8.ofNat (48 + i))) = UInt8.ofNat (48 + i))) = true := by decide +kernel
      have h1 := of_decide_eq_true (List.all_eq_true.1 this i (List.mem_range.2 hi))
      show readF m _ = _
      unfold readF
      rw [if_pos hm, h1]
    conv => rhs; rw [← List.map_id (itoaB n).data.toList]
    exact List.map_congr_left this
  · rename_i hm
    have e : readF m = id := funext fun c => by unfold readF; rw [if_neg hm]; rfl
    rw [e, List.map_id]
theorem itoaB_dig {n : Int} (h0 : 0 ≤ n) : digB (itoaB n) = true := by
  unfold digB
  rw [List.all_eq_true]
  exact fun c hc => isDig_iff.2 (itoaB_mem h0 c hc)
theorem nu_back {m n : Int} (h : digErr m n = 0) : nuE m (sentNum m n) = 0 ∧ nuV m (sentNum m n) = n := by
  obtain ⟨hm, h0, h9⟩ := digErr_ok h
  have h5 := sentNum_five (m := m) h0 h9
  have e : nuE m (sentNum m n) = 0 := by
    unfold nuE
    rw [if_neg (fun e => e hm), if_neg]
    rw [read_back m n h0, itoaB_dig h0]
    intro h
    rcases h with h | h | h
    · omega
    · omega
    · exact absurd h (by decide)
  refine ⟨e, ?_⟩
  unfold nuV
  rw [if_pos e, read_back m n h0, itoaB_list h0, decDigits_val]
  omega
end Go.Proofs.YtgcddjgkieambaaGreatDoor
