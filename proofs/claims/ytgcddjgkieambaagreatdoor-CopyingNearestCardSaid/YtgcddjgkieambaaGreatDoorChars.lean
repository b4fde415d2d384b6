/- Characters, their Morse codes and families, and the costs of swaps: plain definitions and facts. No program in sight. -/
import Derived.Test.YtgcddjgkieambaaGreatDoorDist
import Derived.Lib.Index
set_option linter.unusedVariables false
namespace Go.Proofs.YtgcddjgkieambaaGreatDoor.Cm

/-- All characters, in order. -/
def chars : List UInt8 := [65, 66, 67, 68, 69, 70, 71, 72, 73, 74, 75, 76, 77, 78, 79, 80, 81, 82, 83, 84, 85, 86, 87, 88, 89, 90, 48, 49, 50, 51, 52, 53, 54, 55, 56, 57, 47]
def codeL : List (List UInt8) := [[46, 45], [45, 46, 46, 46], [45, 46, 45, 46], [45, 46, 46], [46], [46, 46, 45, 46], [45, 45, 46], [46, 46, 46, 46], [46, 46], [46, 45, 45, 45], [45, 46, 45], [46, 45, 46, 46], [45, 45], [45, 46], [45, 45, 45], [46, 45, 45, 46], [45, 45, 46, 45], [46, 45, 46], [46, 46, 46], [45], [46, 46, 45], [46, 46, 46, 45], [46, 45, 45], [45, 46, 46, 45], [45, 46, 45, 45], [45, 45, 46, 46], [45, 45, 45, 45, 45], [46, 45, 45, 45, 45], [46, 46, 45, 45, 45], [46, 46, 46, 45, 45], [46, 46, 46, 46, 45], [46, 46, 46, 46, 46], [45, 46, 46, 46, 46], [45, 45, 46, 46, 46], [45, 45, 45, 46, 46], [45, 45, 45, 45, 46], [45, 46, 46, 45, 46]]
def famL : List Nat := [2, 1, 1, 1, 1, 3, 1, 2, 4, 2, 2, 3, 3, 3, 6, 1, 5, 7, 3, 1, 5, 1, 5, 3, 4, 1, 6, 6, 5, 1, 6, 4, 7, 3, 2, 4, 7]

/-- The index of a byte among the characters, or -1. -/
def ixc (c : UInt8) : Int :=
  if 65 ≤ c.toNat ∧ c.toNat ≤ 90 then (c.toNat : Int) - 65 else if 48 ≤ c.toNat ∧ c.toNat ≤ 57 then (c.toNat : Int) - 22 else if c.toNat = 47 then 36 else -1

theorem ixc_all : (List.range 256).all (fun n => decide (Lib.indexByte chars (UInt8.ofNat n) = ixc (UInt8.ofNat n))) = true := by decide +kernel
theorem indexByte_chars (c : UInt8) : Lib.indexByte chars c = ixc c := by
  have h := List.all_eq_true.1 ixc_all c.toNat (List.mem_range.2 c.toNat_lt)
  simpa using h
theorem ixc_bd (c : UInt8) : -1 ≤ ixc c ∧ ixc c ≤ 36 := by
  have := c.toNat_lt
  unfold ixc; split
  · omega
  · split
    · omega
    · split <;> omega
theorem ixc_inj {a b : UInt8} (h : 0 ≤ ixc a) (e : ixc a = ixc b) : a = b := by
  apply UInt8.toNat_inj.1
  unfold ixc at h e
  split at h <;> split at e <;> (try split at h) <;> (try split at e) <;> (try split at h) <;> (try split at e) <;> omega

/-- The index of a text that is one character. -/
def ixOf (l : List UInt8) : Int := match l with | [c] => ixc c | _ => 0
def isChar (l : List UInt8) : Bool := match l with | [c] => decide (0 ≤ ixc c) | _ => false

/-- What the texts of the characters hold in memory: code and family, by turns. -/
def sents : Array Value := #[.string ⟨#[46, 45]⟩, .int .i64 2, .string ⟨#[45, 46, 46, 46]⟩, .int .i64 1, .string ⟨#[45, 46, 45, 46]⟩, .int .i64 1, .string ⟨#[45, 46, 46]⟩, .int .i64 1, .string ⟨#[46]⟩, .int .i64 1, .string ⟨#[46, 46, 45, 46]⟩, .int .i64 3, .string ⟨#[45, 45, 46]⟩, .int .i64 1, .string ⟨#[46, 46, 46, 46]⟩, .int .i64 2, .string ⟨#[46, 46]⟩, .int .i64 4, .string ⟨#[46, 45, 45, 45]⟩, .int .i64 2, .string ⟨#[45, 46, 45]⟩, .int .i64 2, .string ⟨#[46, 45, 46, 46]⟩, .int .i64 3, .string ⟨#[45, 45]⟩, .int .i64 3, .string ⟨#[45, 46]⟩, .int .i64 3, .string ⟨#[45, 45, 45]⟩, .int .i64 6, .string ⟨#[46, 45, 45, 46]⟩, .int .i64 1, .string ⟨#[45, 45, 46, 45]⟩, .int .i64 5, .string ⟨#[46, 45, 46]⟩, .int .i64 7, .string ⟨#[46, 46, 46]⟩, .int .i64 3, .string ⟨#[45]⟩, .int .i64 1, .string ⟨#[46, 46, 45]⟩, .int .i64 5, .string ⟨#[46, 46, 46, 45]⟩, .int .i64 1, .string ⟨#[46, 45, 45]⟩, .int .i64 5, .string ⟨#[45, 46, 46, 45]⟩, .int .i64 3, .string ⟨#[45, 46, 45, 45]⟩, .int .i64 4, .string ⟨#[45, 45, 46, 46]⟩, .int .i64 1, .string ⟨#[45, 45, 45, 45, 45]⟩, .int .i64 6, .string ⟨#[46, 45, 45, 45, 45]⟩, .int .i64 6, .string ⟨#[46, 46, 45, 45, 45]⟩, .int .i64 5, .string ⟨#[46, 46, 46, 45, 45]⟩, .int .i64 1, .string ⟨#[46, 46, 46, 46, 45]⟩, .int .i64 6, .string ⟨#[46, 46, 46, 46, 46]⟩, .int .i64 4, .string ⟨#[45, 46, 46, 46, 46]⟩, .int .i64 7, .string ⟨#[45, 45, 46, 46, 46]⟩, .int .i64 3, .string ⟨#[45, 45, 45, 46, 46]⟩, .int .i64 2, .string ⟨#[45, 45, 45, 45, 46]⟩, .int .i64 4, .string ⟨#[45, 46, 46, 45, 46]⟩, .int .i64 7]
def codeB (i : Nat) : ByteArray := ⟨(codeL.getD i []).toArray⟩
def famZ (i : Nat) : Int := (famL.getD i 0 : Nat)
/-- The number of changes that turn the code of one character into that of another one. -/
def sign (i k x y : Nat) : Int := if (codeL.getD i []).getD x 0 = (codeL.getD k []).getD y 0 then 0 else 1
def clen (i : Nat) : Nat := (codeL.getD i []).length
def cdist (i k : Nat) : Int := T 1 1 (sign i k) (clen i) (clen k)
/-- The cost of a swap in a mode. -/
def swM (i k : Nat) : Int := if i = k then 0 else cdist i k
def swV (i k : Nat) : Int := if i = k then 0 else if famZ i = famZ k then 1 else 3
def swD (i k : Nat) : Int := if i = k then 0 else 2
def sw (mode : Int) : Nat → Nat → Int := if mode = 1 then swM else if mode = 2 then swV else swD
def missC (mode : Int) : Int := if mode = 1 then 3 else 2
def extraC (mode : Int) : Int := if mode = 3 then 2 else 3
theorem clen_le (i : Nat) : clen i ≤ 5 := by
  by_cases h : i < 37
  · have : (List.range 37).all (fun i => decide (clen i ≤ 5)) = true := by decide
    simpa using List.all_eq_true.1 this i (List.mem_range.2 h)
  · have h1 : codeL.length = 37 := rfl
    simp [clen, List.getD, List.getElem?_eq_none (show codeL.length ≤ i by omega)]
theorem sign_bd (i k x y : Nat) : 0 ≤ sign i k x y ∧ sign i k x y ≤ 1000 := by unfold sign; split <;> omega
theorem sw_bd (mode : Int) (i k : Nat) : 0 ≤ sw mode i k ∧ sw mode i k ≤ 1000 := by
  unfold sw
  split
  · unfold swM; split
    · omega
    · have h := T_bd 1 1 (sign i k) (by omega) (by omega) (fun x y => sign_bd i k x y) (clen i) (clen k) (by have := clen_le i; omega) (by have := clen_le k; omega)
      have u := T_upper (m := 1) (e := 1) (sw := sign i k) (by omega) (by omega) (clen i) (clen k)
      have := clen_le i
      have := clen_le k
      unfold cdist; omega
  · split
    · unfold swV; split
      · omega
      · split <;> omega
    · unfold swD; split <;> omega
theorem missC_bd (mode : Int) : 0 ≤ missC mode ∧ missC mode ≤ 10 := by unfold missC; split <;> omega
theorem extraC_bd (mode : Int) : 0 ≤ extraC mode ∧ extraC mode ≤ 10 := by unfold extraC; split <;> omega
end Go.Proofs.YtgcddjgkieambaaGreatDoor.Cm
