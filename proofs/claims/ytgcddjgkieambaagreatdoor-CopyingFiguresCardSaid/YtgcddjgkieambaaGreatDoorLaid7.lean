/- The seven variables of Go's library that two rows list: what the list gives, and a world that holds them. -/
import Derived.Test.YtgcddjgkieambaaGreatDoorJoin
set_option linter.unusedVariables false
set_option maxRecDepth 100000
namespace Go.Proofs.YtgcddjgkieambaaGreatDoor
open Go.ChangeShapes Go.WideShapes Go.ChangeAt Go.RowKit

abbrev laid7 : List (String × DataW Unit) := [("math/bits.deBruijn32tab", Rows.laid_math_bits_deBruijn32tab), ("math/bits.deBruijn64tab", Rows.laid_math_bits_deBruijn64tab), ("internal/strconv.uint64pow10", Rows.laid_internal_strconv_uint64pow10),
  ("unicode/utf8.acceptRanges", Rows.laid_unicode_utf8_acceptRanges), ("strconv.ErrRange", Rows.laid_strconv_ErrRange), ("strconv.ErrSyntax", Rows.laid_strconv_ErrSyntax), ("unicode/utf8.first", Rows.laid_unicode_utf8_first)]
set_option maxRecDepth 100000 in
/-- What the row's list gives: the table of powers of ten lies in memory. -/
theorem pow_of_laid7 {W : World} (h : laidMetH Tryz.prog laid7 W) : Pow W := by
  have h' : laidMet Tryz.prog laid7 W := h
  obtain ⟨ps, ⟨_, _, _, _, _, _, _, _, _, _, ⟨_, _, _, _, _, _, _, _, _, _, ⟨g', t', cs, fuel, p, q, hg', ht', hvar, hd, _, _⟩, _⟩, _⟩, _⟩ := h'
  obtain rfl := Option.some.inj (gPow.symm.trans hg')
  obtain rfl := Option.some.inj (gPowT.symm.trans ht')
  rw [pow_data] at hd
  unfold Pow Lib.TabIs
  rw [hvar, ← Lib.cells_of_tab Tryz.underlying220 Tryz.underlying191 cells191 cells220 hd]

/-- The cells of a table whose entries are numbers or rows of numbers. -/
def litCells2 : DataW Unit → Array Value
  | .agg l => (l.flatMap fun | .lit (.int k n) => [Value.int k n] | .agg m => m.map (fun | .lit (.int k n) => Value.int k n | _ => undef) | _ => []).toArray
  | _ => #[]
def relaid2 (d : DataW Unit) : Obj → Obj
  | .cells _ t fz => .cells (litCells2 d) t fz
  | o => o
def repoint (v : Value) : Obj → Obj
  | .cells _ t fz => .cells #[v] t fz
  | o => o
abbrev synS : ByteArray := { data := #[105, 110, 118, 97, 108, 105, 100, 32, 115, 121, 110, 116, 97, 120] }
abbrev rngS : ByteArray := { data := #[118, 97, 108, 117, 101, 32, 111, 117, 116, 32, 111, 102, 32, 114, 97, 110, 103, 101] }
/-- So many blocks has the settled world. -/
noncomputable def low7 : Nat := (World.holding Tryz.prog default ⟨#[], #[], []⟩).heap.size
/-- A world for the witness: the settled one with the two errors' texts, the variables holding what the row lists. -/
noncomputable def laidWorld7 (os : Os) : World :=
  let w0 := World.holding Tryz.prog os ⟨#[.cells #[.string synS] 230, .cells #[.string rngS] 230], #[], []⟩
  { w0 with heap := ((((((w0.heap.modify 3 (relaid Rows.laid_internal_strconv_uint64pow10)).modify 6 (relaid Rows.laid_math_bits_deBruijn32tab)).modify 7 (relaid Rows.laid_math_bits_deBruijn64tab)).modify 5 (relaid2 Rows.laid_unicode_utf8_acceptRanges)).modify 4 (relaid Rows.laid_unicode_utf8_first)).modify 1 (repoint (.iface 228 (.pointer (some ⟨low7, 0, none⟩))))).modify 2 (repoint (.iface 228 (.pointer (some ⟨low7 + 1, 0, none⟩)))) }
end Go.Proofs.YtgcddjgkieambaaGreatDoor
