/- The walks of strings.NewReplacer and Replace at three pairs of bytes, of 'short', and of 'Digits'. -/
import Derived.Test.YtgcddjgkieambaaGreatDoorRepl3
import Derived.Test.YtgcddjgkieambaaGreatDoorRise
import Derived.Test.YtgcddjgkieambaaGreatDoorHearing
import Derived.Lib.ItoaLen
set_option linter.unusedVariables false
set_option linter.unusedSimpArgs false
namespace Go.Proofs.YtgcddjgkieambaaGreatDoor
open Go.RowKit

theorem info9 : (Tryz.prog.info? 9).map (fun i => (i.zero, i.size, i.bytes)) = some (some (.string ⟨#[]⟩), 1, 16) := by kernel_rfl
/-- Three pairs of texts as a list. -/
def six (p q : Nat → UInt8) : List Value := [.string ⟨#[p 0]⟩, .string ⟨#[q 0]⟩, .string ⟨#[p 1]⟩, .string ⟨#[q 1]⟩, .string ⟨#[p 2]⟩, .string ⟨#[q 2]⟩]
theorem pairs_of_six {w : World} {g : Nat} {p q : Nat → UInt8} (hg : g < w.heap.size) (h : ∀ j u, (six p q)[j]? = some u → w.cell? ⟨g, j, none⟩ = some u) : Pairs w g p q :=
  ⟨hg, fun k hk => by
    match k, hk with
    | 0, _ => exact ⟨h 0 _ rfl, h 1 _ rfl⟩
    | 1, _ => exact ⟨h 2 _ rfl, h 3 _ rfl⟩
    | 2, _ => exact ⟨h 4 _ rfl, h 5 _ rfl⟩⟩
theorem six_of_pairs {w : World} {g : Nat} {p q : Nat → UInt8} (h : Pairs w g p q) : ∀ j u, (six p q)[j]? = some u → w.cell? ((⟨g, 0, none⟩ : Addr).add j) = some u := by
  intro j u hj
  rw [show (⟨g, 0, none⟩ : Addr).add j = ⟨g, j, none⟩ by cases j <;> simp [Addr.add]]
  have h0 := h.2 0 (by omega)
  have h1 := h.2 1 (by omega)
  have h2 := h.2 2 (by omega)
  match j, hj with
  | 0, hj => simp [six] at hj; subst hj; exact h0.1
  | 1, hj => simp [six] at hj; subst hj; exact h0.2
  | 2, hj => simp [six] at hj; subst hj; exact h1.1
  | 3, hj => simp [six] at hj; subst hj; exact h1.2
  | 4, hj => simp [six] at hj; subst hj; exact h2.1
  | 5, hj => simp [six] at hj; subst hj; exact h2.2
theorem six_one (p q : Nat → UInt8) : ∀ u ∈ six p q, u.oneCell' = true := by
  intro u hu
  simp [six] at hu
  rcases hu with rfl | rfl | rfl | rfl | rfl | rfl <;> rfl

set_option maxRecDepth 100000 in
set_option maxHeartbeats 1000000 in
theorem new_any (g0 c0 : Nat) (p q : Nat → UInt8) (w : World) (hp : Pairs w g0 p q) :
    Calls Tryz.prog 124 #[.slice (some ⟨g0, 0, none⟩) 6 c0] w fun e w' => ∃ b g c, e = .returned (.pointer (some ⟨b, 0, none⟩)) ∧
      Blk w' b 171 #[.int .u32 0, .int .i32 0, .int .u32 0, .nilIface, .slice (some ⟨g, 0, none⟩) 6 c] ∧ Pairs w' g p q ∧ g ≠ b ∧ w.heap.size ≤ b ∧ Below w.heap.size w w' := by
  obtain ⟨i0, hi, hz0, hz1, hz2⟩ := info_parts info9
  have hp6 := Lib.hid (six_of_pairs hp)
  clear hp
  go_enter Tryz.func124, Tryz.ntmps124
  go_wp2_with (first
    | (at_builtin; refine wpList_append_own _ rfl _ _ 36 rfl w.heap.size 9 i0 (.string ⟨#[]⟩) 1 16 Tryz.underlying36 hi hz0 hz1 hz2 rfl (by decide) _ _ _ rfl (World.ownsRow_nil _ _ _ _) ⟨g0, 0, none⟩ 6 c0 (six p q) rfl rfl hp6.out (six_one p q) ?c3 ?c4 ?c5 ?_))
  case c3 => unfold maxLen; omega
  case c4 => omega
  case c5 => omega
  · intro v' w1 hown hgrow _
    obtain ⟨g, c, hv, _, _⟩ := hown.form (by omega)
    subst hv
    have hlt := hown.lt g rfl
    have hb1 := (Below.refl w.heap.size w).grown hgrow (Nat.le_refl _) (fun k hk => by simp [Value.ownBlock] at hk)
    have hP := pairs_of_six hlt.2 (fun j u hj => by
      have h1 : j < 6 := by have := (List.getElem?_eq_some_iff.1 hj).1; simpa [six] using this
      exact (hown.cellAt j (by omega)).trans hj)
    have HP := Lib.hid hP
    have Hb := Lib.hid hb1
    clear hown hgrow hP hb1
    go_wp2
    go_ret
    have hs := Hb.out.size
    exact ⟨_, g, c, rfl, Blk.new w1 171 _, HP.out.later (below_alloc0 _), by omega, hs, Hb.out.alloc hs _⟩

set_option maxRecDepth 100000 in
set_option maxHeartbeats 1000000 in
theorem replace_any (b g c : Nat) (p q : Nat → UInt8) (x2 x3 : Value) (s : ByteArray) (w : World) (hs : s.size ≤ 9223372036854775806) (hB : Blk w b 171 #[.int .u32 0, .int .i32 0, x2, x3, .slice (some ⟨g, 0, none⟩) 6 c]) (hp : Pairs w g p q) (hg : g ≠ b) :
    Calls Tryz.prog 125 #[.pointer (some ⟨b, 0, none⟩), .string s] w fun e w' => e = .returned (.string (mapB (rp p q 3) s)) ∧ Below b w w' := by
  have HC := Lib.hid (do_first b g c p q x2 x3 w hB hp hg)
  have hmf : ∀ (fn : Fn) (first cap : Array Value) (w : World), (Instr.makeFunc fn first cap).run Tryz.prog w = .ok (.func fn first cap) w := fun _ _ _ _ => rfl
  have hme : ∀ (r : Nat) (w : World), (method 395 214 (.pointer (some ⟨r, 0, none⟩)) "Replace").run Tryz.prog w = .ok (258, .pointer (some ⟨r, 0, none⟩)) w := fun _ _ => by kernel_rfl
  have hlt := hB.lt
  clear hB hp
  go_enter Tryz.func125, Tryz.ntmps125
  go_wp2_with (first | (go_at_call 141; refine HC.out.mono ?_; rintro e w1 ⟨rfl, r, hT, hB1, hb1⟩; obtain ⟨k0, k1, k2, k3, k4⟩ := blk5 hB1) | (go_at_call 258; refine (replace_bytes r _ s _ hT hs).mono ?_; rintro e w2 ⟨rfl, hb2⟩))
  have hbb : Below b w w2 := hb1.trans (hb2.mono (by have := hB1.lt; omega))
  go_ret
  exact ⟨rfl, hbb⟩

set_option maxRecDepth 100000 in
set_option maxHeartbeats 1000000 in
theorem short_no (m : Int) (s : ByteArray) (v : Value) (w : World) (hm : m ≠ 1) : Calls Tryz.prog 100 #[.int .i64 m, .string s, v] w fun e w' => e = .returned (.string s) ∧ w = w' := by
  have h0 : (m != 1) = true := by simpa using hm
  clear hm
  go_enter Tryz.func100, Tryz.ntmps100
  go_wp2
  go_ret
  exact ⟨rfl, rfl⟩
set_option maxRecDepth 100000 in
set_option maxHeartbeats 1000000 in
theorem short_ok (s : ByteArray) (g0 c0 : Nat) (p q : Nat → UInt8) (w : World) (hs : s.size ≤ 9223372036854775806) (hp : Pairs w g0 p q) :
    Calls Tryz.prog 100 #[.int .i64 1, .string s, .slice (some ⟨g0, 0, none⟩) 6 c0] w fun e w' => e = .returned (.string (mapB (rp p q 3) s)) ∧ Below w.heap.size w w' := by
  have HC := Lib.hid (new_any g0 c0 p q w hp)
  clear hp
  go_enter Tryz.func100, Tryz.ntmps100
  go_wp2_with (first | (go_at_call 124; refine HC.out.mono ?_; rintro e w1 ⟨b, g, c, rfl, hB, hP, hg, hb, hb1⟩) | (go_at_call 125; refine (replace_any b g c p q _ _ s _ hs hB hP hg).mono ?_; rintro e w2 ⟨rfl, hb2⟩))
  have hbb : Below w.heap.size w w2 := hb1.trans (hb2.mono hb)
  go_ret
  exact ⟨rfl, hbb⟩

def pD : Nat → UInt8 | 0 => 48 | 1 => 49 | _ => 57
def qD : Nat → UInt8 | 0 => 84 | 1 => 65 | _ => 78
/-- A number in digits. -/
def itoaB (n : Int) : ByteArray := ⟨(Lib.itoa n).toArray⟩
/-- A number as it is sent in a mode. -/
def sentNum (m n : Int) : ByteArray := if m = 1 then mapB (rp pD qD 3) (itoaB n) else itoaB n
def digErr (m n : Int) : Int := if ¬ (m = 1 ∨ m = 2 ∨ m = 3) then 40 else if n < 0 ∨ 99999 < n then 1 else 0

/-- The table of powers of ten in memory. -/
def Pow (w : World) : Prop := Lib.TabIs Tryz.prog w "internal/strconv.uint64pow10" .u64 Lib.pow10Tab
theorem Pow.later {w w' : World} (h : Pow w) (hb : Below w.heap.size w w') : Pow w' := by
  unfold Pow Lib.TabIs World.var? at h ⊢
  obtain ⟨g, hg, h1⟩ := Option.bind_eq_some_iff.1 h
  rw [hg, Option.bind_some]
  have hlt : g < w.heap.size := by
    rcases Nat.lt_or_ge g w.heap.size with h2 | h2
    · exact h2
    · rw [Array.getElem?_eq_none h2] at h1; exact absurd h1 (by simp)
  rw [hb.block g hlt]
  exact h1
theorem below_grow {B : Nat} {a w : World} (h : Below B a w) (hB : B ≤ w.heap.size) (k : Nat) (os : Array Obj) : Below B a (Go.Sort.grow (w.drewN k) os) :=
  ⟨h.os, h.tape, h.output, by have := h.size; simp [Go.Sort.grow]; omega, fun g hg => by
    rw [← h.block g hg]
    show (w.heap ++ os)[g]? = _
    rw [Array.getElem?_append_left (by omega)]⟩
theorem pairsD (w : World) : Pairs (w.alloc (.cells #[.string ⟨#[48]⟩, .string ⟨#[84]⟩, .string ⟨#[49]⟩, .string ⟨#[65]⟩, .string ⟨#[57]⟩, .string ⟨#[78]⟩] 9)) w.heap.size pD qD := by
  have hB := Blk.new w 9 #[.string ⟨#[48]⟩, .string ⟨#[84]⟩, .string ⟨#[49]⟩, .string ⟨#[65]⟩, .string ⟨#[57]⟩, .string ⟨#[78]⟩]
  exact ⟨hB.lt, fun k hk => by
    match k, hk with
    | 0, _ => exact ⟨hB.cell 0, hB.cell 1⟩
    | 1, _ => exact ⟨hB.cell 2, hB.cell 3⟩
    | 2, _ => exact ⟨hB.cell 4, hB.cell 5⟩⟩
theorem itoaB_size (n : Int) (h0 : 0 ≤ n) (h1 : n ≤ 99999) : (itoaB n).size ≤ 21 := by
  have := Lib.itoa_length_le n (by omega) (by omega)
  show (Lib.itoa n).toArray.size ≤ 21
  simpa using this

set_option maxRecDepth 100000 in
set_option maxHeartbeats 1000000 in
theorem Digits_no (m n : Int) (w : World) (he : digErr m n ≠ 0) : Calls Tryz.prog 58 #[.int .i64 m, .int .i64 n] w fun e w' => e = .returned (.tuple #[.string ⟨#[]⟩, .int .i64 (digErr m n)]) ∧ Below w.heap.size w w' := by
  by_cases hm : m = 1 ∨ m = 2 ∨ m = 3
  · have hn : n < 0 ∨ 99999 < n := by
      by_cases h : n < 0 ∨ 99999 < n
      · exact h
      · unfold digErr at he; rw [if_neg (fun h => h hm), if_neg h] at he; exact absurd rfl he
    have e1 : digErr m n = 1 := by unfold digErr; rw [if_neg (fun h => h hm), if_pos hn]
    rw [e1]
    clear he e1
    by_cases h1 : n < 0
    · have d1 : decide (n < 0) = true := by simpa using h1
      clear hn h1
      go_enter Tryz.func58, Tryz.ntmps58
      go_wp2_with (first | (go_at_call 87; refine (waysT m _ hm).mono ?_; rintro e w1 ⟨T, x, rfl, hC, hb1⟩))
      go_ret2
      exact ⟨rfl, hb1⟩
    · have d1 : decide (n < 0) = false := by simpa using h1
      have d2 : decide (99999 < n) = true := by simp; omega
      clear hn h1
      go_enter Tryz.func58, Tryz.ntmps58
      go_wp2_with (first | (go_at_call 87; refine (waysT m _ hm).mono ?_; rintro e w1 ⟨T, x, rfl, hC, hb1⟩))
      go_ret2
      exact ⟨rfl, hb1⟩
  · have e1 : digErr m n = 40 := by unfold digErr; rw [if_pos hm]
    rw [e1]
    clear he e1
    go_enter Tryz.func58, Tryz.ntmps58
    go_wp2_with (first | (go_at_call 87; refine (waysOf_no m _ hm).mono ?_; rintro e w' ⟨rfl, rfl⟩))
    go_ret2
    exact ⟨rfl, Below.refl _ _⟩

set_option maxRecDepth 100000 in
set_option maxHeartbeats 1000000 in
theorem Digits_ok (m n : Int) (w : World) (hP : Pow w) (he : digErr m n = 0) : Calls Tryz.prog 58 #[.int .i64 m, .int .i64 n] w fun e w' => e = .returned (.tuple #[.string (sentNum m n), .int .i64 0]) ∧ Below w.heap.size w w' := by
  have hm : m = 1 ∨ m = 2 ∨ m = 3 := by
    by_cases h : m = 1 ∨ m = 2 ∨ m = 3
    · exact h
    · unfold digErr at he; rw [if_pos h] at he; omega
  have hn : 0 ≤ n ∧ n ≤ 99999 := by
    unfold digErr at he; rw [if_neg (fun h => h hm)] at he
    split at he
    · omega
    · omega
  have d1 : decide (n < 0) = false := by simp; omega
  have d2 : decide (99999 < n) = false := by simp; omega
  have hz := itoaB_size n hn.1 hn.2
  have HI := Lib.hid (fun (W : World) (hb : Below w.heap.size w W) => Tryz.strconv_Itoa n (by omega) (by omega) W (hP.later hb))
  rw [show (⟨(Lib.itoa n).toArray⟩ : ByteArray) = itoaB n from rfl] at HI
  unfold sentNum
  obtain ⟨s, hs⟩ : ∃ s, s = itoaB n := ⟨_, rfl⟩
  rw [← hs] at HI hz ⊢
  clear hs he hn hP
  by_cases h1 : m = 1
  · subst h1
    rw [if_pos rfl]
    go_enter Tryz.func58, Tryz.ntmps58
    go_wp2_with (first
      | (go_at_call 87; refine (waysT 1 _ hm).mono ?_; rintro e w1 ⟨T, x, rfl, hC, hb1⟩)
      | (go_at_call 101; refine (HI.out _ hb1).mono ?_; rintro e w2 ⟨rfl, k, os, hw2⟩; have hb2 : Below w.heap.size w w2 := hw2 ▸ below_grow hb1 hb1.size k os; clear hw2)
      | (go_at_call 100; refine (short_ok s _ _ pD qD _ (by omega) (pairsD _)).mono ?_; rintro e w3 ⟨rfl, hb3⟩))
    go_ret2
    exact ⟨rfl, (hb2.alloc hb2.size _).trans (hb3.mono (by have := hb2.size; simp; omega))⟩
  · rw [if_neg h1]
    go_enter Tryz.func58, Tryz.ntmps58
    go_wp2_with (first
      | (go_at_call 87; refine (waysT m _ hm).mono ?_; rintro e w1 ⟨T, x, rfl, hC, hb1⟩)
      | (go_at_call 101; refine (HI.out _ hb1).mono ?_; rintro e w2 ⟨rfl, k, os, hw2⟩; have hb2 : Below w.heap.size w w2 := hw2 ▸ below_grow hb1 hb1.size k os; clear hw2)
      | (go_at_call 100; refine (short_no m s _ _ h1).mono ?_; rintro e w3 ⟨rfl, rfl⟩))
    go_ret2
    exact ⟨rfl, hb2.alloc hb2.size _⟩
end Go.Proofs.YtgcddjgkieambaaGreatDoor
