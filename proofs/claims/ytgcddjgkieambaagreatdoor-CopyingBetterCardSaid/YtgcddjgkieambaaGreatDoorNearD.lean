/- 'Nearest' at all texts. -/
import Derived.Test.YtgcddjgkieambaaGreatDoorNearC
set_option linter.unusedVariables false
set_option linter.unusedSimpArgs false
namespace Go.Proofs.YtgcddjgkieambaaGreatDoor
open Go.RowKit Go.Maps

/-- The error of taking texts apart. -/
def idxE (LL : List ByteArray) : Int := if LL.any (fun s => decide (64 < s.size)) = true then 2 else if LL.all okText = true then 0 else 41
theorem idxE_cases (LL : List ByteArray) : idxE LL = 0 ∨ idxE LL = 2 ∨ idxE LL = 41 := by unfold idxE; split; exact .inr (.inl rfl); split; exact .inl rfl; exact .inr (.inr rfl)
theorem nrE_idx {m : Int} (hm : isMode m) (h : ByteArray) (L : List ByteArray) : nrE m h L = if idxE (h :: L) = 2 ∨ 400 < L.length then 2 else idxE (h :: L) := by
  unfold nrE
  rw [if_neg (fun e => e hm)]
  by_cases h4 : 400 < L.length
  · rw [if_pos (.inr (.inl h4)), if_pos (.inr h4)]
  · by_cases ha : (h :: L).any (fun s => decide (64 < s.size)) = true
    · have e2 : idxE (h :: L) = 2 := if_pos ha
      have hL : 64 < h.size ∨ 400 < L.length ∨ L.any (fun s => decide (64 < s.size)) = true := by
        rw [List.any_cons, Bool.or_eq_true] at ha
        rcases ha with ha | ha
        · exact .inl (of_decide_eq_true ha)
        · exact .inr (.inr ha)
      rw [if_pos hL, if_pos (Or.inl e2)]
    · have e2 : idxE (h :: L) = if (h :: L).all okText = true then 0 else 41 := if_neg ha
      rw [List.any_cons, Bool.or_eq_true] at ha
      have hno : ¬ (64 < h.size ∨ 400 < L.length ∨ L.any (fun s => decide (64 < s.size)) = true) := by
        rintro (e | e | e)
        · exact ha (.inl (by simpa using e))
        · exact h4 e
        · exact ha (.inr e)
      rw [if_neg hno, e2]
      have e3 : (h :: L).all okText = true ↔ okText h = true ∧ L.all okText = true := by rw [List.all_cons, Bool.and_eq_true]
      by_cases hc : okText h = true ∧ L.all okText = true
      · rw [if_pos hc, if_pos (e3.2 hc), if_neg (by rintro (e | e); exact absurd e (by decide); exact h4 e)]
      · rw [if_neg hc, if_neg (fun e => hc (e3.1 e)), if_neg (by rintro (e | e); exact absurd e (by decide); exact h4 e)]
theorem getD_mem {LL : List ByteArray} {j : Nat} (hj : j < LL.length) : LL.getD j ByteArray.empty ∈ LL := by rw [getD_get _ _ hj]; exact List.getElem_mem _
theorem indices_all (b c : Nat) (LL : List ByteArray) (w : World) (hL : LL.length ≤ 1001) (h : Strs w b LL) :
    Calls Tryz.prog 96 #[.slice (some ⟨b, 0, none⟩) LL.length c] w fun e w' => (∃ v, e = .returned (.tuple #[v, .int .i64 (idxE LL)]) ∧ (idxE LL = 0 → v = .slice (some ⟨w.heap.size, 0, none⟩) LL.length LL.length)) ∧ Below w.heap.size w w' := by
  by_cases ha : LL.any (fun s => decide (64 < s.size)) = true
  · have e2 : idxE LL = 2 := if_pos ha
    obtain ⟨s, hs, hl⟩ := List.any_eq_true.1 ha
    exact (indices_long b c LL w (by omega) h ⟨s, hs, of_decide_eq_true hl⟩).mono fun e w' hh => ⟨⟨_, by rw [e2]; exact hh.1, fun e => absurd (e2 ▸ e) (by decide)⟩, hh.2 ▸ Below.refl _ _⟩
  · have e2 : idxE LL = if LL.all okText = true then 0 else 41 := if_neg ha
    have hsh : ∀ j, j < LL.length → (LL.getD j ByteArray.empty).size ≤ 64 := fun j hj => by
      rcases Nat.lt_or_ge 64 (LL.getD j ByteArray.empty).size with h1 | h1
      · exact absurd (List.any_eq_true.2 ⟨_, getD_mem hj, by simpa using h1⟩) ha
      · exact h1
    refine (indices_short b c LL w (by omega) h hsh).mono fun e w' ⟨ho, hb⟩ => ⟨?_, hb⟩
    rcases ho with ⟨hall, he, _⟩ | ⟨⟨j, hj, hn⟩, he⟩
    · have e3 : idxE LL = 0 := by
        rw [e2, if_pos]
        rw [List.all_eq_true]
        intro s hs
        obtain ⟨j, hj, rfl⟩ := List.getElem_of_mem hs
        have := hall j hj
        rw [getD_get _ _ hj] at this
        exact (okText_iff _).2 this
      exact ⟨_, by rw [e3]; exact he, fun _ => rfl⟩
    · have e3 : idxE LL = 41 := by
        rw [e2, if_neg]
        intro hall
        rw [List.all_eq_true] at hall
        exact hn ((okText_iff _).1 (hall _ (getD_mem hj)))
      exact ⟨_, by rw [e3]; exact he, fun e => absurd (e3 ▸ e) (by decide)⟩

/-- What both programs return. -/
def NearOut (m : Int) (h : ByteArray) (L : List ByteArray) (most : Int) (w : World) (e : Ending) (w' : World) : Prop :=
  ((nrE m h L = 0 ∧ ∃ A' c' r, e = .returned (.tuple #[.slice A' r.length c', .int .i64 0]) ∧ Nums w' A' r ∧ Near (nkey m h L) most L.length r) ∨ (nrE m h L ≠ 0 ∧ e = .returned (.tuple #[.slice none 0 0, .int .i64 (nrE m h L)]))) ∧ Below w.heap.size w w'
theorem Nearest_any (m : Int) (h : ByteArray) (L : List ByteArray) (most : Int) (A : Option Addr) (c : Nat) (w : World) (hS : StrsP w A L) (hn : L.length ≤ 40 ∨ (400 < L.length ∧ L.length ≤ 1000)) :
    Calls Tryz.prog 56 #[.int .i64 m, .string h, .slice A L.length c, .int .i64 most] w (NearOut m h L most w) := by
  by_cases hm : isMode m
  · have hE := nrE_idx hm h L
    cases L with
    | nil =>
      have hE0 : nrE m h [] = idxE [h] := by
        rw [hE]
        rcases idxE_cases [h] with e | e | e <;> rw [e] <;> decide
      refine (Nearest_nil m h most A c w hm (idxE [h]) (idxE_cases _) (fun b c W hst => (indices_all b c [h] W (by simp) hst).mono fun e w' ⟨⟨v, h1, h2⟩, h3⟩ => ⟨⟨W.heap.size, v, h1, h2⟩, h3⟩)).mono fun e w' ⟨he, hb⟩ => ⟨?_, hb⟩
      by_cases h0 : idxE [h] = 0
      · rw [h0] at he
        exact .inl ⟨hE0.trans h0, none, 0, [], he, fun j hj => by simp at hj, Near.zero _ _⟩
      · exact .inr ⟨by rw [hE0]; exact h0, by rw [hE0]; exact he⟩
    | cons s0 l0 =>
      obtain ⟨a, rfl⟩ : ∃ a, A = some a := by
        obtain ⟨a, e, _⟩ := hS 0 (by simp)
        exact ⟨a, e⟩
      by_cases h0 : nrE m h (s0 :: l0) = 0
      · have hc : ¬ (idxE (h :: s0 :: l0) = 2 ∨ 400 < (s0 :: l0).length) := fun e => by rw [hE, if_pos e] at h0; exact absurd h0 (by decide)
        have hi : idxE (h :: s0 :: l0) = 0 := by rw [hE, if_neg hc] at h0; exact h0
        have hno : ¬ (h :: s0 :: l0).any (fun s => decide (64 < s.size)) = true := fun e => hc (.inl (if_pos e))
        have hall : (h :: s0 :: l0).all okText = true := by
          have : idxE (h :: s0 :: l0) = if (h :: s0 :: l0).all okText = true then 0 else 41 := if_neg hno
          rw [hi] at this
          by_cases e : (h :: s0 :: l0).all okText = true
          · exact e
          · rw [if_neg e] at this; exact absurd this (by decide)
        have hone : ∀ s ∈ h :: s0 :: l0, s.size ≤ 64 ∧ allChars s := fun s hs => ⟨by
          rcases Nat.lt_or_ge 64 s.size with h1 | h1
          · exact absurd (List.any_eq_true.2 ⟨s, hs, by simpa using h1⟩) hno
          · exact h1, (okText_iff s).1 (List.all_eq_true.1 hall s hs)⟩
        refine (Nearest_go m h (s0 :: l0) most (some a) c w hm (by simp) hS (by omega) (hone h List.mem_cons_self) (fun j hj => hone _ (List.mem_cons_of_mem _ (getD_mem hj)))).mono fun e w' ⟨⟨A', c', r, h1, h2, h3⟩, hb⟩ => ⟨.inl ⟨h0, A', c', r, h1, h2, h3⟩, hb⟩
      · refine (Nearest_err m h (s0 :: l0) most a c w hm hS (by omega) (idxE (h :: s0 :: l0)) (nrE m h (s0 :: l0)) hE h0 (fun b c W hst => (indices_all b c (h :: s0 :: l0) W (by simp at hn ⊢; omega) hst).mono fun e w' ⟨⟨v, h1, _⟩, h3⟩ => ⟨⟨v, h1⟩, h3⟩)).mono fun e w' ⟨he, hb⟩ => ⟨.inr ⟨h0, he⟩, hb⟩
  · have hE : nrE m h L = 40 := if_pos hm
    refine (Nearest_mode m h most _ w hm).mono fun e w' ⟨he, hb⟩ => ⟨.inr ⟨by rw [hE]; decide, by rw [hE]; exact he⟩, hb⟩
end Go.Proofs.YtgcddjgkieambaaGreatDoor
