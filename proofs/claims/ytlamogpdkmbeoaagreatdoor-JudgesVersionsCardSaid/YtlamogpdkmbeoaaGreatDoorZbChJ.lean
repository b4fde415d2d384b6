/- The texts ChainJ, SetP in one. -/
import Derived.Test.YtlamogpdkmbeoaaGreatDoorZbEnt
import Derived.Test.YtlamogpdkmbeoaaGreatDoorZbReg
set_option linter.unusedVariables false
set_option linter.unusedSimpArgs false
section PartChainJ
/- The publications of a register are a row: plain facts. -/
set_option maxRecDepth 100000
namespace Go.Proofs.YtlamogpdkmbeoaaGreatDoor
open Go.RowKit Go.Lib Go.Shelf Go.Maps

def hashAt (ps : List Note) : Nat → Int
  | 0 => 0
  | i + 1 => (ps.getD i Note0).nt.hash
structure ChainJ (ps : List Note) (z : Int) : Prop where
  prev : ∀ i (h : i < ps.length), ps[i].nt.prev = hashAt ps i
  last : z = hashAt ps ps.length
theorem hashAt_snoc {ps : List Note} {x : Note} {i : Nat} (h : i ≤ ps.length) : hashAt (ps ++ [x]) i = hashAt ps i := by
  cases i with
  | zero => rfl
  | succ i =>
    show ((ps ++ [x]).getD i Note0).nt.hash = (ps.getD i Note0).nt.hash
    rw [List.getD_eq_getElem?_getD, List.getD_eq_getElem?_getD, List.getElem?_append_left (by omega)]
theorem hashAt_succ {ps : List Note} {i : Nat} (h : i < ps.length) : hashAt ps (i + 1) = ps[i].nt.hash := by
  show (ps.getD i Note0).nt.hash = _
  rw [List.getD_eq_getElem?_getD, List.getElem?_eq_getElem h]
  rfl
theorem ChainJ.snoc {ps : List Note} {z : Int} (h : ChainJ ps z) {x : Note} (hx : x.nt.prev = z) : ChainJ (ps ++ [x]) x.nt.hash := by
  refine ⟨fun i hi => ?_, ?_⟩
  · rw [List.length_append, List.length_singleton] at hi
    by_cases e : i = ps.length
    · subst e
      rw [hashAt_snoc (Nat.le_refl _), ← h.last, ← hx]
      simp
    · rw [hashAt_snoc (by omega), List.getElem_append_left (by omega)]
      exact h.prev i (by omega)
  · rw [List.length_append, List.length_singleton, hashAt_succ (by simp)]
    simp
def ltName (a b : Note) : Prop := a.nt.judge < b.nt.judge ∨ (a.nt.judge = b.nt.judge ∧ a.nt.num < b.nt.num)
theorem ltName_of {a b : Note} (h0 : cmpN a b ≠ 0) (h1 : cmpN a b ≠ 1) : ltName a b := by
  unfold cmpN cmpName orI Lib.compareInt at h0 h1
  unfold ltName
  by_cases e1 : a.nt.judge < b.nt.judge
  · exact .inl e1
  · by_cases e2 : a.nt.judge = b.nt.judge
    · right
      refine ⟨e2, ?_⟩
      by_cases e3 : a.nt.num < b.nt.num
      · exact e3
      · by_cases e4 : a.nt.num = b.nt.num
        · simp [e2, e4] at h0
        · have : b.nt.num < a.nt.num := by omega
          simp [e2, e3, this] at h0 h1
    · have : b.nt.judge < a.nt.judge := by omega
      simp [e1, this] at h0 h1
theorem setB_lt {o : Lay} {xs : List Note} (h : setB o xs = true) : ∀ j (hj : j < xs.length) i (hi : i < j), ltName xs[i] xs[j] := by
  have hstep : ∀ k (hk : k + 1 < xs.length), ltName xs[k] xs[k + 1] := fun k hk => by
    unfold setB at h
    simp only [Bool.and_eq_true] at h
    have := List.all_eq_true.1 h.2 (k + 1) (List.mem_range.2 hk)
    unfold setAt at this
    simp only [Bool.and_eq_true] at this
    have h2 := this.2
    rw [Nat.add_sub_cancel, List.getD_eq_getElem?_getD, List.getD_eq_getElem?_getD, List.getElem?_eq_getElem (by omega), List.getElem?_eq_getElem hk] at h2
    simp at h2
    exact ltName_of h2.1 h2.2
  intro j
  induction j with
  | zero => intro hj i hi; omega
  | succ j ih =>
    intro hj i hi
    by_cases e : i = j
    · subst e; exact hstep i hj
    · have h1 := ih (by omega) i (by omega)
      have h2 := hstep j hj
      unfold ltName at *
      omega
end Go.Proofs.YtlamogpdkmbeoaaGreatDoor
end PartChainJ

section PartSetP
/- Plain facts on sets of notes. -/
set_option maxRecDepth 100000
namespace Go.Proofs.YtlamogpdkmbeoaaGreatDoor
open Go.RowKit Go.Lib Go.Shelf Go.Maps

theorem inj_of_nodup {α β : Type} {f : α → β} {l : List α} (hn : (l.map f).Nodup) {y z : α} (hy : y ∈ l) (hz : z ∈ l) (e : f y = f z) : y = z := by
  obtain ⟨i, hi, rfl⟩ := List.getElem_of_mem hy
  obtain ⟨j, hj, rfl⟩ := List.getElem_of_mem hz
  have : i = j := by
    have h := List.nodup_iff_pairwise_ne.1 hn
    rcases Nat.lt_trichotomy i j with h1 | h1 | h1
    · exact absurd (by rw [List.getElem_map, List.getElem_map]; exact e) (List.pairwise_iff_getElem.1 h i j (by rw [List.length_map]; exact hi) (by rw [List.length_map]; exact hj) h1)
    · exact h1
    · exact absurd (by rw [List.getElem_map, List.getElem_map]; exact e.symm) (List.pairwise_iff_getElem.1 h j i (by rw [List.length_map]; exact hj) (by rw [List.length_map]; exact hi) h1)
  subst this
  rfl
theorem take_succ_eq' {xs ys : List Int} {k : Nat} (h1 : k < xs.length) (h2 : k < ys.length) (ht : xs.take k = ys.take k) (h : xs[k] = ys[k]) : xs.take (k + 1) = ys.take (k + 1) := by
  rw [List.take_succ_eq_append_getElem h1, List.take_succ_eq_append_getElem h2, ht, h]
theorem setB_of {o : Lay} {xs : List Note} (h1 : xs.length ≤ 2000) (h2 : ∀ x ∈ xs, x.good o = true) (h3 : xs.Pairwise ltName) : setB o xs = true := by
  unfold setB
  rw [Bool.and_eq_true]
  refine ⟨by simpa using h1, List.all_eq_true.2 fun i hi => ?_⟩
  have hi := List.mem_range.1 hi
  unfold setAt
  rw [Bool.and_eq_true]
  refine ⟨by rw [List.getD_eq_getElem?_getD, List.getElem?_eq_getElem hi]; exact h2 _ (List.getElem_mem hi), ?_⟩
  cases i with
  | zero => simp
  | succ i =>
    have := List.pairwise_iff_getElem.1 h3 i (i + 1) (by omega) hi (by omega)
    rw [Nat.add_sub_cancel, List.getD_eq_getElem?_getD, List.getD_eq_getElem?_getD, List.getElem?_eq_getElem (by omega), List.getElem?_eq_getElem hi]
    have hc : cmpN xs[i] xs[i + 1] = -1 := by
      unfold cmpN cmpName orI compareInt
      unfold ltName at this
      rcases this with h | ⟨h, h'⟩
      · simp [h]
      · simp [h, h']
    simp [hc]
theorem setB_pair {o : Lay} {xs : List Note} (h : setB o xs = true) : xs.Pairwise ltName := List.pairwise_iff_getElem.2 fun i j hi hj hij => setB_lt h j hj i hij
theorem setB_filter {o : Lay} {xs : List Note} (h : setB o xs = true) (p : Note → Bool) : setB o (xs.filter p) = true :=
  setB_of (Nat.le_trans (List.length_filter_le _ _) (setB_len h)) (fun x hx => setB_good h x (List.mem_filter.1 hx).1) ((setB_pair h).sublist List.filter_sublist)
theorem setB_nodup {o : Lay} {xs : List Note} (h : setB o xs = true) : (xs.map nm).Nodup := by
  rw [List.nodup_iff_pairwise_ne, List.pairwise_map]
  refine (setB_pair h).imp fun {a b} hab e => ?_
  have e1 : a.nt.judge = b.nt.judge := congrArg Prod.fst e
  have e2 : a.nt.num = b.nt.num := congrArg Prod.snd e
  unfold ltName at hab
  omega
theorem nodup_len {α : Type} [DecidableEq α] : ∀ {a b : List α}, a.Nodup → (∀ x ∈ a, x ∈ b) → a.length ≤ b.length
  | [], _, _, _ => Nat.zero_le _
  | x :: a, b, hn, hs => by
    rw [List.nodup_cons] at hn
    have hx := hs x List.mem_cons_self
    have h1 := nodup_len (a := a) (b := b.erase x) hn.2 (fun y hy => (List.mem_erase_of_ne (fun e => hn.1 (by rw [← e]; exact hy))).2 (hs y (List.mem_cons_of_mem _ hy)))
    have h2 := List.length_erase_of_mem hx
    have h3 := List.length_pos_of_mem hx
    simp only [List.length_cons]
    omega
theorem putM_keyIff {κ ν : Type} [DecidableEq κ] (m : List (κ × ν)) (x : κ) (y : ν) (k : κ) : k ∈ (putM m x y).map (·.1) ↔ k ∈ m.map (·.1) ∨ k = x := by
  induction m with
  | nil => simp [putM]
  | cons p m ih =>
    unfold putM
    by_cases e : p.1 = x
    · rw [if_pos e]
      simp only [List.map_cons, List.mem_cons, e]
      constructor
      · rintro (h | h)
        · exact .inr h
        · exact .inl (.inr h)
      · rintro ((h | h) | h)
        · exact .inl h
        · exact .inr h
        · exact .inl h
    · rw [if_neg e]
      simp only [List.map_cons, List.mem_cons, ih]
      constructor
      · rintro (h | h | h)
        · exact .inl (.inl h)
        · exact .inl (.inr h)
        · exact .inr h
      · rintro ((h | h) | h)
        · exact .inl h
        · exact .inr (.inl h)
        · exact .inr (.inr h)
theorem putM_nodup {κ ν : Type} [DecidableEq κ] {m : List (κ × ν)} (x : κ) (y : ν) (h : (m.map (·.1)).Nodup) : ((putM m x y).map (·.1)).Nodup := by
  induction m with
  | nil => simp [putM]
  | cons p m ih =>
    rw [List.map_cons, List.nodup_cons] at h
    unfold putM
    by_cases e : p.1 = x
    · rw [if_pos e, List.map_cons, List.nodup_cons]
      exact ⟨e ▸ h.1, h.2⟩
    · rw [if_neg e, List.map_cons, List.nodup_cons]
      refine ⟨fun hk => ?_, ih h.2⟩
      rcases (putM_keyIff m x y p.1).1 hk with hk | hk
      · exact h.1 hk
      · exact e hk
end Go.Proofs.YtlamogpdkmbeoaaGreatDoor
end PartSetP
