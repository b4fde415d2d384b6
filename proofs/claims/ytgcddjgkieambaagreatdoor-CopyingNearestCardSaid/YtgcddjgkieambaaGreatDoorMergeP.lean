/- Plain facts on the library's stable merge: rotations of a row, and what a merge by them makes. No program in sight. -/
set_option linter.unusedVariables false
set_option linter.unusedSimpArgs false
namespace Go.Proofs.YtgcddjgkieambaaGreatDoor.St

/-- A segment of a row. -/
def seg (d : Nat → Int) (a b : Nat) : List Int := (List.range (b - a)).map fun j => d (a + j)
theorem seg_length (d : Nat → Int) (a b : Nat) : (seg d a b).length = b - a := by simp [seg]
theorem seg_get (d : Nat → Int) (a b j : Nat) (h : j < (seg d a b).length) : (seg d a b)[j] = d (a + j) := by simp [seg]
theorem mem_seg {d : Nat → Int} {a b : Nat} {v : Int} : v ∈ seg d a b ↔ ∃ x, a ≤ x ∧ x < b ∧ d x = v := by
  simp only [seg, List.mem_map, List.mem_range]
  constructor
  · rintro ⟨j, hj, rfl⟩; exact ⟨a + j, by omega, by omega, rfl⟩
  · rintro ⟨x, h1, h2, rfl⟩; exact ⟨x - a, by omega, by congr 1; omega⟩
theorem seg_congr {d d' : Nat → Int} {a b : Nat} (h : ∀ x, a ≤ x → x < b → d x = d' x) : seg d a b = seg d' a b := by
  apply List.map_congr_left
  intro j hj
  rw [List.mem_range] at hj
  exact h _ (by omega) (by omega)
theorem seg_shift {d d' : Nat → Int} {a b a' b' : Nat} (hl : b - a = b' - a') (h : ∀ j, j < b - a → d (a + j) = d' (a' + j)) : seg d a b = seg d' a' b' := by
  unfold seg
  rw [hl]
  apply List.map_congr_left
  intro j hj
  rw [List.mem_range] at hj
  exact h _ (by omega)
theorem seg_append (d : Nat → Int) {a m b : Nat} (h1 : a ≤ m) (h2 : m ≤ b) : seg d a b = seg d a m ++ seg d m b := by
  unfold seg
  rw [show b - a = (m - a) + (b - m) by omega, List.range_add, List.map_append, List.map_map]
  congr 1
  apply List.map_congr_left
  intro j _
  show d (a + (m - a + j)) = d (m + j)
  congr 1; omega
theorem seg_nil (d : Nat → Int) {a b : Nat} (h : b ≤ a) : seg d a b = [] := by
  unfold seg
  rw [show b - a = 0 by omega]
  rfl

/-- The row in which the segments from a to m and from m to b have changed places. -/
def rotF (d : Nat → Int) (a m b : Nat) : Nat → Int := fun x => if a ≤ x ∧ x < a + (b - m) then d (x + (m - a)) else if a + (b - m) ≤ x ∧ x < b then d (x - (b - m)) else d x
theorem rotF_out {d : Nat → Int} {a m b x : Nat} (h1 : a ≤ m) (h2 : m ≤ b) (h : x < a ∨ b ≤ x) : rotF d a m b x = d x := by
  unfold rotF
  rw [if_neg (by omega), if_neg (by omega)]
theorem rotF_first (d : Nat → Int) {a m b : Nat} (h1 : a ≤ m) (h2 : m ≤ b) : seg (rotF d a m b) a (a + (b - m)) = seg d m b := by
  refine seg_shift (by omega) fun j hj => ?_
  unfold rotF
  rw [if_pos (by omega)]
  congr 1; omega
theorem rotF_second (d : Nat → Int) {a m b : Nat} (h1 : a ≤ m) (h2 : m ≤ b) : seg (rotF d a m b) (a + (b - m)) b = seg d a m := by
  refine seg_shift (by omega) fun j hj => ?_
  unfold rotF
  rw [if_neg (by omega), if_pos (by omega)]
  congr 1; omega
theorem rotF_left (d : Nat → Int) (m b : Nat) : rotF d m m b = d := by
  funext x
  unfold rotF
  split
  · congr 1; omega
  · split
    · omega
    · rfl
theorem rotF_right (d : Nat → Int) (a m : Nat) : rotF d a m m = d := by
  funext x
  unfold rotF
  split
  · omega
  · split
    · congr 1; omega
    · rfl

/-- The order in which the nearest come first: by the key, then by the number. -/
def lx (key : Int → Int) (x y : Int) : Prop := key x < key y ∨ (key x = key y ∧ x < y)
theorem lx_trans {key : Int → Int} {x y z : Int} (h1 : lx key x y) (h2 : lx key y z) : lx key x z := by unfold lx at *; omega
theorem lx_asymm {key : Int → Int} {x y : Int} (h1 : lx key x y) (h2 : lx key y x) : False := by unfold lx at *; omega
abbrev Up (key : Int → Int) (l : List Int) : Prop := l.Pairwise (lx key)
theorem up_append {key : Int → Int} {l r : List Int} (hl : Up key l) (hr : Up key r) (h : ∀ x ∈ l, ∀ y ∈ r, lx key x y) : Up key (l ++ r) := List.pairwise_append.2 ⟨hl, hr, h⟩
theorem up_seg {key : Int → Int} {d : Nat → Int} {a b : Nat} (h : Up key (seg d a b)) {x y : Nat} (h1 : a ≤ x) (h2 : x < y) (h3 : y < b) : lx key (d x) (d y) := by
  have := List.pairwise_iff_getElem.1 h (x - a) (y - a) (by rw [seg_length]; omega) (by rw [seg_length]; omega) (by omega)
  rw [seg_get, seg_get, show a + (x - a) = x by omega, show a + (y - a) = y by omega] at this
  exact this
theorem up_sub {key : Int → Int} {d : Nat → Int} {a b a' b' : Nat} (h : Up key (seg d a b)) (h1 : a ≤ a') (h2 : b' ≤ b) : Up key (seg d a' b') := by
  rcases Nat.lt_or_ge a' b' with h3 | h3
  · rw [seg_append d h1 (show a' ≤ b by omega)] at h
    have h' := (List.pairwise_append.1 h).2.1
    rw [seg_append d (show a' ≤ b' by omega) h2] at h'
    exact (List.pairwise_append.1 h').1
  · rw [seg_nil d h3]; exact List.Pairwise.nil

/-- What a merge of the segment from a to b makes of a row. -/
def Merged (key : Int → Int) (d d' : Nat → Int) (a b : Nat) : Prop := (∀ x, x < a ∨ b ≤ x → d' x = d x) ∧ (seg d' a b).Perm (seg d a b) ∧ Up key (seg d' a b)
/-- What is asked ahead of it: both halves are sorted, and numbers of the first one are less than those of the second one. -/
structure Halves (key : Int → Int) (d : Nat → Int) (a m b : Nat) : Prop where
  am : a ≤ m
  mb : m ≤ b
  l : Up key (seg d a m)
  r : Up key (seg d m b)
  lt : ∀ x y, a ≤ x → x < m → m ≤ y → y < b → d x < d y
theorem Halves.lx_lr {key : Int → Int} {d : Nat → Int} {a m b x y : Nat} (H : Halves key d a m b) (h1 : a ≤ x) (h2 : x < m) (h3 : m ≤ y) (h4 : y < b) : (lx key (d x) (d y) ↔ ¬ key (d y) < key (d x)) ∧ (lx key (d y) (d x) ↔ key (d y) < key (d x)) := by
  have := H.lt x y h1 h2 h3 h4
  unfold lx
  omega

/-- Where the halves are cut so that both first parts are ahead of both second parts. -/
structure Cut (key : Int → Int) (d : Nat → Int) (a m b s e : Nat) : Prop where
  as : a ≤ s
  sm : s ≤ m
  me : m ≤ e
  eb : e ≤ b
  l : a < s → e < b → lx key (d (s - 1)) (d e)
  r : m < e → s < m → lx key (d (e - 1)) (d s)
theorem Cut.all {key : Int → Int} {d : Nat → Int} {a m b s e : Nat} (H : Halves key d a m b) (C : Cut key d a m b s e) : ∀ x ∈ seg d a s ++ seg d m e, ∀ y ∈ seg d s m ++ seg d e b, lx key x y := by
  obtain ⟨as, sm, me, eb, cl, cr⟩ := C
  have stepL : ∀ i j, a ≤ i → i ≤ j → j < m → i = j ∨ lx key (d i) (d j) := fun i j h1 h2 h3 => by
    rcases Nat.eq_or_lt_of_le h2 with h | h
    · exact .inl h
    · exact .inr (up_seg H.l h1 h h3)
  have stepR : ∀ i j, m ≤ i → i ≤ j → j < b → i = j ∨ lx key (d i) (d j) := fun i j h1 h2 h3 => by
    rcases Nat.eq_or_lt_of_le h2 with h | h
    · exact .inl h
    · exact .inr (up_seg H.r h1 h h3)
  intro x hx y hy
  rcases List.mem_append.1 hx with hx | hx <;> rcases List.mem_append.1 hy with hy | hy
  · obtain ⟨i, h1, h2, rfl⟩ := mem_seg.1 hx
    obtain ⟨j, h3, h4, rfl⟩ := mem_seg.1 hy
    exact up_seg H.l h1 (by omega) h4
  · obtain ⟨i, h1, h2, rfl⟩ := mem_seg.1 hx
    obtain ⟨j, h3, h4, rfl⟩ := mem_seg.1 hy
    have h0 := cl (by omega) (by omega)
    have h5 : lx key (d i) (d e) := by
      rcases stepL i (s - 1) h1 (by omega) (by omega) with h | h
      · rw [h]; exact h0
      · exact lx_trans h h0
    rcases stepR e j (by omega) h3 h4 with h | h
    · rw [← h]; exact h5
    · exact lx_trans h5 h
  · obtain ⟨i, h1, h2, rfl⟩ := mem_seg.1 hx
    obtain ⟨j, h3, h4, rfl⟩ := mem_seg.1 hy
    have h0 := cr (by omega) (by omega)
    have h5 : lx key (d i) (d s) := by
      rcases stepR i (e - 1) h1 (by omega) (by omega) with h | h
      · rw [h]; exact h0
      · exact lx_trans h h0
    rcases stepL s j (by omega) h3 h4 with h | h
    · rw [← h]; exact h5
    · exact lx_trans h5 h
  · obtain ⟨i, h1, h2, rfl⟩ := mem_seg.1 hx
    obtain ⟨j, h3, h4, rfl⟩ := mem_seg.1 hy
    exact up_seg H.r h1 (by omega) h4

/-- Behind the rotation: the four parts. -/
theorem rot_parts {d : Nat → Int} {a m b s e mid : Nat} (as : a ≤ s) (sm : s ≤ m) (me : m ≤ e) (eb : e ≤ b) (hmid : mid = s + (e - m)) :
    seg (rotF d s m e) a s = seg d a s ∧ seg (rotF d s m e) s mid = seg d m e ∧ seg (rotF d s m e) mid e = seg d s m ∧ seg (rotF d s m e) e b = seg d e b := by
  subst hmid
  exact ⟨seg_congr fun x h1 h2 => rotF_out sm me (.inl h2), rotF_first d sm me, rotF_second d sm me, seg_congr fun x h1 h2 => rotF_out sm me (.inr h1)⟩
/-- Behind the rotation, both new pairs are such halves. -/
theorem rot_halves {key : Int → Int} {d : Nat → Int} {a m b s e mid : Nat} (H : Halves key d a m b) (C : Cut key d a m b s e) (hmid : mid = s + (e - m)) :
    Halves key (rotF d s m e) a s mid ∧ Halves key (rotF d s m e) mid e b := by
  obtain ⟨as, sm, me, eb, cl, cr⟩ := C
  obtain ⟨p1, p2, p3, p4⟩ := rot_parts (d := d) as sm me eb hmid
  have m1 : ∀ x, a ≤ x → x < s → rotF d s m e x ∈ seg d a s := fun x h1 h2 => p1 ▸ mem_seg.2 ⟨x, h1, h2, rfl⟩
  have m2 : ∀ x, s ≤ x → x < mid → rotF d s m e x ∈ seg d m e := fun x h1 h2 => p2 ▸ mem_seg.2 ⟨x, h1, h2, rfl⟩
  have m3 : ∀ x, mid ≤ x → x < e → rotF d s m e x ∈ seg d s m := fun x h1 h2 => p3 ▸ mem_seg.2 ⟨x, h1, h2, rfl⟩
  have m4 : ∀ x, e ≤ x → x < b → rotF d s m e x ∈ seg d e b := fun x h1 h2 => p4 ▸ mem_seg.2 ⟨x, h1, h2, rfl⟩
  refine ⟨⟨as, by omega, p1 ▸ up_sub H.l (Nat.le_refl _) sm, p2 ▸ up_sub H.r (Nat.le_refl _) eb, fun x y h1 h2 h3 h4 => ?_⟩, ⟨by omega, eb, p3 ▸ up_sub H.l as (Nat.le_refl _), p4 ▸ up_sub H.r me (Nat.le_refl _), fun x y h1 h2 h3 h4 => ?_⟩⟩
  · obtain ⟨i, i1, i2, i3⟩ := mem_seg.1 (m1 x h1 h2)
    obtain ⟨j, j1, j2, j3⟩ := mem_seg.1 (m2 y h3 h4)
    rw [← i3, ← j3]
    exact H.lt i j i1 (by omega) j1 (by omega)
  · obtain ⟨i, i1, i2, i3⟩ := mem_seg.1 (m3 x h1 h2)
    obtain ⟨j, j1, j2, j3⟩ := mem_seg.1 (m4 y h3 h4)
    rw [← i3, ← j3]
    exact H.lt i j (by omega) i2 (by omega) j2
/-- The whole: when both new pairs are merged, all is merged. -/
theorem merged_all {key : Int → Int} {d d1 d2 : Nat → Int} {a m b s e mid : Nat} (H : Halves key d a m b) (C : Cut key d a m b s e) (hmid : mid = s + (e - m))
    (h1 : Merged key (rotF d s m e) d1 a mid) (h2 : Merged key d1 d2 mid b) : Merged key d d2 a b := by
  have hall := Cut.all H C
  obtain ⟨as, sm, me, eb, cl, cr⟩ := C
  obtain ⟨p1, p2, p3, p4⟩ := rot_parts (d := d) as sm me eb hmid
  obtain ⟨o1, q1, u1⟩ := h1
  obtain ⟨o2, q2, u2⟩ := h2
  have amid : a ≤ mid := by omega
  have midb : mid ≤ b := by omega
  have e1 : seg d2 a mid = seg d1 a mid := seg_congr fun x h1 h2 => o2 x (.inl h2)
  have e2 : seg d1 mid b = seg (rotF d s m e) mid b := seg_congr fun x h1 h2 => o1 x (.inr h1)
  have q1' : (seg d2 a mid).Perm (seg d a s ++ seg d m e) := by
    rw [e1]
    refine q1.trans ?_
    rw [seg_append _ as (show s ≤ mid by omega), p1, p2]
  have q2' : (seg d2 mid b).Perm (seg d s m ++ seg d e b) := by
    rw [e2] at q2
    refine q2.trans ?_
    rw [seg_append _ (show mid ≤ e by omega) eb, p3, p4]
  refine ⟨fun x hx => ?_, ?_, ?_⟩
  · rw [o2 x (by omega), o1 x (by omega), rotF_out sm me (by omega)]
  · rw [seg_append d2 amid midb, seg_append d H.am H.mb, seg_append d as sm, seg_append d me eb]
    refine (q1'.append q2').trans ?_
    simp only [List.append_assoc]
    refine List.Perm.append_left _ ?_
    rw [← List.append_assoc, ← List.append_assoc]
    exact List.Perm.append_right _ List.perm_append_comm
  · rw [seg_append d2 amid midb]
    refine up_append (e1 ▸ u1) u2 fun x hx y hy => hall x (q1'.mem_iff.1 hx) y (q2'.mem_iff.1 hy)
/-- A pair with an empty half is merged as it stands. -/
theorem merged_self {key : Int → Int} {d : Nat → Int} {a m b : Nat} (H : Halves key d a m b) (h : a = m ∨ m = b) : Merged key d d a b := by
  refine ⟨fun _ _ => rfl, List.Perm.refl _, ?_⟩
  rcases h with h | h
  · subst h; exact H.r
  · subst h; exact H.l
theorem merged_out {key : Int → Int} {d d' : Nat → Int} {a b : Nat} (h : Merged key d d' a b) (x : Nat) (hx : x < a ∨ b ≤ x) : d' x = d x := h.1 x hx
/-- Halves that lie beside what is merged stay halves. -/
theorem Halves.later {key : Int → Int} {d d' : Nat → Int} {a m b : Nat} (H : Halves key d a m b) (h : ∀ x, a ≤ x → x < b → d' x = d x) : Halves key d' a m b :=
  ⟨H.am, H.mb, by rw [seg_congr fun x h1 h2 => h x h1 (by have := H.mb; omega)]; exact H.l, by rw [seg_congr fun x h1 h2 => h x (by have := H.am; omega) h2]; exact H.r,
    fun x y h1 h2 h3 h4 => by rw [h x h1 (by have := H.mb; omega), h y (by have := H.am; omega) h4]; exact H.lt x y h1 h2 h3 h4⟩

/-- The row in which k numbers from a on and k numbers from b on have changed places. -/
def swF (d : Nat → Int) (a b k : Nat) : Nat → Int := fun x => if a ≤ x ∧ x < a + k then d (x + (b - a)) else if b ≤ x ∧ x < b + k then d (x - (b - a)) else d x
theorem swF_zero (d : Nat → Int) (a b : Nat) : swF d a b 0 = d := by
  funext x
  unfold swF
  rw [if_neg (by omega), if_neg (by omega)]
theorem swF_at {d : Nat → Int} {a b k : Nat} (h : a + k < b) : swF d a b k (a + k) = d (a + k) ∧ swF d a b k (b + k) = d (b + k) := by
  unfold swF
  rw [if_neg (by omega), if_neg (by omega), if_neg (by omega), if_neg (by omega)]
  exact ⟨rfl, rfl⟩
theorem swF_step {d : Nat → Int} {a b k : Nat} (h : a + k < b) (x : Nat) : (if x = b + k then d (a + k) else if x = a + k then d (b + k) else swF d a b k x) = swF d a b (k + 1) x := by
  unfold swF
  by_cases h1 : x = b + k
  · rw [if_pos h1, if_neg (by omega), if_pos (by omega)]
    congr 1; omega
  · by_cases h2 : x = a + k
    · rw [if_neg h1, if_pos h2, if_pos (by omega)]
      congr 1; omega
    · rw [if_neg h1, if_neg h2]
      by_cases h3 : a ≤ x ∧ x < a + k
      · rw [if_pos h3, if_pos (by omega)]
      · rw [if_neg h3, if_neg (show ¬ (a ≤ x ∧ x < a + (k + 1)) by omega)]
        by_cases h4 : b ≤ x ∧ x < b + k
        · rw [if_pos h4, if_pos (by omega)]
        · rw [if_neg h4, if_neg (by omega)]
/-- The steps of the library's rotation. -/
theorem rot_end (d : Nat → Int) {m i : Nat} (hi : i ≤ m) : swF d (m - i) m i = rotF d (m - i) m (m + i) := by
  funext x
  unfold swF rotF
  by_cases h1 : m - i ≤ x ∧ x < m - i + i
  · rw [if_pos h1, if_pos (by omega)]
  · rw [if_neg h1, if_neg (show ¬ (m - i ≤ x ∧ x < m - i + (m + i - m)) by omega)]
    by_cases h2 : m ≤ x ∧ x < m + i
    · rw [if_pos h2, if_pos (by omega)]; congr 1; omega
    · rw [if_neg h2, if_neg (by omega)]
theorem rot_left (d : Nat → Int) {m i j : Nat} (hi : i ≤ m) (hj : j < i) : rotF (swF d (m - i) m j) (m - (i - j)) m (m + j) = rotF d (m - i) m (m + j) := by
  funext x
  by_cases h1 : m - i ≤ x ∧ x < m - i + j
  · rw [rotF_out (by omega) (by omega) (by omega)]
    unfold swF rotF
    rw [if_pos h1, if_pos (by omega)]
  · by_cases h2 : m - i + j ≤ x ∧ x < m
    · have e1 : rotF d (m - i) m (m + j) x = d (x - j) := by
        unfold rotF
        rw [if_neg (by omega), if_pos (by omega)]; congr 1; omega
      rw [e1]
      unfold rotF
      by_cases h3 : x < m - (i - j) + (m + j - m)
      · rw [if_pos (by omega)]
        unfold swF
        rw [if_neg (by omega), if_pos (by omega)]; congr 1; omega
      · rw [if_neg (by omega), if_pos (by omega)]
        unfold swF
        rw [if_neg (by omega), if_neg (by omega)]; congr 1; omega
    · by_cases h3 : m ≤ x ∧ x < m + j
      · have e1 : rotF d (m - i) m (m + j) x = d (x - j) := by
          unfold rotF
          rw [if_neg (by omega), if_pos (by omega)]; congr 1; omega
        rw [e1]
        unfold rotF
        by_cases h4 : x < m - (i - j) + (m + j - m)
        · rw [if_pos (by omega)]
          unfold swF
          rw [if_neg (by omega), if_pos (by omega)]; congr 1; omega
        · rw [if_neg (by omega), if_pos (by omega)]
          unfold swF
          rw [if_neg (by omega), if_neg (by omega)]; congr 1; omega
      · rw [rotF_out (by omega) (by omega) (by omega), rotF_out (by omega) (by omega) (by omega)]
        unfold swF
        rw [if_neg (by omega), if_neg (by omega)]
theorem rot_right (d : Nat → Int) {m i j : Nat} (hi : i ≤ m) (hj : i < j) : rotF (swF d (m - i) (m + (j - i)) i) (m - i) m (m + (j - i)) = rotF d (m - i) m (m + j) := by
  funext x
  by_cases h1 : m - i ≤ x ∧ x < m - i + (j - i)
  · have e1 : rotF d (m - i) m (m + j) x = d (x + i) := by
      unfold rotF
      rw [if_pos (by omega)]; congr 1; omega
    rw [e1]
    unfold rotF
    rw [if_pos (by omega)]
    unfold swF
    rw [if_neg (by omega), if_neg (by omega)]; congr 1; omega
  · by_cases h2 : m - i + (j - i) ≤ x ∧ x < m + (j - i)
    · have e1 : rotF d (m - i) m (m + j) x = d (x + i) := by
        unfold rotF
        rw [if_pos (by omega)]; congr 1; omega
      rw [e1]
      unfold rotF
      rw [if_neg (by omega), if_pos (by omega)]
      unfold swF
      rw [if_pos (by omega)]; congr 1; omega
    · by_cases h3 : m + (j - i) ≤ x ∧ x < m + j
      · have e1 : rotF d (m - i) m (m + j) x = d (x - j) := by
          unfold rotF
          rw [if_neg (by omega), if_pos (by omega)]; congr 1; omega
        rw [e1, rotF_out (by omega) (by omega) (by omega)]
        unfold swF
        rw [if_neg (by omega), if_pos (by omega)]; congr 1; omega
      · rw [rotF_out (by omega) (by omega) (by omega), rotF_out (by omega) (by omega) (by omega)]
        unfold swF
        rw [if_neg (by omega), if_neg (by omega)]
/-- A rotation by one place, step by step. -/
theorem rot_one_step (d : Nat → Int) {a k : Nat} (h : a ≤ k) (x : Nat) : (if x = k + 1 then rotF d a (a + 1) (k + 1) k else if x = k then rotF d a (a + 1) (k + 1) (k + 1) else rotF d a (a + 1) (k + 1) x) = rotF d a (a + 1) (k + 2) x := by
  by_cases h1 : x = k + 1
  · rw [if_pos h1]
    unfold rotF
    rw [if_neg (by omega), if_pos (by omega), if_neg (by omega), if_pos (by omega)]; congr 1; omega
  · rw [if_neg h1]
    by_cases h2 : x = k
    · rw [if_pos h2]
      unfold rotF
      rw [if_neg (by omega), if_neg (by omega), if_pos (by omega)]; congr 1; omega
    · rw [if_neg h2]
      unfold rotF
      by_cases h3 : a ≤ x ∧ x < k
      · rw [if_pos (by omega), if_pos (by omega)]
      · rw [if_neg (by omega), if_neg (by omega), if_neg (by omega), if_neg (by omega)]
theorem rot_back_step (d : Nat → Int) {m k : Nat} (h : k < m) (x : Nat) : (if x = k then rotF d (k + 1) m (m + 1) (k + 1) else if x = k + 1 then rotF d (k + 1) m (m + 1) k else rotF d (k + 1) m (m + 1) x) = rotF d k m (m + 1) x := by
  by_cases h1 : x = k
  · rw [if_pos h1]
    unfold rotF
    rw [if_pos (by omega), if_pos (by omega)]; congr 1; omega
  · rw [if_neg h1]
    by_cases h2 : x = k + 1
    · rw [if_pos h2]
      unfold rotF
      rw [if_neg (by omega), if_neg (by omega), if_neg (by omega), if_pos (by omega)]; congr 1; omega
    · rw [if_neg h2]
      unfold rotF
      by_cases h3 : k + 2 ≤ x ∧ x < m + 1
      · rw [if_neg (by omega), if_pos (by omega), if_neg (by omega), if_pos (by omega)]
      · rw [if_neg (by omega), if_neg (by omega), if_neg (by omega), if_neg (by omega)]

/-- A pair that stands in order already. -/
theorem merged_joined {key : Int → Int} {d : Nat → Int} {a m b : Nat} (H : Halves key d a m b) (h : a < m → m < b → lx key (d (m - 1)) (d m)) : Merged key d d a b := by
  refine ⟨fun _ _ => rfl, List.Perm.refl _, ?_⟩
  rw [seg_append d H.am H.mb]
  refine up_append H.l H.r fun x hx y hy => ?_
  obtain ⟨i, h1, h2, rfl⟩ := mem_seg.1 hx
  obtain ⟨j, h3, h4, rfl⟩ := mem_seg.1 hy
  have h0 := h (by omega) (by omega)
  have h5 : lx key (d i) (d m) := by
    rcases Nat.eq_or_lt_of_le (show i ≤ m - 1 by omega) with e | e
    · rw [e]; exact h0
    · exact lx_trans (up_seg H.l h1 e (by omega)) h0
  rcases Nat.eq_or_lt_of_le h3 with e | e
  · rw [← e]; exact h5
  · exact lx_trans h5 (up_seg H.r (Nat.le_refl _) e h4)
/-- The first number is put into the second half. -/
theorem insert_first {key : Int → Int} {d : Nat → Int} {a b i : Nat} (H : Halves key d a (a + 1) b) (h1 : a + 1 ≤ i) (h2 : i ≤ b) (hl : i = a + 1 ∨ key (d (i - 1)) < key (d a)) (hr : i = b ∨ ¬ key (d i) < key (d a)) :
    Merged key d (rotF d a (a + 1) i) a b := by
  have C : Cut key d a (a + 1) b a i := ⟨Nat.le_refl _, by omega, h1, h2, fun h => absurd h (by omega), fun h _ => by
    rcases hl with e | e
    · omega
    · exact ((H.lx_lr (Nat.le_refl _) (by omega) (show a + 1 ≤ i - 1 by omega) (by omega)).2).2 e⟩
  obtain ⟨H1, H2⟩ := rot_halves (mid := a + (i - (a + 1))) H C rfl
  refine merged_all (mid := a + (i - (a + 1))) H C rfl (merged_self H1 (.inl rfl)) (merged_joined H2 fun _ hb => ?_)
  have e1 : rotF d a (a + 1) i (i - 1) = d a := by
    unfold rotF
    rw [if_neg (by omega), if_pos (by omega)]; congr 1; omega
  have e2 : rotF d a (a + 1) i i = d i := rotF_out (by omega) h1 (.inr (Nat.le_refl _))
  rw [e1, e2]
  rcases hr with e | e
  · omega
  · exact ((H.lx_lr (Nat.le_refl _) (by omega) h1 hb).1).2 e
/-- The last number is put into the first half. -/
theorem insert_last {key : Int → Int} {d : Nat → Int} {a m i : Nat} (H : Halves key d a m (m + 1)) (h1 : a ≤ i) (h2 : i ≤ m) (hl : i = a ∨ ¬ key (d m) < key (d (i - 1))) (hr : i = m ∨ key (d m) < key (d i)) :
    Merged key d (rotF d i m (m + 1)) a (m + 1) := by
  have C : Cut key d a m (m + 1) i (m + 1) := ⟨h1, h2, by omega, Nat.le_refl _, fun _ h => absurd h (by omega), fun _ h => by
    rcases hr with e | e
    · omega
    · exact ((H.lx_lr h1 (by omega) (Nat.le_refl _) (by omega)).2).2 e⟩
  obtain ⟨H1, H2⟩ := rot_halves (mid := i + (m + 1 - m)) H C rfl
  refine merged_all (mid := i + (m + 1 - m)) H C rfl (merged_joined H1 fun hb _ => ?_) (merged_self H2 (.inr rfl))
  have e1 : rotF d i m (m + 1) (i - 1) = d (i - 1) := rotF_out h2 (by omega) (.inl (by omega))
  have e2 : rotF d i m (m + 1) i = d m := by
    unfold rotF
    rw [if_pos (by omega)]; congr 1; omega
  rw [e1, e2]
  rcases hl with e | e
  · omega
  · exact ((H.lx_lr (show a ≤ i - 1 by omega) (by omega) (Nat.le_refl _) (by omega)).1).2 e
/-- Where the search of a merge ends, there is the cut. -/
theorem cut_search {key : Int → Int} {d : Nat → Int} {a m b mid s0 r0 s : Nat} (H : Halves key d a m b) (ham : a < m) (hmb : m < b) (hmid : mid = (a + b) / 2) (h0 : (m > mid ∧ s0 = mid + m - b ∧ r0 = mid) ∨ (m ≤ mid ∧ s0 = a ∧ r0 = m))
    (hs0 : s0 ≤ s) (hr0 : s ≤ r0) (hl : s = s0 ∨ ¬ key (d (mid + m - 1 - (s - 1))) < key (d (s - 1))) (hr : s = r0 ∨ key (d (mid + m - 1 - s)) < key (d s)) : Cut key d a m b s (mid + m - s) := by
  refine ⟨by omega, by omega, by omega, by omega, fun h1 h2 => ?_, fun h1 h2 => ?_⟩
  · rcases hl with e | e
    · omega
    · rw [show mid + m - 1 - (s - 1) = mid + m - s by omega] at e
      exact ((H.lx_lr (show a ≤ s - 1 by omega) (by omega) (show m ≤ mid + m - s by omega) h2).1).2 e
  · rcases hr with e | e
    · omega
    · rw [show mid + m - 1 - s = mid + m - s - 1 by omega] at e
      exact ((H.lx_lr (show a ≤ s by omega) h2 (show m ≤ mid + m - s - 1 by omega) (by omega)).2).2 e
/-- There is one order alone. -/
theorem up_unique {key : Int → Int} {l r : List Int} (hl : Up key l) (hr : Up key r) (h : l.Perm r) : l = r :=
  h.eq_of_pairwise (le := lx key) (fun a b _ _ h1 h2 => (lx_asymm h1 h2).elim) hl hr
end Go.Proofs.YtgcddjgkieambaaGreatDoor.St
