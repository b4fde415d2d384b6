/- The texts DelN, AsOfK in one. -/
import Derived.Test.YtlamogpdkmbeoaaGreatDoorZbCopy
import Derived.Test.YtlamogpdkmbeoaaGreatDoorZbFold
import Derived.Test.YtlamogpdkmbeoaaGreatDoorZbRegP
set_option linter.unusedVariables false
set_option linter.unusedSimpArgs false
section PartDelN
/- 'slices.DeleteFunc' at notes in memory of their own. -/
set_option maxRecDepth 100000
namespace Go.Proofs.YtlamogpdkmbeoaaGreatDoor
open Go.RowKit Go.Lib Go.Shelf Go.Maps

/-- 'clear' at a slice of structs. -/
theorem run_clear_mid (w : World) (t e ty : TypeId) (zs : Array Value) (ht : Tryz.prog.underlying t = some (.slice e)) (hv : ∀ w, (zeroValue e).run Tryz.prog w = .ok (.agg zs) w) (hz : (Value.agg zs).cells = zs) (h1 : ∀ v ∈ (Builtin.zeroCells zs 1).toList, v.oneCell' = true) (b o n c : Nat) (hn : 0 < n)
    (hth : w.there b o (n * zs.size)) (hall : ∀ v ∈ (Builtin.zeroCells zs n).toList, v.oneCell' = true) :
    (Builtin.clear_ #[t] ty #[.slice (some ⟨b, o, none⟩) n c]).run Tryz.prog w = .ok (.tuple #[]) (w.setCells b o (Builtin.zeroCells zs n).toList) := by
  have hl : (Builtin.zeroCells zs n).toList.length = n * zs.size := by simp [Builtin.zeroCells]
  have hst := run_storeCells_cells (P := Tryz.prog) b o (Builtin.zeroCells zs n).toList 0 w (fun j hj => (hth j (by omega)).1) (fun j hj => (hth j (by omega)).2) hall
  simp only [Nat.add_zero] at hst
  obtain ⟨m, rfl⟩ : ∃ m, n = m + 1 := ⟨n - 1, by omega⟩
  simp [Builtin.clear_, run_underlying ht, hv, hz, hst]
theorem zeroCells_one {zs : Array Value} (h : zs.all (·.oneCell') = true) (n : Nat) : ∀ v ∈ (Builtin.zeroCells zs n).toList, v.oneCell' = true := by
  intro v hv
  unfold Builtin.zeroCells at hv
  simp only [Array.toList_map, List.mem_map, Array.toList_range, List.mem_range] at hv
  obtain ⟨i, hi, rfl⟩ := hv
  have hp : 0 < zs.size := by
    rcases Nat.eq_zero_or_pos zs.size with h0 | h0
    · rw [h0] at hi; omega
    · exact h0
  have hlt := Nat.mod_lt i hp
  rw [getElem!_pos zs _ hlt]
  exact Array.all_eq_true.1 h _ hlt
theorem own_blk {w : World} {base : Nat} {e : TypeId} {size : Nat} {v : Value} {n : Nat} {xs : List Value} (h : w.ownsRow base e size v n xs) (hn : 0 < n) : ∃ g cap cur, v = .slice (some ⟨g, 0, none⟩) n cap ∧ base ≤ g ∧ Blk w g e cur ∧ n ≤ cap ∧ cap ≤ maxLen ∧ cur.size = cap * size ∧ ∀ (j : Nat) (u : Value), xs[j]? = some u → cur[j]? = some u := by
  rcases h.2 with ⟨_, h0⟩ | ⟨g, cap, cur, h1, h2, h3, h4, h5, h6, h7⟩
  · omega
  · refine ⟨g, cap, cur, h1, h2, h3, h4, h5, h6, fun j u hu => ?_⟩
    rw [← h7, List.getElem?_take] at hu
    split at hu
    · rw [← Array.getElem?_toList]; exact hu
    · cases hu
theorem known_not {t : Int} {x : Note} : known t x = !later t x := by
  unfold known later
  by_cases h : x.nt.clock ≤ t
  · rw [decide_eq_true h, decide_eq_false (by omega)]; rfl
  · rw [decide_eq_false h, decide_eq_true (by omega)]; rfl
theorem index_first (t : Int) (B : Nat) (b o c : Nat) (xs : List Note) (w : World) (hbb : b < w.heap.size) (hm : xs.length ≤ 9223372036854775807) (hcell : ∀ j (h : j < xs.length) i u, (xs[j].enc)[i]? = some u → w.cell? ⟨b, o + j * 20 + i, none⟩ = some u) (hB : B < w.heap.size) (hc : w.cell? ⟨B, 0, none⟩ = some (.int .i64 t)) (k : Nat) (hk : k < xs.length) (hl : later t xs[k] = true) (hno : ∀ j (h : j < k), later t (xs[j]'(by omega)) = false) :
    Calls Tryz.prog 81 #[.slice (some ⟨b, o, none⟩) xs.length c, .func (.func 48) #[] #[.pointer (some ⟨B, 0, none⟩)]] w fun e w' => e = .returned (.int .i64 k) ∧ Below w.heap.size w w' := by
  have hp : PredBelow Tryz.prog 48 #[.pointer (some ⟨B, 0, none⟩)] (fun x : Note => .agg x.enc.toArray) (later t) w := fun W x hb =>
    (later_any t B x W (Nat.lt_of_lt_of_le hB hb.size) ((hb.cell (p := ⟨B, 0, none⟩) hB).trans hc)).mono fun _ _ ⟨h, k⟩ => ⟨h, hb.trans (k.below.mono hb.size)⟩
  have hg : ∀ j (hj : j < xs.length), xs[j]! = xs[j] := fun j hj => by rw [List.getElem!_eq_getElem?_getD, List.getElem?_eq_getElem hj]; rfl
  have hi := AnyQ.slices_IndexFunc Tryz.indexNotes 20 Tryz.isAgg46 Tryz.sizeOf46 Note.enc (fun _ => rfl) (later t) 48 #[.pointer (some ⟨B, 0, none⟩)] later_enters b o xs.length c xs w hp (Nat.le_refl _) hm hbb (fun j hj i u hu => hcell j hj i u (by rw [← hg j hj]; exact hu))
  rw [Lib.idxBy_hit (fun _ y => later t y) xs xs.length k default hk (Nat.le_refl _) (by rw [hg k hk]; exact hl) (fun j hj => by rw [hg j (by omega)]; exact hno j hj)] at hi
  exact hi
theorem first_later (t : Int) : ∀ (xs : List Note), (∀ x ∈ xs, x.nt.clock ≤ t) ∨ ∃ k, ∃ hk : k < xs.length, later t xs[k] = true ∧ ∀ j (h : j < k), later t (xs[j]'(by omega)) = false
  | [] => .inl (by simp)
  | x :: xs => by
    by_cases hx : x.nt.clock ≤ t
    · rcases first_later t xs with h | ⟨k, hk, h1, h2⟩
      · exact .inl fun y hy => by
          rcases List.mem_cons.1 hy with rfl | hy
          · exact hx
          · exact h y hy
      · refine .inr ⟨k + 1, by simpa using hk, by simpa using h1, fun j hj => ?_⟩
        cases j with
        | zero => unfold later; exact decide_eq_false (by simpa using hx)
        | succ j => simpa using h2 j (by omega)
    · exact .inr ⟨0, by simp, by unfold later; exact decide_eq_true (by simpa using hx), fun j hj => absurd hj (Nat.not_lt_zero _)⟩
theorem index_row (t : Int) (B : Nat) (v : Value) (xs : List Note) (w : World) (h : RowsAt Note.enc 20 w v xs) (hB : B < w.heap.size) (hc : w.cell? ⟨B, 0, none⟩ = some (.int .i64 t)) (hno : ∀ x ∈ xs, x.nt.clock ≤ t) :
    Calls Tryz.prog 81 #[v, .func (.func 48) #[] #[.pointer (some ⟨B, 0, none⟩)]] w fun e w' => e = .returned (.int .i64 (-1)) ∧ Below w.heap.size w w' := by
  have hm := h.max
  unfold maxLen at hm
  rcases h.place with ⟨rfl, A, c, rfl⟩ | ⟨b, ao, c, rfl, h0, _, hbb, hcell⟩
  · clear h hc hno
    go_enter Tryz.func81, Tryz.ntmps81
    go_wp2
    refine wp_loop_rounds 1 ?_
    rw [rounds_succ]
    go_wp2
    go_ret
    exact ⟨rfl, Below.refl _ w⟩
  · have hp : PredBelow Tryz.prog 48 #[.pointer (some ⟨B, 0, none⟩)] (fun x : Note => .agg x.enc.toArray) (later t) w := fun W x hb =>
      (later_any t B x W (Nat.lt_of_lt_of_le hB hb.size) ((hb.cell (p := ⟨B, 0, none⟩) hB).trans hc)).mono fun _ _ ⟨h, k⟩ => ⟨h, hb.trans (k.below.mono hb.size)⟩
    have hg : ∀ j (hj : j < xs.length), xs[j]! = xs[j] := fun j hj => by rw [List.getElem!_eq_getElem?_getD, List.getElem?_eq_getElem hj]; rfl
    have hi := AnyQ.slices_IndexFunc Tryz.indexNotes 20 Tryz.isAgg46 Tryz.sizeOf46 Note.enc (fun _ => rfl) (later t) 48 #[.pointer (some ⟨B, 0, none⟩)] later_enters b ao xs.length c xs w hp (Nat.le_refl _) hm hbb (fun j hj i u hu => hcell j hj i u (by rw [← hg j hj]; exact hu))
    rw [Lib.idxBy_miss (fun _ y => later t y) xs xs.length default (fun j hj => by
      have := hno xs[j] (List.getElem_mem hj)
      rw [hg j hj]
      unfold later
      exact decide_eq_false (by omega))] at hi
    exact hi
theorem delete_row (t : Int) (B : Nat) (v : Value) (xs : List Note) (w : World) (h : RowsAt Note.enc 20 w v xs) (hB : B < w.heap.size) (hc : w.cell? ⟨B, 0, none⟩ = some (.int .i64 t)) (hno : ∀ x ∈ xs, x.nt.clock ≤ t) :
    Calls Tryz.prog 46 #[v, .func (.func 48) #[] #[.pointer (some ⟨B, 0, none⟩)]] w fun e w' => e = .returned v ∧ Below w.heap.size w w' := by
  have hi := index_row t B v xs w h hB hc hno
  obtain ⟨A, c, rfl⟩ := h.len
  clear h hc hno
  go_enter Tryz.func46, Tryz.ntmps46
  go_wp2_with (go_at_call 81; refine hi.mono ?_; rintro e w1 ⟨rfl, hb1⟩)
  go_ret
  exact ⟨rfl, hb1⟩
/-- The row as it is while the notes are moved together. -/
structure Kept2 (t : Int) (xs ys : List Note) (i j : Nat) : Prop where
  len : ys.length = xs.length
  lt : i < j
  le : j ≤ xs.length
  low : ys.take i = (xs.take j).filter (known t)
  high : ys.drop j = xs.drop j
theorem Kept2.count {t : Int} {xs ys : List Note} {i j : Nat} (h : Kept2 t xs ys i j) : ((xs.take j).filter (known t)).length = i := by
  rw [← h.low, List.length_take]
  have := h.lt
  have := h.le
  have := h.len
  omega
theorem Kept2.start {t : Int} {xs : List Note} {k : Nat} (hk : k < xs.length) (h1 : later t xs[k] = true) (h2 : ∀ j (h : j < k), later t (xs[j]'(by omega)) = false) : Kept2 t xs xs k (k + 1) := by
  refine ⟨rfl, Nat.lt_succ_self _, hk, ?_, rfl⟩
  rw [List.take_succ_eq_append_getElem hk, List.filter_append]
  rw [show [xs[k]].filter (known t) = [] by rw [List.filter_cons_of_neg (by rw [known_not, h1]; simp)]; rfl, List.append_nil]
  refine (List.filter_eq_self.2 fun x hx => ?_).symm
  obtain ⟨j, hj, rfl⟩ := List.getElem_of_mem hx
  rw [List.getElem_take, known_not, h2 j (by simpa using (List.length_take .. ▸ hj : j < min k xs.length) |> fun h => (by rw [List.length_take] at hj; omega))]
  rfl
theorem Kept2.skip {t : Int} {xs ys : List Note} {i j : Nat} (h : Kept2 t xs ys i j) (hj : j < xs.length) (hl : later t xs[j] = true) : Kept2 t xs ys i (j + 1) := by
  refine ⟨h.len, by have := h.lt; omega, hj, ?_, ?_⟩
  · rw [h.low, List.take_succ_eq_append_getElem hj, List.filter_append, List.filter_cons_of_neg (by rw [known_not, hl]; simp)]
    simp
  · have := congrArg (List.drop 1) h.high
    rw [List.drop_drop, List.drop_drop] at this
    exact this
theorem Kept2.keep {t : Int} {xs ys : List Note} {i j : Nat} (h : Kept2 t xs ys i j) (hj : j < xs.length) (hl : later t xs[j] = false) : Kept2 t xs (ys.set i xs[j]) (i + 1) (j + 1) := by
  have hi : i < ys.length := by have := h.lt; have := h.len; omega
  refine ⟨by rw [List.length_set]; exact h.len, by have := h.lt; omega, hj, ?_, ?_⟩
  · rw [List.take_succ_eq_append_getElem (by rw [List.length_set]; exact hi), List.take_set_of_le (Nat.le_refl _), List.getElem_set_self, h.low, List.take_succ_eq_append_getElem hj, List.filter_append, List.filter_cons_of_pos (by rw [known_not, hl]; rfl)]
    rfl
  · rw [List.drop_set_of_lt (by have := h.lt; omega)]
    have := congrArg (List.drop 1) h.high
    rw [List.drop_drop, List.drop_drop] at this
    exact this
theorem Kept2.at_ {t : Int} {xs ys : List Note} {i j : Nat} (h : Kept2 t xs ys i j) (hj : j < xs.length) : ys[j]'(by rw [h.len]; exact hj) = xs[j] := by
  have := congrArg (fun l => l[0]?) h.high
  simp only [List.getElem?_drop, Nat.add_zero] at this
  rw [List.getElem?_eq_getElem hj, List.getElem?_eq_getElem (by rw [h.len]; exact hj)] at this
  exact Option.some.inj this
set_option maxHeartbeats 8000000 in
theorem delete_known (t : Int) (B base : Nat) (V : Value) (xs : List Note) (w : World) (hrow : w.ownsRow base 46 20 V xs.length (xs.flatMap Note.enc)) (hbase : base ≤ w.heap.size) (hone : ∀ x ∈ xs, oneN x) (hB : B < base) (hc : w.cell? ⟨B, 0, none⟩ = some (.int .i64 t)) (hlen : xs.length ≤ 2000) :
    Calls Tryz.prog 46 #[V, .func (.func 48) #[] #[.pointer (some ⟨B, 0, none⟩)]] w fun e w' => ∃ A c, e = .returned (.slice A (xs.filter (known t)).length c) ∧ RowsAt Note.enc 20 w' (.slice A (xs.filter (known t)).length c) (xs.filter (known t)) ∧ Below base w w' := by
  have UN := Tryz.underlying46
  have UNs := Tryz.underlying24
  rcases first_later t xs with hall | ⟨k0, hk0, hk1, hk2⟩
  · have hf : xs.filter (known t) = xs := List.filter_eq_self.2 fun x hx => by unfold known; exact decide_eq_true (hall x hx)
    rw [hf]
    have hR : RowsAt Note.enc 20 w V xs := rows_of_owns 20 (fun _ => rfl) hrow
    obtain ⟨A, c, rfl⟩ := hR.len
    refine (delete_row t B _ xs w hR (Nat.lt_of_lt_of_le hB hbase) hc hall).mono ?_
    rintro e w' ⟨rfl, hb⟩
    exact ⟨A, c, rfl, hR.later hb, hb.mono hbase⟩
  · obtain ⟨g, cap, cur, rfl, hbg, hblk, hncap, hcapm, hcsz, hcur⟩ := own_blk hrow (by omega)
    have hcell0 : ∀ j (h : j < xs.length) i u, (xs[j].enc)[i]? = some u → cur[j * 20 + i]? = some u := fun j hj i u hu => hcur _ _ ((flat_get (enc := Note.enc) 20 (fun _ => rfl) xs j i hj (by have := (List.getElem?_eq_some_iff.1 hu).1; simpa using this)).trans hu)
    obtain ⟨o, ho⟩ : ∃ o, o = 0 := ⟨_, rfl⟩
    have hcell1 : ∀ j (h : j < xs.length) i u, (xs[j].enc)[i]? = some u → cur[o + j * 20 + i]? = some u := fun j hj i u hu => by rw [ho, Nat.zero_add]; exact hcell0 j hj i u hu
    rw [show (.slice (some ⟨g, 0, none⟩) xs.length cap : Value) = .slice (some ⟨g, o, none⟩) xs.length cap by rw [ho]]
    have hix := index_first t B g o cap xs w hblk.lt (by omega) (fun j hj i u hu => by rw [hblk.cell]; exact hcell1 j hj i u hu) (Nat.lt_of_lt_of_le hB hbase) hc k0 hk0 hk1 hk2
    have HST := Lib.hid (Kept2.start hk0 hk1 hk2)
    have HONE := Lib.hid hone
    have hosz : o + xs.length * 20 ≤ cur.size := by rw [hcsz, ho]; omega
    have HO := Lib.hid hcell1
    have HBLK := Lib.hid hblk
    have HC := Lib.hid hc
    have lB : B < w.heap.size := Nat.lt_of_lt_of_le hB hbase
    have lg := hblk.lt
    have HCS := Lib.hid hcsz
    have HOS := Lib.hid hosz
    obtain ⟨n, hn⟩ : ∃ n, n = xs.length := ⟨_, rfl⟩
    have HN := Lib.hid hn
    have hncap' : n ≤ cap := by omega
    have hk00 : k0 < 2000 := by omega
    have hn2 : n ≤ 2000 := by omega
    rw [← hn] at hix ⊢
    unfold maxLen at hcapm
    clear hrow hblk hcell0 hcell1 hcur hone hc ho hk0 hk1 hk2 hcsz hosz hncap hlen hn
    go_enter Tryz.func46, Tryz.ntmps46
    go_upto_region 2 with (go_at_call 81; (with_reducible refine hix.mono ?_); rintro e w1 ⟨rfl, hb1⟩)
    have hne1 : ((k0 : Int) == -1) = false := beq_eq_false_iff_ne.2 (by omega)
    go_upto_region 5 with fail
    clear hne1
    have HB1 := Lib.hid (hb1.mono hbase)
    have HBLK1 := Lib.hid (HBLK.out.later hb1)
    have HC1 : Hid (w1.cell? ⟨B, 0, none⟩ = some (.int .i64 t)) := Lib.hid ((hb1.cell (p := ⟨B, 0, none⟩) lB).trans HC.out)
    have hs1 : w.heap.size ≤ w1.heap.size := hb1.size
    clear hix hb1
    go_loopw [5, 6] (fun s5 s6 wr => ∃ (i j : Nat) (ys : List Note) (cs : Array Value), s5 = .int .i64 i ∧ s6 = .int .i64 j ∧ Hid (Kept2 t xs ys i j) ∧ Hid (Blk wr g 46 cs ∧ cs.size = cur.size ∧ ∀ m (h : m < ys.length) q u, (ys[m].enc)[q]? = some u → cs[o + m * 20 + q]? = some u) ∧ Hid (∀ y ∈ ys, oneN y) ∧ Hid (Below base w1 wr)) (fun _ s6 _ => n - (intOf s6).toNat)
    case atStart => exact ⟨k0, k0 + 1, xs, cur, rfl, by go_num, HST, Lib.hid ⟨HBLK1.out, rfl, HO.out⟩, HONE, Lib.hid (Below.refl _ _)⟩
    case round =>
      obtain ⟨i, j, ys, cs, rfl, rfl, hK, hR, hO, hb⟩ := hrel
      have hij := hK.out.lt
      have hjn : j ≤ n := by have := hK.out.le; have := HN.out; omega
      have hbw : base ≤ wr.heap.size := Nat.le_trans (Nat.le_trans hbase hs1) hb.out.size
      have lgr : g < wr.heap.size := hR.out.1.lt
      by_cases hlt : j < n
      · have hjx : j < xs.length := by have := HN.out; omega
        obtain ⟨x, hx⟩ : ∃ x, x = xs[j] := ⟨_, rfl⟩
        have hyj : j < ys.length := by rw [hK.out.len]; exact hjx
        have HYX : Hid (ys[j] = x) := Lib.hid ((hK.out.at_ hjx).trans hx.symm)
        have HRNG : Hid (wr.rangeAt g (o + j * 20) x.nt.enc) := Lib.hid fun q u hu => by rw [hR.out.1.cell]; exact hR.out.2.2 j hyj q u (by rw [HYX.out]; exact hu)
        have HNO : Hid (oneN x) := Lib.hid (by have := hO.out ys[j] (List.getElem_mem hyj); rw [HYX.out] at this; exact this)
        have HX : Hid (∃ h : j < xs.length, x = xs[j]) := Lib.hid ⟨hjx, hx⟩
        clear HYX
        clear hjx hyj hx
        have tok : True := trivial
        go_upto_region 8 with (first
          | (have _t := tok; refine wpList_load_mid rfl 46 _ rfl g (o + j * 20) rfl x.nt.enc _ HRNG.out UN rfl sizeNote ?_; clear tok)
          | (refine wpList_store_blk rfl 46 _ _ rfl wr.heap.size 46 Nt0.enc.toArray x.nt.enc.toArray rfl rfl (Blk.new wr _ _) (by rfl) sizeNote HNO.out ?_; intro w4 hX4 hg4 hs4))
        have hb4 : Below wr.heap.size wr w4 := (below_alloc0 _).grown hg4 (by simp) (fun i e => by cases e; exact Nat.le_refl _)
        have hBase4 : Below base w1 w4 := hb.out.trans (hb4.mono hbw)
        have HB4 := Lib.hid hBase4
        have hR4 : Blk w4 g 46 cs := hR.out.1.later hb4
        have HR4 := Lib.hid hR4
        have hcB : w4.cell? ⟨B, 0, none⟩ = some (.int .i64 t) := (hBase4.cell (p := ⟨B, 0, none⟩) hB).trans HC1.out
        have lB4 : B < w4.heap.size := Nat.lt_of_lt_of_le hB (Nat.le_trans hbw hb4.size)
        have hlat := later_any t B x w4 lB4 hcB
        have HX4 := Lib.hid hX4
        have hbw4 : base ≤ w4.heap.size := Nat.le_trans hbw hb4.size
        have lg4 : g < w4.heap.size := hR4.lt
        obtain ⟨p, hp⟩ : ∃ p, wr.heap.size = p := ⟨_, rfl⟩
        have HP : Hid (g < p) := Lib.hid (by rw [← hp]; exact lgr)
        rw [hp] at HX4 ⊢
        clear hb4 hg4 hs4 hX4 hBase4 hR4 hcB hp HRNG
        cases hz : later t x with
        | true =>
          rw [hz] at hlat
          have HST2 := Lib.hid (by obtain ⟨h, e⟩ := HX.out; exact hK.out.skip h (by rw [← e]; exact hz))
          clear hz
          have tok : True := trivial
          go_wp2_with (first
            | (have _t := tok; refine wpList_load_blk rfl 46 _ rfl p 46 _ _ rfl HX4.out UN rfl sizeNote ?_; clear tok)
            | (go_at_call 48; (with_reducible refine hlat.mono ?_); rintro e w5 ⟨rfl, hg5⟩))
          have hb5 := hg5.below
          go_roundw
          case rel => exact ⟨i, j + 1, ys, cs, rfl, by simp, HST2, Lib.hid ⟨HR4.out.later hb5, hR.out.2.1, hR.out.2.2⟩, hO, Lib.hid (HB4.out.trans (hb5.mono hbw4))⟩
          case measure => simp [intOf]; omega
        | false =>
          rw [hz] at hlat
          have HST2 := Lib.hid (by obtain ⟨h, e⟩ := HX.out; have := hK.out.keep h (by rw [← e]; exact hz); rw [← e] at this; exact this)
          clear hz
          have tok : True := trivial
          go_upto_region 9 with (first
            | (have _t := tok; refine wpList_load_blk rfl 46 _ rfl p 46 _ _ rfl HX4.out UN rfl sizeNote ?_; clear tok)
            | (go_at_call 48; (with_reducible refine hlat.mono ?_); rintro e w5 ⟨rfl, hg5⟩))
          have hb5 := hg5.below
          have HB5 := Lib.hid (HB4.out.trans (hb5.mono hbw4))
          have HR5 := Lib.hid (HR4.out.later hb5)
          have HX5 := Lib.hid (HX4.out.later hb5)
          clear hlat hg5 hb5
          have hin : i < n := by omega
          have hic : o + i * 20 + 20 ≤ cs.size := by have := HOS.out; have := HN.out; have := hR.out.2.1; omega
          have HIC := Lib.hid hic
          have HSET : Hid (∀ w6, w5.setCells g (o + i * 20) x.nt.enc.toArray.toList = w6 → Blk w6 g 46 (setFrom cs (o + i * 20) x.nt.enc) ∧ w5.grownBy w6 (some g)) := Lib.hid fun w6 e => by
            subst e
            exact ⟨HR5.out.setCells x.nt.enc (o + i * 20), (grown_setCells w5 g x.nt.enc (o + i * 20)).1⟩
          have hbw5 : base ≤ w5.heap.size := Nat.le_trans (Nat.le_trans hbase hs1) HB5.out.size
          clear hic
          have tok : True := trivial
          go_wp2_with (first
            | (have _t := tok; refine wpList_load_blk rfl 46 _ rfl p 46 _ _ rfl HX5.out UN rfl sizeNote ?_; clear tok)
            | (refine wpList_store_mid rfl 46 _ _ rfl g (o + i * 20) x.nt.enc.toArray rfl rfl (there_blk_at HR5.out (o + i * 20) 20 HIC.out) sizeNote HNO.out ?_; obtain ⟨w6, hw6⟩ : ∃ w6, w5.setCells g (o + i * 20) x.nt.enc.toArray.toList = w6 := ⟨_, rfl⟩; rw [hw6]; have h6 := Lib.hid (HSET.out w6 hw6); clear hw6))
          go_roundw
          case rel =>
            refine ⟨i + 1, j + 1, ys.set i x, setFrom cs (o + i * 20) x.nt.enc, by simp, by simp, HST2, Lib.hid ⟨h6.out.1, by rw [setFrom_size]; exact hR.out.2.1, fun m hm q u hu => ?_⟩, Lib.hid fun y hy => ?_, Lib.hid (HB5.out.grown h6.out.2 hbw5 (fun k e => by cases e; exact hbg))⟩
            · have hq : q < 20 := (List.getElem?_eq_some_iff.1 hu).1
              rw [setFrom_get x.nt.enc (o + i * 20) cs _ HIC.out]
              rw [List.length_set] at hm
              by_cases e : m = i
              · subst e
                rw [List.getElem_set_self] at hu
                rw [if_pos (by constructor <;> simp <;> omega), show o + m * 20 + q - (o + m * 20) = q by omega]
                exact hu
              · rw [List.getElem_set_ne (fun h => e h.symm)] at hu
                rw [if_neg (by simp; omega)]
                exact hR.out.2.2 m hm q u hu
            · rcases List.mem_or_eq_of_mem_set hy with hy | rfl
              · exact hO.out y hy
              · exact HNO.out
          case measure => simp [intOf]; omega
      · have HJN : Hid (j = n) := Lib.hid (by omega)
        have hin : i < n := by have := HJN.out; omega
        have hfl : ((xs.filter (known t))).length = i := by have h1 := hK.out.count; rw [List.take_of_length_le (by have := HN.out; have := HJN.out; omega)] at h1; exact h1
        have hfi : ys.take i = xs.filter (known t) := by have h1 := hK.out.low; rw [List.take_of_length_le (l := xs) (by have := HN.out; have := HJN.out; omega)] at h1; exact h1
        have hzs : (Value.agg Nt0.enc.toArray).cells = Nt0.enc.toArray := by rfl
        have hon : Nt0.enc.toArray.all (·.oneCell') = true := by simp [Value.oneCell']
        have hth : wr.there g (o + i * 20) ((n - i) * 20) := there_blk_at hR.out.1 (o + i * 20) ((n - i) * 20) (by have := HOS.out; have := HN.out; have := hR.out.2.1; omega)
        have qcl : ∀ ty, (Builtin.clear_ #[24] ty #[.slice (some ⟨g, o + i * 20, none⟩) (n - i) (cap - i)]).run Tryz.prog wr = .ok (.tuple #[]) (wr.setCells g (o + i * 20) (Builtin.zeroCells Nt0.enc.toArray (n - i)).toList) := fun ty =>
          run_clear_mid wr _ 46 ty _ UNs zeroNote hzs (zeroCells_one hon 1) g (o + i * 20) (n - i) (cap - i) (by omega) hth (zeroCells_one hon _)
        have HFL := Lib.hid hfl
        have HFI := Lib.hid hfi
        have hic : i < cap := by omega
        obtain ⟨w6, hw6⟩ : ∃ w6, wr.setCells g (o + i * 20) (Builtin.zeroCells Nt0.enc.toArray (n - i)).toList = w6 := ⟨_, rfl⟩
        rw [hw6] at qcl
        have H6 : Hid (Blk w6 g 46 (setFrom cs (o + i * 20) (Builtin.zeroCells Nt0.enc.toArray (n - i)).toList) ∧ wr.grownBy w6 (some g)) := Lib.hid (by rw [← hw6]; exact ⟨hR.out.1.setCells _ _, (grown_setCells wr g _ _).1⟩)
        have HSZ : Hid (o + i * 20 + (Builtin.zeroCells Nt0.enc.toArray (n - i)).toList.length ≤ cs.size) := Lib.hid (by
          have h1 : (Builtin.zeroCells Nt0.enc.toArray (n - i)).toList.length = (n - i) * 20 := by simp [Builtin.zeroCells]
          rw [h1]
          have := HOS.out; have := HN.out; have := hR.out.2.1; omega)
        clear hfl hfi hzs hon hth hw6 hij hjn
        go_wp2
        go_ret
        refine ⟨some ⟨g, o, none⟩, cap, by rw [HFL.out]; rfl, ?_, (HB1.out.trans hb.out).grown H6.out.2 hbw (fun k e => by cases e; exact hbg)⟩
        refine RowsAt.mk (by unfold maxLen; have := HFL.out; omega) H6.out.1.lt fun m hm q u hu => ?_
        have hq : q < 20 := (List.getElem?_eq_some_iff.1 hu).1
        rw [HFL.out] at hm
        have hmy : m < ys.length := by have := hK.out.len; have := HN.out; omega
        rw [H6.out.1.cell, setFrom_get _ _ _ _ HSZ.out, if_neg (by omega)]
        refine hR.out.2.2 m hmy q u ?_
        have : ys[m] = (xs.filter (known t))[m]'(by have := HFL.out; omega) := by
          have h1 := congrArg (fun l => l[m]?) HFI.out
          simp only [List.getElem?_take, if_pos hm] at h1
          rw [List.getElem?_eq_getElem hmy, List.getElem?_eq_getElem (by have := HFL.out; omega)] at h1
          exact Option.some.inj h1
        rw [this]
        exact hu
end Go.Proofs.YtlamogpdkmbeoaaGreatDoor
end PartDelN

section PartAsOfK
/- 'AsOf' at any clock. -/
set_option maxRecDepth 100000
namespace Go.Proofs.YtlamogpdkmbeoaaGreatDoor
open Go.RowKit Go.Lib Go.Shelf Go.Maps

theorem cloneOwn_any (v : Value) (xs : List Note) (w : World) (h : RowsAt Note.enc 20 w v xs) (hl : xs.length ≤ 1000000) (hone : ∀ x ∈ xs, oneN x) :
    Calls Tryz.prog 47 #[v] w fun e w' => ∃ v', e = .returned v' ∧ w'.ownsRow w.heap.size 46 20 v' xs.length (xs.flatMap Note.enc) ∧ Below w.heap.size w w' := by
  obtain ⟨i0, hi, hz0, hz1, hz2⟩ := infoNote'
  have ho : ∀ u ∈ xs.flatMap Note.enc, u.oneCell' = true := fun u hu => by
    obtain ⟨x, hx, hu⟩ := List.mem_flatMap.1 hu
    exact ones_of (hone x hx) u hu
  rcases h.place with ⟨rfl, A, c, rfl⟩ | ⟨b, o, c, rfl, h0, hm, hb, hc⟩
  · cases A with
    | none => exact (AnyE.slices_Clone_nil Tryz.cloneNotes 0 c w).mono fun e w' ⟨h1, h2⟩ => ⟨_, h1, by rw [h2]; exact World.ownsRow_nil _ _ _ _, by rw [h2]; exact Below.refl _ _⟩
    | some a => exact (cloneNotes_zero a c w).mono fun e w' ⟨v', h1, h2, h3⟩ => ⟨v', h1, h2, h3⟩
  · refine (AnyE.slices_Clone Tryz.cloneNotes i0 _ 20 224 hi hz0 hz1 hz2 rfl (by decide) Tryz.sizeOf46 b o xs.length c (xs.flatMap Note.enc) w (flat_len 20 (fun _ => rfl) xs) h.max (by omega) (news_of_rows 20 (fun _ => rfl) hc) ho).mono ?_
    rintro e w' ⟨v', rfl, h1, _, h2⟩
    exact ⟨v', rfl, h1, h2⟩
/-- What 'AsOf' hands back. -/
def KnownOut (o : Lay) (q t : Int) (xs : List Note) (w : World) (rv : Value) (er : Int) : Prop :=
  ((setB o xs && inB q 1 8) = true ∧ er = 0 ∧ ∃ L ds ev u1 u2 u3 pvv u4 pub es x1 x2 x3 ps x4, FoldRel q (xs.filter (known t)) w rv L ds ev u1 u2 u3 pvv u4 pub es x1 x2 x3 ps x4) ∨ ((setB o xs && inB q 1 8) = false ∧ er = 1 ∧ rv = .agg zeroReg)
theorem FoldRel.later {q : Int} {xs : List Note} {w w' : World} {rv : Value} {L : Led} {ds : List Note} {ev u1 u2 u3 pvv u4 pub : Value} {es : List Ent} {x1 : List MarkK} {x2 x3 : List DuoK} {ps : List Pend} {x4 : List NameK} (h : FoldRel q xs w rv L ds ev u1 u2 u3 pvv u4 pub es x1 x2 x3 ps x4) (hb : Below w.heap.size w w') : FoldRel q xs w' rv L ds ev u1 u2 u3 pvv u4 pub es x1 x2 x3 ps x4 :=
  ⟨h.val, h.perm, h.order, h.steps, h.led, h.good, by obtain ⟨b, hb'⟩ := h.out; exact ⟨b, hb'.later hb⟩, h.rnd⟩
set_option maxHeartbeats 4000000 in
theorem AsOfK_any (o : Lay) (q : Int) (v : Value) (xs : List Note) (t : Int) (w : World) (h : NotesAt w v xs) (hE : Env w) :
    Calls Tryz.prog 22 #[o.val, .int .i64 q, v, .int .i64 t] w fun e w' => ∃ rv er, e = .returned (.tuple #[rv, .int .i64 er]) ∧ KnownOut o q t xs w' rv er ∧ Below w.heap.size w w' := by
  have UR := Tryz.underlying32
  obtain ⟨R, hR⟩ : ∃ R, R = setB o xs := ⟨_, rfl⟩
  obtain ⟨T, hT⟩ : ∃ T, T = inB q 1 8 := ⟨_, rfl⟩
  have hiS := fun W (hb : Below w.heap.size w W) => isSet_any o v xs W (h.later hb) (hE.below hE.big hb)
  have hjw := fun W => jwithin_any q 1 8 W
  have HG : Hid (setB o xs = true → (∀ x ∈ xs, GoodN x) ∧ xs.length ≤ 2000) := Lib.hid (fun e => ⟨fun x hx => goodN (setB_good e x hx), setB_len e⟩)
  unfold KnownOut
  rw [← hR] at hiS HG ⊢
  rw [← hT] at hjw ⊢
  clear hR hT
  have HN := Lib.hid h
  obtain ⟨A, c, rfl⟩ := h.row.len
  obtain ⟨o1, o2, o3⟩ := o
  dsimp only [Lay.val] at hiS ⊢
  obtain ⟨W, hW⟩ : ∃ W, ((w.alloc (.cells #[.bool o1, .bool o2, .bool o3] 23)).alloc (.cells #[.int .i64 t] 3)).alloc (.cells zeroReg 32) = W := ⟨_, rfl⟩
  have hb : Below w.heap.size w W := by rw [← hW]; exact (((Below.refl _ w).alloc (Nat.le_refl _) _).alloc (by simp) _).alloc (by simp; omega) _
  have hO : Blk W w.heap.size 23 #[.bool o1, .bool o2, .bool o3] := by rw [← hW]; exact ((Blk.new w _ _).alloc _).alloc _
  have hC : Blk W (w.heap.size + 1) 3 #[.int .i64 t] := by rw [← hW]; have := (Blk.new (w.alloc (.cells #[.bool o1, .bool o2, .bool o3] 23)) 3 #[.int .i64 t]).alloc (.cells zeroReg 32); rwa [World.size_alloc] at this
  have hZ : Blk W (w.heap.size + 1 + 1) 32 zeroReg := by rw [← hW]; have := Blk.new ((w.alloc (.cells #[.bool o1, .bool o2, .bool o3] 23)).alloc (.cells #[.int .i64 t] 3)) 32 zeroReg; simp only [World.size_alloc] at this; exact this
  have c0 : W.cell? ⟨w.heap.size, 0, none⟩ = some (.bool o1) := hO.cell 0
  have c1 : W.cell? ⟨w.heap.size, 1, none⟩ = some (.bool o2) := hO.cell 1
  have c2 : W.cell? ⟨w.heap.size, 2, none⟩ = some (.bool o3) := hO.cell 2
  have HB := Lib.hid hb
  have HC := Lib.hid hC
  have HZ := Lib.hid hZ
  have hi := hiS W hb
  clear hb hO hC hZ hE h hiS
  go_enter Tryz.func22, Tryz.ntmps22
  go_upto_region 1 with fail
  have hbad : ∀ (w1 w6 : World), Below W.heap.size W w1 → (R && T) = false → w1.grownBy w6 (some (w.heap.size + 1 + 1)) → ∃ (rv : Value) (er : Int), Ending.returned (.tuple #[.agg zeroReg, .int .i64 1]) = Ending.returned (.tuple #[rv, .int .i64 er]) ∧ (((R && T) = true ∧ er = 0 ∧ ∃ L ds ev u1 u2 u3 pvv u4 pub es x1 x2 x3 ps x4, FoldRel q (xs.filter (known t)) w6 rv L ds ev u1 u2 u3 pvv u4 pub es x1 x2 x3 ps x4) ∨ ((R && T) = false ∧ er = 1 ∧ rv = .agg zeroReg)) ∧ Below w.heap.size w w6 := fun w1 w6 hb1 hRT hg =>
    ⟨_, _, rfl, .inr ⟨hRT, rfl, rfl⟩, (HB.out.trans (hb1.mono HB.out.size)).grown hg (by have := HB.out.size; have := hb1.size; omega) (fun k e => by cases e; omega)⟩
  have HBAD := Lib.hid hbad
  clear hbad
  clear hW
  have oz := oneZero
  cases R
  · clear hjw
    go_wp2_with (first
      | (go_at_call 31; refine hi.mono ?_; rintro e w1 ⟨rfl, hb1⟩)
      | (refine wpList_store_blk rfl 32 _ _ rfl (w.heap.size + 1 + 1) 32 _ _ rfl rfl (HZ.out.later hb1) (by rfl) sizeReg oz ?_; intro w6 hZ6 hg6 hs6))
    exact bodyPost_ret (results_cellb Tryz.results22 rfl hZ6 UR rfl sizeReg) rfl (HBAD.out _ _ hb1 rfl hg6)
  · cases T
    · go_wp2_with (first
        | (go_at_call 31; refine hi.mono ?_; rintro e w1 ⟨rfl, hb1⟩)
        | (go_at_call 45; refine (hjw _).mono ?_; rintro e w2 ⟨rfl, rfl⟩)
        | (refine wpList_store_blk rfl 32 _ _ rfl (w.heap.size + 1 + 1) 32 _ _ rfl rfl (HZ.out.later hb1) (by rfl) sizeReg oz ?_; intro w6 hZ6 hg6 hs6))
      exact bodyPost_ret (results_cellb Tryz.results22 rfl hZ6 UR rfl sizeReg) rfl (HBAD.out _ _ hb1 rfl hg6)
    · obtain ⟨hgood, hlen⟩ := HG.out rfl
      have HGD := Lib.hid hgood
      have HLEN := Lib.hid hlen
      clear hgood hlen
      go_upto_region 3 with (first
        | (go_at_call 31; refine hi.mono ?_; rintro e w1 ⟨rfl, hb1⟩)
        | (go_at_call 45; refine (hjw _).mono ?_; rintro e w2 ⟨rfl, rfl⟩))
      have HB1 : Hid (Below w.heap.size w w1) := Lib.hid (HB.out.trans (hb1.mono HB.out.size))
      have HZ1 := Lib.hid (HZ.out.later hb1)
      have HC1 := Lib.hid (HC.out.later hb1)
      have hN1 := HN.out.later HB1.out
      have hcl := cloneOwn_any _ xs w1 hN1.row (by have := HLEN.out; omega) (fun x hx => note_one (hN1.each x hx))
      clear hi hb1 c0 c1 c2 hjw
      have hlC := HC1.out.lt
      have hdel := fun (V : Value) (w2 : World) (hV : w2.ownsRow w1.heap.size 46 20 V xs.length (xs.flatMap Note.enc)) (hb : Below w1.heap.size w1 w2) => delete_known t (w.heap.size + 1) w1.heap.size V xs w2 hV hb.size (fun x hx => note_one (hN1.each x hx)) hlC ((HC1.out.later hb).cell 0) HLEN.out
      have HDEL := Lib.hid hdel
      have HN1 := Lib.hid hN1
      clear hdel hN1
      go_upto_region 4 with (first
        | (go_at_call 47; refine hcl.mono ?_; rintro e w2 ⟨V, rfl, hV, hb2⟩; obtain ⟨A2, m2, k2, rfl⟩ := own_slice hV)
        | (go_at_call 46; refine (HDEL.out _ w2 hV hb2).mono ?_; rintro e w3 ⟨A3, k3, rfl, hR3, hb3⟩))
      have HB3 : Hid (Below w1.heap.size w1 w3) := Lib.hid (hb2.trans hb3)
      have hN3 : NotesAt w3 (.slice A3 (xs.filter (known t)).length k3) (xs.filter (known t)) := ⟨hR3, fun x hx => (HN1.out.each x (List.mem_filter.1 hx).1).later HB3.out⟩
      have HLF : Hid ((xs.filter (known t)).length ≤ 2000) := Lib.hid (Nat.le_trans (List.length_filter_le _ _) HLEN.out)
      have hent := enter_any _ (xs.filter (known t)) w3 hN3 HLF.out (fun x hx => (HGD.out x (List.mem_filter.1 hx).1).note (hN3.each x hx))
      have HN3 := Lib.hid hN3
      clear hcl hV hb2 hb3 hN3 hR3
      have hreg := fun (g : Nat) (L : Led) (ds : List Note) (w4 : World) (hp : ds.Perm (xs.filter (known t))) (hst : Steps Led0 ds L) (hL : LedAt (fun k => w3.heap.size ≤ k) w3.heap.size w4 g L) (hb : Below w3.heap.size w3 w4) =>
        have hgd : ∀ x ∈ ds, GoodN x := fun x hx => HGD.out x (List.mem_filter.1 (hp.mem_iff.1 hx)).1
        have hAt : ∀ x ∈ ds, x.At w4 := fun x hx => (HN3.out.each x (hp.mem_iff.1 hx)).later hb
        have hln : ds.length ≤ 2000 := by rw [hp.length_eq]; exact HLF.out
        have hlo := ledOf hst (fun x hx => (hgd x hx).kind)
        register_any q w4 hL (hlo.issOk hgd hAt hln) (by have := hlo.rulingsN; omega) (hlo.rulOk hgd hAt hln) (by have := hlo.conflicts; omega)
      have HREG := Lib.hid hreg
      clear hreg
      go_wp2_with (first
        | (go_at_call 32; refine hent.mono ?_; rintro e w4 ⟨g, L, ds, rfl, hp, hor, hst, hsz, hL, hb4⟩)
        | (go_at_call 49; refine (HREG.out g L ds w4 hp hst hL hb4).mono ?_; rintro e w5 ⟨ev, u1, u2, u3, pvv, u4, pub, es, x1, x2, x3, ps, x4, s, rfl, hs, hout, hb5⟩
           have oall : (#[ev, u1, u2, u3, pvv, pub, .int .i64 L.hash, u4] : Array Value).all (·.oneCell') = true := by rw [List.all_toArray]; simp only [List.all_cons, List.all_nil, own_one hout.ents.row, hout.struck.one_of, hout.force.one_of, hout.forbid.one_of, hout.pend.one_of, hout.published.one_of, hout.conflicts.one_of]; rfl
           have hB5 : Below w1.heap.size w1 w5 := (HB3.out.trans (hb4.mono HB3.out.size)).trans (hb5.mono (by have := HB3.out.size; have := hb4.size; omega)))
        | (refine wpList_store_blk rfl 32 _ _ rfl (w.heap.size + 1 + 1) 32 _ _ rfl rfl (HZ1.out.later hB5) (by rfl) sizeReg oall ?_; intro w6 hZ6 hg6 hs6))
      refine bodyPost_ret (results_cellb Tryz.results22 rfl hZ6 UR rfl sizeReg) rfl ⟨_, _, rfl, .inl ⟨rfl, rfl, L, ds, ev, u1, u2, u3, pvv, u4, pub, es, x1, x2, x3, ps, x4, rfl, hp, hor, hst, ledOf hst (fun x hx => (HGD.out x (List.mem_filter.1 (hp.mem_iff.1 hx)).1).kind), fun x hx => HGD.out x (List.mem_filter.1 (hp.mem_iff.1 hx)).1, ⟨w4.heap.size, ?_⟩, by obtain ⟨_, _, _, _, _, _, _, hL'⟩ := hL; exact hL'.rApart⟩, ?_⟩
      · rw [hs] at hout
        exact hout.off (HZ1.out.later hB5) hg6
      · exact (HB1.out.trans (hB5.mono HB1.out.size)).grown hg6 (by have := HB1.out.size; have := hB5.size; omega) (fun k e => by cases e; omega)
end Go.Proofs.YtlamogpdkmbeoaaGreatDoor
end PartAsOfK
