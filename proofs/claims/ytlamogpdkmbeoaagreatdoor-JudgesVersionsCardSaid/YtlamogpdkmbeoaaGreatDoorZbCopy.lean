/- The texts MapS, Told, CloneA, CopyA in one. -/
import Derived.Test.YtlamogpdkmbeoaaGreatDoorZbLed
import Derived.Test.YtlamogpdkmbeoaaGreatDoorZbShelfB
import Derived.Shelf.SlIterI.Nil
import Derived.Shelf.SlIter.Nil
import Derived.Test.YtlamogpdkmbeoaaGreatDoorZbSeq
import Derived.Test.YtlamogpdkmbeoaaGreatDoorZbEff
set_option linter.unusedVariables false
set_option linter.unusedSimpArgs false
section PartMapS
/- The sorted keys of the ledger's maps: judges (whole numbers), calls (strings). -/
set_option maxRecDepth 100000
namespace Go.Proofs.YtlamogpdkmbeoaaGreatDoor
open Go.RowKit Go.Lib Go.Shelf Go.Maps Go.Sort

theorem MapOf.owns {κ ν : Type} [DecidableEq κ] {P : Program} {w : World} {k : TypeId} {kenc : κ → Value} {venc : ν → Value} {b : Nat} {m : List (κ × ν)} (h : MapOf w P k kenc venc b m) (kl : κ → Lit) (hkl : ∀ p ∈ m, keyOf P k (kenc p.1) = some (kl p.1)) (hm : m.length ≤ maxLen) :
    ∃ E : List (Lit × DataW Unit), w.ownsMap P k (fun _ => some (.nil, [])) b m.length (.map E) ∧ (E.map (·.1)).Perm (m.map (fun p => kl p.1)) ∧ E.length = m.length := by
  obtain ⟨es, clock, h⟩ := h
  have hs := h.size
  have hrd : ∀ x ∈ es.toList, ∃ p ∈ m, x.key = kenc p.1 ∧ WideElems.rd P k (fun _ => some ((DataW.nil : DataW Unit), [])) x = some (kl p.1, .nil) := fun x hx => by
    obtain ⟨j, hj⟩ := List.getElem?_of_mem hx
    obtain ⟨p, hp, hk, _⟩ := h.get hj
    have hpm := List.mem_of_getElem? hp
    refine ⟨p, hpm, hk, ?_⟩
    unfold WideElems.rd
    rw [hk, hkl p hpm]
    rfl
  refine ⟨(es.toList.map (WideElems.rg P k (fun _ => some ((DataW.nil : DataW Unit), [])))).foldr DataW.insert [], ⟨es, clock, h.at_, ⟨by omega, h.stamped, fun x hx => ?_⟩, by omega, rfl⟩, ?_, ?_⟩
  · obtain ⟨p, _, _, hr⟩ := hrd x hx
    exact ⟨_, hr⟩
  · refine ((WideShapes.sorted_perm _).map _).trans ?_
    rw [List.map_map]
    have : es.toList.map ((fun x => x.1) ∘ WideElems.rg P k (fun _ => some ((DataW.nil : DataW Unit), []))) = m.map (fun p => kl p.1) := by
      apply List.ext_getElem?
      intro j
      rw [List.getElem?_map, List.getElem?_map]
      cases he : es.toList[j]? with
      | none =>
        have : m[j]? = none := by
          rw [List.getElem?_eq_none_iff] at he ⊢
          simpa [hs] using he
        rw [this]
        rfl
      | some e =>
        obtain ⟨p, hp, hk, _⟩ := h.get he
        rw [hp]
        have hr : WideElems.rd P k (fun _ => some ((DataW.nil : DataW Unit), [])) e = some (kl p.1, .nil) := by
          unfold WideElems.rd
          rw [hk, hkl p (List.mem_of_getElem? hp)]
          rfl
        simp [WideElems.rg_of hr]
    rw [this]
  · rw [length_sorted]
    simpa using hs
theorem MapOf.kls {κ ν : Type} [DecidableEq κ] {P : Program} {w : World} {k : TypeId} {kenc : κ → Value} {venc : ν → Value} {b : Nat} {m : List (κ × ν)} (h : MapOf w P k kenc venc b m) : ∀ p ∈ m, ∃ l, keyOf P k (kenc p.1) = some l := by
  obtain ⟨es, clock, h⟩ := h
  exact h.keys

theorem sorts_ints (m : Nat) : AnyZI.SortsIn Tryz.prog Tryz.sortedInts_ren Fence.wide m :=
  ⟨fun blk off cap ss W hH hblk hsz => callsIn_wide.2 (AnyM.slices_Sort_int Tryz.sortInts blk off cap ss W hH hblk hsz),
   fun p cap W => callsIn_wide.2 (AnyM.slices_Sort_int_none Tryz.sortInts p cap W)⟩
theorem keysJudges_any (mb : Option Nat) (W : World) : Calls Tryz.prog 65 #[.map mb] W fun e w' => e = .returned (.func (.func 104) #[] #[.pointer (some ⟨W.heap.size, 0, none⟩)]) ∧ w' = W.alloc (.cells #[.map mb] 137) :=
  (callsIn_wide (n := 5)).1 (AnyZI.keys_in Tryz.keysJudges Fence.wide 5 trivial rfl mb W)
theorem sortedJudges_any (Bm b : Nat) (m : List (Int × Bool)) (w : World) (hm : MapOf w Tryz.prog 3 (fun n : Int => Value.int .i64 n) Value.bool b m) (hB : Bm < w.heap.size) (hc : w.cell? ⟨Bm, 0, none⟩ = some (.map (some b))) (hl : m.length ≤ 100000) :
    Calls Tryz.prog 64 #[.func (.func 104) #[] #[.pointer (some ⟨Bm, 0, none⟩)]] w fun e w' => ∃ (v : Value) (ss : List Int), e = .returned v ∧ ss.Perm (m.map (·.1)) ∧
      w'.ownsRow w.heap.size 3 1 v ss.length ((ss.mergeSort (fun x y => decide (x ≤ y))).map encZ) ∧ Below w.heap.size w w' := by
  have hkl : ∀ p ∈ m, keyOf Tryz.prog 3 (.int .i64 p.1) = some (.int .i64 p.1) := fun p hp => by
    obtain ⟨l, hl⟩ := hm.kls p hp
    have h1 := hl
    simp only [keyOf, Tryz.underlying3, mapKey] at h1
    split at h1
    · rename_i hh
      exact keyOf_int_mk Tryz.underlying3 hh.2
    · cases h1
  obtain ⟨E, hown, hperm, hlen⟩ := hm.owns (fun n => .int .i64 n) hkl (by unfold maxLen; omega)
  have hsz : Maps.size (.map E : DataW Unit) = m.length := hlen
  have hseq : SeqGives Fence.wide 2 Tryz.prog 104 #[.pointer (some ⟨Bm, 0, none⟩)] encZ (fun ss => ss.Perm (intKeys (.map E))) (Maps.size (.map E)) w :=
    AnyZI.keys_gives (ρ := Tryz.keysJudges_ren) { Tryz.keysJudges with } Fence.wide _ trivial rfl (by omega) Bm b _ (.map E) _ hB hc hown
  have cS := AnyZI.sorted_in Tryz.sortedInts Fence.wide 5 trivial trivial trivial trivial rfl (by omega) (sorts_ints _) (enters_of Tryz.func103 (by kernel_rfl) rfl) 104 #[.pointer (some ⟨Bm, 0, none⟩)] trivial (enters_of Tryz.func104 (by kernel_rfl) rfl) _ _ (by rw [hsz]; unfold maxLen; omega) (by rw [hsz]; omega) _ hseq
  refine ((callsIn_wide (n := 5)).1 cS).mono ?_
  rintro e w' ⟨v, ss, rfl, hS, hrow, hnil, hb⟩
  refine ⟨v, ss, rfl, hS.trans ?_, hrow, hb⟩
  have e1 : intKeys (.map E : DataW Unit) = (E.map (·.1)).map Go.intOf := by simp [intKeys, Function.comp_def]
  rw [e1]
  refine (hperm.map Go.intOf).trans ?_
  simp [Function.comp_def, Go.intOf]
theorem sorts_strs (m : Nat) : AnyZ.SortsIn Tryz.prog Tryz.sortedStrs_ren Fence.wide m :=
  ⟨fun blk off cap ss W hH hblk hsz => callsIn_wide.2 (AnyM.slices_Sort_string Tryz.sortStrs blk off cap ss W hH hblk hsz),
   fun p cap W => callsIn_wide.2 (AnyM.slices_Sort_string_none Tryz.sortStrs p cap W)⟩
theorem keysNewest_any (mb : Option Nat) (W : World) : Calls Tryz.prog 124 #[.map mb] W fun e w' => e = .returned (.func (.func 150) #[] #[.pointer (some ⟨W.heap.size, 0, none⟩)]) ∧ w' = W.alloc (.cells #[.map mb] 204) :=
  (callsIn_wide (n := 5)).1 (AnyZ.keys_in Tryz.keysNewest Fence.wide 5 trivial rfl mb W)
theorem sortedCalls_any {ν : Type} (venc : ν → Value) (Bm b : Nat) (m : List (ByteArray × ν)) (w : World) (hm : MapOf w Tryz.prog 9 Value.string venc b m) (hB : Bm < w.heap.size) (hc : w.cell? ⟨Bm, 0, none⟩ = some (.map (some b))) (hl : m.length ≤ 100000) :
    Calls Tryz.prog 123 #[.func (.func 150) #[] #[.pointer (some ⟨Bm, 0, none⟩)]] w fun e w' => ∃ (v : Value) (ss : List (List UInt8)), e = .returned v ∧ ss.Perm (m.map (fun p => p.1.data.toList)) ∧
      w'.ownsRow w.heap.size 9 1 v ss.length ((ss.mergeSort (fun x y => decide (x ≤ y))).map encStr) ∧ Below w.heap.size w w' := by
  have hkl : ∀ p ∈ m, keyOf Tryz.prog 9 (.string p.1) = some (.string p.1.data.toList) := fun p hp => by
    obtain ⟨l, hl⟩ := hm.kls p hp
    have h1 := hl
    simp only [keyOf, Tryz.underlying9, mapKey] at h1
    split at h1
    · rename_i hh
      exact WideMaps.keyOf_string_mk Tryz.underlying9 hh
    · cases h1
  obtain ⟨E, hown, hperm, hlen⟩ := hm.owns (fun s => .string s.data.toList) hkl (by unfold maxLen; omega)
  have hsz : Maps.size (.map E : DataW Unit) = m.length := hlen
  have hseq : SeqGives Fence.wide 2 Tryz.prog 150 #[.pointer (some ⟨Bm, 0, none⟩)] encStr (fun ss => ss.Perm (strKeys (.map E))) (Maps.size (.map E)) w :=
    AnyZ.keys_gives (ρ := Tryz.keysNewest_ren) { Tryz.keysNewest with } Fence.wide _ trivial rfl (by omega) Bm b _ (.map E) _ hB hc hown
  have cS := AnyZ.sorted_in Tryz.sortedStrs Fence.wide 5 trivial trivial trivial trivial rfl (by omega) (sorts_strs _) (enters_of Tryz.func149 (by kernel_rfl) rfl) 150 #[.pointer (some ⟨Bm, 0, none⟩)] trivial (enters_of Tryz.func150 (by kernel_rfl) rfl) _ _ (by rw [hsz]; unfold maxLen; omega) (by rw [hsz]; omega) _ hseq
  refine ((callsIn_wide (n := 5)).1 cS).mono ?_
  rintro e w' ⟨v, ss, rfl, hS, hrow, hnil, hb⟩
  refine ⟨v, ss, rfl, hS.trans ?_, hrow, hb⟩
  have e1 : strKeys (.map E : DataW Unit) = (E.map (·.1)).map Go.strOf := by simp [strKeys, Function.comp_def]
  rw [e1]
  refine (hperm.map Go.strOf).trans ?_
  simp [Function.comp_def, Go.strOf]
end Go.Proofs.YtlamogpdkmbeoaaGreatDoor
end PartMapS

section PartTold
/- 'told': a ruling as it is told. -/
set_option maxRecDepth 100000
namespace Go.Proofs.YtlamogpdkmbeoaaGreatDoor
open Go.RowKit Go.Lib Go.Shelf Go.Maps

theorem own_one {w : World} {base : Nat} {e : TypeId} {size : Nat} {v : Value} {n : Nat} {xs : List Value} (h : w.ownsRow base e size v n xs) : v.oneCell' = true := by
  rcases h.2 with ⟨rfl, _⟩ | ⟨g, cap, cur, rfl, _⟩ <;> rfl
theorem own_slice {w : World} {base : Nat} {e : TypeId} {size : Nat} {v : Value} {n : Nat} {xs : List Value} (h : w.ownsRow base e size v n xs) : ∃ A m c, v = .slice A m c := by
  rcases h.2 with ⟨rfl, _⟩ | ⟨g, cap, cur, rfl, _⟩ <;> exact ⟨_, _, _, rfl⟩
theorem sizeRuling : (Tryz.prog.info? 53).map (·.size) = some 3 := by kernel_rfl
set_option maxHeartbeats 4000000 in
theorem told_any (x : RulB) (w : World) (hR : Blk w x.r 139 x.cells) (hM : MapOf w Tryz.prog 3 encI' Value.bool x.j x.judges) (hl : x.judges.length ≤ 100000) :
    Calls Tryz.prog 33 #[encP x.r] w fun e w' => ∃ (v : Value) (js : List Int), e = .returned (.agg #[.int .i64 x.note.nt.judge, .int .i64 x.note.nt.num, v]) ∧ js.Perm (x.judges.map (·.1)) ∧
      w'.ownsRow w.heap.size 3 1 v js.length ((js.mergeSort (fun x y => decide (x ≤ y))).map encI') ∧ Below w.heap.size w w' := by
  obtain ⟨r, j, ⟨nt, jl, ls⟩, judges⟩ := x
  dsimp only [RulB.cells, Note.enc, encP] at *
  have UN := Tryz.underlying46
  have hn1 := fun W => nameOf_any nt W
  obtain ⟨judge, num, clock, kind, call, version, ⟨lcall, cat, pow, cl, vj, vl⟩, aC, aN, bCc, bNn, rJ, rN, hash, prev⟩ := nt
  dsimp only [Nt.enc] at *
  have c20 : w.cell? ⟨r, 20, none⟩ = some (.map (some j)) := hR.cell 20
  have hrng : w.rangeAt r 0 (Nt.enc ⟨judge, num, clock, kind, call, version, ⟨lcall, cat, pow, cl, vj, vl⟩, aC, aN, bCc, bNn, rJ, rN, hash, prev⟩) := fun i u hu => by
    rw [hR.cell, Nat.zero_add]
    have hi : i < 20 := (List.getElem?_eq_some_iff.1 hu).1
    rw [show ([Value.int .i64 judge, .int .i64 num, .int .i64 clock, .int .i64 kind, .string call, .int .i64 version, .string lcall, .int .i64 cat, .int .i64 pow, .int .i64 cl, vj, vl, .string aC, .int .i64 aN, .string bCc, .int .i64 bNn, .int .i64 rJ, .int .i64 rN, .int .i64 hash, .int .i64 prev] ++ [Value.map (some j)]).toArray[i]? = ([Value.int .i64 judge, .int .i64 num, .int .i64 clock, .int .i64 kind, .string call, .int .i64 version, .string lcall, .int .i64 cat, .int .i64 pow, .int .i64 cl, vj, vl, .string aC, .int .i64 aN, .string bCc, .int .i64 bNn, .int .i64 rJ, .int .i64 rN, .int .i64 hash, .int .i64 prev] ++ [Value.map (some j)])[i]? from by simp, List.getElem?_append_left (by simpa using hi)]
    exact hu
  have HM := Lib.hid hM
  have HRNG := Lib.hid hrng
  have lR := hR.lt
  clear hM hrng hR
  go_enter Tryz.func33, Tryz.ntmps33
  go_upto_region 1 with fail
  obtain ⟨W, hW⟩ : ∃ W, w.alloc (.cells #[.int .i64 0, .int .i64 0, .slice none 0 0] 53) = W := ⟨_, rfl⟩
  rw [hW]
  have hb0 : Below w.heap.size w W := by rw [← hW]; exact below_alloc0 _
  have hZ : Blk W w.heap.size 53 #[.int .i64 0, .int .i64 0, .slice none 0 0] := by rw [← hW]; exact Blk.new w _ _
  have hsW : w.heap.size < W.heap.size := hZ.lt
  have HZ := Lib.hid hZ
  have HB := Lib.hid hb0
  clear hW hZ hb0
  have hS : ∀ w3 : World, Below W.heap.size W w3 → w3.cell? ⟨r, 20, none⟩ = some (.map (some j)) ∧ w3.rangeAt r 0 (Nt.enc ⟨judge, num, clock, kind, call, version, ⟨lcall, cat, pow, cl, vj, vl⟩, aC, aN, bCc, bNn, rJ, rN, hash, prev⟩) := fun w3 hb =>
    have hb' : Below w.heap.size w w3 := HB.out.trans (hb.mono HB.out.size)
    ⟨(hb'.cell (p := ⟨r, 20, none⟩) lR).trans c20, fun i u hu => (hb'.cell (p := ⟨r, 0 + i, none⟩) lR).trans (HRNG.out i u hu)⟩
  have HS := Lib.hid hS
  clear hS
  refine wp_region_late (S := (fun w' => w'.cell? ⟨r, 20, none⟩ = some (.map (some j)) ∧ w'.rangeAt r 0 (Nt.enc ⟨judge, num, clock, kind, call, version, ⟨lcall, cat, pow, cl, vj, vl⟩, aC, aN, bCc, bNn, rJ, rN, hash, prev⟩))) [12] (by kernel_rfl) ?hS1 (fun hHeld => ?_)
  case hS1 => exact HS.out _ (Below.refl _ _).drew
  refine tl1 (i := 0) ?_; try simp only [Act.put, zq]
  refine tl1 (i := 1) ?_; try simp only [Act.put, zq]
  refine tl1 (i := 2) ?_; try simp only [Act.put, zq]
  refine' wpAnyL_take (i := 3) rfl (by kernel_rfl) (by kernel_rfl) (by kernel_rfl) (by kernel_rfl) (by kernel_rfl) (by kernel_rfl) (fun _ _ _ h => h) (yieldsIf_load_mid (by kernel_rfl) _ _ rfl _ _ rfl _ _ (fun w9 hSw => hSw.2) ?hu1_4 ?hd1_4 ?hi1_4) (by assumption) ?_
  case hu1_4 => assumption
  case hd1_4 => rfl
  case hi1_4 => (first | assumption | kernel_rfl)
  (try simp only [Act.put, zq])
  refine tl1 (i := 5) ?_; try simp only [Act.put, zq]
  refine tl1 (i := 6) ?_; try simp only [Act.put, zq]
  refine tl1 (i := 7) ?_; try simp only [Act.put, zq]
  refine tl2 (i := 8) ?_; try simp only [Act.put, zq]
  refine wpAnyL_ready (rs := [4]) (by kernel_rfl) (by simp) ?_
  refine AllReadyL.cons rfl (fun K hK => ?_) AllReadyL.nil
  go_simp
  (go_at_call 54; ((with_reducible refine (hn1 _).mono ?_); rintro e w4 ⟨rfl, hg4⟩); have hb4 : Below W.heap.size W w4 := (Below.refl _ W).drew.trans hg4.below)
  go_wp2_with fail
  refine hK.out _ _ ?hS1_9 (fun hHeld => ?_)
  case hS1_9 => ((try dsimp only); exact HS.out _ hb4)
  clear hK K
  (try simp only [Act.put, zq])
  refine wpAnyL_ready (rs := [9]) (by kernel_rfl) (by simp) ?_
  refine AllReadyL.cons rfl (fun K hK => ?_) AllReadyL.nil
  go_simp
  (go_at_call 65; refine (keysJudges_any (some j) _).mono ?_; rintro e w5 ⟨rfl, hw5⟩; have hb5 : Below W.heap.size W w5 := (by rw [hw5]; exact hb4.alloc hb4.size _); have hk5 : w5.cell? ⟨w4.heap.size, 0, none⟩ = some (.map (some j)) := (by rw [hw5]; exact (Blk.new w4 137 #[.map (some j)]).cell 0); have hl5 : w4.heap.size < w5.heap.size := (by rw [hw5]; simp); have hm5 : MapOf w5 Tryz.prog 3 encI' Value.bool j judges := HM.out.block ((HB.out.trans (hb5.mono HB.out.size)).block j HM.out.lt); clear hw5)
  go_wp2_with fail
  refine hK.out _ _ ?hS1_10 (fun hHeld => ?_)
  case hS1_10 => ((try dsimp only); exact HS.out _ hb5)
  clear hK K
  (try simp only [Act.put, zq])
  refine wpAnyL_ready (rs := [10]) (by kernel_rfl) (by simp) ?_
  refine AllReadyL.cons rfl (fun K hK => ?_) AllReadyL.nil
  go_simp
  (go_at_call 64; refine (sortedJudges_any w4.heap.size j judges w5 hm5 hl5 hk5 hl).mono ?_; rintro e w6 ⟨v, ss, rfl, hp, hrow, hb6⟩; obtain ⟨A6, m6, c6, rfl⟩ := own_slice hrow; have hb7 : Below W.heap.size W w6 := hb5.trans (hb6.mono hb5.size))
  go_wp2_with fail
  refine hK.out _ _ ?hS1_11 (fun hHeld => ?_)
  case hS1_11 => ((try dsimp only); exact HS.out _ hb7)
  clear hK K
  (try simp only [Act.put, zq])
  refine tl1 (i := 11) ?_; try simp only [Act.put, zq]
  refine wpAnyL_ready (rs := [12]) (by kernel_rfl) (by simp) ?_
  refine AllReadyL.late rfl (by kernel_rfl) (fun K hK => ?_) AllReadyL.nil
  (rw [if_pos (by kernel_rfl)]; refine wp_store_blk 53 _ _ rfl w.heap.size 53 #[.int .i64 0, .int .i64 0, .slice none 0 0] #[.int .i64 judge, .int .i64 num, .slice A6 m6 c6] rfl rfl (HZ.out.later hb7) rfl sizeRuling (by simp [Value.oneCell']) ?_; intro w8 hZ8 hg8 hs8)
  refine hK.out _ _ ?_
  clear hK K
  (try simp only [Act.put, zq])
  refine wpAnyL_done (by kernel_rfl) ?_ _
  have hrow' := hrow.kept hg8 (ownsRow_ne_a hrow (HZ.out.later hb7) (fun cur e => by injection e with _ e; cases e))
  have hfin : Below w.heap.size w w8 := (HB.out.trans (hb7.mono HB.out.size)).grown hg8 (by have := hb7.size; omega) (fun k e => by cases e; exact Nat.le_refl _)
  have hle : w.heap.size ≤ w5.heap.size := by have := hb5.size; omega
  clear hHeld hg8 hs8 hrow
  go_wp2
  refine bodyPost_ret (results_cell1b Tryz.results33 rfl hZ8 Tryz.underlying53 rfl sizeRuling) rfl ⟨_, ss, rfl, hp, ownsRow_base_a hrow' hle, hfin⟩
end Go.Proofs.YtlamogpdkmbeoaaGreatDoor
end PartTold

section PartCloneA
/- Copies: 'slices.Clone' at whole numbers, lines and notes; 'copied'. -/
set_option maxRecDepth 100000
namespace Go.Proofs.YtlamogpdkmbeoaaGreatDoor
open Go.RowKit Go.Lib Go.Shelf Go.Maps

theorem flat_len {α : Type} {enc : α → List Value} (k : Nat) (hk : ∀ x, (enc x).length = k) : ∀ l : List α, (l.flatMap enc).length = l.length * k
  | [] => by simp
  | x :: l => by rw [List.flatMap_cons, List.length_append, hk, flat_len k hk l, List.length_cons, Nat.add_mul]; omega
theorem news_of_rows {α : Type} {enc : α → List Value} (k : Nat) (hk : ∀ x, (enc x).length = k) {w : World} {b o : Nat} {xs : List α} (hc : ∀ j (h : j < xs.length) i u, (enc xs[j])[i]? = some u → w.cell? ⟨b, o + j * k + i, none⟩ = some u) :
    ∀ j u, (xs.flatMap enc)[j]? = some u → w.cell? ⟨b, o + j, none⟩ = some u := fun j u hu => by
  have hj : j < xs.length * k := by rw [← flat_len k hk]; exact (List.getElem?_eq_some_iff.1 hu).1
  have hk0 : 0 < k := Nat.pos_of_ne_zero (fun e => by rw [e] at hj; simp at hj)
  have hq : j / k < xs.length := Nat.div_lt_of_lt_mul (by rw [Nat.mul_comm]; exact hj)
  have hi : j % k < k := Nat.mod_lt _ hk0
  have hd : j / k * k + j % k = j := by rw [Nat.mul_comm]; exact Nat.div_add_mod j k
  have h1 := flat_get (enc := enc) k hk xs (j / k) (j % k) hq hi
  rw [hd, hu] at h1
  have := hc (j / k) hq (j % k) u h1.symm
  rwa [Nat.add_assoc, hd] at this
theorem rows_of_owns {α : Type} {enc : α → List Value} (k : Nat) (hk : ∀ x, (enc x).length = k) {w : World} {base : Nat} {e : TypeId} {v : Value} {xs : List α} (h : w.ownsRow base e k v xs.length (xs.flatMap enc)) : RowsAt enc k w v xs := by
  rcases h.2 with ⟨rfl, h0⟩ | ⟨g, cap, cur, rfl, hb, hg, h1, h2, h3, h4⟩
  · have : xs = [] := List.eq_nil_of_length_eq_zero h0
    subst this
    exact RowsAt.nil _ _
  · refine RowsAt.mk (by omega) (Array.getElem?_eq_some_iff.1 hg).1 (fun j hj i u hu => ?_)
    have hi : i < k := by rw [← hk xs[j]]; exact (List.getElem?_eq_some_iff.1 hu).1
    have hlt : j * k + i < xs.length * k := by
      have : (j + 1) * k ≤ xs.length * k := Nat.mul_le_mul_right k hj
      rw [Nat.add_mul] at this
      omega
    have e1 := flat_get (enc := enc) k hk xs j i hj hi
    rw [hu, ← h4, List.getElem?_take_of_lt hlt] at e1
    rw [cell_of_row w g _ cur e (0, 0) hg, show 0 + j * k + i = j * k + i by omega, ← Array.getElem?_toList]
    exact e1
theorem cloneInts_any (v : Value) (xs : List Int) (w : World) (h : RowsAt encI 1 w v xs) (hl : xs.length ≤ 1000000) :
    Calls Tryz.prog 56 #[v] w fun e w' => ∃ v', e = .returned v' ∧ w'.ownsRow w.heap.size 3 1 v' xs.length (xs.flatMap encI) ∧ Below w.heap.size w w' := by
  have hf : ∀ l : List Int, l.flatMap encI = l.map (Value.int .i64) := fun l => by
    induction l with
    | nil => rfl
    | cons a l ih => rw [List.flatMap_cons, ih]; rfl
  rcases h.ints with ⟨rfl, A, c, rfl⟩ | ⟨b, o, c, rfl, h0, hm, hb, hc⟩
  · cases A with
    | none => exact (Tryz.slices_Clone_int_nil 0 c w).mono fun e w' ⟨h1, h2⟩ => ⟨_, h1, by rw [h2]; exact World.ownsRow_nil _ _ _ _, by rw [h2]; exact Below.refl _ _⟩
    | some a => exact (Tryz.slices_Clone_int_zero a c w).mono fun e w' ⟨v', h1, h2, _, h3⟩ => ⟨v', h1, h2, h3⟩
  · refine (Tryz.slices_Clone_int b o xs.length c xs w (Nat.le_refl _) (by omega) (fun j hj => ?_)).mono ?_
    · rw [hc j hj, List.getD_eq_getElem?_getD, List.getElem?_eq_getElem hj]
      rfl
    · rintro e w' ⟨v', rfl, h1, _, h2⟩
      exact ⟨v', rfl, by rw [hf]; simpa using h1, h2⟩
theorem infoLine : ∃ i z, Tryz.prog.info? 126 = some i ∧ i.zero = some z ∧ i.size = 11 ∧ i.bytes = (Tryz.prog.info? 126).elim 0 (·.bytes) ∧ z.cells.size = 11 := by
  obtain ⟨i, hi⟩ : ∃ i, Tryz.prog.info? 126 = some i := Option.isSome_iff_exists.1 (by kernel_rfl)
  have h1 : ((Tryz.prog.info? 126).bind (·.zero)).map (·.cells.size) = some 11 := by kernel_rfl
  have h2 : (Tryz.prog.info? 126).map (·.size) = some 11 := by kernel_rfl
  rw [hi] at h1 h2
  obtain ⟨z, hz, hz2⟩ := Option.map_eq_some_iff.1 h1
  exact ⟨i, z, hi, by simpa using hz, by simpa using h2, by rw [hi]; rfl, hz2⟩
theorem lineBytes : (Tryz.prog.info? 126).elim 0 (·.bytes) ≤ 1000 := by
  have : Nat.ble ((Tryz.prog.info? 126).elim 0 (·.bytes)) 1000 = true := by kernel_rfl
  exact Nat.le_of_ble_eq_true this
set_option maxHeartbeats 2000000 in
theorem cloneLines_zero (a : Addr) (c : Nat) (w : World) : Calls Tryz.prog 57 #[.slice (some a) 0 c] w fun e w' => ∃ v', e = .returned v' ∧ w'.ownsRow w.heap.size 126 11 v' 0 [] ∧ Below w.heap.size w w' := by
  obtain ⟨i0, z, hi, hz0, hz1, hz2, hzs⟩ := infoLine
  obtain ⟨B, hB⟩ : ∃ B, B = (Tryz.prog.info? 126).elim 0 (·.bytes) := ⟨_, rfl⟩
  rw [← hB] at hz2
  have q22 : ∀ (w : World) (a : Option Addr) (n c n' c' : Nat), (binOp .eql 40 (.slice a n c) (.slice none n' c')).run Tryz.prog w = .ok (.bool a.isNone) w := fun w a n c n' c' => Lib.run_eql_slice_nil w _ _ a n c n' c' Tryz.underlying40
  go_enter Tryz.func57, Tryz.ntmps57
  go_wp2_with (at_builtin; refine wpList_append_own _ rfl _ _ 40 rfl w.heap.size 126 i0 z 11 B Tryz.underlying40 hi hz0 hz1 hz2 hzs (by decide) _ _ _ rfl (World.ownsRow_made w #[] 0 (Nat.le_refl _) (Nat.zero_le _) rfl) a 0 c [] rfl rfl (by intro j u hj; simp at hj) (by intro u hu; cases hu) (by unfold maxLen; omega) (by omega) (by simp) ?_)
  intro v' w1 hown hgrow hnil
  go_wp2
  go_ret
  exact ⟨v', rfl, by simpa using hown, ((Below.refl _ w).alloc (Nat.le_refl _) _).grown hgrow (by simp) (by intro k hk; simp [Value.ownBlock] at hk; omega)⟩
theorem cloneLines_any (v : Value) (xs : List Ln) (w : World) (h : RowsAt Ln.enc 11 w v xs) (hl : xs.length ≤ 1000000) :
    Calls Tryz.prog 57 #[v] w fun e w' => ∃ v', e = .returned v' ∧ w'.ownsRow w.heap.size 126 11 v' xs.length (xs.flatMap Ln.enc) ∧ Below w.heap.size w w' := by
  obtain ⟨i0, z, hi, hz0, hz1, hz2, hzs⟩ := infoLine
  have hlb := lineBytes
  obtain ⟨B, hB⟩ : ∃ B, B = (Tryz.prog.info? 126).elim 0 (·.bytes) := ⟨_, rfl⟩
  rw [← hB] at hlb hz2
  have hbig : xs.length * B ≤ 140737488355328 := Nat.le_trans (Nat.mul_le_mul hl hlb) (by omega)
  have hone : ∀ u ∈ xs.flatMap Ln.enc, u.oneCell' = true := fun u hu => by
    obtain ⟨x, _, hx⟩ := List.mem_flatMap.1 hu
    simp at hx
    rcases hx with rfl | rfl | rfl | rfl | rfl | rfl | rfl | rfl | rfl | rfl | rfl <;> rfl
  have main : ∀ b o c (hc : ∀ j u, (xs.flatMap Ln.enc)[j]? = some u → w.cell? ⟨b, o + j, none⟩ = some u), Calls Tryz.prog 57 #[.slice (some ⟨b, o, none⟩) xs.length c] w fun e w' => ∃ v', e = .returned v' ∧ w'.ownsRow w.heap.size 126 11 v' xs.length (xs.flatMap Ln.enc) ∧ Below w.heap.size w w' := fun b o c hc =>
    (AnyE.slices_Clone Tryz.cloneLines i0 z 11 B hi hz0 hz1 hz2 hzs (by decide) Tryz.sizeOf126 b o xs.length c (xs.flatMap Ln.enc) w (flat_len 11 (fun _ => rfl) xs) h.max hbig hc hone).mono fun e w' ⟨v', h1, h2, _, h3⟩ => ⟨v', h1, h2, h3⟩
  rcases h.place with ⟨rfl, A, c, rfl⟩ | ⟨b, o, c, rfl, h0, hm, hb, hc⟩
  · cases A with
    | none => exact (AnyE.slices_Clone_nil Tryz.cloneLines 0 c w).mono fun e w' ⟨h1, h2⟩ => ⟨_, h1, by rw [h2]; exact World.ownsRow_nil _ _ _ _, by rw [h2]; exact Below.refl _ _⟩
    | some a =>
      exact cloneLines_zero a c w
  · exact main b o c (news_of_rows 11 (fun _ => rfl) hc)
set_option maxHeartbeats 2000000 in
theorem cloneNotes_zero (a : Addr) (c : Nat) (w : World) : Calls Tryz.prog 47 #[.slice (some a) 0 c] w fun e w' => ∃ v', e = .returned v' ∧ w'.ownsRow w.heap.size 46 20 v' 0 [] ∧ Below w.heap.size w w' := by
  obtain ⟨i0, hi, hz0, hz1, hz2⟩ := infoNote'
  have q22 : ∀ (w : World) (a : Option Addr) (n c n' c' : Nat), (binOp .eql 24 (.slice a n c) (.slice none n' c')).run Tryz.prog w = .ok (.bool a.isNone) w := fun w a n c n' c' => Lib.run_eql_slice_nil w _ _ a n c n' c' Tryz.underlying24
  go_enter Tryz.func47, Tryz.ntmps47
  go_wp2_with (at_builtin; refine wpList_append_own _ rfl _ _ 24 rfl w.heap.size 46 i0 (.agg Nt0.enc.toArray) 20 224 Tryz.underlying24 hi hz0 hz1 hz2 rfl (by decide) _ _ _ rfl (World.ownsRow_made w #[] 0 (Nat.le_refl _) (Nat.zero_le _) rfl) a 0 c [] rfl rfl (by intro j u hj; simp at hj) (by intro u hu; cases hu) (by unfold maxLen; omega) (by omega) (by simp) ?_)
  intro v' w1 hown hgrow hnil
  go_wp2
  go_ret
  exact ⟨v', rfl, by simpa using hown, ((Below.refl _ w).alloc (Nat.le_refl _) _).grown hgrow (by simp) (by intro k hk; simp [Value.ownBlock] at hk; omega)⟩
theorem cloneNotes_any (v : Value) (xs : List Note) (w : World) (h : RowsAt Note.enc 20 w v xs) (hl : xs.length ≤ 1000000) (hone : ∀ x ∈ xs, oneN x) :
    Calls Tryz.prog 47 #[v] w fun e w' => ∃ v', e = .returned v' ∧ RowsAt Note.enc 20 w' v' xs ∧ Below w.heap.size w w' := by
  obtain ⟨i0, hi, hz0, hz1, hz2⟩ := infoNote'
  have ho : ∀ u ∈ xs.flatMap Note.enc, u.oneCell' = true := fun u hu => by
    obtain ⟨x, hx, hu⟩ := List.mem_flatMap.1 hu
    exact ones_of (hone x hx) u hu
  rcases h.place with ⟨rfl, A, c, rfl⟩ | ⟨b, o, c, rfl, h0, hm, hb, hc⟩
  · cases A with
    | none => exact (AnyE.slices_Clone_nil Tryz.cloneNotes 0 c w).mono fun e w' ⟨h1, h2⟩ => ⟨_, h1, RowsAt.nil _ _, by rw [h2]; exact Below.refl _ _⟩
    | some a => exact (cloneNotes_zero a c w).mono fun e w' ⟨v', h1, h2, h3⟩ => ⟨v', h1, rows_of_owns (enc := Note.enc) (xs := []) 20 (fun _ => rfl) h2, h3⟩
  · refine (AnyE.slices_Clone Tryz.cloneNotes i0 _ 20 224 hi hz0 hz1 hz2 rfl (by decide) Tryz.sizeOf46 b o xs.length c (xs.flatMap Note.enc) w (flat_len 20 (fun _ => rfl) xs) h.max (by omega) (news_of_rows 20 (fun _ => rfl) hc) ho).mono ?_
    rintro e w' ⟨v', rfl, h1, _, h2⟩
    exact ⟨v', rfl, rows_of_owns 20 (fun _ => rfl) h1, h2⟩
end Go.Proofs.YtlamogpdkmbeoaaGreatDoor
end PartCloneA

section PartCopyA
/- 'copied': a note in memory of its own. -/
set_option maxRecDepth 100000
namespace Go.Proofs.YtlamogpdkmbeoaaGreatDoor
open Go.RowKit Go.Lib Go.Shelf Go.Maps

def Note.with (x : Note) (vj vl : Value) : Note := { x with nt := { x.nt with log := { x.nt.log with jumps := vj, lines := vl } } }
set_option maxHeartbeats 8000000 in
theorem copied_any (x : Note) (w : World) (hA : x.At w) (hone : oneN x) (hjl : x.js.length ≤ 1000) (hll : x.ls.length ≤ 1000) :
    Calls Tryz.prog 80 #[encN x] w fun e w' => ∃ vj vl, e = .returned (encN (x.with vj vl)) ∧ w'.ownsRow w.heap.size 3 1 vj x.js.length (x.js.flatMap encI) ∧ w'.ownsRow w.heap.size 126 11 vl x.ls.length (x.ls.flatMap Ln.enc) ∧ Below w.heap.size w w' := by
  have UN := Tryz.underlying46
  unfold Note.with
  obtain ⟨⟨judge, num, clock, kind, call, version, ⟨lcall, cat, pow, cl, vj, vl⟩, aC, aN, bCc, bNn, rJ, rN, hash, prev⟩, js, ls⟩ := x
  have hj := hA.jumps
  have hl := hA.lines
  dsimp only at hj hl hjl hll
  have hcj := fun W (hb : Below w.heap.size w W) => cloneInts_any vj js W (hj.later hb) (by omega)
  have hcl := fun W (hb : Below w.heap.size w W) => cloneLines_any vl ls W (hl.later hb) (by omega)
  obtain ⟨Aj, cj, hvj⟩ := hj.len
  obtain ⟨Al, cl', hvl⟩ := hl.len
  dsimp only [encN, Note.enc, Nt.enc, oneN] at *
  have HCJ := Lib.hid hcj
  have HCL := Lib.hid hcl
  have HVJ := Lib.hid hvj
  have HVL := Lib.hid hvl
  have HONE := Lib.hid hone
  clear hA hj hl hjl hll hcj hcl hvj hvl hone
  obtain ⟨W0, hW0⟩ : ∃ W0, w.alloc (.cells #[.int .i64 judge, .int .i64 num, .int .i64 clock, .int .i64 kind, .string call, .int .i64 version, .string lcall, .int .i64 cat, .int .i64 pow, .int .i64 cl, vj, vl, .string aC, .int .i64 aN, .string bCc, .int .i64 bNn, .int .i64 rJ, .int .i64 rN, .int .i64 hash, .int .i64 prev] 46) = W0 := ⟨_, rfl⟩
  have hs0 : W0.heap.size = w.heap.size + 1 := by rw [← hW0]; simp
  obtain ⟨W, hW⟩ : ∃ W, W0.alloc (.cells Nt0.enc.toArray 46) = W := ⟨_, rfl⟩
  have hb0 : Below w.heap.size w W0 := by rw [← hW0]; exact below_alloc0 _
  have hb1 : Below W0.heap.size W0 W := by rw [← hW]; exact below_alloc0 _
  have hX : Blk W w.heap.size 46 #[.int .i64 judge, .int .i64 num, .int .i64 clock, .int .i64 kind, .string call, .int .i64 version, .string lcall, .int .i64 cat, .int .i64 pow, .int .i64 cl, vj, vl, .string aC, .int .i64 aN, .string bCc, .int .i64 bNn, .int .i64 rJ, .int .i64 rN, .int .i64 hash, .int .i64 prev] := by
    have : Blk W0 w.heap.size 46 #[.int .i64 judge, .int .i64 num, .int .i64 clock, .int .i64 kind, .string call, .int .i64 version, .string lcall, .int .i64 cat, .int .i64 pow, .int .i64 cl, vj, vl, .string aC, .int .i64 aN, .string bCc, .int .i64 bNn, .int .i64 rJ, .int .i64 rN, .int .i64 hash, .int .i64 prev] := by rw [← hW0]; exact Blk.new w _ _
    exact this.later hb1
  have hZ : Blk W (w.heap.size + 1) 46 Nt0.enc.toArray := by rw [← hW, ← hs0]; exact Blk.new W0 _ _
  have hbW : Below w.heap.size w W := hb0.trans (hb1.mono hb0.size)
  dsimp only [Nt.enc] at hW
  go_enter Tryz.func80, Tryz.ntmps80
  go_upto_region 1 with fail
  have c10 : W.cell? ⟨w.heap.size, 10, none⟩ = some vj := hX.cell 10
  have c11 : W.cell? ⟨w.heap.size, 11, none⟩ = some vl := hX.cell 11
  have f10 : W.frozen? ⟨w.heap.size, 10, none⟩ = false := hX.frozen 10
  have f11 : W.frozen? ⟨w.heap.size, 11, none⟩ = false := hX.frozen 11
  have lX := hX.lt
  have HX := Lib.hid hX
  have HZ := Lib.hid hZ
  have HBW := Lib.hid hbW
  have hS : ∀ w3 : World, Below W.heap.size W w3 → w3.cell? ⟨w.heap.size, 10, none⟩ = some vj ∧ w3.frozen? ⟨w.heap.size, 10, none⟩ = false ∧ w3.cell? ⟨w.heap.size, 11, none⟩ = some vl ∧ w3.frozen? ⟨w.heap.size, 11, none⟩ = false := fun w3 hb =>
    ⟨(hb.cell (p := ⟨w.heap.size, 10, none⟩) lX).trans c10, (hb.frozen (p := ⟨w.heap.size, 10, none⟩) lX).trans f10, (hb.cell (p := ⟨w.heap.size, 11, none⟩) lX).trans c11, (hb.frozen (p := ⟨w.heap.size, 11, none⟩) lX).trans f11⟩
  have HS := Lib.hid hS
  clear hS hX hZ hbW hW hW0 hb0 hb1 hs0 c10 c11 f10 f11
  refine wp_region_late (S := (fun w' => w'.cell? ⟨w.heap.size, 10, none⟩ = some vj ∧ w'.frozen? ⟨w.heap.size, 10, none⟩ = false ∧ w'.cell? ⟨w.heap.size, 11, none⟩ = some vl ∧ w'.frozen? ⟨w.heap.size, 11, none⟩ = false)) [10, 13] (by kernel_rfl) ?hS1 (fun hHeld => ?_)
  case hS1 => exact HS.out _ (Below.refl _ _).drew
  refine tl1 (i := 0) ?_; try simp only [Act.put, zq]
  refine tl1 (i := 1) ?_; try simp only [Act.put, zq]
  refine tl2 (i := 2) ?_; try simp only [Act.put, zq]
  refine tl1 (i := 4) ?_; try simp only [Act.put, zq]
  refine tl1 (i := 5) ?_; try simp only [Act.put, zq]
  refine tl2 (i := 6) ?_; try simp only [Act.put, zq]
  refine wpAnyL_ready (rs := [3]) (by kernel_rfl) (by simp) ?_
  refine AllReadyL.cons rfl (fun K hK => ?_) AllReadyL.nil
  go_simp
  (go_at_call 56; refine (HCJ.out W.drew HBW.out.drew).mono ?_; rintro e w4 ⟨v1, rfl, hr1, hb4⟩; obtain ⟨A1, m1, q1, rfl⟩ := own_slice hr1; have hb4 : Below W.heap.size W w4 := (Below.refl _ W).drew.trans hb4)
  go_wp2_with fail
  refine hK.out _ _ ?hS1_7 (fun hHeld => ?_)
  case hS1_7 => ((try dsimp only); exact HS.out _ hb4)
  clear hK K
  (try simp only [Act.put, zq])
  refine tl1 (i := 8) ?_; try simp only [Act.put, zq]
  refine tl1 (i := 9) ?_; try simp only [Act.put, zq]
  refine wpAnyL_ready (rs := [7]) (by kernel_rfl) (by simp) ?_
  refine AllReadyL.cons rfl (fun K hK => ?_) AllReadyL.nil
  go_simp
  (go_at_call 57; refine (HCL.out w4 (HBW.out.trans (hb4.mono HBW.out.size))).mono ?_; rintro e w5 ⟨v2, rfl, hr2, hb5⟩; obtain ⟨A2, m2, q2, rfl⟩ := own_slice hr2; have hb6 : Below W.heap.size W w5 := hb4.trans (hb5.mono hb4.size))
  go_wp2_with fail
  refine hK.out _ _ ?hS1_10 (fun hHeld => ?_)
  case hS1_10 => ((try dsimp only); exact HS.out _ hb6)
  clear hK K
  (try simp only [Act.put, zq])
  refine wpAnyL_ready (rs := [10]) (by kernel_rfl) (by simp) ?_
  refine AllReadyL.late rfl (by kernel_rfl) (fun K hK => ?_) AllReadyL.nil
  go_simp
  refine hK.out _ _ ?_
  clear hK K
  (try simp only [Act.put, zq])
  refine wpAnyL_pureL (i := 11) (v := ?v1_12) rfl (by kernel_rfl) (by kernel_rfl) (by kernel_rfl) (by kernel_rfl) (by kernel_rfl) (fun _ _ _ h => h) (Or.inl ⟨by kernel_rfl, ?hy1_12⟩) ?_
  case hy1_12 => ((intro w hSw; (try dsimp only at hSw); go_simp) <;> with_reducible rfl)
  (try simp only [Act.put, zq])
  refine wpAnyL_pureL (i := 12) (v := ?v1_13) rfl (by kernel_rfl) (by kernel_rfl) (by kernel_rfl) (by kernel_rfl) (by kernel_rfl) (fun _ _ _ h => h) (Or.inl ⟨by kernel_rfl, ?hy1_13⟩) ?_
  case hy1_13 => ((intro w hSw; (try dsimp only at hSw); go_simp) <;> with_reducible rfl)
  (try simp only [Act.put, zq])
  refine wpAnyL_ready (rs := [13]) (by kernel_rfl) (by simp) ?_
  refine AllReadyL.late rfl (by kernel_rfl) (fun K hK => ?_) AllReadyL.nil
  go_simp
  refine hK.out _ _ ?_
  clear hK K
  (try simp only [Act.put, zq])
  refine wpAnyL_done (by kernel_rfl) ?_ _
  obtain ⟨w6, hw6⟩ : ∃ w6, (w5.setCell ⟨w.heap.size, 10, none⟩ (.slice A1 m1 q1)).setCell ⟨w.heap.size, 11, none⟩ (.slice A2 m2 q2) = w6 := ⟨_, rfl⟩
  have hg6 : w5.grownBy w6 (some w.heap.size) := by rw [← hw6]; exact (grown_put _ _ _ _).trans (grown_put _ _ _ _)
  have hX6 : Blk w6 w.heap.size 46 #[.int .i64 judge, .int .i64 num, .int .i64 clock, .int .i64 kind, .string call, .int .i64 version, .string lcall, .int .i64 cat, .int .i64 pow, .int .i64 cl, .slice A1 m1 q1, .slice A2 m2 q2, .string aC, .int .i64 aN, .string bCc, .int .i64 bNn, .int .i64 rJ, .int .i64 rN, .int .i64 hash, .int .i64 prev] := by rw [← hw6]; exact ((HX.out.later hb6).put 10 _).put 11 _
  have hZ6 := (HZ.out.later hb6).kept hg6 (by intro e; injection e with e; omega)
  have one1 := own_one hr1
  have one2 := own_one hr2
  have hone6 : (#[.int .i64 judge, .int .i64 num, .int .i64 clock, .int .i64 kind, .string call, .int .i64 version, .string lcall, .int .i64 cat, .int .i64 pow, .int .i64 cl, .slice A1 m1 q1, .slice A2 m2 q2, .string aC, .int .i64 aN, .string bCc, .int .i64 bNn, .int .i64 rJ, .int .i64 rN, .int .i64 hash, .int .i64 prev] : Array Value).all (·.oneCell') = true := by simp [Value.oneCell', one1, one2]
  have hle4 := hb4.size
  have hleW := HBW.out.size
  have r1 := (ownsRow_base_a hr1 (show w.heap.size ≤ W.drew.heap.size from hleW))
  have r2 := (ownsRow_base_a hr2 (show w.heap.size ≤ w4.heap.size by omega))
  have r1' : w5.ownsRow w.heap.size 3 1 (.slice A1 m1 q1) js.length (js.flatMap encI) := r1.kept (row := none) ⟨hb5.os, hb5.tape, hb5.output, hb5.size, fun i hi _ => hb5.block i hi⟩ (by cases (Value.slice A1 m1 q1).ownBlock <;> simp)
  have HR1 := Lib.hid (r1'.kept hg6 (ownsRow_ne_a r1' (HX.out.later hb6) (fun cur e => by injection e with _ e; cases e)))
  have HR2 := Lib.hid (r2.kept hg6 (ownsRow_ne_a r2 (HX.out.later hb6) (fun cur e => by injection e with _ e; cases e)))
  have HB6 := Lib.hid ((HBW.out.trans (hb6.mono hleW)).grown hg6 (by have := hb6.size; omega) (fun k e => by cases e; exact Nat.le_refl _))
  have HX6 := Lib.hid hX6
  have HZ6 := Lib.hid hZ6
  have hl6 := hZ6.lt
  go_upto_region 2 with fail
  rw [hw6]
  clear hHeld hw6 hg6 r1 r2 r1' hr1 hr2 hb4 hb5 hb6 hX6 hZ6
  have tok : True := trivial
  go_wp2_with (first
    | (have _t := tok; refine wpList_load_blk rfl 46 _ rfl w.heap.size 46 #[.int .i64 judge, .int .i64 num, .int .i64 clock, .int .i64 kind, .string call, .int .i64 version, .string lcall, .int .i64 cat, .int .i64 pow, .int .i64 cl, .slice A1 m1 q1, .slice A2 m2 q2, .string aC, .int .i64 aN, .string bCc, .int .i64 bNn, .int .i64 rJ, .int .i64 rN, .int .i64 hash, .int .i64 prev] _ rfl HX6.out UN rfl sizeNote ?_; clear tok)
    | (refine wpList_store_blk rfl 46 _ _ rfl (w.heap.size + 1) 46 Nt0.enc.toArray #[.int .i64 judge, .int .i64 num, .int .i64 clock, .int .i64 kind, .string call, .int .i64 version, .string lcall, .int .i64 cat, .int .i64 pow, .int .i64 cl, .slice A1 m1 q1, .slice A2 m2 q2, .string aC, .int .i64 aN, .string bCc, .int .i64 bNn, .int .i64 rJ, .int .i64 rN, .int .i64 hash, .int .i64 prev] rfl rfl HZ6.out (by rfl) sizeNote hone6 ?_; intro w7 hZ7 hg7 hs7))
  refine bodyPost_ret (results_cell1b Tryz.results80 rfl hZ7 UN rfl sizeNote) rfl ⟨_, _, rfl, HR1.out.kept hg7 (ownsRow_ne_a HR1.out HZ6.out (fun cur e => by injection e with _ e; cases e)), HR2.out.kept hg7 (ownsRow_ne_a HR2.out HZ6.out (fun cur e => by injection e with _ e; cases e)), HB6.out.grown hg7 HB6.out.size (fun k e => by cases e; omega)⟩
end Go.Proofs.YtlamogpdkmbeoaaGreatDoor
end PartCopyA
