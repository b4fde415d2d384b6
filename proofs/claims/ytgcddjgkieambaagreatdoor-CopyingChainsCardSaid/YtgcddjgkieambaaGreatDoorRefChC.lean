/- The walks of the reference's 'Rise' and 'CheckRise'. -/
import Derived.Test.YtgcddjgkieambaaGreatDoorRefChB
set_option linter.unusedVariables false
set_option linter.unusedSimpArgs false
namespace Go.Proofs.YtgcddjgkieambaaGreatDoor
open Go.RowKit

theorem chained_sorted {l : List Int} {a : Nat} {i : Int} {ks : List Nat} (h : Cm.Chained l a i ks) : ks.Pairwise (· < ·) := by
  induction h with
  | nil => exact List.Pairwise.nil
  | cons h1 h2 h3 h4 ih => exact List.Pairwise.cons (fun b hb => by have := (h4.ge b hb).1; omega) ih

/-- What holds at the head of each round of the reference's 'Rise'. -/
def RrRel (l : List Int) (wo : World) (v6 v7 v8 v9 : Value) (wx : World) : Prop :=
  ∃ (k : Nat) (pre post : List Nat), k ≤ l.length ∧ v9 = .int .i64 k ∧ v7 = .int .i64 pre.length ∧ v8 = .int .i64 (Cm.rv l (Cm.chain l) k) ∧ Cm.chain l = pre ++ post ∧ (∀ x ∈ pre, x < k) ∧ (∀ x ∈ post, k ≤ x) ∧
    wx.ownsRow wo.heap.size 3 1 v6 k ((List.range k).map fun i => .int .i64 (Cm.rv l (Cm.chain l) (i + 1))) ∧ Below wo.heap.size wo wx

set_option maxRecDepth 100000 in
set_option maxHeartbeats 2000000 in
theorem refRise_no (A : Option Addr) (c : Nat) (l : List Int) (w : World) (h : Nums w A l) (he : serErr l ≠ 0) : Calls Tryz.prog 31 #[.slice A l.length c] w fun e w' => e = .returned (.tuple #[.slice none 0 0, .int .i64 (serErr l)]) ∧ w = w' := by
  have HC := Lib.hid (refChain_no A c l w h he)
  obtain ⟨z, hz⟩ : ∃ z, z = serErr l := ⟨_, rfl⟩
  rw [← hz] at HC he ⊢
  have d0 : (z != 0) = true := by simpa using he
  clear h he hz
  go_enter Tryz.func31, Tryz.ntmps31
  go_wp2_with (go_at_call 29; refine HC.out.mono ?_; rintro e w1 ⟨rfl, rfl⟩)
  go_ret2
  exact ⟨rfl, rfl⟩

set_option maxRecDepth 100000 in
set_option maxHeartbeats 8000000 in
theorem refRise_ok (A : Option Addr) (c : Nat) (l : List Int) (w : World) (h : Nums w A l) (he : serErr l = 0) : Calls Tryz.prog 31 #[.slice A l.length c] w fun e w' => ∃ v, e = .returned (.tuple #[v, .int .i64 0]) ∧ OwnI w' v (Cm.rise l (Cm.chain l)) ∧ Below w.heap.size w w' := by
  have HC := Lib.hid (refChain_ok A c l w h he)
  have hl := serErr_len he
  obtain ⟨i0, hi, hz0, hz1, hz2⟩ := info_parts info3
  have HN := Lib.hid h
  clear h he
  go_enter Tryz.func31, Tryz.ntmps31
  go_wp2_with (go_at_call 29; refine HC.out.mono ?_; rintro e w1 ⟨v, rfl, hO, hb1⟩; obtain ⟨R, cr, rfl, hR⟩ := hO.form; rw [List.length_map])
  have HR := Lib.hid hR
  have Hb1 := Lib.hid hb1
  obtain ⟨m, hm⟩ : ∃ m, m = (Cm.chain l).length := ⟨_, rfl⟩
  rw [← hm]
  have hm4 : m ≤ 400 := by
    have hcl := Cm.chain_length (l := l)
    have hbb := Cm.best_le (l := l)
    omega
  have Hm := Lib.hid hm
  clear hO hR hb1 HC hm
  go_loopw [6, 7, 8, 9] (fun v6 v7 v8 v9 wx => RrRel l w1 v6 v7 v8 v9 wx) (fun _ _ _ v9 _ => l.length - (intOf v9).toNat)
  case atStart => exact ⟨0, [], Cm.chain l, by omega, rfl, rfl, rfl, rfl, by simp, by simp, World.ownsRow_nil _ _ _ _, Below.refl _ _⟩
  case round =>
    obtain ⟨k, pre, post, hk, rfl, rfl, rfl, hch, hpre, hpost, hown, hb⟩ := hrel
    by_cases hlt : k < l.length
    · have hN := (HN.out.later Hb1.out).later hb
      obtain ⟨a, rfl, _, ca⟩ := hN k hlt
      have hRr := HR.out.later hb
      have f0 : decide ((k : Int) < (l.length : Int)) = true := by simp; omega
      have f1 : (k : Int) < (l.length : Int) := by omega
      have f2 : (0 : Int) ≤ (k : Int) := by omega
      have q1 : IntKind.i64.wrap ((k : Int) + 1) = (k : Int) + 1 := IntWalk.i64_in _ (by omega)
      have hr := Cm.rv_rise hl k hlt
      have hn0 := Cm.rv_nonneg hl k hk
      have hsz := hb.size
      have hrv : Cm.rv l (Cm.chain l) (k + 1) = if k ∈ Cm.chain l then l.getD k 0 else Cm.rv l (Cm.chain l) k + 1 := rfl
      have hpl : pre.length + post.length = m := by rw [Hm.out, hch, List.length_append]
      have q3 : IntKind.i64.wrap ((pre.length : Int) + 1) = (pre.length : Int) + 1 := IntWalk.i64_in _ (by omega)
      have hsrt := chained_sorted (Cm.chain_chained (l := l))
      rw [hch] at hsrt
      obtain ⟨x, hx⟩ : ∃ x, x = l.getD k 0 := ⟨_, rfl⟩
      obtain ⟨y, hy⟩ : ∃ y, y = Cm.rv l (Cm.chain l) k := ⟨_, rfl⟩
      rw [← hx] at ca hrv
      rw [← hy] at hrv hr hn0 ⊢
      have q2 : IntKind.i64.wrap (y + 1) = y + 1 := IntWalk.i64_in _ (by omega)
      have Hb := Lib.hid hb
      have Hown := Lib.hid hown
      have Hch := Lib.hid hch
      have Hpre := Lib.hid hpre
      clear hN hb hx hy hown hr hn0
      have Hpo := Lib.hid hpost
      cases post with
      | nil =>
        have g0 : decide ((pre.length : Int) < (m : Int)) = false := by simp; simp at hpl; omega
        have g0' : decide (pre.length < m) = false := by simp; simp at hpl; omega
        have g0'' : ¬ pre.length < m := by simp at hpl; omega
        have hni : ¬ k ∈ Cm.chain l := fun e => by rw [hch, List.append_nil] at e; have := hpre k e; omega
        rw [if_neg hni] at hrv
        have Hrv := Lib.hid hrv
        clear hrv hni hch hpre hpost hpl hsrt hRr Hpo
        have hown := Hown.out
        go_wp2_with (first
          | (at_builtin; refine wpList_append_own _ rfl _ _ 38 rfl w1.heap.size 3 i0 (.int .i64 0) 1 8 Tryz.underlying38 hi hz0 hz1 hz2 rfl (by decide) _ _ _ rfl (hown.alloc _) ⟨wr.heap.size, 0, none⟩ 1 1 [.int .i64 (y + 1)] rfl rfl ?c1 ?c2 ?c3 ?c4 ?c5 ?_))
        case c1 =>
          intro j u hj
          match j, hj with
          | 0, hj => simp at hj; subst hj; simp [Addr.add]
        case c2 => intro u hu; simp at hu; subst hu; rfl
        case c3 => unfold maxLen; omega
        case c4 => omega
        case c5 => simp; omega
        · intro v' w3 hown' hgrow _
          have hB := (Hb.out.alloc hsz (Obj.cells #[.int .i64 (y + 1)] 3)).grown hgrow (by simp; omega) (fun g hg => (hown.lt g hg).1)
          have HR2 := Lib.hid (And.intro hown' hB)
          clear hown' hgrow hB hown
          go_wp2
          go_roundw
          case rel => exact ⟨k + 1, pre, [], by omega, by go_num, rfl, by rw [Hrv.out], Hch.out, fun x hx => by have := Hpre.out x hx; omega, by simp, by rw [List.range_succ, List.map_append, List.map_singleton, Hrv.out]; exact HR2.out.1, HR2.out.2⟩
          case measure => simp [intOf] <;> omega
      | cons z post' =>
        have hpl2 : pre.length < m := by simp at hpl; omega
        have g0 : decide ((pre.length : Int) < (m : Int)) = true := by simp; omega
        have g1 : (pre.length : Int) < (m : Int) := by omega
        have g2 : (0 : Int) ≤ (pre.length : Int) := by omega
        obtain ⟨r, rfl, _, cz⟩ := hRr pre.length (by rw [List.length_map, ← Hm.out]; exact hpl2)
        have ez : ((Cm.chain l).map fun (k : Nat) => (k : Int)).getD pre.length 0 = (z : Int) := by
          rw [hch, List.map_append, List.getD, List.getElem?_append_right (by simp)]
          simp
        rw [ez] at cz
        have hs2 := List.pairwise_append.1 hsrt
        have hs3 := List.pairwise_cons.1 hs2.2.1
        by_cases hzk : z = k
        · subst hzk
          have g3 : ((z : Int) == (z : Int)) = true := by simp
          have hin : z ∈ Cm.chain l := by rw [hch]; simp
          rw [if_pos hin] at hrv
          have Hrv := Lib.hid hrv
          have Hp3 := Lib.hid hs3.1
          clear hrv hin hch hpre hpost hpl hsrt hRr ez hs2 hs3 Hpo
          have hown := Hown.out
          go_wp2_with (first
            | (at_builtin; refine wpList_append_own _ rfl _ _ 38 rfl w1.heap.size 3 i0 (.int .i64 0) 1 8 Tryz.underlying38 hi hz0 hz1 hz2 rfl (by decide) _ _ _ rfl (hown.alloc _) ⟨wr.heap.size, 0, none⟩ 1 1 [.int .i64 (x)] rfl rfl ?c1 ?c2 ?c3 ?c4 ?c5 ?_))
          case c1 =>
            intro j u hj
            match j, hj with
            | 0, hj => simp at hj; subst hj; simp [Addr.add]
          case c2 => intro u hu; simp at hu; subst hu; rfl
          case c3 => unfold maxLen; omega
          case c4 => omega
          case c5 => simp; omega
          · intro v' w3 hown' hgrow _
            have hB := (Hb.out.alloc hsz (Obj.cells #[.int .i64 (x)] 3)).grown hgrow (by simp; omega) (fun g hg => (hown.lt g hg).1)
            have HR2 := Lib.hid (And.intro hown' hB)
            clear hown' hgrow hB hown
            go_wp2
            go_roundw
            case rel => exact ⟨z + 1, pre ++ [z], post', by omega, by go_num, by rw [List.length_append]; go_num, by rw [Hrv.out], by rw [Hch.out]; simp, fun x hx => by
              rcases List.mem_append.1 hx with e | e
              · have := Hpre.out x e; omega
              · rw [List.mem_singleton] at e; omega, fun x hx => by have := Hp3.out x hx; omega, by rw [List.range_succ, List.map_append, List.map_singleton, Hrv.out]; exact HR2.out.1, HR2.out.2⟩
            case measure => simp [intOf] <;> omega
        · have hzk2 : k < z := by have := hpost z (by simp); omega
          have g3 : ((z : Int) == (k : Int)) = false := by simp; omega
          have hni : ¬ k ∈ Cm.chain l := fun e => by
            rw [hch] at e
            rcases List.mem_append.1 e with e | e
            · have := hpre k e; omega
            · rcases List.mem_cons.1 e with e | e
              · omega
              · have := hs3.1 k e; omega
          rw [if_neg hni] at hrv
          have Hrv := Lib.hid hrv
          have Hp3 := Lib.hid hs3.1
          have Hzk := Lib.hid hzk2
          clear hrv hni hch hpre hpost hpl hsrt hRr ez hs2 hs3 hzk hzk2 Hpo
          have hown := Hown.out
          go_wp2_with (first
            | (at_builtin; refine wpList_append_own _ rfl _ _ 38 rfl w1.heap.size 3 i0 (.int .i64 0) 1 8 Tryz.underlying38 hi hz0 hz1 hz2 rfl (by decide) _ _ _ rfl (hown.alloc _) ⟨wr.heap.size, 0, none⟩ 1 1 [.int .i64 (y + 1)] rfl rfl ?c1 ?c2 ?c3 ?c4 ?c5 ?_))
          case c1 =>
            intro j u hj
            match j, hj with
            | 0, hj => simp at hj; subst hj; simp [Addr.add]
          case c2 => intro u hu; simp at hu; subst hu; rfl
          case c3 => unfold maxLen; omega
          case c4 => omega
          case c5 => simp; omega
          · intro v' w3 hown' hgrow _
            have hB := (Hb.out.alloc hsz (Obj.cells #[.int .i64 (y + 1)] 3)).grown hgrow (by simp; omega) (fun g hg => (hown.lt g hg).1)
            have HR2 := Lib.hid (And.intro hown' hB)
            clear hown' hgrow hB hown
            go_wp2
            go_roundw
            case rel => exact ⟨k + 1, pre, z :: post', by omega, by go_num, rfl, by rw [Hrv.out], Hch.out, fun x hx => by have := Hpre.out x hx; omega, fun x hx => by
              have := Hzk.out
              rcases List.mem_cons.1 hx with e | e
              · omega
              · have := Hp3.out x e; omega, by rw [List.range_succ, List.map_append, List.map_singleton, Hrv.out]; exact HR2.out.1, HR2.out.2⟩
            case measure => simp [intOf] <;> omega
    · obtain rfl : k = l.length := by omega
      have f0 : decide ((l.length : Int) < (l.length : Int)) = false := by simp
      have Hown := Lib.hid hown
      have Hb := Lib.hid hb
      clear hown hb hpre hpost hch
      go_wp2
      go_ret2
      exact ⟨_, rfl, ⟨_, by rw [Cm.rise_length, Cm.rise, List.map_map]; exact Hown.out⟩, below_trans' Hb1.out Hb.out⟩

theorem refCk_err (A B : Option Addr) (c d : Nat) (l r : List Int) (w : World) (hl : Nums w A l) (he : serErr l ≠ 0) : Calls Tryz.prog 33 #[.slice A l.length c, .slice B r.length d] w (CkOut l r w) := by
  have e1 : ckE l r = serErr l := by unfold ckE; rw [if_pos he]
  have e2 : ckN l r = 0 := by unfold ckN; rw [e1, if_neg he]
  unfold CkOut
  rw [e1, e2]
  have HS := Lib.hid (refSer_any A c l w hl)
  obtain ⟨z, hz⟩ : ∃ z, z = serErr l := ⟨_, rfl⟩
  rw [← hz] at HS he ⊢
  have d0 : (z != 0) = true := by simpa using he
  clear hl he e1 e2 hz
  go_enter Tryz.func33, Tryz.ntmps33
  go_wp2_with (go_at_call 82; refine HS.out.mono ?_; rintro e w1 ⟨rfl, rfl⟩)
  go_ret2
  exact ⟨rfl, 0, rfl⟩

set_option maxRecDepth 100000 in
set_option maxHeartbeats 4000000 in
theorem refCk_any (A B : Option Addr) (c d : Nat) (l r : List Int) (w : World) (hl : Nums w A l) (hr : Nums w B r) (hn : r.length ≤ 1000000) : Calls Tryz.prog 33 #[.slice A l.length c, .slice B r.length d] w (CkOut l r w) := by
  by_cases he : serErr l = 0
  · have HS := Lib.hid (refSer_any A c l w hl)
    rw [he] at HS
    by_cases hlen : l.length = r.length
    · have d1 : ((r.length : Int) != (l.length : Int)) = false := by simp; omega
      have HRi := Lib.hid (rising_any B d r w hr hn)
      have HL := Lib.hid hl
      have HR := Lib.hid hr
      have HE := Lib.hid he
      have HN := Lib.hid hlen
      have hle := serErr_len he
      obtain ⟨z, hz⟩ : ∃ z, z = risB r := ⟨_, rfl⟩
      rw [← hz] at HRi
      have HZ := Lib.hid hz
      clear hl hr he hlen hz
      cases z
      · have Hno := Lib.hid (ckOut_no (c := HE.out) HN.out HZ.out.symm)
        go_enter Tryz.func33, Tryz.ntmps33
        go_wp2_with (first | (go_at_call 82; refine HS.out.mono ?_; rintro e w1 ⟨rfl, rfl⟩) | (go_at_call 38; refine HRi.out.mono ?_; rintro e w2 ⟨rfl, q, rfl⟩))
        go_ret2
        exact ⟨by rw [Hno.out.1, Hno.out.2]; rfl, _, rfl⟩
      · have Hyes := Lib.hid (ckOut_yes HE.out HN.out HZ.out.symm)
        go_enter Tryz.func33, Tryz.ntmps33
        go_wp2_with (first | (go_at_call 82; refine HS.out.mono ?_; rintro e w1 ⟨rfl, rfl⟩) | (go_at_call 38; refine HRi.out.mono ?_; rintro e w2 ⟨rfl, q, rfl⟩))
        go_loopw [7, 8] (fun v7 v8 wx => ∃ k q : Nat, k ≤ l.length ∧ v8 = .int .i64 k ∧ v7 = .int .i64 (cnt l r k) ∧ wx = w.drewN q) (fun _ v8 _ => l.length - (intOf v8).toNat)
        case atStart => exact ⟨0, q, by omega, rfl, rfl, rfl⟩
        case round =>
          obtain ⟨k, q, hk, rfl, rfl, rfl⟩ := hrel
          by_cases hlt : k < l.length
          · have f1 : decide ((k : Int) < (l.length : Int)) = true := by simp; omega
            have f2 : (k : Int) < (l.length : Int) := by omega
            have f3 : (k : Int) < (r.length : Int) := by have := HN.out; omega
            have f4 : (0 : Int) ≤ (k : Int) := by omega
            have q1 : IntKind.i64.wrap ((k : Int) + 1) = (k : Int) + 1 := IntWalk.i64_in _ (by omega)
            have hcl := cnt_le l r k
            have q2 : IntKind.i64.wrap ((cnt l r k : Int) + 1) = (cnt l r k : Int) + 1 := IntWalk.i64_in _ (by omega)
            obtain ⟨a, rfl, _, ca⟩ := HL.out k hlt
            obtain ⟨b, rfl, _, cb⟩ := HR.out k (by have := HN.out; omega)
            have hcs : cnt l r (k + 1) = if r.getD k 0 = l.getD k 0 then cnt l r k else cnt l r k + 1 := rfl
            obtain ⟨x, hx⟩ : ∃ x, x = l.getD k 0 := ⟨_, rfl⟩
            obtain ⟨y, hy⟩ : ∃ y, y = r.getD k 0 := ⟨_, rfl⟩
            rw [← hx] at ca hcs
            rw [← hy] at cb hcs
            clear hx hy hcl
            by_cases hxy : y = x
            · have e1 : (x != y) = false := by simp [hxy]
              rw [if_pos hxy] at hcs
              have Hcs := Lib.hid hcs
              clear hcs hxy
              go_wp2
              go_quiet (fail)
              go_wp2
              go_roundw
              case rel => exact ⟨k + 1, q + nq, by omega, by go_num, by rw [Hcs.out], by first | rfl | exact drewN_two w q nq⟩
              case measure => simp [intOf] <;> omega
            · have e1 : (x != y) = true := by simp; exact fun e => hxy e.symm
              rw [if_neg hxy] at hcs
              have Hcs := Lib.hid hcs
              clear hcs hxy
              go_wp2
              go_quiet (fail)
              go_wp2
              go_roundw
              case rel => exact ⟨k + 1, q + nq, by omega, by go_num, by rw [Hcs.out]; go_num, by first | rfl | exact drewN_two w q nq⟩
              case measure => simp [intOf] <;> omega
          · obtain rfl : k = l.length := by omega
            have f1 : decide ((l.length : Int) < (l.length : Int)) = false := by simp
            go_wp2
            go_ret2
            exact ⟨by rw [Hyes.out.1, Hyes.out.2, ← HN.out]; rfl, _, rfl⟩
    · have e1 : ckE l r = 43 := by unfold ckE; rw [if_neg (fun h => h he), if_neg hlen]
      have e2 : ckN l r = 0 := by unfold ckN; rw [e1]; rfl
      unfold CkOut
      rw [e1, e2]
      have d1 : ((r.length : Int) != (l.length : Int)) = true := by rw [bne_iff_ne]; omega
      clear hl hr he e1 e2 hlen
      go_enter Tryz.func33, Tryz.ntmps33
      go_wp2_with (go_at_call 82; refine HS.out.mono ?_; rintro e w1 ⟨rfl, rfl⟩)
      go_ret2
      exact ⟨rfl, 0, rfl⟩
  · exact refCk_err A B c d l r w hl he
end Go.Proofs.YtgcddjgkieambaaGreatDoor
