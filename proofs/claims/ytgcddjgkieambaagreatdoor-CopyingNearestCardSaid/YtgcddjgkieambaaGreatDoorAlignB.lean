/- The walk of 'Align'. -/
import Derived.Test.YtgcddjgkieambaaGreatDoorAlignP
set_option linter.unusedVariables false
set_option linter.unusedSimpArgs false
namespace Go.Proofs.YtgcddjgkieambaaGreatDoor
open Go.RowKit

set_option maxRecDepth 100000 in
set_option maxHeartbeats 1000000 in
theorem Align_no (m : Int) (s h : ByteArray) (w : World) (he : errOf m s h ≠ 0) :
    Calls Tryz.prog 21 #[.int .i64 m, .string s, .string h] w fun e w' => e = .returned (.tuple #[.slice none 0 0, .int .i64 (errOf m s h)]) ∧ Below w.heap.size w w' := by
  have hc := fun W => hearing_no m s h W he
  obtain ⟨er, her⟩ : ∃ er, er = errOf m s h := ⟨_, rfl⟩
  rw [← her] at hc he ⊢
  have h0 : (er != 0) = true := by simpa using he
  have HC := Lib.hid hc
  clear hc her he
  unfold zeroHeard at HC
  go_enter Tryz.func21, Tryz.ntmps21
  go_wp2_with (first | (go_at_call 64; refine (HC.out _).mono ?_; rintro e w1 ⟨rfl, hb1⟩))
  go_ret2
  exact ⟨rfl, (hb1.alloc hb1.size _)⟩

/-- A step of an alignment, as it lies in memory. -/
def stepV (x : Int × Int × Int) : List Value := [.int .i64 x.1, .int .i64 x.2.1, .int .i64 x.2.2]
def stepsV (l : List (Int × Int × Int)) : List Value := l.flatMap stepV
theorem stepsV_snoc (l : List (Int × Int × Int)) (x : Int × Int × Int) : stepsV (l ++ [x]) = stepsV l ++ stepV x := by simp [stepsV]
theorem info34 : (Tryz.prog.info? 34).map (fun i => (i.zero, i.size, i.bytes)) = some (some (.agg #[.int .i64 0, .int .i64 0, .int .i64 0]), 3, 24) := by kernel_rfl

/-- A list of steps in memory. -/
def Steps (w : World) (v : Value) (l : List (Int × Int × Int)) : Prop := ∃ B, w.ownsRow B 34 3 v l.length (stepsV l)
theorem own_later {w w' : World} {B : Nat} {e : TypeId} {z n : Nat} {v : Value} {xs : List Value} (h : w.ownsRow B e z v n xs) (hb : Below w.heap.size w w') : w'.ownsRow B e z v n xs :=
  h.kept (row := none) ⟨hb.os, hb.tape, hb.output, hb.size, fun g hg _ => hb.block g hg⟩ (by cases hv : v.ownBlock <;> simp)
theorem Steps.later {w w' : World} {v : Value} {l : List (Int × Int × Int)} (h : Steps w v l) (hb : Below w.heap.size w w') : Steps w' v l := by
  obtain ⟨B, h⟩ := h; exact ⟨B, own_later h hb⟩
abbrev alX (mode : Int) (s h : List Nat) (f i k : Nat) : List (Int × Int × Int) := Cm.alFrom s.length h.length (Cm.Lf mode s h) (Cm.atL mode s h) (Cm.missC mode) (Cm.extraC mode) f i k
/-- What holds at the head of each round. -/
def AlRel (mode : Int) (s h : List Nat) (wo : World) (v14 v15 v16 : Value) (wx : World) : Prop :=
  ∃ (i k f : Nat) (pre : List (Int × Int × Int)), v15 = .int .i64 i ∧ v16 = .int .i64 k ∧ i ≤ s.length ∧ k ≤ h.length ∧ (s.length - i) + (h.length - k) ≤ f ∧ pre.length ≤ i + k ∧
    Cm.ali mode s h = pre ++ alX mode s h f i k ∧ wx.ownsRow wo.heap.size 34 3 v14 pre.length (stepsV pre) ∧ Below wo.heap.size wo wx
/-- What lies ready before the loop: what is heard (in block b), the lengths (pn, pm), and the table of what is left (pt). -/
def Ready (mode : Int) (T : TypeId) (x : Value) (A B : Option Addr) (ca cb : Nat) (s h : List Nat) (b pn pm pt : Nat) (v : Value) (w5 : World) : Prop :=
  Heard w5 mode T x A B s.length h.length s h ∧ Blk w5 b 75 #[.iface T x, .slice A s.length ca, .slice B h.length cb] ∧ Blk w5 pn 3 #[.int .i64 s.length] ∧ Blk w5 pm 3 #[.int .i64 h.length] ∧ Blk w5 pt 37 #[v] ∧
    Tab w5 0 v (s.length + 1) (h.length + 1) (Cm.T (Cm.missC mode) (Cm.extraC mode) (atC mode s.reverse h.reverse))

theorem Tab.later {w w' : World} {B : Nat} {v : Value} {n m : Nat} {f : Nat → Nat → Int} (h : Tab w B v n m f) (hb : Below w.heap.size w w') : Tab w' B v n m f := by
  obtain ⟨g, r, e, hB, hg, hr⟩ := h
  exact ⟨g, r, e, hB, hg.later hb, fun j hj => ⟨(hr j hj).1, (hr j hj).2.later hb⟩⟩
theorem own_news3 (W : World) (t : TypeId) (x y z : Value) : ∀ j u, [x, y, z][j]? = some u → (W.alloc (.cells #[x, y, z] t)).cell? ((⟨W.heap.size, 0, none⟩ : Addr).add j) = some u := by
  intro j u hj
  have hB := Blk.new W t #[x, y, z]
  match j, hj with
  | 0, hj => simp at hj; subst hj; exact hB.cell 0
  | 1, hj => simp at hj; subst hj; rw [show (⟨W.heap.size, 0, none⟩ : Addr).add 1 = ⟨W.heap.size, 1, none⟩ from rfl]; exact hB.cell 1
  | 2, hj => simp at hj; subst hj; rw [show (⟨W.heap.size, 0, none⟩ : Addr).add 2 = ⟨W.heap.size, 2, none⟩ from rfl]; exact hB.cell 2
theorem one_ints (x y z : Int) : ∀ u ∈ [Value.int .i64 x, Value.int .i64 y, Value.int .i64 z], u.oneCell' = true := by
  intro u hu
  simp at hu
  rcases hu with rfl | rfl | rfl <;> rfl
theorem AlRel.step {mode : Int} {s h : List Nat} {wo w1 : World} {v' : Value} {i k i' k' f : Nat} {pre : List (Int × Int × Int)} {x : Int × Int × Int}
    (hi : i' ≤ s.length) (hk : k' ≤ h.length) (hf : (s.length - i') + (h.length - k') ≤ f) (hp : pre.length + 1 ≤ i' + k') (hall : Cm.ali mode s h = pre ++ alX mode s h (f + 1) i k) (hst : alX mode s h (f + 1) i k = x :: alX mode s h f i' k')
    (hown : w1.ownsRow wo.heap.size 34 3 v' (pre.length + 1) (stepsV pre ++ stepV x)) (hb : Below wo.heap.size wo w1) (v15 v16 : Value) (h15 : v15 = .int .i64 i') (h16 : v16 = .int .i64 k') : AlRel mode s h wo v' v15 v16 w1 :=
  ⟨i', k', f, pre ++ [x], h15, h16, hi, hk, hf, by simpa using hp, by rw [hall, hst]; simp, by rw [List.length_append, stepsV_snoc]; exact hown, hb⟩
theorem Ready.later {mode : Int} {T : TypeId} {x : Value} {A B : Option Addr} {ca cb : Nat} {s h : List Nat} {b pn pm pt : Nat} {v : Value} {w w' : World} (H : Ready mode T x A B ca cb s h b pn pm pt v w) (hb : Below w.heap.size w w') :
    Ready mode T x A B ca cb s h b pn pm pt v w' := by
  obtain ⟨h1, h2, h3, h4, h5, g, r, e, hB, hg, hr⟩ := H
  exact ⟨h1.later hb, h2.later hb, h3.later hb, h4.later hb, h5.later hb, g, r, e, hB, hg.later hb, fun j hj => ⟨(hr j hj).1, (hr j hj).2.later hb⟩⟩


theorem left_ready {mode : Int} {T : TypeId} {x : Value} {A B : Option Addr} {ca cb : Nat} {s h : List Nat} {b pn pm pt : Nat} {v : Value} {w : World} (H : Ready mode T x A B ca cb s h b pn pm pt v w) (i k : Int) (h0 : 0 ≤ i) (h1 : i ≤ s.length) (h2 : 0 ≤ k) (h3 : k ≤ h.length) :
    Calls Tryz.prog 68 #[.int .i64 i, .int .i64 k, .pointer (some ⟨pt, 0, none⟩), .pointer (some ⟨pn, 0, none⟩), .pointer (some ⟨pm, 0, none⟩)] w fun e w' => e = .returned (.int .i64 (Cm.Lf mode s h i.toNat k.toNat)) ∧ Below w.heap.size w w' :=
  (left_any pt pn pm v s.length h.length 0 _ i k w h0 h1 h2 h3 H.1.sl H.1.hl (H.2.2.2.2.1.cell 0) (H.2.2.1.cell 0) (H.2.2.2.1.cell 0) H.2.2.2.2.2).mono fun e w' ⟨he, q, hw⟩ => ⟨he, hw ▸ below_drewN0 q⟩
theorem at_ready {mode : Int} {T : TypeId} {x : Value} {A B : Option Addr} {ca cb : Nat} {s h : List Nat} {b pn pm pt : Nat} {v : Value} {w : World} (H : Ready mode T x A B ca cb s h b pn pm pt v w) (i k : Int) (h0 : 0 ≤ i) (h1 : i < s.length) (h2 : 0 ≤ k) (h3 : k < h.length) :
    Calls Tryz.prog 69 #[.agg #[.iface T x, .slice A s.length ca, .slice B h.length cb], .int .i64 i, .int .i64 k] w fun e w' => e = .returned (.int .i64 (Cm.atL mode s h i.toNat k.toNat)) ∧ Below w.heap.size w w' :=
  at_any mode T x A B s.length h.length ca cb s h i k w H.1 h0 h1 h2 h3

theorem two_new1 (w : World) (u v : Value) (t t' : TypeId) : Blk ((w.alloc (.cells #[u] t)).alloc (.cells #[v] t')).drew w.heap.size t #[u] := ((Blk.new w t #[u]).alloc _).drew
theorem two_new2 (w : World) (u v : Value) (t t' : TypeId) : Blk ((w.alloc (.cells #[u] t)).alloc (.cells #[v] t')).drew (w.heap.size + 1) t' #[v] := by
  have h := (Blk.new (w.alloc (.cells #[u] t)) t' #[v]).drew
  simpa using h
theorem two_newB (w : World) (u v : Value) (t t' : TypeId) : Below w.heap.size w ((w.alloc (.cells #[u] t)).alloc (.cells #[v] t')).drew := ((below_alloc0 _).alloc (by simp) _).drew

set_option maxRecDepth 100000 in
set_option maxHeartbeats 4000000 in
theorem Align_ok (m : Int) (s h : ByteArray) (w : World) (he : errOf m s h = 0) :
    Calls Tryz.prog 21 #[.int .i64 m, .string s, .string h] w fun e w' => ∃ v, e = .returned (.tuple #[v, .int .i64 0]) ∧ Steps w' v (Cm.ali m (row s) (row h)) ∧ Below w.heap.size w w' := by
  rcases errOf_cases m s h with ⟨e, _⟩ | ⟨e, _⟩ | ⟨e, _⟩ | ⟨_, hm, l1, l2, c1, c2⟩
  · omega
  · omega
  · omega
  clear he
  have hA := hearing_ok m s h w hm l1 l2 c1 c2
  rw [← row_length s] at hA l1
  rw [← row_length h] at hA l2
  obtain ⟨xs, hxs⟩ : ∃ xs, xs = row s := ⟨_, rfl⟩
  obtain ⟨ys, hys⟩ : ∃ ys, ys = row h := ⟨_, rfl⟩
  rw [← hxs, ← hys] at hA ⊢
  rw [← hxs] at l1
  rw [← hys] at l2
  have HA := Lib.hid hA
  clear hA hxs hys c1 c2 hm
  go_enter Tryz.func21, Tryz.ntmps21
  go_upto_region 4 with (first | (go_at_call 64; refine HA.out.mono ?_; rintro e w1 ⟨T, x, A, B, ca, cb, rfl, hH, hb1⟩))
  have hb2 := hb1.alloc hb1.size (Obj.cells #[.iface T x, .slice A xs.length ca, .slice B ys.length cb] 75)
  have hH2 := hH.later (below_alloc0 (Obj.cells #[.iface T x, .slice A xs.length ca, .slice B ys.length cb] 75))
  have hB2 := Blk.new w1 75 #[.iface T x, .slice A xs.length ca, .slice B ys.length cb]
  obtain ⟨b, hbb⟩ : ∃ b, b = w1.heap.size := ⟨_, rfl⟩
  obtain ⟨W, hW⟩ : ∃ W, W = w1.alloc (Obj.cells #[.iface T x, .slice A xs.length ca, .slice B ys.length cb] 75) := ⟨_, rfl⟩
  rw [← hW] at hb2 hH2 hB2 ⊢
  rw [← hbb] at hB2 ⊢
  clear hW hbb hH hb1 HA
  obtain ⟨q0, q1, q2, _, _, _⟩ := blk3 hB2
  have lW := hB2.lt
  have hn0 : ¬ W.heap.size = b := by omega
  have hn1 : ¬ W.heap.size + 1 = b := by omega
  have Hb2 := Lib.hid hb2
  have HH2 := Lib.hid hH2
  have HB2 := Lib.hid hB2
  clear hb2 hH2 hB2
  go_cut [10, 11] (fun s10 s11 wx => ∃ pn pm : Nat, s10 = .pointer (some ⟨pn, 0, none⟩) ∧ s11 = .pointer (some ⟨pm, 0, none⟩) ∧ Blk wx pn 3 #[.int .i64 xs.length] ∧ Blk wx pm 3 #[.int .i64 ys.length] ∧ Below W.heap.size W wx)
  case first =>
    go_region_held3 (fun w' => w'.cell? ⟨b, 1, none⟩ = some (.slice A xs.length ca) ∧ w'.cell? ⟨b, 2, none⟩ = some (.slice B ys.length cb)) (simp [*, World.cell?_alloc_some, World.cell?_setCell_far]) (fail)
    all_goals
      go_wp2_with fail
      go_meet
      first
        | exact ⟨_, _, rfl, rfl, two_new1 _ _ _ _ _, two_new2 _ _ _ _ _, two_newB _ _ _ _ _⟩
        | exact ⟨_, _, rfl, rfl, two_new2 _ _ _ _ _, two_new1 _ _ _ _ _, two_newB _ _ _ _ _⟩
  case rest =>
    obtain ⟨pn, pm, rfl, rfl, hn, hm, hbc⟩ := hcut
    have hBc := HB2.out.later hbc
    obtain ⟨r0, r1, r2, _, _, _⟩ := blk3 hBc
    have hHc := HH2.out.later hbc
    have cR := Lib.hid (reversed_any m T x A B _ _ ca cb xs ys wc hHc)
    have hmf : ∀ (fn : Fn) (first cap : Array Value) (w : World), (Instr.makeFunc fn first cap).run Tryz.prog w = .ok (.func fn first cap) w := fun _ _ _ _ => rfl
    have HHc := Lib.hid hHc
    have HBc := Lib.hid hBc
    have Hn := Lib.hid hn
    have Hm := Lib.hid hm
    have Hbc := Lib.hid hbc
    clear hHc hBc hn hm hbc
    go_wp2_with (first | (go_at_call 66; refine cR.out.mono ?_; rintro e w3 ⟨A', B', ca', cb', rfl, hH3, hb3⟩) | (go_at_call 67; refine (table_heard m T x A' B' _ _ ca' cb' _ _ _ hH3).mono ?_; rintro e w4 ⟨v, rfl, ⟨gt, rt, rfl, hg0, hgt, hrt⟩, hb4⟩))
    have hb34 := below_trans' hb3 hb4
    have hT : Tab w4 0 (.slice (some ⟨gt, 0, none⟩) (xs.reverse.length + 1) (xs.reverse.length + 1)) (xs.reverse.length + 1) (ys.reverse.length + 1) (Cm.T (Cm.missC m) (Cm.extraC m) (atC m xs.reverse ys.reverse)) := ⟨gt, rt, rfl, Nat.zero_le _, hgt, fun j hj => ⟨Nat.zero_le _, (hrt j hj).2⟩⟩
    rw [List.length_reverse, List.length_reverse] at hT
    have hb45 := hb34.alloc hb34.size (Obj.cells #[.slice (some ⟨gt, 0, none⟩) (xs.length + 1) (xs.length + 1)] 37)
    have hR : Ready m T x A B ca cb xs ys b pn pm w4.heap.size (.slice (some ⟨gt, 0, none⟩) (xs.length + 1) (xs.length + 1)) (w4.alloc (Obj.cells #[.slice (some ⟨gt, 0, none⟩) (xs.length + 1) (xs.length + 1)] 37)) :=
      ⟨HHc.out.later hb45, HBc.out.later hb45, Hn.out.later hb45, Hm.out.later hb45, Blk.new _ _ _, hT.later (below_alloc0 _)⟩
    have hb05 := below_trans' Hb2.out (below_trans' Hbc.out hb45)
    obtain ⟨W5, hW5⟩ : ∃ W5, W5 = w4.alloc (Obj.cells #[.slice (some ⟨gt, 0, none⟩) (xs.length + 1) (xs.length + 1)] 37) := ⟨_, rfl⟩
    obtain ⟨pt, hpt⟩ : ∃ p, p = w4.heap.size := ⟨_, rfl⟩
    rw [← hW5, ← hpt] at hR ⊢
    rw [← hW5] at hb05
    clear hW5 hpt hb45 hT hrt hgt hg0 hb3 hb4 hb34 hH3 cR HHc HBc Hn Hm Hbc HB2 HH2 q0 q1 q2 r0 r1 r2
    obtain ⟨fm, fe, fs, hc⟩ := hR.1.c
    have HM5 := Lib.hid (fun W' hB => hc.cm W' hB)
    have HE5 := Lib.hid (fun W' hB => hc.ce W' hB)
    have hmm := hc.mm
    have hem := hc.em
    have hme := hc.me
    have hee := hc.ee
    unfold Enters at hem hee
    have HR := Lib.hid hR
    have Hb05 := Lib.hid hb05
    have bm := Cm.missC_bd m
    have be := Cm.extraC_bd m
    clear hc hR hb05
    obtain ⟨i0, hi0, hz0, hz1, hz2⟩ := info_parts info34
    go_loopw [14, 15, 16] (fun v14 v15 v16 wx => AlRel m xs ys W5 v14 v15 v16 wx) (fun _ v15 v16 _ => (xs.length - (intOf v15).toNat) + (ys.length - (intOf v16).toNat))
    case atStart => exact ⟨0, 0, xs.length + ys.length, [], rfl, rfl, by omega, by omega, by omega, by simp, rfl, World.ownsRow_nil _ _ _ _, Below.refl _ _⟩
    case round =>
      obtain ⟨i, k, f, pre, rfl, rfl, hi, hk, hf, hp, hall, hown, hb⟩ := hrel
      have hRr := HR.out.later hb
      have c0 : wr.cell? ⟨b, 0, none⟩ = some (.iface T x) := hRr.2.1.cell 0
      have c1 : wr.cell? ⟨b, 1, none⟩ = some (.slice A xs.length ca) := hRr.2.1.cell 1
      have c2 : wr.cell? ⟨b, 2, none⟩ = some (.slice B ys.length cb) := hRr.2.1.cell 2
      have c3 : wr.cell? ⟨pn, 0, none⟩ = some (.int .i64 xs.length) := hRr.2.2.1.cell 0
      have c4 : wr.cell? ⟨pm, 0, none⟩ = some (.int .i64 ys.length) := hRr.2.2.2.1.cell 0
      have lb := hRr.2.1.lt
      have ln := hRr.2.2.1.lt
      have lm := hRr.2.2.2.1.lt
      have hsz := hb.size
      have HL0 := Lib.hid (fun (a d : Int) h0 h1 h2 h3 W' (hW' : Below wr.heap.size wr W') => left_ready (hRr.later hW') a d h0 h1 h2 h3)
      have HA0 := Lib.hid (fun (a d : Int) h0 h1 h2 h3 W' (hW' : Below wr.heap.size wr W') => at_ready (hRr.later hW') a d h0 h1 h2 h3)
      have HM := Lib.hid (fun W' (hW' : Below wr.heap.size wr W') => HM5.out W' (below_trans' hb hW'))
      have HE := Lib.hid (fun W' (hW' : Below wr.heap.size wr W') => HE5.out W' (below_trans' hb hW'))
      have Hown := Lib.hid hown
      have Hall := Lib.hid hall
      have Hb := Lib.hid hb
      have hD0 : Below wr.heap.size wr wr.drew := (Below.refl _ _).drew
      have hD1 : Below wr.heap.size wr wr.drew.drew := (Below.refl _ _).drew.drew
      clear hRr hown hall hb
      by_cases hin : i < xs.length
      · have d1 : decide ((i : Int) < (xs.length : Int)) = true := by simp; omega
        have q1 : IntKind.i64.wrap ((i : Int) + 1) = (i : Int) + 1 := IntWalk.i64_in _ (by omega)
        obtain ⟨z00, hz00⟩ : ∃ z, z = Cm.Lf m xs ys i k := ⟨_, rfl⟩
        obtain ⟨z10, hz10⟩ : ∃ z, z = Cm.Lf m xs ys (i + 1) k := ⟨_, rfl⟩
        have bz10 := Cm.Lf_bd (mode := m) (s := xs) (h := ys) (i := i + 1) (k := k) l1 l2
        have HL00 := Lib.hid (HL0.out i k (by omega) (by omega) (by omega) (by omega))
        have HL10 := Lib.hid (HL0.out ((i : Int) + 1) k (by omega) (by omega) (by omega) (by omega))
        rw [show ((i : Int) + 1).toNat = i + 1 by omega] at HL10
        simp only [Int.toNat_natCast] at HL00 HL10
        rw [← hz00] at HL00
        rw [← hz10] at HL10 bz10
        have q3 : IntKind.i64.wrap (Cm.missC m + z10) = Cm.missC m + z10 := IntWalk.i64_in _ (by omega)
        by_cases hkm : k < ys.length
        · have d2 : decide ((k : Int) < (ys.length : Int)) = true := by simp; omega
          have q2 : IntKind.i64.wrap ((k : Int) + 1) = (k : Int) + 1 := IntWalk.i64_in _ (by omega)
          obtain ⟨z11, hz11⟩ : ∃ z, z = Cm.Lf m xs ys (i + 1) (k + 1) := ⟨_, rfl⟩
          obtain ⟨za, hza⟩ : ∃ z, z = Cm.atL m xs ys i k := ⟨_, rfl⟩
          have bz11 := Cm.Lf_bd (mode := m) (s := xs) (h := ys) (i := i + 1) (k := k + 1) l1 l2
          have bza := Cm.atL_bd (mode := m) (s := xs) (h := ys) (i := i) (k := k)
          have HL11 := Lib.hid (HL0.out ((i : Int) + 1) ((k : Int) + 1) (by omega) (by omega) (by omega) (by omega))
          have HA := Lib.hid (HA0.out i k (by omega) (by omega) (by omega) (by omega))
          rw [show ((i : Int) + 1).toNat = i + 1 by omega, show ((k : Int) + 1).toNat = k + 1 by omega] at HL11
          simp only [Int.toNat_natCast] at HA
          rw [← hz11] at HL11 bz11
          rw [← hza] at HA bza
          have q4 : IntKind.i64.wrap (za + z11) = za + z11 := IntWalk.i64_in _ (by omega)
          clear HL0 HA0
          by_cases hsw : z00 = za + z11
          · have d3 : (z00 == za + z11) = true := by simpa using hsw
            obtain ⟨f, rfl⟩ : ∃ g, f = g + 1 := ⟨f - 1, by omega⟩
            have Hst : Hid (alX m xs ys (f + 1) i k = ((i : Int), (k : Int), za) :: alX m xs ys f (i + 1) (k + 1)) := by
              refine Lib.hid ?_
              rw [hza]; exact Cm.alFrom_swap hin hkm (by rw [← hz00, ← hz11, ← hza]; exact hsw)
            clear hz00 hz10 hz11 hza hsw
            go_wp2
            go_region_held3 (fun w' => w'.cell? ⟨b, 0, none⟩ = some (.iface T x) ∧ w'.cell? ⟨b, 1, none⟩ = some (.slice A xs.length ca) ∧ w'.cell? ⟨b, 2, none⟩ = some (.slice B ys.length cb) ∧ w'.cell? ⟨pn, 0, none⟩ = some (.int .i64 xs.length) ∧ w'.cell? ⟨pm, 0, none⟩ = some (.int .i64 ys.length)) (simp [*]) (first | (go_at_call 68; refine (HL11.out _ ha2).mono ?_; rintro e wa3 ⟨rfl, hbwa3⟩; have ha3 := below_trans' ha2 hbwa3; have ak0 := (ha3.cell (p := ⟨b, 0, none⟩) lb).trans c0; have ak1 := (ha3.cell (p := ⟨b, 1, none⟩) lb).trans c1; have ak2 := (ha3.cell (p := ⟨b, 2, none⟩) lb).trans c2; have ak3 := (ha3.cell (p := ⟨pn, 0, none⟩) ln).trans c3; have ak4 := (ha3.cell (p := ⟨pm, 0, none⟩) lm).trans c4) | (go_at_call 69; refine (HA.out _ ha1).mono ?_; rintro e wa2 ⟨rfl, hbwa2⟩; have ha2 := below_trans' ha1 hbwa2; have ag0 := (ha2.cell (p := ⟨b, 0, none⟩) lb).trans c0; have ag1 := (ha2.cell (p := ⟨b, 1, none⟩) lb).trans c1; have ag2 := (ha2.cell (p := ⟨b, 2, none⟩) lb).trans c2; have ag3 := (ha2.cell (p := ⟨pn, 0, none⟩) ln).trans c3; have ag4 := (ha2.cell (p := ⟨pm, 0, none⟩) lm).trans c4) | (go_at_call 68; refine (HL00.out _ hD0).mono ?_; rintro e wa1 ⟨rfl, hbwa1⟩; have ha1 := below_trans' hD0 hbwa1; have ad0 := (ha1.cell (p := ⟨b, 0, none⟩) lb).trans c0; have ad1 := (ha1.cell (p := ⟨b, 1, none⟩) lb).trans c1; have ad2 := (ha1.cell (p := ⟨b, 2, none⟩) lb).trans c2; have ad3 := (ha1.cell (p := ⟨pn, 0, none⟩) ln).trans c3; have ad4 := (ha1.cell (p := ⟨pm, 0, none⟩) lm).trans c4))
            all_goals
              go_wp2_with (first
                | (at_builtin; refine wpList_append_own _ rfl _ _ 30 rfl W5.heap.size 34 i0 _ 3 24 Tryz.underlying30 hi0 hz0 hz1 hz2 rfl (by decide) _ _ _ rfl (hownb.alloc _) ⟨wb4.heap.size, 0, none⟩ 1 1 [.int .i64 (i : Int), .int .i64 (k : Int), .int .i64 za] rfl rfl ?c1 ?c2 ?c3 ?c4 ?c5 ?_)
                | (go_at_call 69; refine (HA.out _ ha3).mono ?_; rintro e wb4 ⟨rfl, hbwb4⟩; have hb4 := below_trans' ha3 hbwb4; have hownb := own_later Hown.out hb4))
              case c1 => exact own_news3 _ _ _ _ _
              case c2 => exact one_ints _ _ _
              case c3 => unfold maxLen; omega
              case c4 => omega
              case c5 => have := hb4.size; simp; omega
              · intro v' w1 hown' hgrow _
                have hs4 := hb4.size
                have hBel := ((below_trans' Hb.out hb4).alloc (by omega) _).grown hgrow (by simp; omega) (fun g hg => (hownb.lt g hg).1)
                have hRel := Lib.hid (fun v15 v16 h15 h16 => AlRel.step (i' := i + 1) (k' := k + 1) (by omega) (by omega) (by omega) (by omega) Hall.out Hst.out hown' hBel v15 v16 h15 h16)
                clear hown' hgrow hBel
                go_wp2
                go_roundw
                case rel => exact hRel.out _ _ (by go_num) (by go_num)
                case measure => simp [intOf]; omega
          · have d3 : (z00 == za + z11) = false := by simpa using hsw
            obtain ⟨f, rfl⟩ : ∃ g, f = g + 1 := ⟨f - 1, by omega⟩
            by_cases hms : z00 = Cm.missC m + z10
            · have d4 : (z00 == Cm.missC m + z10) = true := by simpa using hms
              have Hst : Hid (alX m xs ys (f + 1) i k = ((i : Int), -1, Cm.missC m) :: alX m xs ys f (i + 1) k) := by
                refine Lib.hid ?_
                exact Cm.alFrom_miss hin (fun e => hsw (by rw [hz00, hz11, hza]; exact e.2)) (by rw [← hz00, ← hz10]; exact hms)
              clear hz00 hz10 hz11 hza hsw hms
              go_wp2
              go_region_held3 (fun w' => w'.cell? ⟨b, 0, none⟩ = some (.iface T x) ∧ w'.cell? ⟨b, 1, none⟩ = some (.slice A xs.length ca) ∧ w'.cell? ⟨b, 2, none⟩ = some (.slice B ys.length cb) ∧ w'.cell? ⟨pn, 0, none⟩ = some (.int .i64 xs.length) ∧ w'.cell? ⟨pm, 0, none⟩ = some (.int .i64 ys.length)) (simp [*]) (first | (go_at_call 68; refine (HL11.out _ ha2).mono ?_; rintro e wa3 ⟨rfl, hbwa3⟩; have ha3 := below_trans' ha2 hbwa3; have ak0 := (ha3.cell (p := ⟨b, 0, none⟩) lb).trans c0; have ak1 := (ha3.cell (p := ⟨b, 1, none⟩) lb).trans c1; have ak2 := (ha3.cell (p := ⟨b, 2, none⟩) lb).trans c2; have ak3 := (ha3.cell (p := ⟨pn, 0, none⟩) ln).trans c3; have ak4 := (ha3.cell (p := ⟨pm, 0, none⟩) lm).trans c4) | (go_at_call 69; refine (HA.out _ ha1).mono ?_; rintro e wa2 ⟨rfl, hbwa2⟩; have ha2 := below_trans' ha1 hbwa2; have ag0 := (ha2.cell (p := ⟨b, 0, none⟩) lb).trans c0; have ag1 := (ha2.cell (p := ⟨b, 1, none⟩) lb).trans c1; have ag2 := (ha2.cell (p := ⟨b, 2, none⟩) lb).trans c2; have ag3 := (ha2.cell (p := ⟨pn, 0, none⟩) ln).trans c3; have ag4 := (ha2.cell (p := ⟨pm, 0, none⟩) lm).trans c4) | (go_at_call 68; refine (HL00.out _ hD0).mono ?_; rintro e wa1 ⟨rfl, hbwa1⟩; have ha1 := below_trans' hD0 hbwa1; have ad0 := (ha1.cell (p := ⟨b, 0, none⟩) lb).trans c0; have ad1 := (ha1.cell (p := ⟨b, 1, none⟩) lb).trans c1; have ad2 := (ha1.cell (p := ⟨b, 2, none⟩) lb).trans c2; have ad3 := (ha1.cell (p := ⟨pn, 0, none⟩) ln).trans c3; have ad4 := (ha1.cell (p := ⟨pm, 0, none⟩) lm).trans c4))
              all_goals
                go_wp2
                go_region_held3 (fun w' => w'.cell? ⟨b, 0, none⟩ = some (.iface T x) ∧ w'.cell? ⟨b, 1, none⟩ = some (.slice A xs.length ca) ∧ w'.cell? ⟨b, 2, none⟩ = some (.slice B ys.length cb) ∧ w'.cell? ⟨pn, 0, none⟩ = some (.int .i64 xs.length) ∧ w'.cell? ⟨pm, 0, none⟩ = some (.int .i64 ys.length)) (simp [*]) (first | (go_at_call 68; refine (HL10.out _ hb2).mono ?_; rintro e wb3 ⟨rfl, hbwb3⟩; have hb3 := below_trans' hb2 hbwb3; have bk0 := (hb3.cell (p := ⟨b, 0, none⟩) lb).trans c0; have bk1 := (hb3.cell (p := ⟨b, 1, none⟩) lb).trans c1; have bk2 := (hb3.cell (p := ⟨b, 2, none⟩) lb).trans c2; have bk3 := (hb3.cell (p := ⟨pn, 0, none⟩) ln).trans c3; have bk4 := (hb3.cell (p := ⟨pm, 0, none⟩) lm).trans c4) | (go_at_fn fm; refine (HM.out _ hb1).mono ?_; rintro e wb2 ⟨rfl, hbwb2⟩; have hb2 := below_trans' hb1 hbwb2; have bg0 := (hb2.cell (p := ⟨b, 0, none⟩) lb).trans c0; have bg1 := (hb2.cell (p := ⟨b, 1, none⟩) lb).trans c1; have bg2 := (hb2.cell (p := ⟨b, 2, none⟩) lb).trans c2; have bg3 := (hb2.cell (p := ⟨pn, 0, none⟩) ln).trans c3; have bg4 := (hb2.cell (p := ⟨pm, 0, none⟩) lm).trans c4) | (go_at_call 68; refine (HL00.out _ (ha3.drew)).mono ?_; rintro e wb1 ⟨rfl, hbwb1⟩; have hb1 := below_trans' (ha3.drew) hbwb1; have bd0 := (hb1.cell (p := ⟨b, 0, none⟩) lb).trans c0; have bd1 := (hb1.cell (p := ⟨b, 1, none⟩) lb).trans c1; have bd2 := (hb1.cell (p := ⟨b, 2, none⟩) lb).trans c2; have bd3 := (hb1.cell (p := ⟨pn, 0, none⟩) ln).trans c3; have bd4 := (hb1.cell (p := ⟨pm, 0, none⟩) lm).trans c4))
                all_goals
                  go_wp2_with (first
                    | (at_builtin; refine wpList_append_own _ rfl _ _ 30 rfl W5.heap.size 34 i0 _ 3 24 Tryz.underlying30 hi0 hz0 hz1 hz2 rfl (by decide) _ _ _ rfl (hownb.alloc _) ⟨wb4.heap.size, 0, none⟩ 1 1 [.int .i64 (i : Int), .int .i64 (-1), .int .i64 (Cm.missC m)] rfl rfl ?c1 ?c2 ?c3 ?c4 ?c5 ?_)
                    | (go_at_fn fm; refine (HM.out _ hb3).mono ?_; rintro e wb4 ⟨rfl, hbwb4⟩; have hb4 := below_trans' hb3 hbwb4; have hownb := own_later Hown.out hb4))
                  case c1 => exact own_news3 _ _ _ _ _
                  case c2 => exact one_ints _ _ _
                  case c3 => unfold maxLen; omega
                  case c4 => omega
                  case c5 => have := hb4.size; simp; omega
                  · intro v' w1 hown' hgrow _
                    have hs4 := hb4.size
                    have hBel := ((below_trans' Hb.out hb4).alloc (by omega) _).grown hgrow (by simp; omega) (fun g hg => (hownb.lt g hg).1)
                    have hRel := Lib.hid (fun v15 v16 h15 h16 => AlRel.step (i' := i + 1) (k' := k) (by omega) (by omega) (by omega) (by omega) Hall.out Hst.out hown' hBel v15 v16 h15 h16)
                    clear hown' hgrow hBel
                    go_wp2
                    go_roundw
                    case rel => exact hRel.out _ _ (by go_num) (by go_num)
                    case measure => simp [intOf]; omega
            · have d4 : (z00 == Cm.missC m + z10) = false := by simpa using hms
              have Hst : Hid (alX m xs ys (f + 1) i k = (-1, (k : Int), Cm.extraC m) :: alX m xs ys f i (k + 1)) := by
                refine Lib.hid ?_
                exact Cm.alFrom_extra hkm (fun e => hsw (by rw [hz00, hz11, hza]; exact e.2)) (fun e => hms (by rw [hz00, hz10]; exact e.2))
              clear hz00 hz10 hz11 hza hsw hms
              go_wp2
              go_region_held3 (fun w' => w'.cell? ⟨b, 0, none⟩ = some (.iface T x) ∧ w'.cell? ⟨b, 1, none⟩ = some (.slice A xs.length ca) ∧ w'.cell? ⟨b, 2, none⟩ = some (.slice B ys.length cb) ∧ w'.cell? ⟨pn, 0, none⟩ = some (.int .i64 xs.length) ∧ w'.cell? ⟨pm, 0, none⟩ = some (.int .i64 ys.length)) (simp [*]) (first | (go_at_call 68; refine (HL11.out _ ha2).mono ?_; rintro e wa3 ⟨rfl, hbwa3⟩; have ha3 := below_trans' ha2 hbwa3; have ak0 := (ha3.cell (p := ⟨b, 0, none⟩) lb).trans c0; have ak1 := (ha3.cell (p := ⟨b, 1, none⟩) lb).trans c1; have ak2 := (ha3.cell (p := ⟨b, 2, none⟩) lb).trans c2; have ak3 := (ha3.cell (p := ⟨pn, 0, none⟩) ln).trans c3; have ak4 := (ha3.cell (p := ⟨pm, 0, none⟩) lm).trans c4) | (go_at_call 69; refine (HA.out _ ha1).mono ?_; rintro e wa2 ⟨rfl, hbwa2⟩; have ha2 := below_trans' ha1 hbwa2; have ag0 := (ha2.cell (p := ⟨b, 0, none⟩) lb).trans c0; have ag1 := (ha2.cell (p := ⟨b, 1, none⟩) lb).trans c1; have ag2 := (ha2.cell (p := ⟨b, 2, none⟩) lb).trans c2; have ag3 := (ha2.cell (p := ⟨pn, 0, none⟩) ln).trans c3; have ag4 := (ha2.cell (p := ⟨pm, 0, none⟩) lm).trans c4) | (go_at_call 68; refine (HL00.out _ hD0).mono ?_; rintro e wa1 ⟨rfl, hbwa1⟩; have ha1 := below_trans' hD0 hbwa1; have ad0 := (ha1.cell (p := ⟨b, 0, none⟩) lb).trans c0; have ad1 := (ha1.cell (p := ⟨b, 1, none⟩) lb).trans c1; have ad2 := (ha1.cell (p := ⟨b, 2, none⟩) lb).trans c2; have ad3 := (ha1.cell (p := ⟨pn, 0, none⟩) ln).trans c3; have ad4 := (ha1.cell (p := ⟨pm, 0, none⟩) lm).trans c4))
              all_goals
                go_wp2
                go_region_held3 (fun w' => w'.cell? ⟨b, 0, none⟩ = some (.iface T x) ∧ w'.cell? ⟨b, 1, none⟩ = some (.slice A xs.length ca) ∧ w'.cell? ⟨b, 2, none⟩ = some (.slice B ys.length cb) ∧ w'.cell? ⟨pn, 0, none⟩ = some (.int .i64 xs.length) ∧ w'.cell? ⟨pm, 0, none⟩ = some (.int .i64 ys.length)) (simp [*]) (first | (go_at_call 68; refine (HL10.out _ hb2).mono ?_; rintro e wb3 ⟨rfl, hbwb3⟩; have hb3 := below_trans' hb2 hbwb3; have bk0 := (hb3.cell (p := ⟨b, 0, none⟩) lb).trans c0; have bk1 := (hb3.cell (p := ⟨b, 1, none⟩) lb).trans c1; have bk2 := (hb3.cell (p := ⟨b, 2, none⟩) lb).trans c2; have bk3 := (hb3.cell (p := ⟨pn, 0, none⟩) ln).trans c3; have bk4 := (hb3.cell (p := ⟨pm, 0, none⟩) lm).trans c4) | (go_at_fn fm; refine (HM.out _ hb1).mono ?_; rintro e wb2 ⟨rfl, hbwb2⟩; have hb2 := below_trans' hb1 hbwb2; have bg0 := (hb2.cell (p := ⟨b, 0, none⟩) lb).trans c0; have bg1 := (hb2.cell (p := ⟨b, 1, none⟩) lb).trans c1; have bg2 := (hb2.cell (p := ⟨b, 2, none⟩) lb).trans c2; have bg3 := (hb2.cell (p := ⟨pn, 0, none⟩) ln).trans c3; have bg4 := (hb2.cell (p := ⟨pm, 0, none⟩) lm).trans c4) | (go_at_call 68; refine (HL00.out _ (ha3.drew)).mono ?_; rintro e wb1 ⟨rfl, hbwb1⟩; have hb1 := below_trans' (ha3.drew) hbwb1; have bd0 := (hb1.cell (p := ⟨b, 0, none⟩) lb).trans c0; have bd1 := (hb1.cell (p := ⟨b, 1, none⟩) lb).trans c1; have bd2 := (hb1.cell (p := ⟨b, 2, none⟩) lb).trans c2; have bd3 := (hb1.cell (p := ⟨pn, 0, none⟩) ln).trans c3; have bd4 := (hb1.cell (p := ⟨pm, 0, none⟩) lm).trans c4))
                all_goals
                  go_wp2_with (first
                    | (at_builtin; refine wpList_append_own _ rfl _ _ 30 rfl W5.heap.size 34 i0 _ 3 24 Tryz.underlying30 hi0 hz0 hz1 hz2 rfl (by decide) _ _ _ rfl (hownb.alloc _) ⟨wb4.heap.size, 0, none⟩ 1 1 [.int .i64 (-1), .int .i64 (k : Int), .int .i64 (Cm.extraC m)] rfl rfl ?c1 ?c2 ?c3 ?c4 ?c5 ?_)
                    | (go_at_fn fe; refine (HE.out _ hb3).mono ?_; rintro e wb4 ⟨rfl, hbwb4⟩; have hb4 := below_trans' hb3 hbwb4; have hownb := own_later Hown.out hb4))
                  case c1 => exact own_news3 _ _ _ _ _
                  case c2 => exact one_ints _ _ _
                  case c3 => unfold maxLen; omega
                  case c4 => omega
                  case c5 => have := hb4.size; simp; omega
                  · intro v' w1 hown' hgrow _
                    have hs4 := hb4.size
                    have hBel := ((below_trans' Hb.out hb4).alloc (by omega) _).grown hgrow (by simp; omega) (fun g hg => (hownb.lt g hg).1)
                    have hRel := Lib.hid (fun v15 v16 h15 h16 => AlRel.step (i' := i) (k' := k + 1) (by omega) (by omega) (by omega) (by omega) Hall.out Hst.out hown' hBel v15 v16 h15 h16)
                    clear hown' hgrow hBel
                    go_wp2
                    go_roundw
                    case rel => exact hRel.out _ _ (by go_num) (by go_num)
                    case measure => simp [intOf]; omega
        · have d2 : decide ((k : Int) < (ys.length : Int)) = false := by simp; omega
          obtain ⟨f, rfl⟩ : ∃ g, f = g + 1 := ⟨f - 1, by omega⟩
          have hms : z00 = Cm.missC m + z10 := by rw [hz00, hz10]; exact Cm.Lf_miss hin (by omega)
          have d4 : (z00 == Cm.missC m + z10) = true := by simpa using hms
          have Hst : Hid (alX m xs ys (f + 1) i k = ((i : Int), -1, Cm.missC m) :: alX m xs ys f (i + 1) k) := by
            refine Lib.hid ?_
            exact Cm.alFrom_miss hin (fun e => hkm e.1) (by rw [← hz00, ← hz10]; exact hms)
          clear hz00 hz10 hms HL0 HA0
          go_wp2
          go_quiet (fail)
          go_wp2
          go_region_held3 (fun w' => w'.cell? ⟨b, 0, none⟩ = some (.iface T x) ∧ w'.cell? ⟨b, 1, none⟩ = some (.slice A xs.length ca) ∧ w'.cell? ⟨b, 2, none⟩ = some (.slice B ys.length cb) ∧ w'.cell? ⟨pn, 0, none⟩ = some (.int .i64 xs.length) ∧ w'.cell? ⟨pm, 0, none⟩ = some (.int .i64 ys.length)) (simp [*]) (first | (go_at_call 68; refine (HL10.out _ hb2).mono ?_; rintro e wb3 ⟨rfl, hbwb3⟩; have hb3 := below_trans' hb2 hbwb3; have bk0 := (hb3.cell (p := ⟨b, 0, none⟩) lb).trans c0; have bk1 := (hb3.cell (p := ⟨b, 1, none⟩) lb).trans c1; have bk2 := (hb3.cell (p := ⟨b, 2, none⟩) lb).trans c2; have bk3 := (hb3.cell (p := ⟨pn, 0, none⟩) ln).trans c3; have bk4 := (hb3.cell (p := ⟨pm, 0, none⟩) lm).trans c4) | (go_at_fn fm; refine (HM.out _ hb1).mono ?_; rintro e wb2 ⟨rfl, hbwb2⟩; have hb2 := below_trans' hb1 hbwb2; have bg0 := (hb2.cell (p := ⟨b, 0, none⟩) lb).trans c0; have bg1 := (hb2.cell (p := ⟨b, 1, none⟩) lb).trans c1; have bg2 := (hb2.cell (p := ⟨b, 2, none⟩) lb).trans c2; have bg3 := (hb2.cell (p := ⟨pn, 0, none⟩) ln).trans c3; have bg4 := (hb2.cell (p := ⟨pm, 0, none⟩) lm).trans c4) | (go_at_call 68; refine (HL00.out _ (below_drewN0 _).drew).mono ?_; rintro e wb1 ⟨rfl, hbwb1⟩; have hb1 := below_trans' (below_drewN0 _).drew hbwb1; have bd0 := (hb1.cell (p := ⟨b, 0, none⟩) lb).trans c0; have bd1 := (hb1.cell (p := ⟨b, 1, none⟩) lb).trans c1; have bd2 := (hb1.cell (p := ⟨b, 2, none⟩) lb).trans c2; have bd3 := (hb1.cell (p := ⟨pn, 0, none⟩) ln).trans c3; have bd4 := (hb1.cell (p := ⟨pm, 0, none⟩) lm).trans c4))
          all_goals
            go_wp2_with (first
              | (at_builtin; refine wpList_append_own _ rfl _ _ 30 rfl W5.heap.size 34 i0 _ 3 24 Tryz.underlying30 hi0 hz0 hz1 hz2 rfl (by decide) _ _ _ rfl (hownb.alloc _) ⟨wb4.heap.size, 0, none⟩ 1 1 [.int .i64 (i : Int), .int .i64 (-1), .int .i64 (Cm.missC m)] rfl rfl ?c1 ?c2 ?c3 ?c4 ?c5 ?_)
              | (go_at_fn fm; refine (HM.out _ hb3).mono ?_; rintro e wb4 ⟨rfl, hbwb4⟩; have hb4 := below_trans' hb3 hbwb4; have hownb := own_later Hown.out hb4))
            case c1 => exact own_news3 _ _ _ _ _
            case c2 => exact one_ints _ _ _
            case c3 => unfold maxLen; omega
            case c4 => omega
            case c5 => have := hb4.size; simp; omega
            · intro v' w1 hown' hgrow _
              have hs4 := hb4.size
              have hBel := ((below_trans' Hb.out hb4).alloc (by omega) _).grown hgrow (by simp; omega) (fun g hg => (hownb.lt g hg).1)
              have hRel := Lib.hid (fun v15 v16 h15 h16 => AlRel.step (i' := i + 1) (k' := k) (by omega) (by omega) (by omega) (by omega) Hall.out Hst.out hown' hBel v15 v16 h15 h16)
              clear hown' hgrow hBel
              go_wp2
              go_roundw
              case rel => exact hRel.out _ _ (by go_num) (by go_num)
              case measure => simp [intOf]; omega
      · have d1 : decide ((i : Int) < (xs.length : Int)) = false := by simp; omega
        by_cases hkm : k < ys.length
        · have d2 : decide ((k : Int) < (ys.length : Int)) = true := by simp; omega
          have q2 : IntKind.i64.wrap ((k : Int) + 1) = (k : Int) + 1 := IntWalk.i64_in _ (by omega)
          obtain ⟨f, rfl⟩ : ∃ g, f = g + 1 := ⟨f - 1, by omega⟩
          have Hst : Hid (alX m xs ys (f + 1) i k = (-1, (k : Int), Cm.extraC m) :: alX m xs ys f i (k + 1)) := by
            refine Lib.hid ?_
            exact Cm.alFrom_extra hkm (fun e => hin e.1) (fun e => hin e.1)
          clear HL0 HA0
          go_wp2
          go_quiet (fail)
          go_wp2
          go_quiet (fail)
          go_wp2_with (first
            | (at_builtin; refine wpList_append_own _ rfl _ _ 30 rfl W5.heap.size 34 i0 _ 3 24 Tryz.underlying30 hi0 hz0 hz1 hz2 rfl (by decide) _ _ _ rfl (hownb.alloc _) ⟨wb4.heap.size, 0, none⟩ 1 1 [.int .i64 (-1), .int .i64 (k : Int), .int .i64 (Cm.extraC m)] rfl rfl ?c1 ?c2 ?c3 ?c4 ?c5 ?_)
            | (go_at_fn fe; refine (HE.out _ (by first | exact below_drewN0 _ | exact (below_drewN0 _).drew | exact below_drewN' (below_drewN0 _) _)).mono ?_; rintro e wb4 ⟨rfl, hbwb4⟩; have hb4 := below_trans' (by first | exact below_drewN0 _ | exact (below_drewN0 _).drew | exact below_drewN' (below_drewN0 _) _) hbwb4; have hownb := own_later Hown.out hb4))
          case c1 => exact own_news3 _ _ _ _ _
          case c2 => exact one_ints _ _ _
          case c3 => unfold maxLen; omega
          case c4 => omega
          case c5 => have := hb4.size; simp; omega
          · intro v' w1 hown' hgrow _
            have hs4 := hb4.size
            have hBel := ((below_trans' Hb.out hb4).alloc (by omega) _).grown hgrow (by simp; omega) (fun g hg => (hownb.lt g hg).1)
            have hRel := Lib.hid (fun v15 v16 h15 h16 => AlRel.step (i' := i) (k' := k + 1) (by omega) (by omega) (by omega) (by omega) Hall.out Hst.out hown' hBel v15 v16 h15 h16)
            clear hown' hgrow hBel
            go_wp2
            go_roundw
            case rel => exact hRel.out _ _ (by go_num) (by go_num)
            case measure => simp [intOf]; omega
        · have d2 : decide ((k : Int) < (ys.length : Int)) = false := by simp; omega
          have Hst : Hid (Cm.ali m xs ys = pre) := by
            refine Lib.hid ?_
            have h1 := Hall.out
            rw [alX, Cm.alFrom_end hin hkm, List.append_nil] at h1
            exact h1
          clear HL0 HA0
          go_wp2
          go_ret2
          exact ⟨_, rfl, ⟨_, by rw [Hst.out]; exact Hown.out⟩, below_trans' Hb05.out Hb.out⟩
end Go.Proofs.YtgcddjgkieambaaGreatDoor
