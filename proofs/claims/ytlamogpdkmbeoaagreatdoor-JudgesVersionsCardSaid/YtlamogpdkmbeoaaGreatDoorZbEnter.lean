/- 'enter': the notes take effect in their order. -/
import Derived.Test.YtlamogpdkmbeoaaGreatDoorZbEff
import Derived.Test.YtlamogpdkmbeoaaGreatDoorZbSeq
set_option linter.unusedVariables false
set_option linter.unusedSimpArgs false
set_option maxRecDepth 100000
namespace Go.Proofs.YtlamogpdkmbeoaaGreatDoor
open Go.RowKit Go.Lib Go.Shelf Go.Maps

theorem zeroFn (w : World) : (zeroValue 114).run Tryz.prog w = .ok .nilFunc w := by kernel_rfl
theorem steps_take {L0 L L' : Led} {ds : List Note} {k : Nat} (hk : k < ds.length) (h : Steps L0 (ds.take k) L) (h2 : Step ds[k] L L') : Steps L0 (ds.take (k + 1)) L' := by
  rw [List.take_add_one, List.getElem?_eq_getElem hk]
  exact h.snoc h2
section
variable {F G : Nat → Prop} {base : Nat} {w w' : World} {g : Nat} {L : Led} {bI bW bN bC : Nat} {rv pv hv : Value}
theorem LedIn.refoot (h : LedIn F base w g L bI bW bN bC rv pv hv) (hG : ∀ k, F k → k < w.heap.size → G k) : LedIn G base w g L bI bW bN bC rv pv hv :=
  ⟨h.cells, h.issues, h.withdrawn, h.byName, h.conflicts, h.rulings, h.published, h.history, h.rul, h.jud, h.apart, h.names,
    ⟨hG _ h.own.1 h.cells.lt, hG _ h.own.2.1 h.issues.lt, hG _ h.own.2.2.1 h.withdrawn.lt, hG _ h.own.2.2.2.1 h.byName.lt, hG _ h.own.2.2.2.2.1 h.conflicts.lt, fun x hx => hG _ (h.own.2.2.2.2.2 x hx) (h.jud x hx).lt⟩,
    ⟨fun k hk => hG k (h.rows.1 k hk) (h.rulings.lt k hk).2, fun k hk => hG k (h.rows.2.1 k hk) (h.published.lt k hk).2, fun k hk => hG k (h.rows.2.2 k hk) (h.history.lt k hk).2⟩⟩
end
theorem led_start (n : Nat) (W W1 : World) (w : World) (hn : w.heap.size = n) (hW : (((w.alloc (.map #[] 0)).alloc (.map #[] 0)).alloc (.map #[] 0)).alloc (.map #[] 0) = W)
    (hW1 : W.alloc (.cells #[.map (some n), .map (some (n + 1)), .slice none 0 0, .map (some (n + 1 + 1)), .slice none 0 0, .int .i64 0, .slice none 0 0, .map (some (n + 1 + 1 + 1))] 90) = W1) :
    LedIn (fun k => n ≤ k) n W1 W.heap.size Led0 n (n + 1) (n + 1 + 1) (n + 1 + 1 + 1) (.slice none 0 0) (.slice none 0 0) (.slice none 0 0) ∧ Below n w W1 ∧ W.heap.size = n + 4 ∧ W1.heap.size = n + 5 := by
  have s0 : W.heap.size = n + 4 := by rw [← hW]; simp [hn]
  have s1 : W1.heap.size = n + 5 := by rw [← hW1]; simp [s0]
  have m0 := MapOf.made (P := Tryz.prog) (k := 180) (κ := MarkK) (venc := encN) w encMk_inj
  have m1 := MapOf.made (P := Tryz.prog) (k := 9) (venc := encI') (w.alloc (.map #[] 0)) encS_inj
  have m2 := MapOf.made (P := Tryz.prog) (k := 37) (κ := NameK) (venc := encP) ((w.alloc (.map #[] 0)).alloc (.map #[] 0)) encNm_inj
  have m3 := MapOf.made (P := Tryz.prog) (k := 37) (κ := NameK) (venc := Value.bool) (((w.alloc (.map #[] 0)).alloc (.map #[] 0)).alloc (.map #[] 0)) encNm_inj
  have hga : ∀ (w : World) (o : Obj), w.grownBy (w.alloc o) none := fun w o => World.grownBy_alloc w o none
  have m0' := (((m0.kept (hga _ (.map #[] 0)) (by simp)).kept (hga _ (.map #[] 0)) (by simp)).kept (hga _ (.map #[] 0)) (by simp))
  have m1' := ((m1.kept (hga _ (.map #[] 0)) (by simp)).kept (hga _ (.map #[] 0)) (by simp))
  have m2' := (m2.kept (hga _ (.map #[] 0)) (by simp))
  rw [hW] at m0' m1' m2' m3
  have hb1 : W.grownBy W1 none := by rw [← hW1]; exact hga _ _
  have hc : Blk W1 W.heap.size 90 #[.map (some n), .map (some (n + 1)), .slice none 0 0, .map (some (n + 1 + 1)), .slice none 0 0, .int .i64 0, .slice none 0 0, .map (some (n + 1 + 1 + 1))] := by rw [← hW1]; exact Blk.new W _ _
  simp only [World.size_alloc, hn] at m0' m1' m2' m3
  refine ⟨⟨hc, m0'.kept hb1 (by simp), m1'.kept hb1 (by simp), m2'.kept hb1 (by simp), m3.kept hb1 (by simp), World.ownsRow_nil _ _ _ _, World.ownsRow_nil _ _ _ _, World.ownsRow_nil _ _ _ _, by simp, by simp, by simp; omega, by simp, ⟨by omega, by omega, by omega, by omega, by omega, by simp⟩, ⟨fun k hk => by simp [Value.ownBlock] at hk, fun k hk => by simp [Value.ownBlock] at hk, fun k hk => by simp [Value.ownBlock] at hk⟩⟩, ?_, s0, s1⟩
  rw [← hW1, ← hW, ← hn]
  exact ((((((Below.refl _ w).alloc (by simp) _).alloc (by simp) _).alloc (by simp; omega) _).alloc (by simp; omega) _).alloc (by simp; omega) _)
set_option maxHeartbeats 8000000 in
theorem enter_any (v : Value) (xs : List Note) (w : World) (h : NotesAt w v xs) (hx : xs.length ≤ 2000) (hok : ∀ x ∈ xs, NoteOk x) :
    Calls Tryz.prog 32 #[v] w fun e w' => ∃ g L ds, e = .returned (encP g) ∧ ds.Perm xs ∧ InOrder ds ∧ Steps Led0 ds L ∧ LedSz 2000 L ∧ LedAt (fun k => w.heap.size ≤ k) w.heap.size w' g L ∧ Below w.heap.size w w' := by
  have UN := Tryz.underlying46
  have UE := Tryz.underlying130
  have UC := Tryz.underlying88
  have hmm := @run_makeMap Tryz.prog
  obtain ⟨A, c, rfl⟩ := h.row.len
  obtain ⟨W, hW⟩ : ∃ W, (((w.alloc (.map #[] 0)).alloc (.map #[] 0)).alloc (.map #[] 0)).alloc (.map #[] 0) = W := ⟨_, rfl⟩
  go_enter Tryz.func32, Tryz.ntmps32
  go_upto_region 2 with fail
  obtain ⟨W1, hW1⟩ : ∃ W1, W.alloc (.cells #[.map (some w.heap.size), .map (some (w.heap.size + 1)), .slice none 0 0, .map (some (w.heap.size + 1 + 1)), .slice none 0 0, .int .i64 0, .slice none 0 0, .map (some (w.heap.size + 1 + 1 + 1))] 90) = W1 := ⟨_, rfl⟩
  rw [hW1]
  obtain ⟨hL0, hb1, s0, s1⟩ := led_start w.heap.size W W1 w rfl hW hW1
  clear hW hW1 hmm
  obtain ⟨g, hg⟩ : ∃ g, W.heap.size = g := ⟨_, rfl⟩
  rw [hg] at hL0 s0 ⊢
  obtain ⟨n1, hn1⟩ : ∃ n1, W1.heap.size = n1 := ⟨_, rfl⟩
  have heff := effects_any g W1
  rw [hn1] at heff
  have HS := fun (w2 : World) (hb : Below w.heap.size w w2) => sortedNotes_any w2.heap.size (.slice A xs.length c) xs (w2.alloc (.cells #[.slice A xs.length c] 24)) (h.later (hb.alloc hb.size _)) (by simp) ((Blk.new w2 24 #[.slice A xs.length c]).cell 0) (by omega)
  have HSS := Lib.hid HS
  have HL0 := Lib.hid hL0
  have HB1 := Lib.hid hb1
  have HN := Lib.hid (show w.heap.size + 5 = n1 ∧ g = w.heap.size + 4 ∧ W1.heap.size = n1 from ⟨by omega, s0, hn1⟩)
  clear HS hL0 hb1 s0 s1 hg h hn1
  go_wp2_with (first
    | (go_at_call 60; refine heff.mono ?_; rintro e w2 ⟨rfl, hBx, hmE, hb2⟩)
    | (go_at_call 62; refine (values_any A xs.length c _).mono ?_; rintro e wv ⟨rfl, rfl⟩)
    | (go_at_call 61; refine (HSS.out w2 (HB1.out.trans (hb2.mono (by have := HN.out.1; omega)))).mono ?_; rintro e w3 ⟨u, ds, rfl, hrow, hperm, hord, huo, hb3⟩; obtain ⟨A', c', rfl⟩ := hrow.len))
  obtain ⟨U, hU⟩ : ∃ U : Value, U = .slice A' ds.length c' := ⟨_, rfl⟩
  rw [← hU] at hrow huo
  have hwv : Below n1 W1 w3 := by
    have q := hb2.size
    exact (hb2.alloc (by have := HN.out.2.2; omega) _).trans (hb3.mono (by simp; have := HN.out.2.2; omega))
  have hun : ∀ b, U.ownBlock = some b → n1 < b := fun b hb => by
    have h1 := huo b hb
    have q := hb2.size
    have := HN.out.2.2
    have := hmE.lt
    simp at h1
    omega
  obtain ⟨F, hFd⟩ : ∃ F : Nat → Prop, F = fun k => w.heap.size ≤ k ∧ k ≠ n1 ∧ k ≠ n1 + 1 ∧ ∀ b, U.ownBlock = some b → 0 < ds.length → k ≠ b := ⟨_, rfl⟩
  have hL3 : LedAt F w.heap.size w3 g Led0 := ⟨_, _, _, _, _, _, _, (HL0.out.refoot (G := F) (fun k hk hlt => by
    have h1 := HN.out
    rw [hFd]
    refine ⟨hk, by omega, by omega, fun b hb _ => ?_⟩
    have := hun b hb
    omega)).later (hwv.mono (by have := HN.out.2.2; omega))⟩
  have h3s : n1 + 1 < w3.heap.size := by
    have q := hb3.size
    have := hmE.lt
    simp at q
    omega
  have hBx3 : Blk w3 n1 91 #[encP g] := (hBx.alloc _).later hb3
  have hmE3 : MapOf w3 Tryz.prog 3 encI' (encFn n1) (n1 + 1) effTab := (hmE.block (Below.heap_alloc _ _ _ hmE.lt)).block (hb3.block _ (by simp; have := hmE.lt; omega))
  have hFn1 : ¬ F n1 := by rw [hFd]; exact fun h => h.2.1 rfl
  have hFn2 : ¬ F (n1 + 1) := by rw [hFd]; exact fun h => h.2.2.1 rfl
  have hFu : ∀ b, U.ownBlock = some b → 0 < ds.length → ¬ F b := fun b hb h0 => by rw [hFd]; exact fun h => h.2.2.2 b hb h0 rfl
  have hFhi : ∀ W : World, w3.heap.size ≤ W.heap.size → ∀ k, W.heap.size ≤ k → F k := fun W hW k hk => by
    rw [hFd]
    have h1 := HN.out
    refine ⟨by omega, by omega, by omega, fun b hb h0 => ?_⟩
    have h2 : b < w3.heap.size := by
      rw [hU] at hb
      cases hA : A' with
      | none => rw [hA] at hb; simp [Value.ownBlock] at hb
      | some a =>
        rw [hA] at hb hU
        have e : a.block = b := by simpa [Value.ownBlock] using hb
        obtain ⟨A2, c2, e1, _, e3⟩ := hrow
        obtain ⟨b2, o2, e4, e5, _⟩ := e3 0 (by omega)
        rw [hU, e4] at e1
        injection e1 with e1 _ _
        injection e1 with e1
        rw [e1] at e
        simp at e
        omega
    omega
  have hFlo : ∀ k, F k → w.heap.size ≤ k := fun k hk => by rw [hFd] at hk; exact hk.1
  have hlen : ds.length ≤ 2000 := by rw [hperm.length_eq]; exact hx
  have hbw3 : Below w.heap.size w w3 := HB1.out.trans (hwv.mono (by have := HN.out.1; omega))
  have hokd : ∀ x ∈ ds, NoteOk x := fun x hx' => hok x (hperm.mem_iff.1 hx')
  have HK := Lib.hid hokd
  have HU := Lib.hid hU
  have HFU := Lib.hid hFu
  have HFHI := Lib.hid hFhi
  have HFLO := Lib.hid hFlo
  have HROW := Lib.hid hrow
  have HBX := Lib.hid hBx3
  have HME := Lib.hid hmE3
  have HL3 := Lib.hid hL3
  have HBW := Lib.hid hbw3
  have HF1 := Lib.hid hFn1
  have HF2 := Lib.hid hFn2
  have HPO := Lib.hid (show ds.Perm xs ∧ InOrder ds from ⟨hperm, hord⟩)
  have hsz := hbw3.size
  clear hwv hun hFd hL3 hBx3 hmE3 hFn1 hFn2 hFu hFhi hFlo hbw3 hokd hU hrow huo hperm hord hb3 hb2 hBx hmE heff hok
  go_loopw [19] (fun s19 wr => ∃ k : Nat, k ≤ ds.length ∧ s19 = .int .i64 k ∧ ∃ L, LedAt F w.heap.size wr g L ∧ Steps Led0 (ds.take k) L ∧ LedSz k L ∧ Kept F w3 wr) (fun s19 _ => ds.length - (intOf s19).toNat)
  case atStart => exact ⟨0, Nat.zero_le _, rfl, Led0, HL3.out, Steps.nil _, ⟨Nat.le_refl _, Nat.le_refl _, Nat.le_refl _, by simp⟩, Kept.refl _ _⟩
  case round =>
    obtain ⟨k, hk, rfl, L, hL, hst, hls, hkr⟩ := hrel
    by_cases hlt : k < ds.length
    · obtain ⟨x, hx0⟩ : ∃ x, x = ds[k] := ⟨_, rfl⟩
      have hxok : NoteOk x := HK.out x (by rw [hx0]; exact List.getElem_mem hlt)
      have HST := Lib.hid (show ∀ L', Step x L L' → Steps Led0 (ds.take (k + 1)) L' from fun L' h => steps_take hlt hst (by rw [← hx0]; exact h))
      obtain ⟨f, hf⟩ := tab_has hxok.kind
      have hent := tab_enters hf
      obtain ⟨b0, o0, eA, hb0, hcell⟩ : ∃ b0 o0, A' = some ⟨b0, o0, none⟩ ∧ b0 < w3.heap.size ∧ ∀ i u, x.enc[i]? = some u → w3.cell? ⟨b0, o0 + k * 20 + i, none⟩ = some u := by
        obtain ⟨A2, c2, e1, _, e3⟩ := HROW.out
        obtain ⟨b2, o2, e4, e5, e6⟩ := e3 k hlt
        rw [HU.out] at e1
        injection e1 with e1 _ _
        exact ⟨b2, o2, e1.trans e4, e5, fun i u hu => e6 i u (by rw [← hx0]; exact hu)⟩
      subst eA
      have hnF : ¬ F b0 := HFU.out b0 (by rw [HU.out]; rfl) (by omega)
      have hrng : wr.rangeAt b0 (o0 + k * 20) x.nt.enc := fun i u hu => (World.cell?_of_block (w := w3) (hkr.block b0 hb0 hnF)).trans (hcell i u hu)
      have hsr := hkr.size
      have hF' : ∀ j, F j → j < wr.heap.size → (F j ∧ j ≠ wr.heap.size) := fun j h1 h2 => ⟨h1, by omega⟩
      have hLr : LedAt (fun j => F j ∧ j ≠ wr.heap.size) w.heap.size wr g L := by
        obtain ⟨a1, a2, a3, a4, a5, a6, a7, hL⟩ := hL
        exact ⟨a1, a2, a3, a4, a5, a6, a7, hL.refoot hF'⟩
      have hBr := hkr.blk HBX.out HF1.out
      have hMr : MapOf wr Tryz.prog 3 encI' (encFn n1) (n1 + 1) effTab := HME.out.block (hkr.block _ HME.out.lt HF2.out)
      have HRNG := Lib.hid hrng
      have HLR := Lib.hid hLr
      have HBR := Lib.hid hBr
      have HMR := Lib.hid hMr
      have HKR := Lib.hid hkr
      have HOK := Lib.hid hxok
      have HF := Lib.hid hf
      have HLS := Lib.hid hls
      have HENT := Lib.hid hent
      have hno : x.nt.enc.toArray.all (·.oneCell') = true := hxok.one
      have HNO := Lib.hid hno
      clear hL hst hls hkr hx0 hxok hf hcell hnF hrng hF' hLr hBr hMr hno hent
      have tok : True := trivial
      go_upto_region 6 with (first
        | (have _t := tok; refine wpList_load_mid rfl 46 _ rfl b0 (o0 + k * 20) rfl x.nt.enc _ HRNG.out UN rfl sizeNote ?_; clear tok)
        | (refine wpList_store_blk rfl 46 _ _ rfl wr.heap.size 46 Nt0.enc.toArray x.nt.enc.toArray rfl rfl (Blk.new wr _ _) (by rfl) sizeNote HNO.out ?_; intro w4 hX4 hg4 hs4))
      have hb4 : Below wr.heap.size wr w4 := (below_alloc0 _).grown hg4 (by simp) (fun i e => by cases e; exact Nat.le_refl _)
      have x3 : w4.cell? ⟨wr.heap.size, 3, none⟩ = some (.int .i64 x.nt.kind) := hX4.cell 3
      obtain ⟨p, hp⟩ : ∃ p, wr.heap.size = p := ⟨_, rfl⟩
      have hL4 : LedAt (fun j => F j ∧ j ≠ wr.heap.size) w.heap.size w4 g L := by
        obtain ⟨a1, a2, a3, a4, a5, a6, a7, hL⟩ := HLR.out
        exact ⟨a1, a2, a3, a4, a5, a6, a7, hL.later hb4⟩
      have hB4 := HBR.out.later hb4
      have hM4 : MapOf w4 Tryz.prog 3 encI' (encFn n1) (n1 + 1) effTab := HMR.out.block (hb4.block _ HMR.out.lt)
      have hlt4 : wr.heap.size < w4.heap.size := hX4.lt
      have heff := eff_any x f n1 w4 HF.out hL4 hB4 (fun h => HF1.out h.1) (fun j hj => ⟨HFHI.out w4 (by omega) j hj, by omega⟩) (by omega) ⟨by have := HLS.out.history; omega, by have := HLS.out.published; omega, by have := HLS.out.rulings; omega, HLS.out.issues⟩ HOK.out
      rw [hp] at heff hX4 x3 ⊢
      have HP := Lib.hid hp
      have HX4 := Lib.hid hX4
      have HM4 := Lib.hid hM4
      have HB4 := Lib.hid hb4
      have HP4 := Lib.hid hlt4
      have hent := HENT.out
      clear hL4 hB4 hM4 hlt4 hX4 hb4 hg4 hs4 hp
      have tok : True := trivial
      go_wp2_with (first
        | (refine wpList_lookup_of rfl false _ _ _ rfl 114 keyedInt UE _ zeroFn rfl HM4.out x.nt.kind rfl (key_int _ (by have := HOK.out.kind; unfold okI; exact WalkArith.wf_i64 (by omega))) ?_; rw [HF.out]; dsimp only [lookV])
        | (have _t := tok; refine wpList_load_blk rfl 46 _ rfl p 46 _ _ rfl HX4.out UN rfl sizeNote ?_; clear tok)
        | (refine heff.mono ?_; rintro e w5 ⟨ok, L1, rfl, hst, hL5, hk5⟩))
      · rename_i h7
        have hokf : ok = false := by simpa using h7
        subst hokf
        obtain ⟨bI, bW, bN, bC, rv, pv, hv, hL5⟩ := hL5
        have hX5 := hk5.blk HX4.out (fun h => h.2 rfl)
        have hk5F : Kept F w4 w5 := hk5.mono (fun j h => h.1)
        have hkF := (HKR.out.trans (Kept.of_below HB4.out)).trans hk5F
        have cC : w5.cell? ⟨g, 7, none⟩ = some (.map (some bC)) := hL5.cells.cell 7
        have hn1 := fun W => nameOf_any x.nt W
        have HL5 := Lib.hid hL5
        have HST5 := Lib.hid hst
        have HKF := Lib.hid hkF
        have l5 := hL5.cells.lt
        have l6 := hX5.lt
        clear h7 hL5 hst hk5 hk5F hkF heff
        refine wp_region_late (S := (fun w' => w'.cell? ⟨g, 7, none⟩ = some (.map (some bC)) ∧ Blk w' p 46 x.nt.enc.toArray)) [6] (by kernel_rfl) ?hS1 (fun hHeld => ?_)
        case hS1 => exact ⟨cC, hX5.drew⟩
        refine tl1 (i := 0) ?_; try simp only [Act.put, zq]
        refine tl1 (i := 1) ?_; try simp only [Act.put, zq]
        refine tl1 (i := 2) ?_; try simp only [Act.put, zq]
        refine tl2 (i := 3) ?_; try simp only [Act.put, zq]
        refine' wpAnyL_take (i := 4) rfl (by kernel_rfl) (by kernel_rfl) (by kernel_rfl) (by kernel_rfl) (by kernel_rfl) (by kernel_rfl) (fun _ _ _ h => h) (yieldsIf_load_blk (by kernel_rfl) _ _ rfl _ _ _ _ rfl (fun w9 hSw => hSw.2) ?hu1_5 ?hd1_5 ?hi1_5) (by assumption) ?_
        case hu1_5 => assumption
        case hd1_5 => rfl
        case hi1_5 => (first | assumption | kernel_rfl)
        (try simp only [Act.put, zq])
        refine wpAnyL_ready (rs := [5]) (by kernel_rfl) (by simp) ?_
        refine AllReadyL.cons rfl (fun K hK => ?_) AllReadyL.nil
        go_simp
        (go_at_call 54; ((with_reducible refine (hn1 _).mono ?_); rintro e w6 ⟨rfl, hg6⟩); have hb6 : Below w5.heap.size w5 w6 := (Below.refl _ w5).drew.trans hg6.below)
        go_wp2_with fail
        refine hK.out _ _ ?hS1_6 (fun hHeld => ?_)
        case hS1_6 => ((try dsimp only); exact ⟨(hb6.cell (p := ⟨g, 7, none⟩) l5).trans cC, hX5.later hb6⟩)
        clear hK K
        (try simp only [Act.put, zq])
        refine wpAnyL_ready (rs := [6]) (by kernel_rfl) (by simp) ?_
        refine AllReadyL.late rfl (by kernel_rfl) (fun K hK => ?_) AllReadyL.nil
        (rw [if_pos (by kernel_rfl)]; refine wp_mapUpdate_of _ _ _ _ rfl 4 keyedName UC rfl (HL5.out.later hb6).conflicts (x.nt.judge, x.nt.num) true rfl rfl (key_name (x.nt.judge, x.nt.num) HOK.out.judge HOK.out.num) ?_; intro w7 hm7 hg7 hs7)
        refine hK.out _ _ ?_
        clear hK K
        (try simp only [Act.put, zq])
        refine wpAnyL_done (by kernel_rfl) ?_ _
        have hfin := (HL5.out.later hb6).setConflicts hg7 hm7
        have hk7 : Kept F w3 w7 := (HKF.out.trans (Kept.of_below hb6)).trans (Kept.of_grown hg7 (fun j e => by cases e; exact HL5.out.own.2.2.2.2.1.1))
        have HE : Hid (∃ L, LedAt F w.heap.size w7 g L ∧ Steps Led0 (ds.take (k + 1)) L ∧ LedSz (k + 1) L ∧ Kept F w3 w7) := Lib.hid (by
          have h1 := HLS.out.step HOK.out.one HST5.out
          exact ⟨_, ⟨_, _, _, _, _, _, _, hfin.refoot (fun j h _ => h.1)⟩, HST.out _ ⟨false, L1, HST5.out, rfl⟩, ⟨h1.history, h1.published, h1.rulings, h1.issues⟩, hk7⟩)
        clear hfin hk7 hHeld hm7 hg7 hs7 hb6 hg6 cC hX5 hn1
        go_wp2
        go_roundw
        case rel => exact ⟨k + 1, by omega, by go_num, HE.out⟩
        case measure => simp [intOf]; omega
      · rename_i h7
        have hokf : ok = true := by simpa using h7
        subst hokf
        obtain ⟨bI, bW, bN, bC, rv, pv, hv, hL5⟩ := hL5
        refine ⟨⟨k + 1, by omega, by go_num, L1, ⟨_, _, _, _, _, _, _, hL5.refoot (fun j h _ => h.1)⟩, HST.out _ ⟨true, L1, hst, rfl⟩, HLS.out.step HOK.out.one hst, (HKR.out.trans (Kept.of_below HB4.out)).trans (hk5.mono (fun j h => h.1))⟩, ?_⟩
        simp [intOf]; omega
    · have hks : k = ds.length := by omega
      have hst' : Steps Led0 ds L := by rw [hks, List.take_length] at hst; exact hst
      have hbf := hkr.below (B := w.heap.size) (by omega) (fun j hj hF => by have := HFLO.out j hF; omega)
      have HE : Hid (Steps Led0 ds L ∧ LedSz 2000 L ∧ LedAt (fun k => w.heap.size ≤ k) w.heap.size wr g L ∧ Below w.heap.size w wr) := Lib.hid ⟨hst', ⟨by have := hls.history; omega, by have := hls.published; omega, by have := hls.rulings; omega, hls.issues⟩, by
        obtain ⟨a1, a2, a3, a4, a5, a6, a7, hL⟩ := hL
        exact ⟨a1, a2, a3, a4, a5, a6, a7, hL.refoot (fun k hk _ => HFLO.out k hk)⟩, HBW.out.trans hbf⟩
      clear hst hst' hbf hks hls hL hkr
      go_wp2
      go_ret
      exact ⟨g, L, ds, rfl, HPO.out.1, HPO.out.2, HE.out.1, HE.out.2.1, HE.out.2.2.1, HE.out.2.2.2⟩
end Go.Proofs.YtlamogpdkmbeoaaGreatDoor
