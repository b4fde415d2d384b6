/- The walk of 'used'. -/
import Derived.Test.YtlamogpdkmbeoaaGreatDoorZbNote
set_option linter.unusedVariables false
set_option linter.unusedSimpArgs false
set_option maxRecDepth 100000
namespace Go.Proofs.YtlamogpdkmbeoaaGreatDoor
open Go.RowKit Go.Lib Go.Shelf

theorem ret_u {a b : Array Value} {x y : Value} (h1 : a = b) (h2 : x = y) : Ending.returned (.tuple #[.agg a, x]) = .returned (.tuple #[.agg b, y]) := by rw [h1, h2]

set_option maxHeartbeats 16000000 in
theorem used_any (o : Lay) (n : Nt) (js : List Int) (ls : List Ln) (w : World) (hj : RowsAt encI 1 w n.log.jumps js) (hl : RowsAt Ln.enc 11 w n.log.lines ls) (hs : ∀ x ∈ ls, x.call.size ≤ 9223372036854775807) (hE : Env w) :
    Calls Tryz.prog 134 #[o.val, n.val] w fun e w' => e = .returned (.tuple #[n.rest.val, .bool (usedB o n js ls)]) ∧ Below w.heap.size w w' := by
  obtain ⟨R, hR⟩ : ∃ R, R = usedB o n js ls := ⟨_, rfl⟩
  obtain ⟨V, hV⟩ : ∃ V, V = n.rest.enc.toArray := ⟨_, rfl⟩
  show Calls Tryz.prog 134 #[o.val, n.val] w fun e w' => e = .returned (.tuple #[.agg n.rest.enc.toArray, .bool (usedB o n js ls)]) ∧ Below w.heap.size w w'
  rw [← hR, ← hV]
  have hVL := fun W (hb : Below w.heap.size w W) => ValidLog_any o n.log js ls W (hj.later hb) (hl.later hb) hs (hE.below hE.big hb)
  have hVC := fun s W (hb : Below w.heap.size w W) => ValidCall_any s W (hE.below hE.big hb)
  have hMK := fun c m W (hb : Below w.heap.size w W) => isMark_any c m W (hE.below hE.big hb)
  obtain ⟨Aj, cj, hvj⟩ := hj.len
  obtain ⟨Al, cl', hvl⟩ := hl.len
  clear hj hl hs hE
  obtain ⟨judge, num, clock, kind, call, version, ⟨lcall, cat, pow, cl, vj, vl⟩, aC, aN, bC, bN, rJ, rN, hash, prev⟩ := n
  obtain ⟨o1, o2, o3⟩ := o
  dsimp only at hvj hvl
  subst hvj; subst hvl
  have HR := Lib.hid hR
  have HV := Lib.hid hV
  clear hR hV
  dsimp only [Lay.val, Nt.val, Nt.enc, Lg.val, Lg.enc] at hVL ⊢
  have HVL := Lib.hid hVL
  have HVC := Lib.hid hVC
  have HMK := Lib.hid hMK
  clear hVL hVC hMK
  have hv := fun W => jwithin_any version 1 65535 W
  obtain ⟨zv, hzv⟩ : ∃ z, z = inB version 1 65535 := ⟨_, rfl⟩
  rw [← hzv] at hv
  have HZV := Lib.hid hzv
  clear hzv
  go_enter Tryz.func134, Tryz.ntmps134
  go_upto_region 1 with fail
  obtain ⟨W0, hW⟩ : ∃ W0, ((w.alloc (.cells #[.bool o1, .bool o2, .bool o3] 23)).alloc (.cells #[.int .i64 judge, .int .i64 num, .int .i64 clock, .int .i64 kind, .string call, .int .i64 version, .string lcall, .int .i64 cat, .int .i64 pow, .int .i64 cl, .slice Aj js.length cj, (.slice Al ls.length cl'), .string aC, .int .i64 aN, .string bC, .int .i64 bN, .int .i64 rJ, .int .i64 rN, .int .i64 hash, .int .i64 prev] 46)).alloc (.cells #[.int .i64 0, .int .i64 0, .int .i64 0, .int .i64 0, .string ⟨#[]⟩, .int .i64 0, .string ⟨#[]⟩, .int .i64 0, .int .i64 0, .int .i64 0, .slice none 0 0, .slice none 0 0, .string ⟨#[]⟩, .int .i64 0, .string ⟨#[]⟩, .int .i64 0, .int .i64 0, .int .i64 0, .int .i64 0, .int .i64 0] 46) = W0 := ⟨_, rfl⟩
  have hO : Blk W0 w.heap.size 23 #[.bool o1, .bool o2, .bool o3] := by rw [← hW]; exact ((Blk.new w _ _).alloc _).alloc _
  have hN : Blk W0 (w.heap.size + 1) 46 #[.int .i64 judge, .int .i64 num, .int .i64 clock, .int .i64 kind, .string call, .int .i64 version, .string lcall, .int .i64 cat, .int .i64 pow, .int .i64 cl, .slice Aj js.length cj, (.slice Al ls.length cl'), .string aC, .int .i64 aN, .string bC, .int .i64 bN, .int .i64 rJ, .int .i64 rN, .int .i64 hash, .int .i64 prev] := by rw [← hW]; have := (Blk.new (w.alloc (.cells #[.bool o1, .bool o2, .bool o3] 23)) 46 #[.int .i64 judge, .int .i64 num, .int .i64 clock, .int .i64 kind, .string call, .int .i64 version, .string lcall, .int .i64 cat, .int .i64 pow, .int .i64 cl, .slice Aj js.length cj, (.slice Al ls.length cl'), .string aC, .int .i64 aN, .string bC, .int .i64 bN, .int .i64 rJ, .int .i64 rN, .int .i64 hash, .int .i64 prev]).alloc (.cells #[.int .i64 0, .int .i64 0, .int .i64 0, .int .i64 0, .string ⟨#[]⟩, .int .i64 0, .string ⟨#[]⟩, .int .i64 0, .int .i64 0, .int .i64 0, .slice none 0 0, .slice none 0 0, .string ⟨#[]⟩, .int .i64 0, .string ⟨#[]⟩, .int .i64 0, .int .i64 0, .int .i64 0, .int .i64 0, .int .i64 0] 46); rwa [World.size_alloc] at this
  have hZ : Blk W0 (w.heap.size + 1 + 1) 46 #[.int .i64 0, .int .i64 0, .int .i64 0, .int .i64 0, .string ⟨#[]⟩, .int .i64 0, .string ⟨#[]⟩, .int .i64 0, .int .i64 0, .int .i64 0, .slice none 0 0, .slice none 0 0, .string ⟨#[]⟩, .int .i64 0, .string ⟨#[]⟩, .int .i64 0, .int .i64 0, .int .i64 0, .int .i64 0, .int .i64 0] := by rw [← hW]; have := Blk.new ((w.alloc (.cells #[.bool o1, .bool o2, .bool o3] 23)).alloc (.cells #[.int .i64 judge, .int .i64 num, .int .i64 clock, .int .i64 kind, .string call, .int .i64 version, .string lcall, .int .i64 cat, .int .i64 pow, .int .i64 cl, .slice Aj js.length cj, (.slice Al ls.length cl'), .string aC, .int .i64 aN, .string bC, .int .i64 bN, .int .i64 rJ, .int .i64 rN, .int .i64 hash, .int .i64 prev] 46)) 46 #[.int .i64 0, .int .i64 0, .int .i64 0, .int .i64 0, .string ⟨#[]⟩, .int .i64 0, .string ⟨#[]⟩, .int .i64 0, .int .i64 0, .int .i64 0, .slice none 0 0, .slice none 0 0, .string ⟨#[]⟩, .int .i64 0, .string ⟨#[]⟩, .int .i64 0, .int .i64 0, .int .i64 0, .int .i64 0, .int .i64 0]; rwa [World.size_alloc, World.size_alloc] at this
  have hb0 : Below w.heap.size w W0 := by rw [← hW]; exact (((Below.refl _ w).alloc (Nat.le_refl _) _).alloc (by simp) _).alloc (by simp; omega) _
  have hsz : W0.heap.size = w.heap.size + 1 + 1 + 1 := by rw [← hW]; simp
  rw [hW]
  clear hW
  obtain ⟨r, hr⟩ : ∃ r, W0.heap.size = r := ⟨_, rfl⟩
  have hrz : w.heap.size + 1 + 1 < r := by omega
  have hR0 := Blk.new W0 46 #[.int .i64 0, .int .i64 0, .int .i64 0, .int .i64 0, .string ⟨#[]⟩, .int .i64 0, .string ⟨#[]⟩, .int .i64 0, .int .i64 0, .int .i64 0, .slice none 0 0, .slice none 0 0, .string ⟨#[]⟩, .int .i64 0, .string ⟨#[]⟩, .int .i64 0, .int .i64 0, .int .i64 0, .int .i64 0, .int .i64 0]
  rw [hr] at hR0
  have U46 := Tryz.underlying46
  have HO__ := Lib.hid hO
  have HN__ := Lib.hid hN
  have HZ__ := Lib.hid hZ
  have HR0__ := Lib.hid hR0
  have HB0__ := Lib.hid hb0
  have HSZ__ := Lib.hid hsz
  clear hO hN hZ hR0 hb0 hsz
  go_upto_region 2 with (first | (refine wpList_load_blk rfl 46 _ rfl (w.heap.size + 1) 46 _ _ rfl HN__.out U46 rfl sizeNote ?_) | (refine wpList_store_blk rfl 46 _ _ rfl r 46 #[.int .i64 0, .int .i64 0, .int .i64 0, .int .i64 0, .string ⟨#[]⟩, .int .i64 0, .string ⟨#[]⟩, .int .i64 0, .int .i64 0, .int .i64 0, .slice none 0 0, .slice none 0 0, .string ⟨#[]⟩, .int .i64 0, .string ⟨#[]⟩, .int .i64 0, .int .i64 0, .int .i64 0, .int .i64 0, .int .i64 0] #[.int .i64 judge, .int .i64 num, .int .i64 clock, .int .i64 kind, .string call, .int .i64 version, .string lcall, .int .i64 cat, .int .i64 pow, .int .i64 cl, .slice Aj js.length cj, (.slice Al ls.length cl'), .string aC, .int .i64 aN, .string bC, .int .i64 bN, .int .i64 rJ, .int .i64 rN, .int .i64 hash, .int .i64 prev] rfl rfl HR0__.out (by rfl) sizeNote (by simp [Value.oneCell']) ?_; intro W1 hR1 hg1 hs1))
  have hO1 := (HO__.out.alloc (.cells #[.int .i64 0, .int .i64 0, .int .i64 0, .int .i64 0, .string ⟨#[]⟩, .int .i64 0, .string ⟨#[]⟩, .int .i64 0, .int .i64 0, .int .i64 0, .slice none 0 0, .slice none 0 0, .string ⟨#[]⟩, .int .i64 0, .string ⟨#[]⟩, .int .i64 0, .int .i64 0, .int .i64 0, .int .i64 0, .int .i64 0] 46)).kept hg1 (by intro e; injection e with e; omega)
  have hN1 := (HN__.out.alloc (.cells #[.int .i64 0, .int .i64 0, .int .i64 0, .int .i64 0, .string ⟨#[]⟩, .int .i64 0, .string ⟨#[]⟩, .int .i64 0, .int .i64 0, .int .i64 0, .slice none 0 0, .slice none 0 0, .string ⟨#[]⟩, .int .i64 0, .string ⟨#[]⟩, .int .i64 0, .int .i64 0, .int .i64 0, .int .i64 0, .int .i64 0] 46)).kept hg1 (by intro e; injection e with e; omega)
  have hZ1 := (HZ__.out.alloc (.cells #[.int .i64 0, .int .i64 0, .int .i64 0, .int .i64 0, .string ⟨#[]⟩, .int .i64 0, .string ⟨#[]⟩, .int .i64 0, .int .i64 0, .int .i64 0, .slice none 0 0, .slice none 0 0, .string ⟨#[]⟩, .int .i64 0, .string ⟨#[]⟩, .int .i64 0, .int .i64 0, .int .i64 0, .int .i64 0, .int .i64 0] 46)).kept hg1 (by intro e; injection e with e; omega)
  have hb1 : Below w.heap.size w W1 := (HB0__.out.alloc HB0__.out.size _).grown hg1 (by have := HB0__.out.size; simp; omega) (fun i e => by cases e; omega)
  clear hg1 hs1
  have s0 : W1.cell? ⟨r, 0, none⟩ = some (.int .i64 judge) := hR1.cell 0
  have s1 : W1.cell? ⟨r, 1, none⟩ = some (.int .i64 num) := hR1.cell 1
  have s2 : W1.cell? ⟨r, 2, none⟩ = some (.int .i64 clock) := hR1.cell 2
  have s3 : W1.cell? ⟨r, 3, none⟩ = some (.int .i64 kind) := hR1.cell 3
  have sf := hR1.frozen
  have n3' : W1.cell? ⟨(w.heap.size + 1), 3, none⟩ = some (.int .i64 kind) := hN1.cell 3
  have n5' : W1.cell? ⟨(w.heap.size + 1), 5, none⟩ = some (.int .i64 version) := hN1.cell 5
  have ne1 : ¬ r = (w.heap.size + 1) := by omega
  have ne2 : ¬ (w.heap.size + 1) = r := by omega
  go_upto_region 5 with (go_at_call 45; refine (hv _).mono ?_; rintro e w1 ⟨rfl, rfl⟩)
  have hR : Blk ((((W1.setCell ⟨r, 0, none⟩ (.int .i64 0)).setCell ⟨r, 1, none⟩ (.int .i64 0)).setCell ⟨r, 2, none⟩ (.int .i64 0)).setCell ⟨r, 3, none⟩ (.int .i64 0)) r 46 #[.int .i64 0, .int .i64 0, .int .i64 0, .int .i64 0, .string call, .int .i64 version, .string lcall, .int .i64 cat, .int .i64 pow, .int .i64 cl, .slice Aj js.length cj, (.slice Al ls.length cl'), .string aC, .int .i64 aN, .string bC, .int .i64 bN, .int .i64 rJ, .int .i64 rN, .int .i64 hash, .int .i64 prev] := (((hR1.put 0 _).put 1 _).put 2 _).put 3 _
  have hO := ((((hO1.far (p := ⟨r, 0, none⟩) (by simp; omega) (.int .i64 0)).far (p := ⟨r, 1, none⟩) (by simp; omega) (.int .i64 0)).far (p := ⟨r, 2, none⟩) (by simp; omega) (.int .i64 0)).far (p := ⟨r, 3, none⟩) (by simp; omega) (.int .i64 0))
  have hN := ((((hN1.far (p := ⟨r, 0, none⟩) (by simp; omega) (.int .i64 0)).far (p := ⟨r, 1, none⟩) (by simp; omega) (.int .i64 0)).far (p := ⟨r, 2, none⟩) (by simp; omega) (.int .i64 0)).far (p := ⟨r, 3, none⟩) (by simp; omega) (.int .i64 0))
  have hZ := ((((hZ1.far (p := ⟨r, 0, none⟩) (by simp; omega) (.int .i64 0)).far (p := ⟨r, 1, none⟩) (by simp; omega) (.int .i64 0)).far (p := ⟨r, 2, none⟩) (by simp; omega) (.int .i64 0)).far (p := ⟨r, 3, none⟩) (by simp; omega) (.int .i64 0))
  have hb0 : Below w.heap.size w ((((W1.setCell ⟨r, 0, none⟩ (.int .i64 0)).setCell ⟨r, 1, none⟩ (.int .i64 0)).setCell ⟨r, 2, none⟩ (.int .i64 0)).setCell ⟨r, 3, none⟩ (.int .i64 0)) := ((((hb1.setCell (p := ⟨r, 0, none⟩) (by simp; omega) (.int .i64 0)).setCell (p := ⟨r, 1, none⟩) (by simp; omega) (.int .i64 0)).setCell (p := ⟨r, 2, none⟩) (by simp; omega) (.int .i64 0)).setCell (p := ⟨r, 3, none⟩) (by simp; omega) (.int .i64 0))
  clear s0 s1 s2 s3 sf n3' n5' hR1 hO1 hN1 hZ1 hb1
  generalize ((((W1.setCell ⟨r, 0, none⟩ (.int .i64 0)).setCell ⟨r, 1, none⟩ (.int .i64 0)).setCell ⟨r, 2, none⟩ (.int .i64 0)).setCell ⟨r, 3, none⟩ (.int .i64 0)) = W at hR hO hN hZ hb0 ⊢
  have HO_ := Lib.hid hO
  have HN_ := Lib.hid hN
  have HZ_ := Lib.hid hZ
  have HR_ := Lib.hid hR
  have HB0_ := Lib.hid hb0
  clear hO hN hZ hR hb0
  by_cases h1 : kind = 1
  · subst h1
    · skip
      have HR2 : Hid (R = (logB ⟨o1, o2, o3⟩ ⟨lcall, cat, pow, cl, .slice Aj js.length cj, .slice Al ls.length cl'⟩ js ls && (call.toList == lcall.toList) && inB version 1 65535)) := Lib.hid (HR.out.trans rfl)
      have hVL := HVL.out
      generalize logB ⟨o1, o2, o3⟩ ⟨lcall, cat, pow, cl, .slice Aj js.length cj, .slice Al ls.length cl'⟩ js ls = z1 at hVL HR2
      rw [← HZV.out] at HR2
      have hR := HR_.out
      have hN := HN_.out
      have hO := HO_.out
      have hZ := HZ_.out
      have hb0 := HB0_.out
      have sf := hR.frozen
      have tok : True := trivial
      go_wp2_with (have _t := tok; refine wpList_store_mid rfl 42 _ _ rfl r 6 #[.string ⟨#[]⟩, .int .i64 0, .int .i64 0, .int .i64 0, .slice none 0 0, .slice none 0 0] rfl rfl (there_blk_at hR 6 6 (by simp)) sizeLog (by simp [Value.oneCell']) ?_; have hRm : Blk (W.setCells r 6 #[.string ⟨#[]⟩, .int .i64 0, .int .i64 0, .int .i64 0, .slice none 0 0, .slice none 0 0].toList) r 46 #[.int .i64 0, .int .i64 0, .int .i64 0, .int .i64 0, .string call, .int .i64 version, .string ⟨#[]⟩, .int .i64 0, .int .i64 0, .int .i64 0, .slice none 0 0, .slice none 0 0, .string aC, .int .i64 aN, .string bC, .int .i64 bN, .int .i64 rJ, .int .i64 rN, .int .i64 hash, .int .i64 prev] := (by have h := hR.setCells #[.string ⟨#[]⟩, .int .i64 0, .int .i64 0, .int .i64 0, .slice none 0 0, .slice none 0 0].toList 6; simp only [setFrom, List.setIfInBounds_toArray, List.set_cons_zero, List.set_cons_succ] at h; exact h); have hNm := hN.farCells (b := r) (by omega) 6 #[.string ⟨#[]⟩, .int .i64 0, .int .i64 0, .int .i64 0, .slice none 0 0, .slice none 0 0].toList; have hOm := hO.farCells (b := r) (by omega) 6 #[.string ⟨#[]⟩, .int .i64 0, .int .i64 0, .int .i64 0, .slice none 0 0, .slice none 0 0].toList; have hZm := hZ.farCells (b := r) (by omega) 6 #[.string ⟨#[]⟩, .int .i64 0, .int .i64 0, .int .i64 0, .slice none 0 0, .slice none 0 0].toList; have hbm := below_setCells (b := r) (by omega) #[.string ⟨#[]⟩, .int .i64 0, .int .i64 0, .int .i64 0, .slice none 0 0, .slice none 0 0].toList 6 hb0; generalize W.setCells r 6 #[.string ⟨#[]⟩, .int .i64 0, .int .i64 0, .int .i64 0, .slice none 0 0, .slice none 0 0].toList = Wm at hRm hNm hOm hZm hbm ⊢; have u4 : Wm.cell? ⟨r, 4, none⟩ = some (.string call) := hRm.cell 4; have u5 : Wm.cell? ⟨r, 5, none⟩ = some (.int .i64 version) := hRm.cell 5; have uf := hRm.frozen; clear tok)
      clear uf hR hN hO hZ hb0 u4 u5
      have hR := hRm; have hN := hNm; have hO := hOm; have hZ := hZm; have hb0 := hbm
      have hR3 : Blk ((Wm.setCell ⟨r, 4, none⟩ (.string ⟨#[]⟩)).setCell ⟨r, 5, none⟩ (.int .i64 0)) r 46 #[.int .i64 0, .int .i64 0, .int .i64 0, .int .i64 0, .string ⟨#[]⟩, .int .i64 0, .string ⟨#[]⟩, .int .i64 0, .int .i64 0, .int .i64 0, .slice none 0 0, .slice none 0 0, .string aC, .int .i64 aN, .string bC, .int .i64 bN, .int .i64 rJ, .int .i64 rN, .int .i64 hash, .int .i64 prev] := ((hRm.put 4 (.string ⟨#[]⟩)).put 5 (.int .i64 0))
      have hN3 := ((hN.far (p := ⟨r, 4, none⟩) (by simp <;> omega) (.string ⟨#[]⟩)).far (p := ⟨r, 5, none⟩) (by simp <;> omega) (.int .i64 0))
      have hO3 := ((hO.far (p := ⟨r, 4, none⟩) (by simp <;> omega) (.string ⟨#[]⟩)).far (p := ⟨r, 5, none⟩) (by simp <;> omega) (.int .i64 0))
      have hZ3 := ((hZ.far (p := ⟨r, 4, none⟩) (by simp <;> omega) (.string ⟨#[]⟩)).far (p := ⟨r, 5, none⟩) (by simp <;> omega) (.int .i64 0))
      have hb3 := ((hbm.setCell (p := ⟨r, 4, none⟩) (by simp; omega) (.string ⟨#[]⟩)).setCell (p := ⟨r, 5, none⟩) (by simp; omega) (.int .i64 0))
      clear hR hN hO hZ hb0 sf hRm hNm hOm hZm hbm 
      generalize ((Wm.setCell ⟨r, 4, none⟩ (.string ⟨#[]⟩)).setCell ⟨r, 5, none⟩ (.int .i64 0)) = W3 at hR3 hN3 hO3 hZ3 hb3 ⊢
      have ltO := hO3.lt
      have ltR := hR3.lt
      have HBW : Hid (Below w.heap.size w W3.drew) := Lib.hid hb3.drew
      clear hb3
      cases z1
      · skip
        as_aux_lemma =>
          refine wp_region_held_drew (S := (fun w' => Blk w' r 46 #[.int .i64 0, .int .i64 0, .int .i64 0, .int .i64 0, .string ⟨#[]⟩, .int .i64 0, .string ⟨#[]⟩, .int .i64 0, .int .i64 0, .int .i64 0, .slice none 0 0, .slice none 0 0, .string aC, .int .i64 aN, .string bC, .int .i64 bN, .int .i64 rJ, .int .i64 rN, .int .i64 hash, .int .i64 prev] ∧ Blk w' (w.heap.size + 1) 46 #[.int .i64 judge, .int .i64 num, .int .i64 clock, .int .i64 1, .string call, .int .i64 version, .string lcall, .int .i64 cat, .int .i64 pow, .int .i64 cl, .slice Aj js.length cj, (.slice Al ls.length cl'), .string aC, .int .i64 aN, .string bC, .int .i64 bN, .int .i64 rJ, .int .i64 rN, .int .i64 hash, .int .i64 prev] ∧ Blk w' w.heap.size 23 #[.bool o1, .bool o2, .bool o3])) (by kernel_rfl) ?hS1 (fun hHeld => ?_)
          case hS1 => exact ⟨hR3.drew, hN3.drew, hO3.drew⟩
          refine tk4 (i := 0) (fun w9 hSw => hSw.1) ?_; try simp only [Act.put, zq]
          refine tk1 (i := 1) (v := ?v1_2) ?hy1_2 ?_
          case hy1_2 => ((intro w9 hSw; have e0 : w9.cell? ⟨w.heap.size, 0, none⟩ = some (.bool o1) := hSw.2.2.cell 0; have e1 : w9.cell? ⟨w.heap.size, 1, none⟩ = some (.bool o2) := hSw.2.2.cell 1; have e2 : w9.cell? ⟨w.heap.size, 2, none⟩ = some (.bool o3) := hSw.2.2.cell 2; go_simp) <;> with_reducible rfl)
          (try simp only [Act.put, zq])
          refine tk3 (i := 2) ?_; try simp only [Act.put, zq]
          refine tk1 (i := 3) (v := ?v1_4) ?hy1_4 ?_
          case hy1_4 => ((intro w9 hSw; have e0 : w9.cell? ⟨(w.heap.size + 1), 6, none⟩ = some (.string lcall) := hSw.2.1.cell 6; have e1 : w9.cell? ⟨(w.heap.size + 1), 7, none⟩ = some (.int .i64 cat) := hSw.2.1.cell 7; have e2 : w9.cell? ⟨(w.heap.size + 1), 8, none⟩ = some (.int .i64 pow) := hSw.2.1.cell 8; have e3 : w9.cell? ⟨(w.heap.size + 1), 9, none⟩ = some (.int .i64 cl) := hSw.2.1.cell 9; have e4 : w9.cell? ⟨(w.heap.size + 1), 10, none⟩ = some (.slice Aj js.length cj) := hSw.2.1.cell 10; have e5 : w9.cell? ⟨(w.heap.size + 1), 11, none⟩ = some ((.slice Al ls.length cl')) := hSw.2.1.cell 11; go_simp) <;> with_reducible rfl)
          (try simp only [Act.put, zq])
          refine wpAnyH_ready (rs := [4]) (by kernel_rfl) (by simp) ?_
          refine AllReadyH.cons rfl (fun K hK => ?_) AllReadyH.nil
          go_simp
          (go_at_call 156; refine (hVL _ HBW.out).mono ?_; rintro e wc1 ⟨rfl, hxc1⟩; have hRc1 := hR3.drew.later hxc1; have hNc1 := hN3.drew.later hxc1; have hOc1 := hO3.drew.later hxc1; have hZc1 := hZ3.drew.later hxc1; have hbwc1 : Below w.heap.size w wc1 := (HBW.out).trans (hxc1.mono HBW.out.size))
          go_wp2_with fail
          refine hK.out _ _ ?hS1_5 (fun hHeld => ?_)
          case hS1_5 => ((try dsimp only); exact ⟨hRc1, hNc1, hOc1⟩)
          clear hK K
          (try simp only [Act.put, zq])
          refine tk3 (i := 5) ?_; try simp only [Act.put, zq]
          refine tk2 (i := 6) ?_; try simp only [Act.put, zq]
          refine tk2 (i := 7) ?_; try simp only [Act.put, zq]
          refine tk2 (i := 8) ?_; try simp only [Act.put, zq]
          refine tk2 (i := 9) ?_; try simp only [Act.put, zq]
          refine tk2 (i := 10) ?_; try simp only [Act.put, zq]
          refine tk2 (i := 11) ?_; try simp only [Act.put, zq]
          refine tk3 (i := 12) ?_; try simp only [Act.put, zq]
          refine tk3 (i := 13) ?_; try simp only [Act.put, zq]
          refine tk2 (i := 14) ?_; try simp only [Act.put, zq]
          refine tk3 (i := 15) ?_; try simp only [Act.put, zq]
          refine wpAnyH_ready (rs := [16]) (by kernel_rfl) (by simp) ?_
          refine AllReadyH.cons rfl (fun K hK => ?_) AllReadyH.nil
          (rw [if_pos (by kernel_rfl)]; refine wp_store_blk 46 _ _ rfl (w.heap.size + 1 + 1) 46 _ _ rfl rfl hZc1 (by rfl) sizeNote (by simp [Value.oneCell']) ?_; intro w6 hZ6 hg6 hs6)
          refine hK.out _ _ ?hS1_17 (fun hHeld => ?_)
          case hS1_17 => ((try dsimp only); exact ⟨hRc1.kept hg6 (by intro e; injection e with e; omega), hNc1.kept hg6 (by intro e; injection e with e; omega), hOc1.kept hg6 (by intro e; injection e with e; omega)⟩)
          clear hK K
          (try simp only [Act.put, zq])
          refine tk3 (i := 17) ?_; try simp only [Act.put, zq]
          refine wpAnyH_done (by kernel_rfl) ?_ _
          go_wp2
          refine bodyPost_ret (results_cellb Tryz.results134 rfl hZ6 Tryz.underlying46 rfl sizeNote) rfl ⟨ret_u (HV.out.trans rfl).symm ?_, hbwc1.grown hg6 hbwc1.size (fun i e => by cases e; omega)⟩
          show Value.bool false = Value.bool R
          rw [HR2.out]; simp
      · cases heq : (call.toList == lcall.toList)
        · skip
          as_aux_lemma =>
            refine wp_region_held_drew (S := (fun w' => Blk w' r 46 #[.int .i64 0, .int .i64 0, .int .i64 0, .int .i64 0, .string ⟨#[]⟩, .int .i64 0, .string ⟨#[]⟩, .int .i64 0, .int .i64 0, .int .i64 0, .slice none 0 0, .slice none 0 0, .string aC, .int .i64 aN, .string bC, .int .i64 bN, .int .i64 rJ, .int .i64 rN, .int .i64 hash, .int .i64 prev] ∧ Blk w' (w.heap.size + 1) 46 #[.int .i64 judge, .int .i64 num, .int .i64 clock, .int .i64 1, .string call, .int .i64 version, .string lcall, .int .i64 cat, .int .i64 pow, .int .i64 cl, .slice Aj js.length cj, (.slice Al ls.length cl'), .string aC, .int .i64 aN, .string bC, .int .i64 bN, .int .i64 rJ, .int .i64 rN, .int .i64 hash, .int .i64 prev] ∧ Blk w' w.heap.size 23 #[.bool o1, .bool o2, .bool o3])) (by kernel_rfl) ?hS2 (fun hHeld => ?_)
            case hS2 => exact ⟨hR3.drew, hN3.drew, hO3.drew⟩
            refine tk4 (i := 0) (fun w9 hSw => hSw.1) ?_; try simp only [Act.put, zq]
            refine tk1 (i := 1) (v := ?v2_2) ?hy2_2 ?_
            case hy2_2 => ((intro w9 hSw; have e0 : w9.cell? ⟨w.heap.size, 0, none⟩ = some (.bool o1) := hSw.2.2.cell 0; have e1 : w9.cell? ⟨w.heap.size, 1, none⟩ = some (.bool o2) := hSw.2.2.cell 1; have e2 : w9.cell? ⟨w.heap.size, 2, none⟩ = some (.bool o3) := hSw.2.2.cell 2; go_simp) <;> with_reducible rfl)
            (try simp only [Act.put, zq])
            refine tk3 (i := 2) ?_; try simp only [Act.put, zq]
            refine tk1 (i := 3) (v := ?v2_4) ?hy2_4 ?_
            case hy2_4 => ((intro w9 hSw; have e0 : w9.cell? ⟨(w.heap.size + 1), 6, none⟩ = some (.string lcall) := hSw.2.1.cell 6; have e1 : w9.cell? ⟨(w.heap.size + 1), 7, none⟩ = some (.int .i64 cat) := hSw.2.1.cell 7; have e2 : w9.cell? ⟨(w.heap.size + 1), 8, none⟩ = some (.int .i64 pow) := hSw.2.1.cell 8; have e3 : w9.cell? ⟨(w.heap.size + 1), 9, none⟩ = some (.int .i64 cl) := hSw.2.1.cell 9; have e4 : w9.cell? ⟨(w.heap.size + 1), 10, none⟩ = some (.slice Aj js.length cj) := hSw.2.1.cell 10; have e5 : w9.cell? ⟨(w.heap.size + 1), 11, none⟩ = some ((.slice Al ls.length cl')) := hSw.2.1.cell 11; go_simp) <;> with_reducible rfl)
            (try simp only [Act.put, zq])
            refine wpAnyH_ready (rs := [4]) (by kernel_rfl) (by simp) ?_
            refine AllReadyH.cons rfl (fun K hK => ?_) AllReadyH.nil
            go_simp
            (go_at_call 156; refine (hVL _ HBW.out).mono ?_; rintro e wc1 ⟨rfl, hxc1⟩; have hRc1 := hR3.drew.later hxc1; have hNc1 := hN3.drew.later hxc1; have hOc1 := hO3.drew.later hxc1; have hZc1 := hZ3.drew.later hxc1; have hbwc1 : Below w.heap.size w wc1 := (HBW.out).trans (hxc1.mono HBW.out.size))
            go_wp2_with fail
            refine hK.out _ _ ?hS2_5 (fun hHeld => ?_)
            case hS2_5 => ((try dsimp only); exact ⟨hRc1, hNc1, hOc1⟩)
            clear hK K
            (try simp only [Act.put, zq])
            refine tk3 (i := 5) ?_; try simp only [Act.put, zq]
            refine tk3 (i := 6) ?_; try simp only [Act.put, zq]
            refine tk1 (i := 7) (v := ?v2_8) ?hy2_8 ?_
            case hy2_8 => ((intro w9 hSw; have e0 : w9.cell? ⟨(w.heap.size + 1), 4, none⟩ = some (.string call) := hSw.2.1.cell 4; go_simp) <;> with_reducible rfl)
            (try simp only [Act.put, zq])
            refine tk3 (i := 8) ?_; try simp only [Act.put, zq]
            refine tk3 (i := 9) ?_; try simp only [Act.put, zq]
            refine tk1 (i := 10) (v := ?v2_11) ?hy2_11 ?_
            case hy2_11 => ((intro w9 hSw; have e0 : w9.cell? ⟨(w.heap.size + 1), 6, none⟩ = some (.string lcall) := hSw.2.1.cell 6; go_simp) <;> with_reducible rfl)
            (try simp only [Act.put, zq])
            refine tk3 (i := 11) ?_; try simp only [Act.put, zq]
            refine tk3 (i := 12) ?_; try simp only [Act.put, zq]
            refine tk3 (i := 13) ?_; try simp only [Act.put, zq]
            refine tk2 (i := 14) ?_; try simp only [Act.put, zq]
            refine tk3 (i := 15) ?_; try simp only [Act.put, zq]
            refine wpAnyH_ready (rs := [16]) (by kernel_rfl) (by simp) ?_
            refine AllReadyH.cons rfl (fun K hK => ?_) AllReadyH.nil
            (rw [if_pos (by kernel_rfl)]; refine wp_store_blk 46 _ _ rfl (w.heap.size + 1 + 1) 46 _ _ rfl rfl hZc1 (by rfl) sizeNote (by simp [Value.oneCell']) ?_; intro w6 hZ6 hg6 hs6)
            refine hK.out _ _ ?hS2_17 (fun hHeld => ?_)
            case hS2_17 => ((try dsimp only); exact ⟨hRc1.kept hg6 (by intro e; injection e with e; omega), hNc1.kept hg6 (by intro e; injection e with e; omega), hOc1.kept hg6 (by intro e; injection e with e; omega)⟩)
            clear hK K
            (try simp only [Act.put, zq])
            refine tk3 (i := 17) ?_; try simp only [Act.put, zq]
            refine wpAnyH_done (by kernel_rfl) ?_ _
            go_wp2
            refine bodyPost_ret (results_cellb Tryz.results134 rfl hZ6 Tryz.underlying46 rfl sizeNote) rfl ⟨ret_u (HV.out.trans rfl).symm ?_, hbwc1.grown hg6 hbwc1.size (fun i e => by cases e; omega)⟩
            show Value.bool false = Value.bool R
            rw [HR2.out]; simp [heq]
        · skip
          as_aux_lemma =>
            refine wp_region_held_drew (S := (fun w' => Blk w' r 46 #[.int .i64 0, .int .i64 0, .int .i64 0, .int .i64 0, .string ⟨#[]⟩, .int .i64 0, .string ⟨#[]⟩, .int .i64 0, .int .i64 0, .int .i64 0, .slice none 0 0, .slice none 0 0, .string aC, .int .i64 aN, .string bC, .int .i64 bN, .int .i64 rJ, .int .i64 rN, .int .i64 hash, .int .i64 prev] ∧ Blk w' (w.heap.size + 1) 46 #[.int .i64 judge, .int .i64 num, .int .i64 clock, .int .i64 1, .string call, .int .i64 version, .string lcall, .int .i64 cat, .int .i64 pow, .int .i64 cl, .slice Aj js.length cj, (.slice Al ls.length cl'), .string aC, .int .i64 aN, .string bC, .int .i64 bN, .int .i64 rJ, .int .i64 rN, .int .i64 hash, .int .i64 prev] ∧ Blk w' w.heap.size 23 #[.bool o1, .bool o2, .bool o3])) (by kernel_rfl) ?hS3 (fun hHeld => ?_)
            case hS3 => exact ⟨hR3.drew, hN3.drew, hO3.drew⟩
            refine tk4 (i := 0) (fun w9 hSw => hSw.1) ?_; try simp only [Act.put, zq]
            refine tk1 (i := 1) (v := ?v3_2) ?hy3_2 ?_
            case hy3_2 => ((intro w9 hSw; have e0 : w9.cell? ⟨w.heap.size, 0, none⟩ = some (.bool o1) := hSw.2.2.cell 0; have e1 : w9.cell? ⟨w.heap.size, 1, none⟩ = some (.bool o2) := hSw.2.2.cell 1; have e2 : w9.cell? ⟨w.heap.size, 2, none⟩ = some (.bool o3) := hSw.2.2.cell 2; go_simp) <;> with_reducible rfl)
            (try simp only [Act.put, zq])
            refine tk3 (i := 2) ?_; try simp only [Act.put, zq]
            refine tk1 (i := 3) (v := ?v3_4) ?hy3_4 ?_
            case hy3_4 => ((intro w9 hSw; have e0 : w9.cell? ⟨(w.heap.size + 1), 6, none⟩ = some (.string lcall) := hSw.2.1.cell 6; have e1 : w9.cell? ⟨(w.heap.size + 1), 7, none⟩ = some (.int .i64 cat) := hSw.2.1.cell 7; have e2 : w9.cell? ⟨(w.heap.size + 1), 8, none⟩ = some (.int .i64 pow) := hSw.2.1.cell 8; have e3 : w9.cell? ⟨(w.heap.size + 1), 9, none⟩ = some (.int .i64 cl) := hSw.2.1.cell 9; have e4 : w9.cell? ⟨(w.heap.size + 1), 10, none⟩ = some (.slice Aj js.length cj) := hSw.2.1.cell 10; have e5 : w9.cell? ⟨(w.heap.size + 1), 11, none⟩ = some ((.slice Al ls.length cl')) := hSw.2.1.cell 11; go_simp) <;> with_reducible rfl)
            (try simp only [Act.put, zq])
            refine wpAnyH_ready (rs := [4]) (by kernel_rfl) (by simp) ?_
            refine AllReadyH.cons rfl (fun K hK => ?_) AllReadyH.nil
            go_simp
            (go_at_call 156; refine (hVL _ HBW.out).mono ?_; rintro e wc1 ⟨rfl, hxc1⟩; have hRc1 := hR3.drew.later hxc1; have hNc1 := hN3.drew.later hxc1; have hOc1 := hO3.drew.later hxc1; have hZc1 := hZ3.drew.later hxc1; have hbwc1 : Below w.heap.size w wc1 := (HBW.out).trans (hxc1.mono HBW.out.size))
            go_wp2_with fail
            refine hK.out _ _ ?hS3_5 (fun hHeld => ?_)
            case hS3_5 => ((try dsimp only); exact ⟨hRc1, hNc1, hOc1⟩)
            clear hK K
            (try simp only [Act.put, zq])
            refine tk3 (i := 5) ?_; try simp only [Act.put, zq]
            refine tk3 (i := 6) ?_; try simp only [Act.put, zq]
            refine tk1 (i := 7) (v := ?v3_8) ?hy3_8 ?_
            case hy3_8 => ((intro w9 hSw; have e0 : w9.cell? ⟨(w.heap.size + 1), 4, none⟩ = some (.string call) := hSw.2.1.cell 4; go_simp) <;> with_reducible rfl)
            (try simp only [Act.put, zq])
            refine tk3 (i := 8) ?_; try simp only [Act.put, zq]
            refine tk3 (i := 9) ?_; try simp only [Act.put, zq]
            refine tk1 (i := 10) (v := ?v3_11) ?hy3_11 ?_
            case hy3_11 => ((intro w9 hSw; have e0 : w9.cell? ⟨(w.heap.size + 1), 6, none⟩ = some (.string lcall) := hSw.2.1.cell 6; go_simp) <;> with_reducible rfl)
            (try simp only [Act.put, zq])
            refine tk3 (i := 11) ?_; try simp only [Act.put, zq]
            refine tk3 (i := 12) ?_; try simp only [Act.put, zq]
            refine tk3 (i := 13) ?_; try simp only [Act.put, zq]
            refine tk3 (i := 14) ?_; try simp only [Act.put, zq]
            refine tk3 (i := 15) ?_; try simp only [Act.put, zq]
            refine wpAnyH_ready (rs := [16]) (by kernel_rfl) (by simp) ?_
            refine AllReadyH.cons rfl (fun K hK => ?_) AllReadyH.nil
            (rw [if_pos (by kernel_rfl)]; refine wp_store_blk 46 _ _ rfl (w.heap.size + 1 + 1) 46 _ _ rfl rfl hZc1 (by rfl) sizeNote (by simp [Value.oneCell']) ?_; intro w6 hZ6 hg6 hs6)
            refine hK.out _ _ ?hS3_17 (fun hHeld => ?_)
            case hS3_17 => ((try dsimp only); exact ⟨hRc1.kept hg6 (by intro e; injection e with e; omega), hNc1.kept hg6 (by intro e; injection e with e; omega), hOc1.kept hg6 (by intro e; injection e with e; omega)⟩)
            clear hK K
            (try simp only [Act.put, zq])
            refine tk3 (i := 17) ?_; try simp only [Act.put, zq]
            refine wpAnyH_done (by kernel_rfl) ?_ _
            go_wp2
            refine bodyPost_ret (results_cellb Tryz.results134 rfl hZ6 Tryz.underlying46 rfl sizeNote) rfl ⟨ret_u (HV.out.trans rfl).symm ?_, hbwc1.grown hg6 hbwc1.size (fun i e => by cases e; omega)⟩
            show Value.bool zv = Value.bool R
            rw [HR2.out]; simp [heq]
  by_cases h2 : kind = 2
  · subst h2
    · skip
      have HR2 : Hid (R = (callB call && inB version 1 65535)) := Lib.hid (HR.out.trans rfl)
      have hVC := HVC.out call
      generalize callB call = z1 at hVC HR2
      rw [← HZV.out] at HR2
      have hR := HR_.out
      have hN := HN_.out
      have hO := HO_.out
      have hZ := HZ_.out
      have hb0 := HB0_.out
      have s4 : W.cell? ⟨r, 4, none⟩ = some (.string call) := hR.cell 4
      have s5 : W.cell? ⟨r, 5, none⟩ = some (.int .i64 version) := hR.cell 5
      have sf := hR.frozen
      go_wp2
      have hR3 : Blk ((W.setCell ⟨r, 4, none⟩ (.string ⟨#[]⟩)).setCell ⟨r, 5, none⟩ (.int .i64 0)) r 46 #[.int .i64 0, .int .i64 0, .int .i64 0, .int .i64 0, .string ⟨#[]⟩, .int .i64 0, .string lcall, .int .i64 cat, .int .i64 pow, .int .i64 cl, .slice Aj js.length cj, (.slice Al ls.length cl'), .string aC, .int .i64 aN, .string bC, .int .i64 bN, .int .i64 rJ, .int .i64 rN, .int .i64 hash, .int .i64 prev] := ((hR.put 4 (.string ⟨#[]⟩)).put 5 (.int .i64 0))
      have hN3 := ((hN.far (p := ⟨r, 4, none⟩) (by simp <;> omega) (.string ⟨#[]⟩)).far (p := ⟨r, 5, none⟩) (by simp <;> omega) (.int .i64 0))
      have hO3 := ((hO.far (p := ⟨r, 4, none⟩) (by simp <;> omega) (.string ⟨#[]⟩)).far (p := ⟨r, 5, none⟩) (by simp <;> omega) (.int .i64 0))
      have hZ3 := ((hZ.far (p := ⟨r, 4, none⟩) (by simp <;> omega) (.string ⟨#[]⟩)).far (p := ⟨r, 5, none⟩) (by simp <;> omega) (.int .i64 0))
      have hb3 := ((hb0.setCell (p := ⟨r, 4, none⟩) (by simp; omega) (.string ⟨#[]⟩)).setCell (p := ⟨r, 5, none⟩) (by simp; omega) (.int .i64 0))
      clear hR hN hO hZ hb0 sf s4 s5
      generalize ((W.setCell ⟨r, 4, none⟩ (.string ⟨#[]⟩)).setCell ⟨r, 5, none⟩ (.int .i64 0)) = W3 at hR3 hN3 hO3 hZ3 hb3 ⊢
      have ltO := hO3.lt
      have ltR := hR3.lt
      have HBW : Hid (Below w.heap.size w W3.drew) := Lib.hid hb3.drew
      clear hb3
      cases z1
      · skip
        as_aux_lemma =>
          refine wp_region_held_drew (S := (fun w' => Blk w' r 46 #[.int .i64 0, .int .i64 0, .int .i64 0, .int .i64 0, .string ⟨#[]⟩, .int .i64 0, .string lcall, .int .i64 cat, .int .i64 pow, .int .i64 cl, .slice Aj js.length cj, (.slice Al ls.length cl'), .string aC, .int .i64 aN, .string bC, .int .i64 bN, .int .i64 rJ, .int .i64 rN, .int .i64 hash, .int .i64 prev] ∧ Blk w' (w.heap.size + 1) 46 #[.int .i64 judge, .int .i64 num, .int .i64 clock, .int .i64 2, .string call, .int .i64 version, .string lcall, .int .i64 cat, .int .i64 pow, .int .i64 cl, .slice Aj js.length cj, (.slice Al ls.length cl'), .string aC, .int .i64 aN, .string bC, .int .i64 bN, .int .i64 rJ, .int .i64 rN, .int .i64 hash, .int .i64 prev] ∧ Blk w' w.heap.size 23 #[.bool o1, .bool o2, .bool o3])) (by kernel_rfl) ?hS4 (fun hHeld => ?_)
          case hS4 => exact ⟨hR3.drew, hN3.drew, hO3.drew⟩
          refine tk4 (i := 0) (fun w9 hSw => hSw.1) ?_; try simp only [Act.put, zq]
          refine tk3 (i := 1) ?_; try simp only [Act.put, zq]
          refine tk1 (i := 2) (v := ?v4_3) ?hy4_3 ?_
          case hy4_3 => ((intro w9 hSw; have e0 : w9.cell? ⟨(w.heap.size + 1), 4, none⟩ = some (.string call) := hSw.2.1.cell 4; go_simp) <;> with_reducible rfl)
          (try simp only [Act.put, zq])
          refine wpAnyH_ready (rs := [3]) (by kernel_rfl) (by simp) ?_
          refine AllReadyH.cons rfl (fun K hK => ?_) AllReadyH.nil
          go_simp
          (go_at_call 157; refine (hVC _ HBW.out).mono ?_; rintro e wc1 ⟨rfl, hxc1⟩; have hRc1 := hR3.drew.later hxc1; have hNc1 := hN3.drew.later hxc1; have hOc1 := hO3.drew.later hxc1; have hZc1 := hZ3.drew.later hxc1; have hbwc1 : Below w.heap.size w wc1 := (HBW.out).trans (hxc1.mono HBW.out.size))
          go_wp2_with fail
          refine hK.out _ _ ?hS4_4 (fun hHeld => ?_)
          case hS4_4 => ((try dsimp only); exact ⟨hRc1, hNc1, hOc1⟩)
          clear hK K
          (try simp only [Act.put, zq])
          refine tk3 (i := 4) ?_; try simp only [Act.put, zq]
          refine tk2 (i := 5) ?_; try simp only [Act.put, zq]
          refine tk3 (i := 6) ?_; try simp only [Act.put, zq]
          refine wpAnyH_ready (rs := [7]) (by kernel_rfl) (by simp) ?_
          refine AllReadyH.cons rfl (fun K hK => ?_) AllReadyH.nil
          (rw [if_pos (by kernel_rfl)]; refine wp_store_blk 46 _ _ rfl (w.heap.size + 1 + 1) 46 _ _ rfl rfl hZc1 (by rfl) sizeNote (by simp [Value.oneCell']) ?_; intro w6 hZ6 hg6 hs6)
          refine hK.out _ _ ?hS4_8 (fun hHeld => ?_)
          case hS4_8 => ((try dsimp only); exact ⟨hRc1.kept hg6 (by intro e; injection e with e; omega), hNc1.kept hg6 (by intro e; injection e with e; omega), hOc1.kept hg6 (by intro e; injection e with e; omega)⟩)
          clear hK K
          (try simp only [Act.put, zq])
          refine tk3 (i := 8) ?_; try simp only [Act.put, zq]
          refine wpAnyH_done (by kernel_rfl) ?_ _
          go_wp2
          refine bodyPost_ret (results_cellb Tryz.results134 rfl hZ6 Tryz.underlying46 rfl sizeNote) rfl ⟨ret_u (HV.out.trans rfl).symm ?_, hbwc1.grown hg6 hbwc1.size (fun i e => by cases e; omega)⟩
          show Value.bool false = Value.bool R
          rw [HR2.out]; simp
      · skip
        as_aux_lemma =>
          refine wp_region_held_drew (S := (fun w' => Blk w' r 46 #[.int .i64 0, .int .i64 0, .int .i64 0, .int .i64 0, .string ⟨#[]⟩, .int .i64 0, .string lcall, .int .i64 cat, .int .i64 pow, .int .i64 cl, .slice Aj js.length cj, (.slice Al ls.length cl'), .string aC, .int .i64 aN, .string bC, .int .i64 bN, .int .i64 rJ, .int .i64 rN, .int .i64 hash, .int .i64 prev] ∧ Blk w' (w.heap.size + 1) 46 #[.int .i64 judge, .int .i64 num, .int .i64 clock, .int .i64 2, .string call, .int .i64 version, .string lcall, .int .i64 cat, .int .i64 pow, .int .i64 cl, .slice Aj js.length cj, (.slice Al ls.length cl'), .string aC, .int .i64 aN, .string bC, .int .i64 bN, .int .i64 rJ, .int .i64 rN, .int .i64 hash, .int .i64 prev] ∧ Blk w' w.heap.size 23 #[.bool o1, .bool o2, .bool o3])) (by kernel_rfl) ?hS5 (fun hHeld => ?_)
          case hS5 => exact ⟨hR3.drew, hN3.drew, hO3.drew⟩
          refine tk4 (i := 0) (fun w9 hSw => hSw.1) ?_; try simp only [Act.put, zq]
          refine tk3 (i := 1) ?_; try simp only [Act.put, zq]
          refine tk1 (i := 2) (v := ?v5_3) ?hy5_3 ?_
          case hy5_3 => ((intro w9 hSw; have e0 : w9.cell? ⟨(w.heap.size + 1), 4, none⟩ = some (.string call) := hSw.2.1.cell 4; go_simp) <;> with_reducible rfl)
          (try simp only [Act.put, zq])
          refine wpAnyH_ready (rs := [3]) (by kernel_rfl) (by simp) ?_
          refine AllReadyH.cons rfl (fun K hK => ?_) AllReadyH.nil
          go_simp
          (go_at_call 157; refine (hVC _ HBW.out).mono ?_; rintro e wc1 ⟨rfl, hxc1⟩; have hRc1 := hR3.drew.later hxc1; have hNc1 := hN3.drew.later hxc1; have hOc1 := hO3.drew.later hxc1; have hZc1 := hZ3.drew.later hxc1; have hbwc1 : Below w.heap.size w wc1 := (HBW.out).trans (hxc1.mono HBW.out.size))
          go_wp2_with fail
          refine hK.out _ _ ?hS5_4 (fun hHeld => ?_)
          case hS5_4 => ((try dsimp only); exact ⟨hRc1, hNc1, hOc1⟩)
          clear hK K
          (try simp only [Act.put, zq])
          refine tk3 (i := 4) ?_; try simp only [Act.put, zq]
          refine tk3 (i := 5) ?_; try simp only [Act.put, zq]
          refine tk3 (i := 6) ?_; try simp only [Act.put, zq]
          refine wpAnyH_ready (rs := [7]) (by kernel_rfl) (by simp) ?_
          refine AllReadyH.cons rfl (fun K hK => ?_) AllReadyH.nil
          (rw [if_pos (by kernel_rfl)]; refine wp_store_blk 46 _ _ rfl (w.heap.size + 1 + 1) 46 _ _ rfl rfl hZc1 (by rfl) sizeNote (by simp [Value.oneCell']) ?_; intro w6 hZ6 hg6 hs6)
          refine hK.out _ _ ?hS5_8 (fun hHeld => ?_)
          case hS5_8 => ((try dsimp only); exact ⟨hRc1.kept hg6 (by intro e; injection e with e; omega), hNc1.kept hg6 (by intro e; injection e with e; omega), hOc1.kept hg6 (by intro e; injection e with e; omega)⟩)
          clear hK K
          (try simp only [Act.put, zq])
          refine tk3 (i := 8) ?_; try simp only [Act.put, zq]
          refine wpAnyH_done (by kernel_rfl) ?_ _
          go_wp2
          refine bodyPost_ret (results_cellb Tryz.results134 rfl hZ6 Tryz.underlying46 rfl sizeNote) rfl ⟨ret_u (HV.out.trans rfl).symm ?_, hbwc1.grown hg6 hbwc1.size (fun i e => by cases e; omega)⟩
          show Value.bool zv = Value.bool R
          rw [HR2.out]; simp
  by_cases h3 : kind = 3
  · subst h3
    · skip
      have HR2 : Hid (R = markB aC aN) := Lib.hid (HR.out.trans rfl)
      have hM1 := HMK.out aC aN
      generalize markB aC aN = z1 at hM1 HR2
      have hR := HR_.out
      have hN := HN_.out
      have hO := HO_.out
      have hZ := HZ_.out
      have hb0 := HB0_.out
      have s12 : W.cell? ⟨r, 12, none⟩ = some (.string aC) := hR.cell 12
      have s13 : W.cell? ⟨r, 13, none⟩ = some (.int .i64 aN) := hR.cell 13
      have sf := hR.frozen
      go_wp2
      have hR3 : Blk ((W.setCell ⟨r, 12, none⟩ (.string ⟨#[]⟩)).setCell ⟨r, 13, none⟩ (.int .i64 0)) r 46 #[.int .i64 0, .int .i64 0, .int .i64 0, .int .i64 0, .string call, .int .i64 version, .string lcall, .int .i64 cat, .int .i64 pow, .int .i64 cl, .slice Aj js.length cj, (.slice Al ls.length cl'), .string ⟨#[]⟩, .int .i64 0, .string bC, .int .i64 bN, .int .i64 rJ, .int .i64 rN, .int .i64 hash, .int .i64 prev] := ((hR.put 12 (.string ⟨#[]⟩)).put 13 (.int .i64 0))
      have hN3 := ((hN.far (p := ⟨r, 12, none⟩) (by simp <;> omega) (.string ⟨#[]⟩)).far (p := ⟨r, 13, none⟩) (by simp <;> omega) (.int .i64 0))
      have hO3 := ((hO.far (p := ⟨r, 12, none⟩) (by simp <;> omega) (.string ⟨#[]⟩)).far (p := ⟨r, 13, none⟩) (by simp <;> omega) (.int .i64 0))
      have hZ3 := ((hZ.far (p := ⟨r, 12, none⟩) (by simp <;> omega) (.string ⟨#[]⟩)).far (p := ⟨r, 13, none⟩) (by simp <;> omega) (.int .i64 0))
      have hb3 := ((hb0.setCell (p := ⟨r, 12, none⟩) (by simp; omega) (.string ⟨#[]⟩)).setCell (p := ⟨r, 13, none⟩) (by simp; omega) (.int .i64 0))
      clear hR hN hO hZ hb0 sf s12 s13
      generalize ((W.setCell ⟨r, 12, none⟩ (.string ⟨#[]⟩)).setCell ⟨r, 13, none⟩ (.int .i64 0)) = W3 at hR3 hN3 hO3 hZ3 hb3 ⊢
      have ltO := hO3.lt
      have ltR := hR3.lt
      have HBW : Hid (Below w.heap.size w W3.drew) := Lib.hid hb3.drew
      clear hb3
      as_aux_lemma =>
        refine wp_region_held_drew (S := (fun w' => Blk w' r 46 #[.int .i64 0, .int .i64 0, .int .i64 0, .int .i64 0, .string call, .int .i64 version, .string lcall, .int .i64 cat, .int .i64 pow, .int .i64 cl, .slice Aj js.length cj, (.slice Al ls.length cl'), .string ⟨#[]⟩, .int .i64 0, .string bC, .int .i64 bN, .int .i64 rJ, .int .i64 rN, .int .i64 hash, .int .i64 prev] ∧ Blk w' (w.heap.size + 1) 46 #[.int .i64 judge, .int .i64 num, .int .i64 clock, .int .i64 3, .string call, .int .i64 version, .string lcall, .int .i64 cat, .int .i64 pow, .int .i64 cl, .slice Aj js.length cj, (.slice Al ls.length cl'), .string aC, .int .i64 aN, .string bC, .int .i64 bN, .int .i64 rJ, .int .i64 rN, .int .i64 hash, .int .i64 prev] ∧ Blk w' w.heap.size 23 #[.bool o1, .bool o2, .bool o3])) (by kernel_rfl) ?hS6 (fun hHeld => ?_)
        case hS6 => exact ⟨hR3.drew, hN3.drew, hO3.drew⟩
        refine tk4 (i := 0) (fun w9 hSw => hSw.1) ?_; try simp only [Act.put, zq]
        refine tk3 (i := 1) ?_; try simp only [Act.put, zq]
        refine tk1 (i := 2) (v := ?v6_3) ?hy6_3 ?_
        case hy6_3 => ((intro w9 hSw; have e0 : w9.cell? ⟨(w.heap.size + 1), 12, none⟩ = some (.string aC) := hSw.2.1.cell 12; have e1 : w9.cell? ⟨(w.heap.size + 1), 13, none⟩ = some (.int .i64 aN) := hSw.2.1.cell 13; go_simp) <;> with_reducible rfl)
        (try simp only [Act.put, zq])
        refine wpAnyH_ready (rs := [3]) (by kernel_rfl) (by simp) ?_
        refine AllReadyH.cons rfl (fun K hK => ?_) AllReadyH.nil
        go_simp
        (go_at_call 158; ((with_reducible refine (hM1 _ HBW.out).mono ?_); rintro e wc1 ⟨rfl, hxc1⟩); have hRc1 := hR3.drew.later hxc1; have hNc1 := hN3.drew.later hxc1; have hOc1 := hO3.drew.later hxc1; have hZc1 := hZ3.drew.later hxc1; have hbwc1 : Below w.heap.size w wc1 := (HBW.out).trans (hxc1.mono HBW.out.size))
        go_wp2_with fail
        refine hK.out _ _ ?hS6_4 (fun hHeld => ?_)
        case hS6_4 => ((try dsimp only); exact ⟨hRc1, hNc1, hOc1⟩)
        clear hK K
        (try simp only [Act.put, zq])
        refine wpAnyH_ready (rs := [4]) (by kernel_rfl) (by simp) ?_
        refine AllReadyH.cons rfl (fun K hK => ?_) AllReadyH.nil
        (rw [if_pos (by kernel_rfl)]; refine wp_store_blk 46 _ _ rfl (w.heap.size + 1 + 1) 46 _ _ rfl rfl hZc1 (by rfl) sizeNote (by simp [Value.oneCell']) ?_; intro w6 hZ6 hg6 hs6)
        refine hK.out _ _ ?hS6_5 (fun hHeld => ?_)
        case hS6_5 => ((try dsimp only); exact ⟨hRc1.kept hg6 (by intro e; injection e with e; omega), hNc1.kept hg6 (by intro e; injection e with e; omega), hOc1.kept hg6 (by intro e; injection e with e; omega)⟩)
        clear hK K
        (try simp only [Act.put, zq])
        refine tk3 (i := 5) ?_; try simp only [Act.put, zq]
        refine wpAnyH_done (by kernel_rfl) ?_ _
        go_wp2
        refine bodyPost_ret (results_cellb Tryz.results134 rfl hZ6 Tryz.underlying46 rfl sizeNote) rfl ⟨ret_u (HV.out.trans rfl).symm ?_, hbwc1.grown hg6 hbwc1.size (fun i e => by cases e; omega)⟩
        show Value.bool z1 = Value.bool R
        rw [HR2.out]
  by_cases h4 : kind = 4
  · subst h4
    · skip
      have HR2 : Hid (R = (markB aC aN && markB bC bN && Op.bytesLess aC.toList bC.toList)) := Lib.hid (HR.out.trans rfl)
      have hM1 := HMK.out aC aN
      have hM2 := HMK.out bC bN
      generalize markB aC aN = z1 at hM1 HR2
      generalize markB bC bN = z2 at hM2 HR2
      have hR := HR_.out
      have hN := HN_.out
      have hO := HO_.out
      have hZ := HZ_.out
      have hb0 := HB0_.out
      have s12 : W.cell? ⟨r, 12, none⟩ = some (.string aC) := hR.cell 12
      have s13 : W.cell? ⟨r, 13, none⟩ = some (.int .i64 aN) := hR.cell 13
      have s14 : W.cell? ⟨r, 14, none⟩ = some (.string bC) := hR.cell 14
      have s15 : W.cell? ⟨r, 15, none⟩ = some (.int .i64 bN) := hR.cell 15
      have sf := hR.frozen
      go_wp2
      have hR3 : Blk ((((W.setCell ⟨r, 12, none⟩ (.string ⟨#[]⟩)).setCell ⟨r, 13, none⟩ (.int .i64 0)).setCell ⟨r, 14, none⟩ (.string ⟨#[]⟩)).setCell ⟨r, 15, none⟩ (.int .i64 0)) r 46 #[.int .i64 0, .int .i64 0, .int .i64 0, .int .i64 0, .string call, .int .i64 version, .string lcall, .int .i64 cat, .int .i64 pow, .int .i64 cl, .slice Aj js.length cj, (.slice Al ls.length cl'), .string ⟨#[]⟩, .int .i64 0, .string ⟨#[]⟩, .int .i64 0, .int .i64 rJ, .int .i64 rN, .int .i64 hash, .int .i64 prev] := ((((hR.put 12 (.string ⟨#[]⟩)).put 13 (.int .i64 0)).put 14 (.string ⟨#[]⟩)).put 15 (.int .i64 0))
      have hN3 := ((((hN.far (p := ⟨r, 12, none⟩) (by simp <;> omega) (.string ⟨#[]⟩)).far (p := ⟨r, 13, none⟩) (by simp <;> omega) (.int .i64 0)).far (p := ⟨r, 14, none⟩) (by simp <;> omega) (.string ⟨#[]⟩)).far (p := ⟨r, 15, none⟩) (by simp <;> omega) (.int .i64 0))
      have hO3 := ((((hO.far (p := ⟨r, 12, none⟩) (by simp <;> omega) (.string ⟨#[]⟩)).far (p := ⟨r, 13, none⟩) (by simp <;> omega) (.int .i64 0)).far (p := ⟨r, 14, none⟩) (by simp <;> omega) (.string ⟨#[]⟩)).far (p := ⟨r, 15, none⟩) (by simp <;> omega) (.int .i64 0))
      have hZ3 := ((((hZ.far (p := ⟨r, 12, none⟩) (by simp <;> omega) (.string ⟨#[]⟩)).far (p := ⟨r, 13, none⟩) (by simp <;> omega) (.int .i64 0)).far (p := ⟨r, 14, none⟩) (by simp <;> omega) (.string ⟨#[]⟩)).far (p := ⟨r, 15, none⟩) (by simp <;> omega) (.int .i64 0))
      have hb3 := ((((hb0.setCell (p := ⟨r, 12, none⟩) (by simp; omega) (.string ⟨#[]⟩)).setCell (p := ⟨r, 13, none⟩) (by simp; omega) (.int .i64 0)).setCell (p := ⟨r, 14, none⟩) (by simp; omega) (.string ⟨#[]⟩)).setCell (p := ⟨r, 15, none⟩) (by simp; omega) (.int .i64 0))
      clear hR hN hO hZ hb0 sf s12 s13 s14 s15
      generalize ((((W.setCell ⟨r, 12, none⟩ (.string ⟨#[]⟩)).setCell ⟨r, 13, none⟩ (.int .i64 0)).setCell ⟨r, 14, none⟩ (.string ⟨#[]⟩)).setCell ⟨r, 15, none⟩ (.int .i64 0)) = W3 at hR3 hN3 hO3 hZ3 hb3 ⊢
      have ltO := hO3.lt
      have ltR := hR3.lt
      have HBW : Hid (Below w.heap.size w W3.drew) := Lib.hid hb3.drew
      clear hb3
      cases z1
      · skip
        as_aux_lemma =>
          refine wp_region_held_drew (S := (fun w' => Blk w' r 46 #[.int .i64 0, .int .i64 0, .int .i64 0, .int .i64 0, .string call, .int .i64 version, .string lcall, .int .i64 cat, .int .i64 pow, .int .i64 cl, .slice Aj js.length cj, (.slice Al ls.length cl'), .string ⟨#[]⟩, .int .i64 0, .string ⟨#[]⟩, .int .i64 0, .int .i64 rJ, .int .i64 rN, .int .i64 hash, .int .i64 prev] ∧ Blk w' (w.heap.size + 1) 46 #[.int .i64 judge, .int .i64 num, .int .i64 clock, .int .i64 4, .string call, .int .i64 version, .string lcall, .int .i64 cat, .int .i64 pow, .int .i64 cl, .slice Aj js.length cj, (.slice Al ls.length cl'), .string aC, .int .i64 aN, .string bC, .int .i64 bN, .int .i64 rJ, .int .i64 rN, .int .i64 hash, .int .i64 prev] ∧ Blk w' w.heap.size 23 #[.bool o1, .bool o2, .bool o3])) (by kernel_rfl) ?hS7 (fun hHeld => ?_)
          case hS7 => exact ⟨hR3.drew, hN3.drew, hO3.drew⟩
          refine tk4 (i := 0) (fun w9 hSw => hSw.1) ?_; try simp only [Act.put, zq]
          refine tk3 (i := 1) ?_; try simp only [Act.put, zq]
          refine tk1 (i := 2) (v := ?v7_3) ?hy7_3 ?_
          case hy7_3 => ((intro w9 hSw; have e0 : w9.cell? ⟨(w.heap.size + 1), 12, none⟩ = some (.string aC) := hSw.2.1.cell 12; have e1 : w9.cell? ⟨(w.heap.size + 1), 13, none⟩ = some (.int .i64 aN) := hSw.2.1.cell 13; go_simp) <;> with_reducible rfl)
          (try simp only [Act.put, zq])
          refine wpAnyH_ready (rs := [3]) (by kernel_rfl) (by simp) ?_
          refine AllReadyH.cons rfl (fun K hK => ?_) AllReadyH.nil
          go_simp
          (go_at_call 158; ((with_reducible refine (hM1 _ HBW.out).mono ?_); rintro e wc1 ⟨rfl, hxc1⟩); have hRc1 := hR3.drew.later hxc1; have hNc1 := hN3.drew.later hxc1; have hOc1 := hO3.drew.later hxc1; have hZc1 := hZ3.drew.later hxc1; have hbwc1 : Below w.heap.size w wc1 := (HBW.out).trans (hxc1.mono HBW.out.size))
          go_wp2_with fail
          refine hK.out _ _ ?hS7_4 (fun hHeld => ?_)
          case hS7_4 => ((try dsimp only); exact ⟨hRc1, hNc1, hOc1⟩)
          clear hK K
          (try simp only [Act.put, zq])
          refine tk3 (i := 4) ?_; try simp only [Act.put, zq]
          refine tk2 (i := 5) ?_; try simp only [Act.put, zq]
          refine tk2 (i := 6) ?_; try simp only [Act.put, zq]
          refine tk2 (i := 7) ?_; try simp only [Act.put, zq]
          refine tk3 (i := 8) ?_; try simp only [Act.put, zq]
          refine tk3 (i := 9) ?_; try simp only [Act.put, zq]
          refine tk2 (i := 10) ?_; try simp only [Act.put, zq]
          refine tk2 (i := 11) ?_; try simp only [Act.put, zq]
          refine tk2 (i := 12) ?_; try simp only [Act.put, zq]
          refine tk2 (i := 13) ?_; try simp only [Act.put, zq]
          refine tk2 (i := 14) ?_; try simp only [Act.put, zq]
          refine tk2 (i := 15) ?_; try simp only [Act.put, zq]
          refine tk2 (i := 16) ?_; try simp only [Act.put, zq]
          refine tk3 (i := 17) ?_; try simp only [Act.put, zq]
          refine wpAnyH_ready (rs := [18]) (by kernel_rfl) (by simp) ?_
          refine AllReadyH.cons rfl (fun K hK => ?_) AllReadyH.nil
          (rw [if_pos (by kernel_rfl)]; refine wp_store_blk 46 _ _ rfl (w.heap.size + 1 + 1) 46 _ _ rfl rfl hZc1 (by rfl) sizeNote (by simp [Value.oneCell']) ?_; intro w6 hZ6 hg6 hs6)
          refine hK.out _ _ ?hS7_19 (fun hHeld => ?_)
          case hS7_19 => ((try dsimp only); exact ⟨hRc1.kept hg6 (by intro e; injection e with e; omega), hNc1.kept hg6 (by intro e; injection e with e; omega), hOc1.kept hg6 (by intro e; injection e with e; omega)⟩)
          clear hK K
          (try simp only [Act.put, zq])
          refine tk3 (i := 19) ?_; try simp only [Act.put, zq]
          refine wpAnyH_done (by kernel_rfl) ?_ _
          go_wp2
          refine bodyPost_ret (results_cellb Tryz.results134 rfl hZ6 Tryz.underlying46 rfl sizeNote) rfl ⟨ret_u (HV.out.trans rfl).symm ?_, hbwc1.grown hg6 hbwc1.size (fun i e => by cases e; omega)⟩
          show Value.bool false = Value.bool R
          rw [HR2.out]; simp
      · cases z2
        · skip
          as_aux_lemma =>
            refine wp_region_held_drew (S := (fun w' => Blk w' r 46 #[.int .i64 0, .int .i64 0, .int .i64 0, .int .i64 0, .string call, .int .i64 version, .string lcall, .int .i64 cat, .int .i64 pow, .int .i64 cl, .slice Aj js.length cj, (.slice Al ls.length cl'), .string ⟨#[]⟩, .int .i64 0, .string ⟨#[]⟩, .int .i64 0, .int .i64 rJ, .int .i64 rN, .int .i64 hash, .int .i64 prev] ∧ Blk w' (w.heap.size + 1) 46 #[.int .i64 judge, .int .i64 num, .int .i64 clock, .int .i64 4, .string call, .int .i64 version, .string lcall, .int .i64 cat, .int .i64 pow, .int .i64 cl, .slice Aj js.length cj, (.slice Al ls.length cl'), .string aC, .int .i64 aN, .string bC, .int .i64 bN, .int .i64 rJ, .int .i64 rN, .int .i64 hash, .int .i64 prev] ∧ Blk w' w.heap.size 23 #[.bool o1, .bool o2, .bool o3])) (by kernel_rfl) ?hS8 (fun hHeld => ?_)
            case hS8 => exact ⟨hR3.drew, hN3.drew, hO3.drew⟩
            refine tk4 (i := 0) (fun w9 hSw => hSw.1) ?_; try simp only [Act.put, zq]
            refine tk3 (i := 1) ?_; try simp only [Act.put, zq]
            refine tk1 (i := 2) (v := ?v8_3) ?hy8_3 ?_
            case hy8_3 => ((intro w9 hSw; have e0 : w9.cell? ⟨(w.heap.size + 1), 12, none⟩ = some (.string aC) := hSw.2.1.cell 12; have e1 : w9.cell? ⟨(w.heap.size + 1), 13, none⟩ = some (.int .i64 aN) := hSw.2.1.cell 13; go_simp) <;> with_reducible rfl)
            (try simp only [Act.put, zq])
            refine wpAnyH_ready (rs := [3]) (by kernel_rfl) (by simp) ?_
            refine AllReadyH.cons rfl (fun K hK => ?_) AllReadyH.nil
            go_simp
            (go_at_call 158; ((with_reducible refine (hM1 _ HBW.out).mono ?_); rintro e wc1 ⟨rfl, hxc1⟩); have hRc1 := hR3.drew.later hxc1; have hNc1 := hN3.drew.later hxc1; have hOc1 := hO3.drew.later hxc1; have hZc1 := hZ3.drew.later hxc1; have hbwc1 : Below w.heap.size w wc1 := (HBW.out).trans (hxc1.mono HBW.out.size))
            go_wp2_with fail
            refine hK.out _ _ ?hS8_4 (fun hHeld => ?_)
            case hS8_4 => ((try dsimp only); exact ⟨hRc1, hNc1, hOc1⟩)
            clear hK K
            (try simp only [Act.put, zq])
            refine tk3 (i := 4) ?_; try simp only [Act.put, zq]
            refine tk3 (i := 5) ?_; try simp only [Act.put, zq]
            refine tk1 (i := 6) (v := ?v8_7) ?hy8_7 ?_
            case hy8_7 => ((intro w9 hSw; have e0 : w9.cell? ⟨(w.heap.size + 1), 14, none⟩ = some (.string bC) := hSw.2.1.cell 14; have e1 : w9.cell? ⟨(w.heap.size + 1), 15, none⟩ = some (.int .i64 bN) := hSw.2.1.cell 15; go_simp) <;> with_reducible rfl)
            (try simp only [Act.put, zq])
            refine wpAnyH_ready (rs := [7]) (by kernel_rfl) (by simp) ?_
            refine AllReadyH.cons rfl (fun K hK => ?_) AllReadyH.nil
            go_simp
            (go_at_call 158; ((with_reducible refine (hM2 _ hbwc1).mono ?_); rintro e wc2 ⟨rfl, hxc2⟩); have hRc2 := hRc1.later hxc2; have hNc2 := hNc1.later hxc2; have hOc2 := hOc1.later hxc2; have hZc2 := hZc1.later hxc2; have hbwc2 : Below w.heap.size w wc2 := (hbwc1).trans (hxc2.mono hbwc1.size))
            go_wp2_with fail
            refine hK.out _ _ ?hS8_8 (fun hHeld => ?_)
            case hS8_8 => ((try dsimp only); exact ⟨hRc2, hNc2, hOc2⟩)
            clear hK K
            (try simp only [Act.put, zq])
            refine tk3 (i := 8) ?_; try simp only [Act.put, zq]
            refine tk3 (i := 9) ?_; try simp only [Act.put, zq]
            refine tk2 (i := 10) ?_; try simp only [Act.put, zq]
            refine tk2 (i := 11) ?_; try simp only [Act.put, zq]
            refine tk2 (i := 12) ?_; try simp only [Act.put, zq]
            refine tk2 (i := 13) ?_; try simp only [Act.put, zq]
            refine tk2 (i := 14) ?_; try simp only [Act.put, zq]
            refine tk2 (i := 15) ?_; try simp only [Act.put, zq]
            refine tk2 (i := 16) ?_; try simp only [Act.put, zq]
            refine tk3 (i := 17) ?_; try simp only [Act.put, zq]
            refine wpAnyH_ready (rs := [18]) (by kernel_rfl) (by simp) ?_
            refine AllReadyH.cons rfl (fun K hK => ?_) AllReadyH.nil
            (rw [if_pos (by kernel_rfl)]; refine wp_store_blk 46 _ _ rfl (w.heap.size + 1 + 1) 46 _ _ rfl rfl hZc2 (by rfl) sizeNote (by simp [Value.oneCell']) ?_; intro w6 hZ6 hg6 hs6)
            refine hK.out _ _ ?hS8_19 (fun hHeld => ?_)
            case hS8_19 => ((try dsimp only); exact ⟨hRc2.kept hg6 (by intro e; injection e with e; omega), hNc2.kept hg6 (by intro e; injection e with e; omega), hOc2.kept hg6 (by intro e; injection e with e; omega)⟩)
            clear hK K
            (try simp only [Act.put, zq])
            refine tk3 (i := 19) ?_; try simp only [Act.put, zq]
            refine wpAnyH_done (by kernel_rfl) ?_ _
            go_wp2
            refine bodyPost_ret (results_cellb Tryz.results134 rfl hZ6 Tryz.underlying46 rfl sizeNote) rfl ⟨ret_u (HV.out.trans rfl).symm ?_, hbwc2.grown hg6 hbwc2.size (fun i e => by cases e; omega)⟩
            show Value.bool false = Value.bool R
            rw [HR2.out]; simp
        · skip
          as_aux_lemma =>
            refine wp_region_held_drew (S := (fun w' => Blk w' r 46 #[.int .i64 0, .int .i64 0, .int .i64 0, .int .i64 0, .string call, .int .i64 version, .string lcall, .int .i64 cat, .int .i64 pow, .int .i64 cl, .slice Aj js.length cj, (.slice Al ls.length cl'), .string ⟨#[]⟩, .int .i64 0, .string ⟨#[]⟩, .int .i64 0, .int .i64 rJ, .int .i64 rN, .int .i64 hash, .int .i64 prev] ∧ Blk w' (w.heap.size + 1) 46 #[.int .i64 judge, .int .i64 num, .int .i64 clock, .int .i64 4, .string call, .int .i64 version, .string lcall, .int .i64 cat, .int .i64 pow, .int .i64 cl, .slice Aj js.length cj, (.slice Al ls.length cl'), .string aC, .int .i64 aN, .string bC, .int .i64 bN, .int .i64 rJ, .int .i64 rN, .int .i64 hash, .int .i64 prev] ∧ Blk w' w.heap.size 23 #[.bool o1, .bool o2, .bool o3])) (by kernel_rfl) ?hS9 (fun hHeld => ?_)
            case hS9 => exact ⟨hR3.drew, hN3.drew, hO3.drew⟩
            refine tk4 (i := 0) (fun w9 hSw => hSw.1) ?_; try simp only [Act.put, zq]
            refine tk3 (i := 1) ?_; try simp only [Act.put, zq]
            refine tk1 (i := 2) (v := ?v9_3) ?hy9_3 ?_
            case hy9_3 => ((intro w9 hSw; have e0 : w9.cell? ⟨(w.heap.size + 1), 12, none⟩ = some (.string aC) := hSw.2.1.cell 12; have e1 : w9.cell? ⟨(w.heap.size + 1), 13, none⟩ = some (.int .i64 aN) := hSw.2.1.cell 13; go_simp) <;> with_reducible rfl)
            (try simp only [Act.put, zq])
            refine wpAnyH_ready (rs := [3]) (by kernel_rfl) (by simp) ?_
            refine AllReadyH.cons rfl (fun K hK => ?_) AllReadyH.nil
            go_simp
            (go_at_call 158; ((with_reducible refine (hM1 _ HBW.out).mono ?_); rintro e wc1 ⟨rfl, hxc1⟩); have hRc1 := hR3.drew.later hxc1; have hNc1 := hN3.drew.later hxc1; have hOc1 := hO3.drew.later hxc1; have hZc1 := hZ3.drew.later hxc1; have hbwc1 : Below w.heap.size w wc1 := (HBW.out).trans (hxc1.mono HBW.out.size))
            go_wp2_with fail
            refine hK.out _ _ ?hS9_4 (fun hHeld => ?_)
            case hS9_4 => ((try dsimp only); exact ⟨hRc1, hNc1, hOc1⟩)
            clear hK K
            (try simp only [Act.put, zq])
            refine tk3 (i := 4) ?_; try simp only [Act.put, zq]
            refine tk3 (i := 5) ?_; try simp only [Act.put, zq]
            refine tk1 (i := 6) (v := ?v9_7) ?hy9_7 ?_
            case hy9_7 => ((intro w9 hSw; have e0 : w9.cell? ⟨(w.heap.size + 1), 14, none⟩ = some (.string bC) := hSw.2.1.cell 14; have e1 : w9.cell? ⟨(w.heap.size + 1), 15, none⟩ = some (.int .i64 bN) := hSw.2.1.cell 15; go_simp) <;> with_reducible rfl)
            (try simp only [Act.put, zq])
            refine wpAnyH_ready (rs := [7]) (by kernel_rfl) (by simp) ?_
            refine AllReadyH.cons rfl (fun K hK => ?_) AllReadyH.nil
            go_simp
            (go_at_call 158; ((with_reducible refine (hM2 _ hbwc1).mono ?_); rintro e wc2 ⟨rfl, hxc2⟩); have hRc2 := hRc1.later hxc2; have hNc2 := hNc1.later hxc2; have hOc2 := hOc1.later hxc2; have hZc2 := hZc1.later hxc2; have hbwc2 : Below w.heap.size w wc2 := (hbwc1).trans (hxc2.mono hbwc1.size))
            go_wp2_with fail
            refine hK.out _ _ ?hS9_8 (fun hHeld => ?_)
            case hS9_8 => ((try dsimp only); exact ⟨hRc2, hNc2, hOc2⟩)
            clear hK K
            (try simp only [Act.put, zq])
            refine tk3 (i := 8) ?_; try simp only [Act.put, zq]
            refine tk3 (i := 9) ?_; try simp only [Act.put, zq]
            refine tk3 (i := 10) ?_; try simp only [Act.put, zq]
            refine tk3 (i := 11) ?_; try simp only [Act.put, zq]
            refine tk1 (i := 12) (v := ?v9_13) ?hy9_13 ?_
            case hy9_13 => ((intro w9 hSw; have e0 : w9.cell? ⟨(w.heap.size + 1), 12, none⟩ = some (.string aC) := hSw.2.1.cell 12; go_simp) <;> with_reducible rfl)
            (try simp only [Act.put, zq])
            refine tk3 (i := 13) ?_; try simp only [Act.put, zq]
            refine tk3 (i := 14) ?_; try simp only [Act.put, zq]
            refine tk1 (i := 15) (v := ?v9_16) ?hy9_16 ?_
            case hy9_16 => ((intro w9 hSw; have e0 : w9.cell? ⟨(w.heap.size + 1), 14, none⟩ = some (.string bC) := hSw.2.1.cell 14; go_simp) <;> with_reducible rfl)
            (try simp only [Act.put, zq])
            refine tk3 (i := 16) ?_; try simp only [Act.put, zq]
            refine tk3 (i := 17) ?_; try simp only [Act.put, zq]
            refine wpAnyH_ready (rs := [18]) (by kernel_rfl) (by simp) ?_
            refine AllReadyH.cons rfl (fun K hK => ?_) AllReadyH.nil
            (rw [if_pos (by kernel_rfl)]; refine wp_store_blk 46 _ _ rfl (w.heap.size + 1 + 1) 46 _ _ rfl rfl hZc2 (by rfl) sizeNote (by simp [Value.oneCell']) ?_; intro w6 hZ6 hg6 hs6)
            refine hK.out _ _ ?hS9_19 (fun hHeld => ?_)
            case hS9_19 => ((try dsimp only); exact ⟨hRc2.kept hg6 (by intro e; injection e with e; omega), hNc2.kept hg6 (by intro e; injection e with e; omega), hOc2.kept hg6 (by intro e; injection e with e; omega)⟩)
            clear hK K
            (try simp only [Act.put, zq])
            refine tk3 (i := 19) ?_; try simp only [Act.put, zq]
            refine wpAnyH_done (by kernel_rfl) ?_ _
            go_wp2
            refine bodyPost_ret (results_cellb Tryz.results134 rfl hZ6 Tryz.underlying46 rfl sizeNote) rfl ⟨ret_u (HV.out.trans rfl).symm ?_, hbwc2.grown hg6 hbwc2.size (fun i e => by cases e; omega)⟩
            show Value.bool (Op.bytesLess aC.toList bC.toList) = Value.bool R
            rw [HR2.out]; simp
  by_cases h5 : kind = 5
  · subst h5
    · skip
      have HR2 : Hid (R = (markB aC aN && markB bC bN && Op.bytesLess aC.toList bC.toList)) := Lib.hid (HR.out.trans rfl)
      have hM1 := HMK.out aC aN
      have hM2 := HMK.out bC bN
      generalize markB aC aN = z1 at hM1 HR2
      generalize markB bC bN = z2 at hM2 HR2
      have hR := HR_.out
      have hN := HN_.out
      have hO := HO_.out
      have hZ := HZ_.out
      have hb0 := HB0_.out
      have s12 : W.cell? ⟨r, 12, none⟩ = some (.string aC) := hR.cell 12
      have s13 : W.cell? ⟨r, 13, none⟩ = some (.int .i64 aN) := hR.cell 13
      have s14 : W.cell? ⟨r, 14, none⟩ = some (.string bC) := hR.cell 14
      have s15 : W.cell? ⟨r, 15, none⟩ = some (.int .i64 bN) := hR.cell 15
      have sf := hR.frozen
      go_wp2
      have hR3 : Blk ((((W.setCell ⟨r, 12, none⟩ (.string ⟨#[]⟩)).setCell ⟨r, 13, none⟩ (.int .i64 0)).setCell ⟨r, 14, none⟩ (.string ⟨#[]⟩)).setCell ⟨r, 15, none⟩ (.int .i64 0)) r 46 #[.int .i64 0, .int .i64 0, .int .i64 0, .int .i64 0, .string call, .int .i64 version, .string lcall, .int .i64 cat, .int .i64 pow, .int .i64 cl, .slice Aj js.length cj, (.slice Al ls.length cl'), .string ⟨#[]⟩, .int .i64 0, .string ⟨#[]⟩, .int .i64 0, .int .i64 rJ, .int .i64 rN, .int .i64 hash, .int .i64 prev] := ((((hR.put 12 (.string ⟨#[]⟩)).put 13 (.int .i64 0)).put 14 (.string ⟨#[]⟩)).put 15 (.int .i64 0))
      have hN3 := ((((hN.far (p := ⟨r, 12, none⟩) (by simp <;> omega) (.string ⟨#[]⟩)).far (p := ⟨r, 13, none⟩) (by simp <;> omega) (.int .i64 0)).far (p := ⟨r, 14, none⟩) (by simp <;> omega) (.string ⟨#[]⟩)).far (p := ⟨r, 15, none⟩) (by simp <;> omega) (.int .i64 0))
      have hO3 := ((((hO.far (p := ⟨r, 12, none⟩) (by simp <;> omega) (.string ⟨#[]⟩)).far (p := ⟨r, 13, none⟩) (by simp <;> omega) (.int .i64 0)).far (p := ⟨r, 14, none⟩) (by simp <;> omega) (.string ⟨#[]⟩)).far (p := ⟨r, 15, none⟩) (by simp <;> omega) (.int .i64 0))
      have hZ3 := ((((hZ.far (p := ⟨r, 12, none⟩) (by simp <;> omega) (.string ⟨#[]⟩)).far (p := ⟨r, 13, none⟩) (by simp <;> omega) (.int .i64 0)).far (p := ⟨r, 14, none⟩) (by simp <;> omega) (.string ⟨#[]⟩)).far (p := ⟨r, 15, none⟩) (by simp <;> omega) (.int .i64 0))
      have hb3 := ((((hb0.setCell (p := ⟨r, 12, none⟩) (by simp; omega) (.string ⟨#[]⟩)).setCell (p := ⟨r, 13, none⟩) (by simp; omega) (.int .i64 0)).setCell (p := ⟨r, 14, none⟩) (by simp; omega) (.string ⟨#[]⟩)).setCell (p := ⟨r, 15, none⟩) (by simp; omega) (.int .i64 0))
      clear hR hN hO hZ hb0 sf s12 s13 s14 s15
      generalize ((((W.setCell ⟨r, 12, none⟩ (.string ⟨#[]⟩)).setCell ⟨r, 13, none⟩ (.int .i64 0)).setCell ⟨r, 14, none⟩ (.string ⟨#[]⟩)).setCell ⟨r, 15, none⟩ (.int .i64 0)) = W3 at hR3 hN3 hO3 hZ3 hb3 ⊢
      have ltO := hO3.lt
      have ltR := hR3.lt
      have HBW : Hid (Below w.heap.size w W3.drew) := Lib.hid hb3.drew
      clear hb3
      cases z1
      · skip
        as_aux_lemma =>
          refine wp_region_held_drew (S := (fun w' => Blk w' r 46 #[.int .i64 0, .int .i64 0, .int .i64 0, .int .i64 0, .string call, .int .i64 version, .string lcall, .int .i64 cat, .int .i64 pow, .int .i64 cl, .slice Aj js.length cj, (.slice Al ls.length cl'), .string ⟨#[]⟩, .int .i64 0, .string ⟨#[]⟩, .int .i64 0, .int .i64 rJ, .int .i64 rN, .int .i64 hash, .int .i64 prev] ∧ Blk w' (w.heap.size + 1) 46 #[.int .i64 judge, .int .i64 num, .int .i64 clock, .int .i64 5, .string call, .int .i64 version, .string lcall, .int .i64 cat, .int .i64 pow, .int .i64 cl, .slice Aj js.length cj, (.slice Al ls.length cl'), .string aC, .int .i64 aN, .string bC, .int .i64 bN, .int .i64 rJ, .int .i64 rN, .int .i64 hash, .int .i64 prev] ∧ Blk w' w.heap.size 23 #[.bool o1, .bool o2, .bool o3])) (by kernel_rfl) ?hS10 (fun hHeld => ?_)
          case hS10 => exact ⟨hR3.drew, hN3.drew, hO3.drew⟩
          refine tk4 (i := 0) (fun w9 hSw => hSw.1) ?_; try simp only [Act.put, zq]
          refine tk3 (i := 1) ?_; try simp only [Act.put, zq]
          refine tk1 (i := 2) (v := ?v10_3) ?hy10_3 ?_
          case hy10_3 => ((intro w9 hSw; have e0 : w9.cell? ⟨(w.heap.size + 1), 12, none⟩ = some (.string aC) := hSw.2.1.cell 12; have e1 : w9.cell? ⟨(w.heap.size + 1), 13, none⟩ = some (.int .i64 aN) := hSw.2.1.cell 13; go_simp) <;> with_reducible rfl)
          (try simp only [Act.put, zq])
          refine wpAnyH_ready (rs := [3]) (by kernel_rfl) (by simp) ?_
          refine AllReadyH.cons rfl (fun K hK => ?_) AllReadyH.nil
          go_simp
          (go_at_call 158; ((with_reducible refine (hM1 _ HBW.out).mono ?_); rintro e wc1 ⟨rfl, hxc1⟩); have hRc1 := hR3.drew.later hxc1; have hNc1 := hN3.drew.later hxc1; have hOc1 := hO3.drew.later hxc1; have hZc1 := hZ3.drew.later hxc1; have hbwc1 : Below w.heap.size w wc1 := (HBW.out).trans (hxc1.mono HBW.out.size))
          go_wp2_with fail
          refine hK.out _ _ ?hS10_4 (fun hHeld => ?_)
          case hS10_4 => ((try dsimp only); exact ⟨hRc1, hNc1, hOc1⟩)
          clear hK K
          (try simp only [Act.put, zq])
          refine tk3 (i := 4) ?_; try simp only [Act.put, zq]
          refine tk2 (i := 5) ?_; try simp only [Act.put, zq]
          refine tk2 (i := 6) ?_; try simp only [Act.put, zq]
          refine tk2 (i := 7) ?_; try simp only [Act.put, zq]
          refine tk3 (i := 8) ?_; try simp only [Act.put, zq]
          refine tk3 (i := 9) ?_; try simp only [Act.put, zq]
          refine tk2 (i := 10) ?_; try simp only [Act.put, zq]
          refine tk2 (i := 11) ?_; try simp only [Act.put, zq]
          refine tk2 (i := 12) ?_; try simp only [Act.put, zq]
          refine tk2 (i := 13) ?_; try simp only [Act.put, zq]
          refine tk2 (i := 14) ?_; try simp only [Act.put, zq]
          refine tk2 (i := 15) ?_; try simp only [Act.put, zq]
          refine tk2 (i := 16) ?_; try simp only [Act.put, zq]
          refine tk3 (i := 17) ?_; try simp only [Act.put, zq]
          refine wpAnyH_ready (rs := [18]) (by kernel_rfl) (by simp) ?_
          refine AllReadyH.cons rfl (fun K hK => ?_) AllReadyH.nil
          (rw [if_pos (by kernel_rfl)]; refine wp_store_blk 46 _ _ rfl (w.heap.size + 1 + 1) 46 _ _ rfl rfl hZc1 (by rfl) sizeNote (by simp [Value.oneCell']) ?_; intro w6 hZ6 hg6 hs6)
          refine hK.out _ _ ?hS10_19 (fun hHeld => ?_)
          case hS10_19 => ((try dsimp only); exact ⟨hRc1.kept hg6 (by intro e; injection e with e; omega), hNc1.kept hg6 (by intro e; injection e with e; omega), hOc1.kept hg6 (by intro e; injection e with e; omega)⟩)
          clear hK K
          (try simp only [Act.put, zq])
          refine tk3 (i := 19) ?_; try simp only [Act.put, zq]
          refine wpAnyH_done (by kernel_rfl) ?_ _
          go_wp2
          refine bodyPost_ret (results_cellb Tryz.results134 rfl hZ6 Tryz.underlying46 rfl sizeNote) rfl ⟨ret_u (HV.out.trans rfl).symm ?_, hbwc1.grown hg6 hbwc1.size (fun i e => by cases e; omega)⟩
          show Value.bool false = Value.bool R
          rw [HR2.out]; simp
      · cases z2
        · skip
          as_aux_lemma =>
            refine wp_region_held_drew (S := (fun w' => Blk w' r 46 #[.int .i64 0, .int .i64 0, .int .i64 0, .int .i64 0, .string call, .int .i64 version, .string lcall, .int .i64 cat, .int .i64 pow, .int .i64 cl, .slice Aj js.length cj, (.slice Al ls.length cl'), .string ⟨#[]⟩, .int .i64 0, .string ⟨#[]⟩, .int .i64 0, .int .i64 rJ, .int .i64 rN, .int .i64 hash, .int .i64 prev] ∧ Blk w' (w.heap.size + 1) 46 #[.int .i64 judge, .int .i64 num, .int .i64 clock, .int .i64 5, .string call, .int .i64 version, .string lcall, .int .i64 cat, .int .i64 pow, .int .i64 cl, .slice Aj js.length cj, (.slice Al ls.length cl'), .string aC, .int .i64 aN, .string bC, .int .i64 bN, .int .i64 rJ, .int .i64 rN, .int .i64 hash, .int .i64 prev] ∧ Blk w' w.heap.size 23 #[.bool o1, .bool o2, .bool o3])) (by kernel_rfl) ?hS11 (fun hHeld => ?_)
            case hS11 => exact ⟨hR3.drew, hN3.drew, hO3.drew⟩
            refine tk4 (i := 0) (fun w9 hSw => hSw.1) ?_; try simp only [Act.put, zq]
            refine tk3 (i := 1) ?_; try simp only [Act.put, zq]
            refine tk1 (i := 2) (v := ?v11_3) ?hy11_3 ?_
            case hy11_3 => ((intro w9 hSw; have e0 : w9.cell? ⟨(w.heap.size + 1), 12, none⟩ = some (.string aC) := hSw.2.1.cell 12; have e1 : w9.cell? ⟨(w.heap.size + 1), 13, none⟩ = some (.int .i64 aN) := hSw.2.1.cell 13; go_simp) <;> with_reducible rfl)
            (try simp only [Act.put, zq])
            refine wpAnyH_ready (rs := [3]) (by kernel_rfl) (by simp) ?_
            refine AllReadyH.cons rfl (fun K hK => ?_) AllReadyH.nil
            go_simp
            (go_at_call 158; ((with_reducible refine (hM1 _ HBW.out).mono ?_); rintro e wc1 ⟨rfl, hxc1⟩); have hRc1 := hR3.drew.later hxc1; have hNc1 := hN3.drew.later hxc1; have hOc1 := hO3.drew.later hxc1; have hZc1 := hZ3.drew.later hxc1; have hbwc1 : Below w.heap.size w wc1 := (HBW.out).trans (hxc1.mono HBW.out.size))
            go_wp2_with fail
            refine hK.out _ _ ?hS11_4 (fun hHeld => ?_)
            case hS11_4 => ((try dsimp only); exact ⟨hRc1, hNc1, hOc1⟩)
            clear hK K
            (try simp only [Act.put, zq])
            refine tk3 (i := 4) ?_; try simp only [Act.put, zq]
            refine tk3 (i := 5) ?_; try simp only [Act.put, zq]
            refine tk1 (i := 6) (v := ?v11_7) ?hy11_7 ?_
            case hy11_7 => ((intro w9 hSw; have e0 : w9.cell? ⟨(w.heap.size + 1), 14, none⟩ = some (.string bC) := hSw.2.1.cell 14; have e1 : w9.cell? ⟨(w.heap.size + 1), 15, none⟩ = some (.int .i64 bN) := hSw.2.1.cell 15; go_simp) <;> with_reducible rfl)
            (try simp only [Act.put, zq])
            refine wpAnyH_ready (rs := [7]) (by kernel_rfl) (by simp) ?_
            refine AllReadyH.cons rfl (fun K hK => ?_) AllReadyH.nil
            go_simp
            (go_at_call 158; ((with_reducible refine (hM2 _ hbwc1).mono ?_); rintro e wc2 ⟨rfl, hxc2⟩); have hRc2 := hRc1.later hxc2; have hNc2 := hNc1.later hxc2; have hOc2 := hOc1.later hxc2; have hZc2 := hZc1.later hxc2; have hbwc2 : Below w.heap.size w wc2 := (hbwc1).trans (hxc2.mono hbwc1.size))
            go_wp2_with fail
            refine hK.out _ _ ?hS11_8 (fun hHeld => ?_)
            case hS11_8 => ((try dsimp only); exact ⟨hRc2, hNc2, hOc2⟩)
            clear hK K
            (try simp only [Act.put, zq])
            refine tk3 (i := 8) ?_; try simp only [Act.put, zq]
            refine tk3 (i := 9) ?_; try simp only [Act.put, zq]
            refine tk2 (i := 10) ?_; try simp only [Act.put, zq]
            refine tk2 (i := 11) ?_; try simp only [Act.put, zq]
            refine tk2 (i := 12) ?_; try simp only [Act.put, zq]
            refine tk2 (i := 13) ?_; try simp only [Act.put, zq]
            refine tk2 (i := 14) ?_; try simp only [Act.put, zq]
            refine tk2 (i := 15) ?_; try simp only [Act.put, zq]
            refine tk2 (i := 16) ?_; try simp only [Act.put, zq]
            refine tk3 (i := 17) ?_; try simp only [Act.put, zq]
            refine wpAnyH_ready (rs := [18]) (by kernel_rfl) (by simp) ?_
            refine AllReadyH.cons rfl (fun K hK => ?_) AllReadyH.nil
            (rw [if_pos (by kernel_rfl)]; refine wp_store_blk 46 _ _ rfl (w.heap.size + 1 + 1) 46 _ _ rfl rfl hZc2 (by rfl) sizeNote (by simp [Value.oneCell']) ?_; intro w6 hZ6 hg6 hs6)
            refine hK.out _ _ ?hS11_19 (fun hHeld => ?_)
            case hS11_19 => ((try dsimp only); exact ⟨hRc2.kept hg6 (by intro e; injection e with e; omega), hNc2.kept hg6 (by intro e; injection e with e; omega), hOc2.kept hg6 (by intro e; injection e with e; omega)⟩)
            clear hK K
            (try simp only [Act.put, zq])
            refine tk3 (i := 19) ?_; try simp only [Act.put, zq]
            refine wpAnyH_done (by kernel_rfl) ?_ _
            go_wp2
            refine bodyPost_ret (results_cellb Tryz.results134 rfl hZ6 Tryz.underlying46 rfl sizeNote) rfl ⟨ret_u (HV.out.trans rfl).symm ?_, hbwc2.grown hg6 hbwc2.size (fun i e => by cases e; omega)⟩
            show Value.bool false = Value.bool R
            rw [HR2.out]; simp
        · skip
          as_aux_lemma =>
            refine wp_region_held_drew (S := (fun w' => Blk w' r 46 #[.int .i64 0, .int .i64 0, .int .i64 0, .int .i64 0, .string call, .int .i64 version, .string lcall, .int .i64 cat, .int .i64 pow, .int .i64 cl, .slice Aj js.length cj, (.slice Al ls.length cl'), .string ⟨#[]⟩, .int .i64 0, .string ⟨#[]⟩, .int .i64 0, .int .i64 rJ, .int .i64 rN, .int .i64 hash, .int .i64 prev] ∧ Blk w' (w.heap.size + 1) 46 #[.int .i64 judge, .int .i64 num, .int .i64 clock, .int .i64 5, .string call, .int .i64 version, .string lcall, .int .i64 cat, .int .i64 pow, .int .i64 cl, .slice Aj js.length cj, (.slice Al ls.length cl'), .string aC, .int .i64 aN, .string bC, .int .i64 bN, .int .i64 rJ, .int .i64 rN, .int .i64 hash, .int .i64 prev] ∧ Blk w' w.heap.size 23 #[.bool o1, .bool o2, .bool o3])) (by kernel_rfl) ?hS12 (fun hHeld => ?_)
            case hS12 => exact ⟨hR3.drew, hN3.drew, hO3.drew⟩
            refine tk4 (i := 0) (fun w9 hSw => hSw.1) ?_; try simp only [Act.put, zq]
            refine tk3 (i := 1) ?_; try simp only [Act.put, zq]
            refine tk1 (i := 2) (v := ?v12_3) ?hy12_3 ?_
            case hy12_3 => ((intro w9 hSw; have e0 : w9.cell? ⟨(w.heap.size + 1), 12, none⟩ = some (.string aC) := hSw.2.1.cell 12; have e1 : w9.cell? ⟨(w.heap.size + 1), 13, none⟩ = some (.int .i64 aN) := hSw.2.1.cell 13; go_simp) <;> with_reducible rfl)
            (try simp only [Act.put, zq])
            refine wpAnyH_ready (rs := [3]) (by kernel_rfl) (by simp) ?_
            refine AllReadyH.cons rfl (fun K hK => ?_) AllReadyH.nil
            go_simp
            (go_at_call 158; ((with_reducible refine (hM1 _ HBW.out).mono ?_); rintro e wc1 ⟨rfl, hxc1⟩); have hRc1 := hR3.drew.later hxc1; have hNc1 := hN3.drew.later hxc1; have hOc1 := hO3.drew.later hxc1; have hZc1 := hZ3.drew.later hxc1; have hbwc1 : Below w.heap.size w wc1 := (HBW.out).trans (hxc1.mono HBW.out.size))
            go_wp2_with fail
            refine hK.out _ _ ?hS12_4 (fun hHeld => ?_)
            case hS12_4 => ((try dsimp only); exact ⟨hRc1, hNc1, hOc1⟩)
            clear hK K
            (try simp only [Act.put, zq])
            refine tk3 (i := 4) ?_; try simp only [Act.put, zq]
            refine tk3 (i := 5) ?_; try simp only [Act.put, zq]
            refine tk1 (i := 6) (v := ?v12_7) ?hy12_7 ?_
            case hy12_7 => ((intro w9 hSw; have e0 : w9.cell? ⟨(w.heap.size + 1), 14, none⟩ = some (.string bC) := hSw.2.1.cell 14; have e1 : w9.cell? ⟨(w.heap.size + 1), 15, none⟩ = some (.int .i64 bN) := hSw.2.1.cell 15; go_simp) <;> with_reducible rfl)
            (try simp only [Act.put, zq])
            refine wpAnyH_ready (rs := [7]) (by kernel_rfl) (by simp) ?_
            refine AllReadyH.cons rfl (fun K hK => ?_) AllReadyH.nil
            go_simp
            (go_at_call 158; ((with_reducible refine (hM2 _ hbwc1).mono ?_); rintro e wc2 ⟨rfl, hxc2⟩); have hRc2 := hRc1.later hxc2; have hNc2 := hNc1.later hxc2; have hOc2 := hOc1.later hxc2; have hZc2 := hZc1.later hxc2; have hbwc2 : Below w.heap.size w wc2 := (hbwc1).trans (hxc2.mono hbwc1.size))
            go_wp2_with fail
            refine hK.out _ _ ?hS12_8 (fun hHeld => ?_)
            case hS12_8 => ((try dsimp only); exact ⟨hRc2, hNc2, hOc2⟩)
            clear hK K
            (try simp only [Act.put, zq])
            refine tk3 (i := 8) ?_; try simp only [Act.put, zq]
            refine tk3 (i := 9) ?_; try simp only [Act.put, zq]
            refine tk3 (i := 10) ?_; try simp only [Act.put, zq]
            refine tk3 (i := 11) ?_; try simp only [Act.put, zq]
            refine tk1 (i := 12) (v := ?v12_13) ?hy12_13 ?_
            case hy12_13 => ((intro w9 hSw; have e0 : w9.cell? ⟨(w.heap.size + 1), 12, none⟩ = some (.string aC) := hSw.2.1.cell 12; go_simp) <;> with_reducible rfl)
            (try simp only [Act.put, zq])
            refine tk3 (i := 13) ?_; try simp only [Act.put, zq]
            refine tk3 (i := 14) ?_; try simp only [Act.put, zq]
            refine tk1 (i := 15) (v := ?v12_16) ?hy12_16 ?_
            case hy12_16 => ((intro w9 hSw; have e0 : w9.cell? ⟨(w.heap.size + 1), 14, none⟩ = some (.string bC) := hSw.2.1.cell 14; go_simp) <;> with_reducible rfl)
            (try simp only [Act.put, zq])
            refine tk3 (i := 16) ?_; try simp only [Act.put, zq]
            refine tk3 (i := 17) ?_; try simp only [Act.put, zq]
            refine wpAnyH_ready (rs := [18]) (by kernel_rfl) (by simp) ?_
            refine AllReadyH.cons rfl (fun K hK => ?_) AllReadyH.nil
            (rw [if_pos (by kernel_rfl)]; refine wp_store_blk 46 _ _ rfl (w.heap.size + 1 + 1) 46 _ _ rfl rfl hZc2 (by rfl) sizeNote (by simp [Value.oneCell']) ?_; intro w6 hZ6 hg6 hs6)
            refine hK.out _ _ ?hS12_19 (fun hHeld => ?_)
            case hS12_19 => ((try dsimp only); exact ⟨hRc2.kept hg6 (by intro e; injection e with e; omega), hNc2.kept hg6 (by intro e; injection e with e; omega), hOc2.kept hg6 (by intro e; injection e with e; omega)⟩)
            clear hK K
            (try simp only [Act.put, zq])
            refine tk3 (i := 19) ?_; try simp only [Act.put, zq]
            refine wpAnyH_done (by kernel_rfl) ?_ _
            go_wp2
            refine bodyPost_ret (results_cellb Tryz.results134 rfl hZ6 Tryz.underlying46 rfl sizeNote) rfl ⟨ret_u (HV.out.trans rfl).symm ?_, hbwc2.grown hg6 hbwc2.size (fun i e => by cases e; omega)⟩
            show Value.bool (Op.bytesLess aC.toList bC.toList) = Value.bool R
            rw [HR2.out]; simp
  by_cases h6 : kind = 6
  · subst h6
    · skip
      have HR2 : Hid (R = (inB rJ 1 8 && inB rN 1 2000)) := Lib.hid (HR.out.trans rfl)
      have h1' := fun W => jwithin_any rJ 1 8 W
      have h2' := fun W => jwithin_any rN 1 2000 W
      generalize inB rJ 1 8 = z1 at h1' HR2
      generalize inB rN 1 2000 = z2 at h2' HR2
      have hR := HR_.out
      have hN := HN_.out
      have hO := HO_.out
      have hZ := HZ_.out
      have hb0 := HB0_.out
      have s16 : W.cell? ⟨r, 16, none⟩ = some (.int .i64 rJ) := hR.cell 16
      have s17 : W.cell? ⟨r, 17, none⟩ = some (.int .i64 rN) := hR.cell 17
      have sf := hR.frozen
      go_wp2
      have hR3 : Blk ((W.setCell ⟨r, 16, none⟩ (.int .i64 0)).setCell ⟨r, 17, none⟩ (.int .i64 0)) r 46 #[.int .i64 0, .int .i64 0, .int .i64 0, .int .i64 0, .string call, .int .i64 version, .string lcall, .int .i64 cat, .int .i64 pow, .int .i64 cl, .slice Aj js.length cj, (.slice Al ls.length cl'), .string aC, .int .i64 aN, .string bC, .int .i64 bN, .int .i64 0, .int .i64 0, .int .i64 hash, .int .i64 prev] := ((hR.put 16 (.int .i64 0)).put 17 (.int .i64 0))
      have hN3 := ((hN.far (p := ⟨r, 16, none⟩) (by simp <;> omega) (.int .i64 0)).far (p := ⟨r, 17, none⟩) (by simp <;> omega) (.int .i64 0))
      have hO3 := ((hO.far (p := ⟨r, 16, none⟩) (by simp <;> omega) (.int .i64 0)).far (p := ⟨r, 17, none⟩) (by simp <;> omega) (.int .i64 0))
      have hZ3 := ((hZ.far (p := ⟨r, 16, none⟩) (by simp <;> omega) (.int .i64 0)).far (p := ⟨r, 17, none⟩) (by simp <;> omega) (.int .i64 0))
      have hb3 := ((hb0.setCell (p := ⟨r, 16, none⟩) (by simp; omega) (.int .i64 0)).setCell (p := ⟨r, 17, none⟩) (by simp; omega) (.int .i64 0))
      clear hR hN hO hZ hb0 sf s16 s17
      generalize ((W.setCell ⟨r, 16, none⟩ (.int .i64 0)).setCell ⟨r, 17, none⟩ (.int .i64 0)) = W3 at hR3 hN3 hO3 hZ3 hb3 ⊢
      have ltO := hO3.lt
      have ltR := hR3.lt
      have HBW : Hid (Below w.heap.size w W3.drew) := Lib.hid hb3.drew
      clear hb3
      cases z1
      · skip
        as_aux_lemma =>
          refine wp_region_held_drew (S := (fun w' => Blk w' r 46 #[.int .i64 0, .int .i64 0, .int .i64 0, .int .i64 0, .string call, .int .i64 version, .string lcall, .int .i64 cat, .int .i64 pow, .int .i64 cl, .slice Aj js.length cj, (.slice Al ls.length cl'), .string aC, .int .i64 aN, .string bC, .int .i64 bN, .int .i64 0, .int .i64 0, .int .i64 hash, .int .i64 prev] ∧ Blk w' (w.heap.size + 1) 46 #[.int .i64 judge, .int .i64 num, .int .i64 clock, .int .i64 6, .string call, .int .i64 version, .string lcall, .int .i64 cat, .int .i64 pow, .int .i64 cl, .slice Aj js.length cj, (.slice Al ls.length cl'), .string aC, .int .i64 aN, .string bC, .int .i64 bN, .int .i64 rJ, .int .i64 rN, .int .i64 hash, .int .i64 prev] ∧ Blk w' w.heap.size 23 #[.bool o1, .bool o2, .bool o3])) (by kernel_rfl) ?hS13 (fun hHeld => ?_)
          case hS13 => exact ⟨hR3.drew, hN3.drew, hO3.drew⟩
          refine tk4 (i := 0) (fun w9 hSw => hSw.1) ?_; try simp only [Act.put, zq]
          refine tk3 (i := 1) ?_; try simp only [Act.put, zq]
          refine tk3 (i := 2) ?_; try simp only [Act.put, zq]
          refine tk1 (i := 3) (v := ?v13_4) ?hy13_4 ?_
          case hy13_4 => ((intro w9 hSw; have e0 : w9.cell? ⟨(w.heap.size + 1), 16, none⟩ = some (.int .i64 rJ) := hSw.2.1.cell 16; go_simp) <;> with_reducible rfl)
          (try simp only [Act.put, zq])
          refine wpAnyH_ready (rs := [4]) (by kernel_rfl) (by simp) ?_
          refine AllReadyH.cons rfl (fun K hK => ?_) AllReadyH.nil
          go_simp
          (go_at_call 45; ((with_reducible refine (calls_same (h1' _)).mono ?_); rintro e wc1 ⟨rfl, hxc1⟩); have hRc1 := hR3.drew.later hxc1; have hNc1 := hN3.drew.later hxc1; have hOc1 := hO3.drew.later hxc1; have hZc1 := hZ3.drew.later hxc1; have hbwc1 : Below w.heap.size w wc1 := (HBW.out).trans (hxc1.mono HBW.out.size))
          go_wp2_with fail
          refine hK.out _ _ ?hS13_5 (fun hHeld => ?_)
          case hS13_5 => ((try dsimp only); exact ⟨hRc1, hNc1, hOc1⟩)
          clear hK K
          (try simp only [Act.put, zq])
          refine tk3 (i := 5) ?_; try simp only [Act.put, zq]
          refine tk2 (i := 6) ?_; try simp only [Act.put, zq]
          refine tk2 (i := 7) ?_; try simp only [Act.put, zq]
          refine tk2 (i := 8) ?_; try simp only [Act.put, zq]
          refine tk2 (i := 9) ?_; try simp only [Act.put, zq]
          refine tk3 (i := 10) ?_; try simp only [Act.put, zq]
          refine wpAnyH_ready (rs := [11]) (by kernel_rfl) (by simp) ?_
          refine AllReadyH.cons rfl (fun K hK => ?_) AllReadyH.nil
          (rw [if_pos (by kernel_rfl)]; refine wp_store_blk 46 _ _ rfl (w.heap.size + 1 + 1) 46 _ _ rfl rfl hZc1 (by rfl) sizeNote (by simp [Value.oneCell']) ?_; intro w6 hZ6 hg6 hs6)
          refine hK.out _ _ ?hS13_12 (fun hHeld => ?_)
          case hS13_12 => ((try dsimp only); exact ⟨hRc1.kept hg6 (by intro e; injection e with e; omega), hNc1.kept hg6 (by intro e; injection e with e; omega), hOc1.kept hg6 (by intro e; injection e with e; omega)⟩)
          clear hK K
          (try simp only [Act.put, zq])
          refine tk3 (i := 12) ?_; try simp only [Act.put, zq]
          refine wpAnyH_done (by kernel_rfl) ?_ _
          go_wp2
          refine bodyPost_ret (results_cellb Tryz.results134 rfl hZ6 Tryz.underlying46 rfl sizeNote) rfl ⟨ret_u (HV.out.trans rfl).symm ?_, hbwc1.grown hg6 hbwc1.size (fun i e => by cases e; omega)⟩
          show Value.bool false = Value.bool R
          rw [HR2.out]; simp
      · skip
        as_aux_lemma =>
          refine wp_region_held_drew (S := (fun w' => Blk w' r 46 #[.int .i64 0, .int .i64 0, .int .i64 0, .int .i64 0, .string call, .int .i64 version, .string lcall, .int .i64 cat, .int .i64 pow, .int .i64 cl, .slice Aj js.length cj, (.slice Al ls.length cl'), .string aC, .int .i64 aN, .string bC, .int .i64 bN, .int .i64 0, .int .i64 0, .int .i64 hash, .int .i64 prev] ∧ Blk w' (w.heap.size + 1) 46 #[.int .i64 judge, .int .i64 num, .int .i64 clock, .int .i64 6, .string call, .int .i64 version, .string lcall, .int .i64 cat, .int .i64 pow, .int .i64 cl, .slice Aj js.length cj, (.slice Al ls.length cl'), .string aC, .int .i64 aN, .string bC, .int .i64 bN, .int .i64 rJ, .int .i64 rN, .int .i64 hash, .int .i64 prev] ∧ Blk w' w.heap.size 23 #[.bool o1, .bool o2, .bool o3])) (by kernel_rfl) ?hS14 (fun hHeld => ?_)
          case hS14 => exact ⟨hR3.drew, hN3.drew, hO3.drew⟩
          refine tk4 (i := 0) (fun w9 hSw => hSw.1) ?_; try simp only [Act.put, zq]
          refine tk3 (i := 1) ?_; try simp only [Act.put, zq]
          refine tk3 (i := 2) ?_; try simp only [Act.put, zq]
          refine tk1 (i := 3) (v := ?v14_4) ?hy14_4 ?_
          case hy14_4 => ((intro w9 hSw; have e0 : w9.cell? ⟨(w.heap.size + 1), 16, none⟩ = some (.int .i64 rJ) := hSw.2.1.cell 16; go_simp) <;> with_reducible rfl)
          (try simp only [Act.put, zq])
          refine wpAnyH_ready (rs := [4]) (by kernel_rfl) (by simp) ?_
          refine AllReadyH.cons rfl (fun K hK => ?_) AllReadyH.nil
          go_simp
          (go_at_call 45; ((with_reducible refine (calls_same (h1' _)).mono ?_); rintro e wc1 ⟨rfl, hxc1⟩); have hRc1 := hR3.drew.later hxc1; have hNc1 := hN3.drew.later hxc1; have hOc1 := hO3.drew.later hxc1; have hZc1 := hZ3.drew.later hxc1; have hbwc1 : Below w.heap.size w wc1 := (HBW.out).trans (hxc1.mono HBW.out.size))
          go_wp2_with fail
          refine hK.out _ _ ?hS14_5 (fun hHeld => ?_)
          case hS14_5 => ((try dsimp only); exact ⟨hRc1, hNc1, hOc1⟩)
          clear hK K
          (try simp only [Act.put, zq])
          refine tk3 (i := 5) ?_; try simp only [Act.put, zq]
          refine tk3 (i := 6) ?_; try simp only [Act.put, zq]
          refine tk3 (i := 7) ?_; try simp only [Act.put, zq]
          refine tk1 (i := 8) (v := ?v14_9) ?hy14_9 ?_
          case hy14_9 => ((intro w9 hSw; have e0 : w9.cell? ⟨(w.heap.size + 1), 17, none⟩ = some (.int .i64 rN) := hSw.2.1.cell 17; go_simp) <;> with_reducible rfl)
          (try simp only [Act.put, zq])
          refine wpAnyH_ready (rs := [9]) (by kernel_rfl) (by simp) ?_
          refine AllReadyH.cons rfl (fun K hK => ?_) AllReadyH.nil
          go_simp
          (go_at_call 45; ((with_reducible refine (calls_same (h2' _)).mono ?_); rintro e wc2 ⟨rfl, hxc2⟩); have hRc2 := hRc1.later hxc2; have hNc2 := hNc1.later hxc2; have hOc2 := hOc1.later hxc2; have hZc2 := hZc1.later hxc2; have hbwc2 : Below w.heap.size w wc2 := (hbwc1).trans (hxc2.mono hbwc1.size))
          go_wp2_with fail
          refine hK.out _ _ ?hS14_10 (fun hHeld => ?_)
          case hS14_10 => ((try dsimp only); exact ⟨hRc2, hNc2, hOc2⟩)
          clear hK K
          (try simp only [Act.put, zq])
          refine tk3 (i := 10) ?_; try simp only [Act.put, zq]
          refine wpAnyH_ready (rs := [11]) (by kernel_rfl) (by simp) ?_
          refine AllReadyH.cons rfl (fun K hK => ?_) AllReadyH.nil
          (rw [if_pos (by kernel_rfl)]; refine wp_store_blk 46 _ _ rfl (w.heap.size + 1 + 1) 46 _ _ rfl rfl hZc2 (by rfl) sizeNote (by simp [Value.oneCell']) ?_; intro w6 hZ6 hg6 hs6)
          refine hK.out _ _ ?hS14_12 (fun hHeld => ?_)
          case hS14_12 => ((try dsimp only); exact ⟨hRc2.kept hg6 (by intro e; injection e with e; omega), hNc2.kept hg6 (by intro e; injection e with e; omega), hOc2.kept hg6 (by intro e; injection e with e; omega)⟩)
          clear hK K
          (try simp only [Act.put, zq])
          refine tk3 (i := 12) ?_; try simp only [Act.put, zq]
          refine wpAnyH_done (by kernel_rfl) ?_ _
          go_wp2
          refine bodyPost_ret (results_cellb Tryz.results134 rfl hZ6 Tryz.underlying46 rfl sizeNote) rfl ⟨ret_u (HV.out.trans rfl).symm ?_, hbwc2.grown hg6 hbwc2.size (fun i e => by cases e; omega)⟩
          show Value.bool z2 = Value.bool R
          rw [HR2.out]; simp
  by_cases h7 : kind = 7
  · subst h7
    · skip
      have HR2 : Hid (R = ((judge == 1) && inB hash 1 2147483646 && inB prev 0 2147483646)) := Lib.hid (HR.out.trans rfl)
      have h1' := fun W => jwithin_any hash 1 2147483646 W
      have h2' := fun W => jwithin_any prev 0 2147483646 W
      generalize inB hash 1 2147483646 = z1 at h1' HR2
      generalize inB prev 0 2147483646 = z2 at h2' HR2
      have hR := HR_.out
      have hN := HN_.out
      have hO := HO_.out
      have hZ := HZ_.out
      have hb0 := HB0_.out
      have s18 : W.cell? ⟨r, 18, none⟩ = some (.int .i64 hash) := hR.cell 18
      have s19 : W.cell? ⟨r, 19, none⟩ = some (.int .i64 prev) := hR.cell 19
      have sf := hR.frozen
      go_wp2
      have hR3 : Blk ((W.setCell ⟨r, 18, none⟩ (.int .i64 0)).setCell ⟨r, 19, none⟩ (.int .i64 0)) r 46 #[.int .i64 0, .int .i64 0, .int .i64 0, .int .i64 0, .string call, .int .i64 version, .string lcall, .int .i64 cat, .int .i64 pow, .int .i64 cl, .slice Aj js.length cj, (.slice Al ls.length cl'), .string aC, .int .i64 aN, .string bC, .int .i64 bN, .int .i64 rJ, .int .i64 rN, .int .i64 0, .int .i64 0] := ((hR.put 18 (.int .i64 0)).put 19 (.int .i64 0))
      have hN3 := ((hN.far (p := ⟨r, 18, none⟩) (by simp <;> omega) (.int .i64 0)).far (p := ⟨r, 19, none⟩) (by simp <;> omega) (.int .i64 0))
      have hO3 := ((hO.far (p := ⟨r, 18, none⟩) (by simp <;> omega) (.int .i64 0)).far (p := ⟨r, 19, none⟩) (by simp <;> omega) (.int .i64 0))
      have hZ3 := ((hZ.far (p := ⟨r, 18, none⟩) (by simp <;> omega) (.int .i64 0)).far (p := ⟨r, 19, none⟩) (by simp <;> omega) (.int .i64 0))
      have hb3 := ((hb0.setCell (p := ⟨r, 18, none⟩) (by simp; omega) (.int .i64 0)).setCell (p := ⟨r, 19, none⟩) (by simp; omega) (.int .i64 0))
      clear hR hN hO hZ hb0 sf s18 s19
      generalize ((W.setCell ⟨r, 18, none⟩ (.int .i64 0)).setCell ⟨r, 19, none⟩ (.int .i64 0)) = W3 at hR3 hN3 hO3 hZ3 hb3 ⊢
      have ltO := hO3.lt
      have ltR := hR3.lt
      have HBW : Hid (Below w.heap.size w W3.drew) := Lib.hid hb3.drew
      clear hb3
      cases hq : (judge == 1)
      · skip
        as_aux_lemma =>
          refine wp_region_held_drew (S := (fun w' => Blk w' r 46 #[.int .i64 0, .int .i64 0, .int .i64 0, .int .i64 0, .string call, .int .i64 version, .string lcall, .int .i64 cat, .int .i64 pow, .int .i64 cl, .slice Aj js.length cj, (.slice Al ls.length cl'), .string aC, .int .i64 aN, .string bC, .int .i64 bN, .int .i64 rJ, .int .i64 rN, .int .i64 0, .int .i64 0] ∧ Blk w' (w.heap.size + 1) 46 #[.int .i64 judge, .int .i64 num, .int .i64 clock, .int .i64 7, .string call, .int .i64 version, .string lcall, .int .i64 cat, .int .i64 pow, .int .i64 cl, .slice Aj js.length cj, (.slice Al ls.length cl'), .string aC, .int .i64 aN, .string bC, .int .i64 bN, .int .i64 rJ, .int .i64 rN, .int .i64 hash, .int .i64 prev] ∧ Blk w' w.heap.size 23 #[.bool o1, .bool o2, .bool o3])) (by kernel_rfl) ?hS15 (fun hHeld => ?_)
          case hS15 => exact ⟨hR3.drew, hN3.drew, hO3.drew⟩
          refine tk4 (i := 0) (fun w9 hSw => hSw.1) ?_; try simp only [Act.put, zq]
          refine tk3 (i := 1) ?_; try simp only [Act.put, zq]
          refine tk1 (i := 2) (v := ?v15_3) ?hy15_3 ?_
          case hy15_3 => ((intro w9 hSw; have e0 : w9.cell? ⟨(w.heap.size + 1), 0, none⟩ = some (.int .i64 judge) := hSw.2.1.cell 0; go_simp) <;> with_reducible rfl)
          (try simp only [Act.put, zq])
          refine tk3 (i := 3) ?_; try simp only [Act.put, zq]
          refine tk3 (i := 4) ?_; try simp only [Act.put, zq]
          refine tk2 (i := 5) ?_; try simp only [Act.put, zq]
          refine tk2 (i := 6) ?_; try simp only [Act.put, zq]
          refine tk2 (i := 7) ?_; try simp only [Act.put, zq]
          refine tk3 (i := 8) ?_; try simp only [Act.put, zq]
          refine tk3 (i := 9) ?_; try simp only [Act.put, zq]
          refine tk2 (i := 10) ?_; try simp only [Act.put, zq]
          refine tk2 (i := 11) ?_; try simp only [Act.put, zq]
          refine tk2 (i := 12) ?_; try simp only [Act.put, zq]
          refine tk3 (i := 13) ?_; try simp only [Act.put, zq]
          refine wpAnyH_ready (rs := [14]) (by kernel_rfl) (by simp) ?_
          refine AllReadyH.cons rfl (fun K hK => ?_) AllReadyH.nil
          (rw [if_pos (by kernel_rfl)]; refine wp_store_blk 46 _ _ rfl (w.heap.size + 1 + 1) 46 _ _ rfl rfl hZ3.drew (by rfl) sizeNote (by simp [Value.oneCell']) ?_; intro w6 hZ6 hg6 hs6)
          refine hK.out _ _ ?hS15_15 (fun hHeld => ?_)
          case hS15_15 => ((try dsimp only); exact ⟨hR3.drew.kept hg6 (by intro e; injection e with e; omega), hN3.drew.kept hg6 (by intro e; injection e with e; omega), hO3.drew.kept hg6 (by intro e; injection e with e; omega)⟩)
          clear hK K
          (try simp only [Act.put, zq])
          refine tk3 (i := 15) ?_; try simp only [Act.put, zq]
          refine wpAnyH_done (by kernel_rfl) ?_ _
          go_wp2
          refine bodyPost_ret (results_cellb Tryz.results134 rfl hZ6 Tryz.underlying46 rfl sizeNote) rfl ⟨ret_u (HV.out.trans rfl).symm ?_, HBW.out.grown hg6 HBW.out.size (fun i e => by cases e; omega)⟩
          show Value.bool false = Value.bool R
          rw [HR2.out]; simp [hq]
      · cases z1
        · skip
          as_aux_lemma =>
            refine wp_region_held_drew (S := (fun w' => Blk w' r 46 #[.int .i64 0, .int .i64 0, .int .i64 0, .int .i64 0, .string call, .int .i64 version, .string lcall, .int .i64 cat, .int .i64 pow, .int .i64 cl, .slice Aj js.length cj, (.slice Al ls.length cl'), .string aC, .int .i64 aN, .string bC, .int .i64 bN, .int .i64 rJ, .int .i64 rN, .int .i64 0, .int .i64 0] ∧ Blk w' (w.heap.size + 1) 46 #[.int .i64 judge, .int .i64 num, .int .i64 clock, .int .i64 7, .string call, .int .i64 version, .string lcall, .int .i64 cat, .int .i64 pow, .int .i64 cl, .slice Aj js.length cj, (.slice Al ls.length cl'), .string aC, .int .i64 aN, .string bC, .int .i64 bN, .int .i64 rJ, .int .i64 rN, .int .i64 hash, .int .i64 prev] ∧ Blk w' w.heap.size 23 #[.bool o1, .bool o2, .bool o3])) (by kernel_rfl) ?hS16 (fun hHeld => ?_)
            case hS16 => exact ⟨hR3.drew, hN3.drew, hO3.drew⟩
            refine tk4 (i := 0) (fun w9 hSw => hSw.1) ?_; try simp only [Act.put, zq]
            refine tk3 (i := 1) ?_; try simp only [Act.put, zq]
            refine tk1 (i := 2) (v := ?v16_3) ?hy16_3 ?_
            case hy16_3 => ((intro w9 hSw; have e0 : w9.cell? ⟨(w.heap.size + 1), 0, none⟩ = some (.int .i64 judge) := hSw.2.1.cell 0; go_simp) <;> with_reducible rfl)
            (try simp only [Act.put, zq])
            refine tk3 (i := 3) ?_; try simp only [Act.put, zq]
            refine tk3 (i := 4) ?_; try simp only [Act.put, zq]
            refine tk3 (i := 5) ?_; try simp only [Act.put, zq]
            refine tk1 (i := 6) (v := ?v16_7) ?hy16_7 ?_
            case hy16_7 => ((intro w9 hSw; have e0 : w9.cell? ⟨(w.heap.size + 1), 18, none⟩ = some (.int .i64 hash) := hSw.2.1.cell 18; go_simp) <;> with_reducible rfl)
            (try simp only [Act.put, zq])
            refine wpAnyH_ready (rs := [7]) (by kernel_rfl) (by simp) ?_
            refine AllReadyH.cons rfl (fun K hK => ?_) AllReadyH.nil
            go_simp
            (go_at_call 45; ((with_reducible refine (calls_same (h1' _)).mono ?_); rintro e wc1 ⟨rfl, hxc1⟩); have hRc1 := hR3.drew.later hxc1; have hNc1 := hN3.drew.later hxc1; have hOc1 := hO3.drew.later hxc1; have hZc1 := hZ3.drew.later hxc1; have hbwc1 : Below w.heap.size w wc1 := (HBW.out).trans (hxc1.mono HBW.out.size))
            go_wp2_with fail
            refine hK.out _ _ ?hS16_8 (fun hHeld => ?_)
            case hS16_8 => ((try dsimp only); exact ⟨hRc1, hNc1, hOc1⟩)
            clear hK K
            (try simp only [Act.put, zq])
            refine tk3 (i := 8) ?_; try simp only [Act.put, zq]
            refine tk3 (i := 9) ?_; try simp only [Act.put, zq]
            refine tk2 (i := 10) ?_; try simp only [Act.put, zq]
            refine tk2 (i := 11) ?_; try simp only [Act.put, zq]
            refine tk2 (i := 12) ?_; try simp only [Act.put, zq]
            refine tk3 (i := 13) ?_; try simp only [Act.put, zq]
            refine wpAnyH_ready (rs := [14]) (by kernel_rfl) (by simp) ?_
            refine AllReadyH.cons rfl (fun K hK => ?_) AllReadyH.nil
            (rw [if_pos (by kernel_rfl)]; refine wp_store_blk 46 _ _ rfl (w.heap.size + 1 + 1) 46 _ _ rfl rfl hZc1 (by rfl) sizeNote (by simp [Value.oneCell']) ?_; intro w6 hZ6 hg6 hs6)
            refine hK.out _ _ ?hS16_15 (fun hHeld => ?_)
            case hS16_15 => ((try dsimp only); exact ⟨hRc1.kept hg6 (by intro e; injection e with e; omega), hNc1.kept hg6 (by intro e; injection e with e; omega), hOc1.kept hg6 (by intro e; injection e with e; omega)⟩)
            clear hK K
            (try simp only [Act.put, zq])
            refine tk3 (i := 15) ?_; try simp only [Act.put, zq]
            refine wpAnyH_done (by kernel_rfl) ?_ _
            go_wp2
            refine bodyPost_ret (results_cellb Tryz.results134 rfl hZ6 Tryz.underlying46 rfl sizeNote) rfl ⟨ret_u (HV.out.trans rfl).symm ?_, hbwc1.grown hg6 hbwc1.size (fun i e => by cases e; omega)⟩
            show Value.bool false = Value.bool R
            rw [HR2.out]; simp [hq]
        · skip
          as_aux_lemma =>
            refine wp_region_held_drew (S := (fun w' => Blk w' r 46 #[.int .i64 0, .int .i64 0, .int .i64 0, .int .i64 0, .string call, .int .i64 version, .string lcall, .int .i64 cat, .int .i64 pow, .int .i64 cl, .slice Aj js.length cj, (.slice Al ls.length cl'), .string aC, .int .i64 aN, .string bC, .int .i64 bN, .int .i64 rJ, .int .i64 rN, .int .i64 0, .int .i64 0] ∧ Blk w' (w.heap.size + 1) 46 #[.int .i64 judge, .int .i64 num, .int .i64 clock, .int .i64 7, .string call, .int .i64 version, .string lcall, .int .i64 cat, .int .i64 pow, .int .i64 cl, .slice Aj js.length cj, (.slice Al ls.length cl'), .string aC, .int .i64 aN, .string bC, .int .i64 bN, .int .i64 rJ, .int .i64 rN, .int .i64 hash, .int .i64 prev] ∧ Blk w' w.heap.size 23 #[.bool o1, .bool o2, .bool o3])) (by kernel_rfl) ?hS17 (fun hHeld => ?_)
            case hS17 => exact ⟨hR3.drew, hN3.drew, hO3.drew⟩
            refine tk4 (i := 0) (fun w9 hSw => hSw.1) ?_; try simp only [Act.put, zq]
            refine tk3 (i := 1) ?_; try simp only [Act.put, zq]
            refine tk1 (i := 2) (v := ?v17_3) ?hy17_3 ?_
            case hy17_3 => ((intro w9 hSw; have e0 : w9.cell? ⟨(w.heap.size + 1), 0, none⟩ = some (.int .i64 judge) := hSw.2.1.cell 0; go_simp) <;> with_reducible rfl)
            (try simp only [Act.put, zq])
            refine tk3 (i := 3) ?_; try simp only [Act.put, zq]
            refine tk3 (i := 4) ?_; try simp only [Act.put, zq]
            refine tk3 (i := 5) ?_; try simp only [Act.put, zq]
            refine tk1 (i := 6) (v := ?v17_7) ?hy17_7 ?_
            case hy17_7 => ((intro w9 hSw; have e0 : w9.cell? ⟨(w.heap.size + 1), 18, none⟩ = some (.int .i64 hash) := hSw.2.1.cell 18; go_simp) <;> with_reducible rfl)
            (try simp only [Act.put, zq])
            refine wpAnyH_ready (rs := [7]) (by kernel_rfl) (by simp) ?_
            refine AllReadyH.cons rfl (fun K hK => ?_) AllReadyH.nil
            go_simp
            (go_at_call 45; ((with_reducible refine (calls_same (h1' _)).mono ?_); rintro e wc1 ⟨rfl, hxc1⟩); have hRc1 := hR3.drew.later hxc1; have hNc1 := hN3.drew.later hxc1; have hOc1 := hO3.drew.later hxc1; have hZc1 := hZ3.drew.later hxc1; have hbwc1 : Below w.heap.size w wc1 := (HBW.out).trans (hxc1.mono HBW.out.size))
            go_wp2_with fail
            refine hK.out _ _ ?hS17_8 (fun hHeld => ?_)
            case hS17_8 => ((try dsimp only); exact ⟨hRc1, hNc1, hOc1⟩)
            clear hK K
            (try simp only [Act.put, zq])
            refine tk3 (i := 8) ?_; try simp only [Act.put, zq]
            refine tk3 (i := 9) ?_; try simp only [Act.put, zq]
            refine tk3 (i := 10) ?_; try simp only [Act.put, zq]
            refine tk1 (i := 11) (v := ?v17_12) ?hy17_12 ?_
            case hy17_12 => ((intro w9 hSw; have e0 : w9.cell? ⟨(w.heap.size + 1), 19, none⟩ = some (.int .i64 prev) := hSw.2.1.cell 19; go_simp) <;> with_reducible rfl)
            (try simp only [Act.put, zq])
            refine wpAnyH_ready (rs := [12]) (by kernel_rfl) (by simp) ?_
            refine AllReadyH.cons rfl (fun K hK => ?_) AllReadyH.nil
            go_simp
            (go_at_call 45; ((with_reducible refine (calls_same (h2' _)).mono ?_); rintro e wc2 ⟨rfl, hxc2⟩); have hRc2 := hRc1.later hxc2; have hNc2 := hNc1.later hxc2; have hOc2 := hOc1.later hxc2; have hZc2 := hZc1.later hxc2; have hbwc2 : Below w.heap.size w wc2 := (hbwc1).trans (hxc2.mono hbwc1.size))
            go_wp2_with fail
            refine hK.out _ _ ?hS17_13 (fun hHeld => ?_)
            case hS17_13 => ((try dsimp only); exact ⟨hRc2, hNc2, hOc2⟩)
            clear hK K
            (try simp only [Act.put, zq])
            refine tk3 (i := 13) ?_; try simp only [Act.put, zq]
            refine wpAnyH_ready (rs := [14]) (by kernel_rfl) (by simp) ?_
            refine AllReadyH.cons rfl (fun K hK => ?_) AllReadyH.nil
            (rw [if_pos (by kernel_rfl)]; refine wp_store_blk 46 _ _ rfl (w.heap.size + 1 + 1) 46 _ _ rfl rfl hZc2 (by rfl) sizeNote (by simp [Value.oneCell']) ?_; intro w6 hZ6 hg6 hs6)
            refine hK.out _ _ ?hS17_15 (fun hHeld => ?_)
            case hS17_15 => ((try dsimp only); exact ⟨hRc2.kept hg6 (by intro e; injection e with e; omega), hNc2.kept hg6 (by intro e; injection e with e; omega), hOc2.kept hg6 (by intro e; injection e with e; omega)⟩)
            clear hK K
            (try simp only [Act.put, zq])
            refine tk3 (i := 15) ?_; try simp only [Act.put, zq]
            refine wpAnyH_done (by kernel_rfl) ?_ _
            go_wp2
            refine bodyPost_ret (results_cellb Tryz.results134 rfl hZ6 Tryz.underlying46 rfl sizeNote) rfl ⟨ret_u (HV.out.trans rfl).symm ?_, hbwc2.grown hg6 hbwc2.size (fun i e => by cases e; omega)⟩
            show Value.bool z2 = Value.bool R
            rw [HR2.out]; simp [hq]
  · as_aux_lemma =>
      have n1 : (kind == 1) = false := by simpa using h1
      have n2 : (kind == 2) = false := by simpa using h2
      have n3 : (kind == 3) = false := by simpa using h3
      have n4 : (kind == 4) = false := by simpa using h4
      have n5 : (kind == 5) = false := by simpa using h5
      have n6 : (kind == 6) = false := by simpa using h6
      have n7 : (kind == 7) = false := by simpa using h7
      have HR2 : R = false := by rw [HR.out]; unfold usedB; simp [h1, h2, h3, h4, h5, h6, h7]
      have HV2 : V = #[.int .i64 0, .int .i64 0, .int .i64 0, .int .i64 0, .string call, .int .i64 version, .string lcall, .int .i64 cat, .int .i64 pow, .int .i64 cl, .slice Aj js.length cj, (.slice Al ls.length cl'), .string aC, .int .i64 aN, .string bC, .int .i64 bN, .int .i64 rJ, .int .i64 rN, .int .i64 hash, .int .i64 prev] := by rw [HV.out]; unfold Nt.rest; simp [h1, h2, h3, h4, h5, h6, h7]
      have HR3 := Lib.hid HR2
      have HV3 := Lib.hid HV2
      clear HR2 HV2 h1 h2 h3 h4 h5 h6 h7
      go_wp2_with (first | (refine wpList_load_blk rfl 46 _ rfl r 46 _ _ rfl HR_.out U46 rfl sizeNote ?_) | (refine wpList_store_blk rfl 46 _ _ rfl (w.heap.size + 1 + 1) 46 _ _ rfl rfl HZ_.out (by rfl) sizeNote (by simp [Value.oneCell']) ?_; intro w6 hZ6 hg6 hs6))
      refine bodyPost_ret (results_cellb Tryz.results134 rfl hZ6 Tryz.underlying46 rfl sizeNote) rfl ⟨ret_u HV3.out.symm ?_, HB0_.out.grown hg6 HB0_.out.size (fun i e => by cases e; omega)⟩
      rw [HR3.out]; rfl
end Go.Proofs.YtlamogpdkmbeoaaGreatDoor
