/- The walks of 'Check' and 'ValidLog'. -/
import Derived.Test.YtlamogpdkmbeoaaGreatDoorZbAir
set_option linter.unusedVariables false
set_option linter.unusedSimpArgs false
namespace Go.Proofs.YtlamogpdkmbeoaaGreatDoor
open Go.RowKit Go.Lib Go.Shelf

/-- A log as it lies in memory: its slices as values. -/
structure Lg where
  call : ByteArray
  cat : Int
  pow : Int
  cl : Int
  jumps : Value
  lines : Value
abbrev Lg.enc (g : Lg) : List Value := [.string g.call, .int .i64 g.cat, .int .i64 g.pow, .int .i64 g.cl, g.jumps, g.lines]
abbrev Lg.val (g : Lg) : Value := .agg g.enc.toArray
abbrev Ln0 : Ln := ⟨0, 0, 0, 0, ⟨#[]⟩, ⟨0, 0, 0⟩, ⟨0, 0, 0⟩⟩
/-- The line at place i is as it must be. -/
def lineAt (o : Lay) (ls : List Ln) (i : Nat) : Bool := lineB o (ls.getD i Ln0) && (i == 0 || (decide ((ls.getD (i - 1) Ln0).num < (ls.getD i Ln0).num) && decide ((ls.getD (i - 1) Ln0).minute ≤ (ls.getD i Ln0).minute)))
def linesB (o : Lay) (ls : List Ln) : Bool := (List.range ls.length).all (lineAt o ls)
/-- Whether a log is valid: its jumps are js, its lines ls. -/
def logB (o : Lay) (g : Lg) (js : List Int) (ls : List Ln) : Bool :=
  decide (js.length ≤ 16) && decide (ls.length ≤ 400) && (callB g.call && inB g.cat 1 9 && inB g.pow 1 9999 && inB g.cl 0 1000000 && jumpsB js) && linesB o ls
/-- What 'Check' hands back. -/
def Checked (x : Bool) (e : Ending) : Prop := ∃ c i : Int, e = .returned (.tuple #[.int .i64 c, .int .i64 i]) ∧ decide (c = 0) = x
theorem checked_bad {x : Bool} {c i : Int} (hc : decide (c = 0) = false) (hx : x = false) : Checked x (.returned (.tuple #[.int .i64 c, .int .i64 i])) := ⟨c, i, rfl, hc.trans hx.symm⟩

set_option maxHeartbeats 8000000 in
theorem Check_any (o : Lay) (g : Lg) (js : List Int) (ls : List Ln) (w : World) (hj : RowsAt encI 1 w g.jumps js) (hl : RowsAt Ln.enc 11 w g.lines ls) (hs : ∀ x ∈ ls, x.call.size ≤ 9223372036854775807) (hE : Env w) :
    Calls Tryz.prog 203 #[o.val, g.val] w fun e w' => Checked (logB o g js ls) e ∧ Below w.heap.size w w' := by
  obtain ⟨call, cat, pow, cl, vj, vl⟩ := g
  obtain ⟨o1, o2, o3⟩ := o
  dsimp only at hj hl hE ⊢
  obtain ⟨W1, hW1⟩ : ∃ W1, (w.alloc (.cells #[.bool o1, .bool o2, .bool o3] 23)).alloc (.cells #[.string call, .int .i64 cat, .int .i64 pow, .int .i64 cl, vj, vl] 42) = W1 := ⟨_, rfl⟩
  have hb0 : Below w.heap.size w W1 := by rw [← hW1]; exact ((Below.refl _ w).alloc (Nat.le_refl _) _).alloc (by simp) _
  have hbO : Blk W1 w.heap.size 23 #[.bool o1, .bool o2, .bool o3] := by rw [← hW1]; exact (Blk.new w _ _).alloc _
  have hbL : Blk W1 (w.heap.size + 1) 42 #[.string call, .int .i64 cat, .int .i64 pow, .int .i64 cl, vj, vl] := by rw [← hW1]; have := Blk.new (w.alloc (.cells #[.bool o1, .bool o2, .bool o3] 23)) 42 #[.string call, .int .i64 cat, .int .i64 pow, .int .i64 cl, vj, vl]; rwa [World.size_alloc] at this
  have hz1 : W1.heap.size = w.heap.size + 1 + 1 := by rw [← hW1]; simp
  obtain ⟨Aj, cj, rfl⟩ := hj.len
  have hmj := hj.max
  have hml := hl.max
  unfold maxLen at hmj hml
  have hC := fun W (hb : Below w.heap.size w W) => ValidCall_any call W (hE.below hE.big hb)
  have hJ := fun W (hb : Below w.heap.size w W) => jumps_any js _ W (hj.later hb)
  have h2 := fun W => lwithin_any cat 1 9 W
  have h3 := fun W => lwithin_any pow 1 9999 W
  have h4 := fun W => lwithin_any cl 0 1000000 W
  have hLB : ∀ x, x = logB ⟨o1, o2, o3⟩ ⟨call, cat, pow, cl, .slice Aj js.length cj, vl⟩ js ls → x = (decide (js.length ≤ 16) && decide (ls.length ≤ 400) && (callB call && inB cat 1 9 && inB pow 1 9999 && inB cl 0 1000000 && jumpsB js) && linesB ⟨o1, o2, o3⟩ ls) := fun x h => h
  generalize logB ⟨o1, o2, o3⟩ ⟨call, cat, pow, cl, .slice Aj js.length cj, vl⟩ js ls = R at hLB ⊢
  have HR := Lib.hid (hLB R rfl)
  clear hLB
  have HC1 := Lib.hid hC
  have HJ1 := Lib.hid hJ
  have HB0 := Lib.hid hb0
  have HBO := Lib.hid hbO
  have HBL := Lib.hid hbL
  have HZ1 := Lib.hid hz1
  have lt1 : w.heap.size + 1 < W1.heap.size := by omega
  have le1 : w.heap.size ≤ W1.heap.size := by omega
  have HL := Lib.hid hl
  have HJR := Lib.hid hj
  have HE := Lib.hid hE
  have HS := Lib.hid hs
  have hcc := hC W1 hb0
  have L0 : W1.cell? ⟨w.heap.size + 1, 0, none⟩ = some (.string call) := hbL.cell 0
  have L1 : W1.cell? ⟨w.heap.size + 1, 1, none⟩ = some (.int .i64 cat) := hbL.cell 1
  have L2 : W1.cell? ⟨w.heap.size + 1, 2, none⟩ = some (.int .i64 pow) := hbL.cell 2
  have L3 : W1.cell? ⟨w.heap.size + 1, 3, none⟩ = some (.int .i64 cl) := hbL.cell 3
  have L4 : W1.cell? ⟨w.heap.size + 1, 4, none⟩ = some (.slice Aj js.length cj) := hbL.cell 4
  have L5 : W1.cell? ⟨w.heap.size + 1, 5, none⟩ = some vl := hbL.cell 5
  clear hC hJ hb0 hbO hbL hz1 hl hj hE hs
  obtain ⟨Al, cl', hvl⟩ := HL.out.len
  obtain rfl := hvl
  by_cases hj16 : js.length ≤ 16
  · by_cases hl400 : ls.length ≤ 400
    · have gj : ¬ (16 : Int) < js.length := by omega
      have gl : ¬ (400 : Int) < ls.length := by omega
      have HR2 : Hid (R = ((callB call && inB cat 1 9 && inB pow 1 9999 && inB cl 0 1000000 && jumpsB js) && linesB ⟨o1, o2, o3⟩ ls)) := Lib.hid (by rw [HR.out, decide_eq_true hj16, decide_eq_true hl400]; rfl)
      generalize callB call = z1 at hcc HC1 HR2
      generalize inB cat 1 9 = z2 at h2 HR2
      generalize inB pow 1 9999 = z3 at h3 HR2
      generalize inB cl 0 1000000 = z4 at h4 HR2
      cases z1
      · go_enter Tryz.func203, Tryz.ntmps203
        go_wp2_with (first | (go_at_call 157; refine hcc.mono ?_; rintro e w1 ⟨rfl, hb1⟩; have M0 := (hb1.cell (p := ⟨w.heap.size + 1, 0, none⟩) lt1).trans L0; have M1 := (hb1.cell (p := ⟨w.heap.size + 1, 1, none⟩) lt1).trans L1; have M2 := (hb1.cell (p := ⟨w.heap.size + 1, 2, none⟩) lt1).trans L2; have M3 := (hb1.cell (p := ⟨w.heap.size + 1, 3, none⟩) lt1).trans L3; have M4 := (hb1.cell (p := ⟨w.heap.size + 1, 4, none⟩) lt1).trans L4; have M5 := (hb1.cell (p := ⟨w.heap.size + 1, 5, none⟩) lt1).trans L5))
        go_ret2
        exact ⟨checked_bad rfl (by rw [HR2.out]; simp), HB0.out.trans (hb1.mono le1)⟩
      · cases z2
        · go_enter Tryz.func203, Tryz.ntmps203
          go_wp2_with (first | (go_at_call 157; refine hcc.mono ?_; rintro e w1 ⟨rfl, hb1⟩; have M0 := (hb1.cell (p := ⟨w.heap.size + 1, 0, none⟩) lt1).trans L0; have M1 := (hb1.cell (p := ⟨w.heap.size + 1, 1, none⟩) lt1).trans L1; have M2 := (hb1.cell (p := ⟨w.heap.size + 1, 2, none⟩) lt1).trans L2; have M3 := (hb1.cell (p := ⟨w.heap.size + 1, 3, none⟩) lt1).trans L3; have M4 := (hb1.cell (p := ⟨w.heap.size + 1, 4, none⟩) lt1).trans L4; have M5 := (hb1.cell (p := ⟨w.heap.size + 1, 5, none⟩) lt1).trans L5) | (go_at_call 229; ((with_reducible refine (h2 _).mono ?_); rintro e w2 ⟨rfl, rfl⟩)))
          go_ret2
          exact ⟨checked_bad rfl (by rw [HR2.out]; simp), HB0.out.trans (hb1.mono le1)⟩
        · cases z3
          · go_enter Tryz.func203, Tryz.ntmps203
            go_wp2_with (first | (go_at_call 157; refine hcc.mono ?_; rintro e w1 ⟨rfl, hb1⟩; have M0 := (hb1.cell (p := ⟨w.heap.size + 1, 0, none⟩) lt1).trans L0; have M1 := (hb1.cell (p := ⟨w.heap.size + 1, 1, none⟩) lt1).trans L1; have M2 := (hb1.cell (p := ⟨w.heap.size + 1, 2, none⟩) lt1).trans L2; have M3 := (hb1.cell (p := ⟨w.heap.size + 1, 3, none⟩) lt1).trans L3; have M4 := (hb1.cell (p := ⟨w.heap.size + 1, 4, none⟩) lt1).trans L4; have M5 := (hb1.cell (p := ⟨w.heap.size + 1, 5, none⟩) lt1).trans L5) | (go_at_call 229; ((with_reducible refine (h2 _).mono ?_); rintro e w2 ⟨rfl, rfl⟩)) | (go_at_call 229; ((with_reducible refine (h3 _).mono ?_); rintro e w3 ⟨rfl, rfl⟩)))
            go_ret2
            exact ⟨checked_bad rfl (by rw [HR2.out]; simp), HB0.out.trans (hb1.mono le1)⟩
          · cases z4
            · go_enter Tryz.func203, Tryz.ntmps203
              go_wp2_with (first | (go_at_call 157; refine hcc.mono ?_; rintro e w1 ⟨rfl, hb1⟩; have M0 := (hb1.cell (p := ⟨w.heap.size + 1, 0, none⟩) lt1).trans L0; have M1 := (hb1.cell (p := ⟨w.heap.size + 1, 1, none⟩) lt1).trans L1; have M2 := (hb1.cell (p := ⟨w.heap.size + 1, 2, none⟩) lt1).trans L2; have M3 := (hb1.cell (p := ⟨w.heap.size + 1, 3, none⟩) lt1).trans L3; have M4 := (hb1.cell (p := ⟨w.heap.size + 1, 4, none⟩) lt1).trans L4; have M5 := (hb1.cell (p := ⟨w.heap.size + 1, 5, none⟩) lt1).trans L5) | (go_at_call 229; ((with_reducible refine (h2 _).mono ?_); rintro e w2 ⟨rfl, rfl⟩)) | (go_at_call 229; ((with_reducible refine (h3 _).mono ?_); rintro e w3 ⟨rfl, rfl⟩)) | (go_at_call 229; ((with_reducible refine (h4 _).mono ?_); rintro e w4 ⟨rfl, rfl⟩)))
              go_ret2
              exact ⟨checked_bad rfl (by rw [HR2.out]; simp), HB0.out.trans (hb1.mono le1)⟩
            · have hJ5 := HJ1.out
              cases hz5 : jumpsB js <;> rw [hz5] at hJ5 HR2 <;> clear hz5
              · go_enter Tryz.func203, Tryz.ntmps203
                go_wp2_with (first | (go_at_call 157; refine hcc.mono ?_; rintro e w1 ⟨rfl, hb1⟩; have M0 := (hb1.cell (p := ⟨w.heap.size + 1, 0, none⟩) lt1).trans L0; have M1 := (hb1.cell (p := ⟨w.heap.size + 1, 1, none⟩) lt1).trans L1; have M2 := (hb1.cell (p := ⟨w.heap.size + 1, 2, none⟩) lt1).trans L2; have M3 := (hb1.cell (p := ⟨w.heap.size + 1, 3, none⟩) lt1).trans L3; have M4 := (hb1.cell (p := ⟨w.heap.size + 1, 4, none⟩) lt1).trans L4; have M5 := (hb1.cell (p := ⟨w.heap.size + 1, 5, none⟩) lt1).trans L5) | (go_at_call 229; ((with_reducible refine (h2 _).mono ?_); rintro e w2 ⟨rfl, rfl⟩)) | (go_at_call 229; ((with_reducible refine (h3 _).mono ?_); rintro e w3 ⟨rfl, rfl⟩)) | (go_at_call 229; ((with_reducible refine (h4 _).mono ?_); rintro e w4 ⟨rfl, rfl⟩)) | (go_at_call 230; refine (hJ5 _ (HB0.out.trans (hb1.mono le1))).mono ?_; rintro e w5 ⟨rfl, rfl⟩))
                go_ret2
                exact ⟨checked_bad rfl (by rw [HR2.out]; simp), HB0.out.trans (hb1.mono le1)⟩
              · have HR3 : Hid (R = linesB ⟨o1, o2, o3⟩ ls) := Lib.hid (by rw [HR2.out]; rfl)
                have HBL1 := HBL
                rcases HL.out.place with ⟨rfl, A0, c0, hv⟩ | ⟨b, ao, c0, hv, h0, hm0, hbb, hcell⟩
                · simp only [List.length_nil] at hW1 L5
                  go_enter Tryz.func203, Tryz.ntmps203
                  go_wp2_with (first | (go_at_call 157; refine hcc.mono ?_; rintro e w1 ⟨rfl, hb1⟩; have M0 := (hb1.cell (p := ⟨w.heap.size + 1, 0, none⟩) lt1).trans L0; have M1 := (hb1.cell (p := ⟨w.heap.size + 1, 1, none⟩) lt1).trans L1; have M2 := (hb1.cell (p := ⟨w.heap.size + 1, 2, none⟩) lt1).trans L2; have M3 := (hb1.cell (p := ⟨w.heap.size + 1, 3, none⟩) lt1).trans L3; have M4 := (hb1.cell (p := ⟨w.heap.size + 1, 4, none⟩) lt1).trans L4; have M5 := (hb1.cell (p := ⟨w.heap.size + 1, 5, none⟩) lt1).trans L5) | (go_at_call 229; ((with_reducible refine (h2 _).mono ?_); rintro e w2 ⟨rfl, rfl⟩)) | (go_at_call 229; ((with_reducible refine (h3 _).mono ?_); rintro e w3 ⟨rfl, rfl⟩)) | (go_at_call 229; ((with_reducible refine (h4 _).mono ?_); rintro e w4 ⟨rfl, rfl⟩)) | (go_at_call 230; refine (hJ5 _ (HB0.out.trans (hb1.mono le1))).mono ?_; rintro e w5 ⟨rfl, rfl⟩))
                  refine wp_loop_rounds 1 ?_
                  rw [rounds_succ]
                  go_wp2
                  go_ret2
                  exact ⟨⟨_, _, rfl, by rw [HR3.out]; rfl⟩, HB0.out.trans (hb1.mono le1)⟩
                · injection hv with hv1 hv2 hv3
                  subst hv1
                  subst hv3
                  clear hv2
                  have HCELL := Lib.hid hcell
                  clear hcell hm0
                  have hbb1 : b < W1.heap.size := Nat.lt_of_lt_of_le hbb HB0.out.size
                  have hL : (ls.length : Int) ≤ 400 := by omega
                  go_enter Tryz.func203, Tryz.ntmps203
                  go_wp2_with (first | (go_at_call 157; refine hcc.mono ?_; rintro e w1 ⟨rfl, hb1⟩; have M0 := (hb1.cell (p := ⟨w.heap.size + 1, 0, none⟩) lt1).trans L0; have M1 := (hb1.cell (p := ⟨w.heap.size + 1, 1, none⟩) lt1).trans L1; have M2 := (hb1.cell (p := ⟨w.heap.size + 1, 2, none⟩) lt1).trans L2; have M3 := (hb1.cell (p := ⟨w.heap.size + 1, 3, none⟩) lt1).trans L3; have M4 := (hb1.cell (p := ⟨w.heap.size + 1, 4, none⟩) lt1).trans L4; have M5 := (hb1.cell (p := ⟨w.heap.size + 1, 5, none⟩) lt1).trans L5) | (go_at_call 229; ((with_reducible refine (h2 _).mono ?_); rintro e w2 ⟨rfl, rfl⟩)) | (go_at_call 229; ((with_reducible refine (h3 _).mono ?_); rintro e w3 ⟨rfl, rfl⟩)) | (go_at_call 229; ((with_reducible refine (h4 _).mono ?_); rintro e w4 ⟨rfl, rfl⟩)) | (go_at_call 230; refine (hJ5 _ (HB0.out.trans (hb1.mono le1))).mono ?_; rintro e w5 ⟨rfl, rfl⟩))
                  have HB1 := Lib.hid hb1
                  clear hb1 M0 M1 M2 M3 M4 M5 hcc
                  go_loopw [49] (fun s49 wr => ∃ k : Nat, k ≤ ls.length ∧ s49 = .int .i64 k ∧ (List.range k).all (lineAt ⟨o1, o2, o3⟩ ls) = true ∧ Below W1.heap.size W1 wr) (fun s49 _ => ls.length - (intOf s49).toNat)
                  case atStart => exact ⟨0, Nat.zero_le _, rfl, rfl, HB1.out⟩
                  case round =>
                    obtain ⟨k, hk, rfl, hall, hbr⟩ := hrel
                    have HA := Lib.hid hall
                    have HBR := Lib.hid hbr
                    have M5 := (hbr.cell (p := ⟨w.heap.size + 1, 5, none⟩) lt1).trans L5
                    have O0 : wr.cell? ⟨w.heap.size, 0, none⟩ = some (.bool o1) := (HBO.out.later hbr).cell 0
                    have O1 : wr.cell? ⟨w.heap.size, 1, none⟩ = some (.bool o2) := (HBO.out.later hbr).cell 1
                    have O2 : wr.cell? ⟨w.heap.size, 2, none⟩ = some (.bool o3) := (HBO.out.later hbr).cell 2
                    have hsz := hbr.size
                    have lt2 : w.heap.size + 1 < wr.heap.size := by omega
                    have lt3 : w.heap.size < wr.heap.size := by omega
                    have lt4 : b < wr.heap.size := by omega
                    clear hall hbr hsz
                    by_cases hlt : k < ls.length
                    · obtain ⟨x, hx⟩ : ∃ x, x = ls[k] := ⟨_, rfl⟩
                      have hgx : ls.getD k Ln0 = x := by rw [hx, List.getD_eq_getElem?_getD, List.getElem?_eq_getElem hlt]; rfl
                      have hxs : x.call.size ≤ 9223372036854775807 := HS.out x (by rw [hx]; exact List.getElem_mem hlt)
                      have hcw : ∀ i u, x.enc[i]? = some u → wr.cell? ⟨b, ao + k * 11 + i, none⟩ = some u := fun i u hu => (HBR.out.cell (p := ⟨b, ao + k * 11 + i, none⟩) hbb1).trans ((HB0.out.cell (p := ⟨b, ao + k * 11 + i, none⟩) hbb).trans (HCELL.out k hlt i u (by rw [← hx]; exact hu)))
                      clear hx
                      obtain ⟨num, khz, mode, minute, call, ⟨r1, s1, k1⟩, ⟨r2, s2, k2⟩⟩ := x
                      have e0 : wr.cell? ⟨b, ao + k * 11, none⟩ = some (.int .i64 num) := hcw 0 _ rfl
                      have e1 : wr.cell? ⟨b, ao + k * 11 + 1, none⟩ = some (.int .i64 khz) := hcw 1 _ rfl
                      have e2 : wr.cell? ⟨b, ao + k * 11 + 2, none⟩ = some (.int .i64 mode) := hcw 2 _ rfl
                      have e3 : wr.cell? ⟨b, ao + k * 11 + 3, none⟩ = some (.int .i64 minute) := hcw 3 _ rfl
                      have e4 : wr.cell? ⟨b, ao + k * 11 + 4, none⟩ = some (.string call) := hcw 4 _ rfl
                      have e5 : wr.cell? ⟨b, ao + k * 11 + 5, none⟩ = some (.int .i64 r1) := hcw 5 _ rfl
                      have e6 : wr.cell? ⟨b, ao + k * 11 + 6, none⟩ = some (.int .i64 s1) := hcw 6 _ rfl
                      have e7 : wr.cell? ⟨b, ao + k * 11 + 7, none⟩ = some (.int .i64 k1) := hcw 7 _ rfl
                      have e8 : wr.cell? ⟨b, ao + k * 11 + 8, none⟩ = some (.int .i64 r2) := hcw 8 _ rfl
                      have e9 : wr.cell? ⟨b, ao + k * 11 + 9, none⟩ = some (.int .i64 s2) := hcw 9 _ rfl
                      have e10 : wr.cell? ⟨b, ao + k * 11 + 10, none⟩ = some (.int .i64 k2) := hcw 10 _ rfl
                      clear hcw
                      have hv := fun W => ValidLine_any ⟨o1, o2, o3⟩ ⟨num, khz, mode, minute, call, ⟨r1, s1, k1⟩, ⟨r2, s2, k2⟩⟩ W hxs
                      obtain ⟨W2, hW2⟩ : ∃ W2, wr.alloc (.cells #[.int .i64 num, .int .i64 khz, .int .i64 mode, .int .i64 minute, .string call, .int .i64 r1, .int .i64 s1, .int .i64 k1, .int .i64 r2, .int .i64 s2, .int .i64 k2] 126) = W2 := ⟨_, rfl⟩
                      have hX : Blk W2 wr.heap.size 126 #[.int .i64 num, .int .i64 khz, .int .i64 mode, .int .i64 minute, .string call, .int .i64 r1, .int .i64 s1, .int .i64 k1, .int .i64 r2, .int .i64 s2, .int .i64 k2] := by rw [← hW2]; exact Blk.new _ _ _
                      have hbW2 : Below wr.heap.size wr W2 := by rw [← hW2]; exact (Below.refl _ wr).alloc (Nat.le_refl _) _
                      have P0 : W2.cell? ⟨w.heap.size, 0, none⟩ = some (.bool o1) := (hbW2.cell (p := ⟨w.heap.size, 0, none⟩) lt3).trans O0
                      have P1 : W2.cell? ⟨w.heap.size, 1, none⟩ = some (.bool o2) := (hbW2.cell (p := ⟨w.heap.size, 1, none⟩) lt3).trans O1
                      have P2 : W2.cell? ⟨w.heap.size, 2, none⟩ = some (.bool o3) := (hbW2.cell (p := ⟨w.heap.size, 2, none⟩) lt3).trans O2
                      have P5 : W2.cell? ⟨w.heap.size + 1, 5, none⟩ = some (.slice (some ⟨b, ao, none⟩) ls.length cl') := (hbW2.cell (p := ⟨w.heap.size + 1, 5, none⟩) lt2).trans M5
                      have X0 : W2.cell? ⟨wr.heap.size, 0, none⟩ = some (.int .i64 num) := hX.cell 0
                      have X1 : W2.cell? ⟨wr.heap.size, 1, none⟩ = some (.int .i64 khz) := hX.cell 1
                      have X2 : W2.cell? ⟨wr.heap.size, 2, none⟩ = some (.int .i64 mode) := hX.cell 2
                      have X3 : W2.cell? ⟨wr.heap.size, 3, none⟩ = some (.int .i64 minute) := hX.cell 3
                      have X4 : W2.cell? ⟨wr.heap.size, 4, none⟩ = some (.string call) := hX.cell 4
                      have X5 : W2.cell? ⟨wr.heap.size, 5, none⟩ = some (.int .i64 r1) := hX.cell 5
                      have X6 : W2.cell? ⟨wr.heap.size, 6, none⟩ = some (.int .i64 s1) := hX.cell 6
                      have X7 : W2.cell? ⟨wr.heap.size, 7, none⟩ = some (.int .i64 k1) := hX.cell 7
                      have X8 : W2.cell? ⟨wr.heap.size, 8, none⟩ = some (.int .i64 r2) := hX.cell 8
                      have X9 : W2.cell? ⟨wr.heap.size, 9, none⟩ = some (.int .i64 s2) := hX.cell 9
                      have X10 : W2.cell? ⟨wr.heap.size, 10, none⟩ = some (.int .i64 k2) := hX.cell 10
                      have ltX : wr.heap.size < W2.heap.size := hX.lt
                      have ltO : w.heap.size < W2.heap.size := by omega
                      have ltM : w.heap.size + 1 < W2.heap.size := by omega
                      have ltb : b < W2.heap.size := by omega
                      have HBW : Hid (Below W1.heap.size W1 W2) := Lib.hid (HBR.out.trans (hbW2.mono HBR.out.size))
                      clear O0 O1 O2 M5 hX
                      cases hz : lineB ⟨o1, o2, o3⟩ ⟨num, khz, mode, minute, call, ⟨r1, s1, k1⟩, ⟨r2, s2, k2⟩⟩ <;> rw [hz] at hv
                      · have hno : lineAt ⟨o1, o2, o3⟩ ls k = false := by unfold lineAt; rw [hgx, hz]; rfl
                        have Hno : Hid (linesB ⟨o1, o2, o3⟩ ls = false) := Lib.hid (by unfold linesB; exact range_all_false hlt hno)
                        clear hno hgx hz
                        go_wp2
                        refine wp_region_held_drew (S := (fun w' => w'.cell? ⟨w.heap.size, 0, none⟩ = some (.bool o1) ∧ w'.cell? ⟨w.heap.size, 1, none⟩ = some (.bool o2) ∧ w'.cell? ⟨w.heap.size, 2, none⟩ = some (.bool o3) ∧ w'.cell? ⟨wr.heap.size, 0, none⟩ = some (.int .i64 num) ∧ w'.cell? ⟨wr.heap.size, 1, none⟩ = some (.int .i64 khz) ∧ w'.cell? ⟨wr.heap.size, 2, none⟩ = some (.int .i64 mode) ∧ w'.cell? ⟨wr.heap.size, 3, none⟩ = some (.int .i64 minute) ∧ w'.cell? ⟨wr.heap.size, 4, none⟩ = some (.string call) ∧ w'.cell? ⟨wr.heap.size, 5, none⟩ = some (.int .i64 r1) ∧ w'.cell? ⟨wr.heap.size, 6, none⟩ = some (.int .i64 s1) ∧ w'.cell? ⟨wr.heap.size, 7, none⟩ = some (.int .i64 k1) ∧ w'.cell? ⟨wr.heap.size, 8, none⟩ = some (.int .i64 r2) ∧ w'.cell? ⟨wr.heap.size, 9, none⟩ = some (.int .i64 s2) ∧ w'.cell? ⟨wr.heap.size, 10, none⟩ = some (.int .i64 k2) ∧ w'.cell? ⟨w.heap.size + 1, 5, none⟩ = some (.slice (some ⟨b, ao, none⟩) ls.length cl'))) (by kernel_rfl) ?hS1 (fun hHeld => ?_)
                        case hS1 => ((try dsimp only); simp [*])
                        refine tk3 (i := 0) ?_; try simp only [Act.put, zq]
                        refine tk3 (i := 1) ?_; try simp only [Act.put, zq]
                        refine wpAnyH_ready (rs := [2]) (by kernel_rfl) (by simp) ?_
                        refine AllReadyH.cons rfl (fun K hK => ?_) AllReadyH.nil
                        go_simp
                        (go_at_call 231; refine (hv _).mono ?_; rintro e w3 ⟨rfl, hb3⟩; have Q0 := (hb3.cell (p := ⟨w.heap.size, 0, none⟩) ltO).trans P0; have Q1 := (hb3.cell (p := ⟨w.heap.size, 1, none⟩) ltO).trans P1; have Q2 := (hb3.cell (p := ⟨w.heap.size, 2, none⟩) ltO).trans P2; have Q5 := (hb3.cell (p := ⟨w.heap.size + 1, 5, none⟩) ltM).trans P5; have Y0 := (hb3.cell (p := ⟨wr.heap.size, 0, none⟩) ltX).trans X0; have Y1 := (hb3.cell (p := ⟨wr.heap.size, 1, none⟩) ltX).trans X1; have Y2 := (hb3.cell (p := ⟨wr.heap.size, 2, none⟩) ltX).trans X2; have Y3 := (hb3.cell (p := ⟨wr.heap.size, 3, none⟩) ltX).trans X3; have Y4 := (hb3.cell (p := ⟨wr.heap.size, 4, none⟩) ltX).trans X4; have Y5 := (hb3.cell (p := ⟨wr.heap.size, 5, none⟩) ltX).trans X5; have Y6 := (hb3.cell (p := ⟨wr.heap.size, 6, none⟩) ltX).trans X6; have Y7 := (hb3.cell (p := ⟨wr.heap.size, 7, none⟩) ltX).trans X7; have Y8 := (hb3.cell (p := ⟨wr.heap.size, 8, none⟩) ltX).trans X8; have Y9 := (hb3.cell (p := ⟨wr.heap.size, 9, none⟩) ltX).trans X9; have Y10 := (hb3.cell (p := ⟨wr.heap.size, 10, none⟩) ltX).trans X10)
                        go_wp2_with fail
                        refine hK.out _ _ ?hS1_3 (fun hHeld => ?_)
                        case hS1_3 => ((try dsimp only); simp [*])
                        clear hK K
                        (try simp only [Act.put, zq])
                        refine tk3 (i := 3) ?_; try simp only [Act.put, zq]
                        refine tk3 (i := 4) ?_; try simp only [Act.put, zq]
                        refine tk2 (i := 5) ?_; try simp only [Act.put, zq]
                        refine tk2 (i := 6) ?_; try simp only [Act.put, zq]
                        refine tk2 (i := 7) ?_; try simp only [Act.put, zq]
                        refine tk2 (i := 8) ?_; try simp only [Act.put, zq]
                        refine tk2 (i := 9) ?_; try simp only [Act.put, zq]
                        refine tk2 (i := 10) ?_; try simp only [Act.put, zq]
                        refine tk2 (i := 11) ?_; try simp only [Act.put, zq]
                        refine tk2 (i := 12) ?_; try simp only [Act.put, zq]
                        refine tk2 (i := 13) ?_; try simp only [Act.put, zq]
                        refine tk2 (i := 14) ?_; try simp only [Act.put, zq]
                        refine tk2 (i := 15) ?_; try simp only [Act.put, zq]
                        refine tk2 (i := 16) ?_; try simp only [Act.put, zq]
                        refine tk2 (i := 17) ?_; try simp only [Act.put, zq]
                        refine tk2 (i := 18) ?_; try simp only [Act.put, zq]
                        refine tk2 (i := 19) ?_; try simp only [Act.put, zq]
                        refine tk2 (i := 20) ?_; try simp only [Act.put, zq]
                        refine tk2 (i := 21) ?_; try simp only [Act.put, zq]
                        refine tk2 (i := 22) ?_; try simp only [Act.put, zq]
                        refine tk2 (i := 23) ?_; try simp only [Act.put, zq]
                        refine tk2 (i := 24) ?_; try simp only [Act.put, zq]
                        refine tk2 (i := 25) ?_; try simp only [Act.put, zq]
                        refine tk2 (i := 26) ?_; try simp only [Act.put, zq]
                        refine tk2 (i := 27) ?_; try simp only [Act.put, zq]
                        refine tk2 (i := 28) ?_; try simp only [Act.put, zq]
                        refine tk2 (i := 29) ?_; try simp only [Act.put, zq]
                        refine tk2 (i := 30) ?_; try simp only [Act.put, zq]
                        refine tk3 (i := 31) ?_; try simp only [Act.put, zq]
                        refine wpAnyH_done (by kernel_rfl) ?_ _
                        go_wp2
                        go_ret2
                        exact ⟨checked_bad rfl (by rw [HR3.out]; exact Hno.out), HB0.out.trans ((HBW.out.drew.trans (hb3.mono HBW.out.size)).mono le1)⟩
                      · cases k with
                        | zero =>
                          have hyes : lineAt ⟨o1, o2, o3⟩ ls 0 = true := by unfold lineAt; rw [hgx, hz]; rfl
                          have Hy : Hid ((List.range (0 + 1)).all (lineAt ⟨o1, o2, o3⟩ ls) = true) := Lib.hid (by rw [range_all_succ, hyes]; rfl)
                          clear hyes hgx hz
                          have e0 : wr.cell? ⟨b, ao, none⟩ = some (.int .i64 num) := by simpa using e0
                          have e1 : wr.cell? ⟨b, ao + 1, none⟩ = some (.int .i64 khz) := by simpa using e1
                          have e2 : wr.cell? ⟨b, ao + 2, none⟩ = some (.int .i64 mode) := by simpa using e2
                          have e3 : wr.cell? ⟨b, ao + 3, none⟩ = some (.int .i64 minute) := by simpa using e3
                          have e4 : wr.cell? ⟨b, ao + 4, none⟩ = some (.string call) := by simpa using e4
                          have e5 : wr.cell? ⟨b, ao + 5, none⟩ = some (.int .i64 r1) := by simpa using e5
                          have e6 : wr.cell? ⟨b, ao + 6, none⟩ = some (.int .i64 s1) := by simpa using e6
                          have e7 : wr.cell? ⟨b, ao + 7, none⟩ = some (.int .i64 k1) := by simpa using e7
                          have e8 : wr.cell? ⟨b, ao + 8, none⟩ = some (.int .i64 r2) := by simpa using e8
                          have e9 : wr.cell? ⟨b, ao + 9, none⟩ = some (.int .i64 s2) := by simpa using e9
                          have e10 : wr.cell? ⟨b, ao + 10, none⟩ = some (.int .i64 k2) := by simpa using e10
                          go_wp2
                          refine wp_region_held_drew (S := (fun w' => w'.cell? ⟨w.heap.size, 0, none⟩ = some (.bool o1) ∧ w'.cell? ⟨w.heap.size, 1, none⟩ = some (.bool o2) ∧ w'.cell? ⟨w.heap.size, 2, none⟩ = some (.bool o3) ∧ w'.cell? ⟨wr.heap.size, 0, none⟩ = some (.int .i64 num) ∧ w'.cell? ⟨wr.heap.size, 1, none⟩ = some (.int .i64 khz) ∧ w'.cell? ⟨wr.heap.size, 2, none⟩ = some (.int .i64 mode) ∧ w'.cell? ⟨wr.heap.size, 3, none⟩ = some (.int .i64 minute) ∧ w'.cell? ⟨wr.heap.size, 4, none⟩ = some (.string call) ∧ w'.cell? ⟨wr.heap.size, 5, none⟩ = some (.int .i64 r1) ∧ w'.cell? ⟨wr.heap.size, 6, none⟩ = some (.int .i64 s1) ∧ w'.cell? ⟨wr.heap.size, 7, none⟩ = some (.int .i64 k1) ∧ w'.cell? ⟨wr.heap.size, 8, none⟩ = some (.int .i64 r2) ∧ w'.cell? ⟨wr.heap.size, 9, none⟩ = some (.int .i64 s2) ∧ w'.cell? ⟨wr.heap.size, 10, none⟩ = some (.int .i64 k2) ∧ w'.cell? ⟨w.heap.size + 1, 5, none⟩ = some (.slice (some ⟨b, ao, none⟩) ls.length cl'))) (by kernel_rfl) ?hS2 (fun hHeld => ?_)
                          case hS2 => ((try dsimp only); simp [*])
                          refine tk3 (i := 0) ?_; try simp only [Act.put, zq]
                          refine tk3 (i := 1) ?_; try simp only [Act.put, zq]
                          refine wpAnyH_ready (rs := [2]) (by kernel_rfl) (by simp) ?_
                          refine AllReadyH.cons rfl (fun K hK => ?_) AllReadyH.nil
                          go_simp
                          (go_at_call 231; refine (hv _).mono ?_; rintro e w3 ⟨rfl, hb3⟩; have Q0 := (hb3.cell (p := ⟨w.heap.size, 0, none⟩) ltO).trans P0; have Q1 := (hb3.cell (p := ⟨w.heap.size, 1, none⟩) ltO).trans P1; have Q2 := (hb3.cell (p := ⟨w.heap.size, 2, none⟩) ltO).trans P2; have Q5 := (hb3.cell (p := ⟨w.heap.size + 1, 5, none⟩) ltM).trans P5; have Y0 := (hb3.cell (p := ⟨wr.heap.size, 0, none⟩) ltX).trans X0; have Y1 := (hb3.cell (p := ⟨wr.heap.size, 1, none⟩) ltX).trans X1; have Y2 := (hb3.cell (p := ⟨wr.heap.size, 2, none⟩) ltX).trans X2; have Y3 := (hb3.cell (p := ⟨wr.heap.size, 3, none⟩) ltX).trans X3; have Y4 := (hb3.cell (p := ⟨wr.heap.size, 4, none⟩) ltX).trans X4; have Y5 := (hb3.cell (p := ⟨wr.heap.size, 5, none⟩) ltX).trans X5; have Y6 := (hb3.cell (p := ⟨wr.heap.size, 6, none⟩) ltX).trans X6; have Y7 := (hb3.cell (p := ⟨wr.heap.size, 7, none⟩) ltX).trans X7; have Y8 := (hb3.cell (p := ⟨wr.heap.size, 8, none⟩) ltX).trans X8; have Y9 := (hb3.cell (p := ⟨wr.heap.size, 9, none⟩) ltX).trans X9; have Y10 := (hb3.cell (p := ⟨wr.heap.size, 10, none⟩) ltX).trans X10)
                          go_wp2_with fail
                          refine hK.out _ _ ?hS2_3 (fun hHeld => ?_)
                          case hS2_3 => ((try dsimp only); simp [*])
                          clear hK K
                          (try simp only [Act.put, zq])
                          refine tk3 (i := 3) ?_; try simp only [Act.put, zq]
                          refine tk3 (i := 4) ?_; try simp only [Act.put, zq]
                          refine tk3 (i := 5) ?_; try simp only [Act.put, zq]
                          refine tk3 (i := 6) ?_; try simp only [Act.put, zq]
                          refine tk3 (i := 7) ?_; try simp only [Act.put, zq]
                          refine tk2 (i := 8) ?_; try simp only [Act.put, zq]
                          refine tk2 (i := 9) ?_; try simp only [Act.put, zq]
                          refine tk2 (i := 10) ?_; try simp only [Act.put, zq]
                          refine tk2 (i := 11) ?_; try simp only [Act.put, zq]
                          refine tk2 (i := 12) ?_; try simp only [Act.put, zq]
                          refine tk2 (i := 13) ?_; try simp only [Act.put, zq]
                          refine tk2 (i := 14) ?_; try simp only [Act.put, zq]
                          refine tk2 (i := 15) ?_; try simp only [Act.put, zq]
                          refine tk2 (i := 16) ?_; try simp only [Act.put, zq]
                          refine tk2 (i := 17) ?_; try simp only [Act.put, zq]
                          refine tk2 (i := 18) ?_; try simp only [Act.put, zq]
                          refine tk2 (i := 19) ?_; try simp only [Act.put, zq]
                          refine tk2 (i := 20) ?_; try simp only [Act.put, zq]
                          refine tk2 (i := 21) ?_; try simp only [Act.put, zq]
                          refine tk2 (i := 22) ?_; try simp only [Act.put, zq]
                          refine tk2 (i := 23) ?_; try simp only [Act.put, zq]
                          refine tk2 (i := 24) ?_; try simp only [Act.put, zq]
                          refine tk2 (i := 25) ?_; try simp only [Act.put, zq]
                          refine tk2 (i := 26) ?_; try simp only [Act.put, zq]
                          refine tk2 (i := 27) ?_; try simp only [Act.put, zq]
                          refine tk2 (i := 28) ?_; try simp only [Act.put, zq]
                          refine tk2 (i := 29) ?_; try simp only [Act.put, zq]
                          refine tk3 (i := 30) ?_; try simp only [Act.put, zq]
                          refine tk3 (i := 31) ?_; try simp only [Act.put, zq]
                          refine wpAnyH_done (by kernel_rfl) ?_ _
                          go_wp2
                          go_roundw
                          case rel => exact ⟨0 + 1, by omega, by go_num, Hy.out, HBW.out.drew.trans (hb3.mono HBW.out.size)⟩
                          case measure => simp [intOf]; omega
                        | succ k =>
                          obtain ⟨y, hy⟩ : ∃ y, y = ls[k] := ⟨_, rfl⟩
                          have hgy : ls.getD k Ln0 = y := by rw [hy, List.getD_eq_getElem?_getD, List.getElem?_eq_getElem (by omega)]; rfl
                          have hcy : ∀ i u, y.enc[i]? = some u → W2.cell? ⟨b, ao + k * 11 + i, none⟩ = some u := fun i u hu => (HBW.out.cell (p := ⟨b, ao + k * 11 + i, none⟩) hbb1).trans ((HB0.out.cell (p := ⟨b, ao + k * 11 + i, none⟩) hbb).trans (HCELL.out k (by omega) i u (by rw [← hy]; exact hu)))
                          clear hy
                          obtain ⟨pnum, pk, pm, pmin, pc, ps, pg⟩ := y
                          have q0 : W2.cell? ⟨b, ao + k * 11, none⟩ = some (.int .i64 pnum) := hcy 0 _ rfl
                          have q3 : W2.cell? ⟨b, ao + k * 11 + 3, none⟩ = some (.int .i64 pmin) := hcy 3 _ rfl
                          clear hcy
                          by_cases hn : num ≤ pnum
                          · have hno : lineAt ⟨o1, o2, o3⟩ ls (k + 1) = false := by unfold lineAt; rw [Nat.add_sub_cancel, hgx, hgy, hz]; simp; omega
                            have Hno : Hid (linesB ⟨o1, o2, o3⟩ ls = false) := Lib.hid (by unfold linesB; exact range_all_false hlt hno)
                            clear hno hgx hz hgy
                            go_wp2
                            have g1 : (0 : Int) ≤ (k : Int) := by omega
                            have g5 : decide ((0 : Int) < (k : Int) + 1) = true := decide_eq_true (by omega)
                            have g6 : decide (num ≤ pnum) = true := decide_eq_true hn
                            have g2 : (k : Int) < ls.length := by omega
                            have g3 : IntKind.i64.wrap (k : Int) = k := IntWalk.i64_in _ (by omega)
                            refine wp_region_held_drew (S := (fun w' => w'.cell? ⟨w.heap.size, 0, none⟩ = some (.bool o1) ∧ w'.cell? ⟨w.heap.size, 1, none⟩ = some (.bool o2) ∧ w'.cell? ⟨w.heap.size, 2, none⟩ = some (.bool o3) ∧ w'.cell? ⟨wr.heap.size, 0, none⟩ = some (.int .i64 num) ∧ w'.cell? ⟨wr.heap.size, 1, none⟩ = some (.int .i64 khz) ∧ w'.cell? ⟨wr.heap.size, 2, none⟩ = some (.int .i64 mode) ∧ w'.cell? ⟨wr.heap.size, 3, none⟩ = some (.int .i64 minute) ∧ w'.cell? ⟨wr.heap.size, 4, none⟩ = some (.string call) ∧ w'.cell? ⟨wr.heap.size, 5, none⟩ = some (.int .i64 r1) ∧ w'.cell? ⟨wr.heap.size, 6, none⟩ = some (.int .i64 s1) ∧ w'.cell? ⟨wr.heap.size, 7, none⟩ = some (.int .i64 k1) ∧ w'.cell? ⟨wr.heap.size, 8, none⟩ = some (.int .i64 r2) ∧ w'.cell? ⟨wr.heap.size, 9, none⟩ = some (.int .i64 s2) ∧ w'.cell? ⟨wr.heap.size, 10, none⟩ = some (.int .i64 k2) ∧ w'.cell? ⟨w.heap.size + 1, 5, none⟩ = some (.slice (some ⟨b, ao, none⟩) ls.length cl') ∧ w'.cell? ⟨b, ao + k * 11, none⟩ = some (.int .i64 pnum) ∧ w'.cell? ⟨b, ao + k * 11 + 3, none⟩ = some (.int .i64 pmin))) (by kernel_rfl) ?hS3 (fun hHeld => ?_)
                            case hS3 => ((try dsimp only); simp [*])
                            refine tk3 (i := 0) ?_; try simp only [Act.put, zq]
                            refine tk3 (i := 1) ?_; try simp only [Act.put, zq]
                            refine wpAnyH_ready (rs := [2]) (by kernel_rfl) (by simp) ?_
                            refine AllReadyH.cons rfl (fun K hK => ?_) AllReadyH.nil
                            go_simp
                            (go_at_call 231; refine (hv _).mono ?_; rintro e w3 ⟨rfl, hb3⟩; have Q0 := (hb3.cell (p := ⟨w.heap.size, 0, none⟩) ltO).trans P0; have Q1 := (hb3.cell (p := ⟨w.heap.size, 1, none⟩) ltO).trans P1; have Q2 := (hb3.cell (p := ⟨w.heap.size, 2, none⟩) ltO).trans P2; have Q5 := (hb3.cell (p := ⟨w.heap.size + 1, 5, none⟩) ltM).trans P5; have Y0 := (hb3.cell (p := ⟨wr.heap.size, 0, none⟩) ltX).trans X0; have Y1 := (hb3.cell (p := ⟨wr.heap.size, 1, none⟩) ltX).trans X1; have Y2 := (hb3.cell (p := ⟨wr.heap.size, 2, none⟩) ltX).trans X2; have Y3 := (hb3.cell (p := ⟨wr.heap.size, 3, none⟩) ltX).trans X3; have Y4 := (hb3.cell (p := ⟨wr.heap.size, 4, none⟩) ltX).trans X4; have Y5 := (hb3.cell (p := ⟨wr.heap.size, 5, none⟩) ltX).trans X5; have Y6 := (hb3.cell (p := ⟨wr.heap.size, 6, none⟩) ltX).trans X6; have Y7 := (hb3.cell (p := ⟨wr.heap.size, 7, none⟩) ltX).trans X7; have Y8 := (hb3.cell (p := ⟨wr.heap.size, 8, none⟩) ltX).trans X8; have Y9 := (hb3.cell (p := ⟨wr.heap.size, 9, none⟩) ltX).trans X9; have Y10 := (hb3.cell (p := ⟨wr.heap.size, 10, none⟩) ltX).trans X10; have t0 := (hb3.cell (p := ⟨b, ao + k * 11, none⟩) ltb).trans q0; have t3 := (hb3.cell (p := ⟨b, ao + k * 11 + 3, none⟩) ltb).trans q3)
                            go_wp2_with fail
                            refine hK.out _ _ ?hS3_3 (fun hHeld => ?_)
                            case hS3_3 => ((try dsimp only); simp [*])
                            clear hK K
                            (try simp only [Act.put, zq])
                            refine tk3 (i := 3) ?_; try simp only [Act.put, zq]
                            refine tk3 (i := 4) ?_; try simp only [Act.put, zq]
                            refine tk3 (i := 5) ?_; try simp only [Act.put, zq]
                            refine tk3 (i := 6) ?_; try simp only [Act.put, zq]
                            refine tk3 (i := 7) ?_; try simp only [Act.put, zq]
                            refine tk3 (i := 8) ?_; try simp only [Act.put, zq]
                            refine tk3 (i := 9) ?_; try simp only [Act.put, zq]
                            refine tk3 (i := 10) ?_; try simp only [Act.put, zq]
                            refine tk3 (i := 11) ?_; try simp only [Act.put, zq]
                            refine tk3 (i := 12) ?_; try simp only [Act.put, zq]
                            refine tk3 (i := 13) ?_; try simp only [Act.put, zq]
                            refine tk3 (i := 14) ?_; try simp only [Act.put, zq]
                            refine tk3 (i := 15) ?_; try simp only [Act.put, zq]
                            refine tk3 (i := 16) ?_; try simp only [Act.put, zq]
                            refine tk3 (i := 17) ?_; try simp only [Act.put, zq]
                            refine tk3 (i := 18) ?_; try simp only [Act.put, zq]
                            refine tk2 (i := 19) ?_; try simp only [Act.put, zq]
                            refine tk2 (i := 20) ?_; try simp only [Act.put, zq]
                            refine tk2 (i := 21) ?_; try simp only [Act.put, zq]
                            refine tk2 (i := 22) ?_; try simp only [Act.put, zq]
                            refine tk2 (i := 23) ?_; try simp only [Act.put, zq]
                            refine tk2 (i := 24) ?_; try simp only [Act.put, zq]
                            refine tk2 (i := 25) ?_; try simp only [Act.put, zq]
                            refine tk2 (i := 26) ?_; try simp only [Act.put, zq]
                            refine tk2 (i := 27) ?_; try simp only [Act.put, zq]
                            refine tk2 (i := 28) ?_; try simp only [Act.put, zq]
                            refine tk3 (i := 29) ?_; try simp only [Act.put, zq]
                            refine tk3 (i := 30) ?_; try simp only [Act.put, zq]
                            refine tk3 (i := 31) ?_; try simp only [Act.put, zq]
                            refine wpAnyH_done (by kernel_rfl) ?_ _
                            clear g3 g5 g6
                            go_wp2
                            go_ret2
                            exact ⟨checked_bad rfl (by rw [HR3.out]; exact Hno.out), HB0.out.trans ((HBW.out.drew.trans (hb3.mono HBW.out.size)).mono le1)⟩
                          · by_cases hmn : minute < pmin
                            · have hno : lineAt ⟨o1, o2, o3⟩ ls (k + 1) = false := by unfold lineAt; rw [Nat.add_sub_cancel, hgx, hgy, hz]; simp; omega
                              have Hno : Hid (linesB ⟨o1, o2, o3⟩ ls = false) := Lib.hid (by unfold linesB; exact range_all_false hlt hno)
                              clear hno hgx hz hgy
                              go_wp2
                              have g1 : (0 : Int) ≤ (k : Int) := by omega
                              have g5 : decide ((0 : Int) < (k : Int) + 1) = true := decide_eq_true (by omega)
                              have g6 : decide (num ≤ pnum) = false := decide_eq_false (by omega)
                              have g2 : (k : Int) < ls.length := by omega
                              have g3 : IntKind.i64.wrap (k : Int) = k := IntWalk.i64_in _ (by omega)
                              refine wp_region_held_drew (S := (fun w' => w'.cell? ⟨w.heap.size, 0, none⟩ = some (.bool o1) ∧ w'.cell? ⟨w.heap.size, 1, none⟩ = some (.bool o2) ∧ w'.cell? ⟨w.heap.size, 2, none⟩ = some (.bool o3) ∧ w'.cell? ⟨wr.heap.size, 0, none⟩ = some (.int .i64 num) ∧ w'.cell? ⟨wr.heap.size, 1, none⟩ = some (.int .i64 khz) ∧ w'.cell? ⟨wr.heap.size, 2, none⟩ = some (.int .i64 mode) ∧ w'.cell? ⟨wr.heap.size, 3, none⟩ = some (.int .i64 minute) ∧ w'.cell? ⟨wr.heap.size, 4, none⟩ = some (.string call) ∧ w'.cell? ⟨wr.heap.size, 5, none⟩ = some (.int .i64 r1) ∧ w'.cell? ⟨wr.heap.size, 6, none⟩ = some (.int .i64 s1) ∧ w'.cell? ⟨wr.heap.size, 7, none⟩ = some (.int .i64 k1) ∧ w'.cell? ⟨wr.heap.size, 8, none⟩ = some (.int .i64 r2) ∧ w'.cell? ⟨wr.heap.size, 9, none⟩ = some (.int .i64 s2) ∧ w'.cell? ⟨wr.heap.size, 10, none⟩ = some (.int .i64 k2) ∧ w'.cell? ⟨w.heap.size + 1, 5, none⟩ = some (.slice (some ⟨b, ao, none⟩) ls.length cl') ∧ w'.cell? ⟨b, ao + k * 11, none⟩ = some (.int .i64 pnum) ∧ w'.cell? ⟨b, ao + k * 11 + 3, none⟩ = some (.int .i64 pmin))) (by kernel_rfl) ?hS4 (fun hHeld => ?_)
                              case hS4 => ((try dsimp only); simp [*])
                              refine tk3 (i := 0) ?_; try simp only [Act.put, zq]
                              refine tk3 (i := 1) ?_; try simp only [Act.put, zq]
                              refine wpAnyH_ready (rs := [2]) (by kernel_rfl) (by simp) ?_
                              refine AllReadyH.cons rfl (fun K hK => ?_) AllReadyH.nil
                              go_simp
                              (go_at_call 231; refine (hv _).mono ?_; rintro e w3 ⟨rfl, hb3⟩; have Q0 := (hb3.cell (p := ⟨w.heap.size, 0, none⟩) ltO).trans P0; have Q1 := (hb3.cell (p := ⟨w.heap.size, 1, none⟩) ltO).trans P1; have Q2 := (hb3.cell (p := ⟨w.heap.size, 2, none⟩) ltO).trans P2; have Q5 := (hb3.cell (p := ⟨w.heap.size + 1, 5, none⟩) ltM).trans P5; have Y0 := (hb3.cell (p := ⟨wr.heap.size, 0, none⟩) ltX).trans X0; have Y1 := (hb3.cell (p := ⟨wr.heap.size, 1, none⟩) ltX).trans X1; have Y2 := (hb3.cell (p := ⟨wr.heap.size, 2, none⟩) ltX).trans X2; have Y3 := (hb3.cell (p := ⟨wr.heap.size, 3, none⟩) ltX).trans X3; have Y4 := (hb3.cell (p := ⟨wr.heap.size, 4, none⟩) ltX).trans X4; have Y5 := (hb3.cell (p := ⟨wr.heap.size, 5, none⟩) ltX).trans X5; have Y6 := (hb3.cell (p := ⟨wr.heap.size, 6, none⟩) ltX).trans X6; have Y7 := (hb3.cell (p := ⟨wr.heap.size, 7, none⟩) ltX).trans X7; have Y8 := (hb3.cell (p := ⟨wr.heap.size, 8, none⟩) ltX).trans X8; have Y9 := (hb3.cell (p := ⟨wr.heap.size, 9, none⟩) ltX).trans X9; have Y10 := (hb3.cell (p := ⟨wr.heap.size, 10, none⟩) ltX).trans X10; have t0 := (hb3.cell (p := ⟨b, ao + k * 11, none⟩) ltb).trans q0; have t3 := (hb3.cell (p := ⟨b, ao + k * 11 + 3, none⟩) ltb).trans q3)
                              go_wp2_with fail
                              refine hK.out _ _ ?hS4_3 (fun hHeld => ?_)
                              case hS4_3 => ((try dsimp only); simp [*])
                              clear hK K
                              (try simp only [Act.put, zq])
                              refine tk3 (i := 3) ?_; try simp only [Act.put, zq]
                              refine tk3 (i := 4) ?_; try simp only [Act.put, zq]
                              refine tk3 (i := 5) ?_; try simp only [Act.put, zq]
                              refine tk3 (i := 6) ?_; try simp only [Act.put, zq]
                              refine tk3 (i := 7) ?_; try simp only [Act.put, zq]
                              refine tk3 (i := 8) ?_; try simp only [Act.put, zq]
                              refine tk3 (i := 9) ?_; try simp only [Act.put, zq]
                              refine tk3 (i := 10) ?_; try simp only [Act.put, zq]
                              refine tk3 (i := 11) ?_; try simp only [Act.put, zq]
                              refine tk3 (i := 12) ?_; try simp only [Act.put, zq]
                              refine tk3 (i := 13) ?_; try simp only [Act.put, zq]
                              refine tk3 (i := 14) ?_; try simp only [Act.put, zq]
                              refine tk3 (i := 15) ?_; try simp only [Act.put, zq]
                              refine tk3 (i := 16) ?_; try simp only [Act.put, zq]
                              refine tk3 (i := 17) ?_; try simp only [Act.put, zq]
                              refine tk3 (i := 18) ?_; try simp only [Act.put, zq]
                              refine tk3 (i := 19) ?_; try simp only [Act.put, zq]
                              refine tk3 (i := 20) ?_; try simp only [Act.put, zq]
                              refine tk3 (i := 21) ?_; try simp only [Act.put, zq]
                              refine tk3 (i := 22) ?_; try simp only [Act.put, zq]
                              refine tk3 (i := 23) ?_; try simp only [Act.put, zq]
                              refine tk3 (i := 24) ?_; try simp only [Act.put, zq]
                              refine tk3 (i := 25) ?_; try simp only [Act.put, zq]
                              refine tk3 (i := 26) ?_; try simp only [Act.put, zq]
                              refine tk3 (i := 27) ?_; try simp only [Act.put, zq]
                              refine tk3 (i := 28) ?_; try simp only [Act.put, zq]
                              refine tk3 (i := 29) ?_; try simp only [Act.put, zq]
                              refine tk3 (i := 30) ?_; try simp only [Act.put, zq]
                              refine tk3 (i := 31) ?_; try simp only [Act.put, zq]
                              refine wpAnyH_done (by kernel_rfl) ?_ _
                              clear g3 g5 g6
                              go_wp2
                              go_ret2
                              exact ⟨checked_bad rfl (by rw [HR3.out]; exact Hno.out), HB0.out.trans ((HBW.out.drew.trans (hb3.mono HBW.out.size)).mono le1)⟩
                            · have hyes : lineAt ⟨o1, o2, o3⟩ ls (k + 1) = true := by unfold lineAt; rw [Nat.add_sub_cancel, hgx, hgy, hz]; simp; omega
                              have Hy : Hid ((List.range (k + 1 + 1)).all (lineAt ⟨o1, o2, o3⟩ ls) = true) := Lib.hid (by rw [range_all_succ, hyes, HA.out]; rfl)
                              clear hyes hgx hz hgy
                              go_wp2
                              have g1 : (0 : Int) ≤ (k : Int) := by omega
                              have g5 : decide ((0 : Int) < (k : Int) + 1) = true := decide_eq_true (by omega)
                              have g6 : decide (num ≤ pnum) = false := decide_eq_false (by omega)
                              have g2 : (k : Int) < ls.length := by omega
                              have g3 : IntKind.i64.wrap (k : Int) = k := IntWalk.i64_in _ (by omega)
                              refine wp_region_held_drew (S := (fun w' => w'.cell? ⟨w.heap.size, 0, none⟩ = some (.bool o1) ∧ w'.cell? ⟨w.heap.size, 1, none⟩ = some (.bool o2) ∧ w'.cell? ⟨w.heap.size, 2, none⟩ = some (.bool o3) ∧ w'.cell? ⟨wr.heap.size, 0, none⟩ = some (.int .i64 num) ∧ w'.cell? ⟨wr.heap.size, 1, none⟩ = some (.int .i64 khz) ∧ w'.cell? ⟨wr.heap.size, 2, none⟩ = some (.int .i64 mode) ∧ w'.cell? ⟨wr.heap.size, 3, none⟩ = some (.int .i64 minute) ∧ w'.cell? ⟨wr.heap.size, 4, none⟩ = some (.string call) ∧ w'.cell? ⟨wr.heap.size, 5, none⟩ = some (.int .i64 r1) ∧ w'.cell? ⟨wr.heap.size, 6, none⟩ = some (.int .i64 s1) ∧ w'.cell? ⟨wr.heap.size, 7, none⟩ = some (.int .i64 k1) ∧ w'.cell? ⟨wr.heap.size, 8, none⟩ = some (.int .i64 r2) ∧ w'.cell? ⟨wr.heap.size, 9, none⟩ = some (.int .i64 s2) ∧ w'.cell? ⟨wr.heap.size, 10, none⟩ = some (.int .i64 k2) ∧ w'.cell? ⟨w.heap.size + 1, 5, none⟩ = some (.slice (some ⟨b, ao, none⟩) ls.length cl') ∧ w'.cell? ⟨b, ao + k * 11, none⟩ = some (.int .i64 pnum) ∧ w'.cell? ⟨b, ao + k * 11 + 3, none⟩ = some (.int .i64 pmin))) (by kernel_rfl) ?hS5 (fun hHeld => ?_)
                              case hS5 => ((try dsimp only); simp [*])
                              refine tk3 (i := 0) ?_; try simp only [Act.put, zq]
                              refine tk3 (i := 1) ?_; try simp only [Act.put, zq]
                              refine wpAnyH_ready (rs := [2]) (by kernel_rfl) (by simp) ?_
                              refine AllReadyH.cons rfl (fun K hK => ?_) AllReadyH.nil
                              go_simp
                              (go_at_call 231; refine (hv _).mono ?_; rintro e w3 ⟨rfl, hb3⟩; have Q0 := (hb3.cell (p := ⟨w.heap.size, 0, none⟩) ltO).trans P0; have Q1 := (hb3.cell (p := ⟨w.heap.size, 1, none⟩) ltO).trans P1; have Q2 := (hb3.cell (p := ⟨w.heap.size, 2, none⟩) ltO).trans P2; have Q5 := (hb3.cell (p := ⟨w.heap.size + 1, 5, none⟩) ltM).trans P5; have Y0 := (hb3.cell (p := ⟨wr.heap.size, 0, none⟩) ltX).trans X0; have Y1 := (hb3.cell (p := ⟨wr.heap.size, 1, none⟩) ltX).trans X1; have Y2 := (hb3.cell (p := ⟨wr.heap.size, 2, none⟩) ltX).trans X2; have Y3 := (hb3.cell (p := ⟨wr.heap.size, 3, none⟩) ltX).trans X3; have Y4 := (hb3.cell (p := ⟨wr.heap.size, 4, none⟩) ltX).trans X4; have Y5 := (hb3.cell (p := ⟨wr.heap.size, 5, none⟩) ltX).trans X5; have Y6 := (hb3.cell (p := ⟨wr.heap.size, 6, none⟩) ltX).trans X6; have Y7 := (hb3.cell (p := ⟨wr.heap.size, 7, none⟩) ltX).trans X7; have Y8 := (hb3.cell (p := ⟨wr.heap.size, 8, none⟩) ltX).trans X8; have Y9 := (hb3.cell (p := ⟨wr.heap.size, 9, none⟩) ltX).trans X9; have Y10 := (hb3.cell (p := ⟨wr.heap.size, 10, none⟩) ltX).trans X10; have t0 := (hb3.cell (p := ⟨b, ao + k * 11, none⟩) ltb).trans q0; have t3 := (hb3.cell (p := ⟨b, ao + k * 11 + 3, none⟩) ltb).trans q3)
                              go_wp2_with fail
                              refine hK.out _ _ ?hS5_3 (fun hHeld => ?_)
                              case hS5_3 => ((try dsimp only); simp [*])
                              clear hK K
                              (try simp only [Act.put, zq])
                              refine tk3 (i := 3) ?_; try simp only [Act.put, zq]
                              refine tk3 (i := 4) ?_; try simp only [Act.put, zq]
                              refine tk3 (i := 5) ?_; try simp only [Act.put, zq]
                              refine tk3 (i := 6) ?_; try simp only [Act.put, zq]
                              refine tk3 (i := 7) ?_; try simp only [Act.put, zq]
                              refine tk3 (i := 8) ?_; try simp only [Act.put, zq]
                              refine tk3 (i := 9) ?_; try simp only [Act.put, zq]
                              refine tk3 (i := 10) ?_; try simp only [Act.put, zq]
                              refine tk3 (i := 11) ?_; try simp only [Act.put, zq]
                              refine tk3 (i := 12) ?_; try simp only [Act.put, zq]
                              refine tk3 (i := 13) ?_; try simp only [Act.put, zq]
                              refine tk3 (i := 14) ?_; try simp only [Act.put, zq]
                              refine tk3 (i := 15) ?_; try simp only [Act.put, zq]
                              refine tk3 (i := 16) ?_; try simp only [Act.put, zq]
                              refine tk3 (i := 17) ?_; try simp only [Act.put, zq]
                              refine tk3 (i := 18) ?_; try simp only [Act.put, zq]
                              refine tk3 (i := 19) ?_; try simp only [Act.put, zq]
                              refine tk3 (i := 20) ?_; try simp only [Act.put, zq]
                              refine tk3 (i := 21) ?_; try simp only [Act.put, zq]
                              refine tk3 (i := 22) ?_; try simp only [Act.put, zq]
                              refine tk3 (i := 23) ?_; try simp only [Act.put, zq]
                              refine tk3 (i := 24) ?_; try simp only [Act.put, zq]
                              refine tk3 (i := 25) ?_; try simp only [Act.put, zq]
                              refine tk3 (i := 26) ?_; try simp only [Act.put, zq]
                              refine tk3 (i := 27) ?_; try simp only [Act.put, zq]
                              refine tk3 (i := 28) ?_; try simp only [Act.put, zq]
                              refine tk3 (i := 29) ?_; try simp only [Act.put, zq]
                              refine tk3 (i := 30) ?_; try simp only [Act.put, zq]
                              refine tk3 (i := 31) ?_; try simp only [Act.put, zq]
                              refine wpAnyH_done (by kernel_rfl) ?_ _
                              clear g3 g5 g6
                              go_wp2
                              go_roundw
                              case rel => exact ⟨k + 1 + 1, by omega, by go_num, Hy.out, HBW.out.drew.trans (hb3.mono HBW.out.size)⟩
                              case measure => simp [intOf]; omega
                    · have hks : k = ls.length := by omega
                      have Hd : Hid (linesB ⟨o1, o2, o3⟩ ls = true) := Lib.hid (by unfold linesB; rw [← hks]; exact HA.out)
                      clear hks
                      go_wp2
                      go_ret2
                      exact ⟨⟨_, _, rfl, by rw [HR3.out, Hd.out]; rfl⟩, HB0.out.trans (HBR.out.mono le1)⟩
    · have gj : ¬ (16 : Int) < js.length := by omega
      have gl : (400 : Int) < ls.length := by omega
      clear hcc
      go_enter Tryz.func203, Tryz.ntmps203
      go_wp2
      go_ret2
      exact ⟨checked_bad rfl (by rw [HR.out, decide_eq_false hl400]; simp), HB0.out⟩
  · have gj : (16 : Int) < js.length := by omega
    clear hcc
    go_enter Tryz.func203, Tryz.ntmps203
    go_wp2
    go_ret2
    exact ⟨checked_bad rfl (by rw [HR.out, decide_eq_false hj16]; simp), HB0.out⟩
end Go.Proofs.YtlamogpdkmbeoaaGreatDoor
