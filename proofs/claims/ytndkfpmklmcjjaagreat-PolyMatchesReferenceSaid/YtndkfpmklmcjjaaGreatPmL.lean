/- The law PolyMatchesReference, walked. -/
import Derived.Test.YtndkfpmklmcjjaaGreatRhA
import Derived.Test.YtndkfpmklmcjjaaGreatRhE
import Derived.Test.YtndkfpmklmcjjaaGreatRkG
import Derived.Test.YtndkfpmklmcjjaaGreatRfD
import Derived.Test.YtndkfpmklmcjjaaGreatPoz
import Derived.Test.YtndkfpmklmcjjaaGreatPon
set_option linter.unusedSimpArgs false
set_option linter.unusedVariables false
set_option maxHeartbeats 32000000
set_option maxRecDepth 100000
namespace Go.Proofs.YtndkfpmklmcjjaaGreat
open Go.RowKit Go.Sort
attribute [local go_sem] Steady steadyUpon
attribute [local go_sem ↓] hs_dr lt_add_r lt_add_r2 lt_add_r3 lt_add_r4 lt_add_r5 lt_add_r6
attribute [local go_sem] cell?_gd frozen?_gd setCell_gd size_grow tape_grow cell?_grow' frozen?_grow' setCell_grow' grow_grow grow_dr grow_drew dr_dr dr_drew drew_dr dr_alloc dr_setCell dr_cell dr_frozen dr_tape dr_drawn
attribute [local irreducible] wpSteady
/-- A block that holds a box. -/
def BB (W : World) (b : Nat) (x : B4) : Prop := W.heap[b]? = some (.cells #[.int .i64 x.1.1, .int .i64 x.1.2, .int .i64 x.2.1, .int .i64 x.2.2] 28 (0, 0))
theorem BB.up {W W' : World} {b : Nat} {x : B4} (h : BB W b x) (g : Grew W W') : BB W' b x := (g.heap (blk_lt h)).trans h
theorem BB.c0 {W : World} {b : Nat} {x : B4} (h : BB W b x) : W.cell? ⟨b, 0, none⟩ = some (.int .i64 x.1.1) := blk_cell h 0
theorem BB.c1 {W : World} {b : Nat} {x : B4} (h : BB W b x) : W.cell? ⟨b, 1, none⟩ = some (.int .i64 x.1.2) := blk_cell h 1
theorem BB.c2 {W : World} {b : Nat} {x : B4} (h : BB W b x) : W.cell? ⟨b, 2, none⟩ = some (.int .i64 x.2.1) := blk_cell h 2
theorem BB.c3 {W : World} {b : Nat} {x : B4} (h : BB W b x) : W.cell? ⟨b, 3, none⟩ = some (.int .i64 x.2.2) := blk_cell h 3
theorem BB.lt {W : World} {b : Nat} {x : B4} (h : BB W b x) : b < W.heap.size := blk_lt h
theorem hull_le (ps : List Pt) : (hullOf ps).1.length ≤ 24 := by
 unfold hullOf
 split
 ·split
  ·simp
  ·split
   ·simp
   ·dsimp only; omega
 ·simp
theorem rect_le (b : B4) : (rectOf b).1.length ≤ 24 := by
 unfold rectOf
 split
 ·split <;> simp [rectC]
 ·simp
theorem polyMatches_row (ps : List Pt) (A : Option Addr) (c : Nat) (qs : List Pt) (B : Option Addr) (d : Nat) (p1 p2 : Int) (r : Int) (ls : List Pt) (Al : Option Addr) (cl : Nat) (bx : B4) (w : World)
  (hr : Rd w w.heap.size 2 A (ps.map encD)) (hc : ps.length ≤ 100000000000000) (hq : Rd w w.heap.size 2 B (qs.map encD)) (hd : qs.length ≤ 100000000000000) (hl : Rd w w.heap.size 2 Al (ls.map encD)) (hcl : ls.length ≤ 100000000000000) :
  Calls Tryz.prog 3 #[.slice A ps.length c, .slice B qs.length d, pt p1 p2, .int .i64 r, .slice Al ls.length cl, bxv bx] w (Ret w (.bool true)) := by
 have hm := hmix
 obtain ⟨⟨x1, x2⟩, ⟨x3, x4⟩⟩ := bx
 by_cases he : 60 < ls.length ∧ ls.length ≤ 200
 ·have e1 : (60 : Int) < ls.length := by omega
  have e2 : (ls.length : Int) ≤ 200 := by omega
  clear hr hq hl he
  go_enter Tryz.func3, Tryz.ntmps3
  go_wp2_with (go_at_call 4; with_reducible refine crv (head_v _) fun _ _ => ?_; dsimp only)
  go_ret
  exact Ret.mk' rfl gw
 ·obtain ⟨va, hva⟩ : ∃ v, PValid ps = v := ⟨_, rfl⟩
  obtain ⟨⟨in1, in2⟩, hin⟩ : ∃ v, inOf ps (p1, p2) = v := ⟨_, rfl⟩
  obtain ⟨⟨ar1, ar2⟩, har⟩ : ∃ v, areaOf ps = v := ⟨_, rfl⟩
  obtain ⟨⟨to1, to2⟩, hto⟩ : ∃ v, ptouchOf ps qs = v := ⟨_, rfl⟩
  obtain ⟨⟨ho1, ho2⟩, hho⟩ : ∃ v, pholdsOf ps qs = v := ⟨_, rfl⟩
  obtain ⟨⟨di1, di2⟩, hdi⟩ : ∃ v, discOf ps (p1, p2) r = v := ⟨_, rfl⟩
  obtain ⟨⟨⟨⟨b1, b2⟩, ⟨b3, b4⟩⟩, b5⟩, hbo⟩ : ∃ v, boxOf ps = v := ⟨_, rfl⟩
  have k1 := hide (fun W (hg : Grew w W) => PValid_v ps A c va W (hr.up hg) hc hva)
  have k2 := hide (fun W (hg : Grew w W) => p3Valid_v ps A c va W (hr.up hg) hc hva)
  have k3 := hide (fun W (hg : Grew w W) => In_v ps A c (p1, p2) _ W (hr.up hg) hc hin)
  have k4 := hide (fun W (hg : Grew w W) => p3In_v ps A c (p1, p2) _ W (hr.up hg) hc hin)
  have k5 := hide (fun W (hg : Grew w W) => Area_v ps A c _ W (hr.up hg) hc har)
  have k6 := hide (fun W (hg : Grew w W) => p3Area_v ps A c _ W (hr.up hg) hc har)
  have k7 := hide (fun W (hg : Grew w W) => Touch_v ps qs A B c d _ W (hr.up hg) (hq.up hg) hc hd hto)
  have k8 := hide (fun W (hg : Grew w W) => p3Touch_v ps qs A B c d _ W (hr.up hg) (hq.up hg) hc hd hto)
  have k9 := hide (fun W (hg : Grew w W) => Holds_v ps qs A B c d _ W (hr.up hg) (hq.up hg) hc hd hho)
  have ka := hide (fun W (hg : Grew w W) => p3Holds_v ps qs A B c d _ W (hr.up hg) (hq.up hg) hc hd hho)
  have kb := hide (fun W (hg : Grew w W) => Disc_v ps A c (p1, p2) r _ W (hr.up hg) hc hdi)
  have kc := hide (fun W (hg : Grew w W) => p3Disc_v ps A c (p1, p2) r _ W (hr.up hg) hc hdi)
  have kd := hide (fun W (hg : Grew w W) => Hull_any ls Al cl W (hl.up hg) hcl)
  have ke := hide (fun W (hg : Grew w W) => p3Hull_v ls Al cl W (hl.up hg) hcl)
  have kf : Hid (∀ W, Grew w W → Calls Tryz.prog 20 #[.slice A ps.length c] W (Ret W (.tuple #[bxv ((b1, b2), (b3, b4)), .int .i64 b5]))) := hide (fun W hg => by have k := Box_any ps A c W (hr.up hg) hc; rwa [hbo] at k)
  have kg := hide (fun W (hg : Grew w W) => p3Box_v ps A c _ W (hr.up hg) hc hbo)
  have hhl := hull_le ls
  have hrl := rect_le ((x1, x2), (x3, x4))
  have kh := hide (fun W => Rect_any ((x1, x2), (x3, x4)) W)
  have ki := hide (fun W => p3Rect_v ((x1, x2), (x3, x4)) W)
  generalize hullOf ls = hu at *
  generalize rectOf ((x1, x2), (x3, x4)) = re at *
  obtain ⟨hu1, hu2⟩ := hu
  obtain ⟨re1, re2⟩ := re
  dsimp only at hhl hrl k3 k4 k5 k6 k7 k8 k9 ka kb kc kg
  have HHL := hide (show hu1.length ≤ 100000000000000 by omega)
  have HRL := hide (show re1.length ≤ 100000000000000 by omega)
  have hcase : ¬ 60 < ls.length ∨ (60 < ls.length ∧ ¬ ls.length ≤ 200) := by omega
  clear hr hq hl hva hin har hto hho hdi hbo hhl hrl he
  rcases hcase with h1 | ⟨h1, h2⟩
  ·have e1 : ¬ (60 : Int) < ls.length := by omega
   go_enter Tryz.func3, Tryz.ntmps3
   go_wp2_with (first | (go_at_call 4; with_reducible refine crv (head_v _) fun _ _ => ?_; dsimp only) | (go_at_call 5; with_reducible refine crv (k1.out _ gw) fun _ _ => ?_; dsimp only) | (go_at_call 6; with_reducible refine crv (k2.out _ gw) fun _ _ => ?_; dsimp only) | (go_at_call 7; with_reducible refine crv (k3.out _ gw) fun _ _ => ?_; dsimp only) | (go_at_call 8; with_reducible refine crv (k4.out _ gw) fun _ _ => ?_; dsimp only) | (go_at_call 9; with_reducible refine crv (k5.out _ gw) fun _ _ => ?_; dsimp only) | (go_at_call 10; with_reducible refine crv (k6.out _ gw) fun _ _ => ?_; dsimp only) | (go_at_call 11; with_reducible refine crv (k7.out _ gw) fun _ _ => ?_; dsimp only) | (go_at_call 12; with_reducible refine crv (k8.out _ gw) fun _ _ => ?_; dsimp only) | (go_at_call 13; with_reducible refine crv (k9.out _ gw) fun _ _ => ?_; dsimp only) | (go_at_call 14; with_reducible refine crv (ka.out _ gw) fun _ _ => ?_; dsimp only) | (go_at_call 15; with_reducible refine crv (kb.out _ gw) fun _ _ => ?_; dsimp only) | (go_at_call 16; with_reducible refine crv (kc.out _ gw) fun _ _ => ?_; dsimp only))
   refine calls_nx ?_
   intro X1 hX
   have HX1 : Hid (Grew w X1) := hide (by rw [← hX]; exact gw)
   have HB1 : Hid (BB X1 (w.heap.size + 1) ((x1, x2), (x3, x4))) := hide (by rw [← hX]; exact BB.up (show BB ((w.alloc (.cells #[.int .i64 p1, .int .i64 p2] 24)).alloc (.cells #[.int .i64 x1, .int .i64 x2, .int .i64 x3, .int .i64 x4] 28)) (w.heap.size + 1) ((x1, x2), (x3, x4)) from heap_alloc_at _ _ _ (by simp)) gw)
   clear hX k1 k2 k3 k4 k5 k6 k7 k8 k9 ka kb kc
   refine (kd.out X1 HX1.out).mono ?_
   rintro e W1 ⟨v1, rfl, hown, hg⟩
   have HG1 := hide (HX1.out.trans hg)
   have HB2 := hide (HB1.out.up hg)
   obtain ⟨A1, c1, rfl, _, hrd⟩ := Rd.of_own (f := encD) encD_len hown rfl
   have HP1 := hide hrd
   clear hg hrd hown HX1 HB1 kd
   dsimp only at HP1 ⊢
   go_wp2_with fail
   refine calls_nx ?_
   intro X2 hX
   have hgx : Grew W1 X2 := by rw [← hX]; exact gw
   have HX2 := hide (HG1.out.trans hgx)
   have HB3 := hide (HB2.out.up hgx)
   have HP2 := hide (HP1.out.up hgx)
   clear hX hgx HG1 HB2 HP1
   refine (ke.out X2 HX2.out).mono ?_
   rintro e W2 ⟨v2, rfl, hown, hg⟩
   have HG2 := hide (HX2.out.trans hg)
   have HB4 := hide (HB3.out.up hg)
   have HP3 := hide (HP2.out.up hg)
   obtain ⟨A2, c2, rfl, _, hrd⟩ := Rd.of_own (f := encD) encD_len hown rfl
   have HP4 := hide hrd
   clear hg hrd hown HX2 HB3 HP2 ke
   dsimp only at HP4 ⊢
   go_wp2_with fail
   refine calls_nx ?_
   intro X3 hX
   have hgx : Grew W2 X3 := by rw [← hX]; exact gw
   have HX3 := hide (HG2.out.trans hgx)
   have HB5 := hide (HB4.out.up hgx)
   have HP5 := hide (HP3.out.up hgx)
   have HP6 := hide (HP4.out.up hgx)
   clear hX hgx HG2 HB4 HP3 HP4
   refine (Same_v hu1 hu1 A1 A2 c1 c2 true X3 HP5.out HP6.out HHL.out HHL.out (by simp)).mono ?_
   rintro e W3 ⟨rfl, hg⟩
   have HG3 := hide (HX3.out.trans hg)
   have HB6 := hide (HB5.out.up hg)
   clear hg HX3 HB5 HP5 HP6
   dsimp only
   have r0 := HB6.out.c0
   have r1 := HB6.out.c1
   have r2 := HB6.out.c2
   have r3 := HB6.out.c3
   have rl := HB6.out.lt
   have rl0 : w.heap.size < W3.heap.size := by omega
   dsimp only at r0 r1 r2 r3
   go_wp2_with (first | (go_at_call 20; with_reducible refine crv (kf.out _ (HG3.out.trans gw)) fun _ _ => ?_; dsimp only) | (go_at_call 21; with_reducible refine crv (kg.out _ (HG3.out.trans gw)) fun _ _ => ?_; dsimp only))
   refine calls_nx ?_
   intro X4 hX
   have hgx : Grew W3 X4 := by rw [← hX]; exact gw
   have HX4 := hide (HG3.out.trans hgx)
   have HB7 := hide (HB6.out.up hgx)
   clear hX hgx r0 r1 r2 r3 rl rl0 kf kg HG3 HB6
   refine (kh.out X4).mono ?_
   rintro e W4 ⟨v4, rfl, hown, hg⟩
   have HG4 := hide (HX4.out.trans hg)
   have HB8 := hide (HB7.out.up hg)
   obtain ⟨A4, c4, rfl, _, hrd⟩ := Rd.of_own (f := encD) encD_len hown rfl
   have HQ1 := hide hrd
   clear hg hrd hown HX4 HB7 kh
   dsimp only at HQ1 ⊢
   have r0 := HB8.out.c0
   have r1 := HB8.out.c1
   have r2 := HB8.out.c2
   have r3 := HB8.out.c3
   have rl := HB8.out.lt
   have rl0 : w.heap.size < W4.heap.size := by omega
   dsimp only at r0 r1 r2 r3
   go_wp2_with fail
   refine calls_nx ?_
   intro X5 hX
   have hgx : Grew W4 X5 := by rw [← hX]; exact gw
   have HX5 := hide (HG4.out.trans hgx)
   have HQ2 := hide (HQ1.out.up hgx)
   clear hX hgx r0 r1 r2 r3 rl rl0 HG4 HB8 HQ1
   refine (ki.out X5).mono ?_
   rintro e W5 ⟨v5, rfl, hown, hg⟩
   have HG5 := hide (HX5.out.trans hg)
   have HQ3 := hide (HQ2.out.up hg)
   obtain ⟨A5, c5, rfl, _, hrd⟩ := Rd.of_own (f := encD) encD_len hown rfl
   have HQ4 := hide hrd
   clear hg hrd hown HX5 HQ2 ki
   dsimp only at HQ4 ⊢
   go_wp2_with fail
   refine calls_nx ?_
   intro X6 hX
   have hgx : Grew W5 X6 := by rw [← hX]; exact gw
   have HX6 := hide (HG5.out.trans hgx)
   have HQ5 := hide (HQ3.out.up hgx)
   have HQ6 := hide (HQ4.out.up hgx)
   clear hX hgx HG5 HQ3 HQ4
   refine (Same_v re1 re1 A4 A5 c4 c5 true X6 HQ5.out HQ6.out HRL.out HRL.out (by simp)).mono ?_
   rintro e W6 ⟨rfl, hg⟩
   have HG6 := hide (HX6.out.trans hg)
   clear hg HX6 HQ5 HQ6
   dsimp only
   go_wp2_with fail
   go_ret
   exact Ret.mk' (by simp) (HG6.out.trans gw)
  ·have e1 : (60 : Int) < ls.length := by omega
   have e2 : ¬ (ls.length : Int) ≤ 200 := by omega
   go_enter Tryz.func3, Tryz.ntmps3
   go_wp2_with (first | (go_at_call 4; with_reducible refine crv (head_v _) fun _ _ => ?_; dsimp only) | (go_at_call 5; with_reducible refine crv (k1.out _ gw) fun _ _ => ?_; dsimp only) | (go_at_call 6; with_reducible refine crv (k2.out _ gw) fun _ _ => ?_; dsimp only) | (go_at_call 7; with_reducible refine crv (k3.out _ gw) fun _ _ => ?_; dsimp only) | (go_at_call 8; with_reducible refine crv (k4.out _ gw) fun _ _ => ?_; dsimp only) | (go_at_call 9; with_reducible refine crv (k5.out _ gw) fun _ _ => ?_; dsimp only) | (go_at_call 10; with_reducible refine crv (k6.out _ gw) fun _ _ => ?_; dsimp only) | (go_at_call 11; with_reducible refine crv (k7.out _ gw) fun _ _ => ?_; dsimp only) | (go_at_call 12; with_reducible refine crv (k8.out _ gw) fun _ _ => ?_; dsimp only) | (go_at_call 13; with_reducible refine crv (k9.out _ gw) fun _ _ => ?_; dsimp only) | (go_at_call 14; with_reducible refine crv (ka.out _ gw) fun _ _ => ?_; dsimp only) | (go_at_call 15; with_reducible refine crv (kb.out _ gw) fun _ _ => ?_; dsimp only) | (go_at_call 16; with_reducible refine crv (kc.out _ gw) fun _ _ => ?_; dsimp only))
   refine calls_nx ?_
   intro X1 hX
   have HX1 : Hid (Grew w X1) := hide (by rw [← hX]; exact gw)
   have HB1 : Hid (BB X1 (w.heap.size + 1) ((x1, x2), (x3, x4))) := hide (by rw [← hX]; exact BB.up (show BB ((w.alloc (.cells #[.int .i64 p1, .int .i64 p2] 24)).alloc (.cells #[.int .i64 x1, .int .i64 x2, .int .i64 x3, .int .i64 x4] 28)) (w.heap.size + 1) ((x1, x2), (x3, x4)) from heap_alloc_at _ _ _ (by simp)) gw)
   clear hX k1 k2 k3 k4 k5 k6 k7 k8 k9 ka kb kc
   refine (kd.out X1 HX1.out).mono ?_
   rintro e W1 ⟨v1, rfl, hown, hg⟩
   have HG1 := hide (HX1.out.trans hg)
   have HB2 := hide (HB1.out.up hg)
   obtain ⟨A1, c1, rfl, _, hrd⟩ := Rd.of_own (f := encD) encD_len hown rfl
   have HP1 := hide hrd
   clear hg hrd hown HX1 HB1 kd
   dsimp only at HP1 ⊢
   go_wp2_with fail
   refine calls_nx ?_
   intro X2 hX
   have hgx : Grew W1 X2 := by rw [← hX]; exact gw
   have HX2 := hide (HG1.out.trans hgx)
   have HB3 := hide (HB2.out.up hgx)
   have HP2 := hide (HP1.out.up hgx)
   clear hX hgx HG1 HB2 HP1
   refine (ke.out X2 HX2.out).mono ?_
   rintro e W2 ⟨v2, rfl, hown, hg⟩
   have HG2 := hide (HX2.out.trans hg)
   have HB4 := hide (HB3.out.up hg)
   have HP3 := hide (HP2.out.up hg)
   obtain ⟨A2, c2, rfl, _, hrd⟩ := Rd.of_own (f := encD) encD_len hown rfl
   have HP4 := hide hrd
   clear hg hrd hown HX2 HB3 HP2 ke
   dsimp only at HP4 ⊢
   go_wp2_with fail
   refine calls_nx ?_
   intro X3 hX
   have hgx : Grew W2 X3 := by rw [← hX]; exact gw
   have HX3 := hide (HG2.out.trans hgx)
   have HB5 := hide (HB4.out.up hgx)
   have HP5 := hide (HP3.out.up hgx)
   have HP6 := hide (HP4.out.up hgx)
   clear hX hgx HG2 HB4 HP3 HP4
   refine (Same_v hu1 hu1 A1 A2 c1 c2 true X3 HP5.out HP6.out HHL.out HHL.out (by simp)).mono ?_
   rintro e W3 ⟨rfl, hg⟩
   have HG3 := hide (HX3.out.trans hg)
   have HB6 := hide (HB5.out.up hg)
   clear hg HX3 HB5 HP5 HP6
   dsimp only
   have r0 := HB6.out.c0
   have r1 := HB6.out.c1
   have r2 := HB6.out.c2
   have r3 := HB6.out.c3
   have rl := HB6.out.lt
   have rl0 : w.heap.size < W3.heap.size := by omega
   dsimp only at r0 r1 r2 r3
   go_wp2_with (first | (go_at_call 20; with_reducible refine crv (kf.out _ (HG3.out.trans gw)) fun _ _ => ?_; dsimp only) | (go_at_call 21; with_reducible refine crv (kg.out _ (HG3.out.trans gw)) fun _ _ => ?_; dsimp only))
   refine calls_nx ?_
   intro X4 hX
   have hgx : Grew W3 X4 := by rw [← hX]; exact gw
   have HX4 := hide (HG3.out.trans hgx)
   have HB7 := hide (HB6.out.up hgx)
   clear hX hgx r0 r1 r2 r3 rl rl0 kf kg HG3 HB6
   refine (kh.out X4).mono ?_
   rintro e W4 ⟨v4, rfl, hown, hg⟩
   have HG4 := hide (HX4.out.trans hg)
   have HB8 := hide (HB7.out.up hg)
   obtain ⟨A4, c4, rfl, _, hrd⟩ := Rd.of_own (f := encD) encD_len hown rfl
   have HQ1 := hide hrd
   clear hg hrd hown HX4 HB7 kh
   dsimp only at HQ1 ⊢
   have r0 := HB8.out.c0
   have r1 := HB8.out.c1
   have r2 := HB8.out.c2
   have r3 := HB8.out.c3
   have rl := HB8.out.lt
   have rl0 : w.heap.size < W4.heap.size := by omega
   dsimp only at r0 r1 r2 r3
   go_wp2_with fail
   refine calls_nx ?_
   intro X5 hX
   have hgx : Grew W4 X5 := by rw [← hX]; exact gw
   have HX5 := hide (HG4.out.trans hgx)
   have HQ2 := hide (HQ1.out.up hgx)
   clear hX hgx r0 r1 r2 r3 rl rl0 HG4 HB8 HQ1
   refine (ki.out X5).mono ?_
   rintro e W5 ⟨v5, rfl, hown, hg⟩
   have HG5 := hide (HX5.out.trans hg)
   have HQ3 := hide (HQ2.out.up hg)
   obtain ⟨A5, c5, rfl, _, hrd⟩ := Rd.of_own (f := encD) encD_len hown rfl
   have HQ4 := hide hrd
   clear hg hrd hown HX5 HQ2 ki
   dsimp only at HQ4 ⊢
   go_wp2_with fail
   refine calls_nx ?_
   intro X6 hX
   have hgx : Grew W5 X6 := by rw [← hX]; exact gw
   have HX6 := hide (HG5.out.trans hgx)
   have HQ5 := hide (HQ3.out.up hgx)
   have HQ6 := hide (HQ4.out.up hgx)
   clear hX hgx HG5 HQ3 HQ4
   refine (Same_v re1 re1 A4 A5 c4 c5 true X6 HQ5.out HQ6.out HRL.out HRL.out (by simp)).mono ?_
   rintro e W6 ⟨rfl, hg⟩
   have HG6 := hide (HX6.out.trans hg)
   clear hg HX6 HQ5 HQ6
   dsimp only
   go_wp2_with fail
   go_ret
   exact Ret.mk' (by simp) (HG6.out.trans gw)
end Go.Proofs.YtndkfpmklmcjjaaGreat
