/- Package feature: a method called through an interface; Stands. -/
import Derived.Test.YtfeccolljfkejaaGreatDoorFeB
set_option linter.unusedSimpArgs false
set_option linter.unusedVariables false
set_option maxHeartbeats 4000000
set_option maxRecDepth 100000
namespace Go.Proofs.YtfeccolljfkejaaGreatDoor
open Go.RowKit Go.Sort
attribute [local go_sem] Steady steadyUpon
attribute [local go_sem ↓] hs_dr lt_add_r lt_add_r2 lt_add_r3 lt_add_r4 lt_add_r5 lt_add_r6
attribute [local go_sem] cell?_gd frozen?_gd setCell_gd size_grow tape_grow cell?_grow' frozen?_grow' setCell_grow' grow_grow grow_dr grow_drew dr_dr dr_drew drew_dr dr_alloc dr_setCell dr_cell dr_frozen dr_tape dr_drawn
attribute [local irreducible] wpSteady
theorem mh_disc (v : Value) (w : World) : (method 379 143 v "seamark/feature.holds").run Tryz.prog w = .ok (265, v) w := by kernel_rfl
theorem nh_disc (v : Value) (w : World) : (nilAhead 379 143 v "seamark/feature.holds").run Tryz.prog w = .ok (some false) w := by kernel_rfl
theorem mc_disc (v : Value) (w : World) : (method 379 143 v "seamark/feature.covers").run Tryz.prog w = .ok (264, v) w := by kernel_rfl
theorem nc_disc (v : Value) (w : World) : (nilAhead 379 143 v "seamark/feature.covers").run Tryz.prog w = .ok (some false) w := by kernel_rfl
theorem mh_area (v : Value) (w : World) : (method 379 141 v "seamark/feature.holds").run Tryz.prog w = .ok (250, v) w := by kernel_rfl
theorem nh_area (v : Value) (w : World) : (nilAhead 379 141 v "seamark/feature.holds").run Tryz.prog w = .ok (some false) w := by kernel_rfl
theorem mc_area (v : Value) (w : World) : (method 379 141 v "seamark/feature.covers").run Tryz.prog w = .ok (249, v) w := by kernel_rfl
theorem nc_area (v : Value) (w : World) : (nilAhead 379 141 v "seamark/feature.covers").run Tryz.prog w = .ok (some false) w := by kernel_rfl
theorem mh_light (v : Value) (w : World) : (method 379 140 v "seamark/feature.holds").run Tryz.prog w = .ok (246, v) w := by kernel_rfl
theorem nh_light (v : Value) (w : World) : (nilAhead 379 140 v "seamark/feature.holds").run Tryz.prog w = .ok (some false) w := by kernel_rfl
theorem mc_light (v : Value) (w : World) : (method 379 140 v "seamark/feature.covers").run Tryz.prog w = .ok (245, v) w := by kernel_rfl
theorem nc_light (v : Value) (w : World) : (nilAhead 379 140 v "seamark/feature.covers").run Tryz.prog w = .ok (some false) w := by kernel_rfl
attribute [local go_sem] mh_disc nh_disc mc_disc nc_disc mh_area nh_area mc_area nc_area mh_light nh_light mc_light nc_light
theorem stands_disc (f g : FV) (F : Value) (o : Bool) (w : World) (hf : f.rd w w.heap.size) (hg : g.rd w w.heap.size) (vf : FValid f = true) (vg : FValid g = true) (hk : f.kind ≠ 4)
  (kf : Hid (∀ W, Calls Tryz.prog 61 #[f.val] W (Ret W F))) (kg : Hid (∀ W, Calls Tryz.prog 61 #[g.val] W (Ret W (.iface 143 (.agg #[.int .i64 g.x, .int .i64 g.y, .int .i64 g.rad])))))
  (kh : Hid (∀ W, Grew w W → Calls Tryz.prog 265 #[.agg #[.int .i64 g.x, .int .i64 g.y, .int .i64 g.rad], F] W (Ret W (.bool o)))) :
  Calls Tryz.prog 32 #[f.val, g.val] w (Ret w (.tuple #[.bool (decide (g.dep ≤ f.dep) && o), .int .i64 0])) := by
 have hm := hmix
 have k1 := hide (fun W (h : Grew w W) => FValid_v f true W (hf.up h) vf)
 have k2 := hide (fun W (h : Grew w W) => FValid_v g true W (hg.up h) vg)
 clear hf hg vf vg
 by_cases hd : g.dep ≤ f.dep
 ·rw [decide_eq_true hd, Bool.true_and]
  go_enter Tryz.func32, Tryz.ntmps32
  go_wp2_with (first | (go_at_call 62; with_reducible refine crv (k1.out _ gw) fun _ _ => ?_; dsimp only) | (go_at_call 62; with_reducible refine crv (k2.out _ gw) fun _ _ => ?_; dsimp only))
  refine wp_region_qas 17 [] [] hm (h := ?_)
  repeat (refine wpSteady_step (fun K hK => ?_); go_simp; first | (refine hK _ ?_; clear hK K) | (apply Exists.intro; refine ⟨fun _ => ?_, hK _ ?_⟩; (first | (go_at_call 61; first | with_reducible exact kf.out _ | with_reducible exact kg.out _) | (go_at_call 265; with_reducible exact kh.out _ gw)); clear hK K))
  refine rq0 fun nq osq => ?_
  try simp only [Act.put, setA]
  try dsimp only
  go_wp2_with fail
  go_ret2
  exact Ret.mk' rfl gw
 ·have hd2 : decide (g.dep ≤ f.dep) = false := decide_eq_false hd
  rw [hd2, Bool.false_and]
  go_enter Tryz.func32, Tryz.ntmps32
  go_wp2_with (first | (go_at_call 62; with_reducible refine crv (k1.out _ gw) fun _ _ => ?_; dsimp only) | (go_at_call 62; with_reducible refine crv (k2.out _ gw) fun _ _ => ?_; dsimp only))
  refine wp_region_qas 17 [] [] hm (h := ?_)
  repeat (refine wpSteady_step (fun K hK => ?_); go_simp; first | (refine hK _ ?_; clear hK K) | (apply Exists.intro; refine ⟨fun _ => ?_, hK _ ?_⟩; (first | (go_at_call 61; first | with_reducible exact kf.out _ | with_reducible exact kg.out _) | (go_at_call 265; with_reducible exact kh.out _ gw)); clear hK K))
  refine rq0 fun nq osq => ?_
  try simp only [Act.put, setA]
  try dsimp only
  go_wp2_with fail
  go_ret2
  exact Ret.mk' rfl gw
theorem stands_area (f g : FV) (F : Value) (o : Bool) (w : World) (hf : f.rd w w.heap.size) (hg : g.rd w w.heap.size) (vf : FValid f = true) (vg : FValid g = true) (hk : f.kind ≠ 4)
  (kf : Hid (∀ W, Calls Tryz.prog 61 #[f.val] W (Ret W F))) (kg : Hid (∀ W, Calls Tryz.prog 61 #[g.val] W (Ret W (.iface 141 (.slice g.aA g.area.length g.ac)))))
  (kh : Hid (∀ W, Grew w W → Calls Tryz.prog 250 #[.slice g.aA g.area.length g.ac, F] W (Ret W (.bool o)))) :
  Calls Tryz.prog 32 #[f.val, g.val] w (Ret w (.tuple #[.bool (decide (g.dep ≤ f.dep) && o), .int .i64 0])) := by
 have hm := hmix
 have k1 := hide (fun W (h : Grew w W) => FValid_v f true W (hf.up h) vf)
 have k2 := hide (fun W (h : Grew w W) => FValid_v g true W (hg.up h) vg)
 clear hf hg vf vg
 by_cases hd : g.dep ≤ f.dep
 ·rw [decide_eq_true hd, Bool.true_and]
  go_enter Tryz.func32, Tryz.ntmps32
  go_wp2_with (first | (go_at_call 62; with_reducible refine crv (k1.out _ gw) fun _ _ => ?_; dsimp only) | (go_at_call 62; with_reducible refine crv (k2.out _ gw) fun _ _ => ?_; dsimp only))
  refine wp_region_qas 17 [] [] hm (h := ?_)
  repeat (refine wpSteady_step (fun K hK => ?_); go_simp; first | (refine hK _ ?_; clear hK K) | (apply Exists.intro; refine ⟨fun _ => ?_, hK _ ?_⟩; (first | (go_at_call 61; first | with_reducible exact kf.out _ | with_reducible exact kg.out _) | (go_at_call 250; with_reducible exact kh.out _ gw)); clear hK K))
  refine rq0 fun nq osq => ?_
  try simp only [Act.put, setA]
  try dsimp only
  go_wp2_with fail
  go_ret2
  exact Ret.mk' rfl gw
 ·have hd2 : decide (g.dep ≤ f.dep) = false := decide_eq_false hd
  rw [hd2, Bool.false_and]
  go_enter Tryz.func32, Tryz.ntmps32
  go_wp2_with (first | (go_at_call 62; with_reducible refine crv (k1.out _ gw) fun _ _ => ?_; dsimp only) | (go_at_call 62; with_reducible refine crv (k2.out _ gw) fun _ _ => ?_; dsimp only))
  refine wp_region_qas 17 [] [] hm (h := ?_)
  repeat (refine wpSteady_step (fun K hK => ?_); go_simp; first | (refine hK _ ?_; clear hK K) | (apply Exists.intro; refine ⟨fun _ => ?_, hK _ ?_⟩; (first | (go_at_call 61; first | with_reducible exact kf.out _ | with_reducible exact kg.out _) | (go_at_call 250; with_reducible exact kh.out _ gw)); clear hK K))
  refine rq0 fun nq osq => ?_
  try simp only [Act.put, setA]
  try dsimp only
  go_wp2_with fail
  go_ret2
  exact Ret.mk' rfl gw
theorem stands_light (f g : FV) (F : Value) (o : Bool) (w : World) (hf : f.rd w w.heap.size) (hg : g.rd w w.heap.size) (vf : FValid f = true) (vg : FValid g = true) (hk : f.kind ≠ 4)
  (kf : Hid (∀ W, Calls Tryz.prog 61 #[f.val] W (Ret W F))) (kg : Hid (∀ W, Calls Tryz.prog 61 #[g.val] W (Ret W (.iface 140 (.agg #[.int .i64 g.x, .int .i64 g.y])))))
  (kh : Hid (∀ W, Grew w W → Calls Tryz.prog 246 #[.agg #[.int .i64 g.x, .int .i64 g.y], F] W (Ret W (.bool o)))) :
  Calls Tryz.prog 32 #[f.val, g.val] w (Ret w (.tuple #[.bool (decide (g.dep ≤ f.dep) && o), .int .i64 0])) := by
 have hm := hmix
 have k1 := hide (fun W (h : Grew w W) => FValid_v f true W (hf.up h) vf)
 have k2 := hide (fun W (h : Grew w W) => FValid_v g true W (hg.up h) vg)
 clear hf hg vf vg
 by_cases hd : g.dep ≤ f.dep
 ·rw [decide_eq_true hd, Bool.true_and]
  go_enter Tryz.func32, Tryz.ntmps32
  go_wp2_with (first | (go_at_call 62; with_reducible refine crv (k1.out _ gw) fun _ _ => ?_; dsimp only) | (go_at_call 62; with_reducible refine crv (k2.out _ gw) fun _ _ => ?_; dsimp only))
  refine wp_region_qas 17 [] [] hm (h := ?_)
  repeat (refine wpSteady_step (fun K hK => ?_); go_simp; first | (refine hK _ ?_; clear hK K) | (apply Exists.intro; refine ⟨fun _ => ?_, hK _ ?_⟩; (first | (go_at_call 61; first | with_reducible exact kf.out _ | with_reducible exact kg.out _) | (go_at_call 246; with_reducible exact kh.out _ gw)); clear hK K))
  refine rq0 fun nq osq => ?_
  try simp only [Act.put, setA]
  try dsimp only
  go_wp2_with fail
  go_ret2
  exact Ret.mk' rfl gw
 ·have hd2 : decide (g.dep ≤ f.dep) = false := decide_eq_false hd
  rw [hd2, Bool.false_and]
  go_enter Tryz.func32, Tryz.ntmps32
  go_wp2_with (first | (go_at_call 62; with_reducible refine crv (k1.out _ gw) fun _ _ => ?_; dsimp only) | (go_at_call 62; with_reducible refine crv (k2.out _ gw) fun _ _ => ?_; dsimp only))
  refine wp_region_qas 17 [] [] hm (h := ?_)
  repeat (refine wpSteady_step (fun K hK => ?_); go_simp; first | (refine hK _ ?_; clear hK K) | (apply Exists.intro; refine ⟨fun _ => ?_, hK _ ?_⟩; (first | (go_at_call 61; first | with_reducible exact kf.out _ | with_reducible exact kg.out _) | (go_at_call 246; with_reducible exact kh.out _ gw)); clear hK K))
  refine rq0 fun nq osq => ?_
  try simp only [Act.put, setA]
  try dsimp only
  go_wp2_with fail
  go_ret2
  exact Ret.mk' rfl gw
/-- What stands for what. -/
def shHolds (g f : FV) : Bool := if g.kind = 4 then decide (f.kind = 4) else if f.kind = 4 then true else if g.kind = 3 ∨ g.kind = 6 then (if f.kind = 3 ∨ f.kind = 6 then areaHoldsA g.area f.area else areaHoldsD g.area (f.x, f.y) f.rad) else (if f.kind = 3 ∨ f.kind = 6 then discHoldsA g.x g.y g.rad f.area else discHoldsD g.x g.y g.rad (f.x, f.y) f.rad)
def standL (f g : FV) : Bool := decide (g.kind = 4) && (decide (g.x = f.x ∧ g.y = f.y) && ((saferOf f.secs g.secs).2 == 0 && !(saferOf f.secs g.secs).1))
def standB (f g : FV) : Bool := if f.kind = 4 then standL f g else decide (g.dep ≤ f.dep) && shHolds g f
def standsOf (f g : FV) : Bool × Int := if (FValid f && FValid g) = true then (standB f g, 0) else (false, 1)
theorem sh_disc {f : FV} (h4 : f.kind ≠ 4) (h3 : ¬ (f.kind = 3 ∨ f.kind = 6)) : f.sh = .iface 143 (.agg #[.int .i64 f.x, .int .i64 f.y, .int .i64 f.rad]) := by unfold FV.sh; rw [if_neg h4, if_neg h3]
theorem sh_area {f : FV} (h3 : f.kind = 3 ∨ f.kind = 6) : f.sh = .iface 141 (.slice f.aA f.area.length f.ac) := by unfold FV.sh; rw [if_neg (by omega), if_pos h3]
theorem sh_light {f : FV} (h4 : f.kind = 4) : f.sh = .iface 140 (.agg #[.int .i64 f.x, .int .i64 f.y]) := by unfold FV.sh; rw [if_pos h4]
theorem of_v (f : FV) (v : Value) (w : World) (h : f.sh = v) : Calls Tryz.prog 61 #[f.val] w (Ret w v) := by
 have := of_any f w
 rwa [h] at this
theorem Stands_shape (f g : FV) (w : World) (hf : f.rd w w.heap.size) (hg : g.rd w w.heap.size) (vf : FValid f = true) (vg : FValid g = true) (hk : f.kind ≠ 4) :
  Calls Tryz.prog 32 #[f.val, g.val] w (Ret w (.tuple #[.bool (decide (g.dep ≤ f.dep) && shHolds g f), .int .i64 0])) := by
 have kf : Hid (∀ W, Calls Tryz.prog 61 #[f.val] W (Ret W f.sh)) := hide (fun W => of_v f _ W rfl)
 by_cases g4 : g.kind = 4
 ·have e : shHolds g f = false := by unfold shHolds; rw [if_pos g4, decide_eq_false hk]
  rw [e]
  refine stands_light f g _ false w hf hg vf vg hk kf (hide (fun W => of_v g _ W (sh_light g4))) (hide (fun W hgr => ?_))
  by_cases f3 : f.kind = 3 ∨ f.kind = 6
  ·rw [sh_area f3]
   exact lightHoldsA_v _ _ _ W
  ·rw [sh_disc hk f3]
   exact lightHoldsD_v _ _ _ W
 ·by_cases g3 : g.kind = 3 ∨ g.kind = 6
  ·refine stands_area f g _ (shHolds g f) w hf hg vf vg hk kf (hide (fun W => of_v g _ W (sh_area g3))) (hide (fun W hgr => ?_))
   by_cases f3 : f.kind = 3 ∨ f.kind = 6
   ·rw [sh_area f3]
    exact areaHoldsA_v _ _ _ _ _ _ _ W ((hg.up hgr).area) hg.la ((hf.up hgr).area) hf.la (by unfold shHolds; rw [if_neg g4, if_neg hk, if_pos g3, if_pos f3])
   ·rw [sh_disc hk f3]
    exact areaHoldsD_v _ _ _ (f.x, f.y) _ _ W ((hg.up hgr).area) hg.la (by unfold shHolds; rw [if_neg g4, if_neg hk, if_pos g3, if_neg f3])
  ·refine stands_disc f g _ (shHolds g f) w hf hg vf vg hk kf (hide (fun W => of_v g _ W (sh_disc g4 g3))) (hide (fun W hgr => ?_))
   by_cases f3 : f.kind = 3 ∨ f.kind = 6
   ·rw [sh_area f3]
    exact discHoldsA_v _ _ _ _ _ _ _ W ((hf.up hgr).area) hf.la (by unfold shHolds; rw [if_neg g4, if_neg hk, if_neg g3, if_pos f3])
   ·rw [sh_disc hk f3]
    exact discHoldsD_v _ _ _ (f.x, f.y) _ _ W (by unfold shHolds; rw [if_neg g4, if_neg hk, if_neg g3, if_neg f3])
theorem Safer_v (sa sb : List Sec) (A A' : Option Addr) (c c' : Nat) (r : Bool × Int) (w : World) (hra : Rd w w.heap.size 6 A (sa.map Sec.cells)) (hrb : Rd w w.heap.size 6 A' (sb.map Sec.cells)) (hl : sa.length ≤ c) (hl' : sb.length ≤ c') (hc : sa.length ≤ 100000000000000) (hc' : sb.length ≤ 100000000000000) (h : saferOf sa sb = r) :
  Calls Tryz.prog 63 #[.slice A sa.length c, .slice A' sb.length c'] w (Ret w (.tuple #[.bool r.1, .int .i64 r.2])) := by
 have := Safer_any sa sb A A' c c' w hra hrb hl hl' hc hc'
 rwa [h] at this
theorem Stands_light (f g : FV) (r : Bool) (w : World) (hf : f.rd w w.heap.size) (hg : g.rd w w.heap.size) (vf : FValid f = true) (vg : FValid g = true) (hk : f.kind = 4) (h : standL f g = r) :
  Calls Tryz.prog 32 #[f.val, g.val] w (Ret w (.tuple #[.bool r, .int .i64 0])) := by
 have hm := hmix
 have k1 := hide (fun W (h : Grew w W) => FValid_v f true W (hf.up h) vf)
 have k2 := hide (fun W (h : Grew w W) => FValid_v g true W (hg.up h) vg)
 obtain ⟨⟨n, e⟩, hn⟩ : ∃ u, saferOf f.secs g.secs = u := ⟨_, rfl⟩
 have k3 := hide (fun W (h : Grew w W) => Safer_v f.secs g.secs f.sA g.sA f.sc g.sc (n, e) W ((hf.up h).secs) ((hg.up h).secs) hf.lc hg.lc hf.ls hg.ls hn)
 unfold standL at h
 rw [hn] at h
 dsimp only at h k3
 clear hf hg vf vg hn
 obtain ⟨fid, fk, fx, fy, fr, faA, fac, fa, fd, fs, fsA, fsc, fss⟩ := f
 obtain ⟨gid, gk, gx, gy, gr, gaA, gac, ga, gd, gs, gsA, gsc, gss⟩ := g
 unfold FV.val at *
 dsimp only at *
 subst hk
 generalize fss.length = nf at *
 generalize gss.length = ng at *
 have hcase : gk ≠ 4 ∨ (gk = 4 ∧ gx ≠ fx) ∨ (gk = 4 ∧ gx = fx ∧ gy ≠ fy) ∨ (gk = 4 ∧ gx = fx ∧ gy = fy ∧ (e == 0) = false) ∨ (gk = 4 ∧ gx = fx ∧ gy = fy ∧ e = 0) := by
  by_cases h1 : gk = 4 <;> by_cases h2 : gx = fx <;> by_cases h3 : gy = fy <;> by_cases h4 : e = 0 <;> simp [h1, h2, h3, h4]
 rcases hcase with h1 | ⟨rfl, h2⟩ | ⟨rfl, rfl, h3⟩ | ⟨rfl, rfl, rfl, h4⟩ | ⟨rfl, rfl, rfl, rfl⟩
 ·obtain rfl : r = false := by rw [← h, decide_eq_false h1]; rfl
  clear h
  go_enter Tryz.func32, Tryz.ntmps32
  go_wp2_with (first | (go_at_call 62; with_reducible refine crv (k1.out _ gw) fun _ _ => ?_; dsimp only) | (go_at_call 62; with_reducible refine crv (k2.out _ gw) fun _ _ => ?_; dsimp only))
  go_ret2
  exact Ret.mk' rfl gw
 ·obtain rfl : r = false := by rw [← h, decide_eq_false (show ¬ (gx = fx ∧ gy = fy) from fun e => h2 e.1)]; simp
  clear h
  go_enter Tryz.func32, Tryz.ntmps32
  go_wp2_with (first | (go_at_call 62; with_reducible refine crv (k1.out _ gw) fun _ _ => ?_; dsimp only) | (go_at_call 62; with_reducible refine crv (k2.out _ gw) fun _ _ => ?_; dsimp only))
  go_ret2
  exact Ret.mk' rfl gw
 ·obtain rfl : r = false := by rw [← h, decide_eq_false (show ¬ (gx = gx ∧ gy = fy) from fun e => h3 e.2)]; simp
  clear h
  go_enter Tryz.func32, Tryz.ntmps32
  go_wp2_with (first | (go_at_call 62; with_reducible refine crv (k1.out _ gw) fun _ _ => ?_; dsimp only) | (go_at_call 62; with_reducible refine crv (k2.out _ gw) fun _ _ => ?_; dsimp only))
  go_ret2
  exact Ret.mk' rfl gw
 ·obtain rfl : r = false := by rw [← h, h4]; simp
  clear h
  go_enter Tryz.func32, Tryz.ntmps32
  go_wp2_with (first | (go_at_call 62; with_reducible refine crv (k1.out _ gw) fun _ _ => ?_; dsimp only) | (go_at_call 62; with_reducible refine crv (k2.out _ gw) fun _ _ => ?_; dsimp only) | (go_at_call 63; with_reducible refine crv (k3.out _ gw) fun _ _ => ?_; dsimp only))
  go_ret2
  exact Ret.mk' rfl gw
 ·obtain rfl : r = !n := by rw [← h]; simp
  clear h
  cases n
  all_goals
   go_enter Tryz.func32, Tryz.ntmps32
   go_wp2_with (first | (go_at_call 62; with_reducible refine crv (k1.out _ gw) fun _ _ => ?_; dsimp only) | (go_at_call 62; with_reducible refine crv (k2.out _ gw) fun _ _ => ?_; dsimp only) | (go_at_call 63; with_reducible refine crv (k3.out _ gw) fun _ _ => ?_; dsimp only))
   go_ret2
   exact Ret.mk' rfl gw
theorem Stands_bad (f g : FV) (w : World) (hf : f.rd w w.heap.size) (hg : g.rd w w.heap.size) (h : (FValid f && FValid g) = false) :
  Calls Tryz.prog 32 #[f.val, g.val] w (Ret w (.tuple #[.bool false, .int .i64 1])) := by
 have hm := hmix
 obtain ⟨a, ha⟩ : ∃ u, FValid f = u := ⟨_, rfl⟩
 obtain ⟨b, hb⟩ : ∃ u, FValid g = u := ⟨_, rfl⟩
 have k1 := hide (fun W (h : Grew w W) => FValid_v f a W (hf.up h) ha)
 have k2 := hide (fun W (h : Grew w W) => FValid_v g b W (hg.up h) hb)
 rw [ha, hb] at h
 clear hf hg ha hb
 have hcase : a = false ∨ (a = true ∧ b = false) := by cases a <;> cases b <;> simp at h ⊢
 rcases hcase with rfl | ⟨rfl, rfl⟩
 all_goals
  go_enter Tryz.func32, Tryz.ntmps32
  go_wp2_with (first | (go_at_call 62; with_reducible refine crv (k1.out _ gw) fun _ _ => ?_; dsimp only) | (go_at_call 62; with_reducible refine crv (k2.out _ gw) fun _ _ => ?_; dsimp only))
  go_ret2
  exact Ret.mk' rfl gw
theorem Stands_v (f g : FV) (r : Bool × Int) (w : World) (hf : f.rd w w.heap.size) (hg : g.rd w w.heap.size) (h : standsOf f g = r) :
  Calls Tryz.prog 32 #[f.val, g.val] w (Ret w (.tuple #[.bool r.1, .int .i64 r.2])) := by
 unfold standsOf at h
 subst h
 by_cases hv : (FValid f && FValid g) = true
 ·rw [if_pos hv]
  have hv2 := hv
  rw [Bool.and_eq_true] at hv2
  unfold standB
  by_cases hk : f.kind = 4
  ·rw [if_pos hk]
   exact Stands_light f g _ w hf hg hv2.1 hv2.2 hk rfl
  ·rw [if_neg hk]
   exact Stands_shape f g w hf hg hv2.1 hv2.2 hk
 ·rw [if_neg hv]
  exact Stands_bad f g w hf hg (by simpa using hv)
end Go.Proofs.YtfeccolljfkejaaGreatDoor
