/- Packages symbol and transport: Translate; a buoy as it is carried. -/
import Derived.Test.YtpfpamopmncifaaGreatTsU
import Derived.Test.YtpfpamopmncifaaGreatTsE
set_option linter.unusedSimpArgs false
set_option linter.unusedVariables false
set_option maxHeartbeats 8000000
set_option maxRecDepth 100000
namespace Go.Proofs.YtpfpamopmncifaaGreat
open Go.RowKit Go.Sort
attribute [local go_sem] Steady steadyUpon
attribute [local go_sem ↓] hs_dr lt_add_r lt_add_r2 lt_add_r3 lt_add_r4 lt_add_r5 lt_add_r6
attribute [local go_sem] cell?_gd frozen?_gd setCell_gd size_grow tape_grow cell?_grow' frozen?_grow' setCell_grow' grow_grow grow_dr grow_drew dr_dr dr_drew drew_dr dr_alloc dr_setCell dr_cell dr_frozen dr_tape dr_drawn
attribute [local irreducible] wpSteady
theorem Translate_v (o o' : Int) (ms ms' : List Mk) (s : Int) (A A' : Option Addr) (c c' : Nat) (mk t : Mk) (r : Bool) (w : World) (hr : Rd w w.heap.size 3 A (ms.map encM)) (hr' : Rd w w.heap.size 3 A' (ms'.map encM)) (h1 : bkOk o ms = true) (h2 : bkOk o' ms' = true) (h3 : numB s = true) (hf : findOf ms s = some mk) (ht : trOf ms' mk = t) (hrr : decide (t.2.2 ≤ 9) = r) :
  Calls Tryz.prog 49 #[bkv o A ms.length c, bkv o' A' ms'.length c', .int .i64 s] w (Ret w (.tuple #[.int .i64 (cond r t.1 0), .int .i64 (cond r 0 4)])) := by
 have hm := hmix
 obtain ⟨l1, s1⟩ := bk_split h1
 obtain ⟨l2, s2⟩ := bk_split h2
 have k1 := hide (fun W (hg : Grew w W) => bkValid_v o ms A c true W (hr.up hg) (by omega) h1)
 have k2 := hide (fun W (hg : Grew w W) => bkValid_v o' ms' A' c' true W (hr'.up hg) (by omega) h2)
 have k3 := hide (fun W => number_v s true W h3)
 have k4 := hide (fun W (hg : Grew w W) => find_v o ms s A c (some mk) W (hr.up hg) l1 s1 hf)
 have k5 := hide (fun W (hg : Grew w W) => transl_v o' ms' mk A' c' t W (hr'.up hg) (by omega) ht)
 rw [hrr] at k5
 dsimp only [Option.getD, Option.isSome] at k4
 clear hr hr' h1 h2 h3 hf ht hrr l1 l2 s1 s2
 obtain ⟨m1, m2, m3⟩ := mk
 obtain ⟨t1, t2, t3⟩ := t
 dsimp only at *
 cases r
 all_goals
  dsimp only [cond]
  go_enter Tryz.func49, Tryz.ntmps49
  go_wp2_with (first | (go_at_call 46; first | (with_reducible refine crv (k1.out _ gw) fun _ _ => ?_) | (with_reducible refine crv (k2.out _ gw) fun _ _ => ?_); dsimp only) | (go_at_call 66; with_reducible refine crv (k3.out _) fun _ _ => ?_; dsimp only) | (go_at_call 67; with_reducible refine crv (k4.out _ gw) fun _ _ => ?_; dsimp only) | (go_at_call 68; with_reducible refine crv (k5.out _ gw) fun _ _ => ?_; dsimp only))
  go_ret2
  exact Ret.mk' rfl gw
theorem books_v (m : Dm) (o o' : Int) (ms ms' : List Mk) (A A' : Option Addr) (c c' : Nat) (a b d : Bool) (w : World) (hr : Rd w w.heap.size 3 A (ms.map encM)) (hr' : Rd w w.heap.size 3 A' (ms'.map encM)) (hc : ms.length ≤ 100000000000000) (hc' : ms'.length ≤ 100000000000000) (h1 : dmOk m = a) (h2 : bkOk o ms = b) (h3 : bkOk o' ms' = d) :
  Calls Tryz.prog 27 #[dmv m, bkv o A ms.length c, bkv o' A' ms'.length c'] w (Ret w (.bool (a && (b && d)))) := by
 have hm := hmix
 have k1 := hide (fun W (hg : Grew w W) => bkValid_v o ms A c b W (hr.up hg) hc h2)
 have k2 := hide (fun W (hg : Grew w W) => bkValid_v o' ms' A' c' d W (hr'.up hg) hc' h3)
 have k3 := hide (fun W => dmValid_v m a W h1)
 clear hr hr' h1 h2 h3
 obtain ⟨m1, m2, m3, m4, m5, m6, m7⟩ := m
 have hcase : a = false ∨ (a = true ∧ b = false) ∨ (a = true ∧ b = true) := by cases a <;> cases b <;> simp
 rcases hcase with rfl | ⟨rfl, rfl⟩ | ⟨rfl, rfl⟩
 all_goals
  go_enter Tryz.func27, Tryz.ntmps27
  go_wp2_with (first | (go_at_call 46; first | (with_reducible refine crv (k1.out _ gw) fun _ _ => ?_) | (with_reducible refine crv (k2.out _ gw) fun _ _ => ?_); dsimp only) | (go_at_call 30; with_reducible refine crv (k3.out _) fun _ _ => ?_; dsimp only))
  go_ret
  exact Ret.mk' (by simp) gw
theorem mc_tdisc (v : Value) (w : World) : (method 357 144 v "seamark/transport.carried").run Tryz.prog w = .ok (187, v) w := by kernel_rfl
theorem nc_tdisc (v : Value) (w : World) : (nilAhead 357 144 v "seamark/transport.carried").run Tryz.prog w = .ok (some false) w := by kernel_rfl
attribute [local go_sem] mc_tdisc nc_tdisc
/-- What becomes of a buoy. -/
def oneR (m : Dm) (s g : Int) (ms ms' : List Mk) (id x y rad sym : Int) : Value × Int :=
 match findOf ms sym with
 | none => (zv, 11)
 | some mk => if mk.2.1 ≠ 5 then (zv, 12) else if ¬ (trOf ms' mk).2.2 ≤ 9 then (zv, 4) else
  if (carB m (x, y) && dvOk id (midOf m (x, y)).1 (midOf m (x, y)).2 (grOf s rad + g) (trOf ms' mk).1) = true then (dv id (midOf m (x, y)).1 (midOf m (x, y)).2 (grOf s rad + g) (trOf ms' mk).1, 0) else (zv, 3)
theorem one_c (m : Dm) (s k g : Int) (o o' : Int) (ms ms' : List Mk) (A A' : Option Addr) (c c' : Nat) (id x y rad sym : Int) (r : Value × Int) (w : World) (hr : Rd w w.heap.size 3 A (ms.map encM)) (hr' : Rd w w.heap.size 3 A' (ms'.map encM)) (h1 : dmOk m = true) (h2 : bkOk o ms = true) (h3 : bkOk o' ms' = true) (h4 : dvOk id x y rad sym = true) (hs : 0 ≤ s ∧ s ≤ 5000000) (hg : 0 ≤ g ∧ g ≤ 5000000) (hres : oneR m s g ms ms' id x y rad sym = r) :
  Calls Tryz.prog 29 #[cav m s k g, bkv o A ms.length c, bkv o' A' ms'.length c', dv id x y rad sym] w (Ret w (.tuple #[r.1, .int .i64 r.2])) := by
 have hm := hmix
 have h5 : numB sym = true := by
  unfold dvOk at h4
  rw [Bool.and_eq_true, decide_eq_true_eq] at h4
  unfold numB
  rw [decide_eq_true_eq]
  exact h4.1.2.1
 have h6 : plOk x y = true := by
  unfold dvOk at h4
  rw [Bool.and_eq_true, Bool.and_eq_true] at h4
  exact h4.2.1
 have h7 : 0 ≤ rad ∧ rad ≤ 100000 := by
  unfold dvOk at h4
  rw [Bool.and_eq_true, decide_eq_true_eq] at h4
  exact h4.1.2.2
 obtain ⟨l1, s1⟩ := bk_split h2
 obtain ⟨fo, hfo⟩ : ∃ f, findOf ms sym = f := ⟨_, rfl⟩
 unfold oneR at hres
 rw [hfo] at hres
 cases fo with
 | none =>
  dsimp only at hres
  subst hres
  have kF := hide (fun W (hg : Grew w W) => Find_v o ms sym A c ((0, 0, 0), 11) W (hr.up hg) (by omega) (by unfold findR; rw [h2, h5, hfo]; rfl))
  clear hr hr' h1 h2 h3 h4 h5 h6 h7 hs hg hfo l1 s1
  obtain ⟨m1, m2, m3, m4, m5, m6, m7⟩ := m
  dsimp only at *
  go_enter Tryz.func29, Tryz.ntmps29
  go_wp2_with (first | (go_at_call 48; with_reducible refine crv (kF.out _ gw) fun _ _ => ?_; dsimp only) | (go_at_call 49; with_reducible refine crv (kT.out _ gw) fun _ _ => ?_; dsimp only))
  refine bodyPost_ret (v := .tuple #[zv, .int .i64 11]) (by simp [results, Tryz.results29, go_sem]) rfl ?_
  exact Ret.mk' rfl gw
 | some mk =>
  dsimp only at hres
  have kF := hide (fun W (hg : Grew w W) => Find_v o ms sym A c (mk, 0) W (hr.up hg) (by omega) (by unfold findR; rw [h2, h5, hfo]; rfl))
  obtain ⟨t, ht⟩ : ∃ t, trOf ms' mk = t := ⟨_, rfl⟩
  rw [ht] at hres
  obtain ⟨v, hv⟩ : ∃ v, decide (t.2.2 ≤ 9) = v := ⟨_, rfl⟩
  have kT := hide (fun W (hg : Grew w W) => Translate_v o o' ms ms' sym A A' c c' mk t v W (hr.up hg) (hr'.up hg) h2 h3 h5 hfo ht hv)
  obtain ⟨q, hq⟩ : ∃ q, midOf m (x, y) = q := ⟨_, rfl⟩
  obtain ⟨G, hG⟩ : ∃ G, grOf s rad + g = G := ⟨_, rfl⟩
  obtain ⟨ok, hok⟩ : ∃ b, carB m (x, y) = b := ⟨_, rfl⟩
  obtain ⟨u, hu⟩ : ∃ b, dvOk id q.1 q.2 G t.1 = b := ⟨_, rfl⟩
  have kC := hide (fun W => carried_v m s k g (x, y) rad q ok G W h1 h6 hs hg h7 hq hok hG)
  have kO := hide (fun W => tof_v id x y rad sym W)
  have kW := hide (fun W => with_v id x y rad sym q.1 q.2 G W)
  have kV := hide (fun W => dValid_v id q.1 q.2 G t.1 u W hu)
  rw [hq, hG, hok, hu] at hres
  clear hr hr' h1 h2 h3 h4 h5 h6 h7 hs hg hfo l1 s1 ht hq hG hok hu
  obtain ⟨m1, m2, m3, m4, m5, m6, m7⟩ := m
  obtain ⟨y1, y2, y3⟩ := mk
  obtain ⟨t1, t2, t3⟩ := t
  obtain ⟨q1, q2⟩ := q
  dsimp only at *
  by_cases hk : y2 = 5
  ·subst hk
   rw [if_neg (by simp)] at hres
   cases v
   ·have h9 : ¬ t3 ≤ 9 := by simpa using hv
    rw [if_pos h9] at hres
    subst hres
    clear kC kO kW kV hv h9
    dsimp only [cond] at kT
    go_enter Tryz.func29, Tryz.ntmps29
    go_wp2_with (first | (go_at_call 48; with_reducible refine crv (kF.out _ gw) fun _ _ => ?_; dsimp only) | (go_at_call 49; with_reducible refine crv (kT.out _ gw) fun _ _ => ?_; dsimp only))
    refine bodyPost_ret (v := .tuple #[zv, .int .i64 4]) (by simp [results, Tryz.results29, go_sem]) rfl ?_
    exact Ret.mk' rfl gw
   ·have h9 : t3 ≤ 9 := by simpa using hv
    rw [if_neg (by simpa using h9)] at hres
    clear hv h9
    dsimp only [cond] at kT
    have hcase : (ok = false ∧ r = (zv, 3)) ∨ (ok = true ∧ u = false ∧ r = (zv, 3)) ∨ (ok = true ∧ u = true ∧ r = (dv id q1 q2 G t1, 0)) := by
     subst hres
     cases ok <;> cases u <;> simp
    clear hres
    rcases hcase with ⟨rfl, rfl⟩ | ⟨rfl, rfl, rfl⟩ | ⟨rfl, rfl, rfl⟩
    ·go_enter Tryz.func29, Tryz.ntmps29
     go_wp2_with (first | (go_at_call 48; with_reducible refine crv (kF.out _ gw) fun _ _ => ?_; dsimp only) | (go_at_call 49; with_reducible refine crv (kT.out _ gw) fun _ _ => ?_; dsimp only))
     refine wp_region_qas 9 [] [] hm (h := ?_)
     repeat (refine wpSteady_step (fun K hK => ?_); go_simp; first | (refine hK _ ?_; clear hK K) | (apply Exists.intro; refine ⟨fun _ => ?_, hK _ ?_⟩; ((first | (go_at_call 50; with_reducible exact kO.out _) | (go_at_call 187; with_reducible exact kC.out _))); clear hK K))
     refine rq0 fun nq osq => ?_
     try simp only [Act.put, setA]
     try dsimp only
     go_wp2_with (first | (go_at_call 51; with_reducible refine crv (kW.out _) fun _ _ => ?_; dsimp only) | (go_at_call 25; with_reducible refine crv (kV.out _) fun _ _ => ?_; dsimp only))
     refine bodyPost_ret (v := .tuple #[zv, .int .i64 3]) (by simp [results, Tryz.results29, go_sem]) rfl ?_
     exact Ret.mk' rfl gw
    ·go_enter Tryz.func29, Tryz.ntmps29
     go_wp2_with (first | (go_at_call 48; with_reducible refine crv (kF.out _ gw) fun _ _ => ?_; dsimp only) | (go_at_call 49; with_reducible refine crv (kT.out _ gw) fun _ _ => ?_; dsimp only))
     refine wp_region_qas 9 [] [] hm (h := ?_)
     repeat (refine wpSteady_step (fun K hK => ?_); go_simp; first | (refine hK _ ?_; clear hK K) | (apply Exists.intro; refine ⟨fun _ => ?_, hK _ ?_⟩; ((first | (go_at_call 50; with_reducible exact kO.out _) | (go_at_call 187; with_reducible exact kC.out _))); clear hK K))
     refine rq0 fun nq osq => ?_
     try simp only [Act.put, setA]
     try dsimp only
     go_wp2_with (first | (go_at_call 51; with_reducible refine crv (kW.out _) fun _ _ => ?_; dsimp only) | (go_at_call 25; with_reducible refine crv (kV.out _) fun _ _ => ?_; dsimp only))
     refine bodyPost_ret (v := .tuple #[zv, .int .i64 3]) (by simp [results, Tryz.results29, go_sem]) rfl ?_
     exact Ret.mk' rfl gw
    ·go_enter Tryz.func29, Tryz.ntmps29
     go_wp2_with (first | (go_at_call 48; with_reducible refine crv (kF.out _ gw) fun _ _ => ?_; dsimp only) | (go_at_call 49; with_reducible refine crv (kT.out _ gw) fun _ _ => ?_; dsimp only))
     refine wp_region_qas 9 [] [] hm (h := ?_)
     repeat (refine wpSteady_step (fun K hK => ?_); go_simp; first | (refine hK _ ?_; clear hK K) | (apply Exists.intro; refine ⟨fun _ => ?_, hK _ ?_⟩; ((first | (go_at_call 50; with_reducible exact kO.out _) | (go_at_call 187; with_reducible exact kC.out _))); clear hK K))
     refine rq0 fun nq osq => ?_
     try simp only [Act.put, setA]
     try dsimp only
     go_wp2_with (first | (go_at_call 51; with_reducible refine crv (kW.out _) fun _ _ => ?_; dsimp only) | (go_at_call 25; with_reducible refine crv (kV.out _) fun _ _ => ?_; dsimp only))
     refine bodyPost_ret (v := .tuple #[dv id q1 q2 G t1, .int .i64 0]) (by simp [results, Tryz.results29, go_sem]) rfl ?_
     exact Ret.mk' rfl gw
  ·rw [if_pos hk] at hres
   subst hres
   clear kT kC kO kW kV hv
   have hk2 : (y2 == 5) = false := by simpa using hk
   go_enter Tryz.func29, Tryz.ntmps29
   go_wp2_with (first | (go_at_call 48; with_reducible refine crv (kF.out _ gw) fun _ _ => ?_; dsimp only) | (go_at_call 49; with_reducible refine crv (kT.out _ gw) fun _ _ => ?_; dsimp only))
   refine bodyPost_ret (v := .tuple #[zv, .int .i64 12]) (by simp [results, Tryz.results29, go_sem]) rfl ?_
   exact Ret.mk' rfl gw
end Go.Proofs.YtpfpamopmncifaaGreat
