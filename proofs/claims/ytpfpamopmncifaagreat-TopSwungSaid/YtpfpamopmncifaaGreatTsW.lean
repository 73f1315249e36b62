/- Package transport: Feature of a buoy; equal buoys. -/
import Derived.Test.YtpfpamopmncifaaGreatTsV
set_option linter.unusedSimpArgs false
set_option linter.unusedVariables false
set_option maxHeartbeats 4000000
set_option maxRecDepth 100000
namespace Go.Proofs.YtpfpamopmncifaaGreat
open Go.RowKit Go.Sort
attribute [local go_sem] Steady steadyUpon
attribute [local go_sem ↓] hs_dr lt_add_r lt_add_r2 lt_add_r3 lt_add_r4 lt_add_r5 lt_add_r6
attribute [local go_sem] cell?_gd frozen?_gd setCell_gd size_grow tape_grow cell?_grow' frozen?_grow' setCell_grow' grow_grow grow_dr grow_drew dr_dr dr_drew drew_dr dr_alloc dr_setCell dr_cell dr_frozen dr_tape dr_drawn
attribute [local irreducible] wpSteady
theorem tFeat_bad (m : Dm) (o o' : Int) (ms ms' : List Mk) (A A' : Option Addr) (c c' : Nat) (id x y rad sym : Int) (w : World) (hr : Rd w w.heap.size 3 A (ms.map encM)) (hr' : Rd w w.heap.size 3 A' (ms'.map encM)) (hc : ms.length ≤ 100000000000000) (hc' : ms'.length ≤ 100000000000000) (h : (dmOk m && (bkOk o ms && bkOk o' ms')) = false) :
  Calls Tryz.prog 10 #[dmv m, bkv o A ms.length c, bkv o' A' ms'.length c', dv id x y rad sym] w (Ret w (.tuple #[zv, .int .i64 1])) := by
 have hm := hmix
 have k1 := hide (fun W (hg : Grew w W) => books_v m o o' ms ms' A A' c c' _ _ _ W (hr.up hg) (hr'.up hg) hc hc' rfl rfl rfl)
 rw [h] at k1
 clear hr hr' h
 obtain ⟨m1, m2, m3, m4, m5, m6, m7⟩ := m
 go_enter Tryz.func10, Tryz.ntmps10
 go_wp2_with (go_at_call 27; with_reducible refine crv (k1.out _ gw) fun _ _ => ?_; dsimp only)
 refine bodyPost_ret (v := .tuple #[zv, .int .i64 1]) (by simp [results, Tryz.results10, go_sem]) rfl ?_
 exact Ret.mk' rfl gw
theorem tFeat_good (m : Dm) (s g : Int) (o o' : Int) (ms ms' : List Mk) (A A' : Option Addr) (c c' : Nat) (id x y rad sym : Int) (r : Value × Int) (w : World) (hr : Rd w w.heap.size 3 A (ms.map encM)) (hr' : Rd w w.heap.size 3 A' (ms'.map encM)) (hc : ms.length ≤ 100000000000000) (hc' : ms'.length ≤ 100000000000000) (h : (dmOk m && (bkOk o ms && bkOk o' ms')) = true) (h4 : dvOk id x y rad sym = true)
  (hs : rootP (strOf m) s) (hg : rootP (2 * nTo m 4 * nTo m 4) g) (hs5 : s ≤ 5000000) (hg5 : g ≤ 5000000) (hres : oneR m s g ms ms' id x y rad sym = r) :
  Calls Tryz.prog 10 #[dmv m, bkv o A ms.length c, bkv o' A' ms'.length c', dv id x y rad sym] w (Ret w (.tuple #[r.1, .int .i64 r.2])) := by
 have hm := hmix
 have k1 := hide (fun W (hg : Grew w W) => books_v m o o' ms ms' A A' c c' _ _ _ W (hr.up hg) (hr'.up hg) hc hc' rfl rfl rfl)
 rw [h] at k1
 rw [Bool.and_eq_true, Bool.and_eq_true] at h
 have k2 := hide (fun W => dValid_v id x y rad sym true W h4)
 have k3 := hide (fun W => carry_v m s g W h.1 hs hg)
 obtain ⟨K, hK⟩ : ∃ K, (detOf m).tdiv s = K := ⟨_, rfl⟩
 rw [hK] at k3
 have k4 := hide (fun W (hgr : Grew w W) => one_c m s K g o o' ms ms' A A' c c' id x y rad sym r W (hr.up hgr) (hr'.up hgr) h.1 h.2.1 h.2.2 h4 ⟨hs.1, hs5⟩ ⟨hg.1, hg5⟩ hres)
 have hv : ∃ a0 a1 a2 a3 a4 a5 : Int, r.1 = .agg #[.int .i64 a0, .int .i64 a1, .int .i64 a2, .int .i64 a3, .int .i64 a4, .slice none 0 0, .int .i64 0, .int .i64 a5, .slice none 0 0] := by
  subst hres
  unfold oneR
  split
  ·exact ⟨_, _, _, _, _, _, rfl⟩
  ·split
   ·exact ⟨_, _, _, _, _, _, rfl⟩
   ·split
    ·exact ⟨_, _, _, _, _, _, rfl⟩
    ·split
     ·exact ⟨_, _, _, _, _, _, rfl⟩
     ·exact ⟨_, _, _, _, _, _, rfl⟩
 obtain ⟨a0, a1, a2, a3, a4, a5, hv⟩ := hv
 obtain ⟨rv, e⟩ := r
 dsimp only at hv k4 ⊢
 subst hv
 clear hr hr' h h4 hs hg hres hK hs5 hg5
 obtain ⟨m1, m2, m3, m4, m5, m6, m7⟩ := m
 go_enter Tryz.func10, Tryz.ntmps10
 go_wp2_with (first | (go_at_call 27; with_reducible refine crv (k1.out _ gw) fun _ _ => ?_; dsimp only) | (go_at_call 25; with_reducible refine crv (k2.out _) fun _ _ => ?_; dsimp only))
 refine wp_region_qas 8 [] [] hm (h := ?_)
 repeat (refine wpSteady_step (fun K hK => ?_); go_simp; first | (refine hK _ ?_; clear hK K) | (apply Exists.intro; refine ⟨fun _ => ?_, hK _ ?_⟩; ((first | (go_at_call 28; with_reducible exact k3.out _) | (go_at_call 29; with_reducible exact k4.out _ gw))); clear hK K))
 refine rq0 fun nq osq => ?_
 try simp only [Act.put, setA]
 try dsimp only
 go_wp2_with fail
 refine bodyPost_ret (v := .tuple #[.agg #[.int .i64 a0, .int .i64 a1, .int .i64 a2, .int .i64 a3, .int .i64 a4, .slice none 0 0, .int .i64 0, .int .i64 a5, .slice none 0 0], .int .i64 e]) (by simp [results, Tryz.results10, go_sem]) rfl ?_
 exact Ret.mk' rfl gw
theorem pts_nil (w : World) : Calls Tryz.prog 34 #[.slice none 0 0, .slice none 0 0] w (Ret w (.bool true)) := by
 have hm := hmix
 go_enter Tryz.func34, Tryz.ntmps34
 go_wp2_with fail
 go_loopw [5] (fun i wr => i = .int .i64 0 ∧ Grew w wr) (fun _ _ => 0)
 case atStart => exact ⟨rfl, Grew.refl _⟩
 case round =>
  obtain ⟨rfl, hg⟩ := hrel
  go_wp2_with fail
  go_ret
  exact Ret.mk' rfl hg
theorem scs_nil (w : World) : Calls Tryz.prog 35 #[.slice none 0 0, .slice none 0 0] w (Ret w (.bool true)) := by
 have hm := hmix
 go_enter Tryz.func35, Tryz.ntmps35
 go_wp2_with fail
 go_loopw [5] (fun i wr => i = .int .i64 0 ∧ Grew w wr) (fun _ _ => 0)
 case atStart => exact ⟨rfl, Grew.refl _⟩
 case round =>
  obtain ⟨rfl, hg⟩ := hrel
  go_wp2_with fail
  go_ret
  exact Ret.mk' rfl hg
theorem same_d (id x y rad sym : Int) (w : World) : Calls Tryz.prog 13 #[dv id x y rad sym, dv id x y rad sym] w (Ret w (.bool true)) := by
 have hm := hmix
 go_enter Tryz.func13, Tryz.ntmps13
 go_wp2_with (first | (go_at_call 34; with_reducible refine crv (pts_nil _) fun _ _ => ?_; dsimp only) | (go_at_call 35; with_reducible refine crv (scs_nil _) fun _ _ => ?_; dsimp only))
 go_ret
 exact Ret.mk' rfl gw
end Go.Proofs.YtpfpamopmncifaaGreat
