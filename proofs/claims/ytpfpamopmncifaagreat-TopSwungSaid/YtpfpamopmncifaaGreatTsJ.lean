/- Package datum: Valid, det, read, at, Fits. -/
import Derived.Test.YtpfpamopmncifaaGreatTsI
set_option linter.unusedSimpArgs false
set_option linter.unusedVariables false
set_option maxHeartbeats 4000000
set_option maxRecDepth 100000
namespace Go.Proofs.YtpfpamopmncifaaGreat
open Go.RowKit Go.Sort
attribute [local go_sem] Steady steadyUpon
attribute [local go_sem ↓] hs_dr lt_add_r lt_add_r2 lt_add_r3 lt_add_r4 lt_add_r5 lt_add_r6
attribute [local go_sem] cell?_gd frozen?_gd setCell_gd size_grow tape_grow cell?_grow' frozen?_grow' setCell_grow' grow_grow grow_dr grow_drew dr_dr dr_drew drew_dr dr_alloc dr_setCell dr_cell dr_frozen dr_tape dr_drawn
attribute [local irreducible] wpSteady
structure Dm where
 a : Int
 b : Int
 c : Int
 d : Int
 e : Int
 f : Int
 r : Int
abbrev dmv (m : Dm) : Value := .agg #[.int .i64 m.a, .int .i64 m.b, .int .i64 m.c, .int .i64 m.d, .int .i64 m.e, .int .i64 m.f, .int .i64 m.r]
def partB (x : Int) : Bool := decide (-2000000 ≤ x ∧ x ≤ 2000000)
def partsB (m : Dm) : Bool := decide ((-2000000 ≤ m.a ∧ m.a ≤ 2000000) ∧ (-2000000 ≤ m.b ∧ m.b ≤ 2000000) ∧ (-2000000 ≤ m.d ∧ m.d ≤ 2000000) ∧ (-2000000 ≤ m.e ∧ m.e ≤ 2000000))
def detOf (m : Dm) : Int := m.a * m.e - m.b * m.d
def restB (m : Dm) : Bool := decide (250000000000 ≤ detOf m ∧ -100000 ≤ min m.c m.f ∧ max m.c m.f ≤ 100000 ∧ 0 ≤ m.r ∧ m.r ≤ 1000)
def dmOk (m : Dm) : Bool := partsB m && restB m
theorem wri {z : Int} (h : -9223372036854775808 ≤ z ∧ z ≤ 9223372036854775807) : IntKind.i64.wrap z = z := by unfold IntKind.wrap; simp [IntKind.bits, IntKind.signed]; omega
theorem parts_bd {m : Dm} (h : partsB m = true) : (-2000000 ≤ m.a ∧ m.a ≤ 2000000) ∧ (-2000000 ≤ m.b ∧ m.b ≤ 2000000) ∧ (-2000000 ≤ m.d ∧ m.d ≤ 2000000) ∧ (-2000000 ≤ m.e ∧ m.e ≤ 2000000) := by
 simpa [partsB] using h
theorem dm_bd {m : Dm} (h : dmOk m = true) : partsB m = true ∧ 250000000000 ≤ detOf m ∧ (-100000 ≤ m.c ∧ m.c ≤ 100000) ∧ (-100000 ≤ m.f ∧ m.f ≤ 100000) ∧ 0 ≤ m.r ∧ m.r ≤ 1000 := by
 unfold dmOk at h
 rw [Bool.and_eq_true] at h
 refine ⟨h.1, ?_⟩
 have := h.2
 unfold restB at this
 rw [decide_eq_true_eq] at this
 omega
theorem det_v (m : Dm) (w : World) (h : partsB m = true) : Calls Tryz.prog 52 #[dmv m] w (Ret w (.int .i64 (detOf m))) := by
 have hm := hmix
 obtain ⟨h1, h2, h3, h4⟩ := parts_bd h
 have b1 := mul_bd (a := m.a) (b := m.e) 2000000 2000000 h1 h4
 have b2 := mul_bd (a := m.b) (b := m.d) 2000000 2000000 h2 h3
 unfold detOf
 have e1 : IntKind.i64.wrap (m.a * m.e) = m.a * m.e := wri (by omega)
 have e2 : IntKind.i64.wrap (m.b * m.d) = m.b * m.d := wri (by omega)
 have e3 : IntKind.i64.wrap (m.a * m.e - m.b * m.d) = m.a * m.e - m.b * m.d := wri (by omega)
 clear h b1 b2
 go_enter Tryz.func52, Tryz.ntmps52
 go_wp2_with fail
 go_ret
 exact Ret.mk' rfl gw
def mpart (m : Dm) (k : Nat) : Int := match k with | 0 => m.a | 1 => m.b | 2 => m.d | _ => m.e
theorem parts_no {m : Dm} {k : Nat} (hk : k < 4) (h : mpart m k < -2000000 ∨ 2000000 < mpart m k) : dmOk m = false := by
 have : partsB m = false := by
  unfold partsB
  rw [decide_eq_false_iff_not]
  have hc : k = 0 ∨ k = 1 ∨ k = 2 ∨ k = 3 := by omega
  rcases hc with rfl | rfl | rfl | rfl
  all_goals first | (replace h : m.a < -2000000 ∨ 2000000 < m.a := h; omega) | (replace h : m.b < -2000000 ∨ 2000000 < m.b := h; omega) | (replace h : m.d < -2000000 ∨ 2000000 < m.d := h; omega) | (replace h : m.e < -2000000 ∨ 2000000 < m.e := h; omega)
 unfold dmOk
 rw [this, Bool.false_and]
theorem run_ix4_0 (a b c d : Int) (w : World) : (Instr.index 122 (.agg #[.int .i64 a, .int .i64 b, .int .i64 c, .int .i64 d]) (.int .i64 0)).run Tryz.prog w = .ok (.int .i64 a) w := by
 simp [Instr.index, run_underlying Tryz.underlying122, asIntOf, go_sem]
theorem run_ix4_1 (a b c d : Int) (w : World) : (Instr.index 122 (.agg #[.int .i64 a, .int .i64 b, .int .i64 c, .int .i64 d]) (.int .i64 1)).run Tryz.prog w = .ok (.int .i64 b) w := by
 simp [Instr.index, run_underlying Tryz.underlying122, asIntOf, go_sem]
theorem run_ix4_2 (a b c d : Int) (w : World) : (Instr.index 122 (.agg #[.int .i64 a, .int .i64 b, .int .i64 c, .int .i64 d]) (.int .i64 2)).run Tryz.prog w = .ok (.int .i64 c) w := by
 simp [Instr.index, run_underlying Tryz.underlying122, asIntOf, go_sem]
theorem run_ix4_3 (a b c d : Int) (w : World) : (Instr.index 122 (.agg #[.int .i64 a, .int .i64 b, .int .i64 c, .int .i64 d]) (.int .i64 3)).run Tryz.prog w = .ok (.int .i64 d) w := by
 simp [Instr.index, run_underlying Tryz.underlying122, asIntOf, go_sem]
attribute [local go_sem] run_ix4_0 run_ix4_1 run_ix4_2 run_ix4_3
theorem dmValid_v (m : Dm) (r : Bool) (w : World) (h : dmOk m = r) : Calls Tryz.prog 30 #[dmv m] w (Ret w (.bool r)) := by
 have hm := hmix
 have kd := hide (fun W (h : partsB m = true) => det_v m W h)
 obtain ⟨D, hD⟩ : ∃ D, detOf m = D := ⟨_, rfl⟩
 rw [hD] at kd
 have HH := hide h
 have HD := hide hD
 clear h hD
 go_enter Tryz.func30, Tryz.ntmps30
 go_wp2_with fail
 refine wp_name ?_
 intro W0 hW
 have hg0 : Grew w W0 := by rw [← hW]; exact gw
 have hb0 : W0.heap[w.heap.size]? = some (.cells #[.int .i64 m.a, .int .i64 m.b, .int .i64 m.c, .int .i64 m.d, .int .i64 m.e, .int .i64 m.f, .int .i64 m.r] 32 (0, 0)) := by rw [← hW]; exact heap_alloc_at _ _ _ (by simp)
 have HG := hide hg0
 have HB := hide hb0
 clear hW hg0 hb0
 go_loopw [14] (fun i wr => ∃ k : Nat, k ≤ 4 ∧ i = .int .i64 k ∧ Grew W0 wr ∧ AppG (∀ j, j < k → -2000000 ≤ mpart m j ∧ mpart m j ≤ 2000000)) (fun i _ => 4 - (intOf i).toNat)
 case atStart => exact ⟨0, by omega, rfl, Grew.refl _, fun j h => by omega⟩
 case round =>
  obtain ⟨k, hk, rfl, hg, hall⟩ := hrel
  have HG2 := hide hg
  have HA := hide hall.stop
  clear hg hall
  by_cases hlt : k < 4
  ·have hno := hide (fun h => parts_no (m := m) hlt h)
   have hyes := hide (fun (h : -2000000 ≤ mpart m k ∧ mpart m k ≤ 2000000) => (fun j (hj : j < k + 1) => if e : j = k then e ▸ h else HA.out j (by omega) : ∀ j, j < k + 1 → -2000000 ≤ mpart m j ∧ mpart m j ≤ 2000000))
   obtain ⟨x, hx⟩ : ∃ x, mpart m k = x := ⟨_, rfl⟩
   rw [hx] at hno hyes
   have hcase : x < -2000000 ∨ (¬ x < -2000000 ∧ 2000000 < x) ∨ (¬ x < -2000000 ∧ ¬ 2000000 < x) := by omega
   have hc : k = 0 ∨ k = 1 ∨ k = 2 ∨ k = 3 := by omega
   rcases hcase with h1 | ⟨h1, h2⟩ | ⟨h1, h2⟩
   ·obtain rfl : r = false := by rw [← HH.out]; exact hno.out (.inl h1)
    clear hyes hno
    rcases hc with rfl | rfl | rfl | rfl
    all_goals
     first | (replace hx : m.a = x := hx) | (replace hx : m.b = x := hx) | (replace hx : m.d = x := hx) | (replace hx : m.e = x := hx)
     go_wp2_with fail
     go_ret
     exact Ret.mk' rfl (HG.out.trans (HG2.out.trans gw))
   ·obtain rfl : r = false := by rw [← HH.out]; exact hno.out (.inr h2)
    clear hyes hno
    rcases hc with rfl | rfl | rfl | rfl
    all_goals
     first | (replace hx : m.a = x := hx) | (replace hx : m.b = x := hx) | (replace hx : m.d = x := hx) | (replace hx : m.e = x := hx)
     go_wp2_with fail
     go_ret
     exact Ret.mk' rfl (HG.out.trans (HG2.out.trans gw))
   ·have HY := hide (hyes.out (by omega))
    clear hyes hno
    rcases hc with rfl | rfl | rfl | rfl
    all_goals
     first | (replace hx : m.a = x := hx) | (replace hx : m.b = x := hx) | (replace hx : m.d = x := hx) | (replace hx : m.e = x := hx)
     go_wp2_with fail
     go_roundw
     case rel => first | exact ⟨1, by omega, rfl, HG2.out.trans gw, HY.out⟩ | exact ⟨2, by omega, rfl, HG2.out.trans gw, HY.out⟩ | exact ⟨3, by omega, rfl, HG2.out.trans gw, HY.out⟩ | exact ⟨4, by omega, rfl, HG2.out.trans gw, HY.out⟩
     case measure => simp [intOf]
  ·obtain rfl : k = 4 := by omega
   have hp : partsB m = true := by
    unfold partsB
    rw [decide_eq_true_eq]
    exact ⟨HA.out 0 (by omega), HA.out 1 (by omega), HA.out 2 (by omega), HA.out 3 (by omega)⟩
   have kd2 := hide (fun W => kd.out W hp)
   have hr : r = restB m := by rw [← HH.out]; unfold dmOk; rw [hp, Bool.true_and]
   unfold restB at hr
   rw [HD.out] at hr
   have hB2 := (HG2.out.below.block _ (blk_lt HB.out)).trans HB.out
   have c0 := blk_cell hB2 0
   have c1 := blk_cell hB2 1
   have c2 := blk_cell hB2 2
   have c3 := blk_cell hB2 3
   have c4 := blk_cell hB2 4
   have c5 := blk_cell hB2 5
   have c6 := blk_cell hB2 6
   have lb := blk_lt hB2
   clear kd hp hB2
   have hcase : (¬ 250000000000 ≤ D ∧ r = false) ∨ (250000000000 ≤ D ∧ ¬ -100000 ≤ min m.c m.f ∧ r = false) ∨ (250000000000 ≤ D ∧ -100000 ≤ min m.c m.f ∧ ¬ max m.c m.f ≤ 100000 ∧ r = false) ∨ (250000000000 ≤ D ∧ -100000 ≤ min m.c m.f ∧ max m.c m.f ≤ 100000 ∧ ¬ 0 ≤ m.r ∧ r = false) ∨ (250000000000 ≤ D ∧ -100000 ≤ min m.c m.f ∧ max m.c m.f ≤ 100000 ∧ 0 ≤ m.r ∧ ¬ m.r ≤ 1000 ∧ r = false) ∨ (250000000000 ≤ D ∧ -100000 ≤ min m.c m.f ∧ max m.c m.f ≤ 100000 ∧ 0 ≤ m.r ∧ m.r ≤ 1000 ∧ r = true) := by
    subst hr
    simp only [decide_eq_false_iff_not, decide_eq_true_eq]
    omega
   clear hr
   rcases hcase with ⟨h1, rfl⟩ | ⟨h1, h2, rfl⟩ | ⟨h1, h2, h3, rfl⟩ | ⟨h1, h2, h3, h4, rfl⟩ | ⟨h1, h2, h3, h4, h5, rfl⟩ | ⟨h1, h2, h3, h4, h5, rfl⟩
   all_goals
    go_wp2_with (go_at_call 52; with_reducible refine crv (kd2.out _) fun _ _ => ?_; dsimp only)
    all_goals go_ret
    all_goals exact Ret.mk' (by first | rfl | simp) (HG.out.trans (HG2.out.trans gw))
abbrev rowv (x y c : Int) : Value := .agg #[.int .i64 x, .int .i64 y, .int .i64 c]
theorem read_v (m : Dm) (w : World) : Calls Tryz.prog 31 #[dmv m] w (Ret w (dmv m)) := by
 have hm := hmix
 go_enter Tryz.func31, Tryz.ntmps31
 go_wp2_with fail
 refine bodyPost_ret (v := dmv m) (by simp [results, Tryz.results31, go_sem]) rfl ?_
 exact Ret.mk' rfl gw
def atOf (x y c : Int) (p : Pt) : Int := x * p.1 + y * p.2 + 1000000 * c
theorem at_bd {x y c : Int} {p : Pt} (hx : -2000000 ≤ x ∧ x ≤ 2000000) (hy : -2000000 ≤ y ∧ y ≤ 2000000) (hc : -100000 ≤ c ∧ c ≤ 100000) (hp : p.ok = true) : (-2000000000000 ≤ x * p.1 ∧ x * p.1 ≤ 2000000000000) ∧ (-2000000000000 ≤ y * p.2 ∧ y * p.2 ≤ 2000000000000) ∧ (-4100000000000 ≤ atOf x y c p ∧ atOf x y c p ≤ 4100000000000) := by
 have hb := pl_bd hp
 have b1 := mul_bd (a := x) (b := p.1) 2000000 1000000 hx hb.1
 have b2 := mul_bd (a := y) (b := p.2) 2000000 1000000 hy hb.2
 unfold atOf
 omega
theorem rowAt_v (x y c : Int) (p : Pt) (w : World) (hx : -2000000 ≤ x ∧ x ≤ 2000000) (hy : -2000000 ≤ y ∧ y ≤ 2000000) (hc : -100000 ≤ c ∧ c ≤ 100000) (hp : p.ok = true) :
  Calls Tryz.prog 32 #[rowv x y c, pt p.1 p.2] w (Ret w (.int .i64 (atOf x y c p))) := by
 have hm := hmix
 have hb := at_bd hx hy hc hp
 unfold atOf at *
 have e1 : IntKind.i64.wrap (x * p.1) = x * p.1 := wri (by omega)
 have e2 : IntKind.i64.wrap (y * p.2) = y * p.2 := wri (by omega)
 have e3 : IntKind.i64.wrap (x * p.1 + y * p.2) = x * p.1 + y * p.2 := wri (by omega)
 have e4 : IntKind.i64.wrap (1000000 * c) = 1000000 * c := wri (by omega)
 have e5 : IntKind.i64.wrap (x * p.1 + y * p.2 + 1000000 * c) = x * p.1 + y * p.2 + 1000000 * c := wri (by omega)
 clear hx hy hc hp hb
 go_enter Tryz.func32, Tryz.ntmps32
 go_wp2_with fail
 go_ret
 exact Ret.mk' rfl gw
end Go.Proofs.YtpfpamopmncifaaGreat
