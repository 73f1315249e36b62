/- Package datum: Fits, Carry, Apply; package span: ValidBox. -/
import Derived.Test.YtpfpamopmncifaaGreatTsJ
set_option linter.unusedSimpArgs false
set_option linter.unusedVariables false
set_option maxHeartbeats 4000000
set_option maxRecDepth 100000
namespace Go.Proofs.YtpfpamopmncifaaGreat
open Go.RowKit Go.Sort
attribute [local go_sem] Steady steadyUpon
attribute [local go_sem ↓] hs_dr lt_add_r lt_add_r2 lt_add_r3 lt_add_r4 lt_add_r5 lt_add_r6
attribute [local go_sem] cell?_gd frozen?_gd setCell_gd size_grow tape_grow cell?_grow' frozen?_grow' setCell_grow' grow_grow grow_dr grow_drew dr_dr dr_drew drew_dr dr_alloc dr_setCell dr_cell dr_frozen dr_tape dr_drawn
attribute [local irreducible] wpSteady
theorem mx_if (x y : Int) : (if y > x then y else x) = max x y := by split <;> omega
theorem mn_if (x y : Int) : (if y < x then y else x) = min x y := by split <;> omega
theorem run_max2i (P : Program) (ats : Array TypeId) (ty : TypeId) (x y : Int) (w : World) : (Builtin.max_ ats ty #[.int .i64 x, .int .i64 y]).run P w = .ok (.int .i64 (max x y)) w := by
 rw [← mx_if]; rfl
theorem run_min2i (P : Program) (ats : Array TypeId) (ty : TypeId) (x y : Int) (w : World) : (Builtin.min_ ats ty #[.int .i64 x, .int .i64 y]).run P w = .ok (.int .i64 (min x y)) w := by
 rw [← mn_if]; rfl
theorem run_max4i (P : Program) (ats : Array TypeId) (ty : TypeId) (x y z t : Int) (w : World) : (Builtin.max_ ats ty #[.int .i64 x, .int .i64 y, .int .i64 z, .int .i64 t]).run P w = .ok (.int .i64 (max (max (max x y) z) t)) w := by
 rw [← mx_if, ← mx_if, ← mx_if]; rfl
attribute [local go_sem ↓] run_max2i run_min2i run_max4i
def fitB (m : Dm) (p q : Pt) : Bool := decide ((-(1000000 * m.r) ≤ 1000000 * q.1 - atOf m.a m.b m.c p ∧ 1000000 * q.1 - atOf m.a m.b m.c p ≤ 1000000 * m.r) ∧ (-(1000000 * m.r) ≤ 1000000 * q.2 - atOf m.d m.e m.f p ∧ 1000000 * q.2 - atOf m.d m.e m.f p ≤ 1000000 * m.r))
def fitsOf (m : Dm) (p q : Pt) : Bool × Int := if (dmOk m && (p.ok && q.ok)) = true then (fitB m p q, 0) else (false, 1)
theorem fit_eq (x y R : Int) : decide (max x (max (-x) (max y (-y))) ≤ R) = decide ((-R ≤ x ∧ x ≤ R) ∧ (-R ≤ y ∧ y ≤ R)) := by
 rw [decide_eq_decide]; omega
theorem fits_bad (m : Dm) (p q : Pt) (w : World) (h : (dmOk m && (p.ok && q.ok)) = false) : Calls Tryz.prog 11 #[dmv m, pt p.1 p.2, pt q.1 q.2] w (Ret w (.tuple #[.bool false, .int .i64 1])) := by
 have hm := hmix
 obtain ⟨a, ha⟩ : ∃ a, dmOk m = a := ⟨_, rfl⟩
 obtain ⟨b, hb⟩ : ∃ a, p.ok = a := ⟨_, rfl⟩
 obtain ⟨c, hc⟩ : ∃ a, q.ok = a := ⟨_, rfl⟩
 have k1 := hide (fun W => dmValid_v m a W ha)
 have k2 := hide (fun W => planeValid_v p.1 p.2 b W hb)
 have k3 := hide (fun W => planeValid_v q.1 q.2 c W hc)
 rw [ha, hb, hc] at h
 obtain ⟨p1, p2⟩ := p
 obtain ⟨q1, q2⟩ := q
 dsimp only at k2 k3 ⊢
 clear ha hb hc
 have hcase : a = false ∨ (a = true ∧ b = false) ∨ (a = true ∧ b = true ∧ c = false) := by cases a <;> cases b <;> cases c <;> simp at h ⊢
 clear h
 rcases hcase with rfl | ⟨rfl, rfl⟩ | ⟨rfl, rfl, rfl⟩
 all_goals
  go_enter Tryz.func11, Tryz.ntmps11
  go_wp2_with (first | (go_at_call 30; with_reducible refine crv (k1.out _) fun _ _ => ?_; dsimp only) | (go_at_call 21; first | (with_reducible refine crv (k2.out _) fun _ _ => ?_) | (with_reducible refine crv (k3.out _) fun _ _ => ?_); dsimp only))
  go_ret2
  exact Ret.mk' rfl gw
theorem fits_good (m : Dm) (p q : Pt) (r : Bool) (w : World) (h1 : dmOk m = true) (h2 : p.ok = true) (h3 : q.ok = true) (hr : fitB m p q = r) : Calls Tryz.prog 11 #[dmv m, pt p.1 p.2, pt q.1 q.2] w (Ret w (.tuple #[.bool r, .int .i64 0])) := by
 have hm := hmix
 obtain ⟨hp, _, d1, d2, d3⟩ := dm_bd h1
 obtain ⟨i1, i2, i3, i4⟩ := parts_bd hp
 have q9 := pl_bd h3
 have x1 := at_bd i1 i2 d1 h2
 have x2 := at_bd i3 i4 d2 h2
 have k1 := hide (fun W => dmValid_v m true W h1)
 have k2 := hide (fun W => planeValid_v p.1 p.2 true W h2)
 have k3 := hide (fun W => planeValid_v q.1 q.2 true W h3)
 have k4 := hide (fun W => read_v m W)
 have k5 := hide (fun W => rowAt_v m.a m.b m.c p W i1 i2 d1 h2)
 have k6 := hide (fun W => rowAt_v m.d m.e m.f p W i3 i4 d2 h2)
 unfold fitB at hr
 obtain ⟨u, hu⟩ : ∃ u, atOf m.a m.b m.c p = u := ⟨_, rfl⟩
 obtain ⟨v, hv⟩ : ∃ u, atOf m.d m.e m.f p = u := ⟨_, rfl⟩
 rw [hu, hv] at hr
 rw [hu] at x1 k5
 rw [hv] at x2 k6
 clear hu hv h1 h2 h3 hp i1 i2 i3 i4
 obtain ⟨m1, m2, m3, m4, m5, m6, m7⟩ := m
 obtain ⟨p1, p2⟩ := p
 obtain ⟨q1, q2⟩ := q
 dsimp only at *
 have e1 : IntKind.i64.wrap (1000000 * q1) = 1000000 * q1 := wri (by omega)
 have e2 : IntKind.i64.wrap (1000000 * q2) = 1000000 * q2 := wri (by omega)
 have e3 : IntKind.i64.wrap (1000000 * q1 - u) = 1000000 * q1 - u := wri (by omega)
 have e4 : IntKind.i64.wrap (1000000 * q2 - v) = 1000000 * q2 - v := wri (by omega)
 have e5 : IntKind.i64.wrap (-(1000000 * q1 - u)) = -(1000000 * q1 - u) := wri (by omega)
 have e6 : IntKind.i64.wrap (-(1000000 * q2 - v)) = -(1000000 * q2 - v) := wri (by omega)
 have e7 : IntKind.i64.wrap (1000000 * m7) = 1000000 * m7 := wri (by omega)
 have HR := hide hr
 clear x1 x2 q9 d1 d2 d3 hr
 go_enter Tryz.func11, Tryz.ntmps11
 go_wp2_with (first | (go_at_call 30; with_reducible refine crv (k1.out _) fun _ _ => ?_; dsimp only) | (go_at_call 31; with_reducible refine crv (k4.out _) fun _ _ => ?_; dsimp only) | (go_at_call 21; first | (with_reducible refine crv (k2.out _) fun _ _ => ?_) | (with_reducible refine crv (k3.out _) fun _ _ => ?_); dsimp only))
 refine wp_region_qas 20 [] [] hm (h := ?_)
 repeat (refine wpSteady_step (fun K hK => ?_); go_simp; first | (refine hK _ ?_; clear hK K) | (apply Exists.intro; refine ⟨fun _ => ?_, hK _ ?_⟩; ((go_at_call 32; first | with_reducible exact k5.out _ | with_reducible exact k6.out _)); clear hK K))
 refine rq0 fun nq osq => ?_
 try simp only [Act.put, setA]
 try dsimp only
 go_wp2_with fail
 go_ret2
 exact Ret.mk' (congrArg (fun b => Value.tuple #[.bool b, .int .i64 0]) ((fit_eq _ _ _).trans HR.out)) gw
theorem fits_v (m : Dm) (p q : Pt) (r : Bool × Int) (w : World) (h : fitsOf m p q = r) : Calls Tryz.prog 11 #[dmv m, pt p.1 p.2, pt q.1 q.2] w (Ret w (.tuple #[.bool r.1, .int .i64 r.2])) := by
 subst h
 unfold fitsOf
 cases h : dmOk m && (p.ok && q.ok)
 ·exact fits_bad m p q w h
 ·simp only [Bool.and_eq_true] at h
  exact fits_good m p q _ w h.1 h.2.1 h.2.2 rfl
/-- Rounded down and up, by a million. -/
theorem down_v (a : Int) (w : World) (h : -100000000000000000 ≤ a ∧ a ≤ 100000000000000000) : Calls Tryz.prog 154 #[.int .i64 a, .int .i64 1000000] w (Ret w (.int .i64 (a / 1000000))) := by
 have hm := hmix
 obtain ⟨q, hq⟩ : ∃ q, a.tdiv 1000000 = q := ⟨_, rfl⟩
 obtain ⟨r, hr⟩ : ∃ q, a.tmod 1000000 = q := ⟨_, rfl⟩
 have h1 := Int.mul_tdiv_add_tmod a 1000000
 have h2 := Int.tmod_lt_of_pos a (b := 1000000) (by omega)
 have h3 : -1000000 < r := by have := Int.tmod_lt_of_pos (-a) (b := 1000000) (by omega); rw [Int.neg_tmod, hr] at this; omega
 rw [hq, hr] at h1
 rw [hr] at h2
 have e1 : IntKind.i64.wrap q = q := wri (by omega)
 have e2 : IntKind.i64.wrap r = r := wri (by omega)
 have e3 : IntKind.i64.wrap (q - 1) = q - 1 := wri (by omega)
 by_cases hlt : r < 0
 ·rw [show a / 1000000 = q - 1 by omega]
  clear h h1 h2 h3
  go_enter Tryz.func154, Tryz.ntmps154
  go_wp2_with fail
  go_ret
  exact Ret.mk' rfl gw
 ·have hge : 0 ≤ r ∨ r ≤ 0 := by omega
  have hq2 : a / 1000000 = q := by
   omega
  rw [hq2]
  clear h h1 h2 h3
  go_enter Tryz.func154, Tryz.ntmps154
  go_wp2_with fail
  go_ret
  exact Ret.mk' rfl gw
def upOf (a : Int) : Int := -((-a) / 1000000)
theorem up_v (a : Int) (w : World) (h : -100000000000000000 ≤ a ∧ a ≤ 100000000000000000) : Calls Tryz.prog 155 #[.int .i64 a, .int .i64 1000000] w (Ret w (.int .i64 (upOf a))) := by
 have hm := hmix
 have kd := hide (fun W => down_v (-a) W (by omega))
 unfold upOf
 obtain ⟨q, hq⟩ : ∃ q, (-a) / 1000000 = q := ⟨_, rfl⟩
 rw [hq] at kd ⊢
 have e1 : IntKind.i64.wrap (-a) = -a := wri (by omega)
 have e2 : IntKind.i64.wrap (-q) = -q := wri (by omega)
 clear hq h
 go_enter Tryz.func155, Tryz.ntmps155
 go_wp2_with (go_at_call 154; with_reducible refine crv (kd.out _) fun _ _ => ?_; dsimp only)
 go_ret
 exact Ret.mk' rfl gw
/-- One place as a box. -/
abbrev bx4 (a b c d : Int) : Value := .agg #[.int .i64 a, .int .i64 b, .int .i64 c, .int .i64 d]
theorem one_v (x y : Int) (w : World) : Calls Tryz.prog 142 #[pt x y] w (Ret w (bx4 x x y y)) := by
 have hm := hmix
 go_enter Tryz.func142, Tryz.ntmps142
 go_wp2_with fail
 refine bodyPost_ret (v := bx4 x x y y) (by simp [results, Tryz.results142, go_sem]) rfl ?_
 exact Ret.mk' rfl gw
theorem rleast_v (x y c : Int) (p : Pt) (w : World) (hx : -2000000 ≤ x ∧ x ≤ 2000000) (hy : -2000000 ≤ y ∧ y ≤ 2000000) (hc : -100000 ≤ c ∧ c ≤ 100000) (hp : p.ok = true) :
  Calls Tryz.prog 157 #[rowv x y c, bx4 p.1 p.1 p.2 p.2] w (Ret w (.int .i64 (atOf x y c p))) := by
 have hm := hmix
 have hb := at_bd hx hy hc hp
 unfold atOf at *
 have e1 : IntKind.i64.wrap (x * p.1) = x * p.1 := wri (by omega)
 have e2 : IntKind.i64.wrap (y * p.2) = y * p.2 := wri (by omega)
 have e3 : IntKind.i64.wrap (x * p.1 + y * p.2) = x * p.1 + y * p.2 := wri (by omega)
 have e4 : IntKind.i64.wrap (1000000 * c) = 1000000 * c := wri (by omega)
 have e5 : IntKind.i64.wrap (x * p.1 + y * p.2 + 1000000 * c) = x * p.1 + y * p.2 + 1000000 * c := wri (by omega)
 clear hx hy hc hp hb
 obtain ⟨p1, p2⟩ := p
 dsimp only at *
 have m1 := Int.min_self (x * p1)
 have m2 := Int.min_self (y * p2)
 go_enter Tryz.func157, Tryz.ntmps157
 go_wp2_with fail
 go_ret
 exact Ret.mk' rfl gw
theorem rmost_v (x y c : Int) (p : Pt) (w : World) (hx : -2000000 ≤ x ∧ x ≤ 2000000) (hy : -2000000 ≤ y ∧ y ≤ 2000000) (hc : -100000 ≤ c ∧ c ≤ 100000) (hp : p.ok = true) :
  Calls Tryz.prog 158 #[rowv x y c, bx4 p.1 p.1 p.2 p.2] w (Ret w (.int .i64 (atOf x y c p))) := by
 have hm := hmix
 have hb := at_bd hx hy hc hp
 unfold atOf at *
 have e1 : IntKind.i64.wrap (x * p.1) = x * p.1 := wri (by omega)
 have e2 : IntKind.i64.wrap (y * p.2) = y * p.2 := wri (by omega)
 have e3 : IntKind.i64.wrap (x * p.1 + y * p.2) = x * p.1 + y * p.2 := wri (by omega)
 have e4 : IntKind.i64.wrap (1000000 * c) = 1000000 * c := wri (by omega)
 have e5 : IntKind.i64.wrap (x * p.1 + y * p.2 + 1000000 * c) = x * p.1 + y * p.2 + 1000000 * c := wri (by omega)
 clear hx hy hc hp hb
 obtain ⟨p1, p2⟩ := p
 dsimp only at *
 have m1 := Int.max_self (x * p1)
 have m2 := Int.max_self (y * p2)
 go_enter Tryz.func158, Tryz.ntmps158
 go_wp2_with fail
 go_ret
 exact Ret.mk' rfl gw
/-- A span of a box. -/
theorem within1_v (lo hi : Int) (r : Bool) (w : World) (h1 : -1000000000000 ≤ lo ∧ lo ≤ hi ∧ hi ≤ 1000000000000) (h : decide (-1000000 ≤ lo ∧ hi ≤ 1000000) = r) : Calls Tryz.prog 165 #[spv lo hi, spv (-1000000) 1000000] w (Ret w (.tuple #[.bool r, .int .i64 0])) := by
 have hm := hmix
 have kj := hide (fun W => sJoin_v lo hi (-1000000) 1000000 W (by unfold spOk; rw [decide_eq_true_eq]; exact h1) (by decide))
 obtain ⟨a, ha⟩ : ∃ a, min lo (-1000000) = a := ⟨_, rfl⟩
 obtain ⟨b, hb⟩ : ∃ a, max hi 1000000 = a := ⟨_, rfl⟩
 rw [ha, hb] at kj
 have hcase : (a ≠ -1000000 ∧ r = false) ∨ (a = -1000000 ∧ b ≠ 1000000 ∧ r = false) ∨ (a = -1000000 ∧ b = 1000000 ∧ r = true) := by
  subst h
  simp only [decide_eq_false_iff_not, decide_eq_true_eq]
  omega
 clear h ha hb h1
 rcases hcase with ⟨h1, rfl⟩ | ⟨rfl, h1, rfl⟩ | ⟨rfl, rfl, rfl⟩
 all_goals
  go_enter Tryz.func165, Tryz.ntmps165
  go_wp2_with (go_at_call 18; with_reducible refine crv (kj.out _) fun _ _ => ?_; dsimp only)
  go_ret2
  exact Ret.mk' (by simp [*]) gw
def bxOk (a b c d : Int) : Bool := decide (-1000000 ≤ a ∧ b ≤ 1000000) && decide (-1000000 ≤ c ∧ d ≤ 1000000)
theorem vbox_v (a b c d : Int) (r : Bool) (w : World) (h1 : -1000000000000 ≤ a ∧ a ≤ b ∧ b ≤ 1000000000000) (h2 : -1000000000000 ≤ c ∧ c ≤ d ∧ d ≤ 1000000000000) (h : bxOk a b c d = r) : Calls Tryz.prog 153 #[bx4 a b c d] w (Ret w (.bool r)) := by
 have hm := hmix
 obtain ⟨x, hx⟩ : ∃ x, decide (-1000000 ≤ a ∧ b ≤ 1000000) = x := ⟨_, rfl⟩
 obtain ⟨y, hy⟩ : ∃ x, decide (-1000000 ≤ c ∧ d ≤ 1000000) = x := ⟨_, rfl⟩
 unfold bxOk at h
 rw [hx, hy] at h
 subst h
 have k1 := hide (fun W => within1_v a b x W h1 hx)
 have k2 := hide (fun W => within1_v c d y W h2 hy)
 clear h1 h2 hx hy
 cases x
 all_goals
  go_enter Tryz.func153, Tryz.ntmps153
  go_wp2_with (go_at_call 165; first | (with_reducible refine crv (k1.out _) fun _ _ => ?_) | (with_reducible refine crv (k2.out _) fun _ _ => ?_); dsimp only)
  go_ret
  exact Ret.mk' (by simp) gw
end Go.Proofs.YtpfpamopmncifaaGreat
