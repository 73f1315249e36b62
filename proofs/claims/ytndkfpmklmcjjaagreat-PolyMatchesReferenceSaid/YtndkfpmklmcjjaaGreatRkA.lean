/- The reference implementation of package plane: wide products, Within. -/
import Derived.Test.YtndkfpmklmcjjaaGreatRfA
set_option linter.unusedSimpArgs false
set_option linter.unusedVariables false
set_option maxHeartbeats 4000000
set_option maxRecDepth 100000
namespace Go.Proofs.YtndkfpmklmcjjaaGreat
open Go.RowKit Go.Sort
attribute [local go_sem] Steady steadyUpon
attribute [local go_sem ↓] hs_dr lt_add_r lt_add_r2 lt_add_r3 lt_add_r4 lt_add_r5 lt_add_r6
attribute [local go_sem] cell?_gd frozen?_gd setCell_gd size_grow tape_grow cell?_grow' frozen?_grow' setCell_grow' grow_grow grow_dr grow_drew dr_dr dr_drew drew_dr dr_alloc dr_setCell dr_cell dr_frozen dr_tape dr_drawn
attribute [local irreducible] wpSteady
/-- A number as a wide one. -/
abbrev wdV (n : Int) : Value := .agg #[.int .i64 (n / 17592186044416), .int .i64 (n % 17592186044416)]
theorem mul22 {a b : Int} (ha : 0 ≤ a ∧ a < 4194304) (hb : 0 ≤ b ∧ b < 4194304) : 0 ≤ a * b ∧ a * b ≤ 17592177655809 := by
 have h1 := Int.mul_nonneg ha.1 hb.1
 have h2 := Int.mul_le_mul (show a ≤ 4194303 by omega) (show b ≤ 4194303 by omega) hb.1 (by omega)
 omega
theorem p1Times_v (x y : Int) (w : World) (hx : 0 ≤ x ∧ x < 17592186044416) (hy : 0 ≤ y ∧ y < 17592186044416) :
  Calls Tryz.prog 90 #[.int .i64 x, .int .i64 y] w (Ret w (wdV (x * y))) := by
 obtain ⟨xh, hxh⟩ : ∃ a, x / 4194304 = a := ⟨_, rfl⟩
 obtain ⟨xl, hxl⟩ : ∃ a, x % 4194304 = a := ⟨_, rfl⟩
 obtain ⟨yh, hyh⟩ : ∃ a, y / 4194304 = a := ⟨_, rfl⟩
 obtain ⟨yl, hyl⟩ : ∃ a, y % 4194304 = a := ⟨_, rfl⟩
 have t1 : x.tdiv 4194304 = xh := by rw [Int.tdiv_eq_ediv_of_nonneg hx.1]; exact hxh
 have t2 : x.tmod 4194304 = xl := by rw [Int.tmod_eq_emod_of_nonneg hx.1]; exact hxl
 have t3 : y.tdiv 4194304 = yh := by rw [Int.tdiv_eq_ediv_of_nonneg hy.1]; exact hyh
 have t4 : y.tmod 4194304 = yl := by rw [Int.tmod_eq_emod_of_nonneg hy.1]; exact hyl
 have b1 : 0 ≤ xh ∧ xh < 4194304 := by omega
 have b2 : 0 ≤ xl ∧ xl < 4194304 := by omega
 have b3 : 0 ≤ yh ∧ yh < 4194304 := by omega
 have b4 : 0 ≤ yl ∧ yl < 4194304 := by omega
 have e1 : x = xh * 4194304 + xl := by omega
 have e2 : y = yh * 4194304 + yl := by omega
 have cA := mul22 b1 b4
 have cB := mul22 b2 b3
 have cC := mul22 b2 b4
 have cE := mul22 b1 b3
 have hid : x * y = xh * yh * 17592186044416 + (xh * yl + xl * yh) * 4194304 + xl * yl := by
  rw [e1, e2]
  grind
 obtain ⟨A, hA⟩ : ∃ a, xh * yl = a := ⟨_, rfl⟩
 obtain ⟨B, hB⟩ : ∃ a, xl * yh = a := ⟨_, rfl⟩
 obtain ⟨C, hC⟩ : ∃ a, xl * yl = a := ⟨_, rfl⟩
 obtain ⟨E, hE⟩ : ∃ a, xh * yh = a := ⟨_, rfl⟩
 rw [hA] at cA hid
 rw [hB] at cB hid
 rw [hC] at cC hid
 rw [hE] at cE hid
 obtain ⟨z, hz⟩ : ∃ z, x * y = z := ⟨_, rfl⟩
 rw [hz] at hid ⊢
 obtain ⟨q, hq⟩ : ∃ a, (A + B) / 4194304 = a := ⟨_, rfl⟩
 obtain ⟨m, hm0⟩ : ∃ a, (A + B) % 4194304 = a := ⟨_, rfl⟩
 have t5 : (A + B).tdiv 4194304 = q := by rw [Int.tdiv_eq_ediv_of_nonneg (by omega)]; exact hq
 have t6 : (A + B).tmod 4194304 = m := by rw [Int.tmod_eq_emod_of_nonneg (by omega)]; exact hm0
 have bq : 0 ≤ q ∧ q < 8388608 := by omega
 have bm : 0 ≤ m ∧ m < 4194304 := by omega
 obtain ⟨L, hL⟩ : ∃ a, C + m * 4194304 = a := ⟨_, rfl⟩
 have bL : 0 ≤ L ∧ L < 40000000000000 := by omega
 obtain ⟨lq, hlq⟩ : ∃ a, L / 17592186044416 = a := ⟨_, rfl⟩
 obtain ⟨lr, hlr⟩ : ∃ a, L % 17592186044416 = a := ⟨_, rfl⟩
 have t7 : L.tdiv 17592186044416 = lq := by rw [Int.tdiv_eq_ediv_of_nonneg bL.1]; exact hlq
 have t8 : L.tmod 17592186044416 = lr := by rw [Int.tmod_eq_emod_of_nonneg bL.1]; exact hlr
 have r1 : z / 17592186044416 = E + q + lq := by omega
 have r2 : z % 17592186044416 = lr := by omega
 have bl : (0 ≤ lq ∧ lq < 4) ∧ (0 ≤ lr ∧ lr < 17592186044416) := by omega
 rw [show wdV z = .agg #[.int .i64 (E + q + lq), .int .i64 lr] by unfold wdV; rw [r1, r2]]
 clear hid hz hxh hxl hyh hyl e1 e2 r1 r2
 go_enter Tryz.func90, Tryz.ntmps90
 have hm := hmix
 go_wp2_with fail
 refine wp_region_qas 16 [] [] hm (h := ?_)
 repeat (refine wpSteady_step (fun K hK => ?_); go_simp; refine hK _ ?_; clear hK K)
 refine rq0 fun nq osq => ?_
 try simp only [Act.put, setA]
 try dsimp only
 go_wp2_with fail
 refine wp_region_qas 14 [] [] hm (h := ?_)
 repeat (refine wpSteady_step (fun K hK => ?_); go_simp; refine hK _ ?_; clear hK K)
 refine rq0 fun nq osq => ?_
 try simp only [Act.put, setA]
 try dsimp only
 go_wp2_with fail
 refine wp_region_qas 19 [] [] hm (h := ?_)
 repeat (refine wpSteady_step (fun K hK => ?_); go_simp; refine hK _ ?_; clear hK K)
 refine rq0 fun nq osq => ?_
 try simp only [Act.put, setA]
 try dsimp only
 go_wp2
 refine bodyPost_ret (v := .agg #[.int .i64 (E + q + lq), .int .i64 lr]) (by simp [results, Tryz.results90, go_sem]; rw [hA, hB, hE, hq, hm0, hL, hlq, hlr]; exact ⟨rfl, rfl⟩) rfl ?_
 exact Ret.mk' rfl gw
theorem wd_le {m n a b d e : Int} (h1 : m / 17592186044416 = a) (h2 : m % 17592186044416 = b) (h3 : n / 17592186044416 = d) (h4 : n % 17592186044416 = e) : (m ≤ n ↔ a < d ∨ (a = d ∧ b ≤ e)) := by omega
theorem p1Most_v (m n : Int) (r : Bool) (w : World) (h : decide (m ≤ n) = r) :
  Calls Tryz.prog 89 #[wdV m, wdV n] w (Ret w (.bool r)) := by
 unfold wdV
 obtain ⟨a, ha⟩ : ∃ a, m / 17592186044416 = a := ⟨_, rfl⟩
 obtain ⟨b, hb⟩ : ∃ a, m % 17592186044416 = a := ⟨_, rfl⟩
 obtain ⟨d, hd⟩ : ∃ a, n / 17592186044416 = a := ⟨_, rfl⟩
 obtain ⟨e, he⟩ : ∃ a, n % 17592186044416 = a := ⟨_, rfl⟩
 rw [show decide (m ≤ n) = decide (a < d ∨ (a = d ∧ b ≤ e)) from decide_eq_decide.2 (wd_le ha hb hd he)] at h
 rw [ha, hb, hd, he]
 subst h
 clear ha hb hd he
 by_cases h1 : a < d
 ·go_enter Tryz.func89, Tryz.ntmps89
  go_wp2
  all_goals go_ret
  all_goals exact Ret.mk' (ret_bool (by simp [h1])) gw
 ·by_cases h2 : a = d
  ·subst h2
   go_enter Tryz.func89, Tryz.ntmps89
   go_wp2
   all_goals go_ret
   all_goals exact Ret.mk' (ret_bool (by simp)) gw
  ·have h3 : (a == d) = false := by simpa using h2
   go_enter Tryz.func89, Tryz.ntmps89
   go_wp2
   all_goals go_ret
   all_goals exact Ret.mk' (ret_bool (by simp [h1, h2])) gw
theorem dt_flip (p b : Pt) : dt p b b = dt b p p := by unfold dt; grind
theorem abs_max (c : Int) : ((c.natAbs : Nat) : Int) = max c (-c) := by omega
theorem p1Within_v (p a b : Pt) (d : Int) (r : Bool) (w : World) (hp : p.ok = true) (ha : a.ok = true) (hb : b.ok = true) (hd : 0 ≤ d ∧ d ≤ 3000000) (h : nearB p a b d = r) :
  Calls Tryz.prog 49 #[pt p.1 p.2, pt a.1 a.2, pt b.1 b.2, .int .i64 d] w (Ret w (.bool r)) := by
 have hm := hmix
 have m1 := hide (fun W => rMinus_v a b W ha hb)
 have m2 := hide (fun W => rMinus_v a p W ha hp)
 have d1 := hide (fun W => p1Dot_v a b b _ W ha hb hb rfl)
 have d2 := hide (fun W => p1Dot_v a b p _ W ha hb hp rfl)
 have d3 := hide (fun W => p1Dot_v a p p _ W ha hp hp rfl)
 have s1 := hide (fun W => p1Square_v p b _ W hp hb rfl)
 have x1 := hide (fun W => p1Cross_v a b p _ W ha hb hp rfl)
 have bL := dt_bd ha hb hb
 have nL : 0 ≤ dt a b b := by
  unfold dt
  have h1 := sqnn (b.1 - a.1)
  have h2 := sqnn (b.2 - a.2)
  omega
 have bF := dt_bd ha hb hp
 have bW := dt_bd ha hp hp
 have bS := dt_bd hp hb hb
 have bC := cr_bd ha hb hp
 have hD := mul_bd (a := d) (b := d) 3000000 3000000 (by omega) (by omega)
 have nD : 0 ≤ d * d := Int.mul_nonneg hd.1 hd.1
 unfold nearB sqr at h
 rw [← dt_flip p b] at h
 generalize dt a b b = L at *
 generalize dt a b p = F at *
 generalize dt a p p = X at *
 generalize dt p b b = S at *
 generalize cr a b p = C at *
 obtain ⟨D, hDD⟩ : ∃ z, d * d = z := ⟨_, rfl⟩
 rw [hDD] at h hD nD
 obtain ⟨p1, p2⟩ := p
 obtain ⟨a1, a2⟩ := a
 obtain ⟨b1, b2⟩ := b
 dsimp only at m1 m2 d1 d2 d3 s1 x1 ⊢
 obtain ⟨v1, hv1⟩ : ∃ z, b1 - a1 = z := ⟨_, rfl⟩
 obtain ⟨v2, hv2⟩ : ∃ z, b2 - a2 = z := ⟨_, rfl⟩
 obtain ⟨w1, hw1⟩ : ∃ z, p1 - a1 = z := ⟨_, rfl⟩
 obtain ⟨w2, hw2⟩ : ∃ z, p2 - a2 = z := ⟨_, rfl⟩
 rw [hv1, hv2] at m1 d1 d2 x1
 rw [hw1, hw2] at m2 d2 d3 x1
 clear hp ha hb hv1 hv2 hw1 hw2
 by_cases c1 : F ≤ 0
 ·rw [if_pos c1] at h
  dsimp only at h
  rw [Int.mul_one, Int.mul_one] at h
  subst h
  go_enter Tryz.func49, Tryz.ntmps49
  go_wp2_with (first | (go_at_call 72; with_reducible refine crv (m1.out _) fun _ _ => ?_; dsimp only) | (go_at_call 72; with_reducible refine crv (m2.out _) fun _ _ => ?_; dsimp only) | (go_at_call 87; with_reducible refine crv (d1.out _) fun _ _ => ?_; dsimp only) | (go_at_call 87; with_reducible refine crv (d2.out _) fun _ _ => ?_; dsimp only) | (go_at_call 87; with_reducible refine crv (d3.out _) fun _ _ => ?_; dsimp only) | (go_at_call 88; with_reducible refine crv (s1.out _) fun _ _ => ?_; dsimp only) | (go_at_call 71; with_reducible refine crv (x1.out _) fun _ _ => ?_; dsimp only))
  all_goals go_ret
  all_goals refine Ret.mk' (ret_bool ?_) gw
  all_goals first | rfl | (rw [Bool.eq_iff_iff]; simp; done) | (rw [Bool.eq_iff_iff]; simp; omega)
 ·rw [if_neg c1] at h
  by_cases c2 : L ≤ F
  ·rw [if_pos c2] at h
   dsimp only at h
   rw [Int.mul_one, Int.mul_one] at h
   subst h
   go_enter Tryz.func49, Tryz.ntmps49
   go_wp2_with (first | (go_at_call 72; with_reducible refine crv (m1.out _) fun _ _ => ?_; dsimp only) | (go_at_call 72; with_reducible refine crv (m2.out _) fun _ _ => ?_; dsimp only) | (go_at_call 87; with_reducible refine crv (d1.out _) fun _ _ => ?_; dsimp only) | (go_at_call 87; with_reducible refine crv (d2.out _) fun _ _ => ?_; dsimp only) | (go_at_call 87; with_reducible refine crv (d3.out _) fun _ _ => ?_; dsimp only) | (go_at_call 88; with_reducible refine crv (s1.out _) fun _ _ => ?_; dsimp only) | (go_at_call 71; with_reducible refine crv (x1.out _) fun _ _ => ?_; dsimp only))
   all_goals go_ret
   all_goals refine Ret.mk' (ret_bool ?_) gw
   all_goals first | rfl | (rw [Bool.eq_iff_iff]; simp; done) | (rw [Bool.eq_iff_iff]; simp; omega)
  ·rw [if_neg c2] at h
   dsimp only at h
   rw [abs_max] at h
   have hmx : max C (-C) * max C (-C) = C * C := by
    rcases Int.le_total 0 C with g | g
    ·rw [Int.max_eq_left (by omega)]
    ·rw [Int.max_eq_right (by omega), Int.neg_mul_neg]
   rw [hmx] at h
   have t2 := hide (fun W => p1Times_v D L W (by omega) (by omega))
   obtain ⟨q1, hq1⟩ : ∃ z, C * C = z := ⟨_, rfl⟩
   obtain ⟨q2, hq2⟩ : ∃ z, D * L = z := ⟨_, rfl⟩
   rw [hq1] at h
   have HQ1 := hide hq1
   rw [hq2] at t2 h
   have mo := hide (fun W => p1Most_v q1 q2 _ W rfl)
   subst h
   clear hq1 hq2 hmx
   rcases Int.lt_trichotomy C 0 with g | g | g
   ·have t1 := hide (fun W => p1Times_v (-C) (-C) W (by omega) (by omega))
    rw [Int.neg_mul_neg, HQ1.out] at t1
    have g1 : C < -C := by omega
    have g2 : C ≤ -C := by omega
    have g3 : ¬ -C < C := by omega
    have g4 : ¬ -C ≤ C := by omega
    go_enter Tryz.func49, Tryz.ntmps49
    go_wp2_with (first | (first | (go_at_call 72; with_reducible refine crv (m1.out _) fun _ _ => ?_; dsimp only) | (go_at_call 72; with_reducible refine crv (m2.out _) fun _ _ => ?_; dsimp only) | (go_at_call 87; with_reducible refine crv (d1.out _) fun _ _ => ?_; dsimp only) | (go_at_call 87; with_reducible refine crv (d2.out _) fun _ _ => ?_; dsimp only) | (go_at_call 87; with_reducible refine crv (d3.out _) fun _ _ => ?_; dsimp only) | (go_at_call 88; with_reducible refine crv (s1.out _) fun _ _ => ?_; dsimp only) | (go_at_call 71; with_reducible refine crv (x1.out _) fun _ _ => ?_; dsimp only)) | (go_at_call 90; with_reducible refine crv (t1.out _) fun _ _ => ?_; dsimp only) | (go_at_call 90; with_reducible refine crv (t2.out _) fun _ _ => ?_; dsimp only) | (go_at_call 89; with_reducible refine crv (mo.out _) fun _ _ => ?_; dsimp only))
    go_ret
    exact Ret.mk' (ret_bool rfl) gw
   ·subst g
    have t1 := hide (fun W => p1Times_v 0 0 W (by omega) (by omega))
    rw [HQ1.out] at t1
    go_enter Tryz.func49, Tryz.ntmps49
    go_wp2_with (first | (first | (go_at_call 72; with_reducible refine crv (m1.out _) fun _ _ => ?_; dsimp only) | (go_at_call 72; with_reducible refine crv (m2.out _) fun _ _ => ?_; dsimp only) | (go_at_call 87; with_reducible refine crv (d1.out _) fun _ _ => ?_; dsimp only) | (go_at_call 87; with_reducible refine crv (d2.out _) fun _ _ => ?_; dsimp only) | (go_at_call 87; with_reducible refine crv (d3.out _) fun _ _ => ?_; dsimp only) | (go_at_call 88; with_reducible refine crv (s1.out _) fun _ _ => ?_; dsimp only) | (go_at_call 71; with_reducible refine crv (x1.out _) fun _ _ => ?_; dsimp only)) | (go_at_call 90; with_reducible refine crv (t1.out _) fun _ _ => ?_; dsimp only) | (go_at_call 90; with_reducible refine crv (t2.out _) fun _ _ => ?_; dsimp only) | (go_at_call 89; with_reducible refine crv (mo.out _) fun _ _ => ?_; dsimp only))
    go_ret
    exact Ret.mk' (ret_bool rfl) gw
   ·have t1 := hide (fun W => p1Times_v C C W (by omega) (by omega))
    rw [HQ1.out] at t1
    have g1 : ¬ C < -C := by omega
    have g2 : ¬ C ≤ -C := by omega
    have g3 : -C < C := by omega
    have g4 : -C ≤ C := by omega
    go_enter Tryz.func49, Tryz.ntmps49
    go_wp2_with (first | (first | (go_at_call 72; with_reducible refine crv (m1.out _) fun _ _ => ?_; dsimp only) | (go_at_call 72; with_reducible refine crv (m2.out _) fun _ _ => ?_; dsimp only) | (go_at_call 87; with_reducible refine crv (d1.out _) fun _ _ => ?_; dsimp only) | (go_at_call 87; with_reducible refine crv (d2.out _) fun _ _ => ?_; dsimp only) | (go_at_call 87; with_reducible refine crv (d3.out _) fun _ _ => ?_; dsimp only) | (go_at_call 88; with_reducible refine crv (s1.out _) fun _ _ => ?_; dsimp only) | (go_at_call 71; with_reducible refine crv (x1.out _) fun _ _ => ?_; dsimp only)) | (go_at_call 90; with_reducible refine crv (t1.out _) fun _ _ => ?_; dsimp only) | (go_at_call 90; with_reducible refine crv (t2.out _) fun _ _ => ?_; dsimp only) | (go_at_call 89; with_reducible refine crv (mo.out _) fun _ _ => ?_; dsimp only))
    go_ret
    exact Ret.mk' (ret_bool rfl) gw
theorem p3nearer_v (p a b : Pt) (d : Int) (r : Bool) (w : World) (hp : p.ok = true) (ha : a.ok = true) (hb : b.ok = true) (hd : 0 ≤ d ∧ d ≤ 3000000) (h : (!apartB p a b d) = r) :
  Calls Tryz.prog 50 #[pt p.1 p.2, pt a.1 a.2, pt b.1 b.2, .int .i64 d] w (Ret w (.bool r)) := by
 have hm := hmix
 have m1 := hide (fun W => rMinus_v a b W ha hb)
 have m2 := hide (fun W => rMinus_v a p W ha hp)
 have d1 := hide (fun W => p1Dot_v a b b _ W ha hb hb rfl)
 have d2 := hide (fun W => p1Dot_v a b p _ W ha hb hp rfl)
 have d3 := hide (fun W => p1Dot_v a p p _ W ha hp hp rfl)
 have s1 := hide (fun W => p1Square_v p b _ W hp hb rfl)
 have x1 := hide (fun W => p1Cross_v a b p _ W ha hb hp rfl)
 have bL := dt_bd ha hb hb
 have nL : 0 ≤ dt a b b := by
  unfold dt
  have h1 := sqnn (b.1 - a.1)
  have h2 := sqnn (b.2 - a.2)
  omega
 have bF := dt_bd ha hb hp
 have bW := dt_bd ha hp hp
 have bS := dt_bd hp hb hb
 have bC := cr_bd ha hb hp
 have hD := mul_bd (a := d) (b := d) 3000000 3000000 (by omega) (by omega)
 have nD : 0 ≤ d * d := Int.mul_nonneg hd.1 hd.1
 unfold apartB sqr at h
 rw [← dt_flip p b] at h
 generalize dt a b b = L at *
 generalize dt a b p = F at *
 generalize dt a p p = X at *
 generalize dt p b b = S at *
 generalize cr a b p = C at *
 obtain ⟨D, hDD⟩ : ∃ z, d * d = z := ⟨_, rfl⟩
 rw [hDD] at h hD nD
 obtain ⟨p1, p2⟩ := p
 obtain ⟨a1, a2⟩ := a
 obtain ⟨b1, b2⟩ := b
 dsimp only at m1 m2 d1 d2 d3 s1 x1 ⊢
 obtain ⟨v1, hv1⟩ : ∃ z, b1 - a1 = z := ⟨_, rfl⟩
 obtain ⟨v2, hv2⟩ : ∃ z, b2 - a2 = z := ⟨_, rfl⟩
 obtain ⟨w1, hw1⟩ : ∃ z, p1 - a1 = z := ⟨_, rfl⟩
 obtain ⟨w2, hw2⟩ : ∃ z, p2 - a2 = z := ⟨_, rfl⟩
 rw [hv1, hv2] at m1 d1 d2 x1
 rw [hw1, hw2] at m2 d2 d3 x1
 clear hp ha hb hv1 hv2 hw1 hw2
 by_cases c1 : F ≤ 0
 ·rw [if_pos c1] at h
  dsimp only at h
  rw [Int.mul_one, Int.mul_one] at h
  subst h
  go_enter Tryz.func50, Tryz.ntmps50
  go_wp2_with (first | (go_at_call 72; with_reducible refine crv (m1.out _) fun _ _ => ?_; dsimp only) | (go_at_call 72; with_reducible refine crv (m2.out _) fun _ _ => ?_; dsimp only) | (go_at_call 87; with_reducible refine crv (d1.out _) fun _ _ => ?_; dsimp only) | (go_at_call 87; with_reducible refine crv (d2.out _) fun _ _ => ?_; dsimp only) | (go_at_call 87; with_reducible refine crv (d3.out _) fun _ _ => ?_; dsimp only) | (go_at_call 88; with_reducible refine crv (s1.out _) fun _ _ => ?_; dsimp only) | (go_at_call 71; with_reducible refine crv (x1.out _) fun _ _ => ?_; dsimp only))
  all_goals go_ret
  all_goals refine Ret.mk' (ret_bool ?_) gw
  all_goals first | rfl | (rw [Bool.eq_iff_iff]; simp; done) | (rw [Bool.eq_iff_iff]; simp; omega)
 ·rw [if_neg c1] at h
  by_cases c2 : L ≤ F
  ·rw [if_pos c2] at h
   dsimp only at h
   rw [Int.mul_one, Int.mul_one] at h
   subst h
   go_enter Tryz.func50, Tryz.ntmps50
   go_wp2_with (first | (go_at_call 72; with_reducible refine crv (m1.out _) fun _ _ => ?_; dsimp only) | (go_at_call 72; with_reducible refine crv (m2.out _) fun _ _ => ?_; dsimp only) | (go_at_call 87; with_reducible refine crv (d1.out _) fun _ _ => ?_; dsimp only) | (go_at_call 87; with_reducible refine crv (d2.out _) fun _ _ => ?_; dsimp only) | (go_at_call 87; with_reducible refine crv (d3.out _) fun _ _ => ?_; dsimp only) | (go_at_call 88; with_reducible refine crv (s1.out _) fun _ _ => ?_; dsimp only) | (go_at_call 71; with_reducible refine crv (x1.out _) fun _ _ => ?_; dsimp only))
   all_goals go_ret
   all_goals refine Ret.mk' (ret_bool ?_) gw
   all_goals first | rfl | (rw [Bool.eq_iff_iff]; simp; done) | (rw [Bool.eq_iff_iff]; simp; omega)
  ·rw [if_neg c2] at h
   dsimp only at h
   rw [abs_max] at h
   have hmx : max C (-C) * max C (-C) = C * C := by
    rcases Int.le_total 0 C with g | g
    ·rw [Int.max_eq_left (by omega)]
    ·rw [Int.max_eq_right (by omega), Int.neg_mul_neg]
   rw [hmx] at h
   have t2 := hide (fun W => p1Times_v D L W (by omega) (by omega))
   obtain ⟨q1, hq1⟩ : ∃ z, C * C = z := ⟨_, rfl⟩
   obtain ⟨q2, hq2⟩ : ∃ z, D * L = z := ⟨_, rfl⟩
   rw [hq1] at h
   have HQ1 := hide hq1
   rw [hq2] at t2 h
   have mo := hide (fun W => p1Most_v q2 q1 _ W rfl)
   subst h
   clear hq1 hq2 hmx
   rcases Int.lt_trichotomy C 0 with g | g | g
   ·have t1 := hide (fun W => p1Times_v (-C) (-C) W (by omega) (by omega))
    rw [Int.neg_mul_neg, HQ1.out] at t1
    have g1 : C < -C := by omega
    have g2 : C ≤ -C := by omega
    have g3 : ¬ -C < C := by omega
    have g4 : ¬ -C ≤ C := by omega
    go_enter Tryz.func50, Tryz.ntmps50
    go_wp2_with (first | (first | (go_at_call 72; with_reducible refine crv (m1.out _) fun _ _ => ?_; dsimp only) | (go_at_call 72; with_reducible refine crv (m2.out _) fun _ _ => ?_; dsimp only) | (go_at_call 87; with_reducible refine crv (d1.out _) fun _ _ => ?_; dsimp only) | (go_at_call 87; with_reducible refine crv (d2.out _) fun _ _ => ?_; dsimp only) | (go_at_call 87; with_reducible refine crv (d3.out _) fun _ _ => ?_; dsimp only) | (go_at_call 88; with_reducible refine crv (s1.out _) fun _ _ => ?_; dsimp only) | (go_at_call 71; with_reducible refine crv (x1.out _) fun _ _ => ?_; dsimp only)) | (go_at_call 90; with_reducible refine crv (t1.out _) fun _ _ => ?_; dsimp only) | (go_at_call 90; with_reducible refine crv (t2.out _) fun _ _ => ?_; dsimp only) | (go_at_call 89; with_reducible refine crv (mo.out _) fun _ _ => ?_; dsimp only))
    go_ret
    exact Ret.mk' (ret_bool rfl) gw
   ·subst g
    have t1 := hide (fun W => p1Times_v 0 0 W (by omega) (by omega))
    rw [HQ1.out] at t1
    go_enter Tryz.func50, Tryz.ntmps50
    go_wp2_with (first | (first | (go_at_call 72; with_reducible refine crv (m1.out _) fun _ _ => ?_; dsimp only) | (go_at_call 72; with_reducible refine crv (m2.out _) fun _ _ => ?_; dsimp only) | (go_at_call 87; with_reducible refine crv (d1.out _) fun _ _ => ?_; dsimp only) | (go_at_call 87; with_reducible refine crv (d2.out _) fun _ _ => ?_; dsimp only) | (go_at_call 87; with_reducible refine crv (d3.out _) fun _ _ => ?_; dsimp only) | (go_at_call 88; with_reducible refine crv (s1.out _) fun _ _ => ?_; dsimp only) | (go_at_call 71; with_reducible refine crv (x1.out _) fun _ _ => ?_; dsimp only)) | (go_at_call 90; with_reducible refine crv (t1.out _) fun _ _ => ?_; dsimp only) | (go_at_call 90; with_reducible refine crv (t2.out _) fun _ _ => ?_; dsimp only) | (go_at_call 89; with_reducible refine crv (mo.out _) fun _ _ => ?_; dsimp only))
    go_ret
    exact Ret.mk' (ret_bool rfl) gw
   ·have t1 := hide (fun W => p1Times_v C C W (by omega) (by omega))
    rw [HQ1.out] at t1
    have g1 : ¬ C < -C := by omega
    have g2 : ¬ C ≤ -C := by omega
    have g3 : -C < C := by omega
    have g4 : -C ≤ C := by omega
    go_enter Tryz.func50, Tryz.ntmps50
    go_wp2_with (first | (first | (go_at_call 72; with_reducible refine crv (m1.out _) fun _ _ => ?_; dsimp only) | (go_at_call 72; with_reducible refine crv (m2.out _) fun _ _ => ?_; dsimp only) | (go_at_call 87; with_reducible refine crv (d1.out _) fun _ _ => ?_; dsimp only) | (go_at_call 87; with_reducible refine crv (d2.out _) fun _ _ => ?_; dsimp only) | (go_at_call 87; with_reducible refine crv (d3.out _) fun _ _ => ?_; dsimp only) | (go_at_call 88; with_reducible refine crv (s1.out _) fun _ _ => ?_; dsimp only) | (go_at_call 71; with_reducible refine crv (x1.out _) fun _ _ => ?_; dsimp only)) | (go_at_call 90; with_reducible refine crv (t1.out _) fun _ _ => ?_; dsimp only) | (go_at_call 90; with_reducible refine crv (t2.out _) fun _ _ => ?_; dsimp only) | (go_at_call 89; with_reducible refine crv (mo.out _) fun _ _ => ?_; dsimp only))
    go_ret
    exact Ret.mk' (ret_bool rfl) gw
end Go.Proofs.YtndkfpmklmcjjaaGreat
