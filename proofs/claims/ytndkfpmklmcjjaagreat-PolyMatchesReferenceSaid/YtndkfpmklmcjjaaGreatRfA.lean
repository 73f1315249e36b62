/- The reference implementation of package plane: places, segments, distances. -/
import Derived.Test.YtndkfpmklmcjjaaGreatCvT
set_option linter.unusedSimpArgs false
set_option linter.unusedVariables false
set_option maxHeartbeats 4000000
set_option maxRecDepth 10000
namespace Go.Proofs.YtndkfpmklmcjjaaGreat
open Go.RowKit Go.Sort
attribute [local go_sem] Steady steadyUpon
attribute [local go_sem ↓] hs_dr lt_add_r lt_add_r2 lt_add_r3 lt_add_r4 lt_add_r5 lt_add_r6
attribute [local go_sem] cell?_gd frozen?_gd setCell_gd size_grow tape_grow cell?_grow' frozen?_grow' setCell_grow' grow_grow grow_dr grow_drew dr_dr dr_drew drew_dr dr_alloc dr_setCell dr_cell dr_frozen dr_tape dr_drawn
attribute [local irreducible] wpSteady
theorem p1Valid_v (a b : Int) (r : Bool) (w : World) (h : plOk a b = r) :
  Calls Tryz.prog 33 #[pt a b] w (Ret w (.bool r)) := by
 subst h
 go_enter Tryz.func33, Tryz.ntmps33
 go_wp2
 all_goals go_ret
 all_goals refine Ret.mk' (ret_bool ?_) gw
 all_goals (rw [Bool.eq_iff_iff]; simp [plOk]; omega)
theorem p1Dot_any (a b c d : Int) (w : World) (ha : -4000000 ≤ a ∧ a ≤ 4000000) (hb : -4000000 ≤ b ∧ b ≤ 4000000) (hc : -4000000 ≤ c ∧ c ≤ 4000000) (hd : -4000000 ≤ d ∧ d ≤ 4000000) :
  Calls Tryz.prog 87 #[pt a b, pt c d] w (Ret w (.int .i64 (a * c + b * d))) := by
 have h1 : -16000000000000 ≤ a * c ∧ a * c ≤ 16000000000000 := mul_bd 4000000 4000000 ha hc
 have h2 : -16000000000000 ≤ b * d ∧ b * d ≤ 16000000000000 := mul_bd 4000000 4000000 hb hd
 go_enter Tryz.func87, Tryz.ntmps87
 go_wp2
 go_ret
 exact Ret.mk' rfl gw
theorem p1Square_v (a b : Pt) (r : Int) (w : World) (ha : a.ok = true) (hb : b.ok = true) (h : dt a b b = r) :
  Calls Tryz.prog 88 #[pt a.1 a.2, pt b.1 b.2] w (Ret w (.int .i64 r)) := by
 have hm := hmix
 have k1 := hide (fun W => rMinus_v a b W ha hb)
 obtain ⟨a1, a2⟩ := a
 obtain ⟨b1, b2⟩ := b
 have a' := pl_bd ha
 have b' := pl_bd hb
 have k2 : Hid (∀ W, Calls Tryz.prog 87 #[pt (b1 - a1) (b2 - a2), pt (b1 - a1) (b2 - a2)] W (Ret W (.int .i64 r))) := hide (fun W => by
  have := p1Dot_any (b1 - a1) (b2 - a2) (b1 - a1) (b2 - a2) W (by omega) (by omega) (by omega) (by omega)
  rw [← h]
  exact this)
 clear h ha hb
 dsimp only at k1 ⊢
 go_enter Tryz.func88, Tryz.ntmps88
 go_wp2_with fail
 refine wp_region_qas 8 [] [] hm (h := ?_)
 repeat (refine wpSteady_step (fun K hK => ?_); go_simp; first | (refine hK _ ?_; clear hK K) | (apply Exists.intro; refine ⟨fun _ => ?_, hK _ ?_⟩; (first | (go_at_call 72; with_reducible exact k1.out _) | (go_at_call 87; with_reducible exact k2.out _)); clear hK K))
 refine rq0 fun nq osq => ?_
 try simp only [Act.put, setA]
 try dsimp only
 go_wp2
 go_ret
 exact Ret.mk' rfl gw
theorem p1Cross_v (a b c : Pt) (r : Int) (w : World) (ha : a.ok = true) (hb : b.ok = true) (hc : c.ok = true) (h : cr a b c = r) :
  Calls Tryz.prog 71 #[pt (b.1 - a.1) (b.2 - a.2), pt (c.1 - a.1) (c.2 - a.2)] w (Ret w (.int .i64 r)) := by
 have a' := ok_bd ha
 have b' := ok_bd hb
 have c' := ok_bd hc
 have := rCross_any (b.1 - a.1) (b.2 - a.2) (c.1 - a.1) (c.2 - a.2) w (by omega) (by omega) (by omega) (by omega)
 rw [← h]
 exact this
theorem p1Dot_v (a b c : Pt) (r : Int) (w : World) (ha : a.ok = true) (hb : b.ok = true) (hc : c.ok = true) (h : dt a b c = r) :
  Calls Tryz.prog 87 #[pt (b.1 - a.1) (b.2 - a.2), pt (c.1 - a.1) (c.2 - a.2)] w (Ret w (.int .i64 r)) := by
 have a' := ok_bd ha
 have b' := ok_bd hb
 have c' := ok_bd hc
 have := p1Dot_any (b.1 - a.1) (b.2 - a.2) (c.1 - a.1) (c.2 - a.2) w (by omega) (by omega) (by omega) (by omega)
 rw [← h]
 exact this
theorem tn_zero_cr {a b c : Pt} : tn a b c = 0 ↔ cr a b c = 0 := by
 unfold tn
 rcases sg_cases (cr a b c) with ⟨h, e⟩ | ⟨h, e⟩ | ⟨h, e⟩ <;> rw [e] <;> omega
theorem p1Lie_v (p a b : Pt) (r : Bool) (w : World) (hp : p.ok = true) (ha : a.ok = true) (hb : b.ok = true) (h : onB p a b = r) :
  Calls Tryz.prog 74 #[pt p.1 p.2, pt a.1 a.2, pt b.1 b.2] w (Ret w (.bool r)) := by
 have hm := hmix
 obtain ⟨t, ht⟩ : ∃ t, cr a b p = t := ⟨_, rfl⟩
 have k1 := hide (fun W => rMinus_v a b W ha hb)
 have k2 := hide (fun W => rMinus_v a p W ha hp)
 have k3 := hide (fun W => p1Cross_v a b p t W ha hb hp ht)
 unfold onB at h
 have e : decide (tn a b p = 0 ∧ (min a.1 b.1 ≤ p.1 ∧ p.1 ≤ max a.1 b.1) ∧ (min a.2 b.2 ≤ p.2 ∧ p.2 ≤ max a.2 b.2)) = decide (t = 0 ∧ (min a.1 b.1 ≤ p.1 ∧ p.1 ≤ max a.1 b.1) ∧ (min a.2 b.2 ≤ p.2 ∧ p.2 ≤ max a.2 b.2)) := by
  rw [← ht]
  simp only [tn_zero_cr]
 rw [e] at h
 clear e ht hp ha hb
 obtain ⟨p1, p2⟩ := p
 obtain ⟨a1, a2⟩ := a
 obtain ⟨b1, b2⟩ := b
 dsimp only at *
 obtain ⟨v1, hv1⟩ : ∃ z, b1 - a1 = z := ⟨_, rfl⟩
 obtain ⟨v2, hv2⟩ : ∃ z, b2 - a2 = z := ⟨_, rfl⟩
 obtain ⟨w1, hw1⟩ : ∃ z, p1 - a1 = z := ⟨_, rfl⟩
 obtain ⟨w2, hw2⟩ : ∃ z, p2 - a2 = z := ⟨_, rfl⟩
 rw [hv1, hv2] at k1 k3
 rw [hw1, hw2] at k2 k3
 clear hv1 hv2 hw1 hw2
 subst h
 by_cases h0 : t = 0
 ·subst h0
  go_enter Tryz.func74, Tryz.ntmps74
  go_wp2_with fail
  refine wp_region_qas 8 [] [] hm (h := ?_)
  repeat (refine wpSteady_step (fun K hK => ?_); go_simp; first | (refine hK _ ?_; clear hK K) | (apply Exists.intro; refine ⟨fun _ => ?_, hK _ ?_⟩; (first | (go_at_call 72; first | with_reducible exact k1.out _ | with_reducible exact k2.out _) | (go_at_call 71; with_reducible exact k3.out _)); clear hK K))
  refine rq0 fun nq osq => ?_
  try simp only [Act.put, setA]
  try dsimp only
  go_wp2
  all_goals go_ret
  all_goals refine Ret.mk' (ret_bool ?_) gw
  all_goals (rw [Bool.eq_iff_iff]; simp; omega)
 ·have h1 : (t != 0) = true := by simpa using h0
  go_enter Tryz.func74, Tryz.ntmps74
  go_wp2_with fail
  refine wp_region_qas 8 [] [] hm (h := ?_)
  repeat (refine wpSteady_step (fun K hK => ?_); go_simp; first | (refine hK _ ?_; clear hK K) | (apply Exists.intro; refine ⟨fun _ => ?_, hK _ ?_⟩; (first | (go_at_call 72; first | with_reducible exact k1.out _ | with_reducible exact k2.out _) | (go_at_call 71; with_reducible exact k3.out _)); clear hK K))
  refine rq0 fun nq osq => ?_
  try simp only [Act.put, setA]
  try dsimp only
  go_wp2_with fail
  go_ret
  exact Ret.mk' (ret_bool (by simp [h0])) gw
theorem p1Crosses_v (a b c d : Pt) (r : Bool) (w : World) (ha : a.ok = true) (hb : b.ok = true) (hc : c.ok = true) (hd : d.ok = true) (h : meetB a b c d = r) :
  Calls Tryz.prog 43 #[pt a.1 a.2, pt b.1 b.2, pt c.1 c.2, pt d.1 d.2] w (Ret w (.bool r)) := by
 have hm := hmix
 obtain ⟨o1, g1⟩ : ∃ o, onB a c d = o := ⟨_, rfl⟩
 obtain ⟨o2, g2⟩ : ∃ o, onB b c d = o := ⟨_, rfl⟩
 obtain ⟨o3, g3⟩ : ∃ o, onB c a b = o := ⟨_, rfl⟩
 obtain ⟨o4, g4⟩ : ∃ o, onB d a b = o := ⟨_, rfl⟩
 have l1 := hide (fun W => p1Lie_v a c d o1 W ha hc hd g1)
 have l2 := hide (fun W => p1Lie_v b c d o2 W hb hc hd g2)
 have l3 := hide (fun W => p1Lie_v c a b o3 W hc ha hb g3)
 have l4 := hide (fun W => p1Lie_v d a b o4 W hd ha hb g4)
 have m1 := hide (fun W => rMinus_v a b W ha hb)
 have m2 := hide (fun W => rMinus_v a c W ha hc)
 have m3 := hide (fun W => rMinus_v a d W ha hd)
 have m4 := hide (fun W => rMinus_v c d W hc hd)
 have m5 := hide (fun W => rMinus_v c a W hc ha)
 have m6 := hide (fun W => rMinus_v c b W hc hb)
 have x1 := hide (fun W => p1Cross_v a b c _ W ha hb hc rfl)
 have x2 := hide (fun W => p1Cross_v a b d _ W ha hb hd rfl)
 have x3 := hide (fun W => p1Cross_v c d a _ W hc hd ha rfl)
 have x4 := hide (fun W => p1Cross_v c d b _ W hc hd hb rfl)
 have s1 := hide (fun W => rSign_any (cr a b c) W)
 have s2 := hide (fun W => rSign_any (cr a b d) W)
 have s3 := hide (fun W => rSign_any (cr c d a) W)
 have s4 := hide (fun W => rSign_any (cr c d b) W)
 have b12 := mul_sg (tn_bd a b c) (tn_bd a b d)
 have b34 := mul_sg (tn_bd c d a) (tn_bd c d b)
 unfold meetB cutB at h
 rw [g1, g2, g3, g4] at h
 unfold tn at h b12 b34
 generalize cr a b c = q1 at *
 generalize cr a b d = q2 at *
 generalize cr c d a = q3 at *
 generalize cr c d b = q4 at *
 generalize sg q1 = t1 at *
 generalize sg q2 = t2 at *
 generalize sg q3 = t3 at *
 generalize sg q4 = t4 at *
 have e12 : IntKind.i64.wrap (t1 * t2) = t1 * t2 := by unfold IntKind.wrap; simp [IntKind.bits, IntKind.signed]; omega
 have e34 : IntKind.i64.wrap (t3 * t4) = t3 * t4 := by unfold IntKind.wrap; simp [IntKind.bits, IntKind.signed]; omega
 obtain ⟨a1, a2⟩ := a
 obtain ⟨b1, b2⟩ := b
 obtain ⟨c1, c2⟩ := c
 obtain ⟨d1, d2⟩ := d
 clear g1 g2 g3 g4 ha hb hc hd
 dsimp only at *
 subst h
 have hoc : o1 = true ∨ (o1 = false ∧ o2 = true) ∨ (o1 = false ∧ o2 = false ∧ o3 = true) ∨ (o1 = false ∧ o2 = false ∧ o3 = false ∧ o4 = true) ∨ (o1 = false ∧ o2 = false ∧ o3 = false ∧ o4 = false) := by
  cases o1 <;> cases o2 <;> cases o3 <;> cases o4 <;> simp
 rcases hoc with rfl | ⟨rfl, rfl⟩ | ⟨rfl, rfl, rfl⟩ | ⟨rfl, rfl, rfl, rfl⟩ | ⟨rfl, rfl, rfl, rfl⟩
 any_goals
  simp only [Bool.or_true, Bool.true_or]
  go_enter Tryz.func43, Tryz.ntmps43
  go_wp2_with (first | (go_at_call 74; with_reducible refine crv (l1.out _) fun _ _ => ?_; dsimp only) | (go_at_call 74; with_reducible refine crv (l2.out _) fun _ _ => ?_; dsimp only) | (go_at_call 74; with_reducible refine crv (l3.out _) fun _ _ => ?_; dsimp only) | (go_at_call 74; with_reducible refine crv (l4.out _) fun _ _ => ?_; dsimp only))
  go_ret
  exact Ret.mk' rfl gw
 simp only [Bool.or_false]
 obtain ⟨v1, hv1⟩ : ∃ z, b1 - a1 = z := ⟨_, rfl⟩
 obtain ⟨v2, hv2⟩ : ∃ z, b2 - a2 = z := ⟨_, rfl⟩
 obtain ⟨v3, hv3⟩ : ∃ z, c1 - a1 = z := ⟨_, rfl⟩
 obtain ⟨v4, hv4⟩ : ∃ z, c2 - a2 = z := ⟨_, rfl⟩
 obtain ⟨v5, hv5⟩ : ∃ z, d1 - a1 = z := ⟨_, rfl⟩
 obtain ⟨v6, hv6⟩ : ∃ z, d2 - a2 = z := ⟨_, rfl⟩
 obtain ⟨v7, hv7⟩ : ∃ z, d1 - c1 = z := ⟨_, rfl⟩
 obtain ⟨v8, hv8⟩ : ∃ z, d2 - c2 = z := ⟨_, rfl⟩
 obtain ⟨v9, hv9⟩ : ∃ z, a1 - c1 = z := ⟨_, rfl⟩
 obtain ⟨v10, hv10⟩ : ∃ z, a2 - c2 = z := ⟨_, rfl⟩
 obtain ⟨v11, hv11⟩ : ∃ z, b1 - c1 = z := ⟨_, rfl⟩
 obtain ⟨v12, hv12⟩ : ∃ z, b2 - c2 = z := ⟨_, rfl⟩
 simp only [hv1, hv2, hv3, hv4, hv5, hv6, hv7, hv8, hv9, hv10, hv11, hv12] at m1 m2 m3 m4 m5 m6 x1 x2 x3 x4
 clear hv1 hv2 hv3 hv4 hv5 hv6 hv7 hv8 hv9 hv10 hv11 hv12
 go_enter Tryz.func43, Tryz.ntmps43
 go_wp2_with (first | (go_at_call 74; with_reducible refine crv (l1.out _) fun _ _ => ?_; dsimp only) | (go_at_call 74; with_reducible refine crv (l2.out _) fun _ _ => ?_; dsimp only) | (go_at_call 74; with_reducible refine crv (l3.out _) fun _ _ => ?_; dsimp only) | (go_at_call 74; with_reducible refine crv (l4.out _) fun _ _ => ?_; dsimp only))
 refine wp_region_qas 18 [] [] hm (h := ?_)
 repeat (refine wpSteady_step (fun K hK => ?_); go_simp; first | (refine hK _ ?_; clear hK K) | (apply Exists.intro; refine ⟨fun _ => ?_, hK _ ?_⟩; (first | (go_at_call 72; first | with_reducible exact m1.out _ | with_reducible exact m2.out _ | with_reducible exact m3.out _) | (go_at_call 71; first | with_reducible exact x1.out _ | with_reducible exact x2.out _) | (go_at_call 70; first | with_reducible exact s1.out _ | with_reducible exact s2.out _)); clear hK K))
 refine rq0 fun nq osq => ?_
 try simp only [Act.put, setA]
 try dsimp only
 go_wp2_with fail
 refine wp_region_qas 18 [] [] hm (h := ?_)
 repeat (refine wpSteady_step (fun K hK => ?_); go_simp; first | (refine hK _ ?_; clear hK K) | (apply Exists.intro; refine ⟨fun _ => ?_, hK _ ?_⟩; (first | (go_at_call 72; first | with_reducible exact m4.out _ | with_reducible exact m5.out _ | with_reducible exact m6.out _) | (go_at_call 71; first | with_reducible exact x3.out _ | with_reducible exact x4.out _) | (go_at_call 70; first | with_reducible exact s3.out _ | with_reducible exact s4.out _)); clear hK K))
 refine rq0 fun nq osq => ?_
 try simp only [Act.put, setA]
 try dsimp only
 by_cases y1 : t1 * t2 < 0
 ·by_cases y2 : t3 * t4 < 0
  ·go_wp2_with fail
   go_ret
   exact Ret.mk' (ret_bool (by simp [y1, y2])) gw
  ·go_wp2_with fail
   go_ret
   exact Ret.mk' (ret_bool (by simp [y1, y2])) gw
 ·go_wp2_with fail
  go_ret
  exact Ret.mk' (ret_bool (by simp; intro h; omega)) gw
end Go.Proofs.YtndkfpmklmcjjaaGreat
