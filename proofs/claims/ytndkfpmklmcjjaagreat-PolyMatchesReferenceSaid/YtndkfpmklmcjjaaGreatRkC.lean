/- The reference implementation of package poly: opens, leads, cuts. -/
import Derived.Test.YtndkfpmklmcjjaaGreatRfC
import Derived.Test.YtndkfpmklmcjjaaGreatPok
set_option linter.unusedSimpArgs false
set_option linter.unusedVariables false
set_option maxHeartbeats 8000000
set_option maxRecDepth 100000
namespace Go.Proofs.YtndkfpmklmcjjaaGreat
open Go.RowKit Go.Sort
attribute [local go_sem] Steady steadyUpon
attribute [local go_sem ↓] hs_dr lt_add_r lt_add_r2 lt_add_r3 lt_add_r4 lt_add_r5 lt_add_r6
attribute [local go_sem] cell?_gd frozen?_gd setCell_gd size_grow tape_grow cell?_grow' frozen?_grow' setCell_grow' grow_grow grow_dr grow_drew dr_dr dr_drew drew_dr dr_alloc dr_setCell dr_cell dr_frozen dr_tape dr_drawn
attribute [local irreducible] wpSteady
/-- A direction. -/
def sb (b a : Pt) : Pt := (b.1 - a.1, b.2 - a.2)
/-- Whether a direction leads into a corner with these edges. -/
def opensV (to back v : Pt) : Bool := if 0 < crs2 to back then decide (0 ≤ crs2 to v) && decide (0 ≤ crs2 v back) else !(decide (0 < crs2 back v) && decide (0 < crs2 v to))
def opensR (ps : List Pt) (i : Nat) (v : Pt) : Bool := opensV (sb (cor ps (i + 1)) (cor ps i)) (sb (cor ps (i + ps.length - 1)) (cor ps i)) v
theorem sg_posR {x : Int} : 0 < sg x ↔ 0 < x := by rcases sg_cases x with ⟨h, e⟩ | ⟨h, e⟩ | ⟨h, e⟩ <;> rw [e] <;> omega
theorem sg_nn {x : Int} : 0 ≤ sg x ↔ 0 ≤ x := by rcases sg_cases x with ⟨h, e⟩ | ⟨h, e⟩ | ⟨h, e⟩ <;> rw [e] <;> omega
theorem sg_np {x : Int} : sg x ≤ 0 ↔ x ≤ 0 := by rcases sg_cases x with ⟨h, e⟩ | ⟨h, e⟩ | ⟨h, e⟩ <;> rw [e] <;> omega
theorem crs2_sb (a b c : Pt) : crs2 (sb b a) (sb c a) = cr a b c := by unfold crs2 sb cr; rfl
theorem cr_round (a b c : Pt) : cr a b c = cr b c a := by unfold cr; grind
theorem opens_ref (ps : List Pt) (i : Nat) (to : Pt) : opensR ps i (sb to (cor ps i)) = opensOf ps i to := by
 unfold opensR opensV opensOf tn
 simp only [crs2_sb, sg_posR, sg_nn, sg_np]
 rw [cr_round (cor ps (i + ps.length - 1)) (cor ps i) (cor ps (i + 1))]
 by_cases h : 0 < cr (cor ps i) (cor ps (i + 1)) (cor ps (i + ps.length - 1))
 ·rw [if_pos h, if_pos h]
 ·rw [if_neg h, if_neg h, Bool.eq_iff_iff]
  first | (simp; done) | (simp; omega)
theorem crs2_scl (k : Int) (u v : Pt) : crs2 u (k * v.1, k * v.2) = k * crs2 u v ∧ crs2 (k * v.1, k * v.2) u = k * crs2 v u := by
 unfold crs2
 constructor <;> grind
theorem pos_scl {k x : Int} (hk : 0 < k) : (0 < k * x ↔ 0 < x) ∧ (0 ≤ k * x ↔ 0 ≤ x) := by
 rcases Int.lt_trichotomy x 0 with h | h | h
 ·have := Int.mul_neg_of_pos_of_neg hk h
  omega
 ·subst h
  simp
 ·have := Int.mul_pos hk h
  omega
theorem opens_scl {to back v : Pt} {k : Int} (hk : 0 < k) : opensV to back (k * v.1, k * v.2) = opensV to back v := by
 unfold opensV
 rw [(crs2_scl k to v).1, (crs2_scl k back v).2, (crs2_scl k back v).1, (crs2_scl k to v).2]
 simp only [(pos_scl hk).1, (pos_scl hk).2]
theorem p3opens_v (ps : List Pt) (A : Option Addr) (c : Nat) (k : Nat) (v : Pt) (r : Bool) (w : World) (hr : Rd w w.heap.size 2 A (ps.map encD)) (hl : ps.length ≤ 100) (hok : ps.all Pt.ok = true) (hv1 : -4000000 ≤ v.1 ∧ v.1 ≤ 4000000) (hv2 : -4000000 ≤ v.2 ∧ v.2 ≤ 4000000) (hlt : k < ps.length) (h : opensR ps k v = r) :
  Calls Tryz.prog 82 #[.slice A ps.length c, .int .i64 k, pt v.1 v.2] w (Ret w (.bool r)) := by
 have hm := hmix
 have hpos : 0 < ps.length := by omega
 obtain ⟨j, hj⟩ : ∃ j, (k + ps.length - 1) % ps.length = j := ⟨_, rfl⟩
 have hjl : j < ps.length := by rw [← hj]; exact Nat.mod_lt _ hpos
 have hq1 := cor_mod (ps := ps) (k + ps.length - 1) hpos
 rw [hj] at hq1
 obtain ⟨b1, off1, hA1, hb1, g0, g1⟩ := ptAt hr (cor_get hlt)
 obtain ⟨b2, off2, hA2, hb2, g2, g3⟩ := ptAt hr hq1
 have hix1 := idx_run (cap := c) Tryz.underlying22 Tryz.sizeOf24 hA1.out hlt
 have hix2 := idx_run (cap := c) (k := j) (len := ps.length) Tryz.underlying22 Tryz.sizeOf24 hA2.out hjl
 have ej : ((k : Int) + (ps.length : Int) - 1).tmod (ps.length : Int) = (j : Int) := by
  rw [Int.tmod_eq_emod_of_nonneg (by omega), show (k : Int) + (ps.length : Int) - 1 = ((k + ps.length - 1 : Nat) : Int) by omega, ← Int.natCast_emod, hj]
 have ew1 : IntKind.i64.wrap ((k : Int) + (ps.length : Int)) = (k : Int) + (ps.length : Int) := by unfold IntKind.wrap; simp [IntKind.bits, IntKind.signed]; omega
 have ew2 : IntKind.i64.wrap ((k : Int) + (ps.length : Int) - 1) = (k : Int) + (ps.length : Int) - 1 := by unfold IntKind.wrap; simp [IntKind.bits, IntKind.signed]; omega
 have hne : ¬ (ps.length : Int) = 0 := by omega
 have hne2 : ¬ ps = [] := by intro e; rw [e] at hlt; simp at hlt
 have o1 := cor_ok hok (k + ps.length - 1)
 have o2 := cor_ok hok k
 have o3 := cor_ok hok (k + 1)
 have kn := hide (fun W (hg : Grew w W) => Next_v ps A c k _ W (hr.up hg) (by omega) hlt rfl)
 have m1 := hide (fun W => rMinus_v (cor ps k) (cor ps (k + 1)) W o2 o3)
 have m2 := hide (fun W => rMinus_v (cor ps k) (cor ps (k + ps.length - 1)) W o2 o1)
 have a' := ok_bd o2
 have b' := ok_bd o3
 have d' := ok_bd o1
 unfold opensR sb at h
 generalize cor ps (k + ps.length - 1) = qd at *
 generalize cor ps k = qa at *
 generalize cor ps (k + 1) = qb at *
 obtain ⟨a1, a2⟩ := qa
 obtain ⟨bb1, bb2⟩ := qb
 obtain ⟨d1, d2⟩ := qd
 obtain ⟨v1, v2⟩ := v
 dsimp only at *
 have T1 : -4000000 ≤ bb1 - a1 ∧ bb1 - a1 ≤ 4000000 := by omega
 have T2 : -4000000 ≤ bb2 - a2 ∧ bb2 - a2 ≤ 4000000 := by omega
 have U1 : -4000000 ≤ d1 - a1 ∧ d1 - a1 ≤ 4000000 := by omega
 have U2 : -4000000 ≤ d2 - a2 ∧ d2 - a2 ≤ 4000000 := by omega
 obtain ⟨t1, ht1⟩ : ∃ z, bb1 - a1 = z := ⟨_, rfl⟩
 obtain ⟨t2, ht2⟩ : ∃ z, bb2 - a2 = z := ⟨_, rfl⟩
 obtain ⟨u1, hu1⟩ : ∃ z, d1 - a1 = z := ⟨_, rfl⟩
 obtain ⟨u2, hu2⟩ : ∃ z, d2 - a2 = z := ⟨_, rfl⟩
 rw [ht1] at T1
 rw [ht2] at T2
 rw [hu1] at U1
 rw [hu2] at U2
 rw [ht1, ht2] at m1 h
 rw [hu1, hu2] at m2 h
 have x1 := hide (fun W => rCross_any t1 t2 u1 u2 W T1 T2 U1 U2)
 have x2 := hide (fun W => rCross_any t1 t2 v1 v2 W T1 T2 hv1 hv2)
 have x3 := hide (fun W => rCross_any v1 v2 u1 u2 W hv1 hv2 U1 U2)
 have x4 := hide (fun W => rCross_any u1 u2 v1 v2 W U1 U2 hv1 hv2)
 have x5 := hide (fun W => rCross_any v1 v2 t1 t2 W hv1 hv2 T1 T2)
 unfold opensV crs2 at h
 dsimp only at h
 generalize t1 * u2 - t2 * u1 = X1 at *
 generalize t1 * v2 - t2 * v1 = X2 at *
 generalize v1 * u2 - v2 * u1 = X3 at *
 generalize u1 * v2 - u2 * v1 = X4 at *
 generalize v1 * t2 - v2 * t1 = X5 at *
 clear ht1 ht2 hu1 hu2 T1 T2 U1 U2 a' b' d' o1 o2 o3 hq1 hA1 hA2 hj hr hok hv1 hv2 hpos
 have hcase : (decide (0 < X1) = true ∧ decide (0 ≤ X2) = true ∧ r = decide (0 ≤ X3)) ∨ (decide (0 < X1) = true ∧ decide (0 ≤ X2) = false ∧ r = false) ∨ (decide (0 < X1) = false ∧ decide (0 < X4) = true ∧ r = !decide (0 < X5)) ∨ (decide (0 < X1) = false ∧ decide (0 < X4) = false ∧ r = true) := by
  by_cases q0 : 0 < X1
  ·rw [if_pos q0] at h
   by_cases q1 : 0 ≤ X2
   ·exact .inl ⟨decide_eq_true q0, decide_eq_true q1, by rw [← h, decide_eq_true q1, Bool.true_and]⟩
   ·exact .inr (.inl ⟨decide_eq_true q0, decide_eq_false q1, by rw [← h, decide_eq_false q1, Bool.false_and]⟩)
  ·rw [if_neg q0] at h
   by_cases q1 : 0 < X4
   ·exact .inr (.inr (.inl ⟨decide_eq_false q0, decide_eq_true q1, by rw [← h, decide_eq_true q1, Bool.true_and]⟩))
   ·exact .inr (.inr (.inr ⟨decide_eq_false q0, decide_eq_false q1, by rw [← h, decide_eq_false q1, Bool.false_and]; rfl⟩))
 clear h
 rcases hcase with ⟨q0, q1, q2⟩ | ⟨q0, q1, q2⟩ | ⟨q0, q1, q2⟩ | ⟨q0, q1, q2⟩
 all_goals
  subst q2
  go_enter Tryz.func82, Tryz.ntmps82
  go_wp2_with fail
  refine wp_region_qas 10 [⟨8, 9, 8, 24, .agg #[.int .i64 0, .int .i64 0]⟩] [] hm (hZ := (ZOk.cons Tryz.zeroValue24 Tryz.sizeOf24 ZOk.nil)) (h := ?_)
  repeat (refine wpSteady_step (fun K hK => ?_); go_simp; first | (refine hK _ ?_; clear hK K) | (apply Exists.intro; refine ⟨fun _ => ?_, hK _ ?_⟩; (first | (go_at_call 36; with_reducible exact kn.out _ gw) | (go_at_call 72; with_reducible exact m1.out _)); clear hK K))
  refine wpSteady_nil ?_
  refine ⟨(StOk.cons (by rfl) (by simp [stOpnd, Act.eval, Value.cells, Value.oneCell']) StOk.nil), LyOk.nil, ?_⟩
  rintro psq qsq WqH0 HWqH0 HFq HBq
  obtain rfl : qsq = [] := HBq
  obtain ⟨pH00, _, rfl, hpH00, hbH00, hnH00, rfl⟩ := HFq
  simp only [putAll, putB, Act.put, setA]
  simp [stOpnd, Act.eval, Value.cells] at hbH00
  have gcH00_0 : WqH0.cell? ⟨pH00, 0, none⟩ = some _ := blk_cell hbH00 0
  have gcH00_1 : WqH0.cell? ⟨pH00, 1, none⟩ = some _ := blk_cell hbH00 1
  have gfH00 := blk_frozen hbH00
  have glH00 := blk_lt hbH00
  have gpH00 := hide hpH00
  have ghH00 := hide hbH00
  clear hbH00 hnH00 hpH00
  have ocH0 := old_cell HWqH0
  have ofH0 := old_frozen HWqH0
  have olH0 := old_lt HWqH0
  replace HWqH0 := hide HWqH0
  have z0 : WqH0.cell? ⟨w.heap.size, 0, none⟩ = some (.int .i64 v1) := (ocH0 _ _ (by simp)).trans (by go_simp)
  have z1 : WqH0.cell? ⟨w.heap.size, 1, none⟩ = some (.int .i64 v2) := (ocH0 _ _ (by simp)).trans (by go_simp)
  have zl : w.heap.size < WqH0.heap.size := by rw [olH0 _ (by simp)]; trivial
  have h0 : WqH0.cell? ⟨b1, off1 + k * 2, none⟩ = some (.int .i64 a1) := (ocH0 _ _ (by simp; omega)).trans (by go_simp)
  have h1 : WqH0.cell? ⟨b1, off1 + k * 2 + 1, none⟩ = some (.int .i64 a2) := (ocH0 _ _ (by simp; omega)).trans (by go_simp)
  have h2 : WqH0.cell? ⟨b2, off2 + j * 2, none⟩ = some (.int .i64 d1) := (ocH0 _ _ (by simp; omega)).trans (by go_simp)
  have h3 : WqH0.cell? ⟨b2, off2 + j * 2 + 1, none⟩ = some (.int .i64 d2) := (ocH0 _ _ (by simp; omega)).trans (by go_simp)
  have l1 : b1 < WqH0.heap.size := by rw [olH0 _ (by simp; omega)]; trivial
  have l2 : b2 < WqH0.heap.size := by rw [olH0 _ (by simp; omega)]; trivial
  have s0 := gcH00_0
  have s1 := gcH00_1
  have s2 := glH00
  clear ocH0 ofH0 olH0 g0 g1 g2 g3
  go_wp2_with fail
  refine wp_region_qas 16 [⟨14, 15, 9, 24, .agg #[.int .i64 0, .int .i64 0]⟩] [] hm (hZ := (ZOk.cons Tryz.zeroValue24 Tryz.sizeOf24 ZOk.nil)) (h := ?_)
  repeat (refine wpSteady_step (fun K hK => ?_); go_simp; first | (refine hK _ ?_; clear hK K) | (apply Exists.intro; refine ⟨fun _ => ?_, hK _ ?_⟩; ((go_at_call 72; with_reducible exact m2.out _)); clear hK K))
  refine wpSteady_nil ?_
  refine ⟨(StOk.cons (by rfl) (by simp [stOpnd, Act.eval, Value.cells, Value.oneCell']) StOk.nil), LyOk.nil, ?_⟩
  rintro psq qsq WqH1 HWqH1 HFq HBq
  obtain rfl : qsq = [] := HBq
  obtain ⟨pH10, _, rfl, hpH10, hbH10, hnH10, rfl⟩ := HFq
  simp only [putAll, putB, Act.put, setA]
  simp [stOpnd, Act.eval, Value.cells] at hbH10
  have gcH10_0 : WqH1.cell? ⟨pH10, 0, none⟩ = some _ := blk_cell hbH10 0
  have gcH10_1 : WqH1.cell? ⟨pH10, 1, none⟩ = some _ := blk_cell hbH10 1
  have gfH10 := blk_frozen hbH10
  have glH10 := blk_lt hbH10
  have gpH10 := hide hpH10
  have ghH10 := hide hbH10
  clear hbH10 hnH10 hpH10
  have ocH1 := old_cell HWqH1
  have ofH1 := old_frozen HWqH1
  have olH1 := old_lt HWqH1
  replace HWqH1 := hide HWqH1
  have y0 : WqH1.cell? ⟨w.heap.size, 0, none⟩ = some (.int .i64 v1) := (ocH1 _ _ zl).trans z0
  have y1 : WqH1.cell? ⟨w.heap.size, 1, none⟩ = some (.int .i64 v2) := (ocH1 _ _ zl).trans z1
  have y2 : WqH1.cell? ⟨pH00, 0, none⟩ = some (.int .i64 t1) := (ocH1 _ _ s2).trans s0
  have y3 : WqH1.cell? ⟨pH00, 1, none⟩ = some (.int .i64 t2) := (ocH1 _ _ s2).trans s1
  have yl : w.heap.size < WqH1.heap.size := by rw [olH1 _ zl]; trivial
  have yl2 : pH00 < WqH1.heap.size := by rw [olH1 _ s2]; trivial
  clear ocH1 ofH1 olH1 z0 z1 h0 h1 h2 h3 s0 s1
  go_wp2_with (first | (go_at_call 71; with_reducible refine crv (x1.out _) fun _ _ => ?_; dsimp only) | (go_at_call 71; with_reducible refine crv (x2.out _) fun _ _ => ?_; dsimp only) | (go_at_call 71; with_reducible refine crv (x3.out _) fun _ _ => ?_; dsimp only) | (go_at_call 71; with_reducible refine crv (x4.out _) fun _ _ => ?_; dsimp only) | (go_at_call 71; with_reducible refine crv (x5.out _) fun _ _ => ?_; dsimp only))
  go_ret
  exact Ret.mk' (ret_bool (by simp [*])) (Grew.trans gw (HWqH0.out.trans (Grew.trans gw (HWqH1.out.trans gw))))
end Go.Proofs.YtndkfpmklmcjjaaGreat
