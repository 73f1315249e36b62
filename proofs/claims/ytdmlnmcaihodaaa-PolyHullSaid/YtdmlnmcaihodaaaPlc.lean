/- Package plane: distances; the functions with an error. -/
import Derived.Test.YtdmlnmcaihodaaaPlb
import Derived.Test.YtdmlnmcaihodaaaApp
namespace Go.Proofs.Ytdmlnmcaihodaaa
set_option linter.unusedVariables false
set_option linter.unusedSimpArgs false
open Go.RowKit Go.Sort
attribute [local go_sem] Steady steadyUpon
attribute [local go_sem ↓] hs_dr lt_add_r lt_add_r2 lt_add_r3 lt_add_r4 lt_add_r5 lt_add_r6
attribute [local go_sem] cell?_gd frozen?_gd setCell_gd size_grow tape_grow cell?_grow' frozen?_grow' setCell_grow' grow_grow grow_dr grow_drew dr_dr dr_drew drew_dr dr_alloc dr_setCell dr_cell dr_frozen dr_tape dr_drawn
attribute [local irreducible] wpSteady

/-- A mark at which the walk stands still. -/
def AppG (p : Prop) : Prop := p
theorem AppG.stop {p : Prop} (h : AppG p) : p := h
theorem from_v (a b : Pt) (w : World) (ha : a.ok = true) (hb : b.ok = true) : Calls Try.prog 81 #[pt a.1 a.2, pt b.1 b.2] w (Ret w (pt (b.1 - a.1) (b.2 - a.2))) := by
  have a' := ok_bd ha
  have b' := ok_bd hb
  exact from_any _ _ _ _ w (by omega) (by omega) (by omega) (by omega)
def sqr (p a b : Pt) : Int × Int × Int :=
  if dt a b p ≤ 0 then (dt a p p, 1, 1) else if dt a b b ≤ dt a b p then (dt b p p, 1, 1) else ((cr a b p).natAbs, (cr a b p).natAbs, dt a b b)
set_option maxHeartbeats 4000000 in
theorem square_any (p a b : Pt) (w : World) (hp : p.ok = true) (ha : a.ok = true) (hb : b.ok = true) :
    Calls Try.prog 63 #[pt p.1 p.2, pt a.1 a.2, pt b.1 b.2] w (Ret w (.tuple #[.int .i64 (sqr p a b).1, .int .i64 (sqr p a b).2.1, .int .i64 (sqr p a b).2.2])) := by
  have hm := hmix
  have p' := ok_bd hp
  have a' := ok_bd ha
  have b' := ok_bd hb
  have cb := cr_bd ha hb hp
  have db := dt_bd ha hb hb
  have k1 := hide (fun W => from_v a b W ha hb)
  have k2 := hide (fun W => from_v a p W ha hp)
  have k3 := hide (fun W => from_v b p W hb hp)
  have d1 : Hid (∀ W, Calls Try.prog 83 #[pt (b.1 - a.1) (b.2 - a.2), pt (b.1 - a.1) (b.2 - a.2)] W (Ret W (.int .i64 (dt a b b)))) := hide (fun W => vdot_any _ _ _ _ W (by omega) (by omega) (by omega) (by omega))
  have d2 : Hid (∀ W, Calls Try.prog 83 #[pt (b.1 - a.1) (b.2 - a.2), pt (p.1 - a.1) (p.2 - a.2)] W (Ret W (.int .i64 (dt a b p)))) := hide (fun W => vdot_any _ _ _ _ W (by omega) (by omega) (by omega) (by omega))
  have d3 : Hid (∀ W, Calls Try.prog 83 #[pt (p.1 - a.1) (p.2 - a.2), pt (p.1 - a.1) (p.2 - a.2)] W (Ret W (.int .i64 (dt a p p)))) := hide (fun W => vdot_any _ _ _ _ W (by omega) (by omega) (by omega) (by omega))
  have d4 : Hid (∀ W, Calls Try.prog 83 #[pt (p.1 - b.1) (p.2 - b.2), pt (p.1 - b.1) (p.2 - b.2)] W (Ret W (.int .i64 (dt b p p)))) := hide (fun W => vdot_any _ _ _ _ W (by omega) (by omega) (by omega) (by omega))
  have d5 : Hid (∀ W, Calls Try.prog 82 #[pt (b.1 - a.1) (b.2 - a.2), pt (p.1 - a.1) (p.2 - a.2)] W (Ret W (.int .i64 (cr a b p)))) := hide (fun W => vcross_any _ _ _ _ W (by omega) (by omega) (by omega) (by omega))
  unfold sqr
  generalize dt a b b = long at *
  generalize dt a b p = foot at *
  generalize dt a p p = ww at *
  generalize dt b p p = uu at *
  generalize cr a b p = c at *
  obtain ⟨x1, x2⟩ := p
  obtain ⟨a1, a2⟩ := a
  obtain ⟨b1, b2⟩ := b
  dsimp only at *
  obtain ⟨v1, hv1⟩ : ∃ z, b1 - a1 = z := ⟨_, rfl⟩
  obtain ⟨v2, hv2⟩ : ∃ z, b2 - a2 = z := ⟨_, rfl⟩
  obtain ⟨w1, hw1⟩ : ∃ z, x1 - a1 = z := ⟨_, rfl⟩
  obtain ⟨w2, hw2⟩ : ∃ z, x2 - a2 = z := ⟨_, rfl⟩
  obtain ⟨u1, hu1⟩ : ∃ z, x1 - b1 = z := ⟨_, rfl⟩
  obtain ⟨u2, hu2⟩ : ∃ z, x2 - b2 = z := ⟨_, rfl⟩
  rw [hv1, hv2] at k1 d1 d2 d5
  rw [hw1, hw2] at k2 d2 d3 d5
  rw [hu1, hu2] at k3 d4
  clear hv1 hv2 hw1 hw2 hu1 hu2 hp ha hb p' a' b'
  by_cases h0 : foot ≤ 0
  · rw [if_pos h0]
    go_enter Try.func63, Try.ntmps63
    go_wp2_with fail
    refine wp_region_qas 10 [⟨6, 8, 9, 104, .agg #[.int .i64 0, .int .i64 0]⟩, ⟨7, 9, 10, 104, .agg #[.int .i64 0, .int .i64 0]⟩] [] hm (by kernel_rfl) (by simp only [List.take, List.filter, isQ]; rfl) (by simp only [List.drop]; rfl) (ZOk.cons Try.zeroValue104 Try.sizeOf104 (ZOk.cons Try.zeroValue104 Try.sizeOf104 ZOk.nil)) (by simp) ?_
    repeat (refine wpSteady_step (fun K hK => ?_); go_simp; first | (refine hK _ ?_; clear hK K) | (apply Exists.intro; refine ⟨fun _ => ?_, hK _ ?_⟩; (go_at_call 81; first | with_reducible exact k1.out _ | with_reducible exact k2.out _); clear hK K))
    refine wpSteady_nil ?_
    refine ⟨(StOk.cons (by rfl) (by simp [stOpnd, Act.eval, Value.cells, Value.oneCell']) (StOk.cons (by rfl) (by simp [stOpnd, Act.eval, Value.cells, Value.oneCell']) StOk.nil)), LyOk.nil, ?_⟩
    rintro psq qsq Wq HWq HFq HBq
    obtain rfl : qsq = [] := HBq
    obtain ⟨p0, _, rfl, hp0, hb0, hn0, p1, _, rfl, hp1, hb1, hn1, rfl⟩ := HFq
    simp only [putAll, putB, Act.put, List.setIfInBounds_toArray, List.set_cons_succ, List.set_cons_zero]
    simp [stOpnd, Act.eval, Value.cells] at hb0
    have gc0_0 : Wq.cell? ⟨p0, 0, none⟩ = some _ := blk_cell hb0 0
    have gc0_1 : Wq.cell? ⟨p0, 1, none⟩ = some _ := blk_cell hb0 1
    have gf0 := blk_frozen hb0
    have gl0 := blk_lt hb0
    simp [stOpnd, Act.eval, Value.cells] at hb1
    have gc1_0 : Wq.cell? ⟨p1, 0, none⟩ = some _ := blk_cell hb1 0
    have gc1_1 : Wq.cell? ⟨p1, 1, none⟩ = some _ := blk_cell hb1 1
    have gf1 := blk_frozen hb1
    have gl1 := blk_lt hb1
    have gn : p0 ≠ p1 := by simpa using hn0
    have gm : p1 ≠ p0 := fun e => gn e.symm
    have gp0 := hide hp0
    have gp1 := hide hp1
    clear hb0 hn0 hp0 hb1 hn1 hp1
    have oc := old_cell HWq
    have of := old_frozen HWq
    have ol := old_lt HWq
    replace HWq := hide HWq
    go_wp2_with fail
    refine wp_region_qas 8 [] [] hm (by kernel_rfl) (by simp only [List.take, List.filter, isQ]; rfl) (by simp only [List.drop]; rfl) ZOk.nil (by simp) ?_
    repeat (refine wpSteady_step (fun K hK => ?_); go_simp; first | (refine hK _ ?_; clear hK K) | (apply Exists.intro; refine ⟨fun _ => ?_, hK _ ?_⟩; (go_at_call 83; first | with_reducible exact d1.out _ | with_reducible exact d2.out _); clear hK K))
    refine wpSteady_nil ?_
    refine ⟨StOk.nil, LyOk.nil, ?_⟩
    rintro psq qsq Wqz HWqz HFq HBq
    obtain rfl : qsq = [] := HBq
    obtain rfl : psq = [] := HFq
    obtain ⟨⟨nqz, osqz⟩, rfl⟩ := HWqz
    simp only [putAll, putB, Act.put, List.setIfInBounds_toArray, List.set_cons_succ, List.set_cons_zero]
    try dsimp only
    go_wp2_with (first | (go_at_call 83; (with_reducible refine (d3.out _).mono ?_); rintro e w' ⟨rfl, ⟨_, _⟩, rfl⟩; dsimp only) | (go_at_call 83; (with_reducible refine (d4.out _).mono ?_); rintro e w' ⟨rfl, ⟨_, _⟩, rfl⟩; dsimp only) | (go_at_call 81; (with_reducible refine (k3.out _).mono ?_); rintro e w' ⟨rfl, ⟨_, _⟩, rfl⟩; dsimp only) | (go_at_call 82; (with_reducible refine (d5.out _).mono ?_); rintro e w' ⟨rfl, ⟨_, _⟩, rfl⟩; dsimp only))
    go_ret3
    exact Ret.mk' rfl (Grew.trans (by repeat (with_reducible first | exact Grew.refl _ | assumption | refine Grew.alloc ?_ _ | refine Grew.grow ?_ _ | refine Grew.dr ?_ _ | refine Grew.drewN ?_ _ | refine Grew.drew ?_ | refine Grew.trans ?_ (Hid.out (by assumption)))) (HWq.out.trans (by repeat (with_reducible first | exact Grew.refl _ | assumption | refine Grew.alloc ?_ _ | refine Grew.grow ?_ _ | refine Grew.dr ?_ _ | refine Grew.drewN ?_ _ | refine Grew.drew ?_ | refine Grew.trans ?_ (Hid.out (by assumption))))))
  · have h0' : decide (foot ≤ 0) = false := by simpa using h0
    rw [if_neg h0]
    by_cases h1 : long ≤ foot
    · rw [if_pos h1]
      go_enter Try.func63, Try.ntmps63
      go_wp2_with fail
      refine wp_region_qas 10 [⟨6, 8, 9, 104, .agg #[.int .i64 0, .int .i64 0]⟩, ⟨7, 9, 10, 104, .agg #[.int .i64 0, .int .i64 0]⟩] [] hm (by kernel_rfl) (by simp only [List.take, List.filter, isQ]; rfl) (by simp only [List.drop]; rfl) (ZOk.cons Try.zeroValue104 Try.sizeOf104 (ZOk.cons Try.zeroValue104 Try.sizeOf104 ZOk.nil)) (by simp) ?_
      repeat (refine wpSteady_step (fun K hK => ?_); go_simp; first | (refine hK _ ?_; clear hK K) | (apply Exists.intro; refine ⟨fun _ => ?_, hK _ ?_⟩; (go_at_call 81; first | with_reducible exact k1.out _ | with_reducible exact k2.out _); clear hK K))
      refine wpSteady_nil ?_
      refine ⟨(StOk.cons (by rfl) (by simp [stOpnd, Act.eval, Value.cells, Value.oneCell']) (StOk.cons (by rfl) (by simp [stOpnd, Act.eval, Value.cells, Value.oneCell']) StOk.nil)), LyOk.nil, ?_⟩
      rintro psq qsq Wq HWq HFq HBq
      obtain rfl : qsq = [] := HBq
      obtain ⟨p0, _, rfl, hp0, hb0, hn0, p1, _, rfl, hp1, hb1, hn1, rfl⟩ := HFq
      simp only [putAll, putB, Act.put, List.setIfInBounds_toArray, List.set_cons_succ, List.set_cons_zero]
      simp [stOpnd, Act.eval, Value.cells] at hb0
      have gc0_0 : Wq.cell? ⟨p0, 0, none⟩ = some _ := blk_cell hb0 0
      have gc0_1 : Wq.cell? ⟨p0, 1, none⟩ = some _ := blk_cell hb0 1
      have gf0 := blk_frozen hb0
      have gl0 := blk_lt hb0
      simp [stOpnd, Act.eval, Value.cells] at hb1
      have gc1_0 : Wq.cell? ⟨p1, 0, none⟩ = some _ := blk_cell hb1 0
      have gc1_1 : Wq.cell? ⟨p1, 1, none⟩ = some _ := blk_cell hb1 1
      have gf1 := blk_frozen hb1
      have gl1 := blk_lt hb1
      have gn : p0 ≠ p1 := by simpa using hn0
      have gm : p1 ≠ p0 := fun e => gn e.symm
      have gp0 := hide hp0
      have gp1 := hide hp1
      clear hb0 hn0 hp0 hb1 hn1 hp1
      have oc := old_cell HWq
      have of := old_frozen HWq
      have ol := old_lt HWq
      replace HWq := hide HWq
      have e0 : Wq.cell? ⟨w.heap.size, 0, none⟩ = some (.int .i64 x1) := (oc _ _ (by simp; omega)).trans (by go_simp)
      have e1 : Wq.cell? ⟨w.heap.size, 1, none⟩ = some (.int .i64 x2) := (oc _ _ (by simp; omega)).trans (by go_simp)
      have e2 : Wq.cell? ⟨w.heap.size + 1 + 1, 0, none⟩ = some (.int .i64 b1) := (oc _ _ (by simp)).trans (by go_simp)
      have e3 : Wq.cell? ⟨w.heap.size + 1 + 1, 1, none⟩ = some (.int .i64 b2) := (oc _ _ (by simp)).trans (by go_simp)
      have l2 : w.heap.size + 1 + 1 < Wq.heap.size := by rw [ol _ (by simp)]; trivial
      have l0 : w.heap.size < Wq.heap.size := by omega
      go_wp2_with fail
      refine wp_region_qas 8 [] [] hm (by kernel_rfl) (by simp only [List.take, List.filter, isQ]; rfl) (by simp only [List.drop]; rfl) ZOk.nil (by simp) ?_
      repeat (refine wpSteady_step (fun K hK => ?_); go_simp; first | (refine hK _ ?_; clear hK K) | (apply Exists.intro; refine ⟨fun _ => ?_, hK _ ?_⟩; (go_at_call 83; first | with_reducible exact d1.out _ | with_reducible exact d2.out _); clear hK K))
      refine wpSteady_nil ?_
      refine ⟨StOk.nil, LyOk.nil, ?_⟩
      rintro psq qsq Wqz HWqz HFq HBq
      obtain rfl : qsq = [] := HBq
      obtain rfl : psq = [] := HFq
      obtain ⟨⟨nqz, osqz⟩, rfl⟩ := HWqz
      simp only [putAll, putB, Act.put, List.setIfInBounds_toArray, List.set_cons_succ, List.set_cons_zero]
      try dsimp only
      go_wp2_with (first | (go_at_call 83; (with_reducible refine (d3.out _).mono ?_); rintro e w' ⟨rfl, ⟨_, _⟩, rfl⟩; dsimp only) | (go_at_call 83; (with_reducible refine (d4.out _).mono ?_); rintro e w' ⟨rfl, ⟨_, _⟩, rfl⟩; dsimp only) | (go_at_call 81; (with_reducible refine (k3.out _).mono ?_); rintro e w' ⟨rfl, ⟨_, _⟩, rfl⟩; dsimp only) | (go_at_call 82; (with_reducible refine (d5.out _).mono ?_); rintro e w' ⟨rfl, ⟨_, _⟩, rfl⟩; dsimp only))
      go_ret3
      exact Ret.mk' rfl (Grew.trans (by repeat (with_reducible first | exact Grew.refl _ | assumption | refine Grew.alloc ?_ _ | refine Grew.grow ?_ _ | refine Grew.dr ?_ _ | refine Grew.drewN ?_ _ | refine Grew.drew ?_ | refine Grew.trans ?_ (Hid.out (by assumption)))) (HWq.out.trans (by repeat (with_reducible first | exact Grew.refl _ | assumption | refine Grew.alloc ?_ _ | refine Grew.grow ?_ _ | refine Grew.dr ?_ _ | refine Grew.drewN ?_ _ | refine Grew.drew ?_ | refine Grew.trans ?_ (Hid.out (by assumption))))))
    · have h1' : decide (long ≤ foot) = false := by simpa using h1
      rw [if_neg h1]
      go_enter Try.func63, Try.ntmps63
      go_wp2_with fail
      refine wp_region_qas 10 [⟨6, 8, 9, 104, .agg #[.int .i64 0, .int .i64 0]⟩, ⟨7, 9, 10, 104, .agg #[.int .i64 0, .int .i64 0]⟩] [] hm (by kernel_rfl) (by simp only [List.take, List.filter, isQ]; rfl) (by simp only [List.drop]; rfl) (ZOk.cons Try.zeroValue104 Try.sizeOf104 (ZOk.cons Try.zeroValue104 Try.sizeOf104 ZOk.nil)) (by simp) ?_
      repeat (refine wpSteady_step (fun K hK => ?_); go_simp; first | (refine hK _ ?_; clear hK K) | (apply Exists.intro; refine ⟨fun _ => ?_, hK _ ?_⟩; (go_at_call 81; first | with_reducible exact k1.out _ | with_reducible exact k2.out _); clear hK K))
      refine wpSteady_nil ?_
      refine ⟨(StOk.cons (by rfl) (by simp [stOpnd, Act.eval, Value.cells, Value.oneCell']) (StOk.cons (by rfl) (by simp [stOpnd, Act.eval, Value.cells, Value.oneCell']) StOk.nil)), LyOk.nil, ?_⟩
      rintro psq qsq Wq HWq HFq HBq
      obtain rfl : qsq = [] := HBq
      obtain ⟨p0, _, rfl, hp0, hb0, hn0, p1, _, rfl, hp1, hb1, hn1, rfl⟩ := HFq
      simp only [putAll, putB, Act.put, List.setIfInBounds_toArray, List.set_cons_succ, List.set_cons_zero]
      simp [stOpnd, Act.eval, Value.cells] at hb0
      have gc0_0 : Wq.cell? ⟨p0, 0, none⟩ = some _ := blk_cell hb0 0
      have gc0_1 : Wq.cell? ⟨p0, 1, none⟩ = some _ := blk_cell hb0 1
      have gf0 := blk_frozen hb0
      have gl0 := blk_lt hb0
      simp [stOpnd, Act.eval, Value.cells] at hb1
      have gc1_0 : Wq.cell? ⟨p1, 0, none⟩ = some _ := blk_cell hb1 0
      have gc1_1 : Wq.cell? ⟨p1, 1, none⟩ = some _ := blk_cell hb1 1
      have gf1 := blk_frozen hb1
      have gl1 := blk_lt hb1
      have gn : p0 ≠ p1 := by simpa using hn0
      have gm : p1 ≠ p0 := fun e => gn e.symm
      have gp0 := hide hp0
      have gp1 := hide hp1
      clear hb0 hn0 hp0 hb1 hn1 hp1
      have oc := old_cell HWq
      have of := old_frozen HWq
      have ol := old_lt HWq
      replace HWq := hide HWq
      go_wp2_with fail
      refine wp_region_qas 8 [] [] hm (by kernel_rfl) (by simp only [List.take, List.filter, isQ]; rfl) (by simp only [List.drop]; rfl) ZOk.nil (by simp) ?_
      repeat (refine wpSteady_step (fun K hK => ?_); go_simp; first | (refine hK _ ?_; clear hK K) | (apply Exists.intro; refine ⟨fun _ => ?_, hK _ ?_⟩; (go_at_call 83; first | with_reducible exact d1.out _ | with_reducible exact d2.out _); clear hK K))
      refine wpSteady_nil ?_
      refine ⟨StOk.nil, LyOk.nil, ?_⟩
      rintro psq qsq Wqz HWqz HFq HBq
      obtain rfl : qsq = [] := HBq
      obtain rfl : psq = [] := HFq
      obtain ⟨⟨nqz, osqz⟩, rfl⟩ := HWqz
      simp only [putAll, putB, Act.put, List.setIfInBounds_toArray, List.set_cons_succ, List.set_cons_zero]
      try dsimp only
      go_wp2_with (first | (go_at_call 83; (with_reducible refine (d3.out _).mono ?_); rintro e w' ⟨rfl, ⟨_, _⟩, rfl⟩; dsimp only) | (go_at_call 83; (with_reducible refine (d4.out _).mono ?_); rintro e w' ⟨rfl, ⟨_, _⟩, rfl⟩; dsimp only) | (go_at_call 81; (with_reducible refine (k3.out _).mono ?_); rintro e w' ⟨rfl, ⟨_, _⟩, rfl⟩; dsimp only) | (go_at_call 82; (with_reducible refine (d5.out _).mono ?_); rintro e w' ⟨rfl, ⟨_, _⟩, rfl⟩; dsimp only))
      all_goals go_ret3
      all_goals exact Ret.mk' (ret_tup3 (ret_int (by omega)) (ret_int (by omega)) rfl) (Grew.trans (by repeat (with_reducible first | exact Grew.refl _ | assumption | refine Grew.alloc ?_ _ | refine Grew.grow ?_ _ | refine Grew.dr ?_ _ | refine Grew.drewN ?_ _ | refine Grew.drew ?_ | refine Grew.trans ?_ (Hid.out (by assumption)))) (HWq.out.trans (by repeat (with_reducible first | exact Grew.refl _ | assumption | refine Grew.alloc ?_ _ | refine Grew.grow ?_ _ | refine Grew.dr ?_ _ | refine Grew.drewN ?_ _ | refine Grew.drew ?_ | refine Grew.trans ?_ (Hid.out (by assumption))))))
theorem sqnn (x : Int) : 0 ≤ x * x := by rw [← Int.natAbs_mul_self]; exact Int.natCast_nonneg _
theorem sqr_bd {p a b : Pt} (hp : p.ok = true) (ha : a.ok = true) (hb : b.ok = true) : (0 ≤ (sqr p a b).1 ∧ (sqr p a b).1 ≤ 8000000000000) ∧ (0 ≤ (sqr p a b).2.1 ∧ (sqr p a b).2.1 ≤ 8000000000000) ∧ (0 ≤ (sqr p a b).2.2 ∧ (sqr p a b).2.2 ≤ 8000000000000) := by
  have c1 := cr_bd ha hb hp
  have c2 := dt_bd ha hp hp
  have c3 := dt_bd hb hp hp
  have c4 := dt_bd ha hb hb
  have p1 : 0 ≤ dt a p p := by unfold dt; have := sqnn (p.1 - a.1); have := sqnn (p.2 - a.2); omega
  have p2 : 0 ≤ dt b p p := by unfold dt; have := sqnn (p.1 - b.1); have := sqnn (p.2 - b.2); omega
  have p3 : 0 ≤ dt a b b := by unfold dt; have := sqnn (b.1 - a.1); have := sqnn (b.2 - a.2); omega
  unfold sqr
  split
  · dsimp only; omega
  · split
    · dsimp only; omega
    · dsimp only; omega
/-- At most d from a segment; at least d from it. -/
def nearB (p a b : Pt) (d : Int) : Bool := decide ((sqr p a b).1 * (sqr p a b).2.1 ≤ d * d * (sqr p a b).2.2)
def apartB (p a b : Pt) (d : Int) : Bool := decide (d * d * (sqr p a b).2.2 ≤ (sqr p a b).1 * (sqr p a b).2.1)
def distB (d : Int) : Bool := decide (0 ≤ d ∧ d ≤ 3000000)
theorem most_v (a b c d : Int) (r : Bool) (w : World) (ha : 0 ≤ a ∧ a < 9223372036854775808) (hb : 0 ≤ b ∧ b < 9223372036854775808) (hc : 0 ≤ c ∧ c < 9223372036854775808) (hd : 0 ≤ d ∧ d < 9223372036854775808) (h : decide (a * b ≤ c * d) = r) :
    Calls Try.prog 64 #[.int .i64 a, .int .i64 b, .int .i64 c, .int .i64 d] w (Ret w (.bool r)) := by
  obtain ⟨x, rfl⟩ : ∃ x : Nat, a = x := ⟨a.toNat, by omega⟩
  obtain ⟨y, rfl⟩ : ∃ x : Nat, b = x := ⟨b.toNat, by omega⟩
  obtain ⟨z, rfl⟩ : ∃ x : Nat, c = x := ⟨c.toNat, by omega⟩
  obtain ⟨u, rfl⟩ : ∃ x : Nat, d = x := ⟨d.toNat, by omega⟩
  have := most_any x y z u w (by omega) (by omega) (by omega) (by omega)
  rw [← Int.natCast_mul, ← Int.natCast_mul] at h
  have e : decide (x * y ≤ z * u) = r := by rw [← h, Bool.eq_iff_iff, decide_eq_true_eq, decide_eq_true_eq, Int.ofNat_le]
  rwa [e] at this
theorem square_v (p a b : Pt) (q : Int × Int × Int) (w : World) (hp : p.ok = true) (ha : a.ok = true) (hb : b.ok = true) (h : sqr p a b = q) :
    Calls Try.prog 63 #[pt p.1 p.2, pt a.1 a.2, pt b.1 b.2] w (Ret w (.tuple #[.int .i64 q.1, .int .i64 q.2.1, .int .i64 q.2.2])) := by
  have := square_any p a b w hp ha hb
  rwa [h] at this
theorem sq_bd {d : Int} (h : 0 ≤ d ∧ d ≤ 3000000) : 0 ≤ d * d ∧ d * d ≤ 9000000000000 := by
  have h1 := mul_bd (a := d) (b := d) 3000000 3000000 (by omega) (by omega)
  have h2 := sqnn d
  simp only [Nat.reduceMul, Int.reduceNeg, Int.cast_ofNat_Int] at h1
  omega
set_option maxHeartbeats 1600000 in
theorem near_any (p a b : Pt) (d : Int) (w : World) (hp : p.ok = true) (ha : a.ok = true) (hb : b.ok = true) (hd : 0 ≤ d ∧ d ≤ 3000000) :
    Calls Try.prog 36 #[pt p.1 p.2, pt a.1 a.2, pt b.1 b.2, .int .i64 d] w (Ret w (.bool (nearB p a b d))) := by
  have hm := hmix
  have hbd := sqr_bd hp ha hb
  unfold nearB
  obtain ⟨⟨x, y, z⟩, hq⟩ : ∃ q, sqr p a b = q := ⟨_, rfl⟩
  rw [hq] at hbd ⊢
  dsimp only at hbd ⊢
  obtain ⟨r, hr⟩ : ∃ r, decide (x * y ≤ d * d * z) = r := ⟨_, rfl⟩
  rw [hr]
  have hdd := sq_bd hd
  have k1 := hide (fun W => square_v p a b _ W hp ha hb hq)
  have k2 := hide (fun W => most_v x y (d * d) z r W (by omega) (by omega) (by omega) (by omega) hr)
  obtain ⟨p1, p2⟩ := p
  obtain ⟨a1, a2⟩ := a
  obtain ⟨b1, b2⟩ := b
  clear hq hr hp ha hb hbd
  go_enter Try.func36, Try.ntmps36
  go_wp2_with (first | (go_at_call 63; (with_reducible refine (k1.out _).mono ?_); rintro e w' ⟨rfl, ⟨_, _⟩, rfl⟩; dsimp only) | (go_at_call 64; (with_reducible refine (k2.out _).mono ?_); rintro e w' ⟨rfl, ⟨_, _⟩, rfl⟩; dsimp only))
  go_ret
  exact Ret.mk' rfl (by repeat (with_reducible first | exact Grew.refl _ | assumption | refine Grew.alloc ?_ _ | refine Grew.grow ?_ _ | refine Grew.dr ?_ _ | refine Grew.drewN ?_ _ | refine Grew.drew ?_ | refine Grew.trans ?_ (Hid.out (by assumption))))
theorem near_v (p a b : Pt) (d : Int) (r : Bool) (w : World) (hp : p.ok = true) (ha : a.ok = true) (hb : b.ok = true) (hd : 0 ≤ d ∧ d ≤ 3000000) (h : nearB p a b d = r) :
    Calls Try.prog 36 #[pt p.1 p.2, pt a.1 a.2, pt b.1 b.2, .int .i64 d] w (Ret w (.bool r)) := by
  have := near_any p a b d w hp ha hb hd
  rwa [h] at this
set_option maxHeartbeats 400000 in
theorem distance_any (d : Int) (w : World) : Calls Try.prog 35 #[.int .i64 d] w (Ret w (.bool (distB d))) := by
  go_enter Try.func35, Try.ntmps35
  go_wp2
  all_goals go_ret
  all_goals refine Ret.mk' (ret_bool ?_) (by repeat (with_reducible first | exact Grew.refl _ | assumption | refine Grew.alloc ?_ _ | refine Grew.grow ?_ _ | refine Grew.dr ?_ _ | refine Grew.drewN ?_ _ | refine Grew.drew ?_ | refine Grew.trans ?_ (Hid.out (by assumption))))
  all_goals (rw [Bool.eq_iff_iff]; simp [distB]; omega)
theorem distance_v (d : Int) (r : Bool) (w : World) (h : distB d = r) : Calls Try.prog 35 #[.int .i64 d] w (Ret w (.bool r)) := by
  have := distance_any d w
  rwa [h] at this

def encD (v : Pt) : List Value := [.int .i64 v.1, .int .i64 v.2]
theorem encD_len (v : Pt) : (encD v).length = 2 := rfl
theorem ptAt {w : World} {B : Nat} {A : Option Addr} {ps : List Pt} {k : Nat} {p : Pt} (h : Rd w B 2 A (ps.map encD)) (hk : ps[k]? = some p) :
    ∃ b off, Hid (A = some ⟨b, off, none⟩) ∧ b < B ∧ w.cell? ⟨b, off + k * 2, none⟩ = some (.int .i64 p.1) ∧ w.cell? ⟨b, off + k * 2 + 1, none⟩ = some (.int .i64 p.2) := by
  obtain ⟨b, off, hA, hb, hc⟩ := h.at_ (k := k) (x := encD p) (by simp [hk])
  exact ⟨b, off, hA, hb, hc 0 _ rfl, hc 1 _ rfl⟩
theorem Rd.blkP {W : World} {b : Nat} {cs : Array Value} {T : TypeId} (ps : List Pt) (h : W.heap[b]? = some (.cells cs T (0, 0))) (hc : cs.toList = ps.flatMap encD) : Rd W W.heap.size 2 (some ⟨b, 0, none⟩) (ps.map encD) := by
  refine .inr ⟨b, 0, rfl, blk_lt h, fun k x hx j u hu => ?_⟩
  rw [List.getElem?_map] at hx
  obtain ⟨s, hs, rfl⟩ := Option.map_eq_some_iff.1 hx
  have hj : j < 2 := by rw [← encD_len s]; exact (List.getElem?_eq_some_iff.1 hu).1
  rw [Nat.zero_add, blk_cell h, ← Array.getElem?_toList, hc]
  exact (flatMap_get encD 2 encD_len ps k j u hj).2 ⟨s, hs, hu⟩
theorem all_take_succ {ps : List Pt} {k : Nat} {p : Pt} (f : Pt → Bool) (h : ps[k]? = some p) : (ps.take (k + 1)).all f = ((ps.take k).all f && f p) := by
  obtain ⟨h1, h2⟩ := List.getElem?_eq_some_iff.1 h
  rw [List.take_succ_eq_append_getElem h1, h2, List.all_append]
  simp
theorem all_false_at {ps : List Pt} {k : Nat} {p : Pt} {f : Pt → Bool} (h : ps[k]? = some p) (hf : f p = false) : ps.all f = false :=
  List.all_eq_false.2 ⟨p, List.mem_of_getElem? h, by rw [hf]; simp⟩
theorem wp_name {P : Program} {c : Code} {Q : Exit → Act → World → Prop} {a : Act} {w : World} (h : ∀ W0, w = W0 → c.wp P Q a W0) : c.wp P Q a w := h _ rfl
theorem heap_alloc_at (W : World) (o : Obj) (b : Nat) (h : b = W.heap.size) : (W.alloc o).heap[b]? = some o := by subst h; exact heap_alloc_new W o

set_option maxHeartbeats 1600000 in
theorem valids_any (ps : List Pt) (A : Option Addr) (c : Nat) (w : World) (hr : Rd w w.heap.size 2 A (ps.map encD)) (hc : ps.length ≤ 1000000) :
    Calls Try.prog 30 #[.slice A ps.length c] w (Ret w (.bool (ps.all Pt.ok))) := by
  have hm := hmix
  obtain ⟨r, hr'⟩ : ∃ r, ps.all Pt.ok = r := ⟨_, rfl⟩
  rw [hr']
  have HR := hide hr'
  clear hr'
  go_enter Try.func30, Try.ntmps30
  go_wp2_with fail
  go_loopw [7] (fun i wr => ∃ k : Nat, k ≤ ps.length ∧ i = .int .i64 k ∧ Grew w wr ∧ AppG ((ps.take k).all Pt.ok = true)) (fun i _ => ps.length - (intOf i).toNat)
  case atStart => exact ⟨0, by omega, rfl, (by repeat (with_reducible first | exact Grew.refl _ | assumption | refine Grew.alloc ?_ _ | refine Grew.grow ?_ _ | refine Grew.dr ?_ _ | refine Grew.drewN ?_ _ | refine Grew.drew ?_ | refine Grew.trans ?_ (Hid.out (by assumption)))), rfl⟩
  case round =>
    obtain ⟨k, hk, rfl, hg, hall⟩ := hrel
    have HG := hide hg
    have HA := hide hall.stop
    clear hg hall
    by_cases hlt : k < ps.length
    · obtain ⟨p, hp⟩ : ∃ p, ps[k]? = some p := ⟨_, List.getElem?_eq_getElem hlt⟩
      obtain ⟨b, off, hA, hb, h0, h1⟩ := ptAt (hr.up HG.out) hp
      have hix := idx_run (cap := c) Try.underlying22 Try.sizeOf28 hA.out hlt
      have hs := all_take_succ Pt.ok hp
      rw [HA.out, Bool.true_and] at hs
      have HP := hide hp
      have HS := hide hs
      obtain ⟨o, ho⟩ : ∃ o, p.ok = o := ⟨_, rfl⟩
      have k1 := hide (fun W => planeValid_v p.1 p.2 o W ho)
      have HO := hide ho
      clear hp hs ho
      obtain ⟨p1, p2⟩ := p
      dsimp only at h0 h1
      cases o
      · go_wp2_with (go_at_call 28; (with_reducible refine (k1.out _).mono ?_); rintro e w' ⟨rfl, ⟨_, _⟩, rfl⟩; dsimp only)
        go_ret
        have e : ps.all Pt.ok = false := all_false_at HP.out HO.out
        obtain rfl : r = false := by rw [← HR.out, e]
        exact Ret.mk' rfl (HG.out.trans (by repeat (with_reducible first | exact Grew.refl _ | assumption | refine Grew.alloc ?_ _ | refine Grew.grow ?_ _ | refine Grew.dr ?_ _ | refine Grew.drewN ?_ _ | refine Grew.drew ?_ | refine Grew.trans ?_ (Hid.out (by assumption)))))
      · go_wp2_with (go_at_call 28; (with_reducible refine (k1.out _).mono ?_); rintro e w' ⟨rfl, ⟨_, _⟩, rfl⟩; dsimp only)
        go_roundw
        case rel => exact ⟨k + 1, by omega, by go_num, HG.out.trans (by repeat (with_reducible first | exact Grew.refl _ | assumption | refine Grew.alloc ?_ _ | refine Grew.grow ?_ _ | refine Grew.dr ?_ _ | refine Grew.drewN ?_ _ | refine Grew.drew ?_ | refine Grew.trans ?_ (Hid.out (by assumption)))), by rw [HS.out]; exact HO.out⟩
        case measure => simp [intOf]; omega
    · obtain rfl : k = ps.length := by omega
      rw [List.take_length] at HA
      obtain rfl : r = true := by rw [← HR.out, HA.out]
      go_wp2_with fail
      go_ret
      exact Ret.mk' rfl HG.out
end Go.Proofs.Ytdmlnmcaihodaaa
