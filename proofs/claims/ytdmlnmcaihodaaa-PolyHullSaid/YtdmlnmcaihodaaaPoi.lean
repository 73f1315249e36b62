/- Package poly: what a corner opens; the index of a corner; leads. -/
import Derived.Test.YtdmlnmcaihodaaaPoh
namespace Go.Proofs.Ytdmlnmcaihodaaa
set_option linter.unusedVariables false
set_option linter.unusedSimpArgs false
open Go.RowKit Go.Sort
attribute [local go_sem] Steady steadyUpon
attribute [local go_sem ↓] hs_dr lt_add_r lt_add_r2 lt_add_r3 lt_add_r4 lt_add_r5 lt_add_r6
attribute [local go_sem] cell?_gd frozen?_gd setCell_gd size_grow tape_grow cell?_grow' frozen?_grow' setCell_grow' grow_grow grow_dr grow_drew dr_dr dr_drew drew_dr dr_alloc dr_setCell dr_cell dr_frozen dr_tape dr_drawn
attribute [local irreducible] wpSteady
attribute [local go_sem] Oper.semAt_some

def opensOf (ps : List Pt) (i : Nat) (to : Pt) : Bool :=
  if 0 < tn (cor ps (i + ps.length - 1)) (cor ps i) (cor ps (i + 1)) then decide (0 ≤ tn (cor ps i) (cor ps (i + 1)) to) && decide (0 ≤ tn (cor ps i) to (cor ps (i + ps.length - 1)))
  else decide (tn (cor ps i) (cor ps (i + ps.length - 1)) to ≤ 0) || decide (tn (cor ps i) to (cor ps (i + 1)) ≤ 0)
set_option maxRecDepth 100000 in
set_option maxHeartbeats 4000000 in
theorem opens_v (ps : List Pt) (A : Option Addr) (c : Nat) (k : Nat) (to : Pt) (r : Bool) (w : World) (hr : Rd w w.heap.size 2 A (ps.map encD)) (hl : ps.length ≤ 100) (hok : ps.all Pt.ok = true) (hq : to.ok = true) (hlt : k < ps.length) (h : opensOf ps k to = r) :
    Calls Try.prog 77 #[.slice A ps.length c, .int .i64 k, pt to.1 to.2] w (Ret w (.bool r)) := by
  have hm := hmix
  have hpos : 0 < ps.length := by omega
  obtain ⟨b, off, hA, hb, h0, h1⟩ := ptAt hr (cor_get hlt)
  have hix := idx_run (cap := c) Try.underlying56 Try.sizeOf28 hA.out hlt
  have hq1 := cor_mod (k + ps.length - 1) hpos
  have hq2 := cor_mod (k + 1) hpos
  have o1 := cor_ok hok (k + ps.length - 1)
  have o2 := cor_ok hok k
  have o3 := cor_ok hok (k + 1)
  have kc1 := hide (fun W' (hg : Grew w W') => corner_v ps A c ((k : Int) - 1) ((k + ps.length - 1) % ps.length) _ W' (hr.up hg) (by omega) (by omega) (by rw [Int.natCast_emod, show ((k + ps.length - 1 : Nat) : Int) = (k : Int) - 1 + (ps.length : Int) by omega]) hq1)
  have kc2 := hide (fun W' (hg : Grew w W') => corner_v ps A c ((k : Int) + 1) ((k + 1) % ps.length) _ W' (hr.up hg) (by omega) (by omega) (by rw [Int.natCast_emod, Int.add_emod_right]; rfl) hq2)
  unfold opensOf at h
  obtain ⟨t0, e0⟩ : ∃ t, tn (cor ps (k + ps.length - 1)) (cor ps k) (cor ps (k + 1)) = t := ⟨_, rfl⟩
  obtain ⟨t1, e1⟩ : ∃ t, tn (cor ps k) (cor ps (k + 1)) to = t := ⟨_, rfl⟩
  obtain ⟨t2, e2⟩ : ∃ t, tn (cor ps k) to (cor ps (k + ps.length - 1)) = t := ⟨_, rfl⟩
  obtain ⟨t3, e3⟩ : ∃ t, tn (cor ps k) (cor ps (k + ps.length - 1)) to = t := ⟨_, rfl⟩
  obtain ⟨t4, e4⟩ : ∃ t, tn (cor ps k) to (cor ps (k + 1)) = t := ⟨_, rfl⟩
  rw [e0, e1, e2, e3, e4] at h
  have k0 := hide (fun W' => turn_v _ _ _ t0 W' o1 o2 o3 e0)
  have k1 := hide (fun W' => turn_v _ _ _ t1 W' o2 o3 hq e1)
  have k2 := hide (fun W' => turn_v _ _ _ t2 W' o2 hq o1 e2)
  have k3 := hide (fun W' => turn_v _ _ _ t3 W' o2 o1 hq e3)
  have k4 := hide (fun W' => turn_v _ _ _ t4 W' o2 hq o3 e4)
  clear e0 e1 e2 e3 e4 hA hq1 hq2 o1 o2 o3
  generalize cor ps (k + ps.length - 1) = qa at *
  generalize cor ps k = qb at *
  generalize cor ps (k + 1) = qc at *
  obtain ⟨a1, a2⟩ := qa
  obtain ⟨b1, b2⟩ := qb
  obtain ⟨c1, c2⟩ := qc
  obtain ⟨x1, x2⟩ := to
  dsimp only at h0 h1
  have ew1 : IntKind.i64.wrap ((k : Int) - 1) = (k : Int) - 1 := by unfold IntKind.wrap; simp [IntKind.bits, IntKind.signed]; omega
  have ew2 : IntKind.i64.wrap ((k : Int) + 1) = (k : Int) + 1 := by unfold IntKind.wrap; simp [IntKind.bits, IntKind.signed]; omega
  have hcase : (decide (0 < t0) = true ∧ decide (0 ≤ t1) = true ∧ r = decide (0 ≤ t2)) ∨ (decide (0 < t0) = true ∧ decide (0 ≤ t1) = false ∧ r = false) ∨ (decide (0 < t0) = false ∧ decide (t3 ≤ 0) = true ∧ r = true) ∨ (decide (0 < t0) = false ∧ decide (t3 ≤ 0) = false ∧ r = decide (t4 ≤ 0)) := by
    by_cases g0 : 0 < t0
    · rw [if_pos g0] at h
      by_cases g1 : 0 ≤ t1 <;> simp [g0, g1] at h ⊢ <;> first | exact h.symm | exact h
    · rw [if_neg g0] at h
      by_cases g1 : t3 ≤ 0 <;> simp [g0, g1] at h ⊢ <;> first | exact h.symm | exact h
  clear h hq
  rcases hcase with ⟨g0, g1, g2⟩ | ⟨g0, g1, g2⟩ | ⟨g0, g1, g2⟩ | ⟨g0, g1, g2⟩
  all_goals
    subst g2
    go_enter Try.func77, Try.ntmps77
    go_wp2_with fail
    refine wp_region_qas 18 [⟨12, 15, 7, 28, .agg #[.int .i64 0, .int .i64 0]⟩, ⟨13, 16, 8, 28, .agg #[.int .i64 0, .int .i64 0]⟩, ⟨14, 17, 9, 28, .agg #[.int .i64 0, .int .i64 0]⟩] [] hm (by kernel_rfl) (by simp only [List.take, List.filter, isQ]; rfl) (by simp only [List.drop]; rfl) (ZOk.cons Try.zeroValue28 Try.sizeOf28 (ZOk.cons Try.zeroValue28 Try.sizeOf28 (ZOk.cons Try.zeroValue28 Try.sizeOf28 ZOk.nil))) (by simp) ?_
    repeat (refine wpSteady_step (fun K hK => ?_); go_simp; first | (refine hK _ ?_; clear hK K) | (apply Exists.intro; refine ⟨fun _ => ?_, hK _ ?_⟩; (go_at_call 49; first | with_reducible exact kc1.out _ (by repeat (with_reducible first | exact Grew.refl _ | assumption | refine Grew.alloc ?_ _ | refine Grew.grow ?_ _ | refine Grew.dr ?_ _ | refine Grew.drewN ?_ _ | refine Grew.drew ?_ | refine Grew.trans ?_ (Hid.out (by assumption)))) | with_reducible exact kc2.out _ (by repeat (with_reducible first | exact Grew.refl _ | assumption | refine Grew.alloc ?_ _ | refine Grew.grow ?_ _ | refine Grew.dr ?_ _ | refine Grew.drewN ?_ _ | refine Grew.drew ?_ | refine Grew.trans ?_ (Hid.out (by assumption))))); clear hK K))
    refine wpSteady_nil ?_
    refine ⟨(StOk.cons (by rfl) (by simp [stOpnd, Act.eval, Value.cells, Value.oneCell']) (StOk.cons (by rfl) (by simp [stOpnd, Act.eval, Value.cells, Value.oneCell']) (StOk.cons (by rfl) (by simp [stOpnd, Act.eval, Value.cells, Value.oneCell']) StOk.nil))), LyOk.nil, ?_⟩
    rintro psq qsq Wq HWq HFq HBq
    obtain rfl : qsq = [] := HBq
    obtain ⟨p0, _, rfl, hp0, hb0, hn0, p1, _, rfl, hp1, hb1, hn1, p2, _, rfl, hp2, hb2, hn2, rfl⟩ := HFq
    simp only [putAll, putB, Act.put, List.setIfInBounds_toArray, List.set_cons_succ, List.set_cons_zero]
    simp [stOpnd, Act.eval, Value.cells] at hb0
    have gc0_0 : Wq.cell? ⟨p0, 0, none⟩ = some _ := blk_cell hb0 0
    have gc0_1 : Wq.cell? ⟨p0, 1, none⟩ = some _ := blk_cell hb0 1
    have gf0 := blk_frozen hb0
    have gl0 := blk_lt hb0
    simp [stOpnd, Act.eval, Value.cells] at hb1
    have gc1_0 : Wq.cell? ⟨p1, 0, none⟩ = some _ := blk_cell hb1 0
    have gc1_1 : Wq.cell? ⟨p1, 1, none⟩ = some _ := blk_cell hb1 1
    have gf1 := blk_frozen hb1
    have gl1 := blk_lt hb1
    simp [stOpnd, Act.eval, Value.cells] at hb2
    have gc2_0 : Wq.cell? ⟨p2, 0, none⟩ = some _ := blk_cell hb2 0
    have gc2_1 : Wq.cell? ⟨p2, 1, none⟩ = some _ := blk_cell hb2 1
    have gf2 := blk_frozen hb2
    have gl2 := blk_lt hb2
    have gp0 := hide hp0
    have gp1 := hide hp1
    have gp2 := hide hp2
    clear hb0 hn0 hp0 hb1 hn1 hp1 hb2 hn2 hp2
    have oc := old_cell HWq
    have of := old_frozen HWq
    have ol := old_lt HWq
    replace HWq := hide HWq
    have m0 : Wq.cell? ⟨w.heap.size, 0, none⟩ = some (.int .i64 x1) := (oc _ _ (by simp)).trans (by go_simp)
    have m1 : Wq.cell? ⟨w.heap.size, 1, none⟩ = some (.int .i64 x2) := (oc _ _ (by simp)).trans (by go_simp)
    have m2 : w.heap.size < Wq.heap.size := by rw [ol _ (by simp)]; trivial
    clear oc of ol
    go_wp2_with (first | (go_at_call 48; (with_reducible refine (k0.out _).mono ?_); rintro e w' ⟨rfl, ⟨_, _⟩, rfl⟩; dsimp only) | (go_at_call 48; (with_reducible refine (k1.out _).mono ?_); rintro e w' ⟨rfl, ⟨_, _⟩, rfl⟩; dsimp only) | (go_at_call 48; (with_reducible refine (k2.out _).mono ?_); rintro e w' ⟨rfl, ⟨_, _⟩, rfl⟩; dsimp only) | (go_at_call 48; (with_reducible refine (k3.out _).mono ?_); rintro e w' ⟨rfl, ⟨_, _⟩, rfl⟩; dsimp only) | (go_at_call 48; (with_reducible refine (k4.out _).mono ?_); rintro e w' ⟨rfl, ⟨_, _⟩, rfl⟩; dsimp only))
    go_ret
    exact Ret.mk' (ret_bool (by simp [*])) (Grew.trans (by repeat (with_reducible first | exact Grew.refl _ | assumption | refine Grew.alloc ?_ _ | refine Grew.grow ?_ _ | refine Grew.dr ?_ _ | refine Grew.drewN ?_ _ | refine Grew.drew ?_ | refine Grew.trans ?_ (Hid.out (by assumption)))) (HWq.out.trans (by repeat (with_reducible first | exact Grew.refl _ | assumption | refine Grew.alloc ?_ _ | refine Grew.grow ?_ _ | refine Grew.dr ?_ _ | refine Grew.drewN ?_ _ | refine Grew.drew ?_ | refine Grew.trans ?_ (Hid.out (by assumption))))))

def IdxC (ps : List Pt) (a : Pt) (r : Int) : Prop := (r = -1 ∧ ∀ i, i < ps.length → cor ps i ≠ a) ∨ (∃ k : Nat, k < ps.length ∧ r = k ∧ cor ps k = a ∧ ∀ j, j < k → cor ps j ≠ a)
def NotTo (ps : List Pt) (a : Pt) (k : Nat) : Prop := ∀ j, j < k → cor ps j ≠ a
set_option maxRecDepth 100000 in
set_option maxHeartbeats 4000000 in
theorem Index_any (ps : List Pt) (A : Option Addr) (c : Nat) (a : Pt) (w : World) (hr : Rd w w.heap.size 2 A (ps.map encD)) (hl : ps.length ≤ 100) :
    Calls Try.prog 95 #[.slice A ps.length c, pt a.1 a.2] w fun e w' => (∃ r : Int, e = .returned (.int .i64 r) ∧ IdxC ps a r) ∧ Grew w w' := by
  have hm := hmix
  obtain ⟨x1, x2⟩ := a
  go_enter Try.func95, Try.ntmps95
  go_wp2_with fail
  go_loopw [8] (fun i wr => ∃ k : Nat, k ≤ ps.length ∧ i = .int .i64 k ∧ Grew (w.alloc (.cells #[.int .i64 x1, .int .i64 x2] 28)) wr ∧ NotTo ps (x1, x2) k) (fun i _ => ps.length - (intOf i).toNat)
  case atStart => exact ⟨0, by omega, rfl, Grew.refl _, fun j hj => by omega⟩
  case round =>
    obtain ⟨k, hk, rfl, ⟨⟨n, os⟩, rfl⟩, hn⟩ := hrel
    have HN := hide hn
    clear hn
    by_cases hlt : k < ps.length
    · obtain ⟨b, off, hA, hb, h0, h1⟩ := ptAt hr (cor_get hlt)
      have hix := idx_run (cap := c) Try.underlying56 Try.sizeOf28 hA.out hlt
      obtain ⟨⟨p1, p2⟩, hp⟩ : ∃ p, cor ps k = p := ⟨_, rfl⟩
      rw [hp] at h0 h1
      have HP := hide hp
      clear hp hA
      dsimp only at h0 h1
      have hcase : (p1 = x1 ∧ p2 = x2) ∨ (x1 ≠ p1) ∨ (x1 = p1 ∧ x2 ≠ p2) := by omega
      rcases hcase with ⟨rfl, rfl⟩ | e1 | ⟨rfl, e1⟩
      · go_wp2_with fail
        refine wp_region_qas 6 [] [] hm (by kernel_rfl) (by simp only [List.take, List.filter, isQ]; rfl) (by simp only [List.drop]; rfl) ZOk.nil (by simp) ?_
        repeat (refine wpSteady_step (fun K hK => ?_); go_simp; first | (refine hK _ ?_; clear hK K) | (apply Exists.intro; refine ⟨fun _ => ?_, hK _ ?_⟩; (fail); clear hK K))
        refine wpSteady_nil ?_
        refine ⟨StOk.nil, LyOk.nil, ?_⟩
        rintro psq qsq Wq HWq HFq HBq
        obtain rfl : qsq = [] := HBq
        obtain rfl : psq = [] := HFq
        obtain ⟨⟨nq, osq⟩, rfl⟩ := HWq
        simp only [putAll, putB, Act.put, List.setIfInBounds_toArray, List.set_cons_succ, List.set_cons_zero]
        try dsimp only
        go_wp2_with fail
        go_ret
        exact ⟨⟨_, rfl, .inr ⟨k, hlt, rfl, HP.out, HN.out⟩⟩, (by repeat (with_reducible first | exact Grew.refl _ | assumption | refine Grew.alloc ?_ _ | refine Grew.grow ?_ _ | refine Grew.dr ?_ _ | refine Grew.drewN ?_ _ | refine Grew.drew ?_ | refine Grew.trans ?_ (Hid.out (by assumption))))⟩
      all_goals
        go_wp2_with fail
        refine wp_region_qas 6 [] [] hm (by kernel_rfl) (by simp only [List.take, List.filter, isQ]; rfl) (by simp only [List.drop]; rfl) ZOk.nil (by simp) ?_
        repeat (refine wpSteady_step (fun K hK => ?_); go_simp; first | (refine hK _ ?_; clear hK K) | (apply Exists.intro; refine ⟨fun _ => ?_, hK _ ?_⟩; (fail); clear hK K))
        refine wpSteady_nil ?_
        refine ⟨StOk.nil, LyOk.nil, ?_⟩
        rintro psq qsq Wq HWq HFq HBq
        obtain rfl : qsq = [] := HBq
        obtain rfl : psq = [] := HFq
        obtain ⟨⟨nq, osq⟩, rfl⟩ := HWq
        simp only [putAll, putB, Act.put, List.setIfInBounds_toArray, List.set_cons_succ, List.set_cons_zero]
        try dsimp only
        go_wp2_with fail
        go_roundw
        case rel =>
          refine ⟨k + 1, by omega, by go_num, (by repeat (with_reducible first | exact Grew.refl _ | assumption | refine Grew.alloc ?_ _ | refine Grew.grow ?_ _ | refine Grew.dr ?_ _ | refine Grew.drewN ?_ _ | refine Grew.drew ?_ | refine Grew.trans ?_ (Hid.out (by assumption)))), fun j hj => ?_⟩
          by_cases hjk : j = k
          · subst hjk
            rw [HP.out]
            intro e
            injection e with e2 e3
            first | exact e1 e2.symm | exact e1 e3.symm
          · exact HN.out j (by omega)
        case measure => simp [intOf]; omega
    · obtain rfl : k = ps.length := by omega
      go_wp2_with fail
      go_ret
      exact ⟨⟨_, rfl, .inl ⟨rfl, HN.out⟩⟩, (by repeat (with_reducible first | exact Grew.refl _ | assumption | refine Grew.alloc ?_ _ | refine Grew.grow ?_ _ | refine Grew.dr ?_ _ | refine Grew.drewN ?_ _ | refine Grew.drew ?_ | refine Grew.trans ?_ (Hid.out (by assumption))))⟩
end Go.Proofs.Ytdmlnmcaihodaaa
