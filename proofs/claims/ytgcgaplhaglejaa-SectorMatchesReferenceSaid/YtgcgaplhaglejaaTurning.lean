/- SectorTurning: the walk. -/
import Derived.Test.YtgcgaplhaglejaaHead
namespace Go.Proofs.Ytgcgaplhaglejaa
set_option linter.unusedVariables false
set_option linter.unusedSimpArgs false
open Go.RowKit Go.Sort
attribute [local go_sem] Steady steadyUpon
attribute [local go_sem ↓] hs_dr lt_add_r lt_add_r2 lt_add_r3 lt_add_r4 lt_add_r5 lt_add_r6
attribute [local go_sem] cell?_gd frozen?_gd setCell_gd size_grow tape_grow cell?_grow' frozen?_grow' setCell_grow' grow_grow grow_dr grow_drew dr_dr dr_drew drew_dr dr_alloc dr_setCell dr_cell dr_frozen dr_tape dr_drawn

theorem In_n (a b c d e f x y : Int) (w : World) (h : (Sec.ok ⟨a, b, c, d, e, f⟩ && dirOk x y) = false) :
    Calls Try.prog 14 #[sec a b c d e f, pt x y] w (Ret w (.tuple #[.bool false, .int .i64 1])) := by
  have := In_any ⟨a, b, c, d, e, f⟩ x y w
  rw [h, if_neg (by simp), Bool.false_and] at this
  exact this
theorem sec11 (a b c d : Int) : Sec.ok ⟨a, b, c, d, 1, 1⟩ = (dirOk a b && dirOk c d) := by simp [Sec.ok, secOk]
theorem has_from (a b c d : Int) : hasw a b c d a b = true := by
  have h1 := cmpw_self a b
  have h2 := cmpw_swap a b c d
  unfold hasw
  rw [h1, h2]
  rcases cmpw_bd a b c d with h | h | h <;> simp [h]
theorem has_to (a b c d : Int) : hasw a b c d c d = (cmpw a b c d == 0) := by
  have h1 := cmpw_self c d
  unfold hasw
  rw [h1]
  rcases cmpw_bd a b c d with h | h | h <;> simp [h]
theorem has_to' (a b c d : Int) : hasw c d a b a b = (cmpw a b c d == 0) := by
  rw [has_to, cmpw_swap a b c d]
  rcases cmpw_bd a b c d with h | h | h <;> simp [h]
theorem has_all {a b c d : Int} (h : cmpw a b c d = 0) (x y : Int) : hasw a b c d x y = true := by
  unfold hasw
  simp [h]
theorem has_all' {a b c d : Int} (h : cmpw a b c d = 0) (x y : Int) : hasw c d a b x y = true := has_all (by rw [cmpw_swap a b c d, h]; rfl) x y
theorem has_rev {a b c d : Int} (h : cmpw a b c d ≠ 0) (x y : Int) : hasw c d a b x y = !hasw a b c d x y := by
  have h2 := cmpw_swap a b c d
  unfold hasw
  rw [h2]
  rcases cmpw_bd a b c d with h1 | h1 | h1
  · simp [h1, Bool.or_comm]
  · exact (h h1).elim
  · simp [h1, Bool.and_comm]
theorem has_scale {g k a b c d x y : Int} (hg : 0 < g) (hk : 0 < k) : hasw (g * a) (g * b) c d (k * x) (k * y) = hasw a b c d x y := by
  unfold hasw
  rw [cmpw_scale hg, cmpw_scale hg, cmpw_scale_r hk, cmpw_scale_r hk]

set_option maxRecDepth 100000 in
set_option maxHeartbeats 2000000 in
theorem turning_no (a1 a2 b1 b2 v1 v2 : Int) (w : World) (h : (dirOk a1 a2 && dirOk b1 b2 && dirOk v1 v2) = false) :
    Calls Try.prog 4 #[pt a1 a2, pt b1 b2, pt v1 v2] w (Ret w (.bool true)) := by
  have hm := hmix
  have q1 := hide (show ∀ W, Calls Try.prog 14 #[sec a1 a2 b1 b2 1 1, pt v1 v2] W (Ret W (.tuple #[.bool false, .int .i64 1])) from fun W => In_n _ _ _ _ _ _ _ _ W (by rw [sec11]; exact h))
  have q2 := hide (show ∀ W, Calls Try.prog 14 #[sec b1 b2 a1 a2 1 1, pt v1 v2] W (Ret W (.tuple #[.bool false, .int .i64 1])) from fun W => In_n _ _ _ _ _ _ _ _ W (by rw [sec11, Bool.and_comm (dirOk b1 b2)]; exact h))
  clear h
  go_enter Try.func4, Try.ntmps4
  go_wp2_with (first | (go_at_call 11; (with_reducible refine (head_any _).mono ?_); rintro e w' ⟨rfl, ⟨_, _⟩, rfl⟩; dsimp only) | (go_at_call 27; (with_reducible refine (arc_any _ _ _ _ _ _ _).mono ?_); rintro e w' ⟨rfl, ⟨_, _⟩, rfl⟩; dsimp only) | (go_at_call 14; (with_reducible refine (q1.out _).mono ?_); rintro e w' ⟨rfl, ⟨_, _⟩, rfl⟩; dsimp only) | (go_at_call 14; (with_reducible refine (q2.out _).mono ?_); rintro e w' ⟨rfl, ⟨_, _⟩, rfl⟩; dsimp only))
  go_ret
  exact Ret.mk' rfl (by repeat (with_reducible first | exact Grew.refl _ | assumption | refine Grew.alloc ?_ _ | refine Grew.grow ?_ _ | refine Grew.dr ?_ _ | refine Grew.drewN ?_ _ | refine Grew.drew ?_ | refine Grew.trans ?_ (Hid.out (by assumption))))

set_option maxRecDepth 100000 in
set_option maxHeartbeats 4000000 in
theorem turning_yes (a1 a2 b1 b2 v1 v2 : Int) (w : World) (h : (dirOk a1 a2 && dirOk b1 b2 && dirOk v1 v2) = true) :
    Calls Try.prog 4 #[pt a1 a2, pt b1 b2, pt v1 v2] w (Ret w (.bool true)) := by
  have hm := hmix
  have hd := h
  rw [Bool.and_eq_true, Bool.and_eq_true] at hd
  obtain ⟨⟨da, db⟩, dv⟩ := hd
  obtain ⟨x, hx⟩ : ∃ x, hasw a1 a2 b1 b2 v1 v2 = x := ⟨_, rfl⟩
  obtain ⟨y, hy⟩ : ∃ y, hasw b1 b2 a1 a2 v1 v2 = y := ⟨_, rfl⟩
  obtain ⟨t, ht⟩ : ∃ t, (cmpw a1 a2 b1 b2 == 0) = t := ⟨_, rfl⟩
  have hxy : (t = true ∧ x = true ∧ y = true) ∨ (t = false ∧ y = !x) := by
    cases t
    · exact .inr ⟨rfl, by rw [← hx, ← hy]; exact has_rev (by simpa using ht) _ _⟩
    · exact .inl ⟨rfl, by rw [← hx]; exact has_all (by simpa using ht) _ _, by rw [← hy]; exact has_all' (by simpa using ht) _ _⟩
  have q1 := hide (show ∀ W, Calls Try.prog 14 #[sec a1 a2 b1 b2 1 1, pt v1 v2] W (Ret W (.tuple #[.bool x, .int .i64 0])) from fun W => In_v _ _ _ _ _ _ _ _ _ W (by rw [sec11]; exact h) hx)
  have q2 := hide (show ∀ W, Calls Try.prog 14 #[sec b1 b2 a1 a2 1 1, pt v1 v2] W (Ret W (.tuple #[.bool y, .int .i64 0])) from fun W => In_v _ _ _ _ _ _ _ _ _ W (by rw [sec11, Bool.and_comm (dirOk b1 b2)]; exact h) hy)
  have q3 := hide (show ∀ W, Calls Try.prog 14 #[sec a1 a2 b1 b2 1 1, pt a1 a2] W (Ret W (.tuple #[.bool true, .int .i64 0])) from fun W => In_v _ _ _ _ _ _ _ _ _ W (by rw [sec11, da, db]; rfl) (has_from _ _ _ _))
  have q4 := hide (show ∀ W, Calls Try.prog 14 #[sec a1 a2 b1 b2 1 1, pt b1 b2] W (Ret W (.tuple #[.bool t, .int .i64 0])) from fun W => In_v _ _ _ _ _ _ _ _ _ W (by rw [sec11, da, db]; rfl) ((has_to _ _ _ _).trans ht))
  have q5 := hide (show ∀ W, Calls Try.prog 14 #[sec b1 b2 a1 a2 1 1, pt a1 a2] W (Ret W (.tuple #[.bool t, .int .i64 0])) from fun W => In_v _ _ _ _ _ _ _ _ _ W (by rw [sec11, da, db]; rfl) ((has_to' _ _ _ _).trans ht))
  have hsc := hide (show hasw (3 * a1) (3 * a2) b1 b2 (2 * v1) (2 * v2) = x from (has_scale (by decide) (by decide)).trans hx)
  have hdd := hide (And.intro da (And.intro db dv))
  clear h da db dv hx hy ht
  by_cases hw : (withinB a1 a2 1000 && withinB b1 b2 1000 && withinB v1 v2 1000) = true
  · rw [Bool.and_eq_true, Bool.and_eq_true] at hw
    obtain ⟨⟨ha, hb⟩, hv⟩ := hw
    have r1 : -1000 ≤ a1 ∧ a1 ≤ 1000 ∧ -1000 ≤ a2 ∧ a2 ≤ 1000 := by simpa [withinB] using ha
    have r2 : -1000 ≤ b1 ∧ b1 ≤ 1000 ∧ -1000 ≤ b2 ∧ b2 ≤ 1000 := by simpa [withinB] using hb
    have r3 : -1000 ≤ v1 ∧ v1 ≤ 1000 ∧ -1000 ≤ v2 ∧ v2 ≤ 1000 := by simpa [withinB] using hv
    have g1 := hide (show ∀ W, Calls Try.prog 28 #[pt a1 a2, .int .i64 1000] W (Ret W (.bool true)) from fun W => by rw [← ha]; exact within_any a1 a2 1000 W (by omega))
    have g2 := hide (show ∀ W, Calls Try.prog 28 #[pt b1 b2, .int .i64 1000] W (Ret W (.bool true)) from fun W => by rw [← hb]; exact within_any b1 b2 1000 W (by omega))
    have g3 := hide (show ∀ W, Calls Try.prog 28 #[pt v1 v2, .int .i64 1000] W (Ret W (.bool true)) from fun W => by rw [← hv]; exact within_any v1 v2 1000 W (by omega))
    have q6 := hide (show ∀ W, Calls Try.prog 14 #[sec (3 * a1) (3 * a2) b1 b2 1 1, pt (2 * v1) (2 * v2)] W (Ret W (.tuple #[.bool x, .int .i64 0])) from fun W => In_v _ _ _ _ _ _ _ _ _ W (by
      have e := hdd.out
      rw [sec11]
      simp only [dirOk, decide_eq_true_eq, Bool.and_eq_true] at e ⊢
      omega) hsc.out)
    have e1 : IntKind.i64.wrap (3 * a1) = 3 * a1 := by unfold IntKind.wrap; simp [IntKind.bits, IntKind.signed]; omega
    have e2 : IntKind.i64.wrap (3 * a2) = 3 * a2 := by unfold IntKind.wrap; simp [IntKind.bits, IntKind.signed]; omega
    have e3 : IntKind.i64.wrap (2 * v1) = 2 * v1 := by unfold IntKind.wrap; simp [IntKind.bits, IntKind.signed]; omega
    have e4 : IntKind.i64.wrap (2 * v2) = 2 * v2 := by unfold IntKind.wrap; simp [IntKind.bits, IntKind.signed]; omega
    clear ha hb hv hsc hdd
    rcases hxy with ⟨rfl, rfl, rfl⟩ | ⟨rfl, rfl⟩
    all_goals
      go_enter Try.func4, Try.ntmps4
      go_wp2_with (first | (go_at_call 11; (with_reducible refine (head_any _).mono ?_); rintro e w' ⟨rfl, ⟨_, _⟩, rfl⟩; dsimp only) | (go_at_call 27; (with_reducible refine (arc_any _ _ _ _ _ _ _).mono ?_); rintro e w' ⟨rfl, ⟨_, _⟩, rfl⟩; dsimp only) | (go_at_call 14; (with_reducible refine (q1.out _).mono ?_); rintro e w' ⟨rfl, ⟨_, _⟩, rfl⟩; dsimp only) | (go_at_call 14; (with_reducible refine (q2.out _).mono ?_); rintro e w' ⟨rfl, ⟨_, _⟩, rfl⟩; dsimp only) | (go_at_call 14; (with_reducible refine (q3.out _).mono ?_); rintro e w' ⟨rfl, ⟨_, _⟩, rfl⟩; dsimp only) | (go_at_call 14; (with_reducible refine (q4.out _).mono ?_); rintro e w' ⟨rfl, ⟨_, _⟩, rfl⟩; dsimp only) | (go_at_call 14; (with_reducible refine (q5.out _).mono ?_); rintro e w' ⟨rfl, ⟨_, _⟩, rfl⟩; dsimp only) | (go_at_call 28; (with_reducible refine (g1.out _).mono ?_); rintro e w' ⟨rfl, ⟨_, _⟩, rfl⟩; dsimp only) | (go_at_call 28; (with_reducible refine (g2.out _).mono ?_); rintro e w' ⟨rfl, ⟨_, _⟩, rfl⟩; dsimp only) | (go_at_call 28; (with_reducible refine (g3.out _).mono ?_); rintro e w' ⟨rfl, ⟨_, _⟩, rfl⟩; dsimp only))
      refine wp_region_qas 22 [] [] hm (by kernel_rfl) (by simp only [List.take, List.filter, isQ]; rfl) (by simp only [List.drop]; rfl) ZOk.nil (by simp) ?_
      repeat (refine wpSteady_step (fun K hK => ?_); go_simp; first | (refine hK _ ?_; clear hK K) | (apply Exists.intro; refine ⟨fun _ => ?_, hK _ ?_⟩; (first | (go_at_call 29; with_reducible exact at_any _ _ _) | (go_at_call 27; with_reducible exact arc_any _ _ _ _ _ _ _) | (go_at_call 14; with_reducible exact q6.out _)); clear hK K))
      refine wpSteady_nil ?_
      refine ⟨StOk.nil, LyOk.nil, ?_⟩
      rintro psq qsq Wq HWq HFq HBq
      obtain rfl : qsq = [] := HBq
      obtain rfl : psq = [] := HFq
      obtain ⟨⟨nq, osq⟩, rfl⟩ := HWq
      simp only [putAll, putB, Act.put, List.setIfInBounds_toArray, List.set_cons_succ, List.set_cons_zero]
      try dsimp only
      go_wp2_with fail
      go_ret
      exact Ret.mk' rfl (by repeat (with_reducible first | exact Grew.refl _ | assumption | refine Grew.alloc ?_ _ | refine Grew.grow ?_ _ | refine Grew.dr ?_ _ | refine Grew.drewN ?_ _ | refine Grew.drew ?_ | refine Grew.trans ?_ (Hid.out (by assumption))))
  · rcases hxy with ⟨rfl, rfl, rfl⟩ | ⟨rfl, rfl⟩
    all_goals
      cases ha : withinB a1 a2 1000
      case' true => cases hb : withinB b1 b2 1000
      case' true.true => cases hv : withinB v1 v2 1000
      case' true.true.true => exact (hw (by rw [ha, hb, hv]; rfl)).elim
    all_goals
      try have HA := hide ha
      try have HB := hide hb
      try have HV := hide hv
      clear hw
      try clear ha
      try clear hb
      try clear hv
      go_enter Try.func4, Try.ntmps4
      go_wp2_with (first | (go_at_call 11; (with_reducible refine (head_any _).mono ?_); rintro e w' ⟨rfl, ⟨_, _⟩, rfl⟩; dsimp only) | (go_at_call 27; (with_reducible refine (arc_any _ _ _ _ _ _ _).mono ?_); rintro e w' ⟨rfl, ⟨_, _⟩, rfl⟩; dsimp only) | (go_at_call 14; (with_reducible refine (q1.out _).mono ?_); rintro e w' ⟨rfl, ⟨_, _⟩, rfl⟩; dsimp only) | (go_at_call 14; (with_reducible refine (q2.out _).mono ?_); rintro e w' ⟨rfl, ⟨_, _⟩, rfl⟩; dsimp only) | (go_at_call 14; (with_reducible refine (q3.out _).mono ?_); rintro e w' ⟨rfl, ⟨_, _⟩, rfl⟩; dsimp only) | (go_at_call 14; (with_reducible refine (q4.out _).mono ?_); rintro e w' ⟨rfl, ⟨_, _⟩, rfl⟩; dsimp only) | (go_at_call 14; (with_reducible refine (q5.out _).mono ?_); rintro e w' ⟨rfl, ⟨_, _⟩, rfl⟩; dsimp only) | (go_at_call 28; (with_reducible refine (within_any _ _ 1000 _ (by omega)).mono ?_); rintro e w' ⟨rfl, ⟨_, _⟩, rfl⟩; dsimp only; first | rw [HA.out] | rw [HB.out] | rw [HV.out]))
      go_ret
      exact Ret.mk' rfl (by repeat (with_reducible first | exact Grew.refl _ | assumption | refine Grew.alloc ?_ _ | refine Grew.grow ?_ _ | refine Grew.dr ?_ _ | refine Grew.drewN ?_ _ | refine Grew.drew ?_ | refine Grew.trans ?_ (Hid.out (by assumption))))
theorem turning_any (a1 a2 b1 b2 v1 v2 : Int) (w : World) : Calls Try.prog 4 #[pt a1 a2, pt b1 b2, pt v1 v2] w (Ret w (.bool true)) := by
  cases h : dirOk a1 a2 && dirOk b1 b2 && dirOk v1 v2
  · exact turning_no _ _ _ _ _ _ w h
  · exact turning_yes _ _ _ _ _ _ w h
end Go.Proofs.Ytgcgaplhaglejaa
