/- The reference implementation's small functions. -/
import Derived.Test.YtgcgaplhaglejaaSecC
namespace Go.Proofs.Ytgcgaplhaglejaa
set_option linter.unusedVariables false
set_option linter.unusedSimpArgs false
open Go.RowKit Go.Sort
attribute [local go_sem] Steady steadyUpon
attribute [local go_sem ↓] hs_dr lt_add_r lt_add_r2 lt_add_r3 lt_add_r4 lt_add_r5 lt_add_r6
attribute [local go_sem] cell?_gd frozen?_gd setCell_gd size_grow tape_grow cell?_grow' frozen?_grow' setCell_grow' grow_grow grow_dr grow_drew dr_dr dr_drew drew_dr dr_alloc dr_setCell dr_cell dr_frozen dr_tape dr_drawn

set_option maxHeartbeats 400000 in
theorem rDirection_any (a b : Int) (w : World) : Calls Try.prog 37 #[pt a b] w (Ret w (.bool (dirOk a b))) := by
  go_enter Try.func37, Try.ntmps37
  go_wp2
  all_goals go_ret
  all_goals refine Ret.mk' (ret_bool ?_) (by repeat (with_reducible first | exact Grew.refl _ | assumption | refine Grew.alloc ?_ _ | refine Grew.grow ?_ _ | refine Grew.dr ?_ _ | refine Grew.drewN ?_ _ | refine Grew.drew ?_ | refine Grew.trans ?_ (Hid.out (by assumption))))
  all_goals (rw [Bool.eq_iff_iff]; simp [dirOk]; omega)

set_option maxHeartbeats 400000 in
theorem rcross_any (a b c d : Int) (w : World) (ha : -4000000 ≤ a ∧ a ≤ 4000000) (hb : -4000000 ≤ b ∧ b ≤ 4000000) (hc : -4000000 ≤ c ∧ c ≤ 4000000) (hd : -4000000 ≤ d ∧ d ≤ 4000000) :
    Calls Try.prog 49 #[pt a b, pt c d] w (Ret w (.int .i64 (a * d - b * c))) := by
  have h1 : -16000000000000 ≤ a * d ∧ a * d ≤ 16000000000000 := mul_bd 4000000 4000000 ha hd
  have h2 : -16000000000000 ≤ b * c ∧ b * c ≤ 16000000000000 := mul_bd 4000000 4000000 hb hc
  go_enter Try.func49, Try.ntmps49
  go_wp2
  go_ret
  exact Ret.mk' rfl (by repeat (with_reducible first | exact Grew.refl _ | assumption | refine Grew.alloc ?_ _ | refine Grew.grow ?_ _ | refine Grew.dr ?_ _ | refine Grew.drewN ?_ _ | refine Grew.drew ?_ | refine Grew.trans ?_ (Hid.out (by assumption))))

def alike (a b c d : Int) : Bool := decide (a * d - b * c = 0 ∧ 0 < a * c + b * d)
set_option maxHeartbeats 800000 in
theorem rAlike_any (a b c d : Int) (w : World) (ha : -4000000 ≤ a ∧ a ≤ 4000000) (hb : -4000000 ≤ b ∧ b ≤ 4000000) (hc : -4000000 ≤ c ∧ c ≤ 4000000) (hd : -4000000 ≤ d ∧ d ≤ 4000000) :
    Calls Try.prog 48 #[pt a b, pt c d] w (Ret w (.bool (alike a b c d))) := by
  have h1 : -16000000000000 ≤ a * c ∧ a * c ≤ 16000000000000 := mul_bd 4000000 4000000 ha hc
  have h2 : -16000000000000 ≤ b * d ∧ b * d ≤ 16000000000000 := mul_bd 4000000 4000000 hb hd
  go_enter Try.func48, Try.ntmps48
  go_wp2_with (go_at_call 49; refine (rcross_any _ _ _ _ _ ha hb hc hd).mono ?_; rintro e w' ⟨rfl, ⟨_, _⟩, rfl⟩; dsimp only)
  all_goals go_ret
  all_goals refine Ret.mk' (ret_bool ?_) (by repeat (with_reducible first | exact Grew.refl _ | assumption | refine Grew.alloc ?_ _ | refine Grew.grow ?_ _ | refine Grew.dr ?_ _ | refine Grew.drewN ?_ _ | refine Grew.drew ?_ | refine Grew.trans ?_ (Hid.out (by assumption))))
  all_goals (rw [Bool.eq_iff_iff]; simp [alike]; omega)

set_option maxHeartbeats 400000 in
theorem rhalf_any (a b : Int) (w : World) : Calls Try.prog 71 #[pt a b] w (Ret w (.int .i64 (if upper a b = true then 0 else 1))) := by
  obtain ⟨v, hv⟩ : ∃ v : Int, (if upper a b = true then (0 : Int) else 1) = v := ⟨_, rfl⟩
  rw [hv]
  have HV := hide hv
  clear hv
  go_enter Try.func71, Try.ntmps71
  go_wp2
  all_goals go_ret
  all_goals refine Ret.mk' (ret_int ?_) (by repeat (with_reducible first | exact Grew.refl _ | assumption | refine Grew.alloc ?_ _ | refine Grew.grow ?_ _ | refine Grew.dr ?_ _ | refine Grew.drewN ?_ _ | refine Grew.drew ?_ | refine Grew.trans ?_ (Hid.out (by assumption))))
  all_goals (rw [← HV.out]; split <;> rename_i hh <;> simp [upper] at hh <;> first | rfl | (exfalso; omega))

set_option maxHeartbeats 400000 in
theorem r01Valid_any (a b : Int) (w : World) : Calls Try.prog 47 #[pt a b] w (Ret w (.bool (plOk a b))) := by
  go_enter Try.func47, Try.ntmps47
  go_wp2
  all_goals go_ret
  all_goals refine Ret.mk' (ret_bool ?_) (by repeat (with_reducible first | exact Grew.refl _ | assumption | refine Grew.alloc ?_ _ | refine Grew.grow ?_ _ | refine Grew.dr ?_ _ | refine Grew.drewN ?_ _ | refine Grew.drew ?_ | refine Grew.trans ?_ (Hid.out (by assumption))))
  all_goals (rw [Bool.eq_iff_iff]; simp [plOk]; omega)

set_option maxHeartbeats 400000 in
theorem rvalid_any (a b c d e f : Int) (w : World) :
    Calls Try.prog 34 #[sec a b c d e f] w (Ret w (.bool (secOk a b c d e f))) := by
  have hm := hmix
  go_enter Try.func34, Try.ntmps34
  go_wp2_with (go_at_call 37; refine (rDirection_any _ _ _).mono ?_; rintro e w' ⟨rfl, ⟨_, _⟩, rfl⟩; dsimp only)
  all_goals go_ret
  all_goals refine Ret.mk' (ret_bool ?_) (by repeat (with_reducible first | exact Grew.refl _ | assumption | refine Grew.alloc ?_ _ | refine Grew.grow ?_ _ | refine Grew.dr ?_ _ | refine Grew.drewN ?_ _ | refine Grew.drew ?_ | refine Grew.trans ?_ (Hid.out (by assumption))))
  all_goals (first | (simp [secOk, *]; done) | (simp [secOk, *]; omega))

theorem rhalf_t {a b : Int} (w : World) (h : upper a b = true) : Calls Try.prog 71 #[pt a b] w (Ret w (.int .i64 0)) := by
  have := rhalf_any a b w
  rwa [if_pos h] at this
theorem rhalf_f {a b : Int} (w : World) (h : upper a b = false) : Calls Try.prog 71 #[pt a b] w (Ret w (.int .i64 1)) := by
  have := rhalf_any a b w
  rwa [if_neg (by rw [h]; simp)] at this

def beforeW (a b c d : Int) : Bool := if upper a b = upper c d then decide (0 < a * d - b * c) else upper a b
set_option maxHeartbeats 800000 in
theorem rBefore_tt (a b c d : Int) (w : World) (ha : -4000000 ≤ a ∧ a ≤ 4000000) (hb : -4000000 ≤ b ∧ b ≤ 4000000) (hc : -4000000 ≤ c ∧ c ≤ 4000000) (hd : -4000000 ≤ d ∧ d ≤ 4000000) (h1 : upper a b = true) (h2 : upper c d = true) :
    Calls Try.prog 59 #[pt a b, pt c d] w (Ret w (.bool (decide (0 < a * d - b * c)))) := by
  have hm := hmix
  go_enter Try.func59, Try.ntmps59
  go_wp2_with fail
  refine wp_region_qas 5 [] [] hm (by kernel_rfl) (by simp only [List.take, List.filter, isQ]; rfl) (by simp only [List.drop]; rfl) ZOk.nil (by simp) ?_
  repeat (refine wpSteady_step (fun K hK => ?_); go_simp; first | (refine hK _ ?_; clear hK K) | (apply Exists.intro; refine ⟨fun _ => ?_, hK _ ?_⟩; (go_at_call 71; first | with_reducible exact rhalf_t _ h1 | with_reducible exact rhalf_f _ h1 | with_reducible exact rhalf_t _ h2 | with_reducible exact rhalf_f _ h2); clear hK K))
  refine wpSteady_nil ?_
  refine ⟨StOk.nil, LyOk.nil, ?_⟩
  rintro psq qsq Wq HWq HFq HBq
  obtain rfl : qsq = [] := HBq
  obtain rfl : psq = [] := HFq
  obtain ⟨⟨nq, osq⟩, rfl⟩ := HWq
  simp only [putAll, putB, Act.put, List.setIfInBounds_toArray, List.set_cons_succ, List.set_cons_zero]
  try dsimp only
  go_wp2_with (go_at_call 49; refine (rcross_any _ _ _ _ _ ha hb hc hd).mono ?_; rintro e w' ⟨rfl, ⟨_, _⟩, rfl⟩; dsimp only)
  go_ret
  refine Ret.mk' (ret_bool ?_) (by repeat (with_reducible first | exact Grew.refl _ | assumption | refine Grew.alloc ?_ _ | refine Grew.grow ?_ _ | refine Grew.dr ?_ _ | refine Grew.drewN ?_ _ | refine Grew.drew ?_ | refine Grew.trans ?_ (Hid.out (by assumption))))
  simp
set_option maxHeartbeats 800000 in
theorem rBefore_ff (a b c d : Int) (w : World) (ha : -4000000 ≤ a ∧ a ≤ 4000000) (hb : -4000000 ≤ b ∧ b ≤ 4000000) (hc : -4000000 ≤ c ∧ c ≤ 4000000) (hd : -4000000 ≤ d ∧ d ≤ 4000000) (h1 : upper a b = false) (h2 : upper c d = false) :
    Calls Try.prog 59 #[pt a b, pt c d] w (Ret w (.bool (decide (0 < a * d - b * c)))) := by
  have hm := hmix
  go_enter Try.func59, Try.ntmps59
  go_wp2_with fail
  refine wp_region_qas 5 [] [] hm (by kernel_rfl) (by simp only [List.take, List.filter, isQ]; rfl) (by simp only [List.drop]; rfl) ZOk.nil (by simp) ?_
  repeat (refine wpSteady_step (fun K hK => ?_); go_simp; first | (refine hK _ ?_; clear hK K) | (apply Exists.intro; refine ⟨fun _ => ?_, hK _ ?_⟩; (go_at_call 71; first | with_reducible exact rhalf_t _ h1 | with_reducible exact rhalf_f _ h1 | with_reducible exact rhalf_t _ h2 | with_reducible exact rhalf_f _ h2); clear hK K))
  refine wpSteady_nil ?_
  refine ⟨StOk.nil, LyOk.nil, ?_⟩
  rintro psq qsq Wq HWq HFq HBq
  obtain rfl : qsq = [] := HBq
  obtain rfl : psq = [] := HFq
  obtain ⟨⟨nq, osq⟩, rfl⟩ := HWq
  simp only [putAll, putB, Act.put, List.setIfInBounds_toArray, List.set_cons_succ, List.set_cons_zero]
  try dsimp only
  go_wp2_with (go_at_call 49; refine (rcross_any _ _ _ _ _ ha hb hc hd).mono ?_; rintro e w' ⟨rfl, ⟨_, _⟩, rfl⟩; dsimp only)
  go_ret
  refine Ret.mk' (ret_bool ?_) (by repeat (with_reducible first | exact Grew.refl _ | assumption | refine Grew.alloc ?_ _ | refine Grew.grow ?_ _ | refine Grew.dr ?_ _ | refine Grew.drewN ?_ _ | refine Grew.drew ?_ | refine Grew.trans ?_ (Hid.out (by assumption))))
  simp
set_option maxHeartbeats 800000 in
theorem rBefore_tf (a b c d : Int) (w : World) (h1 : upper a b = true) (h2 : upper c d = false) :
    Calls Try.prog 59 #[pt a b, pt c d] w (Ret w (.bool true)) := by
  have hm := hmix
  go_enter Try.func59, Try.ntmps59
  go_wp2_with fail
  refine wp_region_qas 5 [] [] hm (by kernel_rfl) (by simp only [List.take, List.filter, isQ]; rfl) (by simp only [List.drop]; rfl) ZOk.nil (by simp) ?_
  repeat (refine wpSteady_step (fun K hK => ?_); go_simp; first | (refine hK _ ?_; clear hK K) | (apply Exists.intro; refine ⟨fun _ => ?_, hK _ ?_⟩; (go_at_call 71; first | with_reducible exact rhalf_t _ h1 | with_reducible exact rhalf_f _ h1 | with_reducible exact rhalf_t _ h2 | with_reducible exact rhalf_f _ h2); clear hK K))
  refine wpSteady_nil ?_
  refine ⟨StOk.nil, LyOk.nil, ?_⟩
  rintro psq qsq Wq HWq HFq HBq
  obtain rfl : qsq = [] := HBq
  obtain rfl : psq = [] := HFq
  obtain ⟨⟨nq, osq⟩, rfl⟩ := HWq
  simp only [putAll, putB, Act.put, List.setIfInBounds_toArray, List.set_cons_succ, List.set_cons_zero]
  try dsimp only
  go_wp2_with fail
  refine wp_region_qas 6 [] [] hm (by kernel_rfl) (by simp only [List.take, List.filter, isQ]; rfl) (by simp only [List.drop]; rfl) ZOk.nil (by simp) ?_
  repeat (refine wpSteady_step (fun K hK => ?_); go_simp; first | (refine hK _ ?_; clear hK K) | (apply Exists.intro; refine ⟨fun _ => ?_, hK _ ?_⟩; (go_at_call 71; first | with_reducible exact rhalf_t _ h1 | with_reducible exact rhalf_f _ h1 | with_reducible exact rhalf_t _ h2 | with_reducible exact rhalf_f _ h2); clear hK K))
  refine wpSteady_nil ?_
  refine ⟨StOk.nil, LyOk.nil, ?_⟩
  rintro psq qsq Wqz HWqz HFq HBq
  obtain rfl : qsq = [] := HBq
  obtain rfl : psq = [] := HFq
  obtain ⟨⟨nqz, osqz⟩, rfl⟩ := HWqz
  simp only [putAll, putB, Act.put, List.setIfInBounds_toArray, List.set_cons_succ, List.set_cons_zero]
  try dsimp only
  go_wp2
  go_ret
  exact Ret.mk' (ret_bool (by simp)) (by repeat (with_reducible first | exact Grew.refl _ | assumption | refine Grew.alloc ?_ _ | refine Grew.grow ?_ _ | refine Grew.dr ?_ _ | refine Grew.drewN ?_ _ | refine Grew.drew ?_ | refine Grew.trans ?_ (Hid.out (by assumption))))
set_option maxHeartbeats 800000 in
theorem rBefore_ft (a b c d : Int) (w : World) (h1 : upper a b = false) (h2 : upper c d = true) :
    Calls Try.prog 59 #[pt a b, pt c d] w (Ret w (.bool false)) := by
  have hm := hmix
  go_enter Try.func59, Try.ntmps59
  go_wp2_with fail
  refine wp_region_qas 5 [] [] hm (by kernel_rfl) (by simp only [List.take, List.filter, isQ]; rfl) (by simp only [List.drop]; rfl) ZOk.nil (by simp) ?_
  repeat (refine wpSteady_step (fun K hK => ?_); go_simp; first | (refine hK _ ?_; clear hK K) | (apply Exists.intro; refine ⟨fun _ => ?_, hK _ ?_⟩; (go_at_call 71; first | with_reducible exact rhalf_t _ h1 | with_reducible exact rhalf_f _ h1 | with_reducible exact rhalf_t _ h2 | with_reducible exact rhalf_f _ h2); clear hK K))
  refine wpSteady_nil ?_
  refine ⟨StOk.nil, LyOk.nil, ?_⟩
  rintro psq qsq Wq HWq HFq HBq
  obtain rfl : qsq = [] := HBq
  obtain rfl : psq = [] := HFq
  obtain ⟨⟨nq, osq⟩, rfl⟩ := HWq
  simp only [putAll, putB, Act.put, List.setIfInBounds_toArray, List.set_cons_succ, List.set_cons_zero]
  try dsimp only
  go_wp2_with fail
  refine wp_region_qas 6 [] [] hm (by kernel_rfl) (by simp only [List.take, List.filter, isQ]; rfl) (by simp only [List.drop]; rfl) ZOk.nil (by simp) ?_
  repeat (refine wpSteady_step (fun K hK => ?_); go_simp; first | (refine hK _ ?_; clear hK K) | (apply Exists.intro; refine ⟨fun _ => ?_, hK _ ?_⟩; (go_at_call 71; first | with_reducible exact rhalf_t _ h1 | with_reducible exact rhalf_f _ h1 | with_reducible exact rhalf_t _ h2 | with_reducible exact rhalf_f _ h2); clear hK K))
  refine wpSteady_nil ?_
  refine ⟨StOk.nil, LyOk.nil, ?_⟩
  rintro psq qsq Wqz HWqz HFq HBq
  obtain rfl : qsq = [] := HBq
  obtain rfl : psq = [] := HFq
  obtain ⟨⟨nqz, osqz⟩, rfl⟩ := HWqz
  simp only [putAll, putB, Act.put, List.setIfInBounds_toArray, List.set_cons_succ, List.set_cons_zero]
  try dsimp only
  go_wp2
  go_ret
  exact Ret.mk' (ret_bool (by simp)) (by repeat (with_reducible first | exact Grew.refl _ | assumption | refine Grew.alloc ?_ _ | refine Grew.grow ?_ _ | refine Grew.dr ?_ _ | refine Grew.drewN ?_ _ | refine Grew.drew ?_ | refine Grew.trans ?_ (Hid.out (by assumption))))
theorem rBefore_any (a b c d : Int) (w : World) (ha : -4000000 ≤ a ∧ a ≤ 4000000) (hb : -4000000 ≤ b ∧ b ≤ 4000000) (hc : -4000000 ≤ c ∧ c ≤ 4000000) (hd : -4000000 ≤ d ∧ d ≤ 4000000) :
    Calls Try.prog 59 #[pt a b, pt c d] w (Ret w (.bool (beforeW a b c d))) := by
  unfold beforeW
  cases h1 : upper a b <;> cases h2 : upper c d
  · simpa using rBefore_ff a b c d w ha hb hc hd h1 h2
  · simpa using rBefore_ft a b c d w h1 h2
  · simpa using rBefore_tf a b c d w h1 h2
  · simpa using rBefore_tt a b c d w ha hb hc hd h1 h2
end Go.Proofs.Ytgcgaplhaglejaa
