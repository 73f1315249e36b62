/- The contracts of the program's functions on directions and sectors (package sector) that have no loop. Conditions: coordinates in range where products are formed. -/
import Derived.Test.YtgcgaplhaglejaaProg
import Derived.Test.YtgcgaplhaglejaaReg
namespace Go.Proofs.Ytgcgaplhaglejaa
set_option linter.unusedVariables false
set_option linter.unusedSimpArgs false
open Go.RowKit Go.Sort
attribute [local go_sem] Steady steadyUpon
attribute [local go_sem ↓] hs_dr lt_add_r lt_add_r2 lt_add_r3 lt_add_r4 lt_add_r5 lt_add_r6
attribute [local go_sem] cell?_gd frozen?_gd setCell_gd size_grow tape_grow cell?_grow' frozen?_grow' setCell_grow' grow_grow grow_dr grow_drew dr_dr dr_drew drew_dr dr_alloc dr_setCell dr_cell dr_frozen dr_tape dr_drawn

abbrev sec (a b c d e f : Int) : Value := .agg #[.int .i64 a, .int .i64 b, .int .i64 c, .int .i64 d, .int .i64 e, .int .i64 f]
theorem hmix : Try.prog.follows .mixedOrders = true := by kernel_rfl

set_option maxHeartbeats 400000 in
theorem cross_any (a b c d : Int) (w : World) (ha : -4000000 ≤ a ∧ a ≤ 4000000) (hb : -4000000 ≤ b ∧ b ≤ 4000000) (hc : -4000000 ≤ c ∧ c ≤ 4000000) (hd : -4000000 ≤ d ∧ d ≤ 4000000) :
    Calls Try.prog 57 #[pt a b, pt c d] w (Ret w (.int .i64 (a * d - b * c))) := by
  have h1 : -16000000000000 ≤ a * d ∧ a * d ≤ 16000000000000 := mul_bd 4000000 4000000 ha hd
  have h2 : -16000000000000 ≤ b * c ∧ b * c ≤ 16000000000000 := mul_bd 4000000 4000000 hb hc
  go_enter Try.func57, Try.ntmps57
  go_wp2
  go_ret
  exact Ret.mk' rfl (by repeat (with_reducible first | exact Grew.refl _ | assumption | refine Grew.alloc ?_ _ | refine Grew.grow ?_ _ | refine Grew.dr ?_ _ | refine Grew.drewN ?_ _ | refine Grew.drew ?_ | refine Grew.trans ?_ (Hid.out (by assumption))))

def upper (a b : Int) : Bool := decide (0 < b) || (b == 0 && decide (0 < a))

set_option maxHeartbeats 400000 in
theorem upper_any (a b : Int) (w : World) :
    Calls Try.prog 56 #[pt a b] w (Ret w (.bool (upper a b))) := by
  go_enter Try.func56, Try.ntmps56
  go_wp2
  all_goals go_ret
  all_goals refine Ret.mk' (ret_bool ?_) (by repeat (with_reducible first | exact Grew.refl _ | assumption | refine Grew.alloc ?_ _ | refine Grew.grow ?_ _ | refine Grew.dr ?_ _ | refine Grew.drewN ?_ _ | refine Grew.drew ?_ | refine Grew.trans ?_ (Hid.out (by assumption))))
  all_goals simp [upper, *]
  all_goals omega

def dirOk (a b : Int) : Bool := decide ((a ≠ 0 ∨ b ≠ 0) ∧ (-1000000 ≤ a ∧ a ≤ 1000000) ∧ (-1000000 ≤ b ∧ b ≤ 1000000))
set_option maxHeartbeats 400000 in
theorem ok_any (a b : Int) (w : World) :
    Calls Try.prog 36 #[pt a b] w (Ret w (.bool (dirOk a b))) := by
  go_enter Try.func36, Try.ntmps36
  go_wp2
  all_goals go_ret
  all_goals refine Ret.mk' (ret_bool ?_) (by repeat (with_reducible first | exact Grew.refl _ | assumption | refine Grew.alloc ?_ _ | refine Grew.grow ?_ _ | refine Grew.dr ?_ _ | refine Grew.drewN ?_ _ | refine Grew.drew ?_ | refine Grew.trans ?_ (Hid.out (by assumption))))
  all_goals (rw [Bool.eq_iff_iff]; simp [dirOk]; omega)

def crs (a b c d : Int) : Int := a * d - b * c
def cmpw (a b c d : Int) : Int := if upper a b != upper c d then (if upper a b then -1 else 1) else if 0 < crs a b c d then -1 else if crs a b c d < 0 then 1 else 0

theorem cw1 {a b c d : Int} (h1 : (!upper a b == upper c d) = true) (h2 : upper a b = true) : -1 = cmpw a b c d := by
  unfold cmpw; cases h3 : upper a b <;> cases h4 : upper c d <;> simp_all
theorem cw2 {a b c d : Int} (h1 : (!upper a b == upper c d) = true) (h2 : upper a b = false) : 1 = cmpw a b c d := by
  unfold cmpw; cases h3 : upper a b <;> cases h4 : upper c d <;> simp_all
theorem cw3 {a b c d : Int} (h1 : (!upper a b == upper c d) = false) (h2 : b * c < a * d) : -1 = cmpw a b c d := by
  unfold cmpw crs; rw [if_neg (by cases h3 : upper a b <;> cases h4 : upper c d <;> simp_all), if_pos (by omega)]
theorem cw4 {a b c d : Int} (h1 : (!upper a b == upper c d) = false) (h2 : a * d - b * c < 0) : 1 = cmpw a b c d := by
  unfold cmpw crs; rw [if_neg (by cases h3 : upper a b <;> cases h4 : upper c d <;> simp_all), if_neg (by omega), if_pos (by omega)]
theorem cw5 {a b c d : Int} (h1 : (!upper a b == upper c d) = false) (h2 : a * d ≤ b * c) (h3 : 0 ≤ a * d - b * c) : 0 = cmpw a b c d := by
  unfold cmpw crs; rw [if_neg (by cases h3 : upper a b <;> cases h4 : upper c d <;> simp_all), if_neg (by omega), if_neg (by omega)]

set_option maxHeartbeats 400000 in
theorem compare_any (a b c d : Int) (w : World) (ha : -4000000 ≤ a ∧ a ≤ 4000000) (hb : -4000000 ≤ b ∧ b ≤ 4000000) (hc : -4000000 ≤ c ∧ c ≤ 4000000) (hd : -4000000 ≤ d ∧ d ≤ 4000000) :
    Calls Try.prog 43 #[pt a b, pt c d] w (Ret w (.int .i64 (cmpw a b c d))) := by
  have hm := hmix
  go_enter Try.func43, Try.ntmps43
  go_wp2_with fail
  refine wp_region_qas 6 [] [] hm (by kernel_rfl) (by simp only [List.take, List.filter, isQ]; rfl) (by simp only [List.drop]; rfl) ZOk.nil (by simp) ?_
  repeat (refine wpSteady_step (fun K hK => ?_); go_simp; first | (refine hK _ ?_; clear hK K) | (apply Exists.intro; refine ⟨fun _ => ?_, hK _ ?_⟩; (go_at_call 56; exact upper_any _ _ _); clear hK K))
  refine wpSteady_nil ?_
  refine ⟨StOk.nil, LyOk.nil, ?_⟩
  rintro psq qsq Wq HWq HFq HBq
  obtain rfl : qsq = [] := HBq
  obtain rfl : psq = [] := HFq
  obtain ⟨⟨nq, osq⟩, rfl⟩ := HWq
  simp only [putAll, putB, Act.put, List.setIfInBounds_toArray, List.set_cons_succ, List.set_cons_zero]
  try dsimp only
  go_wp2_with (first | (go_at_call 56; refine (upper_any _ _ _).mono ?_; rintro e w' ⟨rfl, ⟨_, _⟩, rfl⟩; dsimp only) | (go_at_call 57; refine (cross_any _ _ _ _ _ ha hb hc hd).mono ?_; rintro e w' ⟨rfl, ⟨_, _⟩, rfl⟩; dsimp only))
  all_goals go_ret
  all_goals refine Ret.mk' (ret_int ?_) (by repeat (with_reducible first | exact Grew.refl _ | assumption | refine Grew.alloc ?_ _ | refine Grew.grow ?_ _ | refine Grew.dr ?_ _ | refine Grew.drewN ?_ _ | refine Grew.drew ?_ | refine Grew.trans ?_ (Hid.out (by assumption))))
  all_goals (first | exact cw1 ‹_› ‹_› | exact cw2 ‹_› ‹_› | exact cw3 ‹_› ‹_› | exact cw4 ‹_› ‹_› | exact cw5 ‹_› ‹_› ‹_›)

def secOk (a b c d e f : Int) : Bool := dirOk a b && dirOk c d && decide (1 ≤ e ∧ e ≤ 3) && decide (1 ≤ f ∧ f ≤ 3000000)

set_option maxHeartbeats 400000 in
theorem valid1_any (a b c d e f : Int) (w : World) :
    Calls Try.prog 32 #[sec a b c d e f] w (Ret w (.bool (secOk a b c d e f))) := by
  have hm := hmix
  go_enter Try.func32, Try.ntmps32
  go_wp2_with (go_at_call 36; refine (ok_any _ _ _).mono ?_; rintro e w' ⟨rfl, ⟨_, _⟩, rfl⟩; dsimp only)
  all_goals go_ret
  all_goals refine Ret.mk' (ret_bool ?_) (by repeat (with_reducible first | exact Grew.refl _ | assumption | refine Grew.alloc ?_ _ | refine Grew.grow ?_ _ | refine Grew.dr ?_ _ | refine Grew.drewN ?_ _ | refine Grew.drew ?_ | refine Grew.trans ?_ (Hid.out (by assumption))))
  all_goals (first | (simp [secOk, *]; done) | (simp [secOk, *]; omega))

def hasw (a b c d x y : Int) : Bool :=
  if cmpw a b c d == -1 then (decide (cmpw a b x y ≤ 0) && !decide (cmpw c d x y ≤ 0)) else if cmpw a b c d == 1 then (decide (cmpw a b x y ≤ 0) || !decide (cmpw c d x y ≤ 0)) else true

set_option maxHeartbeats 800000 in
theorem has_any (a b c d e f x y : Int) (w : World) (ha : -4000000 ≤ a ∧ a ≤ 4000000) (hb : -4000000 ≤ b ∧ b ≤ 4000000) (hc : -4000000 ≤ c ∧ c ≤ 4000000) (hd : -4000000 ≤ d ∧ d ≤ 4000000)
    (hx : -4000000 ≤ x ∧ x ≤ 4000000) (hy : -4000000 ≤ y ∧ y ≤ 4000000) :
    Calls Try.prog 33 #[sec a b c d e f, pt x y] w (Ret w (.bool (hasw a b c d x y))) := by
  have hm := hmix
  go_enter Try.func33, Try.ntmps33
  go_wp2_with fail
  refine wp_region_qas 8 [⟨4, 6, 5, 55, .agg #[.int .i64 0, .int .i64 0]⟩, ⟨5, 7, 6, 55, .agg #[.int .i64 0, .int .i64 0]⟩] [] hm (by kernel_rfl) (by simp only [List.take, List.filter, isQ]; rfl) (by simp only [List.drop]; rfl) (ZOk.cons Try.zeroValue55 Try.sizeOf55 (ZOk.cons Try.zeroValue55 Try.sizeOf55 ZOk.nil)) (by simp) ?_
  repeat (refine wpSteady_step (fun K hK => ?_); go_simp; first | (refine hK _ ?_; clear hK K) | (apply Exists.intro; refine ⟨fun _ => ?_, hK _ ?_⟩; (fail); clear hK K))
  refine wpSteady_nil ?_
  refine ⟨(StOk.cons (by rfl) (by simp [stOpnd, Act.eval, Value.cells, Value.oneCell']) (StOk.cons (by rfl) (by simp [stOpnd, Act.eval, Value.cells, Value.oneCell']) StOk.nil)), LyOk.nil, ?_⟩
  rintro psq qsq Wq HWq HFq HBq
  obtain rfl : qsq = [] := HBq
  obtain ⟨p0, _, rfl, hp0, hb0, hn0, p1, _, rfl, hp1, hb1, hn1, rfl⟩ := HFq
  simp only [putAll, putB, Act.put, List.setIfInBounds_toArray, List.set_cons_succ, List.set_cons_zero]
  simp [stOpnd, Act.eval, Value.cells] at hb0
  have gc0_0 : Wq.cell? ⟨p0, 0, none⟩ = some _ := blk_cell hb0 0
  have gc0_1 : Wq.cell? ⟨p0, 1, none⟩ = some _ := blk_cell hb0 1
  have gf0 := blk_frozen hb0
  have gl0 := blk_lt hb0
  simp [stOpnd, Act.eval, Value.cells] at hb1
  have gc1_0 : Wq.cell? ⟨p1, 0, none⟩ = some _ := blk_cell hb1 0
  have gc1_1 : Wq.cell? ⟨p1, 1, none⟩ = some _ := blk_cell hb1 1
  have gf1 := blk_frozen hb1
  have gl1 := blk_lt hb1
  have gn : p0 ≠ p1 := by simpa using hn0
  have gm : p1 ≠ p0 := fun e => gn e.symm
  clear hb0 hn0 hp0 hb1 hn1 hp1
  have oc := old_cell HWq
  have of := old_frozen HWq
  have ol := old_lt HWq
  replace HWq := hide HWq
  go_wp2_with fail
  refine wp_region_qas 10 [] [] hm (by kernel_rfl) (by simp only [List.take, List.filter, isQ]; rfl) (by simp only [List.drop]; rfl) ZOk.nil (by simp) ?_
  repeat (refine wpSteady_step (fun K hK => ?_); go_simp; first | (refine hK _ ?_; clear hK K) | (apply Exists.intro; refine ⟨fun _ => ?_, hK _ ?_⟩; (go_at_call 43; exact compare_any _ _ _ _ _ (by assumption) (by assumption) (by assumption) (by assumption)); clear hK K))
  refine wpSteady_nil ?_
  refine ⟨StOk.nil, LyOk.nil, ?_⟩
  rintro psq qsq Wqa HWqa HFq HBq
  obtain rfl : qsq = [] := HBq
  obtain rfl : psq = [] := HFq
  obtain ⟨⟨nqa, osqa⟩, rfl⟩ := HWqa
  simp only [putAll, putB, Act.put, List.setIfInBounds_toArray, List.set_cons_succ, List.set_cons_zero]
  try dsimp only
  go_wp2_with (go_at_call 43; refine (compare_any _ _ _ _ _ ha hb hc hd).mono ?_; rintro e w' ⟨rfl, ⟨_, _⟩, rfl⟩; dsimp only)
  all_goals go_ret
  all_goals refine Ret.mk' (ret_bool ?_) (by repeat (with_reducible first | exact Grew.refl _ | assumption | refine Grew.alloc ?_ _ | refine Grew.grow ?_ _ | refine Grew.dr ?_ _ | refine Grew.drewN ?_ _ | refine Grew.drew ?_ | refine Grew.trans ?_ (Hid.out (by assumption))))
  all_goals (simp only [hasw, *]; simp; try omega)
end Go.Proofs.Ytgcgaplhaglejaa
