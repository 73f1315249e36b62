/- Package plane: places, turns, segments. -/
import Derived.Test.YtdmlnmcaihodaaaReg
import Derived.Test.YtdmlnmcaihodaaaProg
namespace Go.Proofs.Ytdmlnmcaihodaaa
set_option linter.unusedVariables false
set_option linter.unusedSimpArgs false
open Go.RowKit Go.Sort
attribute [local go_sem] Steady steadyUpon
attribute [local go_sem ↓] hs_dr lt_add_r lt_add_r2 lt_add_r3 lt_add_r4 lt_add_r5 lt_add_r6
attribute [local go_sem] cell?_gd frozen?_gd setCell_gd size_grow tape_grow cell?_grow' frozen?_grow' setCell_grow' grow_grow grow_dr grow_drew dr_dr dr_drew drew_dr dr_alloc dr_setCell dr_cell dr_frozen dr_tape dr_drawn
attribute [local irreducible] wpSteady

theorem hmix : Try.prog.follows .mixedOrders = true := by kernel_rfl
abbrev Pt := Int × Int
def plOk (x y : Int) : Bool := decide ((-1000000 ≤ x ∧ x ≤ 1000000) ∧ (-1000000 ≤ y ∧ y ≤ 1000000))
abbrev Pt.ok (a : Pt) : Bool := plOk a.1 a.2
abbrev Pt.v (a : Pt) : Value := pt a.1 a.2
theorem pl_bd {x y : Int} (h : plOk x y = true) : (-1000000 ≤ x ∧ x ≤ 1000000) ∧ (-1000000 ≤ y ∧ y ≤ 1000000) := by
  simpa [plOk] using h
set_option maxHeartbeats 400000 in
theorem planeValid_any (a b : Int) (w : World) :
    Calls Try.prog 28 #[pt a b] w (Ret w (.bool (plOk a b))) := by
  go_enter Try.func28, Try.ntmps28
  go_wp2
  all_goals go_ret
  all_goals refine Ret.mk' (ret_bool ?_) (by repeat (with_reducible first | exact Grew.refl _ | assumption | refine Grew.alloc ?_ _ | refine Grew.grow ?_ _ | refine Grew.dr ?_ _ | refine Grew.drewN ?_ _ | refine Grew.drew ?_ | refine Grew.trans ?_ (Hid.out (by assumption))))
  all_goals (rw [Bool.eq_iff_iff]; simp [plOk]; omega)
theorem planeValid_v (a b : Int) (r : Bool) (w : World) (h : plOk a b = r) : Calls Try.prog 28 #[pt a b] w (Ret w (.bool r)) := by
  have := planeValid_any a b w
  rwa [h] at this

set_option maxHeartbeats 400000 in
theorem from_any (a b c d : Int) (w : World) (ha : -4000000 ≤ a ∧ a ≤ 4000000) (hb : -4000000 ≤ b ∧ b ≤ 4000000) (hc : -4000000 ≤ c ∧ c ≤ 4000000) (hd : -4000000 ≤ d ∧ d ≤ 4000000) :
    Calls Try.prog 81 #[pt a b, pt c d] w (Ret w (pt (c - a) (d - b))) := by
  go_enter Try.func81, Try.ntmps81
  go_wp2
  refine bodyPost_ret (v := pt (c - a) (d - b)) (by simp [results, Try.results81, go_sem]) rfl ?_
  exact Ret.mk' rfl (by repeat (with_reducible first | exact Grew.refl _ | assumption | refine Grew.alloc ?_ _ | refine Grew.grow ?_ _ | refine Grew.dr ?_ _ | refine Grew.drewN ?_ _ | refine Grew.drew ?_ | refine Grew.trans ?_ (Hid.out (by assumption))))
set_option maxHeartbeats 400000 in
theorem vcross_any (a b c d : Int) (w : World) (ha : -4000000 ≤ a ∧ a ≤ 4000000) (hb : -4000000 ≤ b ∧ b ≤ 4000000) (hc : -4000000 ≤ c ∧ c ≤ 4000000) (hd : -4000000 ≤ d ∧ d ≤ 4000000) :
    Calls Try.prog 82 #[pt a b, pt c d] w (Ret w (.int .i64 (a * d - b * c))) := by
  have h1 : -16000000000000 ≤ a * d ∧ a * d ≤ 16000000000000 := mul_bd 4000000 4000000 ha hd
  have h2 : -16000000000000 ≤ b * c ∧ b * c ≤ 16000000000000 := mul_bd 4000000 4000000 hb hc
  go_enter Try.func82, Try.ntmps82
  go_wp2
  go_ret
  exact Ret.mk' rfl (by repeat (with_reducible first | exact Grew.refl _ | assumption | refine Grew.alloc ?_ _ | refine Grew.grow ?_ _ | refine Grew.dr ?_ _ | refine Grew.drewN ?_ _ | refine Grew.drew ?_ | refine Grew.trans ?_ (Hid.out (by assumption))))
set_option maxHeartbeats 400000 in
theorem vdot_any (a b c d : Int) (w : World) (ha : -4000000 ≤ a ∧ a ≤ 4000000) (hb : -4000000 ≤ b ∧ b ≤ 4000000) (hc : -4000000 ≤ c ∧ c ≤ 4000000) (hd : -4000000 ≤ d ∧ d ≤ 4000000) :
    Calls Try.prog 83 #[pt a b, pt c d] w (Ret w (.int .i64 (a * c + b * d))) := by
  have h1 : -16000000000000 ≤ a * c ∧ a * c ≤ 16000000000000 := mul_bd 4000000 4000000 ha hc
  have h2 : -16000000000000 ≤ b * d ∧ b * d ≤ 16000000000000 := mul_bd 4000000 4000000 hb hd
  go_enter Try.func83, Try.ntmps83
  go_wp2
  go_ret
  exact Ret.mk' rfl (by repeat (with_reducible first | exact Grew.refl _ | assumption | refine Grew.alloc ?_ _ | refine Grew.grow ?_ _ | refine Grew.dr ?_ _ | refine Grew.drewN ?_ _ | refine Grew.drew ?_ | refine Grew.trans ?_ (Hid.out (by assumption))))

/-- The sign of a number; the cross product at a corner. -/
def sg (n : Int) : Int := if n < 0 then -1 else if 0 < n then 1 else 0
def cr (a b c : Pt) : Int := (b.1 - a.1) * (c.2 - a.2) - (b.2 - a.2) * (c.1 - a.1)
def dt (a b c : Pt) : Int := (b.1 - a.1) * (c.1 - a.1) + (b.2 - a.2) * (c.2 - a.2)
theorem sg_cases (n : Int) : (n < 0 ∧ sg n = -1) ∨ (n = 0 ∧ sg n = 0) ∨ (0 < n ∧ sg n = 1) := by
  unfold sg
  split
  · exact .inl ⟨by assumption, rfl⟩
  · split
    · exact .inr (.inr ⟨by assumption, rfl⟩)
    · exact .inr (.inl ⟨by omega, rfl⟩)
set_option maxHeartbeats 400000 in
theorem isNaN_any (x : Int) (w : World) : Calls Try.prog 78 #[.int .i64 x] w (Ret w (.bool false)) := by
  go_enter Try.func78, Try.ntmps78
  go_wp2
  go_ret
  exact Ret.mk' (by simp) (by repeat (with_reducible first | exact Grew.refl _ | assumption | refine Grew.alloc ?_ _ | refine Grew.grow ?_ _ | refine Grew.dr ?_ _ | refine Grew.drewN ?_ _ | refine Grew.drew ?_ | refine Grew.trans ?_ (Hid.out (by assumption))))
set_option maxHeartbeats 400000 in
theorem Compare_any (x y : Int) (w : World) : Calls Try.prog 57 #[.int .i64 x, .int .i64 y] w (Ret w (.int .i64 (sg (x - y)))) := by
  have hm := hmix
  rcases sg_cases (x - y) with ⟨h, e⟩ | ⟨h, e⟩ | ⟨h, e⟩
  · have h1 : decide (x < y) = true := by simp; omega
    rw [e]
    clear e
    go_enter Try.func57, Try.ntmps57
    go_wp2_with (go_at_call 78; refine (isNaN_any _ _).mono ?_; rintro e w' ⟨rfl, ⟨_, _⟩, rfl⟩; dsimp only)
    go_ret
    exact Ret.mk' rfl (by repeat (with_reducible first | exact Grew.refl _ | assumption | refine Grew.alloc ?_ _ | refine Grew.grow ?_ _ | refine Grew.dr ?_ _ | refine Grew.drewN ?_ _ | refine Grew.drew ?_ | refine Grew.trans ?_ (Hid.out (by assumption))))
  · obtain rfl : x = y := by omega
    rw [e]
    clear e
    go_enter Try.func57, Try.ntmps57
    go_wp2_with (go_at_call 78; refine (isNaN_any _ _).mono ?_; rintro e w' ⟨rfl, ⟨_, _⟩, rfl⟩; dsimp only)
    go_ret
    exact Ret.mk' rfl (by repeat (with_reducible first | exact Grew.refl _ | assumption | refine Grew.alloc ?_ _ | refine Grew.grow ?_ _ | refine Grew.dr ?_ _ | refine Grew.drewN ?_ _ | refine Grew.drew ?_ | refine Grew.trans ?_ (Hid.out (by assumption))))
  · have h1 : decide (x < y) = false := by simp; omega
    have h2 : decide (y < x) = true := by simp; omega
    rw [e]
    clear e
    go_enter Try.func57, Try.ntmps57
    go_wp2_with (go_at_call 78; refine (isNaN_any _ _).mono ?_; rintro e w' ⟨rfl, ⟨_, _⟩, rfl⟩; dsimp only)
    go_ret
    exact Ret.mk' rfl (by repeat (with_reducible first | exact Grew.refl _ | assumption | refine Grew.alloc ?_ _ | refine Grew.grow ?_ _ | refine Grew.dr ?_ _ | refine Grew.drewN ?_ _ | refine Grew.drew ?_ | refine Grew.trans ?_ (Hid.out (by assumption))))

theorem ok_bd {a : Pt} (h : a.ok = true) : (-1000000 ≤ a.1 ∧ a.1 ≤ 1000000) ∧ (-1000000 ≤ a.2 ∧ a.2 ≤ 1000000) := pl_bd h
theorem cr_bd {a b c : Pt} (ha : a.ok = true) (hb : b.ok = true) (hc : c.ok = true) : -8000000000000 ≤ cr a b c ∧ cr a b c ≤ 8000000000000 := by
  have := ok_bd ha
  have := ok_bd hb
  have := ok_bd hc
  have h1 : -4000000000000 ≤ (b.1 - a.1) * (c.2 - a.2) ∧ (b.1 - a.1) * (c.2 - a.2) ≤ 4000000000000 := mul_bd 2000000 2000000 (by omega) (by omega)
  have h2 : -4000000000000 ≤ (b.2 - a.2) * (c.1 - a.1) ∧ (b.2 - a.2) * (c.1 - a.1) ≤ 4000000000000 := mul_bd 2000000 2000000 (by omega) (by omega)
  unfold cr
  omega
theorem dt_bd {a b c : Pt} (ha : a.ok = true) (hb : b.ok = true) (hc : c.ok = true) : -8000000000000 ≤ dt a b c ∧ dt a b c ≤ 8000000000000 := by
  have := ok_bd ha
  have := ok_bd hb
  have := ok_bd hc
  have h1 : -4000000000000 ≤ (b.1 - a.1) * (c.1 - a.1) ∧ (b.1 - a.1) * (c.1 - a.1) ≤ 4000000000000 := mul_bd 2000000 2000000 (by omega) (by omega)
  have h2 : -4000000000000 ≤ (b.2 - a.2) * (c.2 - a.2) ∧ (b.2 - a.2) * (c.2 - a.2) ≤ 4000000000000 := mul_bd 2000000 2000000 (by omega) (by omega)
  unfold dt
  omega
def tn (a b c : Pt) : Int := sg (cr a b c)
set_option maxHeartbeats 1600000 in
theorem plTurn_any (a b c : Pt) (w : World) (ha : a.ok = true) (hb : b.ok = true) (hc : c.ok = true) :
    Calls Try.prog 61 #[a.v, b.v, c.v] w (Ret w (.int .i64 (tn a b c))) := by
  have hm := hmix
  obtain ⟨a1, a2⟩ := a
  obtain ⟨b1, b2⟩ := b
  obtain ⟨c1, c2⟩ := c
  have a' := pl_bd ha
  have b' := pl_bd hb
  have c' := pl_bd hc
  have hcb := cr_bd ha hb hc
  obtain ⟨t, ht⟩ : ∃ t, tn (a1, a2) (b1, b2) (c1, c2) = t := ⟨_, rfl⟩
  have k1 := hide (fun W => from_any a1 a2 b1 b2 W (by omega) (by omega) (by omega) (by omega))
  have k2 := hide (fun W => from_any a1 a2 c1 c2 W (by omega) (by omega) (by omega) (by omega))
  have k3 : Hid (∀ W, Calls Try.prog 82 #[pt (b1 - a1) (b2 - a2), pt (c1 - a1) (c2 - a2)] W (Ret W (.int .i64 (cr (a1, a2) (b1, b2) (c1, c2))))) := hide (fun W => vcross_any _ _ _ _ W (by omega) (by omega) (by omega) (by omega))
  have k4 : Hid (∀ W, Calls Try.prog 57 #[.int .i64 (cr (a1, a2) (b1, b2) (c1, c2)), .int .i64 0] W (Ret W (.int .i64 t))) := hide (fun W => by
    have := Compare_any (cr (a1, a2) (b1, b2) (c1, c2)) 0 W
    rw [Int.sub_zero] at this
    rw [← ht]
    exact this)
  rw [ht]
  clear ht ha hb hc
  go_enter Try.func61, Try.ntmps61
  go_wp2_with fail
  refine wp_region_qas 9 [] [] hm (by kernel_rfl) (by simp only [List.take, List.filter, isQ]; rfl) (by simp only [List.drop]; rfl) ZOk.nil (by simp) ?_
  repeat (refine wpSteady_step (fun K hK => ?_); go_simp; first | (refine hK _ ?_; clear hK K) | (apply Exists.intro; refine ⟨fun _ => ?_, hK _ ?_⟩; (first | (go_at_call 81; first | with_reducible exact k1.out _ | with_reducible exact k2.out _) | (go_at_call 82; with_reducible exact k3.out _) | (go_at_call 57; with_reducible exact k4.out _)); clear hK K))
  refine wpSteady_nil ?_
  refine ⟨StOk.nil, LyOk.nil, ?_⟩
  rintro psq qsq Wq HWq HFq HBq
  obtain rfl : qsq = [] := HBq
  obtain rfl : psq = [] := HFq
  obtain ⟨⟨nq, osq⟩, rfl⟩ := HWq
  simp only [putAll, putB, Act.put, List.setIfInBounds_toArray, List.set_cons_succ, List.set_cons_zero]
  try dsimp only
  go_wp2
  go_ret
  exact Ret.mk' rfl (by repeat (with_reducible first | exact Grew.refl _ | assumption | refine Grew.alloc ?_ _ | refine Grew.grow ?_ _ | refine Grew.dr ?_ _ | refine Grew.drewN ?_ _ | refine Grew.drew ?_ | refine Grew.trans ?_ (Hid.out (by assumption))))
end Go.Proofs.Ytdmlnmcaihodaaa
