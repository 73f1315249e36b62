/- The reference implementation: has, In, At. -/
import Derived.Test.YtgcgaplhaglejaaRefA
namespace Go.Proofs.Ytgcgaplhaglejaa
set_option linter.unusedVariables false
set_option linter.unusedSimpArgs false
open Go.RowKit Go.Sort
attribute [local go_sem] Steady steadyUpon
attribute [local go_sem ↓] hs_dr lt_add_r lt_add_r2 lt_add_r3 lt_add_r4 lt_add_r5 lt_add_r6
attribute [local go_sem] cell?_gd frozen?_gd setCell_gd size_grow tape_grow cell?_grow' frozen?_grow' setCell_grow' grow_grow grow_dr grow_drew dr_dr dr_drew drew_dr dr_alloc dr_setCell dr_cell dr_frozen dr_tape dr_drawn

def hasR (a b c d x y : Int) : Bool :=
  if alike a b c d || alike a b x y then true else if alike c d x y then false else
  if 0 < a * y - b * x then (decide (0 < x * d - y * c) || decide (a * d - b * c ≤ 0)) else (decide (0 < x * d - y * c) && decide (a * d - b * c < 0))

set_option maxHeartbeats 1600000 in
theorem rhas_any (a b c d x y : Int) (w : World) (ha : -4000000 ≤ a ∧ a ≤ 4000000) (hb : -4000000 ≤ b ∧ b ≤ 4000000) (hc : -4000000 ≤ c ∧ c ≤ 4000000) (hd : -4000000 ≤ d ∧ d ≤ 4000000)
    (hx : -4000000 ≤ x ∧ x ≤ 4000000) (hy : -4000000 ≤ y ∧ y ≤ 4000000) :
    Calls Try.prog 35 #[pt a b, pt c d, pt x y] w (Ret w (.bool (hasR a b c d x y))) := by
  have hm := hmix
  go_enter Try.func35, Try.ntmps35
  go_wp2_with (first | (go_at_call 48; refine (rAlike_any _ _ _ _ _ (by assumption) (by assumption) (by assumption) (by assumption)).mono ?_; rintro e w' ⟨rfl, ⟨_, _⟩, rfl⟩; dsimp only) | (go_at_call 49; refine (rcross_any _ _ _ _ _ (by assumption) (by assumption) (by assumption) (by assumption)).mono ?_; rintro e w' ⟨rfl, ⟨_, _⟩, rfl⟩; dsimp only))
  all_goals go_ret
  all_goals refine Ret.mk' (ret_bool ?_) (by repeat (with_reducible first | exact Grew.refl _ | assumption | refine Grew.alloc ?_ _ | refine Grew.grow ?_ _ | refine Grew.dr ?_ _ | refine Grew.drewN ?_ _ | refine Grew.drew ?_ | refine Grew.trans ?_ (Hid.out (by assumption))))
  all_goals
    unfold hasR
    generalize alike a b c d = q1 at *
    generalize alike a b x y = q2 at *
    generalize alike c d x y = q3 at *
    generalize a * y = p1 at *
    generalize b * x = p2 at *
    generalize x * d = p3 at *
    generalize y * c = p4 at *
    generalize a * d = p5 at *
    generalize b * c = p6 at *
    first
      | (simp [*]; done)
      | (simp [*]; omega)
      | (cases q1 <;> cases q2 <;> cases q3 <;> simp at * <;> (first | done | omega | (rw [if_neg (by omega)]; simp; omega) | (rw [if_pos (by omega)]; simp; omega) | (rw [if_neg (by omega)]; omega) | (rw [if_pos (by omega)]; omega)))

def inR (s : Sec) (x y : Int) : Bool × Int := if (s.ok && dirOk x y) = true then (hasR s.fx s.fy s.tx s.ty x y, 0) else (false, 1)
set_option maxHeartbeats 1600000 in
theorem rIn_any (s : Sec) (x y : Int) (w : World) :
    Calls Try.prog 15 #[s.val, pt x y] w (Ret w (.tuple #[.bool (inR s x y).1, .int .i64 (inR s x y).2])) := by
  have hm := hmix
  obtain ⟨a, b, c, d, e, f⟩ := s
  change Calls Try.prog _ #[sec a b c d e f, pt x y] w _
  unfold inR
  cases h1 : Sec.ok ⟨a, b, c, d, e, f⟩
  · have h1' : secOk a b c d e f = false := h1
    go_enter Try.func15, Try.ntmps15
    go_wp2_with (first | (go_at_call 34; refine (rvalid_any _ _ _ _ _ _ _).mono ?_; rintro e w' ⟨rfl, ⟨_, _⟩, rfl⟩; dsimp only; rw [h1']) | (go_at_call 37; refine (rDirection_any _ _ _).mono ?_; rintro e w' ⟨rfl, ⟨_, _⟩, rfl⟩; dsimp only))
    all_goals go_ret2
    all_goals exact Ret.mk' (by simp) (by repeat (with_reducible first | exact Grew.refl _ | assumption | refine Grew.alloc ?_ _ | refine Grew.grow ?_ _ | refine Grew.dr ?_ _ | refine Grew.drewN ?_ _ | refine Grew.drew ?_ | refine Grew.trans ?_ (Hid.out (by assumption))))
  · cases h2 : dirOk x y
    · have h1' : secOk a b c d e f = true := h1
      go_enter Try.func15, Try.ntmps15
      go_wp2_with (first | (go_at_call 34; refine (rvalid_any _ _ _ _ _ _ _).mono ?_; rintro e w' ⟨rfl, ⟨_, _⟩, rfl⟩; dsimp only; rw [h1']) | (go_at_call 37; refine (rDirection_any _ _ _).mono ?_; rintro e w' ⟨rfl, ⟨_, _⟩, rfl⟩; dsimp only; rw [h2]))
      all_goals go_ret2
      all_goals exact Ret.mk' (by simp) (by repeat (with_reducible first | exact Grew.refl _ | assumption | refine Grew.alloc ?_ _ | refine Grew.grow ?_ _ | refine Grew.dr ?_ _ | refine Grew.drewN ?_ _ | refine Grew.drew ?_ | refine Grew.trans ?_ (Hid.out (by assumption))))
    · have h1' : secOk a b c d e f = true := h1
      have hbd := ok_bd h1
      have hxy := dir_bd h2
      go_enter Try.func15, Try.ntmps15
      go_wp2_with (first | (go_at_call 34; refine (rvalid_any _ _ _ _ _ _ _).mono ?_; rintro e w' ⟨rfl, ⟨_, _⟩, rfl⟩; dsimp only; rw [h1']) | (go_at_call 37; refine (rDirection_any _ _ _).mono ?_; rintro e w' ⟨rfl, ⟨_, _⟩, rfl⟩; dsimp only; rw [h2]) | (go_at_call 35; refine (rhas_any _ _ _ _ _ _ _ (by omega) (by omega) (by omega) (by omega) hxy.1 hxy.2).mono ?_; rintro e w' ⟨rfl, ⟨_, _⟩, rfl⟩; dsimp only))
      all_goals go_ret2
      all_goals exact Ret.mk' (by simp) (by repeat (with_reducible first | exact Grew.refl _ | assumption | refine Grew.alloc ?_ _ | refine Grew.grow ?_ _ | refine Grew.dr ?_ _ | refine Grew.drewN ?_ _ | refine Grew.drew ?_ | refine Grew.trans ?_ (Hid.out (by assumption))))
end Go.Proofs.Ytgcgaplhaglejaa
