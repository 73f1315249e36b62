/- The law PolyTouch, walked. -/
import Derived.Test.YtdmlnmcaihodaaaPoz
import Derived.Test.YtdmlnmcaihodaaaToQ
namespace Go.Proofs.Ytdmlnmcaihodaaa
set_option linter.unusedVariables false
set_option linter.unusedSimpArgs false
open Go.RowKit Go.Sort
attribute [local go_sem] Steady steadyUpon
attribute [local go_sem ↓] hs_dr lt_add_r lt_add_r2 lt_add_r3 lt_add_r4 lt_add_r5 lt_add_r6
attribute [local go_sem] cell?_gd frozen?_gd setCell_gd size_grow tape_grow cell?_grow' frozen?_grow' setCell_grow' grow_grow grow_dr grow_drew dr_dr dr_drew drew_dr dr_alloc dr_setCell dr_cell dr_frozen dr_tape dr_drawn
attribute [local irreducible] wpSteady

set_option maxRecDepth 100000 in
set_option maxHeartbeats 8000000 in
theorem polyTouch_any (ps qs : List Pt) (A A' : Option Addr) (c c' : Nat) (a1 a2 : Int) (w : World) (hr : Rd w w.heap.size 2 A (ps.map encD)) (hc : ps.length ≤ 100000000000000) (hr' : Rd w w.heap.size 2 A' (qs.map encD)) (hc' : qs.length ≤ 100000000000000) :
    Calls Try.prog 7 #[.slice A ps.length c, .slice A' qs.length c', pt a1 a2] w (Ret w (.bool true)) := by
  have hm := hmix
  obtain ⟨⟨x, e⟩, hx⟩ : ∃ d, ptouchOf ps qs = d := ⟨_, rfl⟩
  have hy := touch_comm ps qs
  rw [hx] at hy
  obtain ⟨⟨z, g⟩, hz⟩ : ∃ d, ptouchOf ps ps = d := ⟨_, rfl⟩
  obtain ⟨⟨i, h⟩, hi⟩ : ∃ d, inOf ps (a1, a2) = d := ⟨_, rfl⟩
  obtain ⟨⟨k, j⟩, hk⟩ : ∃ d, inOf qs (a1, a2) = d := ⟨_, rfl⟩
  have k1 := hide (fun W (hg : Grew w W) => Touch_v ps qs A A' c c' _ W (hr.up hg) (hr'.up hg) hc hc' hx)
  have k2 := hide (fun W (hg : Grew w W) => Touch_v qs ps A' A c' c _ W (hr'.up hg) (hr.up hg) hc' hc hy)
  have k3 := hide (fun W (hg : Grew w W) => Touch_v ps ps A A c c _ W (hr.up hg) (hr.up hg) hc hc hz)
  have k4 := hide (fun W (hg : Grew w W) => In_v ps A c (a1, a2) _ W (hr.up hg) hc hi)
  have k5 := hide (fun W (hg : Grew w W) => In_v qs A' c' (a1, a2) _ W (hr'.up hg) hc' hk)
  have hcase : (x = false ∧ e = 1) ∨ (e = 0 ∧ g = 0 ∧ z = true ∧ (h ≠ 0 ∨ (h = 0 ∧ j ≠ 0) ∨ (h = 0 ∧ j = 0 ∧ i < 0) ∨ (h = 0 ∧ j = 0 ∧ ¬ i < 0 ∧ k < 0) ∨ (h = 0 ∧ j = 0 ∧ ¬ i < 0 ∧ ¬ k < 0 ∧ x = true))) := by
    unfold ptouchOf at hx hz
    by_cases hv : (PValid ps && PValid qs) = true
    · rw [if_pos hv] at hx
      simp only [Bool.and_eq_true] at hv
      rw [hv.1] at hz
      injection hx with hx hx2
      injection hz with hz hz2
      have hp := pv_parts hv.1
      have hq := pv_parts hv.2
      rw [touch_self (by omega)] at hz
      refine .inr ⟨hx2.symm, hz2.symm, hz.symm, ?_⟩
      by_cases h0 : h = 0
      · by_cases j0 : j = 0
        · by_cases i0 : i < 0
          · exact .inr (.inr (.inl ⟨h0, j0, i0⟩))
          · by_cases k0 : k < 0
            · exact .inr (.inr (.inr (.inl ⟨h0, j0, i0, k0⟩)))
            · refine .inr (.inr (.inr (.inr ⟨h0, j0, i0, k0, ?_⟩)))
              unfold inOf at hi hk
              rw [hv.1] at hi
              rw [hv.2] at hk
              cases ha : Pt.ok (a1, a2)
              · rw [ha] at hi
                injection hi with _ hi2
                omega
              · rw [ha] at hi hk
                injection hi with hi1 _
                injection hk with hk1 _
                rw [← hx]
                exact touch_common (q := (a1, a2)) (by omega) (by omega) (by omega) (by omega)
        · exact .inr (.inl ⟨h0, j0⟩)
      · exact .inl h0
    · rw [if_neg hv] at hx
      injection hx with hx hx2
      exact .inl ⟨hx.symm, hx2.symm⟩
  clear hx hy hz hi hk hr hr'
  rcases hcase with ⟨rfl, rfl⟩ | ⟨rfl, rfl, rfl, h1 | ⟨rfl, h1⟩ | ⟨rfl, rfl, h1⟩ | ⟨rfl, rfl, h1, h2⟩ | ⟨rfl, rfl, h1, h2, hxt⟩⟩
  · go_enter Try.func7, Try.ntmps7
    go_wp2_with (first | (go_at_call 10; (with_reducible refine (head_v _).mono ?_); rintro e w' ⟨rfl, ⟨_, _⟩, rfl⟩; dsimp only) | ((go_at_call 22; first | with_reducible refine (k1.out _ (by repeat (with_reducible first | exact Grew.refl _ | assumption | refine Grew.alloc ?_ _ | refine Grew.grow ?_ _ | refine Grew.dr ?_ _ | refine Grew.drewN ?_ _ | refine Grew.drew ?_ | refine Grew.trans ?_ (Hid.out (by assumption))))).mono ?_ | with_reducible refine (k2.out _ (by repeat (with_reducible first | exact Grew.refl _ | assumption | refine Grew.alloc ?_ _ | refine Grew.grow ?_ _ | refine Grew.dr ?_ _ | refine Grew.drewN ?_ _ | refine Grew.drew ?_ | refine Grew.trans ?_ (Hid.out (by assumption))))).mono ?_ | with_reducible refine (k3.out _ (by repeat (with_reducible first | exact Grew.refl _ | assumption | refine Grew.alloc ?_ _ | refine Grew.grow ?_ _ | refine Grew.dr ?_ _ | refine Grew.drewN ?_ _ | refine Grew.drew ?_ | refine Grew.trans ?_ (Hid.out (by assumption))))).mono ?_); rintro e w' ⟨rfl, ⟨_, _⟩, rfl⟩; dsimp only))
    go_ret
    exact Ret.mk' rfl (by repeat (with_reducible first | exact Grew.refl _ | assumption | refine Grew.alloc ?_ _ | refine Grew.grow ?_ _ | refine Grew.dr ?_ _ | refine Grew.drewN ?_ _ | refine Grew.drew ?_ | refine Grew.trans ?_ (Hid.out (by assumption))))
  all_goals cases x
  all_goals try (cases hxt; done)
  all_goals
    go_enter Try.func7, Try.ntmps7
    go_wp2_with (first | (go_at_call 10; (with_reducible refine (head_v _).mono ?_); rintro e w' ⟨rfl, ⟨_, _⟩, rfl⟩; dsimp only) | ((go_at_call 22; first | with_reducible refine (k1.out _ (by repeat (with_reducible first | exact Grew.refl _ | assumption | refine Grew.alloc ?_ _ | refine Grew.grow ?_ _ | refine Grew.dr ?_ _ | refine Grew.drewN ?_ _ | refine Grew.drew ?_ | refine Grew.trans ?_ (Hid.out (by assumption))))).mono ?_ | with_reducible refine (k2.out _ (by repeat (with_reducible first | exact Grew.refl _ | assumption | refine Grew.alloc ?_ _ | refine Grew.grow ?_ _ | refine Grew.dr ?_ _ | refine Grew.drewN ?_ _ | refine Grew.drew ?_ | refine Grew.trans ?_ (Hid.out (by assumption))))).mono ?_ | with_reducible refine (k3.out _ (by repeat (with_reducible first | exact Grew.refl _ | assumption | refine Grew.alloc ?_ _ | refine Grew.grow ?_ _ | refine Grew.dr ?_ _ | refine Grew.drewN ?_ _ | refine Grew.drew ?_ | refine Grew.trans ?_ (Hid.out (by assumption))))).mono ?_); rintro e w' ⟨rfl, ⟨_, _⟩, rfl⟩; dsimp only) | ((go_at_call 12; first | with_reducible refine (k4.out _ (by repeat (with_reducible first | exact Grew.refl _ | assumption | refine Grew.alloc ?_ _ | refine Grew.grow ?_ _ | refine Grew.dr ?_ _ | refine Grew.drewN ?_ _ | refine Grew.drew ?_ | refine Grew.trans ?_ (Hid.out (by assumption))))).mono ?_ | with_reducible refine (k5.out _ (by repeat (with_reducible first | exact Grew.refl _ | assumption | refine Grew.alloc ?_ _ | refine Grew.grow ?_ _ | refine Grew.dr ?_ _ | refine Grew.drewN ?_ _ | refine Grew.drew ?_ | refine Grew.trans ?_ (Hid.out (by assumption))))).mono ?_); rintro e w' ⟨rfl, ⟨_, _⟩, rfl⟩; dsimp only))
    go_ret
    exact Ret.mk' (by simp) (by repeat (with_reducible first | exact Grew.refl _ | assumption | refine Grew.alloc ?_ _ | refine Grew.grow ?_ _ | refine Grew.dr ?_ _ | refine Grew.drewN ?_ _ | refine Grew.drew ?_ | refine Grew.trans ?_ (Hid.out (by assumption))))
theorem polyTouch_row (ps : List Pt) (A : Option Addr) (c : Nat) (qs : List Pt) (A' : Option Addr) (c' : Nat) (a1 a2 : Int) (w : World) (hr : Rd w w.heap.size 2 A (ps.map encD)) (hc : ps.length ≤ 100000000000000) (hr' : Rd w w.heap.size 2 A' (qs.map encD)) (hc' : qs.length ≤ 100000000000000) :
    Calls Try.prog 7 #[.slice A ps.length c, .slice A' qs.length c', pt a1 a2] w (Ret w (.bool true)) := polyTouch_any ps qs A A' c c' a1 a2 w hr hc hr' hc'
end Go.Proofs.Ytdmlnmcaihodaaa
