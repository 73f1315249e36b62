/- Package poly: Rect. -/
import Derived.Test.YtdmlnmcaihodaaaPow
namespace Go.Proofs.Ytdmlnmcaihodaaa
set_option linter.unusedVariables false
set_option linter.unusedSimpArgs false
open Go.RowKit Go.Sort
attribute [local go_sem] Steady steadyUpon
attribute [local go_sem ↓] hs_dr lt_add_r lt_add_r2 lt_add_r3 lt_add_r4 lt_add_r5 lt_add_r6
attribute [local go_sem] cell?_gd frozen?_gd setCell_gd size_grow tape_grow cell?_grow' frozen?_grow' setCell_grow' grow_grow grow_dr grow_drew dr_dr dr_drew drew_dr dr_alloc dr_setCell dr_cell dr_frozen dr_tape dr_drawn
attribute [local irreducible] wpSteady

def rectC (b : B4) : List Pt := [(b.1.1, b.2.1), (b.1.2, b.2.1), (b.1.2, b.2.2), (b.1.1, b.2.2)]
def rectOf (b : B4) : List Pt × Int := if okB b = true then (if b.1.1 = b.1.2 ∨ b.2.1 = b.2.2 then ([], 4) else (rectC b, 0)) else ([], 1)
set_option maxRecDepth 100000 in
set_option maxHeartbeats 4000000 in
theorem Rect_any (b : B4) (w : World) : Calls Try.prog 24 #[bxv b] w (PolyR w (rectOf b)) := by
  have hm := hmix
  unfold rectOf
  obtain ⟨u, hu⟩ : ∃ u, okB b = u := ⟨_, rfl⟩
  have k1 := hide (fun W => ValidBox_ok b u W hu)
  rw [hu]
  cases u
  · obtain ⟨⟨b1, b2⟩, ⟨b3, b4⟩⟩ := b
    rw [if_neg (by simp)]
    clear hu
    go_enter Try.func24, Try.ntmps24
    go_wp2_with (go_at_call 58; (with_reducible refine (k1.out _).mono ?_); rintro e w' ⟨rfl, ⟨_, _⟩, rfl⟩; dsimp only)
    go_ret2
    exact ⟨_, rfl, World.ownsRow_nil _ _ _ _, (by repeat (with_reducible first | exact Grew.refl _ | assumption | refine Grew.alloc ?_ _ | refine Grew.grow ?_ _ | refine Grew.dr ?_ _ | refine Grew.drewN ?_ _ | refine Grew.drew ?_ | refine Grew.trans ?_ (Hid.out (by assumption))))⟩
  · rw [if_pos rfl]
    obtain ⟨⟨b1, b2⟩, ⟨b3, b4⟩⟩ := b
    clear hu
    dsimp only
    by_cases h1 : b1 = b2
    · subst h1
      rw [if_pos (.inl rfl)]
      go_enter Try.func24, Try.ntmps24
      go_wp2_with (go_at_call 58; (with_reducible refine (k1.out _).mono ?_); rintro e w' ⟨rfl, ⟨_, _⟩, rfl⟩; dsimp only)
      go_ret2
      exact ⟨_, rfl, World.ownsRow_nil _ _ _ _, (by repeat (with_reducible first | exact Grew.refl _ | assumption | refine Grew.alloc ?_ _ | refine Grew.grow ?_ _ | refine Grew.dr ?_ _ | refine Grew.drewN ?_ _ | refine Grew.drew ?_ | refine Grew.trans ?_ (Hid.out (by assumption))))⟩
    · have e1 : (b1 == b2) = false := by simpa using h1
      by_cases h2 : b3 = b4
      · subst h2
        rw [if_pos (.inr rfl)]
        go_enter Try.func24, Try.ntmps24
        go_wp2_with (go_at_call 58; (with_reducible refine (k1.out _).mono ?_); rintro e w' ⟨rfl, ⟨_, _⟩, rfl⟩; dsimp only)
        go_ret2
        exact ⟨_, rfl, World.ownsRow_nil _ _ _ _, (by repeat (with_reducible first | exact Grew.refl _ | assumption | refine Grew.alloc ?_ _ | refine Grew.grow ?_ _ | refine Grew.dr ?_ _ | refine Grew.drewN ?_ _ | refine Grew.drew ?_ | refine Grew.trans ?_ (Hid.out (by assumption))))⟩
      · have e2 : (b3 == b4) = false := by simpa using h2
        rw [if_neg (by omega)]
        go_enter Try.func24, Try.ntmps24
        go_wp2_with (go_at_call 58; (with_reducible refine (k1.out _).mono ?_); rintro e w' ⟨rfl, ⟨n5, os5⟩, rfl⟩; dsimp only)
        go_ret2
        have h := World.ownsRow_lit (base := w.heap.size) (e := 28) (size := 2) (grow (dr (w.alloc (.cells #[.int .i64 b1, .int .i64 b2, .int .i64 b3, .int .i64 b4] 48)) n5) os5) #[.int .i64 b1, .int .i64 b3, .int .i64 b2, .int .i64 b3, .int .i64 b2, .int .i64 b4, .int .i64 b1, .int .i64 b4] 4 (Grew.below (w := w) (by repeat (with_reducible first | exact Grew.refl _ | assumption | refine Grew.alloc ?_ _ | refine Grew.grow ?_ _ | refine Grew.dr ?_ _ | refine Grew.drewN ?_ _ | refine Grew.drew ?_ | refine Grew.trans ?_ (Hid.out (by assumption))))).size (by unfold maxLen; omega) rfl
        rw [size_grow, hs_dr, World.size_alloc'] at h
        exact ⟨_, rfl, h, (by repeat (with_reducible first | exact Grew.refl _ | assumption | refine Grew.alloc ?_ _ | refine Grew.grow ?_ _ | refine Grew.dr ?_ _ | refine Grew.drewN ?_ _ | refine Grew.drew ?_ | refine Grew.trans ?_ (Hid.out (by assumption))))⟩
end Go.Proofs.Ytdmlnmcaihodaaa
