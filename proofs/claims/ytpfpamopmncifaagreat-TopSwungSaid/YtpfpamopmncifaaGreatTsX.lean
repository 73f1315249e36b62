/- The example of the law. -/
import Derived.Test.YtpfpamopmncifaaGreatTsW
set_option linter.unusedSimpArgs false
set_option linter.unusedVariables false
set_option maxHeartbeats 4000000
set_option maxRecDepth 100000
namespace Go.Proofs.YtpfpamopmncifaaGreat
open Go.RowKit Go.Sort
attribute [local go_sem] Steady steadyUpon
attribute [local go_sem ↓] hs_dr lt_add_r lt_add_r2 lt_add_r3 lt_add_r4 lt_add_r5 lt_add_r6
attribute [local go_sem] cell?_gd frozen?_gd setCell_gd size_grow tape_grow cell?_grow' frozen?_grow' setCell_grow' grow_grow grow_dr grow_drew dr_dr dr_drew drew_dr dr_alloc dr_setCell dr_cell dr_frozen dr_tape dr_drawn
attribute [local irreducible] wpSteady
theorem Rd.one3 {W : World} {b : Nat} {x y z : Int} {T : TypeId} (h : W.heap[b]? = some (.cells #[.int .i64 x, .int .i64 y, .int .i64 z] T (0, 0))) : Rd W W.heap.size 3 (some ⟨b, 0, none⟩) (([(x, y, z)] : List Mk).map encM) := by
 refine .inr ⟨b, 0, rfl, blk_lt h, fun k l hl j u hu => ?_⟩
 cases k with
 | zero =>
  injection hl with hl
  subst hl
  rw [Nat.zero_add, blk_cell h]
  match j, hu with
  | 0, hu => injection hu with hu; subst hu; rfl
  | 1, hu => injection hu with hu; subst hu; rfl
  | 2, hu => injection hu with hu; subst hu; rfl
  | j + 3, hu => simp [encM] at hu
 | succ k => simp at hl
def dmH : Dm := ⟨1000000, 0, 10, 0, 1000000, 0, 3⟩
theorem rad_h {r e : Int} (h : RadP 0 0 30 40 50 0 0 r e) : r = 4 ∧ e = 0 := by
 have h1 : (mOk 0 0 30 40 50 && inB 0 0 (-100000) 100000) = true := by decide
 unfold RadP at h
 rw [h1] at h
 have h2 : wat 40 0 = 40 := by decide
 have h3 : wat 30 0 = 30 := by decide
 rw [h2, h3] at h
 rcases h with ⟨h, _⟩ | ⟨_, h, _⟩ | ⟨_, _, g1, g2, g3, g4, g5⟩
 ·cases h
 ·omega
 ·refine ⟨?_, g5⟩
  rcases Int.lt_trichotomy r 4 with h | h | h
  ·have : r * r ≤ 3 * 3 := Int.mul_le_mul (by omega) (by omega) g1 (by omega)
   omega
  ·exact h
  ·rcases g4 with rfl | g4
   ·omega
   ·have : (4 : Int) * 4 ≤ (r - 1) * (r - 1) := Int.mul_le_mul (by omega) (by omega) (by omega) (by omega)
    omega
theorem one_h : oneR dmH 1000000 5 [(5, 5, 2)] [(8, 5, 2)] 1 0 0 4 5 = (dv 1 10 0 9 8, 0) := by
 have e1 : findOf [(5, 5, 2)] 5 = some (5, 5, 2) := by decide
 have e2 : trOf [(8, 5, 2)] (5, 5, 2) = (8, 5, 2) := by decide
 have e3 : carB dmH (0, 0) = true := by decide
 have e4 : midOf dmH (0, 0) = (10, 0) := by decide
 have e5 : dvOk 1 10 0 9 8 = true := by decide
 have e6 : grOf 1000000 4 + 5 = 9 := by decide
 unfold oneR
 rw [e1]
 dsimp only
 rw [e2, e3, e4, e6]
 dsimp only
 rw [e5]
 rfl
theorem head20_v (w : World) : Calls Tryz.prog 4 #[] w (Ret w (.bool true)) := by
 have hm := hmix
 obtain ⟨X0, hX⟩ : ∃ X, X = (((((w.alloc (.cells #[.int .i64 0, .int .i64 0, .int .i64 30, .int .i64 40, .int .i64 50] 27 (0, 0))).alloc (.cells #[.int .i64 1000000, .int .i64 0, .int .i64 10, .int .i64 0, .int .i64 1000000, .int .i64 0, .int .i64 3] 32 (0, 0))).alloc (.cells #[.int .i64 5, .int .i64 5, .int .i64 2] 57 (0, 0))).alloc (.cells #[.int .i64 1, .slice (some ⟨w.heap.size + 1 + 1, 0, none⟩) 1 1] 35 (0, 0))).alloc (.cells #[.int .i64 8, .int .i64 5, .int .i64 2] 57 (0, 0))).alloc (.cells #[.int .i64 2, .slice (some ⟨w.heap.size + 1 + 1 + 1 + 1, 0, none⟩) 1 1] 35 (0, 0)) := ⟨_, rfl⟩
 have h1 : Rd X0 X0.heap.size 3 (some ⟨w.heap.size + 1 + 1, 0, none⟩) (([(5, 5, 2)] : List Mk).map encM) := Rd.one3 (T := 57) (by rw [hX]; exact (heap_alloc_old _ _ (by simp)).trans ((heap_alloc_old _ _ (by simp)).trans ((heap_alloc_old _ _ (by simp)).trans (heap_alloc_at _ _ _ (by simp)))))
 have h2 : Rd X0 X0.heap.size 3 (some ⟨w.heap.size + 1 + 1 + 1 + 1, 0, none⟩) (([(8, 5, 2)] : List Mk).map encM) := Rd.one3 (T := 57) (by rw [hX]; exact (heap_alloc_old _ _ (by simp)).trans (heap_alloc_at _ _ _ (by simp)))
 have k4 := hide (fun W (hg : Grew X0 W) => tFeat_good dmH 1000000 5 1 2 [(5, 5, 2)] [(8, 5, 2)] (some ⟨w.heap.size + 1 + 1, 0, none⟩) (some ⟨w.heap.size + 1 + 1 + 1 + 1, 0, none⟩) 1 1 1 0 0 4 5 _ W (h1.up hg) (h2.up hg) (by decide) (by decide) (by decide) (by decide) (by unfold rootP; decide) (by unfold rootP; decide) (by decide) (by decide) one_h)
 have k5 := hide (fun W => dCovers_v 1 10 0 9 8 (17, 3) (true, 0) W (by decide))
 unfold dmH at k4
 dsimp only [List.length_cons, List.length_nil, Nat.zero_add] at k4 k5
 rw [hX] at k4
 clear h1 h2 hX
 go_enter Tryz.func4, Tryz.ntmps4
 go_wp2_with fail
 refine (mFeature_v 0 0 30 40 50 0 0 1 5 _).mono ?_
 rintro e W1 ⟨r, c, hrad, ⟨⟨n1, os1⟩, rfl⟩, hor⟩
 obtain ⟨rfl, rfl⟩ := rad_h hrad
 obtain rfl : e = .returned (.tuple #[dv 1 0 0 4 5, .int .i64 0]) := by
  have h3 : dvOk 1 0 0 4 5 = true := by decide
  rcases hor with ⟨h, _⟩ | ⟨_, h, _⟩ | ⟨_, _, h⟩
  ·exact absurd rfl h
  ·rw [h3] at h; cases h
  ·exact h
 clear hrad hor
 dsimp only
 go_wp2_with (first | (go_at_call 10; with_reducible refine crv (k4.out _ gw) fun _ _ => ?_; dsimp only) | (go_at_call 9; with_reducible refine crv (k5.out _) fun _ _ => ?_; dsimp only) | (go_at_call 13; with_reducible refine crv (same_d 1 10 0 9 8 _) fun _ _ => ?_; dsimp only))
 go_ret
 exact Ret.mk' rfl gw
end Go.Proofs.YtpfpamopmncifaaGreat
