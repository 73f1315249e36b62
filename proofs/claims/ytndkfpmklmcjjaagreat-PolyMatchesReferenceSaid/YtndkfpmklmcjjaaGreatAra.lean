/- Package poly: Area. -/
import Derived.Test.YtndkfpmklmcjjaaGreatPog
set_option linter.unusedSimpArgs false
set_option linter.unusedVariables false
set_option maxHeartbeats 1600000
namespace Go.Proofs.YtndkfpmklmcjjaaGreat
open Go.RowKit Go.Sort
attribute [local go_sem] Steady steadyUpon
attribute [local go_sem ↓] hs_dr lt_add_r lt_add_r2 lt_add_r3 lt_add_r4 lt_add_r5 lt_add_r6
attribute [local go_sem] cell?_gd frozen?_gd setCell_gd size_grow tape_grow cell?_grow' frozen?_grow' setCell_grow' grow_grow grow_dr grow_drew dr_dr dr_drew drew_dr dr_alloc dr_setCell dr_cell dr_frozen dr_tape dr_drawn
attribute [local irreducible] wpSteady
theorem Area_any (ps : List Pt) (A : Option Addr) (c : Nat) (w : World) (hr : Rd w w.heap.size 2 A (ps.map encD)) (hc : ps.length ≤ 100000000000000) :
  Calls Tryz.prog 9 #[.slice A ps.length c] w (Ret w (.tuple #[.int .i64 (areaOf ps).1, .int .i64 (areaOf ps).2])) := by
 have hm := hmix
 unfold areaOf
 obtain ⟨v, hv⟩ : ∃ u, PValid ps = u := ⟨_, rfl⟩
 obtain ⟨r, hr'⟩ : ∃ u, twiceOf ps = u := ⟨_, rfl⟩
 have k2 := hide (fun W (hg : Grew w W) => PValid_v ps A c v W (hr.up hg) hc hv)
 rw [hv, hr']
 cases v
 ·clear hv hr'
  go_enter Tryz.func9, Tryz.ntmps9
  go_wp2_with (first | (go_at_call 5; with_reducible refine crv (k2.out _ gw) fun _ _ => ?_; dsimp only))
  go_ret2
  exact Ret.mk' rfl gw
 ·have hp := pv_parts hv
  have k3 := hide (fun W (hg : Grew w W) => twice_v ps A c r W (hr.up hg) (by omega) hp.2 hr')
  clear hv hr' hp
  go_enter Tryz.func9, Tryz.ntmps9
  go_wp2_with (first | (go_at_call 5; with_reducible refine crv (k2.out _ gw) fun _ _ => ?_; dsimp only) | (go_at_call 32; with_reducible refine crv (k3.out _ gw) fun _ _ => ?_; dsimp only))
  go_ret2
  exact Ret.mk' rfl gw
theorem Area_v (ps : List Pt) (A : Option Addr) (c : Nat) (r : Int × Int) (w : World) (hr : Rd w w.heap.size 2 A (ps.map encD)) (hc : ps.length ≤ 100000000000000) (h : areaOf ps = r) :
  Calls Tryz.prog 9 #[.slice A ps.length c] w (Ret w (.tuple #[.int .i64 r.1, .int .i64 r.2])) := by
 have := Area_any ps A c w hr hc
 rwa [h] at this
end Go.Proofs.YtndkfpmklmcjjaaGreat
