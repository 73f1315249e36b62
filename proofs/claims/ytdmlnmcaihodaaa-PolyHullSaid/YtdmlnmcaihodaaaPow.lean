/- Package poly: Box. -/
import Derived.Test.YtdmlnmcaihodaaaPov
import Derived.Test.YtdmlnmcaihodaaaPoh
import Derived.Test.YtdmlnmcaihodaaaSpa
namespace Go.Proofs.Ytdmlnmcaihodaaa
set_option linter.unusedVariables false
set_option linter.unusedSimpArgs false
open Go.RowKit Go.Sort
attribute [local go_sem] Steady steadyUpon
attribute [local go_sem ↓] hs_dr lt_add_r lt_add_r2 lt_add_r3 lt_add_r4 lt_add_r5 lt_add_r6
attribute [local go_sem] cell?_gd frozen?_gd setCell_gd size_grow tape_grow cell?_grow' frozen?_grow' setCell_grow' grow_grow grow_dr grow_drew dr_dr dr_drew drew_dr dr_alloc dr_setCell dr_cell dr_frozen dr_tape dr_drawn
attribute [local irreducible] wpSteady

def boxC (ps : List Pt) : B4 := (((selTo minS ps (ps.length - 1)).1, (selTo maxS ps (ps.length - 1)).1), ((selTo minY ps (ps.length - 1)).2, (selTo maxY ps (ps.length - 1)).2))
def boxOf (ps : List Pt) : B4 × Int := if PValid ps = true then (boxC ps, 0) else (((0, 0), (0, 0)), 1)
set_option maxRecDepth 100000 in
set_option maxHeartbeats 4000000 in
theorem Box_any (ps : List Pt) (A : Option Addr) (c : Nat) (w : World) (hr : Rd w w.heap.size 2 A (ps.map encD)) (hc : ps.length ≤ 100000000000000) :
    Calls Try.prog 23 #[.slice A ps.length c] w (Ret w (.tuple #[bxv (boxOf ps).1, .int .i64 (boxOf ps).2])) := by
  have hm := hmix
  unfold boxOf
  obtain ⟨v, hv⟩ : ∃ u, PValid ps = u := ⟨_, rfl⟩
  have k2 := hide (fun W (hg : Grew w W) => PValid_v ps A c v W (hr.up hg) hc hv)
  rw [hv]
  cases v
  · clear hv
    rw [if_neg (by simp)]
    go_enter Try.func23, Try.ntmps23
    go_wp2_with (go_at_call 18; (with_reducible refine (k2.out _ (by repeat (with_reducible first | exact Grew.refl _ | assumption | refine Grew.alloc ?_ _ | refine Grew.grow ?_ _ | refine Grew.dr ?_ _ | refine Grew.drewN ?_ _ | refine Grew.drew ?_ | refine Grew.trans ?_ (Hid.out (by assumption))))).mono ?_); rintro e w' ⟨rfl, ⟨_, _⟩, rfl⟩; dsimp only)
    refine bodyPost_ret (v := .tuple #[bxv ((0, 0), (0, 0)), .int .i64 1]) (by simp [results, Try.results23, go_sem]) rfl ?_
    exact Ret.mk' rfl (by repeat (with_reducible first | exact Grew.refl _ | assumption | refine Grew.alloc ?_ _ | refine Grew.grow ?_ _ | refine Grew.dr ?_ _ | refine Grew.drewN ?_ _ | refine Grew.drew ?_ | refine Grew.trans ?_ (Hid.out (by assumption))))
  · have hp := pv_parts hv
    have hl : 0 < ps.length := by omega
    have q1 := hide (fun W (hg : Grew w W) => minO_any ps A c W (hr.up hg) hl hc)
    have q2 := hide (fun W (hg : Grew w W) => maxO_any ps A c W (hr.up hg) hl hc)
    have q3 := hide (fun W (hg : Grew w W) => minY_any ps A c W (hr.up hg) hl hc)
    have q4 := hide (fun W (hg : Grew w W) => maxY_any ps A c W (hr.up hg) hl hc)
    rw [if_pos rfl]
    unfold boxC
    generalize selTo minS ps (ps.length - 1) = a at *
    generalize selTo maxS ps (ps.length - 1) = b at *
    generalize selTo minY ps (ps.length - 1) = d at *
    generalize selTo maxY ps (ps.length - 1) = e at *
    obtain ⟨a1, a2⟩ := a
    obtain ⟨b1, b2⟩ := b
    obtain ⟨d1, d2⟩ := d
    obtain ⟨e1, e2⟩ := e
    clear hp hv hr
    go_enter Try.func23, Try.ntmps23
    go_wp2_with (first | (go_at_call 18; (with_reducible refine (k2.out _ (by repeat (with_reducible first | exact Grew.refl _ | assumption | refine Grew.alloc ?_ _ | refine Grew.grow ?_ _ | refine Grew.dr ?_ _ | refine Grew.drewN ?_ _ | refine Grew.drew ?_ | refine Grew.trans ?_ (Hid.out (by assumption))))).mono ?_); rintro e w' ⟨rfl, ⟨_, _⟩, rfl⟩; dsimp only) | (go_at_call 54; (first | with_reducible refine (q1.out _ (by repeat (with_reducible first | exact Grew.refl _ | assumption | refine Grew.alloc ?_ _ | refine Grew.grow ?_ _ | refine Grew.dr ?_ _ | refine Grew.drewN ?_ _ | refine Grew.drew ?_ | refine Grew.trans ?_ (Hid.out (by assumption))))).mono ?_ | with_reducible refine (q3.out _ (by repeat (with_reducible first | exact Grew.refl _ | assumption | refine Grew.alloc ?_ _ | refine Grew.grow ?_ _ | refine Grew.dr ?_ _ | refine Grew.drewN ?_ _ | refine Grew.drew ?_ | refine Grew.trans ?_ (Hid.out (by assumption))))).mono ?_); rintro e w' ⟨rfl, ⟨_, _⟩, rfl⟩; dsimp only) | (go_at_call 55; (first | with_reducible refine (q2.out _ (by repeat (with_reducible first | exact Grew.refl _ | assumption | refine Grew.alloc ?_ _ | refine Grew.grow ?_ _ | refine Grew.dr ?_ _ | refine Grew.drewN ?_ _ | refine Grew.drew ?_ | refine Grew.trans ?_ (Hid.out (by assumption))))).mono ?_ | with_reducible refine (q4.out _ (by repeat (with_reducible first | exact Grew.refl _ | assumption | refine Grew.alloc ?_ _ | refine Grew.grow ?_ _ | refine Grew.dr ?_ _ | refine Grew.drewN ?_ _ | refine Grew.drew ?_ | refine Grew.trans ?_ (Hid.out (by assumption))))).mono ?_); rintro e w' ⟨rfl, ⟨_, _⟩, rfl⟩; dsimp only))
    refine bodyPost_ret (v := .tuple #[bxv ((a1, b1), (d2, e2)), .int .i64 0]) (by simp [results, Try.results23, go_sem]) rfl ?_
    exact Ret.mk' rfl (by repeat (with_reducible first | exact Grew.refl _ | assumption | refine Grew.alloc ?_ _ | refine Grew.grow ?_ _ | refine Grew.dr ?_ _ | refine Grew.drewN ?_ _ | refine Grew.drew ?_ | refine Grew.trans ?_ (Hid.out (by assumption))))
end Go.Proofs.Ytdmlnmcaihodaaa
