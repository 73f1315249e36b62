/- Package poly: In, Area; the ways that a corner opens. -/
import Derived.Test.YtdmlnmcaihodaaaPog
namespace Go.Proofs.Ytdmlnmcaihodaaa
set_option linter.unusedVariables false
set_option linter.unusedSimpArgs false
open Go.RowKit Go.Sort
attribute [local go_sem] Steady steadyUpon
attribute [local go_sem ↓] hs_dr lt_add_r lt_add_r2 lt_add_r3 lt_add_r4 lt_add_r5 lt_add_r6
attribute [local go_sem] cell?_gd frozen?_gd setCell_gd size_grow tape_grow cell?_grow' frozen?_grow' setCell_grow' grow_grow grow_dr grow_drew dr_dr dr_drew drew_dr dr_alloc dr_setCell dr_cell dr_frozen dr_tape dr_drawn
attribute [local irreducible] wpSteady

theorem place_v (ps : List Pt) (A : Option Addr) (c : Nat) (q : Pt) (r : Int) (w : World) (hr : Rd w w.heap.size 2 A (ps.map encD)) (hl : ps.length ≤ 100) (hok : ps.all Pt.ok = true) (hq : q.ok = true) (h : placeOf ps q = r) :
    Calls Try.prog 29 #[.slice A ps.length c, pt q.1 q.2] w (Ret w (.int .i64 r)) := by
  have := place_any ps A c q w hr hl hok hq
  rwa [h] at this
def inOf (ps : List Pt) (q : Pt) : Int × Int := if (q.ok && PValid ps) = true then (placeOf ps q, 0) else (0, 1)
def areaOf (ps : List Pt) : Int × Int := if PValid ps = true then (twiceOf ps, 0) else (0, 1)
set_option maxHeartbeats 1600000 in
theorem In_any (ps : List Pt) (A : Option Addr) (c : Nat) (q : Pt) (w : World) (hr : Rd w w.heap.size 2 A (ps.map encD)) (hc : ps.length ≤ 100000000000000) :
    Calls Try.prog 12 #[pt q.1 q.2, .slice A ps.length c] w (Ret w (.tuple #[.int .i64 (inOf ps q).1, .int .i64 (inOf ps q).2])) := by
  have hm := hmix
  unfold inOf
  obtain ⟨u, hu⟩ : ∃ u, q.ok = u := ⟨_, rfl⟩
  obtain ⟨v, hv⟩ : ∃ u, PValid ps = u := ⟨_, rfl⟩
  obtain ⟨r, hr'⟩ : ∃ u, placeOf ps q = u := ⟨_, rfl⟩
  have k1 := hide (fun W => planeValid_v q.1 q.2 u W hu)
  have k2 := hide (fun W (hg : Grew w W) => PValid_v ps A c v W (hr.up hg) hc hv)
  rw [hu, hv, hr']
  cases u
  · clear hu hv hr'
    obtain ⟨x1, x2⟩ := q
    go_enter Try.func12, Try.ntmps12
    go_wp2_with (first | (go_at_call 28; (with_reducible refine (k1.out _).mono ?_); rintro e w' ⟨rfl, ⟨_, _⟩, rfl⟩; dsimp only) | (go_at_call 18; (with_reducible refine (k2.out _ (by repeat (with_reducible first | exact Grew.refl _ | assumption | refine Grew.alloc ?_ _ | refine Grew.grow ?_ _ | refine Grew.dr ?_ _ | refine Grew.drewN ?_ _ | refine Grew.drew ?_ | refine Grew.trans ?_ (Hid.out (by assumption))))).mono ?_); rintro e w' ⟨rfl, ⟨_, _⟩, rfl⟩; dsimp only))
    go_ret2
    exact Ret.mk' rfl (by repeat (with_reducible first | exact Grew.refl _ | assumption | refine Grew.alloc ?_ _ | refine Grew.grow ?_ _ | refine Grew.dr ?_ _ | refine Grew.drewN ?_ _ | refine Grew.drew ?_ | refine Grew.trans ?_ (Hid.out (by assumption))))
  · cases v
    · clear hu hv hr'
      obtain ⟨x1, x2⟩ := q
      go_enter Try.func12, Try.ntmps12
      go_wp2_with (first | (go_at_call 28; (with_reducible refine (k1.out _).mono ?_); rintro e w' ⟨rfl, ⟨_, _⟩, rfl⟩; dsimp only) | (go_at_call 18; (with_reducible refine (k2.out _ (by repeat (with_reducible first | exact Grew.refl _ | assumption | refine Grew.alloc ?_ _ | refine Grew.grow ?_ _ | refine Grew.dr ?_ _ | refine Grew.drewN ?_ _ | refine Grew.drew ?_ | refine Grew.trans ?_ (Hid.out (by assumption))))).mono ?_); rintro e w' ⟨rfl, ⟨_, _⟩, rfl⟩; dsimp only))
      go_ret2
      exact Ret.mk' rfl (by repeat (with_reducible first | exact Grew.refl _ | assumption | refine Grew.alloc ?_ _ | refine Grew.grow ?_ _ | refine Grew.dr ?_ _ | refine Grew.drewN ?_ _ | refine Grew.drew ?_ | refine Grew.trans ?_ (Hid.out (by assumption))))
    · have hp := pv_parts hv
      have k3 := hide (fun W (hg : Grew w W) => place_v ps A c q r W (hr.up hg) (by omega) hp.2 hu hr')
      clear hu hv hr' hp
      obtain ⟨x1, x2⟩ := q
      go_enter Try.func12, Try.ntmps12
      go_wp2_with (first | (go_at_call 28; (with_reducible refine (k1.out _).mono ?_); rintro e w' ⟨rfl, ⟨_, _⟩, rfl⟩; dsimp only) | (go_at_call 18; (with_reducible refine (k2.out _ (by repeat (with_reducible first | exact Grew.refl _ | assumption | refine Grew.alloc ?_ _ | refine Grew.grow ?_ _ | refine Grew.dr ?_ _ | refine Grew.drewN ?_ _ | refine Grew.drew ?_ | refine Grew.trans ?_ (Hid.out (by assumption))))).mono ?_); rintro e w' ⟨rfl, ⟨_, _⟩, rfl⟩; dsimp only) | (go_at_call 29; (with_reducible refine (k3.out _ (by repeat (with_reducible first | exact Grew.refl _ | assumption | refine Grew.alloc ?_ _ | refine Grew.grow ?_ _ | refine Grew.dr ?_ _ | refine Grew.drewN ?_ _ | refine Grew.drew ?_ | refine Grew.trans ?_ (Hid.out (by assumption))))).mono ?_); rintro e w' ⟨rfl, ⟨_, _⟩, rfl⟩; dsimp only))
      go_ret2
      exact Ret.mk' rfl (by repeat (with_reducible first | exact Grew.refl _ | assumption | refine Grew.alloc ?_ _ | refine Grew.grow ?_ _ | refine Grew.dr ?_ _ | refine Grew.drewN ?_ _ | refine Grew.drew ?_ | refine Grew.trans ?_ (Hid.out (by assumption))))
theorem In_v (ps : List Pt) (A : Option Addr) (c : Nat) (q : Pt) (r : Int × Int) (w : World) (hr : Rd w w.heap.size 2 A (ps.map encD)) (hc : ps.length ≤ 100000000000000) (h : inOf ps q = r) :
    Calls Try.prog 12 #[pt q.1 q.2, .slice A ps.length c] w (Ret w (.tuple #[.int .i64 r.1, .int .i64 r.2])) := by
  have := In_any ps A c q w hr hc
  rwa [h] at this
set_option maxHeartbeats 1600000 in
theorem Area_any (ps : List Pt) (A : Option Addr) (c : Nat) (w : World) (hr : Rd w w.heap.size 2 A (ps.map encD)) (hc : ps.length ≤ 100000000000000) :
    Calls Try.prog 11 #[.slice A ps.length c] w (Ret w (.tuple #[.int .i64 (areaOf ps).1, .int .i64 (areaOf ps).2])) := by
  have hm := hmix
  unfold areaOf
  obtain ⟨v, hv⟩ : ∃ u, PValid ps = u := ⟨_, rfl⟩
  obtain ⟨r, hr'⟩ : ∃ u, twiceOf ps = u := ⟨_, rfl⟩
  have k2 := hide (fun W (hg : Grew w W) => PValid_v ps A c v W (hr.up hg) hc hv)
  rw [hv, hr']
  cases v
  · clear hv hr'
    go_enter Try.func11, Try.ntmps11
    go_wp2_with (first | (go_at_call 18; (with_reducible refine (k2.out _ (by repeat (with_reducible first | exact Grew.refl _ | assumption | refine Grew.alloc ?_ _ | refine Grew.grow ?_ _ | refine Grew.dr ?_ _ | refine Grew.drewN ?_ _ | refine Grew.drew ?_ | refine Grew.trans ?_ (Hid.out (by assumption))))).mono ?_); rintro e w' ⟨rfl, ⟨_, _⟩, rfl⟩; dsimp only))
    go_ret2
    exact Ret.mk' rfl (by repeat (with_reducible first | exact Grew.refl _ | assumption | refine Grew.alloc ?_ _ | refine Grew.grow ?_ _ | refine Grew.dr ?_ _ | refine Grew.drewN ?_ _ | refine Grew.drew ?_ | refine Grew.trans ?_ (Hid.out (by assumption))))
  · have hp := pv_parts hv
    have k3 := hide (fun W (hg : Grew w W) => twice_v ps A c r W (hr.up hg) (by omega) hp.2 hr')
    clear hv hr' hp
    go_enter Try.func11, Try.ntmps11
    go_wp2_with (first | (go_at_call 18; (with_reducible refine (k2.out _ (by repeat (with_reducible first | exact Grew.refl _ | assumption | refine Grew.alloc ?_ _ | refine Grew.grow ?_ _ | refine Grew.dr ?_ _ | refine Grew.drewN ?_ _ | refine Grew.drew ?_ | refine Grew.trans ?_ (Hid.out (by assumption))))).mono ?_); rintro e w' ⟨rfl, ⟨_, _⟩, rfl⟩; dsimp only) | (go_at_call 27; (with_reducible refine (k3.out _ (by repeat (with_reducible first | exact Grew.refl _ | assumption | refine Grew.alloc ?_ _ | refine Grew.grow ?_ _ | refine Grew.dr ?_ _ | refine Grew.drewN ?_ _ | refine Grew.drew ?_ | refine Grew.trans ?_ (Hid.out (by assumption))))).mono ?_); rintro e w' ⟨rfl, ⟨_, _⟩, rfl⟩; dsimp only))
    go_ret2
    exact Ret.mk' rfl (by repeat (with_reducible first | exact Grew.refl _ | assumption | refine Grew.alloc ?_ _ | refine Grew.grow ?_ _ | refine Grew.dr ?_ _ | refine Grew.drewN ?_ _ | refine Grew.drew ?_ | refine Grew.trans ?_ (Hid.out (by assumption))))
theorem Area_v (ps : List Pt) (A : Option Addr) (c : Nat) (r : Int × Int) (w : World) (hr : Rd w w.heap.size 2 A (ps.map encD)) (hc : ps.length ≤ 100000000000000) (h : areaOf ps = r) :
    Calls Try.prog 11 #[.slice A ps.length c] w (Ret w (.tuple #[.int .i64 r.1, .int .i64 r.2])) := by
  have := Area_any ps A c w hr hc
  rwa [h] at this
end Go.Proofs.Ytdmlnmcaihodaaa
