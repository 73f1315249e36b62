/- Package plane: the functions with an error; package poly's turn and on. -/
import Derived.Test.YtdmlnmcaihodaaaPlc
namespace Go.Proofs.Ytdmlnmcaihodaaa
set_option linter.unusedVariables false
set_option linter.unusedSimpArgs false
open Go.RowKit Go.Sort
attribute [local go_sem] Steady steadyUpon
attribute [local go_sem ↓] hs_dr lt_add_r lt_add_r2 lt_add_r3 lt_add_r4 lt_add_r5 lt_add_r6
attribute [local go_sem] cell?_gd frozen?_gd setCell_gd size_grow tape_grow cell?_grow' frozen?_grow' setCell_grow' grow_grow grow_dr grow_drew dr_dr dr_drew drew_dr dr_alloc dr_setCell dr_cell dr_frozen dr_tape dr_drawn
attribute [local irreducible] wpSteady

theorem valids_v (ps : List Pt) (n : Nat) (A : Option Addr) (c : Nat) (r : Bool) (w : World) (hr : Rd w w.heap.size 2 A (ps.map encD)) (hn : ps.length = n) (hc : ps.length ≤ 1000000) (h : ps.all Pt.ok = r) :
    Calls Try.prog 30 #[.slice A n c] w (Ret w (.bool r)) := by
  subst hn
  have := valids_any ps A c w hr hc
  rwa [h] at this
set_option maxHeartbeats 1600000 in
theorem Turn_ok (a b c : Pt) (w : World) (ha : a.ok = true) (hb : b.ok = true) (hc : c.ok = true) :
    Calls Try.prog 72 #[pt a.1 a.2, pt b.1 b.2, pt c.1 c.2] w (Ret w (.tuple #[.int .i64 (tn a b c), .int .i64 0])) := by
  have hm := hmix
  have hall : [a, b, c].all Pt.ok = true := by simp only [List.all_cons, List.all_nil, ha, hb, hc, Bool.and_self]
  obtain ⟨t, ht⟩ : ∃ t, tn a b c = t := ⟨_, rfl⟩
  have k2 := hide (fun W => plTurn_v a b c t W ha hb hc ht)
  rw [ht]
  obtain ⟨a1, a2⟩ := a
  obtain ⟨b1, b2⟩ := b
  obtain ⟨c1, c2⟩ := c
  have HA := hide hall
  clear hall ht ha hb hc
  go_enter Try.func72, Try.ntmps72
  go_wp2_with fail
  refine (valids_v _ _ _ _ true _ (Rd.blkP _ (heap_alloc_at _ _ _ (by simp [hs_dr])) rfl) rfl (by simp) HA.out).mono ?_
  rintro e w' ⟨rfl, ⟨_, _⟩, rfl⟩
  dsimp only
  go_wp2_with (go_at_call 61; (with_reducible refine (k2.out _).mono ?_); rintro e w' ⟨rfl, ⟨_, _⟩, rfl⟩; dsimp only)
  go_ret2
  exact Ret.mk' rfl (by repeat (with_reducible first | exact Grew.refl _ | assumption | refine Grew.alloc ?_ _ | refine Grew.grow ?_ _ | refine Grew.dr ?_ _ | refine Grew.drewN ?_ _ | refine Grew.drew ?_ | refine Grew.trans ?_ (Hid.out (by assumption))))
set_option maxHeartbeats 1600000 in
theorem On_ok (p a b : Pt) (w : World) (hp : p.ok = true) (ha : a.ok = true) (hb : b.ok = true) :
    Calls Try.prog 13 #[pt p.1 p.2, pt a.1 a.2, pt b.1 b.2] w (Ret w (.tuple #[.bool (onB p a b), .int .i64 0])) := by
  have hm := hmix
  have hall : [p, a, b].all Pt.ok = true := by simp only [List.all_cons, List.all_nil, ha, hb, hp, Bool.and_self]
  obtain ⟨t, ht⟩ : ∃ t, onB p a b = t := ⟨_, rfl⟩
  have k2 := hide (fun W => plOn_v p a b t W hp ha hb ht)
  rw [ht]
  obtain ⟨a1, a2⟩ := a
  obtain ⟨b1, b2⟩ := b
  obtain ⟨c1, c2⟩ := p
  have HA := hide hall
  clear hall ht ha hb hp
  go_enter Try.func13, Try.ntmps13
  go_wp2_with fail
  refine (valids_v _ _ _ _ true _ (Rd.blkP _ (heap_alloc_at _ _ _ (by simp [hs_dr])) rfl) rfl (by simp) HA.out).mono ?_
  rintro e w' ⟨rfl, ⟨_, _⟩, rfl⟩
  dsimp only
  go_wp2_with (go_at_call 31; (with_reducible refine (k2.out _).mono ?_); rintro e w' ⟨rfl, ⟨_, _⟩, rfl⟩; dsimp only)
  go_ret2
  exact Ret.mk' rfl (by repeat (with_reducible first | exact Grew.refl _ | assumption | refine Grew.alloc ?_ _ | refine Grew.grow ?_ _ | refine Grew.dr ?_ _ | refine Grew.drewN ?_ _ | refine Grew.drew ?_ | refine Grew.trans ?_ (Hid.out (by assumption))))
set_option maxHeartbeats 1600000 in
theorem Meet_ok (a b c d : Pt) (w : World) (ha : a.ok = true) (hb : b.ok = true) (hc : c.ok = true) (hd : d.ok = true) :
    Calls Try.prog 14 #[pt a.1 a.2, pt b.1 b.2, pt c.1 c.2, pt d.1 d.2] w (Ret w (.tuple #[.bool (meetB a b c d), .int .i64 0])) := by
  have hm := hmix
  have hall : [a, b, c, d].all Pt.ok = true := by simp only [List.all_cons, List.all_nil, ha, hb, hc, hd, Bool.and_self]
  obtain ⟨t, ht⟩ : ∃ t, meetB a b c d = t := ⟨_, rfl⟩
  have k2 := hide (fun W => plMeet_v a b c d t W ha hb hc hd ht)
  rw [ht]
  obtain ⟨a1, a2⟩ := a
  obtain ⟨b1, b2⟩ := b
  obtain ⟨c1, c2⟩ := c
  obtain ⟨d1, d2⟩ := d
  have HA := hide hall
  clear hall ht ha hb hc hd
  go_enter Try.func14, Try.ntmps14
  go_wp2_with fail
  refine (valids_v _ _ _ _ true _ (Rd.blkP _ (heap_alloc_at _ _ _ (by simp [hs_dr])) rfl) rfl (by simp) HA.out).mono ?_
  rintro e w' ⟨rfl, ⟨_, _⟩, rfl⟩
  dsimp only
  go_wp2_with (go_at_call 32; (with_reducible refine (k2.out _).mono ?_); rintro e w' ⟨rfl, ⟨_, _⟩, rfl⟩; dsimp only)
  go_ret2
  exact Ret.mk' rfl (by repeat (with_reducible first | exact Grew.refl _ | assumption | refine Grew.alloc ?_ _ | refine Grew.grow ?_ _ | refine Grew.dr ?_ _ | refine Grew.drewN ?_ _ | refine Grew.drew ?_ | refine Grew.trans ?_ (Hid.out (by assumption))))
def nearOf (p a b : Pt) (d : Int) : Bool × Int := if (p.ok && (a.ok && (b.ok && distB d))) = true then (nearB p a b d, 0) else (false, 1)
theorem dist_bd {d : Int} (h : distB d = true) : 0 ≤ d ∧ d ≤ 3000000 := by simpa [distB] using h
set_option maxHeartbeats 1600000 in
theorem Near_any (p a b : Pt) (d : Int) (w : World) :
    Calls Try.prog 16 #[pt p.1 p.2, pt a.1 a.2, pt b.1 b.2, .int .i64 d] w (Ret w (.tuple #[.bool (nearOf p a b d).1, .int .i64 (nearOf p a b d).2])) := by
  have hm := hmix
  obtain ⟨v, hv⟩ : ∃ v, [p, a, b].all Pt.ok = v := ⟨_, rfl⟩
  obtain ⟨u, hu⟩ : ∃ u, distB d = u := ⟨_, rfl⟩
  have k1 := hide (fun W => distance_v d u W hu)
  have HV := hide hv
  cases v
  · have e : nearOf p a b d = (false, 1) := by
      unfold nearOf
      simp only [List.all_cons, List.all_nil, Bool.and_true] at hv
      rw [if_neg]
      intro h
      simp only [Bool.and_eq_true] at h
      rw [h.1, h.2.1, h.2.2.1] at hv
      cases hv
    rw [e]
    obtain ⟨a1, a2⟩ := a
    obtain ⟨b1, b2⟩ := b
    obtain ⟨c1, c2⟩ := p
    clear e hv hu
    go_enter Try.func16, Try.ntmps16
    go_wp2_with fail
    refine (valids_v _ _ _ _ false _ (Rd.blkP _ (heap_alloc_at _ _ _ (by simp [hs_dr])) rfl) rfl (by simp) HV.out).mono ?_
    rintro e w' ⟨rfl, ⟨_, _⟩, rfl⟩
    dsimp only
    go_wp2_with (go_at_call 35; (with_reducible refine (k1.out _).mono ?_); rintro e w' ⟨rfl, ⟨_, _⟩, rfl⟩; dsimp only)
    go_ret2
    exact Ret.mk' rfl (by repeat (with_reducible first | exact Grew.refl _ | assumption | refine Grew.alloc ?_ _ | refine Grew.grow ?_ _ | refine Grew.dr ?_ _ | refine Grew.drewN ?_ _ | refine Grew.drew ?_ | refine Grew.trans ?_ (Hid.out (by assumption))))
  · have hv3 := hv
    simp only [List.all_cons, List.all_nil, Bool.and_true, Bool.and_eq_true] at hv3
    cases u
    · have e : nearOf p a b d = (false, 1) := by
        unfold nearOf
        rw [hu, if_neg (by simp)]
      rw [e]
      obtain ⟨a1, a2⟩ := a
      obtain ⟨b1, b2⟩ := b
      obtain ⟨c1, c2⟩ := p
      clear e hv hu hv3
      go_enter Try.func16, Try.ntmps16
      go_wp2_with fail
      refine (valids_v _ _ _ _ true _ (Rd.blkP _ (heap_alloc_at _ _ _ (by simp [hs_dr])) rfl) rfl (by simp) HV.out).mono ?_
      rintro e w' ⟨rfl, ⟨_, _⟩, rfl⟩
      dsimp only
      go_wp2_with (go_at_call 35; (with_reducible refine (k1.out _).mono ?_); rintro e w' ⟨rfl, ⟨_, _⟩, rfl⟩; dsimp only)
      go_ret2
      exact Ret.mk' rfl (by repeat (with_reducible first | exact Grew.refl _ | assumption | refine Grew.alloc ?_ _ | refine Grew.grow ?_ _ | refine Grew.dr ?_ _ | refine Grew.drewN ?_ _ | refine Grew.drew ?_ | refine Grew.trans ?_ (Hid.out (by assumption))))
    · have e : nearOf p a b d = (nearB p a b d, 0) := by
        unfold nearOf
        rw [hu, hv3.1, hv3.2.1, hv3.2.2, if_pos (by rfl)]
      obtain ⟨r, hr⟩ : ∃ r, nearB p a b d = r := ⟨_, rfl⟩
      have k2 := hide (fun W => near_v p a b d r W hv3.1 hv3.2.1 hv3.2.2 (dist_bd hu) hr)
      rw [e, hr]
      obtain ⟨a1, a2⟩ := a
      obtain ⟨b1, b2⟩ := b
      obtain ⟨c1, c2⟩ := p
      clear e hv hu hv3 hr
      go_enter Try.func16, Try.ntmps16
      go_wp2_with fail
      refine (valids_v _ _ _ _ true _ (Rd.blkP _ (heap_alloc_at _ _ _ (by simp [hs_dr])) rfl) rfl (by simp) HV.out).mono ?_
      rintro e w' ⟨rfl, ⟨_, _⟩, rfl⟩
      dsimp only
      go_wp2_with (first | (go_at_call 35; (with_reducible refine (k1.out _).mono ?_); rintro e w' ⟨rfl, ⟨_, _⟩, rfl⟩; dsimp only) | (go_at_call 36; (with_reducible refine (k2.out _).mono ?_); rintro e w' ⟨rfl, ⟨_, _⟩, rfl⟩; dsimp only))
      go_ret2
      exact Ret.mk' rfl (by repeat (with_reducible first | exact Grew.refl _ | assumption | refine Grew.alloc ?_ _ | refine Grew.grow ?_ _ | refine Grew.dr ?_ _ | refine Grew.drewN ?_ _ | refine Grew.drew ?_ | refine Grew.trans ?_ (Hid.out (by assumption))))
set_option maxHeartbeats 1600000 in
theorem Apart_ok (p a b : Pt) (d : Int) (w : World) (hp : p.ok = true) (ha : a.ok = true) (hb : b.ok = true) (hd : 0 ≤ d ∧ d ≤ 3000000) :
    Calls Try.prog 34 #[pt p.1 p.2, pt a.1 a.2, pt b.1 b.2, .int .i64 d] w (Ret w (.tuple #[.bool (apartB p a b d), .int .i64 0])) := by
  have hm := hmix
  have hall : [p, a, b].all Pt.ok = true := by simp only [List.all_cons, List.all_nil, ha, hb, hp, Bool.and_self]
  have hu : distB d = true := by simpa [distB] using hd
  have k1 := hide (fun W => distance_v d true W hu)
  have hbd := sqr_bd hp ha hb
  unfold apartB
  obtain ⟨⟨x, y, z⟩, hq⟩ : ∃ q, sqr p a b = q := ⟨_, rfl⟩
  rw [hq] at hbd ⊢
  dsimp only at hbd ⊢
  obtain ⟨r, hr⟩ : ∃ r, decide (d * d * z ≤ x * y) = r := ⟨_, rfl⟩
  rw [hr]
  have hdd := sq_bd hd
  have k2 := hide (fun W => square_v p a b _ W hp ha hb hq)
  have k3 := hide (fun W => most_v (d * d) z x y r W (by omega) (by omega) (by omega) (by omega) hr)
  obtain ⟨p1, p2⟩ := p
  obtain ⟨a1, a2⟩ := a
  obtain ⟨b1, b2⟩ := b
  have HV := hide hall
  clear hq hr hp ha hb hbd hall hu
  go_enter Try.func34, Try.ntmps34
  go_wp2_with fail
  refine (valids_v _ _ _ _ true _ (Rd.blkP _ (heap_alloc_at _ _ _ (by simp [hs_dr])) rfl) rfl (by simp) HV.out).mono ?_
  rintro e w' ⟨rfl, ⟨_, _⟩, rfl⟩
  dsimp only
  go_wp2_with (first | (go_at_call 35; (with_reducible refine (k1.out _).mono ?_); rintro e w' ⟨rfl, ⟨_, _⟩, rfl⟩; dsimp only) | (go_at_call 63; (with_reducible refine (k2.out _).mono ?_); rintro e w' ⟨rfl, ⟨_, _⟩, rfl⟩; dsimp only) | (go_at_call 64; (with_reducible refine (k3.out _).mono ?_); rintro e w' ⟨rfl, ⟨_, _⟩, rfl⟩; dsimp only))
  go_ret2
  exact Ret.mk' rfl (by repeat (with_reducible first | exact Grew.refl _ | assumption | refine Grew.alloc ?_ _ | refine Grew.grow ?_ _ | refine Grew.dr ?_ _ | refine Grew.drewN ?_ _ | refine Grew.drew ?_ | refine Grew.trans ?_ (Hid.out (by assumption))))

set_option maxHeartbeats 400000 in
theorem turn_v (a b c : Pt) (t : Int) (w : World) (ha : a.ok = true) (hb : b.ok = true) (hc : c.ok = true) (h : tn a b c = t) :
    Calls Try.prog 48 #[pt a.1 a.2, pt b.1 b.2, pt c.1 c.2] w (Ret w (.int .i64 t)) := by
  have k1 := hide (fun W => Turn_ok a b c W ha hb hc)
  rw [h] at k1
  obtain ⟨a1, a2⟩ := a
  obtain ⟨b1, b2⟩ := b
  obtain ⟨c1, c2⟩ := c
  clear h ha hb hc
  go_enter Try.func48, Try.ntmps48
  go_wp2_with (go_at_call 72; (with_reducible refine (k1.out _).mono ?_); rintro e w' ⟨rfl, ⟨_, _⟩, rfl⟩; dsimp only)
  go_ret
  exact Ret.mk' rfl (by repeat (with_reducible first | exact Grew.refl _ | assumption | refine Grew.alloc ?_ _ | refine Grew.grow ?_ _ | refine Grew.dr ?_ _ | refine Grew.drewN ?_ _ | refine Grew.drew ?_ | refine Grew.trans ?_ (Hid.out (by assumption))))
set_option maxHeartbeats 400000 in
theorem on_v (p a b : Pt) (r : Bool) (w : World) (hp : p.ok = true) (ha : a.ok = true) (hb : b.ok = true) (h : onB p a b = r) :
    Calls Try.prog 60 #[pt p.1 p.2, pt a.1 a.2, pt b.1 b.2] w (Ret w (.bool r)) := by
  have k1 := hide (fun W => On_ok p a b W hp ha hb)
  rw [h] at k1
  obtain ⟨a1, a2⟩ := a
  obtain ⟨b1, b2⟩ := b
  obtain ⟨c1, c2⟩ := p
  clear h hp ha hb
  go_enter Try.func60, Try.ntmps60
  go_wp2_with (go_at_call 13; (with_reducible refine (k1.out _).mono ?_); rintro e w' ⟨rfl, ⟨_, _⟩, rfl⟩; dsimp only)
  go_ret
  exact Ret.mk' rfl (by repeat (with_reducible first | exact Grew.refl _ | assumption | refine Grew.alloc ?_ _ | refine Grew.grow ?_ _ | refine Grew.dr ?_ _ | refine Grew.drewN ?_ _ | refine Grew.drew ?_ | refine Grew.trans ?_ (Hid.out (by assumption))))
end Go.Proofs.Ytdmlnmcaihodaaa
