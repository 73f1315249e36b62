/- The law PolyHolds, walked. -/
import Derived.Test.YtdmlnmcaihodaaaPoz
import Derived.Test.YtdmlnmcaihodaaaJoN
namespace Go.Proofs.Ytdmlnmcaihodaaa
set_option linter.unusedVariables false
set_option linter.unusedSimpArgs false
open Go.RowKit Go.Sort
attribute [local go_sem] Steady steadyUpon
attribute [local go_sem ↓] hs_dr lt_add_r lt_add_r2 lt_add_r3 lt_add_r4 lt_add_r5 lt_add_r6
attribute [local go_sem] cell?_gd frozen?_gd setCell_gd size_grow tape_grow cell?_grow' frozen?_grow' setCell_grow' grow_grow grow_dr grow_drew dr_dr dr_drew drew_dr dr_alloc dr_setCell dr_cell dr_frozen dr_tape dr_drawn
attribute [local irreducible] wpSteady

/-- What the law asks, in plain words. -/
theorem holds_facts {ps qs rs : List Pt} {q : Pt} {x own t back y z sm : Bool} {e f i g k h a j b l m n o r : Int} (hx : pholdsOf ps qs = (x, e)) (hown : pholdsOf ps ps = (own, f)) (hi : inOf ps q = (i, g)) (hk : inOf qs q = (k, h)) (ha : areaOf ps = (a, j)) (hb : areaOf qs = (b, l)) (ht : ptouchOf ps qs = (t, m)) (hback : pholdsOf qs ps = (back, n)) (hy : pholdsOf qs rs = (y, o)) (hz : pholdsOf ps rs = (z, r)) (hsm : decide (ps = qs) = sm) :
    (x = false ∧ e = 1) ∨ (e = 0 ∧ f = 0 ∧ own = true ∧ (x = false ∨ (x = true ∧ j = 0 ∧ l = 0 ∧ m = 0 ∧ b ≤ a ∧ t = true ∧ (g ≠ 0 ∨ (g = 0 ∧ h ≠ 0) ∨ (g = 0 ∧ h = 0 ∧ k < 0) ∨ (g = 0 ∧ h = 0 ∧ ¬ k < 0 ∧ 0 ≤ i)) ∧ n = 0 ∧ back = sm ∧ (o ≠ 0 ∨ (o = 0 ∧ y = false) ∨ (o = 0 ∧ y = true ∧ r = 0 ∧ z = true))))) := by
  unfold pholdsOf at hx hown hback hy hz
  unfold ptouchOf at ht
  unfold areaOf at ha hb
  unfold inOf at hi hk
  by_cases hv : (PValid ps && PValid qs) = true
  · have hv2 := hv
    rw [if_pos hv] at hx ht
    rw [Bool.and_comm, if_pos hv] at hback
    simp only [Bool.and_eq_true] at hv
    obtain ⟨vp, vq⟩ := hv
    have pp := pv_poly vp
    have pq := pv_poly vq
    rw [vp] at hown
    rw [vp] at ha hi hz
    rw [vq] at hb hk hy
    injection hx with hx hx2
    injection ht with ht ht2
    injection hback with hback hback2
    injection hown with hown hown2
    injection ha with ha ha2
    injection hb with hb hb2
    have own1 : own = true := by rw [← hown]; exact (holds_sub pp pp).2 (Sub.refl _)
    refine .inr ⟨hx2.symm, hown2.symm, own1, ?_⟩
    cases hxv : x
    · exact .inl rfl
    · refine .inr ⟨rfl, ha2.symm, hb2.symm, ht2.symm, ?_⟩
      rw [hxv] at hx
      have hs := (holds_sub pp pq).1 hx
      have one : ∀ q, 0 ≤ placeOf qs q → 0 ≤ placeOf ps q := by
        intro q hq
        have := hs 1 (by omega) q
        rw [sc_one, sc_one] at this
        exact this hq
      refine ⟨?_, ?_, ?_, hback2.symm, ?_, ?_⟩
      · rw [← ha, ← hb]
        exact hs.area vp vq
      · have l1 := pp.len
        have l2 := pq.len
        have h0 : placeOf qs (cor qs 0) = 0 := on_in (i := 0) (by omega) (onB_left _ _)
        rw [← ht]
        exact touch_common (q := cor qs 0) (by omega) (by omega) (one _ (by omega)) (by omega)
      · by_cases g0 : g = 0
        · by_cases h0 : h = 0
          · by_cases k0 : k < 0
            · exact .inr (.inr (.inl ⟨g0, h0, k0⟩))
            · refine .inr (.inr (.inr ⟨g0, h0, k0, ?_⟩))
              cases hq : q.ok
              · rw [hq] at hi
                injection hi with _ hi2
                omega
              · rw [hq] at hi hk
                injection hi with hi1 _
                injection hk with hk1 _
                rw [← hi1]
                exact one q (by omega)
          · exact .inr (.inl ⟨g0, h0⟩)
        · exact .inl g0
      · rw [← hback, ← hsm]
        cases hb2 : pholds qs ps
        · rw [eq_comm, decide_eq_false_iff_not]
          intro e
          subst e
          rw [hx] at hb2
          cases hb2
        · rw [eq_comm, decide_eq_true_eq]
          exact sub_eq vp vq hs ((holds_sub pq pp).1 hb2)
      · by_cases vr : PValid rs = true
        · rw [vr] at hy hz
          injection hy with hy hy2
          injection hz with hz hz2
          cases hyv : y
          · exact .inr (.inl ⟨hy2.symm, rfl⟩)
          · refine .inr (.inr ⟨hy2.symm, rfl, hz2.symm, ?_⟩)
            rw [hyv] at hy
            have pr := pv_poly vr
            rw [← hz]
            exact (holds_sub pp pr).2 (hs.trans ((holds_sub pq pr).1 hy))
        · rw [Bool.not_eq_true] at vr
          rw [vr] at hy
          injection hy with hy hy2
          exact .inl (by omega)
  · rw [if_neg hv] at hx
    injection hx with hx hx2
    exact .inl ⟨hx.symm, hx2.symm⟩
set_option maxRecDepth 100000 in
set_option maxHeartbeats 16000000 in
theorem polyHolds_any (ps qs rs : List Pt) (A A' A2 : Option Addr) (c c' c2 : Nat) (a1 a2 : Int) (w : World) (hr : Rd w w.heap.size 2 A (ps.map encD)) (hc : ps.length ≤ 100000000000000) (hr' : Rd w w.heap.size 2 A' (qs.map encD)) (hc' : qs.length ≤ 100000000000000) (hr2 : Rd w w.heap.size 2 A2 (rs.map encD)) (hc2 : rs.length ≤ 100000000000000) :
    Calls Try.prog 8 #[.slice A ps.length c, .slice A' qs.length c', .slice A2 rs.length c2, pt a1 a2] w (Ret w (.bool true)) := by
  have hm := hmix
  obtain ⟨⟨x, e⟩, hx⟩ : ∃ d, pholdsOf ps qs = d := ⟨_, rfl⟩
  obtain ⟨⟨own, f⟩, hown⟩ : ∃ d, pholdsOf ps ps = d := ⟨_, rfl⟩
  obtain ⟨⟨i, g⟩, hi⟩ : ∃ d, inOf ps (a1, a2) = d := ⟨_, rfl⟩
  obtain ⟨⟨k, h⟩, hk⟩ : ∃ d, inOf qs (a1, a2) = d := ⟨_, rfl⟩
  obtain ⟨⟨a, j⟩, ha⟩ : ∃ d, areaOf ps = d := ⟨_, rfl⟩
  obtain ⟨⟨b, l⟩, hb⟩ : ∃ d, areaOf qs = d := ⟨_, rfl⟩
  obtain ⟨⟨t, m⟩, ht⟩ : ∃ d, ptouchOf ps qs = d := ⟨_, rfl⟩
  obtain ⟨⟨back, n⟩, hback⟩ : ∃ d, pholdsOf qs ps = d := ⟨_, rfl⟩
  obtain ⟨⟨y, o⟩, hy⟩ : ∃ d, pholdsOf qs rs = d := ⟨_, rfl⟩
  obtain ⟨⟨z, r⟩, hz⟩ : ∃ d, pholdsOf ps rs = d := ⟨_, rfl⟩
  obtain ⟨sm, hsm⟩ : ∃ d, decide (ps = qs) = d := ⟨_, rfl⟩
  have k1 := hide (fun W (hg : Grew w W) => Holds_v ps qs A A' c c' _ W (hr.up hg) (hr'.up hg) hc hc' hx)
  have k2 := hide (fun W (hg : Grew w W) => Holds_v ps ps A A c c _ W (hr.up hg) (hr.up hg) hc hc hown)
  have k3 := hide (fun W (hg : Grew w W) => In_v ps A c (a1, a2) _ W (hr.up hg) hc hi)
  have k4 := hide (fun W (hg : Grew w W) => In_v qs A' c' (a1, a2) _ W (hr'.up hg) hc' hk)
  have k5 := hide (fun W (hg : Grew w W) => Area_v ps A c _ W (hr.up hg) hc ha)
  have k6 := hide (fun W (hg : Grew w W) => Area_v qs A' c' _ W (hr'.up hg) hc' hb)
  have k7 := hide (fun W (hg : Grew w W) => Touch_v ps qs A A' c c' _ W (hr.up hg) (hr'.up hg) hc hc' ht)
  have k8 := hide (fun W (hg : Grew w W) => Holds_v qs ps A' A c' c _ W (hr'.up hg) (hr.up hg) hc' hc hback)
  have k9 := hide (fun W (hg : Grew w W) => Same_v ps qs A A' c c' _ W (hr.up hg) (hr'.up hg) hc hc' hsm)
  have k10 := hide (fun W (hg : Grew w W) => Holds_v qs rs A' A2 c' c2 _ W (hr'.up hg) (hr2.up hg) hc' hc2 hy)
  have k11 := hide (fun W (hg : Grew w W) => Holds_v ps rs A A2 c c2 _ W (hr.up hg) (hr2.up hg) hc hc2 hz)
  have hcase := holds_facts hx hown hi hk ha hb ht hback hy hz hsm
  clear hx hown hi hk ha hb ht hback hy hz hsm hr hr' hr2
  rcases hcase with ⟨rfl, rfl⟩ | ⟨rfl, rfl, rfl, rfl | ⟨rfl, rfl, rfl, rfl, hab, rfl, hin, rfl, rfl, hlast⟩⟩
  · go_enter Try.func8, Try.ntmps8
    go_wp2_with (first | (go_at_call 10; (with_reducible refine (head_v _).mono ?_); rintro e w' ⟨rfl, ⟨_, _⟩, rfl⟩; dsimp only) | ((go_at_call 21; first | with_reducible refine (k1.out _ (by repeat (with_reducible first | exact Grew.refl _ | assumption | refine Grew.alloc ?_ _ | refine Grew.grow ?_ _ | refine Grew.dr ?_ _ | refine Grew.drewN ?_ _ | refine Grew.drew ?_ | refine Grew.trans ?_ (Hid.out (by assumption))))).mono ?_ | with_reducible refine (k2.out _ (by repeat (with_reducible first | exact Grew.refl _ | assumption | refine Grew.alloc ?_ _ | refine Grew.grow ?_ _ | refine Grew.dr ?_ _ | refine Grew.drewN ?_ _ | refine Grew.drew ?_ | refine Grew.trans ?_ (Hid.out (by assumption))))).mono ?_); rintro e w' ⟨rfl, ⟨_, _⟩, rfl⟩; dsimp only))
    go_ret
    exact Ret.mk' rfl (by repeat (with_reducible first | exact Grew.refl _ | assumption | refine Grew.alloc ?_ _ | refine Grew.grow ?_ _ | refine Grew.dr ?_ _ | refine Grew.drewN ?_ _ | refine Grew.drew ?_ | refine Grew.trans ?_ (Hid.out (by assumption))))
  · go_enter Try.func8, Try.ntmps8
    go_wp2_with (first | (go_at_call 10; (with_reducible refine (head_v _).mono ?_); rintro e w' ⟨rfl, ⟨_, _⟩, rfl⟩; dsimp only) | ((go_at_call 21; first | with_reducible refine (k1.out _ (by repeat (with_reducible first | exact Grew.refl _ | assumption | refine Grew.alloc ?_ _ | refine Grew.grow ?_ _ | refine Grew.dr ?_ _ | refine Grew.drewN ?_ _ | refine Grew.drew ?_ | refine Grew.trans ?_ (Hid.out (by assumption))))).mono ?_ | with_reducible refine (k2.out _ (by repeat (with_reducible first | exact Grew.refl _ | assumption | refine Grew.alloc ?_ _ | refine Grew.grow ?_ _ | refine Grew.dr ?_ _ | refine Grew.drewN ?_ _ | refine Grew.drew ?_ | refine Grew.trans ?_ (Hid.out (by assumption))))).mono ?_); rintro e w' ⟨rfl, ⟨_, _⟩, rfl⟩; dsimp only))
    go_ret
    exact Ret.mk' rfl (by repeat (with_reducible first | exact Grew.refl _ | assumption | refine Grew.alloc ?_ _ | refine Grew.grow ?_ _ | refine Grew.dr ?_ _ | refine Grew.drewN ?_ _ | refine Grew.drew ?_ | refine Grew.trans ?_ (Hid.out (by assumption))))
  · have hab' : a ≥ b := hab
    rcases hin with h1 | ⟨rfl, h1⟩ | ⟨rfl, rfl, h1⟩ | ⟨rfl, rfl, h1, h2⟩ <;> rcases hlast with g1 | ⟨rfl, rfl⟩ | ⟨rfl, rfl, rfl, rfl⟩ <;> cases back
    all_goals
      go_enter Try.func8, Try.ntmps8
      go_wp2_with (first | (go_at_call 10; (with_reducible refine (head_v _).mono ?_); rintro e w' ⟨rfl, ⟨_, _⟩, rfl⟩; dsimp only) | ((go_at_call 21; first | with_reducible refine (k1.out _ (by repeat (with_reducible first | exact Grew.refl _ | assumption | refine Grew.alloc ?_ _ | refine Grew.grow ?_ _ | refine Grew.dr ?_ _ | refine Grew.drewN ?_ _ | refine Grew.drew ?_ | refine Grew.trans ?_ (Hid.out (by assumption))))).mono ?_ | with_reducible refine (k2.out _ (by repeat (with_reducible first | exact Grew.refl _ | assumption | refine Grew.alloc ?_ _ | refine Grew.grow ?_ _ | refine Grew.dr ?_ _ | refine Grew.drewN ?_ _ | refine Grew.drew ?_ | refine Grew.trans ?_ (Hid.out (by assumption))))).mono ?_ | with_reducible refine (k8.out _ (by repeat (with_reducible first | exact Grew.refl _ | assumption | refine Grew.alloc ?_ _ | refine Grew.grow ?_ _ | refine Grew.dr ?_ _ | refine Grew.drewN ?_ _ | refine Grew.drew ?_ | refine Grew.trans ?_ (Hid.out (by assumption))))).mono ?_ | with_reducible refine (k10.out _ (by repeat (with_reducible first | exact Grew.refl _ | assumption | refine Grew.alloc ?_ _ | refine Grew.grow ?_ _ | refine Grew.dr ?_ _ | refine Grew.drewN ?_ _ | refine Grew.drew ?_ | refine Grew.trans ?_ (Hid.out (by assumption))))).mono ?_ | with_reducible refine (k11.out _ (by repeat (with_reducible first | exact Grew.refl _ | assumption | refine Grew.alloc ?_ _ | refine Grew.grow ?_ _ | refine Grew.dr ?_ _ | refine Grew.drewN ?_ _ | refine Grew.drew ?_ | refine Grew.trans ?_ (Hid.out (by assumption))))).mono ?_); rintro e w' ⟨rfl, ⟨_, _⟩, rfl⟩; dsimp only) | ((go_at_call 12; first | with_reducible refine (k3.out _ (by repeat (with_reducible first | exact Grew.refl _ | assumption | refine Grew.alloc ?_ _ | refine Grew.grow ?_ _ | refine Grew.dr ?_ _ | refine Grew.drewN ?_ _ | refine Grew.drew ?_ | refine Grew.trans ?_ (Hid.out (by assumption))))).mono ?_ | with_reducible refine (k4.out _ (by repeat (with_reducible first | exact Grew.refl _ | assumption | refine Grew.alloc ?_ _ | refine Grew.grow ?_ _ | refine Grew.dr ?_ _ | refine Grew.drewN ?_ _ | refine Grew.drew ?_ | refine Grew.trans ?_ (Hid.out (by assumption))))).mono ?_); rintro e w' ⟨rfl, ⟨_, _⟩, rfl⟩; dsimp only) | ((go_at_call 11; first | with_reducible refine (k5.out _ (by repeat (with_reducible first | exact Grew.refl _ | assumption | refine Grew.alloc ?_ _ | refine Grew.grow ?_ _ | refine Grew.dr ?_ _ | refine Grew.drewN ?_ _ | refine Grew.drew ?_ | refine Grew.trans ?_ (Hid.out (by assumption))))).mono ?_ | with_reducible refine (k6.out _ (by repeat (with_reducible first | exact Grew.refl _ | assumption | refine Grew.alloc ?_ _ | refine Grew.grow ?_ _ | refine Grew.dr ?_ _ | refine Grew.drewN ?_ _ | refine Grew.drew ?_ | refine Grew.trans ?_ (Hid.out (by assumption))))).mono ?_); rintro e w' ⟨rfl, ⟨_, _⟩, rfl⟩; dsimp only) | (go_at_call 22; (with_reducible refine (k7.out _ (by repeat (with_reducible first | exact Grew.refl _ | assumption | refine Grew.alloc ?_ _ | refine Grew.grow ?_ _ | refine Grew.dr ?_ _ | refine Grew.drewN ?_ _ | refine Grew.drew ?_ | refine Grew.trans ?_ (Hid.out (by assumption))))).mono ?_); rintro e w' ⟨rfl, ⟨_, _⟩, rfl⟩; dsimp only) | (go_at_call 20; (with_reducible refine (k9.out _ (by repeat (with_reducible first | exact Grew.refl _ | assumption | refine Grew.alloc ?_ _ | refine Grew.grow ?_ _ | refine Grew.dr ?_ _ | refine Grew.drewN ?_ _ | refine Grew.drew ?_ | refine Grew.trans ?_ (Hid.out (by assumption))))).mono ?_); rintro e w' ⟨rfl, ⟨_, _⟩, rfl⟩; dsimp only))
      go_ret
      exact Ret.mk' (by simp) (by repeat (with_reducible first | exact Grew.refl _ | assumption | refine Grew.alloc ?_ _ | refine Grew.grow ?_ _ | refine Grew.dr ?_ _ | refine Grew.drewN ?_ _ | refine Grew.drew ?_ | refine Grew.trans ?_ (Hid.out (by assumption))))
theorem polyHolds_row (ps : List Pt) (A : Option Addr) (c : Nat) (qs : List Pt) (A' : Option Addr) (c' : Nat) (rs : List Pt) (A2 : Option Addr) (c2 : Nat) (a1 a2 : Int) (w : World) (hr : Rd w w.heap.size 2 A (ps.map encD)) (hc : ps.length ≤ 100000000000000) (hr' : Rd w w.heap.size 2 A' (qs.map encD)) (hc' : qs.length ≤ 100000000000000) (hr2 : Rd w w.heap.size 2 A2 (rs.map encD)) (hc2 : rs.length ≤ 100000000000000) :
    Calls Try.prog 8 #[.slice A ps.length c, .slice A' qs.length c', .slice A2 rs.length c2, pt a1 a2] w (Ret w (.bool true)) := polyHolds_any ps qs rs A A' A2 c c' c2 a1 a2 w hr hc hr' hc' hr2 hc2
end Go.Proofs.Ytdmlnmcaihodaaa
