/- The reference of polygons: Area, Touch. -/
import Derived.Test.YtndkfpmklmcjjaaGreatRkB
import Derived.Test.YtndkfpmklmcjjaaGreatRfB
set_option linter.unusedSimpArgs false
set_option linter.unusedVariables false
set_option maxHeartbeats 8000000
set_option maxRecDepth 100000
namespace Go.Proofs.YtndkfpmklmcjjaaGreat
open Go.RowKit Go.Sort
attribute [local go_sem] Steady steadyUpon
attribute [local go_sem ↓] hs_dr lt_add_r lt_add_r2 lt_add_r3 lt_add_r4 lt_add_r5 lt_add_r6
attribute [local go_sem] cell?_gd frozen?_gd setCell_gd size_grow tape_grow cell?_grow' frozen?_grow' setCell_grow' grow_grow grow_dr grow_drew dr_dr dr_drew drew_dr dr_alloc dr_setCell dr_cell dr_frozen dr_tape dr_drawn
attribute [local irreducible] wpSteady
theorem p3Area_v (ps : List Pt) (A : Option Addr) (c : Nat) (r : Int × Int) (w : World) (hr : Rd w w.heap.size 2 A (ps.map encD)) (hc : ps.length ≤ 100000000000000) (h : areaOf ps = r) :
  Calls Tryz.prog 10 #[.slice A ps.length c] w (Ret w (.tuple #[.int .i64 r.1, .int .i64 r.2])) := by
 have hm := hmix
 obtain ⟨v, hv⟩ : ∃ v, PValid ps = v := ⟨_, rfl⟩
 obtain ⟨t, ht⟩ : ∃ t, twiceOf ps = t := ⟨_, rfl⟩
 have k1 := hide (fun W (hg : Grew w W) => p3Valid_v ps A c v W (hr.up hg) hc hv)
 have k2 := hide (fun W (hg : Grew w W) (e : v = true) => p3twice_v ps A c t W (hr.up hg) (by have := (pv_parts (hv.trans e)).1; omega) (pv_parts (hv.trans e)).2 ht)
 unfold areaOf at h
 rw [hv, ht] at h
 clear hr hv ht
 cases v
 ·rw [if_neg (by simp)] at h
  subst h
  clear k2
  go_enter Tryz.func10, Tryz.ntmps10
  go_wp2_with (go_at_call 6; with_reducible refine crv (k1.out _ gw) fun _ _ => ?_; dsimp only)
  go_ret2
  exact Ret.mk' rfl gw
 ·rw [if_pos rfl] at h
  subst h
  have k3 := hide (fun W (hg : Grew w W) => k2.out W hg rfl)
  clear k2
  go_enter Tryz.func10, Tryz.ntmps10
  go_wp2_with (first | (go_at_call 6; with_reducible refine crv (k1.out _ gw) fun _ _ => ?_; dsimp only) | (go_at_call 38; with_reducible refine crv (k3.out _ gw) fun _ _ => ?_; dsimp only))
  go_ret2
  exact Ret.mk' rfl gw
theorem meet_ofR {a b c d z : Pt} (h1 : onB z a b = true) (h2 : onB z c d = true) : meetB a b c d = true := by
 cases h : meetB a b c d
 ·exfalso
  obtain ⟨α, β, γ, x1, x2, x3, x4⟩ := sep_of h
  have := ev_on_neg h1 x1 x2
  have := ev_on_pos h2 x3 x4
  omega
 ·rfl
theorem touch_no {ps qs : List Pt} (h : touchAny ps qs = false) {i k : Nat} (hi : i < ps.length) (hk : k < qs.length) : meetE ps qs i k = false := by
 unfold touchAny at h
 rw [List.any_eq_false] at h
 have := h i (List.mem_range.2 hi)
 rw [Bool.not_eq_true] at this
 unfold touchE at this
 rw [List.any_eq_false] at this
 simpa using this k (List.mem_range.2 hk)
theorem touch_yes {ps qs : List Pt} {i k : Nat} (hi : i < ps.length) (hk : k < qs.length) (h : meetE ps qs i k = true) : touchAny ps qs = true := by
 unfold touchAny
 rw [List.any_eq_true]
 refine ⟨i, List.mem_range.2 hi, ?_⟩
 unfold touchE
 rw [List.any_eq_true]
 exact ⟨k, List.mem_range.2 hk, h⟩
/-- A corner of one polygon that lies on the border of the other one: edges meet. -/
theorem place_off1 {ps qs : List Pt} (hp : 0 < ps.length) (h : touchAny ps qs = false) : placeOf qs (cor ps 0) = 1 ∨ placeOf qs (cor ps 0) = -1 := by
 rcases place_cases qs (cor ps 0) with ⟨e, _⟩ | ⟨_, _, e⟩ | ⟨_, _, e⟩
 ·exfalso
  unfold onAny at e
  rw [List.any_eq_true] at e
  obtain ⟨k, hk, hon⟩ := e
  have h1 := touch_no h hp (List.mem_range.1 hk)
  unfold meetE at h1
  rw [meet_ofR (onB_left _ _) hon] at h1
  cases h1
 ·exact .inl e
 ·exact .inr e
theorem place_off2 {ps qs : List Pt} (hq : 0 < qs.length) (h : touchAny ps qs = false) : placeOf ps (cor qs 0) = 1 ∨ placeOf ps (cor qs 0) = -1 := by
 rcases place_cases ps (cor qs 0) with ⟨e, _⟩ | ⟨_, _, e⟩ | ⟨_, _, e⟩
 ·exfalso
  unfold onAny at e
  rw [List.any_eq_true] at e
  obtain ⟨k, hk, hon⟩ := e
  have h1 := touch_no h (List.mem_range.1 hk) hq
  unfold meetE at h1
  rw [meet_ofR hon (onB_left _ _)] at h1
  cases h1
 ·exact .inl e
 ·exact .inr e
theorem any_succ {f : Nat → Bool} {m : Nat} (h1 : (List.range m).any f = false) (h2 : f m = false) : (List.range (m + 1)).any f = false := by
 rw [List.range_succ, List.any_append, h1]
 simp [h2]
theorem p3Touch_v (ps qs : List Pt) (A B : Option Addr) (c d : Nat) (r : Bool × Int) (w : World) (hr : Rd w w.heap.size 2 A (ps.map encD)) (hq : Rd w w.heap.size 2 B (qs.map encD)) (hc : ps.length ≤ 100000000000000) (hd : qs.length ≤ 100000000000000) (h : ptouchOf ps qs = r) :
  Calls Tryz.prog 12 #[.slice A ps.length c, .slice B qs.length d] w (Ret w (.tuple #[.bool r.1, .int .i64 r.2])) := by
 have hm := hmix
 obtain ⟨u, hu⟩ : ∃ v, PValid ps = v := ⟨_, rfl⟩
 obtain ⟨v, hv⟩ : ∃ v, PValid qs = v := ⟨_, rfl⟩
 have k1 := hide (fun W (hg : Grew w W) => p3Valid_v ps A c u W (hr.up hg) hc hu)
 have k2 := hide (fun W (hg : Grew w W) => p3Valid_v qs B d v W (hq.up hg) hd hv)
 unfold ptouchOf at h
 rw [hu, hv] at h
 have HR := hide hr
 have HQ := hide hq
 have hcase : u = false ∨ (u = true ∧ v = false) ∨ (u = true ∧ v = true) := by cases u <;> cases v <;> simp
 rcases hcase with rfl | ⟨rfl, rfl⟩ | ⟨rfl, rfl⟩
 ·rw [if_neg (by simp)] at h
  subst h
  clear hr hq hu hv
  go_enter Tryz.func12, Tryz.ntmps12
  go_wp2_with (first | (go_at_call 6; with_reducible refine crv (k1.out _ gw) fun _ _ => ?_; dsimp only) | (go_at_call 6; with_reducible refine crv (k2.out _ gw) fun _ _ => ?_; dsimp only))
  go_ret2
  exact Ret.mk' rfl gw
 ·rw [if_neg (by simp)] at h
  subst h
  clear hr hq hu hv
  go_enter Tryz.func12, Tryz.ntmps12
  go_wp2_with (first | (go_at_call 6; with_reducible refine crv (k1.out _ gw) fun _ _ => ?_; dsimp only) | (go_at_call 6; with_reducible refine crv (k2.out _ gw) fun _ _ => ?_; dsimp only))
  go_ret2
  exact Ret.mk' rfl gw
 ·rw [if_pos (by rfl)] at h
  have HRES := hide h
  have HU := hide hu
  have HV := hide hv
  have hpl := (pv_parts hu).1
  have hql := (pv_parts hv).1
  have HOK := hide (pv_parts hu).2
  have HOQ := hide (pv_parts hv).2
  clear hr hq hu hv h
  go_enter Tryz.func12, Tryz.ntmps12
  go_wp2_with (first | (go_at_call 6; with_reducible refine crv (k1.out _ gw) fun _ _ => ?_; dsimp only) | (go_at_call 6; with_reducible refine crv (k2.out _ gw) fun _ _ => ?_; dsimp only))
  refine wp_name ?_
  intro W0 hW
  have HG0 : Hid (Grew w W0) := hide (by rw [← hW]; exact gw)
  clear hW k1 k2
  go_loopw [8] (fun i wr => ∃ m : Nat, m ≤ ps.length ∧ i = .int .i64 m ∧ Grew W0 wr ∧ AppG ((List.range m).any (touchE ps qs) = false)) (fun i _ => ps.length - (intOf i).toNat)
  case atStart => exact ⟨0, by omega, rfl, gw, show (List.range 0).any _ = false from rfl⟩
  case round =>
   obtain ⟨m, hmm, rfl, hg, hall⟩ := hrel
   have HG := hide hg
   have HA := hide hall.stop
   clear hg hall
   obtain ⟨Wz, hz⟩ : ∃ z, z = wr := ⟨wr, rfl⟩
   subst hz
   by_cases hlt : m < ps.length
   ·go_wp2_with fail
    go_loopw [9] (fun k wr => ∃ q : Nat, q ≤ qs.length ∧ k = .int .i64 q ∧ Grew Wz wr ∧ AppG ((List.range q).any (meetE ps qs m) = false)) (fun k _ => qs.length - (intOf k).toNat)
    case atStart => exact ⟨0, by omega, rfl, gw, show (List.range 0).any _ = false from rfl⟩
    case round =>
     obtain ⟨q, hq2, rfl, hg, hall⟩ := hrel
     have HG2 := hide hg
     have HA2 := hide hall.stop
     clear hg hall
     by_cases hlt2 : q < qs.length
     ·obtain ⟨a, ha⟩ : ∃ a, cor ps m = a := ⟨_, rfl⟩
      obtain ⟨b, hb⟩ : ∃ a, cor ps (m + 1) = a := ⟨_, rfl⟩
      obtain ⟨d', hd'⟩ : ∃ a, cor qs q = a := ⟨_, rfl⟩
      obtain ⟨e, he⟩ : ∃ a, cor qs (q + 1) = a := ⟨_, rfl⟩
      have oka : a.ok = true := by rw [← ha]; exact cor_ok HOK.out _
      have okb : b.ok = true := by rw [← hb]; exact cor_ok HOK.out _
      have okd : d'.ok = true := by rw [← hd']; exact cor_ok HOQ.out _
      have oke : e.ok = true := by rw [← he]; exact cor_ok HOQ.out _
      have hme : meetE ps qs m q = meetB a b d' e := by unfold meetE; rw [ha, hb, hd', he]
      have hpm := cor_get hlt
      have hpq := cor_get hlt2
      rw [ha] at hpm
      rw [hd'] at hpq
      obtain ⟨b1, off1, hA1, hb1, g0, g1⟩ := ptAt (HR.out.up (HG0.out.trans (HG.out.trans HG2.out))) hpm
      obtain ⟨b2, off2, hA2, hb2, g2, g3⟩ := ptAt (HQ.out.up (HG0.out.trans (HG.out.trans HG2.out))) hpq
      have hix1 := idx_run (cap := c) Tryz.underlying22 Tryz.sizeOf24 hA1.out hlt
      have hix2 := idx_run (cap := d) Tryz.underlying22 Tryz.sizeOf24 hA2.out hlt2
      have kn1 := hide (fun W (hg : Grew w W) => Next_v ps A c m b W (HR.out.up hg) (by omega) hlt hb)
      have kn2 := hide (fun W (hg : Grew w W) => Next_v qs B d q e W (HQ.out.up hg) (by omega) hlt2 he)
      obtain ⟨v, hv⟩ : ∃ v, meetB a b d' e = v := ⟨_, rfl⟩
      have kc := hide (fun W => p1Crosses_v a b d' e v W oka okb okd oke hv)
      rw [hv] at hme
      have HME := hide hme
      obtain ⟨a1, a2⟩ := a
      obtain ⟨b1', b2'⟩ := b
      obtain ⟨d1, d2⟩ := d'
      obtain ⟨e1, e2⟩ := e
      dsimp only at g0 g1 g2 g3 kn1 kn2 kc
      clear ha hb hd' he oka okb okd oke hme hpm hpq hA1 hA2 hv
      cases v
      ·skip
       go_wp2_with fail
       refine wp_region_qas 15 [] [] hm (h := ?_)
       repeat (refine wpSteady_step (fun K hK => ?_); go_simp; first | (refine hK _ ?_; clear hK K) | (apply Exists.intro; refine ⟨fun _ => ?_, hK _ ?_⟩; (first | (go_at_call 36; first | with_reducible exact kn1.out _ (HG0.out.trans (HG.out.trans (HG2.out.trans gw))) | with_reducible exact kn2.out _ (HG0.out.trans (HG.out.trans (HG2.out.trans gw)))) | (go_at_call 43; with_reducible exact kc.out _)); clear hK K))
       refine rq0 fun nq osq => ?_
       try simp only [Act.put, setA]
       try dsimp only
       go_wp2_with fail
       go_roundw
       case rel => exact ⟨q + 1, by omega, by go_num, HG2.out.trans gw, show (List.range (q + 1)).any (meetE ps qs m) = false from any_succ HA2.out HME.out⟩
       case measure => simp [intOf]; omega
      ·have hrr : r = (true, 0) := by
        rw [← HRES.out]
        unfold ptouch
        rw [touch_yes hlt hlt2 HME.out]
        rfl
       subst hrr
       clear HRES
       go_wp2_with fail
       refine wp_region_qas 15 [] [] hm (h := ?_)
       repeat (refine wpSteady_step (fun K hK => ?_); go_simp; first | (refine hK _ ?_; clear hK K) | (apply Exists.intro; refine ⟨fun _ => ?_, hK _ ?_⟩; (first | (go_at_call 36; first | with_reducible exact kn1.out _ (HG0.out.trans (HG.out.trans (HG2.out.trans gw))) | with_reducible exact kn2.out _ (HG0.out.trans (HG.out.trans (HG2.out.trans gw)))) | (go_at_call 43; with_reducible exact kc.out _)); clear hK K))
       refine rq0 fun nq osq => ?_
       try simp only [Act.put, setA]
       try dsimp only
       go_wp2_with fail
       go_ret2
       exact Ret.mk' rfl (HG0.out.trans (HG.out.trans (HG2.out.trans gw)))
     ·obtain rfl : q = qs.length := by omega
      have HROW := hide (show touchE ps qs m = false from HA2.out)
      go_wp2_with fail
      go_roundw
      case rel => exact ⟨m + 1, by omega, by go_num, HG.out.trans (HG2.out.trans gw), show (List.range (m + 1)).any (touchE ps qs) = false from any_succ HA.out HROW.out⟩
      case measure => simp [intOf]; omega
   ·obtain rfl : m = ps.length := by omega
    have hta : touchAny ps qs = false := HA.out
    have hp0 : 0 < ps.length := by omega
    have hq0 : 0 < qs.length := by omega
    have o1 := place_off1 hp0 hta
    have o2 := place_off2 hq0 hta
    have hres := HRES.out
    unfold ptouch at hres
    rw [hta, Bool.false_or] at hres
    obtain ⟨x, hx⟩ : ∃ x, placeOf qs (cor ps 0) = x := ⟨_, rfl⟩
    obtain ⟨y, hy⟩ : ∃ x, placeOf ps (cor qs 0) = x := ⟨_, rfl⟩
    have kx := hide (fun W (hg : Grew w W) => p3Place_v qs B d (cor ps 0) x W (HQ.out.up hg) HV.out (cor_ok HOK.out _) hx)
    have ky := hide (fun W (hg : Grew w W) => p3Place_v ps A c (cor qs 0) y W (HR.out.up hg) HU.out (cor_ok HOQ.out _) hy)
    rw [hx] at o1 hres
    rw [hy] at o2 hres
    obtain ⟨b1, off1, hA1, hb1, g0, g1⟩ := ptAt (HR.out.up (HG0.out.trans HG.out)) (cor_get hp0)
    obtain ⟨b2, off2, hA2, hb2, g2, g3⟩ := ptAt (HQ.out.up (HG0.out.trans HG.out)) (cor_get hq0)
    rw [show off1 + 0 * 2 = off1 by omega] at g0 g1
    rw [show off2 + 0 * 2 = off2 by omega] at g2 g3
    have hix1 := idx_run0 (cap := c) Tryz.underlying22 Tryz.sizeOf24 hA1.out hp0
    have hix2 := idx_run0 (cap := d) Tryz.underlying22 Tryz.sizeOf24 hA2.out hq0
    obtain ⟨a, ha⟩ : ∃ a, cor ps 0 = a := ⟨_, rfl⟩
    obtain ⟨b, hb⟩ : ∃ a, cor qs 0 = a := ⟨_, rfl⟩
    rw [ha] at g0 g1 kx
    rw [hb] at g2 g3 ky
    obtain ⟨a1, a2⟩ := a
    obtain ⟨b1', b2'⟩ := b
    dsimp only at g0 g1 g2 g3 kx ky
    clear HRES hx hy hA1 hA2 ha hb hta HA
    subst hres
    rcases o1 with rfl | rfl
    ·go_wp2_with (first | (go_at_call 40; with_reducible refine crv (kx.out _ (HG0.out.trans (HG.out.trans gw))) fun _ _ => ?_; dsimp only) | (go_at_call 40; with_reducible refine crv (ky.out _ (HG0.out.trans (HG.out.trans gw))) fun _ _ => ?_; dsimp only))
     go_ret2
     exact Ret.mk' (by simp) (HG0.out.trans (HG.out.trans gw))
    ·rcases o2 with rfl | rfl
     all_goals
      go_wp2_with (first | (go_at_call 40; with_reducible refine crv (kx.out _ (HG0.out.trans (HG.out.trans gw))) fun _ _ => ?_; dsimp only) | (go_at_call 40; with_reducible refine crv (ky.out _ (HG0.out.trans (HG.out.trans gw))) fun _ _ => ?_; dsimp only))
      go_ret2
      exact Ret.mk' (by simp) (HG0.out.trans (HG.out.trans gw))
end Go.Proofs.YtndkfpmklmcjjaaGreat
