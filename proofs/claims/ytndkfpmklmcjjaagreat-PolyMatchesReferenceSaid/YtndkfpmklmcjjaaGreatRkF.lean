/- The reference implementation of package poly: Holds, Disc. -/
import Derived.Test.YtndkfpmklmcjjaaGreatRkA
import Derived.Test.YtndkfpmklmcjjaaGreatRkE
set_option linter.unusedSimpArgs false
set_option linter.unusedVariables false
set_option maxHeartbeats 8000000
set_option maxRecDepth 100000
namespace Go.Proofs.YtndkfpmklmcjjaaGreat
open Go.RowKit Go.Sort
attribute [local go_sem] Steady steadyUpon
attribute [local go_sem ↓] hs_dr lt_add_r lt_add_r2 lt_add_r3 lt_add_r4 lt_add_r5 lt_add_r6
attribute [local go_sem] cell?_gd frozen?_gd setCell_gd size_grow tape_grow cell?_grow' frozen?_grow' setCell_grow' grow_grow grow_dr grow_drew dr_dr dr_drew drew_dr dr_alloc dr_setCell dr_cell dr_frozen dr_tape dr_drawn
attribute [local irreducible] wpSteady
theorem p3Holds_v (ps qs : List Pt) (A B : Option Addr) (c d : Nat) (r : Bool × Int) (w : World) (hr : Rd w w.heap.size 2 A (ps.map encD)) (hq : Rd w w.heap.size 2 B (qs.map encD)) (hc : ps.length ≤ 100000000000000) (hd : qs.length ≤ 100000000000000) (h : pholdsOf ps qs = r) :
  Calls Tryz.prog 14 #[.slice A ps.length c, .slice B qs.length d] w (Ret w (.tuple #[.bool r.1, .int .i64 r.2])) := by
 have hm := hmix
 obtain ⟨u, hu⟩ : ∃ u, PValid ps = u := ⟨_, rfl⟩
 obtain ⟨v, hv⟩ : ∃ u, PValid qs = u := ⟨_, rfl⟩
 have k1 := hide (fun W (hg : Grew w W) => p3Valid_v ps A c u W (hr.up hg) hc hu)
 have k2 := hide (fun W (hg : Grew w W) => p3Valid_v qs B d v W (hq.up hg) hd hv)
 unfold pholdsOf at h
 rw [hu, hv] at h
 have HR := hide hr
 have HQ := hide hq
 have hcase : u = false ∨ (u = true ∧ v = false) ∨ (u = true ∧ v = true) := by cases u <;> cases v <;> simp
 rcases hcase with rfl | ⟨rfl, rfl⟩ | ⟨rfl, rfl⟩
 ·rw [if_neg (by simp)] at h
  subst h
  clear hu hv hr hq
  go_enter Tryz.func14, Tryz.ntmps14
  go_wp2_with (first | (go_at_call 6; with_reducible refine crv (k1.out _ gw) fun _ _ => ?_; dsimp only) | (go_at_call 6; with_reducible refine crv (k2.out _ gw) fun _ _ => ?_; dsimp only))
  go_ret2
  exact Ret.mk' rfl gw
 ·rw [if_neg (by simp)] at h
  subst h
  clear hu hv hr hq
  go_enter Tryz.func14, Tryz.ntmps14
  go_wp2_with (first | (go_at_call 6; with_reducible refine crv (k1.out _ gw) fun _ _ => ?_; dsimp only) | (go_at_call 6; with_reducible refine crv (k2.out _ gw) fun _ _ => ?_; dsimp only))
  go_ret2
  exact Ret.mk' rfl gw
 ·rw [if_pos (by rfl)] at h
  subst h
  have hp := pv_parts hv
  have hql : qs.length ≤ 100 := by have := hp.1; omega
  have HOK := hide hp.2
  have HPV := hide hu
  obtain ⟨z, hz⟩ : ∃ z, pholds ps qs = z := ⟨_, rfl⟩
  rw [hz]
  have HZ := hide hz
  clear hu hv hr hq hp hz
  go_enter Tryz.func14, Tryz.ntmps14
  go_wp2_with (first | (go_at_call 6; with_reducible refine crv (k1.out _ gw) fun _ _ => ?_; dsimp only) | (go_at_call 6; with_reducible refine crv (k2.out _ gw) fun _ _ => ?_; dsimp only))
  refine wp_name ?_
  intro W0 hW
  have HG0 : Hid (Grew w W0) := hide (by rw [← hW]; exact gw)
  clear hW k1 k2
  go_loopw [8] (fun i wr => ∃ m : Nat, m ≤ qs.length ∧ i = .int .i64 m ∧ Grew W0 wr ∧ AppG ((List.range m).all (fun i => hasOf ps (cor qs i) (cor qs (i + 1))) = true)) (fun i _ => qs.length - (intOf i).toNat)
  case atStart => exact ⟨0, by omega, rfl, gw, show (List.range 0).all _ = true from rfl⟩
  case round =>
   obtain ⟨m, hmm, rfl, hg, hall⟩ := hrel
   have HG := hide hg
   have HA := hide hall.stop
   clear hg hall
   by_cases hlt : m < qs.length
   ·obtain ⟨p, hp⟩ : ∃ p, cor qs m = p := ⟨_, rfl⟩
    obtain ⟨n, hn⟩ : ∃ p, cor qs (m + 1) = p := ⟨_, rfl⟩
    have okp : p.ok = true := by rw [← hp]; exact cor_ok HOK.out _
    have okn : n.ok = true := by rw [← hn]; exact cor_ok HOK.out _
    have hpm := cor_get hlt
    rw [hp] at hpm
    obtain ⟨bb, off1, hA1, hb1, g0, g1⟩ := ptAt (HQ.out.up (HG0.out.trans HG.out)) hpm
    have hix1 := idx_run (cap := d) Tryz.underlying22 Tryz.sizeOf24 hA1.out hlt
    have kn := hide (fun W (hg : Grew w W) => Next_v qs B d m n W (HQ.out.up hg) (by omega) hlt hn)
    obtain ⟨o, ho⟩ : ∃ o, hasOf ps p n = o := ⟨_, rfl⟩
    have kw := hide (fun W (hg : Grew w W) => p3within_v ps A c p n o W (HR.out.up hg) HPV.out okp okn ho)
    have E1 := hide (fun (e : o = true) => (range_all_succ HA.out (show (fun i => hasOf ps (cor qs i) (cor qs (i + 1))) m = true by dsimp only; rw [hp, hn, ho, e]) : (List.range (m + 1)).all (fun i => hasOf ps (cor qs i) (cor qs (i + 1))) = true))
    have E2 := hide (fun (e : o = false) => (show z = false by rw [← HZ.out]; exact all_no hlt (show hasOf ps (cor qs m) (cor qs (m + 1)) = false by rw [hp, hn, ho, e])))
    clear ho hpm hp hn okp okn hA1
    obtain ⟨p1, p2⟩ := p
    obtain ⟨n1, n2⟩ := n
    dsimp only at g0 g1 kn kw
    cases o
    ·have hz := E2.out rfl
     subst hz
     clear E1 E2 HZ
     go_wp2_with fail
     refine wp_region_qas 10 [] [] hm (h := ?_)
     repeat (refine wpSteady_step (fun K hK => ?_); go_simp; first | (refine hK _ ?_; clear hK K) | (apply Exists.intro; refine ⟨fun _ => ?_, hK _ ?_⟩; (first | (go_at_call 36; with_reducible exact kn.out _ (HG0.out.trans (HG.out.trans gw))) | (go_at_call 45; with_reducible exact kw.out _ (HG0.out.trans (HG.out.trans gw)))); clear hK K))
     refine rq0 fun nq osq => ?_
     try simp only [Act.put, setA]
     try dsimp only
     go_wp2_with fail
     go_ret2
     exact Ret.mk' rfl (HG0.out.trans (HG.out.trans gw))
    ·have HY := hide (E1.out rfl)
     clear E1 E2
     go_wp2_with fail
     refine wp_region_qas 10 [] [] hm (h := ?_)
     repeat (refine wpSteady_step (fun K hK => ?_); go_simp; first | (refine hK _ ?_; clear hK K) | (apply Exists.intro; refine ⟨fun _ => ?_, hK _ ?_⟩; (first | (go_at_call 36; with_reducible exact kn.out _ (HG0.out.trans (HG.out.trans gw))) | (go_at_call 45; with_reducible exact kw.out _ (HG0.out.trans (HG.out.trans gw)))); clear hK K))
     refine rq0 fun nq osq => ?_
     try simp only [Act.put, setA]
     try dsimp only
     go_wp2_with fail
     go_roundw
     case rel => exact ⟨m + 1, by omega, by go_num, HG.out.trans gw, show (List.range (m + 1)).all (fun i => hasOf ps (cor qs i) (cor qs (i + 1))) = true from HY.out⟩
     case measure => simp [intOf]; omega
   ·obtain rfl : m = qs.length := by omega
    obtain rfl : z = true := by rw [← HZ.out]; exact HA.out
    go_wp2_with fail
    go_ret2
    exact Ret.mk' rfl (HG0.out.trans (HG.out.trans gw))
end Go.Proofs.YtndkfpmklmcjjaaGreat
