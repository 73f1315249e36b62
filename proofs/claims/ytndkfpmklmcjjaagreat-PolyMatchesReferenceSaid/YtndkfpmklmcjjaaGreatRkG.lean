/- The reference implementation of package poly: Disc. -/
import Derived.Test.YtndkfpmklmcjjaaGreatRkF
set_option linter.unusedSimpArgs false
set_option linter.unusedVariables false
set_option maxHeartbeats 8000000
set_option maxRecDepth 100000
namespace Go.Proofs.YtndkfpmklmcjjaaGreat
open Go.RowKit Go.Sort
attribute [local go_sem] Steady steadyUpon
attribute [local go_sem ↓] hs_dr lt_add_r lt_add_r2 lt_add_r3 lt_add_r4 lt_add_r5 lt_add_r6
attribute [local go_sem] cell?_gd frozen?_gd setCell_gd size_grow tape_grow cell?_grow' frozen?_grow' setCell_grow' grow_grow grow_dr grow_drew dr_dr dr_drew drew_dr dr_alloc dr_setCell dr_cell dr_frozen dr_tape dr_drawn
attribute [local irreducible] wpSteady
theorem p1Range_v (d : Int) (r : Bool) (w : World) (h : distB d = r) : Calls Tryz.prog 48 #[.int .i64 d] w (Ret w (.bool r)) := by
 subst h
 go_enter Tryz.func48, Tryz.ntmps48
 go_wp2
 all_goals go_ret
 all_goals refine Ret.mk' (ret_bool ?_) gw
 all_goals (rw [Bool.eq_iff_iff]; simp [distB]; try omega)
theorem near_snoc (ps : List Pt) (q : Pt) (r : Int) (m : Nat) : nearAll ps q r (List.range (m + 1)) = (nearAll ps q r (List.range m) || nearB q (cor ps m) (cor ps (m + 1)) r) := by
 unfold nearAll
 rw [List.range_succ, List.any_append]
 simp
theorem apart_snoc (ps : List Pt) (q : Pt) (r : Int) (m : Nat) : (!apartAll ps q r (List.range (m + 1))) = ((!apartAll ps q r (List.range m)) || !apartB q (cor ps m) (cor ps (m + 1)) r) := by
 unfold apartAll
 rw [List.range_succ, List.all_append]
 simp
theorem p3Disc_v (ps : List Pt) (A : Option Addr) (c : Nat) (q : Pt) (d : Int) (r : Int × Int) (w : World) (hr : Rd w w.heap.size 2 A (ps.map encD)) (hc : ps.length ≤ 100000000000000) (h : discOf ps q d = r) :
  Calls Tryz.prog 16 #[.slice A ps.length c, pt q.1 q.2, .int .i64 d] w (Ret w (.tuple #[.int .i64 r.1, .int .i64 r.2])) := by
 have hm := hmix
 obtain ⟨u, hu⟩ : ∃ u, PValid ps = u := ⟨_, rfl⟩
 obtain ⟨v, hv⟩ : ∃ u, q.ok = u := ⟨_, rfl⟩
 obtain ⟨x, hx⟩ : ∃ u, distB d = u := ⟨_, rfl⟩
 have k1 := hide (fun W (hg : Grew w W) => p3Valid_v ps A c u W (hr.up hg) hc hu)
 have k2 := hide (fun W => p1Valid_v q.1 q.2 v W hv)
 have k3 := hide (fun W => p1Range_v d x W hx)
 unfold discOf at h
 rw [hu, hv, hx] at h
 have HR := hide hr
 have hcase : u = false ∨ (u = true ∧ v = false) ∨ (u = true ∧ v = true ∧ x = false) ∨ (u = true ∧ v = true ∧ x = true) := by cases u <;> cases v <;> cases x <;> simp
 rcases hcase with rfl | ⟨rfl, rfl⟩ | ⟨rfl, rfl, rfl⟩ | ⟨rfl, rfl, rfl⟩
 ·rw [if_neg (by simp)] at h
  subst h
  clear hu hv hr hx
  obtain ⟨q1, q2⟩ := q
  dsimp only at k2 ⊢
  go_enter Tryz.func16, Tryz.ntmps16
  go_wp2_with (first | (go_at_call 6; with_reducible refine crv (k1.out _ gw) fun _ _ => ?_; dsimp only) | (go_at_call 33; with_reducible refine crv (k2.out _) fun _ _ => ?_; dsimp only) | (go_at_call 48; with_reducible refine crv (k3.out _) fun _ _ => ?_; dsimp only))
  go_ret2
  exact Ret.mk' rfl gw
 ·rw [if_neg (by simp)] at h
  subst h
  clear hu hv hr hx
  obtain ⟨q1, q2⟩ := q
  dsimp only at k2 ⊢
  go_enter Tryz.func16, Tryz.ntmps16
  go_wp2_with (first | (go_at_call 6; with_reducible refine crv (k1.out _ gw) fun _ _ => ?_; dsimp only) | (go_at_call 33; with_reducible refine crv (k2.out _) fun _ _ => ?_; dsimp only) | (go_at_call 48; with_reducible refine crv (k3.out _) fun _ _ => ?_; dsimp only))
  go_ret2
  exact Ret.mk' rfl gw
 ·rw [if_neg (by simp)] at h
  subst h
  clear hu hv hr hx
  obtain ⟨q1, q2⟩ := q
  dsimp only at k2 ⊢
  go_enter Tryz.func16, Tryz.ntmps16
  go_wp2_with (first | (go_at_call 6; with_reducible refine crv (k1.out _ gw) fun _ _ => ?_; dsimp only) | (go_at_call 33; with_reducible refine crv (k2.out _) fun _ _ => ?_; dsimp only) | (go_at_call 48; with_reducible refine crv (k3.out _) fun _ _ => ?_; dsimp only))
  go_ret2
  exact Ret.mk' rfl gw
 ·rw [if_pos (by rfl)] at h
  subst h
  have hp := pv_parts hu
  have hl : ps.length ≤ 100 := by have := hp.1; omega
  have HOK := hide hp.2
  have HQ := hide hv
  have HD := hide (dist_bd hx)
  obtain ⟨pl, hpl⟩ : ∃ z, placeOf ps q = z := ⟨_, rfl⟩
  have k4 := hide (fun W (hg : Grew w W) => p3Place_v ps A c q pl W (HR.out.up hg) hu hv hpl)
  obtain ⟨z, hz⟩ : ∃ z, discVal ps q d = z := ⟨_, rfl⟩
  rw [hz]
  unfold discVal at hz
  rw [hpl] at hz
  have HZ := hide hz
  clear hu hv hr hx hp hz hpl
  obtain ⟨q1, q2⟩ := q
  dsimp only at k2 k4 ⊢
  go_enter Tryz.func16, Tryz.ntmps16
  go_wp2_with (first | (go_at_call 6; with_reducible refine crv (k1.out _ gw) fun _ _ => ?_; dsimp only) | (go_at_call 33; with_reducible refine crv (k2.out _) fun _ _ => ?_; dsimp only) | (go_at_call 48; with_reducible refine crv (k3.out _) fun _ _ => ?_; dsimp only))
  refine wp_name ?_
  intro W0 hW
  have HG0 : Hid (Grew w W0) := hide (by rw [← hW]; exact gw)
  have HB0 : Hid (PB W0 w.heap.size (q1, q2)) := hide (PB.up (show PB (w.alloc (.cells #[.int .i64 q1, .int .i64 q2] 24)) w.heap.size (q1, q2) from heap_alloc_at _ _ _ (by simp)) (by rw [← hW]; exact gw))
  clear hW k1 k2 k3
  go_loopw [11, 12, 13] (fun s t i wr => ∃ m : Nat, m ≤ ps.length ∧ i = .int .i64 m ∧ s = .bool (nearAll ps (q1, q2) d (List.range m)) ∧ t = .bool (!apartAll ps (q1, q2) d (List.range m)) ∧ Grew W0 wr) (fun _ _ i _ => ps.length - (intOf i).toNat)
  case atStart => exact ⟨0, by omega, rfl, rfl, rfl, gw⟩
  case round =>
   obtain ⟨m, hmm, rfl, rfl, rfl, hg⟩ := hrel
   have HG := hide hg
   have z0 := (HB0.out.up hg).c0
   have z1 := (HB0.out.up hg).c1
   have z2 := (HB0.out.up hg).lt
   dsimp only at z0 z1
   clear hg
   by_cases hlt : m < ps.length
   ·obtain ⟨p, hp⟩ : ∃ p, cor ps m = p := ⟨_, rfl⟩
    obtain ⟨n, hn⟩ : ∃ p, cor ps (m + 1) = p := ⟨_, rfl⟩
    have okp : p.ok = true := by rw [← hp]; exact cor_ok HOK.out _
    have okn : n.ok = true := by rw [← hn]; exact cor_ok HOK.out _
    have hpm := cor_get hlt
    rw [hp] at hpm
    obtain ⟨bb, off1, hA1, hb1, g0, g1⟩ := ptAt (HR.out.up (HG0.out.trans HG.out)) hpm
    have hix1 := idx_run (cap := c) Tryz.underlying22 Tryz.sizeOf24 hA1.out hlt
    have kn := hide (fun W (hg : Grew w W) => Next_v ps A c m n W (HR.out.up hg) (by omega) hlt hn)
    have e1 := near_snoc ps (q1, q2) d m
    have e2 := apart_snoc ps (q1, q2) d m
    rw [hp, hn] at e1 e2
    obtain ⟨o, ho⟩ : ∃ o, nearB (q1, q2) p n d = o := ⟨_, rfl⟩
    obtain ⟨y, hy⟩ : ∃ o, (!apartB (q1, q2) p n d) = o := ⟨_, rfl⟩
    have kw := hide (fun W => p1Within_v (q1, q2) p n d o W HQ.out okp okn HD.out ho)
    have kx := hide (fun W => p3nearer_v (q1, q2) p n d y W HQ.out okp okn HD.out hy)
    rw [ho] at e1
    rw [hy] at e2
    obtain ⟨s, hs⟩ : ∃ s, nearAll ps (q1, q2) d (List.range m) = s := ⟨_, rfl⟩
    obtain ⟨t, ht⟩ : ∃ s, (!apartAll ps (q1, q2) d (List.range m)) = s := ⟨_, rfl⟩
    rw [hs] at e1 ⊢
    rw [ht] at e2 ⊢
    have E1 := hide e1
    have E2 := hide e2
    clear ho hy hs ht e1 e2 hpm hp hn okp okn hA1
    obtain ⟨p1, p2⟩ := p
    obtain ⟨n1, n2⟩ := n
    dsimp only at g0 g1 kn kw kx
    cases s <;> cases t
    all_goals
     go_wp2_with fail
     refine wp_region_qas 14 [] [] hm (h := ?_)
     repeat (refine wpSteady_step (fun K hK => ?_); go_simp; first | (refine hK _ ?_; clear hK K) | (apply Exists.intro; refine ⟨fun _ => ?_, hK _ ?_⟩; (first | (go_at_call 36; with_reducible exact kn.out _ (HG0.out.trans (HG.out.trans gw))) | (go_at_call 49; with_reducible exact kw.out _)); clear hK K))
     refine rq0 fun nq osq => ?_
     try simp only [Act.put, setA]
     try dsimp only
     go_wp2_with fail
     refine wp_region_qas 14 [] [] hm (h := ?_)
     repeat (refine wpSteady_step (fun K hK => ?_); go_simp; first | (refine hK _ ?_; clear hK K) | (apply Exists.intro; refine ⟨fun _ => ?_, hK _ ?_⟩; (first | (go_at_call 36; with_reducible exact kn.out _ (HG0.out.trans (HG.out.trans gw))) | (go_at_call 50; with_reducible exact kx.out _)); clear hK K))
     refine rq0 fun nq osq => ?_
     try simp only [Act.put, setA]
     try dsimp only
     go_wp2_with fail
     go_roundw
     case rel => exact ⟨m + 1, by omega, by go_num, ret_bool (by rw [E1.out]; simp), ret_bool (by rw [E2.out]; simp), HG.out.trans gw⟩
     case measure => simp [intOf]; omega
   ·obtain rfl : m = ps.length := by omega
    obtain ⟨s, hs⟩ : ∃ s, nearAll ps (q1, q2) d (List.range ps.length) = s := ⟨_, rfl⟩
    obtain ⟨t, ht⟩ : ∃ s, apartAll ps (q1, q2) d (List.range ps.length) = s := ⟨_, rfl⟩
    have hz := HZ.out
    rw [hs, ht] at hz
    rw [hs, ht]
    clear hs ht HZ
    by_cases g : 0 ≤ pl
    ·have g2 : ¬ pl < 0 := by omega
     rw [if_pos g] at hz
     cases t
     ·rw [if_neg (by simp)] at hz
      subst hz
      go_wp2_with (go_at_call 40; with_reducible refine crv (k4.out _ (HG0.out.trans (HG.out.trans gw))) fun _ _ => ?_; dsimp only)
      go_ret2
      exact Ret.mk' rfl (HG0.out.trans (HG.out.trans gw))
     ·rw [if_pos rfl] at hz
      subst hz
      go_wp2_with (go_at_call 40; with_reducible refine crv (k4.out _ (HG0.out.trans (HG.out.trans gw))) fun _ _ => ?_; dsimp only)
      go_ret2
      exact Ret.mk' rfl (HG0.out.trans (HG.out.trans gw))
    ·have g2 : pl < 0 := by omega
     rw [if_neg g] at hz
     cases s
     ·rw [if_neg (by simp)] at hz
      subst hz
      go_wp2_with (go_at_call 40; with_reducible refine crv (k4.out _ (HG0.out.trans (HG.out.trans gw))) fun _ _ => ?_; dsimp only)
      go_ret2
      exact Ret.mk' rfl (HG0.out.trans (HG.out.trans gw))
     ·rw [if_pos rfl] at hz
      subst hz
      go_wp2_with (go_at_call 40; with_reducible refine crv (k4.out _ (HG0.out.trans (HG.out.trans gw))) fun _ _ => ?_; dsimp only)
      go_ret2
      exact Ret.mk' rfl (HG0.out.trans (HG.out.trans gw))
end Go.Proofs.YtndkfpmklmcjjaaGreat
