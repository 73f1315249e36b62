/- feature.Same: whether two features are the same (walked). -/
import Derived.Test.YtfeccolljfkejaaGreatDoorSaL
set_option linter.unusedSimpArgs false
set_option linter.unusedVariables false
set_option maxHeartbeats 8000000
set_option maxRecDepth 100000
namespace Go.Proofs.YtfeccolljfkejaaGreatDoor
open Go.RowKit Go.Sort
attribute [local go_sem] Steady steadyUpon
attribute [local go_sem ↓] hs_dr lt_add_r lt_add_r2 lt_add_r3 lt_add_r4 lt_add_r5 lt_add_r6
attribute [local go_sem] cell?_gd frozen?_gd setCell_gd size_grow tape_grow cell?_grow' frozen?_grow' setCell_grow' grow_grow grow_dr grow_drew dr_dr dr_drew drew_dr dr_alloc dr_setCell dr_cell dr_frozen dr_tape dr_drawn
attribute [local irreducible] wpSteady
structure Stp (p : Prop) : Prop where
 stop : p
theorem eqPt_v (a b : List Pt) (A B : Option Addr) (c c' : Nat) (r : Bool) (w : World) (hra : Rd w w.heap.size 2 A (a.map encD)) (hrb : Rd w w.heap.size 2 B (b.map encD)) (hl : a.length ≤ 100000000000000) (hl' : b.length ≤ 100000000000000) (h : decide (a = b) = r) :
  Calls Tryz.prog 58 #[.slice A a.length c, .slice B b.length c'] w (Ret w (.bool r)) := by
 have hm := hmix
 have HH := hide h
 have HRA := hide hra
 have HRB := hide hrb
 clear h hra hrb
 by_cases hne : a.length = b.length
 ·rw [← hne]
  have HNE := hide hne
  clear hne hl'
  go_enter Tryz.func58, Tryz.ntmps58
  go_wp2_with fail
  go_loopw [13] (fun i wr => ∃ k : Nat, k ≤ a.length ∧ i = .int .i64 k ∧ Grew w wr ∧ Stp (a.take k = b.take k)) (fun i _ => a.length - (intOf i).toNat)
  case atStart => exact ⟨0, by omega, rfl, gw, ⟨rfl⟩⟩
  case round =>
   obtain ⟨k, hk, rfl, hg, hall⟩ := hrel
   have HG := hide hg
   have HA := hide hall.stop
   clear hg hall
   by_cases hlt : k < a.length
   ·have hltb : k < b.length := by rw [← HNE.out]; exact hlt
    obtain ⟨p, hp⟩ : ∃ p, a[k]? = some p := ⟨_, List.getElem?_eq_getElem hlt⟩
    obtain ⟨q, hq⟩ : ∃ p, b[k]? = some p := ⟨_, List.getElem?_eq_getElem hltb⟩
    obtain ⟨x, off, hA, hb, h0, h1⟩ := ptAt (HRA.out.up HG.out) hp
    obtain ⟨x', off', hA', hb', h2, h3⟩ := ptAt (HRB.out.up HG.out) hq
    have hix := idx_run (cap := c) Tryz.underlying44 Tryz.sizeOf43 hA.out hlt
    have hix2 := idx_run (cap := c') (len := a.length) Tryz.underlying44 Tryz.sizeOf43 hA'.out hlt
    have HP := hide hp
    have HQ := hide hq
    clear hp hq hA hA' hltb
    by_cases hpq : p = q
    ·subst hpq
     have het : a.take (k + 1) = b.take (k + 1) := by rw [List.take_add_one, List.take_add_one, HP.out, HQ.out, HA.out]
     have HET := hide het
     clear het
     obtain ⟨p1, p2⟩ := p; dsimp only at h0 h1 h2 h3
     go_wp2_with fail
     refine wp_region_qas 9 [] [] hm (h := ?_)
     repeat (refine wpSteady_step (fun K hK => ?_); go_simp; refine hK _ ?_; clear hK K)
     refine rq0 fun nq osq => ?_
     try simp only [Act.put, setA]
     try dsimp only
     go_wp2_with fail
     go_roundw
     case rel => exact ⟨k + 1, by omega, by go_num, HG.out.trans gw, ⟨HET.out⟩⟩
     case measure => simp [intOf]; omega
    ·have hr : r = false := by
      rw [← HH.out, decide_eq_false_iff_not]
      intro e
      rw [e] at HP
      have := HP.out.symm.trans HQ.out
      injection this with this
      exact hpq this
     subst hr
     obtain ⟨p1, p2⟩ := p; obtain ⟨q1, q2⟩ := q; dsimp only at h0 h1 h2 h3; (have hpq2 : p1 ≠ q1 ∨ (p1 = q1 ∧ p2 ≠ q2) := by (rw [Prod.mk.injEq] at hpq; omega)); clear hpq
     rcases hpq2 with e1 | ⟨rfl, e1⟩
     all_goals
      go_wp2_with fail
      refine wp_region_qas 9 [] [] hm (h := ?_)
      repeat (refine wpSteady_step (fun K hK => ?_); go_simp; refine hK _ ?_; clear hK K)
      refine rq0 fun nq osq => ?_
      try simp only [Act.put, setA]
      try dsimp only
      go_wp2_with fail
      go_ret
      exact Ret.mk' rfl (HG.out.trans gw)
   ·obtain rfl : k = a.length := by omega
    have hr : r = true := by
     rw [← HH.out, decide_eq_true_eq]
     have := HA.out
     rwa [List.take_length, HNE.out, List.take_length] at this
    subst hr
    go_wp2_with fail
    go_ret
    exact Ret.mk' rfl HG.out
 ·have hr : r = false := by
   rw [← HH.out, decide_eq_false_iff_not]
   exact fun e => hne (by rw [e])
  subst hr
  have hne' : ¬ (a.length : Int) = b.length := by omega
  go_enter Tryz.func58, Tryz.ntmps58
  go_wp2_with fail
  go_ret
  exact Ret.mk' rfl gw
theorem eqSc_v (a b : List Sec) (A B : Option Addr) (c c' : Nat) (r : Bool) (w : World) (hra : Rd w w.heap.size 6 A (a.map Sec.cells)) (hrb : Rd w w.heap.size 6 B (b.map Sec.cells)) (hl : a.length ≤ 100000000000000) (hl' : b.length ≤ 100000000000000) (h : decide (a = b) = r) :
  Calls Tryz.prog 59 #[.slice A a.length c, .slice B b.length c'] w (Ret w (.bool r)) := by
 have hm := hmix
 have HH := hide h
 have HRA := hide hra
 have HRB := hide hrb
 clear h hra hrb
 by_cases hne : a.length = b.length
 ·rw [← hne]
  have HNE := hide hne
  clear hne hl'
  go_enter Tryz.func59, Tryz.ntmps59
  go_wp2_with fail
  go_loopw [13] (fun i wr => ∃ k : Nat, k ≤ a.length ∧ i = .int .i64 k ∧ Grew w wr ∧ Stp (a.take k = b.take k)) (fun i _ => a.length - (intOf i).toNat)
  case atStart => exact ⟨0, by omega, rfl, gw, ⟨rfl⟩⟩
  case round =>
   obtain ⟨k, hk, rfl, hg, hall⟩ := hrel
   have HG := hide hg
   have HA := hide hall.stop
   clear hg hall
   by_cases hlt : k < a.length
   ·have hltb : k < b.length := by rw [← HNE.out]; exact hlt
    obtain ⟨p, hp⟩ : ∃ p, a[k]? = some p := ⟨_, List.getElem?_eq_getElem hlt⟩
    obtain ⟨q, hq⟩ : ∃ p, b[k]? = some p := ⟨_, List.getElem?_eq_getElem hltb⟩
    obtain ⟨x, off, hA, hb, h0, h1, h2, h3, h4, h5⟩ := secAt (HRA.out.up HG.out) hp
    obtain ⟨x', off', hA', hb', g0, g1, g2, g3, g4, g5⟩ := secAt (HRB.out.up HG.out) hq
    have hix := idx_run (cap := c) Tryz.underlying45 Tryz.sizeOf100 hA.out hlt
    have hix2 := idx_run (cap := c') (len := a.length) Tryz.underlying45 Tryz.sizeOf100 hA'.out hlt
    have HP := hide hp
    have HQ := hide hq
    clear hp hq hA hA' hltb
    by_cases hpq : p = q
    ·subst hpq
     have het : a.take (k + 1) = b.take (k + 1) := by rw [List.take_add_one, List.take_add_one, HP.out, HQ.out, HA.out]
     have HET := hide het
     clear het
     obtain ⟨p1, p2, p3, p4, p5, p6⟩ := p; dsimp only at h0 h1 h2 h3 h4 h5 g0 g1 g2 g3 g4 g5
     go_wp2_with fail
     refine wp_region_qas 9 [] [] hm (h := ?_)
     repeat (refine wpSteady_step (fun K hK => ?_); go_simp; refine hK _ ?_; clear hK K)
     refine rq0 fun nq osq => ?_
     try simp only [Act.put, setA]
     try dsimp only
     go_wp2_with fail
     go_roundw
     case rel => exact ⟨k + 1, by omega, by go_num, HG.out.trans gw, ⟨HET.out⟩⟩
     case measure => simp [intOf]; omega
    ·have hr : r = false := by
      rw [← HH.out, decide_eq_false_iff_not]
      intro e
      rw [e] at HP
      have := HP.out.symm.trans HQ.out
      injection this with this
      exact hpq this
     subst hr
     obtain ⟨p1, p2, p3, p4, p5, p6⟩ := p; obtain ⟨q1, q2, q3, q4, q5, q6⟩ := q; dsimp only at h0 h1 h2 h3 h4 h5 g0 g1 g2 g3 g4 g5; (have hpq2 : p1 ≠ q1 ∨ (p1 = q1 ∧ (p2 ≠ q2 ∨ (p2 = q2 ∧ (p3 ≠ q3 ∨ (p3 = q3 ∧ (p4 ≠ q4 ∨ (p4 = q4 ∧ (p5 ≠ q5 ∨ (p5 = q5 ∧ p6 ≠ q6))))))))) := by (rw [Sec.mk.injEq] at hpq; omega)); clear hpq
     rcases hpq2 with e1 | ⟨rfl, e1 | ⟨rfl, e1 | ⟨rfl, e1 | ⟨rfl, e1 | ⟨rfl, e1⟩⟩⟩⟩⟩
     all_goals
      go_wp2_with fail
      refine wp_region_qas 9 [] [] hm (h := ?_)
      repeat (refine wpSteady_step (fun K hK => ?_); go_simp; refine hK _ ?_; clear hK K)
      refine rq0 fun nq osq => ?_
      try simp only [Act.put, setA]
      try dsimp only
      go_wp2_with fail
      go_ret
      exact Ret.mk' rfl (HG.out.trans gw)
   ·obtain rfl : k = a.length := by omega
    have hr : r = true := by
     rw [← HH.out, decide_eq_true_eq]
     have := HA.out
     rwa [List.take_length, HNE.out, List.take_length] at this
    subst hr
    go_wp2_with fail
    go_ret
    exact Ret.mk' rfl HG.out
 ·have hr : r = false := by
   rw [← HH.out, decide_eq_false_iff_not]
   exact fun e => hne (by rw [e])
  subst hr
  have hne' : ¬ (a.length : Int) = b.length := by omega
  go_enter Tryz.func59, Tryz.ntmps59
  go_wp2_with fail
  go_ret
  exact Ret.mk' rfl gw
def sameB (f g : FV) : Bool := decide (f.id = g.id ∧ f.kind = g.kind ∧ (f.x = g.x ∧ f.y = g.y) ∧ f.rad = g.rad ∧ f.dep = g.dep ∧ f.sym = g.sym ∧ f.area = g.area ∧ f.secs = g.secs)
theorem same_of {f g : FV} (h : f.bare = g.bare) : sameB f g = true := by
 rw [bare_parts h]
 unfold sameB
 simp
theorem feSame_v (f g : FV) (w : World) (hf : f.rd w w.heap.size) (hg : g.rd w w.heap.size) :
  Calls Tryz.prog 29 #[f.val, g.val] w (Ret w (.bool (sameB f g))) := by
 have hm := hmix
 obtain ⟨id, kind, x, y, rad, aA, ac, area, dep, sym, sA, sc, secs⟩ := f
 obtain ⟨id', kind', x', y', rad', aA', ac', area', dep', sym', sA', sc', secs'⟩ := g
 obtain ⟨r1, hr1⟩ : ∃ r, decide (area = area') = r := ⟨_, rfl⟩
 obtain ⟨r2, hr2⟩ : ∃ r, decide (secs = secs') = r := ⟨_, rfl⟩
 have k1 := hide (fun W (hg2 : Grew w W) => eqPt_v area area' aA aA' ac ac' r1 W (hf.area.up hg2) (hg.area.up hg2) hf.la hg.la hr1)
 have k2 := hide (fun W (hg2 : Grew w W) => eqSc_v secs secs' sA sA' sc sc' r2 W (hf.secs.up hg2) (hg.secs.up hg2) hf.ls hg.ls hr2)
 have hv : sameB ⟨id, kind, x, y, rad, aA, ac, area, dep, sym, sA, sc, secs⟩ ⟨id', kind', x', y', rad', aA', ac', area', dep', sym', sA', sc', secs'⟩ = (decide (id = id' ∧ kind = kind' ∧ (x = x' ∧ y = y') ∧ rad = rad' ∧ dep = dep' ∧ sym = sym') && (r1 && r2)) := by
  rw [← hr1, ← hr2]
  unfold sameB
  simp [Bool.and_assoc]
 obtain ⟨v, hv2⟩ : ∃ v, sameB ⟨id, kind, x, y, rad, aA, ac, area, dep, sym, sA, sc, secs⟩ ⟨id', kind', x', y', rad', aA', ac', area', dep', sym', sA', sc', secs'⟩ = v := ⟨_, rfl⟩
 rw [hv2] at hv ⊢
 clear hf hg hr1 hr2 hv2
 unfold FV.val
 dsimp only
 generalize area.length = na at *
 generalize secs.length = ns at *
 generalize area'.length = na' at *
 generalize secs'.length = ns' at *
 by_cases e1 : id = id'
 ·subst e1
  by_cases e2 : kind = kind'
  ·subst e2
   by_cases e3 : x = x'
   ·subst e3
    by_cases e4 : y = y'
    ·subst e4
     by_cases e5 : rad = rad'
     ·subst e5
      by_cases e6 : dep = dep'
      ·subst e6
       by_cases e7 : sym = sym'
       ·subst e7
        obtain rfl : v = (r1 && r2) := by simpa using hv
        clear hv
        cases r1
        ·go_enter Tryz.func29, Tryz.ntmps29
         go_wp2_with (first | (go_at_call 58; with_reducible refine crv (k1.out _ gw) fun _ _ => ?_; dsimp only) | (go_at_call 59; with_reducible refine crv (k2.out _ gw) fun _ _ => ?_; dsimp only))
         go_ret
         exact Ret.mk' rfl gw
        ·go_enter Tryz.func29, Tryz.ntmps29
         go_wp2_with (first | (go_at_call 58; with_reducible refine crv (k1.out _ gw) fun _ _ => ?_; dsimp only) | (go_at_call 59; with_reducible refine crv (k2.out _ gw) fun _ _ => ?_; dsimp only))
         go_ret
         exact Ret.mk' rfl gw
       ·skip
        obtain rfl : v = false := by simpa [e7] using hv
        clear hv k1 k2
        have eb := beq_eq_false_iff_ne.2 e7
        go_enter Tryz.func29, Tryz.ntmps29
        go_wp2_with fail
        go_ret
        exact Ret.mk' rfl gw
      ·skip
       obtain rfl : v = false := by simpa [e6] using hv
       clear hv k1 k2
       have eb := beq_eq_false_iff_ne.2 e6
       go_enter Tryz.func29, Tryz.ntmps29
       go_wp2_with fail
       go_ret
       exact Ret.mk' rfl gw
     ·skip
      obtain rfl : v = false := by simpa [e5] using hv
      clear hv k1 k2
      have eb := beq_eq_false_iff_ne.2 e5
      go_enter Tryz.func29, Tryz.ntmps29
      go_wp2_with fail
      go_ret
      exact Ret.mk' rfl gw
    ·skip
     obtain rfl : v = false := by simpa [e4] using hv
     clear hv k1 k2
     have eb := beq_eq_false_iff_ne.2 e4
     go_enter Tryz.func29, Tryz.ntmps29
     go_wp2_with fail
     go_ret
     exact Ret.mk' rfl gw
   ·skip
    obtain rfl : v = false := by simpa [e3] using hv
    clear hv k1 k2
    have eb := beq_eq_false_iff_ne.2 e3
    go_enter Tryz.func29, Tryz.ntmps29
    go_wp2_with fail
    go_ret
    exact Ret.mk' rfl gw
  ·skip
   obtain rfl : v = false := by simpa [e2] using hv
   clear hv k1 k2
   have eb := beq_eq_false_iff_ne.2 e2
   go_enter Tryz.func29, Tryz.ntmps29
   go_wp2_with fail
   go_ret
   exact Ret.mk' rfl gw
 ·skip
  obtain rfl : v = false := by simpa [e1] using hv
  clear hv k1 k2
  have eb := beq_eq_false_iff_ne.2 e1
  go_enter Tryz.func29, Tryz.ntmps29
  go_wp2_with fail
  go_ret
  exact Ret.mk' rfl gw
end Go.Proofs.YtfeccolljfkejaaGreatDoor
