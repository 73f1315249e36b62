/- The reference implementation of package poly: cuts, leads. -/
import Derived.Test.YtndkfpmklmcjjaaGreatRkC
set_option linter.unusedSimpArgs false
set_option linter.unusedVariables false
set_option maxHeartbeats 8000000
set_option maxRecDepth 100000
namespace Go.Proofs.YtndkfpmklmcjjaaGreat
open Go.RowKit Go.Sort
attribute [local go_sem] Steady steadyUpon
attribute [local go_sem ↓] hs_dr lt_add_r lt_add_r2 lt_add_r3 lt_add_r4 lt_add_r5 lt_add_r6
attribute [local go_sem] cell?_gd frozen?_gd setCell_gd size_grow tape_grow cell?_grow' frozen?_grow' setCell_grow' grow_grow grow_dr grow_drew dr_dr dr_drew drew_dr dr_alloc dr_setCell dr_cell dr_frozen dr_tape dr_drawn
attribute [local irreducible] wpSteady
theorem p3cuts_v (a b c d : Pt) (r : Bool) (w : World) (ha : a.ok = true) (hb : b.ok = true) (hc : c.ok = true) (hd : d.ok = true) (h : cutB a b c d = r) :
  Calls Tryz.prog 81 #[pt a.1 a.2, pt b.1 b.2, pt c.1 c.2, pt d.1 d.2] w (Ret w (.bool r)) := by
 have hm := hmix
 have k1 := hide (fun W => rturn_v a b c _ W ha hb hc rfl)
 have k2 := hide (fun W => rturn_v a b d _ W ha hb hd rfl)
 have k3 := hide (fun W => rturn_v c d a _ W hc hd ha rfl)
 have k4 := hide (fun W => rturn_v c d b _ W hc hd hb rfl)
 have b12 := mul_sg (tn_bd a b c) (tn_bd a b d)
 have b34 := mul_sg (tn_bd c d a) (tn_bd c d b)
 unfold cutB at h
 generalize tn a b c = t1 at *
 generalize tn a b d = t2 at *
 generalize tn c d a = t3 at *
 generalize tn c d b = t4 at *
 have e12 : IntKind.i64.wrap (t1 * t2) = t1 * t2 := by unfold IntKind.wrap; simp [IntKind.bits, IntKind.signed]; omega
 have e34 : IntKind.i64.wrap (t3 * t4) = t3 * t4 := by unfold IntKind.wrap; simp [IntKind.bits, IntKind.signed]; omega
 obtain ⟨a1, a2⟩ := a
 obtain ⟨b1, b2⟩ := b
 obtain ⟨c1, c2⟩ := c
 obtain ⟨d1, d2⟩ := d
 clear ha hb hc hd
 dsimp only at *
 subst h
 by_cases y1 : t1 * t2 < 0
 ·have y1d := decide_eq_true y1
  go_enter Tryz.func81, Tryz.ntmps81
  go_wp2_with fail
  refine wp_region_qas 23 [] [] hm (h := ?_)
  repeat (refine wpSteady_step (fun K hK => ?_); go_simp; first | (refine hK _ ?_; clear hK K) | (apply Exists.intro; refine ⟨fun _ => ?_, hK _ ?_⟩; ((go_at_call 35; first | with_reducible exact k1.out _ | with_reducible exact k2.out _ | with_reducible exact k3.out _ | with_reducible exact k4.out _)); clear hK K))
  refine rq0 fun nq osq => ?_
  try simp only [Act.put, setA]
  try dsimp only
  go_wp2_with fail
  go_ret
  exact Ret.mk' (ret_bool (by simp [y1])) gw
 ·have y1d := decide_eq_false y1
  go_enter Tryz.func81, Tryz.ntmps81
  go_wp2_with fail
  refine wp_region_qas 23 [] [] hm (h := ?_)
  repeat (refine wpSteady_step (fun K hK => ?_); go_simp; first | (refine hK _ ?_; clear hK K) | (apply Exists.intro; refine ⟨fun _ => ?_, hK _ ?_⟩; ((go_at_call 35; first | with_reducible exact k1.out _ | with_reducible exact k2.out _ | with_reducible exact k3.out _ | with_reducible exact k4.out _)); clear hK K))
  refine rq0 fun nq osq => ?_
  try simp only [Act.put, setA]
  try dsimp only
  go_wp2_with fail
  go_ret
  exact Ret.mk' (ret_bool (by simp; intro h; omega)) gw
def edgeR (ps : List Pt) (v : Pt) (i : Nat) : Bool := decide (0 ≤ crs2 (sb (cor ps (i + 1)) (cor ps i)) v)
def leadsR (ps : List Pt) (a v : Pt) : Bool :=
 match (List.range ps.length).find? (fun i => decide (cor ps i = a)) with
 | some i => opensR ps i v
 | none => match (List.range ps.length).find? (fun i => onB a (cor ps i) (cor ps (i + 1))) with
  | some i => edgeR ps v i
  | none => true
theorem crs2_off {a c n to : Pt} (h : cr c n a = 0) : crs2 (sb n c) (sb to a) = cr c n to := by
 unfold crs2 sb
 unfold cr at h ⊢
 dsimp only
 grind
theorem leads_ref (ps : List Pt) (a to : Pt) : leadsR ps a (sb to a) = leadsOf ps a to := by
 unfold leadsR leadsOf
 cases hc : (List.range ps.length).find? (fun i => decide (cor ps i = a)) with
 | some i =>
  dsimp only
  have e : cor ps i = a := by simpa using List.find?_some hc
  rw [← opens_ref, e]
 | none =>
  dsimp only
  cases he : (List.range ps.length).find? (fun i => onB a (cor ps i) (cor ps (i + 1))) with
  | some i =>
   dsimp only
   have e := List.find?_some he
   unfold onB at e
   rw [decide_eq_true_eq] at e
   unfold edgeR edgeLeads
   rw [crs2_off (tn_zero_cr.1 e.1)]
   unfold tn
   simp only [sg_nn]
  | none => rfl
theorem leadsR_corner {ps : List Pt} {a v : Pt} {k : Nat} (hk : k < ps.length) (h : cor ps k = a) (hn : ∀ j, j < k → cor ps j ≠ a) : leadsR ps a v = opensR ps k v := by
 unfold leadsR
 rw [range_find_some hk (by simpa using h) (fun j hj => by simpa using hn j hj)]
theorem leadsR_edge {ps : List Pt} {a v : Pt} {k : Nat} (hc : ∀ i, i < ps.length → cor ps i ≠ a) (hk : k < ps.length) (h : onB a (cor ps k) (cor ps (k + 1)) = true) (hn : ∀ j, j < k → onB a (cor ps j) (cor ps (j + 1)) = false) : leadsR ps a v = edgeR ps v k := by
 unfold leadsR
 rw [range_find_none (fun j hj => by simpa using hc j hj)]
 dsimp only
 rw [range_find_some hk h hn]
theorem leadsR_in {ps : List Pt} {a v : Pt} (hc : ∀ i, i < ps.length → cor ps i ≠ a) (hn : ∀ j, j < ps.length → onB a (cor ps j) (cor ps (j + 1)) = false) : leadsR ps a v = true := by
 unfold leadsR
 rw [range_find_none (fun j hj => by simpa using hc j hj)]
 dsimp only
 rw [range_find_none hn]
theorem p3leads_v (ps : List Pt) (A : Option Addr) (c : Nat) (a v : Pt) (r : Bool) (w : World) (hr : Rd w w.heap.size 2 A (ps.map encD)) (hl : ps.length ≤ 100) (hok : ps.all Pt.ok = true) (hao : a.ok = true) (hv1 : -4000000 ≤ v.1 ∧ v.1 ≤ 4000000) (hv2 : -4000000 ≤ v.2 ∧ v.2 ≤ 4000000) (h : leadsR ps a v = r) :
  Calls Tryz.prog 80 #[.slice A ps.length c, pt a.1 a.2, pt v.1 v.2] w (Ret w (.bool r)) := by
 have hm := hmix
 have HR := hide hr
 have HOK := hide hok
 have HAO := hide hao
 have HH := hide h
 have ko := hide (fun (k : Nat) (hk : k < ps.length) (s : Bool) (hs : opensR ps k v = s) W (hg : Grew w W) => p3opens_v ps A c k v s W (hr.up hg) hl hok hv1 hv2 hk hs)
 clear hr hok hao h
 obtain ⟨x1, x2⟩ := a
 obtain ⟨v1, v2⟩ := v
 dsimp only at hv1 hv2 ko
 go_enter Tryz.func80, Tryz.ntmps80
 go_wp2_with fail
 refine wp_name ?_
 intro W0 hW
 have HG0 : Hid (Grew w W0) := hide (by rw [← hW]; exact gw)
 have HB0 : Hid (W0.heap[w.heap.size]? = some (.cells #[.int .i64 x1, .int .i64 x2] 24 (0, 0))) := hide (by rw [← hW]; exact (heap_alloc_old _ _ (by simp)).trans (heap_alloc_at _ _ _ (by simp)))
 have HB1 : Hid (W0.heap[w.heap.size + 1]? = some (.cells #[.int .i64 v1, .int .i64 v2] 24 (0, 0))) := hide (by rw [← hW]; exact heap_alloc_at _ _ _ (by simp))
 clear hW
 go_loopw [7] (fun i wr => ∃ m : Nat, m ≤ ps.length ∧ i = .int .i64 m ∧ Grew W0 wr ∧ AppG (∀ j, j < m → cor ps j ≠ (x1, x2))) (fun i _ => ps.length - (intOf i).toNat)
 case atStart => exact ⟨0, by omega, rfl, gw, show ∀ j, j < 0 → cor ps j ≠ (x1, x2) from fun j hj => by omega⟩
 case round =>
  obtain ⟨m, hmm, rfl, hg, hall⟩ := hrel
  have HG := hide hg
  have HA := hide hall.stop
  have hb0 := (hg.heap (blk_lt HB0.out)).trans HB0.out
  have hb1 := (hg.heap (blk_lt HB1.out)).trans HB1.out
  have z0 : wr.cell? ⟨w.heap.size, 0, none⟩ = some _ := blk_cell hb0 0
  have z1 : wr.cell? ⟨w.heap.size, 1, none⟩ = some _ := blk_cell hb0 1
  have z2 : wr.cell? ⟨w.heap.size + 1, 0, none⟩ = some _ := blk_cell hb1 0
  have z3 : wr.cell? ⟨w.heap.size + 1, 1, none⟩ = some _ := blk_cell hb1 1
  have zl := blk_lt hb0
  have zl1 := blk_lt hb1
  clear hg hall hb0 hb1
  by_cases hlt : m < ps.length
  ·obtain ⟨p, hp⟩ : ∃ p, cor ps m = p := ⟨_, rfl⟩
   have hpm := cor_get hlt
   rw [hp] at hpm
   obtain ⟨b1, off1, hA1, hb1, g0, g1⟩ := ptAt (HR.out.up (HG0.out.trans HG.out)) hpm
   have hix1 := idx_run (cap := c) Tryz.underlying22 Tryz.sizeOf24 hA1.out hlt
   have HP := hide hp
   obtain ⟨p1, p2⟩ := p
   dsimp only at g0 g1
   clear hA1 hp hpm
   have hcase : (p1 = x1 ∧ p2 = x2) ∨ (p1 ≠ x1) ∨ (p1 = x1 ∧ p2 ≠ x2) := by omega
   rcases hcase with ⟨rfl, rfl⟩ | e1 | ⟨rfl, e1⟩
   ·have hs : opensR ps m (v1, v2) = r := by rw [← HH.out, leadsR_corner hlt HP.out HA.out]
    have k1 := hide (ko.out m hlt r hs)
    clear hs
    go_wp2_with fail
    refine wp_region_qas 6 [] [] hm (h := ?_)
    repeat (refine wpSteady_step (fun K hK => ?_); go_simp; refine hK _ ?_; clear hK K)
    refine rq0 fun nq osq => ?_
    try simp only [Act.put, setA]
    try dsimp only
    go_wp2_with (go_at_call 82; with_reducible refine crv (k1.out _ (HG0.out.trans (HG.out.trans gw))) fun _ _ => ?_; dsimp only)
    go_ret
    exact Ret.mk' rfl (HG0.out.trans (HG.out.trans gw))
   all_goals
    clear ko
    go_wp2_with fail
    refine wp_region_qas 6 [] [] hm (h := ?_)
    repeat (refine wpSteady_step (fun K hK => ?_); go_simp; refine hK _ ?_; clear hK K)
    refine rq0 fun nq osq => ?_
    try simp only [Act.put, setA]
    try dsimp only
    go_wp2_with fail
    go_roundw
    case rel =>
     refine ⟨m + 1, by omega, by go_num, HG.out.trans gw, ?_⟩
     show ∀ j, j < m + 1 → cor ps j ≠ _
     intro j hj
     by_cases ej : j = m
     ·rw [ej, HP.out]
      intro e
      simp only [Prod.mk.injEq] at e
      omega
     ·exact HA.out j (by omega)
    case measure => simp [intOf]; omega
  ·obtain rfl : m = ps.length := by omega
   clear ko
   go_wp2_with fail
   obtain ⟨W1, hW1⟩ : ∃ W, W = wr := ⟨wr, rfl⟩
   subst hW1
   go_loopw [8] (fun i wr => ∃ m : Nat, m ≤ ps.length ∧ i = .int .i64 m ∧ Grew W1 wr ∧ AppG (∀ j, j < m → onB (x1, x2) (cor ps j) (cor ps (j + 1)) = false)) (fun i _ => ps.length - (intOf i).toNat)
   case atStart => exact ⟨0, by omega, rfl, gw, show ∀ j, j < 0 → onB (x1, x2) (cor ps j) (cor ps (j + 1)) = false from fun j hj => by omega⟩
   case round =>
    obtain ⟨m, hmm, rfl, hg, hall⟩ := hrel
    have HG2 := hide hg
    have HA2 := hide hall.stop
    have y0 : wr.cell? ⟨w.heap.size, 0, none⟩ = some _ := (old_cell hg _ _ zl).trans z0
    have y1 : wr.cell? ⟨w.heap.size, 1, none⟩ = some _ := (old_cell hg _ _ zl).trans z1
    have y2 : wr.cell? ⟨w.heap.size + 1, 0, none⟩ = some _ := (old_cell hg _ _ zl1).trans z2
    have y3 : wr.cell? ⟨w.heap.size + 1, 1, none⟩ = some _ := (old_cell hg _ _ zl1).trans z3
    have yl : w.heap.size < wr.heap.size := Nat.lt_of_lt_of_le zl hg.below.size
    have yl1 : w.heap.size + 1 < wr.heap.size := Nat.lt_of_lt_of_le zl1 hg.below.size
    clear hg hall
    by_cases hlt : m < ps.length
    ·obtain ⟨p, hp⟩ : ∃ p, cor ps m = p := ⟨_, rfl⟩
     obtain ⟨b, hb⟩ : ∃ p, cor ps (m + 1) = p := ⟨_, rfl⟩
     have okp : p.ok = true := by rw [← hp]; exact cor_ok HOK.out _
     have okb : b.ok = true := by rw [← hb]; exact cor_ok HOK.out _
     have hpm := cor_get hlt
     rw [hp] at hpm
     obtain ⟨b1, off1, hA1, hb1, g0, g1⟩ := ptAt (HR.out.up (HG0.out.trans (HG.out.trans HG2.out))) hpm
     have hix1 := idx_run (cap := c) Tryz.underlying22 Tryz.sizeOf24 hA1.out hlt
     have kn := hide (fun W (hg : Grew w W) => Next_v ps A c m b W (HR.out.up hg) (by omega) hlt hb)
     obtain ⟨o, ho⟩ : ∃ o, onB (x1, x2) p b = o := ⟨_, rfl⟩
     have kl := hide (fun W => p1Lie_v (x1, x2) p b o W HAO.out okp okb ho)
     have km := hide (fun W => rMinus_v p b W okp okb)
     have p' := ok_bd okp
     have b' := ok_bd okb
     have kx := hide (fun W => rCross_any (b.1 - p.1) (b.2 - p.2) v1 v2 W (by omega) (by omega) hv1 hv2)
     have hon : o = true → r = decide (0 ≤ (b.1 - p.1) * v2 - (b.2 - p.2) * v1) := fun e => by
      rw [← HH.out, leadsR_edge HA.out hlt (by rw [hp, hb, ho, e]) HA2.out]
      unfold edgeR
      rw [hp, hb]
      rfl
     have hof : o = false → ∀ j, j < m + 1 → onB (x1, x2) (cor ps j) (cor ps (j + 1)) = false := fun e j hj => by
      by_cases ej : j = m
      ·rw [ej, hp, hb, ho, e]
      ·exact HA2.out j (by omega)
     have HON := hide hon
     have HOF := hide hof
     clear hon hof ho hpm hp hb okp okb p' b'
     obtain ⟨p1, p2⟩ := p
     obtain ⟨q1, q2⟩ := b
     dsimp only at g0 g1 kn kl km kx HON
     obtain ⟨d1, hd1⟩ : ∃ z, q1 - p1 = z := ⟨_, rfl⟩
     obtain ⟨d2, hd2⟩ : ∃ z, q2 - p2 = z := ⟨_, rfl⟩
     rw [hd1, hd2] at km kx HON
     clear hd1 hd2 hA1
     cases o
     ·have HO := hide (HOF.out rfl)
      clear HON HOF
      go_wp2_with fail
      refine wp_region_qas 9 [] [] hm (h := ?_)
      repeat (refine wpSteady_step (fun K hK => ?_); go_simp; first | (refine hK _ ?_; clear hK K) | (apply Exists.intro; refine ⟨fun _ => ?_, hK _ ?_⟩; (first | (go_at_call 36; with_reducible exact kn.out _ (HG0.out.trans (HG.out.trans (HG2.out.trans gw)))) | (go_at_call 74; with_reducible exact kl.out _)); clear hK K))
      refine rq0 fun nq osq => ?_
      try simp only [Act.put, setA]
      try dsimp only
      go_wp2_with fail
      go_roundw
      case rel => exact ⟨m + 1, by omega, by go_num, HG2.out.trans gw, show ∀ j, j < m + 1 → onB (x1, x2) (cor ps j) (cor ps (j + 1)) = false from HO.out⟩
      case measure => simp [intOf]; omega
     ·have hz := HON.out rfl
      subst hz
      clear HON HOF HH
      go_wp2_with fail
      refine wp_region_qas 9 [] [] hm (h := ?_)
      repeat (refine wpSteady_step (fun K hK => ?_); go_simp; first | (refine hK _ ?_; clear hK K) | (apply Exists.intro; refine ⟨fun _ => ?_, hK _ ?_⟩; (first | (go_at_call 36; with_reducible exact kn.out _ (HG0.out.trans (HG.out.trans (HG2.out.trans gw)))) | (go_at_call 74; with_reducible exact kl.out _)); clear hK K))
      refine rq0 fun nq osq => ?_
      try simp only [Act.put, setA]
      try dsimp only
      go_wp2_with fail
      refine wp_region_qas 12 [] [] hm (h := ?_)
      repeat (refine wpSteady_step (fun K hK => ?_); go_simp; first | (refine hK _ ?_; clear hK K) | (apply Exists.intro; refine ⟨fun _ => ?_, hK _ ?_⟩; (first | (go_at_call 36; with_reducible exact kn.out _ (HG0.out.trans (HG.out.trans (HG2.out.trans gw)))) | (go_at_call 72; with_reducible exact km.out _) | (go_at_call 71; with_reducible exact kx.out _)); clear hK K))
      refine rq0 fun nq osq => ?_
      try simp only [Act.put, setA]
      try dsimp only
      go_wp2_with fail
      go_ret
      exact Ret.mk' (ret_bool (decide_eq_decide.2 (by omega))) (HG0.out.trans (HG.out.trans (HG2.out.trans gw)))
    ·obtain rfl : m = ps.length := by omega
     obtain rfl : r = true := by rw [← HH.out]; exact leadsR_in HA.out HA2.out
     go_wp2_with fail
     go_ret
     exact Ret.mk' rfl (HG0.out.trans (HG.out.trans (HG2.out.trans gw)))
end Go.Proofs.YtndkfpmklmcjjaaGreat
