/- The reference implementation of package poly: Place, In. -/
import Derived.Test.YtndkfpmklmcjjaaGreatRfC
import Derived.Test.YtndkfpmklmcjjaaGreatJoN
set_option linter.unusedSimpArgs false
set_option linter.unusedVariables false
set_option maxHeartbeats 8000000
set_option maxRecDepth 100000
namespace Go.Proofs.YtndkfpmklmcjjaaGreat
open Go.RowKit Go.Sort
attribute [local go_sem] Steady steadyUpon
attribute [local go_sem ↓] hs_dr lt_add_r lt_add_r2 lt_add_r3 lt_add_r4 lt_add_r5 lt_add_r6
attribute [local go_sem] cell?_gd frozen?_gd setCell_gd size_grow tape_grow cell?_grow' frozen?_grow' setCell_grow' grow_grow grow_dr grow_drew dr_dr dr_drew drew_dr dr_alloc dr_setCell dr_cell dr_frozen dr_tape dr_drawn
attribute [local irreducible] wpSteady
/-- The winding number as far as an edge. -/
def wnTo (ps : List Pt) (q : Pt) (m : Nat) : Int := sumN (fun i => cw q (cor ps i) (cor ps (i + 1))) m
theorem cw_one {q a b : Pt} (h1 : a.2 ≤ q.2) (h2 : q.2 < b.2) : cw q a b = if 0 < tn a b q then 1 else 0 := by
 unfold cw dirE crossB b2i
 rw [if_pos (show a.2 ≤ b.2 by omega), if_neg (show ¬ b.2 < a.2 by omega), show decide (a.2 ≤ q.2 ∧ q.2 < b.2) = true by rw [decide_eq_true_eq]; exact ⟨h1, h2⟩]
 by_cases h : 0 < tn a b q
 ·rw [if_pos h]
  simp [h]
 ·rw [if_neg h]
  simp [h]
theorem cw_two {q a b : Pt} (h1 : b.2 ≤ q.2) (h2 : q.2 < a.2) : cw q a b = if tn a b q < 0 then -1 else 0 := by
 rw [cw_swap q b a, cw_one h1 h2, tn_swap a b q]
 by_cases h : tn a b q < 0
 ·rw [if_pos h, if_pos (by omega)]
 ·rw [if_neg h, if_neg (by omega)]
  rfl
theorem cw_none {q a b : Pt} (h1 : ¬ (a.2 ≤ q.2 ∧ q.2 < b.2)) (h2 : ¬ (b.2 ≤ q.2 ∧ q.2 < a.2)) : cw q a b = 0 := by
 have : crossB q a b = false := by
  unfold crossB
  split
  ·rw [decide_eq_false h2]
   rfl
  ·rw [decide_eq_false h1]
   rfl
 unfold cw
 rw [this]
 unfold b2i
 simp
theorem cw_bd1 (q a b : Pt) : -1 ≤ cw q a b ∧ cw q a b ≤ 1 := by
 by_cases h1 : a.2 ≤ q.2 ∧ q.2 < b.2
 ·rw [cw_one h1.1 h1.2]
  split <;> omega
 ·by_cases h2 : b.2 ≤ q.2 ∧ q.2 < a.2
  ·rw [cw_two h2.1 h2.2]
   split <;> omega
  ·rw [cw_none h1 h2]
   omega
theorem wnTo_bd (ps : List Pt) (q : Pt) : ∀ m : Nat, -(m : Int) ≤ wnTo ps q m ∧ wnTo ps q m ≤ m
 | 0 => by unfold wnTo sumN; omega
 | m + 1 => by
  have ih := wnTo_bd ps q m
  have := cw_bd1 q (cor ps m) (cor ps (m + 1))
  have e : wnTo ps q (m + 1) = wnTo ps q m + cw q (cor ps m) (cor ps (m + 1)) := rfl
  rw [e]
  omega
theorem on_any {ps : List Pt} {q : Pt} {m : Nat} (hm : m < ps.length) (h : onB q (cor ps m) (cor ps (m + 1)) = true) : onAny ps q = true := List.any_eq_true.2 ⟨m, List.mem_range.2 hm, h⟩
theorem on_none {ps : List Pt} {q : Pt} (h : ∀ j, j < ps.length → onB q (cor ps j) (cor ps (j + 1)) = false) : onAny ps q = false := by
 unfold onAny
 rw [List.any_eq_false]
 intro j hj
 rw [h j (List.mem_range.1 hj)]
 simp
theorem p3Place_v (ps : List Pt) (A : Option Addr) (c : Nat) (q : Pt) (r : Int) (w : World) (hr : Rd w w.heap.size 2 A (ps.map encD)) (hv : PValid ps = true) (hq : q.ok = true) (h : placeOf ps q = r) :
  Calls Tryz.prog 40 #[pt q.1 q.2, .slice A ps.length c] w (Ret w (.int .i64 r)) := by
 have hm := hmix
 have hp := pv_parts hv
 have hl : ps.length ≤ 100 := by have := hp.1; omega
 have hok : ps.all Pt.ok = true := hp.2
 rw [place_wn (pv_simp hv) q] at h
 have HR := hide hr
 have HOK := hide hok
 have HQ := hide hq
 have HH := hide h
 clear hr hok hq h hv hp
 go_enter Tryz.func40, Tryz.ntmps40
 go_wp2_with fail
 refine wp_name ?_
 intro W0 hW
 have HG0 : Hid (Grew w W0) := hide (by rw [← hW]; exact gw)
 have HB0 : Hid (W0.heap[w.heap.size]? = some (.cells #[.int .i64 q.1, .int .i64 q.2] 24 (0, 0))) := hide (by rw [← hW]; exact heap_alloc_at _ _ _ (by simp))
 clear hW
 go_loopw [5, 6] (fun s i wr => ∃ m : Nat, m ≤ ps.length ∧ i = .int .i64 m ∧ s = .int .i64 (wnTo ps q m) ∧ Grew W0 wr ∧ AppG (∀ j, j < m → onB q (cor ps j) (cor ps (j + 1)) = false)) (fun _ i _ => ps.length - (intOf i).toNat)
 case atStart => exact ⟨0, by omega, rfl, rfl, gw, show ∀ j, j < 0 → onB q (cor ps j) (cor ps (j + 1)) = false from fun j hj => by omega⟩
 case round =>
  obtain ⟨m, hmm, rfl, rfl, hg, hall⟩ := hrel
  have HG := hide hg
  have HA := hide hall.stop
  have hb0 := (hg.heap (blk_lt HB0.out)).trans HB0.out
  have z0 : wr.cell? ⟨w.heap.size, 0, none⟩ = some _ := blk_cell hb0 0
  have z1 : wr.cell? ⟨w.heap.size, 1, none⟩ = some _ := blk_cell hb0 1
  have zl := blk_lt hb0
  have hbd := wnTo_bd ps q m
  clear hg hall hb0
  by_cases hlt : m < ps.length
  ·obtain ⟨a, ha⟩ : ∃ a, cor ps m = a := ⟨_, rfl⟩
   obtain ⟨b, hb⟩ : ∃ a, cor ps (m + 1) = a := ⟨_, rfl⟩
   have oka : a.ok = true := by rw [← ha]; exact cor_ok HOK.out _
   have okb : b.ok = true := by rw [← hb]; exact cor_ok HOK.out _
   have hst : wnTo ps q (m + 1) = wnTo ps q m + cw q a b := by rw [← ha, ← hb]; rfl
   have hpm := cor_get hlt
   rw [ha] at hpm
   obtain ⟨b1, off1, hA1, hb1, g0, g1⟩ := ptAt (HR.out.up (HG0.out.trans HG.out)) hpm
   have hix1 := idx_run (cap := c) Tryz.underlying22 Tryz.sizeOf24 hA1.out hlt
   have kn := hide (fun W (hg : Grew w W) => Next_v ps A c m b W (HR.out.up hg) (by omega) hlt hb)
   obtain ⟨o, ho⟩ : ∃ o, onB q a b = o := ⟨_, rfl⟩
   obtain ⟨t, ht⟩ : ∃ t, tn a b q = t := ⟨_, rfl⟩
   have kl := hide (fun W => p1Lie_v q a b o W HQ.out oka okb ho)
   have kt := hide (fun W => rturn_v a b q t W oka okb HQ.out ht)
   have hon1 : o = true → onAny ps q = true := fun e => on_any hlt (by rw [ha, hb, ho, e])
   have hon2 : o = false → ∀ j, j < m + 1 → onB q (cor ps j) (cor ps (j + 1)) = false := fun e j hj => by
    by_cases ej : j = m
    ·rw [ej, ha, hb, ho, e]
    ·exact HA.out j (by omega)
   have hc1 : a.2 ≤ q.2 → q.2 < b.2 → wnTo ps q (m + 1) = wnTo ps q m + if 0 < t then 1 else 0 := fun e1 e2 => by rw [hst, cw_one e1 e2, ht]
   have hc2 : b.2 ≤ q.2 → q.2 < a.2 → wnTo ps q (m + 1) = wnTo ps q m + if t < 0 then -1 else 0 := fun e1 e2 => by rw [hst, cw_two e1 e2, ht]
   have hc3 : ¬ (a.2 ≤ q.2 ∧ q.2 < b.2) → ¬ (b.2 ≤ q.2 ∧ q.2 < a.2) → wnTo ps q (m + 1) = wnTo ps q m := fun e1 e2 => by rw [hst, cw_none e1 e2, Int.add_zero]
   have H1 := hide hon1
   have H2 := hide hon2
   have HC1 := hide hc1
   have HC2 := hide hc2
   have HC3 := hide hc3
   obtain ⟨s, hs⟩ : ∃ s, wnTo ps q m = s := ⟨_, rfl⟩
   rw [hs] at hbd HC1 HC2 HC3
   rw [hs]
   obtain ⟨q1, q2⟩ := q
   obtain ⟨a1, a2⟩ := a
   obtain ⟨b1', b2⟩ := b
   dsimp only at g0 g1 kn kl kt z0 z1 HC1 HC2 HC3
   clear ha hb oka okb hst hpm hA1 ho ht hon1 hon2 hc1 hc2 hc3 hs
   cases o
   ·have HO := hide (H2.out rfl)
    clear H1 H2
    have hcase : (a2 ≤ q2 ∧ q2 < b2 ∧ 0 < t) ∨ (a2 ≤ q2 ∧ q2 < b2 ∧ ¬ 0 < t) ∨ (a2 ≤ q2 ∧ ¬ q2 < b2 ∧ b2 ≤ q2 ∧ ¬ q2 < a2) ∨ (¬ a2 ≤ q2 ∧ b2 ≤ q2 ∧ t < 0) ∨ (¬ a2 ≤ q2 ∧ b2 ≤ q2 ∧ ¬ t < 0) ∨ (¬ a2 ≤ q2 ∧ ¬ b2 ≤ q2) := by omega
    rcases hcase with ⟨c1, c2, c3⟩ | ⟨c1, c2, c3⟩ | ⟨c1, c2, c3, c4⟩ | ⟨c1, c2, c3⟩ | ⟨c1, c2, c3⟩ | ⟨c1, c2⟩
    ·have c5 : ¬ b2 ≤ q2 := by omega
     have HS := hide (show wnTo ps (q1, q2) (m + 1) = s + 1 by rw [HC1.out c1 c2, if_pos c3])
     clear HC1 HC2 HC3
     go_wp2_with (first | (go_at_call 36; with_reducible refine crv (kn.out _ (HG0.out.trans (HG.out.trans gw))) fun _ _ => ?_; dsimp only) | (go_at_call 74; with_reducible refine crv (kl.out _) fun _ _ => ?_; dsimp only) | (go_at_call 35; with_reducible refine crv (kt.out _) fun _ _ => ?_; dsimp only))
     go_roundw
     case rel => exact ⟨m + 1, by omega, by go_num, ret_int (by rw [HS.out]), HG.out.trans gw, show ∀ j, j < m + 1 → onB (q1, q2) (cor ps j) (cor ps (j + 1)) = false from HO.out⟩
     case measure => simp [intOf]; omega
    ·have c5 : ¬ b2 ≤ q2 := by omega
     have HS := hide (show wnTo ps (q1, q2) (m + 1) = s by rw [HC1.out c1 c2, if_neg c3, Int.add_zero])
     clear HC1 HC2 HC3
     go_wp2_with (first | (go_at_call 36; with_reducible refine crv (kn.out _ (HG0.out.trans (HG.out.trans gw))) fun _ _ => ?_; dsimp only) | (go_at_call 74; with_reducible refine crv (kl.out _) fun _ _ => ?_; dsimp only) | (go_at_call 35; with_reducible refine crv (kt.out _) fun _ _ => ?_; dsimp only))
     go_roundw
     case rel => exact ⟨m + 1, by omega, by go_num, ret_int (by rw [HS.out]), HG.out.trans gw, show ∀ j, j < m + 1 → onB (q1, q2) (cor ps j) (cor ps (j + 1)) = false from HO.out⟩
     case measure => simp [intOf]; omega
    ·have HS := hide (show wnTo ps (q1, q2) (m + 1) = s from HC3.out (by omega) (by omega))
     clear HC1 HC2 HC3
     go_wp2_with (first | (go_at_call 36; with_reducible refine crv (kn.out _ (HG0.out.trans (HG.out.trans gw))) fun _ _ => ?_; dsimp only) | (go_at_call 74; with_reducible refine crv (kl.out _) fun _ _ => ?_; dsimp only) | (go_at_call 35; with_reducible refine crv (kt.out _) fun _ _ => ?_; dsimp only))
     go_roundw
     case rel => exact ⟨m + 1, by omega, by go_num, ret_int (by rw [HS.out]), HG.out.trans gw, show ∀ j, j < m + 1 → onB (q1, q2) (cor ps j) (cor ps (j + 1)) = false from HO.out⟩
     case measure => simp [intOf]; omega
    ·have c5 : q2 < a2 := by omega
     have HS := hide (show wnTo ps (q1, q2) (m + 1) = s - 1 by rw [HC2.out c2 c5, if_pos c3]; omega)
     clear HC1 HC2 HC3
     go_wp2_with (first | (go_at_call 36; with_reducible refine crv (kn.out _ (HG0.out.trans (HG.out.trans gw))) fun _ _ => ?_; dsimp only) | (go_at_call 74; with_reducible refine crv (kl.out _) fun _ _ => ?_; dsimp only) | (go_at_call 35; with_reducible refine crv (kt.out _) fun _ _ => ?_; dsimp only))
     go_roundw
     case rel => exact ⟨m + 1, by omega, by go_num, ret_int (by rw [HS.out]), HG.out.trans gw, show ∀ j, j < m + 1 → onB (q1, q2) (cor ps j) (cor ps (j + 1)) = false from HO.out⟩
     case measure => simp [intOf]; omega
    ·have c5 : q2 < a2 := by omega
     have HS := hide (show wnTo ps (q1, q2) (m + 1) = s by rw [HC2.out c2 c5, if_neg c3, Int.add_zero])
     clear HC1 HC2 HC3
     go_wp2_with (first | (go_at_call 36; with_reducible refine crv (kn.out _ (HG0.out.trans (HG.out.trans gw))) fun _ _ => ?_; dsimp only) | (go_at_call 74; with_reducible refine crv (kl.out _) fun _ _ => ?_; dsimp only) | (go_at_call 35; with_reducible refine crv (kt.out _) fun _ _ => ?_; dsimp only))
     go_roundw
     case rel => exact ⟨m + 1, by omega, by go_num, ret_int (by rw [HS.out]), HG.out.trans gw, show ∀ j, j < m + 1 → onB (q1, q2) (cor ps j) (cor ps (j + 1)) = false from HO.out⟩
     case measure => simp [intOf]; omega
    ·have HS := hide (show wnTo ps (q1, q2) (m + 1) = s from HC3.out (by omega) (by omega))
     clear HC1 HC2 HC3
     go_wp2_with (first | (go_at_call 36; with_reducible refine crv (kn.out _ (HG0.out.trans (HG.out.trans gw))) fun _ _ => ?_; dsimp only) | (go_at_call 74; with_reducible refine crv (kl.out _) fun _ _ => ?_; dsimp only) | (go_at_call 35; with_reducible refine crv (kt.out _) fun _ _ => ?_; dsimp only))
     go_roundw
     case rel => exact ⟨m + 1, by omega, by go_num, ret_int (by rw [HS.out]), HG.out.trans gw, show ∀ j, j < m + 1 → onB (q1, q2) (cor ps j) (cor ps (j + 1)) = false from HO.out⟩
     case measure => simp [intOf]; omega
   ·have hz : r = 0 := by rw [← HH.out, if_pos (H1.out rfl)]
    subst hz
    clear H1 H2 HC1 HC2 HC3
    go_wp2_with (first | (go_at_call 36; with_reducible refine crv (kn.out _ (HG0.out.trans (HG.out.trans gw))) fun _ _ => ?_; dsimp only) | (go_at_call 74; with_reducible refine crv (kl.out _) fun _ _ => ?_; dsimp only))
    go_ret
    exact Ret.mk' rfl (HG0.out.trans (HG.out.trans gw))
  ·obtain rfl : m = ps.length := by omega
   have hr2 : r = if wnTo ps q ps.length = 0 then -1 else 1 := by
    rw [← HH.out, on_none HA.out, if_neg (by simp)]
    rfl
   obtain ⟨s, hs⟩ : ∃ s, wnTo ps q ps.length = s := ⟨_, rfl⟩
   rw [hs] at hr2 hbd ⊢
   clear hs
   by_cases h0 : s = 0
   ·subst h0
    rw [if_pos rfl] at hr2
    subst hr2
    go_wp2_with fail
    go_ret
    exact Ret.mk' rfl (HG0.out.trans (HG.out.trans gw))
   ·have h1 : (s == 0) = false := by simpa using h0
    rw [if_neg h0] at hr2
    subst hr2
    go_wp2_with fail
    go_ret
    exact Ret.mk' rfl (HG0.out.trans (HG.out.trans gw))
theorem p3In_v (ps : List Pt) (A : Option Addr) (c : Nat) (q : Pt) (r : Int × Int) (w : World) (hr : Rd w w.heap.size 2 A (ps.map encD)) (hc : ps.length ≤ 100000000000000) (h : inOf ps q = r) :
  Calls Tryz.prog 8 #[pt q.1 q.2, .slice A ps.length c] w (Ret w (.tuple #[.int .i64 r.1, .int .i64 r.2])) := by
 have hm := hmix
 obtain ⟨u, hu⟩ : ∃ u, q.ok = u := ⟨_, rfl⟩
 obtain ⟨v, hv⟩ : ∃ u, PValid ps = u := ⟨_, rfl⟩
 have k1 := hide (fun W => p1Valid_v q.1 q.2 u W hu)
 have k2 := hide (fun W (hg : Grew w W) => p3Valid_v ps A c v W (hr.up hg) hc hv)
 unfold inOf at h
 rw [hu, hv] at h
 have HR := hide hr
 have hcase : u = false ∨ (u = true ∧ v = false) ∨ (u = true ∧ v = true) := by cases u <;> cases v <;> simp
 rcases hcase with rfl | ⟨rfl, rfl⟩ | ⟨rfl, rfl⟩
 ·rw [if_neg (by simp)] at h
  subst h
  clear hu hv hr
  obtain ⟨q1, q2⟩ := q
  dsimp only at k1 ⊢
  go_enter Tryz.func8, Tryz.ntmps8
  go_wp2_with (first | (go_at_call 33; with_reducible refine crv (k1.out _) fun _ _ => ?_; dsimp only) | (go_at_call 6; with_reducible refine crv (k2.out _ gw) fun _ _ => ?_; dsimp only))
  go_ret2
  exact Ret.mk' rfl gw
 ·rw [if_neg (by simp)] at h
  subst h
  clear hu hv hr
  obtain ⟨q1, q2⟩ := q
  dsimp only at k1 ⊢
  go_enter Tryz.func8, Tryz.ntmps8
  go_wp2_with (first | (go_at_call 33; with_reducible refine crv (k1.out _) fun _ _ => ?_; dsimp only) | (go_at_call 6; with_reducible refine crv (k2.out _ gw) fun _ _ => ?_; dsimp only))
  go_ret2
  exact Ret.mk' rfl gw
 ·rw [if_pos (by rfl)] at h
  subst h
  have k3 := hide (fun W (hg : Grew w W) => p3Place_v ps A c q _ W (HR.out.up hg) hv hu rfl)
  generalize placeOf ps q = z at *
  clear hu hv hr
  obtain ⟨q1, q2⟩ := q
  dsimp only at k1 k3 ⊢
  go_enter Tryz.func8, Tryz.ntmps8
  go_wp2_with (first | (go_at_call 33; with_reducible refine crv (k1.out _) fun _ _ => ?_; dsimp only) | (go_at_call 6; with_reducible refine crv (k2.out _ gw) fun _ _ => ?_; dsimp only) | (go_at_call 40; with_reducible refine crv (k3.out _ gw) fun _ _ => ?_; dsimp only))
  go_ret2
  exact Ret.mk' rfl gw
end Go.Proofs.YtndkfpmklmcjjaaGreat
