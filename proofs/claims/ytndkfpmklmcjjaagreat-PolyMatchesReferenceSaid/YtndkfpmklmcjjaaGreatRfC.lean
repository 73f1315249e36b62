/- The reference implementation of package poly: Valid, Box, Rect; boxes of package span. -/
import Derived.Test.YtndkfpmklmcjjaaGreatRfB
import Derived.Test.YtndkfpmklmcjjaaGreatPov
set_option linter.unusedSimpArgs false
set_option linter.unusedVariables false
set_option maxHeartbeats 8000000
set_option maxRecDepth 100000
namespace Go.Proofs.YtndkfpmklmcjjaaGreat
open Go.RowKit Go.Sort
attribute [local go_sem] Steady steadyUpon
attribute [local go_sem ↓] hs_dr lt_add_r lt_add_r2 lt_add_r3 lt_add_r4 lt_add_r5 lt_add_r6
attribute [local go_sem] cell?_gd frozen?_gd setCell_gd size_grow tape_grow cell?_grow' frozen?_grow' setCell_grow' grow_grow grow_dr grow_drew dr_dr dr_drew drew_dr dr_alloc dr_setCell dr_cell dr_frozen dr_tape dr_drawn
attribute [local irreducible] wpSteady
/-- A corner, as the reference asks ahead of the turns. -/
def frontOk (ps : List Pt) (j : Nat) : Bool := (cor ps j).ok && (decide (j = 0) || decide (ord (cor ps 0) (cor ps j) < 0))
def bendOk (ps : List Pt) (j : Nat) : Bool := tn (cor ps j) (cor ps (j + 1)) (cor ps (j + 2)) != 0
theorem cor_pr (ps : List Pt) (k : Nat) : cor ps (k + ps.length) = cor ps k := by unfold cor; rw [Nat.add_mod_right]
theorem pv_no_vert {ps : List Pt} {i : Nat} (hi : i < ps.length) (h : vertOk ps i = false) : PValid ps = false := by
 have : (List.range ps.length).all (vertOk ps) = false := by
  rw [List.all_eq_false]
  exact ⟨i, List.mem_range.2 hi, by rw [h]; simp⟩
 unfold PValid
 rw [this]
 simp
theorem pv_front {ps : List Pt} {m : Nat} (hm : m < ps.length) (h : frontOk ps m = false) : PValid ps = false := by
 unfold frontOk at h
 cases hok : (cor ps m).ok
 ·have : ps.all Pt.ok = false := all_false_at (cor_get hm) hok
  unfold PValid
  rw [this]
  simp
 ·rw [hok, Bool.true_and, Bool.or_eq_false_iff, decide_eq_false_iff_not, decide_eq_false_iff_not] at h
  refine pv_no_vert hm ?_
  unfold vertOk
  rw [decide_eq_true (show 0 < m by omega), decide_eq_true (show 0 ≤ ord (cor ps 0) (cor ps m) by omega)]
  simp
theorem pv_bend {ps : List Pt} {m : Nat} (hm : m < ps.length) (h : bendOk ps m = false) : PValid ps = false := by
 unfold bendOk at h
 have h0 : tn (cor ps m) (cor ps (m + 1)) (cor ps (m + 2)) = 0 := by simpa using h
 by_cases he : m + 1 < ps.length
 ·refine pv_no_vert he ?_
  unfold vertOk
  rw [show m + 1 + ps.length - 1 = m + ps.length by omega, cor_pr, h0]
  simp
 ·have e : m + 1 = ps.length := by omega
  refine pv_no_vert (i := 0) (by omega) ?_
  unfold vertOk
  have e1 : cor ps (m + 1) = cor ps 0 := by rw [e, ← Nat.zero_add ps.length, cor_pr]
  have e2 : cor ps (m + 2) = cor ps (0 + 1) := by rw [show m + 2 = 0 + 1 + ps.length by omega, cor_pr]
  rw [show 0 + ps.length - 1 = m by omega, ← e1, ← e2, h0]
  simp
theorem front_all {ps : List Pt} (h : (List.range ps.length).all (frontOk ps) = true) : ps.all Pt.ok = true := by
 rw [List.all_eq_true]
 intro p hp
 obtain ⟨k, hk, e⟩ := List.mem_iff_getElem.1 hp
 have h1 := List.all_eq_true.1 h k (List.mem_range.2 hk)
 have h2 := cor_get hk
 rw [List.getElem?_eq_getElem hk, e] at h2
 injection h2 with h2
 unfold frontOk at h1
 rw [← h2, Bool.and_eq_true] at h1
 exact h1.1
theorem vert_all {ps : List Pt} (h1 : (List.range ps.length).all (frontOk ps) = true) (h2 : (List.range ps.length).all (bendOk ps) = true) : (List.range ps.length).all (vertOk ps) = true := by
 rw [List.all_eq_true]
 intro i hi
 have hi' := List.mem_range.1 hi
 have a1 := List.all_eq_true.1 h1 i hi
 unfold frontOk at a1
 rw [Bool.and_eq_true, Bool.or_eq_true, decide_eq_true_eq, decide_eq_true_eq] at a1
 have a2 : tn (cor ps (i + ps.length - 1)) (cor ps i) (cor ps (i + 1)) ≠ 0 := by
  by_cases h0 : i = 0
  ·subst h0
   have b := List.all_eq_true.1 h2 (ps.length - 1) (List.mem_range.2 (by omega))
   unfold bendOk at b
   have e1 : cor ps (ps.length - 1 + 1) = cor ps 0 := by rw [show ps.length - 1 + 1 = 0 + ps.length by omega, cor_pr]
   have e2 : cor ps (ps.length - 1 + 2) = cor ps (0 + 1) := by rw [show ps.length - 1 + 2 = 0 + 1 + ps.length by omega, cor_pr]
   rw [e1, e2] at b
   rw [show 0 + ps.length - 1 = ps.length - 1 by omega]
   simpa using b
  ·have b := List.all_eq_true.1 h2 (i - 1) (List.mem_range.2 (by omega))
   unfold bendOk at b
   rw [show i - 1 + 1 = i by omega, show i - 1 + 2 = i + 1 by omega] at b
   rw [show i + ps.length - 1 = i - 1 + ps.length by omega, cor_pr]
   simpa using b
 unfold vertOk
 rw [Bool.not_eq_true', Bool.or_eq_false_iff]
 refine ⟨?_, by simpa using a2⟩
 rcases a1.2 with h0 | h0
 ·simp [h0]
 ·simp; omega
theorem pv_rest {ps : List Pt} (hn : 3 ≤ ps.length ∧ ps.length ≤ 24) (h1 : (List.range ps.length).all (frontOk ps) = true) (h2 : (List.range ps.length).all (bendOk ps) = true) : PValid ps = (simpleOf ps && decide (0 < twiceOf ps)) := by
 unfold PValid
 rw [decide_eq_true hn, front_all h1, vert_all h1 h2, Bool.true_and, Bool.true_and, Bool.true_and]
theorem p3Valid_v (ps : List Pt) (A : Option Addr) (c : Nat) (r : Bool) (w : World) (hr : Rd w w.heap.size 2 A (ps.map encD)) (hc : ps.length ≤ 100000000000000) (h : PValid ps = r) :
  Calls Tryz.prog 6 #[.slice A ps.length c] w (Ret w (.bool r)) := by
 have hm := hmix
 by_cases h3 : ps.length < 3
 ·obtain rfl : r = false := by
   rw [← h]; unfold PValid
   rw [show decide (3 ≤ ps.length ∧ ps.length ≤ 24) = false by simp; omega]
   rfl
  clear h
  go_enter Tryz.func6, Tryz.ntmps6
  go_wp2_with fail
  go_ret
  exact Ret.mk' rfl gw
 by_cases h24 : 24 < ps.length
 ·obtain rfl : r = false := by
   rw [← h]; unfold PValid
   rw [show decide (3 ≤ ps.length ∧ ps.length ≤ 24) = false by simp; omega]
   rfl
  clear h
  go_enter Tryz.func6, Tryz.ntmps6
  go_wp2_with fail
  go_ret
  exact Ret.mk' rfl gw
 have HR := hide hr
 have HS := hide h
 clear hr h
 go_enter Tryz.func6, Tryz.ntmps6
 go_wp2_with fail
 go_loopw [4] (fun i wr => ∃ m : Nat, m ≤ ps.length ∧ i = .int .i64 m ∧ Grew w wr ∧ AppG ((List.range m).all (frontOk ps) = true)) (fun i _ => ps.length - (intOf i).toNat)
 case atStart => exact ⟨0, by omega, rfl, gw, show (List.range 0).all _ = true from rfl⟩
 case round =>
  obtain ⟨m, hmm, rfl, hg, hall⟩ := hrel
  have HG := hide hg
  have HA := hide hall.stop
  clear hg hall
  by_cases hlt : m < ps.length
  ·obtain ⟨p, hp⟩ : ∃ a, cor ps m = a := ⟨_, rfl⟩
   obtain ⟨z, hz⟩ : ∃ a, cor ps 0 = a := ⟨_, rfl⟩
   obtain ⟨o, ho⟩ : ∃ o, p.ok = o := ⟨_, rfl⟩
   obtain ⟨v, hv⟩ : ∃ v, decide (ord z p < 0) = v := ⟨_, rfl⟩
   have hfr : frontOk ps m = (o && (decide (m = 0) || v)) := by unfold frontOk; rw [hp, hz, ho, hv]
   have hpm := cor_get hlt
   have hpz := cor_get (ps := ps) (k := 0) (by omega)
   rw [hp] at hpm
   rw [hz] at hpz
   obtain ⟨b1, off1, hA1, hb1, g0, g1⟩ := ptAt (HR.out.up HG.out) hpm
   obtain ⟨b2, off2, hA2, hb2, g2, g3⟩ := ptAt (HR.out.up HG.out) hpz
   rw [show off2 + 0 * 2 = off2 by omega] at g2 g3
   have hix1 := idx_run (cap := c) Tryz.underlying22 Tryz.sizeOf24 hA1.out hlt
   have hix2 := idx_run0 (cap := c) Tryz.underlying22 Tryz.sizeOf24 hA2.out (show 0 < ps.length by omega)
   have kv := hide (fun W => p1Valid_v p.1 p.2 o W ho)
   have kl := hide (fun W => p3less_v z p v W hv)
   have HF := hide hfr
   obtain ⟨p1, p2⟩ := p
   obtain ⟨z1, z2⟩ := z
   dsimp only at g0 g1 g2 g3 kv kl
   clear hp hz ho hv hfr hpm hpz hA1 hA2
   cases o
   ·obtain rfl : r = false := by rw [← HS.out]; exact pv_front hlt (by rw [HF.out]; rfl)
    go_wp2_with (go_at_call 33; with_reducible refine crv (kv.out _) fun _ _ => ?_; dsimp only)
    refine wp_region_qas 17 [] [] hm (h := ?_)
    repeat (refine wpSteady_step (fun K hK => ?_); go_simp; first | (refine hK _ ?_; clear hK K) | (apply Exists.intro; refine ⟨fun _ => ?_, hK _ ?_⟩; ((go_at_call 34; with_reducible exact kl.out _)); clear hK K))
    refine rq0 fun nq osq => ?_
    try simp only [Act.put, setA]
    try dsimp only
    go_wp2_with fail
    go_ret
    exact Ret.mk' rfl (HG.out.trans gw)
   ·by_cases hm0 : m = 0
    ·have nm : ¬ 0 < m := by omega
     have nm2 := decide_eq_false nm
     have hpt : frontOk ps m = true := by rw [HF.out]; simp [hm0]
     have HPT := hide hpt
     clear hm0 hpt
     go_wp2_with (go_at_call 33; with_reducible refine crv (kv.out _) fun _ _ => ?_; dsimp only)
     refine wp_region_qas 17 [] [] hm (h := ?_)
     repeat (refine wpSteady_step (fun K hK => ?_); go_simp; first | (refine hK _ ?_; clear hK K) | (apply Exists.intro; refine ⟨fun _ => ?_, hK _ ?_⟩; ((go_at_call 34; with_reducible exact kl.out _)); clear hK K))
     refine rq0 fun nq osq => ?_
     try simp only [Act.put, setA]
     try dsimp only
     go_wp2_with fail
     go_roundw
     case rel => exact ⟨m + 1, by omega, by go_num, HG.out.trans gw, show (List.range (m + 1)).all (frontOk ps) = true from range_all_succ HA.out HPT.out⟩
     case measure => simp [intOf]; omega
    ·have nm : 0 < m := by omega
     have nm2 := decide_eq_true nm
     have HM := hide hm0
     clear hm0
     cases v
     ·obtain rfl : r = false := by rw [← HS.out]; exact pv_front hlt (by rw [HF.out]; simp [HM.out])
      go_wp2_with (go_at_call 33; with_reducible refine crv (kv.out _) fun _ _ => ?_; dsimp only)
      refine wp_region_qas 17 [] [] hm (h := ?_)
      repeat (refine wpSteady_step (fun K hK => ?_); go_simp; first | (refine hK _ ?_; clear hK K) | (apply Exists.intro; refine ⟨fun _ => ?_, hK _ ?_⟩; ((go_at_call 34; with_reducible exact kl.out _)); clear hK K))
      refine rq0 fun nq osq => ?_
      try simp only [Act.put, setA]
      try dsimp only
      go_wp2_with fail
      go_ret
      exact Ret.mk' rfl (HG.out.trans gw)
     ·have hpt : frontOk ps m = true := by rw [HF.out]; simp
      have HPT := hide hpt
      clear hpt
      go_wp2_with (go_at_call 33; with_reducible refine crv (kv.out _) fun _ _ => ?_; dsimp only)
      refine wp_region_qas 17 [] [] hm (h := ?_)
      repeat (refine wpSteady_step (fun K hK => ?_); go_simp; first | (refine hK _ ?_; clear hK K) | (apply Exists.intro; refine ⟨fun _ => ?_, hK _ ?_⟩; ((go_at_call 34; with_reducible exact kl.out _)); clear hK K))
      refine rq0 fun nq osq => ?_
      try simp only [Act.put, setA]
      try dsimp only
      go_wp2_with fail
      go_roundw
      case rel => exact ⟨m + 1, by omega, by go_num, HG.out.trans gw, show (List.range (m + 1)).all (frontOk ps) = true from range_all_succ HA.out HPT.out⟩
      case measure => simp [intOf]; omega
  ·obtain rfl : m = ps.length := by omega
   have HOK := hide (front_all HA.out)
   go_wp2_with fail
   refine wp_name ?_
   intro W1 hW
   have HG1 : Hid (Grew w W1) := hide (by rw [← hW]; exact HG.out.trans gw)
   clear hW HG
   go_loopw [6] (fun i wr => ∃ m : Nat, m ≤ ps.length ∧ i = .int .i64 m ∧ Grew W1 wr ∧ AppG ((List.range m).all (bendOk ps) = true)) (fun i _ => ps.length - (intOf i).toNat)
   case atStart => exact ⟨0, by omega, rfl, gw, show (List.range 0).all _ = true from rfl⟩
   case round =>
    obtain ⟨m, hmm2, rfl, hg, hall⟩ := hrel
    have HG := hide hg
    have HA2 := hide hall.stop
    clear hg hall
    by_cases hlt : m < ps.length
    ·obtain ⟨a, ha⟩ : ∃ a, cor ps m = a := ⟨_, rfl⟩
     obtain ⟨b, hb⟩ : ∃ a, cor ps (m + 1) = a := ⟨_, rfl⟩
     obtain ⟨d, hd⟩ : ∃ a, cor ps (m + 2) = a := ⟨_, rfl⟩
     have oka : a.ok = true := by rw [← ha]; exact cor_ok HOK.out _
     have okb : b.ok = true := by rw [← hb]; exact cor_ok HOK.out _
     have okd : d.ok = true := by rw [← hd]; exact cor_ok HOK.out _
     obtain ⟨t, ht⟩ : ∃ t, tn a b d = t := ⟨_, rfl⟩
     have hbd : bendOk ps m = (t != 0) := by unfold bendOk; rw [ha, hb, hd, ht]
     obtain ⟨j, hj⟩ : ∃ j, (m + 2) % ps.length = j := ⟨_, rfl⟩
     have hjl : j < ps.length := by rw [← hj]; exact Nat.mod_lt _ (by omega)
     have hpj := cor_mod (ps := ps) (m + 2) (by omega)
     rw [hj, hd] at hpj
     have hpm := cor_get hlt
     rw [ha] at hpm
     obtain ⟨b1, off1, hA1, hb1, g0, g1⟩ := ptAt (HR.out.up (HG1.out.trans HG.out)) hpm
     obtain ⟨b2, off2, hA2, hb2, g2, g3⟩ := ptAt (HR.out.up (HG1.out.trans HG.out)) hpj
     have hix1 := idx_run (cap := c) Tryz.underlying22 Tryz.sizeOf24 hA1.out hlt
     have hix2 := idx_run (cap := c) (k := j) (len := ps.length) Tryz.underlying22 Tryz.sizeOf24 hA2.out hjl
     have ej : ((m : Int) + 2) % (ps.length : Int) = (j : Int) := by rw [← hj, show (m : Int) + 2 = ((m + 2 : Nat) : Int) by omega, Int.natCast_emod]
     have hne : ¬ (ps.length : Int) = 0 := by omega
     have hne2 : ¬ ps = [] := by intro e; rw [e] at hjl; simp at hjl
     have hnn : 0 ≤ (m : Int) + 2 := by omega
     have ew : IntKind.i64.wrap ((m : Int) + 2) = (m : Int) + 2 := by unfold IntKind.wrap; simp [IntKind.bits, IntKind.signed]; omega
     have ej' := ej
     rw [← Int.tmod_eq_emod_of_nonneg hnn] at ej'
     have kn := hide (fun W (hg : Grew w W) => Next_v ps A c m b W (HR.out.up hg) (by omega) hlt hb)
     have kt := hide (fun W => rturn_v a b d t W oka okb okd ht)
     have HB := hide hbd
     obtain ⟨a1, a2⟩ := a
     obtain ⟨b1', b2'⟩ := b
     obtain ⟨d1, d2⟩ := d
     dsimp only at g0 g1 g2 g3 kn kt
     clear ha hb hd oka okb okd ht hbd hj hpj hpm hA1 hA2
     by_cases ht0 : t = 0
     ·subst ht0
      obtain rfl : r = false := by rw [← HS.out]; exact pv_bend hlt (by rw [HB.out]; rfl)
      go_wp2_with fail
      refine wp_region_qas 16 [] [] hm (h := ?_)
      repeat (refine wpSteady_step (fun K hK => ?_); go_simp; first | (refine hK _ ?_; clear hK K) | (apply Exists.intro; refine ⟨fun _ => ?_, hK _ ?_⟩; (first | (go_at_call 36; with_reducible exact kn.out _ (HG1.out.trans (HG.out.trans gw))) | (go_at_call 35; with_reducible exact kt.out _)); clear hK K))
      refine rq0 fun nq osq => ?_
      try simp only [Act.put, setA]
      try dsimp only
      go_wp2_with fail
      go_ret
      exact Ret.mk' rfl (HG1.out.trans (HG.out.trans gw))
     ·have ht1 : (t == 0) = false := by simpa using ht0
      have hpt : bendOk ps m = true := by rw [HB.out]; simpa using ht0
      have HPT := hide hpt
      clear hpt
      go_wp2_with fail
      refine wp_region_qas 16 [] [] hm (h := ?_)
      repeat (refine wpSteady_step (fun K hK => ?_); go_simp; first | (refine hK _ ?_; clear hK K) | (apply Exists.intro; refine ⟨fun _ => ?_, hK _ ?_⟩; (first | (go_at_call 36; with_reducible exact kn.out _ (HG1.out.trans (HG.out.trans gw))) | (go_at_call 35; with_reducible exact kt.out _)); clear hK K))
      refine rq0 fun nq osq => ?_
      try simp only [Act.put, setA]
      try dsimp only
      go_wp2_with fail
      go_roundw
      case rel => exact ⟨m + 1, by omega, by go_num, HG.out.trans gw, show (List.range (m + 1)).all (bendOk ps) = true from range_all_succ HA2.out HPT.out⟩
      case measure => simp [intOf]; omega
    ·obtain rfl : m = ps.length := by omega
     have hrest := pv_rest (ps := ps) (by omega) HA.out HA2.out
     rw [HS.out] at hrest
     have k1 := hide (fun W (hg : Grew w W) => p3simple_v ps A c _ W (HR.out.up hg) (by omega) HOK.out rfl)
     have k2 := hide (fun W (hg : Grew w W) => p3twice_v ps A c _ W (HR.out.up hg) (by omega) HOK.out rfl)
     obtain ⟨s, hs⟩ : ∃ s, simpleOf ps = s := ⟨_, rfl⟩
     obtain ⟨t, ht⟩ : ∃ s, twiceOf ps = s := ⟨_, rfl⟩
     rw [hs, ht] at hrest
     rw [hs] at k1
     rw [ht] at k2
     have HRS := hide hrest
     clear hs ht hrest
     cases s
     ·go_wp2_with (go_at_call 37; with_reducible refine crv (k1.out _ (HG1.out.trans (HG.out.trans gw))) fun _ _ => ?_; dsimp only)
      go_ret
      exact Ret.mk' (ret_bool (by rw [HRS.out]; rfl)) (HG1.out.trans (HG.out.trans gw))
     ·go_wp2_with (first | (go_at_call 37; with_reducible refine crv (k1.out _ (HG1.out.trans (HG.out.trans gw))) fun _ _ => ?_; dsimp only) | (go_at_call 38; with_reducible refine crv (k2.out _ (HG1.out.trans (HG.out.trans gw))) fun _ _ => ?_; dsimp only))
      go_ret
      exact Ret.mk' (ret_bool (by rw [HRS.out]; simp)) (HG1.out.trans (HG.out.trans gw))
end Go.Proofs.YtndkfpmklmcjjaaGreat
