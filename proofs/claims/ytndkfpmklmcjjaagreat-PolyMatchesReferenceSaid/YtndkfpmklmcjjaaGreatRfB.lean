/- The reference implementation of package poly: less, simple, twice, Valid. -/
import Derived.Test.YtndkfpmklmcjjaaGreatRfA
import Derived.Test.YtndkfpmklmcjjaaGreatPod
set_option linter.unusedSimpArgs false
set_option linter.unusedVariables false
set_option maxHeartbeats 8000000
set_option maxRecDepth 100000
namespace Go.Proofs.YtndkfpmklmcjjaaGreat
open Go.RowKit Go.Sort
attribute [local go_sem] Steady steadyUpon
attribute [local go_sem ↓] hs_dr lt_add_r lt_add_r2 lt_add_r3 lt_add_r4 lt_add_r5 lt_add_r6
attribute [local go_sem] cell?_gd frozen?_gd setCell_gd size_grow tape_grow cell?_grow' frozen?_grow' setCell_grow' grow_grow grow_dr grow_drew dr_dr dr_drew drew_dr dr_alloc dr_setCell dr_cell dr_frozen dr_tape dr_drawn
attribute [local irreducible] wpSteady
theorem ord_neg {a b : Pt} : ord a b < 0 ↔ a.1 < b.1 ∨ (a.1 = b.1 ∧ a.2 < b.2) := by
 unfold ord
 rcases sg_cases (a.1 - b.1) with ⟨h, e⟩ | ⟨h, e⟩ | ⟨h, e⟩ <;> rw [e] <;> rcases sg_cases (a.2 - b.2) with ⟨h', e'⟩ | ⟨h', e'⟩ | ⟨h', e'⟩ <;> (try rw [e']) <;> simp <;> omega
theorem p3less_v (a b : Pt) (r : Bool) (w : World) (h : decide (ord a b < 0) = r) :
  Calls Tryz.prog 34 #[pt a.1 a.2, pt b.1 b.2] w (Ret w (.bool r)) := by
 have h' : decide (a.1 < b.1 ∨ (a.1 = b.1 ∧ a.2 < b.2)) = r := by rw [← h]; exact (decide_eq_decide.2 ord_neg).symm
 clear h
 have h := h'
 clear h'
 obtain ⟨a1, a2⟩ := a
 obtain ⟨b1, b2⟩ := b
 dsimp only at h ⊢
 subst h
 by_cases h1 : a1 < b1
 ·go_enter Tryz.func34, Tryz.ntmps34
  go_wp2
  all_goals go_ret
  all_goals exact Ret.mk' (ret_bool (by simp [h1])) gw
 ·by_cases h2 : a1 = b1
  ·subst h2
   go_enter Tryz.func34, Tryz.ntmps34
   go_wp2
   all_goals go_ret
   all_goals exact Ret.mk' (ret_bool (by simp)) gw
  ·have h3 : (a1 == b1) = false := by simpa using h2
   go_enter Tryz.func34, Tryz.ntmps34
   go_wp2
   all_goals go_ret
   all_goals exact Ret.mk' (ret_bool (by simp [h1, h2])) gw
/-- A pair of edges, as the reference asks. -/
theorem pair_ref {ps : List Pt} {i k : Nat} (hk : i + 2 ≤ k) : pairOk ps i k = (decide (i = 0 ∧ k + 1 = ps.length) || !meetB (cor ps i) (cor ps (i + 1)) (cor ps k) (cor ps (k + 1))) := by
 unfold pairOk
 rw [show decide (k ≤ i + 1) = false by simp; omega, Bool.false_or]
theorem pair_low {ps : List Pt} {i k : Nat} (hk : k ≤ i + 1) : pairOk ps i k = true := by
 unfold pairOk
 rw [show decide (k ≤ i + 1) = true by simpa using hk, Bool.true_or]
theorem simple_no {ps : List Pt} {i k : Nat} (hi : i < ps.length) (hk : k < ps.length) (h : pairOk ps i k = false) : simpleOf ps = false := by
 unfold simpleOf
 rw [List.all_eq_false]
 refine ⟨i, List.mem_range.2 hi, ?_⟩
 rw [Bool.not_eq_true]
 unfold rowOk
 rw [List.all_eq_false]
 exact ⟨k, List.mem_range.2 hk, by rw [h]; simp⟩
theorem p3simple_v (ps : List Pt) (A : Option Addr) (c : Nat) (r : Bool) (w : World) (hr : Rd w w.heap.size 2 A (ps.map encD)) (hl : ps.length ≤ 100) (hok : ps.all Pt.ok = true) (h : simpleOf ps = r) :
  Calls Tryz.prog 37 #[.slice A ps.length c] w (Ret w (.bool r)) := by
 have hm := hmix
 have HR := hide hr
 have HOK := hide hok
 have HS := hide h
 clear hr hok h
 go_enter Tryz.func37, Tryz.ntmps37
 go_wp2_with fail
 go_loopw [4] (fun i wr => ∃ m : Nat, m ≤ ps.length ∧ i = .int .i64 m ∧ Grew w wr ∧ AppG ((List.range m).all (rowOk ps) = true)) (fun i _ => ps.length - (intOf i).toNat)
 case atStart => exact ⟨0, by omega, rfl, gw, show (List.range 0).all _ = true from rfl⟩
 case round =>
  obtain ⟨m, hmm, rfl, hg, hall⟩ := hrel
  have HG := hide hg
  have HA := hide hall.stop
  clear hg hall
  obtain ⟨Wz, hz⟩ : ∃ z, z = wr := ⟨wr, rfl⟩
  subst hz
  by_cases hlt : m < ps.length
  ·go_wp2_with fail
   go_loopw [5] (fun k wr => ∃ q : Nat, m + 2 ≤ q ∧ (q ≤ ps.length ∨ q = m + 2) ∧ k = .int .i64 q ∧ Grew Wz wr ∧ AppG ((List.range q).all (pairOk ps m) = true)) (fun k _ => ps.length - (intOf k).toNat)
   case atStart => exact ⟨m + 2, by omega, by omega, by go_num, gw, show (List.range (m + 2)).all (pairOk ps m) = true from List.all_eq_true.2 fun j hj => pair_low (by have := List.mem_range.1 hj; omega)⟩
   case round =>
    obtain ⟨q, hq2, hq, rfl, hg, hall⟩ := hrel
    have HG2 := hide hg
    have HA2 := hide hall.stop
    clear hg hall
    by_cases hlt2 : q < ps.length
    ·obtain ⟨a, ha⟩ : ∃ a, cor ps m = a := ⟨_, rfl⟩
     obtain ⟨b, hb⟩ : ∃ a, cor ps (m + 1) = a := ⟨_, rfl⟩
     obtain ⟨d, hd⟩ : ∃ a, cor ps q = a := ⟨_, rfl⟩
     obtain ⟨e, he⟩ : ∃ a, cor ps (q + 1) = a := ⟨_, rfl⟩
     have oka : a.ok = true := by rw [← ha]; exact cor_ok HOK.out _
     have okb : b.ok = true := by rw [← hb]; exact cor_ok HOK.out _
     have okd : d.ok = true := by rw [← hd]; exact cor_ok HOK.out _
     have oke : e.ok = true := by rw [← he]; exact cor_ok HOK.out _
     have hpr := pair_ref (ps := ps) (i := m) (k := q) (by omega)
     rw [ha, hb, hd, he] at hpr
     have hpm := cor_get hlt
     have hpq := cor_get hlt2
     rw [ha] at hpm
     rw [hd] at hpq
     obtain ⟨b1, off1, hA1, hb1, g0, g1⟩ := ptAt (HR.out.up (HG.out.trans HG2.out)) hpm
     obtain ⟨b2, off2, hA2, hb2, g2, g3⟩ := ptAt (HR.out.up (HG.out.trans HG2.out)) hpq
     have hix1 := idx_run (cap := c) Tryz.underlying22 Tryz.sizeOf24 hA1.out hlt
     have hix2 := idx_run (cap := c) (k := q) (len := ps.length) Tryz.underlying22 Tryz.sizeOf24 hA2.out hlt2
     have kn1 := hide (fun W (hg : Grew w W) => Next_v ps A c m b W (HR.out.up hg) (by omega) hlt hb)
     have kn2 := hide (fun W (hg : Grew w W) => Next_v ps A c q e W (HR.out.up hg) (by omega) hlt2 he)
     obtain ⟨v, hv⟩ : ∃ v, meetB a b d e = v := ⟨_, rfl⟩
     have kc := hide (fun W => p1Crosses_v a b d e v W oka okb okd oke hv)
     rw [hv] at hpr
     have HPR := hide hpr
     obtain ⟨a1, a2⟩ := a
     obtain ⟨b1', b2'⟩ := b
     obtain ⟨d1, d2⟩ := d
     obtain ⟨e1, e2⟩ := e
     dsimp only at g0 g1 g2 g3 kn1 kn2 kc
     clear ha hb hd he oka okb okd oke hpr hpm hpq hA1 hA2 hv
     have ewn : IntKind.i64.wrap ((ps.length : Int) - 1) = (ps.length : Int) - 1 := by unfold IntKind.wrap; simp [IntKind.bits, IntKind.signed]; omega
     have hcase : (m = 0 ∧ q + 1 = ps.length) ∨ (0 < m) ∨ (m = 0 ∧ q + 1 < ps.length) := by omega
     rcases hcase with ⟨hm0, hqe⟩ | hm0 | ⟨hm0, hqe⟩
     ·have hn1 : ¬ (q : Int) < (ps.length : Int) - 1 := by omega
      have hn2 := decide_eq_false hn1
      have nm : ¬ 0 < m := by omega
      have nm2 := decide_eq_false nm
      have hpt : pairOk ps m q = true := by rw [HPR.out]; simp [hqe, hm0]
      clear hm0 hqe
      have HPT := hide hpt
      clear hpt
      go_wp2_with fail
      refine wp_region_qas 25 [] [] hm (h := ?_)
      repeat (refine wpSteady_step (fun K hK => ?_); go_simp; first | (refine hK _ ?_; clear hK K) | (apply Exists.intro; refine ⟨fun _ => ?_, hK _ ?_⟩; (first | (go_at_call 36; first | with_reducible exact kn1.out _ (HG.out.trans (HG2.out.trans gw)) | with_reducible exact kn2.out _ (HG.out.trans (HG2.out.trans gw))) | (go_at_call 43; with_reducible exact kc.out _)); clear hK K))
      refine rq0 fun nq osq => ?_
      try simp only [Act.put, setA]
      try dsimp only
      go_wp2_with fail
      go_roundw
      case rel => exact ⟨q + 1, by omega, by omega, by go_num, HG2.out.trans gw, show (List.range (q + 1)).all (pairOk ps m) = true from range_all_succ HA2.out HPT.out⟩
      case measure => simp [intOf]; omega
     ·cases v
      ·have hpt : pairOk ps m q = true := by rw [HPR.out]; simp
       have HPT := hide hpt
       clear hpt
       go_wp2_with fail
       refine wp_region_qas 25 [] [] hm (h := ?_)
       repeat (refine wpSteady_step (fun K hK => ?_); go_simp; first | (refine hK _ ?_; clear hK K) | (apply Exists.intro; refine ⟨fun _ => ?_, hK _ ?_⟩; (first | (go_at_call 36; first | with_reducible exact kn1.out _ (HG.out.trans (HG2.out.trans gw)) | with_reducible exact kn2.out _ (HG.out.trans (HG2.out.trans gw))) | (go_at_call 43; with_reducible exact kc.out _)); clear hK K))
       refine rq0 fun nq osq => ?_
       try simp only [Act.put, setA]
       try dsimp only
       go_wp2_with fail
       go_roundw
       case rel => exact ⟨q + 1, by omega, by omega, by go_num, HG2.out.trans gw, show (List.range (q + 1)).all (pairOk ps m) = true from range_all_succ HA2.out HPT.out⟩
       case measure => simp [intOf]; omega
      ·have hpt : pairOk ps m q = false := by rw [HPR.out]; simp; omega
       obtain rfl : r = false := by rw [← HS.out]; exact simple_no hlt hlt2 hpt
       clear hpt
       go_wp2_with fail
       refine wp_region_qas 25 [] [] hm (h := ?_)
       repeat (refine wpSteady_step (fun K hK => ?_); go_simp; first | (refine hK _ ?_; clear hK K) | (apply Exists.intro; refine ⟨fun _ => ?_, hK _ ?_⟩; (first | (go_at_call 36; first | with_reducible exact kn1.out _ (HG.out.trans (HG2.out.trans gw)) | with_reducible exact kn2.out _ (HG.out.trans (HG2.out.trans gw))) | (go_at_call 43; with_reducible exact kc.out _)); clear hK K))
       refine rq0 fun nq osq => ?_
       try simp only [Act.put, setA]
       try dsimp only
       go_wp2_with fail
       go_ret
       exact Ret.mk' rfl (HG.out.trans (HG2.out.trans gw))
     ·have hn1 : (q : Int) < (ps.length : Int) - 1 := by omega
      have hn2 := decide_eq_true hn1
      have nm : ¬ 0 < m := by omega
      have nm2 := decide_eq_false nm
      have HM0 := hide hm0
      clear hm0
      cases v
      ·have hpt : pairOk ps m q = true := by rw [HPR.out]; simp
       have HPT := hide hpt
       clear hpt
       go_wp2_with fail
       refine wp_region_qas 25 [] [] hm (h := ?_)
       repeat (refine wpSteady_step (fun K hK => ?_); go_simp; first | (refine hK _ ?_; clear hK K) | (apply Exists.intro; refine ⟨fun _ => ?_, hK _ ?_⟩; (first | (go_at_call 36; first | with_reducible exact kn1.out _ (HG.out.trans (HG2.out.trans gw)) | with_reducible exact kn2.out _ (HG.out.trans (HG2.out.trans gw))) | (go_at_call 43; with_reducible exact kc.out _)); clear hK K))
       refine rq0 fun nq osq => ?_
       try simp only [Act.put, setA]
       try dsimp only
       go_wp2_with fail
       go_roundw
       case rel => exact ⟨q + 1, by omega, by omega, by go_num, HG2.out.trans gw, show (List.range (q + 1)).all (pairOk ps m) = true from range_all_succ HA2.out HPT.out⟩
       case measure => simp [intOf]; omega
      ·have hpt : pairOk ps m q = false := by rw [HPR.out]; simp; omega
       obtain rfl : r = false := by rw [← HS.out]; exact simple_no hlt hlt2 hpt
       clear hpt
       go_wp2_with fail
       refine wp_region_qas 25 [] [] hm (h := ?_)
       repeat (refine wpSteady_step (fun K hK => ?_); go_simp; first | (refine hK _ ?_; clear hK K) | (apply Exists.intro; refine ⟨fun _ => ?_, hK _ ?_⟩; (first | (go_at_call 36; first | with_reducible exact kn1.out _ (HG.out.trans (HG2.out.trans gw)) | with_reducible exact kn2.out _ (HG.out.trans (HG2.out.trans gw))) | (go_at_call 43; with_reducible exact kc.out _)); clear hK K))
       refine rq0 fun nq osq => ?_
       try simp only [Act.put, setA]
       try dsimp only
       go_wp2_with fail
       go_ret
       exact Ret.mk' rfl (HG.out.trans (HG2.out.trans gw))
    ·have hrow : rowOk ps m = true := List.all_eq_true.2 fun j hj => List.all_eq_true.1 HA2.out j (by have := List.mem_range.1 hj; rw [List.mem_range]; omega)
     have HROW := hide hrow
     clear hrow
     have hn2 : ¬ (q : Int) < (ps.length : Int) := by omega
     go_wp2_with fail
     go_roundw
     case rel => exact ⟨m + 1, by omega, by go_num, HG.out.trans (HG2.out.trans gw), show (List.range (m + 1)).all (rowOk ps) = true from range_all_succ HA.out HROW.out⟩
     case measure => simp [intOf]; omega
  ·obtain rfl : m = ps.length := by omega
   obtain rfl : r = true := by rw [← HS.out]; exact HA.out
   go_wp2_with fail
   go_ret
   exact Ret.mk' rfl (HG.out.trans gw)
theorem p3twice_v (ps : List Pt) (A : Option Addr) (c : Nat) (r : Int) (w : World) (hr : Rd w w.heap.size 2 A (ps.map encD)) (hl : ps.length ≤ 100) (hok : ps.all Pt.ok = true) (h : twiceOf ps = r) :
  Calls Tryz.prog 38 #[.slice A ps.length c] w (Ret w (.int .i64 r)) := by
 have hm := hmix
 have HR := hide hr
 have HOK := hide hok
 have HS := hide h
 clear hr hok h
 go_enter Tryz.func38, Tryz.ntmps38
 go_wp2_with fail
 go_loopw [3, 4] (fun s i wr => ∃ m : Nat, m ≤ ps.length ∧ i = .int .i64 m ∧ s = .int .i64 (sumI ps (List.range m)) ∧ Grew w wr) (fun _ i _ => ps.length - (intOf i).toNat)
 case atStart => exact ⟨0, by omega, rfl, rfl, gw⟩
 case round =>
  obtain ⟨m, hmm, rfl, rfl, hg⟩ := hrel
  have HG := hide hg
  clear hg
  by_cases hlt : m < ps.length
  ·obtain ⟨a, ha⟩ : ∃ a, cor ps m = a := ⟨_, rfl⟩
   obtain ⟨b, hb⟩ : ∃ a, cor ps (m + 1) = a := ⟨_, rfl⟩
   have oka : a.ok = true := by rw [← ha]; exact cor_ok HOK.out _
   have okb : b.ok = true := by rw [← hb]; exact cor_ok HOK.out _
   have hsn := sumI_snoc ps (List.range m) m
   rw [← List.range_succ, ha, hb] at hsn
   have hbd := sumI_bd HOK.out (List.range m)
   rw [List.length_range] at hbd
   have hcb := crs2_bd oka okb
   have hpm := cor_get hlt
   rw [ha] at hpm
   obtain ⟨b1, off1, hA1, hb1, g0, g1⟩ := ptAt (HR.out.up HG.out) hpm
   have hix1 := idx_run (cap := c) Tryz.underlying22 Tryz.sizeOf24 hA1.out hlt
   have kn := hide (fun W (hg : Grew w W) => Next_v ps A c m b W (HR.out.up hg) (by omega) hlt hb)
   have a' := ok_bd oka
   have b' := ok_bd okb
   have kc := hide (fun W => rCross_any a.1 a.2 b.1 b.2 W (by omega) (by omega) (by omega) (by omega))
   obtain ⟨s, hs⟩ : ∃ s, sumI ps (List.range m) = s := ⟨_, rfl⟩
   obtain ⟨x, hx⟩ : ∃ x, crs2 a b = x := ⟨_, rfl⟩
   rw [hs] at hsn hbd ⊢
   rw [hx] at hsn
   have hxb : -2000000000000 ≤ x ∧ x ≤ 2000000000000 := by rw [← hx]; unfold crs2; omega
   rw [show a.1 * b.2 - a.2 * b.1 = x from hx] at kc
   have HSN := hide hsn
   have ew : IntKind.i64.wrap (s + x) = s + x := by unfold IntKind.wrap; simp [IntKind.bits, IntKind.signed]; omega
   obtain ⟨a1, a2⟩ := a
   obtain ⟨b1', b2'⟩ := b
   dsimp only at g0 g1 kn kc
   clear ha hb oka okb hsn hcb hpm hA1 a' b' hs hx
   go_wp2_with fail
   refine wp_region_qas 11 [] [] hm (h := ?_)
   repeat (refine wpSteady_step (fun K hK => ?_); go_simp; first | (refine hK _ ?_; clear hK K) | (apply Exists.intro; refine ⟨fun _ => ?_, hK _ ?_⟩; (first | (go_at_call 36; with_reducible exact kn.out _ (HG.out.trans gw)) | (go_at_call 71; with_reducible exact kc.out _)); clear hK K))
   refine rq0 fun nq osq => ?_
   try simp only [Act.put, setA]
   try dsimp only
   go_wp2_with fail
   go_roundw
   case rel => exact ⟨m + 1, by omega, by go_num, ret_int HSN.out.symm, HG.out.trans gw⟩
   case measure => simp [intOf]; omega
  ·obtain rfl : m = ps.length := by omega
   obtain rfl : r = sumI ps (List.range ps.length) := HS.out.symm
   go_wp2_with fail
   go_ret
   exact Ret.mk' rfl (HG.out.trans gw)
end Go.Proofs.YtndkfpmklmcjjaaGreat
