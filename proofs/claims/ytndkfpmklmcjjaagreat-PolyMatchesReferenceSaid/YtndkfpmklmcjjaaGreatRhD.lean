/- The reference of polygons: half. -/
import Derived.Test.YtndkfpmklmcjjaaGreatRhC
set_option linter.unusedSimpArgs false
set_option linter.unusedVariables false
set_option maxHeartbeats 16000000
set_option maxRecDepth 100000
namespace Go.Proofs.YtndkfpmklmcjjaaGreat
open Go.RowKit Go.Sort Go.Lib
attribute [local go_sem] Steady steadyUpon
attribute [local go_sem ↓] hs_dr lt_add_r lt_add_r2 lt_add_r3 lt_add_r4 lt_add_r5 lt_add_r6
attribute [local go_sem] cell?_gd frozen?_gd setCell_gd size_grow tape_grow cell?_grow' frozen?_grow' setCell_grow' grow_grow grow_dr grow_drew dr_dr dr_drew drew_dr dr_alloc dr_setCell dr_cell dr_frozen dr_tape dr_drawn
attribute [local irreducible] wpSteady
theorem p3half_v (L : List Pt) (A : Option Addr) (c : Nat) (w : World) (hr : Rd w w.heap.size 2 A (L.map encD)) (hl : L.length ≤ 1000) (hok : L.all Pt.ok = true) :
  Calls Tryz.prog 60 #[.slice A L.length c] w fun e w' => ∃ v, e = .returned v ∧ w'.ownsRow w.heap.size 24 2 v (halfL L).length ((halfL L).flatMap encD) ∧ Grew w w' := by
 have hm := hmix
 obtain ⟨i0, hi0, hz0, hz1, hz2⟩ := info_parts ptInf
 have HR := hide hr
 have HOK := hide hok
 clear hr hok
 go_enter Tryz.func60, Tryz.ntmps60
 go_wp2_with fail
 go_loopw [3, 4] (fun ov i wr => ∃ m : Nat, m ≤ L.length ∧ i = .int .i64 m ∧ Grew w wr ∧ wr.ownsRow w.heap.size 24 2 ov (halfL (L.take m)).length ((halfL (L.take m)).flatMap encD)) (fun _ i _ => L.length - (intOf i).toNat)
 case atStart => exact ⟨0, by omega, rfl, gw, World.ownsRow_nil _ _ _ _⟩
 case round =>
  obtain ⟨m, hmm, rfl, hg, hown⟩ := hrel
  have HG := hide hg
  have HO := hide hown
  clear hg
  obtain ⟨Wr, hz⟩ : ∃ z, z = wr := ⟨wr, rfl⟩
  subst hz
  by_cases hlt : m < L.length
  ·obtain ⟨q, hq⟩ : ∃ q, cor L m = q := ⟨_, rfl⟩
   have hqo : q.ok = true := by rw [← hq]; exact cor_ok HOK.out _
   have hqm := cor_get hlt
   rw [hq] at hqm
   have hsn : halfL (L.take (m + 1)) = pushQ (halfL (L.take m)) q := by rw [List.take_add_one, hqm, Option.toList_some, halfL_snoc]
   have hoo : (halfL (L.take m)).all Pt.ok = true := halfL_ok _ [] rfl (by
    rw [List.all_eq_true]
    intro x hx
    exact List.all_eq_true.1 HOK.out x (List.mem_of_mem_take hx))
   have hol : (halfL (L.take m)).length ≤ 1000 := by
    have := halfL_len (L.take m) []
    rw [List.length_take] at this
    simp at this
    unfold halfL
    omega
   obtain ⟨out, hout⟩ : ∃ o, halfL (L.take m) = o := ⟨_, rfl⟩
   rw [hout] at HO hsn hoo hol hown
   obtain ⟨A1, c1, rfl, hc1, hrd⟩ := Rd.of_own (f := encD) encD_len hown rfl
   have HRD := hide hrd
   have HSN := hide hsn
   have HQM := hide hqm
   have HQO := hide hqo
   have HOO := hide hoo
   clear hsn hqm hq hrd hown hout hqo hoo
   obtain ⟨q1, q2⟩ := q
   go_wp2_with fail
   go_loopw [3] (fun ov wr => ∃ k : Nat, k ≤ out.length ∧ ov = .slice A1 k c1 ∧ popK out (q1, q2) k = popK out (q1, q2) out.length ∧ Grew Wr wr) (fun ov _ => slN ov)
   case atStart => exact ⟨out.length, Nat.le_refl _, rfl, rfl, gw⟩
   case round =>
    obtain ⟨k, hk, rfl, hpk, hg⟩ := hrel
    have HG2 := hide hg
    clear hg
    obtain ⟨bq, offq, hAq, hbq, x0, x1⟩ := ptAt (HR.out.up (HG.out.trans HG2.out)) HQM.out
    have hixq := idx_run (cap := c) Tryz.underlying22 Tryz.sizeOf24 hAq.out hlt
    dsimp only at x0 x1
    clear hAq
    have hcase : (popK out (q1, q2) k = k ∧ (k ≤ 1 ∨ ∃ j, k = j + 2 ∧ 0 < tn (cor out j) (cor out (j + 1)) (q1, q2))) ∨ ∃ j, k = j + 2 ∧ tn (cor out j) (cor out (j + 1)) (q1, q2) ≤ 0 ∧ popK out (q1, q2) (j + 1) = popK out (q1, q2) out.length := by
     match k, hpk with
     | 0, _ => exact .inl ⟨rfl, .inl (by omega)⟩
     | 1, _ => exact .inl ⟨rfl, .inl (by omega)⟩
     | j + 2, hpk =>
      by_cases h : tn (cor out j) (cor out (j + 1)) (q1, q2) ≤ 0
      ·exact .inr ⟨j, rfl, h, by rw [← hpk]; conv => rhs; unfold popK; rw [if_pos h]⟩
      ·exact .inl ⟨by unfold popK; rw [if_neg h], .inr ⟨j, rfl, by omega⟩⟩
    rcases hcase with ⟨hpk2, h1 | ⟨j, hkj, htn⟩⟩ | ⟨j, hkj, htn, hpk2⟩
    ·have HPK := hide (hpk.symm.trans hpk2)
     have h1' : ¬ (1 : Int) < (k : Int) := by omega
     have h1d : decide ((1 : Int) < (k : Int)) = false := by simpa using h1'
     clear hpk hpk2
     go_wp2_with fail
     refine wp_region_qas 23 [] [] hm (h := ?_)
     repeat (refine wpSteady_step (fun K hK => ?_); go_simp; refine hK _ ?_; clear hK K)
     refine rq0 fun nq osq => ?_
     try simp only [Act.put, setA]
     try dsimp only
     have HOK2 := hide (ow_take HO.out (k := k) hk)
     rw [flat_take encD_len] at HOK2
     have hkl : (out.take k).length = k := by rw [List.length_take]; omega
     have hs2 : pushQ out (q1, q2) = out.take k ++ [(q1, q2)] := by unfold pushQ; rw [HPK.out]
     have HS2 := hide (HSN.out.trans hs2)
     obtain ⟨T, hT⟩ : ∃ T, out.take k = T := ⟨_, rfl⟩
     rw [hT] at HOK2 HS2 hkl
     clear hs2 hT
     go_wp2_with (at_builtin; refine AppG2.stop ?_)
     refine AppG2.go ?_
     refine wpList_append_any _ rfl (.tmp 39) (.tmp 44) _ rfl w.heap.size 24 i0 _ 2 16 Tryz.underlying22 hi0 hz0 hz1 hz2 rfl (by omega) _ k (T.flatMap encD) (by rfl) (ow_grew HOK2.out (HG2.out.trans gw)) _ (some ⟨_, 0, none⟩) 1 1 ([(q1, q2)].flatMap encD) rfl ((Rd.litQ _ q1 q2 _ _ (by first | rfl | simp [hs_dr])).reads encD_len (by omega)) (enc_one _) (by simp only [maxLen]; omega) (by omega) (by have := HG2.out.below.size; have := HG.out.below.size; (try simp [hs_dr]); omega) ?_
     intro v5 w5 hown5 hg5 _
     have HO5 := hide hown5
     have HG5 : Hid (Grew w w5) := hide (pgrown (HG.out.trans (HG2.out.trans gw)) (ow_grew HOK2.out (HG2.out.trans gw)) (Nat.le_refl _) hg5)
     clear hown5 hg5
     go_wp2_with fail
     go_roundw
     case rel => exact ⟨m + 1, by omega, by go_num, HG5.out, by rw [HS2.out, List.length_append, List.flatMap_append, hkl]; exact HO5.out⟩
     case measure => simp [intOf]; omega
    ·have HPK := hide (hpk.symm.trans hpk2)
     have hj1 : j < k := by omega
     have hj2 : j + 1 < k := by omega
     have p0 := cor_get (ps := out) (k := j) (by omega)
     have p1 := cor_get (ps := out) (k := j + 1) (by omega)
     have o0 := cor_ok HOO.out j
     have o1 := cor_ok HOO.out (j + 1)
     obtain ⟨t, ht⟩ : ∃ t, tn (cor out j) (cor out (j + 1)) (q1, q2) = t := ⟨_, rfl⟩
     have kt := hide (fun W' => rturn_v _ _ (q1, q2) t W' o0 o1 HQO.out ht)
     obtain ⟨b, off, hA, hb, h0, h1⟩ := ptAt (HRD.out.up HG2.out) p0
     obtain ⟨b', off', hA', hb', h2, h3⟩ := ptAt (HRD.out.up HG2.out) p1
     obtain ⟨rfl, rfl⟩ : b = b' ∧ off = off' := by
      have := hA.out.symm.trans hA'.out
      injection this with this
      injection this with h1 h2
      exact ⟨h1, h2⟩
     have hix := idx_run (cap := c1) (k := j) (len := k) Tryz.underlying22 Tryz.sizeOf24 hA.out hj1
     have hix2 := idx_run (cap := c1) (k := j + 1) (len := k) Tryz.underlying22 Tryz.sizeOf24 hA.out hj2
     rw [show ((j + 1 : Nat) : Int) = (j : Int) + 1 by omega] at hix2
     rw [ht] at htn
     have ew0 : IntKind.i64.wrap ((k : Int) - 2) = (j : Int) := by rw [show (k : Int) - 2 = (j : Int) by omega]; unfold IntKind.wrap; simp [IntKind.bits, IntKind.signed]; omega
     have ew1 : IntKind.i64.wrap ((k : Int) - 1) = (j : Int) + 1 := by rw [show (k : Int) - 1 = (j : Int) + 1 by omega]; unfold IntKind.wrap; simp [IntKind.bits, IntKind.signed]; omega
     generalize cor out j = u at *
     generalize cor out (j + 1) = v at *
     obtain ⟨u1, u2⟩ := u
     obtain ⟨v1, v2⟩ := v
     dsimp only at h0 h1 h2 h3
     have h1' : (1 : Int) < (k : Int) := by omega
     have h1d : decide ((1 : Int) < (k : Int)) = true := by simpa using h1'
     have HKJ := hide hkj
     clear hA hA' hj1 hj2
     have htn' : ¬ t ≤ 0 := by omega
     clear hpk hpk2 p0 p1 o0 o1 ht hkj
     go_wp2_with fail
     refine wp_region_qas 23 [] [] hm (h := ?_)
     repeat (refine wpSteady_step (fun K hK => ?_); go_simp; first | (refine hK _ ?_; clear hK K) | (apply Exists.intro; refine ⟨fun _ => ?_, hK _ ?_⟩; (go_at_call 35; with_reducible exact kt.out _); clear hK K))
     refine rq0 fun nq osq => ?_
     try simp only [Act.put, setA]
     try dsimp only
     have HOK2 := hide (ow_take HO.out (k := k) hk)
     rw [flat_take encD_len] at HOK2
     have hkl : (out.take k).length = k := by rw [List.length_take]; omega
     have hs2 : pushQ out (q1, q2) = out.take k ++ [(q1, q2)] := by unfold pushQ; rw [HPK.out]
     have HS2 := hide (HSN.out.trans hs2)
     obtain ⟨T, hT⟩ : ∃ T, out.take k = T := ⟨_, rfl⟩
     rw [hT] at HOK2 HS2 hkl
     clear hs2 hT
     go_wp2_with (at_builtin; refine AppG2.stop ?_)
     refine AppG2.go ?_
     refine wpList_append_any _ rfl (.tmp 39) (.tmp 44) _ rfl w.heap.size 24 i0 _ 2 16 Tryz.underlying22 hi0 hz0 hz1 hz2 rfl (by omega) _ k (T.flatMap encD) (by rfl) (ow_grew HOK2.out (HG2.out.trans gw)) _ (some ⟨_, 0, none⟩) 1 1 ([(q1, q2)].flatMap encD) rfl ((Rd.litQ _ q1 q2 _ _ (by first | rfl | simp [hs_dr])).reads encD_len (by omega)) (enc_one _) (by simp only [maxLen]; omega) (by omega) (by have := HG2.out.below.size; have := HG.out.below.size; (try simp [hs_dr]); omega) ?_
     intro v5 w5 hown5 hg5 _
     have HO5 := hide hown5
     have HG5 : Hid (Grew w w5) := hide (pgrown (HG.out.trans (HG2.out.trans gw)) (ow_grew HOK2.out (HG2.out.trans gw)) (Nat.le_refl _) hg5)
     clear hown5 hg5
     go_wp2_with fail
     go_roundw
     case rel => exact ⟨m + 1, by omega, by go_num, HG5.out, by rw [HS2.out, List.length_append, List.flatMap_append, hkl]; exact HO5.out⟩
     case measure => simp [intOf]; omega
    ·have HPK := hide hpk2
     have hj1 : j < k := by omega
     have hj2 : j + 1 < k := by omega
     have p0 := cor_get (ps := out) (k := j) (by omega)
     have p1 := cor_get (ps := out) (k := j + 1) (by omega)
     have o0 := cor_ok HOO.out j
     have o1 := cor_ok HOO.out (j + 1)
     obtain ⟨t, ht⟩ : ∃ t, tn (cor out j) (cor out (j + 1)) (q1, q2) = t := ⟨_, rfl⟩
     have kt := hide (fun W' => rturn_v _ _ (q1, q2) t W' o0 o1 HQO.out ht)
     obtain ⟨b, off, hA, hb, h0, h1⟩ := ptAt (HRD.out.up HG2.out) p0
     obtain ⟨b', off', hA', hb', h2, h3⟩ := ptAt (HRD.out.up HG2.out) p1
     obtain ⟨rfl, rfl⟩ : b = b' ∧ off = off' := by
      have := hA.out.symm.trans hA'.out
      injection this with this
      injection this with h1 h2
      exact ⟨h1, h2⟩
     have hix := idx_run (cap := c1) (k := j) (len := k) Tryz.underlying22 Tryz.sizeOf24 hA.out hj1
     have hix2 := idx_run (cap := c1) (k := j + 1) (len := k) Tryz.underlying22 Tryz.sizeOf24 hA.out hj2
     rw [show ((j + 1 : Nat) : Int) = (j : Int) + 1 by omega] at hix2
     rw [ht] at htn
     have ew0 : IntKind.i64.wrap ((k : Int) - 2) = (j : Int) := by rw [show (k : Int) - 2 = (j : Int) by omega]; unfold IntKind.wrap; simp [IntKind.bits, IntKind.signed]; omega
     have ew1 : IntKind.i64.wrap ((k : Int) - 1) = (j : Int) + 1 := by rw [show (k : Int) - 1 = (j : Int) + 1 by omega]; unfold IntKind.wrap; simp [IntKind.bits, IntKind.signed]; omega
     generalize cor out j = u at *
     generalize cor out (j + 1) = v at *
     obtain ⟨u1, u2⟩ := u
     obtain ⟨v1, v2⟩ := v
     dsimp only at h0 h1 h2 h3
     have h1' : (1 : Int) < (k : Int) := by omega
     have h1d : decide ((1 : Int) < (k : Int)) = true := by simpa using h1'
     have HKJ := hide hkj
     clear hA hA' hj1 hj2
     have hjc : j + 1 ≤ c1 := by omega
     have hjc2 : (j : Int) + 1 ≤ c1 := by omega
     have hjl : j + 1 ≤ out.length := by omega
     clear hpk hpk2 p0 p1 o0 o1 ht hkj
     go_wp2_with fail
     refine wp_region_qas 23 [] [] hm (h := ?_)
     repeat (refine wpSteady_step (fun K hK => ?_); go_simp; first | (refine hK _ ?_; clear hK K) | (apply Exists.intro; refine ⟨fun _ => ?_, hK _ ?_⟩; (go_at_call 35; with_reducible exact kt.out _); clear hK K))
     refine rq0 fun nq osq => ?_
     try simp only [Act.put, setA]
     try dsimp only
     go_wp2_with fail
     go_roundw
     case rel => exact ⟨j + 1, hjl, by first | rfl | go_num, HPK.out, HG2.out.trans gw⟩
     case measure =>
      have := HKJ.out
      simp [slN]
      try omega
  ·obtain rfl : m = L.length := by omega
   rw [List.take_length] at HO
   go_wp2_with fail
   go_ret
   exact ⟨_, rfl, ow_grew HO.out gw, HG.out.trans gw⟩
end Go.Proofs.YtndkfpmklmcjjaaGreat
