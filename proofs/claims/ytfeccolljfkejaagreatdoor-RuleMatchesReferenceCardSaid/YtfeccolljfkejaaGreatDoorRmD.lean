/- The reference implementation of package rule: rule. -/
import Derived.Test.YtfeccolljfkejaaGreatDoorRmX
import Derived.Test.YtfeccolljfkejaaGreatDoorRpI
import Derived.Test.YtfeccolljfkejaaGreatDoorRegE
set_option linter.unusedSimpArgs false
set_option linter.unusedVariables false
set_option maxHeartbeats 16000000
set_option maxRecDepth 100000
namespace Go.Proofs.YtfeccolljfkejaaGreatDoor
open Go.RowKit Go.Sort
attribute [local go_sem] Steady steadyUpon
attribute [local go_sem ↓] hs_dr lt_add_r lt_add_r2 lt_add_r3 lt_add_r4 lt_add_r5 lt_add_r6
attribute [local go_sem] cell?_gd frozen?_gd setCell_gd size_grow tape_grow cell?_grow' frozen?_grow' setCell_grow' grow_grow grow_dr grow_drew dr_dr dr_drew drew_dr dr_alloc dr_setCell dr_cell dr_frozen dr_tape dr_drawn
attribute [local irreducible] wpSteady
attribute [local go_sem] E.effUpon
theorem rrule_v (s : ByteArray) (a : Nat) (w : World) (hi : a ≤ s.size) (hs : s.size ≤ 100000000000000) (hsk : endOf isBl s a = a) :
  Calls Tryz.prog 50 #[.string s, .int .i64 (a : Int)] w (RulR s a w) := by
 have hm := hmix
 obtain ⟨e, he⟩ : ∃ e, endOf (inR 97 122) s a = e := ⟨_, rfl⟩
 have hae : a ≤ e := by rw [← he]; exact endOf_ge _ _ _
 have hes : e ≤ s.size := by rw [← he]; exact endOf_le hi
 have kl := hide (fun W => rletters_v s a e W hi hs he)
 have hW0 : wordAt opW s a = if e = a then .error (a, 10) else if wIdx opW (s.extract a e) < 0 then .error (a, 11) else .ok ((wIdx opW (s.extract a e)).toNat, a) := by unfold wordAt; rw [hsk, he]
 go_enter Tryz.func50, Tryz.ntmps50
 go_wp2_with fail
 refine calls_name ?_
 intro X hX
 have HB : Hid (RB w X 0 0 0) := hide (by
  rw [← hX]
  refine ⟨((Grew.refl w).alloc _ |>.alloc _).below, ((Grew.refl _).alloc _ |>.heap (by simp)).trans (heap_alloc_new w _), ?_⟩
  have := heap_alloc_new (w.alloc (.cells #[.int .i64 0, .int .i64 0, .int .i64 0] 36)) (.cells #[.int .i64 0, .int .i64 0, .int .i64 0] 36 (0, 0))
  simpa using this)
 clear hX
 refine (kl.out X).mono ?_
 rintro en W1 ⟨rfl, hg⟩
 have H1 : Hid (RB w W1 0 0 0) := hide (HB.out.up hg)
 clear hg HB kl
 have x0 := blk_cell H1.out.x 0
 have x1 := blk_cell H1.out.x 1
 have x2 := blk_cell H1.out.x 2
 have y0 := blk_frozen H1.out.x 0
 have y1 := blk_frozen H1.out.x 1
 have y2 := blk_frozen H1.out.x 2
 have xl := blk_lt H1.out.x
 have z0 := blk_cell H1.out.z 0
 have z1 := blk_cell H1.out.z 1
 have z2 := blk_cell H1.out.z 2
 have u0 := blk_frozen H1.out.z 0
 have u1 := blk_frozen H1.out.z 1
 have u2 := blk_frozen H1.out.z 2
 have zl := blk_lt H1.out.z
 dsimp only
 by_cases hea : e = a
 ·subst hea
  rw [if_pos rfl] at hW0
  have hRA : ruleAt s e = .error (e, 10) := by unfold ruleAt; rw [hW0]
  have HRA := hide hRA
  clear hRA hW0
  have rr1 := blk_cell (set1_3 (v0 := .int .i64 0) H1.out.z) 0
  have rr2 := blk_cell (set2_3 (v0 := .int .i64 0) (v1 := .int .i64 0) H1.out.z) 1
  have rr3 := blk_cell (set3_3 (v0 := .int .i64 0) (v1 := .int .i64 0) (v2 := .int .i64 0) H1.out.z) 2
  go_wp2_with fail
  refine bodyPost_ret (v := .tuple #[ruV 0 0 0, .int .i64 (e : Int), .int .i64 10]) (by simp [results, Tryz.results50, go_sem, rr1, rr2, rr3]) rfl ?_
  unfold RulR
  rw [HRA.out]
  first | exact ⟨_, _, _, rfl, H1.out.fin _ _ _⟩ | exact ⟨rfl, H1.out.fin _ _ _⟩
 rw [if_neg hea] at hW0
 have n1 : ((e : Int) == (a : Int)) = false := by simp; omega
 obtain ⟨x, hx⟩ : ∃ x, s.extract a e = x := ⟨_, rfl⟩
 have hsl := str_slice Tryz.underlying9 s a e hae hes
 have hxs : x.size = e - a := by rw [← hx]; exact ext_size hes
 rw [hx] at hsl hW0
 have h0 : ∀ z, opW[0]? = some z → strB x z = false := fun z hz => by
  have : z = ⟨#[]⟩ := by simpa [opW] using hz.symm
  subst this
  rw [← Bool.not_eq_true]
  intro h
  rw [strB_iff.1 h] at hxs
  have : (⟨#[]⟩ : ByteArray).size = 0 := rfl
  omega
 obtain ⟨wi, hwi⟩ : ∃ r, wIdx opW x = r := ⟨_, rfl⟩
 have hwl := wIdx_lt opW x
 obtain ⟨qi, hqi⟩ : ∃ r, (if wi < 0 then (0 : Int) else wi) = r := ⟨_, rfl⟩
 have ki := hide (fun W A c (hr : Rd W W.heap.size 1 A (opW.map encS)) => rindex_v opW A c x qi W hr (by decide) h0 (by rw [hwi, hqi]))
 rw [hwi] at hwl hW0
 have HW0 := hide hW0
 have HQI := hide hqi
 clear hqi hW0 h0 hx hwi hxs
 go_wp2_with fail
 clear n1
 refine E.wp_region_eff 8 [false, true, true, true, true] [0] hm (by kernel_rfl) (by simp only [E.pick, List.take, List.length_cons, List.length_nil, Nat.reduceAdd]; rfl) (by rfl) (by simp only [List.drop, List.take, List.length_cons, List.length_nil, Nat.reduceAdd, Nat.reduceSub]; rfl) (by simp only [List.drop]; rfl) ?_
 repeat (refine wpSteady_step (fun K hK => ?_); go_simp; first | (refine hK _ ?_; clear hK K) | (apply Exists.intro; refine ⟨fun _ => ?_, hK _ ?_⟩; (fail); clear hK K))
 refine wpSteady_nil ?_
 refine E.wpE_ready [0] (by simp) (by kernel_rfl) ?_
 intro e0 he0 o ho W2 hg2
 obtain rfl := List.mem_singleton.1 he0
 have HG2 := hide hg2
 clear hg2 he0
 simp at ho
 subst ho
 go_simp
 refine (rops_v W2).mono ?_
 rintro en W3 ⟨A3, c3, rfl, hr3, hg3⟩
 refine ⟨_, rfl, hg3.below.mono HG2.out.below.size, ?_⟩
 have HR3 := hide hr3
 have HG3 := hide (Grew.trans gw (HG2.out.trans hg3) : Grew W1 W3)
 clear hr3 hg3 HG2
 refine E.wpE_nil fun W4 hg4 => ?_
 have H4 := hide (H1.out.up (HG3.out.trans hg4))
 have HR4 := hide (HR3.out.up hg4)
 clear hg4 HR3 HG3
 clear x0 x1 x2 y0 y1 y2 xl z0 z1 z2 u0 u1 u2 zl
 have x0 := blk_cell H4.out.x 0
 have x1 := blk_cell H4.out.x 1
 have x2 := blk_cell H4.out.x 2
 have y0 := blk_frozen H4.out.x 0
 have y1 := blk_frozen H4.out.x 1
 have y2 := blk_frozen H4.out.x 2
 have xl := blk_lt H4.out.x
 have z0 := blk_cell H4.out.z 0
 have z1 := blk_cell H4.out.z 1
 have z2 := blk_cell H4.out.z 2
 have u0 := blk_frozen H4.out.z 0
 have u1 := blk_frozen H4.out.z 1
 have u2 := blk_frozen H4.out.z 2
 have zl := blk_lt H4.out.z
 go_wp2_with (go_at_call 94; with_reducible refine crv (ki.out _ _ _ (HR4.out.up gw)) fun _ _ => ?_; dsimp only)
 refine L.q2_normal ?_
 repeat (refine wpSteady_step (fun K hK => ?_); go_simp; refine hK _ ?_; clear hK K)
 refine wpSteady_nil ?_
 intro W5 hW3b
 have H5 : Hid (RB w W5 qi 0 0) := hide (H4.out.set 0 _ rfl (Grew.trans gw hW3b))
 clear hW3b H4 HR4 ki
 clear x0 x1 x2 y0 y1 y2 xl z0 z1 z2 u0 u1 u2 zl
 have x0 := blk_cell H5.out.x 0
 have x1 := blk_cell H5.out.x 1
 have x2 := blk_cell H5.out.x 2
 have y0 := blk_frozen H5.out.x 0
 have y1 := blk_frozen H5.out.x 1
 have y2 := blk_frozen H5.out.x 2
 have xl := blk_lt H5.out.x
 have z0 := blk_cell H5.out.z 0
 have z1 := blk_cell H5.out.z 1
 have z2 := blk_cell H5.out.z 2
 have u0 := blk_frozen H5.out.z 0
 have u1 := blk_frozen H5.out.z 1
 have u2 := blk_frozen H5.out.z 2
 have zl := blk_lt H5.out.z
 by_cases hw0 : wi < 0
 ·have hRA : ruleAt s a = .error (a, 11) := by unfold ruleAt; rw [HW0.out, if_pos hw0]
  have HRA := hide hRA
  obtain rfl : qi = 0 := by rw [← HQI.out, if_pos hw0]
  clear hRA hw0
  have rr1 := blk_cell (set1_3 (v0 := .int .i64 0) H5.out.z) 0
  have rr2 := blk_cell (set2_3 (v0 := .int .i64 0) (v1 := .int .i64 0) H5.out.z) 1
  have rr3 := blk_cell (set3_3 (v0 := .int .i64 0) (v1 := .int .i64 0) (v2 := .int .i64 0) H5.out.z) 2
  go_wp2_with fail
  refine bodyPost_ret (v := .tuple #[ruV 0 0 0, .int .i64 (a : Int), .int .i64 11]) (by simp [results, Tryz.results50, go_sem, rr1, rr2, rr3]) rfl ?_
  unfold RulR
  rw [HRA.out]
  first | exact ⟨_, _, _, rfl, H5.out.fin _ _ _⟩ | exact ⟨rfl, H5.out.fin _ _ _⟩
 obtain ⟨q, rfl⟩ : ∃ q : Nat, wi = (q : Int) := ⟨wi.toNat, by omega⟩
 obtain rfl : qi = (q : Int) := by rw [← HQI.out, if_neg hw0]
 have hwa : wordAt opW s a = .ok (q, a) := by rw [HW0.out, if_neg hw0]; rfl
 have hop := op_ok hi hwa
 have hsz := (word_ok hi hwa).2.2.2.2.2.1
 rw [he] at hsz
 have hae2 : a + (opA q).size = e := by
  have : (opA q).size = e - a := hsz
  omega
 have hq := hop.1
 have hR1 : ruleAt s a = if q = 1 then restAt 1 0 s e else (match kindAt q s e with
   | .error e => .error e
   | .ok (k, j) => restAt q k s j) := by
  unfold ruleAt
  rw [hwa]
  dsimp only
  by_cases h1 : q = 1
  ·subst h1
   rw [if_pos rfl, if_pos rfl, hae2]
  ·rw [if_neg h1, if_neg h1, hae2]
   cases kindAt q s e <;> rfl
 have HR1 := hide hR1
 clear hw0 hwa hop hsz hae2 hR1 HQI HW0 hsl
 obtain ⟨a1, ha1⟩ : ∃ r, endOf isBl s e = r := ⟨_, rfl⟩
 have ha1s : a1 ≤ s.size := by rw [← ha1]; exact endOf_le hes
 have ks := hide (fun W => rskip_v s e a1 W hes hs ha1)
 have q0 : ((q : Int) == 0) = false := by simp; omega
 have q0' : ¬ (q : Int) = 0 := by omega
 by_cases hq1 : q = 1
 ·subst hq1
  have hR2 : ruleAt s a = restAt 1 0 s e := by rw [HR1.out, if_pos rfl]
  have HR2 := hide hR2
  have HQ5 : Hid ((1 : Nat) ≠ 5) := hide (by decide)
  clear hR2 HR1
  obtain ⟨en, hen⟩ : ∃ r, endOf (inR 48 57) s a1 = r := ⟨_, rfl⟩
  have hien : a1 ≤ en := by rw [← hen]; exact endOf_ge _ _ _
  have hens : en ≤ s.size := by rw [← hen]; exact endOf_le ha1s
  obtain ⟨o, ho⟩ : ∃ r, numB (s.extract a1 en) = r := ⟨_, rfl⟩
  obtain ⟨n, hn⟩ : ∃ r, (if o = true then numV (s.extract a1 en) else 0) = r := ⟨_, rfl⟩
  obtain ⟨v, hv⟩ : ∃ r, rnumB 1 n = r := ⟨_, rfl⟩
  have kn := hide (fun W => rnumber_v s a1 en o n W ha1s hs hen ho (fun h => by rw [← hn, if_pos h]) (fun h => by rw [← hn, if_neg (by rw [h]; simp)]))
  have kb := hide (fun W => rNumber_v 1 n v W hv)
  have hR3 : ruleAt s a = (match (if o = true then (if opLeast 1 ≤ n ∧ n ≤ opMost 1 then (.ok (n, en) : Except (Nat × Int) (Int × Nat)) else .error (a1, 3)) else .error (a1, 10)) with
    | .error e => .error e
    | .ok (n, j) => (match tailAt s j with
     | .error e => .error e
     | .ok b => .ok ((1, 0, n), b))) := by
   have hN : numAt 1 s a1 = if o = true then (if opLeast 1 ≤ n ∧ n ≤ opMost 1 then .ok (n, en) else .error (a1, 3)) else .error (a1, 10) := by
    unfold numAt
    rw [hen, ho]
    cases o
    ·rfl
    ·rw [if_pos rfl] at hn
     rw [if_pos rfl, if_pos rfl, hn]
     try rfl
   rw [HR2.out]
   unfold restAt
   rw [if_neg HQ5.out, ha1, hN]
   generalize (if o = true then (if opLeast 1 ≤ n ∧ n ≤ opMost 1 then (.ok (n, en) : Except (Nat × Int) (Int × Nat)) else .error (a1, 3)) else .error (a1, 10)) = E
   cases E with
   | error e => rfl
   | ok p =>
    obtain ⟨n', j'⟩ := p
    dsimp only
    cases tailAt s j' <;> rfl
  have hvd : v = decide (opLeast 1 ≤ n ∧ n ≤ opMost 1) := by
   rw [← hv]
   unfold rnumB
   rw [decide_eq_true (show (1 : Int) ≤ 1 ∧ (1 : Int) ≤ 5 by omega), Bool.true_and]
  have HVD := hide hvd
  have HR3 := hide hR3
  have HEN := hide hen
  clear hen ho hn hv hR3 hvd HR2
  cases o
  ·have hRA : ruleAt s a = .error (a1, 10) := by rw [HR3.out]; rfl
   have HRA := hide hRA
   clear hRA
   go_upto_region 23 with (first | (go_at_call 48; with_reducible refine crv (ks.out _) fun _ _ => ?_; dsimp only) | (go_at_call 92; with_reducible refine crv (kn.out _) fun _ _ => ?_; dsimp only))
   refine wp_name ?_
   intro W9 hW
   have H9 : Hid (RB w W9 1 0 0) := hide (H5.out.up (by rw [← hW]; exact gw))
   clear hW
   clear x0 x1 x2 y0 y1 y2 xl z0 z1 z2 u0 u1 u2 zl
   have x0 := blk_cell H9.out.x 0
   have x1 := blk_cell H9.out.x 1
   have x2 := blk_cell H9.out.x 2
   have y0 := blk_frozen H9.out.x 0
   have y1 := blk_frozen H9.out.x 1
   have y2 := blk_frozen H9.out.x 2
   have xl := blk_lt H9.out.x
   have z0 := blk_cell H9.out.z 0
   have z1 := blk_cell H9.out.z 1
   have z2 := blk_cell H9.out.z 2
   have u0 := blk_frozen H9.out.z 0
   have u1 := blk_frozen H9.out.z 1
   have u2 := blk_frozen H9.out.z 2
   have zl := blk_lt H9.out.z
   have rr1 := blk_cell (set1_3 (v0 := .int .i64 1) H9.out.z) 0
   have rr2 := blk_cell (set2_3 (v0 := .int .i64 1) (v1 := .int .i64 0) H9.out.z) 1
   have rr3 := blk_cell (set3_3 (v0 := .int .i64 1) (v1 := .int .i64 0) (v2 := .int .i64 0) H9.out.z) 2
   go_wp2_with fail
   refine bodyPost_ret (v := .tuple #[ruV 1 0 0, .int .i64 (a1 : Int), .int .i64 10]) (by simp [results, Tryz.results50, go_sem, rr1, rr2, rr3]) rfl ?_
   unfold RulR
   rw [HRA.out]
   first | exact ⟨_, _, _, rfl, H9.out.fin _ _ _⟩ | exact ⟨rfl, H9.out.fin _ _ _⟩
  cases v
  ·have hRA : ruleAt s a = .error (a1, 3) := by rw [HR3.out, if_pos rfl, if_neg (by have := HVD.out; simpa using this.symm)]
   have HRA := hide hRA
   clear hRA
   go_upto_region 26 with (first | (go_at_call 48; with_reducible refine crv (ks.out _) fun _ _ => ?_; dsimp only) | (go_at_call 92; with_reducible refine crv (kn.out _) fun _ _ => ?_; dsimp only) | (go_at_call 57; with_reducible refine crv (kb.out _) fun _ _ => ?_; dsimp only))
   refine wp_name ?_
   intro W9 hW
   have H9 : Hid (RB w W9 1 0 0) := hide (H5.out.up (by rw [← hW]; exact gw))
   clear hW
   clear x0 x1 x2 y0 y1 y2 xl z0 z1 z2 u0 u1 u2 zl
   have x0 := blk_cell H9.out.x 0
   have x1 := blk_cell H9.out.x 1
   have x2 := blk_cell H9.out.x 2
   have y0 := blk_frozen H9.out.x 0
   have y1 := blk_frozen H9.out.x 1
   have y2 := blk_frozen H9.out.x 2
   have xl := blk_lt H9.out.x
   have z0 := blk_cell H9.out.z 0
   have z1 := blk_cell H9.out.z 1
   have z2 := blk_cell H9.out.z 2
   have u0 := blk_frozen H9.out.z 0
   have u1 := blk_frozen H9.out.z 1
   have u2 := blk_frozen H9.out.z 2
   have zl := blk_lt H9.out.z
   have rr1 := blk_cell (set1_3 (v0 := .int .i64 1) H9.out.z) 0
   have rr2 := blk_cell (set2_3 (v0 := .int .i64 1) (v1 := .int .i64 0) H9.out.z) 1
   have rr3 := blk_cell (set3_3 (v0 := .int .i64 1) (v1 := .int .i64 0) (v2 := .int .i64 0) H9.out.z) 2
   go_wp2_with fail
   refine bodyPost_ret (v := .tuple #[ruV 1 0 0, .int .i64 (a1 : Int), .int .i64 3]) (by simp [results, Tryz.results50, go_sem, rr1, rr2, rr3]) rfl ?_
   unfold RulR
   rw [HRA.out]
   first | exact ⟨_, _, _, rfl, H9.out.fin _ _ _⟩ | exact ⟨rfl, H9.out.fin _ _ _⟩
  have hR4 : ruleAt s a = (match tailAt s en with
     | .error e => .error e
     | .ok b => .ok ((1, 0, n), b)) := by
   rw [HR3.out, if_pos rfl, if_pos (by have := HVD.out; simpa using this.symm)]
  have HR4 := hide hR4
  clear hR4 HR3 HVD
  obtain ⟨i2, hi2⟩ : ∃ r, endOf isBl s en = r := ⟨_, rfl⟩
  have hi2s : i2 ≤ s.size := by rw [← hi2]; exact endOf_le hens
  have kt := hide (fun W => rskip_v s en i2 W hens hs hi2)
  go_upto_region 28 with (first | (go_at_call 48; with_reducible refine crv (ks.out _) fun _ _ => ?_; dsimp only) | (go_at_call 92; with_reducible refine crv (kn.out _) fun _ _ => ?_; dsimp only) | (go_at_call 57; with_reducible refine crv (kb.out _) fun _ _ => ?_; dsimp only))
  refine wp_name ?_
  intro W8 hW
  have H8 : Hid (RB w W8 1 0 n) := hide (H5.out.set 2 _ rfl (by rw [← hW]; exact gw))
  clear hW
  clear x0 x1 x2 y0 y1 y2 xl z0 z1 z2 u0 u1 u2 zl
  have x0 := blk_cell H8.out.x 0
  have x1 := blk_cell H8.out.x 1
  have x2 := blk_cell H8.out.x 2
  have y0 := blk_frozen H8.out.x 0
  have y1 := blk_frozen H8.out.x 1
  have y2 := blk_frozen H8.out.x 2
  have xl := blk_lt H8.out.x
  have z0 := blk_cell H8.out.z 0
  have z1 := blk_cell H8.out.z 1
  have z2 := blk_cell H8.out.z 2
  have u0 := blk_frozen H8.out.z 0
  have u1 := blk_frozen H8.out.z 1
  have u2 := blk_frozen H8.out.z 2
  have zl := blk_lt H8.out.z
  have hT : tailAt s en = if i2 < s.size ∧ bAt s i2 = 59 then .ok (i2 + 1) else .error (i2, 10) := by unfold tailAt; rw [hi2]
  have HT := hide hT
  clear hi2 hT
  by_cases hl2 : i2 = s.size
  ·subst hl2
   have hRA : ruleAt s a = .error (s.size, 10) := by rw [HR4.out, HT.out, if_neg (by omega)]
   have HRA := hide hRA
   clear hRA
   go_upto_region 30 with (first | (go_at_call 48; with_reducible refine crv (kt.out _) fun _ _ => ?_; dsimp only) | (go_at_call 48; with_reducible refine crv (ks.out _) fun _ _ => ?_; dsimp only))
   refine wp_name ?_
   intro W9 hW
   have H9 : Hid (RB w W9 1 0 n) := hide (H8.out.up (by rw [← hW]; exact gw))
   clear hW
   clear x0 x1 x2 y0 y1 y2 xl z0 z1 z2 u0 u1 u2 zl
   have x0 := blk_cell H9.out.x 0
   have x1 := blk_cell H9.out.x 1
   have x2 := blk_cell H9.out.x 2
   have y0 := blk_frozen H9.out.x 0
   have y1 := blk_frozen H9.out.x 1
   have y2 := blk_frozen H9.out.x 2
   have xl := blk_lt H9.out.x
   have z0 := blk_cell H9.out.z 0
   have z1 := blk_cell H9.out.z 1
   have z2 := blk_cell H9.out.z 2
   have u0 := blk_frozen H9.out.z 0
   have u1 := blk_frozen H9.out.z 1
   have u2 := blk_frozen H9.out.z 2
   have zl := blk_lt H9.out.z
   have rr1 := blk_cell (set1_3 (v0 := .int .i64 1) H9.out.z) 0
   have rr2 := blk_cell (set2_3 (v0 := .int .i64 1) (v1 := .int .i64 0) H9.out.z) 1
   have rr3 := blk_cell (set3_3 (v0 := .int .i64 1) (v1 := .int .i64 0) (v2 := .int .i64 n) H9.out.z) 2
   go_wp2_with fail
   refine bodyPost_ret (v := .tuple #[ruV 1 0 n, .int .i64 (s.size : Int), .int .i64 10]) (by simp [results, Tryz.results50, go_sem, rr1, rr2, rr3]) rfl ?_
   unfold RulR
   rw [HRA.out]
   first | exact ⟨_, _, _, rfl, H9.out.fin _ _ _⟩ | exact ⟨rfl, H9.out.fin _ _ _⟩
  have hlt2 : i2 < s.size := by omega
  have hix2 := str_idx Tryz.underlying9 s i2 hlt2
  have hl3 : ¬ (i2 : Int) = (s.size : Int) := by omega
  have hl4 : ((i2 : Int) == (s.size : Int)) = false := by simpa using hl3
  by_cases h59 : bAt s i2 = 59
  ·have hRA : ruleAt s a = .ok ((1, 0, n), i2 + 1) := by rw [HR4.out, HT.out, if_pos ⟨hlt2, h59⟩]
   have HRA := hide hRA
   rw [h59] at hix2
   clear hRA h59
   go_upto_region 31 with (first | (go_at_call 48; with_reducible refine crv (kt.out _) fun _ _ => ?_; dsimp only) | (go_at_call 48; with_reducible refine crv (ks.out _) fun _ _ => ?_; dsimp only))
   refine wp_name ?_
   intro W9 hW
   have H9 : Hid (RB w W9 1 0 n) := hide (H8.out.up (by rw [← hW]; exact gw))
   clear hW
   clear x0 x1 x2 y0 y1 y2 xl z0 z1 z2 u0 u1 u2 zl
   have x0 := blk_cell H9.out.x 0
   have x1 := blk_cell H9.out.x 1
   have x2 := blk_cell H9.out.x 2
   have y0 := blk_frozen H9.out.x 0
   have y1 := blk_frozen H9.out.x 1
   have y2 := blk_frozen H9.out.x 2
   have xl := blk_lt H9.out.x
   have z0 := blk_cell H9.out.z 0
   have z1 := blk_cell H9.out.z 1
   have z2 := blk_cell H9.out.z 2
   have u0 := blk_frozen H9.out.z 0
   have u1 := blk_frozen H9.out.z 1
   have u2 := blk_frozen H9.out.z 2
   have zl := blk_lt H9.out.z
   have rr1 := blk_cell (set1_3 (v0 := .int .i64 1) H9.out.z) 0
   have rr2 := blk_cell (set2_3 (v0 := .int .i64 1) (v1 := .int .i64 0) H9.out.z) 1
   have rr3 := blk_cell (set3_3 (v0 := .int .i64 1) (v1 := .int .i64 0) (v2 := .int .i64 n) H9.out.z) 2
   go_wp2_with fail
   refine bodyPost_ret (v := .tuple #[ruV 1 0 n, .int .i64 ((i2 + 1 : Nat) : Int), .int .i64 0]) (by simp [results, Tryz.results50, go_sem, rr1, rr2, rr3]) rfl ?_
   unfold RulR
   rw [HRA.out]
   first | exact ⟨_, _, _, rfl, H9.out.fin _ _ _⟩ | exact ⟨rfl, H9.out.fin _ _ _⟩
  ·have hRA : ruleAt s a = .error (i2, 10) := by rw [HR4.out, HT.out, if_neg (fun h => h59 h.2)]
   have HRA := hide hRA
   obtain ⟨b, hb⟩ : ∃ b, bAt s i2 = b := ⟨_, rfl⟩
   rw [hb] at hix2 h59
   have h60 : (b != 59) = true := by simpa using h59
   clear hRA hb
   go_upto_region 30 with (first | (go_at_call 48; with_reducible refine crv (kt.out _) fun _ _ => ?_; dsimp only) | (go_at_call 48; with_reducible refine crv (ks.out _) fun _ _ => ?_; dsimp only))
   refine wp_name ?_
   intro W9 hW
   have H9 : Hid (RB w W9 1 0 n) := hide (H8.out.up (by rw [← hW]; exact gw))
   clear hW
   clear x0 x1 x2 y0 y1 y2 xl z0 z1 z2 u0 u1 u2 zl
   have x0 := blk_cell H9.out.x 0
   have x1 := blk_cell H9.out.x 1
   have x2 := blk_cell H9.out.x 2
   have y0 := blk_frozen H9.out.x 0
   have y1 := blk_frozen H9.out.x 1
   have y2 := blk_frozen H9.out.x 2
   have xl := blk_lt H9.out.x
   have z0 := blk_cell H9.out.z 0
   have z1 := blk_cell H9.out.z 1
   have z2 := blk_cell H9.out.z 2
   have u0 := blk_frozen H9.out.z 0
   have u1 := blk_frozen H9.out.z 1
   have u2 := blk_frozen H9.out.z 2
   have zl := blk_lt H9.out.z
   have rr1 := blk_cell (set1_3 (v0 := .int .i64 1) H9.out.z) 0
   have rr2 := blk_cell (set2_3 (v0 := .int .i64 1) (v1 := .int .i64 0) H9.out.z) 1
   have rr3 := blk_cell (set3_3 (v0 := .int .i64 1) (v1 := .int .i64 0) (v2 := .int .i64 n) H9.out.z) 2
   go_wp2_with fail
   refine bodyPost_ret (v := .tuple #[ruV 1 0 n, .int .i64 (i2 : Int), .int .i64 10]) (by simp [results, Tryz.results50, go_sem, rr1, rr2, rr3]) rfl ?_
   unfold RulR
   rw [HRA.out]
   first | exact ⟨_, _, _, rfl, H9.out.fin _ _ _⟩ | exact ⟨rfl, H9.out.fin _ _ _⟩
 ·have q1 : ((q : Int) == 1) = false := by simp; omega
  have q1' : ((q : Int) != 1) = true := by simp; omega
  have hR2 : ruleAt s a = (match kindAt q s e with
   | .error e => .error e
   | .ok (k, j) => restAt q k s j) := by rw [HR1.out, if_neg hq1]
  have HR2 := hide hR2
  clear hR2 HR1
  obtain ⟨e2, he2⟩ : ∃ r, endOf (inR 97 122) s a1 = r := ⟨_, rfl⟩
  have hae2 : a1 ≤ e2 := by rw [← he2]; exact endOf_ge _ _ _
  have hes2 : e2 ≤ s.size := by rw [← he2]; exact endOf_le ha1s
  have kl := hide (fun W => rletters_v s a1 e2 W ha1s hs he2)
  have hW0 : wordAt kdW s e = if e2 = a1 then .error (a1, 10) else if wIdx kdW (s.extract a1 e2) < 0 then .error (a1, 11) else .ok ((wIdx kdW (s.extract a1 e2)).toNat, a1) := by unfold wordAt; rw [ha1, he2]
  by_cases hea2 : e2 = a1
  ·subst hea2
   rw [if_pos rfl] at hW0
   have hRA : ruleAt s a = .error (e2, 10) := by rw [HR2.out]; unfold kindAt; rw [hW0]
   have HRA := hide hRA
   clear hRA hW0
   go_upto_region 12 with (first | (go_at_call 48; with_reducible refine crv (ks.out _) fun _ _ => ?_; dsimp only) | (go_at_call 93; with_reducible refine crv (kl.out _) fun _ _ => ?_; dsimp only))
   refine wp_name ?_
   intro W9 hW
   have H9 : Hid (RB w W9 (q : Int) 0 0) := hide (H5.out.up (by rw [← hW]; exact gw))
   clear hW
   clear x0 x1 x2 y0 y1 y2 xl z0 z1 z2 u0 u1 u2 zl
   have x0 := blk_cell H9.out.x 0
   have x1 := blk_cell H9.out.x 1
   have x2 := blk_cell H9.out.x 2
   have y0 := blk_frozen H9.out.x 0
   have y1 := blk_frozen H9.out.x 1
   have y2 := blk_frozen H9.out.x 2
   have xl := blk_lt H9.out.x
   have z0 := blk_cell H9.out.z 0
   have z1 := blk_cell H9.out.z 1
   have z2 := blk_cell H9.out.z 2
   have u0 := blk_frozen H9.out.z 0
   have u1 := blk_frozen H9.out.z 1
   have u2 := blk_frozen H9.out.z 2
   have zl := blk_lt H9.out.z
   have rr1 := blk_cell (set1_3 (v0 := .int .i64 (q : Int)) H9.out.z) 0
   have rr2 := blk_cell (set2_3 (v0 := .int .i64 (q : Int)) (v1 := .int .i64 0) H9.out.z) 1
   have rr3 := blk_cell (set3_3 (v0 := .int .i64 (q : Int)) (v1 := .int .i64 0) (v2 := .int .i64 0) H9.out.z) 2
   go_wp2_with fail
   refine bodyPost_ret (v := .tuple #[ruV (q : Int) 0 0, .int .i64 (e2 : Int), .int .i64 10]) (by simp [results, Tryz.results50, go_sem, rr1, rr2, rr3]) rfl ?_
   unfold RulR
   rw [HRA.out]
   first | exact ⟨_, _, _, rfl, H9.out.fin _ _ _⟩ | exact ⟨rfl, H9.out.fin _ _ _⟩
  rw [if_neg hea2] at hW0
  have n1 : ((e2 : Int) == (a1 : Int)) = false := by simp; omega
  obtain ⟨x, hx⟩ : ∃ x, s.extract a1 e2 = x := ⟨_, rfl⟩
  have hsl := str_slice Tryz.underlying9 s a1 e2 hae2 hes2
  have hxs : x.size = e2 - a1 := by rw [← hx]; exact ext_size hes2
  rw [hx] at hsl hW0
  have h0 : ∀ z, kdW[0]? = some z → strB x z = false := fun z hz => by
   have : z = ⟨#[]⟩ := by simpa [kdW] using hz.symm
   subst this
   rw [← Bool.not_eq_true]
   intro h
   rw [strB_iff.1 h] at hxs
   have : (⟨#[]⟩ : ByteArray).size = 0 := rfl
   omega
  obtain ⟨wi, hwi⟩ : ∃ r, wIdx kdW x = r := ⟨_, rfl⟩
  have hwl := wIdx_lt kdW x
  obtain ⟨ki', hki⟩ : ∃ r, (if wi < 0 then (0 : Int) else wi) = r := ⟨_, rfl⟩
  have ki := hide (fun W A c (hr : Rd W W.heap.size 1 A (kdW.map encS)) => rindex_v kdW A c x ki' W hr (by decide) h0 (by rw [hwi, hki]))
  rw [hwi] at hwl hW0
  have HW0 := hide hW0
  have HKI := hide hki
  clear hki hW0 h0 hx hwi hxs
  go_upto_region 13 with (first | (go_at_call 48; with_reducible refine crv (ks.out _) fun _ _ => ?_; dsimp only) | (go_at_call 93; with_reducible refine crv (kl.out _) fun _ _ => ?_; dsimp only))
  refine wp_name ?_
  intro W6 hW
  have H6 : Hid (RB w W6 (q : Int) 0 0) := hide (H5.out.up (by rw [← hW]; exact gw))
  clear hW n1 ks kl
  clear x0 x1 x2 y0 y1 y2 xl z0 z1 z2 u0 u1 u2 zl
  have x0 := blk_cell H6.out.x 0
  have x1 := blk_cell H6.out.x 1
  have x2 := blk_cell H6.out.x 2
  have y0 := blk_frozen H6.out.x 0
  have y1 := blk_frozen H6.out.x 1
  have y2 := blk_frozen H6.out.x 2
  have xl := blk_lt H6.out.x
  have z0 := blk_cell H6.out.z 0
  have z1 := blk_cell H6.out.z 1
  have z2 := blk_cell H6.out.z 2
  have u0 := blk_frozen H6.out.z 0
  have u1 := blk_frozen H6.out.z 1
  have u2 := blk_frozen H6.out.z 2
  have zl := blk_lt H6.out.z
  refine E.wp_region_eff 8 [false, true, true, true, true] [0] hm (by kernel_rfl) (by simp only [E.pick, List.take, List.length_cons, List.length_nil, Nat.reduceAdd]; rfl) (by rfl) (by simp only [List.drop, List.take, List.length_cons, List.length_nil, Nat.reduceAdd, Nat.reduceSub]; rfl) (by simp only [List.drop]; rfl) ?_
  repeat (refine wpSteady_step (fun K hK => ?_); go_simp; first | (refine hK _ ?_; clear hK K) | (apply Exists.intro; refine ⟨fun _ => ?_, hK _ ?_⟩; (fail); clear hK K))
  refine wpSteady_nil ?_
  refine E.wpE_ready [0] (by simp) (by kernel_rfl) ?_
  intro e0 he0 o ho W2 hg2
  obtain rfl := List.mem_singleton.1 he0
  have HG2 := hide hg2
  clear hg2 he0
  simp at ho
  subst ho
  go_simp
  refine (rkinds_v W2).mono ?_
  rintro en W3 ⟨A3, c3, rfl, hr3, hg3⟩
  refine ⟨_, rfl, hg3.below.mono HG2.out.below.size, ?_⟩
  have HR3 := hide hr3
  have HG3 := hide (Grew.trans gw (HG2.out.trans hg3) : Grew W6 W3)
  clear hr3 hg3 HG2
  refine E.wpE_nil fun W4 hg4 => ?_
  have H4 := hide (H6.out.up (HG3.out.trans hg4))
  have HR4 := hide (HR3.out.up hg4)
  clear hg4 HR3 HG3
  clear x0 x1 x2 y0 y1 y2 xl z0 z1 z2 u0 u1 u2 zl
  have x0 := blk_cell H4.out.x 0
  have x1 := blk_cell H4.out.x 1
  have x2 := blk_cell H4.out.x 2
  have y0 := blk_frozen H4.out.x 0
  have y1 := blk_frozen H4.out.x 1
  have y2 := blk_frozen H4.out.x 2
  have xl := blk_lt H4.out.x
  have z0 := blk_cell H4.out.z 0
  have z1 := blk_cell H4.out.z 1
  have z2 := blk_cell H4.out.z 2
  have u0 := blk_frozen H4.out.z 0
  have u1 := blk_frozen H4.out.z 1
  have u2 := blk_frozen H4.out.z 2
  have zl := blk_lt H4.out.z
  go_wp2_with (go_at_call 94; with_reducible refine crv (ki.out _ _ _ (HR4.out.up gw)) fun _ _ => ?_; dsimp only)
  refine L.q2_normal ?_
  repeat (refine wpSteady_step (fun K hK => ?_); go_simp; refine hK _ ?_; clear hK K)
  refine wpSteady_nil ?_
  intro W7 hW3c
  have H7 : Hid (RB w W7 (q : Int) ki' 0) := hide (H4.out.set 1 _ rfl (Grew.trans gw hW3c))
  clear hW3c H4 HR4 ki
  clear x0 x1 x2 y0 y1 y2 xl z0 z1 z2 u0 u1 u2 zl
  have x0 := blk_cell H7.out.x 0
  have x1 := blk_cell H7.out.x 1
  have x2 := blk_cell H7.out.x 2
  have y0 := blk_frozen H7.out.x 0
  have y1 := blk_frozen H7.out.x 1
  have y2 := blk_frozen H7.out.x 2
  have xl := blk_lt H7.out.x
  have z0 := blk_cell H7.out.z 0
  have z1 := blk_cell H7.out.z 1
  have z2 := blk_cell H7.out.z 2
  have u0 := blk_frozen H7.out.z 0
  have u1 := blk_frozen H7.out.z 1
  have u2 := blk_frozen H7.out.z 2
  have zl := blk_lt H7.out.z
  by_cases hw0 : wi < 0
  ·have hRA : ruleAt s a = .error (a1, 11) := by rw [HR2.out]; unfold kindAt; rw [HW0.out, if_pos hw0]
   have HRA := hide hRA
   obtain rfl : ki' = 0 := by rw [← HKI.out, if_pos hw0]
   clear hRA hw0
   have rr1 := blk_cell (set1_3 (v0 := .int .i64 (q : Int)) H7.out.z) 0
   have rr2 := blk_cell (set2_3 (v0 := .int .i64 (q : Int)) (v1 := .int .i64 0) H7.out.z) 1
   have rr3 := blk_cell (set3_3 (v0 := .int .i64 (q : Int)) (v1 := .int .i64 0) (v2 := .int .i64 0) H7.out.z) 2
   go_wp2_with fail
   refine bodyPost_ret (v := .tuple #[ruV (q : Int) 0 0, .int .i64 (a1 : Int), .int .i64 11]) (by simp [results, Tryz.results50, go_sem, rr1, rr2, rr3]) rfl ?_
   unfold RulR
   rw [HRA.out]
   first | exact ⟨_, _, _, rfl, H7.out.fin _ _ _⟩ | exact ⟨rfl, H7.out.fin _ _ _⟩
  obtain ⟨k, rfl⟩ : ∃ k : Nat, wi = (k : Int) := ⟨wi.toNat, by omega⟩
  obtain rfl : ki' = (k : Int) := by rw [← HKI.out, if_neg hw0]
  have hwa : wordAt kdW s e = .ok (k, a1) := by rw [HW0.out, if_neg hw0]; rfl
  have hsz := (word_ok hes hwa).2.2.2.2.2.1
  rw [he2] at hsz
  have hk0 : k ≠ 0 := by
   intro h0
   subst h0
   have : (kdW.getD 0 ⟨#[]⟩).size = 0 := rfl
   omega
  have hae3 : a1 + (kdA k).size = e2 := by
   have : (kdA k).size = e2 - a1 := hsz
   omega
  have hKA : kindAt q s e = if (opKinds (q : Int)).contains (k : Int) = true then .ok (k, e2) else .error (a1, 12) := by
   unfold kindAt
   rw [hwa]
   dsimp only
   rw [hae3]
  have HKA := hide hKA
  have k0 : ((k : Int) == 0) = false := by simp; omega
  have k0' : ¬ (k : Int) = 0 := by omega
  clear hw0 hwa hsz hae3 hKA HKI HW0 hsl
  obtain ⟨v, hv⟩ : ∃ v, (opKinds (q : Int)).contains (k : Int) = v := ⟨_, rfl⟩
  have kk := hide (fun W => rKind_v (q : Int) (k : Int) v W hv)
  rw [hv] at HKA
  clear hv
  cases v
  ·have hRA : ruleAt s a = .error (a1, 12) := by rw [HR2.out, HKA.out]; rfl
   have HRA := hide hRA
   clear hRA
   go_upto_region 18 with (go_at_call 56; with_reducible refine crv (kk.out _) fun _ _ => ?_; dsimp only)
   refine wp_name ?_
   intro W9 hW
   have H9 : Hid (RB w W9 (q : Int) (k : Int) 0) := hide (H7.out.up (by rw [← hW]; exact gw))
   clear hW
   clear x0 x1 x2 y0 y1 y2 xl z0 z1 z2 u0 u1 u2 zl
   have x0 := blk_cell H9.out.x 0
   have x1 := blk_cell H9.out.x 1
   have x2 := blk_cell H9.out.x 2
   have y0 := blk_frozen H9.out.x 0
   have y1 := blk_frozen H9.out.x 1
   have y2 := blk_frozen H9.out.x 2
   have xl := blk_lt H9.out.x
   have z0 := blk_cell H9.out.z 0
   have z1 := blk_cell H9.out.z 1
   have z2 := blk_cell H9.out.z 2
   have u0 := blk_frozen H9.out.z 0
   have u1 := blk_frozen H9.out.z 1
   have u2 := blk_frozen H9.out.z 2
   have zl := blk_lt H9.out.z
   have rr1 := blk_cell (set1_3 (v0 := .int .i64 (q : Int)) H9.out.z) 0
   have rr2 := blk_cell (set2_3 (v0 := .int .i64 (q : Int)) (v1 := .int .i64 (k : Int)) H9.out.z) 1
   have rr3 := blk_cell (set3_3 (v0 := .int .i64 (q : Int)) (v1 := .int .i64 (k : Int)) (v2 := .int .i64 0) H9.out.z) 2
   go_wp2_with fail
   refine bodyPost_ret (v := .tuple #[ruV (q : Int) (k : Int) 0, .int .i64 (a1 : Int), .int .i64 12]) (by simp [results, Tryz.results50, go_sem, rr1, rr2, rr3]) rfl ?_
   unfold RulR
   rw [HRA.out]
   first | exact ⟨_, _, _, rfl, H9.out.fin _ _ _⟩ | exact ⟨rfl, H9.out.fin _ _ _⟩
  have hR3 : ruleAt s a = restAt q k s e2 := by rw [HR2.out, HKA.out, if_pos rfl]
  have HR3 := hide hR3
  clear hR3 HR2 HKA
  obtain ⟨a2, ha2⟩ : ∃ r, endOf isBl s e2 = r := ⟨_, rfl⟩
  have ha2s : a2 ≤ s.size := by rw [← ha2]; exact endOf_le hes2
  have ks := hide (fun W => rskip_v s e2 a2 W hes2 hs ha2)
  by_cases hq5 : q = 5
  ·subst hq5
   have hR4 : ruleAt s a = (match tailAt s a2 with
     | .error e => .error e
     | .ok b => .ok ((5, (k : Int), 0), b)) := by
    rw [HR3.out]
    unfold restAt
    rw [if_pos rfl, ha2]
    cases tailAt s a2 <;> rfl
   have HR4 := hide hR4
   have hT : tailAt s a2 = if a2 < s.size ∧ bAt s a2 = 59 then .ok (a2 + 1) else .error (a2, 10) := by
    have : endOf isBl s a2 = a2 := by rw [← ha2]; exact end_idem _ _
    unfold tailAt
    rw [this]
   have HT := hide hT
   have H8 : Hid (RB w W7 5 (k : Int) 0) := H7
   clear hR4 hT ha2 HR3 hae2
   clear x0 x1 x2 y0 y1 y2 xl z0 z1 z2 u0 u1 u2 zl
   have x0 := blk_cell H8.out.x 0
   have x1 := blk_cell H8.out.x 1
   have x2 := blk_cell H8.out.x 2
   have y0 := blk_frozen H8.out.x 0
   have y1 := blk_frozen H8.out.x 1
   have y2 := blk_frozen H8.out.x 2
   have xl := blk_lt H8.out.x
   have z0 := blk_cell H8.out.z 0
   have z1 := blk_cell H8.out.z 1
   have z2 := blk_cell H8.out.z 2
   have u0 := blk_frozen H8.out.z 0
   have u1 := blk_frozen H8.out.z 1
   have u2 := blk_frozen H8.out.z 2
   have zl := blk_lt H8.out.z
   go_upto_region 29 with (first | (go_at_call 56; with_reducible refine crv (kk.out _) fun _ _ => ?_; dsimp only) | (go_at_call 48; with_reducible refine crv (ks.out _) fun _ _ => ?_; dsimp only))
   obtain ⟨i2, rfl⟩ : ∃ i2, i2 = a2 := ⟨_, rfl⟩
   have kt := ks
   by_cases hl2 : i2 = s.size
   ·subst hl2
    have hRA : ruleAt s a = .error (s.size, 10) := by rw [HR4.out, HT.out, if_neg (by omega)]
    have HRA := hide hRA
    clear hRA
    go_upto_region 30 with (first | (go_at_call 48; with_reducible refine crv (kt.out _) fun _ _ => ?_; dsimp only) | (go_at_call 48; with_reducible refine crv (ks.out _) fun _ _ => ?_; dsimp only))
    refine wp_name ?_
    intro W9 hW
    have H9 : Hid (RB w W9 5 (k : Int) 0) := hide (H8.out.up (by rw [← hW]; exact gw))
    clear hW
    clear x0 x1 x2 y0 y1 y2 xl z0 z1 z2 u0 u1 u2 zl
    have x0 := blk_cell H9.out.x 0
    have x1 := blk_cell H9.out.x 1
    have x2 := blk_cell H9.out.x 2
    have y0 := blk_frozen H9.out.x 0
    have y1 := blk_frozen H9.out.x 1
    have y2 := blk_frozen H9.out.x 2
    have xl := blk_lt H9.out.x
    have z0 := blk_cell H9.out.z 0
    have z1 := blk_cell H9.out.z 1
    have z2 := blk_cell H9.out.z 2
    have u0 := blk_frozen H9.out.z 0
    have u1 := blk_frozen H9.out.z 1
    have u2 := blk_frozen H9.out.z 2
    have zl := blk_lt H9.out.z
    have rr1 := blk_cell (set1_3 (v0 := .int .i64 5) H9.out.z) 0
    have rr2 := blk_cell (set2_3 (v0 := .int .i64 5) (v1 := .int .i64 (k : Int)) H9.out.z) 1
    have rr3 := blk_cell (set3_3 (v0 := .int .i64 5) (v1 := .int .i64 (k : Int)) (v2 := .int .i64 0) H9.out.z) 2
    go_wp2_with fail
    refine bodyPost_ret (v := .tuple #[ruV 5 (k : Int) 0, .int .i64 (s.size : Int), .int .i64 10]) (by simp [results, Tryz.results50, go_sem, rr1, rr2, rr3]) rfl ?_
    unfold RulR
    rw [HRA.out]
    first | exact ⟨_, _, _, rfl, H9.out.fin _ _ _⟩ | exact ⟨rfl, H9.out.fin _ _ _⟩
   have hlt2 : i2 < s.size := by omega
   have hix2 := str_idx Tryz.underlying9 s i2 hlt2
   have hl3 : ¬ (i2 : Int) = (s.size : Int) := by omega
   have hl4 : ((i2 : Int) == (s.size : Int)) = false := by simpa using hl3
   by_cases h59 : bAt s i2 = 59
   ·have hRA : ruleAt s a = .ok ((5, (k : Int), 0), i2 + 1) := by rw [HR4.out, HT.out, if_pos ⟨hlt2, h59⟩]
    have HRA := hide hRA
    rw [h59] at hix2
    clear hRA h59
    go_upto_region 31 with (first | (go_at_call 48; with_reducible refine crv (kt.out _) fun _ _ => ?_; dsimp only) | (go_at_call 48; with_reducible refine crv (ks.out _) fun _ _ => ?_; dsimp only))
    refine wp_name ?_
    intro W9 hW
    have H9 : Hid (RB w W9 5 (k : Int) 0) := hide (H8.out.up (by rw [← hW]; exact gw))
    clear hW
    clear x0 x1 x2 y0 y1 y2 xl z0 z1 z2 u0 u1 u2 zl
    have x0 := blk_cell H9.out.x 0
    have x1 := blk_cell H9.out.x 1
    have x2 := blk_cell H9.out.x 2
    have y0 := blk_frozen H9.out.x 0
    have y1 := blk_frozen H9.out.x 1
    have y2 := blk_frozen H9.out.x 2
    have xl := blk_lt H9.out.x
    have z0 := blk_cell H9.out.z 0
    have z1 := blk_cell H9.out.z 1
    have z2 := blk_cell H9.out.z 2
    have u0 := blk_frozen H9.out.z 0
    have u1 := blk_frozen H9.out.z 1
    have u2 := blk_frozen H9.out.z 2
    have zl := blk_lt H9.out.z
    have rr1 := blk_cell (set1_3 (v0 := .int .i64 5) H9.out.z) 0
    have rr2 := blk_cell (set2_3 (v0 := .int .i64 5) (v1 := .int .i64 (k : Int)) H9.out.z) 1
    have rr3 := blk_cell (set3_3 (v0 := .int .i64 5) (v1 := .int .i64 (k : Int)) (v2 := .int .i64 0) H9.out.z) 2
    go_wp2_with fail
    refine bodyPost_ret (v := .tuple #[ruV 5 (k : Int) 0, .int .i64 ((i2 + 1 : Nat) : Int), .int .i64 0]) (by simp [results, Tryz.results50, go_sem, rr1, rr2, rr3]) rfl ?_
    unfold RulR
    rw [HRA.out]
    first | exact ⟨_, _, _, rfl, H9.out.fin _ _ _⟩ | exact ⟨rfl, H9.out.fin _ _ _⟩
   ·have hRA : ruleAt s a = .error (i2, 10) := by rw [HR4.out, HT.out, if_neg (fun h => h59 h.2)]
    have HRA := hide hRA
    obtain ⟨b, hb⟩ : ∃ b, bAt s i2 = b := ⟨_, rfl⟩
    rw [hb] at hix2 h59
    have h60 : (b != 59) = true := by simpa using h59
    clear hRA hb
    go_upto_region 30 with (first | (go_at_call 48; with_reducible refine crv (kt.out _) fun _ _ => ?_; dsimp only) | (go_at_call 48; with_reducible refine crv (ks.out _) fun _ _ => ?_; dsimp only))
    refine wp_name ?_
    intro W9 hW
    have H9 : Hid (RB w W9 5 (k : Int) 0) := hide (H8.out.up (by rw [← hW]; exact gw))
    clear hW
    clear x0 x1 x2 y0 y1 y2 xl z0 z1 z2 u0 u1 u2 zl
    have x0 := blk_cell H9.out.x 0
    have x1 := blk_cell H9.out.x 1
    have x2 := blk_cell H9.out.x 2
    have y0 := blk_frozen H9.out.x 0
    have y1 := blk_frozen H9.out.x 1
    have y2 := blk_frozen H9.out.x 2
    have xl := blk_lt H9.out.x
    have z0 := blk_cell H9.out.z 0
    have z1 := blk_cell H9.out.z 1
    have z2 := blk_cell H9.out.z 2
    have u0 := blk_frozen H9.out.z 0
    have u1 := blk_frozen H9.out.z 1
    have u2 := blk_frozen H9.out.z 2
    have zl := blk_lt H9.out.z
    have rr1 := blk_cell (set1_3 (v0 := .int .i64 5) H9.out.z) 0
    have rr2 := blk_cell (set2_3 (v0 := .int .i64 5) (v1 := .int .i64 (k : Int)) H9.out.z) 1
    have rr3 := blk_cell (set3_3 (v0 := .int .i64 5) (v1 := .int .i64 (k : Int)) (v2 := .int .i64 0) H9.out.z) 2
    go_wp2_with fail
    refine bodyPost_ret (v := .tuple #[ruV 5 (k : Int) 0, .int .i64 (i2 : Int), .int .i64 10]) (by simp [results, Tryz.results50, go_sem, rr1, rr2, rr3]) rfl ?_
    unfold RulR
    rw [HRA.out]
    first | exact ⟨_, _, _, rfl, H9.out.fin _ _ _⟩ | exact ⟨rfl, H9.out.fin _ _ _⟩
  ·have q5 : ((q : Int) == 5) = false := by simp; omega
   have q5' : ((q : Int) != 5) = true := by simp; omega
   have HQ5 := hide hq5
   have HR2 := HR3
   clear HR3 hq5
   go_upto_region 20 with (first | (go_at_call 56; with_reducible refine crv (kk.out _) fun _ _ => ?_; dsimp only) | (go_at_call 48; with_reducible refine crv (ks.out _) fun _ _ => ?_; dsimp only))
   obtain ⟨en, hen⟩ : ∃ r, endOf (inR 48 57) s a2 = r := ⟨_, rfl⟩
   have hien : a2 ≤ en := by rw [← hen]; exact endOf_ge _ _ _
   have hens : en ≤ s.size := by rw [← hen]; exact endOf_le ha2s
   obtain ⟨o, ho⟩ : ∃ r, numB (s.extract a2 en) = r := ⟨_, rfl⟩
   obtain ⟨n, hn⟩ : ∃ r, (if o = true then numV (s.extract a2 en) else 0) = r := ⟨_, rfl⟩
   obtain ⟨v, hv⟩ : ∃ r, rnumB (q : Int) n = r := ⟨_, rfl⟩
   have kn := hide (fun W => rnumber_v s a2 en o n W ha2s hs hen ho (fun h => by rw [← hn, if_pos h]) (fun h => by rw [← hn, if_neg (by rw [h]; simp)]))
   have kb := hide (fun W => rNumber_v (q : Int) n v W hv)
   have hR3 : ruleAt s a = (match (if o = true then (if opLeast (q : Int) ≤ n ∧ n ≤ opMost (q : Int) then (.ok (n, en) : Except (Nat × Int) (Int × Nat)) else .error (a2, 3)) else .error (a2, 10)) with
     | .error e => .error e
     | .ok (n, j) => (match tailAt s j with
      | .error e => .error e
      | .ok b => .ok (((q : Int), (k : Int), n), b))) := by
    have hN : numAt q s a2 = if o = true then (if opLeast (q : Int) ≤ n ∧ n ≤ opMost (q : Int) then .ok (n, en) else .error (a2, 3)) else .error (a2, 10) := by
     unfold numAt
     rw [hen, ho]
     cases o
     ·rfl
     ·rw [if_pos rfl] at hn
      rw [if_pos rfl, if_pos rfl, hn]
      try rfl
    rw [HR2.out]
    unfold restAt
    rw [if_neg HQ5.out, ha2, hN]
    generalize (if o = true then (if opLeast (q : Int) ≤ n ∧ n ≤ opMost (q : Int) then (.ok (n, en) : Except (Nat × Int) (Int × Nat)) else .error (a2, 3)) else .error (a2, 10)) = E
    cases E with
    | error e => rfl
    | ok p =>
     obtain ⟨n', j'⟩ := p
     dsimp only
     cases tailAt s j' <;> rfl
   have hvd : v = decide (opLeast (q : Int) ≤ n ∧ n ≤ opMost (q : Int)) := by
    rw [← hv]
    unfold rnumB
    rw [decide_eq_true (show (1 : Int) ≤ (q : Int) ∧ ((q : Int) : Int) ≤ 5 by omega), Bool.true_and]
   have HVD := hide hvd
   have HR3 := hide hR3
   have HEN := hide hen
   clear hen ho hn hv hR3 hvd HR2
   cases o
   ·have hRA : ruleAt s a = .error (a2, 10) := by rw [HR3.out]; rfl
    have HRA := hide hRA
    clear hRA
    go_upto_region 23 with (first | (go_at_call 48; with_reducible refine crv (ks.out _) fun _ _ => ?_; dsimp only) | (go_at_call 92; with_reducible refine crv (kn.out _) fun _ _ => ?_; dsimp only))
    refine wp_name ?_
    intro W9 hW
    have H9 : Hid (RB w W9 (q : Int) (k : Int) 0) := hide (H7.out.up (by rw [← hW]; exact gw))
    clear hW
    clear x0 x1 x2 y0 y1 y2 xl z0 z1 z2 u0 u1 u2 zl
    have x0 := blk_cell H9.out.x 0
    have x1 := blk_cell H9.out.x 1
    have x2 := blk_cell H9.out.x 2
    have y0 := blk_frozen H9.out.x 0
    have y1 := blk_frozen H9.out.x 1
    have y2 := blk_frozen H9.out.x 2
    have xl := blk_lt H9.out.x
    have z0 := blk_cell H9.out.z 0
    have z1 := blk_cell H9.out.z 1
    have z2 := blk_cell H9.out.z 2
    have u0 := blk_frozen H9.out.z 0
    have u1 := blk_frozen H9.out.z 1
    have u2 := blk_frozen H9.out.z 2
    have zl := blk_lt H9.out.z
    have rr1 := blk_cell (set1_3 (v0 := .int .i64 (q : Int)) H9.out.z) 0
    have rr2 := blk_cell (set2_3 (v0 := .int .i64 (q : Int)) (v1 := .int .i64 (k : Int)) H9.out.z) 1
    have rr3 := blk_cell (set3_3 (v0 := .int .i64 (q : Int)) (v1 := .int .i64 (k : Int)) (v2 := .int .i64 0) H9.out.z) 2
    go_wp2_with fail
    refine bodyPost_ret (v := .tuple #[ruV (q : Int) (k : Int) 0, .int .i64 (a2 : Int), .int .i64 10]) (by simp [results, Tryz.results50, go_sem, rr1, rr2, rr3]) rfl ?_
    unfold RulR
    rw [HRA.out]
    first | exact ⟨_, _, _, rfl, H9.out.fin _ _ _⟩ | exact ⟨rfl, H9.out.fin _ _ _⟩
   cases v
   ·have hRA : ruleAt s a = .error (a2, 3) := by rw [HR3.out, if_pos rfl, if_neg (by have := HVD.out; simpa using this.symm)]
    have HRA := hide hRA
    clear hRA
    go_upto_region 26 with (first | (go_at_call 48; with_reducible refine crv (ks.out _) fun _ _ => ?_; dsimp only) | (go_at_call 92; with_reducible refine crv (kn.out _) fun _ _ => ?_; dsimp only) | (go_at_call 57; with_reducible refine crv (kb.out _) fun _ _ => ?_; dsimp only))
    refine wp_name ?_
    intro W9 hW
    have H9 : Hid (RB w W9 (q : Int) (k : Int) 0) := hide (H7.out.up (by rw [← hW]; exact gw))
    clear hW
    clear x0 x1 x2 y0 y1 y2 xl z0 z1 z2 u0 u1 u2 zl
    have x0 := blk_cell H9.out.x 0
    have x1 := blk_cell H9.out.x 1
    have x2 := blk_cell H9.out.x 2
    have y0 := blk_frozen H9.out.x 0
    have y1 := blk_frozen H9.out.x 1
    have y2 := blk_frozen H9.out.x 2
    have xl := blk_lt H9.out.x
    have z0 := blk_cell H9.out.z 0
    have z1 := blk_cell H9.out.z 1
    have z2 := blk_cell H9.out.z 2
    have u0 := blk_frozen H9.out.z 0
    have u1 := blk_frozen H9.out.z 1
    have u2 := blk_frozen H9.out.z 2
    have zl := blk_lt H9.out.z
    have rr1 := blk_cell (set1_3 (v0 := .int .i64 (q : Int)) H9.out.z) 0
    have rr2 := blk_cell (set2_3 (v0 := .int .i64 (q : Int)) (v1 := .int .i64 (k : Int)) H9.out.z) 1
    have rr3 := blk_cell (set3_3 (v0 := .int .i64 (q : Int)) (v1 := .int .i64 (k : Int)) (v2 := .int .i64 0) H9.out.z) 2
    go_wp2_with fail
    refine bodyPost_ret (v := .tuple #[ruV (q : Int) (k : Int) 0, .int .i64 (a2 : Int), .int .i64 3]) (by simp [results, Tryz.results50, go_sem, rr1, rr2, rr3]) rfl ?_
    unfold RulR
    rw [HRA.out]
    first | exact ⟨_, _, _, rfl, H9.out.fin _ _ _⟩ | exact ⟨rfl, H9.out.fin _ _ _⟩
   have hR4 : ruleAt s a = (match tailAt s en with
      | .error e => .error e
      | .ok b => .ok (((q : Int), (k : Int), n), b)) := by
    rw [HR3.out, if_pos rfl, if_pos (by have := HVD.out; simpa using this.symm)]
   have HR4 := hide hR4
   clear hR4 HR3 HVD
   obtain ⟨i2, hi2⟩ : ∃ r, endOf isBl s en = r := ⟨_, rfl⟩
   have hi2s : i2 ≤ s.size := by rw [← hi2]; exact endOf_le hens
   have kt := hide (fun W => rskip_v s en i2 W hens hs hi2)
   go_upto_region 28 with (first | (go_at_call 48; with_reducible refine crv (ks.out _) fun _ _ => ?_; dsimp only) | (go_at_call 92; with_reducible refine crv (kn.out _) fun _ _ => ?_; dsimp only) | (go_at_call 57; with_reducible refine crv (kb.out _) fun _ _ => ?_; dsimp only))
   refine wp_name ?_
   intro W8 hW
   have H8 : Hid (RB w W8 (q : Int) (k : Int) n) := hide (H7.out.set 2 _ rfl (by rw [← hW]; exact gw))
   clear hW
   clear x0 x1 x2 y0 y1 y2 xl z0 z1 z2 u0 u1 u2 zl
   have x0 := blk_cell H8.out.x 0
   have x1 := blk_cell H8.out.x 1
   have x2 := blk_cell H8.out.x 2
   have y0 := blk_frozen H8.out.x 0
   have y1 := blk_frozen H8.out.x 1
   have y2 := blk_frozen H8.out.x 2
   have xl := blk_lt H8.out.x
   have z0 := blk_cell H8.out.z 0
   have z1 := blk_cell H8.out.z 1
   have z2 := blk_cell H8.out.z 2
   have u0 := blk_frozen H8.out.z 0
   have u1 := blk_frozen H8.out.z 1
   have u2 := blk_frozen H8.out.z 2
   have zl := blk_lt H8.out.z
   have hT : tailAt s en = if i2 < s.size ∧ bAt s i2 = 59 then .ok (i2 + 1) else .error (i2, 10) := by unfold tailAt; rw [hi2]
   have HT := hide hT
   clear hi2 hT
   by_cases hl2 : i2 = s.size
   ·subst hl2
    have hRA : ruleAt s a = .error (s.size, 10) := by rw [HR4.out, HT.out, if_neg (by omega)]
    have HRA := hide hRA
    clear hRA
    go_upto_region 30 with (first | (go_at_call 48; with_reducible refine crv (kt.out _) fun _ _ => ?_; dsimp only) | (go_at_call 48; with_reducible refine crv (ks.out _) fun _ _ => ?_; dsimp only))
    refine wp_name ?_
    intro W9 hW
    have H9 : Hid (RB w W9 (q : Int) (k : Int) n) := hide (H8.out.up (by rw [← hW]; exact gw))
    clear hW
    clear x0 x1 x2 y0 y1 y2 xl z0 z1 z2 u0 u1 u2 zl
    have x0 := blk_cell H9.out.x 0
    have x1 := blk_cell H9.out.x 1
    have x2 := blk_cell H9.out.x 2
    have y0 := blk_frozen H9.out.x 0
    have y1 := blk_frozen H9.out.x 1
    have y2 := blk_frozen H9.out.x 2
    have xl := blk_lt H9.out.x
    have z0 := blk_cell H9.out.z 0
    have z1 := blk_cell H9.out.z 1
    have z2 := blk_cell H9.out.z 2
    have u0 := blk_frozen H9.out.z 0
    have u1 := blk_frozen H9.out.z 1
    have u2 := blk_frozen H9.out.z 2
    have zl := blk_lt H9.out.z
    have rr1 := blk_cell (set1_3 (v0 := .int .i64 (q : Int)) H9.out.z) 0
    have rr2 := blk_cell (set2_3 (v0 := .int .i64 (q : Int)) (v1 := .int .i64 (k : Int)) H9.out.z) 1
    have rr3 := blk_cell (set3_3 (v0 := .int .i64 (q : Int)) (v1 := .int .i64 (k : Int)) (v2 := .int .i64 n) H9.out.z) 2
    go_wp2_with fail
    refine bodyPost_ret (v := .tuple #[ruV (q : Int) (k : Int) n, .int .i64 (s.size : Int), .int .i64 10]) (by simp [results, Tryz.results50, go_sem, rr1, rr2, rr3]) rfl ?_
    unfold RulR
    rw [HRA.out]
    first | exact ⟨_, _, _, rfl, H9.out.fin _ _ _⟩ | exact ⟨rfl, H9.out.fin _ _ _⟩
   have hlt2 : i2 < s.size := by omega
   have hix2 := str_idx Tryz.underlying9 s i2 hlt2
   have hl3 : ¬ (i2 : Int) = (s.size : Int) := by omega
   have hl4 : ((i2 : Int) == (s.size : Int)) = false := by simpa using hl3
   by_cases h59 : bAt s i2 = 59
   ·have hRA : ruleAt s a = .ok (((q : Int), (k : Int), n), i2 + 1) := by rw [HR4.out, HT.out, if_pos ⟨hlt2, h59⟩]
    have HRA := hide hRA
    rw [h59] at hix2
    clear hRA h59
    go_upto_region 31 with (first | (go_at_call 48; with_reducible refine crv (kt.out _) fun _ _ => ?_; dsimp only) | (go_at_call 48; with_reducible refine crv (ks.out _) fun _ _ => ?_; dsimp only))
    refine wp_name ?_
    intro W9 hW
    have H9 : Hid (RB w W9 (q : Int) (k : Int) n) := hide (H8.out.up (by rw [← hW]; exact gw))
    clear hW
    clear x0 x1 x2 y0 y1 y2 xl z0 z1 z2 u0 u1 u2 zl
    have x0 := blk_cell H9.out.x 0
    have x1 := blk_cell H9.out.x 1
    have x2 := blk_cell H9.out.x 2
    have y0 := blk_frozen H9.out.x 0
    have y1 := blk_frozen H9.out.x 1
    have y2 := blk_frozen H9.out.x 2
    have xl := blk_lt H9.out.x
    have z0 := blk_cell H9.out.z 0
    have z1 := blk_cell H9.out.z 1
    have z2 := blk_cell H9.out.z 2
    have u0 := blk_frozen H9.out.z 0
    have u1 := blk_frozen H9.out.z 1
    have u2 := blk_frozen H9.out.z 2
    have zl := blk_lt H9.out.z
    have rr1 := blk_cell (set1_3 (v0 := .int .i64 (q : Int)) H9.out.z) 0
    have rr2 := blk_cell (set2_3 (v0 := .int .i64 (q : Int)) (v1 := .int .i64 (k : Int)) H9.out.z) 1
    have rr3 := blk_cell (set3_3 (v0 := .int .i64 (q : Int)) (v1 := .int .i64 (k : Int)) (v2 := .int .i64 n) H9.out.z) 2
    go_wp2_with fail
    refine bodyPost_ret (v := .tuple #[ruV (q : Int) (k : Int) n, .int .i64 ((i2 + 1 : Nat) : Int), .int .i64 0]) (by simp [results, Tryz.results50, go_sem, rr1, rr2, rr3]) rfl ?_
    unfold RulR
    rw [HRA.out]
    first | exact ⟨_, _, _, rfl, H9.out.fin _ _ _⟩ | exact ⟨rfl, H9.out.fin _ _ _⟩
   ·have hRA : ruleAt s a = .error (i2, 10) := by rw [HR4.out, HT.out, if_neg (fun h => h59 h.2)]
    have HRA := hide hRA
    obtain ⟨b, hb⟩ : ∃ b, bAt s i2 = b := ⟨_, rfl⟩
    rw [hb] at hix2 h59
    have h60 : (b != 59) = true := by simpa using h59
    clear hRA hb
    go_upto_region 30 with (first | (go_at_call 48; with_reducible refine crv (kt.out _) fun _ _ => ?_; dsimp only) | (go_at_call 48; with_reducible refine crv (ks.out _) fun _ _ => ?_; dsimp only))
    refine wp_name ?_
    intro W9 hW
    have H9 : Hid (RB w W9 (q : Int) (k : Int) n) := hide (H8.out.up (by rw [← hW]; exact gw))
    clear hW
    clear x0 x1 x2 y0 y1 y2 xl z0 z1 z2 u0 u1 u2 zl
    have x0 := blk_cell H9.out.x 0
    have x1 := blk_cell H9.out.x 1
    have x2 := blk_cell H9.out.x 2
    have y0 := blk_frozen H9.out.x 0
    have y1 := blk_frozen H9.out.x 1
    have y2 := blk_frozen H9.out.x 2
    have xl := blk_lt H9.out.x
    have z0 := blk_cell H9.out.z 0
    have z1 := blk_cell H9.out.z 1
    have z2 := blk_cell H9.out.z 2
    have u0 := blk_frozen H9.out.z 0
    have u1 := blk_frozen H9.out.z 1
    have u2 := blk_frozen H9.out.z 2
    have zl := blk_lt H9.out.z
    have rr1 := blk_cell (set1_3 (v0 := .int .i64 (q : Int)) H9.out.z) 0
    have rr2 := blk_cell (set2_3 (v0 := .int .i64 (q : Int)) (v1 := .int .i64 (k : Int)) H9.out.z) 1
    have rr3 := blk_cell (set3_3 (v0 := .int .i64 (q : Int)) (v1 := .int .i64 (k : Int)) (v2 := .int .i64 n) H9.out.z) 2
    go_wp2_with fail
    refine bodyPost_ret (v := .tuple #[ruV (q : Int) (k : Int) n, .int .i64 (i2 : Int), .int .i64 10]) (by simp [results, Tryz.results50, go_sem, rr1, rr2, rr3]) rfl ?_
    unfold RulR
    rw [HRA.out]
    first | exact ⟨_, _, _, rfl, H9.out.fin _ _ _⟩ | exact ⟨rfl, H9.out.fin _ _ _⟩
end Go.Proofs.YtfeccolljfkejaaGreatDoor
