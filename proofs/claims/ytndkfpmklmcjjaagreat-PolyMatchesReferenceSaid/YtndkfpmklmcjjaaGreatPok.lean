/- Package poly: has. -/
import Derived.Test.YtndkfpmklmcjjaaGreatPoj
set_option linter.unusedSimpArgs false
set_option linter.unusedVariables false
set_option maxHeartbeats 32000000
set_option maxRecDepth 100000
namespace Go.Proofs.YtndkfpmklmcjjaaGreat
open Go.RowKit Go.Sort
attribute [local go_sem] Steady steadyUpon
attribute [local go_sem ↓] hs_dr lt_add_r lt_add_r2 lt_add_r3 lt_add_r4 lt_add_r5 lt_add_r6
attribute [local go_sem] cell?_gd frozen?_gd setCell_gd size_grow tape_grow cell?_grow' frozen?_grow' setCell_grow' grow_grow grow_dr grow_drew dr_dr dr_drew drew_dr dr_alloc dr_setCell dr_cell dr_frozen dr_tape dr_drawn
attribute [local irreducible] wpSteady
attribute [local go_sem] Oper.semAt_some
theorem leads_v (ps : List Pt) (A : Option Addr) (c : Nat) (q to : Pt) (r : Bool) (w : World) (hr : Rd w w.heap.size 2 A (ps.map encD)) (hl : ps.length ≤ 100) (hok : ps.all Pt.ok = true) (hq : q.ok = true) (hto : to.ok = true) (h : leadsOf ps q to = r) :
  Calls Tryz.prog 78 #[.slice A ps.length c, pt q.1 q.2, pt to.1 to.2] w (Ret w (.bool r)) := by
 have := leads_any ps A c q to w hr hl hok hq hto
 rwa [h] at this
theorem undef_ne {b : Bool} (h : some undef = some (Value.bool b)) : False := by simp [undef] at h
/-- What has asks of an edge. -/
def edgeHas (ps : List Pt) (a b : Pt) (i : Nat) : Bool :=
 !(cutB a b (cor ps i) (cor ps (i + 1))) && !(decide (cor ps i ≠ a) && (decide (cor ps i ≠ b) && (onB (cor ps i) a b && !(opensOf ps i a && opensOf ps i b))))
def hasFst (ps : List Pt) (a b : Pt) : Bool := decide (0 ≤ placeOf ps a) && (decide (0 ≤ placeOf ps b) && (leadsOf ps a b && leadsOf ps b a))
def hasOf (ps : List Pt) (a b : Pt) : Bool := hasFst ps a b && (List.range ps.length).all (edgeHas ps a b)
theorem has_no (ps : List Pt) (A : Option Addr) (c : Nat) (a b : Pt) (w : World) (hr : Rd w w.heap.size 2 A (ps.map encD)) (hl : ps.length ≤ 100) (hok : ps.all Pt.ok = true) (ha : a.ok = true) (hb : b.ok = true) (h : hasFst ps a b = false) :
  Calls Tryz.prog 44 #[.slice A ps.length c, pt a.1 a.2, pt b.1 b.2] w (Ret w (.bool false)) := by
 have hm := hmix
 unfold hasFst at h
 obtain ⟨pa, hpa⟩ : ∃ p, placeOf ps a = p := ⟨_, rfl⟩
 obtain ⟨pb, hpb⟩ : ∃ p, placeOf ps b = p := ⟨_, rfl⟩
 obtain ⟨la, hla⟩ : ∃ p, leadsOf ps a b = p := ⟨_, rfl⟩
 obtain ⟨lb, hlb⟩ : ∃ p, leadsOf ps b a = p := ⟨_, rfl⟩
 rw [hpa, hpb, hla, hlb] at h
 have k1 := hide (fun W (hg : Grew w W) => place_v ps A c a pa W (hr.up hg) hl hok ha hpa)
 have k2 := hide (fun W (hg : Grew w W) => place_v ps A c b pb W (hr.up hg) hl hok hb hpb)
 have k3 := hide (fun W (hg : Grew w W) => leads_v ps A c a b la W (hr.up hg) hl hok ha hb hla)
 have k4 := hide (fun W (hg : Grew w W) => leads_v ps A c b a lb W (hr.up hg) hl hok hb ha hlb)
 clear hpa hpb hla hlb ha hb hok
 obtain ⟨a1, a2⟩ := a
 obtain ⟨b1, b2⟩ := b
 have hcase : pa < 0 ∨ (¬ pa < 0 ∧ pb < 0) ∨ (¬ pa < 0 ∧ ¬ pb < 0 ∧ la = false) ∨ (¬ pa < 0 ∧ ¬ pb < 0 ∧ la = true ∧ lb = false) := by
  by_cases h1 : pa < 0
  ·exact .inl h1
  ·by_cases h2 : pb < 0
   ·exact .inr (.inl ⟨h1, h2⟩)
   ·rw [show decide (0 ≤ pa) = true by simp; omega, show decide (0 ≤ pb) = true by simp; omega] at h
    cases la
    ·exact .inr (.inr (.inl ⟨h1, h2, rfl⟩))
    ·cases lb
     ·exact .inr (.inr (.inr ⟨h1, h2, rfl, rfl⟩))
     ·simp at h
 clear h
 rcases hcase with h1 | ⟨h1, h2⟩ | ⟨h1, h2, rfl⟩ | ⟨h1, h2, rfl, rfl⟩
 all_goals
  go_enter Tryz.func44, Tryz.ntmps44
  go_wp2_with (first | (go_at_call 39; with_reducible refine crv (k1.out _ gw) fun _ _ => ?_; dsimp only) | (go_at_call 39; with_reducible refine crv (k2.out _ gw) fun _ _ => ?_; dsimp only) | (go_at_call 78; with_reducible refine crv (k3.out _ gw) fun _ _ => ?_; dsimp only) | (go_at_call 78; with_reducible refine crv (k4.out _ gw) fun _ _ => ?_; dsimp only))
  refine bodyPost_ret (v := .bool false) (by simp [results, Tryz.results44, go_sem]) rfl ?_
  exact Ret.mk' rfl gw
theorem has_yes (ps : List Pt) (A : Option Addr) (c : Nat) (q to : Pt) (w : World) (hr : Rd w w.heap.size 2 A (ps.map encD)) (hl : ps.length ≤ 100) (hok : ps.all Pt.ok = true) (hq : q.ok = true) (hto : to.ok = true) (h : hasFst ps q to = true) :
  Calls Tryz.prog 44 #[.slice A ps.length c, pt q.1 q.2, pt to.1 to.2] w (Ret w (.bool ((List.range ps.length).all (edgeHas ps q to)))) := by
 have hm := hmix
 unfold hasFst at h
 simp only [Bool.and_eq_true, decide_eq_true_eq] at h
 obtain ⟨pa, hpa⟩ : ∃ p, placeOf ps q = p := ⟨_, rfl⟩
 obtain ⟨pb, hpb⟩ : ∃ p, placeOf ps to = p := ⟨_, rfl⟩
 have k1 := hide (fun W (hg : Grew w W) => place_v ps A c q pa W (hr.up hg) hl hok hq hpa)
 have k2 := hide (fun W (hg : Grew w W) => place_v ps A c to pb W (hr.up hg) hl hok hto hpb)
 have k3 := hide (fun W (hg : Grew w W) => leads_v ps A c q to true W (hr.up hg) hl hok hq hto h.2.2.1)
 have k4 := hide (fun W (hg : Grew w W) => leads_v ps A c to q true W (hr.up hg) hl hok hto hq h.2.2.2)
 have h1 : ¬ pa < 0 := by rw [← hpa]; omega
 have h2 : ¬ pb < 0 := by rw [← hpb]; omega
 have HR := hide hr
 have HOK := hide hok
 have HQ := hide hq
 have HTO := hide hto
 obtain ⟨rr, hrr⟩ : ∃ r, (List.range ps.length).all (edgeHas ps q to) = r := ⟨_, rfl⟩
 rw [hrr]
 have HRR := hide hrr
 clear hr hok hq hto hrr h hpa hpb
 refine (callsIn_wide (n := 13)).1 ?_
 refine callsIn_of_wp_marks Tryz.func44 rfl trivial ?_ rfl
 simp only [Tryz.ntmps44, List.size_toArray, List.length_cons, List.length_nil, Nat.reduceAdd, Nat.reduceSub, Array.replicate_succ, Array.replicate_zero, List.push_toArray, List.append_toArray, List.nil_append, List.cons_append]
 gi_wp2_with fail
 refine ⟨trivial, ?_⟩
 refine (callsIn_wide.2 (k1.out _ gw)).mono ?_
 rintro e w' ⟨rfl, ⟨n1, os1⟩, rfl⟩
 dsimp only
 gi_wp2_with fail
 refine ⟨trivial, ?_⟩
 refine (callsIn_wide.2 (k2.out _ gw)).mono ?_
 rintro e w' ⟨rfl, ⟨n2, os2⟩, rfl⟩
 dsimp only
 gi_wp2_with fail
 refine ⟨trivial, ?_⟩
 refine (callsIn_wide.2 (k3.out _ gw)).mono ?_
 rintro e w' ⟨rfl, ⟨n3, os3⟩, rfl⟩
 dsimp only
 gi_wp2_with fail
 refine ⟨trivial, ?_⟩
 refine (callsIn_wide.2 (k4.out _ gw)).mono ?_
 rintro e w' ⟨rfl, ⟨n4, os4⟩, rfl⟩
 dsimp only
 gi_wp2_with fail
 refine ⟨trivial, ?_⟩
 refine (callsIn_wide.2 (edges_any _ _ _ _)).mono ?_
 rintro e w' ⟨rfl, rfl⟩
 dsimp only
 gi_wp2_with fail
 refine wpIn_name ?_
 intro a0 W0 ha hW
 obtain ⟨bx, hbx⟩ : ∃ bx : List Obj, bx = [.cells #[.slice A ps.length c] 48 (0, 0), .cells #[.int .i64 q.1, .int .i64 q.2] 24 (0, 0), .cells #[.int .i64 to.1, .int .i64 to.2] 24 (0, 0), .cells #[.bool false] 4 (0, 0)] := ⟨_, rfl⟩
 have hg0 : Grew w W0 := by rw [← hW]; exact gw
 have hb0 : Bx W0 w.heap.size bx := by rw [← hW, hbx]; refine (Bx.allocs _ w).1.grew ?_; simp only [List.foldl]; exact gw
 obtain ⟨P0, hP0⟩ : ∃ P0, w.heap.size + 1 + 1 + 1 + 1 + (os1.size + (os2.size + (os3.size + os4.size))) = P0 := ⟨_, rfl⟩
 have hk0 : W0.heap[P0]? = some (.cells #[.slice A ps.length c] 48 (0, 0)) := by rw [← hW, ← hP0]; exact heap_alloc_at _ _ _ (by go_simp)
 have hlow : w.heap.size + 4 ≤ P0 := by omega
 have hPl := blk_lt hk0
 clear hW
 have ha2 : a0.eval (.tmp 36) = .func (.func 75) #[] #[.pointer (some ⟨P0, 0, none⟩)] := by rw [← ha, ← hP0]; simp [Act.eval]; exact (hs_dr _ _).trans (by simp)
 subst hbx
 refine wpIn_rangeFunc_ownH (n := 13) rfl (by omega) (gf := 75) (lb := #[.pointer (some ⟨P0, 0, none⟩)]) ha2 trivial (enters_of Tryz.func75 (by kernel_rfl) rfl)
  (edges1_stops 12 w.heap.size (fun _ _ => False) ps A c P0 W0 (fun b _ hb => hb.elim) hk0 (HR.out.grew hg0 (Nat.le_refl _)) (by omega) (by omega))
  (fun h k => h.trans k) KpM.bk (Below.refl _ _) (fun _ => rfl)
  (fun pre W => (Below w.heap.size w W ∧ Bx W w.heap.size _) ∧ ∀ i ∈ pre, edgeHas ps q to i.1 = true)
  (fun e pre W => (Below w.heap.size w W ∧ Boxed W (w.heap.size + 3) 4 (.bool false)) ∧ e = .ret ∧ rr = false)
  (OwnFrom.and (OwnFrom.and (ownFrom_below (Nat.le_refl _) hg0.below.size) (Bx.own (by simp; omega))) (ownFrom_pure _))
  (fun q => OwnFrom.and (OwnFrom.and (ownFrom_below (Nat.le_refl _) hg0.below.size) (Own.from (boxed_own _ _ _) _)) (ownFrom_pure _))
  ⟨⟨hg0.below, hb0⟩, fun i hi => by cases hi⟩
  (fun x a' W => ∃ B, W.heap[B]? = some (.cells #[.int .i64 (cor ps x.1).1, .int .i64 (cor ps x.1).2, .int .i64 (cor ps (x.1 + 1)).1, .int .i64 (cor ps (x.1 + 1)).2] 61 (0, 0)) ∧ a' = { tmps := (((a0.tmps.setIfInBounds 37 (.int .i64 (x.1 : Nat))).setIfInBounds 38 (.agg #[.int .i64 (cor ps x.1).1, .int .i64 (cor ps x.1).2, .int .i64 (cor ps (x.1 + 1)).1, .int .i64 (cor ps (x.1 + 1)).2])).setIfInBounds 7 (.int .i64 (x.1 : Nat))).setIfInBounds 8 (.pointer (some ⟨B, 0, none⟩)), defers := [] })
  (fun x a' => by
   rintro s X Y row ⟨B, h1, h2⟩ hg hr
   exact ⟨B, cells_own h1 hg (fun r e => (hr r e).2), h2⟩)
  ?assign ?body ?done ?stop
 case assign =>
  rintro l pre x W K ⟨⟨hB, hb⟩, hp⟩ hK
  rw [show encE ps x = #[.int .i64 (x.1 : Nat), .agg #[.int .i64 (cor ps x.1).1, .int .i64 (cor ps x.1).2, .int .i64 (cor ps (x.1 + 1)).1, .int .i64 (cor ps (x.1 + 1)).2]] from rfl, asg2]
  subst ha
  simp only [List.setIfInBounds_toArray, List.set_cons_succ, List.set_cons_zero] at hK ⊢
  have hKK := hide hK
  clear hK
  gi_wp2_with fail
  have hgg : Grew W (W.alloc (.cells #[.int .i64 (cor ps x.1).1, .int .i64 (cor ps x.1).2, .int .i64 (cor ps (x.1 + 1)).1, .int .i64 (cor ps (x.1 + 1)).2] 61)) := gw
  exact hKK.out _ _ (hgg.keepsFrom _) (KpM.grew hgg) ⟨⟨hB.trans (hgg.below.mono hB.size), hb.grew hgg⟩, hp⟩ ⟨W.heap.size, heap_alloc_new _ _, rfl⟩
 case body =>
  rintro l pre x a' W hl2 hlp ⟨⟨hB, hb⟩, hp⟩ ⟨B, hx, rfl⟩ hlt
  subst ha
  obtain ⟨i, hil⟩ := x
  dsimp only at hx
  simp only [List.setIfInBounds_toArray, List.set_cons_succ, List.set_cons_zero]
  have oa := cor_ok HOK.out i
  have ob := cor_ok HOK.out (i + 1)
  obtain ⟨t1, e1⟩ : ∃ t, tn q to (cor ps i) = t := ⟨_, rfl⟩
  obtain ⟨t2, e2⟩ : ∃ t, tn q to (cor ps (i + 1)) = t := ⟨_, rfl⟩
  obtain ⟨t3, e3⟩ : ∃ t, tn (cor ps i) (cor ps (i + 1)) q = t := ⟨_, rfl⟩
  obtain ⟨t4, e4⟩ : ∃ t, tn (cor ps i) (cor ps (i + 1)) to = t := ⟨_, rfl⟩
  obtain ⟨o, ho⟩ : ∃ o, onB (cor ps i) q to = o := ⟨_, rfl⟩
  obtain ⟨p1', hp1⟩ : ∃ o, opensOf ps i q = o := ⟨_, rfl⟩
  obtain ⟨p2', hp2⟩ : ∃ o, opensOf ps i to = o := ⟨_, rfl⟩
  have kt1 := hide (fun W' => turn_v _ _ _ t1 W' HQ.out HTO.out oa e1)
  have kt2 := hide (fun W' => turn_v _ _ _ t2 W' HQ.out HTO.out ob e2)
  have kt3 := hide (fun W' => turn_v _ _ _ t3 W' oa ob HQ.out e3)
  have kt4 := hide (fun W' => turn_v _ _ _ t4 W' oa ob HTO.out e4)
  have ko := hide (fun W' => on_v (cor ps i) q to o W' oa HQ.out HTO.out ho)
  have kp1 := hide (fun W (hg : Grew w W) => opens_v ps A c i q p1' W (HR.out.up hg) hl HOK.out HQ.out hil hp1)
  have kp2 := hide (fun W (hg : Grew w W) => opens_v ps A c i to p2' W (HR.out.up hg) hl HOK.out HTO.out hil hp2)
  have b12 := mul_sg (e1 ▸ tn_bd q to (cor ps i)) (e2 ▸ tn_bd q to (cor ps (i + 1)))
  have b34 := mul_sg (e3 ▸ tn_bd (cor ps i) (cor ps (i + 1)) q) (e4 ▸ tn_bd (cor ps i) (cor ps (i + 1)) to)
  have e12 : IntKind.i64.wrap (t1 * t2) = t1 * t2 := by unfold IntKind.wrap; simp [IntKind.bits, IntKind.signed]; omega
  have e34 : IntKind.i64.wrap (t3 * t4) = t3 * t4 := by unfold IntKind.wrap; simp [IntKind.bits, IntKind.signed]; omega
  have heh : edgeHas ps q to i = (!(decide (t1 * t2 < 0) && decide (t3 * t4 < 0)) && !(decide (cor ps i ≠ q) && (decide (cor ps i ≠ to) && (o && !(p1' && p2'))))) := by
   unfold edgeHas cutB
   rw [e1, e2, e3, e4, ho, hp1, hp2]
  have hnx : edgeHas ps q to i = true → ∀ i' ∈ pre ++ [(⟨i, hil⟩ : Fin ps.length)], edgeHas ps q to i'.1 = true := fun hof i' hi' => by
   rcases List.mem_append.1 hi' with h | h
   ·exact hp i' h
   ·obtain rfl := List.mem_singleton.1 h
    exact hof
  have hst : edgeHas ps q to i = false → rr = false := fun hof => by
   rw [← HRR.out]
   exact List.all_eq_false.2 ⟨i, List.mem_range.2 hil, by rw [hof]; simp⟩
  have HEH := hide heh
  have HNX := hide hnx
  have HST := hide hst
  clear e1 e2 e3 e4 ho hp1 hp2 heh hnx hst hp hlt
  generalize cor ps i = a at *
  generalize cor ps (i + 1) = b at *
  obtain ⟨a1, a2⟩ := a
  obtain ⟨b1, b2⟩ := b
  obtain ⟨x1, x2⟩ := q
  obtain ⟨y1, y2⟩ := to
  dsimp only at hx hb ⊢
  have c00 : W.cell? ⟨w.heap.size, 0, none⟩ = some (.slice A ps.length c) := (hb.box 0 rfl).cell
  have c0 : W.cell? ⟨w.heap.size + 1, 0, none⟩ = some (.int .i64 x1) := blk_cell (hb 1 _ rfl) 0
  have c1 : W.cell? ⟨w.heap.size + 1, 1, none⟩ = some (.int .i64 x2) := blk_cell (hb 1 _ rfl) 1
  have c2 : W.cell? ⟨w.heap.size + 2, 0, none⟩ = some (.int .i64 y1) := blk_cell (hb 2 _ rfl) 0
  have c3 : W.cell? ⟨w.heap.size + 2, 1, none⟩ = some (.int .i64 y2) := blk_cell (hb 2 _ rfl) 1
  have c4 : W.cell? ⟨w.heap.size + 3, 0, none⟩ = _ := (hb.box 3 rfl).cell
  have f4 : W.frozen? ⟨w.heap.size + 3, 0, none⟩ = _ := (hb.box 3 rfl).frozen
  have d0 : W.cell? ⟨B, 0, none⟩ = some _ := blk_cell hx 0
  have d1 : W.cell? ⟨B, 1, none⟩ = some _ := blk_cell hx 1
  have d2 : W.cell? ⟨B, 2, none⟩ = some _ := blk_cell hx 2
  have d3 : W.cell? ⟨B, 3, none⟩ = some _ := blk_cell hx 3
  have l3 := (hb.box 3 rfl).lt
  have l2 : w.heap.size + 2 < W.heap.size := by omega
  have l1 : w.heap.size + 1 < W.heap.size := by omega
  have l0 : w.heap.size < W.heap.size := by omega
  have lB := blk_lt hx
  have HB := hide hB
  have Hb := hide hb
  clear hB hb hx
  gi_wp2_with fail
  refine wpIn_region_qas 8 [⟨4, 6, 9, 24, .agg #[.int .i64 0, .int .i64 0]⟩, ⟨5, 7, 10, 24, .agg #[.int .i64 0, .int .i64 0]⟩] [] hm (hZ := (ZOk.cons Tryz.zeroValue24 Tryz.sizeOf24 (ZOk.cons Tryz.zeroValue24 Tryz.sizeOf24 ZOk.nil))) (h := ?_)
  repeat (refine wpSteady_step (fun K hK => ?_); go_simp; refine hK _ ?_; clear hK K)
  refine wpSteady_nil ?_
  refine ⟨(StOk.cons (by rfl) (by simp [stOpnd, Act.eval, Value.cells, Value.oneCell']) (StOk.cons (by rfl) (by simp [stOpnd, Act.eval, Value.cells, Value.oneCell']) StOk.nil)), LyOk.nil, ?_⟩
  rintro psq qsq Wq HWq HFq HBq
  obtain rfl : qsq = [] := HBq
  obtain ⟨p0, _, rfl, hp0, hb0, hn0, p1, _, rfl, hp1, hb1, hn1, rfl⟩ := HFq
  simp only [putAll, putB, Act.put, setA]
  simp [stOpnd, Act.eval, Value.cells] at hb0
  have gc0_0 : Wq.cell? ⟨p0, 0, none⟩ = some _ := blk_cell hb0 0
  have gc0_1 : Wq.cell? ⟨p0, 1, none⟩ = some _ := blk_cell hb0 1
  have gf0 := blk_frozen hb0
  have gl0 := blk_lt hb0
  simp [stOpnd, Act.eval, Value.cells] at hb1
  have gc1_0 : Wq.cell? ⟨p1, 0, none⟩ = some _ := blk_cell hb1 0
  have gc1_1 : Wq.cell? ⟨p1, 1, none⟩ = some _ := blk_cell hb1 1
  have gf1 := blk_frozen hb1
  have gl1 := blk_lt hb1
  have gn : p0 ≠ p1 := by simpa using hn0
  have gm : p1 ≠ p0 := fun e => gn e.symm
  have gp0 := hide hp0
  have gp1 := hide hp1
  clear hb0 hn0 hp0 hb1 hn1 hp1
  have oc := old_cell HWq
  have of := old_frozen HWq
  have ol := old_lt HWq
  replace HWq := hide HWq
  have z00 : Wq.cell? ⟨w.heap.size, 0, none⟩ = _ := (oc _ 0 l0).trans c00
  have z0 : Wq.cell? ⟨w.heap.size + 1, 0, none⟩ = _ := (oc _ 0 l1).trans c0
  have z1 : Wq.cell? ⟨w.heap.size + 1, 1, none⟩ = _ := (oc _ 1 l1).trans c1
  have z2 : Wq.cell? ⟨w.heap.size + 2, 0, none⟩ = _ := (oc _ 0 l2).trans c2
  have z3 : Wq.cell? ⟨w.heap.size + 2, 1, none⟩ = _ := (oc _ 1 l2).trans c3
  have z4 : Wq.cell? ⟨w.heap.size + 3, 0, none⟩ = _ := (oc _ 0 l3).trans c4
  have z5 : Wq.frozen? ⟨w.heap.size + 3, 0, none⟩ = _ := (of _ 0 l3).trans f4
  have hgs := HWq.out.below.size
  have m0 : w.heap.size < Wq.heap.size := by omega
  have m1 : w.heap.size + 1 < Wq.heap.size := by omega
  have m2 : w.heap.size + 2 < Wq.heap.size := by omega
  have m3 : w.heap.size + 3 < Wq.heap.size := by omega
  have hww : Hid (Grew w Wq) := hide ((Grew.of_below HB.out).trans HWq.out)
  have hbr : Hid (Boxed Wq (w.heap.size + 3) 4 (.bool false)) := hide ((Hb.out.grew HWq.out).box 3 rfl)
  have hb2q : Hid (Boxed W (w.heap.size + 3) 4 (.bool false)) := hide (Hb.out.box 3 rfl)
  have hgb : Hid (W.grownBy Wq (some (w.heap.size + 3))) := hide (gb_grew (gb_refl _ _) HWq.out)
  clear c00 c0 c1 c2 c3 c4 f4 d0 d1 d2 d3 oc of ol
  have hcut : (decide (t1 * t2 < 0) = true ∧ decide (t3 * t4 < 0) = true) ∨ ((decide (t1 * t2 < 0) && decide (t3 * t4 < 0)) = false) := by
   cases decide (t1 * t2 < 0) <;> cases decide (t3 * t4 < 0) <;> simp
  rcases hcut with ⟨u1, u2⟩ | u
  ·have hr0 := HST.out (by rw [HEH.out, u1, u2]; rfl)
   have HR0 := hide hr0
   clear hr0 HST HNX HEH
   gi_wp2_with fail
   refine wpIn_region_qas 22 [] [] hm (h := ?_)
   repeat (refine wpSteady_step (fun K hK => ?_); go_simp; first | (refine hK _ ?_; clear hK K) | (apply Exists.intro; refine ⟨fun _ => ?_, hK _ ?_⟩; (go_at_call 29; first | with_reducible exact kt1.out _ | with_reducible exact kt2.out _ | with_reducible exact kt3.out _ | with_reducible exact kt4.out _); clear hK K))
   refine rqi0 fun nqz osqz => ?_
   try simp only [Act.put, setA]
   try dsimp only
   gi_wp2_with fail
   exact ⟨gb_keeps (b := w.heap.size + 3) gbw ⟨_, hb2q.out, rfl⟩, ⟨gb_below (b := w.heap.size + 3) gbw HB.out (by omega), (by repeat (with_reducible first | assumption | exact Hid.out (by assumption) | refine bxd_grow ?_ _ _ | refine Boxed.set (v := .bool false) _ ?_ | refine bxd_new ?_ (Hid.out (by assumption)) | (refine bxd_grew ?_ (Hid.out (by assumption)))))⟩, rfl, HR0.out⟩
  ·have hu : (decide (t1 * t2 < 0) = true ∧ decide (t3 * t4 < 0) = false) ∨ decide (t1 * t2 < 0) = false := by
    cases h1 : decide (t1 * t2 < 0) <;> cases h2 : decide (t3 * t4 < 0) <;> rw [h1, h2] at u <;> simp at u ⊢
   rw [u, Bool.not_false, Bool.true_and] at HEH
   clear u
   have hkk : (a1 = x1 ∧ a2 = x2) ∨ ((a1 ≠ x1 ∨ (a1 = x1 ∧ a2 ≠ x2)) ∧ a1 = y1 ∧ a2 = y2) ∨ ((a1 ≠ x1 ∨ (a1 = x1 ∧ a2 ≠ x2)) ∧ (a1 ≠ y1 ∨ (a1 = y1 ∧ a2 ≠ y2))) := by omega
   have heq : ∀ (z1 z2 : Int), ((a1, a2) ≠ ((z1, z2) : Pt)) ↔ (a1 ≠ z1 ∨ (a1 = z1 ∧ a2 ≠ z2)) := fun z1 z2 => by
    rw [Ne, Prod.mk.injEq]
    omega
   have ev : edgeHas ps (x1, x2) (y1, y2) i = !(decide (a1 ≠ x1 ∨ (a1 = x1 ∧ a2 ≠ x2)) && (decide (a1 ≠ y1 ∨ (a1 = y1 ∧ a2 ≠ y2)) && (o && !(p1' && p2')))) := by
    rw [HEH.out]
    simp only [heq]
   clear HEH heq
   rcases hu with ⟨u1, u2⟩ | u1
   all_goals
    rcases hkk with ⟨v1, v2⟩ | ⟨v1, v2, v3⟩ | ⟨v1, v2⟩
    ·have hv : edgeHas ps (x1, x2) (y1, y2) i = true := by rw [ev, show decide (a1 ≠ x1 ∨ (a1 = x1 ∧ a2 ≠ x2)) = false by simp; omega]; rfl
     have HN2 := hide (HNX.out hv)
     clear hv ev HNX HST
     subst v1 v2
     gi_wp2_with fail
     refine wpIn_region_qas 22 [] [] hm (h := ?_)
     repeat (refine wpSteady_step (fun K hK => ?_); go_simp; first | (refine hK _ ?_; clear hK K) | (apply Exists.intro; refine ⟨fun _ => ?_, hK _ ?_⟩; (go_at_call 29; first | with_reducible exact kt1.out _ | with_reducible exact kt2.out _ | with_reducible exact kt3.out _ | with_reducible exact kt4.out _); clear hK K))
     refine rqi0 fun nqz osqz => ?_
     try simp only [Act.put, setA]
     try dsimp only
     gi_wp2_with fail
     all_goals repeat (refine ⟨trivial, ?_⟩; (try ((with_reducible refine (CallsIn.inRound l (callsIn_wide.2 (ko.out _))).mono ?_); rintro e w' ⟨rfl, ⟨_, _⟩, rfl⟩; dsimp only)); (try ((with_reducible refine (CallsIn.inRound l (callsIn_wide.2 (kp1.out _ (hww.out.trans gw)))).mono ?_); rintro e w' ⟨rfl, ⟨_, _⟩, rfl⟩; dsimp only)); (try ((with_reducible refine (CallsIn.inRound l (callsIn_wide.2 (kp2.out _ (hww.out.trans gw)))).mono ?_); rintro e w' ⟨rfl, ⟨_, _⟩, rfl⟩; dsimp only)); gi_wp2_with fail; try any_goals (exact (undef_ne (by assumption)).elim))
     all_goals exact ⟨(HWq.out.trans gw).keepsFrom _, KpM.grew (HWq.out.trans gw), ⟨HB.out.trans ((HWq.out.trans gw).below.mono HB.out.size), Hb.out.grew (HWq.out.trans gw)⟩, HN2.out⟩
    ·have hv : edgeHas ps (x1, x2) (y1, y2) i = true := by rw [ev, show decide (a1 ≠ y1 ∨ (a1 = y1 ∧ a2 ≠ y2)) = false by simp; omega, Bool.false_and, Bool.and_false]; rfl
     have HN2 := hide (HNX.out hv)
     clear hv ev HNX HST
     subst v2 v3
     rcases v1 with v1 | ⟨v1, v2⟩
     all_goals
      try subst v1
      gi_wp2_with fail
      refine wpIn_region_qas 22 [] [] hm (h := ?_)
      repeat (refine wpSteady_step (fun K hK => ?_); go_simp; first | (refine hK _ ?_; clear hK K) | (apply Exists.intro; refine ⟨fun _ => ?_, hK _ ?_⟩; (go_at_call 29; first | with_reducible exact kt1.out _ | with_reducible exact kt2.out _ | with_reducible exact kt3.out _ | with_reducible exact kt4.out _); clear hK K))
      refine rqi0 fun nqz osqz => ?_
      try simp only [Act.put, setA]
      try dsimp only
      gi_wp2_with fail
      all_goals repeat (refine ⟨trivial, ?_⟩; (try ((with_reducible refine (CallsIn.inRound l (callsIn_wide.2 (ko.out _))).mono ?_); rintro e w' ⟨rfl, ⟨_, _⟩, rfl⟩; dsimp only)); (try ((with_reducible refine (CallsIn.inRound l (callsIn_wide.2 (kp1.out _ (hww.out.trans gw)))).mono ?_); rintro e w' ⟨rfl, ⟨_, _⟩, rfl⟩; dsimp only)); (try ((with_reducible refine (CallsIn.inRound l (callsIn_wide.2 (kp2.out _ (hww.out.trans gw)))).mono ?_); rintro e w' ⟨rfl, ⟨_, _⟩, rfl⟩; dsimp only)); gi_wp2_with fail; try any_goals (exact (undef_ne (by assumption)).elim))
      all_goals exact ⟨(HWq.out.trans gw).keepsFrom _, KpM.grew (HWq.out.trans gw), ⟨HB.out.trans ((HWq.out.trans gw).below.mono HB.out.size), Hb.out.grew (HWq.out.trans gw)⟩, HN2.out⟩
    ·rw [show decide (a1 ≠ x1 ∨ (a1 = x1 ∧ a2 ≠ x2)) = true by simpa using v1, show decide (a1 ≠ y1 ∨ (a1 = y1 ∧ a2 ≠ y2)) = true by simpa using v2, Bool.true_and, Bool.true_and] at ev
     have EV := hide ev
     clear ev
     have hop : ((o = false) ∨ (o = true ∧ p1' = true ∧ p2' = true)) ∨ ((o = true ∧ p1' = false) ∨ (o = true ∧ p1' = true ∧ p2' = false)) := by
      cases o <;> cases p1' <;> cases p2' <;> simp
     rcases hop with hop | hop
     ·have hv : edgeHas ps (x1, x2) (y1, y2) i = true := by rw [EV.out]; rcases hop with rfl | ⟨rfl, rfl, rfl⟩ <;> rfl
      have HN2 := hide (HNX.out hv)
      clear hv EV HNX HST
      rcases hop with rfl | ⟨rfl, rfl, rfl⟩ <;> rcases v1 with v1 | ⟨v1, v3⟩ <;> rcases v2 with v2 | ⟨v2, v4⟩
      all_goals
       try subst v1
       try subst v2
       gi_wp2_with fail
       refine wpIn_region_qas 22 [] [] hm (h := ?_)
       repeat (refine wpSteady_step (fun K hK => ?_); go_simp; first | (refine hK _ ?_; clear hK K) | (apply Exists.intro; refine ⟨fun _ => ?_, hK _ ?_⟩; (go_at_call 29; first | with_reducible exact kt1.out _ | with_reducible exact kt2.out _ | with_reducible exact kt3.out _ | with_reducible exact kt4.out _); clear hK K))
       refine rqi0 fun nqz osqz => ?_
       try simp only [Act.put, setA]
       try dsimp only
       gi_wp2_with fail
       all_goals repeat (refine ⟨trivial, ?_⟩; (try ((with_reducible refine (CallsIn.inRound l (callsIn_wide.2 (ko.out _))).mono ?_); rintro e w' ⟨rfl, ⟨_, _⟩, rfl⟩; dsimp only)); (try ((with_reducible refine (CallsIn.inRound l (callsIn_wide.2 (kp1.out _ (hww.out.trans gw)))).mono ?_); rintro e w' ⟨rfl, ⟨_, _⟩, rfl⟩; dsimp only)); (try ((with_reducible refine (CallsIn.inRound l (callsIn_wide.2 (kp2.out _ (hww.out.trans gw)))).mono ?_); rintro e w' ⟨rfl, ⟨_, _⟩, rfl⟩; dsimp only)); gi_wp2_with fail; try any_goals (exact (undef_ne (by assumption)).elim))
       all_goals exact ⟨(HWq.out.trans gw).keepsFrom _, KpM.grew (HWq.out.trans gw), ⟨HB.out.trans ((HWq.out.trans gw).below.mono HB.out.size), Hb.out.grew (HWq.out.trans gw)⟩, HN2.out⟩
     ·have hv : edgeHas ps (x1, x2) (y1, y2) i = false := by rw [EV.out]; rcases hop with ⟨rfl, rfl⟩ | ⟨rfl, rfl, rfl⟩ <;> simp
      have HR0 := hide (HST.out hv)
      clear hv EV HNX HST
      rcases hop with ⟨rfl, rfl⟩ | ⟨rfl, rfl, rfl⟩ <;> rcases v1 with v1 | ⟨v1, v3⟩ <;> rcases v2 with v2 | ⟨v2, v4⟩
      all_goals
       try subst v1
       try subst v2
       gi_wp2_with fail
       refine wpIn_region_qas 22 [] [] hm (h := ?_)
       repeat (refine wpSteady_step (fun K hK => ?_); go_simp; first | (refine hK _ ?_; clear hK K) | (apply Exists.intro; refine ⟨fun _ => ?_, hK _ ?_⟩; (go_at_call 29; first | with_reducible exact kt1.out _ | with_reducible exact kt2.out _ | with_reducible exact kt3.out _ | with_reducible exact kt4.out _); clear hK K))
       refine rqi0 fun nqz osqz => ?_
       try simp only [Act.put, setA]
       try dsimp only
       gi_wp2_with fail
       all_goals repeat (refine ⟨trivial, ?_⟩; (try ((with_reducible refine (CallsIn.inRound l (callsIn_wide.2 (ko.out _))).mono ?_); rintro e w' ⟨rfl, ⟨_, _⟩, rfl⟩; dsimp only)); (try ((with_reducible refine (CallsIn.inRound l (callsIn_wide.2 (kp1.out _ (hww.out.trans gw)))).mono ?_); rintro e w' ⟨rfl, ⟨_, _⟩, rfl⟩; dsimp only)); (try ((with_reducible refine (CallsIn.inRound l (callsIn_wide.2 (kp2.out _ (hww.out.trans gw)))).mono ?_); rintro e w' ⟨rfl, ⟨_, _⟩, rfl⟩; dsimp only)); gi_wp2_with fail; try any_goals (exact (undef_ne (by assumption)).elim))
       all_goals exact ⟨gb_keeps (b := w.heap.size + 3) gbw ⟨_, hb2q.out, rfl⟩, ⟨gb_below (b := w.heap.size + 3) gbw HB.out (by omega), (by repeat (with_reducible first | assumption | exact Hid.out (by assumption) | refine bxd_grow ?_ _ _ | refine Boxed.set (v := .bool false) _ ?_ | refine bxd_new ?_ (Hid.out (by assumption)) | (refine bxd_grew ?_ (Hid.out (by assumption)))))⟩, rfl, HR0.out⟩
 case done =>
  subst ha
  rintro D xs W hD hS ⟨⟨hB, hb⟩, hp⟩ hK
  have b1 : Boxed W (w.heap.size + 3) _ _ := hb.box 3 rfl
  have c1 := b1.cell
  have f1 := b1.frozen
  obtain rfl : rr = true := by
   rw [← HRR.out, List.all_eq_true]
   intro j hj
   rw [← hS] at hj
   obtain ⟨j', hj', rfl⟩ := List.mem_map.1 hj
   exact hp j' hj'
  have HB := hide hB
  clear hB hb hS hp b1
  gi_wp2_with fail
  have hK2 := (KeepsOthers.setCell W ⟨w.heap.size + 3, 0, none⟩ (.bool true)).same D _ hK rfl
  refine ⟨by simp, .inl ⟨_, _, rfl, run_takeDeferred hK2, ?_⟩⟩
  have hb5 := (HB.out.setCell (p := ⟨w.heap.size + 3, 0, none⟩) (by simp) (.bool true)).trans (belowK_b (w := w) (Nat.le_refl _) _ D _ (.deferred none) (by omega) hK2 rfl rfl)
  have e3 : ((W.setCell ⟨w.heap.size + 3, 0, none⟩ (.bool true)).putObj D (.deferred none)).cell? ⟨w.heap.size + 3, 0, none⟩ = some (.bool true) := by
   rw [putObj_cell (by omega)]
   go_simp
  refine ⟨.bool true, by simp [results, Tryz.results44, go_sem, e3], ?_⟩
  exact Ret.mk' rfl (Grew.of_below hb5)
 case stop =>
  subst ha
  rintro D e pre W hD hr ⟨⟨hB, hb1⟩, rfl, rfl⟩ hK
  have c3 : W.cell? ⟨w.heap.size + 3, 0, none⟩ = _ := hb1.cell
  have HB := hide hB
  clear hB hb1 hr
  gi_wp2_with fail
  refine ⟨by simp, .inl ⟨_, _, rfl, run_takeDeferred hK, ?_⟩⟩
  have hb5 := HB.out.trans (belowK_b (w := w) (Nat.le_refl _) _ D _ (.deferred none) (by omega) hK rfl rfl)
  have e3 := (putObj_cell (W := W) (D := D) (i := 0) (o := .deferred none) (b := w.heap.size + 3) (by omega)).trans c3
  refine ⟨.bool false, by simp [results, Tryz.results44, go_sem, e3], ?_⟩
  exact Ret.mk' rfl (Grew.of_below hb5)
end Go.Proofs.YtndkfpmklmcjjaaGreat
