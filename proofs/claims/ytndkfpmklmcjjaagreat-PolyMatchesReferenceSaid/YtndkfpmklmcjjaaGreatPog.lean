/- Package poly: place, In, Area. Package poly: In, Area; the ways that a corner opens. Package poly: what a corner opens; the index of a corner; leads. -/
import Derived.Test.YtndkfpmklmcjjaaGreatPod
set_option linter.unusedSimpArgs false
set_option linter.unusedVariables false
set_option maxHeartbeats 4000000
set_option maxRecDepth 100000
namespace Go.Proofs.YtndkfpmklmcjjaaGreat
open Go.RowKit Go.Sort
attribute [local go_sem] Steady steadyUpon
attribute [local go_sem ↓] hs_dr lt_add_r lt_add_r2 lt_add_r3 lt_add_r4 lt_add_r5 lt_add_r6
attribute [local go_sem] cell?_gd frozen?_gd setCell_gd size_grow tape_grow cell?_grow' frozen?_grow' setCell_grow' grow_grow grow_dr grow_drew dr_dr dr_drew drew_dr dr_alloc dr_setCell dr_cell dr_frozen dr_tape dr_drawn
attribute [local irreducible] wpSteady
attribute [local go_sem] Oper.semAt_some
/-- Whether the ray from a place to the right crosses an edge. -/
def crossB (q a b : Pt) : Bool :=
 if b.2 < a.2 then decide (b.2 ≤ q.2 ∧ q.2 < a.2) && decide (0 < tn b a q) else decide (a.2 ≤ q.2 ∧ q.2 < b.2) && decide (0 < tn a b q)
def par (ps : List Pt) (q : Pt) (is : List Nat) : Bool := is.foldl (fun s i => s ^^ crossB q (cor ps i) (cor ps (i + 1))) false
theorem par_snoc (ps : List Pt) (q : Pt) (is : List Nat) (i : Nat) : par ps q (is ++ [i]) = (par ps q is ^^ crossB q (cor ps i) (cor ps (i + 1))) := by unfold par; rw [List.foldl_append]; rfl
def onAny (ps : List Pt) (q : Pt) : Bool := (List.range ps.length).any fun i => onB q (cor ps i) (cor ps (i + 1))
/-- Where a place is. -/
def placeOf (ps : List Pt) (q : Pt) : Int := if onAny ps q = true then 0 else if par ps q (List.range ps.length) = true then 1 else -1
theorem place_any (ps : List Pt) (A : Option Addr) (c : Nat) (q : Pt) (w : World) (hr : Rd w w.heap.size 2 A (ps.map encD)) (hl : ps.length ≤ 100) (hok : ps.all Pt.ok = true) (hq : q.ok = true) :
  Calls Tryz.prog 39 #[.slice A ps.length c, pt q.1 q.2] w (Ret w (.int .i64 (placeOf ps q))) := by
 have hm := hmix
 have HR := hide hr
 have HOK := hide hok
 have HQ := hide hq
 clear hr hok hq
 refine (callsIn_wide (n := 13)).1 ?_
 refine callsIn_of_wp_marks Tryz.func39 rfl trivial ?_ rfl
 simp only [Tryz.ntmps39, List.size_toArray, List.length_cons, List.length_nil, Nat.reduceAdd, Nat.reduceSub, Array.replicate_succ, Array.replicate_zero, List.push_toArray, List.append_toArray, List.nil_append, List.cons_append]
 gi_wp2_with fail
 refine ⟨trivial, ?_⟩
 refine (callsIn_wide.2 (edges_any _ _ _ _)).mono ?_
 rintro e w' ⟨rfl, rfl⟩
 dsimp only
 gi_wp2_with fail
 refine wpIn_name ?_
 intro a0 W0 ha hW
 obtain ⟨bx, hbx⟩ : ∃ bx : List Obj, bx = [.cells #[.int .i64 q.1, .int .i64 q.2] 24 (0, 0), .cells #[.int .i64 0] 3 (0, 0)] := ⟨_, rfl⟩
 have hg0 : Grew w W0 := by rw [← hW]; exact gw
 have hb0 : Bx W0 w.heap.size bx := by rw [← hW, hbx]; refine (Bx.allocs _ w).1.grew ?_; simp only [List.foldl]; exact (((Grew.refl _).alloc _).alloc _)
 have hb2 : Boxed W0 (w.heap.size + 2) 4 (.bool false) := by rw [← hW]; exact (heap_alloc_old _ _ (by simp)).trans (heap_alloc_at _ _ _ (by simp))
 have hk0 : W0.heap[w.heap.size + 3]? = some (.cells #[.slice A ps.length c] 48 (0, 0)) := by rw [← hW]; exact heap_alloc_at _ _ _ (by simp)
 have hsz : w.heap.size + 4 ≤ W0.heap.size := by rw [← hW]; simp
 have hbl : bx.length = 2 := by rw [hbx]; rfl
 clear hW
 refine wpIn_rangeFunc_ownH (n := 13) rfl (by omega) (gf := 75) (lb := #[.pointer (some ⟨w.heap.size + 3, 0, none⟩)]) (by rw [← ha]; simp [Act.eval]) trivial (enters_of Tryz.func75 (by kernel_rfl) rfl)
  (edges1_stops 12 w.heap.size (fun b _ => b = w.heap.size + 2) ps A c (w.heap.size + 3) W0 (fun b _ hb => by omega) hk0 (HR.out.grew hg0 (Nat.le_refl _)) (by omega) (by omega))
  (fun h k => h.trans k) KpM.bk (Below.refl _ _) (fun _ => rfl)
  (fun pre W => ((Below w.heap.size w W ∧ Bx W w.heap.size bx) ∧ Boxed W (w.heap.size + 2) 4 (.bool (par ps q (pre.map Fin.val)))) ∧ ∀ i ∈ pre, onB q (cor ps i.1) (cor ps (i.1 + 1)) = false)
  (fun e pre W => (Below w.heap.size w W ∧ Boxed W (w.heap.size + 1) 3 (.int .i64 0)) ∧ e = .ret ∧ onAny ps q = true)
  (OwnFrom.and (OwnFrom.and (OwnFrom.and (ownFrom_below (Nat.le_refl _) hg0.below.size) (Bx.own (by omega))) (Own.from (boxed_own _ _ _) _)) (ownFrom_pure _))
  (fun q => OwnFrom.and (OwnFrom.and (ownFrom_below (Nat.le_refl _) hg0.below.size) (Own.from (boxed_own _ _ _) _)) (ownFrom_pure _))
  ⟨⟨⟨hg0.below, hb0⟩, hb2⟩, fun i hi => by cases hi⟩
  (fun x a' W => ∃ B, W.heap[B]? = some (.cells #[.int .i64 (cor ps x.1).1, .int .i64 (cor ps x.1).2, .int .i64 (cor ps (x.1 + 1)).1, .int .i64 (cor ps (x.1 + 1)).2] 61 (0, 0)) ∧ a' = { tmps := ((a0.tmps.setIfInBounds 12 (.int .i64 (x.1 : Nat))).setIfInBounds 13 (.agg #[.int .i64 (cor ps x.1).1, .int .i64 (cor ps x.1).2, .int .i64 (cor ps (x.1 + 1)).1, .int .i64 (cor ps (x.1 + 1)).2])).setIfInBounds 7 (.pointer (some ⟨B, 0, none⟩)), defers := [] })
  (fun x a' => by
   rintro s X Y row ⟨B, h1, h2⟩ hg hr
   exact ⟨B, cells_own h1 hg (fun r e => (hr r e).2), h2⟩)
  ?assign ?body ?done ?stop
 case assign =>
  rintro l pre x W K ⟨⟨⟨hB, hb⟩, hbo⟩, hp⟩ hK
  rw [show encE ps x = #[.int .i64 (x.1 : Nat), .agg #[.int .i64 (cor ps x.1).1, .int .i64 (cor ps x.1).2, .int .i64 (cor ps (x.1 + 1)).1, .int .i64 (cor ps (x.1 + 1)).2]] from rfl, asg2]
  subst ha
  simp only [List.setIfInBounds_toArray, List.set_cons_succ, List.set_cons_zero] at hK ⊢
  have hKK := hide hK
  have hbl := blk_lt hbo
  clear hK
  gi_wp2_with fail
  have hgg : Grew W (W.alloc (.cells #[.int .i64 (cor ps x.1).1, .int .i64 (cor ps x.1).2, .int .i64 (cor ps (x.1 + 1)).1, .int .i64 (cor ps (x.1 + 1)).2] 61)) := gw
  exact hKK.out _ _ (hgg.keepsFrom _) (KpM.grew hgg) ⟨⟨⟨hB.trans (hgg.below.mono hB.size), hb.grew hgg⟩, (hgg.below.block _ hbl).trans hbo⟩, hp⟩ ⟨W.heap.size, heap_alloc_new _ _, rfl⟩
 case body =>
  rintro l pre x a' W hl2 hlp ⟨⟨⟨hB, hb⟩, hbo⟩, hp⟩ ⟨B, hx, rfl⟩ hlt
  subst ha
  subst hbx
  obtain ⟨i, hil⟩ := x
  dsimp only at hx
  simp only [List.setIfInBounds_toArray, List.set_cons_succ, List.set_cons_zero]
  have hpar := par_snoc ps q (pre.map Fin.val) i
  obtain ⟨pr, hpr⟩ : ∃ p, par ps q (pre.map Fin.val) = p := ⟨_, rfl⟩
  rw [hpr] at hpar hbo
  have hon := (fun (h : onB q (cor ps i) (cor ps (i + 1)) = true) => (show onAny ps q = true from List.any_eq_true.2 ⟨i, List.mem_range.2 hil, h⟩))
  have oa := cor_ok HOK.out i
  have ob := cor_ok HOK.out (i + 1)
  obtain ⟨o, ho⟩ : ∃ o, onB q (cor ps i) (cor ps (i + 1)) = o := ⟨_, rfl⟩
  have hnext : ∀ i' ∈ pre ++ [(⟨i, hil⟩ : Fin ps.length)], o = false → onB q (cor ps i'.1) (cor ps (i'.1 + 1)) = false := fun i' hi' hof => by
   rcases List.mem_append.1 hi' with h | h
   ·exact hp i' h
   ·obtain rfl := List.mem_singleton.1 h
    rw [← hof]; exact ho
  rw [ho] at hon
  have HNEXT := hide hnext
  have HON := hide hon
  have ko := hide (fun W' => on_v q (cor ps i) (cor ps (i + 1)) o W' HQ.out oa ob ho)
  have k1 := hide (fun (t : Int) (h : tn (cor ps i) (cor ps (i + 1)) q = t) W' => turn_v (cor ps i) (cor ps (i + 1)) q t W' oa ob HQ.out h)
  have k2 := hide (fun (t : Int) (h : tn (cor ps (i + 1)) (cor ps i) q = t) W' => turn_v (cor ps (i + 1)) (cor ps i) q t W' ob oa HQ.out h)
  obtain ⟨cb, hcb⟩ : ∃ o, crossB q (cor ps i) (cor ps (i + 1)) = o := ⟨_, rfl⟩
  rw [hcb] at hpar
  have HCB := hide hcb
  have HPAR := hide hpar
  clear hnext hon ho hpr hpar hcb hp hlt
  unfold crossB at HCB
  generalize cor ps i = a at *
  generalize cor ps (i + 1) = b at *
  obtain ⟨a1, a2⟩ := a
  obtain ⟨b1, b2⟩ := b
  obtain ⟨x1, x2⟩ := q
  dsimp only at hx HCB hb ⊢
  have c0 : W.cell? ⟨w.heap.size, 0, none⟩ = some (.int .i64 x1) := blk_cell (hb 0 _ rfl) 0
  have c1 : W.cell? ⟨w.heap.size, 1, none⟩ = some (.int .i64 x2) := blk_cell (hb 0 _ rfl) 1
  have c2 : W.cell? ⟨w.heap.size + 2, 0, none⟩ = _ := hbo.cell
  have f2 : W.frozen? ⟨w.heap.size + 2, 0, none⟩ = _ := hbo.frozen
  have c3 : W.cell? ⟨w.heap.size + 1, 0, none⟩ = _ := (hb.box 1 rfl).cell
  have f3 : W.frozen? ⟨w.heap.size + 1, 0, none⟩ = _ := (hb.box 1 rfl).frozen
  have d0 : W.cell? ⟨B, 0, none⟩ = some _ := blk_cell hx 0
  have d1 : W.cell? ⟨B, 1, none⟩ = some _ := blk_cell hx 1
  have d2 : W.cell? ⟨B, 2, none⟩ = some _ := blk_cell hx 2
  have d3 : W.cell? ⟨B, 3, none⟩ = some _ := blk_cell hx 3
  have l2 := hbo.lt
  have l1 : w.heap.size + 1 < W.heap.size := by omega
  have l0 : w.heap.size < W.heap.size := by omega
  have lB := blk_lt hx
  have HB := hide hB
  have Hb := hide hb
  have Hbo := hide hbo
  clear hB hb hbo hx
  gi_wp2_with fail
  refine wpIn_region_qas 8 [⟨4, 6, 8, 24, .agg #[.int .i64 0, .int .i64 0]⟩, ⟨5, 7, 9, 24, .agg #[.int .i64 0, .int .i64 0]⟩] [] hm (hZ := (ZOk.cons Tryz.zeroValue24 Tryz.sizeOf24 (ZOk.cons Tryz.zeroValue24 Tryz.sizeOf24 ZOk.nil))) (h := ?_)
  repeat (refine wpSteady_step (fun K hK => ?_); go_simp; refine hK _ ?_; clear hK K)
  refine wpSteady_nil ?_
  refine ⟨(StOk.cons (by rfl) (by simp [stOpnd, Act.eval, Value.cells, Value.oneCell']) (StOk.cons (by rfl) (by simp [stOpnd, Act.eval, Value.cells, Value.oneCell']) StOk.nil)), LyOk.nil, ?_⟩
  rintro psq qsq Wq HWq HFq HBq
  obtain rfl : qsq = [] := HBq
  obtain ⟨p0, _, rfl, hp0, hb0, hn0, p1, _, rfl, hp1, hb1, hn1, rfl⟩ := HFq
  simp only [putAll, putB, Act.put, setA]
  simp [stOpnd, Act.eval, Value.cells] at hb0
  have gc0_0 : Wq.cell? ⟨p0, 0, none⟩ = some _ := blk_cell hb0 0
  have gc0_1 : Wq.cell? ⟨p0, 1, none⟩ = some _ := blk_cell hb0 1
  have gf0 := blk_frozen hb0
  have gl0 := blk_lt hb0
  simp [stOpnd, Act.eval, Value.cells] at hb1
  have gc1_0 : Wq.cell? ⟨p1, 0, none⟩ = some _ := blk_cell hb1 0
  have gc1_1 : Wq.cell? ⟨p1, 1, none⟩ = some _ := blk_cell hb1 1
  have gf1 := blk_frozen hb1
  have gl1 := blk_lt hb1
  have gn : p0 ≠ p1 := by simpa using hn0
  have gm : p1 ≠ p0 := fun e => gn e.symm
  have gp0 := hide hp0
  have gp1 := hide hp1
  clear hb0 hn0 hp0 hb1 hn1 hp1
  have oc := old_cell HWq
  have of := old_frozen HWq
  have ol := old_lt HWq
  replace HWq := hide HWq
  have e0 : Wq.cell? ⟨w.heap.size, 0, none⟩ = _ := (oc _ 0 l0).trans c0
  have e1 : Wq.cell? ⟨w.heap.size, 1, none⟩ = _ := (oc _ 1 l0).trans c1
  have e2 : Wq.cell? ⟨w.heap.size + 2, 0, none⟩ = _ := (oc _ 0 l2).trans c2
  have e3 : Wq.cell? ⟨w.heap.size + 1, 0, none⟩ = _ := (oc _ 0 l1).trans c3
  have e4 : Wq.frozen? ⟨w.heap.size + 2, 0, none⟩ = _ := (of _ 0 l2).trans f2
  have e5 : Wq.frozen? ⟨w.heap.size + 1, 0, none⟩ = _ := (of _ 0 l1).trans f3
  have hgs := HWq.out.below.size
  have m0 : w.heap.size < Wq.heap.size := by omega
  have m1 : w.heap.size + 1 < Wq.heap.size := by omega
  have m2 : w.heap.size + 2 < Wq.heap.size := by omega
  have gq0 := gp0.out
  have gq1 := gp1.out
  have GBQ : W.grownBy Wq (some (w.heap.size + 2)) := gb_grew (gb_refl _ _) HWq.out
  have BQ : Boxed Wq (w.heap.size + 2) 4 (.bool pr) := (HWq.out.below.block _ l2).trans Hbo.out
  have BR : Boxed Wq (w.heap.size + 1) 3 (.int .i64 0) := (Hb.out.grew HWq.out).box 1 rfl
  have hn0 : Hid (w.heap.size + 2 ≠ p0) := hide (by omega)
  have hn1 : Hid (w.heap.size + 2 ≠ p1) := hide (by omega)
  have hgb := hide GBQ
  have hbq := hide BQ
  have hbr := hide BR
  clear GBQ BQ BR c0 c1 c2 c3 f2 f3 d0 d1 d2 d3 oc of ol
  gi_wp2_with fail
  refine ⟨trivial, ?_⟩
  refine (CallsIn.inRound l (callsIn_wide.2 (ko.out _))).mono ?_
  rintro e w' ⟨rfl, ⟨n5, os5⟩, rfl⟩
  dsimp only
  cases o
  ·have HN2 := hide (fun i' hi' => HNEXT.out i' hi' rfl)
   clear HNEXT HON
   by_cases hs : b2 < a2
   ·rw [if_pos hs] at HCB
    by_cases r1 : b2 ≤ x2
    ·by_cases r2 : x2 < a2
     ·obtain ⟨t, ht⟩ : ∃ t, tn (b1, b2) (a1, a2) (x1, x2) = t := ⟨_, rfl⟩
      have kt := hide (k2.out t ht)
      rw [ht] at HCB
      clear ht
      by_cases r3 : 0 < t
      ·obtain rfl : cb = true := by rw [← HCB.out]; simp [r1, r2, r3]
       rw [Bool.xor_true] at HPAR
       gi_wp2_with fail
       refine ⟨trivial, ?_⟩
       refine (CallsIn.inRound l (callsIn_wide.2 (kt.out _))).mono ?_
       rintro e w' ⟨rfl, ⟨n6, os6⟩, rfl⟩
       dsimp only
       gi_wp2_with fail
       refine ⟨gb_keeps (b := w.heap.size + 2) gbw ⟨_, Hbo.out, rfl⟩, gb_kpm (b := w.heap.size + 2) gbw (fun _ => rfl), ⟨⟨gb_below (b := w.heap.size + 2) gbw HB.out (by omega), gb_bx (b := w.heap.size + 2) gbw Hb.out (.inr (by simp))⟩, ?_⟩, HN2.out⟩
       rw [List.map_append, show [(⟨i, hil⟩ : Fin ps.length)].map Fin.val = [i] from rfl, HPAR.out]
       exact (by repeat (with_reducible first | assumption | exact Hid.out (by assumption) | refine bxd_grow ?_ _ _ | refine Boxed.set (v := .bool pr) _ ?_ | refine bxd_new ?_ (Hid.out (by assumption)) | (refine bxd_grew ?_ (Hid.out (by assumption)))))
      ·obtain rfl : cb = false := by rw [← HCB.out]; simp [r1, r2, r3]
       rw [Bool.xor_false] at HPAR
       gi_wp2_with fail
       refine ⟨trivial, ?_⟩
       refine (CallsIn.inRound l (callsIn_wide.2 (kt.out _))).mono ?_
       rintro e w' ⟨rfl, ⟨n6, os6⟩, rfl⟩
       dsimp only
       gi_wp2_with fail
       refine ⟨gb_keeps (b := w.heap.size + 2) gbw ⟨_, Hbo.out, rfl⟩, gb_kpm (b := w.heap.size + 2) gbw (fun _ => rfl), ⟨⟨gb_below (b := w.heap.size + 2) gbw HB.out (by omega), gb_bx (b := w.heap.size + 2) gbw Hb.out (.inr (by simp))⟩, ?_⟩, HN2.out⟩
       rw [List.map_append, show [(⟨i, hil⟩ : Fin ps.length)].map Fin.val = [i] from rfl, HPAR.out]
       exact (by repeat (with_reducible first | assumption | exact Hid.out (by assumption) | refine bxd_grow ?_ _ _ | refine Boxed.set (v := .bool pr) _ ?_ | refine bxd_new ?_ (Hid.out (by assumption)) | (refine bxd_grew ?_ (Hid.out (by assumption)))))
     ·obtain rfl : cb = false := by rw [← HCB.out]; simp [r1, r2]
      rw [Bool.xor_false] at HPAR
      gi_wp2_with fail
      refine ⟨trivial, ?_⟩
      gi_wp2_with fail
      refine ⟨gb_keeps (b := w.heap.size + 2) gbw ⟨_, Hbo.out, rfl⟩, gb_kpm (b := w.heap.size + 2) gbw (fun _ => rfl), ⟨⟨gb_below (b := w.heap.size + 2) gbw HB.out (by omega), gb_bx (b := w.heap.size + 2) gbw Hb.out (.inr (by simp))⟩, ?_⟩, HN2.out⟩
      rw [List.map_append, show [(⟨i, hil⟩ : Fin ps.length)].map Fin.val = [i] from rfl, HPAR.out]
      exact (by repeat (with_reducible first | assumption | exact Hid.out (by assumption) | refine bxd_grow ?_ _ _ | refine Boxed.set (v := .bool pr) _ ?_ | refine bxd_new ?_ (Hid.out (by assumption)) | (refine bxd_grew ?_ (Hid.out (by assumption)))))
    ·obtain rfl : cb = false := by rw [← HCB.out]; simp [r1]
     rw [Bool.xor_false] at HPAR
     gi_wp2_with fail
     refine ⟨trivial, ?_⟩
     gi_wp2_with fail
     refine ⟨gb_keeps (b := w.heap.size + 2) gbw ⟨_, Hbo.out, rfl⟩, gb_kpm (b := w.heap.size + 2) gbw (fun _ => rfl), ⟨⟨gb_below (b := w.heap.size + 2) gbw HB.out (by omega), gb_bx (b := w.heap.size + 2) gbw Hb.out (.inr (by simp))⟩, ?_⟩, HN2.out⟩
     rw [List.map_append, show [(⟨i, hil⟩ : Fin ps.length)].map Fin.val = [i] from rfl, HPAR.out]
     exact (by repeat (with_reducible first | assumption | exact Hid.out (by assumption) | refine bxd_grow ?_ _ _ | refine Boxed.set (v := .bool pr) _ ?_ | refine bxd_new ?_ (Hid.out (by assumption)) | (refine bxd_grew ?_ (Hid.out (by assumption)))))
   ·rw [if_neg hs] at HCB
    by_cases r1 : a2 ≤ x2
    ·by_cases r2 : x2 < b2
     ·obtain ⟨t, ht⟩ : ∃ t, tn (a1, a2) (b1, b2) (x1, x2) = t := ⟨_, rfl⟩
      have kt := hide (k1.out t ht)
      rw [ht] at HCB
      clear ht
      by_cases r3 : 0 < t
      ·obtain rfl : cb = true := by rw [← HCB.out]; simp [r1, r2, r3]
       rw [Bool.xor_true] at HPAR
       gi_wp2_with fail
       refine ⟨trivial, ?_⟩
       refine (CallsIn.inRound l (callsIn_wide.2 (kt.out _))).mono ?_
       rintro e w' ⟨rfl, ⟨n6, os6⟩, rfl⟩
       dsimp only
       gi_wp2_with fail
       refine ⟨gb_keeps (b := w.heap.size + 2) gbw ⟨_, Hbo.out, rfl⟩, gb_kpm (b := w.heap.size + 2) gbw (fun _ => rfl), ⟨⟨gb_below (b := w.heap.size + 2) gbw HB.out (by omega), gb_bx (b := w.heap.size + 2) gbw Hb.out (.inr (by simp))⟩, ?_⟩, HN2.out⟩
       rw [List.map_append, show [(⟨i, hil⟩ : Fin ps.length)].map Fin.val = [i] from rfl, HPAR.out]
       exact (by repeat (with_reducible first | assumption | exact Hid.out (by assumption) | refine bxd_grow ?_ _ _ | refine Boxed.set (v := .bool pr) _ ?_ | refine bxd_new ?_ (Hid.out (by assumption)) | (refine bxd_grew ?_ (Hid.out (by assumption)))))
      ·obtain rfl : cb = false := by rw [← HCB.out]; simp [r1, r2, r3]
       rw [Bool.xor_false] at HPAR
       gi_wp2_with fail
       refine ⟨trivial, ?_⟩
       refine (CallsIn.inRound l (callsIn_wide.2 (kt.out _))).mono ?_
       rintro e w' ⟨rfl, ⟨n6, os6⟩, rfl⟩
       dsimp only
       gi_wp2_with fail
       refine ⟨gb_keeps (b := w.heap.size + 2) gbw ⟨_, Hbo.out, rfl⟩, gb_kpm (b := w.heap.size + 2) gbw (fun _ => rfl), ⟨⟨gb_below (b := w.heap.size + 2) gbw HB.out (by omega), gb_bx (b := w.heap.size + 2) gbw Hb.out (.inr (by simp))⟩, ?_⟩, HN2.out⟩
       rw [List.map_append, show [(⟨i, hil⟩ : Fin ps.length)].map Fin.val = [i] from rfl, HPAR.out]
       exact (by repeat (with_reducible first | assumption | exact Hid.out (by assumption) | refine bxd_grow ?_ _ _ | refine Boxed.set (v := .bool pr) _ ?_ | refine bxd_new ?_ (Hid.out (by assumption)) | (refine bxd_grew ?_ (Hid.out (by assumption)))))
     ·obtain rfl : cb = false := by rw [← HCB.out]; simp [r1, r2]
      rw [Bool.xor_false] at HPAR
      gi_wp2_with fail
      refine ⟨trivial, ?_⟩
      gi_wp2_with fail
      refine ⟨gb_keeps (b := w.heap.size + 2) gbw ⟨_, Hbo.out, rfl⟩, gb_kpm (b := w.heap.size + 2) gbw (fun _ => rfl), ⟨⟨gb_below (b := w.heap.size + 2) gbw HB.out (by omega), gb_bx (b := w.heap.size + 2) gbw Hb.out (.inr (by simp))⟩, ?_⟩, HN2.out⟩
      rw [List.map_append, show [(⟨i, hil⟩ : Fin ps.length)].map Fin.val = [i] from rfl, HPAR.out]
      exact (by repeat (with_reducible first | assumption | exact Hid.out (by assumption) | refine bxd_grow ?_ _ _ | refine Boxed.set (v := .bool pr) _ ?_ | refine bxd_new ?_ (Hid.out (by assumption)) | (refine bxd_grew ?_ (Hid.out (by assumption)))))
    ·obtain rfl : cb = false := by rw [← HCB.out]; simp [r1]
     rw [Bool.xor_false] at HPAR
     gi_wp2_with fail
     refine ⟨trivial, ?_⟩
     gi_wp2_with fail
     refine ⟨gb_keeps (b := w.heap.size + 2) gbw ⟨_, Hbo.out, rfl⟩, gb_kpm (b := w.heap.size + 2) gbw (fun _ => rfl), ⟨⟨gb_below (b := w.heap.size + 2) gbw HB.out (by omega), gb_bx (b := w.heap.size + 2) gbw Hb.out (.inr (by simp))⟩, ?_⟩, HN2.out⟩
     rw [List.map_append, show [(⟨i, hil⟩ : Fin ps.length)].map Fin.val = [i] from rfl, HPAR.out]
     exact (by repeat (with_reducible first | assumption | exact Hid.out (by assumption) | refine bxd_grow ?_ _ _ | refine Boxed.set (v := .bool pr) _ ?_ | refine bxd_new ?_ (Hid.out (by assumption)) | (refine bxd_grew ?_ (Hid.out (by assumption)))))
  ·have HON2 := hide (HON.out rfl)
   clear HON HNEXT
   gi_wp2_with fail
   have hgs2 : Grew (Wq.setCell ⟨w.heap.size + 1, 0, none⟩ (.int .i64 0)) (grow (dr (Wq.setCell ⟨w.heap.size + 1, 0, none⟩ (.int .i64 0)) n5) os5) := gw
   have hbs := (HB.out.trans (HWq.out.below.mono HB.out.size)).setCell (p := ⟨w.heap.size + 1, 0, none⟩) (by simp) (.int .i64 0)
   exact ⟨((HWq.out.keepsFrom _).trans (KeepsFrom.setCell _ _ _ _)).trans (hgs2.keepsFrom _), ⟨hbs.trans (hgs2.below.mono hbs.size), bxd_grow (hbr.out.set _) _ _⟩, rfl, HON2.out⟩
 case done =>
  subst ha
  subst hbx
  rintro D xs W hD hS ⟨⟨⟨hB, hb⟩, hbo⟩, hp⟩ hK
  have b1 : Boxed W (w.heap.size + 1) _ _ := hb.box 1 rfl
  have c1 := b1.cell
  have f1 := b1.frozen
  have hpl : placeOf ps q = if par ps q (List.range ps.length) = true then 1 else -1 := by
   unfold placeOf
   rw [if_neg]
   unfold onAny
   rw [Bool.not_eq_true, List.any_eq_false]
   intro i hi
   rw [← hS] at hi
   obtain ⟨j, hj, rfl⟩ := List.mem_map.1 hi
   rw [hp j hj]
   simp
  rw [hS] at hbo
  obtain ⟨pr, hpr⟩ : ∃ p, par ps q (List.range ps.length) = p := ⟨_, rfl⟩
  rw [hpr] at hbo hpl
  have c2 : W.cell? ⟨w.heap.size + 2, 0, none⟩ = _ := hbo.cell
  have HB := hide hB
  have HPL := hide hpl
  clear hB hb hS hp b1 hpr hpl hbo
  cases pr
  ·gi_wp2_with fail
   have hK2 := (KeepsOthers.setCell W ⟨w.heap.size + 1, 0, none⟩ (.int .i64 (-1))).same D _ hK rfl
   refine ⟨by simp, .inl ⟨_, _, rfl, run_takeDeferred hK2, ?_⟩⟩
   have hb5 := (HB.out.setCell (p := ⟨w.heap.size + 1, 0, none⟩) (by simp) (.int .i64 (-1))).trans (belowK_b (w := w) (Nat.le_refl _) _ D _ (.deferred none) (by omega) hK2 rfl rfl)
   have e3 : ((W.setCell ⟨w.heap.size + 1, 0, none⟩ (.int .i64 (-1))).putObj D (.deferred none)).cell? ⟨w.heap.size + 1, 0, none⟩ = some (.int .i64 (-1)) := by
    rw [putObj_cell (by omega)]
    go_simp
   refine ⟨.int .i64 (-1), by simp [results, Tryz.results39, go_sem, e3], ?_⟩
   exact Ret.mk' (ret_int HPL.out.symm) (Grew.of_below hb5)
  ·gi_wp2_with fail
   have hK2 := (KeepsOthers.setCell W ⟨w.heap.size + 1, 0, none⟩ (.int .i64 1)).same D _ hK rfl
   refine ⟨by simp, .inl ⟨_, _, rfl, run_takeDeferred hK2, ?_⟩⟩
   have hb5 := (HB.out.setCell (p := ⟨w.heap.size + 1, 0, none⟩) (by simp) (.int .i64 1)).trans (belowK_b (w := w) (Nat.le_refl _) _ D _ (.deferred none) (by omega) hK2 rfl rfl)
   have e3 : ((W.setCell ⟨w.heap.size + 1, 0, none⟩ (.int .i64 1)).putObj D (.deferred none)).cell? ⟨w.heap.size + 1, 0, none⟩ = some (.int .i64 1) := by
    rw [putObj_cell (by omega)]
    go_simp
   refine ⟨.int .i64 1, by simp [results, Tryz.results39, go_sem, e3], ?_⟩
   exact Ret.mk' (ret_int HPL.out.symm) (Grew.of_below hb5)
 case stop =>
  subst ha
  rintro D e pre W hD hr ⟨⟨hB, hb1⟩, rfl, hp⟩ hK
  have c3 : W.cell? ⟨w.heap.size + 1, 0, none⟩ = _ := hb1.cell
  have HB := hide hB
  have HP := hide hp
  clear hB hb1 hr hp
  gi_wp2_with fail
  refine ⟨by simp, .inl ⟨_, _, rfl, run_takeDeferred hK, ?_⟩⟩
  have hb5 := HB.out.trans (belowK_b (w := w) (Nat.le_refl _) _ D _ (.deferred none) (by omega) hK rfl rfl)
  have e3 := (putObj_cell (W := W) (D := D) (i := 0) (o := .deferred none) (b := w.heap.size + 1) (by omega)).trans c3
  refine ⟨.int .i64 0, by simp [results, Tryz.results39, go_sem, e3], ?_⟩
  exact Ret.mk' (ret_int (by unfold placeOf; rw [if_pos HP.out])) (Grew.of_below hb5)
end Go.Proofs.YtndkfpmklmcjjaaGreat
namespace Go.Proofs.YtndkfpmklmcjjaaGreat
open Go.RowKit Go.Sort
attribute [local go_sem] Steady steadyUpon
attribute [local go_sem ↓] hs_dr lt_add_r lt_add_r2 lt_add_r3 lt_add_r4 lt_add_r5 lt_add_r6
attribute [local go_sem] cell?_gd frozen?_gd setCell_gd size_grow tape_grow cell?_grow' frozen?_grow' setCell_grow' grow_grow grow_dr grow_drew dr_dr dr_drew drew_dr dr_alloc dr_setCell dr_cell dr_frozen dr_tape dr_drawn
attribute [local irreducible] wpSteady
theorem place_v (ps : List Pt) (A : Option Addr) (c : Nat) (q : Pt) (r : Int) (w : World) (hr : Rd w w.heap.size 2 A (ps.map encD)) (hl : ps.length ≤ 100) (hok : ps.all Pt.ok = true) (hq : q.ok = true) (h : placeOf ps q = r) :
  Calls Tryz.prog 39 #[.slice A ps.length c, pt q.1 q.2] w (Ret w (.int .i64 r)) := by
 have := place_any ps A c q w hr hl hok hq
 rwa [h] at this
def inOf (ps : List Pt) (q : Pt) : Int × Int := if (q.ok && PValid ps) = true then (placeOf ps q, 0) else (0, 1)
def areaOf (ps : List Pt) : Int × Int := if PValid ps = true then (twiceOf ps, 0) else (0, 1)
theorem In_any (ps : List Pt) (A : Option Addr) (c : Nat) (q : Pt) (w : World) (hr : Rd w w.heap.size 2 A (ps.map encD)) (hc : ps.length ≤ 100000000000000) :
  Calls Tryz.prog 7 #[pt q.1 q.2, .slice A ps.length c] w (Ret w (.tuple #[.int .i64 (inOf ps q).1, .int .i64 (inOf ps q).2])) := by
 have hm := hmix
 unfold inOf
 obtain ⟨u, hu⟩ : ∃ u, q.ok = u := ⟨_, rfl⟩
 obtain ⟨v, hv⟩ : ∃ u, PValid ps = u := ⟨_, rfl⟩
 obtain ⟨r, hr'⟩ : ∃ u, placeOf ps q = u := ⟨_, rfl⟩
 have k1 := hide (fun W => planeValid_v q.1 q.2 u W hu)
 have k2 := hide (fun W (hg : Grew w W) => PValid_v ps A c v W (hr.up hg) hc hv)
 rw [hu, hv, hr']
 cases u
 ·clear hu hv hr'
  obtain ⟨x1, x2⟩ := q
  go_enter Tryz.func7, Tryz.ntmps7
  go_wp2_with (first | (go_at_call 26; with_reducible refine crv (k1.out _) fun _ _ => ?_; dsimp only) | (go_at_call 5; with_reducible refine crv (k2.out _ gw) fun _ _ => ?_; dsimp only))
  go_ret2
  exact Ret.mk' rfl gw
 ·cases v
  ·clear hu hv hr'
   obtain ⟨x1, x2⟩ := q
   go_enter Tryz.func7, Tryz.ntmps7
   go_wp2_with (first | (go_at_call 26; with_reducible refine crv (k1.out _) fun _ _ => ?_; dsimp only) | (go_at_call 5; with_reducible refine crv (k2.out _ gw) fun _ _ => ?_; dsimp only))
   go_ret2
   exact Ret.mk' rfl gw
  ·have hp := pv_parts hv
   have k3 := hide (fun W (hg : Grew w W) => place_v ps A c q r W (hr.up hg) (by omega) hp.2 hu hr')
   clear hu hv hr' hp
   obtain ⟨x1, x2⟩ := q
   go_enter Tryz.func7, Tryz.ntmps7
   go_wp2_with (first | (go_at_call 26; with_reducible refine crv (k1.out _) fun _ _ => ?_; dsimp only) | (go_at_call 5; with_reducible refine crv (k2.out _ gw) fun _ _ => ?_; dsimp only) | (go_at_call 39; with_reducible refine crv (k3.out _ gw) fun _ _ => ?_; dsimp only))
   go_ret2
   exact Ret.mk' rfl gw
theorem In_v (ps : List Pt) (A : Option Addr) (c : Nat) (q : Pt) (r : Int × Int) (w : World) (hr : Rd w w.heap.size 2 A (ps.map encD)) (hc : ps.length ≤ 100000000000000) (h : inOf ps q = r) :
  Calls Tryz.prog 7 #[pt q.1 q.2, .slice A ps.length c] w (Ret w (.tuple #[.int .i64 r.1, .int .i64 r.2])) := by
 have := In_any ps A c q w hr hc
 rwa [h] at this
end Go.Proofs.YtndkfpmklmcjjaaGreat
namespace Go.Proofs.YtndkfpmklmcjjaaGreat
open Go.RowKit Go.Sort
attribute [local go_sem] Steady steadyUpon
attribute [local go_sem ↓] hs_dr lt_add_r lt_add_r2 lt_add_r3 lt_add_r4 lt_add_r5 lt_add_r6
attribute [local go_sem] cell?_gd frozen?_gd setCell_gd size_grow tape_grow cell?_grow' frozen?_grow' setCell_grow' grow_grow grow_dr grow_drew dr_dr dr_drew drew_dr dr_alloc dr_setCell dr_cell dr_frozen dr_tape dr_drawn
attribute [local irreducible] wpSteady
attribute [local go_sem] Oper.semAt_some
def opensOf (ps : List Pt) (i : Nat) (to : Pt) : Bool :=
 if 0 < tn (cor ps (i + ps.length - 1)) (cor ps i) (cor ps (i + 1)) then decide (0 ≤ tn (cor ps i) (cor ps (i + 1)) to) && decide (0 ≤ tn (cor ps i) to (cor ps (i + ps.length - 1)))
 else decide (tn (cor ps i) (cor ps (i + ps.length - 1)) to ≤ 0) || decide (tn (cor ps i) to (cor ps (i + 1)) ≤ 0)
theorem opens_v (ps : List Pt) (A : Option Addr) (c : Nat) (k : Nat) (to : Pt) (r : Bool) (w : World) (hr : Rd w w.heap.size 2 A (ps.map encD)) (hl : ps.length ≤ 100) (hok : ps.all Pt.ok = true) (hq : to.ok = true) (hlt : k < ps.length) (h : opensOf ps k to = r) :
  Calls Tryz.prog 79 #[.slice A ps.length c, .int .i64 k, pt to.1 to.2] w (Ret w (.bool r)) := by
 have hm := hmix
 have hpos : 0 < ps.length := by omega
 obtain ⟨b, off, hA, hb, h0, h1⟩ := ptAt hr (cor_get hlt)
 have hix := idx_run (cap := c) Tryz.underlying48 Tryz.sizeOf24 hA.out hlt
 have hq1 := cor_mod (k + ps.length - 1) hpos
 have hq2 := cor_mod (k + 1) hpos
 have o1 := cor_ok hok (k + ps.length - 1)
 have o2 := cor_ok hok k
 have o3 := cor_ok hok (k + 1)
 have kc1 := hide (fun W' (hg : Grew w W') => corner_v ps A c ((k : Int) - 1) ((k + ps.length - 1) % ps.length) _ W' (hr.up hg) (by omega) (by omega) (by rw [Int.natCast_emod, show ((k + ps.length - 1 : Nat) : Int) = (k : Int) - 1 + (ps.length : Int) by omega]) hq1)
 have kc2 := hide (fun W' (hg : Grew w W') => corner_v ps A c ((k : Int) + 1) ((k + 1) % ps.length) _ W' (hr.up hg) (by omega) (by omega) (by rw [Int.natCast_emod, Int.add_emod_right]; rfl) hq2)
 unfold opensOf at h
 obtain ⟨t0, e0⟩ : ∃ t, tn (cor ps (k + ps.length - 1)) (cor ps k) (cor ps (k + 1)) = t := ⟨_, rfl⟩
 obtain ⟨t1, e1⟩ : ∃ t, tn (cor ps k) (cor ps (k + 1)) to = t := ⟨_, rfl⟩
 obtain ⟨t2, e2⟩ : ∃ t, tn (cor ps k) to (cor ps (k + ps.length - 1)) = t := ⟨_, rfl⟩
 obtain ⟨t3, e3⟩ : ∃ t, tn (cor ps k) (cor ps (k + ps.length - 1)) to = t := ⟨_, rfl⟩
 obtain ⟨t4, e4⟩ : ∃ t, tn (cor ps k) to (cor ps (k + 1)) = t := ⟨_, rfl⟩
 rw [e0, e1, e2, e3, e4] at h
 have k0 := hide (fun W' => turn_v _ _ _ t0 W' o1 o2 o3 e0)
 have k1 := hide (fun W' => turn_v _ _ _ t1 W' o2 o3 hq e1)
 have k2 := hide (fun W' => turn_v _ _ _ t2 W' o2 hq o1 e2)
 have k3 := hide (fun W' => turn_v _ _ _ t3 W' o2 o1 hq e3)
 have k4 := hide (fun W' => turn_v _ _ _ t4 W' o2 hq o3 e4)
 clear e0 e1 e2 e3 e4 hA hq1 hq2 o1 o2 o3
 generalize cor ps (k + ps.length - 1) = qa at *
 generalize cor ps k = qb at *
 generalize cor ps (k + 1) = qc at *
 obtain ⟨a1, a2⟩ := qa
 obtain ⟨b1, b2⟩ := qb
 obtain ⟨c1, c2⟩ := qc
 obtain ⟨x1, x2⟩ := to
 dsimp only at h0 h1
 have ew1 : IntKind.i64.wrap ((k : Int) - 1) = (k : Int) - 1 := by unfold IntKind.wrap; simp [IntKind.bits, IntKind.signed]; omega
 have ew2 : IntKind.i64.wrap ((k : Int) + 1) = (k : Int) + 1 := by unfold IntKind.wrap; simp [IntKind.bits, IntKind.signed]; omega
 have hcase : (decide (0 < t0) = true ∧ decide (0 ≤ t1) = true ∧ r = decide (0 ≤ t2)) ∨ (decide (0 < t0) = true ∧ decide (0 ≤ t1) = false ∧ r = false) ∨ (decide (0 < t0) = false ∧ decide (t3 ≤ 0) = true ∧ r = true) ∨ (decide (0 < t0) = false ∧ decide (t3 ≤ 0) = false ∧ r = decide (t4 ≤ 0)) := by
  by_cases g0 : 0 < t0
  ·rw [if_pos g0] at h
   by_cases g1 : 0 ≤ t1 <;> simp [g0, g1] at h ⊢ <;> first | exact h.symm | exact h
  ·rw [if_neg g0] at h
   by_cases g1 : t3 ≤ 0 <;> simp [g0, g1] at h ⊢ <;> first | exact h.symm | exact h
 clear h hq
 rcases hcase with ⟨g0, g1, g2⟩ | ⟨g0, g1, g2⟩ | ⟨g0, g1, g2⟩ | ⟨g0, g1, g2⟩
 all_goals
  subst g2
  go_enter Tryz.func79, Tryz.ntmps79
  go_wp2_with fail
  refine wp_region_qas 18 [⟨12, 15, 7, 24, .agg #[.int .i64 0, .int .i64 0]⟩, ⟨13, 16, 8, 24, .agg #[.int .i64 0, .int .i64 0]⟩, ⟨14, 17, 9, 24, .agg #[.int .i64 0, .int .i64 0]⟩] [] hm (hZ := (ZOk.cons Tryz.zeroValue24 Tryz.sizeOf24 (ZOk.cons Tryz.zeroValue24 Tryz.sizeOf24 (ZOk.cons Tryz.zeroValue24 Tryz.sizeOf24 ZOk.nil)))) (h := ?_)
  repeat (refine wpSteady_step (fun K hK => ?_); go_simp; first | (refine hK _ ?_; clear hK K) | (apply Exists.intro; refine ⟨fun _ => ?_, hK _ ?_⟩; (go_at_call 30; first | with_reducible exact kc1.out _ gw | with_reducible exact kc2.out _ gw); clear hK K))
  refine wpSteady_nil ?_
  refine ⟨(StOk.cons (by rfl) (by simp [stOpnd, Act.eval, Value.cells, Value.oneCell']) (StOk.cons (by rfl) (by simp [stOpnd, Act.eval, Value.cells, Value.oneCell']) (StOk.cons (by rfl) (by simp [stOpnd, Act.eval, Value.cells, Value.oneCell']) StOk.nil))), LyOk.nil, ?_⟩
  rintro psq qsq Wq HWq HFq HBq
  obtain rfl : qsq = [] := HBq
  obtain ⟨p0, _, rfl, hp0, hb0, hn0, p1, _, rfl, hp1, hb1, hn1, p2, _, rfl, hp2, hb2, hn2, rfl⟩ := HFq
  simp only [putAll, putB, Act.put, setA]
  simp [stOpnd, Act.eval, Value.cells] at hb0
  have gc0_0 : Wq.cell? ⟨p0, 0, none⟩ = some _ := blk_cell hb0 0
  have gc0_1 : Wq.cell? ⟨p0, 1, none⟩ = some _ := blk_cell hb0 1
  have gf0 := blk_frozen hb0
  have gl0 := blk_lt hb0
  simp [stOpnd, Act.eval, Value.cells] at hb1
  have gc1_0 : Wq.cell? ⟨p1, 0, none⟩ = some _ := blk_cell hb1 0
  have gc1_1 : Wq.cell? ⟨p1, 1, none⟩ = some _ := blk_cell hb1 1
  have gf1 := blk_frozen hb1
  have gl1 := blk_lt hb1
  simp [stOpnd, Act.eval, Value.cells] at hb2
  have gc2_0 : Wq.cell? ⟨p2, 0, none⟩ = some _ := blk_cell hb2 0
  have gc2_1 : Wq.cell? ⟨p2, 1, none⟩ = some _ := blk_cell hb2 1
  have gf2 := blk_frozen hb2
  have gl2 := blk_lt hb2
  have gp0 := hide hp0
  have gp1 := hide hp1
  have gp2 := hide hp2
  clear hb0 hn0 hp0 hb1 hn1 hp1 hb2 hn2 hp2
  have oc := old_cell HWq
  have of := old_frozen HWq
  have ol := old_lt HWq
  replace HWq := hide HWq
  have m0 : Wq.cell? ⟨w.heap.size, 0, none⟩ = some (.int .i64 x1) := (oc _ _ (by simp)).trans (by go_simp)
  have m1 : Wq.cell? ⟨w.heap.size, 1, none⟩ = some (.int .i64 x2) := (oc _ _ (by simp)).trans (by go_simp)
  have m2 : w.heap.size < Wq.heap.size := by rw [ol _ (by simp)]; trivial
  clear oc of ol
  go_wp2_with (first | (go_at_call 29; with_reducible refine crv (k0.out _) fun _ _ => ?_; dsimp only) | (go_at_call 29; with_reducible refine crv (k1.out _) fun _ _ => ?_; dsimp only) | (go_at_call 29; with_reducible refine crv (k2.out _) fun _ _ => ?_; dsimp only) | (go_at_call 29; with_reducible refine crv (k3.out _) fun _ _ => ?_; dsimp only) | (go_at_call 29; with_reducible refine crv (k4.out _) fun _ _ => ?_; dsimp only))
  go_ret
  exact Ret.mk' (ret_bool (by simp [*])) (Grew.trans gw (HWq.out.trans gw))
def IdxC (ps : List Pt) (a : Pt) (r : Int) : Prop := (r = -1 ∧ ∀ i, i < ps.length → cor ps i ≠ a) ∨ (∃ k : Nat, k < ps.length ∧ r = k ∧ cor ps k = a ∧ ∀ j, j < k → cor ps j ≠ a)
def NotTo (ps : List Pt) (a : Pt) (k : Nat) : Prop := ∀ j, j < k → cor ps j ≠ a
theorem Index_any (ps : List Pt) (A : Option Addr) (c : Nat) (a : Pt) (w : World) (hr : Rd w w.heap.size 2 A (ps.map encD)) (hl : ps.length ≤ 100) :
  Calls Tryz.prog 102 #[.slice A ps.length c, pt a.1 a.2] w fun e w' => (∃ r : Int, e = .returned (.int .i64 r) ∧ IdxC ps a r) ∧ Grew w w' := by
 have hm := hmix
 obtain ⟨x1, x2⟩ := a
 go_enter Tryz.func102, Tryz.ntmps102
 go_wp2_with fail
 go_loopw [8] (fun i wr => ∃ k : Nat, k ≤ ps.length ∧ i = .int .i64 k ∧ Grew (w.alloc (.cells #[.int .i64 x1, .int .i64 x2] 24)) wr ∧ NotTo ps (x1, x2) k) (fun i _ => ps.length - (intOf i).toNat)
 case atStart => exact ⟨0, by omega, rfl, Grew.refl _, fun j hj => by omega⟩
 case round =>
  obtain ⟨k, hk, rfl, ⟨⟨n, os⟩, rfl⟩, hn⟩ := hrel
  have HN := hide hn
  clear hn
  by_cases hlt : k < ps.length
  ·obtain ⟨b, off, hA, hb, h0, h1⟩ := ptAt hr (cor_get hlt)
   have hix := idx_run (cap := c) Tryz.underlying48 Tryz.sizeOf24 hA.out hlt
   obtain ⟨⟨p1, p2⟩, hp⟩ : ∃ p, cor ps k = p := ⟨_, rfl⟩
   rw [hp] at h0 h1
   have HP := hide hp
   clear hp hA
   dsimp only at h0 h1
   have hcase : (p1 = x1 ∧ p2 = x2) ∨ (x1 ≠ p1) ∨ (x1 = p1 ∧ x2 ≠ p2) := by omega
   rcases hcase with ⟨rfl, rfl⟩ | e1 | ⟨rfl, e1⟩
   ·go_wp2_with fail
    refine wp_region_qas 6 [] [] hm (h := ?_)
    repeat (refine wpSteady_step (fun K hK => ?_); go_simp; refine hK _ ?_; clear hK K)
    refine rq0 fun nq osq => ?_
    try simp only [Act.put, setA]
    try dsimp only
    go_wp2_with fail
    go_ret
    exact ⟨⟨_, rfl, .inr ⟨k, hlt, rfl, HP.out, HN.out⟩⟩, gw⟩
   all_goals
    go_wp2_with fail
    refine wp_region_qas 6 [] [] hm (h := ?_)
    repeat (refine wpSteady_step (fun K hK => ?_); go_simp; refine hK _ ?_; clear hK K)
    refine rq0 fun nq osq => ?_
    try simp only [Act.put, setA]
    try dsimp only
    go_wp2_with fail
    go_roundw
    case rel =>
     refine ⟨k + 1, by omega, by go_num, gw, fun j hj => ?_⟩
     by_cases hjk : j = k
     ·subst hjk
      rw [HP.out]
      intro e
      injection e with e2 e3
      first | exact e1 e2.symm | exact e1 e3.symm
     ·exact HN.out j (by omega)
    case measure => simp [intOf]; omega
  ·obtain rfl : k = ps.length := by omega
   go_wp2_with fail
   go_ret
   exact ⟨⟨_, rfl, .inl ⟨rfl, HN.out⟩⟩, gw⟩
end Go.Proofs.YtndkfpmklmcjjaaGreat
