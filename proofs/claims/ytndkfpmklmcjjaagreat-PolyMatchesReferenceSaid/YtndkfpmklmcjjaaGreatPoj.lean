/- Package poly: leads. -/
import Derived.Test.YtndkfpmklmcjjaaGreatPog
set_option linter.unusedSimpArgs false
set_option linter.unusedVariables false
set_option maxHeartbeats 4000000
set_option maxRecDepth 100000
namespace Go.Proofs.YtndkfpmklmcjjaaGreat
open Go.RowKit Go.Sort
attribute [local go_sem] Steady steadyUpon
attribute [local go_sem ↓] hs_dr lt_add_r lt_add_r2 lt_add_r3 lt_add_r4 lt_add_r5 lt_add_r6
attribute [local go_sem] cell?_gd frozen?_gd setCell_gd size_grow tape_grow cell?_grow' frozen?_grow' setCell_grow' grow_grow grow_dr grow_drew dr_dr dr_drew drew_dr dr_alloc dr_setCell dr_cell dr_frozen dr_tape dr_drawn
attribute [local irreducible] wpSteady
attribute [local go_sem] Oper.semAt_some
theorem range_find_some {f : Nat → Bool} {n k : Nat} (hk : k < n) (h : f k = true) (hn : ∀ j, j < k → f j = false) : (List.range n).find? f = some k := by
 rw [List.find?_eq_some_iff_append]
 refine ⟨h, List.range k, (List.range n).drop (k + 1), ?_, fun j hj => by rw [hn j (List.mem_range.1 hj)]; rfl⟩
 have e : (List.range n).take k = List.range k := by rw [List.take_range, Nat.min_eq_left (by omega)]
 have e2 : (List.range n).drop k = k :: (List.range n).drop (k + 1) := by rw [List.drop_eq_getElem_cons (by simpa using hk), List.getElem_range]
 rw [← e2, ← e, List.take_append_drop]
theorem range_find_none {f : Nat → Bool} {n : Nat} (hn : ∀ j, j < n → f j = false) : (List.range n).find? f = none := by
 rw [List.find?_eq_none]
 intro j hj
 rw [hn j (List.mem_range.1 hj)]
 simp
def edgeLeads (ps : List Pt) (to : Pt) (i : Nat) : Bool := decide (0 ≤ tn (cor ps i) (cor ps (i + 1)) to)
def leadsOf (ps : List Pt) (a to : Pt) : Bool :=
 match (List.range ps.length).find? (fun i => decide (cor ps i = a)) with
 | some i => opensOf ps i to
 | none => match (List.range ps.length).find? (fun i => onB a (cor ps i) (cor ps (i + 1))) with
  | some i => edgeLeads ps to i
  | none => true
theorem leadsOf_corner {ps : List Pt} {a to : Pt} {k : Nat} (hk : k < ps.length) (h : cor ps k = a) (hn : ∀ j, j < k → cor ps j ≠ a) : leadsOf ps a to = opensOf ps k to := by
 unfold leadsOf
 rw [range_find_some hk (by simpa using h) (fun j hj => by simpa using hn j hj)]
theorem leadsOf_edge {ps : List Pt} {a to : Pt} {k : Nat} (hc : ∀ i, i < ps.length → cor ps i ≠ a) (hk : k < ps.length) (h : onB a (cor ps k) (cor ps (k + 1)) = true) (hn : ∀ j, j < k → onB a (cor ps j) (cor ps (j + 1)) = false) : leadsOf ps a to = edgeLeads ps to k := by
 unfold leadsOf
 rw [range_find_none (fun j hj => by simpa using hc j hj)]
 dsimp only
 rw [range_find_some hk h hn]
theorem leadsOf_in {ps : List Pt} {a to : Pt} (hc : ∀ i, i < ps.length → cor ps i ≠ a) (hn : ∀ j, j < ps.length → onB a (cor ps j) (cor ps (j + 1)) = false) : leadsOf ps a to = true := by
 unfold leadsOf
 rw [range_find_none (fun j hj => by simpa using hc j hj)]
 dsimp only
 rw [range_find_none hn]
/-- Where the loop was left: at the last of these edges. -/
def StopE (ps : List Pt) (a to : Pt) (is : List Nat) (v : Bool) : Prop := ∃ pre i, is = pre ++ [i] ∧ (∀ j ∈ pre, onB a (cor ps j) (cor ps (j + 1)) = false) ∧ onB a (cor ps i) (cor ps (i + 1)) = true ∧ v = edgeLeads ps to i
theorem leads_any (ps : List Pt) (A : Option Addr) (c : Nat) (q to : Pt) (w : World) (hr : Rd w w.heap.size 2 A (ps.map encD)) (hl : ps.length ≤ 100) (hok : ps.all Pt.ok = true) (hq : q.ok = true) (hto : to.ok = true) :
  Calls Tryz.prog 78 #[.slice A ps.length c, pt q.1 q.2, pt to.1 to.2] w (Ret w (.bool (leadsOf ps q to))) := by
 have hm := hmix
 have HR := hide hr
 have HOK := hide hok
 have HQ := hide hq
 have HTO := hide hto
 obtain ⟨rr, hrr⟩ : ∃ r, leadsOf ps q to = r := ⟨_, rfl⟩
 rw [hrr]
 have HRR := hide hrr
 clear hr hok hq hto hrr
 refine (callsIn_wide (n := 13)).1 ?_
 refine callsIn_of_wp_marks Tryz.func78 rfl trivial ?_ rfl
 simp only [Tryz.ntmps78, List.size_toArray, List.length_cons, List.length_nil, Nat.reduceAdd, Nat.reduceSub, Array.replicate_succ, Array.replicate_zero, List.push_toArray, List.append_toArray, List.nil_append, List.cons_append]
 gi_wp2_with fail
 refine ⟨trivial, ?_⟩
 refine (callsIn_wide.2 (Index_any ps A c q _ (HR.out.up gw) hl)).mono ?_
 rintro e W1 ⟨⟨r, rfl, hidx⟩, hg1⟩
 obtain ⟨bx, hbx⟩ : ∃ bx : List Obj, bx = [.cells #[.int .i64 q.1, .int .i64 q.2] 24 (0, 0), .cells #[.int .i64 to.1, .int .i64 to.2] 24 (0, 0), .cells #[.bool false] 4 (0, 0)] := ⟨_, rfl⟩
 have hbx0 := Bx.allocs bx w
 have hb1 : Bx W1 w.heap.size bx := by
  have h := hbx0.1
  subst hbx
  exact h.grew hg1
 have hw1 : Grew w W1 := by
  have h := hbx0.2
  subst hbx
  exact h.trans hg1
 have hsz1 : w.heap.size + 3 ≤ W1.heap.size := by
  have := hg1.below.size
  simp at this
  omega
 clear hg1 hbx0
 subst hbx
 have c0 : W1.cell? ⟨w.heap.size, 0, none⟩ = some (.int .i64 q.1) := blk_cell (hb1 0 _ rfl) 0
 have c1 : W1.cell? ⟨w.heap.size, 1, none⟩ = some (.int .i64 q.2) := blk_cell (hb1 0 _ rfl) 1
 have c2 : W1.cell? ⟨w.heap.size + 1, 0, none⟩ = some (.int .i64 to.1) := blk_cell (hb1 1 _ rfl) 0
 have c3 : W1.cell? ⟨w.heap.size + 1, 1, none⟩ = some (.int .i64 to.2) := blk_cell (hb1 1 _ rfl) 1
 have c4 : W1.cell? ⟨w.heap.size + 2, 0, none⟩ = some (.bool false) := (hb1.box 2 rfl).cell
 have f4 : W1.frozen? ⟨w.heap.size + 2, 0, none⟩ = false := (hb1.box 2 rfl).frozen
 have m0 : w.heap.size < W1.heap.size := by omega
 have m1 : w.heap.size + 1 < W1.heap.size := by omega
 have m2 : w.heap.size + 2 < W1.heap.size := by omega
 have Hb1 := hide hb1
 have Hw1 := hide hw1
 clear hb1 hw1
 dsimp only
 rcases hidx with ⟨rfl, hnc⟩ | ⟨k, hk, rfl, hck, hnc⟩
 ·have HNC := hide hnc
  clear hnc
  gi_wp2_with fail
  refine ⟨trivial, ?_⟩
  refine (callsIn_wide.2 (edges_any _ _ _ _)).mono ?_
  rintro e w' ⟨rfl, rfl⟩
  dsimp only
  gi_wp2_with fail
  refine wpIn_name ?_
  intro a0 W0 ha hW
  have hg01 : Grew W1 W0 := by rw [← hW]; exact gw
  have hg0 : Grew w W0 := Hw1.out.trans hg01
  have hb0 := Hb1.out.grew hg01
  have hk0 : W0.heap[W1.heap.size]? = some (.cells #[.slice A ps.length c] 48 (0, 0)) := by rw [← hW]; exact heap_alloc_new _ _
  have hsz : W0.heap.size = W1.heap.size + 1 := by rw [← hW]; simp
  clear hW c0 c1 c2 c3 c4 f4 hg01
  have Hb0 := hide hb0
  have Hg0 := hide hg0
  refine wpIn_rangeFunc_ownH (n := 13) rfl (by omega) (gf := 75) (lb := #[.pointer (some ⟨W1.heap.size, 0, none⟩)]) (by rw [← ha]; simp [Act.eval]) trivial (enters_of Tryz.func75 (by kernel_rfl) rfl)
   (edges1_stops 12 w.heap.size (fun _ _ => False) ps A c W1.heap.size W0 (fun b _ hb => hb.elim) hk0 (HR.out.grew hg0 (Nat.le_refl _)) (by omega) (by omega))
   (fun h k => h.trans k) KpM.bk (Below.refl _ _) (fun _ => rfl)
   (fun pre W => (Below w.heap.size w W ∧ Bx W w.heap.size _) ∧ ∀ i ∈ pre, onB q (cor ps i.1) (cor ps (i.1 + 1)) = false)
   (fun e pre W => (Below w.heap.size w W ∧ ∃ v, Boxed W (w.heap.size + 2) 4 (.bool v) ∧ StopE ps q to (pre.map Fin.val) v) ∧ e = .ret)
   (OwnFrom.and (OwnFrom.and (ownFrom_below (Nat.le_refl _) hg0.below.size) (Bx.own (by simp; omega))) (ownFrom_pure _))
   (fun q => OwnFrom.and (OwnFrom.and (ownFrom_below (Nat.le_refl _) hg0.below.size) (fun s X Y row ⟨v, h1, h2⟩ hg hr => ⟨v, Own.from (boxed_own (β := Unit) _ _ (fun _ => .bool v)) _ () X Y row h1 hg hr, h2⟩)) (ownFrom_pure _))
   ⟨⟨hg0.below, hb0⟩, fun i hi => by cases hi⟩
   (fun x a' W => ∃ B, W.heap[B]? = some (.cells #[.int .i64 (cor ps x.1).1, .int .i64 (cor ps x.1).2, .int .i64 (cor ps (x.1 + 1)).1, .int .i64 (cor ps (x.1 + 1)).2] 61 (0, 0)) ∧ a' = { tmps := ((a0.tmps.setIfInBounds 21 (.int .i64 (x.1 : Nat))).setIfInBounds 22 (.agg #[.int .i64 (cor ps x.1).1, .int .i64 (cor ps x.1).2, .int .i64 (cor ps (x.1 + 1)).1, .int .i64 (cor ps (x.1 + 1)).2])).setIfInBounds 9 (.pointer (some ⟨B, 0, none⟩)), defers := [] })
   (fun x a' => by
    rintro s X Y row ⟨B, h1, h2⟩ hg hr
    exact ⟨B, cells_own h1 hg (fun r e => (hr r e).2), h2⟩)
   ?assign ?body ?done ?stop
  case assign =>
   rintro l pre x W K ⟨⟨hB, hb⟩, hp⟩ hK
   rw [show encE ps x = #[.int .i64 (x.1 : Nat), .agg #[.int .i64 (cor ps x.1).1, .int .i64 (cor ps x.1).2, .int .i64 (cor ps (x.1 + 1)).1, .int .i64 (cor ps (x.1 + 1)).2]] from rfl, asg2]
   subst ha
   simp only [List.setIfInBounds_toArray, List.set_cons_succ, List.set_cons_zero] at hK ⊢
   have hKK := hide hK
   clear hK
   gi_wp2_with fail
   have hgg : Grew W (W.alloc (.cells #[.int .i64 (cor ps x.1).1, .int .i64 (cor ps x.1).2, .int .i64 (cor ps (x.1 + 1)).1, .int .i64 (cor ps (x.1 + 1)).2] 61)) := gw
   exact hKK.out _ _ (hgg.keepsFrom _) (KpM.grew hgg) ⟨⟨hB.trans (hgg.below.mono hB.size), hb.grew hgg⟩, hp⟩ ⟨W.heap.size, heap_alloc_new _ _, rfl⟩
  case body =>
   rintro l pre x a' W hl2 hlp ⟨⟨hB, hb⟩, hp⟩ ⟨B, hx, rfl⟩ hlt
   subst ha
   obtain ⟨i, hil⟩ := x
   dsimp only at hx
   simp only [List.setIfInBounds_toArray, List.set_cons_succ, List.set_cons_zero]
   have oa := cor_ok HOK.out i
   have ob := cor_ok HOK.out (i + 1)
   obtain ⟨o, ho⟩ : ∃ o, onB q (cor ps i) (cor ps (i + 1)) = o := ⟨_, rfl⟩
   obtain ⟨t, ht⟩ : ∃ o, tn (cor ps i) (cor ps (i + 1)) to = o := ⟨_, rfl⟩
   have hle : edgeLeads ps to i = decide (0 ≤ t) := by unfold edgeLeads; rw [ht]
   have hnext : o = false → ∀ i' ∈ pre ++ [(⟨i, hil⟩ : Fin ps.length)], onB q (cor ps i'.1) (cor ps (i'.1 + 1)) = false := fun hof i' hi' => by
    rcases List.mem_append.1 hi' with h | h
    ·exact hp i' h
    ·obtain rfl := List.mem_singleton.1 h
     rw [← hof]; exact ho
   have hstop : o = true → StopE ps q to ((pre ++ [(⟨i, hil⟩ : Fin ps.length)]).map Fin.val) (decide (0 ≤ t)) := fun hof => by
    refine ⟨pre.map Fin.val, i, by rw [List.map_append]; rfl, fun j hj => ?_, by rw [ho, hof], hle.symm⟩
    obtain ⟨j', hj', rfl⟩ := List.mem_map.1 hj
    exact hp j' hj'
   have HNEXT := hide hnext
   have HSTOP := hide hstop
   have ko := hide (fun W' => on_v q (cor ps i) (cor ps (i + 1)) o W' HQ.out oa ob ho)
   have kt := hide (fun W' => turn_v (cor ps i) (cor ps (i + 1)) to t W' oa ob HTO.out ht)
   clear hnext hstop ho ht hle hp hlt
   generalize cor ps i = a at *
   generalize cor ps (i + 1) = b at *
   obtain ⟨a1, a2⟩ := a
   obtain ⟨b1, b2⟩ := b
   obtain ⟨x1, x2⟩ := q
   obtain ⟨y1, y2⟩ := to
   dsimp only at hx hb ⊢
   have c0 : W.cell? ⟨w.heap.size, 0, none⟩ = some (.int .i64 x1) := blk_cell (hb 0 _ rfl) 0
   have c1 : W.cell? ⟨w.heap.size, 1, none⟩ = some (.int .i64 x2) := blk_cell (hb 0 _ rfl) 1
   have c2 : W.cell? ⟨w.heap.size + 1, 0, none⟩ = some (.int .i64 y1) := blk_cell (hb 1 _ rfl) 0
   have c3 : W.cell? ⟨w.heap.size + 1, 1, none⟩ = some (.int .i64 y2) := blk_cell (hb 1 _ rfl) 1
   have c4 : W.cell? ⟨w.heap.size + 2, 0, none⟩ = _ := (hb.box 2 rfl).cell
   have f4 : W.frozen? ⟨w.heap.size + 2, 0, none⟩ = _ := (hb.box 2 rfl).frozen
   have d0 : W.cell? ⟨B, 0, none⟩ = some _ := blk_cell hx 0
   have d1 : W.cell? ⟨B, 1, none⟩ = some _ := blk_cell hx 1
   have d2 : W.cell? ⟨B, 2, none⟩ = some _ := blk_cell hx 2
   have d3 : W.cell? ⟨B, 3, none⟩ = some _ := blk_cell hx 3
   have l2 := (hb.box 2 rfl).lt
   have l1 : w.heap.size + 1 < W.heap.size := by omega
   have l0 : w.heap.size < W.heap.size := by omega
   have lB := blk_lt hx
   have HB := hide hB
   have Hb := hide hb
   clear hB hb hx
   gi_wp2_with fail
   refine ⟨trivial, ?_⟩
   refine (CallsIn.inRound l (callsIn_wide.2 (ko.out _))).mono ?_
   rintro e w' ⟨rfl, ⟨n5, os5⟩, rfl⟩
   dsimp only
   cases o
   ·have HN2 := hide (HNEXT.out rfl)
    clear HNEXT HSTOP
    gi_wp2_with fail
    have hgg : Grew W (grow (dr W n5) os5) := gw
    exact ⟨hgg.keepsFrom _, KpM.grew hgg, ⟨HB.out.trans (hgg.below.mono HB.out.size), Hb.out.grew hgg⟩, HN2.out⟩
   ·have HS2 := hide (HSTOP.out rfl)
    clear HNEXT HSTOP
    gi_wp2_with fail
    refine ⟨trivial, ?_⟩
    refine (CallsIn.inRound l (callsIn_wide.2 (kt.out _))).mono ?_
    rintro e w' ⟨rfl, ⟨n6, os6⟩, rfl⟩
    dsimp only
    have hb2 : Boxed W (w.heap.size + 2) 4 (.bool false) := Hb.out.box 2 rfl
    have hbx2 := hide hb2
    clear hb2
    gi_wp2_with fail
    exact ⟨gb_keeps (b := w.heap.size + 2) gbw ⟨_, hbx2.out, rfl⟩, ⟨gb_below (b := w.heap.size + 2) gbw HB.out (by omega), _, (by repeat (with_reducible first | assumption | exact Hid.out (by assumption) | refine bxd_grow ?_ _ _ | refine Boxed.set (v := .bool false) _ ?_ | refine bxd_new ?_ (Hid.out (by assumption)) | (refine bxd_grew ?_ (Hid.out (by assumption))))), HS2.out⟩, rfl⟩
  case done =>
   subst ha
   rintro D xs W hD hS ⟨⟨hB, hb⟩, hp⟩ hK
   have b1 : Boxed W (w.heap.size + 2) _ _ := hb.box 2 rfl
   have c1 := b1.cell
   have f1 := b1.frozen
   have hno : ∀ j, j < ps.length → onB q (cor ps j) (cor ps (j + 1)) = false := fun j hj => by
    have : j ∈ xs.map Fin.val := by rw [hS]; exact List.mem_range.2 hj
    obtain ⟨j', hj', rfl⟩ := List.mem_map.1 this
    exact hp j' hj'
   obtain rfl : rr = true := by rw [← HRR.out, leadsOf_in HNC.out hno]
   have HB := hide hB
   clear hB hb hS hp b1 hno
   gi_wp2_with fail
   have hK2 := (KeepsOthers.setCell W ⟨w.heap.size + 2, 0, none⟩ (.bool true)).same D _ hK rfl
   refine ⟨by simp, .inl ⟨_, _, rfl, run_takeDeferred hK2, ?_⟩⟩
   have hb5 := (HB.out.setCell (p := ⟨w.heap.size + 2, 0, none⟩) (by simp) (.bool true)).trans (belowK_b (w := w) (Nat.le_refl _) _ D _ (.deferred none) (by omega) hK2 rfl rfl)
   have e3 : ((W.setCell ⟨w.heap.size + 2, 0, none⟩ (.bool true)).putObj D (.deferred none)).cell? ⟨w.heap.size + 2, 0, none⟩ = some (.bool true) := by
    rw [putObj_cell (by omega)]
    go_simp
   refine ⟨.bool true, by simp [results, Tryz.results78, go_sem, e3], ?_⟩
   exact Ret.mk' rfl (Grew.of_below hb5)
  case stop =>
   subst ha
   rintro D e pre W hD ⟨k, hk, hr⟩ ⟨⟨hB, v, hb1, hst⟩, rfl⟩ hK
   have c3 : W.cell? ⟨w.heap.size + 2, 0, none⟩ = _ := hb1.cell
   obtain ⟨pr, i, h1, h2, h3, rfl⟩ := hst
   rw [hr] at h1
   have hki : k = i + 1 ∧ pr = List.range i := by
    cases k with
    | zero => simp at h1
    | succ k =>
     rw [List.range_succ] at h1
     obtain ⟨e1, e2⟩ := List.append_inj' h1 rfl
     injection e2 with e2
     exact ⟨by rw [e2], by rw [← e1, e2]⟩
   obtain ⟨rfl, rfl⟩ := hki
   have hres := leadsOf_edge (to := to) HNC.out (by omega : i < ps.length) h3 (fun j hj => h2 j (List.mem_range.2 hj))
   obtain rfl : rr = edgeLeads ps to i := by rw [← HRR.out, hres]
   have HB := hide hB
   clear hB hb1 hr h1 h2 h3 hres hk HRR
   gi_wp2_with fail
   refine ⟨by simp, .inl ⟨_, _, rfl, run_takeDeferred hK, ?_⟩⟩
   have hb5 := HB.out.trans (belowK_b (w := w) (Nat.le_refl _) _ D _ (.deferred none) (by omega) hK rfl rfl)
   have e3 := (putObj_cell (W := W) (D := D) (i := 0) (o := .deferred none) (b := w.heap.size + 2) (by omega)).trans c3
   refine ⟨.bool (edgeLeads ps to i), by simp [results, Tryz.results78, go_sem, e3], ?_⟩
   exact Ret.mk' rfl (Grew.of_below hb5)
 ·have hres : leadsOf ps q to = opensOf ps k to := leadsOf_corner hk hck hnc
  obtain ⟨o, ho⟩ : ∃ o, opensOf ps k to = o := ⟨_, rfl⟩
  have ko := hide (fun W (hg : Grew w W) => opens_v ps A c k to o W (HR.out.up hg) hl HOK.out HTO.out hk ho)
  rw [hres, ho] at HRR
  obtain rfl : o = rr := HRR.out
  have hk0 : (0 : Int) ≤ (k : Int) := by omega
  clear hres ho hck hnc
  obtain ⟨t1, t2⟩ := to
  dsimp only at c2 c3
  gi_wp2_with fail
  refine ⟨trivial, ?_⟩
  refine (callsIn_wide.2 (ko.out _ Hw1.out)).mono ?_
  rintro e w' ⟨rfl, ⟨n5, os5⟩, rfl⟩
  dsimp only
  gi_wp2_with fail
  have hbx2 : Boxed W1 (w.heap.size + 2) 4 (.bool false) := Hb1.out.box 2 rfl
  have e3 : (grow (dr (W1.setCell ⟨w.heap.size + 1 + 1, 0, none⟩ (.bool o)) n5) os5).cell? ⟨w.heap.size + 1 + 1, 0, none⟩ = some (.bool o) := (bxd_grow (hbx2.set _) n5 os5).cell
  refine ⟨.bool o, by simp [results, Tryz.results78, go_sem, e3], ?_⟩
  exact Ret.mk' rfl (Grew.of_below (gb_below (b := w.heap.size + 2) gbw Hw1.out.below (by omega)))
end Go.Proofs.YtndkfpmklmcjjaaGreat
