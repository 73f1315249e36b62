/- slices.MinFunc and slices.MaxFunc at places; package poly: Box. -/
import Derived.Test.YtdmlnmcaihodaaaPou
namespace Go.Proofs.Ytdmlnmcaihodaaa
set_option linter.unusedVariables false
set_option linter.unusedSimpArgs false
open Go.RowKit Go.Sort
attribute [local go_sem] Steady steadyUpon
attribute [local go_sem ↓] hs_dr lt_add_r lt_add_r2 lt_add_r3 lt_add_r4 lt_add_r5 lt_add_r6
attribute [local go_sem] cell?_gd frozen?_gd setCell_gd size_grow tape_grow cell?_grow' frozen?_grow' setCell_grow' grow_grow grow_dr grow_drew dr_dr dr_drew drew_dr dr_alloc dr_setCell dr_cell dr_frozen dr_tape dr_drawn
attribute [local irreducible] wpSteady

theorem set2_at {W : World} {b : Nat} {x y v u : Value} {T : TypeId} {fr : Nat × Nat} (h : W.heap[b]? = some (.cells #[x, y] T fr)) : ((W.setCell ⟨b, 0, none⟩ v).setCell ⟨b, 1, none⟩ u).heap[b]? = some (.cells #[v, u] T fr) := by
  have h1 := blk_lt h
  simp [World.setCell, Array.getElem?_modify, h]
theorem set2_old {W : World} {b k : Nat} {v u : Value} (h : k ≠ b) : ((W.setCell ⟨b, 0, none⟩ v).setCell ⟨b, 1, none⟩ u).heap[k]? = W.heap[k]? := by
  rw [heap_setCell_other _ ⟨b, 1, none⟩ k u h, heap_setCell_other _ ⟨b, 0, none⟩ k v h]
def selTo (p : Pt → Pt → Bool) (ps : List Pt) : Nat → Pt
  | 0 => cor ps 0
  | k + 1 => if p (cor ps (k + 1)) (selTo p ps k) = true then cor ps (k + 1) else selTo p ps k
def ordY (a b : Pt) : Int := sg (a.2 - b.2)
def minS (x m : Pt) : Bool := decide (ord x m < 0)
def maxS (x m : Pt) : Bool := decide (0 < ord x m)
def minY (x m : Pt) : Bool := decide (ordY x m < 0)
def maxY (x m : Pt) : Bool := decide (0 < ordY x m)
set_option maxHeartbeats 1600000 in
theorem byY_any (a b : Pt) (w : World) :
    Calls Try.prog 56 #[pt a.1 a.2, pt b.1 b.2] w (Ret w (.int .i64 (ordY a b))) := by
  have k1 := hide (fun W => Compare_any a.2 b.2 W)
  obtain ⟨a1, a2⟩ := a
  obtain ⟨b1, b2⟩ := b
  go_enter Try.func56, Try.ntmps56
  go_wp2_with (go_at_call 57; (with_reducible refine (k1.out _).mono ?_); rintro e w' ⟨rfl, ⟨_, _⟩, rfl⟩; dsimp only)
  go_ret
  exact Ret.mk' rfl (by repeat (with_reducible first | exact Grew.refl _ | assumption | refine Grew.alloc ?_ _ | refine Grew.grow ?_ _ | refine Grew.dr ?_ _ | refine Grew.drewN ?_ _ | refine Grew.drew ?_ | refine Grew.trans ?_ (Hid.out (by assumption))))
set_option maxRecDepth 100000 in
set_option maxHeartbeats 4000000 in
theorem minO_any (ps : List Pt) (A : Option Addr) (c : Nat) (w : World) (hr : Rd w w.heap.size 2 A (ps.map encD)) (h0 : 0 < ps.length) (hl : ps.length ≤ 100000000000000) :
    Calls Try.prog 54 #[.slice A ps.length c, .func (.func 41) #[] #[]] w (Ret w (pt (selTo minS ps (ps.length - 1)).1 (selTo minS ps (ps.length - 1)).2)) := by
  have hm := hmix
  have hp := cor_get h0
  obtain ⟨p, hpp⟩ : ∃ p, cor ps 0 = p := ⟨_, rfl⟩
  have HPP := hide hpp
  rw [hpp] at hp
  obtain ⟨b, off, hA, hb, g0, g1⟩ := ptAt hr hp
  rw [show off + 0 * 2 = off by omega] at g0 g1
  have hix0 := idx_run0 (cap := c) Try.underlying22 Try.sizeOf28 hA.out h0
  have hn1 : ¬ (ps.length : Int) < 1 := by omega
  have HR := hide hr
  obtain ⟨res, hres⟩ : ∃ r, selTo minS ps (ps.length - 1) = r := ⟨_, rfl⟩
  rw [hres]
  have HRES := hide hres
  obtain ⟨p1, p2⟩ := p
  dsimp only at g0 g1
  clear hr hp hpp hres
  go_enter Try.func54, Try.ntmps54
  go_wp2_with fail
  refine wp_name ?_
  intro W0 hW
  have hg0 : Grew w W0 := by rw [← hW]; exact (by repeat (with_reducible first | exact Grew.refl _ | assumption | refine Grew.alloc ?_ _ | refine Grew.grow ?_ _ | refine Grew.dr ?_ _ | refine Grew.drewN ?_ _ | refine Grew.drew ?_ | refine Grew.trans ?_ (Hid.out (by assumption))))
  have hb0 : W0.heap[w.heap.size + 1]? = some (.cells #[.int .i64 p1, .int .i64 p2] 28 (0, 0)) := by rw [← hW]; exact heap_alloc_at _ _ _ (by simp)
  have hz0 : W0.heap.size = w.heap.size + 2 := by rw [← hW]; simp
  have hb9 : W0.heap[w.heap.size]? = some (.cells #[.int .i64 0, .int .i64 0] 28 (0, 0)) := by
    rw [← hW]
    exact (heap_alloc_old _ _ (by simp)).trans (heap_alloc_new _ _)
  have HG0 := hide hg0
  have HB0 := hide hb0
  have HB9 := hide hb9
  clear hW hg0 hb0 hb9 hix0 g0 g1 hA hb
  go_loopw [6] (fun i wr => ∃ k : Nat, 1 ≤ k ∧ k ≤ ps.length ∧ i = .int .i64 k ∧ W0.grownBy wr (some (w.heap.size + 1)) ∧ wr.heap[w.heap.size + 1]? = some (.cells #[.int .i64 (selTo minS ps (k - 1)).1, .int .i64 (selTo minS ps (k - 1)).2] 28 (0, 0))) (fun i _ => ps.length - (intOf i).toNat)
  case atStart => exact ⟨1, Nat.le_refl _, by omega, rfl, gb_refl _ _, by rw [show selTo minS ps (1 - 1) = (p1, p2) from HPP.out]; exact HB0.out⟩
  case round =>
    obtain ⟨k, hk1, hk, rfl, hgr, hbx⟩ := hrel
    have hz := hgr.size
    have hwr : Below w.heap.size w wr := HG0.out.below.grown hgr HG0.out.below.size (fun j e => by cases e; omega)
    have hrd := HR.out.below hwr
    obtain ⟨m, hm0⟩ : ∃ m, selTo minS ps (k - 1) = m := ⟨_, rfl⟩
    have c0 := blk_cell hbx 0
    have c1 := blk_cell hbx 1
    have f0 := blk_frozen hbx 0
    have f1 := blk_frozen hbx 1
    have lb := blk_lt hbx
    have HGR := hide hgr
    have HWR := hide hwr
    by_cases hlt : k < ps.length
    · have hp := cor_get hlt
      have hst : selTo minS ps (k + 1 - 1) = if minS (cor ps k) m = true then cor ps k else m := by
        rw [← hm0, show k + 1 - 1 = (k - 1) + 1 by omega]
        show (if minS (cor ps (k - 1 + 1)) (selTo minS ps (k - 1)) = true then cor ps (k - 1 + 1) else selTo minS ps (k - 1)) = _
        rw [show k - 1 + 1 = k by omega]
      obtain ⟨x, hx⟩ : ∃ x, cor ps k = x := ⟨_, rfl⟩
      rw [hm0] at hbx c0 c1
      rw [hx] at hp hst
      obtain ⟨b, off, hA, hb, g0, g1⟩ := ptAt hrd hp
      have hix := idx_run (cap := c) Try.underlying22 Try.sizeOf28 hA.out hlt
      have lbb : b < wr.heap.size := by omega
      have hne : ¬ b = w.heap.size + 1 := by omega
      have kc := hide (fun W => order_any x m W)
      obtain ⟨x1, x2⟩ := x
      obtain ⟨m1, m2⟩ := m
      dsimp only at g0 g1 c0 c1 kc
      have HBX := hide hbx
      have HST := hide hst
      clear hp hx hm0 hrd hwr hgr hbx hst
      obtain ⟨cv, hcv⟩ : ∃ v, minS (x1, x2) (m1, m2) = v := ⟨_, rfl⟩
      have hcv2 := hcv
      unfold minS at hcv2
      rw [hcv] at HST
      clear hcv
      cases cv
      · simp only [decide_eq_false_iff_not] at hcv2
        rw [if_neg (by simp)] at HST
        go_wp2_with fail
        refine wp_region_qas 8 [] [] hm (by kernel_rfl) (by simp only [List.take, List.filter, isQ]; rfl) (by simp only [List.drop]; rfl) ZOk.nil (by simp) ?_
        repeat (refine wpSteady_step (fun K hK => ?_); go_simp; first | (refine hK _ ?_; clear hK K) | (apply Exists.intro; refine ⟨fun _ => ?_, hK _ ?_⟩; (go_at_call 41; with_reducible exact kc.out _); clear hK K))
        refine wpSteady_nil ?_
        refine ⟨StOk.nil, LyOk.nil, ?_⟩
        rintro psq qsq Wq HWq HFq HBq
        obtain rfl : qsq = [] := HBq
        obtain rfl : psq = [] := HFq
        obtain ⟨⟨nq, osq⟩, rfl⟩ := HWq
        simp only [putAll, putB, Act.put, List.setIfInBounds_toArray, List.set_cons_succ, List.set_cons_zero]
        try dsimp only
        go_wp2_with fail
        go_roundw
        case rel => exact ⟨k + 1, by omega, by omega, by go_num, gb_grow HGR.out _ _, by rw [HST.out]; exact (heap_grow_old _ _ (by simpa [hs_dr] using lb)).trans HBX.out⟩
        case measure => simp [intOf]; omega
      · simp only [decide_eq_true_eq] at hcv2
        rw [if_pos rfl] at HST
        go_wp2_with fail
        refine wp_region_qas 8 [] [] hm (by kernel_rfl) (by simp only [List.take, List.filter, isQ]; rfl) (by simp only [List.drop]; rfl) ZOk.nil (by simp) ?_
        repeat (refine wpSteady_step (fun K hK => ?_); go_simp; first | (refine hK _ ?_; clear hK K) | (apply Exists.intro; refine ⟨fun _ => ?_, hK _ ?_⟩; (go_at_call 41; with_reducible exact kc.out _); clear hK K))
        refine wpSteady_nil ?_
        refine ⟨StOk.nil, LyOk.nil, ?_⟩
        rintro psq qsq Wq HWq HFq HBq
        obtain rfl : qsq = [] := HBq
        obtain rfl : psq = [] := HFq
        obtain ⟨⟨nq, osq⟩, rfl⟩ := HWq
        simp only [putAll, putB, Act.put, List.setIfInBounds_toArray, List.set_cons_succ, List.set_cons_zero]
        try dsimp only
        go_wp2_with fail
        go_roundw
        case rel => exact ⟨k + 1, by omega, by omega, by go_num, gb_grow (gb_row (gb_row HGR.out _ _) _ _) _ _, by rw [HST.out]; exact (heap_grow_old _ _ (by simpa [hs_dr] using lb)).trans (set2_at HBX.out)⟩
        case measure => simp [intOf]; omega
    · obtain rfl : k = ps.length := by omega
      rw [HRES.out] at hbx c0 c1
      have hb9 := (hgr.block w.heap.size (by omega) (by simp)).trans HB9.out
      have r0 := blk_cell hb9 0
      have r1 := blk_cell hb9 1
      have rf0 := blk_frozen hb9 0
      have rf1 := blk_frozen hb9 1
      have lr := blk_lt hb9
      obtain ⟨z1, z2⟩ := res
      dsimp only at c0 c1
      have e1 : (wr.setCell ⟨w.heap.size, 0, none⟩ (.int .i64 z1)).cell? ⟨w.heap.size, 0, none⟩ = some (.int .i64 z1) := by rw [World.cell?_setCell_same' _ _ _ (by rw [r0]; rfl)]
      have e2 : ((wr.setCell ⟨w.heap.size, 0, none⟩ (.int .i64 z1)).setCell ⟨w.heap.size, 1, none⟩ (.int .i64 z2)).cell? ⟨w.heap.size, 1, none⟩ = some (.int .i64 z2) := blk_cell (set2_at hb9) 1
      clear hbx hgr hwr hrd hb9 hm0
      go_wp2_with fail
      refine bodyPost_ret (v := pt z1 z2) (by simp [results, Try.results54, go_sem, e1, e2]) rfl ?_
      exact Ret.mk' rfl (Grew.of_below ((HWR.out.setCell (p := ⟨w.heap.size, 0, none⟩) (Nat.le_refl _) _).setCell (p := ⟨w.heap.size, 1, none⟩) (Nat.le_refl _) _))
set_option maxRecDepth 100000 in
set_option maxHeartbeats 4000000 in
theorem maxO_any (ps : List Pt) (A : Option Addr) (c : Nat) (w : World) (hr : Rd w w.heap.size 2 A (ps.map encD)) (h0 : 0 < ps.length) (hl : ps.length ≤ 100000000000000) :
    Calls Try.prog 55 #[.slice A ps.length c, .func (.func 41) #[] #[]] w (Ret w (pt (selTo maxS ps (ps.length - 1)).1 (selTo maxS ps (ps.length - 1)).2)) := by
  have hm := hmix
  have hp := cor_get h0
  obtain ⟨p, hpp⟩ : ∃ p, cor ps 0 = p := ⟨_, rfl⟩
  have HPP := hide hpp
  rw [hpp] at hp
  obtain ⟨b, off, hA, hb, g0, g1⟩ := ptAt hr hp
  rw [show off + 0 * 2 = off by omega] at g0 g1
  have hix0 := idx_run0 (cap := c) Try.underlying22 Try.sizeOf28 hA.out h0
  have hn1 : ¬ (ps.length : Int) < 1 := by omega
  have HR := hide hr
  obtain ⟨res, hres⟩ : ∃ r, selTo maxS ps (ps.length - 1) = r := ⟨_, rfl⟩
  rw [hres]
  have HRES := hide hres
  obtain ⟨p1, p2⟩ := p
  dsimp only at g0 g1
  clear hr hp hpp hres
  go_enter Try.func55, Try.ntmps55
  go_wp2_with fail
  refine wp_name ?_
  intro W0 hW
  have hg0 : Grew w W0 := by rw [← hW]; exact (by repeat (with_reducible first | exact Grew.refl _ | assumption | refine Grew.alloc ?_ _ | refine Grew.grow ?_ _ | refine Grew.dr ?_ _ | refine Grew.drewN ?_ _ | refine Grew.drew ?_ | refine Grew.trans ?_ (Hid.out (by assumption))))
  have hb0 : W0.heap[w.heap.size + 1]? = some (.cells #[.int .i64 p1, .int .i64 p2] 28 (0, 0)) := by rw [← hW]; exact heap_alloc_at _ _ _ (by simp)
  have hz0 : W0.heap.size = w.heap.size + 2 := by rw [← hW]; simp
  have hb9 : W0.heap[w.heap.size]? = some (.cells #[.int .i64 0, .int .i64 0] 28 (0, 0)) := by
    rw [← hW]
    exact (heap_alloc_old _ _ (by simp)).trans (heap_alloc_new _ _)
  have HG0 := hide hg0
  have HB0 := hide hb0
  have HB9 := hide hb9
  clear hW hg0 hb0 hb9 hix0 g0 g1 hA hb
  go_loopw [6] (fun i wr => ∃ k : Nat, 1 ≤ k ∧ k ≤ ps.length ∧ i = .int .i64 k ∧ W0.grownBy wr (some (w.heap.size + 1)) ∧ wr.heap[w.heap.size + 1]? = some (.cells #[.int .i64 (selTo maxS ps (k - 1)).1, .int .i64 (selTo maxS ps (k - 1)).2] 28 (0, 0))) (fun i _ => ps.length - (intOf i).toNat)
  case atStart => exact ⟨1, Nat.le_refl _, by omega, rfl, gb_refl _ _, by rw [show selTo maxS ps (1 - 1) = (p1, p2) from HPP.out]; exact HB0.out⟩
  case round =>
    obtain ⟨k, hk1, hk, rfl, hgr, hbx⟩ := hrel
    have hz := hgr.size
    have hwr : Below w.heap.size w wr := HG0.out.below.grown hgr HG0.out.below.size (fun j e => by cases e; omega)
    have hrd := HR.out.below hwr
    obtain ⟨m, hm0⟩ : ∃ m, selTo maxS ps (k - 1) = m := ⟨_, rfl⟩
    have c0 := blk_cell hbx 0
    have c1 := blk_cell hbx 1
    have f0 := blk_frozen hbx 0
    have f1 := blk_frozen hbx 1
    have lb := blk_lt hbx
    have HGR := hide hgr
    have HWR := hide hwr
    by_cases hlt : k < ps.length
    · have hp := cor_get hlt
      have hst : selTo maxS ps (k + 1 - 1) = if maxS (cor ps k) m = true then cor ps k else m := by
        rw [← hm0, show k + 1 - 1 = (k - 1) + 1 by omega]
        show (if maxS (cor ps (k - 1 + 1)) (selTo maxS ps (k - 1)) = true then cor ps (k - 1 + 1) else selTo maxS ps (k - 1)) = _
        rw [show k - 1 + 1 = k by omega]
      obtain ⟨x, hx⟩ : ∃ x, cor ps k = x := ⟨_, rfl⟩
      rw [hm0] at hbx c0 c1
      rw [hx] at hp hst
      obtain ⟨b, off, hA, hb, g0, g1⟩ := ptAt hrd hp
      have hix := idx_run (cap := c) Try.underlying22 Try.sizeOf28 hA.out hlt
      have lbb : b < wr.heap.size := by omega
      have hne : ¬ b = w.heap.size + 1 := by omega
      have kc := hide (fun W => order_any x m W)
      obtain ⟨x1, x2⟩ := x
      obtain ⟨m1, m2⟩ := m
      dsimp only at g0 g1 c0 c1 kc
      have HBX := hide hbx
      have HST := hide hst
      clear hp hx hm0 hrd hwr hgr hbx hst
      obtain ⟨cv, hcv⟩ : ∃ v, maxS (x1, x2) (m1, m2) = v := ⟨_, rfl⟩
      have hcv2 := hcv
      unfold maxS at hcv2
      rw [hcv] at HST
      clear hcv
      cases cv
      · simp only [decide_eq_false_iff_not] at hcv2
        rw [if_neg (by simp)] at HST
        go_wp2_with fail
        refine wp_region_qas 8 [] [] hm (by kernel_rfl) (by simp only [List.take, List.filter, isQ]; rfl) (by simp only [List.drop]; rfl) ZOk.nil (by simp) ?_
        repeat (refine wpSteady_step (fun K hK => ?_); go_simp; first | (refine hK _ ?_; clear hK K) | (apply Exists.intro; refine ⟨fun _ => ?_, hK _ ?_⟩; (go_at_call 41; with_reducible exact kc.out _); clear hK K))
        refine wpSteady_nil ?_
        refine ⟨StOk.nil, LyOk.nil, ?_⟩
        rintro psq qsq Wq HWq HFq HBq
        obtain rfl : qsq = [] := HBq
        obtain rfl : psq = [] := HFq
        obtain ⟨⟨nq, osq⟩, rfl⟩ := HWq
        simp only [putAll, putB, Act.put, List.setIfInBounds_toArray, List.set_cons_succ, List.set_cons_zero]
        try dsimp only
        go_wp2_with fail
        go_roundw
        case rel => exact ⟨k + 1, by omega, by omega, by go_num, gb_grow HGR.out _ _, by rw [HST.out]; exact (heap_grow_old _ _ (by simpa [hs_dr] using lb)).trans HBX.out⟩
        case measure => simp [intOf]; omega
      · simp only [decide_eq_true_eq] at hcv2
        rw [if_pos rfl] at HST
        go_wp2_with fail
        refine wp_region_qas 8 [] [] hm (by kernel_rfl) (by simp only [List.take, List.filter, isQ]; rfl) (by simp only [List.drop]; rfl) ZOk.nil (by simp) ?_
        repeat (refine wpSteady_step (fun K hK => ?_); go_simp; first | (refine hK _ ?_; clear hK K) | (apply Exists.intro; refine ⟨fun _ => ?_, hK _ ?_⟩; (go_at_call 41; with_reducible exact kc.out _); clear hK K))
        refine wpSteady_nil ?_
        refine ⟨StOk.nil, LyOk.nil, ?_⟩
        rintro psq qsq Wq HWq HFq HBq
        obtain rfl : qsq = [] := HBq
        obtain rfl : psq = [] := HFq
        obtain ⟨⟨nq, osq⟩, rfl⟩ := HWq
        simp only [putAll, putB, Act.put, List.setIfInBounds_toArray, List.set_cons_succ, List.set_cons_zero]
        try dsimp only
        go_wp2_with fail
        go_roundw
        case rel => exact ⟨k + 1, by omega, by omega, by go_num, gb_grow (gb_row (gb_row HGR.out _ _) _ _) _ _, by rw [HST.out]; exact (heap_grow_old _ _ (by simpa [hs_dr] using lb)).trans (set2_at HBX.out)⟩
        case measure => simp [intOf]; omega
    · obtain rfl : k = ps.length := by omega
      rw [HRES.out] at hbx c0 c1
      have hb9 := (hgr.block w.heap.size (by omega) (by simp)).trans HB9.out
      have r0 := blk_cell hb9 0
      have r1 := blk_cell hb9 1
      have rf0 := blk_frozen hb9 0
      have rf1 := blk_frozen hb9 1
      have lr := blk_lt hb9
      obtain ⟨z1, z2⟩ := res
      dsimp only at c0 c1
      have e1 : (wr.setCell ⟨w.heap.size, 0, none⟩ (.int .i64 z1)).cell? ⟨w.heap.size, 0, none⟩ = some (.int .i64 z1) := by rw [World.cell?_setCell_same' _ _ _ (by rw [r0]; rfl)]
      have e2 : ((wr.setCell ⟨w.heap.size, 0, none⟩ (.int .i64 z1)).setCell ⟨w.heap.size, 1, none⟩ (.int .i64 z2)).cell? ⟨w.heap.size, 1, none⟩ = some (.int .i64 z2) := blk_cell (set2_at hb9) 1
      clear hbx hgr hwr hrd hb9 hm0
      go_wp2_with fail
      refine bodyPost_ret (v := pt z1 z2) (by simp [results, Try.results55, go_sem, e1, e2]) rfl ?_
      exact Ret.mk' rfl (Grew.of_below ((HWR.out.setCell (p := ⟨w.heap.size, 0, none⟩) (Nat.le_refl _) _).setCell (p := ⟨w.heap.size, 1, none⟩) (Nat.le_refl _) _))
set_option maxRecDepth 100000 in
set_option maxHeartbeats 4000000 in
theorem minY_any (ps : List Pt) (A : Option Addr) (c : Nat) (w : World) (hr : Rd w w.heap.size 2 A (ps.map encD)) (h0 : 0 < ps.length) (hl : ps.length ≤ 100000000000000) :
    Calls Try.prog 54 #[.slice A ps.length c, .func (.func 56) #[] #[]] w (Ret w (pt (selTo minY ps (ps.length - 1)).1 (selTo minY ps (ps.length - 1)).2)) := by
  have hm := hmix
  have hp := cor_get h0
  obtain ⟨p, hpp⟩ : ∃ p, cor ps 0 = p := ⟨_, rfl⟩
  have HPP := hide hpp
  rw [hpp] at hp
  obtain ⟨b, off, hA, hb, g0, g1⟩ := ptAt hr hp
  rw [show off + 0 * 2 = off by omega] at g0 g1
  have hix0 := idx_run0 (cap := c) Try.underlying22 Try.sizeOf28 hA.out h0
  have hn1 : ¬ (ps.length : Int) < 1 := by omega
  have HR := hide hr
  obtain ⟨res, hres⟩ : ∃ r, selTo minY ps (ps.length - 1) = r := ⟨_, rfl⟩
  rw [hres]
  have HRES := hide hres
  obtain ⟨p1, p2⟩ := p
  dsimp only at g0 g1
  clear hr hp hpp hres
  go_enter Try.func54, Try.ntmps54
  go_wp2_with fail
  refine wp_name ?_
  intro W0 hW
  have hg0 : Grew w W0 := by rw [← hW]; exact (by repeat (with_reducible first | exact Grew.refl _ | assumption | refine Grew.alloc ?_ _ | refine Grew.grow ?_ _ | refine Grew.dr ?_ _ | refine Grew.drewN ?_ _ | refine Grew.drew ?_ | refine Grew.trans ?_ (Hid.out (by assumption))))
  have hb0 : W0.heap[w.heap.size + 1]? = some (.cells #[.int .i64 p1, .int .i64 p2] 28 (0, 0)) := by rw [← hW]; exact heap_alloc_at _ _ _ (by simp)
  have hz0 : W0.heap.size = w.heap.size + 2 := by rw [← hW]; simp
  have hb9 : W0.heap[w.heap.size]? = some (.cells #[.int .i64 0, .int .i64 0] 28 (0, 0)) := by
    rw [← hW]
    exact (heap_alloc_old _ _ (by simp)).trans (heap_alloc_new _ _)
  have HG0 := hide hg0
  have HB0 := hide hb0
  have HB9 := hide hb9
  clear hW hg0 hb0 hb9 hix0 g0 g1 hA hb
  go_loopw [6] (fun i wr => ∃ k : Nat, 1 ≤ k ∧ k ≤ ps.length ∧ i = .int .i64 k ∧ W0.grownBy wr (some (w.heap.size + 1)) ∧ wr.heap[w.heap.size + 1]? = some (.cells #[.int .i64 (selTo minY ps (k - 1)).1, .int .i64 (selTo minY ps (k - 1)).2] 28 (0, 0))) (fun i _ => ps.length - (intOf i).toNat)
  case atStart => exact ⟨1, Nat.le_refl _, by omega, rfl, gb_refl _ _, by rw [show selTo minY ps (1 - 1) = (p1, p2) from HPP.out]; exact HB0.out⟩
  case round =>
    obtain ⟨k, hk1, hk, rfl, hgr, hbx⟩ := hrel
    have hz := hgr.size
    have hwr : Below w.heap.size w wr := HG0.out.below.grown hgr HG0.out.below.size (fun j e => by cases e; omega)
    have hrd := HR.out.below hwr
    obtain ⟨m, hm0⟩ : ∃ m, selTo minY ps (k - 1) = m := ⟨_, rfl⟩
    have c0 := blk_cell hbx 0
    have c1 := blk_cell hbx 1
    have f0 := blk_frozen hbx 0
    have f1 := blk_frozen hbx 1
    have lb := blk_lt hbx
    have HGR := hide hgr
    have HWR := hide hwr
    by_cases hlt : k < ps.length
    · have hp := cor_get hlt
      have hst : selTo minY ps (k + 1 - 1) = if minY (cor ps k) m = true then cor ps k else m := by
        rw [← hm0, show k + 1 - 1 = (k - 1) + 1 by omega]
        show (if minY (cor ps (k - 1 + 1)) (selTo minY ps (k - 1)) = true then cor ps (k - 1 + 1) else selTo minY ps (k - 1)) = _
        rw [show k - 1 + 1 = k by omega]
      obtain ⟨x, hx⟩ : ∃ x, cor ps k = x := ⟨_, rfl⟩
      rw [hm0] at hbx c0 c1
      rw [hx] at hp hst
      obtain ⟨b, off, hA, hb, g0, g1⟩ := ptAt hrd hp
      have hix := idx_run (cap := c) Try.underlying22 Try.sizeOf28 hA.out hlt
      have lbb : b < wr.heap.size := by omega
      have hne : ¬ b = w.heap.size + 1 := by omega
      have kc := hide (fun W => byY_any x m W)
      obtain ⟨x1, x2⟩ := x
      obtain ⟨m1, m2⟩ := m
      dsimp only at g0 g1 c0 c1 kc
      have HBX := hide hbx
      have HST := hide hst
      clear hp hx hm0 hrd hwr hgr hbx hst
      obtain ⟨cv, hcv⟩ : ∃ v, minY (x1, x2) (m1, m2) = v := ⟨_, rfl⟩
      have hcv2 := hcv
      unfold minY at hcv2
      rw [hcv] at HST
      clear hcv
      cases cv
      · simp only [decide_eq_false_iff_not] at hcv2
        rw [if_neg (by simp)] at HST
        go_wp2_with fail
        refine wp_region_qas 8 [] [] hm (by kernel_rfl) (by simp only [List.take, List.filter, isQ]; rfl) (by simp only [List.drop]; rfl) ZOk.nil (by simp) ?_
        repeat (refine wpSteady_step (fun K hK => ?_); go_simp; first | (refine hK _ ?_; clear hK K) | (apply Exists.intro; refine ⟨fun _ => ?_, hK _ ?_⟩; (go_at_call 56; with_reducible exact kc.out _); clear hK K))
        refine wpSteady_nil ?_
        refine ⟨StOk.nil, LyOk.nil, ?_⟩
        rintro psq qsq Wq HWq HFq HBq
        obtain rfl : qsq = [] := HBq
        obtain rfl : psq = [] := HFq
        obtain ⟨⟨nq, osq⟩, rfl⟩ := HWq
        simp only [putAll, putB, Act.put, List.setIfInBounds_toArray, List.set_cons_succ, List.set_cons_zero]
        try dsimp only
        go_wp2_with fail
        go_roundw
        case rel => exact ⟨k + 1, by omega, by omega, by go_num, gb_grow HGR.out _ _, by rw [HST.out]; exact (heap_grow_old _ _ (by simpa [hs_dr] using lb)).trans HBX.out⟩
        case measure => simp [intOf]; omega
      · simp only [decide_eq_true_eq] at hcv2
        rw [if_pos rfl] at HST
        go_wp2_with fail
        refine wp_region_qas 8 [] [] hm (by kernel_rfl) (by simp only [List.take, List.filter, isQ]; rfl) (by simp only [List.drop]; rfl) ZOk.nil (by simp) ?_
        repeat (refine wpSteady_step (fun K hK => ?_); go_simp; first | (refine hK _ ?_; clear hK K) | (apply Exists.intro; refine ⟨fun _ => ?_, hK _ ?_⟩; (go_at_call 56; with_reducible exact kc.out _); clear hK K))
        refine wpSteady_nil ?_
        refine ⟨StOk.nil, LyOk.nil, ?_⟩
        rintro psq qsq Wq HWq HFq HBq
        obtain rfl : qsq = [] := HBq
        obtain rfl : psq = [] := HFq
        obtain ⟨⟨nq, osq⟩, rfl⟩ := HWq
        simp only [putAll, putB, Act.put, List.setIfInBounds_toArray, List.set_cons_succ, List.set_cons_zero]
        try dsimp only
        go_wp2_with fail
        go_roundw
        case rel => exact ⟨k + 1, by omega, by omega, by go_num, gb_grow (gb_row (gb_row HGR.out _ _) _ _) _ _, by rw [HST.out]; exact (heap_grow_old _ _ (by simpa [hs_dr] using lb)).trans (set2_at HBX.out)⟩
        case measure => simp [intOf]; omega
    · obtain rfl : k = ps.length := by omega
      rw [HRES.out] at hbx c0 c1
      have hb9 := (hgr.block w.heap.size (by omega) (by simp)).trans HB9.out
      have r0 := blk_cell hb9 0
      have r1 := blk_cell hb9 1
      have rf0 := blk_frozen hb9 0
      have rf1 := blk_frozen hb9 1
      have lr := blk_lt hb9
      obtain ⟨z1, z2⟩ := res
      dsimp only at c0 c1
      have e1 : (wr.setCell ⟨w.heap.size, 0, none⟩ (.int .i64 z1)).cell? ⟨w.heap.size, 0, none⟩ = some (.int .i64 z1) := by rw [World.cell?_setCell_same' _ _ _ (by rw [r0]; rfl)]
      have e2 : ((wr.setCell ⟨w.heap.size, 0, none⟩ (.int .i64 z1)).setCell ⟨w.heap.size, 1, none⟩ (.int .i64 z2)).cell? ⟨w.heap.size, 1, none⟩ = some (.int .i64 z2) := blk_cell (set2_at hb9) 1
      clear hbx hgr hwr hrd hb9 hm0
      go_wp2_with fail
      refine bodyPost_ret (v := pt z1 z2) (by simp [results, Try.results54, go_sem, e1, e2]) rfl ?_
      exact Ret.mk' rfl (Grew.of_below ((HWR.out.setCell (p := ⟨w.heap.size, 0, none⟩) (Nat.le_refl _) _).setCell (p := ⟨w.heap.size, 1, none⟩) (Nat.le_refl _) _))
set_option maxRecDepth 100000 in
set_option maxHeartbeats 4000000 in
theorem maxY_any (ps : List Pt) (A : Option Addr) (c : Nat) (w : World) (hr : Rd w w.heap.size 2 A (ps.map encD)) (h0 : 0 < ps.length) (hl : ps.length ≤ 100000000000000) :
    Calls Try.prog 55 #[.slice A ps.length c, .func (.func 56) #[] #[]] w (Ret w (pt (selTo maxY ps (ps.length - 1)).1 (selTo maxY ps (ps.length - 1)).2)) := by
  have hm := hmix
  have hp := cor_get h0
  obtain ⟨p, hpp⟩ : ∃ p, cor ps 0 = p := ⟨_, rfl⟩
  have HPP := hide hpp
  rw [hpp] at hp
  obtain ⟨b, off, hA, hb, g0, g1⟩ := ptAt hr hp
  rw [show off + 0 * 2 = off by omega] at g0 g1
  have hix0 := idx_run0 (cap := c) Try.underlying22 Try.sizeOf28 hA.out h0
  have hn1 : ¬ (ps.length : Int) < 1 := by omega
  have HR := hide hr
  obtain ⟨res, hres⟩ : ∃ r, selTo maxY ps (ps.length - 1) = r := ⟨_, rfl⟩
  rw [hres]
  have HRES := hide hres
  obtain ⟨p1, p2⟩ := p
  dsimp only at g0 g1
  clear hr hp hpp hres
  go_enter Try.func55, Try.ntmps55
  go_wp2_with fail
  refine wp_name ?_
  intro W0 hW
  have hg0 : Grew w W0 := by rw [← hW]; exact (by repeat (with_reducible first | exact Grew.refl _ | assumption | refine Grew.alloc ?_ _ | refine Grew.grow ?_ _ | refine Grew.dr ?_ _ | refine Grew.drewN ?_ _ | refine Grew.drew ?_ | refine Grew.trans ?_ (Hid.out (by assumption))))
  have hb0 : W0.heap[w.heap.size + 1]? = some (.cells #[.int .i64 p1, .int .i64 p2] 28 (0, 0)) := by rw [← hW]; exact heap_alloc_at _ _ _ (by simp)
  have hz0 : W0.heap.size = w.heap.size + 2 := by rw [← hW]; simp
  have hb9 : W0.heap[w.heap.size]? = some (.cells #[.int .i64 0, .int .i64 0] 28 (0, 0)) := by
    rw [← hW]
    exact (heap_alloc_old _ _ (by simp)).trans (heap_alloc_new _ _)
  have HG0 := hide hg0
  have HB0 := hide hb0
  have HB9 := hide hb9
  clear hW hg0 hb0 hb9 hix0 g0 g1 hA hb
  go_loopw [6] (fun i wr => ∃ k : Nat, 1 ≤ k ∧ k ≤ ps.length ∧ i = .int .i64 k ∧ W0.grownBy wr (some (w.heap.size + 1)) ∧ wr.heap[w.heap.size + 1]? = some (.cells #[.int .i64 (selTo maxY ps (k - 1)).1, .int .i64 (selTo maxY ps (k - 1)).2] 28 (0, 0))) (fun i _ => ps.length - (intOf i).toNat)
  case atStart => exact ⟨1, Nat.le_refl _, by omega, rfl, gb_refl _ _, by rw [show selTo maxY ps (1 - 1) = (p1, p2) from HPP.out]; exact HB0.out⟩
  case round =>
    obtain ⟨k, hk1, hk, rfl, hgr, hbx⟩ := hrel
    have hz := hgr.size
    have hwr : Below w.heap.size w wr := HG0.out.below.grown hgr HG0.out.below.size (fun j e => by cases e; omega)
    have hrd := HR.out.below hwr
    obtain ⟨m, hm0⟩ : ∃ m, selTo maxY ps (k - 1) = m := ⟨_, rfl⟩
    have c0 := blk_cell hbx 0
    have c1 := blk_cell hbx 1
    have f0 := blk_frozen hbx 0
    have f1 := blk_frozen hbx 1
    have lb := blk_lt hbx
    have HGR := hide hgr
    have HWR := hide hwr
    by_cases hlt : k < ps.length
    · have hp := cor_get hlt
      have hst : selTo maxY ps (k + 1 - 1) = if maxY (cor ps k) m = true then cor ps k else m := by
        rw [← hm0, show k + 1 - 1 = (k - 1) + 1 by omega]
        show (if maxY (cor ps (k - 1 + 1)) (selTo maxY ps (k - 1)) = true then cor ps (k - 1 + 1) else selTo maxY ps (k - 1)) = _
        rw [show k - 1 + 1 = k by omega]
      obtain ⟨x, hx⟩ : ∃ x, cor ps k = x := ⟨_, rfl⟩
      rw [hm0] at hbx c0 c1
      rw [hx] at hp hst
      obtain ⟨b, off, hA, hb, g0, g1⟩ := ptAt hrd hp
      have hix := idx_run (cap := c) Try.underlying22 Try.sizeOf28 hA.out hlt
      have lbb : b < wr.heap.size := by omega
      have hne : ¬ b = w.heap.size + 1 := by omega
      have kc := hide (fun W => byY_any x m W)
      obtain ⟨x1, x2⟩ := x
      obtain ⟨m1, m2⟩ := m
      dsimp only at g0 g1 c0 c1 kc
      have HBX := hide hbx
      have HST := hide hst
      clear hp hx hm0 hrd hwr hgr hbx hst
      obtain ⟨cv, hcv⟩ : ∃ v, maxY (x1, x2) (m1, m2) = v := ⟨_, rfl⟩
      have hcv2 := hcv
      unfold maxY at hcv2
      rw [hcv] at HST
      clear hcv
      cases cv
      · simp only [decide_eq_false_iff_not] at hcv2
        rw [if_neg (by simp)] at HST
        go_wp2_with fail
        refine wp_region_qas 8 [] [] hm (by kernel_rfl) (by simp only [List.take, List.filter, isQ]; rfl) (by simp only [List.drop]; rfl) ZOk.nil (by simp) ?_
        repeat (refine wpSteady_step (fun K hK => ?_); go_simp; first | (refine hK _ ?_; clear hK K) | (apply Exists.intro; refine ⟨fun _ => ?_, hK _ ?_⟩; (go_at_call 56; with_reducible exact kc.out _); clear hK K))
        refine wpSteady_nil ?_
        refine ⟨StOk.nil, LyOk.nil, ?_⟩
        rintro psq qsq Wq HWq HFq HBq
        obtain rfl : qsq = [] := HBq
        obtain rfl : psq = [] := HFq
        obtain ⟨⟨nq, osq⟩, rfl⟩ := HWq
        simp only [putAll, putB, Act.put, List.setIfInBounds_toArray, List.set_cons_succ, List.set_cons_zero]
        try dsimp only
        go_wp2_with fail
        go_roundw
        case rel => exact ⟨k + 1, by omega, by omega, by go_num, gb_grow HGR.out _ _, by rw [HST.out]; exact (heap_grow_old _ _ (by simpa [hs_dr] using lb)).trans HBX.out⟩
        case measure => simp [intOf]; omega
      · simp only [decide_eq_true_eq] at hcv2
        rw [if_pos rfl] at HST
        go_wp2_with fail
        refine wp_region_qas 8 [] [] hm (by kernel_rfl) (by simp only [List.take, List.filter, isQ]; rfl) (by simp only [List.drop]; rfl) ZOk.nil (by simp) ?_
        repeat (refine wpSteady_step (fun K hK => ?_); go_simp; first | (refine hK _ ?_; clear hK K) | (apply Exists.intro; refine ⟨fun _ => ?_, hK _ ?_⟩; (go_at_call 56; with_reducible exact kc.out _); clear hK K))
        refine wpSteady_nil ?_
        refine ⟨StOk.nil, LyOk.nil, ?_⟩
        rintro psq qsq Wq HWq HFq HBq
        obtain rfl : qsq = [] := HBq
        obtain rfl : psq = [] := HFq
        obtain ⟨⟨nq, osq⟩, rfl⟩ := HWq
        simp only [putAll, putB, Act.put, List.setIfInBounds_toArray, List.set_cons_succ, List.set_cons_zero]
        try dsimp only
        go_wp2_with fail
        go_roundw
        case rel => exact ⟨k + 1, by omega, by omega, by go_num, gb_grow (gb_row (gb_row HGR.out _ _) _ _) _ _, by rw [HST.out]; exact (heap_grow_old _ _ (by simpa [hs_dr] using lb)).trans (set2_at HBX.out)⟩
        case measure => simp [intOf]; omega
    · obtain rfl : k = ps.length := by omega
      rw [HRES.out] at hbx c0 c1
      have hb9 := (hgr.block w.heap.size (by omega) (by simp)).trans HB9.out
      have r0 := blk_cell hb9 0
      have r1 := blk_cell hb9 1
      have rf0 := blk_frozen hb9 0
      have rf1 := blk_frozen hb9 1
      have lr := blk_lt hb9
      obtain ⟨z1, z2⟩ := res
      dsimp only at c0 c1
      have e1 : (wr.setCell ⟨w.heap.size, 0, none⟩ (.int .i64 z1)).cell? ⟨w.heap.size, 0, none⟩ = some (.int .i64 z1) := by rw [World.cell?_setCell_same' _ _ _ (by rw [r0]; rfl)]
      have e2 : ((wr.setCell ⟨w.heap.size, 0, none⟩ (.int .i64 z1)).setCell ⟨w.heap.size, 1, none⟩ (.int .i64 z2)).cell? ⟨w.heap.size, 1, none⟩ = some (.int .i64 z2) := blk_cell (set2_at hb9) 1
      clear hbx hgr hwr hrd hb9 hm0
      go_wp2_with fail
      refine bodyPost_ret (v := pt z1 z2) (by simp [results, Try.results55, go_sem, e1, e2]) rfl ?_
      exact Ret.mk' rfl (Grew.of_below ((HWR.out.setCell (p := ⟨w.heap.size, 0, none⟩) (Nat.le_refl _) _).setCell (p := ⟨w.heap.size, 1, none⟩) (Nat.le_refl _) _))
end Go.Proofs.Ytdmlnmcaihodaaa
