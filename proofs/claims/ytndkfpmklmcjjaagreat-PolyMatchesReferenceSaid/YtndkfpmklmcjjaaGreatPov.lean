/- slices.MinFunc and slices.MaxFunc at places; package poly: Box. Package span: what package poly and its laws need of it. Package poly: Box. Package poly: Rect. -/
import Derived.Test.YtndkfpmklmcjjaaGreatPog
import Derived.Test.YtndkfpmklmcjjaaGreatPla
set_option linter.unusedSimpArgs false
set_option linter.unusedVariables false
set_option maxHeartbeats 4000000
set_option maxRecDepth 100000
namespace Go.Proofs.YtndkfpmklmcjjaaGreat
open Go.RowKit Go.Sort
attribute [local go_sem] Steady steadyUpon
attribute [local go_sem ↓] hs_dr lt_add_r lt_add_r2 lt_add_r3 lt_add_r4 lt_add_r5 lt_add_r6
attribute [local go_sem] cell?_gd frozen?_gd setCell_gd size_grow tape_grow cell?_grow' frozen?_grow' setCell_grow' grow_grow grow_dr grow_drew dr_dr dr_drew drew_dr dr_alloc dr_setCell dr_cell dr_frozen dr_tape dr_drawn
attribute [local irreducible] wpSteady
/-- What Hull and Rect hand back. -/
def PolyR (w : World) (r : List Pt × Int) (e : Ending) (w' : World) : Prop := ∃ v, e = .returned (.tuple #[v, .int .i64 r.2]) ∧ w'.ownsRow w.heap.size 24 2 v r.1.length (r.1.flatMap encD) ∧ Grew w w'
theorem set2_at {W : World} {b : Nat} {x y v u : Value} {T : TypeId} {fr : Nat × Nat} (h : W.heap[b]? = some (.cells #[x, y] T fr)) : ((W.setCell ⟨b, 0, none⟩ v).setCell ⟨b, 1, none⟩ u).heap[b]? = some (.cells #[v, u] T fr) := by
 have h1 := blk_lt h
 simp [World.setCell, Array.getElem?_modify, h]
def selTo (p : Pt → Pt → Bool) (ps : List Pt) : Nat → Pt
 | 0 => cor ps 0
 | k + 1 => if p (cor ps (k + 1)) (selTo p ps k) = true then cor ps (k + 1) else selTo p ps k
def ordY (a b : Pt) : Int := sg (a.2 - b.2)
def minS (x m : Pt) : Bool := decide (ord x m < 0)
def maxS (x m : Pt) : Bool := decide (0 < ord x m)
def minY (x m : Pt) : Bool := decide (ordY x m < 0)
def maxY (x m : Pt) : Bool := decide (0 < ordY x m)
theorem byY_any (a b : Pt) (w : World) :
  Calls Tryz.prog 63 #[pt a.1 a.2, pt b.1 b.2] w (Ret w (.int .i64 (ordY a b))) := by
 have k1 := hide (fun W => Compare_any a.2 b.2 W)
 obtain ⟨a1, a2⟩ := a
 obtain ⟨b1, b2⟩ := b
 go_enter Tryz.func63, Tryz.ntmps63
 go_wp2_with (go_at_call 64; with_reducible refine crv (k1.out _) fun _ _ => ?_; dsimp only)
 go_ret
 exact Ret.mk' rfl gw
theorem minO_any (ps : List Pt) (A : Option Addr) (c : Nat) (w : World) (hr : Rd w w.heap.size 2 A (ps.map encD)) (h0 : 0 < ps.length) (hl : ps.length ≤ 100000000000000) :
  Calls Tryz.prog 61 #[.slice A ps.length c, .func (.func 28) #[] #[]] w (Ret w (pt (selTo minS ps (ps.length - 1)).1 (selTo minS ps (ps.length - 1)).2)) := by
 have hm := hmix
 have hp := cor_get h0
 obtain ⟨p, hpp⟩ : ∃ p, cor ps 0 = p := ⟨_, rfl⟩
 have HPP := hide hpp
 rw [hpp] at hp
 obtain ⟨b, off, hA, hb, g0, g1⟩ := ptAt hr hp
 rw [show off + 0 * 2 = off by omega] at g0 g1
 have hix0 := idx_run0 (cap := c) Tryz.underlying22 Tryz.sizeOf24 hA.out h0
 have hn1 : ¬ (ps.length : Int) < 1 := by omega
 have HR := hide hr
 obtain ⟨res, hres⟩ : ∃ r, selTo minS ps (ps.length - 1) = r := ⟨_, rfl⟩
 rw [hres]
 have HRES := hide hres
 obtain ⟨p1, p2⟩ := p
 dsimp only at g0 g1
 clear hr hp hpp hres
 go_enter Tryz.func61, Tryz.ntmps61
 go_wp2_with fail
 refine wp_name ?_
 intro W0 hW
 have hg0 : Grew w W0 := by rw [← hW]; exact gw
 have hb0 : W0.heap[w.heap.size + 1]? = some (.cells #[.int .i64 p1, .int .i64 p2] 24 (0, 0)) := by rw [← hW]; exact heap_alloc_at _ _ _ (by simp)
 have hz0 : W0.heap.size = w.heap.size + 2 := by rw [← hW]; simp
 have hb9 : W0.heap[w.heap.size]? = some (.cells #[.int .i64 0, .int .i64 0] 24 (0, 0)) := by
  rw [← hW]
  exact (heap_alloc_old _ _ (by simp)).trans (heap_alloc_new _ _)
 have HG0 := hide hg0
 have HB0 := hide hb0
 have HB9 := hide hb9
 clear hW hg0 hb0 hb9 hix0 g0 g1 hA hb
 go_loopw [6] (fun i wr => ∃ k : Nat, 1 ≤ k ∧ k ≤ ps.length ∧ i = .int .i64 k ∧ W0.grownBy wr (some (w.heap.size + 1)) ∧ wr.heap[w.heap.size + 1]? = some (.cells #[.int .i64 (selTo minS ps (k - 1)).1, .int .i64 (selTo minS ps (k - 1)).2] 24 (0, 0))) (fun i _ => ps.length - (intOf i).toNat)
 case atStart => exact ⟨1, Nat.le_refl _, by omega, rfl, gb_refl _ _, by rw [show selTo minS ps (1 - 1) = (p1, p2) from HPP.out]; exact HB0.out⟩
 case round =>
  obtain ⟨k, hk1, hk, rfl, hgr, hbx⟩ := hrel
  have hz := hgr.size
  have hwr : Below w.heap.size w wr := HG0.out.below.grown hgr HG0.out.below.size (fun j e => by cases e; omega)
  have hrd := HR.out.below hwr
  obtain ⟨m, hm0⟩ : ∃ m, selTo minS ps (k - 1) = m := ⟨_, rfl⟩
  have c0 := blk_cell hbx 0
  have c1 := blk_cell hbx 1
  have f0 := blk_frozen hbx 0
  have f1 := blk_frozen hbx 1
  have lb := blk_lt hbx
  have HGR := hide hgr
  have HWR := hide hwr
  by_cases hlt : k < ps.length
  ·have hp := cor_get hlt
   have hst : selTo minS ps (k + 1 - 1) = if minS (cor ps k) m = true then cor ps k else m := by
    rw [← hm0, show k + 1 - 1 = (k - 1) + 1 by omega]
    show (if minS (cor ps (k - 1 + 1)) (selTo minS ps (k - 1)) = true then cor ps (k - 1 + 1) else selTo minS ps (k - 1)) = _
    rw [show k - 1 + 1 = k by omega]
   obtain ⟨x, hx⟩ : ∃ x, cor ps k = x := ⟨_, rfl⟩
   rw [hm0] at hbx c0 c1
   rw [hx] at hp hst
   obtain ⟨b, off, hA, hb, g0, g1⟩ := ptAt hrd hp
   have hix := idx_run (cap := c) Tryz.underlying22 Tryz.sizeOf24 hA.out hlt
   have lbb : b < wr.heap.size := by omega
   have hne : ¬ b = w.heap.size + 1 := by omega
   have kc := hide (fun W => order_any x m W)
   obtain ⟨x1, x2⟩ := x
   obtain ⟨m1, m2⟩ := m
   dsimp only at g0 g1 c0 c1 kc
   have HBX := hide hbx
   have HST := hide hst
   clear hp hx hm0 hrd hwr hgr hbx hst
   obtain ⟨cv, hcv⟩ : ∃ v, minS (x1, x2) (m1, m2) = v := ⟨_, rfl⟩
   have hcv2 := hcv
   unfold minS at hcv2
   rw [hcv] at HST
   clear hcv
   cases cv
   ·simp only [decide_eq_false_iff_not] at hcv2
    rw [if_neg (by simp)] at HST
    go_wp2_with fail
    refine wp_region_qas 8 [] [] hm (h := ?_)
    repeat (refine wpSteady_step (fun K hK => ?_); go_simp; first | (refine hK _ ?_; clear hK K) | (apply Exists.intro; refine ⟨fun _ => ?_, hK _ ?_⟩; (go_at_call 28; with_reducible exact kc.out _); clear hK K))
    refine rq0 fun nq osq => ?_
    try simp only [Act.put, setA]
    try dsimp only
    go_wp2_with fail
    go_roundw
    case rel => exact ⟨k + 1, by omega, by omega, by go_num, gb_grow HGR.out _ _, by rw [HST.out]; exact (heap_grow_old _ _ (by simpa [hs_dr] using lb)).trans HBX.out⟩
    case measure => simp [intOf]; omega
   ·simp only [decide_eq_true_eq] at hcv2
    rw [if_pos rfl] at HST
    go_wp2_with fail
    refine wp_region_qas 8 [] [] hm (h := ?_)
    repeat (refine wpSteady_step (fun K hK => ?_); go_simp; first | (refine hK _ ?_; clear hK K) | (apply Exists.intro; refine ⟨fun _ => ?_, hK _ ?_⟩; (go_at_call 28; with_reducible exact kc.out _); clear hK K))
    refine rq0 fun nq osq => ?_
    try simp only [Act.put, setA]
    try dsimp only
    go_wp2_with fail
    go_roundw
    case rel => exact ⟨k + 1, by omega, by omega, by go_num, gb_grow (gb_row (gb_row HGR.out _ _) _ _) _ _, by rw [HST.out]; exact (heap_grow_old _ _ (by simpa [hs_dr] using lb)).trans (set2_at HBX.out)⟩
    case measure => simp [intOf]; omega
  ·obtain rfl : k = ps.length := by omega
   rw [HRES.out] at hbx c0 c1
   have hb9 := (hgr.block w.heap.size (by omega) (by simp)).trans HB9.out
   have r0 := blk_cell hb9 0
   have r1 := blk_cell hb9 1
   have rf0 := blk_frozen hb9 0
   have rf1 := blk_frozen hb9 1
   have lr := blk_lt hb9
   obtain ⟨z1, z2⟩ := res
   dsimp only at c0 c1
   have e1 : (wr.setCell ⟨w.heap.size, 0, none⟩ (.int .i64 z1)).cell? ⟨w.heap.size, 0, none⟩ = some (.int .i64 z1) := by rw [World.cell?_setCell_same' _ _ _ (by rw [r0]; rfl)]
   have e2 : ((wr.setCell ⟨w.heap.size, 0, none⟩ (.int .i64 z1)).setCell ⟨w.heap.size, 1, none⟩ (.int .i64 z2)).cell? ⟨w.heap.size, 1, none⟩ = some (.int .i64 z2) := blk_cell (set2_at hb9) 1
   clear hbx hgr hwr hrd hb9 hm0
   go_wp2_with fail
   refine bodyPost_ret (v := pt z1 z2) (by simp [results, Tryz.results61, go_sem, e1, e2]) rfl ?_
   exact Ret.mk' rfl (Grew.of_below ((HWR.out.setCell (p := ⟨w.heap.size, 0, none⟩) (Nat.le_refl _) _).setCell (p := ⟨w.heap.size, 1, none⟩) (Nat.le_refl _) _))
theorem maxO_any (ps : List Pt) (A : Option Addr) (c : Nat) (w : World) (hr : Rd w w.heap.size 2 A (ps.map encD)) (h0 : 0 < ps.length) (hl : ps.length ≤ 100000000000000) :
  Calls Tryz.prog 62 #[.slice A ps.length c, .func (.func 28) #[] #[]] w (Ret w (pt (selTo maxS ps (ps.length - 1)).1 (selTo maxS ps (ps.length - 1)).2)) := by
 have hm := hmix
 have hp := cor_get h0
 obtain ⟨p, hpp⟩ : ∃ p, cor ps 0 = p := ⟨_, rfl⟩
 have HPP := hide hpp
 rw [hpp] at hp
 obtain ⟨b, off, hA, hb, g0, g1⟩ := ptAt hr hp
 rw [show off + 0 * 2 = off by omega] at g0 g1
 have hix0 := idx_run0 (cap := c) Tryz.underlying22 Tryz.sizeOf24 hA.out h0
 have hn1 : ¬ (ps.length : Int) < 1 := by omega
 have HR := hide hr
 obtain ⟨res, hres⟩ : ∃ r, selTo maxS ps (ps.length - 1) = r := ⟨_, rfl⟩
 rw [hres]
 have HRES := hide hres
 obtain ⟨p1, p2⟩ := p
 dsimp only at g0 g1
 clear hr hp hpp hres
 go_enter Tryz.func62, Tryz.ntmps62
 go_wp2_with fail
 refine wp_name ?_
 intro W0 hW
 have hg0 : Grew w W0 := by rw [← hW]; exact gw
 have hb0 : W0.heap[w.heap.size + 1]? = some (.cells #[.int .i64 p1, .int .i64 p2] 24 (0, 0)) := by rw [← hW]; exact heap_alloc_at _ _ _ (by simp)
 have hz0 : W0.heap.size = w.heap.size + 2 := by rw [← hW]; simp
 have hb9 : W0.heap[w.heap.size]? = some (.cells #[.int .i64 0, .int .i64 0] 24 (0, 0)) := by
  rw [← hW]
  exact (heap_alloc_old _ _ (by simp)).trans (heap_alloc_new _ _)
 have HG0 := hide hg0
 have HB0 := hide hb0
 have HB9 := hide hb9
 clear hW hg0 hb0 hb9 hix0 g0 g1 hA hb
 go_loopw [6] (fun i wr => ∃ k : Nat, 1 ≤ k ∧ k ≤ ps.length ∧ i = .int .i64 k ∧ W0.grownBy wr (some (w.heap.size + 1)) ∧ wr.heap[w.heap.size + 1]? = some (.cells #[.int .i64 (selTo maxS ps (k - 1)).1, .int .i64 (selTo maxS ps (k - 1)).2] 24 (0, 0))) (fun i _ => ps.length - (intOf i).toNat)
 case atStart => exact ⟨1, Nat.le_refl _, by omega, rfl, gb_refl _ _, by rw [show selTo maxS ps (1 - 1) = (p1, p2) from HPP.out]; exact HB0.out⟩
 case round =>
  obtain ⟨k, hk1, hk, rfl, hgr, hbx⟩ := hrel
  have hz := hgr.size
  have hwr : Below w.heap.size w wr := HG0.out.below.grown hgr HG0.out.below.size (fun j e => by cases e; omega)
  have hrd := HR.out.below hwr
  obtain ⟨m, hm0⟩ : ∃ m, selTo maxS ps (k - 1) = m := ⟨_, rfl⟩
  have c0 := blk_cell hbx 0
  have c1 := blk_cell hbx 1
  have f0 := blk_frozen hbx 0
  have f1 := blk_frozen hbx 1
  have lb := blk_lt hbx
  have HGR := hide hgr
  have HWR := hide hwr
  by_cases hlt : k < ps.length
  ·have hp := cor_get hlt
   have hst : selTo maxS ps (k + 1 - 1) = if maxS (cor ps k) m = true then cor ps k else m := by
    rw [← hm0, show k + 1 - 1 = (k - 1) + 1 by omega]
    show (if maxS (cor ps (k - 1 + 1)) (selTo maxS ps (k - 1)) = true then cor ps (k - 1 + 1) else selTo maxS ps (k - 1)) = _
    rw [show k - 1 + 1 = k by omega]
   obtain ⟨x, hx⟩ : ∃ x, cor ps k = x := ⟨_, rfl⟩
   rw [hm0] at hbx c0 c1
   rw [hx] at hp hst
   obtain ⟨b, off, hA, hb, g0, g1⟩ := ptAt hrd hp
   have hix := idx_run (cap := c) Tryz.underlying22 Tryz.sizeOf24 hA.out hlt
   have lbb : b < wr.heap.size := by omega
   have hne : ¬ b = w.heap.size + 1 := by omega
   have kc := hide (fun W => order_any x m W)
   obtain ⟨x1, x2⟩ := x
   obtain ⟨m1, m2⟩ := m
   dsimp only at g0 g1 c0 c1 kc
   have HBX := hide hbx
   have HST := hide hst
   clear hp hx hm0 hrd hwr hgr hbx hst
   obtain ⟨cv, hcv⟩ : ∃ v, maxS (x1, x2) (m1, m2) = v := ⟨_, rfl⟩
   have hcv2 := hcv
   unfold maxS at hcv2
   rw [hcv] at HST
   clear hcv
   cases cv
   ·simp only [decide_eq_false_iff_not] at hcv2
    rw [if_neg (by simp)] at HST
    go_wp2_with fail
    refine wp_region_qas 8 [] [] hm (h := ?_)
    repeat (refine wpSteady_step (fun K hK => ?_); go_simp; first | (refine hK _ ?_; clear hK K) | (apply Exists.intro; refine ⟨fun _ => ?_, hK _ ?_⟩; (go_at_call 28; with_reducible exact kc.out _); clear hK K))
    refine rq0 fun nq osq => ?_
    try simp only [Act.put, setA]
    try dsimp only
    go_wp2_with fail
    go_roundw
    case rel => exact ⟨k + 1, by omega, by omega, by go_num, gb_grow HGR.out _ _, by rw [HST.out]; exact (heap_grow_old _ _ (by simpa [hs_dr] using lb)).trans HBX.out⟩
    case measure => simp [intOf]; omega
   ·simp only [decide_eq_true_eq] at hcv2
    rw [if_pos rfl] at HST
    go_wp2_with fail
    refine wp_region_qas 8 [] [] hm (h := ?_)
    repeat (refine wpSteady_step (fun K hK => ?_); go_simp; first | (refine hK _ ?_; clear hK K) | (apply Exists.intro; refine ⟨fun _ => ?_, hK _ ?_⟩; (go_at_call 28; with_reducible exact kc.out _); clear hK K))
    refine rq0 fun nq osq => ?_
    try simp only [Act.put, setA]
    try dsimp only
    go_wp2_with fail
    go_roundw
    case rel => exact ⟨k + 1, by omega, by omega, by go_num, gb_grow (gb_row (gb_row HGR.out _ _) _ _) _ _, by rw [HST.out]; exact (heap_grow_old _ _ (by simpa [hs_dr] using lb)).trans (set2_at HBX.out)⟩
    case measure => simp [intOf]; omega
  ·obtain rfl : k = ps.length := by omega
   rw [HRES.out] at hbx c0 c1
   have hb9 := (hgr.block w.heap.size (by omega) (by simp)).trans HB9.out
   have r0 := blk_cell hb9 0
   have r1 := blk_cell hb9 1
   have rf0 := blk_frozen hb9 0
   have rf1 := blk_frozen hb9 1
   have lr := blk_lt hb9
   obtain ⟨z1, z2⟩ := res
   dsimp only at c0 c1
   have e1 : (wr.setCell ⟨w.heap.size, 0, none⟩ (.int .i64 z1)).cell? ⟨w.heap.size, 0, none⟩ = some (.int .i64 z1) := by rw [World.cell?_setCell_same' _ _ _ (by rw [r0]; rfl)]
   have e2 : ((wr.setCell ⟨w.heap.size, 0, none⟩ (.int .i64 z1)).setCell ⟨w.heap.size, 1, none⟩ (.int .i64 z2)).cell? ⟨w.heap.size, 1, none⟩ = some (.int .i64 z2) := blk_cell (set2_at hb9) 1
   clear hbx hgr hwr hrd hb9 hm0
   go_wp2_with fail
   refine bodyPost_ret (v := pt z1 z2) (by simp [results, Tryz.results62, go_sem, e1, e2]) rfl ?_
   exact Ret.mk' rfl (Grew.of_below ((HWR.out.setCell (p := ⟨w.heap.size, 0, none⟩) (Nat.le_refl _) _).setCell (p := ⟨w.heap.size, 1, none⟩) (Nat.le_refl _) _))
theorem minY_any (ps : List Pt) (A : Option Addr) (c : Nat) (w : World) (hr : Rd w w.heap.size 2 A (ps.map encD)) (h0 : 0 < ps.length) (hl : ps.length ≤ 100000000000000) :
  Calls Tryz.prog 61 #[.slice A ps.length c, .func (.func 63) #[] #[]] w (Ret w (pt (selTo minY ps (ps.length - 1)).1 (selTo minY ps (ps.length - 1)).2)) := by
 have hm := hmix
 have hp := cor_get h0
 obtain ⟨p, hpp⟩ : ∃ p, cor ps 0 = p := ⟨_, rfl⟩
 have HPP := hide hpp
 rw [hpp] at hp
 obtain ⟨b, off, hA, hb, g0, g1⟩ := ptAt hr hp
 rw [show off + 0 * 2 = off by omega] at g0 g1
 have hix0 := idx_run0 (cap := c) Tryz.underlying22 Tryz.sizeOf24 hA.out h0
 have hn1 : ¬ (ps.length : Int) < 1 := by omega
 have HR := hide hr
 obtain ⟨res, hres⟩ : ∃ r, selTo minY ps (ps.length - 1) = r := ⟨_, rfl⟩
 rw [hres]
 have HRES := hide hres
 obtain ⟨p1, p2⟩ := p
 dsimp only at g0 g1
 clear hr hp hpp hres
 go_enter Tryz.func61, Tryz.ntmps61
 go_wp2_with fail
 refine wp_name ?_
 intro W0 hW
 have hg0 : Grew w W0 := by rw [← hW]; exact gw
 have hb0 : W0.heap[w.heap.size + 1]? = some (.cells #[.int .i64 p1, .int .i64 p2] 24 (0, 0)) := by rw [← hW]; exact heap_alloc_at _ _ _ (by simp)
 have hz0 : W0.heap.size = w.heap.size + 2 := by rw [← hW]; simp
 have hb9 : W0.heap[w.heap.size]? = some (.cells #[.int .i64 0, .int .i64 0] 24 (0, 0)) := by
  rw [← hW]
  exact (heap_alloc_old _ _ (by simp)).trans (heap_alloc_new _ _)
 have HG0 := hide hg0
 have HB0 := hide hb0
 have HB9 := hide hb9
 clear hW hg0 hb0 hb9 hix0 g0 g1 hA hb
 go_loopw [6] (fun i wr => ∃ k : Nat, 1 ≤ k ∧ k ≤ ps.length ∧ i = .int .i64 k ∧ W0.grownBy wr (some (w.heap.size + 1)) ∧ wr.heap[w.heap.size + 1]? = some (.cells #[.int .i64 (selTo minY ps (k - 1)).1, .int .i64 (selTo minY ps (k - 1)).2] 24 (0, 0))) (fun i _ => ps.length - (intOf i).toNat)
 case atStart => exact ⟨1, Nat.le_refl _, by omega, rfl, gb_refl _ _, by rw [show selTo minY ps (1 - 1) = (p1, p2) from HPP.out]; exact HB0.out⟩
 case round =>
  obtain ⟨k, hk1, hk, rfl, hgr, hbx⟩ := hrel
  have hz := hgr.size
  have hwr : Below w.heap.size w wr := HG0.out.below.grown hgr HG0.out.below.size (fun j e => by cases e; omega)
  have hrd := HR.out.below hwr
  obtain ⟨m, hm0⟩ : ∃ m, selTo minY ps (k - 1) = m := ⟨_, rfl⟩
  have c0 := blk_cell hbx 0
  have c1 := blk_cell hbx 1
  have f0 := blk_frozen hbx 0
  have f1 := blk_frozen hbx 1
  have lb := blk_lt hbx
  have HGR := hide hgr
  have HWR := hide hwr
  by_cases hlt : k < ps.length
  ·have hp := cor_get hlt
   have hst : selTo minY ps (k + 1 - 1) = if minY (cor ps k) m = true then cor ps k else m := by
    rw [← hm0, show k + 1 - 1 = (k - 1) + 1 by omega]
    show (if minY (cor ps (k - 1 + 1)) (selTo minY ps (k - 1)) = true then cor ps (k - 1 + 1) else selTo minY ps (k - 1)) = _
    rw [show k - 1 + 1 = k by omega]
   obtain ⟨x, hx⟩ : ∃ x, cor ps k = x := ⟨_, rfl⟩
   rw [hm0] at hbx c0 c1
   rw [hx] at hp hst
   obtain ⟨b, off, hA, hb, g0, g1⟩ := ptAt hrd hp
   have hix := idx_run (cap := c) Tryz.underlying22 Tryz.sizeOf24 hA.out hlt
   have lbb : b < wr.heap.size := by omega
   have hne : ¬ b = w.heap.size + 1 := by omega
   have kc := hide (fun W => byY_any x m W)
   obtain ⟨x1, x2⟩ := x
   obtain ⟨m1, m2⟩ := m
   dsimp only at g0 g1 c0 c1 kc
   have HBX := hide hbx
   have HST := hide hst
   clear hp hx hm0 hrd hwr hgr hbx hst
   obtain ⟨cv, hcv⟩ : ∃ v, minY (x1, x2) (m1, m2) = v := ⟨_, rfl⟩
   have hcv2 := hcv
   unfold minY at hcv2
   rw [hcv] at HST
   clear hcv
   cases cv
   ·simp only [decide_eq_false_iff_not] at hcv2
    rw [if_neg (by simp)] at HST
    go_wp2_with fail
    refine wp_region_qas 8 [] [] hm (h := ?_)
    repeat (refine wpSteady_step (fun K hK => ?_); go_simp; first | (refine hK _ ?_; clear hK K) | (apply Exists.intro; refine ⟨fun _ => ?_, hK _ ?_⟩; (go_at_call 63; with_reducible exact kc.out _); clear hK K))
    refine rq0 fun nq osq => ?_
    try simp only [Act.put, setA]
    try dsimp only
    go_wp2_with fail
    go_roundw
    case rel => exact ⟨k + 1, by omega, by omega, by go_num, gb_grow HGR.out _ _, by rw [HST.out]; exact (heap_grow_old _ _ (by simpa [hs_dr] using lb)).trans HBX.out⟩
    case measure => simp [intOf]; omega
   ·simp only [decide_eq_true_eq] at hcv2
    rw [if_pos rfl] at HST
    go_wp2_with fail
    refine wp_region_qas 8 [] [] hm (h := ?_)
    repeat (refine wpSteady_step (fun K hK => ?_); go_simp; first | (refine hK _ ?_; clear hK K) | (apply Exists.intro; refine ⟨fun _ => ?_, hK _ ?_⟩; (go_at_call 63; with_reducible exact kc.out _); clear hK K))
    refine rq0 fun nq osq => ?_
    try simp only [Act.put, setA]
    try dsimp only
    go_wp2_with fail
    go_roundw
    case rel => exact ⟨k + 1, by omega, by omega, by go_num, gb_grow (gb_row (gb_row HGR.out _ _) _ _) _ _, by rw [HST.out]; exact (heap_grow_old _ _ (by simpa [hs_dr] using lb)).trans (set2_at HBX.out)⟩
    case measure => simp [intOf]; omega
  ·obtain rfl : k = ps.length := by omega
   rw [HRES.out] at hbx c0 c1
   have hb9 := (hgr.block w.heap.size (by omega) (by simp)).trans HB9.out
   have r0 := blk_cell hb9 0
   have r1 := blk_cell hb9 1
   have rf0 := blk_frozen hb9 0
   have rf1 := blk_frozen hb9 1
   have lr := blk_lt hb9
   obtain ⟨z1, z2⟩ := res
   dsimp only at c0 c1
   have e1 : (wr.setCell ⟨w.heap.size, 0, none⟩ (.int .i64 z1)).cell? ⟨w.heap.size, 0, none⟩ = some (.int .i64 z1) := by rw [World.cell?_setCell_same' _ _ _ (by rw [r0]; rfl)]
   have e2 : ((wr.setCell ⟨w.heap.size, 0, none⟩ (.int .i64 z1)).setCell ⟨w.heap.size, 1, none⟩ (.int .i64 z2)).cell? ⟨w.heap.size, 1, none⟩ = some (.int .i64 z2) := blk_cell (set2_at hb9) 1
   clear hbx hgr hwr hrd hb9 hm0
   go_wp2_with fail
   refine bodyPost_ret (v := pt z1 z2) (by simp [results, Tryz.results61, go_sem, e1, e2]) rfl ?_
   exact Ret.mk' rfl (Grew.of_below ((HWR.out.setCell (p := ⟨w.heap.size, 0, none⟩) (Nat.le_refl _) _).setCell (p := ⟨w.heap.size, 1, none⟩) (Nat.le_refl _) _))
theorem maxY_any (ps : List Pt) (A : Option Addr) (c : Nat) (w : World) (hr : Rd w w.heap.size 2 A (ps.map encD)) (h0 : 0 < ps.length) (hl : ps.length ≤ 100000000000000) :
  Calls Tryz.prog 62 #[.slice A ps.length c, .func (.func 63) #[] #[]] w (Ret w (pt (selTo maxY ps (ps.length - 1)).1 (selTo maxY ps (ps.length - 1)).2)) := by
 have hm := hmix
 have hp := cor_get h0
 obtain ⟨p, hpp⟩ : ∃ p, cor ps 0 = p := ⟨_, rfl⟩
 have HPP := hide hpp
 rw [hpp] at hp
 obtain ⟨b, off, hA, hb, g0, g1⟩ := ptAt hr hp
 rw [show off + 0 * 2 = off by omega] at g0 g1
 have hix0 := idx_run0 (cap := c) Tryz.underlying22 Tryz.sizeOf24 hA.out h0
 have hn1 : ¬ (ps.length : Int) < 1 := by omega
 have HR := hide hr
 obtain ⟨res, hres⟩ : ∃ r, selTo maxY ps (ps.length - 1) = r := ⟨_, rfl⟩
 rw [hres]
 have HRES := hide hres
 obtain ⟨p1, p2⟩ := p
 dsimp only at g0 g1
 clear hr hp hpp hres
 go_enter Tryz.func62, Tryz.ntmps62
 go_wp2_with fail
 refine wp_name ?_
 intro W0 hW
 have hg0 : Grew w W0 := by rw [← hW]; exact gw
 have hb0 : W0.heap[w.heap.size + 1]? = some (.cells #[.int .i64 p1, .int .i64 p2] 24 (0, 0)) := by rw [← hW]; exact heap_alloc_at _ _ _ (by simp)
 have hz0 : W0.heap.size = w.heap.size + 2 := by rw [← hW]; simp
 have hb9 : W0.heap[w.heap.size]? = some (.cells #[.int .i64 0, .int .i64 0] 24 (0, 0)) := by
  rw [← hW]
  exact (heap_alloc_old _ _ (by simp)).trans (heap_alloc_new _ _)
 have HG0 := hide hg0
 have HB0 := hide hb0
 have HB9 := hide hb9
 clear hW hg0 hb0 hb9 hix0 g0 g1 hA hb
 go_loopw [6] (fun i wr => ∃ k : Nat, 1 ≤ k ∧ k ≤ ps.length ∧ i = .int .i64 k ∧ W0.grownBy wr (some (w.heap.size + 1)) ∧ wr.heap[w.heap.size + 1]? = some (.cells #[.int .i64 (selTo maxY ps (k - 1)).1, .int .i64 (selTo maxY ps (k - 1)).2] 24 (0, 0))) (fun i _ => ps.length - (intOf i).toNat)
 case atStart => exact ⟨1, Nat.le_refl _, by omega, rfl, gb_refl _ _, by rw [show selTo maxY ps (1 - 1) = (p1, p2) from HPP.out]; exact HB0.out⟩
 case round =>
  obtain ⟨k, hk1, hk, rfl, hgr, hbx⟩ := hrel
  have hz := hgr.size
  have hwr : Below w.heap.size w wr := HG0.out.below.grown hgr HG0.out.below.size (fun j e => by cases e; omega)
  have hrd := HR.out.below hwr
  obtain ⟨m, hm0⟩ : ∃ m, selTo maxY ps (k - 1) = m := ⟨_, rfl⟩
  have c0 := blk_cell hbx 0
  have c1 := blk_cell hbx 1
  have f0 := blk_frozen hbx 0
  have f1 := blk_frozen hbx 1
  have lb := blk_lt hbx
  have HGR := hide hgr
  have HWR := hide hwr
  by_cases hlt : k < ps.length
  ·have hp := cor_get hlt
   have hst : selTo maxY ps (k + 1 - 1) = if maxY (cor ps k) m = true then cor ps k else m := by
    rw [← hm0, show k + 1 - 1 = (k - 1) + 1 by omega]
    show (if maxY (cor ps (k - 1 + 1)) (selTo maxY ps (k - 1)) = true then cor ps (k - 1 + 1) else selTo maxY ps (k - 1)) = _
    rw [show k - 1 + 1 = k by omega]
   obtain ⟨x, hx⟩ : ∃ x, cor ps k = x := ⟨_, rfl⟩
   rw [hm0] at hbx c0 c1
   rw [hx] at hp hst
   obtain ⟨b, off, hA, hb, g0, g1⟩ := ptAt hrd hp
   have hix := idx_run (cap := c) Tryz.underlying22 Tryz.sizeOf24 hA.out hlt
   have lbb : b < wr.heap.size := by omega
   have hne : ¬ b = w.heap.size + 1 := by omega
   have kc := hide (fun W => byY_any x m W)
   obtain ⟨x1, x2⟩ := x
   obtain ⟨m1, m2⟩ := m
   dsimp only at g0 g1 c0 c1 kc
   have HBX := hide hbx
   have HST := hide hst
   clear hp hx hm0 hrd hwr hgr hbx hst
   obtain ⟨cv, hcv⟩ : ∃ v, maxY (x1, x2) (m1, m2) = v := ⟨_, rfl⟩
   have hcv2 := hcv
   unfold maxY at hcv2
   rw [hcv] at HST
   clear hcv
   cases cv
   ·simp only [decide_eq_false_iff_not] at hcv2
    rw [if_neg (by simp)] at HST
    go_wp2_with fail
    refine wp_region_qas 8 [] [] hm (h := ?_)
    repeat (refine wpSteady_step (fun K hK => ?_); go_simp; first | (refine hK _ ?_; clear hK K) | (apply Exists.intro; refine ⟨fun _ => ?_, hK _ ?_⟩; (go_at_call 63; with_reducible exact kc.out _); clear hK K))
    refine rq0 fun nq osq => ?_
    try simp only [Act.put, setA]
    try dsimp only
    go_wp2_with fail
    go_roundw
    case rel => exact ⟨k + 1, by omega, by omega, by go_num, gb_grow HGR.out _ _, by rw [HST.out]; exact (heap_grow_old _ _ (by simpa [hs_dr] using lb)).trans HBX.out⟩
    case measure => simp [intOf]; omega
   ·simp only [decide_eq_true_eq] at hcv2
    rw [if_pos rfl] at HST
    go_wp2_with fail
    refine wp_region_qas 8 [] [] hm (h := ?_)
    repeat (refine wpSteady_step (fun K hK => ?_); go_simp; first | (refine hK _ ?_; clear hK K) | (apply Exists.intro; refine ⟨fun _ => ?_, hK _ ?_⟩; (go_at_call 63; with_reducible exact kc.out _); clear hK K))
    refine rq0 fun nq osq => ?_
    try simp only [Act.put, setA]
    try dsimp only
    go_wp2_with fail
    go_roundw
    case rel => exact ⟨k + 1, by omega, by omega, by go_num, gb_grow (gb_row (gb_row HGR.out _ _) _ _) _ _, by rw [HST.out]; exact (heap_grow_old _ _ (by simpa [hs_dr] using lb)).trans (set2_at HBX.out)⟩
    case measure => simp [intOf]; omega
  ·obtain rfl : k = ps.length := by omega
   rw [HRES.out] at hbx c0 c1
   have hb9 := (hgr.block w.heap.size (by omega) (by simp)).trans HB9.out
   have r0 := blk_cell hb9 0
   have r1 := blk_cell hb9 1
   have rf0 := blk_frozen hb9 0
   have rf1 := blk_frozen hb9 1
   have lr := blk_lt hb9
   obtain ⟨z1, z2⟩ := res
   dsimp only at c0 c1
   have e1 : (wr.setCell ⟨w.heap.size, 0, none⟩ (.int .i64 z1)).cell? ⟨w.heap.size, 0, none⟩ = some (.int .i64 z1) := by rw [World.cell?_setCell_same' _ _ _ (by rw [r0]; rfl)]
   have e2 : ((wr.setCell ⟨w.heap.size, 0, none⟩ (.int .i64 z1)).setCell ⟨w.heap.size, 1, none⟩ (.int .i64 z2)).cell? ⟨w.heap.size, 1, none⟩ = some (.int .i64 z2) := blk_cell (set2_at hb9) 1
   clear hbx hgr hwr hrd hb9 hm0
   go_wp2_with fail
   refine bodyPost_ret (v := pt z1 z2) (by simp [results, Tryz.results62, go_sem, e1, e2]) rfl ?_
   exact Ret.mk' rfl (Grew.of_below ((HWR.out.setCell (p := ⟨w.heap.size, 0, none⟩) (Nat.le_refl _) _).setCell (p := ⟨w.heap.size, 1, none⟩) (Nat.le_refl _) _))
end Go.Proofs.YtndkfpmklmcjjaaGreat
namespace Go.Proofs.YtndkfpmklmcjjaaGreat
open Go.RowKit Go.Sort
attribute [local go_sem] Steady steadyUpon
attribute [local go_sem ↓] hs_dr lt_add_r lt_add_r2 lt_add_r3 lt_add_r4 lt_add_r5 lt_add_r6
attribute [local go_sem] cell?_gd frozen?_gd setCell_gd size_grow tape_grow cell?_grow' frozen?_grow' setCell_grow' grow_grow grow_dr grow_drew dr_dr dr_drew drew_dr dr_alloc dr_setCell dr_cell dr_frozen dr_tape dr_drawn
attribute [local irreducible] wpSteady
/-- A span is a pair of integers; a box is a pair of spans. -/
abbrev B4 := (Int × Int) × (Int × Int)
abbrev bxv (b : B4) : Value := .agg #[.int .i64 b.1.1, .int .i64 b.1.2, .int .i64 b.2.1, .int .i64 b.2.2]
def vS (s : Int × Int) : Bool := decide (-1000000000000 ≤ s.1 ∧ s.1 ≤ s.2 ∧ s.2 ≤ 1000000000000)
theorem spanValid_v (a b : Int) (r : Bool) (w : World) (h : vS (a, b) = r) :
  Calls Tryz.prog 123 #[pt a b] w (Ret w (.bool r)) := by
 have hm := hmix
 have hcase : (r = false ∧ ¬ -1000000000000 ≤ a) ∨ (r = false ∧ -1000000000000 ≤ a ∧ ¬ a ≤ b) ∨ (-1000000000000 ≤ a ∧ a ≤ b ∧ r = decide (b ≤ 1000000000000)) := by
  rw [← h]
  unfold vS
  by_cases h1 : -1000000000000 ≤ a
  ·by_cases h2 : a ≤ b
   ·exact .inr (.inr ⟨h1, h2, by simp [h1, h2]⟩)
   ·exact .inr (.inl ⟨by simp [h2], h1, h2⟩)
  ·exact .inl ⟨by simp; omega, h1⟩
 clear h
 rcases hcase with ⟨rfl, h1⟩ | ⟨rfl, h1, h2⟩ | ⟨h1, h2, rfl⟩
 all_goals
  go_enter Tryz.func123, Tryz.ntmps123
  go_wp2_with fail
  go_ret
  exact Ret.mk' (by simp) gw
theorem ends_any (a b : Int) (w : World) :
  Calls Tryz.prog 124 #[.int .i64 a, .int .i64 b] w (Ret w (.tuple #[.int .i64 (min a b), .int .i64 (max a b)])) := by
 have hm := hmix
 go_enter Tryz.func124, Tryz.ntmps124
 go_wp2_with fail
 all_goals go_ret2
 all_goals exact Ret.mk' (by simp; omega) gw
def joinS (s t : Int × Int) : (Int × Int) × Int := if (vS s && vS t) = true then ((min s.1 t.1, max s.2 t.2), 0) else ((0, 0), 1)
theorem Join_any (s t : Int × Int) (w : World) :
  Calls Tryz.prog 117 #[pt s.1 s.2, pt t.1 t.2] w (Ret w (.tuple #[pt (joinS s t).1.1 (joinS s t).1.2, .int .i64 (joinS s t).2])) := by
 have hm := hmix
 unfold joinS
 obtain ⟨u, hu⟩ : ∃ u, vS s = u := ⟨_, rfl⟩
 obtain ⟨v, hv⟩ : ∃ u, vS t = u := ⟨_, rfl⟩
 rw [hu, hv]
 have k1 := hide (fun W => spanValid_v s.1 s.2 u W hu)
 have k2 := hide (fun W => spanValid_v t.1 t.2 v W hv)
 have k3 := hide (fun W => ends_any s.1 t.1 W)
 have k4 := hide (fun W => ends_any s.2 t.2 W)
 obtain ⟨s1, s2⟩ := s
 obtain ⟨t1, t2⟩ := t
 dsimp only at *
 generalize min s1 t1 = m1 at *
 generalize max s1 t1 = m2 at *
 generalize min s2 t2 = m3 at *
 generalize max s2 t2 = m4 at *
 clear hu hv
 cases u
 ·simp only [Bool.false_and, Bool.false_eq_true, if_false]
  go_enter Tryz.func117, Tryz.ntmps117
  go_wp2_with (go_at_call 123; with_reducible refine crv (k1.out _) fun _ _ => ?_; dsimp only)
  refine bodyPost_ret (v := .tuple #[pt 0 0, .int .i64 1]) (by simp [results, Tryz.results117, go_sem]) rfl ?_
  exact Ret.mk' rfl gw
 ·cases v
  ·simp only [Bool.true_and, Bool.false_eq_true, if_false]
   go_enter Tryz.func117, Tryz.ntmps117
   go_wp2_with ((go_at_call 123; first | with_reducible refine (k1.out _).mono ?_ | with_reducible refine (k2.out _).mono ?_); rintro e w' ⟨rfl, ⟨_, _⟩, rfl⟩; dsimp only)
   refine bodyPost_ret (v := .tuple #[pt 0 0, .int .i64 1]) (by simp [results, Tryz.results117, go_sem]) rfl ?_
   exact Ret.mk' rfl gw
  ·simp only [Bool.true_and, if_true]
   go_enter Tryz.func117, Tryz.ntmps117
   go_wp2_with (first | ((go_at_call 123; first | with_reducible refine (k1.out _).mono ?_ | with_reducible refine (k2.out _).mono ?_); rintro e w' ⟨rfl, ⟨_, _⟩, rfl⟩; dsimp only) | ((go_at_call 124; first | with_reducible refine (k3.out _).mono ?_ | with_reducible refine (k4.out _).mono ?_); rintro e w' ⟨rfl, ⟨_, _⟩, rfl⟩; dsimp only))
   refine bodyPost_ret (v := .tuple #[pt m1 m4, .int .i64 0]) (by simp [results, Tryz.results117, go_sem]) rfl ?_
   exact Ret.mk' rfl gw
def withinS (s t : Int × Int) : Bool × Int := ((joinS s t).2 == 0 && ((joinS s t).1.1 == t.1 && (joinS s t).1.2 == t.2), (joinS s t).2)
theorem Within_any (s t : Int × Int) (w : World) :
  Calls Tryz.prog 97 #[pt s.1 s.2, pt t.1 t.2] w (Ret w (.tuple #[.bool (withinS s t).1, .int .i64 (withinS s t).2])) := by
 have hm := hmix
 have k1 := hide (fun W => Join_any s t W)
 unfold withinS
 obtain ⟨⟨⟨j1, j2⟩, e⟩, hj⟩ : ∃ j, joinS s t = j := ⟨_, rfl⟩
 rw [hj] at k1 ⊢
 obtain ⟨s1, s2⟩ := s
 obtain ⟨t1, t2⟩ := t
 dsimp only at *
 clear hj
 by_cases he : e = 0
 ·subst he
  go_enter Tryz.func97, Tryz.ntmps97
  go_wp2_with (go_at_call 117; with_reducible refine crv (k1.out _) fun _ _ => ?_; dsimp only)
  all_goals go_ret2
  all_goals exact Ret.mk' (by simp [*]) gw
 ·have he' : ¬ (e == 0) = true := by simpa using he
  go_enter Tryz.func97, Tryz.ntmps97
  go_wp2_with (go_at_call 117; with_reducible refine crv (k1.out _) fun _ _ => ?_; dsimp only)
  all_goals go_ret2
  all_goals exact Ret.mk' (by simp [*]) gw
def vBox (b : B4) : Bool := (withinS b.1 (-1000000, 1000000)).2 == 0 && ((withinS b.2 (-1000000, 1000000)).2 == 0 && ((withinS b.1 (-1000000, 1000000)).1 && (withinS b.2 (-1000000, 1000000)).1))
theorem ValidBox_v (b : B4) (r : Bool) (w : World) (h : vBox b = r) :
  Calls Tryz.prog 65 #[bxv b] w (Ret w (.bool r)) := by
 have hm := hmix
 have k1 := hide (fun W => Within_any b.1 (-1000000, 1000000) W)
 have k2 := hide (fun W => Within_any b.2 (-1000000, 1000000) W)
 unfold vBox at h
 obtain ⟨⟨x, e⟩, hx⟩ : ∃ j, withinS b.1 (-1000000, 1000000) = j := ⟨_, rfl⟩
 obtain ⟨⟨y, f⟩, hy⟩ : ∃ j, withinS b.2 (-1000000, 1000000) = j := ⟨_, rfl⟩
 rw [hx] at k1 h
 rw [hy] at k2 h
 obtain ⟨⟨b1, b2⟩, ⟨b3, b4⟩⟩ := b
 dsimp only at *
 have hcase : (e ≠ 0 ∧ r = false) ∨ (e = 0 ∧ f ≠ 0 ∧ r = false) ∨ (e = 0 ∧ f = 0 ∧ x = false ∧ r = false) ∨ (e = 0 ∧ f = 0 ∧ x = true ∧ r = y) := by
  subst h
  by_cases h1 : e = 0
  ·by_cases h2 : f = 0
   ·cases x
    ·exact .inr (.inr (.inl ⟨h1, h2, rfl, by simp⟩))
    ·exact .inr (.inr (.inr ⟨h1, h2, rfl, by simp [h1, h2]⟩))
   ·exact .inr (.inl ⟨h1, h2, by simp [h2]⟩)
  ·exact .inl ⟨h1, by simp [h1]⟩
 clear h hx hy
 rcases hcase with ⟨h1, rfl⟩ | ⟨rfl, h2, rfl⟩ | ⟨rfl, rfl, rfl, rfl⟩ | ⟨rfl, rfl, rfl, rfl⟩
 ·have h1' : ¬ (e == 0) = true := by simpa using h1
  go_enter Tryz.func65, Tryz.ntmps65
  go_wp2_with ((go_at_call 97; first | with_reducible refine (k1.out _).mono ?_ | with_reducible refine (k2.out _).mono ?_); rintro e w' ⟨rfl, ⟨_, _⟩, rfl⟩; dsimp only)
  go_ret
  exact Ret.mk' (by simp) gw
 ·have h2' : ¬ (f == 0) = true := by simpa using h2
  go_enter Tryz.func65, Tryz.ntmps65
  go_wp2_with ((go_at_call 97; first | with_reducible refine (k1.out _).mono ?_ | with_reducible refine (k2.out _).mono ?_); rintro e w' ⟨rfl, ⟨_, _⟩, rfl⟩; dsimp only)
  go_ret
  exact Ret.mk' (by simp) gw
 ·go_enter Tryz.func65, Tryz.ntmps65
  go_wp2_with ((go_at_call 97; first | with_reducible refine (k1.out _).mono ?_ | with_reducible refine (k2.out _).mono ?_); rintro e w' ⟨rfl, ⟨_, _⟩, rfl⟩; dsimp only)
  go_ret
  exact Ret.mk' (by simp) gw
 ·go_enter Tryz.func65, Tryz.ntmps65
  go_wp2_with ((go_at_call 97; first | with_reducible refine (k1.out _).mono ?_ | with_reducible refine (k2.out _).mono ?_); rintro e w' ⟨rfl, ⟨_, _⟩, rfl⟩; dsimp only)
  go_ret
  exact Ret.mk' (by simp) gw
def okB (b : B4) : Bool := decide ((-1000000 ≤ b.1.1 ∧ b.1.1 ≤ b.1.2 ∧ b.1.2 ≤ 1000000) ∧ (-1000000 ≤ b.2.1 ∧ b.2.1 ≤ b.2.2 ∧ b.2.2 ≤ 1000000))
theorem withinS_all (s : Int × Int) : ((withinS s (-1000000, 1000000)).2 = 0 ∧ (withinS s (-1000000, 1000000)).1 = true) ↔ (-1000000 ≤ s.1 ∧ s.1 ≤ s.2 ∧ s.2 ≤ 1000000) := by
 unfold withinS joinS
 by_cases h : vS s = true
 ·have h9 : vS (-1000000, 1000000) = true := by decide
  rw [h, h9]
  simp [vS] at h ⊢
  omega
 ·rw [Bool.not_eq_true] at h
  rw [h]
  simp [vS] at h ⊢
  omega
theorem vBox_ok (b : B4) : vBox b = okB b := by
 rw [Bool.eq_iff_iff]
 unfold vBox okB
 rw [decide_eq_true_eq, ← withinS_all b.1, ← withinS_all b.2]
 simp only [Bool.and_eq_true, beq_iff_eq]
 constructor
 ·exact fun ⟨a, b, c, d⟩ => ⟨⟨a, c⟩, b, d⟩
 ·exact fun ⟨⟨a, c⟩, b, d⟩ => ⟨a, b, c, d⟩
theorem ValidBox_ok (b : B4) (r : Bool) (w : World) (h : okB b = r) :
  Calls Tryz.prog 65 #[bxv b] w (Ret w (.bool r)) := ValidBox_v b r w (by rw [vBox_ok, h])
end Go.Proofs.YtndkfpmklmcjjaaGreat
namespace Go.Proofs.YtndkfpmklmcjjaaGreat
open Go.RowKit Go.Sort
attribute [local go_sem] Steady steadyUpon
attribute [local go_sem ↓] hs_dr lt_add_r lt_add_r2 lt_add_r3 lt_add_r4 lt_add_r5 lt_add_r6
attribute [local go_sem] cell?_gd frozen?_gd setCell_gd size_grow tape_grow cell?_grow' frozen?_grow' setCell_grow' grow_grow grow_dr grow_drew dr_dr dr_drew drew_dr dr_alloc dr_setCell dr_cell dr_frozen dr_tape dr_drawn
attribute [local irreducible] wpSteady
def boxC (ps : List Pt) : B4 := (((selTo minS ps (ps.length - 1)).1, (selTo maxS ps (ps.length - 1)).1), ((selTo minY ps (ps.length - 1)).2, (selTo maxY ps (ps.length - 1)).2))
def boxOf (ps : List Pt) : B4 × Int := if PValid ps = true then (boxC ps, 0) else (((0, 0), (0, 0)), 1)
theorem Box_any (ps : List Pt) (A : Option Addr) (c : Nat) (w : World) (hr : Rd w w.heap.size 2 A (ps.map encD)) (hc : ps.length ≤ 100000000000000) :
  Calls Tryz.prog 20 #[.slice A ps.length c] w (Ret w (.tuple #[bxv (boxOf ps).1, .int .i64 (boxOf ps).2])) := by
 have hm := hmix
 unfold boxOf
 obtain ⟨v, hv⟩ : ∃ u, PValid ps = u := ⟨_, rfl⟩
 have k2 := hide (fun W (hg : Grew w W) => PValid_v ps A c v W (hr.up hg) hc hv)
 rw [hv]
 cases v
 ·clear hv
  rw [if_neg (by simp)]
  go_enter Tryz.func20, Tryz.ntmps20
  go_wp2_with (go_at_call 5; with_reducible refine crv (k2.out _ gw) fun _ _ => ?_; dsimp only)
  refine bodyPost_ret (v := .tuple #[bxv ((0, 0), (0, 0)), .int .i64 1]) (by simp [results, Tryz.results20, go_sem]) rfl ?_
  exact Ret.mk' rfl gw
 ·have hp := pv_parts hv
  have hl : 0 < ps.length := by omega
  have q1 := hide (fun W (hg : Grew w W) => minO_any ps A c W (hr.up hg) hl hc)
  have q2 := hide (fun W (hg : Grew w W) => maxO_any ps A c W (hr.up hg) hl hc)
  have q3 := hide (fun W (hg : Grew w W) => minY_any ps A c W (hr.up hg) hl hc)
  have q4 := hide (fun W (hg : Grew w W) => maxY_any ps A c W (hr.up hg) hl hc)
  rw [if_pos rfl]
  unfold boxC
  generalize selTo minS ps (ps.length - 1) = a at *
  generalize selTo maxS ps (ps.length - 1) = b at *
  generalize selTo minY ps (ps.length - 1) = d at *
  generalize selTo maxY ps (ps.length - 1) = e at *
  obtain ⟨a1, a2⟩ := a
  obtain ⟨b1, b2⟩ := b
  obtain ⟨d1, d2⟩ := d
  obtain ⟨e1, e2⟩ := e
  clear hp hv hr
  go_enter Tryz.func20, Tryz.ntmps20
  go_wp2_with (first | (go_at_call 5; with_reducible refine crv (k2.out _ gw) fun _ _ => ?_; dsimp only) | (go_at_call 61; (first | with_reducible refine (q1.out _ gw).mono ?_ | with_reducible refine (q3.out _ gw).mono ?_); rintro e w' ⟨rfl, ⟨_, _⟩, rfl⟩; dsimp only) | (go_at_call 62; (first | with_reducible refine (q2.out _ gw).mono ?_ | with_reducible refine (q4.out _ gw).mono ?_); rintro e w' ⟨rfl, ⟨_, _⟩, rfl⟩; dsimp only))
  refine bodyPost_ret (v := .tuple #[bxv ((a1, b1), (d2, e2)), .int .i64 0]) (by simp [results, Tryz.results20, go_sem]) rfl ?_
  exact Ret.mk' rfl gw
end Go.Proofs.YtndkfpmklmcjjaaGreat
namespace Go.Proofs.YtndkfpmklmcjjaaGreat
open Go.RowKit Go.Sort
attribute [local go_sem] Steady steadyUpon
attribute [local go_sem ↓] hs_dr lt_add_r lt_add_r2 lt_add_r3 lt_add_r4 lt_add_r5 lt_add_r6
attribute [local go_sem] cell?_gd frozen?_gd setCell_gd size_grow tape_grow cell?_grow' frozen?_grow' setCell_grow' grow_grow grow_dr grow_drew dr_dr dr_drew drew_dr dr_alloc dr_setCell dr_cell dr_frozen dr_tape dr_drawn
attribute [local irreducible] wpSteady
def rectC (b : B4) : List Pt := [(b.1.1, b.2.1), (b.1.2, b.2.1), (b.1.2, b.2.2), (b.1.1, b.2.2)]
def rectOf (b : B4) : List Pt × Int := if okB b = true then (if b.1.1 = b.1.2 ∨ b.2.1 = b.2.2 then ([], 4) else (rectC b, 0)) else ([], 1)
theorem Rect_any (b : B4) (w : World) : Calls Tryz.prog 22 #[bxv b] w (PolyR w (rectOf b)) := by
 have hm := hmix
 unfold rectOf
 obtain ⟨u, hu⟩ : ∃ u, okB b = u := ⟨_, rfl⟩
 have k1 := hide (fun W => ValidBox_ok b u W hu)
 rw [hu]
 cases u
 ·obtain ⟨⟨b1, b2⟩, ⟨b3, b4⟩⟩ := b
  rw [if_neg (by simp)]
  clear hu
  go_enter Tryz.func22, Tryz.ntmps22
  go_wp2_with (go_at_call 65; with_reducible refine crv (k1.out _) fun _ _ => ?_; dsimp only)
  go_ret2
  exact ⟨_, rfl, World.ownsRow_nil _ _ _ _, gw⟩
 ·rw [if_pos rfl]
  obtain ⟨⟨b1, b2⟩, ⟨b3, b4⟩⟩ := b
  clear hu
  dsimp only
  by_cases h1 : b1 = b2
  ·subst h1
   rw [if_pos (.inl rfl)]
   go_enter Tryz.func22, Tryz.ntmps22
   go_wp2_with (go_at_call 65; with_reducible refine crv (k1.out _) fun _ _ => ?_; dsimp only)
   go_ret2
   exact ⟨_, rfl, World.ownsRow_nil _ _ _ _, gw⟩
  ·have e1 : (b1 == b2) = false := by simpa using h1
   by_cases h2 : b3 = b4
   ·subst h2
    rw [if_pos (.inr rfl)]
    go_enter Tryz.func22, Tryz.ntmps22
    go_wp2_with (go_at_call 65; with_reducible refine crv (k1.out _) fun _ _ => ?_; dsimp only)
    go_ret2
    exact ⟨_, rfl, World.ownsRow_nil _ _ _ _, gw⟩
   ·have e2 : (b3 == b4) = false := by simpa using h2
    rw [if_neg (by omega)]
    go_enter Tryz.func22, Tryz.ntmps22
    go_wp2_with (go_at_call 65; (with_reducible refine (k1.out _).mono ?_); rintro e w' ⟨rfl, ⟨n5, os5⟩, rfl⟩; dsimp only)
    go_ret2
    have h := World.ownsRow_lit (base := w.heap.size) (e := 24) (size := 2) (grow (dr (w.alloc (.cells #[.int .i64 b1, .int .i64 b2, .int .i64 b3, .int .i64 b4] 28)) n5) os5) #[.int .i64 b1, .int .i64 b3, .int .i64 b2, .int .i64 b3, .int .i64 b2, .int .i64 b4, .int .i64 b1, .int .i64 b4] 4 (Grew.below (w := w) gw).size (by unfold maxLen; omega) rfl
    rw [size_grow, hs_dr, World.size_alloc'] at h
    exact ⟨_, rfl, h, gw⟩
end Go.Proofs.YtndkfpmklmcjjaaGreat
