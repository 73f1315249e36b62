/- The reference implementation of package poly: Box, Rect; of package span: ValidBox. -/
import Derived.Test.YtndkfpmklmcjjaaGreatRfC
set_option linter.unusedSimpArgs false
set_option linter.unusedVariables false
set_option maxHeartbeats 8000000
set_option maxRecDepth 100000
namespace Go.Proofs.YtndkfpmklmcjjaaGreat
open Go.RowKit Go.Sort
attribute [local go_sem] Steady steadyUpon
attribute [local go_sem ↓] hs_dr lt_add_r lt_add_r2 lt_add_r3 lt_add_r4 lt_add_r5 lt_add_r6
attribute [local go_sem] cell?_gd frozen?_gd setCell_gd size_grow tape_grow cell?_grow' frozen?_grow' setCell_grow' grow_grow grow_dr grow_drew dr_dr dr_drew drew_dr dr_alloc dr_setCell dr_cell dr_frozen dr_tape dr_drawn
attribute [local irreducible] wpSteady
def cdOk (a b : Int) : Bool := decide (-1000000 ≤ a ∧ a ≤ b ∧ b ≤ 1000000)
theorem p2coords_v (a b : Int) (r : Bool) (w : World) (h : cdOk a b = r) :
  Calls Tryz.prog 98 #[.agg #[.int .i64 a, .int .i64 b]] w (Ret w (.bool r)) := by
 subst h
 go_enter Tryz.func98, Tryz.ntmps98
 go_wp2
 all_goals go_ret
 all_goals refine Ret.mk' (ret_bool ?_) gw
 all_goals (rw [Bool.eq_iff_iff]; simp [cdOk]; try omega)
theorem p2ValidBox_v (b : B4) (r : Bool) (w : World) (h : okB b = r) :
  Calls Tryz.prog 66 #[bxv b] w (Ret w (.bool r)) := by
 obtain ⟨⟨a1, a2⟩, ⟨a3, a4⟩⟩ := b
 obtain ⟨x, hx⟩ : ∃ x, cdOk a1 a2 = x := ⟨_, rfl⟩
 obtain ⟨y, hy⟩ : ∃ y, cdOk a3 a4 = y := ⟨_, rfl⟩
 have e : okB ((a1, a2), (a3, a4)) = (x && y) := by rw [← hx, ← hy]; unfold okB cdOk; rw [Bool.decide_and]
 rw [e] at h
 have k1 := hide (fun W => p2coords_v a1 a2 x W hx)
 have k2 := hide (fun W => p2coords_v a3 a4 y W hy)
 clear hx hy e
 subst h
 cases x
 ·go_enter Tryz.func66, Tryz.ntmps66
  go_wp2_with (first | (go_at_call 98; with_reducible refine crv (k1.out _) fun _ _ => ?_; dsimp only) | (go_at_call 98; with_reducible refine crv (k2.out _) fun _ _ => ?_; dsimp only))
  go_ret
  exact Ret.mk' rfl gw
 ·go_enter Tryz.func66, Tryz.ntmps66
  go_wp2_with (first | (go_at_call 98; with_reducible refine crv (k1.out _) fun _ _ => ?_; dsimp only) | (go_at_call 98; with_reducible refine crv (k2.out _) fun _ _ => ?_; dsimp only))
  go_ret
  exact Ret.mk' (ret_bool (by simp)) gw
theorem p3Rect_v (b : B4) (w : World) : Calls Tryz.prog 23 #[bxv b] w (PolyR w (rectOf b)) := by
 have hm := hmix
 unfold rectOf
 obtain ⟨u, hu⟩ : ∃ u, okB b = u := ⟨_, rfl⟩
 have k1 := hide (fun W => p2ValidBox_v b u W hu)
 rw [hu]
 cases u
 ·obtain ⟨⟨b1, b2⟩, ⟨b3, b4⟩⟩ := b
  rw [if_neg (by simp)]
  clear hu
  go_enter Tryz.func23, Tryz.ntmps23
  go_wp2_with (go_at_call 66; with_reducible refine crv (k1.out _) fun _ _ => ?_; dsimp only)
  go_ret2
  exact ⟨_, rfl, World.ownsRow_nil _ _ _ _, gw⟩
 ·rw [if_pos rfl]
  obtain ⟨⟨b1, b2⟩, ⟨b3, b4⟩⟩ := b
  clear hu
  dsimp only
  by_cases h1 : b1 = b2
  ·subst h1
   rw [if_pos (.inl rfl)]
   go_enter Tryz.func23, Tryz.ntmps23
   go_wp2_with (go_at_call 66; with_reducible refine crv (k1.out _) fun _ _ => ?_; dsimp only)
   go_ret2
   exact ⟨_, rfl, World.ownsRow_nil _ _ _ _, gw⟩
  ·have e1 : (b1 == b2) = false := by simpa using h1
   by_cases h2 : b3 = b4
   ·subst h2
    rw [if_pos (.inr rfl)]
    go_enter Tryz.func23, Tryz.ntmps23
    go_wp2_with (go_at_call 66; with_reducible refine crv (k1.out _) fun _ _ => ?_; dsimp only)
    go_ret2
    exact ⟨_, rfl, World.ownsRow_nil _ _ _ _, gw⟩
   ·have e2 : (b3 == b4) = false := by simpa using h2
    rw [if_neg (by omega)]
    go_enter Tryz.func23, Tryz.ntmps23
    go_wp2_with (go_at_call 66; (with_reducible refine (k1.out _).mono ?_); rintro e w' ⟨rfl, ⟨n5, os5⟩, rfl⟩; dsimp only)
    go_ret2
    have h := World.ownsRow_lit (base := w.heap.size) (e := 24) (size := 2) (grow (dr (w.alloc (.cells #[.int .i64 b1, .int .i64 b2, .int .i64 b3, .int .i64 b4] 28)) n5) os5) #[.int .i64 b1, .int .i64 b3, .int .i64 b2, .int .i64 b3, .int .i64 b2, .int .i64 b4, .int .i64 b1, .int .i64 b4] 4 (Grew.below (w := w) gw).size (by unfold maxLen; omega) rfl
    rw [size_grow, hs_dr, World.size_alloc'] at h
    exact ⟨_, rfl, h, gw⟩
/-- The least and the greatest of the coordinates as far as a corner. -/
abbrev bxTo (ps : List Pt) (k : Nat) : B4 := (((selTo minS ps k).1, (selTo maxS ps k).1), ((selTo minY ps k).2, (selTo maxY ps k).2))
theorem sel_val {p : Pt → Pt → Bool} {ps : List Pt} {k : Nat} {f : Pt → Int} {m : Int → Int → Int} (hp : ∀ x y, (if p x y = true then f x else f y) = m (f y) (f x)) (hm : ∀ a, m a a = a) : f (selTo p ps (k + 1 - 1)) = m (f (selTo p ps (k - 1))) (f (cor ps k)) := by
 cases k with
 | zero => exact (hm _).symm
 | succ k =>
  show f (if p (cor ps (k + 1)) (selTo p ps k) = true then cor ps (k + 1) else selTo p ps k) = m (f (selTo p ps k)) (f (cor ps (k + 1)))
  rw [← hp]
  split <;> rfl
theorem lo_step (ps : List Pt) (k : Nat) : (selTo minS ps (k + 1 - 1)).1 = min (selTo minS ps (k - 1)).1 (cor ps k).1 :=
 sel_val (f := fun x => x.1) (m := min) (fun x y => by
  unfold minS
  have := @ord_neg x y
  by_cases h : ord x y < 0
  ·rw [if_pos (decide_eq_true h)]; have := this.1 h; omega
  ·rw [if_neg (by simpa using h)]; have := mt this.2 h; omega) (fun a => by omega)
theorem ord_pos3 {a b : Pt} : 0 < ord a b ↔ b.1 < a.1 ∨ (a.1 = b.1 ∧ b.2 < a.2) := by
 unfold ord
 rcases sg_cases (a.1 - b.1) with ⟨h, e⟩ | ⟨h, e⟩ | ⟨h, e⟩ <;> rw [e] <;> rcases sg_cases (a.2 - b.2) with ⟨h', e'⟩ | ⟨h', e'⟩ | ⟨h', e'⟩ <;> (try rw [e']) <;> simp <;> omega
theorem hi_step (ps : List Pt) (k : Nat) : (selTo maxS ps (k + 1 - 1)).1 = max (selTo maxS ps (k - 1)).1 (cor ps k).1 :=
 sel_val (f := fun x => x.1) (m := max) (fun x y => by
  unfold maxS
  have := @ord_pos3 x y
  by_cases h : 0 < ord x y
  ·rw [if_pos (decide_eq_true h)]; have := this.1 h; omega
  ·rw [if_neg (by simpa using h)]; have := mt this.2 h; omega) (fun a => by omega)
theorem lo2_step (ps : List Pt) (k : Nat) : (selTo minY ps (k + 1 - 1)).2 = min (selTo minY ps (k - 1)).2 (cor ps k).2 :=
 sel_val (f := fun x => x.2) (m := min) (fun x y => by
  unfold minY ordY
  rcases sg_cases (x.2 - y.2) with ⟨h, e⟩ | ⟨h, e⟩ | ⟨h, e⟩ <;> rw [e] <;> simp <;> omega) (fun a => by omega)
theorem hi2_step (ps : List Pt) (k : Nat) : (selTo maxY ps (k + 1 - 1)).2 = max (selTo maxY ps (k - 1)).2 (cor ps k).2 :=
 sel_val (f := fun x => x.2) (m := max) (fun x y => by
  unfold maxY ordY
  rcases sg_cases (x.2 - y.2) with ⟨h, e⟩ | ⟨h, e⟩ | ⟨h, e⟩ <;> rw [e] <;> simp <;> omega) (fun a => by omega)
theorem set4_at {W : World} {b : Nat} {x0 x1 x2 x3 v0 v1 v2 v3 : Value} {T : TypeId} {fr : Nat × Nat} (h : W.heap[b]? = some (.cells #[x0, x1, x2, x3] T fr)) : ((((W.setCell ⟨b, 0, none⟩ v0).setCell ⟨b, 1, none⟩ v1).setCell ⟨b, 2, none⟩ v2).setCell ⟨b, 3, none⟩ v3).heap[b]? = some (.cells #[v0, v1, v2, v3] T fr) := by
 have h1 := blk_lt h
 simp [World.setCell, Array.getElem?_modify, h]
theorem set1_4 {W : World} {b : Nat} {x0 x1 x2 x3 v0 : Value} {T : TypeId} {fr : Nat × Nat} (h : W.heap[b]? = some (.cells #[x0, x1, x2, x3] T fr)) : (W.setCell ⟨b, 0, none⟩ v0).heap[b]? = some (.cells #[v0, x1, x2, x3] T fr) := by
 have h1 := blk_lt h
 simp [World.setCell, Array.getElem?_modify, h]
theorem set2_4 {W : World} {b : Nat} {x0 x1 x2 x3 v0 v1 : Value} {T : TypeId} {fr : Nat × Nat} (h : W.heap[b]? = some (.cells #[x0, x1, x2, x3] T fr)) : ((W.setCell ⟨b, 0, none⟩ v0).setCell ⟨b, 1, none⟩ v1).heap[b]? = some (.cells #[v0, v1, x2, x3] T fr) := by
 have h1 := blk_lt h
 simp [World.setCell, Array.getElem?_modify, h]
theorem set3_4 {W : World} {b : Nat} {x0 x1 x2 x3 v0 v1 v2 : Value} {T : TypeId} {fr : Nat × Nat} (h : W.heap[b]? = some (.cells #[x0, x1, x2, x3] T fr)) : (((W.setCell ⟨b, 0, none⟩ v0).setCell ⟨b, 1, none⟩ v1).setCell ⟨b, 2, none⟩ v2).heap[b]? = some (.cells #[v0, v1, v2, x3] T fr) := by
 have h1 := blk_lt h
 simp [World.setCell, Array.getElem?_modify, h]
theorem p3Box_v (ps : List Pt) (A : Option Addr) (c : Nat) (r : B4 × Int) (w : World) (hr : Rd w w.heap.size 2 A (ps.map encD)) (hc : ps.length ≤ 100000000000000) (h : boxOf ps = r) :
  Calls Tryz.prog 21 #[.slice A ps.length c] w (Ret w (.tuple #[bxv r.1, .int .i64 r.2])) := by
 have hm := hmix
 subst h
 unfold boxOf
 obtain ⟨v, hv⟩ : ∃ u, PValid ps = u := ⟨_, rfl⟩
 have k2 := hide (fun W (hg : Grew w W) => p3Valid_v ps A c v W (hr.up hg) hc hv)
 rw [hv]
 cases v
 ·clear hv
  rw [if_neg (by simp)]
  go_enter Tryz.func21, Tryz.ntmps21
  go_wp2_with (go_at_call 6; with_reducible refine crv (k2.out _ gw) fun _ _ => ?_; dsimp only)
  refine bodyPost_ret (v := .tuple #[bxv ((0, 0), (0, 0)), .int .i64 1]) (by simp [results, Tryz.results21, go_sem]) rfl ?_
  exact Ret.mk' rfl gw
 ·have hp := pv_parts hv
  rw [if_pos rfl]
  show Calls Tryz.prog 21 #[.slice A ps.length c] w (Ret w (.tuple #[bxv (bxTo ps (ps.length - 1)), .int .i64 0]))
  have HR := hide hr
  obtain ⟨z, hz⟩ : ∃ a, cor ps 0 = a := ⟨_, rfl⟩
  have HZ := hide hz
  have hpz := cor_get (ps := ps) (k := 0) (by omega)
  rw [hz] at hpz
  have hl24 := hp.1
  clear hp hv hr hz
  go_enter Tryz.func21, Tryz.ntmps21
  go_wp2_with (go_at_call 6; with_reducible refine crv (k2.out _ gw) fun _ _ => ?_; dsimp only)
  refine wp_name ?_
  intro W0 hW
  have HG0 : Hid (Grew w W0) := hide (by rw [← hW]; exact gw)
  have hb9 : W0.heap[w.heap.size]? = some (.cells #[.int .i64 0, .int .i64 0, .int .i64 0, .int .i64 0] 28 (0, 0)) := by rw [← hW]; exact (heap_grow_old _ _ (by simp [hs_dr])).trans (heap_alloc_new _ _)
  have HB9 := hide hb9
  have HBL := hide (blk_lt hb9)
  clear hW hb9 k2
  obtain ⟨b2, off2, hA2, hb2, g2, g3⟩ := ptAt (HR.out.up HG0.out) hpz
  rw [show off2 + 0 * 2 = off2 by omega] at g2 g3
  have hix2 := idx_run0 (cap := c) Tryz.underlying22 Tryz.sizeOf24 hA2.out (show 0 < ps.length by omega)
  obtain ⟨z1, z2⟩ := z
  dsimp only at g2 g3
  clear hpz hA2
  go_wp2_with fail
  refine wp_region_qas 21 [⟨19, 20, 5, 28, .agg #[.int .i64 0, .int .i64 0, .int .i64 0, .int .i64 0]⟩] [] hm (hZ := (ZOk.cons Tryz.zeroValue28 Tryz.sizeOf28 ZOk.nil)) (h := ?_)
  repeat (refine wpSteady_step (fun K hK => ?_); go_simp; refine hK _ ?_; clear hK K)
  refine wpSteady_nil ?_
  refine ⟨(StOk.cons (by rfl) (by simp [stOpnd, Act.eval, Value.cells, Value.oneCell']) StOk.nil), LyOk.nil, ?_⟩
  rintro psq qsq WqH HWqH HFq HBq
  obtain rfl : qsq = [] := HBq
  obtain ⟨pH0, _, rfl, hpH0, hbH0, hnH0, rfl⟩ := HFq
  simp only [putAll, putB, Act.put, setA]
  simp [stOpnd, Act.eval, Value.cells] at hbH0
  have gcH0_0 : WqH.cell? ⟨pH0, 0, none⟩ = some _ := blk_cell hbH0 0
  have gcH0_1 : WqH.cell? ⟨pH0, 1, none⟩ = some _ := blk_cell hbH0 1
  have gcH0_2 : WqH.cell? ⟨pH0, 2, none⟩ = some _ := blk_cell hbH0 2
  have gcH0_3 : WqH.cell? ⟨pH0, 3, none⟩ = some _ := blk_cell hbH0 3
  have gfH0 := blk_frozen hbH0
  have glH0 := blk_lt hbH0
  have gpH0 := hide hpH0
  have ghH0 := hide hbH0
  clear hbH0 hnH0 hpH0
  have ocH := old_cell HWqH
  have ofH := old_frozen HWqH
  have olH := old_lt HWqH
  replace HWqH := hide HWqH
  go_wp2_with fail
  refine wp_name ?_
  intro W4 hW
  have HG4 : Hid (Grew W0 W4) := hide (by rw [← hW]; exact HWqH.out.trans gw)
  have HB4 : Hid (W4.heap[pH0]? = some (.cells #[.int .i64 z1, .int .i64 z1, .int .i64 z2, .int .i64 z2] 28 (0, 0))) := hide (by rw [← hW]; exact ghH0.out)
  have HP := hide (show W0.heap.size ≤ pH0 from gpH0.out)
  clear hW HWqH ocH ofH olH gcH0_0 gcH0_1 gcH0_2 gcH0_3 gfH0 glH0 gpH0 ghH0 hix2 g2 g3 hb2
  go_loopw [6] (fun i wr => ∃ m : Nat, m ≤ ps.length ∧ i = .int .i64 m ∧ W4.grownBy wr (some pH0) ∧ wr.heap[pH0]? = some (.cells #[.int .i64 (bxTo ps (m - 1)).1.1, .int .i64 (bxTo ps (m - 1)).1.2, .int .i64 (bxTo ps (m - 1)).2.1, .int .i64 (bxTo ps (m - 1)).2.2] 28 (0, 0))) (fun i _ => ps.length - (intOf i).toNat)
  case atStart => exact ⟨0, by omega, rfl, gb_refl _ _, by
   have e : cor ps 0 = (z1, z2) := HZ.out
   show W4.heap[pH0]? = some (.cells #[.int .i64 (cor ps 0).1, .int .i64 (cor ps 0).1, .int .i64 (cor ps 0).2, .int .i64 (cor ps 0).2] 28 (0, 0))
   rw [e]
   exact HB4.out⟩
  case round =>
   obtain ⟨m, hmm, rfl, hgr, hbx⟩ := hrel
   have HGR := hide hgr
   have hwr : Below W0.heap.size W0 wr := HG4.out.below.grown hgr HG4.out.below.size (fun j e => by cases e; exact HP.out)
   have HWR := hide hwr
   obtain ⟨s1, hs1⟩ : ∃ s, (selTo minS ps (m - 1)).1 = s := ⟨_, rfl⟩
   obtain ⟨s2, hs2⟩ : ∃ s, (selTo maxS ps (m - 1)).1 = s := ⟨_, rfl⟩
   obtain ⟨s3, hs3⟩ : ∃ s, (selTo minY ps (m - 1)).2 = s := ⟨_, rfl⟩
   obtain ⟨s4, hs4⟩ : ∃ s, (selTo maxY ps (m - 1)).2 = s := ⟨_, rfl⟩
   replace hbx : wr.heap[pH0]? = some (.cells #[.int .i64 (selTo minS ps (m - 1)).1, .int .i64 (selTo maxS ps (m - 1)).1, .int .i64 (selTo minY ps (m - 1)).2, .int .i64 (selTo maxY ps (m - 1)).2] 28 (0, 0)) := hbx
   rw [hs1, hs2, hs3, hs4] at hbx
   have HBX := hide hbx
   have c0 := blk_cell hbx 0
   have c1 := blk_cell hbx 1
   have c2 := blk_cell hbx 2
   have c3 := blk_cell hbx 3
   have lb := blk_lt hbx
   have f0 := blk_frozen hbx 0
   have f1 := blk_frozen hbx 1
   have f2 := blk_frozen hbx 2
   have f3 := blk_frozen hbx 3
   by_cases hlt : m < ps.length
   ·have l1 := lo_step ps m
    have l2 := hi_step ps m
    have l3 := lo2_step ps m
    have l4 := hi2_step ps m
    have hpm := cor_get hlt
    obtain ⟨x, hx⟩ : ∃ x, cor ps m = x := ⟨_, rfl⟩
    rw [hx, hs1] at l1
    rw [hx, hs2] at l2
    rw [hx, hs3] at l3
    rw [hx, hs4] at l4
    rw [hx] at hpm
    obtain ⟨b1, off1, hA1, hb1, g0, g1⟩ := ptAt ((HR.out.up HG0.out).below hwr) hpm
    have hix1 := idx_run (cap := c) Tryz.underlying22 Tryz.sizeOf24 hA1.out hlt
    have hne : ¬ b1 = pH0 := by have := HP.out; omega
    have hbb : b1 < wr.heap.size := Nat.lt_of_lt_of_le hb1 hwr.size
    obtain ⟨x1, x2⟩ := x
    dsimp only at g0 g1 l1 l2 l3 l4
    obtain ⟨m1, i1⟩ : ∃ m, (if x1 < s1 then x1 else s1) = m := ⟨_, rfl⟩
    obtain ⟨m2, i2⟩ : ∃ m, (if s2 < x1 then x1 else s2) = m := ⟨_, rfl⟩
    obtain ⟨m3, i3⟩ : ∃ m, (if x2 < s3 then x2 else s3) = m := ⟨_, rfl⟩
    obtain ⟨m4, i4⟩ : ∃ m, (if s4 < x2 then x2 else s4) = m := ⟨_, rfl⟩
    rw [show min s1 x1 = m1 by omega] at l1
    rw [show max s2 x1 = m2 by omega] at l2
    rw [show min s3 x2 = m3 by omega] at l3
    rw [show max s4 x2 = m4 by omega] at l4
    have L1 := hide l1
    have L2 := hide l2
    have L3 := hide l3
    have L4 := hide l4
    clear l1 l2 l3 l4 hx hs1 hs2 hs3 hs4 hpm hA1 hbx hgr hwr hb1
    go_wp2_with fail
    refine wp_region_qas 11 [] [] hm (h := ?_)
    repeat (refine wpSteady_step (fun K hK => ?_); go_simp; refine hK _ ?_; clear hK K)
    refine rq0 fun nq osq => ?_
    try simp only [Act.put, setA]
    try dsimp only
    go_wp2_with fail
    refine wp_region_qas 11 [] [] hm (h := ?_)
    repeat (refine wpSteady_step (fun K hK => ?_); go_simp; refine hK _ ?_; clear hK K)
    refine rq0 fun nqB osqB => ?_
    try simp only [Act.put, setA]
    try dsimp only
    go_wp2_with fail
    refine wp_region_qas 11 [] [] hm (h := ?_)
    repeat (refine wpSteady_step (fun K hK => ?_); go_simp; refine hK _ ?_; clear hK K)
    refine rq0 fun nqC osqC => ?_
    try simp only [Act.put, setA]
    try dsimp only
    go_wp2_with fail
    refine wp_region_qas 11 [] [] hm (h := ?_)
    repeat (refine wpSteady_step (fun K hK => ?_); go_simp; refine hK _ ?_; clear hK K)
    refine rq0 fun nqD osqD => ?_
    try simp only [Act.put, setA]
    try dsimp only
    go_wp2_with fail
    go_roundw
    case rel => exact ⟨m + 1, by omega, by go_num, gbw, by
     show _ = some (Obj.cells #[.int .i64 (selTo minS ps (m + 1 - 1)).1, .int .i64 (selTo maxS ps (m + 1 - 1)).1, .int .i64 (selTo minY ps (m + 1 - 1)).2, .int .i64 (selTo maxY ps (m + 1 - 1)).2] 28 (0, 0))
     rw [L1.out, L2.out, L3.out, L4.out]
     exact (heap_grow_old _ _ (by simpa [hs_dr] using lb)).trans (set4_at HBX.out)⟩
    case measure => simp [intOf]; omega
   ·obtain rfl : m = ps.length := by omega
    have hb9 := (hgr.block w.heap.size (Nat.lt_of_lt_of_le HBL.out HG4.out.below.size) (by have := HP.out; have := HBL.out; simp; omega)).trans ((HG4.out.below.block w.heap.size HBL.out).trans HB9.out)
    have r0 := blk_cell hb9 0
    have r1 := blk_cell hb9 1
    have r2 := blk_cell hb9 2
    have r3 := blk_cell hb9 3
    have rf0 := blk_frozen hb9 0
    have rf1 := blk_frozen hb9 1
    have rf2 := blk_frozen hb9 2
    have rf3 := blk_frozen hb9 3
    have lr := blk_lt hb9
    have e1 := blk_cell (set1_4 (v0 := .int .i64 s1) hb9) 0
    have e2 := blk_cell (set2_4 (v0 := .int .i64 s1) (v1 := .int .i64 s2) hb9) 1
    have e3 := blk_cell (set3_4 (v0 := .int .i64 s1) (v1 := .int .i64 s2) (v2 := .int .i64 s3) hb9) 2
    have e4 := blk_cell (set4_at (v0 := .int .i64 s1) (v1 := .int .i64 s2) (v2 := .int .i64 s3) (v3 := .int .i64 s4) hb9) 3
    clear hbx hgr hwr hb9
    go_wp2_with fail
    refine bodyPost_ret (v := .tuple #[bxv ((s1, s2), (s3, s4)), .int .i64 0]) (by simp [results, Tryz.results21, go_sem, e1, e2, e3, e4]) rfl ?_
    refine Ret.mk' (by show Value.tuple #[bxv ((s1, s2), (s3, s4)), .int .i64 0] = .tuple #[bxv (((selTo minS ps (ps.length - 1)).1, (selTo maxS ps (ps.length - 1)).1), ((selTo minY ps (ps.length - 1)).2, (selTo maxY ps (ps.length - 1)).2)), .int .i64 0]; rw [hs1, hs2, hs3, hs4]) ?_
    have hbw : Below w.heap.size w wr := (HG0.out.below.trans (HWR.out.mono HG0.out.below.size))
    exact Grew.of_below ((((hbw.setCell (p := ⟨w.heap.size, 0, none⟩) (Nat.le_refl _) _).setCell (p := ⟨w.heap.size, 1, none⟩) (Nat.le_refl _) _).setCell (p := ⟨w.heap.size, 2, none⟩) (Nat.le_refl _) _).setCell (p := ⟨w.heap.size, 3, none⟩) (Nat.le_refl _) _)
end Go.Proofs.YtndkfpmklmcjjaaGreat
