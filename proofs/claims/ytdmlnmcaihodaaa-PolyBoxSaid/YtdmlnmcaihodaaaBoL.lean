/- The law PolyBox, walked. -/
import Derived.Test.YtdmlnmcaihodaaaPoz
import Derived.Test.YtdmlnmcaihodaaaBoQ
import Derived.Test.YtdmlnmcaihodaaaBoT
namespace Go.Proofs.Ytdmlnmcaihodaaa
set_option linter.unusedVariables false
set_option linter.unusedSimpArgs false
open Go.RowKit Go.Sort
attribute [local go_sem] Steady steadyUpon
attribute [local go_sem ↓] hs_dr lt_add_r lt_add_r2 lt_add_r3 lt_add_r4 lt_add_r5 lt_add_r6
attribute [local go_sem] cell?_gd frozen?_gd setCell_gd size_grow tape_grow cell?_grow' frozen?_grow' setCell_grow' grow_grow grow_dr grow_drew dr_dr dr_drew drew_dr dr_alloc dr_setCell dr_cell dr_frozen dr_tape dr_drawn
attribute [local irreducible] wpSteady

set_option maxRecDepth 100000 in
set_option maxHeartbeats 4000000 in
theorem polyBox_no (ps : List Pt) (A : Option Addr) (c : Nat) (a1 a2 : Int) (w : World) (hr : Rd w w.heap.size 2 A (ps.map encD)) (hc : ps.length ≤ 100000000000000) (h : PValid ps = false) :
    Calls Try.prog 9 #[.slice A ps.length c, pt a1 a2] w (Ret w (.bool true)) := by
  have hm := hmix
  have k1 := hide (fun W (hg : Grew w W) => Box_any ps A c W (hr.up hg) hc)
  have e : boxOf ps = (((0, 0), (0, 0)), 1) := by unfold boxOf; rw [h]; rfl
  rw [e] at k1
  clear e h hr
  go_enter Try.func9, Try.ntmps9
  go_wp2_with (first | (go_at_call 10; (with_reducible refine (head_v _).mono ?_); rintro e w' ⟨rfl, ⟨_, _⟩, rfl⟩; dsimp only) | (go_at_call 23; (with_reducible refine (k1.out _ (by repeat (with_reducible first | exact Grew.refl _ | assumption | refine Grew.alloc ?_ _ | refine Grew.grow ?_ _ | refine Grew.dr ?_ _ | refine Grew.drewN ?_ _ | refine Grew.drew ?_ | refine Grew.trans ?_ (Hid.out (by assumption))))).mono ?_); rintro e w' ⟨rfl, ⟨_, _⟩, rfl⟩; dsimp only))
  go_ret
  exact Ret.mk' rfl (by repeat (with_reducible first | exact Grew.refl _ | assumption | refine Grew.alloc ?_ _ | refine Grew.grow ?_ _ | refine Grew.dr ?_ _ | refine Grew.drewN ?_ _ | refine Grew.drew ?_ | refine Grew.trans ?_ (Hid.out (by assumption))))
theorem set4_at {W : World} {b : Nat} {x y z t v u s r : Value} {T : TypeId} {fr : Nat × Nat} (h : W.heap[b]? = some (.cells #[x, y, z, t] T fr)) : ((((W.setCell ⟨b, 0, none⟩ v).setCell ⟨b, 1, none⟩ u).setCell ⟨b, 2, none⟩ s).setCell ⟨b, 3, none⟩ r).heap[b]? = some (.cells #[v, u, s, r] T fr) := by
  have h1 := blk_lt h
  simp [World.setCell, Array.getElem?_modify, h]
def eqTo (v : Int) (f : Pt → Int) (ps : List Pt) (k : Nat) : Bool := (List.range k).any fun i => f (cor ps i) == v
theorem eqTo_succ (v : Int) (f : Pt → Int) (ps : List Pt) (k : Nat) : eqTo v f ps (k + 1) = (eqTo v f ps k || f (cor ps k) == v) := by unfold eqTo; rw [List.range_succ, List.any_append]; simp
theorem eqTo_all {v : Int} {f : Pt → Int} {ps : List Pt} (h : ∃ j, j < ps.length ∧ v = f (cor ps j)) : eqTo v f ps ps.length = true := by
  obtain ⟨j, hj, e⟩ := h
  unfold eqTo
  rw [List.any_eq_true]
  exact ⟨j, List.mem_range.2 hj, by simp [e]⟩
set_option maxRecDepth 100000 in
set_option maxHeartbeats 8000000 in
theorem polyBox_yes (ps : List Pt) (A : Option Addr) (c : Nat) (a1 a2 : Int) (w : World) (hr : Rd w w.heap.size 2 A (ps.map encD)) (hc : ps.length ≤ 100000000000000) (h : PValid ps = true) :
    Calls Try.prog 9 #[.slice A ps.length c, pt a1 a2] w (Ret w (.bool true)) := by
  have hm := hmix
  have hpp := pv_parts h
  have hn24 : ps.length ≤ 24 := hpp.1.2
  have hn3 : 3 ≤ ps.length := hpp.1.1
  obtain ⟨hx, hy⟩ := box_wide h
  have hok := box_okB h
  have ebox : boxOf ps = (boxC ps, 0) := by unfold boxOf; rw [h]; rfl
  have erect := rectOf_box h
  have eholds : pholdsOf (rectC (boxC ps)) ps = (true, 0) := by unfold pholdsOf; rw [rect_valid hx hy hok, h, rect_holds h]; rfl
  have ebox2 := rect_box hx hy hok
  obtain ⟨t1, t2, t3, t4⟩ := box_at (ps := ps) (by omega)
  have g1 := eqTo_all (f := fun p => p.1) t1
  have g2 := eqTo_all (f := fun p => p.1) t2
  have g3 := eqTo_all (f := fun p => p.2) t3
  have g4 := eqTo_all (f := fun p => p.2) t4
  obtain ⟨⟨k', l⟩, hk⟩ : ∃ d, inOf (rectC (boxC ps)) (a1, a2) = d := ⟨_, rfl⟩
  obtain ⟨⟨i', j⟩, hi⟩ : ∃ d, inOf ps (a1, a2) = d := ⟨_, rfl⟩
  obtain ⟨⟨n', m⟩, hn⟩ : ∃ d, inBox (a1, a2) (boxC ps) = d := ⟨_, rfl⟩
  have hcase : (j = 1 ∧ l = 1 ∧ m = 1) ∨ (j = 0 ∧ l = 0 ∧ m = 0 ∧ ((n' = true ∧ 0 ≤ k') ∨ (n' = false ∧ k' < 0 ∧ i' < 0))) := by
    unfold inOf at hk hi
    rw [rect_valid hx hy hok] at hk
    rw [h] at hi
    cases ha : Pt.ok (a1, a2)
    · have := inBox_bad (b := boxC ps) ha
      rw [hn] at this
      rw [ha] at hk hi
      injection hk with _ hk
      injection hi with _ hi
      exact .inl ⟨hi.symm, hk.symm, this⟩
    · rw [ha] at hk hi
      injection hk with hk1 hk2
      injection hi with hi1 hi2
      have hpl := rect_place hx hy (a1, a2)
      rw [hk1] at hpl
      refine .inr ⟨hi2.symm, hk2.symm, ?_⟩
      by_cases hin : inB (boxC ps) (a1, a2)
      · have := inBox_eq hok ha true (by simp [hin])
        rw [hn] at this
        injection this with e1 e2
        exact ⟨e2, .inl ⟨e1, hpl.2 hin⟩⟩
      · have := inBox_eq hok ha false (by simp [hin])
        rw [hn] at this
        injection this with e1 e2
        refine ⟨e2, .inr ⟨e1, ?_, ?_⟩⟩
        · rcases Int.lt_or_le k' 0 with h9 | h9
          · exact h9
          · exact absurd (hpl.1 h9) hin
        · rcases Int.lt_or_le i' 0 with h9 | h9
          · exact h9
          · rw [← hi1] at h9
            exact absurd (place_box (by omega) h9) hin
  have k1 := hide (fun W (hg : Grew w W) => Box_any ps A c W (hr.up hg) hc)
  rw [ebox] at k1
  have k2 := hide (fun W => Rect_any (boxC ps) W)
  rw [erect] at k2
  have k3 := hide (fun (A' : Option Addr) (c' : Nat) (W : World) (hR : Rd W W.heap.size 2 A' ((rectC (boxC ps)).map encD)) (hg : Grew w W) => Holds_v (rectC (boxC ps)) ps A' A c' c _ W hR (hr.up hg) (by show 4 ≤ _; omega) hc eholds)
  have k4 := hide (fun (A' : Option Addr) (c' : Nat) (W : World) (hR : Rd W W.heap.size 2 A' ((rectC (boxC ps)).map encD)) => Box_any (rectC (boxC ps)) A' c' W hR (by show 4 ≤ _; omega))
  rw [ebox2] at k4
  have k5 := hide (fun W (hg : Grew w W) => In_v ps A c (a1, a2) _ W (hr.up hg) hc hi)
  have k6 := hide (fun (A' : Option Addr) (c' : Nat) (W : World) (hR : Rd W W.heap.size 2 A' ((rectC (boxC ps)).map encD)) => In_v (rectC (boxC ps)) A' c' (a1, a2) _ W hR (by show 4 ≤ _; omega) hk)
  have k7 := hide (fun W => InBox_any (a1, a2) (boxC ps) W)
  rw [hn] at k7
  have hrl : (rectC (boxC ps)).length = 4 := rfl
  obtain ⟨R, hR⟩ : ∃ R, rectC (boxC ps) = R := ⟨_, rfl⟩
  rw [hR] at k2 k3 k4 k6 hrl
  simp only [hrl] at k3 k4 k6
  obtain ⟨⟨⟨X1, X2⟩, ⟨Y1, Y2⟩⟩, hbx⟩ : ∃ x, boxC ps = x := ⟨_, rfl⟩
  rw [hbx] at k1 k2 k4 k7 g1 g2 g3 g4
  have HR := hide hr
  have G1 := hide g1
  have G2 := hide g2
  have G3 := hide g3
  have G4 := hide g4
  have HCASE := hide hcase
  clear hr g1 g2 g3 g4 hcase hk hi hn ebox erect eholds ebox2 t1 t2 t3 t4 hok hx hy h hpp hR hbx
  go_enter Try.func9, Try.ntmps9
  go_wp2_with fail
  refine (head_v _).mono ?_
  rintro e w' ⟨rfl, ⟨n1, os1⟩, rfl⟩
  dsimp only
  go_wp2_with fail
  refine (k1.out _ (by repeat (with_reducible first | exact Grew.refl _ | assumption | refine Grew.alloc ?_ _ | refine Grew.grow ?_ _ | refine Grew.dr ?_ _ | refine Grew.drewN ?_ _ | refine Grew.drew ?_ | refine Grew.trans ?_ (Hid.out (by assumption))))).mono ?_
  rintro e w' ⟨rfl, ⟨n2, os2⟩, rfl⟩
  dsimp only
  go_wp2_with fail
  refine wp_name ?_
  intro W0 hW
  have hg0 : Grew w W0 := by rw [← hW]; exact (by repeat (with_reducible first | exact Grew.refl _ | assumption | refine Grew.alloc ?_ _ | refine Grew.grow ?_ _ | refine Grew.dr ?_ _ | refine Grew.drewN ?_ _ | refine Grew.drew ?_ | refine Grew.trans ?_ (Hid.out (by assumption))))
  obtain ⟨Z, hZ⟩ : ∃ Z, w.heap.size + 1 + (os1.size + os2.size) = Z := ⟨_, rfl⟩
  have hzz : (grow (dr (w.alloc (.cells #[.int .i64 a1, .int .i64 a2] 28)) n2) (os1 ++ os2)).heap.size = Z := by simp [size_grow, hs_dr]; omega
  have hb0 : W0.heap[Z]? = some (.cells #[.int .i64 X1, .int .i64 X2, .int .i64 Y1, .int .i64 Y2] 48 (0, 0)) := by
    rw [← hW]
    exact (heap_alloc_old _ _ (by simp [hzz])).trans (heap_alloc_at _ _ _ hzz.symm)
  have hb1 : W0.heap[Z + 1]? = some (.cells #[.bool false, .bool false, .bool false, .bool false] 51 (0, 0)) := by
    rw [← hW]
    exact heap_alloc_at _ _ _ (by simp [hzz])
  have hb2 : W0.heap[w.heap.size]? = some (.cells #[.int .i64 a1, .int .i64 a2] 28 (0, 0)) := by
    rw [← hW]
    refine Eq.trans (Grew.heap (w := w.alloc (.cells #[.int .i64 a1, .int .i64 a2] 28)) (by repeat (with_reducible first | exact Grew.refl _ | assumption | refine Grew.alloc ?_ _ | refine Grew.grow ?_ _ | refine Grew.dr ?_ _ | refine Grew.drewN ?_ _ | refine Grew.drew ?_ | refine Grew.trans ?_ (Hid.out (by assumption)))) (by simp)) ?_
    exact heap_alloc_new _ _
  have hwZ : w.heap.size < Z := by omega
  rw [hZ]
  have HG0 := hide hg0
  have HB0 := hide hb0
  have HB1 := hide hb1
  have HB2 := hide hb2
  clear hW hg0 hb0 hb1 hb2 hzz hZ k1
  go_loopw [38] (fun i wr => ∃ k : Nat, k ≤ ps.length ∧ i = .int .i64 k ∧ W0.grownBy wr (some (Z + 1)) ∧ wr.heap[Z + 1]? = some (.cells #[.bool (eqTo X1 (fun p => p.1) ps k), .bool (eqTo X2 (fun p => p.1) ps k), .bool (eqTo Y1 (fun p => p.2) ps k), .bool (eqTo Y2 (fun p => p.2) ps k)] 51 (0, 0))) (fun i _ => ps.length - (intOf i).toNat)
  case atStart => exact ⟨0, by omega, rfl, gb_refl _ _, HB1.out⟩
  case round =>
    obtain ⟨k, hk, rfl, hgr, hbx⟩ := hrel
    have l0 := blk_lt HB0.out
    have l1 := blk_lt HB1.out
    have l2 := blk_lt HB2.out
    have hz := hgr.size
    have hwr : Below w.heap.size w wr := HG0.out.below.grown hgr HG0.out.below.size (fun j e => by cases e; omega)
    have hbb := (hgr.block Z l0 (by simp)).trans HB0.out
    have c0 := blk_cell hbb 0
    have c1 := blk_cell hbb 1
    have c2 := blk_cell hbb 2
    have c3 := blk_cell hbb 3
    have d0 := blk_cell hbx 0
    have d1 := blk_cell hbx 1
    have d2 := blk_cell hbx 2
    have d3 := blk_cell hbx 3
    have f0 := blk_frozen hbx 0
    have f1 := blk_frozen hbx 1
    have f2 := blk_frozen hbx 2
    have f3 := blk_frozen hbx 3
    have m0 := blk_lt hbb
    have m1 := blk_lt hbx
    have HGR := hide hgr
    have HWR := hide hwr
    have HBX := hide hbx
    by_cases hlt : k < ps.length
    · have hrd := HR.out.below hwr
      have hp := cor_get hlt
      have s0 := eqTo_succ X1 (fun p => p.1) ps k
      have s1 := eqTo_succ X2 (fun p => p.1) ps k
      have s2 := eqTo_succ Y1 (fun p => p.2) ps k
      have s3 := eqTo_succ Y2 (fun p => p.2) ps k
      obtain ⟨p, hpp⟩ : ∃ p, cor ps k = p := ⟨_, rfl⟩
      rw [hpp] at hp s0 s1 s2 s3
      obtain ⟨b, off, hA, hb, g0, g1⟩ := ptAt hrd hp
      have hix := idx_run (cap := c) Try.underlying22 Try.sizeOf28 hA.out hlt
      have lbb : b < wr.heap.size := by omega
      obtain ⟨o0, e0⟩ : ∃ o, eqTo X1 (fun p => p.1) ps k = o := ⟨_, rfl⟩
      obtain ⟨o1, e1⟩ : ∃ o, eqTo X2 (fun p => p.1) ps k = o := ⟨_, rfl⟩
      obtain ⟨o2, e2⟩ : ∃ o, eqTo Y1 (fun p => p.2) ps k = o := ⟨_, rfl⟩
      obtain ⟨o3, e3⟩ : ∃ o, eqTo Y2 (fun p => p.2) ps k = o := ⟨_, rfl⟩
      rw [e0] at s0 d0 HBX
      rw [e1] at s1 d1 HBX
      rw [e2] at s2 d2 HBX
      rw [e3] at s3 d3 HBX
      obtain ⟨p1, p2⟩ := p
      dsimp only at g0 g1 s0 s1 s2 s3
      have S0 := hide s0
      have S1 := hide s1
      have S2 := hide s2
      have S3 := hide s3
      clear hp hpp hrd hwr hgr hbx hbb s0 s1 s2 s3 e0 e1 e2 e3 hA
      cases o0 <;> cases o1 <;> cases o2 <;> cases o3
      all_goals
        go_wp2_with fail
        go_roundw
        case rel => exact ⟨k + 1, by omega, by go_num, gb_alloc (gb_row (gb_row (gb_row (gb_row HGR.out _ _) _ _) _ _) _ _) _, by rw [S0.out, S1.out, S2.out, S3.out]; exact (heap_alloc_old _ _ (by simpa using m1)).trans (set4_at HBX.out)⟩
        case measure => simp [intOf]; omega
    · obtain rfl : k = ps.length := by omega
      rw [G1.out, G2.out, G3.out, G4.out] at hbx
      rw [G1.out] at d0
      rw [G2.out] at d1
      rw [G3.out] at d2
      rw [G4.out] at d3
      have hpb := (hgr.block w.heap.size l2 (by simp; omega)).trans HB2.out
      have q0 := blk_cell hpb 0
      have q1 := blk_cell hpb 1
      have m2 := blk_lt hpb
      have HPB := hide hpb
      have HBB := hide hbb
      have HB8 := hide hbx
      have hww := Grew.of_below hwr
      have HWW := hide hww
      clear HBX hgr hwr hbx hbb hpb hww f0 f1 f2 f3
      go_wp2_with fail
      refine (k2.out _).mono ?_
      rintro e W1 ⟨v, rfl, hown, hg1⟩
      obtain ⟨A', c', rfl, _, hrd⟩ := Rd.of_own (f := encD) encD_len hown rfl
      dsimp only at hrd
      have hw1 := HWW.out.trans hg1
      have x0 := (old_cell hg1 _ 0 m0).trans c0
      have x1 := (old_cell hg1 _ 1 m0).trans c1
      have x2 := (old_cell hg1 _ 2 m0).trans c2
      have x3 := (old_cell hg1 _ 3 m0).trans c3
      have y0 := (old_cell hg1 _ 0 m1).trans d0
      have y1 := (old_cell hg1 _ 1 m1).trans d1
      have y2 := (old_cell hg1 _ 2 m1).trans d2
      have y3 := (old_cell hg1 _ 3 m1).trans d3
      have z0 := (old_cell hg1 _ 0 m2).trans q0
      have z1 := (old_cell hg1 _ 1 m2).trans q1
      have n0 : Z < W1.heap.size := Nat.lt_of_lt_of_le m0 hg1.below.size
      have n1 : Z + 1 < W1.heap.size := Nat.lt_of_lt_of_le m1 hg1.below.size
      have n2 : w.heap.size < W1.heap.size := Nat.lt_of_lt_of_le m2 hg1.below.size
      have HRD := hide hrd
      have HW1 := hide hw1
      clear c0 c1 c2 c3 d0 d1 d2 d3 q0 q1 m0 m1 m2 hown hg1 hrd hw1
      have e4 := eq4_true
      rw [hrl]
      have hcs := HCASE.out
      rcases hcs with ⟨rfl, rfl, rfl⟩ | ⟨rfl, rfl, rfl, ⟨rfl, hk9⟩ | ⟨rfl, hk9, hi9⟩⟩
      all_goals
        dsimp only
        go_wp2_with fail
        refine (k3.out _ _ _ HRD.out HW1.out).mono ?_
        rintro e w' ⟨rfl, ⟨n3, os3⟩, rfl⟩
        dsimp only
        go_wp2_with fail
        refine (k4.out _ _ _ (HRD.out.up (by repeat (with_reducible first | exact Grew.refl _ | assumption | refine Grew.alloc ?_ _ | refine Grew.grow ?_ _ | refine Grew.dr ?_ _ | refine Grew.drewN ?_ _ | refine Grew.drew ?_ | refine Grew.trans ?_ (Hid.out (by assumption)))))).mono ?_
        rintro e w' ⟨rfl, ⟨n4, os4⟩, rfl⟩
        dsimp only
        go_wp2_with fail
        refine (k5.out _ (HW1.out.trans (by repeat (with_reducible first | exact Grew.refl _ | assumption | refine Grew.alloc ?_ _ | refine Grew.grow ?_ _ | refine Grew.dr ?_ _ | refine Grew.drewN ?_ _ | refine Grew.drew ?_ | refine Grew.trans ?_ (Hid.out (by assumption)))))).mono ?_
        rintro e w' ⟨rfl, ⟨n5, os5⟩, rfl⟩
        dsimp only
        go_wp2_with fail
        refine (k6.out _ _ _ (HRD.out.up (by repeat (with_reducible first | exact Grew.refl _ | assumption | refine Grew.alloc ?_ _ | refine Grew.grow ?_ _ | refine Grew.dr ?_ _ | refine Grew.drewN ?_ _ | refine Grew.drew ?_ | refine Grew.trans ?_ (Hid.out (by assumption)))))).mono ?_
        rintro e w' ⟨rfl, ⟨n6, os6⟩, rfl⟩
        dsimp only
        go_wp2_with fail
        refine (k7.out _).mono ?_
        rintro e w' ⟨rfl, ⟨n7, os7⟩, rfl⟩
        dsimp only
        go_wp2_with fail
        all_goals go_ret
        all_goals exact Ret.mk' (by simp [*]) (HW1.out.trans (by repeat (with_reducible first | exact Grew.refl _ | assumption | refine Grew.alloc ?_ _ | refine Grew.grow ?_ _ | refine Grew.dr ?_ _ | refine Grew.drewN ?_ _ | refine Grew.drew ?_ | refine Grew.trans ?_ (Hid.out (by assumption)))))
theorem polyBox_any (ps : List Pt) (A : Option Addr) (c : Nat) (a1 a2 : Int) (w : World) (hr : Rd w w.heap.size 2 A (ps.map encD)) (hc : ps.length ≤ 100000000000000) :
    Calls Try.prog 9 #[.slice A ps.length c, pt a1 a2] w (Ret w (.bool true)) := by
  cases h : PValid ps
  · exact polyBox_no ps A c a1 a2 w hr hc h
  · exact polyBox_yes ps A c a1 a2 w hr hc h
end Go.Proofs.Ytdmlnmcaihodaaa
