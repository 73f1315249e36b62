/- The law PolyInside, walked. -/
import Derived.Test.YtdmlnmcaihodaaaPoz
import Derived.Test.YtdmlnmcaihodaaaInP
namespace Go.Proofs.Ytdmlnmcaihodaaa
set_option linter.unusedVariables false
set_option linter.unusedSimpArgs false
open Go.RowKit Go.Sort
attribute [local go_sem] Steady steadyUpon
attribute [local go_sem ↓] hs_dr lt_add_r lt_add_r2 lt_add_r3 lt_add_r4 lt_add_r5 lt_add_r6
attribute [local go_sem] cell?_gd frozen?_gd setCell_gd size_grow tape_grow cell?_grow' frozen?_grow' setCell_grow' grow_grow grow_dr grow_drew dr_dr dr_drew drew_dr dr_alloc dr_setCell dr_cell dr_frozen dr_tape dr_drawn
attribute [local irreducible] wpSteady

def onTo (ps : List Pt) (a : Pt) (k : Nat) : Bool := (List.range k).any fun i => onB a (cor ps i) (cor ps (i + 1))
def meTo (ps : List Pt) (a b : Pt) (k : Nat) : Bool := (List.range k).any fun i => meetB a b (cor ps i) (cor ps (i + 1))
theorem onTo_succ (ps : List Pt) (a : Pt) (k : Nat) : onTo ps a (k + 1) = (onTo ps a k || onB a (cor ps k) (cor ps (k + 1))) := by unfold onTo; rw [List.range_succ, List.any_append]; simp
theorem meTo_succ (ps : List Pt) (a b : Pt) (k : Nat) : meTo ps a b (k + 1) = (meTo ps a b k || meetB a b (cor ps k) (cor ps (k + 1))) := by unfold meTo; rw [List.range_succ, List.any_append]; simp
theorem inside_law {ps : List Pt} {a b : Pt} : (onTo ps a ps.length = decide (placeOf ps a = 0)) ∧ ((placeOf ps a * placeOf ps b ≠ -1) ∨ meTo ps a b ps.length = true) ∧ (-1 ≤ placeOf ps a ∧ placeOf ps a ≤ 1) := by
  have h1 : onTo ps a ps.length = onAny ps a := rfl
  have hp : ∀ q, (onAny ps q = true ∧ placeOf ps q = 0) ∨ (onAny ps q = false ∧ par ps q (List.range ps.length) = true ∧ placeOf ps q = 1) ∨ (onAny ps q = false ∧ par ps q (List.range ps.length) = false ∧ placeOf ps q = -1) := by
    intro q
    unfold placeOf
    cases onAny ps q <;> cases par ps q (List.range ps.length) <;> simp
  refine ⟨?_, ?_, ?_⟩
  · rw [h1]
    rcases hp a with ⟨e, f⟩ | ⟨e, _, f⟩ | ⟨e, _, f⟩ <;> rw [e, f] <;> rfl
  · cases hme : meTo ps a b ps.length
    · refine .inl ?_
      have hc := par_const (ps := ps) (a := a) (b := b) (fun i hi => by
        unfold meTo at hme
        rw [List.any_eq_false] at hme
        simpa using hme i (List.mem_range.2 hi))
      rcases hp a with ⟨e, f⟩ | ⟨e, g, f⟩ | ⟨e, g, f⟩ <;> rcases hp b with ⟨e', f'⟩ | ⟨e', g', f'⟩ | ⟨e', g', f'⟩ <;> rw [f, f'] <;> first | decide | (rw [g, g'] at hc; cases hc)
    · exact .inr rfl
  · rcases hp a with ⟨e, f⟩ | ⟨e, _, f⟩ | ⟨e, _, f⟩ <;> rw [f] <;> decide
set_option maxRecDepth 100000 in
set_option maxHeartbeats 4000000 in
theorem polyInside_no (ps : List Pt) (A : Option Addr) (c : Nat) (a1 a2 b1 b2 : Int) (w : World) (hr : Rd w w.heap.size 2 A (ps.map encD)) (hc : ps.length ≤ 100000000000000) (h : PValid ps = false ∨ Pt.ok (a1, a2) = false ∨ Pt.ok (b1, b2) = false) :
    Calls Try.prog 4 #[.slice A ps.length c, pt a1 a2, pt b1 b2] w (Ret w (.bool true)) := by
  have hm := hmix
  have he : ((inOf ps (a1, a2)).2 ≠ 0) ∨ ((inOf ps (a1, a2)).2 = 0 ∧ (inOf ps (b1, b2)).2 ≠ 0) := by
    unfold inOf
    cases hv : PValid ps
    · exact .inl (by simp)
    · cases ha : Pt.ok (a1, a2)
      · exact .inl (by simp)
      · rw [hv, ha] at h
        have hb : Pt.ok (b1, b2) = false := by simpa using h
        exact .inr (by rw [hb]; simp)
  obtain ⟨⟨x, e⟩, hx⟩ : ∃ r, inOf ps (a1, a2) = r := ⟨_, rfl⟩
  obtain ⟨⟨y, f⟩, hy⟩ : ∃ r, inOf ps (b1, b2) = r := ⟨_, rfl⟩
  have k1 := hide (fun W (hg : Grew w W) => In_v ps A c (a1, a2) _ W (hr.up hg) hc hx)
  have k2 := hide (fun W (hg : Grew w W) => In_v ps A c (b1, b2) _ W (hr.up hg) hc hy)
  rw [hx, hy] at he
  dsimp only at he
  clear hx hy hr h
  rcases he with he | ⟨rfl, he⟩
  all_goals
    go_enter Try.func4, Try.ntmps4
    go_wp2_with (first | (go_at_call 10; (with_reducible refine (head_v _).mono ?_); rintro e w' ⟨rfl, ⟨_, _⟩, rfl⟩; dsimp only) | ((go_at_call 12; first | with_reducible refine (k1.out _ (by repeat (with_reducible first | exact Grew.refl _ | assumption | refine Grew.alloc ?_ _ | refine Grew.grow ?_ _ | refine Grew.dr ?_ _ | refine Grew.drewN ?_ _ | refine Grew.drew ?_ | refine Grew.trans ?_ (Hid.out (by assumption))))).mono ?_ | with_reducible refine (k2.out _ (by repeat (with_reducible first | exact Grew.refl _ | assumption | refine Grew.alloc ?_ _ | refine Grew.grow ?_ _ | refine Grew.dr ?_ _ | refine Grew.drewN ?_ _ | refine Grew.drew ?_ | refine Grew.trans ?_ (Hid.out (by assumption))))).mono ?_); rintro e w' ⟨rfl, ⟨_, _⟩, rfl⟩; dsimp only))
    go_ret
    exact Ret.mk' rfl (by repeat (with_reducible first | exact Grew.refl _ | assumption | refine Grew.alloc ?_ _ | refine Grew.grow ?_ _ | refine Grew.dr ?_ _ | refine Grew.drewN ?_ _ | refine Grew.drew ?_ | refine Grew.trans ?_ (Hid.out (by assumption))))
set_option maxRecDepth 100000 in
set_option maxHeartbeats 8000000 in
theorem polyInside_yes (ps : List Pt) (A : Option Addr) (c : Nat) (a1 a2 b1 b2 : Int) (w : World) (hr : Rd w w.heap.size 2 A (ps.map encD)) (hc : ps.length ≤ 100000000000000) (hv : PValid ps = true) (ha : Pt.ok (a1, a2) = true) (hb : Pt.ok (b1, b2) = true) :
    Calls Try.prog 4 #[.slice A ps.length c, pt a1 a2, pt b1 b2] w (Ret w (.bool true)) := by
  have hm := hmix
  have hpp := pv_parts hv
  have k1 := hide (fun W (hg : Grew w W) => In_v ps A c (a1, a2) (placeOf ps (a1, a2), 0) W (hr.up hg) hc (by unfold inOf; rw [hv, ha]; rfl))
  have k2 := hide (fun W (hg : Grew w W) => In_v ps A c (b1, b2) (placeOf ps (b1, b2), 0) W (hr.up hg) hc (by unfold inOf; rw [hv, hb]; rfl))
  obtain ⟨l1, l2, l3⟩ := inside_law (ps := ps) (a := (a1, a2)) (b := (b1, b2))
  have l4 := (inside_law (ps := ps) (a := (b1, b2)) (b := (b1, b2))).2.2
  obtain ⟨x, hx⟩ : ∃ r, placeOf ps (a1, a2) = r := ⟨_, rfl⟩
  obtain ⟨y, hy⟩ : ∃ r, placeOf ps (b1, b2) = r := ⟨_, rfl⟩
  rw [hx] at k1 l1 l2 l3
  rw [hy] at k2 l2 l4
  have hn3 : 3 ≤ ps.length := hpp.1.1
  have hn24 : ps.length ≤ 24 := hpp.1.2
  have h0 : ¬ (ps.length : Int) = 0 := by omega
  have h1 : ¬ ps = [] := by intro e; rw [e] at hn3; simp at hn3
  have HOK := hide hpp.2
  have HA := hide ha
  have HB := hide hb
  have HR := hide hr
  have L1 := hide l1
  have L2 := hide l2
  clear hx hy hr hv ha hb hpp l1 l2
  go_enter Try.func4, Try.ntmps4
  go_wp2_with (first | (go_at_call 10; (with_reducible refine (head_v _).mono ?_); rintro e w' ⟨rfl, ⟨_, _⟩, rfl⟩; dsimp only) | ((go_at_call 12; first | with_reducible refine (k1.out _ (by repeat (with_reducible first | exact Grew.refl _ | assumption | refine Grew.alloc ?_ _ | refine Grew.grow ?_ _ | refine Grew.dr ?_ _ | refine Grew.drewN ?_ _ | refine Grew.drew ?_ | refine Grew.trans ?_ (Hid.out (by assumption))))).mono ?_ | with_reducible refine (k2.out _ (by repeat (with_reducible first | exact Grew.refl _ | assumption | refine Grew.alloc ?_ _ | refine Grew.grow ?_ _ | refine Grew.dr ?_ _ | refine Grew.drewN ?_ _ | refine Grew.drew ?_ | refine Grew.trans ?_ (Hid.out (by assumption))))).mono ?_); rintro e w' ⟨rfl, ⟨_, _⟩, rfl⟩; dsimp only))
  refine wp_name ?_
  intro W0 hW
  have hg0 : Grew w W0 := by rw [← hW]; exact (by repeat (with_reducible first | exact Grew.refl _ | assumption | refine Grew.alloc ?_ _ | refine Grew.grow ?_ _ | refine Grew.dr ?_ _ | refine Grew.drewN ?_ _ | refine Grew.drew ?_ | refine Grew.trans ?_ (Hid.out (by assumption))))
  have hba : W0.heap[w.heap.size]? = some (.cells #[.int .i64 a1, .int .i64 a2] 28 (0, 0)) := by
    rw [← hW]
    refine Eq.trans (Grew.heap (w := (w.alloc (.cells #[.int .i64 a1, .int .i64 a2] 28)).alloc (.cells #[.int .i64 b1, .int .i64 b2] 28)) (by repeat (with_reducible first | exact Grew.refl _ | assumption | refine Grew.alloc ?_ _ | refine Grew.grow ?_ _ | refine Grew.dr ?_ _ | refine Grew.drewN ?_ _ | refine Grew.drew ?_ | refine Grew.trans ?_ (Hid.out (by assumption)))) (by simp; omega)) ?_
    exact (heap_alloc_old _ _ (by simp)).trans (heap_alloc_new _ _)
  have hbb : W0.heap[w.heap.size + 1]? = some (.cells #[.int .i64 b1, .int .i64 b2] 28 (0, 0)) := by
    rw [← hW]
    refine Eq.trans (Grew.heap (w := (w.alloc (.cells #[.int .i64 a1, .int .i64 a2] 28)).alloc (.cells #[.int .i64 b1, .int .i64 b2] 28)) (by repeat (with_reducible first | exact Grew.refl _ | assumption | refine Grew.alloc ?_ _ | refine Grew.grow ?_ _ | refine Grew.dr ?_ _ | refine Grew.drewN ?_ _ | refine Grew.drew ?_ | refine Grew.trans ?_ (Hid.out (by assumption)))) (by simp)) ?_
    exact heap_alloc_at _ _ _ (by simp)
  have HG0 := hide hg0
  have HBA := hide hba
  have HBB := hide hbb
  clear hW hg0 hba hbb k1 k2
  go_loopw [7, 12, 13, 46] (fun up on me i wr => ∃ k : Nat, k ≤ ps.length ∧ i = .int .i64 k ∧ up = .bool true ∧ on = .bool (onTo ps (a1, a2) k) ∧ me = .bool (meTo ps (a1, a2) (b1, b2) k) ∧ Grew W0 wr) (fun _ _ _ i _ => ps.length - (intOf i).toNat)
  case atStart => exact ⟨0, by omega, rfl, rfl, rfl, rfl, Grew.refl _⟩
  case round =>
    obtain ⟨k, hk, rfl, rfl, rfl, rfl, hg⟩ := hrel
    have HG := hide hg
    have b0 := (hg.heap (blk_lt HBA.out)).trans HBA.out
    have b1' := (hg.heap (blk_lt HBB.out)).trans HBB.out
    have q0 := blk_cell b0 0
    have q1 := blk_cell b0 1
    have q2 := blk_cell b1' 0
    have q3 := blk_cell b1' 1
    have m0 := blk_lt b0
    have m1 := blk_lt b1'
    have hrr := HR.out.up (HG0.out.trans hg)
    clear hg b0 b1'
    by_cases hlt : k < ps.length
    · have hos := onTo_succ ps (a1, a2) k
      have hms := meTo_succ ps (a1, a2) (b1, b2) k
      obtain ⟨o1, ho1⟩ : ∃ o, onTo ps (a1, a2) k = o := ⟨_, rfl⟩
      obtain ⟨o2, ho2⟩ : ∃ o, meTo ps (a1, a2) (b1, b2) k = o := ⟨_, rfl⟩
      obtain ⟨j2, hj2⟩ : ∃ j, (k + 1) % ps.length = j := ⟨_, rfl⟩
      have hjl2 : j2 < ps.length := by rw [← hj2]; exact Nat.mod_lt _ (by omega)
      have py := cor_get hlt
      have pz := cor_mod (ps := ps) (k + 1) (by omega)
      rw [hj2] at pz
      have ej2 : ((k : Int) + 1) % (ps.length : Int) = (j2 : Int) := by rw [← hj2, show (k : Int) + 1 = ((k + 1 : Nat) : Int) by omega, Int.natCast_emod]
      have oy := cor_ok HOK.out k
      have oz := cor_ok HOK.out (k + 1)
      obtain ⟨y', hy⟩ : ∃ x, cor ps k = x := ⟨_, rfl⟩
      obtain ⟨z', hz⟩ : ∃ x, cor ps (k + 1) = x := ⟨_, rfl⟩
      rw [hy] at py oy hos hms
      rw [hz] at pz oz hos hms
      obtain ⟨n1, hn1⟩ : ∃ o, onB (a1, a2) y' z' = o := ⟨_, rfl⟩
      obtain ⟨n2, hn2⟩ : ∃ o, meetB (a1, a2) (b1, b2) y' z' = o := ⟨_, rfl⟩
      rw [ho1, hn1] at hos
      rw [ho2, hn2] at hms
      rw [ho1, ho2]
      have ko := hide (fun W => On_ok (a1, a2) y' z' W HA.out oy oz)
      have km := hide (fun W => Meet_ok (a1, a2) (b1, b2) y' z' W HA.out HB.out oy oz)
      rw [hn1] at ko
      rw [hn2] at km
      obtain ⟨b, off, hA', hb0, y0, y1⟩ := ptAt hrr py
      obtain ⟨b', off', hA'', hb', z0, z1⟩ := ptAt hrr pz
      obtain ⟨rfl, rfl⟩ : b = b' ∧ off = off' := by have := hA'.out.symm.trans hA''.out; injection this with this; injection this with h1 h2; exact ⟨h1, h2⟩
      have hix2 := idx_run (cap := c) (k := k) (len := ps.length) Try.underlying22 Try.sizeOf28 hA'.out hlt
      have hix3 := idx_run (cap := c) (k := j2) (len := ps.length) Try.underlying22 Try.sizeOf28 hA'.out hjl2
      have hnn2 : 0 ≤ (k : Int) + 1 := by omega
      have ew3 : IntKind.i64.wrap ((k : Int) + 1) = (k : Int) + 1 := by unfold IntKind.wrap; simp [IntKind.bits, IntKind.signed]; omega
      rw [← Int.tmod_eq_emod_of_nonneg hnn2] at ej2
      obtain ⟨y1', y2'⟩ := y'
      obtain ⟨z1', z2'⟩ := z'
      dsimp only at y0 y1 z0 z1
      have HOS := hide hos
      have HMS := hide hms
      clear hos hms ho1 ho2 hn1 hn2 py pz oy oz hy hz hA' hA'' hj2 hrr
      go_wp2_with fail
      refine wp_region_qas 19 [] [] hm (by kernel_rfl) (by simp only [List.take, List.filter, isQ]; rfl) (by simp only [List.drop]; rfl) ZOk.nil (by simp) ?_
      repeat (refine wpSteady_step (fun K hK => ?_); go_simp; first | (refine hK _ ?_; clear hK K) | (apply Exists.intro; refine ⟨fun _ => ?_, hK _ ?_⟩; (go_at_call 13; with_reducible exact ko.out _); clear hK K))
      refine wpSteady_nil ?_
      refine ⟨StOk.nil, LyOk.nil, ?_⟩
      rintro psq qsq Wq HWq HFq HBq
      obtain rfl : qsq = [] := HBq
      obtain rfl : psq = [] := HFq
      obtain ⟨⟨nq, osq⟩, rfl⟩ := HWq
      simp only [putAll, putB, Act.put, List.setIfInBounds_toArray, List.set_cons_succ, List.set_cons_zero]
      try dsimp only
      go_wp2_with fail
      refine wp_region_qas 20 [] [] hm (by kernel_rfl) (by simp only [List.take, List.filter, isQ]; rfl) (by simp only [List.drop]; rfl) ZOk.nil (by simp) ?_
      repeat (refine wpSteady_step (fun K hK => ?_); go_simp; first | (refine hK _ ?_; clear hK K) | (apply Exists.intro; refine ⟨fun _ => ?_, hK _ ?_⟩; (go_at_call 14; with_reducible exact km.out _); clear hK K))
      refine wpSteady_nil ?_
      refine ⟨StOk.nil, LyOk.nil, ?_⟩
      rintro psq qsq Wqz HWqz HFq HBq
      obtain rfl : qsq = [] := HBq
      obtain rfl : psq = [] := HFq
      obtain ⟨⟨nqz, osqz⟩, rfl⟩ := HWqz
      simp only [putAll, putB, Act.put, List.setIfInBounds_toArray, List.set_cons_succ, List.set_cons_zero]
      try dsimp only
      cases o1 <;> cases o2
      all_goals
        go_wp2_with fail
        go_roundw
        case rel => exact ⟨k + 1, by omega, by go_num, rfl, by rw [HOS.out]; simp, by rw [HMS.out]; simp, HG.out.trans (by repeat (with_reducible first | exact Grew.refl _ | assumption | refine Grew.alloc ?_ _ | refine Grew.grow ?_ _ | refine Grew.dr ?_ _ | refine Grew.drewN ?_ _ | refine Grew.drew ?_ | refine Grew.trans ?_ (Hid.out (by assumption))))⟩
        case measure => simp [intOf]; omega
    · obtain rfl : k = ps.length := by omega
      rw [L1.out]
      obtain ⟨me, hme⟩ : ∃ o, meTo ps (a1, a2) (b1, b2) ps.length = o := ⟨_, rfl⟩
      have h2 := L2.out
      rw [hme] at h2 ⊢
      have hxx : x = -1 ∨ x = 0 ∨ x = 1 := by omega
      have hyy : y = -1 ∨ y = 0 ∨ y = 1 := by omega
      clear hme hrr
      rcases hxx with rfl | rfl | rfl <;> rcases hyy with rfl | rfl | rfl
      all_goals
        simp at h2
        try subst h2
        go_wp2_with fail
        all_goals go_ret
        all_goals exact Ret.mk' (by simp) (HG0.out.trans HG.out)
theorem polyInside_any (ps : List Pt) (A : Option Addr) (c : Nat) (a1 a2 b1 b2 : Int) (w : World) (hr : Rd w w.heap.size 2 A (ps.map encD)) (hc : ps.length ≤ 100000000000000) :
    Calls Try.prog 4 #[.slice A ps.length c, pt a1 a2, pt b1 b2] w (Ret w (.bool true)) := by
  cases h1 : PValid ps
  · exact polyInside_no ps A c a1 a2 b1 b2 w hr hc (.inl h1)
  · cases h2 : Pt.ok (a1, a2)
    · exact polyInside_no ps A c a1 a2 b1 b2 w hr hc (.inr (.inl h2))
    · cases h3 : Pt.ok (b1, b2)
      · exact polyInside_no ps A c a1 a2 b1 b2 w hr hc (.inr (.inr h3))
      · exact polyInside_yes ps A c a1 a2 b1 b2 w hr hc h1 h2 h3
end Go.Proofs.Ytdmlnmcaihodaaa
