/- Package poly: twice the area. -/
import Derived.Test.YtdmlnmcaihodaaaPoc
namespace Go.Proofs.Ytdmlnmcaihodaaa
set_option linter.unusedVariables false
set_option linter.unusedSimpArgs false
open Go.RowKit Go.Sort
attribute [local go_sem] Steady steadyUpon
attribute [local go_sem ↓] hs_dr lt_add_r lt_add_r2 lt_add_r3 lt_add_r4 lt_add_r5 lt_add_r6
attribute [local go_sem] cell?_gd frozen?_gd setCell_gd size_grow tape_grow cell?_grow' frozen?_grow' setCell_grow' grow_grow grow_dr grow_drew dr_dr dr_drew drew_dr dr_alloc dr_setCell dr_cell dr_frozen dr_tape dr_drawn
attribute [local irreducible] wpSteady
attribute [local go_sem] Oper.semAt_some

/-- Twice the area. -/
def crs2 (a b : Pt) : Int := a.1 * b.2 - a.2 * b.1
def sumI (ps : List Pt) (is : List Nat) : Int := (is.map fun i => crs2 (cor ps i) (cor ps (i + 1))).sum
def twiceOf (ps : List Pt) : Int := sumI ps (List.range ps.length)
theorem sumI_snoc (ps : List Pt) (is : List Nat) (i : Nat) : sumI ps (is ++ [i]) = sumI ps is + crs2 (cor ps i) (cor ps (i + 1)) := by unfold sumI; simp
theorem crs2_bd {a b : Pt} (ha : a.ok = true) (hb : b.ok = true) : (-1000000000000 ≤ a.1 * b.2 ∧ a.1 * b.2 ≤ 1000000000000) ∧ (-1000000000000 ≤ a.2 * b.1 ∧ a.2 * b.1 ≤ 1000000000000) := by
  have := ok_bd ha
  have := ok_bd hb
  have h1 : -1000000000000 ≤ a.1 * b.2 ∧ a.1 * b.2 ≤ 1000000000000 := mul_bd 1000000 1000000 (by omega) (by omega)
  have h2 : -1000000000000 ≤ a.2 * b.1 ∧ a.2 * b.1 ≤ 1000000000000 := mul_bd 1000000 1000000 (by omega) (by omega)
  exact ⟨h1, h2⟩
theorem cor_ok {ps : List Pt} (h : ps.all Pt.ok = true) (i : Nat) : (cor ps i).ok = true := by
  unfold cor
  rcases Nat.eq_zero_or_pos ps.length with h0 | h0
  · obtain rfl := List.length_eq_zero_iff.1 h0
    rfl
  · rw [List.getD_eq_getElem?_getD, List.getElem?_eq_getElem (Nat.mod_lt _ h0)]
    exact List.all_eq_true.1 h _ (List.getElem_mem _)
theorem sumI_bd {ps : List Pt} (h : ps.all Pt.ok = true) : ∀ (is : List Nat), -(2000000000000 * (is.length : Int)) ≤ sumI ps is ∧ sumI ps is ≤ 2000000000000 * (is.length : Int)
  | [] => by simp [sumI]
  | i :: is => by
    have ih := sumI_bd h is
    have hb := crs2_bd (cor_ok h i) (cor_ok h (i + 1))
    have e1 : sumI ps (i :: is) = crs2 (cor ps i) (cor ps (i + 1)) + sumI ps is := by unfold sumI; simp
    rw [e1, List.length_cons]
    unfold crs2
    omega

set_option maxRecDepth 100000 in
set_option maxHeartbeats 2000000 in
theorem twice_any (ps : List Pt) (A : Option Addr) (c : Nat) (w : World) (hr : Rd w w.heap.size 2 A (ps.map encD)) (hl : ps.length ≤ 100) (hok : ps.all Pt.ok = true) :
    Calls Try.prog 27 #[.slice A ps.length c] w (Ret w (.int .i64 (twiceOf ps))) := by
  have hm := hmix
  have HR := hide hr
  have HOK := hide hok
  clear hr hok
  refine (callsIn_wide (n := 9)).1 ?_
  refine callsIn_of_wp_marks Try.func27 rfl trivial ?_ rfl
  simp only [Try.ntmps27, List.size_toArray, List.length_cons, List.length_nil, Nat.reduceAdd, Nat.reduceSub, Array.replicate_succ, Array.replicate_zero, List.push_toArray, List.append_toArray, List.nil_append, List.cons_append]
  gi_wp2_with fail
  refine ⟨trivial, ?_⟩
  refine (callsIn_wide.2 (edges_any _ _ _ _)).mono ?_
  rintro e w' ⟨rfl, rfl⟩
  dsimp only
  gi_wp2_with fail
  refine wpIn_name ?_
  intro a0 W0 ha hW
  have hg0 : Grew w W0 := by rw [← hW]; exact (by repeat (with_reducible first | exact Grew.refl _ | assumption | refine Grew.alloc ?_ _ | refine Grew.grow ?_ _ | refine Grew.dr ?_ _ | refine Grew.drewN ?_ _ | refine Grew.drew ?_ | refine Grew.trans ?_ (Hid.out (by assumption))))
  have hb0 : Boxed W0 w.heap.size 3 (.int .i64 0) := by rw [← hW]; exact (heap_alloc_old _ _ (by simp)).trans (heap_alloc_new _ _)
  have hk0 : W0.heap[w.heap.size + 1]? = some (.cells #[.slice A ps.length c] 56 (0, 0)) := by rw [← hW]; exact heap_alloc_at _ _ _ (by simp)
  have hsz : w.heap.size + 2 ≤ W0.heap.size := by rw [← hW]; simp
  clear hW
  refine wpIn_rangeFunc_ownH (n := 9) rfl (by omega) (gf := 62) (lb := #[.pointer (some ⟨w.heap.size + 1, 0, none⟩)]) (by rw [← ha]; simp [Act.eval]) trivial (enters_of Try.func62 (by kernel_rfl) rfl)
    (edges1_stops 8 w.heap.size (fun b _ => b = w.heap.size) ps A c (w.heap.size + 1) W0 (fun b _ hb => by omega) hk0 (HR.out.grew hg0 (Nat.le_refl _)) (by omega) (by omega))
    (fun h k => h.trans k) KpM.bk (Below.refl _ _) (fun _ => rfl)
    (fun pre W => Below w.heap.size w W ∧ Boxed W w.heap.size 3 (.int .i64 (sumI ps (pre.map Fin.val))))
    (fun _ _ _ => False)
    (OwnFrom.and (ownFrom_below (Nat.le_refl _) hg0.below.size) (Own.from (boxed_own _ _ _) _))
    (fun q => ownFrom_pure _)
    ⟨hg0.below, hb0⟩
    (fun x a' W => ∃ B, W.heap[B]? = some (.cells #[.int .i64 (cor ps x.1).1, .int .i64 (cor ps x.1).2, .int .i64 (cor ps (x.1 + 1)).1, .int .i64 (cor ps (x.1 + 1)).2] 66 (0, 0)) ∧ B ≠ w.heap.size ∧ a' = { tmps := ((a0.tmps.setIfInBounds 8 (.int .i64 (x.1 : Nat))).setIfInBounds 9 (.agg #[.int .i64 (cor ps x.1).1, .int .i64 (cor ps x.1).2, .int .i64 (cor ps (x.1 + 1)).1, .int .i64 (cor ps (x.1 + 1)).2])).setIfInBounds 5 (.pointer (some ⟨B, 0, none⟩)), defers := [] })
    (fun x a' => by
      rintro s X Y row ⟨B, h1, h2⟩ hg hr
      exact ⟨B, cells_own h1 hg (fun r e => (hr r e).2), h2⟩)
    ?assign ?body ?done ?stop
  case assign =>
    rintro l pre x W K ⟨hB, hb⟩ hK
    rw [show encE ps x = #[.int .i64 (x.1 : Nat), .agg #[.int .i64 (cor ps x.1).1, .int .i64 (cor ps x.1).2, .int .i64 (cor ps (x.1 + 1)).1, .int .i64 (cor ps (x.1 + 1)).2]] from rfl, asg2]
    subst ha
    simp only [List.setIfInBounds_toArray, List.set_cons_succ, List.set_cons_zero] at hK ⊢
    have hKK := hide hK
    have hbl := blk_lt hb
    clear hK
    gi_wp2_with fail
    exact hKK.out _ _ ((KeepsOthers.alloc _ _).from _) (KpM.grew (Grew.alloc (Grew.refl _) _)) ⟨hB.alloc hB.size _, (heap_alloc_old _ _ hbl).trans hb⟩ ⟨W.heap.size, heap_alloc_new _ _, by omega, rfl⟩
  case body =>
    rintro l pre x a' W hl2 _ ⟨hB, hb⟩ ⟨B, hx, hBne, rfl⟩ hlt
    subst ha
    have hbd := crs2_bd (cor_ok HOK.out x.1) (cor_ok HOK.out (x.1 + 1))
    have hsb := sumI_bd HOK.out (pre.map Fin.val)
    rw [List.length_map] at hsb
    have hsn := sumI_snoc ps (pre.map Fin.val) x.1
    unfold crs2 at hsn
    obtain ⟨s, hs⟩ : ∃ s, sumI ps (pre.map Fin.val) = s := ⟨_, rfl⟩
    obtain ⟨a, ha⟩ : ∃ s, cor ps x.1 = s := ⟨_, rfl⟩
    obtain ⟨b, hb'⟩ : ∃ s, cor ps (x.1 + 1) = s := ⟨_, rfl⟩
    rw [ha, hb'] at hbd hsn
    rw [hs] at hsb hsn hb
    simp only [ha, hb'] at hx ⊢
    obtain ⟨a1, a2⟩ := a
    obtain ⟨b1, b2⟩ := b
    dsimp only at hbd hsn hx ⊢
    have c0 : W.cell? ⟨w.heap.size, 0, none⟩ = _ := hb.cell
    have f0 : W.frozen? ⟨w.heap.size, 0, none⟩ = _ := hb.frozen
    have c1 : W.cell? ⟨B, 0, none⟩ = some _ := blk_cell hx 0
    have c2 : W.cell? ⟨B, 1, none⟩ = some _ := blk_cell hx 1
    have c3 : W.cell? ⟨B, 2, none⟩ = some _ := blk_cell hx 2
    have c4 : W.cell? ⟨B, 3, none⟩ = some _ := blk_cell hx 3
    have HSN := hide hsn
    have HB := hide hB
    have Hb := hide hb
    have hsl : s ≤ 200000000000000 ∧ -200000000000000 ≤ s := by omega
    clear hB hb hx hs ha hb' hsn hsb hlt
    simp only [List.setIfInBounds_toArray, List.set_cons_succ, List.set_cons_zero]
    gi_wp2_with fail
    refine ⟨KeepsFrom.setCell _ _ _ _, KpM.set _ _ _ _ (fun _ => rfl), HB.out.setCell (p := ⟨w.heap.size, 0, none⟩) (by simp) _, ?_⟩
    rw [List.map_append, show [x].map Fin.val = [x.1] from rfl, HSN.out]
    exact Hb.out.set _
  case done =>
    subst ha
    rintro D xs W hD hS ⟨hB, hb⟩ hK
    have c0 : W.cell? ⟨w.heap.size, 0, none⟩ = _ := hb.cell
    have HB := hide hB
    have HS := hide hS
    clear hB hb hS
    gi_wp2_with fail
    refine ⟨by simp, .inl ⟨_, _, rfl, run_takeDeferred hK, ?_⟩⟩
    have hb5 := HB.out.trans (belowK_b (w := w) (Nat.le_refl _) _ D _ (.deferred none) (by omega) hK rfl rfl)
    refine ⟨.int .i64 (sumI ps (xs.map Fin.val)), by simp [results, Try.results27, go_sem], ?_⟩
    exact Ret.mk' (ret_int (by rw [HS.out]; rfl)) (Grew.of_below hb5)
  case stop => exact fun _ _ _ _ _ _ h _ => h.elim
end Go.Proofs.Ytdmlnmcaihodaaa
