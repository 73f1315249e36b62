/- Package symbol: the translation of a mark. -/
import Derived.Test.YtpfpamopmncifaaGreatTsT
set_option linter.unusedSimpArgs false
set_option linter.unusedVariables false
set_option maxHeartbeats 16000000
set_option maxRecDepth 100000
namespace Go.Proofs.YtpfpamopmncifaaGreat
open Go.RowKit Go.Sort
attribute [local go_sem] Steady steadyUpon
attribute [local go_sem ↓] hs_dr lt_add_r lt_add_r2 lt_add_r3 lt_add_r4 lt_add_r5 lt_add_r6
attribute [local go_sem] cell?_gd frozen?_gd setCell_gd size_grow tape_grow cell?_grow' frozen?_grow' setCell_grow' grow_grow grow_dr grow_drew dr_dr dr_drew drew_dr dr_alloc dr_setCell dr_cell dr_frozen dr_tape dr_drawn
attribute [local irreducible] wpSteady
attribute [local go_sem] Oper.semAt_some
def bstS (b x : Mk) : Mk := if x.2.2 < b.2.2 then x else b
def bstL (l : List Mk) : Mk := l.foldl bstS (0, 0, 10)
theorem bstL_snoc (l : List Mk) (x : Mk) : bstL (l ++ [x]) = bstS (bstL l) x := by unfold bstL; rw [List.foldl_append]; rfl
def mkC (m : Mk) : Array Value := #[.int .i64 m.1, .int .i64 m.2.1, .int .i64 m.2.2]
def trOf (ms : List Mk) (m : Mk) : Mk := bstL (ms.filter (fitM m))
theorem st3_at {W : World} {b : Nat} {x y z v u t : Value} {T : TypeId} {fr : Nat × Nat} (h : W.heap[b]? = some (.cells #[x, y, z] T fr)) : (((W.setCell ⟨b, 0, none⟩ v).setCell ⟨b, 1, none⟩ u).setCell ⟨b, 2, none⟩ t).heap[b]? = some (.cells #[v, u, t] T fr) := by
 have h1 := blk_lt h
 simp [World.setCell, Array.getElem?_modify, h]
theorem run_store_fn3 (P : Program) (w : World) (a : Addr) (m : Mode) (f : Fn) (xs ys) : (store a (.func f xs ys) m).run P w = stored P w a (.func f xs ys) m := run_store P w a _ m rfl
attribute [local go_sem] run_store_fn3
theorem transl_v (o : Int) (ms : List Mk) (mk : Mk) (A : Option Addr) (c : Nat) (t : Mk) (w : World) (hr : Rd w w.heap.size 3 A (ms.map encM)) (hl : ms.length ≤ 100000000000000) (ht : trOf ms mk = t) :
  Calls Tryz.prog 68 #[bkv o A ms.length c, mkv mk] w (Ret w (.tuple #[mkv t, .bool (decide (t.2.2 ≤ 9))])) := by
 have hm := hmix
 have HR := hide hr
 have HT := hide ht
 clear hr ht
 refine (callsIn_wide (n := 9)).1 ?_
 refine callsIn_of_wp_marks Tryz.func68 rfl trivial ?_ rfl
 simp only [Tryz.ntmps68, List.size_toArray, List.length_cons, List.length_nil, Nat.reduceAdd, Nat.reduceSub, Array.replicate_succ, Array.replicate_zero, List.push_toArray, List.append_toArray, List.nil_append, List.cons_append]
 gi_wp2_with fail
 refine ⟨trivial, ?_⟩
 refine (callsIn_wide.2 (marks_any o A ms.length c mk _)).mono ?_
 rintro e w' ⟨rfl, rfl⟩
 dsimp only
 gi_wp2_with fail
 refine wpIn_name ?_
 intro a0 W0 ha hW
 obtain ⟨bx, hbx⟩ : ∃ bx : List Obj, bx = [.cells #[.int .i64 o, .slice A ms.length c] 35 (0, 0), .cells #[.int .i64 mk.1, .int .i64 mk.2.1, .int .i64 mk.2.2] 57 (0, 0), .cells #[.int .i64 0, .int .i64 0, .int .i64 0] 57 (0, 0)] := ⟨_, rfl⟩
 have hbl : bx.length = 3 := by rw [hbx]; rfl
 have hg0 : Grew w W0 := by rw [← hW]; exact gw
 have hb0 : Bx W0 w.heap.size bx := by rw [hbx, ← hW]; refine (Bx.allocs _ w).1.grew ?_; simp only [List.foldl]; exact gw
 have ho0 : W0.heap[w.heap.size + 3]? = some (.cells #[.int .i64 0, .int .i64 0, .int .i64 10] 57 (0, 0)) := by rw [← hW]; exact (heap_alloc_old _ _ (by simp)).trans ((heap_alloc_old _ _ (by simp)).trans (heap_alloc_at _ _ _ (by simp)))
 have ht0 : W0.heap[w.heap.size + 4]? = some (.cells #[.int .i64 o, .slice A ms.length c] 35 (0, 0)) := by rw [← hW]; exact (heap_alloc_old _ _ (by simp)).trans (heap_alloc_at _ _ _ (by simp))
 have hf0 : W0.heap[w.heap.size + 4 + 1]? = some (.cells #[fitF mk] 135 (0, 0)) := by rw [← hW]; exact heap_alloc_at _ _ _ (by simp)
 have hsz : W0.heap.size = w.heap.size + 6 := by rw [← hW]; simp
 have ha2 : a0.eval (.tmp 13) = .func (.func 88) #[] #[.pointer (some ⟨w.heap.size + 4, 0, none⟩), .pointer (some ⟨w.heap.size + 4 + 1, 0, none⟩)] := by rw [← ha]; simp [Act.eval]
 have HBX := hide hbx
 clear hW hbx
 refine wpIn_rangeFunc_ownH (n := 9) rfl (by omega) (gf := 88) (lb := #[.pointer (some ⟨w.heap.size + 4, 0, none⟩), .pointer (some ⟨w.heap.size + 4 + 1, 0, none⟩)]) ha2 trivial (enters_of Tryz.func88 (by kernel_rfl) rfl)
  (mk1_stops 8 w.heap.size (fun b _ => b = w.heap.size + 3) o ms mk A c (w.heap.size + 4) W0 (fun b T hb => by omega) (fun T h => by omega) (fun T h => by omega) ht0 hf0 (HR.out.grew hg0 (Nat.le_refl _)) (by omega) hl)
  (fun h k => h.trans k) KpM.bk (Below.refl _ _) (fun _ => rfl)
  (fun pre W => (Below w.heap.size w W ∧ Bx W w.heap.size bx) ∧ W.heap[w.heap.size + 3]? = some (.cells (mkC (bstL pre)) 57 (0, 0)))
  (fun e pre W => False)
  (OwnFrom.and (OwnFrom.and (ownFrom_below (Nat.le_refl _) hg0.below.size) (Bx.own (by omega))) cells_from)
  (fun q => ownFrom_pure _)
  ⟨⟨hg0.below, hb0⟩, ho0⟩
  (fun x a' W => ∃ B, w.heap.size + 3 < B ∧ W.heap[B]? = some (.cells #[.int .i64 x.1, .int .i64 x.2.1, .int .i64 x.2.2] 57 (0, 0)) ∧ a' = { tmps := (a0.tmps.setIfInBounds 14 (.agg #[.int .i64 x.1, .int .i64 x.2.1, .int .i64 x.2.2])).setIfInBounds 7 (.pointer (some ⟨B, 0, none⟩)), defers := [] })
  (fun x a' => by
   rintro s X Y row ⟨B, hZB, h1, h2⟩ hg hr
   exact ⟨B, hZB, cells_own h1 hg (fun r e => (hr r e).2), h2⟩)
  ?assign ?body ?done ?stop
 case assign =>
  rintro l pre x W K ⟨⟨hB, hb⟩, ho⟩ hK
  rw [show encK x = #[.agg #[.int .i64 x.1, .int .i64 x.2.1, .int .i64 x.2.2]] from rfl, asg1]
  subst ha
  simp only [List.setIfInBounds_toArray, List.set_cons_succ, List.set_cons_zero] at hK ⊢
  have hKK := hide hK
  have Ho := hide ho
  have lo := blk_lt ho
  clear hK ho
  gi_wp2_with fail
  have hgg : Grew W (W.alloc (.cells #[.int .i64 x.1, .int .i64 x.2.1, .int .i64 x.2.2] 57)) := gw
  exact hKK.out _ _ (hgg.keepsFrom _) (KpM.grew hgg) ⟨⟨hB.trans (hgg.below.mono hB.size), hb.grew hgg⟩, (hgg.below.block _ (blk_lt Ho.out)).trans Ho.out⟩ ⟨W.heap.size, by omega, heap_alloc_new _ _, rfl⟩
 case body =>
  rintro l pre x a' W hl2 hlp ⟨⟨hB, hb⟩, ho⟩ ⟨B, hZB, hx, rfl⟩ hlt
  subst ha
  obtain ⟨bs, hbs⟩ : ∃ b, bstL pre = b := ⟨_, rfl⟩
  obtain ⟨b', hb'⟩ : ∃ b, bstL (pre ++ [x]) = b := ⟨_, rfl⟩
  have hst : b' = bstS bs x := by rw [← hb', bstL_snoc, hbs]
  have HN := hide hb'
  rw [hbs] at ho
  have HBS := hide hbs
  clear hb' hbs
  obtain ⟨x1, x2, x3⟩ := x
  obtain ⟨b1, b2, b3⟩ := bs
  unfold mkC at ho
  unfold bstS at hst
  dsimp only at hx ho hst ⊢
  simp only [List.setIfInBounds_toArray, List.set_cons_succ, List.set_cons_zero]
  have c0 : W.cell? ⟨w.heap.size + 3, 0, none⟩ = some _ := blk_cell ho 0
  have c1 : W.cell? ⟨w.heap.size + 3, 1, none⟩ = some _ := blk_cell ho 1
  have c2 : W.cell? ⟨w.heap.size + 3, 2, none⟩ = some _ := blk_cell ho 2
  have cf := blk_frozen ho
  have d0 : W.cell? ⟨B, 0, none⟩ = some _ := blk_cell hx 0
  have d1 : W.cell? ⟨B, 1, none⟩ = some _ := blk_cell hx 1
  have d2 : W.cell? ⟨B, 2, none⟩ = some _ := blk_cell hx 2
  have lB := blk_lt hx
  have lo := blk_lt ho
  have HB := hide hB
  have Hb := hide hb
  have Ho := hide ho
  clear hB hb ho hx hlt
  by_cases hc : x3 < b3
  ·rw [if_pos hc] at hst
   have HE := hide hst
   clear hst
   gi_wp2_with fail
   refine ⟨(KeepsFrom.setCell _ _ _ _).trans ((KeepsFrom.setCell _ _ _ _).trans (KeepsFrom.setCell _ _ _ _)), (KpM.set _ _ _ _ (fun _ => rfl)).trans ((KpM.set _ _ _ _ (fun _ => rfl)).trans (KpM.set _ _ _ _ (fun _ => rfl))), ⟨((HB.out.setCell (p := ⟨w.heap.size + 3, 0, none⟩) (by dsimp only; omega) _).setCell (p := ⟨w.heap.size + 3, 1, none⟩) (by dsimp only; omega) _).setCell (p := ⟨w.heap.size + 3, 2, none⟩) (by dsimp only; omega) _, bx_set (bx_set (bx_set Hb.out (.inl (by omega))) (.inl (by omega))) (.inl (by omega))⟩, ?_⟩
   rw [HN.out, HE.out]
   exact st3_at Ho.out
  ·rw [if_neg hc] at hst
   have HE := hide hst
   clear hst
   gi_wp2_with fail
   exact ⟨KeepsFrom.refl _ _, fun b cs T fr _ h => h, ⟨HB.out, Hb.out⟩, by rw [HN.out, HE.out]; exact Ho.out⟩
 case done =>
  subst ha
  rintro D xs W hD hS ⟨⟨hB, hb⟩, ho⟩ hK
  rw [hS, show bstL (ms.filter (fitM mk)) = t from HT.out] at ho
  obtain ⟨t1, t2, t3⟩ := t
  unfold mkC at ho
  dsimp only at ho ⊢
  have hr0 := hb 2 _ (by rw [HBX.out]; rfl)
  have c0 : W.cell? ⟨w.heap.size + 3, 0, none⟩ = some _ := blk_cell ho 0
  have c1 : W.cell? ⟨w.heap.size + 3, 1, none⟩ = some _ := blk_cell ho 1
  have c2 : W.cell? ⟨w.heap.size + 3, 2, none⟩ = some _ := blk_cell ho 2
  have r0 : W.cell? ⟨w.heap.size + 2, 0, none⟩ = some _ := blk_cell hr0 0
  have r1 : W.cell? ⟨w.heap.size + 2, 1, none⟩ = some _ := blk_cell hr0 1
  have r2 : W.cell? ⟨w.heap.size + 2, 2, none⟩ = some _ := blk_cell hr0 2
  have rf := blk_frozen hr0
  have lo := blk_lt ho
  have lr := blk_lt hr0
  have HB := hide hB
  have HR0 := hide hr0
  have hKl := blk_lt hK
  have HK := hide hK
  clear hB hb ho hS hr0 hK
  gi_wp2_with fail
  gi_region
  gi_wp2_with fail
  have hK1 : ((((W.setCell ⟨w.heap.size + 1 + 1, 0, none⟩ (.int .i64 t1)).setCell ⟨w.heap.size + 1 + 1, 1, none⟩ (.int .i64 t2)).setCell ⟨w.heap.size + 1 + 1, 2, none⟩ (.int .i64 t3)).drew).heap[D]? = some (.deferred (some [])) := (KeepsOthers.setCell _ ⟨w.heap.size + 1 + 1, 2, none⟩ _).same D _ ((KeepsOthers.setCell _ ⟨w.heap.size + 1 + 1, 1, none⟩ _).same D _ ((KeepsOthers.setCell W ⟨w.heap.size + 1 + 1, 0, none⟩ (.int .i64 t1)).same D _ HK.out rfl) rfl) rfl
  refine ⟨by simp, .inl ⟨_, _, rfl, run_takeDeferred hK1, ?_⟩⟩
  have hb4 := ((HB.out.setCell (p := ⟨w.heap.size + 1 + 1, 0, none⟩) (by dsimp only; omega) (.int .i64 t1)).setCell (p := ⟨w.heap.size + 1 + 1, 1, none⟩) (by dsimp only; omega) (.int .i64 t2)).setCell (p := ⟨w.heap.size + 1 + 1, 2, none⟩) (by dsimp only; omega) (.int .i64 t3)
  have hb5 := (hb4.trans ((Grew.drew (Grew.refl _)).below.mono hb4.size)).trans (belowK_b (w := w) (Nat.le_refl _) _ D _ (.deferred none) (by omega) hK1 rfl rfl)
  have h9 : ((((W.setCell ⟨w.heap.size + 1 + 1, 0, none⟩ (.int .i64 t1)).setCell ⟨w.heap.size + 1 + 1, 1, none⟩ (.int .i64 t2)).setCell ⟨w.heap.size + 1 + 1, 2, none⟩ (.int .i64 t3)).drew).heap[w.heap.size + 1 + 1]? = some (.cells #[.int .i64 t1, .int .i64 t2, .int .i64 t3] 57 (0, 0)) := st3_at HR0.out
  have e3 := (putObj_cell (W := (((W.setCell ⟨w.heap.size + 1 + 1, 0, none⟩ (.int .i64 t1)).setCell ⟨w.heap.size + 1 + 1, 1, none⟩ (.int .i64 t2)).setCell ⟨w.heap.size + 1 + 1, 2, none⟩ (.int .i64 t3)).drew) (D := D) (i := 0) (o := .deferred none) (b := w.heap.size + 1 + 1) (by omega)).trans (blk_cell h9 0)
  have e4 := (putObj_cell (W := (((W.setCell ⟨w.heap.size + 1 + 1, 0, none⟩ (.int .i64 t1)).setCell ⟨w.heap.size + 1 + 1, 1, none⟩ (.int .i64 t2)).setCell ⟨w.heap.size + 1 + 1, 2, none⟩ (.int .i64 t3)).drew) (D := D) (i := 1) (o := .deferred none) (b := w.heap.size + 1 + 1) (by omega)).trans (blk_cell h9 1)
  have e5 := (putObj_cell (W := (((W.setCell ⟨w.heap.size + 1 + 1, 0, none⟩ (.int .i64 t1)).setCell ⟨w.heap.size + 1 + 1, 1, none⟩ (.int .i64 t2)).setCell ⟨w.heap.size + 1 + 1, 2, none⟩ (.int .i64 t3)).drew) (D := D) (i := 2) (o := .deferred none) (b := w.heap.size + 1 + 1) (by omega)).trans (blk_cell h9 2)
  refine ⟨.tuple #[mkv (t1, t2, t3), .bool (decide (t3 ≤ 9))], by simp [results, Tryz.results68, go_sem, e3, e4, e5], ?_⟩
  exact Ret.mk' rfl (Grew.of_below hb5)
 case stop =>
  rintro D e pre W hD _ h hK
  exact h.elim
end Go.Proofs.YtpfpamopmncifaaGreat
