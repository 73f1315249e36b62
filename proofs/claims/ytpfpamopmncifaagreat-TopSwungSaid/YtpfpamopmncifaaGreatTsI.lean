/- Package tide: Height, the loop over the rows. -/
import Derived.Test.YtpfpamopmncifaaGreatTsH
set_option linter.unusedSimpArgs false
set_option linter.unusedVariables false
set_option maxHeartbeats 16000000
set_option maxRecDepth 100000
namespace Go.Proofs.YtpfpamopmncifaaGreat
open Go.RowKit Go.Sort
attribute [local go_sem] Steady steadyUpon
attribute [local go_sem ↓] hs_dr lt_add_r lt_add_r2 lt_add_r3 lt_add_r4 lt_add_r5 lt_add_r6
attribute [local go_sem] cell?_gd frozen?_gd setCell_gd size_grow tape_grow cell?_grow' frozen?_grow' setCell_grow' grow_grow grow_dr grow_drew dr_dr dr_drew drew_dr dr_alloc dr_setCell dr_cell dr_frozen dr_tape dr_drawn
attribute [local irreducible] wpSteady
attribute [local go_sem] Oper.semAt_some
def MTid (Z : Nat) (b : Nat) (T : TypeId) : Prop := b = Z ∨ b = Z + 1 ∨ (Z + 3 ≤ b ∧ T = 65)
theorem bx_set {W : World} {n0 b i : Nat} {v : Value} {os : List Obj} (h : Bx W n0 os) (hb : n0 + os.length ≤ b ∨ b < n0) : Bx (W.setCell ⟨b, i, none⟩ v) n0 os := fun j o ho => (heap_setCell_other W ⟨b, i, none⟩ (n0 + j) v (fun e => by
  have := (List.getElem?_eq_some_iff.1 ho).1
  dsimp only at e
  omega)).trans (h j o ho)
theorem st2_at {W : World} {b : Nat} {x y v u : Value} {T : TypeId} {fr : Nat × Nat} (h : W.heap[b]? = some (.cells #[x, y] T fr)) : ((W.setCell ⟨b, 0, none⟩ v).setCell ⟨b, 1, none⟩ u).heap[b]? = some (.cells #[v, u] T fr) := by
 have h1 := blk_lt h
 simp [World.setCell, Array.getElem?_modify, h]
theorem st1_at {W : World} {b : Nat} {x v : Value} {T : TypeId} {fr : Nat × Nat} (h : W.heap[b]? = some (.cells #[x] T fr)) : (W.setCell ⟨b, 0, none⟩ v).heap[b]? = some (.cells #[v] T fr) := by
 have h1 := blk_lt h
 simp [World.setCell, Array.getElem?_modify, h]
def accN (o : Option Pt) (x : Pt) : Option Pt := match o with | none => some x | some p => some (joinP p x)
theorem wpListIn_nw {F : Fence} {n : Nat} {P : Program} {ops : Array Oper} {Q : Exit → Act → World → Prop} {rest : List Oper} {a : Act} {w : World} (h : ∀ W0, w = W0 → wpListIn F n P ops Q rest a W0) : wpListIn F n P ops Q rest a w := h _ rfl
theorem KpM.setT2 {M : Nat → TypeId → Prop} (W : World) (b i j : Nat) (v u : Value) {cs : Array Value} {T : TypeId} {fr : Nat × Nat} (hb : W.heap[b]? = some (.cells cs T fr)) (h : M b T) : KpM M W ((W.setCell ⟨b, i, none⟩ v).setCell ⟨b, j, none⟩ u) := fun k cs' T' fr' hM hk => by
 by_cases e : k = b
 ·subst e
  rw [hb] at hk
  injection hk with hk
  injection hk with _ hk _
  subst hk
  exact absurd h hM
 ·rw [heap_setCell_other _ ⟨b, j, none⟩ k u (fun h => e h), heap_setCell_other W ⟨b, i, none⟩ k v (fun h => e h)]
  exact hk
theorem outC_eq (o : Option Pt) : outC o = #[.int .i64 (o.getD (0, 0)).1, .int .i64 (o.getD (0, 0)).2] := by cases o <;> rfl
theorem tHeight_good (st sp : Int) (hs : List Pt) (A : Option Addr) (c : Nat) (f u : Int) (o : Option Pt) (w : World) (hr : Rd w w.heap.size 2 A (hs.map encD)) (hc : hs.length ≤ 100000000000000) (h : okT st sp hs f u = true) (h1 : st ≤ f) (h2 : u ≤ lastT st sp hs.length) (ho : accL f u (strTo st sp hs hs.length) = o) :
  Calls Tryz.prog 6 #[tdv st sp A hs.length c, .int .i64 f, .int .i64 u] w (Ret w (.tuple #[spv (o.getD (0, 0)).1 (o.getD (0, 0)).2, .int .i64 0])) := by
 have hm := hmix
 unfold okT at h
 simp only [Bool.and_eq_true, decide_eq_true_eq] at h
 obtain ⟨h3, h4, h5, h6⟩ := h
 have hbase : tdBase st sp hs.length = true := by unfold tdOk at h3; rw [Bool.and_eq_true] at h3; exact h3.1
 obtain ⟨_, _, _, _, _, _, b7, b8, b9⟩ := base_yes _ _ _ hbase
 have k1 := hide (fun W (hg : Grew w W) => tValid_v st sp hs A c true W (hr.up hg) hc h3)
 have k2 := hide (fun W => isTime_v f true W h4)
 have k3 := hide (fun W => isTime_v u true W h5)
 have k4 := hide (fun W => last_v st sp A hs.length c W b7 b8 b9)
 have HR := hide hr
 have HTD := hide h3
 have HO := hide ho
 have n1 : ¬ u < f := by omega
 have n2 : ¬ f < st := by omega
 have n3 : ¬ lastT st sp hs.length < u := by omega
 clear hr h3 h4 h5 hbase ho h6 h1 h2
 refine (callsIn_wide (n := 9)).1 ?_
 refine callsIn_of_wp_marks Tryz.func6 rfl trivial ?_ rfl
 simp only [Tryz.ntmps6, List.size_toArray, List.length_cons, List.length_nil, Nat.reduceAdd, Nat.reduceSub, Array.replicate_succ, Array.replicate_zero, List.push_toArray, List.append_toArray, List.nil_append, List.cons_append]
 gi_wp2_with fail
 refine ⟨trivial, ?_⟩
 refine (callsIn_wide.2 (k1.out _ gw)).mono ?_
 rintro e w' ⟨rfl, ⟨n5, os5⟩, rfl⟩
 dsimp only
 gi_wp2_with fail
 refine ⟨trivial, ?_⟩
 refine (callsIn_wide.2 (k2.out _)).mono ?_
 rintro e w' ⟨rfl, ⟨n6, os6⟩, rfl⟩
 dsimp only
 gi_wp2_with fail
 refine ⟨trivial, ?_⟩
 refine (callsIn_wide.2 (k3.out _)).mono ?_
 rintro e w' ⟨rfl, ⟨n7, os7⟩, rfl⟩
 dsimp only
 gi_wp2_with fail
 refine wpW_region_qas 10 [] [] hm (h := ?_)
 repeat (refine wpSteady_step (fun K hK => ?_); go_simp; first | (refine hK _ ?_; clear hK K) | (apply Exists.intro; refine ⟨fun _ => ?_, hK _ ?_⟩; ((go_at_call 16; with_reducible exact k4.out _)); clear hK K))
 refine rqw0 fun nq osq => ?_
 try simp only [Act.put, setA]
 try dsimp only
 refine wpListIn_nw ?_
 intro V hV
 obtain ⟨bx, hbx⟩ : ∃ bx : List Obj, bx = [.cells #[.int .i64 st, .int .i64 sp, .slice A hs.length c] 30 (0, 0), .cells #[.int .i64 f] 3 (0, 0), .cells #[.int .i64 u] 3 (0, 0), .cells #[.int .i64 0, .int .i64 0] 25 (0, 0)] := ⟨_, rfl⟩
 have hv : Grew w V := by rw [← hV]; exact gw
 have hb1 : Bx V w.heap.size bx := by rw [hbx, ← hV]; refine (Bx.allocs _ w).1.grew ?_; simp only [List.foldl]; exact gw
 have hbl : bx.length = 4 := by rw [hbx]; rfl
 have hz1 : w.heap.size + 4 ≤ V.heap.size := by rw [← hV]; simp [hs_dr]; omega
 have hf0 := hb1 0 _ (by rw [hbx]; rfl)
 have g0 : V.cell? ⟨w.heap.size, 0, none⟩ = some (.int .i64 st) := blk_cell hf0 0
 have g1 : V.cell? ⟨w.heap.size, 1, none⟩ = some (.int .i64 sp) := blk_cell hf0 1
 have g2 : V.cell? ⟨w.heap.size, 2, none⟩ = some (.slice A hs.length c) := blk_cell hf0 2
 have lg : w.heap.size < V.heap.size := by omega
 have HBX := hide hbx
 clear hV hf0 hbx
 gi_wp2_with fail
 refine ⟨trivial, ?_⟩
 refine (callsIn_wide.2 (stretches_any st sp A hs.length c _)).mono ?_
 rintro e w'' ⟨rfl, rfl⟩
 dsimp only
 gi_wp2_with fail
 refine wpIn_name ?_
 intro a0 W0 ha hW
 obtain ⟨Z, hZ⟩ : ∃ Z, V.heap.size = Z := ⟨_, rfl⟩
 rw [hZ] at hz1
 have hg01 : Grew V W0 := by rw [← hW]; exact gw
 have hg0 : Grew w W0 := hv.trans hg01
 have hb0 := hb1.grew hg01
 have ho0 : W0.heap[Z]? = some (.cells #[.int .i64 0, .int .i64 0] 25 (0, 0)) := by rw [← hW, ← hZ]; exact (heap_alloc_old _ _ (by simp; omega)).trans ((heap_alloc_old _ _ (by simp)).trans (heap_alloc_new _ _))
 have hs0 : W0.heap[Z + 1]? = some (.cells #[.bool false] 4 (0, 0)) := by rw [← hW, ← hZ]; exact (heap_alloc_old _ _ (by simp)).trans (heap_alloc_at _ _ _ (by simp))
 have ht0 : W0.heap[Z + 2]? = some (.cells #[.int .i64 st, .int .i64 sp, .slice A hs.length c] 30 (0, 0)) := by rw [← hW, ← hZ]; exact heap_alloc_at _ _ _ (by simp)
 have hsz : W0.heap.size = Z + 3 := by rw [← hW, ← hZ]; simp
 have ha2 : a0.eval (.tmp 42) = .func (.func 37) #[] #[.pointer (some ⟨Z + 2, 0, none⟩)] := by rw [← ha, ← hZ]; simp [Act.eval]
 clear hW hv hb1 hg01 g0 g1 g2 lg
 refine wpIn_rangeFunc_ownH (n := 9) rfl (by omega) (gf := 37) (lb := #[.pointer (some ⟨Z + 2, 0, none⟩)]) ha2 trivial (enters_of Tryz.func37 (by kernel_rfl) rfl)
  (st1_stops 8 w.heap.size (MTid Z) st sp hs A c (Z + 2) W0 (fun b T hb => by unfold MTid at hb; omega) (fun T h => by unfold MTid at h; omega) (fun b hb h => by unfold MTid at h; rcases h with h | h | ⟨_, h⟩ <;> first | omega | exact absurd h (by decide)) ht0 (HR.out.grew hg0 (Nat.le_refl _)) (by omega) HTD.out)
  (fun h k => h.trans k) KpM.bk (Below.refl _ _) (fun _ => rfl)
  (fun pre W => (((Below w.heap.size w W ∧ Bx W w.heap.size bx) ∧ Bx W (Z + 2) [.cells #[.int .i64 st, .int .i64 sp, .slice A hs.length c] 30 (0, 0)]) ∧ W.heap[Z]? = some (.cells (outC (accL f u (pre.map Subtype.val))) 25 (0, 0))) ∧ W.heap[Z + 1]? = some (.cells (someC (accL f u (pre.map Subtype.val))) 4 (0, 0)))
  (fun e pre W => False)
  (OwnFrom.and (OwnFrom.and (OwnFrom.and (OwnFrom.and (ownFrom_below (Nat.le_refl _) hg0.below.size) (Bx.own (by omega))) (Bx.own (by simp; omega))) cells_from) cells_from)
  (fun q => ownFrom_pure _)
  ⟨⟨⟨⟨hg0.below, hb0⟩, fun i o ho => by cases i with | zero => (injection ho with ho; rw [← ho]; exact ht0) | succ i => simp at ho⟩, ho0⟩, hs0⟩
  (fun x a' W => ∃ B, Z + 3 ≤ B ∧ W.heap[B]? = some (.cells #[.int .i64 x.1.1.1, .int .i64 x.1.1.2, .int .i64 x.1.2.1, .int .i64 x.1.2.2] 65 (0, 0)) ∧ a' = { tmps := (a0.tmps.setIfInBounds 43 (.agg #[.int .i64 x.1.1.1, .int .i64 x.1.1.2, .int .i64 x.1.2.1, .int .i64 x.1.2.2])).setIfInBounds 10 (.pointer (some ⟨B, 0, none⟩)), defers := [] })
  (fun x a' => by
   rintro s X Y row ⟨B, hZB, h1, h2⟩ hg hr
   exact ⟨B, hZB, cells_own h1 hg (fun r e => (hr r e).2), h2⟩)
  ?assign ?body ?done ?stop
 case assign =>
  rintro l pre x W K ⟨⟨⟨⟨hB, hb⟩, ht⟩, ho⟩, hso⟩ hK
  rw [show encS x = #[.agg #[.int .i64 x.1.1.1, .int .i64 x.1.1.2, .int .i64 x.1.2.1, .int .i64 x.1.2.2]] from rfl, asg1]
  subst ha
  simp only [List.setIfInBounds_toArray, List.set_cons_succ, List.set_cons_zero] at hK ⊢
  have hKK := hide hK
  have l1 := blk_lt (ht 0 _ rfl)
  have Ho := hide ho
  have Hs := hide hso
  clear hK ho hso
  gi_wp2_with fail
  have hgg : Grew W (W.alloc (.cells #[.int .i64 x.1.1.1, .int .i64 x.1.1.2, .int .i64 x.1.2.1, .int .i64 x.1.2.2] 65)) := gw
  exact hKK.out _ _ (hgg.keepsFrom _) (KpM.grew hgg) ⟨⟨⟨⟨hB.trans (hgg.below.mono hB.size), hb.grew hgg⟩, ht.grew hgg⟩, (hgg.below.block _ (blk_lt Ho.out)).trans Ho.out⟩, (hgg.below.block _ (blk_lt Hs.out)).trans Hs.out⟩ ⟨W.heap.size, by omega, heap_alloc_new _ _, rfl⟩
 case body =>
  rintro l pre x a' W hl2 hlp ⟨⟨⟨⟨hB, hb⟩, ht⟩, ho⟩, hso⟩ ⟨B, hZB, hx, rfl⟩ hlt
  subst ha
  have hacc : ∀ p, accL f u (pre.map Subtype.val) = some p → hOk p = true := fun p e => accL_ok f u pre none (fun q h => by cases h) p e
  obtain ⟨o', ho'⟩ : ∃ o', accL f u ((pre ++ [x]).map Subtype.val) = o' := ⟨_, rfl⟩
  have hst : o' = accS f u (accL f u (pre.map Subtype.val)) x.1 := by rw [← ho', List.map_append, show [x].map Subtype.val = [x.1] from rfl, accL_snoc]
  obtain ⟨oo, hoo⟩ : ∃ oo, accL f u (pre.map Subtype.val) = oo := ⟨_, rfl⟩
  have HN := hide ho'
  rw [hoo] at ho hso hst hacc
  have HOO := hide hoo
  have hxo := x.2
  clear ho' hoo
  obtain ⟨xp, hxp⟩ : ∃ xp, x.1 = xp := ⟨_, rfl⟩
  have HXP := hide hxp
  rw [hxp] at hx hst hxo
  rw [hxp]
  clear hxp
  obtain ⟨⟨t1, t2⟩, ⟨p1, p2⟩⟩ := xp
  dsimp only at hx hxo ⊢
  simp only [List.setIfInBounds_toArray, List.set_cons_succ, List.set_cons_zero]
  have c1 : W.cell? ⟨w.heap.size + 1, 0, none⟩ = some (.int .i64 f) := (hb 1 _ (by rw [HBX.out]; rfl) |> fun h => blk_cell h 0)
  have c2 : W.cell? ⟨w.heap.size + 2, 0, none⟩ = some (.int .i64 u) := (hb 2 _ (by rw [HBX.out]; rfl) |> fun h => blk_cell h 0)
  have d0 : W.cell? ⟨B, 0, none⟩ = some _ := blk_cell hx 0
  have d1 : W.cell? ⟨B, 1, none⟩ = some _ := blk_cell hx 1
  have d2 : W.cell? ⟨B, 2, none⟩ = some _ := blk_cell hx 2
  have d3 : W.cell? ⟨B, 3, none⟩ = some _ := blk_cell hx 3
  have lB := blk_lt hx
  have lZ := blk_lt ho
  have lZ1 := blk_lt hso
  have l1 : w.heap.size + 1 < W.heap.size := by omega
  have l2 : w.heap.size + 2 < W.heap.size := by omega
  have HB := hide hB
  have Hb := hide hb
  have Ht := hide ht
  clear hB hb ht hlt
  by_cases hskip : t2 < f ∨ u < t1
  ·have e1 : o' = oo := by rw [hst]; unfold accS; rw [if_pos hskip]
   have Ho := hide ho
   have Hs := hide hso
   have HE := hide e1
   clear hst ho hso e1
   have hcs : t2 < f ∨ (¬ t2 < f ∧ u < t1) := by omega
   clear hskip
   rcases hcs with m1 | ⟨m1, m2⟩
   all_goals
    gi_wp2_with fail
    exact ⟨KeepsFrom.refl _ _, fun b cs T fr _ h => h, ⟨⟨⟨HB.out, Hb.out⟩, Ht.out⟩, by rw [HN.out, HE.out]; exact Ho.out⟩, by rw [HN.out, HE.out]; exact Hs.out⟩
  ·have m1 : ¬ t2 < f := by omega
   have m2 : ¬ u < t1 := by omega
   rw [show accS f u oo ((t1, t2), (p1, p2)) = accN oo (p1, p2) by unfold accS; rw [if_neg hskip]; rfl] at hst
   clear hskip
   cases oo with
   | none =>
    unfold accN at hst
    dsimp only at hst
    have HE := hide hst
    have Ho := hide ho
    have Hs := hide hso
    have c3 : W.cell? ⟨Z + 1, 0, none⟩ = some (.bool false) := blk_cell hso 0
    have c4 : W.cell? ⟨Z, 0, none⟩ = some (.int .i64 0) := blk_cell ho 0
    have c5 : W.cell? ⟨Z, 1, none⟩ = some (.int .i64 0) := blk_cell ho 1
    have f3 := blk_frozen hso 0
    have f4 := blk_frozen ho 0
    have f5 := blk_frozen ho 1
    clear hst ho hso hx
    gi_wp2_with fail
    have e2 : o' = some (p1, p2) := HE.out
    refine ⟨(KeepsFrom.setCell _ _ _ _).trans ((KeepsFrom.setCell _ _ _ _).trans (KeepsFrom.setCell _ _ _ _)), (KpM.set _ _ _ _ (fun _ => .inl rfl)).trans ((KpM.set _ _ _ _ (fun _ => .inl rfl)).trans (KpM.set _ _ _ _ (fun _ => .inr (.inl rfl)))), ⟨⟨⟨((HB.out.setCell (p := ⟨Z, 0, none⟩) (by dsimp only; omega) _).setCell (p := ⟨Z, 1, none⟩) (by dsimp only; omega) _).setCell (p := ⟨Z + 1, 0, none⟩) (by dsimp only; omega) _, bx_set (bx_set (bx_set Hb.out (.inl (by omega))) (.inl (by omega))) (.inl (by omega))⟩, bx_set (bx_set (bx_set Ht.out (.inr (by omega))) (.inr (by omega))) (.inr (by omega))⟩, ?_⟩, ?_⟩
    ·rw [HN.out, e2]
     exact (heap_setCell_other _ ⟨Z + 1, 0, none⟩ Z _ (by dsimp only; omega)).trans (st2_at Ho.out)
    ·rw [HN.out, e2]
     exact st1_at (((heap_setCell_other _ ⟨Z, 1, none⟩ (Z + 1) _ (by dsimp only; omega)).trans (heap_setCell_other _ ⟨Z, 0, none⟩ (Z + 1) _ (by dsimp only; omega))).trans Hs.out)
   | some p =>
    unfold accN at hst
    dsimp only at hst
    have HE := hide hst
    have Ho := hide ho
    have Hs := hide hso
    have Hx := hide hx
    have hpo := hacc p rfl
    have kj := hide (fun W' => sJoin_v p.1 p.2 p1 p2 W' (hOk_bd hpo).1 (hOk_bd hxo).1)
    obtain ⟨q1, q2⟩ := p
    obtain ⟨j, hj⟩ : ∃ j, joinP (q1, q2) (p1, p2) = j := ⟨_, rfl⟩
    have hj2 : (min q1 p1, max q2 p2) = j := hj
    rw [hj] at HE
    obtain ⟨j1, j2⟩ := j
    injection hj2 with hj3 hj4
    dsimp only at kj ho hso
    rw [hj3, hj4] at kj
    have c3 : W.cell? ⟨Z + 1, 0, none⟩ = some (.bool true) := blk_cell hso 0
    have c4 : W.cell? ⟨Z, 0, none⟩ = some (.int .i64 q1) := blk_cell ho 0
    have c5 : W.cell? ⟨Z, 1, none⟩ = some (.int .i64 q2) := blk_cell ho 1
    have f3 := blk_frozen hso 0
    have f4 := blk_frozen ho 0
    have f5 := blk_frozen ho 1
    have f6 := blk_frozen hx 2
    have f7 := blk_frozen hx 3
    clear hst ho hso hx hj hj3 hj4 hpo hxo hacc
    gi_wp2_with fail
    refine ⟨trivial, ?_⟩
    refine (CallsIn.inRound l (callsIn_wide.2 (kj.out _))).mono ?_
    rintro e w9 ⟨rfl, ⟨n9, os9⟩, rfl⟩
    dsimp only
    gi_wp2_with fail
    have e2 : o' = some (j1, j2) := HE.out
    have hne1 : Z ≠ B := by omega
    have hne2 : Z + 1 ≠ B := by omega
    refine ⟨(KeepsFrom.setCell _ _ _ _).trans ((KeepsFrom.setCell _ _ _ _).trans ((KeepsFrom.setCell _ _ _ _).trans ((KeepsFrom.setCell _ _ _ _).trans ((KeepsFrom.setCell _ _ _ _).trans ((Grew.mk _ _ _).keepsFrom _))))), (KpM.setT2 _ _ _ _ _ _ Hx.out (.inr (.inr ⟨hZB, rfl⟩))).trans ((KpM.set _ _ _ _ (fun _ => .inl rfl)).trans ((KpM.set _ _ _ _ (fun _ => .inl rfl)).trans ((KpM.set _ _ _ _ (fun _ => .inr (.inl rfl))).trans (KpM.grew (Grew.mk _ _ _))))), ⟨⟨⟨?_, (bx_set (bx_set (bx_set (bx_set (bx_set Hb.out (.inl (by omega))) (.inl (by omega))) (.inl (by omega))) (.inl (by omega))) (.inl (by omega))).grew (Grew.mk _ _ _)⟩, (bx_set (bx_set (bx_set (bx_set (bx_set Ht.out (.inl (by simp; omega))) (.inl (by simp; omega))) (.inr (by omega))) (.inr (by omega))) (.inr (by omega))).grew (Grew.mk _ _ _)⟩, ?_⟩, ?_⟩
    ·have h5 := ((((HB.out.setCell (p := ⟨B, 2, none⟩) (by dsimp only; omega) (.int .i64 j1)).setCell (p := ⟨B, 3, none⟩) (by dsimp only; omega) (.int .i64 j2)).setCell (p := ⟨Z, 0, none⟩) (by dsimp only; omega) (.int .i64 j1)).setCell (p := ⟨Z, 1, none⟩) (by dsimp only; omega) (.int .i64 j2)).setCell (p := ⟨Z + 1, 0, none⟩) (by dsimp only; omega) (.bool true)
     exact h5.trans ((Grew.mk _ _ _).below.mono h5.size)
    ·rw [HN.out, e2]
     refine (heap_grow_old _ _ (by simp [hs_dr]; omega)).trans ?_
     exact (heap_setCell_other _ ⟨Z + 1, 0, none⟩ Z _ (by dsimp only; omega)).trans (st2_at ((heap_setCell_other _ ⟨B, 3, none⟩ Z _ hne1).trans ((heap_setCell_other _ ⟨B, 2, none⟩ Z _ hne1).trans Ho.out)))
    ·rw [HN.out, e2]
     refine (heap_grow_old _ _ (by simp [hs_dr]; omega)).trans ?_
     exact st1_at (((heap_setCell_other _ ⟨Z, 1, none⟩ (Z + 1) _ (by dsimp only; omega)).trans (heap_setCell_other _ ⟨Z, 0, none⟩ (Z + 1) _ (by dsimp only; omega))).trans ((heap_setCell_other _ ⟨B, 3, none⟩ (Z + 1) _ hne2).trans ((heap_setCell_other _ ⟨B, 2, none⟩ (Z + 1) _ hne2).trans Hs.out)))
 case done =>
  subst ha
  rintro D xs W hD hS ⟨⟨⟨⟨hB, hb⟩, ht⟩, ho⟩, hso⟩ hK
  rw [hS, HO.out, outC_eq] at ho
  obtain ⟨⟨q1, q2⟩, hq⟩ : ∃ q, o.getD (0, 0) = q := ⟨_, rfl⟩
  rw [hq] at ho ⊢
  dsimp only at ho ⊢
  have hr0 := hb 3 _ (by rw [HBX.out]; rfl)
  have c4 : W.cell? ⟨Z, 0, none⟩ = some (.int .i64 q1) := blk_cell ho 0
  have c5 : W.cell? ⟨Z, 1, none⟩ = some (.int .i64 q2) := blk_cell ho 1
  have c6 : W.cell? ⟨w.heap.size + 3, 0, none⟩ = some (.int .i64 0) := blk_cell hr0 0
  have c7 : W.cell? ⟨w.heap.size + 3, 1, none⟩ = some (.int .i64 0) := blk_cell hr0 1
  have f6 := blk_frozen hr0 0
  have f7 := blk_frozen hr0 1
  have lZ := blk_lt ho
  have l6 : w.heap.size + 3 < W.heap.size := by omega
  have HB := hide hB
  have hr1 := hide hr0
  have hKl := blk_lt hK
  have HK := hide hK
  clear hB hb ht ho hso hS hr0 hK
  gi_wp2_with fail
  have hK2 := (KeepsOthers.setCell (W.setCell ⟨w.heap.size + 1 + 1 + 1, 0, none⟩ (.int .i64 q1)) ⟨w.heap.size + 1 + 1 + 1, 1, none⟩ (.int .i64 q2)).same D _ ((KeepsOthers.setCell W ⟨w.heap.size + 1 + 1 + 1, 0, none⟩ (.int .i64 q1)).same D _ HK.out rfl) rfl
  refine ⟨by simp, .inl ⟨_, _, rfl, run_takeDeferred hK2, ?_⟩⟩
  have hb5 := ((HB.out.setCell (p := ⟨w.heap.size + 1 + 1 + 1, 0, none⟩) (by dsimp only; omega) (.int .i64 q1)).setCell (p := ⟨w.heap.size + 1 + 1 + 1, 1, none⟩) (by dsimp only; omega) (.int .i64 q2)).trans (belowK_b (w := w) (Nat.le_refl _) _ D _ (.deferred none) (by omega) hK2 rfl rfl)
  have h9 : ((W.setCell ⟨w.heap.size + 1 + 1 + 1, 0, none⟩ (.int .i64 q1)).setCell ⟨w.heap.size + 1 + 1 + 1, 1, none⟩ (.int .i64 q2)).heap[w.heap.size + 1 + 1 + 1]? = some (.cells #[.int .i64 q1, .int .i64 q2] 25 (0, 0)) := st2_at hr1.out
  have e3 := (putObj_cell (W := (W.setCell ⟨w.heap.size + 1 + 1 + 1, 0, none⟩ (.int .i64 q1)).setCell ⟨w.heap.size + 1 + 1 + 1, 1, none⟩ (.int .i64 q2)) (D := D) (i := 0) (o := .deferred none) (b := w.heap.size + 1 + 1 + 1) (by omega)).trans (blk_cell h9 0)
  have e4 := (putObj_cell (W := (W.setCell ⟨w.heap.size + 1 + 1 + 1, 0, none⟩ (.int .i64 q1)).setCell ⟨w.heap.size + 1 + 1 + 1, 1, none⟩ (.int .i64 q2)) (D := D) (i := 1) (o := .deferred none) (b := w.heap.size + 1 + 1 + 1) (by omega)).trans (blk_cell h9 1)
  refine ⟨.tuple #[spv q1 q2, .int .i64 0], by simp [results, Tryz.results6, go_sem, e3, e4], ?_⟩
  exact Ret.mk' (by first | rfl | (rw [hq])) (Grew.of_below hb5)
 case stop =>
  rintro D e pre W hD _ h hK
  exact h.elim
theorem tHeight_v (st sp : Int) (hs : List Pt) (A : Option Addr) (c : Nat) (f u : Int) (r : Pt × Int) (w : World) (hr : Rd w w.heap.size 2 A (hs.map encD)) (hc : hs.length ≤ 100000000000000) (h : heightOf st sp hs f u = r) :
  Calls Tryz.prog 6 #[tdv st sp A hs.length c, .int .i64 f, .int .i64 u] w (Ret w (.tuple #[spv r.1.1 r.1.2, .int .i64 r.2])) := by
 subst h
 cases h1 : okT st sp hs f u
 ·exact tHeight_bad st sp hs A c f u w hr hc (.inl h1)
 ·by_cases h2 : f < st ∨ lastT st sp hs.length < u
  ·exact tHeight_bad st sp hs A c f u w hr hc (.inr ⟨h1, h2⟩)
  ·have := tHeight_good st sp hs A c f u _ w hr hc h1 (by omega) (by omega) rfl
   unfold heightOf
   rw [if_pos h1, if_neg h2]
   exact this
end Go.Proofs.YtpfpamopmncifaaGreat
