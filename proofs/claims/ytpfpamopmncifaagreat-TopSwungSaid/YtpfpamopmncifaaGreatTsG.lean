/- Package tide: the rows of a table, and what is between them (the iterator). -/
import Derived.Test.YtpfpamopmncifaaGreatTsF
import Derived.Test.YtpfpamopmncifaaGreatPoa
set_option linter.unusedSimpArgs false
set_option linter.unusedVariables false
set_option maxHeartbeats 8000000
set_option maxRecDepth 100000
namespace Go.Proofs.YtpfpamopmncifaaGreat
open Go.RowKit Go.Sort
attribute [local go_sem] Steady steadyUpon
attribute [local go_sem ↓] hs_dr lt_add_r lt_add_r2 lt_add_r3 lt_add_r4 lt_add_r5 lt_add_r6
attribute [local go_sem] cell?_gd frozen?_gd setCell_gd size_grow tape_grow cell?_grow' frozen?_grow' setCell_grow' grow_grow grow_dr grow_drew dr_dr dr_drew drew_dr dr_alloc dr_setCell dr_cell dr_frozen dr_tape dr_drawn
attribute [local irreducible] wpSteady
theorem cells_from {β : Type} {B Z : Nat} {T : TypeId} {f : β → Array Value} : OwnFrom B (fun (s : β) (W : World) => W.heap[Z]? = some (.cells (f s) T (0, 0))) := fun _ _ _ _ hs hg hr => cells_own hs hg (fun r e => (hr r e).2)
def atK (st sp : Int) (k : Nat) : Int := st + (k : Int) * sp
def hAt (hs : List Pt) (k : Nat) : Pt := hs.getD k (0, 0)
theorem hAt_get {hs : List Pt} {k : Nat} (h : k < hs.length) : hs[k]? = some (hAt hs k) := by unfold hAt; simp [h]
abbrev STV := (Int × Int) × (Int × Int)
def joinP (a b : Pt) : Pt := (min a.1 b.1, max a.2 b.2)
def strAt (st sp : Int) (hs : List Pt) (k : Nat) : List STV := (if 0 < k ∧ 1 < sp then [((atK st sp k - sp + 1, atK st sp k - 1), joinP (hAt hs (k - 1)) (hAt hs k))] else []) ++ [((atK st sp k, atK st sp k), hAt hs k)]
def strTo (st sp : Int) (hs : List Pt) (k : Nat) : List STV := (List.range k).flatMap (strAt st sp hs)
theorem strTo_succ (st sp : Int) (hs : List Pt) (k : Nat) : strTo st sp hs (k + 1) = strTo st sp hs k ++ strAt st sp hs k := by
 unfold strTo
 rw [List.range_succ, List.flatMap_append]
 simp
abbrev ST := { x : STV // hOk x.2 = true }
def encS (x : ST) : Array Value := #[.agg #[.int .i64 x.1.1.1, .int .i64 x.1.1.2, .int .i64 x.1.2.1, .int .i64 x.1.2.2]]
theorem inB_bd' {lo hi a b : Int} (h : inB lo hi a b = true) : spOk lo hi = true ∧ a ≤ lo ∧ lo ≤ hi ∧ hi ≤ b := by
 unfold inB at h
 rw [Bool.and_eq_true, decide_eq_true_eq] at h
 refine ⟨h.1, ?_⟩
 have := h.1
 unfold spOk at this
 rw [decide_eq_true_eq] at this
 omega
theorem hOk_bd {p : Pt} (h : hOk p = true) : spOk p.1 p.2 = true ∧ -100000 ≤ p.1 ∧ p.1 ≤ p.2 ∧ p.2 ≤ 100000 := by
 unfold hOk heiB at h
 have := inB_bd' h
 exact this
theorem join_ok {a b : Pt} (ha : hOk a = true) (hb : hOk b = true) : hOk (joinP a b) = true := by
 have h1 := hOk_bd ha
 have h2 := hOk_bd hb
 unfold hOk heiB inB spOk joinP
 rw [Bool.and_eq_true, decide_eq_true_eq, decide_eq_true_eq]
 dsimp only
 omega
theorem tdOk_at {st sp : Int} {hs : List Pt} (h : tdOk st sp hs = true) {k : Nat} (hk : k < hs.length) : hOk (hAt hs k) = true := by
 unfold tdOk at h
 rw [Bool.and_eq_true] at h
 exact List.all_eq_true.1 h.2 _ (List.mem_of_getElem? (hAt_get hk))
theorem stretches_any (st sp : Int) (A : Option Addr) (n c : Nat) (w : World) :
  Calls Tryz.prog 17 #[tdv st sp A n c] w fun e w' => e = .returned (.func (.func 37) #[] #[.pointer (some ⟨w.heap.size, 0, none⟩)]) ∧ w.alloc (.cells #[.int .i64 st, .int .i64 sp, .slice A n c] 30 (0, 0)) = w' := by
 go_enter Tryz.func17, Tryz.ntmps17
 go_wp2
 go_ret
 exact ⟨rfl, rfl⟩
theorem st1_stops (n K : Nat) (M : Nat → TypeId → Prop) (st sp : Int) (hs : List Pt) (A : Option Addr) (c B : Nat) (w : World) (hM1 : ∀ b T, M b T → K ≤ b) (hM2 : ∀ T, ¬ M B T) (hM3 : ∀ b, w.heap.size ≤ b → ¬ M b 25) (hB : w.heap[B]? = some (.cells #[.int .i64 st, .int .i64 sp, .slice A hs.length c] 30 (0, 0)))
  (hr : Rd w K 2 A (hs.map encD)) (hK : K ≤ w.heap.size) (ok : tdOk st sp hs = true) :
  SeqStopsK Fence.wide n Tryz.prog 37 #[.pointer (some ⟨B, 0, none⟩)] encS (KpM M) (fun xs => xs.map Subtype.val = strTo st sp hs hs.length) (fun _ => True) (2 * hs.length) w := by
 intro l J Jx W hW hJ hJx hY h0
 have hm := hmix
 have HOK := hide ok
 have hbase : tdBase st sp hs.length = true := by unfold tdOk at ok; rw [Bool.and_eq_true] at ok; exact ok.1
 obtain ⟨_, _, _, _, _, _, b7, b8, b9⟩ := base_yes _ _ _ hbase
 have HR := hide ((hr.below (hW.mono hK)))
 have hBW : W.heap[B]? = some _ := (hW.block B (blk_lt hB)).trans hB
 have c0 : W.cell? ⟨B, 0, none⟩ = some (.int .i64 st) := by rw [blk_cell hBW]; rfl
 have c1 : W.cell? ⟨B, 1, none⟩ = some (.int .i64 sp) := by rw [blk_cell hBW]; rfl
 have c2 : W.cell? ⟨B, 2, none⟩ = some (.slice A hs.length c) := by rw [blk_cell hBW]; rfl
 have hMK : Hid (∀ b T, b < K → ¬ M b T) := hide (fun b T hb h => by have := hM1 b T h; omega)
 have hMB : Hid (∀ T, ¬ M B T) := hide hM2
 have hMW : Hid (∀ b, w.heap.size ≤ b → ¬ M b 25) := hide hM3
 have hKW : K ≤ W.heap.size := Nat.le_trans hK hW.size
 have hwW := hW.size
 have HJ := hide hJ
 have HJx := hide hJx
 have HY := hide hY
 have H0 := hide h0
 clear hr hM1 hM2 hM3 hJ hJx hY h0 hW hB hBW ok hbase
 refine callsIn_of_wp Tryz.func37 rfl trivial ?_ rfl
 simp only [Tryz.ntmps37, List.size_toArray, List.length_cons, List.length_nil, Nat.reduceAdd, Nat.reduceSub, Array.replicate_succ, Array.replicate_zero, List.push_toArray, List.append_toArray, List.nil_append, List.cons_append]
 gi_wp2_with fail
 gi_loopw [11] (fun i wr => ∃ (k : Nat) (pre : List ST), k ≤ hs.length ∧ i = .int .i64 k ∧ pre.map Subtype.val = strTo st sp hs k ∧ pre.length ≤ 2 * k ∧ J pre wr ∧ Rd wr K 2 A (hs.map encD) ∧ wr.cell? ⟨B, 0, none⟩ = some (.int .i64 st) ∧ wr.cell? ⟨B, 1, none⟩ = some (.int .i64 sp) ∧ wr.cell? ⟨B, 2, none⟩ = some (.slice A hs.length c) ∧ W.heap.size ≤ wr.heap.size) (fun i _ => hs.length - (intOf i).toNat)
 case atStart => exact ⟨0, [], by omega, rfl, rfl, Nat.le_refl _, H0.out, HR.out, c0, c1, c2, Nat.le_refl _⟩
 case round =>
  obtain ⟨k, pre, hk, rfl, hpre, hplen, hJ, hrd, hc0, hc1, hc2, hsz⟩ := hrel
  have HPRE := hide hpre
  clear c0 c1 c2 hpre
  by_cases hlt : k < hs.length
  ·obtain ⟨p, hp⟩ : ∃ p, hAt hs k = p := ⟨_, rfl⟩
   have hpm := hAt_get hlt
   rw [hp] at hpm
   have hpo : hOk p = true := by rw [← hp]; exact tdOk_at HOK.out hlt
   obtain ⟨b, off, hA, hb, x0, x1⟩ := ptAt hrd hpm
   have hix := idx_run (cap := c) Tryz.underlying28 Tryz.sizeOf25 hA.out hlt
   have hbw : b < wr.heap.size := by omega
   have hBw : B < wr.heap.size := cell_lt hc0
   have hks1 : 0 ≤ (k : Int) * sp := Int.mul_nonneg (by omega) (by omega)
   have hks2 : (k : Int) * sp ≤ 200 * 1000 := Int.mul_le_mul (by omega) (by omega) (by omega) (by omega)
   have hst := strTo_succ st sp hs k
   unfold strAt at hst
   rw [hp] at hst
   obtain ⟨t, ht⟩ : ∃ t, atK st sp k = t := ⟨_, rfl⟩
   have ht2 : st + (k : Int) * sp = t := ht
   rw [ht] at hst
   have hmul : IntKind.i64.wrap ((k : Int) * sp) = (k : Int) * sp := by unfold IntKind.wrap; simp [IntKind.bits, IntKind.signed]; omega
   have hadd : IntKind.i64.wrap (st + (k : Int) * sp) = t := by rw [ht2]; unfold IntKind.wrap; simp [IntKind.bits, IntKind.signed]; omega
   have ht3 : 0 ≤ t ∧ t ≤ 10200000 := by omega
   have HJk := hide hJ
   have HRD := hide hrd
   have HC0 := hide hc0
   have HC1 := hide hc1
   have HC2 := hide hc2
   have HPL := hide hplen
   obtain ⟨p1, p2⟩ := p
   dsimp only at x0 x1
   clear hJ hrd hplen hks1 hks2 ht2
   by_cases hgap : 0 < k ∧ 1 < sp
   ·obtain ⟨g1, g2⟩ := hgap
    have g1' : (0 : Int) < (k : Int) := by omega
    rw [if_pos ⟨g1, g2⟩] at hst
    obtain ⟨q, hq⟩ : ∃ q, hAt hs (k - 1) = q := ⟨_, rfl⟩
    have hqm := hAt_get (hs := hs) (k := k - 1) (by omega)
    rw [hq] at hqm
    have hqo : hOk q = true := by rw [← hq]; exact tdOk_at HOK.out (by omega)
    rw [hq] at hst
    obtain ⟨b', off', hA', hb', y0, y1⟩ := ptAt HRD.out hqm
    obtain ⟨rfl, rfl⟩ : b = b' ∧ off = off' := by
     have := hA.out.symm.trans hA'.out
     injection this with this
     injection this with h1 h2
     exact ⟨h1, h2⟩
    have hix2 := idx_run (cap := c) (k := k - 1) (len := hs.length) Tryz.underlying28 Tryz.sizeOf25 hA.out (by omega)
    rw [show ((k - 1 : Nat) : Int) = (k : Int) - 1 by omega] at hix2
    have ewk : IntKind.i64.wrap ((k : Int) - 1) = (k : Int) - 1 := by unfold IntKind.wrap; simp [IntKind.bits, IntKind.signed]; omega
    have ew1 : IntKind.i64.wrap (t - sp) = t - sp := by unfold IntKind.wrap; simp [IntKind.bits, IntKind.signed]; omega
    have ew2 : IntKind.i64.wrap (t - sp + 1) = t - sp + 1 := by unfold IntKind.wrap; simp [IntKind.bits, IntKind.signed]; omega
    have ew3 : IntKind.i64.wrap (t - 1) = t - 1 := by unfold IntKind.wrap; simp [IntKind.bits, IntKind.signed]; omega
    have kj := hide (fun W' => sJoin_v q.1 q.2 p1 p2 W' (hOk_bd hqo).1 (hOk_bd hpo).1)
    obtain ⟨q1, q2⟩ := q
    obtain ⟨j, hj⟩ : ∃ j, joinP (q1, q2) (p1, p2) = j := ⟨_, rfl⟩
    have hj2 : (min q1 p1, max q2 p2) = j := hj
    have hjo : hOk j = true := by rw [← hj]; exact join_ok hqo hpo
    rw [hj] at hst
    obtain ⟨j1, j2⟩ := j
    injection hj2 with hj3 hj4
    dsimp only at y0 y1 kj
    rw [hj3, hj4] at kj
    have HST := hide hst
    have HPO := hide hpo
    have HJO := hide hjo
    clear hst hqm hq hqo hA hA' hj hj3 hj4 hpo hjo hp hpm
    gi_wp2_with fail
    refine wpW_region_qas 14 [⟨11, 12, 6, 25, .agg #[.int .i64 0, .int .i64 0]⟩] [] hm (hZ := (ZOk.cons Tryz.zeroValue25 Tryz.sizeOf25 ZOk.nil)) (h := ?_)
    repeat (refine wpSteady_step (fun K hK => ?_); go_simp; first | (refine hK _ ?_; clear hK K) | (apply Exists.intro; refine ⟨fun _ => ?_, hK _ ?_⟩; (go_at_call 18; with_reducible exact kj.out _); clear hK K))
    refine wpSteady_nil ?_
    refine ⟨(StOk.cons (by rfl) (by simp [stOpnd, Act.eval, Value.cells, Value.oneCell']) StOk.nil), LyOk.nil, ?_⟩
    rintro psq qsq Wq HWq HFq HBq
    obtain rfl : qsq = [] := HBq
    obtain ⟨p0, _, rfl, hp0, hb0, hn0, rfl⟩ := HFq
    simp only [putAll, putB, Act.put, setA]
    simp [stOpnd, Act.eval, Value.cells] at hb0
    have gc0_0 : Wq.cell? ⟨p0, 0, none⟩ = some _ := blk_cell hb0 0
    have gc0_1 : Wq.cell? ⟨p0, 1, none⟩ = some _ := blk_cell hb0 1
    have gf0 := blk_frozen hb0
    have gl0 := blk_lt hb0
    have gp0 := hide hp0
    clear hb0 hn0 hp0
    have oc := old_cell HWq
    have of := old_frozen HWq
    have ol := old_lt HWq
    replace HWq := hide HWq
    have hg5 : Grew wr Wq := Grew.trans (Grew.alloc (Grew.refl _) _) HWq.out
    have hbx : Wq.heap[wr.heap.size]? = some (.cells #[.int .i64 p1, .int .i64 p2] 25 (0, 0)) := (HWq.out.heap (by simp)).trans (heap_alloc_at _ _ _ rfl)
    have HG5 := hide hg5
    have HBX := hide hbx
    have hJ5 := HJ.out _ _ _ none HJk.out (hg5.grownBy none) (fun r hr => by cases hr)
    obtain ⟨fn1, tm1, as1, bo1, hy1, hR1⟩ := HY.out pre ⟨((t - sp + 1, t - 1), (j1, j2)), HJO.out⟩ _ hJ5 (by have := HPL.out; omega)
    rw [show encS ⟨((t - sp + 1, t - 1), (j1, j2)), HJO.out⟩ = #[.agg #[.int .i64 (t - sp + 1), .int .i64 (t - 1), .int .i64 j1, .int .i64 j2]] from rfl] at hy1
    have HR1 := hide hR1
    have HR5 := hide (HRD.out.grew hg5 (by omega))
    have HD0 := hide ((old_cell hg5 _ _ (cell_lt HC0.out)).trans HC0.out)
    have HD1 := hide ((old_cell hg5 _ _ (cell_lt HC1.out)).trans HC1.out)
    have HD2 := hide ((old_cell hg5 _ _ (cell_lt HC2.out)).trans HC2.out)
    have e1 := HD1.out
    have e2 := cell_lt e1
    have hsz5 := hg5.below.size
    clear hbx hR1 hJ5 hg5
    gi_wp2_with fail
    refine ⟨(fun h => by cases h), ?_⟩
    refine HR1.out.mono ?_
    rintro e W3 (⟨rfl, hJ3, hk3⟩ | ⟨rfl, hJx3⟩)
    ·have HRc := hide (HR5.out.kpm hk3 hMK.out)
     have HC0c := hide (hk3.cell hMB.out HD0.out)
     have HC1c := hide (hk3.cell hMB.out HD1.out)
     have HC2c := hide (hk3.cell hMB.out HD2.out)
     have HBXc := hide (hk3 _ _ _ _ (hMW.out _ (by omega)) HBX.out)
     have hb3 := blk_lt HBXc.out
     have HJc := hide hJ3
     have HETc : Hid (((pre ++ [(⟨((t - sp + 1, t - 1), (j1, j2)), HJO.out⟩ : ST)]) ++ [(⟨((t, t), (p1, p2)), HPO.out⟩ : ST)]).map Subtype.val = strTo st sp hs (k + 1)) := hide (by rw [HST.out, List.map_append, List.map_append, HPRE.out]; simp)
     have hplc : (pre ++ [(⟨((t - sp + 1, t - 1), (j1, j2)), HJO.out⟩ : ST)]).length ≤ 2 * k + 1 := by have := HPL.out; simp; omega
     generalize pre ++ [(⟨((t - sp + 1, t - 1), (j1, j2)), HJO.out⟩ : ST)] = pre2 at *
     clear hk3 hJ3 hy1
     dsimp only
     obtain ⟨fn2, tm2, as2, bo2, hy2, hR2⟩ := HY.out pre2 ⟨((t, t), (p1, p2)), HPO.out⟩ _ HJc.out (by omega)
     rw [show encS ⟨((t, t), (p1, p2)), HPO.out⟩ = #[.agg #[.int .i64 t, .int .i64 t, .int .i64 p1, .int .i64 p2]] from rfl] at hy2
     have HR2 := hide hR2
     have z0 := blk_cell HBXc.out 0
     have z1 := blk_cell HBXc.out 1
     clear hR2
     gi_wp2_with fail
     refine ⟨(fun h => by cases h), ?_⟩
     refine HR2.out.mono ?_
     rintro e W4 (⟨rfl, hJ4, hk4⟩ | ⟨rfl, hJx4⟩)
     ·have HRd := hide (HRc.out.kpm hk4 hMK.out)
      have HC0d := hide (hk4.cell hMB.out HC0c.out)
      have HC1d := hide (hk4.cell hMB.out HC1c.out)
      have HC2d := hide (hk4.cell hMB.out HC2c.out)
      have hb4 := blk_lt (hk4 _ _ _ _ (hMW.out _ (by omega)) HBXc.out)
      have HJ4 := hide hJ4
      clear hJ4 hk4 hy2
      dsimp only
      gi_wp2_with fail
      go_roundw
      case rel => exact ⟨k + 1, _, by omega, by go_num, HETc.out, by simp; omega, HJ4.out, HRd.out, HC0d.out, HC1d.out, HC2d.out, by omega⟩
      case measure => simp [intOf]; omega
     ·have HX := hide hJx4
      clear hJx4 hy2
      dsimp only
      gi_wp2_with fail
      refine bodyPost_ret (results_none rfl _ _ _) rfl ?_
      exact ⟨⟨_, rfl⟩, .inr ⟨_, trivial, HX.out⟩⟩
    ·have HX := hide hJx3
     clear hJx3 hy1
     dsimp only
     gi_wp2_with fail
     refine bodyPost_ret (results_none rfl _ _ _) rfl ?_
     exact ⟨⟨_, rfl⟩, .inr ⟨_, trivial, HX.out⟩⟩
   ·rw [if_neg hgap, List.nil_append] at hst
    have HST := hide hst
    have HPO := hide hpo
    have hg5 : Grew wr (wr.alloc (.cells #[.int .i64 p1, .int .i64 p2] 25)) := Grew.alloc (Grew.refl _) _
    obtain ⟨W3, hW3⟩ : ∃ W3, wr.alloc (.cells #[.int .i64 p1, .int .i64 p2] 25) = W3 := ⟨_, rfl⟩
    have hbx : W3.heap[wr.heap.size]? = some (.cells #[.int .i64 p1, .int .i64 p2] 25 (0, 0)) := by rw [← hW3]; exact heap_alloc_at _ _ _ rfl
    rw [hW3] at hg5
    have HBXc := hide hbx
    have HJc := hide (HJ.out _ _ _ none HJk.out (hg5.grownBy none) (fun r hr => by cases hr))
    have HRc := hide (HRD.out.grew hg5 (by omega))
    have HC0c := hide ((old_cell hg5 _ _ (cell_lt HC0.out)).trans HC0.out)
    have HC1c := hide ((old_cell hg5 _ _ (cell_lt HC1.out)).trans HC1.out)
    have HC2c := hide ((old_cell hg5 _ _ (cell_lt HC2.out)).trans HC2.out)
    have HETc : Hid ((pre ++ [(⟨((t, t), (p1, p2)), HPO.out⟩ : ST)]).map Subtype.val = strTo st sp hs (k + 1)) := hide (by rw [HST.out, List.map_append, HPRE.out]; simp)
    have hplc : pre.length ≤ 2 * k + 1 := by have := HPL.out; omega
    have hb3 := blk_lt HBXc.out
    obtain ⟨pre2, hpre2⟩ : ∃ l, l = pre := ⟨pre, rfl⟩
    rw [← hpre2] at HJc HETc hplc
    have hg1 : ¬ (0 : Int) < (k : Int) ∨ ((0 : Int) < (k : Int) ∧ ¬ 1 < sp) := by omega
    have q0 := HC0c.out
    have q1 := HC1c.out
    have q2 := HC2c.out
    clear hst hg5 hbx hpo hgap hA hp hpm
    rcases hg1 with n1 | ⟨n1, h2⟩
    ·skip
     obtain ⟨fn2, tm2, as2, bo2, hy2, hR2⟩ := HY.out pre2 ⟨((t, t), (p1, p2)), HPO.out⟩ _ HJc.out (by omega)
     rw [show encS ⟨((t, t), (p1, p2)), HPO.out⟩ = #[.agg #[.int .i64 t, .int .i64 t, .int .i64 p1, .int .i64 p2]] from rfl] at hy2
     have HR2 := hide hR2
     have z0 := blk_cell HBXc.out 0
     have z1 := blk_cell HBXc.out 1
     clear hR2
     gi_wp2_with fail
     refine ⟨(fun h => by cases h), ?_⟩
     refine HR2.out.mono ?_
     rintro e W4 (⟨rfl, hJ4, hk4⟩ | ⟨rfl, hJx4⟩)
     ·have HRd := hide (HRc.out.kpm hk4 hMK.out)
      have HC0d := hide (hk4.cell hMB.out HC0c.out)
      have HC1d := hide (hk4.cell hMB.out HC1c.out)
      have HC2d := hide (hk4.cell hMB.out HC2c.out)
      have hb4 := blk_lt (hk4 _ _ _ _ (hMW.out _ (by omega)) HBXc.out)
      have HJ4 := hide hJ4
      clear hJ4 hk4 hy2
      dsimp only
      gi_wp2_with fail
      go_roundw
      case rel => exact ⟨k + 1, _, by omega, by go_num, HETc.out, by simp; omega, HJ4.out, HRd.out, HC0d.out, HC1d.out, HC2d.out, by omega⟩
      case measure => simp [intOf]; omega
     ·have HX := hide hJx4
      clear hJx4 hy2
      dsimp only
      gi_wp2_with fail
      refine bodyPost_ret (results_none rfl _ _ _) rfl ?_
      exact ⟨⟨_, rfl⟩, .inr ⟨_, trivial, HX.out⟩⟩
    ·skip
     obtain ⟨fn2, tm2, as2, bo2, hy2, hR2⟩ := HY.out pre2 ⟨((t, t), (p1, p2)), HPO.out⟩ _ HJc.out (by omega)
     rw [show encS ⟨((t, t), (p1, p2)), HPO.out⟩ = #[.agg #[.int .i64 t, .int .i64 t, .int .i64 p1, .int .i64 p2]] from rfl] at hy2
     have HR2 := hide hR2
     have z0 := blk_cell HBXc.out 0
     have z1 := blk_cell HBXc.out 1
     clear hR2
     gi_wp2_with fail
     refine ⟨(fun h => by cases h), ?_⟩
     refine HR2.out.mono ?_
     rintro e W4 (⟨rfl, hJ4, hk4⟩ | ⟨rfl, hJx4⟩)
     ·have HRd := hide (HRc.out.kpm hk4 hMK.out)
      have HC0d := hide (hk4.cell hMB.out HC0c.out)
      have HC1d := hide (hk4.cell hMB.out HC1c.out)
      have HC2d := hide (hk4.cell hMB.out HC2c.out)
      have hb4 := blk_lt (hk4 _ _ _ _ (hMW.out _ (by omega)) HBXc.out)
      have HJ4 := hide hJ4
      clear hJ4 hk4 hy2
      dsimp only
      gi_wp2_with fail
      go_roundw
      case rel => exact ⟨k + 1, _, by omega, by go_num, HETc.out, by simp; omega, HJ4.out, HRd.out, HC0d.out, HC1d.out, HC2d.out, by omega⟩
      case measure => simp [intOf]; omega
     ·have HX := hide hJx4
      clear hJx4 hy2
      dsimp only
      gi_wp2_with fail
      refine bodyPost_ret (results_none rfl _ _ _) rfl ?_
      exact ⟨⟨_, rfl⟩, .inr ⟨_, trivial, HX.out⟩⟩
  ·obtain rfl : k = hs.length := by omega
   gi_wp2
   go_end0
   exact ⟨⟨_, rfl⟩, .inl ⟨_, HPRE.out, hJ⟩⟩
end Go.Proofs.YtpfpamopmncifaaGreat
