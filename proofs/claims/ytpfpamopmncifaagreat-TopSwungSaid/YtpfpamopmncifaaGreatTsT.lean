/- Package symbol: the marks that fit (an iterator). -/
import Derived.Test.YtpfpamopmncifaaGreatTsS
set_option linter.unusedSimpArgs false
set_option linter.unusedVariables false
set_option maxHeartbeats 8000000
set_option maxRecDepth 100000
namespace Go.Proofs.YtpfpamopmncifaaGreat
open Go.RowKit Go.Sort
attribute [local go_sem] Steady steadyUpon
attribute [local go_sem ↓] hs_dr lt_add_r lt_add_r2 lt_add_r3 lt_add_r4 lt_add_r5 lt_add_r6
attribute [local go_sem] cell?_gd frozen?_gd setCell_gd size_grow tape_grow cell?_grow' frozen?_grow' setCell_grow' grow_grow grow_dr grow_drew dr_dr dr_drew drew_dr dr_alloc dr_setCell dr_cell dr_frozen dr_tape dr_drawn
attribute [local irreducible] wpSteady
def fitM (m x : Mk) : Bool := decide (x.2.1 = m.2.1) && decide (m.2.2 ≤ x.2.2)
theorem fits9_v (m x : Mk) (r : Bool) (w : World) (h : fitM m x = r) : Calls Tryz.prog 80 #[mkv m, mkv x] w (Ret w (.bool r)) := by
 have hm := hmix
 subst h
 unfold fitM
 obtain ⟨m1, m2, m3⟩ := m
 obtain ⟨x1, x2, x3⟩ := x
 dsimp only
 have hcase : x2 ≠ m2 ∨ (x2 = m2 ∧ ¬ m3 ≤ x3) ∨ (x2 = m2 ∧ m3 ≤ x3) := by omega
 rcases hcase with h1 | ⟨rfl, h2⟩ | ⟨rfl, h2⟩
 ·have h1' : (x2 == m2) = false := by simpa using h1
  go_enter Tryz.func80, Tryz.ntmps80
  go_wp2_with fail
  go_ret
  exact Ret.mk' (ret_bool (by simp [*])) gw
 ·go_enter Tryz.func80, Tryz.ntmps80
  go_wp2_with fail
  go_ret
  exact Ret.mk' (ret_bool (by simp [*] <;> omega)) gw
 ·go_enter Tryz.func80, Tryz.ntmps80
  go_wp2_with fail
  go_ret
  exact Ret.mk' (ret_bool (by simp [*] <;> omega)) gw
abbrev fitF (m : Mk) : Value := .func (.func 80) #[mkv m] #[]
theorem run_store_fn2 (P : Program) (w : World) (a : Addr) (m : Mode) (f : Fn) (xs ys) : (store a (.func f xs ys) m).run P w = stored P w a (.func f xs ys) m := run_store P w a _ m rfl
attribute [local go_sem] run_store_fn2
theorem marks_any (o : Int) (A : Option Addr) (n c : Nat) (m : Mk) (w : World) :
  Calls Tryz.prog 79 #[bkv o A n c, fitF m] w fun e w' => e = .returned (.func (.func 88) #[] #[.pointer (some ⟨w.heap.size, 0, none⟩), .pointer (some ⟨w.heap.size + 1, 0, none⟩)]) ∧ (w.alloc (.cells #[.int .i64 o, .slice A n c] 35 (0, 0))).alloc (.cells #[fitF m] 135 (0, 0)) = w' := by
 go_enter Tryz.func79, Tryz.ntmps79
 go_wp2
 go_ret
 exact ⟨rfl, rfl⟩
abbrev encK (x : Mk) : Array Value := #[mkv x]
theorem mk1_stops (n K : Nat) (M : Nat → TypeId → Prop) (o : Int) (ms : List Mk) (mk : Mk) (A : Option Addr) (c B : Nat) (w : World) (hM1 : ∀ b T, M b T → K ≤ b ∧ b < w.heap.size) (hM2 : ∀ T, ¬ M B T) (hM3 : ∀ T, ¬ M (B + 1) T) (hB : w.heap[B]? = some (.cells #[.int .i64 o, .slice A ms.length c] 35 (0, 0)))
  (hF : w.heap[B + 1]? = some (.cells #[fitF mk] 135 (0, 0))) (hr : Rd w K 3 A (ms.map encM)) (hK : K ≤ w.heap.size) (hl : ms.length ≤ 100000000000000) :
  SeqStopsK Fence.wide n Tryz.prog 88 #[.pointer (some ⟨B, 0, none⟩), .pointer (some ⟨B + 1, 0, none⟩)] encK (KpM M) (fun xs => xs = ms.filter (fitM mk)) (fun _ => True) ms.length w := by
 intro l J Jx W hW hJ hJx hY h0
 have hm := hmix
 have HR := hide ((hr.below (hW.mono hK)))
 have hBW : W.heap[B]? = some _ := (hW.block B (blk_lt hB)).trans hB
 have hFW : W.heap[B + 1]? = some _ := (hW.block (B + 1) (blk_lt hF)).trans hF
 have c0 : W.cell? ⟨B, 0, none⟩ = some (.int .i64 o) := by rw [blk_cell hBW]; rfl
 have c1 : W.cell? ⟨B, 1, none⟩ = some (.slice A ms.length c) := by rw [blk_cell hBW]; rfl
 have c2 : W.cell? ⟨B + 1, 0, none⟩ = some (fitF mk) := by rw [blk_cell hFW]; rfl
 have hMK : Hid (∀ b T, b < K → ¬ M b T) := hide (fun b T hb h => by have := (hM1 b T h).1; omega)
 have hMB : Hid (∀ T, ¬ M B T) := hide hM2
 have hMF : Hid (∀ T, ¬ M (B + 1) T) := hide hM3
 have hKW : K ≤ W.heap.size := Nat.le_trans hK hW.size
 have hMW : Hid (∀ b T, w.heap.size ≤ b → ¬ M b T) := hide (fun b T hb h => by have := (hM1 b T h).2; omega)
 have hwW := hW.size
 have HJ := hide hJ
 have HJx := hide hJx
 have HY := hide hY
 have H0 := hide h0
 have kf := hide (fun (x : Mk) (r : Bool) (h : fitM mk x = r) W => fits9_v mk x r W h)
 clear hr hM1 hM2 hM3 hJ hJx hY h0 hW hB hBW hF hFW
 refine callsIn_of_wp Tryz.func88 rfl trivial ?_ rfl
 simp only [Tryz.ntmps88, List.size_toArray, List.length_cons, List.length_nil, Nat.reduceAdd, Nat.reduceSub, Array.replicate_succ, Array.replicate_zero, List.push_toArray, List.append_toArray, List.nil_append, List.cons_append]
 gi_wp2_with fail
 gi_loopw [9] (fun i wr => ∃ (k : Nat), k ≤ ms.length ∧ i = .int .i64 k ∧ J ((ms.take k).filter (fitM mk)) wr ∧ Rd wr K 3 A (ms.map encM) ∧ wr.cell? ⟨B, 0, none⟩ = some (.int .i64 o) ∧ wr.cell? ⟨B, 1, none⟩ = some (.slice A ms.length c) ∧ wr.cell? ⟨B + 1, 0, none⟩ = some (fitF mk) ∧ W.heap.size ≤ wr.heap.size) (fun i _ => ms.length - (intOf i).toNat)
 case atStart => exact ⟨0, by omega, rfl, H0.out, HR.out, c0, c1, c2, Nat.le_refl _⟩
 case round =>
  obtain ⟨k, hk, rfl, hJ, hrd, hc0, hc1, hc2, hsz⟩ := hrel
  clear c0 c1 c2
  by_cases hlt : k < ms.length
  ·obtain ⟨x, hp⟩ : ∃ x, ms[k]? = some x := ⟨_, List.getElem?_eq_getElem hlt⟩
   obtain ⟨b, off, hA, hb, x0, x1, x2⟩ := mkAt hrd hp
   have hix := idx_run (cap := c) Tryz.underlying33 Tryz.sizeOf57 hA.out hlt
   have hst : ms.take (k + 1) = ms.take k ++ [x] := by
    rw [List.take_succ_eq_append_getElem hlt]
    have := List.getElem?_eq_getElem hlt
    rw [hp] at this
    injection this with this
    rw [this]
   obtain ⟨r, hfr⟩ : ∃ r, fitM mk x = r := ⟨_, rfl⟩
   have kx := hide (fun W => kf.out x r hfr W)
   have hfl : (ms.take (k + 1)).filter (fitM mk) = (ms.take k).filter (fitM mk) ++ (if r = true then [x] else []) := by
    rw [hst, List.filter_append]
    congr 1
    simp only [List.filter, hfr]
    cases r <;> rfl
   have hpl : ((ms.take k).filter (fitM mk)).length ≤ k := Nat.le_trans (List.length_filter_le _ _) (by rw [List.length_take]; omega)
   have HFL := hide hfl
   have HJk := hide hJ
   have HRD := hide hrd
   have HC0 := hide hc0
   have HC1 := hide hc1
   have HC2 := hide hc2
   have hbw : b < wr.heap.size := by omega
   have hBw : B + 1 < wr.heap.size := cell_lt hc2
   have hBw0 : B < wr.heap.size := by omega
   obtain ⟨pre, hpre⟩ : ∃ pre, (ms.take k).filter (fitM mk) = pre := ⟨_, rfl⟩
   rw [hpre] at HJk HFL hpl
   clear hJ hrd hp hfl hfr hst hA hpre
   obtain ⟨x1', x2', x3'⟩ := x
   dsimp only at x0 x1 x2 kx
   cases r
   ·gi_wp2_with fail
    refine ⟨trivial, (fun h => by cases h), ?_⟩
    refine (callsIn_wide.2 (kx.out _)).mono ?_
    rintro e w5 ⟨rfl, ⟨n5, os5⟩, rfl⟩
    dsimp only
    have hg5 : Grew wr (grow (dr (wr.alloc (.cells #[.int .i64 x1', .int .i64 x2', .int .i64 x3'] 57)) n5) os5) := gw
    have HG5 := hide hg5
    clear hg5
    gi_wp2_with fail
    refine ⟨(fun f h => by cases h), ?_⟩
    gi_wp2_with fail
    go_roundw
    case rel => exact ⟨k + 1, by omega, by go_num, by rw [HFL.out, if_neg (fun h => by cases h), List.append_nil]; exact HJ.out _ _ _ none HJk.out (HG5.out.grownBy none) (fun r hr => by cases hr), HRD.out.grew HG5.out (by omega), (old_cell HG5.out _ _ hBw0).trans HC0.out, (old_cell HG5.out _ _ hBw0).trans HC1.out, (old_cell HG5.out _ _ hBw).trans HC2.out, Nat.le_trans hsz HG5.out.below.size⟩
    case measure => simp [intOf]; omega
   ·gi_wp2_with fail
    refine ⟨trivial, (fun h => by cases h), ?_⟩
    refine (callsIn_wide.2 (kx.out _)).mono ?_
    rintro e w5 ⟨rfl, hg4⟩
    dsimp only
    have hbx : w5.heap[wr.heap.size]? = some (.cells #[.int .i64 x1', .int .i64 x2', .int .i64 x3'] 57 (0, 0)) := (hg4.heap (by simp)).trans (heap_alloc_new _ _)
    have hg5 : Grew wr w5 := Grew.trans gw hg4
    have z0 := blk_cell hbx 0
    have z1 := blk_cell hbx 1
    have z2 := blk_cell hbx 2
    have zl := blk_lt hbx
    have HG5 := hide hg5
    have hJ5 := HJ.out _ _ _ none HJk.out (hg5.grownBy none) (fun r hr => by cases hr)
    obtain ⟨fn1, tm1, as1, bo1, hy1, hR1⟩ := HY.out pre (x1', x2', x3') _ hJ5 (by omega)
    rw [show encK (x1', x2', x3') = #[.agg #[.int .i64 x1', .int .i64 x2', .int .i64 x3']] from rfl] at hy1
    have HR1 := hide hR1
    have HR5 := hide (HRD.out.grew hg5 (by omega))
    have HD0 := hide ((old_cell hg5 _ _ hBw0).trans HC0.out)
    have HD1 := hide ((old_cell hg5 _ _ hBw0).trans HC1.out)
    have HD2 := hide ((old_cell hg5 _ _ hBw).trans HC2.out)
    have HBX := hide hbx
    have hsz5 := hg5.below.size
    clear hbx hR1 hJ5 hg5 hg4
    gi_wp2_with fail
    refine ⟨(fun h => by cases h), ?_⟩
    refine HR1.out.mono ?_
    rintro e W3 (⟨rfl, hJ3, hk3⟩ | ⟨rfl, hJx3⟩)
    ·have HRc := hide (HR5.out.kpm hk3 hMK.out)
     have HC0c := hide (hk3.cell hMB.out HD0.out)
     have HC1c := hide (hk3.cell hMB.out HD1.out)
     have HC2c := hide (hk3.cell hMF.out HD2.out)
     have hb3 := blk_lt (hk3 _ _ _ _ (hMW.out _ _ (by omega)) HBX.out)
     have HJc := hide hJ3
     clear hk3 hJ3 hy1 z0 z1 z2
     dsimp only
     gi_wp2_with fail
     go_roundw
     case rel => exact ⟨k + 1, by omega, by go_num, by rw [HFL.out, if_pos trivial]; exact HJc.out, HRc.out, HC0c.out, HC1c.out, HC2c.out, by omega⟩
     case measure => simp [intOf]; omega
    ·have HX := hide hJx3
     clear hJx3 hy1
     dsimp only
     gi_wp2_with fail
     refine bodyPost_ret (results_none rfl _ _ _) rfl ?_
     exact ⟨⟨_, rfl⟩, .inr ⟨_, trivial, HX.out⟩⟩
  ·obtain rfl : k = ms.length := by omega
   rw [List.take_length] at hJ
   gi_wp2
   go_end0
   exact ⟨⟨_, rfl⟩, .inl ⟨_, rfl, hJ⟩⟩
end Go.Proofs.YtpfpamopmncifaaGreat
