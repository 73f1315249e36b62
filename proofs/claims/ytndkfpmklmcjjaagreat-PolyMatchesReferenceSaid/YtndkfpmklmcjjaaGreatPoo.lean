/- slices.All and slices.Backward over points: what they deliver. -/
import Derived.Test.YtndkfpmklmcjjaaGreatPod
set_option linter.unusedSimpArgs false
set_option linter.unusedVariables false
set_option maxHeartbeats 2000000
set_option maxRecDepth 100000
namespace Go.Proofs.YtndkfpmklmcjjaaGreat
open Go.RowKit Go.Sort
attribute [local go_sem] Steady steadyUpon
attribute [local go_sem ↓] hs_dr lt_add_r lt_add_r2 lt_add_r3 lt_add_r4 lt_add_r5 lt_add_r6
attribute [local go_sem] cell?_gd frozen?_gd setCell_gd size_grow tape_grow cell?_grow' frozen?_grow' setCell_grow' grow_grow grow_dr grow_drew dr_dr dr_drew drew_dr dr_alloc dr_setCell dr_cell dr_frozen dr_tape dr_drawn
attribute [local irreducible] wpSteady
attribute [local go_sem] Oper.semAt_some
abbrev OkPt := { p : Pt // p.ok = true }
def ptO (x : Nat × OkPt) : Pt := x.2.1
/-- What slices.All and slices.Backward deliver: an index and the place there. -/
def encI (x : Nat × OkPt) : Array Value := #[.int .i64 x.1, pt (ptO x).1 (ptO x).2]
theorem All_any (A : Option Addr) (n c : Nat) (w : World) :
  Calls Tryz.prog 56 #[.slice A n c] w fun e w' => e = .returned (.func (.func 93) #[] #[.pointer (some ⟨w.heap.size, 0, none⟩)]) ∧ w.alloc (.cells #[.slice A n c] 22 (0, 0)) = w' := by
 go_enter Tryz.func56, Tryz.ntmps56
 go_wp2
 go_ret
 exact ⟨rfl, rfl⟩
theorem Backward_any (A : Option Addr) (n c : Nat) (w : World) :
  Calls Tryz.prog 57 #[.slice A n c] w fun e w' => e = .returned (.func (.func 94) #[] #[.pointer (some ⟨w.heap.size, 0, none⟩)]) ∧ w.alloc (.cells #[.slice A n c] 22 (0, 0)) = w' := by
 go_enter Tryz.func57, Tryz.ntmps57
 go_wp2
 go_ret
 exact ⟨rfl, rfl⟩
/-- The iterator's contract. B: the box of the slice; the places' row lies below it. -/
theorem all1_stops (n : Nat) (M : Nat → TypeId → Prop) (ps : List Pt) (A : Option Addr) (c B : Nat) (w : World) (hM : ∀ b T, M b T → B < b) (hB : w.heap[B]? = some (.cells #[.slice A ps.length c] 22 (0, 0)))
  (hr : Rd w B 2 A (ps.map encD)) (hl : ps.length ≤ 1000000) (hok : ps.all Pt.ok = true) :
  SeqStopsK Fence.wide n Tryz.prog 93 #[.pointer (some ⟨B, 0, none⟩)] encI (KpM M) (fun xs => xs.map ptO = ps) (fun pre => ∃ k, k ≤ ps.length ∧ pre.map ptO = ps.take k) ps.length w := by
 intro l J Jx W hW hJ hJx hY h0
 have HOK := hide hok
 clear hok
 have hm := hmix
 have hBl := blk_lt hB
 have HR := hide (hr.below (hW.mono (by omega)))
 have hBW : W.heap[B]? = some _ := (hW.block B (blk_lt hB)).trans hB
 have c0 : W.cell? ⟨B, 0, none⟩ = some (.slice A ps.length c) := by rw [blk_cell hBW]; rfl
 have hMK : Hid (∀ b T, b < B → ¬ M b T) := hide (fun b T hb h => by have := hM b T h; omega)
 have hMB : Hid (∀ T, ¬ M B T) := hide (fun T h => by have := hM B T h; omega)
 have hwW := hW.size
 have HJ := hide hJ
 have HJx := hide hJx
 have HY := hide hY
 have H0 := hide h0
 clear hr hM hJ hJx hY h0 hW hB hBW
 refine callsIn_of_wp Tryz.func93 rfl trivial ?_ rfl
 simp only [Tryz.ntmps93, List.size_toArray, List.length_cons, List.length_nil, Nat.reduceAdd, Nat.reduceSub, Array.replicate_succ, Array.replicate_zero, List.push_toArray, List.append_toArray, List.nil_append, List.cons_append]
 gi_wp2_with fail
 gi_loopw [7] (fun i wr => ∃ (k : Nat) (pre : List (Nat × OkPt)), k ≤ ps.length ∧ i = .int .i64 k ∧ pre.map ptO = ps.take k ∧ pre.length = k ∧ J pre wr ∧ Rd wr B 2 A (ps.map encD) ∧ wr.cell? ⟨B, 0, none⟩ = some (.slice A ps.length c)) (fun i _ => ps.length - (intOf i).toNat)
 case atStart => exact ⟨0, [], by omega, rfl, rfl, rfl, H0.out, HR.out, c0⟩
 case round =>
  obtain ⟨k, pre, hk, rfl, hpre, hplen, hJ, hrd, hcB⟩ := hrel
  have hBw : B < wr.heap.size := cell_lt hcB
  have HPRE := hide hpre
  clear c0 hpre
  by_cases hlt : k < ps.length
  ·have hp := cor_get hlt
   obtain ⟨p, hpp⟩ : ∃ p, cor ps k = p := ⟨_, rfl⟩
   have hpo : p.ok = true := by rw [← hpp]; exact cor_ok HOK.out _
   rw [hpp] at hp
   have het : (pre ++ [(k, (⟨p, hpo⟩ : OkPt))]).map ptO = ps.take (k + 1) := by rw [List.map_append, HPRE.out, List.take_add_one, hp]; rfl
   have hpl2 : (pre ++ [(k, (⟨p, hpo⟩ : OkPt))]).length = k + 1 := by rw [List.length_append, hplen]; rfl
   obtain ⟨b, off, hA, hb, h0, h1⟩ := ptAt hrd hp
   have hix := idx_run (cap := c) Tryz.underlying22 Tryz.sizeOf24 hA.out hlt
   have hbw : b < wr.heap.size := by omega
   have hg5 : Hid (∀ W', Grew wr W' → J pre W') := hide (fun W' hg => HJ.out _ _ _ none hJ (hg.grownBy none) (fun r hr => by cases hr))
   have hy : Hid (∀ W', J pre W' → _) := hide (fun W' hj => HY.out pre (k, (⟨p, hpo⟩ : OkPt)) W' hj (by rw [hplen]; exact hlt))
   obtain ⟨p1, p2⟩ := p
   rw [show encI (k, (⟨((p1, p2) : Pt), hpo⟩ : OkPt)) = #[.int .i64 k, .agg #[.int .i64 p1, .int .i64 p2]] from rfl] at hy
   dsimp only at h0 h1
   have ew : IntKind.i64.wrap ((k : Int) + 1) = (k : Int) + 1 := by unfold IntKind.wrap; simp [IntKind.bits, IntKind.signed]; omega
   have HRD := hide hrd
   have HET := hide het
   have HPL := hide hpl2
   clear hp hpp hrd hJ hplen het hpl2
   gi_wp2_with fail
   have hJ5 := hg5.out (wr.alloc (.cells #[.int .i64 p1, .int .i64 p2] 24)) gw
   obtain ⟨fn1, tm1, as1, bo1, hy1, hR1⟩ := hy.out _ hJ5
   have hc5 := (Grew.below (w := wr) (w' := wr.alloc (.cells #[.int .i64 p1, .int .i64 p2] 24)) gw).cell (p := ⟨B, 0, none⟩) hBw |>.trans hcB
   have HC5 := hide hc5
   have hr5 := HRD.out.grew (w' := wr.alloc (.cells #[.int .i64 p1, .int .i64 p2] 24)) gw (by omega)
   have HR1 := hide hR1
   have HR5 := hide hr5
   clear hR1 hr5 hg5 hJ5 hy hc5 hcB
   gi_wp2_with fail
   rw [hy1]
   refine ⟨(fun h => by cases h), ?_⟩
   refine HR1.out.mono ?_
   rintro e W3 (⟨rfl, hJ3, hk3⟩ | ⟨rfl, hJx3⟩)
   ·have hc3 := hk3.cell hMB.out HC5.out
    have HC3 := hide hc3
    have hrd3 := HR5.out.kpm hk3 hMK.out
    have HJ3 := hide hJ3
    have HRD3 := hide hrd3
    clear hJ3 hrd3 hc3 hk3 hy1 h0 h1
    dsimp only
    gi_wp2_with fail
    go_roundw
    case rel => exact ⟨k + 1, _, by omega, by go_num, HET.out, HPL.out, HJ3.out, HRD3.out, HC3.out⟩
    case measure => simp [intOf]; omega
   ·have HX := hide hJx3
    clear hJx3 hy1
    dsimp only
    gi_wp2_with fail
    refine bodyPost_ret (results_none rfl _ _ _) rfl ?_
    exact ⟨⟨_, rfl⟩, .inr ⟨_, ⟨k + 1, by omega, HET.out⟩, HX.out⟩⟩
  ·obtain rfl : k = ps.length := by omega
   gi_wp2
   go_end0
   exact ⟨⟨_, rfl⟩, .inl ⟨_, by rw [HPRE.out, List.take_length], hJ⟩⟩
/-- The iterator's contract. B: the box of the slice; the places' row lies below it. -/
theorem backward1_stops (n : Nat) (M : Nat → TypeId → Prop) (ps : List Pt) (A : Option Addr) (c B : Nat) (w : World) (hM : ∀ b T, M b T → B < b) (hB : w.heap[B]? = some (.cells #[.slice A ps.length c] 22 (0, 0)))
  (hr : Rd w B 2 A (ps.map encD)) (hl : ps.length ≤ 1000000) (hok : ps.all Pt.ok = true) :
  SeqStopsK Fence.wide n Tryz.prog 94 #[.pointer (some ⟨B, 0, none⟩)] encI (KpM M) (fun xs => xs.map ptO = ps.reverse) (fun pre => ∃ k, k ≤ ps.length ∧ pre.map ptO = ps.reverse.take k) ps.length w := by
 intro l J Jx W hW hJ hJx hY h0
 have HOK := hide hok
 clear hok
 have hm := hmix
 have hBl := blk_lt hB
 have HR := hide (hr.below (hW.mono (by omega)))
 have hBW : W.heap[B]? = some _ := (hW.block B (blk_lt hB)).trans hB
 have c0 : W.cell? ⟨B, 0, none⟩ = some (.slice A ps.length c) := by rw [blk_cell hBW]; rfl
 have hMK : Hid (∀ b T, b < B → ¬ M b T) := hide (fun b T hb h => by have := hM b T h; omega)
 have hMB : Hid (∀ T, ¬ M B T) := hide (fun T h => by have := hM B T h; omega)
 have hwW := hW.size
 have HJ := hide hJ
 have HJx := hide hJx
 have HY := hide hY
 have H0 := hide h0
 clear hr hM hJ hJx hY h0 hW hB hBW
 refine callsIn_of_wp Tryz.func94 rfl trivial ?_ rfl
 simp only [Tryz.ntmps94, List.size_toArray, List.length_cons, List.length_nil, Nat.reduceAdd, Nat.reduceSub, Array.replicate_succ, Array.replicate_zero, List.push_toArray, List.append_toArray, List.nil_append, List.cons_append]
 gi_wp2_with fail
 gi_loopw [3] (fun i wr => ∃ (k : Nat) (pre : List (Nat × OkPt)), k ≤ ps.length ∧ i = .int .i64 ((ps.length : Int) - 1 - k) ∧ pre.map ptO = ps.reverse.take k ∧ pre.length = k ∧ J pre wr ∧ Rd wr B 2 A (ps.map encD) ∧ wr.cell? ⟨B, 0, none⟩ = some (.slice A ps.length c)) (fun i _ => (intOf i + 1).toNat)
 case atStart => exact ⟨0, [], by omega, by go_num, rfl, rfl, H0.out, HR.out, c0⟩
 case round =>
  obtain ⟨k, pre, hk, rfl, hpre, hplen, hJ, hrd, hcB⟩ := hrel
  have hBw : B < wr.heap.size := cell_lt hcB
  have HPRE := hide hpre
  clear c0 hpre
  by_cases hlt : k < ps.length
  ·obtain ⟨m, hmk⟩ : ∃ m, m + 1 + k = ps.length := ⟨ps.length - 1 - k, by omega⟩
   have hml : m < ps.length := by omega
   have hp := cor_get hml
   obtain ⟨p, hpp⟩ : ∃ p, cor ps m = p := ⟨_, rfl⟩
   have hpo : p.ok = true := by rw [← hpp]; exact cor_ok HOK.out _
   rw [hpp] at hp
   have het : (pre ++ [(m, (⟨p, hpo⟩ : OkPt))]).map ptO = ps.reverse.take (k + 1) := by
    have e : ps.reverse[k]? = some p := by
     rw [List.getElem?_reverse (by omega), show ps.length - 1 - k = m by omega]
     exact hp
    rw [List.map_append, HPRE.out, List.take_add_one, e]; rfl
   have hpl2 : (pre ++ [(m, (⟨p, hpo⟩ : OkPt))]).length = k + 1 := by rw [List.length_append, hplen]; rfl
   obtain ⟨b, off, hA, hb, h0, h1⟩ := ptAt hrd hp
   have hix := idx_run (cap := c) Tryz.underlying22 Tryz.sizeOf24 hA.out hml
   have hbw : b < wr.heap.size := by omega
   have hy := HY.out pre (m, (⟨p, hpo⟩ : OkPt)) wr hJ (by rw [hplen]; exact hlt)
   obtain ⟨p1, p2⟩ := p
   rw [show encI (m, (⟨((p1, p2) : Pt), hpo⟩ : OkPt)) = #[.int .i64 m, .agg #[.int .i64 p1, .int .i64 p2]] from rfl] at hy
   obtain ⟨fn1, tm1, as1, bo1, hy1, hR1⟩ := hy
   dsimp only at h0 h1
   have hv : (ps.length : Int) - 1 - k = (m : Int) := by omega
   have hv1 : (m : Int) - 1 = (ps.length : Int) - 1 - (k + 1 : Nat) := by omega
   rw [hv]
   have hm0 : (0 : Int) ≤ m := by omega
   have ew : IntKind.i64.wrap ((m : Int) - 1) = (m : Int) - 1 := by unfold IntKind.wrap; simp [IntKind.bits, IntKind.signed]; omega
   have HV1 := hide hv1
   have HRD := hide hrd
   have HET := hide het
   have HPL := hide hpl2
   have HR1 := hide hR1
   have HCB := hide hcB
   clear hp hpp hrd hJ hplen het hpl2 hR1 hv hv1
   gi_wp2_with fail
   refine ⟨(fun h => by cases h), ?_⟩
   refine HR1.out.mono ?_
   rintro e W3 (⟨rfl, hJ3, hk3⟩ | ⟨rfl, hJx3⟩)
   ·have hc3 := hk3.cell hMB.out HCB.out
    have HC3 := hide hc3
    have hrd3 := HRD.out.kpm hk3 hMK.out
    have HJ3 := hide hJ3
    have HRD3 := hide hrd3
    clear hJ3 hrd3 hc3 hk3 hy1 h0 h1 hcB
    dsimp only
    gi_wp2_with fail
    go_roundw
    case rel => exact ⟨k + 1, _, by omega, by rw [HV1.out], HET.out, HPL.out, HJ3.out, HRD3.out, HC3.out⟩
    case measure => simp [intOf]
   ·have HX := hide hJx3
    clear hJx3 hy1
    dsimp only
    gi_wp2_with fail
    refine bodyPost_ret (results_none rfl _ _ _) rfl ?_
    exact ⟨⟨_, rfl⟩, .inr ⟨_, ⟨k + 1, by omega, HET.out⟩, HX.out⟩⟩
  ·obtain rfl : k = ps.length := by omega
   have hv : ¬ (0 : Int) ≤ (ps.length : Int) - 1 - ps.length := by omega
   gi_wp2
   go_end0
   exact ⟨⟨_, rfl⟩, .inl ⟨_, by rw [HPRE.out, ← List.length_reverse, List.take_length], hJ⟩⟩
end Go.Proofs.YtndkfpmklmcjjaaGreat
