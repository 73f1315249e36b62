/- The law TopSwung, walked. -/
import Derived.Test.YtpfpamopmncifaaGreatTsX
import Derived.Test.YtpfpamopmncifaaGreatTsO
import Derived.Deep.Cut
set_option linter.unusedSimpArgs false
set_option linter.unusedVariables false
set_option maxHeartbeats 8000000
set_option maxRecDepth 100000
namespace Go.Proofs.YtpfpamopmncifaaGreat
open Go.RowKit Go.Sort
attribute [local go_sem] Steady steadyUpon
attribute [local go_sem ↓] hs_dr lt_add_r lt_add_r2 lt_add_r3 lt_add_r4 lt_add_r5 lt_add_r6
attribute [local go_sem] cell?_gd frozen?_gd setCell_gd size_grow tape_grow cell?_grow' frozen?_grow' setCell_grow' grow_grow grow_dr grow_drew dr_dr dr_drew drew_dr dr_alloc dr_setCell dr_cell dr_frozen dr_tape dr_drawn
attribute [local irreducible] wpSteady
theorem lt_add_r7 {a b c0 c1 c2 c3 c4 c5 c6 : Nat} (h : a < b) : (a < b + c0 + c1 + c2 + c3 + c4 + c5 + c6) = True := by simp; omega
theorem lt_add_r8 {a b c0 c1 c2 c3 c4 c5 c6 c7 : Nat} (h : a < b) : (a < b + c0 + c1 + c2 + c3 + c4 + c5 + c6 + c7) = True := by simp; omega
theorem lt_add_r9 {a b c0 c1 c2 c3 c4 c5 c6 c7 c8 : Nat} (h : a < b) : (a < b + c0 + c1 + c2 + c3 + c4 + c5 + c6 + c7 + c8) = True := by simp; omega
theorem lt_add_r10 {a b c0 c1 c2 c3 c4 c5 c6 c7 c8 c9 : Nat} (h : a < b) : (a < b + c0 + c1 + c2 + c3 + c4 + c5 + c6 + c7 + c8 + c9) = True := by simp; omega
theorem lt_add_r11 {a b c0 c1 c2 c3 c4 c5 c6 c7 c8 c9 c10 : Nat} (h : a < b) : (a < b + c0 + c1 + c2 + c3 + c4 + c5 + c6 + c7 + c8 + c9 + c10) = True := by simp; omega
theorem lt_add_r12 {a b c0 c1 c2 c3 c4 c5 c6 c7 c8 c9 c10 c11 : Nat} (h : a < b) : (a < b + c0 + c1 + c2 + c3 + c4 + c5 + c6 + c7 + c8 + c9 + c10 + c11) = True := by simp; omega
theorem lt_add_r13 {a b c0 c1 c2 c3 c4 c5 c6 c7 c8 c9 c10 c11 c12 : Nat} (h : a < b) : (a < b + c0 + c1 + c2 + c3 + c4 + c5 + c6 + c7 + c8 + c9 + c10 + c11 + c12) = True := by simp; omega
theorem lt_add_r14 {a b c0 c1 c2 c3 c4 c5 c6 c7 c8 c9 c10 c11 c12 c13 : Nat} (h : a < b) : (a < b + c0 + c1 + c2 + c3 + c4 + c5 + c6 + c7 + c8 + c9 + c10 + c11 + c12 + c13) = True := by simp; omega
theorem lt_add_r15 {a b c0 c1 c2 c3 c4 c5 c6 c7 c8 c9 c10 c11 c12 c13 c14 : Nat} (h : a < b) : (a < b + c0 + c1 + c2 + c3 + c4 + c5 + c6 + c7 + c8 + c9 + c10 + c11 + c12 + c13 + c14) = True := by simp; omega
theorem lt_add_r16 {a b c0 c1 c2 c3 c4 c5 c6 c7 c8 c9 c10 c11 c12 c13 c14 c15 : Nat} (h : a < b) : (a < b + c0 + c1 + c2 + c3 + c4 + c5 + c6 + c7 + c8 + c9 + c10 + c11 + c12 + c13 + c14 + c15) = True := by simp; omega
attribute [local go_sem ↓] lt_add_r7 lt_add_r8 lt_add_r9 lt_add_r10 lt_add_r11 lt_add_r12 lt_add_r13 lt_add_r14 lt_add_r15 lt_add_r16
theorem prod_bd {a b : Int} (ha : -2000000 ≤ a ∧ a ≤ 2000000) (hb : -2000000 ≤ b ∧ b ≤ 2000000) : -4000000000000 ≤ a * b ∧ a * b ≤ 4000000000000 := by
 have h1 := sq_nn (a + b)
 have h2 := sq_nn (a - b)
 have h3 := sq_abs ha.1 ha.2
 have h4 := sq_abs hb.1 hb.2
 have e1 : (a + b) * (a + b) = a * a + b * b + 2 * (a * b) := by grind
 have e2 : (a - b) * (a - b) = a * a + b * b - 2 * (a * b) := by grind
 omega
theorem roots_ex {m : Dm} (h : dmOk m = true) : ∃ s g, rootP (strOf m) s ∧ s ≤ 5000000 ∧ rootP (2 * nTo m 4 * nTo m 4) g ∧ g ≤ 5000000 := by
 obtain ⟨hp, _, _, _, r0, r1⟩ := dm_bd h
 obtain ⟨ha, hb, hd, he⟩ := parts_bd hp
 have hn := nTo_bd m 4
 have b1 := prod_bd ha ha
 have b2 := prod_bd hb hb
 have b3 := prod_bd hd hd
 have b4 := prod_bd he he
 have b5 := prod_bd ha hb
 have b6 := prod_bd hd he
 have hs : strOf m ≤ 25000000000000 := by unfold strOf mixOf; omega
 have hg : 2 * nTo m 4 * nTo m 4 ≤ 25000000000000 := by
  have := sq_abs (x := nTo m 4) (c := 1001) (by omega) (by omega)
  rw [Int.mul_assoc]
  omega
 obtain ⟨s, s1, s2⟩ := root_ex hs
 obtain ⟨g, g1, g2⟩ := root_ex hg
 exact ⟨s, g, s1, s2, g1, g2⟩
/-- What a carried buoy is. -/
theorem oneR_ok {m : Dm} {s g : Int} {ms ms' : List Mk} {id x y rad sym : Int} {v : Value} (h : oneR m s g ms ms' id x y rad sym = (v, 0)) :
  ∃ sy, carB m (x, y) = true ∧ dvOk id (midOf m (x, y)).1 (midOf m (x, y)).2 (grOf s rad + g) sy = true ∧ v = dv id (midOf m (x, y)).1 (midOf m (x, y)).2 (grOf s rad + g) sy := by
 unfold oneR at h
 split at h
 ·injection h with _ h; cases h
 ·split at h
  ·injection h with _ h; cases h
  ·split at h
   ·injection h with _ h; cases h
   ·split at h
    ·rename_i hc
     rw [Bool.and_eq_true] at hc
     injection h with h _
     exact ⟨_, hc.1, hc.2, h.symm⟩
    ·injection h with _ h; cases h
theorem oneR_agg (m : Dm) (s g : Int) (ms ms' : List Mk) (id x y rad sym : Int) : ∃ a0 a1 a2 a3 a4 a5 : Int, (oneR m s g ms ms' id x y rad sym).1 = .agg #[.int .i64 a0, .int .i64 a1, .int .i64 a2, .int .i64 a3, .int .i64 a4, .slice none 0 0, .int .i64 0, .int .i64 a5, .slice none 0 0] := by
 unfold oneR
 split
 ·exact ⟨_, _, _, _, _, _, rfl⟩
 ·split
  ·exact ⟨_, _, _, _, _, _, rfl⟩
  ·split
   ·exact ⟨_, _, _, _, _, _, rfl⟩
   ·split
    ·exact ⟨_, _, _, _, _, _, rfl⟩
    ·exact ⟨_, _, _, _, _, _, rfl⟩
theorem One.of {W : World} {b : Nat} {id x y rad sym : Int} {T : TypeId} (h : W.heap[b]? = some (.cells #[.int .i64 id, .int .i64 5, .int .i64 x, .int .i64 y, .int .i64 rad, .slice none 0 0, .int .i64 0, .int .i64 sym, .slice none 0 0] T (0, 0))) : One W (some ⟨b, 0, none⟩) id x y rad sym := by
 refine .inr ⟨b, 0, rfl, blk_lt h, fun k l hl j u hu => ?_⟩
 cases k with
 | zero =>
  injection hl with hl
  subst hl
  rw [Nat.zero_add, blk_cell h]
  match j, hu with
  | 0, hu => injection hu with hu; subst hu; rfl
  | 1, hu => injection hu with hu; subst hu; rfl
  | 2, hu => injection hu with hu; subst hu; rfl
  | 3, hu => injection hu with hu; subst hu; rfl
  | 4, hu => injection hu with hu; subst hu; rfl
  | 5, hu => injection hu with hu; subst hu; rfl
  | 6, hu => injection hu with hu; subst hu; rfl
  | 7, hu => injection hu with hu; subst hu; rfl
  | 8, hu => injection hu with hu; subst hu; rfl
  | j + 9, hu => simp [dcs] at hu
 | succ k => simp at hl
theorem topSwung_v (x y lo hi ch st sp : Int) (hs : List Pt) (A : Option Addr) (cA : Nat) (f u t h : Int) (p : Pt) (m : Dm) (oa : Int) (ma : List Mk) (Aa : Option Addr) (ca : Nat) (ob : Int) (mb : List Mk) (Ab : Option Addr) (cb : Nat) (sym : Int) (q : Pt) (w : World)
  (hr : Rd w w.heap.size 2 A (hs.map encD)) (hc : hs.length ≤ 100000000000000) (hra : Rd w w.heap.size 3 Aa (ma.map encM)) (hca : ma.length ≤ 100000000000000) (hrb : Rd w w.heap.size 3 Ab (mb.map encM)) (hcb : mb.length ≤ 100000000000000) :
  Calls Tryz.prog 3 #[mov x y lo hi ch, tdv st sp A hs.length cA, .int .i64 f, .int .i64 u, .int .i64 t, .int .i64 h, pt p.1 p.2, dmv m, bkv oa Aa ma.length ca, bkv ob Ab mb.length cb, .int .i64 sym, pt q.1 q.2] w (Ret w (.bool true)) := by
 have hm := hmix
 obtain ⟨fw, hfw⟩ : ∃ r, decide (hs.length ≤ 12 ∧ sp ≤ 60) = r := ⟨_, rfl⟩
 have kf := hide (fun W => tFew_v st sp A hs.length cA fw W hfw)
 clear hfw
 cases fw
 ·clear hr hra hrb hc hca hcb
  obtain ⟨m1, m2, m3, m4, m5, m6, m7⟩ := m
  go_enter Tryz.func3, Tryz.ntmps3
  go_wp2_with (first | (go_at_call 4; with_reducible refine crv (head20_v _) fun _ _ => ?_; dsimp only) | (go_at_call 5; with_reducible refine crv (kf.out _) fun _ _ => ?_; dsimp only))
  go_ret
  exact Ret.mk' rfl gw
 by_cases h1 : t < f
 ·clear hr hra hrb hc hca hcb
  obtain ⟨m1, m2, m3, m4, m5, m6, m7⟩ := m
  go_enter Tryz.func3, Tryz.ntmps3
  go_wp2_with (first | (go_at_call 4; with_reducible refine crv (head20_v _) fun _ _ => ?_; dsimp only) | (go_at_call 5; with_reducible refine crv (kf.out _) fun _ _ => ?_; dsimp only))
  go_ret
  exact Ret.mk' rfl gw
 by_cases h2 : u < t
 ·clear hr hra hrb hc hca hcb
  obtain ⟨m1, m2, m3, m4, m5, m6, m7⟩ := m
  go_enter Tryz.func3, Tryz.ntmps3
  go_wp2_with (first | (go_at_call 4; with_reducible refine crv (head20_v _) fun _ _ => ?_; dsimp only) | (go_at_call 5; with_reducible refine crv (kf.out _) fun _ _ => ?_; dsimp only))
  go_ret
  exact Ret.mk' rfl gw
 obtain ⟨⟨⟨a1, a2⟩, e1⟩, hA⟩ : ∃ r, heightOf st sp hs f u = r := ⟨_, rfl⟩
 obtain ⟨⟨⟨n1, n2⟩, e2⟩, hN⟩ : ∃ r, heightOf st sp hs t t = r := ⟨_, rfl⟩
 obtain ⟨⟨is, g⟩, hH⟩ : ∃ r, (if (mOk x y lo hi ch && (inB h h (-100000) 100000 && p.ok)) = true then (hasM ch (wat lo h) (p.1 - x) (p.2 - y), (0 : Int)) else (false, 1)) = r := ⟨_, rfl⟩
 obtain ⟨⟨fb, fe⟩, hF⟩ : ∃ r, fitsOf m p q = r := ⟨_, rfl⟩
 have k1 := hide (fun W (hg : Grew w W) => tHeight_v st sp hs A cA f u _ W (hr.up hg) hc hA)
 have k2 := hide (fun W (hg : Grew w W) => tHeight_v st sp hs A cA t t _ W (hr.up hg) hc hN)
 have k3 := hide (fun W => mHolds_v x y lo hi ch h p _ W hH)
 have k4 := hide (fun W => fits_v m p q _ W hF)
 have HB := hide (fun a b => height_both (st := st) (sp := sp) (f := f) (u := u) (t := t) (hs := hs) a b (by omega) (by omega))
 rw [hA, hN] at HB
 have HH := hide hH
 have HF := hide hF
 have HRA := hide hra
 have HRB := hide hrb
 have HCA := hide hca
 have HCB := hide hcb
 clear hr hra hrb hc hca hcb hA hN hH hF
 dsimp only at k1 k2 k3 k4 HB
 obtain ⟨p1, p2⟩ := p
 obtain ⟨q1, q2⟩ := q
 have HMM : Hid (dmOk m = true → ∃ s g, rootP (strOf m) s ∧ s ≤ 5000000 ∧ rootP (2 * nTo m 4 * nTo m 4) g ∧ g ≤ 5000000) := hide roots_ex
 go_enter Tryz.func3, Tryz.ntmps3
 go_upto_region 7 with (first | (go_at_call 4; with_reducible refine crv (head20_v _) fun _ _ => ?_; dsimp only) | (go_at_call 5; with_reducible refine crv (kf.out _) fun _ _ => ?_; dsimp only) | (go_at_call 6; with_reducible refine crv (k1.out _ gw) fun _ _ => ?_; dsimp only) | (go_at_call 6; with_reducible refine crv (k2.out _ gw) fun _ _ => ?_; dsimp only) | (go_at_call 7; with_reducible refine crv (k3.out _) fun _ _ => ?_; dsimp only))
 clear kf k1 k2 k3
 by_cases c1 : e1 = 0
 case neg =>
  have c1b : (e1 != 0) = true := by simpa using c1
  go_wp2_with fail
  go_ret
  exact Ret.mk' rfl gw
 by_cases c2 : e2 = 0
 case neg =>
  subst c1
  have c2b : (e2 != 0) = true := by simpa using c2
  go_wp2_with fail
  go_ret
  exact Ret.mk' rfl gw
 by_cases c3 : g = 0
 case neg =>
  subst c1 c2
  have c3b : (g != 0) = true := by simpa using c3
  go_wp2_with fail
  go_ret
  exact Ret.mk' rfl gw
 subst c1 c2 c3
 by_cases c4 : h < n1
 ·go_wp2_with fail
  go_ret
  exact Ret.mk' rfl gw
 by_cases c5 : n2 < h
 ·go_wp2_with fail
  go_ret
  exact Ret.mk' rfl gw
 cases is
 ·go_wp2_with fail
  go_ret
  exact Ret.mk' rfl gw
 have HC4 := hide (show a1 ≤ h by have := (HB.out rfl rfl).1; omega)
 have HOK := hide (HB.out rfl rfl).2.2
 clear HB
 go_wp2_with fail
 refine (mFeature_v x y lo hi ch a1 a2 1 sym _).mono ?_
 rintro e W1 ⟨r, c, hrad, ⟨⟨nn1, os1⟩, rfl⟩, hor⟩
 have HRAD := hide hrad
 have HOR := hide hor
 clear hrad hor c4 c5
 dsimp only
 rcases HOR.out with ⟨hcn, rfl⟩ | ⟨rfl, hd, rfl⟩ | ⟨rfl, hd, rfl⟩
 ·obtain rfl : c = 6 := by
   have hok : (mOk x y lo hi ch && inB a1 a2 (-100000) 100000) = true := by
    rw [Bool.and_eq_true]
    refine ⟨?_, ?_⟩
    ·have h5 := HH.out
     split at h5
     ·rename_i h6
      rw [Bool.and_eq_true] at h6
      exact h6.1
     ·injection h5 with h5 _; cases h5
    ·exact HOK.out
   rcases HRAD.out with ⟨h7, _⟩ | ⟨_, _, _, h7⟩ | ⟨_, _, _, _, _, _, h7⟩
   ·rw [hok] at h7; cases h7
   ·exact h7
   ·exact absurd h7 hcn
  clear hcn HOR
  dsimp only
  go_wp2_with fail
  go_ret
  exact Ret.mk' rfl gw
 ·clear hd HOR
  dsimp only
  go_wp2_with fail
  go_ret
  exact Ret.mk' rfl gw
 have hh : mOk x y lo hi ch = true ∧ Pt.ok (p1, p2) = true ∧ hasM ch (wat lo h) (p1 - x) (p2 - y) = true := by
  have h5 := HH.out
  split at h5
  ·rename_i h6
   simp only [Bool.and_eq_true] at h6
   injection h5 with h5 _
   exact ⟨h6.1, h6.2.2, h5⟩
  ·injection h5 with h5 _; cases h5
 obtain ⟨hr, hin⟩ := rad_has (p := (p1, p2)) HRAD.out HC4.out hh.2.2
 have hcov : coverD x y r (p1, p2) = true := cover_at hr (mOk_bd hh.1).1 hh.2.1 hin
 have k5 := hide (fun W => dCovers_v 1 x y r sym (p1, p2) (true, 0) W (by rw [hd, hh.2.1, hcov]; rfl))
 have HD := hide hd
 have HIN := hide hin
 have HR := hide hr
 clear hd HOR hh hin hcov HH HC4 HOK HRAD hr
 cases hbk : (dmOk m && (bkOk oa ma && bkOk ob mb))
 ·have k6 := hide (fun W (hg : Grew w W) => tFeat_bad m oa ob ma mb Aa Ab ca cb 1 x y r sym W (HRA.out.up hg) (HRB.out.up hg) HCA.out HCB.out hbk)
  clear hbk HMM HF
  obtain ⟨m1, m2, m3, m4, m5, m6, m7⟩ := m
  dsimp only at k4 k5 k6 ⊢
  go_wp2_with (first | (go_at_call 9; with_reducible refine crv (k5.out _) fun _ _ => ?_; dsimp only) | (go_at_call 10; with_reducible refine crv (k6.out _ gw) fun _ _ => ?_; dsimp only) | (go_at_call 11; with_reducible refine crv (k4.out _) fun _ _ => ?_; dsimp only))
  go_ret
  exact Ret.mk' rfl gw
 have hmo : dmOk m = true := by rw [Bool.and_eq_true] at hbk; exact hbk.1
 obtain ⟨s, g, hs1, hs2, hg1, hg2⟩ := HMM.out hmo
 obtain ⟨a0, b1, b2, b3, b4, b5, hv⟩ := oneR_agg m s g ma mb 1 x y r sym
 obtain ⟨⟨rv, re⟩, hone⟩ : ∃ z, oneR m s g ma mb 1 x y r sym = z := ⟨_, rfl⟩
 rw [hone] at hv
 dsimp only at hv
 subst hv
 have k6 := hide (fun W (hg : Grew w W) => tFeat_good m s g oa ob ma mb Aa Ab ca cb 1 x y r sym _ W (HRA.out.up hg) (HRB.out.up hg) HCA.out HCB.out hbk HD.out hs1 hg1 hs2 hg2 hone)
 by_cases d1 : re = 0
 case neg =>
  have d1b : (re != 0) = true := by simpa using d1
  clear hbk HMM HF hs1 hg1 hs2 hg2 hone hmo
  obtain ⟨m1, m2, m3, m4, m5, m6, m7⟩ := m
  dsimp only at k4 k5 k6 ⊢
  go_wp2_with (first | (go_at_call 9; with_reducible refine crv (k5.out _) fun _ _ => ?_; dsimp only) | (go_at_call 10; with_reducible refine crv (k6.out _ gw) fun _ _ => ?_; dsimp only) | (go_at_call 11; with_reducible refine crv (k4.out _) fun _ _ => ?_; dsimp only))
  go_ret
  exact Ret.mk' rfl gw
 subst d1
 by_cases d2 : fe = 0
 case neg =>
  have d2b : (fe != 0) = true := by simpa using d2
  clear hbk HMM HF hs1 hg1 hs2 hg2 hone hmo
  obtain ⟨m1, m2, m3, m4, m5, m6, m7⟩ := m
  dsimp only at k4 k5 k6 ⊢
  go_wp2_with (first | (go_at_call 9; with_reducible refine crv (k5.out _) fun _ _ => ?_; dsimp only) | (go_at_call 10; with_reducible refine crv (k6.out _ gw) fun _ _ => ?_; dsimp only) | (go_at_call 11; with_reducible refine crv (k4.out _) fun _ _ => ?_; dsimp only))
  go_ret
  exact Ret.mk' rfl gw
 subst d2
 cases fb
 ·clear hbk HMM HF hs1 hg1 hs2 hg2 hone hmo
  obtain ⟨m1, m2, m3, m4, m5, m6, m7⟩ := m
  dsimp only at k4 k5 k6 ⊢
  go_wp2_with (first | (go_at_call 9; with_reducible refine crv (k5.out _) fun _ _ => ?_; dsimp only) | (go_at_call 10; with_reducible refine crv (k6.out _ gw) fun _ _ => ?_; dsimp only) | (go_at_call 11; with_reducible refine crv (k4.out _) fun _ _ => ?_; dsimp only))
  go_ret
  exact Ret.mk' rfl gw
 have hf : Pt.ok (q1, q2) = true ∧ fitB m (p1, p2) (q1, q2) = true := by
  have h5 := HF.out
  unfold fitsOf at h5
  split at h5
  ·rename_i h6
   simp only [Bool.and_eq_true] at h6
   injection h5 with h5 _
   exact ⟨h6.2.2, h5⟩
  ·injection h5 with h5 _; cases h5
 obtain ⟨sy, hca, hda, hve⟩ := oneR_ok hone
 have hcq := carried_has hmo hs1 hg1 HR.out.1 HIN.out hca hda hf.1 hf.2
 have k7 := hide (fun W => dCovers_v 1 _ _ _ sy (q1, q2) (true, 0) W (by rw [hda, hf.1, hcq]; rfl))
 have k8 := hide (fun A' c' W (ho : One W A' _ _ _ _ _) => dShown_v 1 _ _ _ sy A' c' (q1, q2) (0, 0) W ho (by rw [hda, hf.1, hcq]; rfl))
 generalize (midOf m (x, y)).1 = mx at *
 generalize (midOf m (x, y)).2 = my at *
 generalize grOf s r + g = G at *
 rw [hve] at k6
 clear hbk HMM HF hs1 hg1 hs2 hg2 hone hmo hf hca hda hcq hve
 obtain ⟨m1, m2, m3, m4, m5, m6, m7⟩ := m
 dsimp only at k4 k5 k6 k7 k8 ⊢
 go_wp2_with (first | (go_at_call 9; with_reducible refine crv (k5.out _) fun _ _ => ?_; dsimp only) | (go_at_call 10; with_reducible refine crv (k6.out _ gw) fun _ _ => ?_; dsimp only) | (go_at_call 11; with_reducible refine crv (k4.out _) fun _ _ => ?_; dsimp only) | (go_at_call 9; with_reducible refine crv (k7.out _) fun _ _ => ?_; dsimp only) | (go_at_call 12; with_reducible refine crv (k8.out _ _ _ (One.of (heap_alloc_at _ _ _ (by simp [hs_dr])))) fun _ _ => ?_; dsimp only))
 go_ret
 exact Ret.mk' rfl gw
end Go.Proofs.YtpfpamopmncifaaGreat
