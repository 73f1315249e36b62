/- The law DeriveSteps, walked. -/
import Derived.Test.YtdoiaagajkabcaaGreatRuS
import Derived.Test.YtdoiaagajkabcaaGreatDrP
import Derived.Test.YtdoiaagajkabcaaGreatSaT
set_option linter.unusedSimpArgs false
set_option linter.unusedVariables false
set_option maxHeartbeats 16000000
set_option maxRecDepth 100000
namespace Go.Proofs.YtdoiaagajkabcaaGreat
open Go.RowKit Go.Sort
attribute [local go_sem] Steady steadyUpon
attribute [local go_sem ↓] hs_dr lt_add_r lt_add_r2 lt_add_r3 lt_add_r4 lt_add_r5 lt_add_r6
attribute [local go_sem] cell?_gd frozen?_gd setCell_gd size_grow tape_grow cell?_grow' frozen?_grow' setCell_grow' grow_grow grow_dr grow_drew dr_dr dr_drew drew_dr dr_alloc dr_setCell dr_cell dr_frozen dr_tape dr_drawn
attribute [local irreducible] wpSteady
theorem ruInf : (Tryz.prog.info? 60).map (fun i => (i.zero, i.size, i.bytes)) = some (some (.agg #[.int .i64 0, .int .i64 0, .int .i64 0]), 3, 24) := by kernel_rfl
theorem ruInfo_parts : ∃ i, Tryz.prog.info? 60 = some i ∧ i.zero = some (.agg #[.int .i64 0, .int .i64 0, .int .i64 0]) ∧ i.size = 3 ∧ i.bytes = 24 := by
 have h := ruInf
 cases hi : Tryz.prog.info? 60 with
 | none => rw [hi] at h; simp at h
 | some i =>
  rw [hi] at h
  simp at h
  exact ⟨i, rfl, h.1, h.2.1, h.2.2⟩
theorem ru_one (ss : List Ru) : ∀ u ∈ ss.flatMap encR, u.oneCell' = true := by
 intro u hu
 obtain ⟨s, _, hs⟩ := List.mem_flatMap.1 hu
 simp [encR] at hs
 rcases hs with rfl | rfl | rfl <;> rfl
theorem make_len (fs : List FV) (rs : List Ru) : (makeOf fs rs).1.1.length ≤ 300 := by
 rw [(make_run fs rs).2]
 split
 ·have := chart_len (runOf rs fs).1 (capOf rs).1
  have := run_le (rs := rs) (fs := fs)
  omega
 ·simp
theorem ru_all {r1 : List Ru} {P : Ru → Prop} (h : ∀ j, j < r1.length → P (ruAt r1 j)) : ∀ r ∈ r1, P r := by
 intro r hr
 obtain ⟨k, hk, e⟩ := List.getElem_of_mem hr
 have a := ruAt_get hk
 rw [List.getElem?_eq_getElem hk, e] at a
 injection a with a
 rw [a]
 exact h k hk
theorem deriveSteps_row (fs : List FV) (A : Option Addr) (c : Nat) (r1 : List Ru) (Aa : Option Addr) (ca : Nat) (r2 : List Ru) (Ab : Option Addr) (cb : Nat) (w : World) (hr : FRd w w.heap.size A fs) (hc : fs.length ≤ 100000000000000) (hra : Rd w w.heap.size 3 Aa (r1.map encR)) (hca : r1.length ≤ 100000000000000) (hrb : Rd w w.heap.size 3 Ab (r2.map encR)) (hcb : r2.length ≤ 100000000000000) :
  Calls Tryz.prog 8 #[.slice A fs.length c, .slice Aa r1.length ca, .slice Ab r2.length cb] w (Ret w (.bool true)) := by
 have hm := hmix
 obtain ⟨fw, hfw⟩ : ∃ r, decide (fs.length ≤ 12 ∧ 0 ≤ 12 ∧ r1.length ≤ 12) = r := ⟨_, rfl⟩
 have kf := hide (fun W => few_v A none Aa fs.length 0 c 0 r1.length ca fw W hfw)
 cases fw
 ·clear hr hra hrb
  go_enter Tryz.func8, Tryz.ntmps8
  go_wp2_with (first | (go_at_call 11; with_reducible refine crv (head_v _) fun _ _ => ?_; dsimp only) | (go_at_call 12; with_reducible refine crv (kf.out _) fun _ _ => ?_; dsimp only))
  go_ret
  exact Ret.mk' rfl gw
 simp at hfw
 by_cases h12 : r2.length ≤ 12
 ·have g12 : ¬ (12 : Int) < (r2.length : Int) := by omega
  obtain ⟨hf12, ha12⟩ := hfw
  have HR := hide hr
  have HRA := hide hra
  have HRB := hide hrb
  clear hr hra hrb
  go_enter Tryz.func8, Tryz.ntmps8
  go_wp2_with (first | (go_at_call 11; with_reducible refine crv (head_v _) fun _ _ => ?_; dsimp only) | (go_at_call 12; with_reducible refine crv (kf.out _) fun _ _ => ?_; dsimp only))
  refine wp_name ?_
  intro W0 hW
  have HG0 : Hid (Grew w W0) := hide (by rw [← hW]; exact gw)
  clear hW kf g12
  go_loopw [8] (fun i wr => ∃ k : Nat, k ≤ fs.length ∧ i = .int .i64 k ∧ Grew W0 wr ∧ AppG (∀ j, j < k → (fAt fs j).dep < 100000)) (fun i _ => fs.length - (intOf i).toNat)
  case atStart => exact ⟨0, by omega, rfl, gw, fun j hj => by omega⟩
  case round =>
   obtain ⟨k, hk, rfl, hg, hall⟩ := hrel
   have HG := hide hg
   have HAL := hide hall.stop
   clear hg hall
   by_cases hlt : k < fs.length
   ·obtain ⟨b, off, hA, hb, fc⟩ := rowAt (HR.out.up (HG0.out.trans HG.out)).row hlt
    have hix := idx_run (cap := c) Tryz.underlying22 Tryz.sizeOf52 hA.out hlt
    have c6 := fc.c6
    clear fc hA
    by_cases hd : (fAt fs k).dep < 100000
    ·have hd1 : ¬ (100000 : Int) ≤ (fAt fs k).dep := by omega
     have hd2 : decide ((100000 : Int) ≤ (fAt fs k).dep) = false := decide_eq_false hd1
     have HD := hide hd
     clear hd
     go_wp2_with fail
     go_roundw
     case rel => exact ⟨k + 1, by omega, by go_num, HG.out.trans gw, show ∀ j, j < k + 1 → (fAt fs j).dep < 100000 from (fun j hj => by
      by_cases e : j = k
      ·rw [e]; exact HD.out
      ·exact HAL.out j (by omega))⟩
     case measure => simp [intOf]; omega
    ·have hd1 : (100000 : Int) ≤ (fAt fs k).dep := by omega
     have hd2 : decide ((100000 : Int) ≤ (fAt fs k).dep) = true := decide_eq_true hd1
     clear hd
     go_wp2_with fail
     go_ret
     exact Ret.mk' rfl (HG0.out.trans (HG.out.trans gw))
   ·obtain rfl : k = fs.length := by omega
    have hds : ∀ f ∈ fs, f.dep < 100000 := fun f hf => by
     obtain ⟨j, hj, rfl⟩ := fAt_of_mem hf
     exact HAL.out j hj
    have HDS := hide hds
    clear hds
    go_wp2_with fail
    refine wp_name ?_
    intro W1 hW
    have HG1 : Hid (Grew w W1) := hide (by rw [← hW]; exact HG0.out.trans (HG.out.trans gw))
    clear hW HG HAL HG0 hlt
    obtain ⟨Wz, hz⟩ : ∃ z, z = wr := ⟨wr, rfl⟩
    subst hz
    go_loopw [9] (fun i wr => ∃ k : Nat, k ≤ r1.length ∧ i = .int .i64 k ∧ Grew W1 wr ∧ AppG (∀ j, j < k → (ruAt r1 j).1 ≠ 1)) (fun i _ => r1.length - (intOf i).toNat)
    case atStart => exact ⟨0, by omega, rfl, gw, fun j hj => by omega⟩
    case round =>
     obtain ⟨k, hk, rfl, hg, hall⟩ := hrel
     have HG := hide hg
     have HAL := hide hall.stop
     clear hg hall
     by_cases hlt : k < r1.length
     ·obtain ⟨b, off, hA, hb, c0, c1, c2⟩ := ruCells (HRA.out.up (HG1.out.trans HG.out)) hlt
      have hix := idx_run (cap := ca) Tryz.underlying23 Tryz.sizeOf60 hA.out hlt
      clear hA c1 c2
      by_cases hd : (ruAt r1 k).1 = 1
      ·rw [hd] at c0
       go_wp2_with fail
       go_ret
       exact Ret.mk' rfl (HG1.out.trans (HG.out.trans gw))
      ·have hd2 : ((ruAt r1 k).1 == 1) = false := by simpa using hd
       have HD := hide hd
       clear hd
       go_wp2_with fail
       go_roundw
       case rel => exact ⟨k + 1, by omega, by go_num, HG.out.trans gw, show ∀ j, j < k + 1 → (ruAt r1 j).1 ≠ 1 from (fun j hj => by
        by_cases e : j = k
        ·rw [e]; exact HD.out
        ·exact HAL.out j (by omega))⟩
       case measure => simp [intOf]; omega
     ·obtain rfl : k = r1.length := by omega
      have hcase := steps_facts (fs := fs) (a := r1) (b := r2) ⟨ha12, h12⟩ HDS.out (ru_all (P := fun r => r.1 ≠ 1) HAL.out)
      obtain ⟨i0, hi, hz0, hz1, hz2⟩ := ruInfo_parts
      obtain ⟨cs, hcs⟩ : ∃ cs, r1 ++ r2 = cs := ⟨_, rfl⟩
      have hcl : r1.length + r2.length = cs.length := by rw [← hcs, List.length_append]
      have hcf : r1.flatMap encR ++ r2.flatMap encR = cs.flatMap encR := by rw [← hcs, List.flatMap_append]
      have hl1 := make_len fs r1
      have hl3 := make_len fs cs
      rw [hcs] at hcase
      have k1 := hide (fun W (hg : Grew w W) => Make_v fs r1 A Aa c ca W (HR.out.up hg) (HRA.out.up hg) (by omega) (by omega))
      have k3 : Hid (∀ W A2 c2, Grew w W → Rd W W.heap.size 3 A2 (cs.map encR) → Calls Tryz.prog 13 #[.slice A fs.length c, .slice A2 cs.length c2] W (MakeR W (makeOf fs cs))) := hide (fun W A2 c2 hg h2 => Make_v fs cs A A2 c c2 W (HR.out.up hg) h2 (by omega) (by omega))
      obtain ⟨⟨⟨ch, prs⟩, e⟩, h1⟩ : ∃ d, makeOf fs r1 = d := ⟨_, rfl⟩
      obtain ⟨⟨⟨cc, prc⟩, g⟩, h3⟩ : ∃ d, makeOf fs cs = d := ⟨_, rfl⟩
      rw [h1] at k1 hcase hl1
      rw [h3] at k3 hcase hl3
      dsimp only at hcase hl1 hl3
      have HCL := hide hcl
      have HCF := hide hcf
      have HCASE := hide hcase
      clear h1 h3 hcl hcf hcase hcs HDS HAL hlt
      go_wp2_with fail
      refine (k1.out _ (HG1.out.trans (HG.out.trans gw))).mono ?_
      rintro ee W2 ⟨A1, c1, fs', B1, d1, rfl, hb, hrd, hpr, hg⟩
      have HG2 : Hid (Grew w W2) := hide (HG1.out.trans (HG.out.trans (Grew.trans gw hg)))
      have HC1 := hide hrd
      have HB := hide hb
      have HRA2 := hide ((HRA.out.up HG2.out).reads encR_len (by omega))
      have hlf : fs'.length ≤ 300 := by have := len_of hb; dsimp only at this; omega
      clear hg hrd hpr hb k1 HG
      dsimp only at HB ⊢
      go_wp2_with (at_builtin; refine AppG3.stop ?_)
      refine AppG3.go ?_
      have hlit := World.ownsRow_lit (base := W2.heap.size) (e := 60) (size := 3) W2 #[] 0 (Nat.le_refl _) (by unfold maxLen; omega) rfl
      refine wpList_append_any _ rfl (.tmp 65) (.tmp 66) _ rfl W2.heap.size 60 i0 _ 3 24 Tryz.underlying23 hi hz0 hz1 hz2 rfl (by omega) _ 0 [] rfl hlit W2.heap.size Aa r1.length ca (r1.flatMap encR) rfl (HRA2.out.alloc (Nat.le_refl _) _) (ru_one _) (by simp only [maxLen]; omega) (by omega) (by simp) ?_
      intro v' w1 hown1 hg1 _
      rw [Nat.zero_add, List.nil_append] at hown1
      have hb0 : Below W2.heap.size W2 (W2.alloc (.cells #[] 60)) := (Grew.alloc (Grew.refl W2) _).below
      have hb1 : Below W2.heap.size W2 w1 := hb0.grown hg1 hb0.size fun q hq => (hlit.lt q hq).1
      have HO := hide hown1
      have HB1 := hide hb1
      have HRB2 := hide ((HRB.out.up (HG2.out.trans (Grew.of_below hb1))).reads encR_len (by omega))
      clear hlit hown1 hg1 hb0 hb1
      go_wp2_with (at_builtin; refine AppG3.stop ?_)
      refine AppG3.go ?_
      refine wpList_append_any _ rfl (.tmp 67) (.tmp 68) _ rfl W2.heap.size 60 i0 _ 3 24 Tryz.underlying23 hi hz0 hz1 hz2 rfl (by omega) _ r1.length (r1.flatMap encR) rfl HO.out w1.heap.size Ab r2.length cb (r2.flatMap encR) rfl HRB2.out (ru_one _) (by simp only [maxLen]; omega) (by omega) HB1.out.size ?_
      intro v2 w2 hown2 hg2 _
      rw [HCL.out, HCF.out] at hown2
      have hb2 : Below W2.heap.size W2 w2 := HB1.out.grown hg2 HB1.out.size fun q hq => (HO.out.lt q hq).1
      obtain ⟨A2, c2, rfl, hc2, hrd2⟩ := Rd.of_own (f := encR) encR_len hown2 rfl
      have HRD2 := hide hrd2
      have HG3 : Hid (Grew w w2) := hide (HG2.out.trans (Grew.of_below hb2))
      have HG23 : Hid (Grew W2 w2) := hide (Grew.of_below hb2)
      clear hown2 hg2 hb2 hrd2 hc2 HO HB1 HRB2 HRA2 hi hz0 hz1 hz2
      go_wp2_with fail
      refine (k3.out _ _ _ (HG3.out.trans gw) (HRD2.out.up gw)).mono ?_
      rintro ee W4 ⟨A3, c3, hs, B3, d3, rfl, hb, hrd, hpr, hg⟩
      have HG24 : Hid (Grew W2 W4) := hide (HG23.out.trans (Grew.trans gw hg))
      have HC3 := hide hrd
      have HB3 := hide hb
      clear hg hrd hpr hb k3 HG3 HG23 HRD2
      dsimp only at HB3 ⊢
      have hcase := HCASE.out
      clear HCASE
      rcases hcase with ⟨he, hge | ⟨hge, h3, h1⟩⟩ | ⟨he, hall⟩
      ·have hne : (e != 0) = true := by simpa using he
       subst hge
       go_wp2_with fail
       go_ret
       exact Ret.mk' rfl (HG2.out.trans (HG24.out.trans gw))
      ·subst h3 h1
       go_wp2_with fail
       go_ret
       exact Ret.mk' rfl (HG2.out.trans (HG24.out.trans gw))
      ·subst he
       obtain ⟨e1, e2⟩ := hall fs' HB.out
       have hl4 := make_len fs' r2
       have k4 := hide (fun W (hg : Grew W2 W) => Make_v fs' r2 A1 Ab c1 cb W (HC1.out.up hg) (HRB.out.up (HG2.out.trans hg)) (by omega) (by omega))
       obtain ⟨⟨⟨cd, prd⟩, f⟩, h4⟩ : ∃ d, makeOf fs' r2 = d := ⟨_, rfl⟩
       rw [h4] at k4 e1 e2 hl4
       dsimp only at e1 e2 hl4
       subst e1
       have HE2 := hide e2
       clear e2 h4 hall
       go_wp2_with fail
       refine (k4.out _ (HG24.out.trans gw)).mono ?_
       rintro ee W5 ⟨A5, c5, is, B5, d5, rfl, hb, hrd, hpr, hg⟩
       have HG5 : Hid (Grew W4 W5) := hide (Grew.trans gw hg)
       have hli : is.length ≤ 300 := by have := len_of hb; dsimp only at this; omega
       have hbe : is.map FV.bare = hs.map FV.bare := by rw [hb]; dsimp only; rw [HE2.out, HB3.out]
       have k5 := hide (fun W (hg : Grew W5 W) => liSame_t is hs hs.length A5 A3 c5 c3 W rfl (hrd.up hg) (HC3.out.up (HG5.out.trans hg)) hbe (by omega))
       clear hg hrd hpr hb hbe
       dsimp only
       go_wp2_with (go_at_call 15; with_reducible refine crv (k5.out _ gw) fun _ _ => ?_; dsimp only)
       go_ret
       exact Ret.mk' rfl (HG2.out.trans (HG24.out.trans (HG5.out.trans gw)))
 ·have g12 : (12 : Int) < (r2.length : Int) := by omega
  clear hr hra hrb h12
  go_enter Tryz.func8, Tryz.ntmps8
  go_wp2_with (first | (go_at_call 11; with_reducible refine crv (head_v _) fun _ _ => ?_; dsimp only) | (go_at_call 12; with_reducible refine crv (kf.out _) fun _ _ => ?_; dsimp only))
  go_ret
  exact Ret.mk' rfl gw
end Go.Proofs.YtdoiaagajkabcaaGreat
