/- The reference implementation's Same; the chapter's examples (head). -/
import Derived.Test.YtndkfpmklmcjjaaGreatPoy
import Derived.Test.YtndkfpmklmcjjaaGreatPou
import Derived.Test.YtndkfpmklmcjjaaGreatAra
set_option linter.unusedSimpArgs false
set_option linter.unusedVariables false
set_option maxHeartbeats 16000000
set_option maxRecDepth 100000
namespace Go.Proofs.YtndkfpmklmcjjaaGreat
open Go.RowKit Go.Sort
attribute [local go_sem] Steady steadyUpon
attribute [local go_sem ↓] hs_dr lt_add_r lt_add_r2 lt_add_r3 lt_add_r4 lt_add_r5 lt_add_r6
attribute [local go_sem] cell?_gd frozen?_gd setCell_gd size_grow tape_grow cell?_grow' frozen?_grow' setCell_grow' grow_grow grow_dr grow_drew dr_dr dr_drew drew_dr dr_alloc dr_setCell dr_cell dr_frozen dr_tape dr_drawn
attribute [local irreducible] wpSteady
theorem Same_v (a b : List Pt) (A B : Option Addr) (c c' : Nat) (r : Bool) (w : World) (hra : Rd w w.heap.size 2 A (a.map encD)) (hrb : Rd w w.heap.size 2 B (b.map encD)) (hl : a.length ≤ 100000000000000) (hl' : b.length ≤ 100000000000000) (h : decide (a = b) = r) :
  Calls Tryz.prog 19 #[.slice A a.length c, .slice B b.length c'] w (Ret w (.bool r)) := by
 have hm := hmix
 have HH := hide h
 clear h
 by_cases hne : a.length = b.length
 ·rw [← hne]
  have HNE := hide hne
  clear hne hl'
  go_enter Tryz.func19, Tryz.ntmps19
  go_wp2_with fail
  go_loopw [5] (fun i wr => ∃ k : Nat, k ≤ a.length ∧ i = .int .i64 k ∧ Grew w wr ∧ AppG2 (a.take k = b.take k)) (fun i _ => a.length - (intOf i).toNat)
  case atStart => exact ⟨0, by omega, rfl, gw, rfl⟩
  case round =>
   obtain ⟨k, hk, rfl, hg, hall⟩ := hrel
   have HG := hide hg
   have HA := hide hall.stop
   clear hg hall
   by_cases hlt : k < a.length
   ·have hltb : k < b.length := by rw [← HNE.out]; exact hlt
    have hp := cor_get hlt
    have hq := cor_get hltb
    obtain ⟨p, hpp⟩ : ∃ p, cor a k = p := ⟨_, rfl⟩
    obtain ⟨q, hqq⟩ : ∃ p, cor b k = p := ⟨_, rfl⟩
    rw [hpp] at hp
    rw [hqq] at hq
    obtain ⟨x, off, hA, hb, h0, h1⟩ := ptAt (hra.up HG.out) hp
    obtain ⟨x', off', hA', hb', h2, h3⟩ := ptAt (hrb.up HG.out) hq
    have hix := idx_run (cap := c) Tryz.underlying22 Tryz.sizeOf24 hA.out hlt
    have hix2 := idx_run (cap := c') (len := a.length) Tryz.underlying22 Tryz.sizeOf24 hA'.out hlt
    have HP := hide hp
    have HQ := hide hq
    clear hp hq hpp hqq
    by_cases hpq : p = q
    ·subst hpq
     have het : a.take (k + 1) = b.take (k + 1) := by rw [List.take_add_one, List.take_add_one, HP.out, HQ.out, HA.out]
     have HET := hide het
     clear het
     obtain ⟨p1, p2⟩ := p
     dsimp only at h0 h1 h2 h3
     go_wp2_with fail
     refine wp_region_qas 9 [] [] hm (h := ?_)
     repeat (refine wpSteady_step (fun K hK => ?_); go_simp; refine hK _ ?_; clear hK K)
     refine rq0 fun nq osq => ?_
     try simp only [Act.put, setA]
     try dsimp only
     go_wp2_with fail
     go_roundw
     case rel => exact ⟨k + 1, by omega, by go_num, HG.out.trans gw, HET.out⟩
     case measure => simp [intOf]; omega
    ·have hr : r = false := by
      rw [← HH.out, decide_eq_false_iff_not]
      intro e
      rw [e] at HP
      have := HP.out.symm.trans HQ.out
      injection this with this
      exact hpq this
     subst hr
     obtain ⟨p1, p2⟩ := p
     obtain ⟨q1, q2⟩ := q
     dsimp only at h0 h1 h2 h3
     have hpq2 : p1 ≠ q1 ∨ (p1 = q1 ∧ p2 ≠ q2) := by
      by_cases e : p1 = q1
      ·exact .inr ⟨e, fun e2 => hpq (by rw [e, e2])⟩
      ·exact .inl e
     clear hpq
     rcases hpq2 with e1 | ⟨rfl, e1⟩
     all_goals
      go_wp2_with fail
      refine wp_region_qas 9 [] [] hm (h := ?_)
      repeat (refine wpSteady_step (fun K hK => ?_); go_simp; refine hK _ ?_; clear hK K)
      refine rq0 fun nq osq => ?_
      try simp only [Act.put, setA]
      try dsimp only
      go_wp2_with fail
      go_ret
      exact Ret.mk' rfl (HG.out.trans gw)
   ·obtain rfl : k = a.length := by omega
    have hr : r = true := by
     rw [← HH.out, decide_eq_true_eq]
     have := HA.out
     rwa [List.take_length, HNE.out, List.take_length] at this
    subst hr
    go_wp2_with fail
    go_ret
    exact Ret.mk' rfl HG.out
 ·have hr : r = false := by
   rw [← HH.out, decide_eq_false_iff_not]
   exact fun e => hne (by rw [e])
  subst hr
  have hne' : ¬ (a.length : Int) = b.length := by omega
  go_enter Tryz.func19, Tryz.ntmps19
  go_wp2_with fail
  go_ret
  exact Ret.mk' rfl gw
theorem bent_v (w : World) : Calls Tryz.prog 24 #[] w fun e w' => ∃ g, e = .returned (.slice (some ⟨g, 0, none⟩) 6 6) ∧ Rd w' w'.heap.size 2 (some ⟨g, 0, none⟩) (bentL.map encD) ∧ Grew w w' := by
 go_enter Tryz.func24, Tryz.ntmps24
 go_wp2_with fail
 go_ret
 exact ⟨w.heap.size, rfl, Rd.blkP bentL (heap_alloc_new _ _) rfl, gw⟩
theorem rd_drop1 {W : World} {B : Nat} {g : Nat} {p : Pt} {ps : List Pt} (h : Rd W B 2 (some ⟨g, 0, none⟩) ((p :: ps).map encD)) : Rd W B 2 (some ⟨g, 2, none⟩) (ps.map encD) := by
 rcases h with h | ⟨b, off, hA, hb, hc⟩
 ·simp at h
 ·injection hA with hA
  injection hA with h1 h2
  subst h1 h2
  exact .inr ⟨g, 2, rfl, hb, fun k x hx j v hv => by
   have := hc (k + 1) x (by rw [List.map_cons, List.getElem?_cons_succ]; exact hx) j v hv
   rw [show 0 + (k + 1) * 2 + j = 2 + k * 2 + j by omega] at this
   exact this⟩
theorem head_v (w : World) : Calls Tryz.prog 4 #[] w (Ret w (.bool true)) := by
 have hm := hmix
 go_enter Tryz.func4, Tryz.ntmps4
 go_wp2_with fail
 refine (bent_v _).mono ?_
 rintro e W1 ⟨g1, rfl, hrd, hg⟩
 have HG1 : Hid (Grew w W1) := hide (Grew.trans gw hg)
 have HR1 := hide hrd
 clear hrd hg
 dsimp only
 go_wp2_with fail
 refine (In_v bentL (some ⟨g1, 0, none⟩) 6 (1, 3) _ _ HR1.out (by decide) x1).mono ?_
 rintro e w' ⟨rfl, ⟨n9, os9⟩, rfl⟩
 dsimp only
 go_wp2_with fail
 refine (bent_v _).mono ?_
 rintro e W2 ⟨g2, rfl, hrd, hg⟩
 have HG2 : Hid (Grew w W2) := hide (HG1.out.trans (Grew.trans gw hg))
 have HR2 := hide hrd
 clear hrd hg
 dsimp only
 clear HG1
 try clear HR1
 go_wp2_with fail
 refine (In_v bentL (some ⟨g2, 0, none⟩) 6 (2, 3) _ _ HR2.out (by decide) x2).mono ?_
 rintro e w' ⟨rfl, ⟨n9, os9⟩, rfl⟩
 dsimp only
 go_wp2_with fail
 refine (bent_v _).mono ?_
 rintro e W3 ⟨g3, rfl, hrd, hg⟩
 have HG3 : Hid (Grew w W3) := hide (HG2.out.trans (Grew.trans gw hg))
 have HR3 := hide hrd
 clear hrd hg
 dsimp only
 clear HG2
 try clear HR2
 go_wp2_with fail
 refine (In_v bentL (some ⟨g3, 0, none⟩) 6 (3, 3) _ _ HR3.out (by decide) x3).mono ?_
 rintro e w' ⟨rfl, ⟨n9, os9⟩, rfl⟩
 dsimp only
 go_wp2_with fail
 refine (bent_v _).mono ?_
 rintro e W4 ⟨g4, rfl, hrd, hg⟩
 have HG4 : Hid (Grew w W4) := hide (HG3.out.trans (Grew.trans gw hg))
 have HR4 := hide hrd
 clear hrd hg
 dsimp only
 clear HG3
 try clear HR3
 go_wp2_with fail
 refine (Area_v bentL (some ⟨g4, 0, none⟩) 6 _ _ HR4.out (by decide) x4).mono ?_
 rintro e w' ⟨rfl, ⟨n9, os9⟩, rfl⟩
 dsimp only
 go_wp2_with fail
 refine (bent_v _).mono ?_
 rintro e W5 ⟨g5, rfl, hrd, hg⟩
 have HG5 : Hid (Grew w W5) := hide (HG4.out.trans (Grew.trans gw hg))
 have HR5 := hide hrd
 clear hrd hg
 dsimp only
 clear HG4
 try clear HR4
 go_wp2_with fail
 refine (Holds_v bentL [(0, 0), (4, 0), (0, 4)] (some ⟨g5, 0, none⟩) (some ⟨W5.heap.size, 0, none⟩) 6 3 _ _ (HR5.out.up gw) (Rd.blkP [(0, 0), (4, 0), (0, 4)] (heap_alloc_new _ _) rfl) (by decide) (by decide) x5).mono ?_
 rintro e w' ⟨rfl, ⟨n9, os9⟩, rfl⟩
 dsimp only
 go_wp2_with fail
 refine (bent_v _).mono ?_
 rintro e W6 ⟨g6, rfl, hrd, hg⟩
 have HG6 : Hid (Grew w W6) := hide (HG5.out.trans (Grew.trans gw hg))
 have HR6 := hide hrd
 clear hrd hg
 dsimp only
 clear HG5
 try clear HR5
 go_wp2_with fail
 refine (Holds_v bentL [(0, 0), (4, 0), (1, 4)] (some ⟨g6, 0, none⟩) (some ⟨W6.heap.size, 0, none⟩) 6 3 _ _ (HR6.out.up gw) (Rd.blkP [(0, 0), (4, 0), (1, 4)] (heap_alloc_new _ _) rfl) (by decide) (by decide) x6).mono ?_
 rintro e w' ⟨rfl, ⟨n9, os9⟩, rfl⟩
 dsimp only
 go_wp2_with fail
 refine (bent_v _).mono ?_
 rintro e W7 ⟨g7, rfl, hrd, hg⟩
 have HG7 : Hid (Grew w W7) := hide (HG6.out.trans (Grew.trans gw hg))
 have HR7 := hide hrd
 clear hrd hg
 dsimp only
 clear HG6
 try clear HR6
 go_wp2_with fail
 refine (Disc_v bentL (some ⟨g7, 0, none⟩) 6 (1, 1) 1 _ _ HR7.out (by decide) x7).mono ?_
 rintro e w' ⟨rfl, ⟨n9, os9⟩, rfl⟩
 dsimp only
 go_wp2_with fail
 refine (bent_v _).mono ?_
 rintro e W8 ⟨g8, rfl, hrd, hg⟩
 have HG8 : Hid (Grew w W8) := hide (HG7.out.trans (Grew.trans gw hg))
 have HR8 := hide hrd
 clear hrd hg
 dsimp only
 clear HG7
 try clear HR7
 go_wp2_with fail
 refine (Disc_v bentL (some ⟨g8, 0, none⟩) 6 (1, 1) 2 _ _ HR8.out (by decide) x8).mono ?_
 rintro e w' ⟨rfl, ⟨n9, os9⟩, rfl⟩
 dsimp only
 go_wp2_with fail
 refine (bent_v _).mono ?_
 rintro e W9 ⟨g9, rfl, hrd, hg⟩
 have HG9 : Hid (Grew w W9) := hide (HG8.out.trans (Grew.trans gw hg))
 have HR9 := hide hrd
 clear hrd hg
 dsimp only
 clear HG8
 try clear HR8
 go_wp2_with fail
 refine (Disc_v bentL (some ⟨g9, 0, none⟩) 6 (4, 4) 1 _ _ HR9.out (by decide) x9).mono ?_
 rintro e w' ⟨rfl, ⟨n9, os9⟩, rfl⟩
 dsimp only
 go_wp2_with fail
 refine (bent_v _).mono ?_
 rintro e W10 ⟨g10, rfl, hrd, hg⟩
 have HG10 : Hid (Grew w W10) := hide (HG9.out.trans (Grew.trans gw hg))
 have HR10 := hide hrd
 clear hrd hg
 dsimp only
 clear HG9
 try clear HR9
 go_wp2_with fail
 refine (Disc_v bentL (some ⟨g10, 0, none⟩) 6 (4, 4) 2 _ _ HR10.out (by decide) x10).mono ?_
 rintro e w' ⟨rfl, ⟨n9, os9⟩, rfl⟩
 dsimp only
 go_wp2_with fail
 refine (bent_v _).mono ?_
 rintro e W11 ⟨g11, rfl, hrd, hg⟩
 have HG11 : Hid (Grew w W11) := hide (HG10.out.trans (Grew.trans gw hg))
 have HR11 := hide hrd
 clear hrd hg
 dsimp only
 clear HG10
 try clear HR10
 go_wp2_with fail
 have hk := Hull_any bentL (some ⟨g11, 0, none⟩) 6 _ HR11.out (by decide)
 rw [x11] at hk
 refine hk.mono ?_
 clear hk
 rintro e Wh ⟨v, rfl, hown, hg⟩
 obtain ⟨Ah, ch, rfl, _, hrd⟩ := Rd.of_own (f := encD) encD_len hown rfl
 have HL := hide hrd
 have HGh : Hid (Grew w Wh) := hide (HG11.out.trans hg)
 clear hown hrd hg HG11 HR11
 dsimp only
 go_wp2_with fail
 refine (bent_v _).mono ?_
 rintro e Wb ⟨gb, rfl, hrd, hg⟩
 have HB := hide hrd
 have HGb : Hid (Grew w Wb) := hide (HGh.out.trans (Grew.trans gw hg))
 have HL2 := hide (HL.out.up (show Grew Wh Wb from Grew.trans gw hg))
 clear hrd hg HGh HL
 dsimp only
 go_wp2_with fail
 have hk := Box_any bentL (some ⟨gb, 0, none⟩) 6 _ HB.out (by decide)
 rw [x12] at hk
 refine hk.mono ?_
 clear hk
 rintro e w' ⟨rfl, ⟨n9, os9⟩, rfl⟩
 dsimp only
 go_wp2_with fail
 have hk := fun W => Rect_any ((0, 4), (0, 4)) W
 rw [x13] at hk
 refine (hk _).mono ?_
 clear hk
 rintro e Wr ⟨v, rfl, hown, hg⟩
 obtain ⟨Ar, cr', rfl, _, hrd⟩ := Rd.of_own (f := encD) encD_len hown rfl
 have HM := hide hrd
 have HGr : Hid (Grew w Wr) := hide (HGb.out.trans (Grew.trans gw hg))
 have HL3 := hide (HL2.out.up (show Grew Wb Wr from Grew.trans gw hg))
 clear hown hrd hg HGb HL2 HB
 dsimp only
 go_wp2_with fail
 have hk := fun W hr => Hull_any [(0, 0), (1, 1), (3, 3)] (some ⟨Wr.heap.size, 0, none⟩) 3 W hr (by decide)
 rw [x14] at hk
 refine (hk _ (Rd.blkP [(0, 0), (1, 1), (3, 3)] (heap_alloc_new _ _) rfl)).mono ?_
 clear hk
 rintro e Ws ⟨v, rfl, hown, hg⟩
 obtain ⟨As, cs', rfl, _⟩ := ow_slice hown
 have HGs : Hid (Grew w Ws) := hide (HGr.out.trans (Grew.trans gw hg))
 have HL4 := hide (HL3.out.up (show Grew Wr Ws from Grew.trans gw hg))
 have HM4 := hide (HM.out.up (show Grew Wr Ws from Grew.trans gw hg))
 clear hown hg HGr HL3 HM
 dsimp only
 go_wp2_with fail
 refine (Same_v [(0, 0), (4, 0), (4, 2), (2, 4), (0, 4)] [(0, 0), (4, 0), (4, 2), (2, 4), (0, 4)] Ah (some ⟨Ws.heap.size, 0, none⟩) _ _ true _ (HL4.out.up gw) (Rd.blkP _ (heap_alloc_new _ _) rfl) (by decide) (by decide) (by decide)).mono ?_
 rintro e w' ⟨rfl, ⟨n8, os8⟩, rfl⟩
 dsimp only
 go_wp2_with fail
 refine (Same_v [(0, 0), (4, 0), (4, 4), (0, 4)] [(0, 0), (4, 0), (4, 4), (0, 4)] Ar (some ⟨Ws.heap.size + 1 + os8.size, 0, none⟩) _ _ true _ (HM4.out.up gw) (Rd.blkP _ (heap_alloc_at _ _ _ (by simp [size_grow, hs_dr])) rfl) (by decide) (by decide) (by decide)).mono ?_
 rintro e w' ⟨rfl, ⟨n7, os7⟩, rfl⟩
 dsimp only
 go_wp2_with fail
 refine (bent_v _).mono ?_
 rintro e Wy ⟨gy, rfl, hrd, hg⟩
 have HY := hide hrd
 have HGy : Hid (Grew w Wy) := hide (HGs.out.trans (Grew.trans gw hg))
 clear hrd hg HGs HM4 HL4
 dsimp only
 go_wp2_with fail
 refine (PValid_v bentL (some ⟨gy, 0, none⟩) 6 true _ HY.out (by decide) x15).mono ?_
 rintro e w' ⟨rfl, ⟨n6, os6⟩, rfl⟩
 dsimp only
 go_wp2_with fail
 refine (bent_v _).mono ?_
 rintro e Wz ⟨gz, rfl, hrd, hg⟩
 have HZ := hide (rd_drop1 hrd)
 have HGz : Hid (Grew w Wz) := hide (HGy.out.trans (Grew.trans gw hg))
 clear hrd hg HGy
 dsimp only
 go_wp2_with fail
 refine (PValid_v [(4, 0), (4, 2), (2, 2), (2, 4), (0, 4)] (some ⟨gz, 2, none⟩) 5 false _ HZ.out (by decide) x16).mono ?_
 rintro e w' ⟨rfl, ⟨n5, os5⟩, rfl⟩
 dsimp only
 go_wp2_with fail
 go_ret
 exact Ret.mk' rfl (HGz.out.trans gw)
end Go.Proofs.YtndkfpmklmcjjaaGreat
