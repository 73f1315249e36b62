/- The reference implementation of package rule: thin, walked. -/
import Derived.Test.YtfeccolljfkejaaGreatDoorRmZ
set_option linter.unusedSimpArgs false
set_option linter.unusedVariables false
set_option maxHeartbeats 16000000
set_option maxRecDepth 100000
namespace Go.Proofs.YtfeccolljfkejaaGreatDoor
open Go.RowKit Go.Sort
attribute [local go_sem] Steady steadyUpon
attribute [local go_sem ↓] hs_dr lt_add_r lt_add_r2 lt_add_r3 lt_add_r4 lt_add_r5 lt_add_r6
attribute [local go_sem] cell?_gd frozen?_gd setCell_gd size_grow tape_grow cell?_grow' frozen?_grow' setCell_grow' grow_grow grow_dr grow_drew dr_dr dr_drew drew_dr dr_alloc dr_setCell dr_cell dr_frozen dr_tape dr_drawn
attribute [local irreducible] wpSteady
theorem filt_succ {k : Int} {fs : List FV} {q : Nat} (h : q < fs.length) : (fs.take (q + 1)).filter (isKind k) = (fs.take q).filter (isKind k) ++ (if isKind k (fAt fs q) = true then [fAt fs q] else []) := by
 rw [List.take_add_one, fAt_get h, List.filter_append]
 congr 1
 simp only [Option.toList, List.filter_cons, List.filter_nil]
theorem rthin_v (o k n : Int) (fs : List FV) (A : Option Addr) (c : Nat) (w : World) (hr : Rd w w.heap.size 9 A (fs.map FV.cells)) (hl : FList fs = true) (hn : 0 ≤ n ∧ n ≤ 100000) :
  Calls Tryz.prog 54 #[ruV o k n, .slice A fs.length c] w (ThinP w (rkOf k n fs)) := by
 have hm := hmix
 have hlen := list_len hl
 have hva : ∀ f, f ∈ byD (fs.filter (isKind k)) → plOk f.x f.y = true ∧ 0 ≤ f.rad ∧ f.rad ≤ 100000 := fun f hf => by
  have hv := list_valid hl f (List.mem_filter.1 (byD_mem f hf)).1
  exact ⟨valid_pl hv, valid_rad hv⟩
 obtain ⟨i0, hi, hz0, hz1, hz2⟩ := fInfo_parts feInf
 have HR := hide hr
 have HVA := hide hva
 have hnn := mul_bd (a := n) (b := n) 100000 100000 (by omega) (by omega)
 clear hr hl hva
 go_enter Tryz.func54, Tryz.ntmps54
 go_wp2_with fail
 refine wp_name ?_
 intro W0 hW
 have HB : Hid (RuBox W0 w.heap.size o k n) := hide (by rw [← hW]; exact RuBox.new w o k n)
 have HG0 : Hid (Grew w W0) := hide (by rw [← hW]; exact gw)
 clear hW
 go_loopw [5, 6] (fun v i wr => ∃ q : Nat, q ≤ fs.length ∧ i = .int .i64 q ∧ Grew W0 wr ∧ wr.ownsRow W0.heap.size 47 9 v ((fs.take q).filter (isKind k)).length (((fs.take q).filter (isKind k)).flatMap FV.cells)) (fun _ i _ => fs.length - (intOf i).toNat)
 case atStart => exact ⟨0, by omega, rfl, gw, World.ownsRow_nil _ _ _ _⟩
 case round =>
  obtain ⟨q, hq, rfl, hg, hown⟩ := hrel
  have HG := hide hg
  have HO := hide hown
  obtain ⟨AL, cL, rfl, _⟩ := fown_slice hown
  obtain ⟨⟨r0, r1, r2⟩, rl⟩ := HB.out.up hg
  have hll : ((fs.take q).filter (isKind k)).length ≤ q := Nat.le_trans (List.length_filter_le _ _) (by rw [List.length_take]; exact Nat.min_le_left _ _)
  by_cases hlt : q < fs.length
  ·have hst := filt_succ (k := k) hlt
   obtain ⟨b1, off1, hA1, hb1, fx⟩ := rowAt (HR.out.up (HG0.out.trans hg)) hlt
   have hix1 := idx_run (cap := c) Tryz.underlying37 Tryz.sizeOf47 hA1.out hlt
   obtain ⟨x, hx⟩ : ∃ x, fAt fs q = x := ⟨_, rfl⟩
   obtain ⟨L, hL⟩ : ∃ L, (fs.take q).filter (isKind k) = L := ⟨_, rfl⟩
   rw [hx] at fx hst
   rw [hL] at hst HO hll
   rw [hL]
   obtain ⟨c0, c1, c2, c3, c4, c5, c6, c7, c8⟩ := fx
   have HST := hide hst
   clear hg hown hA1 hx hL hst
   by_cases hk : x.kind = k
   ·have hkb : (x.kind == k) = true := by simpa using hk
    have hs2 : (fs.take (q + 1)).filter (isKind k) = L ++ [x] := by rw [HST.out, if_pos (show isKind k x = true from decide_eq_true hk)]
    have HS2 := hide hs2
    clear hk hs2
    go_wp2_with fail
    refine wp_region_qas 8 [] [] hm (h := ?_)
    repeat (refine wpSteady_step (fun K hK => ?_); go_simp; refine hK _ ?_; clear hK K)
    refine rq0 fun nq osq => ?_
    try simp only [Act.put, setA]
    try dsimp only
    go_wp2_with (at_builtin; refine AppG3.stop ?_)
    refine AppG3.go ?_
    refine wpList_append_any _ rfl (.tmp 26) (.tmp 31) _ rfl W0.heap.size 47 i0 _ 9 104 Tryz.underlying37 hi hz0 hz1 hz2 rfl (by omega) _ L.length (L.flatMap FV.cells) rfl (fown_grew HO.out gw) _ (some ⟨_, 0, none⟩) 1 1 ([x].flatMap FV.cells) rfl ((Rd.lit1 _ x _ (by simp [hs_dr])).reads fv_len (by omega)) (fv_one _) (by simp only [maxLen]; omega) (by omega) (by have := HG.out.below.size; simp [hs_dr]; omega) ?_
    intro v' w1 hown1 hg1 _
    have HG2 : Hid (Grew W0 w1) := hide (ggrown (HG.out.trans gw) (fown_grew HO.out gw) (Nat.le_refl _) hg1)
    have HO1 := hide hown1
    clear hown1 hg1
    go_wp2_with fail
    go_roundw
    case rel => exact ⟨q + 1, by omega, by go_num, HG2.out.trans gw, by rw [HS2.out, List.length_append, List.flatMap_append]; exact fown_grew HO1.out gw⟩
    case measure => simp [intOf]; omega
   ·have hkb : (x.kind == k) = false := by simpa using hk
    have hs2 : (fs.take (q + 1)).filter (isKind k) = L := by rw [HST.out, if_neg (by unfold isKind; simpa using hk), List.append_nil]
    have HS2 := hide hs2
    clear hs2
    go_wp2_with fail
    refine wp_region_qas 8 [] [] hm (h := ?_)
    repeat (refine wpSteady_step (fun K hK => ?_); go_simp; refine hK _ ?_; clear hK K)
    refine rq0 fun nq osq => ?_
    try simp only [Act.put, setA]
    try dsimp only
    go_wp2_with fail
    go_roundw
    case rel => exact ⟨q + 1, by omega, by go_num, HG.out.trans gw, by rw [HS2.out]; exact fown_grew HO.out gw⟩
    case measure => simp [intOf]; omega
  ·obtain rfl : q = fs.length := by omega
   rw [List.take_length] at hown hll
   rw [List.take_length]
   obtain ⟨L, hL⟩ : ∃ L, fs.filter (isKind k) = L := ⟨_, rfl⟩
   rw [hL] at hown hll HVA
   rw [hL]
   have hfin : rkOf k n fs = rkTo n (byD L) (byD L).length := by unfold rkOf; rw [hL]
   obtain ⟨A2, c2, he, _, hrdL⟩ := Rd.of_own fv_len hown rfl
   have hAA : AL = A2 := by injection he
   rw [← hAA] at hrdL
   have kb := hide (fun W (hg : Grew wr W) => rbyDepth_v L AL cL W (hrdL.up hg) (by omega))
   have hdl := byD_len L
   have HFIN := hide hfin
   have hdl3 : (byD L).length ≤ 300 := by omega
   clear hg hown hL hrdL he hAA HO hfin hdl r0 r1 r2 rl
   go_wp2_with fail
   refine (kb.out _ gw).mono ?_
   rintro e W1 ⟨A5, c5, rfl, hrd, hg, _⟩
   obtain ⟨ds, hds⟩ : ∃ ds, byD L = ds := ⟨_, rfl⟩
   rw [hds] at hrd HVA HFIN hdl3
   rw [hds]
   have HD := hide hrd
   have HG1 : Hid (Grew W0 W1) := hide (HG.out.trans (Grew.trans gw hg))
   clear hrd hg hds kb hll
   dsimp only
   go_wp2_with fail
   refine wp_name ?_
   intro W6 hW
   have HG6 : Hid (Grew W1 W6) := hide (by rw [← hW]; exact gw)
   clear hW
   have HD6 := hide (HD.out.up HG6.out)
   have HB6 := hide (HB.out.up (HG1.out.trans HG6.out))
   go_loopw [7, 8] (fun kv i wr => ∃ m : Nat, m ≤ ds.length ∧ i = .int .i64 m ∧ Grew W6 wr ∧ wr.ownsRow W6.heap.size 47 9 kv (rkTo n ds m).length ((rkTo n ds m).flatMap FV.cells)) (fun _ i _ => ds.length - (intOf i).toNat)
   case atStart => exact ⟨0, by omega, rfl, Grew.refl _, World.ownsRow_nil _ _ _ _⟩
   case round =>
    obtain ⟨m, hmm, rfl, hg, hown⟩ := hrel
    have HG7 := hide hg
    have hkl := rk_len (n := n) m hmm
    have hka := rk_all (n := n) HVA.out m hmm
    by_cases hlt : m < ds.length
    ·have hst := rkTo_succ (n := n) hlt
     have hfr := HVA.out _ (fAt_mem hlt)
     obtain ⟨f, hf⟩ : ∃ f, fAt ds m = f := ⟨_, rfl⟩
     have HF := hide hf
     rw [hf] at hst hfr
     obtain ⟨kept, hk⟩ : ∃ l, rkTo n ds m = l := ⟨_, rfl⟩
     rw [hk] at hown hkl hst hka
     obtain ⟨A7, c7, rfl, hc7, hrd7⟩ := Rd.of_own fv_len hown rfl
     have HK := hide hown
     have HRD := hide hrd7
     have HST := hide hst
     have HKA := hide hka
     obtain ⟨Wr, hWr⟩ : ∃ W, W = wr := ⟨wr, rfl⟩
     subst hWr
     clear hst hown hrd7 hg hf hk hka
     go_wp2_with fail
     go_loopw [9] (fun k' wr => ∃ p : Nat, p ≤ kept.length ∧ k' = .int .i64 p ∧ Grew Wr wr ∧ AppG (∀ j, j < p → rnearF n f (fAt kept j) = false)) (fun k' _ => kept.length - (intOf k').toNat)
     case atStart => exact ⟨0, by omega, rfl, gw, show ∀ j, j < 0 → rnearF n f (fAt kept j) = false from fun j hj => by omega⟩
     case round =>
      obtain ⟨p, hp, rfl, hg, hall⟩ := hrel
      have HG8 := hide hg
      have HA := hide hall.stop
      obtain ⟨⟨r0, r1, r2⟩, rl⟩ := HB6.out.up (HG7.out.trans hg)
      clear hg hall
      obtain ⟨b1, off1, hA1, hb1, fx⟩ := rowAt (HD6.out.up (HG7.out.trans HG8.out)) hlt
      have hix1 := idx_run (cap := c5) Tryz.underlying37 Tryz.sizeOf47 hA1.out hlt
      rw [HF.out] at fx
      obtain ⟨c0, c1, c2, c3, c4, c5', c6, c7', c8⟩ := fx
      clear hA1
      by_cases hpl : p < kept.length
      ·have hpd := decide_eq_true hpl
       obtain ⟨b2, off2, hA2, hb2, fy⟩ := rowAt (HRD.out.up HG8.out) hpl
       have hix2 := idx_run (cap := c7) (k := p) (len := kept.length) Tryz.underlying37 Tryz.sizeOf47 hA2.out hpl
       have hkq := HKA.out _ (fAt_mem hpl)
       obtain ⟨g, hgg⟩ : ∃ g, fAt kept p = g := ⟨_, rfl⟩
       have HGG := hide hgg
       rw [hgg] at fy hkq
       obtain ⟨d0, d1, d2, d3, d4, d5, d6, d7, d8⟩ := fy
       have hdb := dt_bd (a := (g.x, g.y)) (b := (f.x, f.y)) (c := (f.x, f.y)) hkq.1 hfr.1 hfr.1
       obtain ⟨s, hs⟩ : ∃ s, dt (g.x, g.y) (f.x, f.y) (f.x, f.y) = s := ⟨_, rfl⟩
       have ks := hide (fun W => p1Square_v (g.x, g.y) (f.x, f.y) s W hkq.1 hfr.1 hs)
       obtain ⟨nn, hnn2⟩ : ∃ nn, n * n = nn := ⟨_, rfl⟩
       have hnear : rnearF n f g = decide (s ≤ nn) := by unfold rnearF; rw [hs, hnn2]
       have HNE := hide hnear
       rw [hnn2] at hnn
       have hw1 : IntKind.i64.wrap nn = nn := by unfold IntKind.wrap; simp [IntKind.bits, IntKind.signed]; omega
       dsimp only at ks
       clear hgg hA2 hs hnear hdb
       by_cases hsn : nn < s
       ·have hsd := decide_eq_true hsn
        have hne : rnearF n f (fAt kept p) = false := by rw [HGG.out, HNE.out]; exact decide_eq_false (by omega)
        have HNF := hide hne
        clear hne
        go_wp2_with fail
        refine wp_region_qas 23 [] [] hm (h := ?_)
        repeat (refine wpSteady_step (fun K hK => ?_); go_simp; first | (refine hK _ ?_; clear hK K) | (apply Exists.intro; refine ⟨fun _ => ?_, hK _ ?_⟩; ((go_at_call 97; with_reducible exact ks.out _)); clear hK K))
        refine rq0 fun nq osq => ?_
        try simp only [Act.put, setA]
        try dsimp only
        go_wp2_with fail
        go_roundw
        case rel => exact ⟨p + 1, by omega, by go_num, HG8.out.trans gw, show ∀ j, j < p + 1 → rnearF n f (fAt kept j) = false from (fun j hj => by
         by_cases e : j = p
         ·rw [e]; exact HNF.out
         ·exact HA.out j (by omega))⟩
        case measure => simp [intOf]; omega
       ·have hsd := decide_eq_false hsn
        have hne : rnearF n f (fAt kept p) = true := by rw [HGG.out, HNE.out]; exact decide_eq_true (by omega)
        have hst := HST.out.trans (rstep_some hpl hne HA.out)
        rw [HGG.out] at hst
        have hpk : ((p : Int) == (kept.length : Int)) = false := by simp; omega
        have hpk2 : ¬ (p : Int) = (kept.length : Int) := by omega
        obtain ⟨gk, rfl⟩ : ∃ gk, A7 = some ⟨gk, 0, none⟩ := by
         rcases HK.out.2 with ⟨h', h0⟩ | ⟨g', cap', cur, h', _⟩
         ·omega
         ·simp only [Value.slice.injEq] at h'
          exact ⟨g', h'.1⟩
        obtain ⟨lg1, lg2⟩ := HK.out.lt gk rfl
        have hown2 := fun (X : World) (hg : Grew Wr X) (x : Int) => rad_own (fown_grew HK.out hg) hpl x
        have hself := set_fAt hpl
        rw [HGG.out] at hown2 hself
        obtain ⟨u, hu⟩ : ∃ u, rliesF f g = u := ⟨_, rfl⟩
        have hu2 : liesB (f.x, f.y) f.rad (g.x, g.y) g.rad = u := hu
        have kl := hide (fun W => p1Inside_v (f.x, f.y) f.rad (g.x, g.y) g.rad u W hfr.1 hkq.1 (by omega) hkq.2 hu2)
        have HS2 := hide hst
        have HSE := hide hself
        have HOW := hide hown2
        clear hne hst hself hown2 hsn
        dsimp only at kl
        cases u
        ·have hj : rjoinF f g = { g with rad := rhiF f g + f.rad } := by unfold rjoinF; rw [hu, if_neg (by simp)]
         rw [hj] at HS2
         obtain ⟨⟨⟨d, d'⟩, e3⟩, hd⟩ : ∃ u, distOf (f.x, f.y) (g.x, g.y) = u := ⟨_, rfl⟩
         have hdh : rhiF f g = d' := by unfold rhiF; rw [hd]
         have hdb := rhi_bd hfr.1 hkq.1
         have kd := hide (fun W => p1Dist_v (f.x, f.y) (g.x, g.y) ((d, d'), e3) W hfr.1 hkq.1 hd)
         rw [hdh] at hdb HS2
         dsimp only at kd
         obtain ⟨_, fr1, fr2⟩ := hfr
         have hwr : IntKind.i64.wrap (d' + f.rad) = d' + f.rad := by unfold IntKind.wrap; simp [IntKind.bits, IntKind.signed]; omega
         clear hu hu2 hj hd hdh hkq
         go_wp2_with fail
         refine wp_region_qas 23 [] [] hm (h := ?_)
         repeat (refine wpSteady_step (fun K hK => ?_); go_simp; first | (refine hK _ ?_; clear hK K) | (apply Exists.intro; refine ⟨fun _ => ?_, hK _ ?_⟩; ((go_at_call 97; with_reducible exact ks.out _)); clear hK K))
         refine rq0 fun nq osq => ?_
         try simp only [Act.put, setA]
         try dsimp only
         go_wp2_with fail
         refine wp_region_qas 22 [] [] hm (h := ?_)
         repeat (refine wpSteady_step (fun K hK => ?_); go_simp; first | (refine hK _ ?_; clear hK K) | (apply Exists.intro; refine ⟨fun _ => ?_, hK _ ?_⟩; ((go_at_call 98; with_reducible exact kl.out _)); clear hK K))
         refine rq0 fun nqa osqa => ?_
         try simp only [Act.put, setA]
         try dsimp only
         go_wp2_with fail
         refine wp_region_qas 17 [⟨14, 15, 10, 124, .agg #[.int .i64 0, .int .i64 0]⟩] [] hm (hZ := (ZOk.cons Tryz.zeroValue124 Tryz.sizeOf124 ZOk.nil)) (h := ?_)
         repeat (refine wpSteady_step (fun K hK => ?_); go_simp; first | (refine hK _ ?_; clear hK K) | (apply Exists.intro; refine ⟨fun _ => ?_, hK _ ?_⟩; ((go_at_call 99; with_reducible exact kd.out _)); clear hK K))
         refine wpSteady_nil ?_
         refine ⟨(StOk.cons (by rfl) (by simp [stOpnd, Act.eval, Value.cells, Value.oneCell']) StOk.nil), LyOk.nil, ?_⟩
         rintro psq qsq WqH HWqH HFq HBq
         obtain rfl : qsq = [] := HBq
         obtain ⟨pH0, _, rfl, hpH0, hbH0, hnH0, rfl⟩ := HFq
         simp only [putAll, putB, Act.put, setA]
         simp [stOpnd, Act.eval, Value.cells] at hbH0
         have gcH0_0 : WqH.cell? ⟨pH0, 0, none⟩ = some _ := blk_cell hbH0 0
         have gcH0_1 : WqH.cell? ⟨pH0, 1, none⟩ = some _ := blk_cell hbH0 1
         have gfH0 := blk_frozen hbH0
         have glH0 := blk_lt hbH0
         have gpH0 := hide hpH0
         have ghH0 := hide hbH0
         clear hbH0 hnH0 hpH0
         have ocH := old_cell HWqH
         have ofH := old_frozen HWqH
         have olH := old_lt HWqH
         replace HWqH := hide HWqH
         go_wp2_with fail
         refine wp_name ?_
         intro W9 hW9
         have HG9 : Hid (Grew Wr W9) := hide (by rw [← hW9]; exact HG8.out.trans (Grew.trans gw HWqH.out))
         have k1 : W9.cell? ⟨pH0, 1, none⟩ = some (.int .i64 d') := by rw [← hW9]; exact gcH0_1
         have kl9 : pH0 < W9.heap.size := by rw [← hW9]; exact glH0
         clear hW9 ocH ofH olH HWqH gcH0_0 gcH0_1 gfH0 glH0 gpH0 ghH0 d0 d1 d2 d3 d4 d5 d6 d7 d8 c0 c1 c2 c3 c4 c5' c6 c7' c8 hix1 hix2 hb1 hb2 r0 r1 r2 rl
         obtain ⟨b1, off1, hA1, hb1, fx⟩ := rowAt (HD6.out.up (HG7.out.trans HG9.out)) hlt
         have hix1 := idx_run (cap := c5) Tryz.underlying37 Tryz.sizeOf47 hA1.out hlt
         rw [HF.out] at fx
         have c4 := fx.c4
         obtain ⟨fcg, hfz⟩ := ownAt (fown_grew HK.out HG9.out) rfl hpl
         have d4 := fcg.c4
         have hf4 := hfz (p * 9 + 4)
         have lg3 : gk < W9.heap.size := Nat.lt_of_lt_of_le lg2 HG9.out.below.size
         have hixz := idx_run (cap := c7) (k := p) (len := kept.length) Tryz.underlying37 Tryz.sizeOf47 (A := some ⟨gk, 0, none⟩) rfl hpl
         rw [Nat.zero_add] at hixz
         clear hA1 fx fcg hfz
         refine wp_region_qas 12 [] [] hm (h := ?_)
         repeat (refine wpSteady_step (fun K hK => ?_); go_simp; refine hK _ ?_; clear hK K)
         refine rq0 fun nqb osqb => ?_
         try simp only [Act.put, setA]
         try dsimp only
         go_wp2_with fail
         go_roundw
         case rel => exact ⟨m + 1, by omega, by go_num, (gset (HG7.out.trans HG9.out) lg1).trans gw, by rw [HS2.out, List.length_set]; exact fown_grew (HOW.out W9 HG9.out _) gw⟩
         case measure => simp [intOf]; omega
        ·have hj : rjoinF f g = g := by unfold rjoinF; rw [hu, if_pos rfl]
         rw [hj, HSE.out] at HS2
         clear hu hu2 hj hkq
         go_wp2_with fail
         refine wp_region_qas 23 [] [] hm (h := ?_)
         repeat (refine wpSteady_step (fun K hK => ?_); go_simp; first | (refine hK _ ?_; clear hK K) | (apply Exists.intro; refine ⟨fun _ => ?_, hK _ ?_⟩; ((go_at_call 97; with_reducible exact ks.out _)); clear hK K))
         refine rq0 fun nq osq => ?_
         try simp only [Act.put, setA]
         try dsimp only
         go_wp2_with fail
         refine wp_region_qas 22 [] [] hm (h := ?_)
         repeat (refine wpSteady_step (fun K hK => ?_); go_simp; first | (refine hK _ ?_; clear hK K) | (apply Exists.intro; refine ⟨fun _ => ?_, hK _ ?_⟩; ((go_at_call 98; with_reducible exact kl.out _)); clear hK K))
         refine rq0 fun nqa osqa => ?_
         try simp only [Act.put, setA]
         try dsimp only
         go_wp2_with fail
         go_roundw
         case rel => exact ⟨m + 1, by omega, by go_num, HG7.out.trans (HG8.out.trans gw), by rw [HS2.out]; exact fown_grew HK.out (HG8.out.trans gw)⟩
         case measure => simp [intOf]; omega
      ·obtain rfl : p = kept.length := by omega
       have hst := HST.out.trans (rstep_none HA.out)
       have HS2 := hide hst
       clear hst hpl
       go_wp2_with fail
       refine wp_region_qas 23 [] [] hm (h := ?_)
       repeat (refine wpSteady_step (fun K hK => ?_); go_simp; refine hK _ ?_; clear hK K)
       refine rq0 fun nq osq => ?_
       try simp only [Act.put, setA]
       try dsimp only
       go_wp2_with (at_builtin; refine AppG3.stop ?_)
       refine AppG3.go ?_
       refine wpList_append_any _ rfl (.tmp 70) (.tmp 75) _ rfl W6.heap.size 47 i0 _ 9 104 Tryz.underlying37 hi hz0 hz1 hz2 rfl (by omega) _ kept.length (kept.flatMap FV.cells) rfl (fown_grew HK.out (HG8.out.trans gw)) _ (some ⟨_, 0, none⟩) 1 1 ([f].flatMap FV.cells) rfl ((Rd.lit1 _ f _ (by simp [hs_dr])).reads fv_len (by omega)) (fv_one _) (by simp only [maxLen]; omega) (by omega) (by have := HG7.out.below.size; have := HG8.out.below.size; simp [hs_dr]; omega) ?_
       intro v' w1 hown1 hg1 _
       have HG9 : Hid (Grew W6 w1) := hide (ggrown (HG7.out.trans (HG8.out.trans gw)) (fown_grew HK.out (HG8.out.trans gw)) (Nat.le_refl _) hg1)
       have HO1 := hide hown1
       clear hown1 hg1
       go_wp2_with fail
       go_roundw
       case rel => exact ⟨m + 1, by omega, by go_num, HG9.out.trans gw, by rw [HS2.out, List.length_append, List.flatMap_append]; exact fown_grew HO1.out gw⟩
       case measure => simp [intOf]; omega
    ·obtain rfl : m = ds.length := by omega
     rw [← HFIN.out] at hown hkl
     obtain ⟨A7, c7, rfl, hc7, hrd7⟩ := Rd.of_own fv_len hown rfl
     have HRD := hide hrd7
     clear hown hrd7 hg hka
     go_wp2_with fail
     go_ret
     exact ⟨A7, c7, rfl, HRD.out.up gw, HG0.out.trans (HG1.out.trans (HG6.out.trans (HG7.out.trans gw))), hc7⟩
end Go.Proofs.YtfeccolljfkejaaGreatDoor
