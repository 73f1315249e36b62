/- The reference implementation of package rule: Apply, walked. -/
import Derived.Test.YtfeccolljfkejaaGreatDoorRmK
set_option linter.unusedSimpArgs false
set_option linter.unusedVariables false
set_option maxHeartbeats 16000000
set_option maxRecDepth 100000
namespace Go.Proofs.YtfeccolljfkejaaGreatDoor
open Go.RowKit Go.Sort
attribute [local go_sem] Steady steadyUpon
attribute [local go_sem ↓] hs_dr lt_add_r lt_add_r2 lt_add_r3 lt_add_r4 lt_add_r5 lt_add_r6
attribute [local go_sem] cell?_gd frozen?_gd setCell_gd size_grow tape_grow cell?_grow' frozen?_grow' setCell_grow' grow_grow grow_dr grow_drew dr_dr dr_drew drew_dr dr_alloc dr_setCell dr_cell dr_frozen dr_tape dr_drawn
attribute [local irreducible] wpSteady
theorem gb_none {W W' : World} (h : W.grownBy W' none) : Grew W W' := Grew.of_below ((Below.refl W.heap.size W).grown h (Nat.le_refl _) fun q hq => by cases hq)
theorem AllS.chg {W Wc : World} {r : Option Nat} {f' x : FV} (hS : ∀ g W2, g < W.heap.size → FSt W g x → Wc.grownBy W2 (some g) → f'.rd W2 W2.heap.size) (hfr : f'.rd Wc Wc.heap.size) (hst : ∀ g, r = some g → g < W.heap.size ∧ FSt W g x) : AllS Wc r [f'] := fun y hy W2 k => by
 rw [List.mem_singleton.1 hy]
 cases r with
 | none => exact hfr.up (gb_none k)
 | some g => exact hS g W2 (hst g rfl).1 (hst g rfl).2 k
theorem RA.put {w0 W W' : World} {v v' : Value} {l L : List FV} {f' t : FV} (h1 : W.ownsRow w0.heap.size 47 9 v L.length (L.flatMap FV.cells)) (h2 : L.map FV.bare = l.map FV.bare) (h3 : AllS W v.ownBlock L) (h4 : Grew w0 W)
  (hf : AllS W v.ownBlock [f']) (hb : f'.bare = t.bare) (ho : W'.ownsRow w0.heap.size 47 9 v' (L.length + 1) (L.flatMap FV.cells ++ [f'].flatMap FV.cells)) (hg : W.grownBy W' v.ownBlock) (hr : v'.ownBlock = v.ownBlock ∨ v'.ownBlock = some W.heap.size) {l' : List FV} (hl : l' = l ++ [t]) : RA w0 W' v' l' := by
 rw [hl]
 exact RA.app h1 h2 h3 h4 hf hb ho hg hr
theorem rApply_v (o k n : Int) (fs : List FV) (A : Option Addr) (c : Nat) (w : World) (hr : FRd w w.heap.size A fs) (hc : fs.length ≤ 100000000000000) :
  Calls Tryz.prog 25 #[ruV o k n, .slice A fs.length c] w (FeatR w (rapplyOf o k n fs)) := by
 have hm := hmix
 obtain ⟨u1, hu1⟩ : ∃ u, ruleOk o k n = u := ⟨_, rfl⟩
 obtain ⟨u2, hu2⟩ : ∃ u, FList fs = u := ⟨_, rfl⟩
 have k1 := hide (fun W => rRule_v o k n u1 W hu1)
 have k2 := hide (fun W (hg : Grew w W) => v7List_v fs A c u2 W (hr.up hg) hc hu2)
 have HR := hide hr
 unfold rapplyOf
 rw [hu1, hu2]
 by_cases hbad : u1 = true ∧ u2 = true
 ·obtain ⟨rfl, rfl⟩ := hbad
  rw [if_pos (by rfl)]
  obtain ⟨rs, hrs⟩ : ∃ r : List FV × Int, (if FList (rapplyL o k n fs) = true then (rapplyL o k n fs, (0 : Int)) else ([], 3)) = r := ⟨_, rfl⟩
  rw [hrs]
  have HRS := hide hrs
  clear hrs
  have hlen := list_len hu2
  obtain ⟨i0, hi, hz0, hz1, hz2⟩ := fInfo_parts feInf
  have HO1 := hide hu1
  have HL := hide hu2
  have hrp := rok_partsG hu1
  have ht := hide (fun W (hg : Grew w W) => rthin_v o k n fs A c W ((hr.up hg).row) hu2 hrp.2.1)
  have HFD := hide (fun f (hf : f ∈ fs) => valid_dep (list_valid hu2 f hf))
  clear hr hu1 hu2
  by_cases ho3 : o = 3
  ·subst ho3
   have hke : rkeptL 3 k n fs = rkOf k n fs := if_pos rfl
   have hkl := rkOf_len k n fs
   have HKS := hide (fun g (hg : g ∈ rkOf k n fs) => by
    obtain ⟨f, hf, e⟩ := rkOf_src g hg
    have h := HR.out.each f hf
    exact (show g.rd w w.heap.size from by rw [e]; exact ⟨h.area, h.secs, h.la, h.ls, h.lc⟩))
   have HAL : Hid (rapplyL 3 k n fs = rappTo 3 k n (rkOf k n fs) fs fs.length) := hide (by unfold rapplyL rappTo; rw [hke, List.take_length])
   go_enter Tryz.func25, Tryz.ntmps25
   go_wp2_with (first | (go_at_call 28; with_reducible refine crv (k1.out _) fun _ _ => ?_; dsimp only) | (go_at_call 53; with_reducible refine crv (k2.out _ gw) fun _ _ => ?_; dsimp only))
   refine calls_nm ?_
   intro X hX
   have HB : Hid (RuBox X w.heap.size 3 k n) := hide (by rw [← hX]; exact (RuBox.new w 3 k n).up gw)
   have HGX : Hid (Grew w X) := hide (by rw [← hX]; exact gw)
   clear hX
   refine (ht.out X HGX.out).mono ?_
   rintro e W1 ⟨A1, c1, rfl, hrd, hg, _⟩
   have HG1 := hide (HGX.out.trans hg)
   have HB1 := hide (HB.out.up hg)
   have HK := hide hrd
   obtain ⟨kept, hkk⟩ : ∃ l, rkOf k n fs = l := ⟨_, rfl⟩
   rw [hkk] at HK HKS HAL hkl
   rw [hkk]
   clear hg hrd hke hkk HB ht k1 k2
   dsimp only
   go_wp2_with fail
   refine wp_name ?_
   intro W0 hW
   have HG0 : Hid (Grew w W0) := hide (by rw [← hW]; exact HG1.out.trans gw)
   have HB0 : Hid (RuBox W0 w.heap.size 3 k n) := hide (by rw [← hW]; exact HB1.out.up gw)
   have HK0 : Hid (Rd W0 W0.heap.size 9 A1 (kept.map FV.cells)) := hide (by rw [← hW]; exact HK.out.up gw)
   clear hW HG1 HB1 HK
   go_loopw [9, 10] (fun v i wr => ∃ q : Nat, q ≤ fs.length ∧ i = .int .i64 q ∧ RA W0 wr v (rappTo 3 k n kept fs q)) (fun _ i _ => fs.length - (intOf i).toNat)
   case atStart => exact ⟨0, by omega, rfl, ⟨⟨[], World.ownsRow_nil _ _ _ _, rfl, AllS.nil _ _⟩, gw⟩⟩
   case round =>
    obtain ⟨q, hq, rfl, hra⟩ := hrel
    have HA := hide hra
    by_cases hlt : q < fs.length
    ·obtain ⟨Av, cv, rfl⟩ := hra.slice
     obtain ⟨⟨L, hown, hbr, has⟩, hgr⟩ := hra
     obtain ⟨⟨r0, r1, r2⟩, rl⟩ := HB0.out.up hgr
     obtain ⟨b1, off1, hA1, hb1, fx⟩ := rowAt (HR.out.row.up HG0.out) hlt
     have hix1 := idx_run (cap := c) Tryz.underlying37 Tryz.sizeOf47 hA1.out hlt
     have hsu := rapp_succ (o := 3) (k := k) (n := n) (kept := kept) hlt
     have hrr := HR.out.each _ (fAt_mem hlt)
     have hdp := HFD.out _ (fAt_mem hlt)
     have hll : (rappTo 3 k n kept fs q).length ≤ 300 * 301 := Nat.le_trans (rapp_len 3 k n kept fs q) (Nat.mul_le_mul (by omega) (by have := hkl; omega))
     obtain ⟨x, hx⟩ : ∃ x, fAt fs q = x := ⟨_, rfl⟩
     obtain ⟨l, hl⟩ : ∃ l, rappTo 3 k n kept fs q = l := ⟨_, rfl⟩
     rw [hx] at fx hsu hrr hdp
     rw [hl] at hsu HA hll hbr hown has
     rw [hl]
     have hLL := len_of hbr
     have FX := hide fx
     obtain ⟨c0, c1', c2, c3, c4, c5, c6, c7, c8⟩ := fx.up hgr hb1
     have hb1w : b1 < wr.heap.size := Nat.lt_of_lt_of_le hb1 hgr.below.size
     have HSU := hide hsu
     have HBR := hide hbr
     have HAS := hide has
     have HO := hide hown
     have HG := hide hgr
     have hL3 : L.length ≤ 300 * 301 := by omega
     have HLT : Hid (∀ g, (Value.slice Av l.length cv).ownBlock = some g → W0.heap.size ≤ g ∧ g < wr.heap.size) := hide (fun g h => HO.out.lt g h)
     have HW0 : Hid (w.heap.size ≤ W0.heap.size) := hide HG0.out.below.size
     have HST : Hid (∀ W, Grew wr W → ∀ g, (Value.slice Av l.length cv).ownBlock = some g → g < W.heap.size ∧ FSt W g x) := hide (fun W hg g h => ⟨by have := HLT.out g h; have := hg.below.size; omega, by
      have hb := (HG0.out.trans (HG.out.trans hg)).below
      exact FSt.of (B := w.heap.size) ⟨hrr.area.below hb, hrr.secs.below hb, hrr.la, hrr.ls, hrr.lc⟩ (by have := HG.out.below.size; have := hg.below.size; have := HW0.out; omega) (by have := HLT.out g h; have := HW0.out; omega)⟩)
     have kc := hide (fun W (hg : Grew wr W) => rchange_v 3 k n x W (by
      have hb := (HG0.out.trans (HG.out.trans hg)).below
      exact ⟨(hrr.area.below hb).mono hb.size, (hrr.secs.below hb).mono hb.size, hrr.la, hrr.ls, hrr.lc⟩) HO1.out hdp)
     have HDP := hide hdp
     obtain ⟨t, ht⟩ : ∃ t, chg 3 k n x = t := ⟨_, rfl⟩
     rw [ht] at kc
     have HT := hide ht
     have hKS : Hid (∀ W', Grew W0 W' → (W'.cell? ⟨w.heap.size, 0, none⟩ = some (.int .i64 3) ∧ W'.cell? ⟨w.heap.size, 1, none⟩ = some (.int .i64 k) ∧ W'.cell? ⟨w.heap.size, 2, none⟩ = some (.int .i64 n) ∧ W'.cell? ⟨b1, off1 + q * 9, none⟩ = some (.int .i64 x.id) ∧ W'.cell? ⟨b1, off1 + q * 9 + 1, none⟩ = some (.int .i64 x.kind) ∧ W'.cell? ⟨b1, off1 + q * 9 + 2, none⟩ = some (.int .i64 x.x) ∧ W'.cell? ⟨b1, off1 + q * 9 + 3, none⟩ = some (.int .i64 x.y) ∧ W'.cell? ⟨b1, off1 + q * 9 + 4, none⟩ = some (.int .i64 x.rad) ∧ W'.cell? ⟨b1, off1 + q * 9 + 5, none⟩ = some (.slice x.aA x.area.length x.ac) ∧ W'.cell? ⟨b1, off1 + q * 9 + 6, none⟩ = some (.int .i64 x.dep) ∧ W'.cell? ⟨b1, off1 + q * 9 + 7, none⟩ = some (.int .i64 x.sym) ∧ W'.cell? ⟨b1, off1 + q * 9 + 8, none⟩ = some (.slice x.sA x.secs.length x.sc))) := hide (fun W' g => by
      obtain ⟨⟨r0, r1, r2⟩, _⟩ := HB0.out.up g
      obtain ⟨d0, d1, d2, d3, d4, d5, d6, d7, d8⟩ := FX.out.up g hb1
      exact ⟨r0, r1, r2, d0, d1, d2, d3, d4, d5, d6, d7, d8⟩)
     clear hA1 hx hl hsu hrr hbr hown hgr hdp ht has fx
     by_cases hk : x.kind = k
     ·have hkb : (x.kind != k) = false := by simpa using hk
      have hrp3 : Hid (rpart 3 k n kept x = kept.filter (fun g => g.id == x.id)) := hide (by
       unfold rpart
       rw [if_neg (by simp [hk]), List.nil_append])
      clear kc
      go_wp2_with fail
      refine wp_region_qas 13 [] [] hm (h := ?_)
      repeat (refine wpSteady_step (fun K hK => ?_); go_simp; refine hK _ ?_; clear hK K)
      refine rq0 fun nq osq => ?_
      try simp only [Act.put, setA]
      try dsimp only
      go_wp2_with fail
      go_loopw [9, 11] (fun v i wr => ∃ p : Nat, p ≤ kept.length ∧ i = .int .i64 p ∧ RA W0 wr v (l ++ (kept.take p).filter (fun g => g.id == x.id))) (fun _ i _ => kept.length - (intOf i).toNat)
      case atStart => exact ⟨0, by omega, rfl, (by rw [List.take_zero, List.filter_nil, List.append_nil]; exact HA.out.up gw)⟩
      case round =>
       obtain ⟨p, hp, rfl, hra⟩ := hrel
       have HA2 := hide hra
       obtain ⟨c0, c1', c2, c3, c4, c5, c6, c7, c8⟩ := FX.out.up hra.g hb1
       have hb1x : b1 < wr.heap.size := Nat.lt_of_lt_of_le hb1 hra.g.below.size
       by_cases hpl : p < kept.length
       ·obtain ⟨A8, cv8, rfl⟩ := hra.slice
        obtain ⟨⟨L8, hown8, hbr8, has8⟩, hgr8⟩ := hra
        obtain ⟨b2, off2, hA2, hb2, fy⟩ := rowAt HK0.out hpl
        have hix2 := idx_run (cap := c1) Tryz.underlying37 Tryz.sizeOf47 hA2.out hpl
        have hry := HKS.out _ (fAt_mem hpl)
        have hfs : (kept.take (p + 1)).filter (fun g => g.id == x.id) = (kept.take p).filter (fun g => g.id == x.id) ++ if (fAt kept p).id == x.id then [fAt kept p] else [] := by
         rw [List.take_add_one, fAt_get hpl, List.filter_append]
         simp [List.filter_cons]
        have hl8 : ((kept.take p).filter (fun g => g.id == x.id)).length ≤ 300 := by
         have := List.length_filter_le (fun g : FV => g.id == x.id) (kept.take p)
         rw [List.length_take] at this
         omega
        obtain ⟨y, hy⟩ : ∃ y, fAt kept p = y := ⟨_, rfl⟩
        rw [hy] at fy hry hfs
        obtain ⟨fl, hfl⟩ : ∃ fl, (kept.take p).filter (fun g => g.id == x.id) = fl := ⟨_, rfl⟩
        rw [hfl] at hown8 hbr8 has8 hfs hl8 HA2
        rw [hfl]
        have hL8 := len_of hbr8
        rw [List.length_append] at hL8
        obtain ⟨d0, d1, d2, d3, d4, d5, d6, d7, d8⟩ := fy.up hgr8 hb2
        have hb2x : b2 < wr.heap.size := Nat.lt_of_lt_of_le hb2 hgr8.below.size
        have HFY := hide fy
        have HRY := hide hry
        have HFS := hide hfs
        obtain ⟨ln, hln⟩ : ∃ l', l ++ fl = l' := ⟨_, rfl⟩
        have HLN := hide hln
        rw [hln] at hown8 hbr8 has8 HA2
        rw [hln]
        have hLL8 : L8.length = ln.length := len_of hbr8
        have HO8 := hide hown8
        have HBR8 := hide hbr8
        have HAS8 := hide has8
        have HG8 := hide hgr8
        have HLT8 : Hid (∀ g, (Value.slice A8 ln.length cv8).ownBlock = some g → w.heap.size ≤ g) := hide (fun g h => Nat.le_trans HW0.out (HO8.out.lt g h).1)
        obtain ⟨Wr, hWr⟩ : ∃ W, W = wr := ⟨wr, rfl⟩
        clear hA2 hy hfl hry hfs fy hln hown8 hbr8 has8 hgr8
        by_cases hid : y.id = x.id
        ·have hidb : (y.id == x.id) = true := by simpa using hid
         have hfs2 := HFS.out
         rw [if_pos hidb] at hfs2
         have HFS2 := hide hfs2
         clear hfs2 hWr
         go_wp2_with fail
         refine wp_region_qas 11 [] [] hm (h := ?_)
         repeat (refine wpSteady_step (fun K hK => ?_); go_simp; refine hK _ ?_; clear hK K)
         refine rq0 fun nq osq => ?_
         try simp only [Act.put, setA]
         try dsimp only
         go_wp2_with (at_builtin; refine AppG3.stop ?_)
         refine AppG3.go ?_
         refine wpList_append_any _ rfl (.tmp 74) (.tmp 79) _ rfl W0.heap.size 47 i0 _ 9 104 Tryz.underlying37 hi hz0 hz1 hz2 rfl (by omega) _ L8.length (L8.flatMap FV.cells) rfl (fown_grew HO8.out gw) _ (some ⟨_, 0, none⟩) 1 1 ([y].flatMap FV.cells) rfl (Rd.reads fv_len (by omega) (by rw [← hid]; exact Rd.lit1 _ y _ (by first | rfl | simp [hs_dr]))) (fv_one _) (by simp only [maxLen]; omega) (by omega) (by have := HG8.out.below.size; (try simp [hs_dr]); omega) ?_
         intro v' w1 hown1 hg1 hv1
         have HRA2 : Hid (RA W0 w1 v' (ln ++ [y])) := hide (RA.put (fown_grew HO8.out gw) HBR8.out (HAS8.out.grew gw) (HG8.out.trans gw) (AllS.of HRY.out (HG0.out.trans (HG8.out.trans gw)) HLT8.out) rfl hown1 hg1 hv1 rfl)
         clear hown1 hg1 hv1
         go_wp2_with fail
         go_roundw
         case rel => exact ⟨p + 1, by omega, by go_num, by rw [HFS2.out, ← List.append_assoc, HLN.out]; exact HRA2.out.up gw⟩
         case measure => simp [intOf]; omega
        ·have hidb : (y.id == x.id) = false := by simpa using hid
         have hfs2 := HFS.out
         rw [if_neg (by rw [hidb]; simp), List.append_nil] at hfs2
         have HFS2 := hide hfs2
         clear hfs2 hWr
         go_wp2_with fail
         refine wp_region_qas 11 [] [] hm (h := ?_)
         repeat (refine wpSteady_step (fun K hK => ?_); go_simp; refine hK _ ?_; clear hK K)
         refine rq0 fun nq osq => ?_
         try simp only [Act.put, setA]
         try dsimp only
         go_wp2_with fail
         go_roundw
         case rel => exact ⟨p + 1, by omega, by go_num, by rw [HFS2.out, HLN.out]; exact HA2.out.up gw⟩
         case measure => simp [intOf]; omega
       ·obtain rfl : p = kept.length := by omega
        clear hra
        go_wp2_with fail
        go_roundw
        case rel => exact ⟨q + 1, by omega, by go_num, by
         rw [HSU.out, hrp3.out]
         have h := HA2.out
         rw [List.take_length] at h
         exact h.up gw⟩
        case measure => simp [intOf]; omega
     ·have hkb : (x.kind != k) = true := by simpa using hk
      have hrp3 : Hid (rpart 3 k n kept x = [t] ++ kept.filter (fun g => g.id == x.id)) := hide (by
       unfold rpart
       rw [if_pos (Or.inr hk), HT.out])
      go_wp2_with fail
      refine wp_region_qas 13 [] [] hm (h := ?_)
      repeat (refine wpSteady_step (fun K hK => ?_); go_simp; refine hK _ ?_; clear hK K)
      refine rq0 fun nq osq => ?_
      try simp only [Act.put, setA]
      try dsimp only
      go_wp2_with fail
      refine wp_region_held_drew (S := (fun W' => W'.cell? ⟨w.heap.size, 0, none⟩ = some (.int .i64 3) ∧ W'.cell? ⟨w.heap.size, 1, none⟩ = some (.int .i64 k) ∧ W'.cell? ⟨w.heap.size, 2, none⟩ = some (.int .i64 n) ∧ W'.cell? ⟨b1, off1 + q * 9, none⟩ = some (.int .i64 x.id) ∧ W'.cell? ⟨b1, off1 + q * 9 + 1, none⟩ = some (.int .i64 x.kind) ∧ W'.cell? ⟨b1, off1 + q * 9 + 2, none⟩ = some (.int .i64 x.x) ∧ W'.cell? ⟨b1, off1 + q * 9 + 3, none⟩ = some (.int .i64 x.y) ∧ W'.cell? ⟨b1, off1 + q * 9 + 4, none⟩ = some (.int .i64 x.rad) ∧ W'.cell? ⟨b1, off1 + q * 9 + 5, none⟩ = some (.slice x.aA x.area.length x.ac) ∧ W'.cell? ⟨b1, off1 + q * 9 + 6, none⟩ = some (.int .i64 x.dep) ∧ W'.cell? ⟨b1, off1 + q * 9 + 7, none⟩ = some (.int .i64 x.sym) ∧ W'.cell? ⟨b1, off1 + q * 9 + 8, none⟩ = some (.slice x.sA x.secs.length x.sc))) hm ?_ (fun hHeld => ?_)
      ·(first | exact hKS.out _ (HRA.out.g) | exact hKS.out _ (HG.out.trans gw))
      refine tk 0 ?_
      refine tk 1 ?_
      refine tk 2 ?_
      refine tk 3 ?_
      try simp only [Act.put, setA, getA]
      refine tk 4 ?_
      try simp only [Act.put, setA, getA]
      refine tk 5 ?_
      try simp only [Act.put, setA, getA]
      refine wpAnyH_ready (rs := [6]) (by kernel_rfl) (by simp) ?_
      refine AllReadyH.cons (o := _) rfl (fun K hK => ?_) AllReadyH.nil
      go_simp
      first | ((go_at_call 55); (refine (kc.out _ gw).mono ?_); rintro e Wn ⟨f', rfl, hfb, hfr, hgn, hfs⟩; have HFB := hide hfb; have HAC := hide (AllS.chg hfs hfr (HST.out _ gw)); have HGN := hide (Grew.trans (a := wr) gw hgn); clear hfb hfr hgn hfs; dsimp only) | (with_reducible show K _ _) | ((refine step_append_any _ rfl (.tmp 48) (.tmp 55) _ rfl W0.heap.size 47 i0 _ 9 104 Tryz.underlying37 hi hz0 hz1 hz2 rfl (by omega) _ L.length (L.flatMap FV.cells) rfl (fown_grew HO.out gw) _ (some ⟨_, 0, none⟩) 1 1 ([f'].flatMap FV.cells) rfl ((Rd.lit1 _ f' _ (by simp [hs_dr])).reads fv_len (by omega)) (fv_one _) (by simp only [maxLen]; omega) (by omega) (by have := HG.out.below.size; have := HGN.out.below.size; simp [hs_dr]; omega) ?_); (intro v' w1 hown1 hg1 hv1); have HRA : Hid (RA W0 w1 v' (l ++ [t])) := hide (RA.put (fown_grew HO.out gw) HBR.out (HAS.out.grew gw) (HG.out.trans gw) (HAC.out.grew gw) HFB.out hown1 hg1 hv1 rfl); clear hown1 hg1 hv1)
      refine hK.out _ _ ?_ (fun hHeld => ?_)
      ·(first | exact hKS.out _ (HRA.out.g) | exact hKS.out _ (HG.out.trans gw))
      clear hK K
      try simp only [Act.put, setA, getA]
      refine wpAnyH_ready (rs := [7]) (by kernel_rfl) (by simp) ?_
      refine AllReadyH.cons (o := _) rfl (fun K hK => ?_) AllReadyH.nil
      go_simp
      first | ((go_at_call 55); (refine (kc.out _ gw).mono ?_); rintro e Wn ⟨f', rfl, hfb, hfr, hgn, hfs⟩; have HFB := hide hfb; have HAC := hide (AllS.chg hfs hfr (HST.out _ gw)); have HGN := hide (Grew.trans (a := wr) gw hgn); clear hfb hfr hgn hfs; dsimp only) | (with_reducible show K _ _) | ((refine step_append_any _ rfl (.tmp 48) (.tmp 55) _ rfl W0.heap.size 47 i0 _ 9 104 Tryz.underlying37 hi hz0 hz1 hz2 rfl (by omega) _ L.length (L.flatMap FV.cells) rfl (fown_grew HO.out gw) _ (some ⟨_, 0, none⟩) 1 1 ([f'].flatMap FV.cells) rfl ((Rd.lit1 _ f' _ (by simp [hs_dr])).reads fv_len (by omega)) (fv_one _) (by simp only [maxLen]; omega) (by omega) (by have := HG.out.below.size; have := HGN.out.below.size; simp [hs_dr]; omega) ?_); (intro v' w1 hown1 hg1 hv1); have HRA : Hid (RA W0 w1 v' (l ++ [t])) := hide (RA.put (fown_grew HO.out gw) HBR.out (HAS.out.grew gw) (HG.out.trans gw) (HAC.out.grew gw) HFB.out hown1 hg1 hv1 rfl); clear hown1 hg1 hv1)
      refine hK.out _ _ ?_ (fun hHeld => ?_)
      ·(first | exact hKS.out _ (HRA.out.g) | exact hKS.out _ (HG.out.trans gw))
      clear hK K
      try simp only [Act.put, setA, getA]
      refine wpAnyH_ready (rs := [8]) (by kernel_rfl) (by simp) ?_
      refine AllReadyH.cons (o := _) rfl (fun K hK => ?_) AllReadyH.nil
      first | ((go_at_call 55); (refine (kc.out _ gw).mono ?_); rintro e Wn ⟨f', rfl, hfb, hfr, hgn, hfs⟩; have HFB := hide hfb; have HAC := hide (AllS.chg hfs hfr (HST.out _ gw)); have HGN := hide (Grew.trans (a := wr) gw hgn); clear hfb hfr hgn hfs; dsimp only) | (with_reducible show K _ _) | ((refine step_append_any _ rfl (.tmp 48) (.tmp 55) _ rfl W0.heap.size 47 i0 _ 9 104 Tryz.underlying37 hi hz0 hz1 hz2 rfl (by omega) _ L.length (L.flatMap FV.cells) rfl (fown_grew HO.out gw) _ (some ⟨_, 0, none⟩) 1 1 ([f'].flatMap FV.cells) rfl ((Rd.lit1 _ f' _ (by simp [hs_dr])).reads fv_len (by omega)) (fv_one _) (by simp only [maxLen]; omega) (by omega) (by have := HG.out.below.size; have := HGN.out.below.size; simp [hs_dr]; omega) ?_); (intro v' w1 hown1 hg1 hv1); have HRA : Hid (RA W0 w1 v' (l ++ [t])) := hide (RA.put (fown_grew HO.out gw) HBR.out (HAS.out.grew gw) (HG.out.trans gw) (HAC.out.grew gw) HFB.out hown1 hg1 hv1 rfl); clear hown1 hg1 hv1)
      refine hK.out _ _ ?_ (fun hHeld => ?_)
      ·(first | exact hKS.out _ (HRA.out.g) | exact hKS.out _ (HG.out.trans gw))
      clear hK K
      try simp only [Act.put, setA, getA]
      refine tk 9 ?_
      try simp only [Act.put, setA, getA]
      refine wpAnyH_done (by kernel_rfl) ?_ _
      clear hHeld
      go_wp2_with fail
      clear kc
      have hl3 : (l ++ [t]).length ≤ 300 * 301 + 1 := by rw [List.length_append]; simp; omega
      obtain ⟨lm, hlm⟩ : ∃ lm, l ++ [t] = lm := ⟨_, rfl⟩
      have HLM := hide hlm
      rw [hlm] at HRA hl3
      clear hlm
      go_loopw [9, 11] (fun v i wr => ∃ p : Nat, p ≤ kept.length ∧ i = .int .i64 p ∧ RA W0 wr v (lm ++ (kept.take p).filter (fun g => g.id == x.id))) (fun _ i _ => kept.length - (intOf i).toNat)
      case atStart => exact ⟨0, by omega, rfl, (by rw [List.take_zero, List.filter_nil, List.append_nil]; exact HRA.out.up gw)⟩
      case round =>
       obtain ⟨p, hp, rfl, hra⟩ := hrel
       have HA2 := hide hra
       obtain ⟨c0, c1', c2, c3, c4, c5, c6, c7, c8⟩ := FX.out.up hra.g hb1
       have hb1x : b1 < wr.heap.size := Nat.lt_of_lt_of_le hb1 hra.g.below.size
       by_cases hpl : p < kept.length
       ·obtain ⟨A8, cv8, rfl⟩ := hra.slice
        obtain ⟨⟨L8, hown8, hbr8, has8⟩, hgr8⟩ := hra
        obtain ⟨b2, off2, hA2, hb2, fy⟩ := rowAt HK0.out hpl
        have hix2 := idx_run (cap := c1) Tryz.underlying37 Tryz.sizeOf47 hA2.out hpl
        have hry := HKS.out _ (fAt_mem hpl)
        have hfs : (kept.take (p + 1)).filter (fun g => g.id == x.id) = (kept.take p).filter (fun g => g.id == x.id) ++ if (fAt kept p).id == x.id then [fAt kept p] else [] := by
         rw [List.take_add_one, fAt_get hpl, List.filter_append]
         simp [List.filter_cons]
        have hl8 : ((kept.take p).filter (fun g => g.id == x.id)).length ≤ 300 := by
         have := List.length_filter_le (fun g : FV => g.id == x.id) (kept.take p)
         rw [List.length_take] at this
         omega
        obtain ⟨y, hy⟩ : ∃ y, fAt kept p = y := ⟨_, rfl⟩
        rw [hy] at fy hry hfs
        obtain ⟨fl, hfl⟩ : ∃ fl, (kept.take p).filter (fun g => g.id == x.id) = fl := ⟨_, rfl⟩
        rw [hfl] at hown8 hbr8 has8 hfs hl8 HA2
        rw [hfl]
        have hL8 := len_of hbr8
        rw [List.length_append] at hL8
        obtain ⟨d0, d1, d2, d3, d4, d5, d6, d7, d8⟩ := fy.up hgr8 hb2
        have hb2x : b2 < wr.heap.size := Nat.lt_of_lt_of_le hb2 hgr8.below.size
        have HFY := hide fy
        have HRY := hide hry
        have HFS := hide hfs
        obtain ⟨ln, hln⟩ : ∃ l', lm ++ fl = l' := ⟨_, rfl⟩
        have HLN := hide hln
        rw [hln] at hown8 hbr8 has8 HA2
        rw [hln]
        have hLL8 : L8.length = ln.length := len_of hbr8
        have HO8 := hide hown8
        have HBR8 := hide hbr8
        have HAS8 := hide has8
        have HG8 := hide hgr8
        have HLT8 : Hid (∀ g, (Value.slice A8 ln.length cv8).ownBlock = some g → w.heap.size ≤ g) := hide (fun g h => Nat.le_trans HW0.out (HO8.out.lt g h).1)
        obtain ⟨Wr, hWr⟩ : ∃ W, W = wr := ⟨wr, rfl⟩
        clear hA2 hy hfl hry hfs fy hln hown8 hbr8 has8 hgr8
        by_cases hid : y.id = x.id
        ·have hidb : (y.id == x.id) = true := by simpa using hid
         have hfs2 := HFS.out
         rw [if_pos hidb] at hfs2
         have HFS2 := hide hfs2
         clear hfs2 hWr
         go_wp2_with fail
         refine wp_region_qas 11 [] [] hm (h := ?_)
         repeat (refine wpSteady_step (fun K hK => ?_); go_simp; refine hK _ ?_; clear hK K)
         refine rq0 fun nq osq => ?_
         try simp only [Act.put, setA]
         try dsimp only
         go_wp2_with (at_builtin; refine AppG3.stop ?_)
         refine AppG3.go ?_
         refine wpList_append_any _ rfl (.tmp 74) (.tmp 79) _ rfl W0.heap.size 47 i0 _ 9 104 Tryz.underlying37 hi hz0 hz1 hz2 rfl (by omega) _ L8.length (L8.flatMap FV.cells) rfl (fown_grew HO8.out gw) _ (some ⟨_, 0, none⟩) 1 1 ([y].flatMap FV.cells) rfl (Rd.reads fv_len (by omega) (by rw [← hid]; exact Rd.lit1 _ y _ (by first | rfl | simp [hs_dr]))) (fv_one _) (by simp only [maxLen]; omega) (by omega) (by have := HG8.out.below.size; (try simp [hs_dr]); omega) ?_
         intro v' w1 hown1 hg1 hv1
         have HRA2 : Hid (RA W0 w1 v' (ln ++ [y])) := hide (RA.put (fown_grew HO8.out gw) HBR8.out (HAS8.out.grew gw) (HG8.out.trans gw) (AllS.of HRY.out (HG0.out.trans (HG8.out.trans gw)) HLT8.out) rfl hown1 hg1 hv1 rfl)
         clear hown1 hg1 hv1
         go_wp2_with fail
         go_roundw
         case rel => exact ⟨p + 1, by omega, by go_num, by rw [HFS2.out, ← List.append_assoc, HLN.out]; exact HRA2.out.up gw⟩
         case measure => simp [intOf]; omega
        ·have hidb : (y.id == x.id) = false := by simpa using hid
         have hfs2 := HFS.out
         rw [if_neg (by rw [hidb]; simp), List.append_nil] at hfs2
         have HFS2 := hide hfs2
         clear hfs2 hWr
         go_wp2_with fail
         refine wp_region_qas 11 [] [] hm (h := ?_)
         repeat (refine wpSteady_step (fun K hK => ?_); go_simp; refine hK _ ?_; clear hK K)
         refine rq0 fun nq osq => ?_
         try simp only [Act.put, setA]
         try dsimp only
         go_wp2_with fail
         go_roundw
         case rel => exact ⟨p + 1, by omega, by go_num, by rw [HFS2.out, HLN.out]; exact HA2.out.up gw⟩
         case measure => simp [intOf]; omega
       ·obtain rfl : p = kept.length := by omega
        clear hra
        go_wp2_with fail
        go_roundw
        case rel => exact ⟨q + 1, by omega, by go_num, by
         rw [HSU.out, hrp3.out, ← List.append_assoc, HLM.out]
         have h := HA2.out
         rw [List.take_length] at h
         exact h.up gw⟩
        case measure => simp [intOf]; omega
    ·obtain rfl : q = fs.length := by omega
     obtain ⟨⟨L, hown, hbr, has⟩, hgr⟩ := hra
     obtain ⟨Av, cv, rfl, hcv, hrd⟩ := Rd.of_own fv_len hown rfl
     have hll : L.length ≤ 300 * 301 := by
      rw [len_of hbr]
      exact Nat.le_trans (rapp_len 3 k n kept fs fs.length) (Nat.mul_le_mul (by omega) (by have := hkl; omega))
     rw [← HAL.out] at hbr
     have HFR := hide (show FRd wr wr.heap.size Av L from ⟨hrd, fun f hf => has f hf wr ((Grew.refl wr).grownBy _)⟩)
     obtain ⟨u, hu⟩ : ∃ u, FList (rapplyL 3 k n fs) = u := ⟨_, rfl⟩
     have hfu := (FList_of hbr).trans hu
     have kv := hide (fun W (hg : Grew wr W) => v7List_v L Av cv u W (HFR.out.up hg) (by omega) hfu)
     have hrs := HRS.out
     rw [hu] at hrs
     have HBR := hide hbr
     have HG := hide hgr
     clear hbr hgr hown has hcv hrd hu hfu HRS HA HAL
     cases u
     ·obtain rfl : rs = ([], 3) := by rw [← hrs, if_neg (by simp)]
      clear hrs
      go_wp2_with (go_at_call 53; with_reducible refine crv (kv.out _ gw) fun _ _ => ?_; dsimp only)
      go_ret2
      exact ⟨none, 0, [], rfl, rfl, FRd.nil _ _ _, HG0.out.trans (HG.out.trans gw)⟩
     ·obtain rfl : rs = (rapplyL 3 k n fs, 0) := by rw [← hrs, if_pos rfl]
      clear hrs
      go_wp2_with (go_at_call 53; with_reducible refine crv (kv.out _ gw) fun _ _ => ?_; dsimp only)
      go_ret2
      exact ⟨Av, cv, L, rfl, HBR.out, HFR.out.up gw, HG0.out.trans (HG.out.trans gw)⟩
  ·have h3 : (o == 3) = false := by simpa using ho3
   have h3n : (o != 3) = true := by simpa using ho3
   have hke : rkeptL o k n fs = [] := if_neg ho3
   have HAL : Hid (rapplyL o k n fs = rappTo o k n [] fs fs.length) := hide (by unfold rapplyL rappTo; rw [hke, List.take_length])
   have HO3 := hide ho3
   go_enter Tryz.func25, Tryz.ntmps25
   clear hke ho3
   go_wp2_with (first | (go_at_call 28; with_reducible refine crv (k1.out _) fun _ _ => ?_; dsimp only) | (go_at_call 53; with_reducible refine crv (k2.out _ gw) fun _ _ => ?_; dsimp only))
   refine wp_name ?_
   intro W0 hW
   have HG0 : Hid (Grew w W0) := hide (by rw [← hW]; exact gw)
   have HB0 : Hid (RuBox W0 w.heap.size o k n) := hide (by rw [← hW]; exact (RuBox.new w o k n).up gw)
   clear hW k1 k2 ht
   have hkl : ([] : List FV).length ≤ fs.length := by simp
   go_loopw [9, 10] (fun v i wr => ∃ q : Nat, q ≤ fs.length ∧ i = .int .i64 q ∧ RA W0 wr v (rappTo o k n ([] : List FV) fs q)) (fun _ i _ => fs.length - (intOf i).toNat)
   case atStart => exact ⟨0, by omega, rfl, ⟨⟨[], World.ownsRow_nil _ _ _ _, rfl, AllS.nil _ _⟩, gw⟩⟩
   case round =>
    obtain ⟨q, hq, rfl, hra⟩ := hrel
    have HA := hide hra
    by_cases hlt : q < fs.length
    ·obtain ⟨Av, cv, rfl⟩ := hra.slice
     obtain ⟨⟨L, hown, hbr, has⟩, hgr⟩ := hra
     obtain ⟨⟨r0, r1, r2⟩, rl⟩ := HB0.out.up hgr
     obtain ⟨b1, off1, hA1, hb1, fx⟩ := rowAt (HR.out.row.up HG0.out) hlt
     have hix1 := idx_run (cap := c) Tryz.underlying37 Tryz.sizeOf47 hA1.out hlt
     have hsu := rapp_succ (o := o) (k := k) (n := n) (kept := ([] : List FV)) hlt
     have hrr := HR.out.each _ (fAt_mem hlt)
     have hdp := HFD.out _ (fAt_mem hlt)
     have hll : (rappTo o k n ([] : List FV) fs q).length ≤ 300 * 301 := Nat.le_trans (rapp_len o k n ([] : List FV) fs q) (Nat.mul_le_mul (by omega) (by have := hkl; omega))
     obtain ⟨x, hx⟩ : ∃ x, fAt fs q = x := ⟨_, rfl⟩
     obtain ⟨l, hl⟩ : ∃ l, rappTo o k n ([] : List FV) fs q = l := ⟨_, rfl⟩
     rw [hx] at fx hsu hrr hdp
     rw [hl] at hsu HA hll hbr hown has
     rw [hl]
     have hLL := len_of hbr
     have FX := hide fx
     obtain ⟨c0, c1', c2, c3, c4, c5, c6, c7, c8⟩ := fx.up hgr hb1
     have hb1w : b1 < wr.heap.size := Nat.lt_of_lt_of_le hb1 hgr.below.size
     have HSU := hide hsu
     have HBR := hide hbr
     have HAS := hide has
     have HO := hide hown
     have HG := hide hgr
     have hL3 : L.length ≤ 300 * 301 := by omega
     have HLT : Hid (∀ g, (Value.slice Av l.length cv).ownBlock = some g → W0.heap.size ≤ g ∧ g < wr.heap.size) := hide (fun g h => HO.out.lt g h)
     have HW0 : Hid (w.heap.size ≤ W0.heap.size) := hide HG0.out.below.size
     have HST : Hid (∀ W, Grew wr W → ∀ g, (Value.slice Av l.length cv).ownBlock = some g → g < W.heap.size ∧ FSt W g x) := hide (fun W hg g h => ⟨by have := HLT.out g h; have := hg.below.size; omega, by
      have hb := (HG0.out.trans (HG.out.trans hg)).below
      exact FSt.of (B := w.heap.size) ⟨hrr.area.below hb, hrr.secs.below hb, hrr.la, hrr.ls, hrr.lc⟩ (by have := HG.out.below.size; have := hg.below.size; have := HW0.out; omega) (by have := HLT.out g h; have := HW0.out; omega)⟩)
     have kc := hide (fun W (hg : Grew wr W) => rchange_v o k n x W (by
      have hb := (HG0.out.trans (HG.out.trans hg)).below
      exact ⟨(hrr.area.below hb).mono hb.size, (hrr.secs.below hb).mono hb.size, hrr.la, hrr.ls, hrr.lc⟩) HO1.out hdp)
     have HDP := hide hdp
     obtain ⟨t, ht⟩ : ∃ t, chg o k n x = t := ⟨_, rfl⟩
     rw [ht] at kc
     have HT := hide ht
     have hKS : Hid (∀ W', Grew W0 W' → (W'.cell? ⟨w.heap.size, 0, none⟩ = some (.int .i64 o) ∧ W'.cell? ⟨w.heap.size, 1, none⟩ = some (.int .i64 k) ∧ W'.cell? ⟨w.heap.size, 2, none⟩ = some (.int .i64 n) ∧ W'.cell? ⟨b1, off1 + q * 9, none⟩ = some (.int .i64 x.id) ∧ W'.cell? ⟨b1, off1 + q * 9 + 1, none⟩ = some (.int .i64 x.kind) ∧ W'.cell? ⟨b1, off1 + q * 9 + 2, none⟩ = some (.int .i64 x.x) ∧ W'.cell? ⟨b1, off1 + q * 9 + 3, none⟩ = some (.int .i64 x.y) ∧ W'.cell? ⟨b1, off1 + q * 9 + 4, none⟩ = some (.int .i64 x.rad) ∧ W'.cell? ⟨b1, off1 + q * 9 + 5, none⟩ = some (.slice x.aA x.area.length x.ac) ∧ W'.cell? ⟨b1, off1 + q * 9 + 6, none⟩ = some (.int .i64 x.dep) ∧ W'.cell? ⟨b1, off1 + q * 9 + 7, none⟩ = some (.int .i64 x.sym) ∧ W'.cell? ⟨b1, off1 + q * 9 + 8, none⟩ = some (.slice x.sA x.secs.length x.sc))) := hide (fun W' g => by
      obtain ⟨⟨r0, r1, r2⟩, _⟩ := HB0.out.up g
      obtain ⟨d0, d1, d2, d3, d4, d5, d6, d7, d8⟩ := FX.out.up g hb1
      exact ⟨r0, r1, r2, d0, d1, d2, d3, d4, d5, d6, d7, d8⟩)
     clear hA1 hx hl hsu hrr hbr hown hgr hdp ht has fx
     go_wp2_with fail
     refine wp_region_qas 13 [] [] hm (h := ?_)
     repeat (refine wpSteady_step (fun K hK => ?_); go_simp; refine hK _ ?_; clear hK K)
     refine rq0 fun nq osq => ?_
     try simp only [Act.put, setA]
     try dsimp only
     go_wp2_with fail
     refine wp_region_held_drew (S := (fun W' => W'.cell? ⟨w.heap.size, 0, none⟩ = some (.int .i64 o) ∧ W'.cell? ⟨w.heap.size, 1, none⟩ = some (.int .i64 k) ∧ W'.cell? ⟨w.heap.size, 2, none⟩ = some (.int .i64 n) ∧ W'.cell? ⟨b1, off1 + q * 9, none⟩ = some (.int .i64 x.id) ∧ W'.cell? ⟨b1, off1 + q * 9 + 1, none⟩ = some (.int .i64 x.kind) ∧ W'.cell? ⟨b1, off1 + q * 9 + 2, none⟩ = some (.int .i64 x.x) ∧ W'.cell? ⟨b1, off1 + q * 9 + 3, none⟩ = some (.int .i64 x.y) ∧ W'.cell? ⟨b1, off1 + q * 9 + 4, none⟩ = some (.int .i64 x.rad) ∧ W'.cell? ⟨b1, off1 + q * 9 + 5, none⟩ = some (.slice x.aA x.area.length x.ac) ∧ W'.cell? ⟨b1, off1 + q * 9 + 6, none⟩ = some (.int .i64 x.dep) ∧ W'.cell? ⟨b1, off1 + q * 9 + 7, none⟩ = some (.int .i64 x.sym) ∧ W'.cell? ⟨b1, off1 + q * 9 + 8, none⟩ = some (.slice x.sA x.secs.length x.sc))) hm ?_ (fun hHeld => ?_)
     ·(first | exact hKS.out _ (HRA.out.g) | exact hKS.out _ (HG.out.trans gw))
     refine tk 0 ?_
     refine tk 1 ?_
     refine tk 2 ?_
     refine tk 3 ?_
     try simp only [Act.put, setA, getA]
     refine tk 4 ?_
     try simp only [Act.put, setA, getA]
     refine tk 5 ?_
     try simp only [Act.put, setA, getA]
     refine wpAnyH_ready (rs := [6]) (by kernel_rfl) (by simp) ?_
     refine AllReadyH.cons (o := _) rfl (fun K hK => ?_) AllReadyH.nil
     go_simp
     first | ((go_at_call 55); (refine (kc.out _ gw).mono ?_); rintro e Wn ⟨f', rfl, hfb, hfr, hgn, hfs⟩; have HFB := hide hfb; have HAC := hide (AllS.chg hfs hfr (HST.out _ gw)); have HGN := hide (Grew.trans (a := wr) gw hgn); clear hfb hfr hgn hfs; dsimp only) | (with_reducible show K _ _) | ((refine step_append_any _ rfl (.tmp 48) (.tmp 55) _ rfl W0.heap.size 47 i0 _ 9 104 Tryz.underlying37 hi hz0 hz1 hz2 rfl (by omega) _ L.length (L.flatMap FV.cells) rfl (fown_grew HO.out gw) _ (some ⟨_, 0, none⟩) 1 1 ([f'].flatMap FV.cells) rfl ((Rd.lit1 _ f' _ (by simp [hs_dr])).reads fv_len (by omega)) (fv_one _) (by simp only [maxLen]; omega) (by omega) (by have := HG.out.below.size; have := HGN.out.below.size; simp [hs_dr]; omega) ?_); (intro v' w1 hown1 hg1 hv1); have HRA : Hid (RA W0 w1 v' (l ++ [t])) := hide (RA.put (fown_grew HO.out gw) HBR.out (HAS.out.grew gw) (HG.out.trans gw) (HAC.out.grew gw) HFB.out hown1 hg1 hv1 rfl); clear hown1 hg1 hv1)
     refine hK.out _ _ ?_ (fun hHeld => ?_)
     ·(first | exact hKS.out _ (HRA.out.g) | exact hKS.out _ (HG.out.trans gw))
     clear hK K
     try simp only [Act.put, setA, getA]
     refine wpAnyH_ready (rs := [7]) (by kernel_rfl) (by simp) ?_
     refine AllReadyH.cons (o := _) rfl (fun K hK => ?_) AllReadyH.nil
     go_simp
     first | ((go_at_call 55); (refine (kc.out _ gw).mono ?_); rintro e Wn ⟨f', rfl, hfb, hfr, hgn, hfs⟩; have HFB := hide hfb; have HAC := hide (AllS.chg hfs hfr (HST.out _ gw)); have HGN := hide (Grew.trans (a := wr) gw hgn); clear hfb hfr hgn hfs; dsimp only) | (with_reducible show K _ _) | ((refine step_append_any _ rfl (.tmp 48) (.tmp 55) _ rfl W0.heap.size 47 i0 _ 9 104 Tryz.underlying37 hi hz0 hz1 hz2 rfl (by omega) _ L.length (L.flatMap FV.cells) rfl (fown_grew HO.out gw) _ (some ⟨_, 0, none⟩) 1 1 ([f'].flatMap FV.cells) rfl ((Rd.lit1 _ f' _ (by simp [hs_dr])).reads fv_len (by omega)) (fv_one _) (by simp only [maxLen]; omega) (by omega) (by have := HG.out.below.size; have := HGN.out.below.size; simp [hs_dr]; omega) ?_); (intro v' w1 hown1 hg1 hv1); have HRA : Hid (RA W0 w1 v' (l ++ [t])) := hide (RA.put (fown_grew HO.out gw) HBR.out (HAS.out.grew gw) (HG.out.trans gw) (HAC.out.grew gw) HFB.out hown1 hg1 hv1 rfl); clear hown1 hg1 hv1)
     refine hK.out _ _ ?_ (fun hHeld => ?_)
     ·(first | exact hKS.out _ (HRA.out.g) | exact hKS.out _ (HG.out.trans gw))
     clear hK K
     try simp only [Act.put, setA, getA]
     refine wpAnyH_ready (rs := [8]) (by kernel_rfl) (by simp) ?_
     refine AllReadyH.cons (o := _) rfl (fun K hK => ?_) AllReadyH.nil
     first | ((go_at_call 55); (refine (kc.out _ gw).mono ?_); rintro e Wn ⟨f', rfl, hfb, hfr, hgn, hfs⟩; have HFB := hide hfb; have HAC := hide (AllS.chg hfs hfr (HST.out _ gw)); have HGN := hide (Grew.trans (a := wr) gw hgn); clear hfb hfr hgn hfs; dsimp only) | (with_reducible show K _ _) | ((refine step_append_any _ rfl (.tmp 48) (.tmp 55) _ rfl W0.heap.size 47 i0 _ 9 104 Tryz.underlying37 hi hz0 hz1 hz2 rfl (by omega) _ L.length (L.flatMap FV.cells) rfl (fown_grew HO.out gw) _ (some ⟨_, 0, none⟩) 1 1 ([f'].flatMap FV.cells) rfl ((Rd.lit1 _ f' _ (by simp [hs_dr])).reads fv_len (by omega)) (fv_one _) (by simp only [maxLen]; omega) (by omega) (by have := HG.out.below.size; have := HGN.out.below.size; simp [hs_dr]; omega) ?_); (intro v' w1 hown1 hg1 hv1); have HRA : Hid (RA W0 w1 v' (l ++ [t])) := hide (RA.put (fown_grew HO.out gw) HBR.out (HAS.out.grew gw) (HG.out.trans gw) (HAC.out.grew gw) HFB.out hown1 hg1 hv1 rfl); clear hown1 hg1 hv1)
     refine hK.out _ _ ?_ (fun hHeld => ?_)
     ·(first | exact hKS.out _ (HRA.out.g) | exact hKS.out _ (HG.out.trans gw))
     clear hK K
     try simp only [Act.put, setA, getA]
     refine tk 9 ?_
     try simp only [Act.put, setA, getA]
     refine wpAnyH_done (by kernel_rfl) ?_ _
     clear hHeld
     go_wp2_with fail
     clear kc
     go_loopw [9, 11] (fun v p wr => p = .int .i64 0 ∧ RA W0 wr v (l ++ [t])) (fun _ _ _ => 0)
     case atStart => exact ⟨rfl, HRA.out.up gw⟩
     case round =>
      obtain ⟨rfl, hra⟩ := hrel
      have HA2 := hide hra
      clear hra
      go_wp2_with fail
      go_roundw
      case rel => exact ⟨q + 1, by omega, by go_num, by
       rw [HSU.out, show rpart o k n [] x = [t] from by
        unfold rpart
        rw [if_pos (Or.inl HO3.out), HT.out]
        rfl]
       exact HA2.out.up gw⟩
      case measure => simp [intOf]; omega
    ·obtain rfl : q = fs.length := by omega
     obtain ⟨⟨L, hown, hbr, has⟩, hgr⟩ := hra
     obtain ⟨Av, cv, rfl, hcv, hrd⟩ := Rd.of_own fv_len hown rfl
     have hll : L.length ≤ 300 * 301 := by
      rw [len_of hbr]
      exact Nat.le_trans (rapp_len o k n ([] : List FV) fs fs.length) (Nat.mul_le_mul (by omega) (by have := hkl; omega))
     rw [← HAL.out] at hbr
     have HFR := hide (show FRd wr wr.heap.size Av L from ⟨hrd, fun f hf => has f hf wr ((Grew.refl wr).grownBy _)⟩)
     obtain ⟨u, hu⟩ : ∃ u, FList (rapplyL o k n fs) = u := ⟨_, rfl⟩
     have hfu := (FList_of hbr).trans hu
     have kv := hide (fun W (hg : Grew wr W) => v7List_v L Av cv u W (HFR.out.up hg) (by omega) hfu)
     have hrs := HRS.out
     rw [hu] at hrs
     have HBR := hide hbr
     have HG := hide hgr
     clear hbr hgr hown has hcv hrd hu hfu HRS HA HAL
     cases u
     ·obtain rfl : rs = ([], 3) := by rw [← hrs, if_neg (by simp)]
      clear hrs
      go_wp2_with (go_at_call 53; with_reducible refine crv (kv.out _ gw) fun _ _ => ?_; dsimp only)
      go_ret2
      exact ⟨none, 0, [], rfl, rfl, FRd.nil _ _ _, HG0.out.trans (HG.out.trans gw)⟩
     ·obtain rfl : rs = (rapplyL o k n fs, 0) := by rw [← hrs, if_pos rfl]
      clear hrs
      go_wp2_with (go_at_call 53; with_reducible refine crv (kv.out _ gw) fun _ _ => ?_; dsimp only)
      go_ret2
      exact ⟨Av, cv, L, rfl, HBR.out, HFR.out.up gw, HG0.out.trans (HG.out.trans gw)⟩
 ·have hb : (u1 && u2) = false := by
   cases u1 <;> cases u2 <;> simp at hbad ⊢
  rw [hb, if_neg (by simp)]
  have hcs : u1 = false ∨ (u1 = true ∧ u2 = false) := by cases u1 <;> cases u2 <;> simp at hb ⊢
  clear hr hu1 hu2 hb hbad
  rcases hcs with rfl | ⟨rfl, rfl⟩
  all_goals
   go_enter Tryz.func25, Tryz.ntmps25
   go_wp2_with (first | (go_at_call 28; with_reducible refine crv (k1.out _) fun _ _ => ?_; dsimp only) | (go_at_call 53; with_reducible refine crv (k2.out _ gw) fun _ _ => ?_; dsimp only))
   go_ret2
   exact ⟨none, 0, [], rfl, rfl, FRd.nil _ _ _, gw⟩
end Go.Proofs.YtfeccolljfkejaaGreatDoor
