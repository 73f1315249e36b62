/- The reference of polygons: Hull. -/
import Derived.Test.YtndkfpmklmcjjaaGreatRhD
set_option linter.unusedSimpArgs false
set_option linter.unusedVariables false
set_option maxHeartbeats 16000000
set_option maxRecDepth 100000
namespace Go.Proofs.YtndkfpmklmcjjaaGreat
open Go.RowKit Go.Sort Go.Lib
attribute [local go_sem] Steady steadyUpon
attribute [local go_sem ↓] hs_dr lt_add_r lt_add_r2 lt_add_r3 lt_add_r4 lt_add_r5 lt_add_r6
attribute [local go_sem] cell?_gd frozen?_gd setCell_gd size_grow tape_grow cell?_grow' frozen?_grow' setCell_grow' grow_grow grow_dr grow_drew dr_dr dr_drew drew_dr dr_alloc dr_setCell dr_cell dr_frozen dr_tape dr_drawn
attribute [local irreducible] wpSteady
theorem Rd.apart {X Y : World} {m : Nat} {A : Option Addr} {xs : List (List Value)} (h : Rd X X.heap.size m A xs) {row : Option Nat} (hg : X.grownBy Y row) (hne : ∀ b o, A = some ⟨b, o, none⟩ → row ≠ some b) : Rd Y Y.heap.size m A xs := by
 rcases h with h | ⟨b, off, hA, hb, hc⟩
 ·exact .inl h
 ·exact .inr ⟨b, off, hA, Nat.lt_of_lt_of_le hb hg.size, fun k x hx j v hv => (World.cell?_of_block (hg.block b hb (fun e => hne b off hA (by first | exact e | exact e.symm)))).trans (hc k x hx j v hv)⟩
def Apt (A : Option Addr) (ov : Value) (W : World) : Prop := ∀ b o, A = some ⟨b, o, none⟩ → b < W.heap.size ∧ ov.ownBlock ≠ some b
theorem Apt.up {A : Option Addr} {ov : Value} {W W' : World} (h : Apt A ov W) (g : W.heap.size ≤ W'.heap.size) : Apt A ov W' := fun b o e => ⟨Nat.lt_of_lt_of_le (h b o e).1 g, (h b o e).2⟩
theorem Apt.step {A : Option Addr} {ov v' : Value} {W X Y : World} (h : Apt A ov W) (g : W.heap.size ≤ X.heap.size) (g2 : X.heap.size ≤ Y.heap.size) (hat : v'.ownBlock = ov.ownBlock ∨ v'.ownBlock = some X.heap.size) : Apt A v' Y := fun b o e => by
 obtain ⟨h1, h2⟩ := h b o e
 refine ⟨by omega, ?_⟩
 rcases hat with k | k
 ·rw [k]; exact h2
 ·rw [k]
  intro e2
  injection e2 with e2
  omega
theorem Apt.start {W3 W4 : World} {A4 A5 : Option Addr} {e e' : TypeId} {s s' n n' c4 c5 base base' : Nat} {xs ys : List Value} (h5 : W3.ownsRow base e s (.slice A5 n c5) n xs) (h4 : W4.ownsRow base' e' s' (.slice A4 n' c4) n' ys) (hb : W3.heap.size ≤ base') : Apt A4 (.slice A5 n c5) W4 := fun b o e => by
 subst e
 have k4 := h4.lt b rfl
 refine ⟨k4.2, fun e5 => ?_⟩
 have k5 := h5.lt b e5
 omega
theorem rev_step {pl : List Pt} {n : Nat} {p : Pt} (h : pl[n]? = some p) : (pl.drop n).reverse = (pl.drop (n + 1)).reverse ++ [p] := by
 obtain ⟨hn, e⟩ := List.getElem?_eq_some_iff.1 h
 rw [List.drop_eq_getElem_cons hn, List.reverse_cons, e]
theorem up_step {up : List Pt} {m : Nat} {p : Pt} (hm : 1 ≤ m) (h : up[m]? = some p) : (up.take (m + 1)).drop 1 = (up.take m).drop 1 ++ [p] := by
 have hl := (List.getElem?_eq_some_iff.1 h).1
 rw [List.take_add_one, h, Option.toList_some, List.drop_append_of_le_length (by rw [List.length_take]; omega)]
theorem up_end {up : List Pt} {m : Nat} (hm : 1 ≤ m) (h1 : ¬ m + 1 < up.length) (h2 : m + 1 ≤ up.length ∨ m = 1) : (up.take m).drop 1 = (up.take (up.length - 1)).drop 1 := by
 rcases h2 with h2 | rfl
 ·rw [show m = up.length - 1 by omega]
 ·by_cases e : up.length = 2
  ·rw [e]
  ·rw [List.drop_eq_nil_of_le (by rw [List.length_take]; omega), List.drop_eq_nil_of_le (by rw [List.length_take]; omega)]
theorem p3Hull_v (ps : List Pt) (A : Option Addr) (c : Nat) (w : World) (hr : Rd w w.heap.size 2 A (ps.map encD)) (hc : ps.length ≤ 100000000000000) :
  Calls Tryz.prog 18 #[.slice A ps.length c] w (PolyR w (hullOf ps)) := by
 have hm := hmix
 by_cases h0 : ps.length = 0
 ·have e : hullOf ps = ([], 1) := by unfold hullOf; rw [if_neg (fun h => h.1 h0)]
  rw [e, h0]
  clear hr
  go_enter Tryz.func18, Tryz.ntmps18
  go_wp2_with fail
  go_ret2
  exact ⟨_, rfl, World.ownsRow_nil _ _ _ _, gw⟩
 by_cases h1 : 200 < ps.length
 ·have e : hullOf ps = ([], 1) := by unfold hullOf; rw [if_neg (fun h => by omega)]
  rw [e]
  have h0' : ¬ (ps.length : Int) < 1 := by omega
  have h1' : (200 : Int) < ps.length := by omega
  clear hr
  go_enter Tryz.func18, Tryz.ntmps18
  go_wp2_with fail
  go_ret2
  exact ⟨_, rfl, World.ownsRow_nil _ _ _ _, gw⟩
 obtain ⟨res, hres⟩ : ∃ r, hullOf ps = r := ⟨_, rfl⟩
 rw [hres]
 have HRES := hide hres
 have HR := hide hr
 have h0' : ¬ (ps.length : Int) < 1 := by omega
 have h1' : ¬ (200 : Int) < ps.length := by omega
 obtain ⟨i0, hi0, hz0, hz1, hz2⟩ := info_parts ptInf
 clear hres hr
 go_enter Tryz.func18, Tryz.ntmps18
 go_wp2_with fail
 go_loopw [4] (fun i wr => ∃ m : Nat, m ≤ ps.length ∧ i = .int .i64 m ∧ Grew w wr ∧ AppG ((ps.take m).all Pt.ok = true)) (fun i _ => ps.length - (intOf i).toNat)
 case atStart => exact ⟨0, by omega, rfl, gw, rfl⟩
 case round =>
  obtain ⟨m, hmm, rfl, hg, hall⟩ := hrel
  have HG := hide hg
  have HA := hide hall.stop
  clear hg hall
  by_cases hlt : m < ps.length
  ·obtain ⟨p, hp⟩ : ∃ p, ps[m]? = some p := ⟨_, List.getElem?_eq_getElem hlt⟩
   obtain ⟨b, off, hA, hb, x0, x1⟩ := ptAt (HR.out.up HG.out) hp
   have hix := idx_run (cap := c) Tryz.underlying22 Tryz.sizeOf24 hA.out hlt
   have hs := all_take_succ Pt.ok hp
   rw [HA.out, Bool.true_and] at hs
   obtain ⟨o, ho⟩ : ∃ o, p.ok = o := ⟨_, rfl⟩
   have kv := hide (fun W => p1Valid_v p.1 p.2 o W ho)
   rw [ho] at hs
   have HS := hide hs
   have HP := hide hp
   have HO := hide ho
   obtain ⟨p1, p2⟩ := p
   dsimp only at x0 x1 kv
   clear hA hs hp ho
   cases o
   ·have e : res = ([], 1) := by
     rw [← HRES.out]
     unfold hullOf
     rw [if_neg (fun h => by have := List.all_eq_true.1 h.2.2 _ (List.mem_of_getElem? HP.out); rw [HO.out] at this; cases this)]
    subst e
    clear HRES
    go_wp2_with (go_at_call 33; with_reducible refine crv (kv.out _) fun _ _ => ?_; dsimp only)
    go_ret2
    exact ⟨_, rfl, World.ownsRow_nil _ _ _ _, HG.out.trans gw⟩
   ·go_wp2_with (go_at_call 33; with_reducible refine crv (kv.out _) fun _ _ => ?_; dsimp only)
    go_roundw
    case rel => exact ⟨m + 1, by omega, by go_num, HG.out.trans gw, HS.out⟩
    case measure => simp [intOf]; omega
  ·obtain rfl : m = ps.length := by omega
   rw [List.take_length] at HA
   have hres := HRES.out
   rw [hull_ref ⟨h0, by omega, HA.out⟩] at hres
   have hpo := places_ok HA.out
   have hpl := compQ_len (sortQ ps)
   rw [sortQ_len] at hpl
   change (placesOf ps).length ≤ _ at hpl
   have ks := hide (fun W (hg : Grew w W) => p3sorted_v ps A c W (HR.out.up hg) (by omega))
   rw [sortR_places] at ks
   obtain ⟨pl, hpp⟩ : ∃ pl, placesOf ps = pl := ⟨_, rfl⟩
   rw [hpp] at hres hpo hpl ks
   have HRE := hide hres
   have HPO := hide hpo
   clear hres hpo hpp HRES
   go_wp2_with fail
   refine (ks.out _ (HG.out.trans gw)).mono ?_
   rintro e W1 ⟨A1, c1, rfl, hrd, hg⟩
   have HG1 : Hid (Grew w W1) := hide (HG.out.trans (Grew.trans gw hg))
   have HR1 := hide hrd
   have ewn : IntKind.i64.wrap ((pl.length : Int) - 1) = (pl.length : Int) - 1 := by unfold IntKind.wrap; simp [IntKind.bits, IntKind.signed]; omega
   clear hg hrd ks HG
   dsimp only
   go_wp2_with fail
   go_loopw [7, 8] (fun bv i wr => ∃ j : Nat, j ≤ pl.length ∧ i = .int .i64 ((j : Int) - 1) ∧ Grew W1 wr ∧ wr.ownsRow W1.heap.size 24 2 bv ((pl.drop j).reverse).length (((pl.drop j).reverse).flatMap encD)) (fun _ i _ => (intOf i + 1).toNat)
   case atStart => exact ⟨pl.length, Nat.le_refl _, rfl, gw, by rw [List.drop_length]; exact World.ownsRow_nil _ _ _ _⟩
   case round =>
    obtain ⟨j, hj, rfl, hg, hown⟩ := hrel
    have HG2 := hide hg
    have HO2 := hide hown
    have hbl : ((pl.drop j).reverse).length ≤ 200 := by rw [List.length_reverse, List.length_drop]; omega
    obtain ⟨Av, cv, rfl, _⟩ := ow_slice hown
    clear hg hown
    cases j with
    | succ n =>
     obtain ⟨p, hp⟩ : ∃ p, pl[n]? = some p := ⟨_, List.getElem?_eq_getElem (by omega)⟩
     obtain ⟨b, off, hA, hb, x0, x1⟩ := ptAt (HR1.out.up HG2.out) hp
     have hix := idx_run (cap := c1) Tryz.underlying22 Tryz.sizeOf24 hA.out (show n < pl.length by omega)
     have hst := rev_step hp
     obtain ⟨T, hT⟩ : ∃ T, (pl.drop (n + 1)).reverse = T := ⟨_, rfl⟩
     rw [hT] at HO2 hst hbl ⊢
     have HST := hide hst
     have en : ((n + 1 : Nat) : Int) - 1 = (n : Int) := by omega
     have ewj : IntKind.i64.wrap ((n : Int) - 1) = (n : Int) - 1 := by unfold IntKind.wrap; simp [IntKind.bits, IntKind.signed]; omega
     have hnn : (0 : Int) ≤ (n : Int) := by omega
     rw [en]
     obtain ⟨p1, p2⟩ := p
     dsimp only at x0 x1
     clear hA hp hst hT en
     go_wp2_with (at_builtin; refine AppG2.stop ?_)
     refine AppG2.go ?_
     refine wpList_append_any _ rfl (.tmp 43) (.tmp 48) _ rfl W1.heap.size 24 i0 _ 2 16 Tryz.underlying22 hi0 hz0 hz1 hz2 rfl (by omega) _ T.length (T.flatMap encD) rfl (ow_grew HO2.out gw) _ (some ⟨_, 0, none⟩) 1 1 ([(p1, p2)].flatMap encD) rfl ((Rd.litQ _ p1 p2 _ _ (by first | rfl | simp [hs_dr])).reads encD_len (by omega)) (enc_one _) (by simp only [maxLen]; omega) (by omega) (by have := HG2.out.below.size; (try simp [hs_dr]); omega) ?_
     intro v5 w5 hown5 hg5 _
     have HO5 := hide hown5
     have HG5 : Hid (Grew W1 w5) := hide (pgrown (HG2.out.trans gw) (ow_grew HO2.out gw) (Nat.le_refl _) hg5)
     clear hown5 hg5
     go_wp2_with fail
     go_roundw
     case rel => exact ⟨n, by omega, by first | rfl | (rw [ewj]), HG5.out, by rw [HST.out, List.length_append, List.flatMap_append]; exact HO5.out⟩
     case measure => simp [intOf] <;> omega
    | zero =>
     obtain ⟨A2, c2, he, _, hrd⟩ := Rd.of_own (f := encD) encD_len HO2.out rfl
     have HR2 := hide hrd
     injection he with he _ he2
     subst he
     have hdr : (pl.drop 0).reverse = pl.reverse := rfl
     rw [hdr] at HR2 ⊢
     have hrl : pl.reverse.length = pl.length := List.length_reverse
     clear hrd HO2 hbl he2
     have kh := hide (fun W (hg : Grew W1 W) => p3half_v pl A1 c1 W (HR1.out.up hg) (by omega) HPO.out)
     have hn1 : ¬ ((0 : Int) ≤ -1) := by omega
     go_wp2_with fail
     refine (kh.out _ (HG2.out.trans gw)).mono ?_
     rintro e W3 ⟨v3, rfl, hown, hg⟩
     have hgw : Grew wr W3 := Grew.trans gw hg
     have HG3 : Hid (Grew W1 W3) := hide (HG2.out.trans hgw)
     have HR3 := hide (HR2.out.up hgw)
     have HO3 := hide (pown_mono hown (show w.heap.size ≤ _ from Nat.le_trans (HG1.out.trans HG2.out).below.size (Grew.below gw).size))
     have kb : Hid (∀ W, Grew W3 W → Calls Tryz.prog 60 #[.slice Av pl.length cv] W fun e w' => ∃ v, e = .returned v ∧ w'.ownsRow W.heap.size 24 2 v (halfL pl.reverse).length ((halfL pl.reverse).flatMap encD) ∧ Grew W w') := hide (fun W hg => by
      have k := p3half_v pl.reverse Av cv W (HR3.out.up hg) (by omega) (all_reverse HPO.out)
      rwa [hrl] at k)
     clear hown hg hgw kh
     dsimp only
     go_wp2_with fail
     refine (kb.out _ gw).mono ?_
     rintro e W4 ⟨v4, rfl, hown, hg⟩
     have hgw : Grew W3 W4 := Grew.trans gw hg
     have HG4 : Hid (Grew w W4) := hide (HG1.out.trans (HG3.out.trans hgw))
     have HO4 := hide (ow_grew HO3.out hgw)
     obtain ⟨A4, c4, rfl, _, hrd⟩ := Rd.of_own (f := encD) encD_len hown rfl
     have HR4 := hide hrd
     have hl1 := halfL_len pl []
     have hl2 := halfL_len pl.reverse []
     simp only [List.length_nil, Nat.zero_add] at hl1 hl2
     change (halfL pl).length ≤ pl.length at hl1
     change (halfL pl.reverse).length ≤ pl.reverse.length at hl2
     have HRF := hide (show refC pl = halfL pl ++ ((halfL pl.reverse).take ((halfL pl.reverse).length - 1)).drop 1 from rfl)
     obtain ⟨lo, hlo⟩ : ∃ lo, halfL pl = lo := ⟨_, rfl⟩
     obtain ⟨up, hup⟩ : ∃ up, halfL pl.reverse = up := ⟨_, rfl⟩
     rw [hlo, hup] at HRF
     rw [hlo] at hl1 HO4
     rw [hup] at hl2 HR4 ⊢
     rw [hlo] at HO3
     obtain ⟨A5, c5, rfl, _⟩ := ow_slice HO4.out
     have HAP := hide (Apt.start HO3.out hown (Grew.below gw).size)
     clear hown hg hgw hrd hlo hup kb HO3 HG3 HR3
     dsimp only
     go_wp2_with fail
     go_loopw [11, 12] (fun ov i wr => ∃ m : Nat, 1 ≤ m ∧ (m + 1 ≤ up.length ∨ m = 1) ∧ i = .int .i64 m ∧ Grew w wr ∧ wr.ownsRow w.heap.size 24 2 ov (lo ++ (up.take m).drop 1).length ((lo ++ (up.take m).drop 1).flatMap encD) ∧ Hid (Rd wr wr.heap.size 2 A4 (up.map encD)) ∧ Hid (Apt A4 ov wr)) (fun _ i _ => up.length - (intOf i).toNat)
     case atStart => exact ⟨1, Nat.le_refl _, .inr rfl, rfl, HG4.out, by rw [List.drop_eq_nil_of_le (by rw [List.length_take]; omega), List.append_nil]; exact HO4.out, HR4, HAP⟩
     case round =>
      obtain ⟨m, hm1, hm2, rfl, hg, hown, HRU, HAT⟩ := hrel
      have HG6 := hide hg
      have HO6 := hide hown
      have hbl : (lo ++ (up.take m).drop 1).length ≤ 1000 := by rw [List.length_append, List.length_drop, List.length_take]; omega
      obtain ⟨A6, c6, rfl, _⟩ := ow_slice hown
      have ewm : IntKind.i64.wrap ((m : Int) + 1) = (m : Int) + 1 := by unfold IntKind.wrap; simp [IntKind.bits, IntKind.signed]; omega
      clear hg hown
      by_cases hlt : m + 1 < up.length
      ·obtain ⟨p, hp⟩ : ∃ p, up[m]? = some p := ⟨_, List.getElem?_eq_getElem (by omega)⟩
       obtain ⟨b, off, hA, hb, x0, x1⟩ := ptAt HRU.out hp
       have hix := idx_run (cap := c4) Tryz.underlying22 Tryz.sizeOf24 hA.out (show m < up.length by omega)
       have hst : lo ++ (up.take (m + 1)).drop 1 = (lo ++ (up.take m).drop 1) ++ [p] := by rw [up_step hm1 hp, List.append_assoc]
       obtain ⟨T, hT⟩ : ∃ T, lo ++ (up.take m).drop 1 = T := ⟨_, rfl⟩
       rw [hT] at HO6 hst hbl HAT ⊢
       have HST := hide hst
       have hlt2 : (m : Int) + 1 < (up.length : Int) := by omega
       obtain ⟨p1, p2⟩ := p
       dsimp only at x0 x1
       clear hA hp hst hT
       go_wp2_with (at_builtin; refine AppG2.stop ?_)
       refine AppG2.go ?_
       refine wpList_append_any _ rfl (.tmp 62) (.tmp 67) _ rfl w.heap.size 24 i0 _ 2 16 Tryz.underlying22 hi0 hz0 hz1 hz2 rfl (by omega) _ T.length (T.flatMap encD) rfl (ow_grew HO6.out gw) _ (some ⟨_, 0, none⟩) 1 1 ([(p1, p2)].flatMap encD) rfl ((Rd.litQ _ p1 p2 _ _ (by first | rfl | simp [hs_dr])).reads encD_len (by omega)) (enc_one _) (by simp only [maxLen]; omega) (by omega) (by have := HG6.out.below.size; (try simp [hs_dr]); omega) ?_
       intro v7 w7 hown7 hg7 hat7
       have HO7 := hide hown7
       have HG8 : Hid (Grew w w7) := hide (pgrown (HG6.out.trans gw) (ow_grew HO6.out gw) (Nat.le_refl _) hg7)
       have HRV : Hid (Rd w7 w7.heap.size 2 A4 (up.map encD)) := hide (Rd.apart (HRU.out.up gw) hg7 (fun b o e => (HAT.out b o e).2))
       have HAV : Hid (Apt A4 v7 w7) := hide (HAT.out.step (Grew.below (w := wr) gw).size hg7.size hat7)
       clear hown7 hg7 hat7
       go_wp2_with fail
       go_roundw
       case rel => exact ⟨m + 1, by omega, .inl (by omega), by go_num, HG8.out, by rw [HST.out, List.length_append, List.flatMap_append]; exact HO7.out, HRV, HAV⟩
       case measure => simp [intOf]; omega
      ·have hue := up_end hm1 hlt hm2
       have HFIN := hide (show lo ++ (up.take m).drop 1 = refC pl by rw [HRF.out, hue])
       have hlt2 : ¬ (m : Int) + 1 < (up.length : Int) := by omega
       obtain ⟨T, hT⟩ : ∃ T, lo ++ (up.take m).drop 1 = T := ⟨_, rfl⟩
       rw [hT] at HO6 HFIN hbl ⊢
       have hre := HRE.out
       rw [← HFIN.out] at hre
       clear hue hT HRF HFIN HRE
       by_cases t1 : T.length < 3
       ·rw [if_pos t1] at hre
        subst hre
        have t1' : (T.length : Int) < 3 := by omega
        go_wp2_with fail
        go_ret2
        exact ⟨_, rfl, World.ownsRow_nil _ _ _ _, HG6.out.trans gw⟩
       ·rw [if_neg t1] at hre
        have t1' : ¬ (T.length : Int) < 3 := by omega
        by_cases t2 : 24 < T.length
        ·rw [if_pos t2] at hre
         subst hre
         have t2' : (24 : Int) < (T.length : Int) := by omega
         go_wp2_with fail
         go_ret2
         exact ⟨_, rfl, World.ownsRow_nil _ _ _ _, HG6.out.trans gw⟩
        ·rw [if_neg t2] at hre
         subst hre
         have t2' : ¬ (24 : Int) < (T.length : Int) := by omega
         go_wp2_with fail
         go_ret2
         exact ⟨_, rfl, ow_grew HO6.out gw, HG6.out.trans gw⟩
end Go.Proofs.YtndkfpmklmcjjaaGreat
