/- The reference of polygons: sorted. -/
import Derived.Test.YtndkfpmklmcjjaaGreatRhB
import Derived.Test.YtndkfpmklmcjjaaGreatCvT
import Derived.Test.YtndkfpmklmcjjaaGreatPou
set_option linter.unusedSimpArgs false
set_option linter.unusedVariables false
set_option maxHeartbeats 16000000
set_option maxRecDepth 100000
namespace Go.Proofs.YtndkfpmklmcjjaaGreat
open Go.RowKit Go.Sort Go.Lib
attribute [local go_sem] Steady steadyUpon
attribute [local go_sem ↓] hs_dr lt_add_r lt_add_r2 lt_add_r3 lt_add_r4 lt_add_r5 lt_add_r6
attribute [local go_sem] cell?_gd frozen?_gd setCell_gd size_grow tape_grow cell?_grow' frozen?_grow' setCell_grow' grow_grow grow_dr grow_drew dr_dr dr_drew drew_dr dr_alloc dr_setCell dr_cell dr_frozen dr_tape dr_drawn
attribute [local irreducible] wpSteady
theorem Rd.litQ (w : World) (x y : Int) (b : Nat) (T : TypeId) (hb : b = w.heap.size) : Rd (w.alloc (.cells #[.int .i64 x, .int .i64 y] T)) (w.heap.size + 1) 2 (some ⟨b, 0, none⟩) ([(x, y)].map encD) := by
 have := Rd.blkP (W := w.alloc (.cells #[.int .i64 x, .int .i64 y] T)) [(x, y)] (heap_alloc_at _ _ b hb) rfl
 rwa [World.size_alloc'] at this
theorem pgrown {W X X' : World} {base : Nat} {e : TypeId} {size : Nat} {v : Value} {n : Nat} {xs : List Value} (h : Grew W X) (hown : X.ownsRow base e size v n xs) (hb : W.heap.size ≤ base) (hg : X.grownBy X' v.ownBlock) : Grew W X' :=
 Grew.of_below (h.below.grown hg h.below.size fun q hq => Nat.le_trans hb (hown.lt q hq).1)
theorem pown_mono {w : World} {base base' : Nat} {e : TypeId} {size : Nat} {v : Value} {n : Nat} {xs : List Value} (h : w.ownsRow base e size v n xs) (hb : base' ≤ base) : w.ownsRow base' e size v n xs :=
 ⟨h.1, h.2.imp id fun ⟨g, cap, cur, h1, h2, h3⟩ => ⟨g, cap, cur, h1, Nat.le_trans hb h2, h3⟩⟩
def slN (v : Value) : Nat := match v with | .slice _ n _ => n | _ => 0
theorem p3sorted_v (L : List Pt) (A : Option Addr) (c : Nat) (w : World) (hr : Rd w w.heap.size 2 A (L.map encD)) (hl : L.length ≤ 1000) :
  Calls Tryz.prog 59 #[.slice A L.length c] w fun e w' => ∃ A' c', e = .returned (.slice A' (sortR L).length c') ∧ Rd w' w'.heap.size 2 A' ((sortR L).map encD) ∧ Grew w w' := by
 have hm := hmix
 obtain ⟨i0, hi0, hz0, hz1, hz2⟩ := info_parts ptInf
 have HR := hide hr
 clear hr
 go_enter Tryz.func59, Tryz.ntmps59
 go_wp2_with fail
 go_loopw [3, 4] (fun ov i wr => ∃ (m : Nat) (cur : List Pt) (A1 : Option Addr) (c1 : Nat), m ≤ L.length ∧ i = .int .i64 m ∧ ov = .slice A1 cur.length c1 ∧ Grew w wr ∧ Hid (Rd wr wr.heap.size 2 A1 (cur.map encD)) ∧ Hid (sortR (L.take m) = cur)) (fun _ i _ => L.length - (intOf i).toNat)
 case atStart => exact ⟨0, [], none, 0, by omega, rfl, rfl, gw, hide (Rd.nil _ _ _ _), hide rfl⟩
 case round =>
  obtain ⟨m, cur, A1, c1, hmm, rfl, rfl, hg, HC, HS⟩ := hrel
  have HG := hide hg
  clear hg
  have hcl : cur.length ≤ 1000 := by
   have := sortR_len (L.take m) []
   rw [show (L.take m).foldl insR [] = cur from HS.out, List.length_take] at this
   simp at this
   omega
  obtain ⟨Wr, hz⟩ : ∃ z, z = wr := ⟨wr, rfl⟩
  subst hz
  by_cases hlt : m < L.length
  ·obtain ⟨q, hq⟩ : ∃ q, cor L m = q := ⟨_, rfl⟩
   have hqm := cor_get hlt
   rw [hq] at hqm
   have hsn : sortR (L.take (m + 1)) = insR cur q := by rw [List.take_add_one, hqm, Option.toList_some, sortR_snoc, HS.out]
   have HSN := hide hsn
   have HQM := hide hqm
   clear hsn hqm hq
   obtain ⟨q1, q2⟩ := q
   go_wp2_with fail
   go_loopw [5, 6] (fun nv j wr => ∃ k : Nat, k ≤ cur.length ∧ j = .int .i64 k ∧ Grew Wr wr ∧ wr.ownsRow Wr.heap.size 24 2 nv k ((cur.take k).flatMap encD) ∧ AppG ((cur.take k).all (fun p => lessB p (q1, q2)) = true)) (fun _ j _ => cur.length - (intOf j).toNat)
   case atStart => exact ⟨0, by omega, rfl, gw, World.ownsRow_nil _ _ _ _, rfl⟩
   case round =>
    obtain ⟨k, hk, rfl, hg, hown, hall⟩ := hrel
    have HG2 := hide hg
    have HO := hide hown
    have HA := hide hall.stop
    have hkl : (cur.take k).length = k := by rw [List.length_take]; omega
    clear hg hall
    obtain ⟨bq, offq, hAq, hbq, x0, x1⟩ := ptAt (HR.out.up (HG.out.trans HG2.out)) HQM.out
    have hixq := idx_run (cap := c) Tryz.underlying22 Tryz.sizeOf24 hAq.out hlt
    obtain ⟨Av, cv, rfl, _⟩ := ow_slice hown
    dsimp only at x0 x1
    clear hAq hown
    by_cases hk2 : k < cur.length
    ·obtain ⟨p, hp⟩ : ∃ q, cor cur k = q := ⟨_, rfl⟩
     have hpm := cor_get hk2
     rw [hp] at hpm
     obtain ⟨bp, offp, hAp, hbp, y0, y1⟩ := ptAt (HC.out.up HG2.out) hpm
     have hixp := idx_run (cap := c1) Tryz.underlying22 Tryz.sizeOf24 hAp.out hk2
     obtain ⟨o, ho⟩ : ∃ o, lessB p (q1, q2) = o := ⟨_, rfl⟩
     have kl := hide (fun W => p3less_v p (q1, q2) o W ho)
     have HPM := hide hpm
     have HLO := hide ho
     obtain ⟨p1, p2⟩ := p
     dsimp only at y0 y1 kl
     clear hp hpm hAp ho
     cases o
     ·have hins := ins_at cur (q1, q2) k hk HA.out (fun y hy => by rw [HPM.out] at hy; injection hy with hy; rw [← hy]; exact HLO.out)
      have HIN := hide (hins.trans (mid_end cur (q1, q2) k).symm)
      clear hins HPM HLO
      go_wp2_with fail
      refine wp_region_qas 15 [] [] hm (h := ?_)
      repeat (refine wpSteady_step (fun K hK => ?_); go_simp; first | (refine hK _ ?_; clear hK K) | (apply Exists.intro; refine ⟨fun _ => ?_, hK _ ?_⟩; ((go_at_call 34; with_reducible exact kl.out _)); clear hK K))
      refine rq0 fun nq osq => ?_
      try simp only [Act.put, setA]
      try dsimp only
      have HM := hide (mid_start cur (q1, q2) k)
      have hml := mid_len cur (q1, q2) (Nat.le_refl k)
      obtain ⟨T, hT⟩ : ∃ T, cur.take k = T := ⟨_, rfl⟩
      rw [hT] at HO HM hkl
      clear hT
      go_wp2_with (at_builtin; refine AppG2.stop ?_)
      refine AppG2.go ?_
      refine wpList_append_any _ rfl (.tmp 37) (.tmp 42) _ rfl Wr.heap.size 24 i0 _ 2 16 Tryz.underlying22 hi0 hz0 hz1 hz2 rfl (by omega) _ k (T.flatMap encD) rfl (ow_grew HO.out gw) _ (some ⟨_, 0, none⟩) 1 1 ([(q1, q2)].flatMap encD) rfl ((Rd.litQ _ q1 q2 _ _ (by first | rfl | simp [hs_dr])).reads encD_len (by omega)) (enc_one _) (by simp only [maxLen]; omega) (by omega) (by have := HG2.out.below.size; (try simp [hs_dr]); omega) ?_
      intro v5 w5 hown5 hg5 _
      have HG5 : Hid (Grew Wr w5) := hide (pgrown (HG2.out.trans gw) (ow_grew HO.out gw) (Nat.le_refl _) hg5)
      have HO5 : Hid (w5.ownsRow Wr.heap.size 24 2 v5 (midR cur (q1, q2) k k).length ((midR cur (q1, q2) k k).flatMap encD)) := hide (by rw [HM.out, List.length_append, List.flatMap_append, hkl]; exact hown5)
      clear hown5 hg5 HM HO x0 x1 hbq hixq
      go_wp2_with fail
      obtain ⟨Ws, hWs⟩ : ∃ z, z = w5 := ⟨w5, rfl⟩
      subst hWs
      go_loopw [5, 6] (fun nv j wr => ∃ jj : Nat, k ≤ jj ∧ jj ≤ cur.length ∧ j = .int .i64 jj ∧ Grew Wr wr ∧ wr.ownsRow Wr.heap.size 24 2 nv (midR cur (q1, q2) k jj).length ((midR cur (q1, q2) k jj).flatMap encD)) (fun _ j _ => cur.length - (intOf j).toNat)
      case atStart => exact ⟨k, Nat.le_refl _, hk, rfl, HG5.out, HO5.out⟩
      case round =>
       obtain ⟨jj, hkj, hjl, rfl, hg, hown⟩ := hrel
       have HG6 := hide hg
       have HO6 := hide hown
       have hml := mid_len cur (q1, q2) hkj
       clear hg
       obtain ⟨Av, cv, rfl, _⟩ := ow_slice hown
       clear hown
       by_cases hj3 : jj < cur.length ∧ k < cur.length
       ·obtain ⟨hj2, hkc⟩ := hj3
        obtain ⟨bq, offq, hAq, hbq, x0, x1⟩ := ptAt (HR.out.up (HG.out.trans HG6.out)) HQM.out
        have hixq := idx_run (cap := c) Tryz.underlying22 Tryz.sizeOf24 hAq.out hlt
        obtain ⟨p, hp⟩ : ∃ q, cor cur jj = q := ⟨_, rfl⟩
        have hpm := cor_get hj2
        rw [hp] at hpm
        obtain ⟨bp, offp, hAp, hbp, y0, y1⟩ := ptAt (HC.out.up HG6.out) hpm
        have hixp := idx_run (cap := c1) (k := jj) (len := cur.length) Tryz.underlying22 Tryz.sizeOf24 hAp.out hj2
        have hst := midR_step (q := (q1, q2)) hkj hpm
        obtain ⟨T, hT⟩ : ∃ T, midR cur (q1, q2) k jj = T := ⟨_, rfl⟩
        rw [hT] at HO6 hst hml ⊢
        obtain ⟨p1, p2⟩ := p
        dsimp only at x0 x1 y0 y1
        clear hp hpm hAp hAq hT
        by_cases e1 : p1 = q1
        ·by_cases e2 : p2 = q2
         ·subst e1
          subst e2
          rw [if_pos rfl] at hst
          have HST := hide hst
          clear hst
          go_wp2_with fail
          refine wp_region_qas 9 [] [] hm (h := ?_)
          repeat (refine wpSteady_step (fun K hK => ?_); go_simp; refine hK _ ?_; clear hK K)
          refine rq0 fun nq osq => ?_
          try simp only [Act.put, setA]
          try dsimp only
          go_wp2_with fail
          go_roundw
          case rel => exact ⟨jj + 1, by omega, by omega, by go_num, HG6.out.trans gw, by rw [HST.out]; exact ow_grew HO6.out gw⟩
          case measure => simp [intOf]; omega
         ·rw [if_neg (fun e => e2 (congrArg Prod.snd e))] at hst
          have HST := hide hst
          subst e1
          clear hst
          go_wp2_with fail
          refine wp_region_qas 9 [] [] hm (h := ?_)
          repeat (refine wpSteady_step (fun K hK => ?_); go_simp; refine hK _ ?_; clear hK K)
          refine rq0 fun nq osq => ?_
          try simp only [Act.put, setA]
          try dsimp only
          go_wp2_with (at_builtin; refine AppG2.stop ?_)
          refine AppG2.go ?_
          refine wpList_append_any _ rfl (.tmp 57) (.tmp 62) _ rfl Wr.heap.size 24 i0 _ 2 16 Tryz.underlying22 hi0 hz0 hz1 hz2 rfl (by omega) _ T.length (T.flatMap encD) rfl (ow_grew HO6.out gw) _ (some ⟨_, 0, none⟩) 1 1 ([(p1, p2)].flatMap encD) rfl ((Rd.litQ _ p1 p2 _ _ (by first | rfl | simp [hs_dr])).reads encD_len (by omega)) (enc_one _) (by simp only [maxLen]; omega) (by omega) (by have := HG6.out.below.size; (try simp [hs_dr]); omega) ?_
          intro v7 w7 hown7 hg7 _
          have HO7 := hide hown7
          have HG7 : Hid (Grew Wr w7) := hide (pgrown (HG6.out.trans gw) (ow_grew HO6.out gw) (Nat.le_refl _) hg7)
          clear hown7 hg7
          go_wp2_with fail
          go_roundw
          case rel => exact ⟨jj + 1, by omega, by omega, by go_num, HG7.out, by rw [HST.out, List.length_append, List.flatMap_append]; exact HO7.out⟩
          case measure => simp [intOf]; omega
        ·rw [if_neg (fun e => e1 (congrArg Prod.fst e))] at hst
         have HST := hide hst
         clear hst
         have fa : ∀ {α : Type} (x y : α), (if p1 = q1 then (if p2 = q2 then x else y) else y) = y := fun x y => by rw [if_neg e1]
         go_wp2_with fail
         refine wp_region_qas 9 [] [] hm (h := ?_)
         repeat (refine wpSteady_step (fun K hK => ?_); go_simp; refine hK _ ?_; clear hK K)
         refine rq0 fun nq osq => ?_
         try simp only [Act.put, setA]
         try dsimp only
         go_wp2_with (at_builtin; refine AppG2.stop ?_)
         refine AppG2.go ?_
         refine wpList_append_any _ rfl (.tmp 57) (.tmp 62) _ rfl Wr.heap.size 24 i0 _ 2 16 Tryz.underlying22 hi0 hz0 hz1 hz2 rfl (by omega) _ T.length (T.flatMap encD) rfl (ow_grew HO6.out gw) _ (some ⟨_, 0, none⟩) 1 1 ([(p1, p2)].flatMap encD) rfl ((Rd.litQ _ p1 p2 _ _ (by first | rfl | simp [hs_dr])).reads encD_len (by omega)) (enc_one _) (by simp only [maxLen]; omega) (by omega) (by have := HG6.out.below.size; (try simp [hs_dr]); omega) ?_
         intro v7 w7 hown7 hg7 _
         have HO7 := hide hown7
         have HG7 : Hid (Grew Wr w7) := hide (pgrown (HG6.out.trans gw) (ow_grew HO6.out gw) (Nat.le_refl _) hg7)
         clear hown7 hg7
         go_wp2_with fail
         go_roundw
         case rel => exact ⟨jj + 1, by omega, by omega, by go_num, HG7.out, by rw [HST.out, List.length_append, List.flatMap_append]; exact HO7.out⟩
         case measure => simp [intOf]; omega
       ·obtain rfl : jj = cur.length := by omega
        have HIN2 := hide (HSN.out.trans HIN.out)
        obtain ⟨T, hT⟩ : ∃ T, midR cur (q1, q2) k cur.length = T := ⟨_, rfl⟩
        rw [hT] at HO6 HIN2 hml ⊢
        obtain ⟨A9, c9, he9, _, hrd⟩ := Rd.of_own (f := encD) encD_len HO6.out rfl
        have HRD := hide hrd
        injection he9 with he9 _ he10
        subst he9
        clear hrd hT
        go_wp2_with fail
        go_roundw
        case rel => exact ⟨m + 1, T, _, _, by omega, by go_num, rfl, HG.out.trans (HG6.out.trans gw), hide (HRD.out.up gw), HIN2⟩
        case measure => simp [intOf]; omega
     ·have htk : cur.take (k + 1) = cur.take k ++ [(p1, p2)] := by rw [List.take_add_one, HPM.out]; rfl
      have HTK := hide htk
      have HAL := hide (show (cur.take (k + 1)).all (fun p => lessB p (q1, q2)) = true by rw [htk, List.all_append, HA.out]; simp [HLO.out])
      obtain ⟨T, hT⟩ : ∃ T, cur.take k = T := ⟨_, rfl⟩
      rw [hT] at HO HTK hkl
      clear htk hT
      go_wp2_with fail
      refine wp_region_qas 15 [] [] hm (h := ?_)
      repeat (refine wpSteady_step (fun K hK => ?_); go_simp; first | (refine hK _ ?_; clear hK K) | (apply Exists.intro; refine ⟨fun _ => ?_, hK _ ?_⟩; ((go_at_call 34; with_reducible exact kl.out _)); clear hK K))
      refine rq0 fun nq osq => ?_
      try simp only [Act.put, setA]
      try dsimp only
      go_wp2_with (at_builtin; refine AppG2.stop ?_)
      refine AppG2.go ?_
      refine wpList_append_any _ rfl (.tmp 28) (.tmp 33) _ rfl Wr.heap.size 24 i0 _ 2 16 Tryz.underlying22 hi0 hz0 hz1 hz2 rfl (by omega) _ k (T.flatMap encD) rfl (ow_grew HO.out gw) _ (some ⟨_, 0, none⟩) 1 1 ([(p1, p2)].flatMap encD) rfl ((Rd.litQ _ p1 p2 _ _ (by first | rfl | simp [hs_dr])).reads encD_len (by omega)) (enc_one _) (by simp only [maxLen]; omega) (by omega) (by have := HG2.out.below.size; (try simp [hs_dr]); omega) ?_
      intro v5 w5 hown5 hg5 _
      have HO5 := hide hown5
      have HG5 : Hid (Grew Wr w5) := hide (pgrown (HG2.out.trans gw) (ow_grew HO.out gw) (Nat.le_refl _) hg5)
      clear hown5 hg5
      go_wp2_with fail
      go_roundw
      case rel => exact ⟨k + 1, by omega, by go_num, HG5.out, by rw [HTK.out, List.flatMap_append]; exact HO5.out, HAL.out⟩
      case measure => simp [intOf]; omega
    ·have hins := ins_at cur (q1, q2) k hk HA.out (fun y hy => by have := (List.getElem?_eq_some_iff.1 hy).1; omega)
     have HIN := hide (hins.trans (mid_end cur (q1, q2) k).symm)
     have hk3 : ¬ (k : Int) < (cur.length : Int) := by omega
     clear hins
     go_wp2_with fail
     refine wp_region_qas 15 [] [] hm (h := ?_)
     repeat (refine wpSteady_step (fun K hK => ?_); go_simp; refine hK _ ?_; clear hK K)
     refine rq0 fun nq osq => ?_
     try simp only [Act.put, setA]
     try dsimp only
     clear hk2 hk3
     have HM := hide (mid_start cur (q1, q2) k)
     have hml := mid_len cur (q1, q2) (Nat.le_refl k)
     obtain ⟨T, hT⟩ : ∃ T, cur.take k = T := ⟨_, rfl⟩
     rw [hT] at HO HM hkl
     clear hT
     go_wp2_with (at_builtin; refine AppG2.stop ?_)
     refine AppG2.go ?_
     refine wpList_append_any _ rfl (.tmp 37) (.tmp 42) _ rfl Wr.heap.size 24 i0 _ 2 16 Tryz.underlying22 hi0 hz0 hz1 hz2 rfl (by omega) _ k (T.flatMap encD) rfl (ow_grew HO.out gw) _ (some ⟨_, 0, none⟩) 1 1 ([(q1, q2)].flatMap encD) rfl ((Rd.litQ _ q1 q2 _ _ (by first | rfl | simp [hs_dr])).reads encD_len (by omega)) (enc_one _) (by simp only [maxLen]; omega) (by omega) (by have := HG2.out.below.size; (try simp [hs_dr]); omega) ?_
     intro v5 w5 hown5 hg5 _
     have HG5 : Hid (Grew Wr w5) := hide (pgrown (HG2.out.trans gw) (ow_grew HO.out gw) (Nat.le_refl _) hg5)
     have HO5 : Hid (w5.ownsRow Wr.heap.size 24 2 v5 (midR cur (q1, q2) k k).length ((midR cur (q1, q2) k k).flatMap encD)) := hide (by rw [HM.out, List.length_append, List.flatMap_append, hkl]; exact hown5)
     clear hown5 hg5 HM HO x0 x1 hbq hixq
     go_wp2_with fail
     obtain ⟨Ws, hWs⟩ : ∃ z, z = w5 := ⟨w5, rfl⟩
     subst hWs
     go_loopw [5, 6] (fun nv j wr => ∃ jj : Nat, k ≤ jj ∧ jj ≤ cur.length ∧ j = .int .i64 jj ∧ Grew Wr wr ∧ wr.ownsRow Wr.heap.size 24 2 nv (midR cur (q1, q2) k jj).length ((midR cur (q1, q2) k jj).flatMap encD)) (fun _ j _ => cur.length - (intOf j).toNat)
     case atStart => exact ⟨k, Nat.le_refl _, hk, rfl, HG5.out, HO5.out⟩
     case round =>
      obtain ⟨jj, hkj, hjl, rfl, hg, hown⟩ := hrel
      have HG6 := hide hg
      have HO6 := hide hown
      have hml := mid_len cur (q1, q2) hkj
      clear hg
      obtain ⟨Av, cv, rfl, _⟩ := ow_slice hown
      clear hown
      by_cases hj3 : jj < cur.length ∧ k < cur.length
      ·obtain ⟨hj2, hkc⟩ := hj3
       obtain ⟨bq, offq, hAq, hbq, x0, x1⟩ := ptAt (HR.out.up (HG.out.trans HG6.out)) HQM.out
       have hixq := idx_run (cap := c) Tryz.underlying22 Tryz.sizeOf24 hAq.out hlt
       obtain ⟨p, hp⟩ : ∃ q, cor cur jj = q := ⟨_, rfl⟩
       have hpm := cor_get hj2
       rw [hp] at hpm
       obtain ⟨bp, offp, hAp, hbp, y0, y1⟩ := ptAt (HC.out.up HG6.out) hpm
       have hixp := idx_run (cap := c1) (k := jj) (len := cur.length) Tryz.underlying22 Tryz.sizeOf24 hAp.out hj2
       have hst := midR_step (q := (q1, q2)) hkj hpm
       obtain ⟨T, hT⟩ : ∃ T, midR cur (q1, q2) k jj = T := ⟨_, rfl⟩
       rw [hT] at HO6 hst hml ⊢
       obtain ⟨p1, p2⟩ := p
       dsimp only at x0 x1 y0 y1
       clear hp hpm hAp hAq hT
       by_cases e1 : p1 = q1
       ·by_cases e2 : p2 = q2
        ·subst e1
         subst e2
         rw [if_pos rfl] at hst
         have HST := hide hst
         clear hst
         go_wp2_with fail
         refine wp_region_qas 9 [] [] hm (h := ?_)
         repeat (refine wpSteady_step (fun K hK => ?_); go_simp; refine hK _ ?_; clear hK K)
         refine rq0 fun nq osq => ?_
         try simp only [Act.put, setA]
         try dsimp only
         go_wp2_with fail
         go_roundw
         case rel => exact ⟨jj + 1, by omega, by omega, by go_num, HG6.out.trans gw, by rw [HST.out]; exact ow_grew HO6.out gw⟩
         case measure => simp [intOf]; omega
        ·rw [if_neg (fun e => e2 (congrArg Prod.snd e))] at hst
         have HST := hide hst
         subst e1
         clear hst
         go_wp2_with fail
         refine wp_region_qas 9 [] [] hm (h := ?_)
         repeat (refine wpSteady_step (fun K hK => ?_); go_simp; refine hK _ ?_; clear hK K)
         refine rq0 fun nq osq => ?_
         try simp only [Act.put, setA]
         try dsimp only
         go_wp2_with (at_builtin; refine AppG2.stop ?_)
         refine AppG2.go ?_
         refine wpList_append_any _ rfl (.tmp 57) (.tmp 62) _ rfl Wr.heap.size 24 i0 _ 2 16 Tryz.underlying22 hi0 hz0 hz1 hz2 rfl (by omega) _ T.length (T.flatMap encD) rfl (ow_grew HO6.out gw) _ (some ⟨_, 0, none⟩) 1 1 ([(p1, p2)].flatMap encD) rfl ((Rd.litQ _ p1 p2 _ _ (by first | rfl | simp [hs_dr])).reads encD_len (by omega)) (enc_one _) (by simp only [maxLen]; omega) (by omega) (by have := HG6.out.below.size; (try simp [hs_dr]); omega) ?_
         intro v7 w7 hown7 hg7 _
         have HO7 := hide hown7
         have HG7 : Hid (Grew Wr w7) := hide (pgrown (HG6.out.trans gw) (ow_grew HO6.out gw) (Nat.le_refl _) hg7)
         clear hown7 hg7
         go_wp2_with fail
         go_roundw
         case rel => exact ⟨jj + 1, by omega, by omega, by go_num, HG7.out, by rw [HST.out, List.length_append, List.flatMap_append]; exact HO7.out⟩
         case measure => simp [intOf]; omega
       ·rw [if_neg (fun e => e1 (congrArg Prod.fst e))] at hst
        have HST := hide hst
        clear hst
        have fa : ∀ {α : Type} (x y : α), (if p1 = q1 then (if p2 = q2 then x else y) else y) = y := fun x y => by rw [if_neg e1]
        go_wp2_with fail
        refine wp_region_qas 9 [] [] hm (h := ?_)
        repeat (refine wpSteady_step (fun K hK => ?_); go_simp; refine hK _ ?_; clear hK K)
        refine rq0 fun nq osq => ?_
        try simp only [Act.put, setA]
        try dsimp only
        go_wp2_with (at_builtin; refine AppG2.stop ?_)
        refine AppG2.go ?_
        refine wpList_append_any _ rfl (.tmp 57) (.tmp 62) _ rfl Wr.heap.size 24 i0 _ 2 16 Tryz.underlying22 hi0 hz0 hz1 hz2 rfl (by omega) _ T.length (T.flatMap encD) rfl (ow_grew HO6.out gw) _ (some ⟨_, 0, none⟩) 1 1 ([(p1, p2)].flatMap encD) rfl ((Rd.litQ _ p1 p2 _ _ (by first | rfl | simp [hs_dr])).reads encD_len (by omega)) (enc_one _) (by simp only [maxLen]; omega) (by omega) (by have := HG6.out.below.size; (try simp [hs_dr]); omega) ?_
        intro v7 w7 hown7 hg7 _
        have HO7 := hide hown7
        have HG7 : Hid (Grew Wr w7) := hide (pgrown (HG6.out.trans gw) (ow_grew HO6.out gw) (Nat.le_refl _) hg7)
        clear hown7 hg7
        go_wp2_with fail
        go_roundw
        case rel => exact ⟨jj + 1, by omega, by omega, by go_num, HG7.out, by rw [HST.out, List.length_append, List.flatMap_append]; exact HO7.out⟩
        case measure => simp [intOf]; omega
      ·obtain rfl : jj = cur.length := by omega
       have HIN2 := hide (HSN.out.trans HIN.out)
       obtain ⟨T, hT⟩ : ∃ T, midR cur (q1, q2) k cur.length = T := ⟨_, rfl⟩
       rw [hT] at HO6 HIN2 hml ⊢
       obtain ⟨A9, c9, he9, _, hrd⟩ := Rd.of_own (f := encD) encD_len HO6.out rfl
       have HRD := hide hrd
       injection he9 with he9 _ he10
       subst he9
       clear hrd hT
       go_wp2_with fail
       go_roundw
       case rel => exact ⟨m + 1, T, _, _, by omega, by go_num, rfl, HG.out.trans (HG6.out.trans gw), hide (HRD.out.up gw), HIN2⟩
       case measure => simp [intOf]; omega
  ·obtain rfl : m = L.length := by omega
   rw [List.take_length] at HS
   have hs := HS.out
   subst hs
   go_wp2_with fail
   go_ret
   first | exact ⟨A1, c1, rfl, HC.out.up gw, HG.out.trans gw⟩ | exact ⟨A1, ⟨c1, rfl⟩, HC.out.up gw, HG.out.trans gw⟩
end Go.Proofs.YtndkfpmklmcjjaaGreat
