/- The reference implementation: Normal; it computes what the program computes. -/
import Derived.Test.YtgcgaplhaglejaaRefI
namespace Go.Proofs.Ytgcgaplhaglejaa
set_option linter.unusedVariables false
set_option linter.unusedSimpArgs false
open Go.RowKit Go.Sort
attribute [local go_sem] Steady steadyUpon
attribute [local go_sem ↓] hs_dr lt_add_r lt_add_r2 lt_add_r3 lt_add_r4 lt_add_r5 lt_add_r6
attribute [local go_sem] cell?_gd frozen?_gd setCell_gd size_grow tape_grow cell?_grow' frozen?_grow' setCell_grow' grow_grow grow_dr grow_drew dr_dr dr_drew drew_dr dr_alloc dr_setCell dr_cell dr_frozen dr_tape dr_drawn
attribute [local irreducible] wpSteady

theorem prev_l {g : Prim → Int × Int} {al : List Prim} {k : Nat} (hk : k < al.length) : ∃ u, al[(k + al.length - 1) % al.length]? = some u ∧ g u = lastOf g (lastOf g (0, 0) al) (al.take k) := by
  cases k with
  | zero =>
    have e : (0 + al.length - 1) % al.length = al.length - 1 := by rw [Nat.zero_add]; exact Nat.mod_eq_of_lt (by omega)
    rw [e]
    exact ⟨al[al.length - 1], List.getElem?_eq_getElem (by omega), (lastOf_all g _ al (0, 0) (List.getElem?_eq_getElem (by omega))).symm⟩
  | succ k =>
    have e : (k + 1 + al.length - 1) % al.length = k := by
      rw [show k + 1 + al.length - 1 = k + al.length by omega, Nat.add_mod_right]
      exact Nat.mod_eq_of_lt (by omega)
    rw [e]
    refine ⟨al[k], List.getElem?_eq_getElem (by omega), ?_⟩
    rw [List.take_succ_eq_append_getElem (by omega), lastOf_snoc]
theorem kept_step {g : Prim → Int × Int} {al : List Prim} {k : Nat} {q : Int × Int} {v : Prim} (hv : al[k]? = some v) : keptOf g q (al.take (k + 1)) = keptOf g q (al.take k) ++ (if g v = lastOf g q (al.take k) then [] else [v]) := by
  obtain ⟨h1, h2⟩ := List.getElem?_eq_some_iff.1 hv
  rw [List.take_succ_eq_append_getElem h1, h2, keptOf_snoc]
theorem all_len (ss : List Sec) : (allP ss).length ≤ 2 * ss.length := by
  unfold allP
  refine Nat.le_trans (comp_len _) ?_
  unfold sortP
  rw [List.length_mergeSort, List.length_map, turns_len]
  omega
theorem norm_some {ss : List Sec} {ks : List Prim} (hne : ss ≠ []) (hks : keptOf (shP ss) (lastOf (shP ss) (0, 0) (allP ss)) (allP ss) = ks) (h0 : ks ≠ []) : normList ss = outOf (shP ss) ks ks.length := by
  obtain ⟨y, hy, _⟩ := last_ex (all_ne hne)
  rw [lastOf_all _ y _ _ hy] at hks
  rw [normList_eq hne rfl hy hks, if_neg h0]
theorem norm_one {ss : List Sec} {s : Sec} (h : LValid ss = true) (hs' : ss[0]? = some s) (hks : keptOf (shP ss) (lastOf (shP ss) (0, 0) (allP ss)) (allP ss) = []) : normList ss = [⟨1, 0, 1, 0, s.col, s.rng⟩] := by
  have hne : ss ≠ [] := by intro e; rw [e] at hs'; simp at hs'
  obtain ⟨y, hy, _⟩ := last_ex (all_ne hne)
  rw [lastOf_all _ y _ _ hy] at hks
  have hsm := List.mem_of_getElem? hs'
  have hm : shortP s.fx s.fy ∈ allP ss := all_mem.2 ⟨_, (turns_mem hsm).1, rfl⟩
  have h1 := kept_nil hks _ hm
  have hok := (LV_ok h).1 s hsm
  have hh : hs s (shortP s.fx s.fy).1 = true := by rw [hs_short hok]; exact arc_self
  have h2 : shP ss (shortP s.fx s.fy) = (s.col, s.rng) := by rw [shP_shA]; exact (shA_at h (pr_nz _) hs' hh).1
  rw [normList_eq hne rfl hy hks, if_pos rfl, ← h1, h2]
theorem all_nil_of {ss : List Sec} (h : ss = []) : allP ss = [] := by
  have := all_len ss
  rw [h] at this ⊢
  exact List.length_eq_zero_iff.1 (by simpa using this)

set_option maxHeartbeats 800000 in
theorem rNormal_no (ss : List Sec) (A : Option Addr) (c : Nat) (w : World) (hr : Rd w w.heap.size 6 A (ss.map Sec.cells)) (hl : ss.length ≤ c) (hc : ss.length ≤ 100000000000000) (h : LValid ss = false) :
    Calls Try.prog 23 #[.slice A ss.length c] w (NormRet w ([], 1)) := by
  have hm := hmix
  have k1 := hide (fun W (hg : Grew w W) => rValid_v ss A c false W (hr.up hg) hl hc h)
  clear h
  go_enter Try.func23, Try.ntmps23
  go_wp2_with (go_at_call 13; (with_reducible refine (k1.out _ (by repeat (with_reducible first | exact Grew.refl _ | assumption | refine Grew.alloc ?_ _ | refine Grew.grow ?_ _ | refine Grew.dr ?_ _ | refine Grew.drewN ?_ _ | refine Grew.drew ?_ | refine Grew.trans ?_ (Hid.out (by assumption))))).mono ?_); rintro e w' ⟨rfl, ⟨_, _⟩, rfl⟩; dsimp only)
  go_ret2
  exact ⟨none, 0, rfl, (by repeat (with_reducible first | exact Grew.refl _ | assumption | refine Grew.alloc ?_ _ | refine Grew.grow ?_ _ | refine Grew.dr ?_ _ | refine Grew.drewN ?_ _ | refine Grew.drew ?_ | refine Grew.trans ?_ (Hid.out (by assumption)))), Nat.le_refl _, .inl rfl⟩

set_option maxRecDepth 100000 in
set_option maxHeartbeats 8000000 in
theorem rNormal_yes (ss : List Sec) (A : Option Addr) (c : Nat) (w : World) (hr : Rd w w.heap.size 6 A (ss.map Sec.cells)) (hl : ss.length ≤ c) (hc : ss.length ≤ 100000000000000) (hv : LValid ss = true) :
    Calls Try.prog 23 #[.slice A ss.length c] w (NormRet w (normList ss, 0)) := by
  have hm := hmix
  have la := (LV_ok hv).2
  have HOK := hide (LV_ok hv).1
  obtain ⟨i0, hi, hz0, hz1, hz2⟩ := info_parts ptInfo
  have k1 := hide (fun W (hg : Grew w W) => rValid_v ss A c true W (hr.up hg) hl hc hv)
  have k2 := hide (fun W (hg : Grew w W) => rsorted_any ss A c W (hr.up hg) hl hv)
  have hall := all_len ss
  obtain ⟨al, hal⟩ : ∃ al, allP ss = al := ⟨_, rfl⟩
  obtain ⟨q0, hq0⟩ : ∃ q, lastOf (shP ss) (0, 0) al = q := ⟨_, rfl⟩
  rw [hal] at k2 hall
  have hal3 : al.length ≤ 24 := by omega
  have HAL := hide hal
  have HQ0 := hide hq0
  have HV := hide hv
  clear hal hall hv hq0
  go_enter Try.func23, Try.ntmps23
  go_wp2_with (go_at_call 13; (with_reducible refine (k1.out _ (by repeat (with_reducible first | exact Grew.refl _ | assumption | refine Grew.alloc ?_ _ | refine Grew.grow ?_ _ | refine Grew.dr ?_ _ | refine Grew.drewN ?_ _ | refine Grew.drew ?_ | refine Grew.trans ?_ (Hid.out (by assumption))))).mono ?_); rintro e w' ⟨rfl, ⟨_, _⟩, rfl⟩; dsimp only)
  refine (k2.out _ (by repeat (with_reducible first | exact Grew.refl _ | assumption | refine Grew.alloc ?_ _ | refine Grew.grow ?_ _ | refine Grew.dr ?_ _ | refine Grew.drewN ?_ _ | refine Grew.drew ?_ | refine Grew.trans ?_ (Hid.out (by assumption))))).mono ?_
  rintro e W2 ⟨v, rfl, hown, hg⟩
  have HG2 : Hid (Grew w W2) := hide (Grew.trans (by repeat (with_reducible first | exact Grew.refl _ | assumption | refine Grew.alloc ?_ _ | refine Grew.grow ?_ _ | refine Grew.dr ?_ _ | refine Grew.drewN ?_ _ | refine Grew.drew ?_ | refine Grew.trans ?_ (Hid.out (by assumption)))) hg)
  obtain ⟨A5, c5, rfl, hc5, hrd⟩ := Rd.of_own (f := encP) (fun _ => rfl) hown rfl
  have HRD := hide hrd
  clear hown hg hrd
  go_wp2_with fail
  go_loopw [6, 7] (fun o i wr => ∃ (k : Nat) (L : List Prim), k ≤ al.length ∧ i = .int .i64 k ∧ AppG (L = keptOf (shP ss) q0 (al.take k)) ∧ wr.ownsRow W2.heap.size 24 2 o L.length (L.flatMap encP) ∧ Below W2.heap.size W2 wr) (fun _ i _ => al.length - (intOf i).toNat)
  case atStart => exact ⟨0, [], by omega, rfl, rfl, World.ownsRow_nil _ _ _ _, Below.refl _ _⟩
  case round =>
    obtain ⟨k, L, hk, rfl, hL, hown, hbel⟩ := hrel
    have HL := hide hL.stop
    have HO := hide hown
    have HB := hide hbel
    have hLl : L.length ≤ 24 := by
      rw [HL.out]
      have := keptOf_len (shP ss) (al.take k) q0
      rw [List.length_take] at this
      omega
    have HGW : Hid (Grew w wr) := hide (HG2.out.trans (Grew.of_below HB.out))
    clear hL
    by_cases hlt : k < al.length
    · obtain ⟨A6, c6, rfl, hc6⟩ := own_slice hown
      clear hown hbel
      obtain ⟨u, hu, hgu⟩ := prev_l (g := shP ss) hlt
      rw [HQ0.out] at hgu
      obtain ⟨v, hv⟩ : ∃ v, al[k]? = some v := ⟨_, List.getElem?_eq_getElem hlt⟩
      have hks := kept_step (g := shP ss) (q := q0) hv
      rw [← hgu] at hks
      rw [← HL.out] at hks
      obtain ⟨m, hmm⟩ : ∃ m, (k + al.length - 1) % al.length = m := ⟨_, rfl⟩
      have hml : m < al.length := by rw [← hmm]; exact Nat.mod_lt _ (by omega)
      have ec : (m : Int) = ((k : Int) + (al.length : Int) - 1) % (al.length : Int) := by rw [← hmm, Int.natCast_emod, show ((k + al.length - 1 : Nat) : Int) = (k : Int) + (al.length : Int) - 1 by omega]
      rw [hmm] at hu
      obtain ⟨⟨u1, u2⟩, hup⟩ := u
      obtain ⟨⟨v1, v2⟩, hvp⟩ := v
      have bu := dir_bd (prim_dir ⟨(u1, u2), hup⟩)
      have bv := dir_bd (prim_dir ⟨(v1, v2), hvp⟩)
      obtain ⟨⟨c1, r1⟩, hgu1⟩ : ∃ q, shA ss (u1, u2) = q := ⟨_, rfl⟩
      obtain ⟨⟨d1, s1⟩, hgv1⟩ : ∃ q, shA ss (v1, v2) = q := ⟨_, rfl⟩
      rw [shP_shA, shP_shA] at hks
      dsimp only at hks
      rw [hgu1, hgv1] at hks
      have ka := hide (fun W (hg : Grew w W) => rAt_v ss A c u1 u2 (c1, r1) W (hr.up hg) hl hc HOK.out bu.1 bu.2 (pr_nz ⟨(u1, u2), hup⟩) hgu1)
      have kb := hide (fun W (hg : Grew w W) => rAt_v ss A c v1 v2 (d1, s1) W (hr.up hg) hl hc HOK.out bv.1 bv.2 (pr_nz ⟨(v1, v2), hvp⟩) hgv1)
      obtain ⟨b, off, hA, hb, hcell⟩ := (HRD.out.below HB.out).at_ (k := m) (x := encP ⟨(u1, u2), hup⟩) (by rw [List.getElem?_map, hu]; rfl)
      obtain ⟨b', off', hA', hb', hcell'⟩ := (HRD.out.below HB.out).at_ (k := k) (x := encP ⟨(v1, v2), hvp⟩) (by rw [List.getElem?_map, hv]; rfl)
      have h0 := hcell 0 _ rfl
      have h1 := hcell 1 _ rfl
      have g0 := hcell' 0 _ rfl
      have g1 := hcell' 1 _ rfl
      simp only [Nat.add_zero] at h0 g0
      dsimp only at h0 h1 g0 g1
      have hix := idx_run (cap := c5) Try.underlying48 Try.sizeOf24 hA hml
      have hix2 := idx_run (cap := c5) Try.underlying48 Try.sizeOf24 hA' hlt
      rw [ec] at hix
      have hne : ¬ (al.length : Int) = 0 := by omega
      have HKS := hide hks
      have HM := hide ec
      clear hu hv hgu hmm hgu1 hgv1 hcell hcell' hA hA' bu bv ec hks
      have hbw : b' < wr.heap.size := Nat.lt_of_lt_of_le hb' HB.out.size
      have hW2 : W2.heap.size ≤ wr.heap.size := HB.out.size
      have hcase : (c1 = d1 ∧ r1 = s1) ∨ c1 ≠ d1 ∨ (c1 = d1 ∧ r1 ≠ s1) := by omega
      rcases hcase with ⟨rfl, rfl⟩ | e1 | ⟨rfl, e1⟩
      · rw [if_pos rfl, List.append_nil] at HKS
        go_wp2_with fail
        refine wp_region_qas 10 [] [] hm (by kernel_rfl) (by simp only [List.take, List.filter, isQ]; rfl) (by simp only [List.drop]; rfl) ZOk.nil (by simp) ?_
        repeat (refine wpSteady_step (fun K hK => ?_); go_simp; first | (refine hK _ ?_; clear hK K) | (apply Exists.intro; refine ⟨fun _ => ?_, hK _ ?_⟩; (go_at_call 39; first | with_reducible exact ka.out _ (HGW.out.trans (by repeat (with_reducible first | exact Grew.refl _ | assumption | refine Grew.alloc ?_ _ | refine Grew.grow ?_ _ | refine Grew.dr ?_ _ | refine Grew.drewN ?_ _ | refine Grew.drew ?_ | refine Grew.trans ?_ (Hid.out (by assumption))))) | with_reducible exact kb.out _ (HGW.out.trans (by repeat (with_reducible first | exact Grew.refl _ | assumption | refine Grew.alloc ?_ _ | refine Grew.grow ?_ _ | refine Grew.dr ?_ _ | refine Grew.drewN ?_ _ | refine Grew.drew ?_ | refine Grew.trans ?_ (Hid.out (by assumption)))))); clear hK K))
        refine wpSteady_nil ?_
        refine ⟨StOk.nil, LyOk.nil, ?_⟩
        rintro psq qsq Wq HWq HFq HBq
        obtain rfl : qsq = [] := HBq
        obtain rfl : psq = [] := HFq
        obtain ⟨⟨nq, osq⟩, rfl⟩ := HWq
        simp only [putAll, putB, Act.put, List.setIfInBounds_toArray, List.set_cons_succ, List.set_cons_zero]
        try dsimp only
        go_wp2_with fail
        go_roundw
        case rel => exact ⟨k + 1, L, by omega, by go_num, HKS.out.symm, own_grew HO.out (by repeat (with_reducible first | exact Grew.refl _ | assumption | refine Grew.alloc ?_ _ | refine Grew.grow ?_ _ | refine Grew.dr ?_ _ | refine Grew.drewN ?_ _ | refine Grew.drew ?_ | refine Grew.trans ?_ (Hid.out (by assumption)))), HB.out.trans ((Grew.below (by repeat (with_reducible first | exact Grew.refl _ | assumption | refine Grew.alloc ?_ _ | refine Grew.grow ?_ _ | refine Grew.dr ?_ _ | refine Grew.drewN ?_ _ | refine Grew.drew ?_ | refine Grew.trans ?_ (Hid.out (by assumption))))).mono HB.out.size)⟩
        case measure => simp [intOf]; omega
      all_goals
        rw [if_neg (by intro e; injection e with e2 e3; first | exact e1 e2.symm | exact e1 e3.symm)] at HKS
        go_wp2_with fail
        refine wp_region_qas 10 [] [] hm (by kernel_rfl) (by simp only [List.take, List.filter, isQ]; rfl) (by simp only [List.drop]; rfl) ZOk.nil (by simp) ?_
        repeat (refine wpSteady_step (fun K hK => ?_); go_simp; first | (refine hK _ ?_; clear hK K) | (apply Exists.intro; refine ⟨fun _ => ?_, hK _ ?_⟩; (go_at_call 39; first | with_reducible exact ka.out _ (HGW.out.trans (by repeat (with_reducible first | exact Grew.refl _ | assumption | refine Grew.alloc ?_ _ | refine Grew.grow ?_ _ | refine Grew.dr ?_ _ | refine Grew.drewN ?_ _ | refine Grew.drew ?_ | refine Grew.trans ?_ (Hid.out (by assumption))))) | with_reducible exact kb.out _ (HGW.out.trans (by repeat (with_reducible first | exact Grew.refl _ | assumption | refine Grew.alloc ?_ _ | refine Grew.grow ?_ _ | refine Grew.dr ?_ _ | refine Grew.drewN ?_ _ | refine Grew.drew ?_ | refine Grew.trans ?_ (Hid.out (by assumption)))))); clear hK K))
        refine wpSteady_nil ?_
        refine ⟨StOk.nil, LyOk.nil, ?_⟩
        rintro psq qsq Wq HWq HFq HBq
        obtain rfl : qsq = [] := HBq
        obtain rfl : psq = [] := HFq
        obtain ⟨⟨nq, osq⟩, rfl⟩ := HWq
        simp only [putAll, putB, Act.put, List.setIfInBounds_toArray, List.set_cons_succ, List.set_cons_zero]
        try dsimp only
        have HGA : Hid (Grew wr ((grow (dr (wr.alloc (.cells #[.int .i64 u1, .int .i64 u2] 24)) nq) osq).alloc (.cells #[.int .i64 v1, .int .i64 v2] 24))) := hide (by repeat (with_reducible first | exact Grew.refl _ | assumption | refine Grew.alloc ?_ _ | refine Grew.grow ?_ _ | refine Grew.dr ?_ _ | refine Grew.drewN ?_ _ | refine Grew.drew ?_ | refine Grew.trans ?_ (Hid.out (by assumption))))
        go_wp2_with (at_builtin; refine wpList_append_own _ rfl (.tmp 46) (.tmp 51) 48 rfl W2.heap.size 24 i0 _ 2 16 Try.underlying48 hi hz0 hz1 hz2 (by rfl) (by omega) _ L.length _ (by rfl) (own_grew HO.out HGA.out) ⟨wr.heap.size + 1 + osq.size, 0, none⟩ 1 1 [.int .i64 v1, .int .i64 v2] (by rfl) (by rfl) (fun j x hx => by rw [add_at, Nat.zero_add]; refine (blk_cell (heap_alloc_at _ _ _ (by simp [hs_dr])) j).trans ?_; simpa using hx) (fun x hx => by simp at hx; rcases hx with rfl | rfl <;> rfl) (by unfold maxLen; omega) (by omega) (HB.out.trans (HGA.out.below.mono HB.out.size)).size ?_; intro v' w1 hown1 hg1 _; obtain ⟨A7, c7, rfl, hc7⟩ := own_slice hown1; have HO1 := hide hown1; have HGR := hide hg1; clear hown1 hg1)
        have hb1 : Below W2.heap.size W2 w1 := below_own (HB.out.trans (HGA.out.below.mono HB.out.size)) (own_grew HO.out HGA.out) HGR.out
        have HB1 := hide hb1
        clear hb1
        go_roundw
        case rel => exact ⟨k + 1, _, by omega, by go_num, HKS.out.symm, by rw [List.length_append, List.flatMap_append]; simpa [encP] using HO1.out, HB1.out⟩
        case measure => simp [intOf]; omega
    · obtain rfl : k = al.length := by omega
      have hke : keptOf (shP ss) (lastOf (shP ss) (0, 0) (allP ss)) (allP ss) = L := by
        have := HL.out
        rw [List.take_length] at this
        rw [HAL.out, HQ0.out]
        exact this.symm
      have HKE := hide hke
      clear HL hke hlt
      obtain ⟨A6, c6, rfl, hc6⟩ := own_slice hown
      obtain ⟨i1, hi1, hy0, hy1, hy2⟩ := info_parts secInfo
      have hww : w.heap.size ≤ wr.heap.size := HGW.out.below.size
      by_cases hL0 : L = []
      · subst hL0
        clear hown hbel HO HB
        by_cases hs0 : ss = []
        · subst hs0
          go_wp2_with fail
          go_ret2
          exact ⟨none, 0, rfl, HGW.out.trans (by repeat (with_reducible first | exact Grew.refl _ | assumption | refine Grew.alloc ?_ _ | refine Grew.grow ?_ _ | refine Grew.dr ?_ _ | refine Grew.drewN ?_ _ | refine Grew.drew ?_ | refine Grew.trans ?_ (Hid.out (by assumption)))), Nat.le_refl _, .inl rfl⟩
        · have hpos : 0 < ss.length := List.length_pos_iff.2 hs0
          obtain ⟨s, hs'⟩ : ∃ s, ss[0]? = some s := ⟨_, List.getElem?_eq_getElem hpos⟩
          have hno := norm_one HV.out hs' HKE.out
          obtain ⟨b, off, hA, hb, h0, h1, h2, h3, h4, h5⟩ := secAt (hr.up HGW.out) hs'
          have hix := idx_run0 (cap := c) Try.underlying22 Try.sizeOf26 hA.out hpos
          simp only [Nat.zero_mul, Nat.add_zero] at h4 h5
          have HNO := hide hno
          clear h0 h1 h2 h3 hs' hno hs0
          go_wp2_with fail
          refine wp_region_qas 13 [] [⟨12, 72, 1, 26, fun a => (a.eval (Operand.tmp 71)).cells⟩] hm (by kernel_rfl) (by simp only [List.take, List.filter, isQ]; rfl) (by simp only [List.drop]; rfl) ZOk.nil (by simp) ?_
          repeat (refine wpSteady_step (fun K hK => ?_); go_simp; first | (refine hK _ ?_; clear hK K) | (apply Exists.intro; refine ⟨fun _ => ?_, hK _ ?_⟩; (fail); clear hK K))
          refine wpSteady_nil ?_
          refine ⟨StOk.nil, (LyOk.cons (by rfl) (fun W => by first | (go_simp; done) | rfl) LyOk.nil), ?_⟩
          rintro psq qsq Wq HWq HFq HBq
          obtain ⟨b0, _, rfl, hq0, gb0, rfl⟩ := HBq
          simp [Act.eval, Value.cells] at gb0
          have gbl0 := blk_lt gb0
          obtain rfl : psq = [] := HFq
          simp only [putAll, putB, Act.put, List.setIfInBounds_toArray, List.set_cons_succ, List.set_cons_zero]
          have oc := old_cell HWq
          have of := old_frozen HWq
          have ol := old_lt HWq
          replace HWq := hide HWq
          have HG9 : Hid (Grew w Wq) := hide (HGW.out.trans (Grew.trans (by repeat (with_reducible first | exact Grew.refl _ | assumption | refine Grew.alloc ?_ _ | refine Grew.grow ?_ _ | refine Grew.dr ?_ _ | refine Grew.drewN ?_ _ | refine Grew.drew ?_ | refine Grew.trans ?_ (Hid.out (by assumption)))) HWq.out))
          refine wpList_append_own Wq rfl (.tmp 60) (.tmp 72) 22 rfl w.heap.size 26 i1 _ 6 48 Try.underlying22 hi1 hy0 hy1 hy2 (by rfl) (by omega) _ 0 [] (by rfl) (World.ownsRow_nil _ _ _ _) ⟨b0, 0, none⟩ 1 1 ((⟨1, 0, 1, 0, s.col, s.rng⟩ : Sec).cells) (by rfl) (by rfl)
            (fun j x hx => by rw [add_at, Nat.zero_add, blk_cell gb0]; simpa [Sec.cells] using hx) (fun x hx => by simp [Sec.cells] at hx; rcases hx with rfl | rfl | rfl | rfl | rfl | rfl <;> rfl) (by unfold maxLen; omega) (by omega) HG9.out.below.size ?_
          intro v' w3 hown' hgrow _
          obtain ⟨A9, c9, rfl, hc9, hrd⟩ := Rd.of_own (f := Sec.cells) (xs := [⟨1, 0, 1, 0, s.col, s.rng⟩]) sec_len (by simpa using hown') rfl
          have hb3 : Below w.heap.size w w3 := below_own HG9.out.below (World.ownsRow_nil _ _ 26 6) hgrow
          have HRD9 := hide hrd
          have HB3 := hide hb3
          clear hown' hgrow hrd hb3
          go_wp2_with fail
          go_ret2
          rw [HNO.out]
          exact ⟨_, _, rfl, Grew.of_below HB3.out, hc9, HRD9.out⟩
      · have hlp : 0 < L.length := List.length_pos_iff.2 hL0
        have hne0 : ¬ (L.length : Int) = 0 := by omega
        have hss : ss ≠ [] := by
          intro e
          have := HKE.out
          rw [all_nil_of e] at this
          exact hL0 this.symm
        have HNO := hide (norm_some hss HKE.out hL0)
        obtain ⟨A6', c6', hv6, _, hro⟩ := Rd.of_own (f := encP) (fun _ => rfl) HO.out rfl
        injection hv6 with hv6a _ hv6b
        subst hv6a hv6b
        have HRO := hide hro
        clear hro hss hown hbel
        go_wp2_with fail
        refine wp_name ?_
        intro W4 hW
        have hg4 : Grew wr W4 := by rw [← hW]; exact (by repeat (with_reducible first | exact Grew.refl _ | assumption | refine Grew.alloc ?_ _ | refine Grew.grow ?_ _ | refine Grew.dr ?_ _ | refine Grew.drewN ?_ _ | refine Grew.drew ?_ | refine Grew.trans ?_ (Hid.out (by assumption))))
        have HG4 := hide hg4
        have HW4 : Hid (Grew w W4) := hide (HGW.out.trans hg4)
        clear hW hg4
        go_loopw [9, 11] (fun o i wr => ∃ (k : Nat), k ≤ L.length ∧ i = .int .i64 k ∧ wr.ownsRow W4.heap.size 26 6 o (outOf (shP ss) L k).length ((outOf (shP ss) L k).flatMap Sec.cells) ∧ Below W4.heap.size W4 wr) (fun _ i _ => L.length - (intOf i).toNat)
        case atStart => exact ⟨0, by omega, rfl, World.ownsRow_nil _ _ _ _, Below.refl _ _⟩
        case round =>
          obtain ⟨k, hk, rfl, hown, hbel⟩ := hrel
          have HOW := hide hown
          have HBW := hide hbel
          have HGW2 : Hid (Grew w wr) := hide (HW4.out.trans (Grew.of_below hbel))
          by_cases hlt : k < L.length
          · clear hown hbel
            obtain ⟨u, hu⟩ : ∃ u, L[k]? = some u := ⟨_, List.getElem?_eq_getElem hlt⟩
            have hnl : (k + 1) % L.length < L.length := Nat.mod_lt _ (by omega)
            obtain ⟨nx, hnx⟩ : ∃ nx, L[(k + 1) % L.length]? = some nx := ⟨_, List.getElem?_eq_getElem hnl⟩
            have hat : outAt (shP ss) L k = if shP ss u ≠ (0, 0) then [⟨u.1.1, u.1.2, nx.1.1, nx.1.2, (shP ss u).1, (shP ss u).2⟩] else [] := by
              unfold outAt
              rw [getElem!_def L k, hu, getElem!_def L, hnx]
            have hol := outOf_len (shP ss) L k
            obtain ⟨olst, hol2⟩ : ∃ olst, outOf (shP ss) L k = olst := ⟨_, rfl⟩
            rw [hol2] at hol HOW
            have hos := outOf_succ (shP ss) L k
            rw [hol2, hat] at hos
            obtain ⟨⟨u1, u2⟩, hup⟩ := u
            obtain ⟨⟨n1, n2⟩, hnp⟩ := nx
            have bu := dir_bd (prim_dir ⟨(u1, u2), hup⟩)
            obtain ⟨⟨c1, r1⟩, hgu1⟩ : ∃ q, shP ss ⟨(u1, u2), hup⟩ = q := ⟨_, rfl⟩
            have hlit := lit_ok HV.out (v := ⟨(u1, u2), hup⟩)
            rw [hgu1] at hos hlit
            dsimp only at hos hlit
            have ka := hide (fun W (hg : Grew w W) => rAt_v ss A c u1 u2 (c1, r1) W (hr.up hg) hl hc HOK.out bu.1 bu.2 (pr_nz ⟨(u1, u2), hup⟩) hgu1)
            obtain ⟨b, off, hA, hb, hcell⟩ := ((HRO.out.up HG4.out).below HBW.out).at_ (k := k) (x := encP ⟨(u1, u2), hup⟩) (by rw [List.getElem?_map, hu]; rfl)
            obtain ⟨b', off', hA', hb', hcell'⟩ := ((HRO.out.up HG4.out).below HBW.out).at_ (k := (k + 1) % L.length) (x := encP ⟨(n1, n2), hnp⟩) (by rw [List.getElem?_map, hnx]; rfl)
            have h0 := hcell 0 _ rfl
            have h1 := hcell 1 _ rfl
            have g0 := hcell' 0 _ rfl
            have g1 := hcell' 1 _ rfl
            simp only [Nat.add_zero] at h0 g0
            dsimp only at h0 h1 g0 g1
            have ec : ((((k + 1) % L.length : Nat)) : Int) = ((k : Int) + 1) % (L.length : Int) := by rw [Int.natCast_emod]; rfl
            have er : Int.tmod ((k : Int) + 1) (L.length : Int) = ((k : Int) + 1) % (L.length : Int) := rfl
            have ew : IntKind.i64.wrap ((k : Int) + 1) = (k : Int) + 1 := by unfold IntKind.wrap; simp [IntKind.bits, IntKind.signed]; omega
            have ew2 : IntKind.i64.wrap (((k : Int) + 1) % (L.length : Int)) = ((k : Int) + 1) % (L.length : Int) := by rw [← ec]; unfold IntKind.wrap; simp only [IntKind.bits, IntKind.signed]; simp; omega
            have hix := idx_run (cap := c6) Try.underlying48 Try.sizeOf24 hA hlt
            have hix2 := idx_run (cap := c6) Try.underlying48 Try.sizeOf24 hA' hnl
            rw [ec] at hix2
            have hbw : b < wr.heap.size := Nat.lt_of_lt_of_le hb HBW.out.size
            have hbw' : b' < wr.heap.size := Nat.lt_of_lt_of_le hb' HBW.out.size
            have hcase : (c1 = 0 ∧ r1 = 0) ∨ (1 ≤ c1 ∧ (c1, r1) ≠ ((0 : Int), (0 : Int))) := by
              rcases Decidable.em ((c1, r1) = ((0 : Int), (0 : Int))) with h | h
              · injection h with e2 e3; exact .inl ⟨e2, e3⟩
              · exact .inr ⟨(hlit h).1.1, h⟩
            have HOS := hide hos
            clear hu hnx hat hgu1 hlit hcell hcell' hA hA' bu ec hos hol2
            rcases hcase with ⟨rfl, rfl⟩ | ⟨hc1, hcn⟩
            · rw [if_neg (by simp), List.append_nil] at HOS
              clear er ew ew2
              go_wp2_with (go_at_call 39; (with_reducible refine (ka.out _ (HGW2.out.trans (by repeat (with_reducible first | exact Grew.refl _ | assumption | refine Grew.alloc ?_ _ | refine Grew.grow ?_ _ | refine Grew.dr ?_ _ | refine Grew.drewN ?_ _ | refine Grew.drew ?_ | refine Grew.trans ?_ (Hid.out (by assumption)))))).mono ?_); rintro e w' ⟨rfl, ⟨_, _⟩, rfl⟩; dsimp only)
              go_roundw
              case rel => exact ⟨k + 1, by omega, by go_num, by rw [HOS.out]; exact own_grew HOW.out (by repeat (with_reducible first | exact Grew.refl _ | assumption | refine Grew.alloc ?_ _ | refine Grew.grow ?_ _ | refine Grew.dr ?_ _ | refine Grew.drewN ?_ _ | refine Grew.drew ?_ | refine Grew.trans ?_ (Hid.out (by assumption)))), HBW.out.trans ((Grew.below (by repeat (with_reducible first | exact Grew.refl _ | assumption | refine Grew.alloc ?_ _ | refine Grew.grow ?_ _ | refine Grew.dr ?_ _ | refine Grew.drewN ?_ _ | refine Grew.drew ?_ | refine Grew.trans ?_ (Hid.out (by assumption))))).mono HBW.out.size)⟩
              case measure => simp [intOf]; omega
            · rw [if_pos hcn] at HOS
              clear hcn
              go_wp2_with (go_at_call 39; (with_reducible refine (ka.out _ (HGW2.out.trans (by repeat (with_reducible first | exact Grew.refl _ | assumption | refine Grew.alloc ?_ _ | refine Grew.grow ?_ _ | refine Grew.dr ?_ _ | refine Grew.drewN ?_ _ | refine Grew.drew ?_ | refine Grew.trans ?_ (Hid.out (by assumption)))))).mono ?_); rintro e w' ⟨rfl, ⟨_, _⟩, rfl⟩; dsimp only)
              refine wp_region_qas 19 [] [⟨18, 108, 1, 26, fun a => (a.eval (Operand.tmp 107)).cells⟩] hm (by kernel_rfl) (by simp only [List.take, List.filter, isQ]; rfl) (by simp only [List.drop]; rfl) ZOk.nil (by simp) ?_
              repeat (refine wpSteady_step (fun K hK => ?_); go_simp; first | (refine hK _ ?_; clear hK K) | (apply Exists.intro; refine ⟨fun _ => ?_, hK _ ?_⟩; (fail); clear hK K))
              refine wpSteady_nil ?_
              refine ⟨StOk.nil, (LyOk.cons (by rfl) (fun W => by first | (go_simp; done) | rfl) LyOk.nil), ?_⟩
              rintro psq qsq Wq HWq HFq HBq
              obtain ⟨b0, _, rfl, hq0, gb0, rfl⟩ := HBq
              simp [Act.eval, Value.cells] at gb0
              have gbl0 := blk_lt gb0
              obtain rfl : psq = [] := HFq
              simp only [putAll, putB, Act.put, List.setIfInBounds_toArray, List.set_cons_succ, List.set_cons_zero]
              have oc := old_cell HWq
              have of := old_frozen HWq
              have ol := old_lt HWq
              replace HWq := hide HWq
              have HG9 : Hid (Grew wr Wq) := hide (Grew.trans (by repeat (with_reducible first | exact Grew.refl _ | assumption | refine Grew.alloc ?_ _ | refine Grew.grow ?_ _ | refine Grew.dr ?_ _ | refine Grew.drewN ?_ _ | refine Grew.drew ?_ | refine Grew.trans ?_ (Hid.out (by assumption)))) HWq.out)
              refine wpList_append_own Wq rfl (.tmp 90) (.tmp 108) 22 rfl W4.heap.size 26 i1 _ 6 48 Try.underlying22 hi1 hy0 hy1 hy2 (by rfl) (by omega) _ olst.length _ (by rfl) (own_grew HOW.out HG9.out) ⟨b0, 0, none⟩ 1 1 ((⟨u1, u2, n1, n2, c1, r1⟩ : Sec).cells) (by rfl) (by rfl)
                (fun j x hx => by rw [add_at, Nat.zero_add, blk_cell gb0]; simpa [Sec.cells] using hx) (fun x hx => by simp [Sec.cells] at hx; rcases hx with rfl | rfl | rfl | rfl | rfl | rfl <;> rfl) (by unfold maxLen; omega) (by omega) (HBW.out.trans (HG9.out.below.mono HBW.out.size)).size ?_
              intro v' w3 hown' hgrow _
              have hb3 : Below W4.heap.size W4 w3 := below_own (HBW.out.trans (HG9.out.below.mono HBW.out.size)) (own_grew HOW.out HG9.out) hgrow
              have HB3 := hide hb3
              have HO3 := hide hown'
              clear hb3 hown' hgrow
              go_wp2_with fail
              go_roundw
              case rel => exact ⟨k + 1, by omega, by go_num, by rw [HOS.out, List.flatMap_append, List.length_append]; simpa [Sec.cells] using HO3.out, HB3.out⟩
              case measure => simp [intOf]; omega
          · obtain rfl : k = L.length := by omega
            obtain ⟨A9, c9, rfl, hc9, hrd⟩ := Rd.of_own (f := Sec.cells) sec_len HOW.out rfl
            have HRD9 := hide hrd
            clear hown hbel hrd
            go_wp2_with fail
            go_ret2
            rw [HNO.out]
            exact ⟨_, _, rfl, HGW2.out, hc9, HRD9.out⟩

theorem rNormal_any (ss : List Sec) (A : Option Addr) (c : Nat) (w : World) (hr : Rd w w.heap.size 6 A (ss.map Sec.cells)) (hl : ss.length ≤ c) (hc : ss.length ≤ 100000000000000) :
    Calls Try.prog 23 #[.slice A ss.length c] w (NormRet w (normalOf ss)) := by
  unfold normalOf
  cases h : LValid ss
  · exact rNormal_no ss A c w hr hl hc h
  · rw [if_pos rfl]
    exact rNormal_yes ss A c w hr hl hc h
end Go.Proofs.Ytgcgaplhaglejaa
