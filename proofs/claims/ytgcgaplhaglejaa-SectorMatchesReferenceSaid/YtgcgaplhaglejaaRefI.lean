/- The reference implementation: sorted. -/
import Derived.Test.YtgcgaplhaglejaaRefH
namespace Go.Proofs.Ytgcgaplhaglejaa
set_option linter.unusedVariables false
set_option linter.unusedSimpArgs false
open Go.RowKit Go.Sort
attribute [local go_sem] Steady steadyUpon
attribute [local go_sem ↓] hs_dr lt_add_r lt_add_r2 lt_add_r3 lt_add_r4 lt_add_r5 lt_add_r6
attribute [local go_sem] cell?_gd frozen?_gd setCell_gd size_grow tape_grow cell?_grow' frozen?_grow' setCell_grow' grow_grow grow_dr grow_drew dr_dr dr_drew drew_dr dr_alloc dr_setCell dr_cell dr_frozen dr_tape dr_drawn
attribute [local irreducible] wpSteady

theorem blk_ne_row {W : World} {B b n : Nat} {v : Value} {xs : List Value} {a c : Int} (h : W.ownsRow B 24 2 v (n + 1) (xs ++ [.int .i64 0, .int .i64 0])) (hx : xs.length = n * 2) (hb : W.heap[b]? = some (.cells #[.int .i64 a, .int .i64 c] 24 (0, 0))) (hn : a ≠ 0 ∨ c ≠ 0) : v.ownBlock ≠ some b := by
  intro e
  rcases h.2 with ⟨rfl, h1⟩ | ⟨g, cap, cur, rfl, _, hg, h1, _, h2, h3⟩
  · omega
  · simp only [Value.ownBlock, Option.some.injEq] at e
    subst e
    rw [hb] at hg
    injection hg with hg
    injection hg with hg _ _
    subst hg
    simp at h2
    obtain rfl : cap = 1 := by omega
    obtain rfl : n = 0 := by omega
    obtain rfl := List.length_eq_zero_iff.1 (by omega : xs.length = 0)
    simp at h3
    omega

theorem encP_len (L : List Prim) : (L.flatMap encP).length = L.length * 2 := by
  induction L with
  | nil => rfl
  | cons q Q ih => rw [List.flatMap_cons, List.length_append, ih, List.length_cons]; show 2 + _ = _; omega

set_option maxRecDepth 100000 in
set_option maxHeartbeats 8000000 in
theorem rsorted_any (ss : List Sec) (A : Option Addr) (c : Nat) (w : World) (hr : Rd w w.heap.size 6 A (ss.map Sec.cells)) (hl : ss.length ≤ c) (hv : LValid ss = true) :
    Calls Try.prog 45 #[.slice A ss.length c] w fun e w' => ∃ v, e = .returned v ∧ w'.ownsRow w.heap.size 24 2 v (allP ss).length ((allP ss).flatMap encP) ∧ Grew w w' := by
  have hm := hmix
  have la := (LV_ok hv).2
  obtain ⟨i0, hi, hz0, hz1, hz2⟩ := info_parts ptInfo
  have k3 := hide (fun W (hg : Grew w W) => rTurns_any ss [] A none c 0 W (hra := hr.up hg) (hrb := Rd.nil _ _ _ _) (by omega) (by simp))
  have htl := turns_len ss
  obtain ⟨ts, hts⟩ : ∃ ts, turnsOf ss = ts := ⟨_, rfl⟩
  have L4 := hide (fun k t (h : ts[k]? = some t) => saf_l4 (sb := []) (by rw [List.append_nil]; exact hts) hv (by decide) k t h)
  rw [List.append_nil, hts] at k3
  rw [hts] at htl
  have HALL : Hid (∀ L, SrtTo ts ts.length L → L = allP ss) := hide (fun L h => srtTo_all (by rw [hts]; exact h))
  have hts3 : ts.length ≤ 24 := by omega
  clear hts htl
  go_enter Try.func45, Try.ntmps45
  go_wp2_with fail
  refine (k3.out _ (by repeat (with_reducible first | exact Grew.refl _ | assumption | refine Grew.alloc ?_ _ | refine Grew.grow ?_ _ | refine Grew.dr ?_ _ | refine Grew.drewN ?_ _ | refine Grew.drew ?_ | refine Grew.trans ?_ (Hid.out (by assumption))))).mono ?_
  rintro e W2 ⟨v, rfl, hown, hg⟩
  have HG2 : Hid (Grew w W2) := hide (Grew.trans (by repeat (with_reducible first | exact Grew.refl _ | assumption | refine Grew.alloc ?_ _ | refine Grew.grow ?_ _ | refine Grew.dr ?_ _ | refine Grew.drewN ?_ _ | refine Grew.drew ?_ | refine Grew.trans ?_ (Hid.out (by assumption)))) hg)
  obtain ⟨A4, c4, rfl, hc4, hrd⟩ := Rd.of_own (f := encD) encD_len hown rfl
  have HRD := hide hrd
  clear hown hg hrd
  go_wp2_with fail
  go_loopw [3, 5] (fun o i wr => ∃ (k : Nat) (L : List Prim), k ≤ ts.length ∧ i = .int .i64 k ∧ SrtTo ts k L ∧ wr.ownsRow W2.heap.size 24 2 o L.length (L.flatMap encP) ∧ Below W2.heap.size W2 wr) (fun _ i _ => ts.length - (intOf i).toNat)
  case atStart => exact ⟨0, [], by omega, rfl, srtTo_0 _, World.ownsRow_nil _ _ _ _, Below.refl _ _⟩
  case round =>
    obtain ⟨k, L, hk, rfl, hst, hown, hbel⟩ := hrel
    have HST := hide hst
    have HO := hide hown
    have HB := hide hbel
    clear hst
    by_cases hlt : k < ts.length
    · have hLl : L.length ≤ 24 := by have := HST.out.2.1; omega
      obtain ⟨A3, c3, rfl, hc3⟩ := own_slice hown
      clear hown hbel
      obtain ⟨⟨x, y⟩, hxy⟩ : ∃ t, ts[k]? = some t := ⟨_, List.getElem?_eq_getElem hlt⟩
      obtain ⟨b, off, hA, hb, hcell⟩ := (HRD.out.below HB.out).at_ (k := k) (x := encD (x, y)) (by rw [List.getElem?_map, hxy]; rfl)
      have h0 := hcell 0 _ rfl
      have h1 := hcell 1 _ rfl
      simp only [Nat.add_zero] at h0
      have HA := hide hA
      have hix := idx_run (cap := c4) Try.underlying48 Try.sizeOf24 hA hlt
      have hd := L4.out k (x, y) hxy
      have HXY := hide hxy
      clear hcell hA hxy
      obtain ⟨v, hv⟩ : ∃ v, shortP x y = v := ⟨_, rfl⟩
      obtain ⟨v1, hv1⟩ : ∃ z, v.1.1 = z := ⟨_, rfl⟩
      obtain ⟨v2, hv2⟩ : ∃ z, v.1.2 = z := ⟨_, rfl⟩
      have k5 : Hid (∀ W, Calls Try.prog 58 #[pt x y] W (Ret W (pt v1 v2))) := hide (fun W => by rw [← hv1, ← hv2, ← hv]; exact rshort_v W hd)
      have hnz : v1 ≠ 0 ∨ v2 ≠ 0 := by rw [← hv1, ← hv2]; exact pr_nz v
      have HV := hide hv
      have HV1 := hide hv1
      have HV2 := hide hv2
      obtain ⟨A3', c3', hv3, _, hro⟩ := Rd.of_own (f := encP) (fun _ => rfl) HO.out rfl
      injection hv3 with hv3a _ hv3b
      subst hv3a hv3b
      have HRO := hide hro
      clear hv hd hv1 hv2 hro
      go_wp2_with fail
      refine (k5.out _).mono ?_
      rintro e w' ⟨rfl, ⟨n7, os7⟩, rfl⟩
      dsimp only
      go_wp2_with fail
      clear h0 h1 hix
      refine wp_name ?_
      intro W3 hW
      have hb6 : W3.heap[wr.heap.size + os7.size]? = some (.cells #[.int .i64 v1, .int .i64 v2] 24 (0, 0)) := by rw [← hW]; exact heap_alloc_at _ _ _ (by simp [hs_dr])
      have hg3 : Grew wr W3 := by rw [← hW]; exact (by repeat (with_reducible first | exact Grew.refl _ | assumption | refine Grew.alloc ?_ _ | refine Grew.grow ?_ _ | refine Grew.dr ?_ _ | refine Grew.drewN ?_ _ | refine Grew.drew ?_ | refine Grew.trans ?_ (Hid.out (by assumption))))
      obtain ⟨b6, e6⟩ : ∃ b6, wr.heap.size + os7.size = b6 := ⟨_, rfl⟩
      rw [e6] at hb6 ⊢
      have hlo : wr.heap.size ≤ b6 := by omega
      have HB6 := hide hb6
      have HG3 := hide hg3
      clear hW hg3 hb6 e6
      go_loopw [7, 8, 9] (fun at' kn i wi => ∃ (j a : Nat), j ≤ L.length ∧ i = .int .i64 j ∧ at' = .int .i64 a ∧ kn = .bool (decide (v ∈ L.take j)) ∧ AtF L v j a ∧ Grew W3 wi) (fun _ _ i _ => L.length - (intOf i).toNat)
      case atStart => exact ⟨0, 0, by omega, rfl, rfl, by simp, ⟨Nat.le_refl _, fun j u hj => by omega⟩, Grew.refl _⟩
      case round =>
        obtain ⟨j, a, hj, rfl, rfl, rfl, hat, hgi⟩ := hrel
        have HAT := hide hat
        have HGI := hide hgi
        have ha : a ≤ j := hat.1
        clear hat hgi
        have hk6 := (HGI.out.heap (blk_lt HB6.out)).trans HB6.out
        have hk6l := blk_lt hk6
        have g0 : wr.cell? ⟨b6, 0, none⟩ = _ := blk_cell hk6 0
        have g1 : wr.cell? ⟨b6, 1, none⟩ = _ := blk_cell hk6 1
        have HK6 := hide hk6
        clear hk6
        by_cases hjl : j < L.length
        · obtain ⟨u, hu⟩ : ∃ u, L[j]? = some u := ⟨_, List.getElem?_eq_getElem hjl⟩
          obtain ⟨b, off, hA, hb, hcell⟩ := (HRO.out.up (HG3.out.trans HGI.out)).at_ (k := j) (x := encP u) (by rw [List.getElem?_map, hu]; rfl)
          have h0 := hcell 0 _ rfl
          have h1 := hcell 1 _ rfl
          simp only [Nat.add_zero] at h0
          have HA := hide hA
          have hix := idx_run (cap := c3) Try.underlying48 Try.sizeOf24 hA hjl
          have hstep := atF_step HST.out.1 HAT.out hu
          have hmem : v ∈ L.take (j + 1) ↔ v ∈ L.take j ∨ v = u := by
            obtain ⟨z1, z2⟩ := List.getElem?_eq_some_iff.1 hu
            rw [List.take_succ_eq_append_getElem z1, z2, List.mem_append, List.mem_singleton]
          obtain ⟨kn', hkn'⟩ : ∃ b, decide (v ∈ L.take (j + 1)) = b := ⟨_, rfl⟩
          obtain ⟨kn, hkn⟩ : ∃ b, decide (v ∈ L.take j) = b := ⟨_, rfl⟩
          rw [hkn]
          obtain ⟨r, hr'⟩ : ∃ r, leP v u = !r := ⟨!leP v u, by simp⟩
          obtain ⟨u1, hu1⟩ : ∃ z, u.1.1 = z := ⟨_, rfl⟩
          obtain ⟨u2, hu2⟩ : ∃ z, u.1.2 = z := ⟨_, rfl⟩
          have q := rBefore_p u v r (h := hr')
          rw [hu1, hu2, HV1.out, HV2.out] at q
          rw [hu1] at h0
          rw [hu2] at h1
          have Q := hide q
          have hcase : (kn = true ∧ kn' = true) ∨ (kn = false ∧ kn' = true ∧ u1 = v1 ∧ u2 = v2) ∨ (kn = false ∧ kn' = false ∧ u1 ≠ v1) ∨ (kn = false ∧ kn' = false ∧ u1 = v1 ∧ u2 ≠ v2) := by
            have hvu : v = u ↔ (u1 = v1 ∧ u2 = v2) := by
              rw [← hu1, ← hu2, ← HV1.out, ← HV2.out]
              constructor
              · intro e; rw [e]; exact ⟨rfl, rfl⟩
              · rintro ⟨e1, e2⟩
                exact Subtype.ext (Prod.ext e1.symm e2.symm)
            rw [hvu] at hmem
            rw [← hkn, ← hkn']
            by_cases m1 : v ∈ L.take j
            · exact .inl ⟨by simpa using m1, by simpa using hmem.2 (.inl m1)⟩
            · by_cases e1 : u1 = v1
              · by_cases e2 : u2 = v2
                · exact .inr (.inl ⟨by simpa using m1, by simpa using hmem.2 (.inr ⟨e1, e2⟩), e1, e2⟩)
                · exact .inr (.inr (.inr ⟨by simpa using m1, by simp only [decide_eq_false_iff_not]; intro m; rcases hmem.1 m with m | m; exact m1 m; exact e2 m.2, e1, e2⟩))
              · exact .inr (.inr (.inl ⟨by simpa using m1, by simp only [decide_eq_false_iff_not]; intro m; rcases hmem.1 m with m | m; exact m1 m; exact e1 m.1, e1⟩))
          have HSTEP := hide hstep
          have HKN := hide hkn'
          have HR' := hide hr'
          clear hcell hA hstep hmem hkn hkn' hr' hu1 hu2 q hu
          rcases hcase with ⟨rfl, rfl⟩ | ⟨rfl, rfl, rfl, rfl⟩ | ⟨rfl, rfl, e1⟩ | ⟨rfl, rfl, rfl, e1⟩
          all_goals
            cases r
            all_goals
              go_wp2_with fail
              refine wp_region_qas 10 [] [] hm (by kernel_rfl) (by simp only [List.take, List.filter, isQ]; rfl) (by simp only [List.drop]; rfl) ZOk.nil (by simp) ?_
              repeat (refine wpSteady_step (fun K hK => ?_); go_simp; first | (refine hK _ ?_; clear hK K) | (apply Exists.intro; refine ⟨fun _ => ?_, hK _ ?_⟩; (fail); clear hK K))
              refine wpSteady_nil ?_
              refine ⟨StOk.nil, LyOk.nil, ?_⟩
              rintro psq qsq Wq HWq HFq HBq
              obtain rfl : qsq = [] := HBq
              obtain rfl : psq = [] := HFq
              obtain ⟨⟨nq, osq⟩, rfl⟩ := HWq
              simp only [putAll, putB, Act.put, List.setIfInBounds_toArray, List.set_cons_succ, List.set_cons_zero]
              try dsimp only
              go_wp2_with fail
              refine wp_region_qas 6 [] [] hm (by kernel_rfl) (by simp only [List.take, List.filter, isQ]; rfl) (by simp only [List.drop]; rfl) ZOk.nil (by simp) ?_
              repeat (refine wpSteady_step (fun K hK => ?_); go_simp; first | (refine hK _ ?_; clear hK K) | (apply Exists.intro; refine ⟨fun _ => ?_, hK _ ?_⟩; (go_at_call 59; with_reducible exact Q.out _); clear hK K))
              refine wpSteady_nil ?_
              refine ⟨StOk.nil, LyOk.nil, ?_⟩
              rintro psq qsq Wqz HWqz HFq HBq
              obtain rfl : qsq = [] := HBq
              obtain rfl : psq = [] := HFq
              obtain ⟨⟨nqz, osqz⟩, rfl⟩ := HWqz
              simp only [putAll, putB, Act.put, List.setIfInBounds_toArray, List.set_cons_succ, List.set_cons_zero]
              try dsimp only
              go_wp2_with fail
              go_roundw
              case rel =>
                have h9 := HSTEP.out
                rw [HR'.out] at h9
                simp only [Bool.not_true, Bool.not_false, Bool.true_eq_false, if_true, if_false] at h9
                exact ⟨j + 1, _, by omega, by go_num, (by first | rfl | go_num), by rw [HKN.out], h9, HGI.out.trans (by repeat (with_reducible first | exact Grew.refl _ | assumption | refine Grew.alloc ?_ _ | refine Grew.grow ?_ _ | refine Grew.dr ?_ _ | refine Grew.drewN ?_ _ | refine Grew.drew ?_ | refine Grew.trans ?_ (Hid.out (by assumption))))⟩
              case measure => simp [intOf]; omega
        · obtain rfl : j = L.length := by omega
          clear g0 g1
          have HGO := hide (HG3.out.trans HGI.out)
          rw [List.take_length]
          by_cases hvm : v ∈ L
          · rw [decide_eq_true hvm]
            have HVM := hide hvm
            clear hvm
            go_wp2_with fail
            go_roundw
            case rel => exact ⟨k + 1, L, by omega, by go_num, srtTo_known HST.out HXY.out (by rw [HV.out]; exact HVM.out), own_grew HO.out HGO.out, HB.out.trans (HGO.out.below.mono HB.out.size)⟩
            case measure => simp [intOf]; omega
          · rw [decide_eq_false hvm]
            have HVM := hide hvm
            clear hvm
            have HGA : Hid (Grew _ (wr.alloc (.cells #[.int .i64 0, .int .i64 0] 24))) := hide (HGO.out.alloc _)
            go_wp2_with (at_builtin; refine wpList_append_own _ rfl (.tmp 49) (.tmp 51) 48 rfl W2.heap.size 24 i0 _ 2 16 Try.underlying48 hi hz0 hz1 hz2 (by rfl) (by omega) _ L.length _ (by rfl) (own_grew HO.out HGA.out) ⟨wr.heap.size, 0, none⟩ 1 1 [.int .i64 0, .int .i64 0] (by rfl) (by rfl) (fun j x hx => by rw [add_at, Nat.zero_add]; exact cells_new _ _ _ _ _ (by simpa using hx)) (fun x hx => by simp at hx; subst hx; rfl) (by unfold maxLen; omega) (by omega) (HB.out.trans (HGA.out.below.mono HB.out.size)).size ?_; intro v' w1 hown1 hg1 _; obtain ⟨g, c9, rfl⟩ := ownsRow_succ hown1; have HO1 := hide hown1; have HGR := hide hg1; clear hown1 hg1)
            have hz9 : W2.heap.size ≤ (wr.alloc (.cells #[.int .i64 0, .int .i64 0] 24)).heap.size := (HB.out.trans (HGA.out.below.mono HB.out.size)).size
            have hb1 : Below W2.heap.size W2 w1 := below_own (HB.out.trans (HGA.out.below.mono HB.out.size)) (own_grew HO.out HGA.out) HGR.out
            have hk1 : w1.heap[b6]? = some (.cells #[.int .i64 v1, .int .i64 v2] 24 (0, 0)) := by
              rw [HGR.out.block b6 (by simp; omega) (fun e => by have := (HO.out.lt b6 e.symm).2; omega)]
              exact (heap_alloc_old _ _ hk6l).trans HK6.out
            have hne : ¬ g = b6 := fun e => blk_ne_row (n := L.length) (by simpa using HO1.out) (by rw [encP_len]) hk1 hnz (by rw [e]; rfl)
            obtain ⟨P, hP⟩ : ∃ P, L.map (·.1) = P := ⟨_, rfl⟩
            have hPl : P.length = L.length := by rw [← hP, List.length_map]
            have ho1 : w1.ownsRow W2.heap.size 24 2 (.slice (some ⟨g, 0, none⟩) (L.length + 1) c9) (L.length + 1) ((P.take L.length ++ (0, 0) :: P.drop L.length).flatMap encD) := by
              have := HO1.out
              rw [encP_encD, hP] at this
              rw [← hPl, List.take_length, List.drop_length, List.flatMap_append]
              simpa [encD, hPl] using this
            have HB1 := hide hb1
            have HK1 := hide hk1
            have HOP := hide ho1
            have HP := hide hP
            have HPL := hide hPl
            clear HO1 HGR hb1 hk1 ho1 hP hPl HGA HK6 hk6l
            go_loopw [10] (fun i wi => ∃ (j : Nat) (p : Int × Int), a ≤ j ∧ j ≤ L.length ∧ i = .int .i64 j ∧ wi.ownsRow W2.heap.size 24 2 (.slice (some ⟨g, 0, none⟩) (L.length + 1) c9) (L.length + 1) ((P.take j ++ p :: P.drop j).flatMap encD) ∧ w1.grownBy wi (some g)) (fun i _ => (intOf i).toNat)
            case atStart =>
              exact ⟨L.length, (0, 0), by omega, by omega, by go_num, HOP.out, ⟨rfl, rfl, rfl, Nat.le_refl _, fun _ _ _ => rfl⟩⟩
            case round =>
              obtain ⟨j, p, haj, hjl', rfl, hown, hgr⟩ := hrel
              have hPL := HPL.out
              by_cases hlt2 : a < j
              · obtain ⟨i, rfl⟩ : ∃ i, j = i + 1 := ⟨j - 1, by omega⟩
                obtain ⟨q, hq⟩ : ∃ q, P[i]? = some q := ⟨_, List.getElem?_eq_getElem (by omega)⟩
                have hqg : (P.take (i + 1) ++ p :: P.drop (i + 1))[i]? = some q := by
                  rw [List.getElem?_append_left (by rw [List.length_take]; omega), List.getElem?_take, if_pos (by omega), hq]
                have hpg : (P.take (i + 1) ++ p :: P.drop (i + 1))[i + 1]? = some p := by
                  rw [List.getElem?_append_right (by rw [List.length_take]; omega), List.length_take]
                  simp [show i + 1 - min (i + 1) P.length = 0 by omega]
                have f0 : wr.cell? ⟨g, i * 2, none⟩ = some (.int .i64 q.1) := by rw [hown.cellAt _ (by omega)]; exact (flatMap_get encD 2 (fun _ => rfl) _ i 0 _ (by omega)).2 ⟨q, hqg, rfl⟩
                have f1 : wr.cell? ⟨g, i * 2 + 1, none⟩ = some (.int .i64 q.2) := by rw [hown.cellAt _ (by omega)]; exact (flatMap_get encD 2 (fun _ => rfl) _ i 1 _ (by omega)).2 ⟨q, hqg, rfl⟩
                have f2 : wr.cell? ⟨g, (i + 1) * 2, none⟩ = some (.int .i64 p.1) := by rw [hown.cellAt _ (by omega)]; exact (flatMap_get encD 2 (fun _ => rfl) _ (i + 1) 0 _ (by omega)).2 ⟨p, hpg, rfl⟩
                have f3 : wr.cell? ⟨g, (i + 1) * 2 + 1, none⟩ = some (.int .i64 p.2) := by rw [hown.cellAt _ (by omega)]; exact (flatMap_get encD 2 (fun _ => rfl) _ (i + 1) 1 _ (by omega)).2 ⟨p, hpg, rfl⟩
                have f4 := hown.frozenAt ((i + 1) * 2)
                have f5 := hown.frozenAt ((i + 1) * 2 + 1)
                have hst := hown.stored ((i + 1) * 2) (.int .i64 q.1)
                have hst2 := hst.1.stored ((i + 1) * 2 + 1) (.int .i64 q.2)
                rw [enc_set (by omega), shift_step hq] at hst2
                have HS1 := hide hst2.1
                have HS2 := hide (hgr.trans (hst.2.trans hst2.2))
                have hix := idx_run (cap := c9) (len := L.length + 1) (k := i) Try.underlying48 Try.sizeOf24 (rfl : some (⟨g, 0, none⟩ : Addr) = some ⟨g, 0, none⟩) (by omega)
                have hix2 := idx_run (cap := c9) (len := L.length + 1) (k := i + 1) Try.underlying48 Try.sizeOf24 (rfl : some (⟨g, 0, none⟩ : Addr) = some ⟨g, 0, none⟩) (by omega)
                simp only [Nat.zero_add, Int.natCast_add, Int.cast_ofNat_Int] at hix hix2
                clear hst hst2 hown hgr hq hqg hpg hPL
                go_wp2_with fail
                go_roundw
                case rel => exact ⟨i, q, by omega, by omega, by go_num, HS1.out, HS2.out⟩
                case measure => first | (simp [intOf]; done) | (simp [intOf]; omega)
              · obtain rfl : j = a := by omega
                have hk2 : wr.heap[b6]? = some (.cells #[.int .i64 v1, .int .i64 v2] 24 (0, 0)) := (hgr.block b6 (blk_lt HK1.out) (fun e => hne (by injection e with e; exact e.symm))).trans HK1.out
                have g0 : wr.cell? ⟨b6, 0, none⟩ = _ := blk_cell hk2 0
                have g1 : wr.cell? ⟨b6, 1, none⟩ = _ := blk_cell hk2 1
                have hpg : (P.take j ++ p :: P.drop j)[j]? = some p := by
                  rw [List.getElem?_append_right (by rw [List.length_take]; omega), List.length_take]
                  simp [show j - min j P.length = 0 by omega]
                have f2 : wr.cell? ⟨g, j * 2, none⟩ = some (.int .i64 p.1) := by rw [hown.cellAt _ (by omega)]; exact (flatMap_get encD 2 (fun _ => rfl) _ j 0 _ (by omega)).2 ⟨p, hpg, rfl⟩
                have f3 : wr.cell? ⟨g, j * 2 + 1, none⟩ = some (.int .i64 p.2) := by rw [hown.cellAt _ (by omega)]; exact (flatMap_get encD 2 (fun _ => rfl) _ j 1 _ (by omega)).2 ⟨p, hpg, rfl⟩
                have f4 := hown.frozenAt (j * 2)
                have f5 := hown.frozenAt (j * 2 + 1)
                have hst := hown.stored (j * 2) (.int .i64 v1)
                have hst2 := hst.1.stored (j * 2 + 1) (.int .i64 v2)
                rw [enc_set (by omega)] at hst2
                have hfin : P.take j ++ (v1, v2) :: P.drop j = (L.take j ++ v :: L.drop j).map (·.1) := by
                  rw [← HP.out, List.map_append, List.map_cons, List.map_take, List.map_drop, ← HV1.out, ← HV2.out]
                have hlen : (L.take j ++ v :: L.drop j).length = L.length + 1 := by
                  rw [List.length_append, List.length_cons, List.length_take, List.length_drop]; omega
                rw [hfin, ← encP_encD, ← hlen] at hst2
                have HS1 := hide hst2.1
                have HS2 := hide (HB1.out.grown (hgr.trans (hst.2.trans hst2.2)) HB1.out.size fun q hq => (HOP.out.lt q hq).1)
                have hix := idx_run (cap := c9) (len := L.length + 1) (k := j) Try.underlying48 Try.sizeOf24 (rfl : some (⟨g, 0, none⟩ : Addr) = some ⟨g, 0, none⟩) (by omega)
                simp only [Nat.zero_add] at hix
                have hln := hide hlen
                clear hst hst2 hown hgr hpg hPL hk2 hfin hlen
                go_wp2_with fail
                go_roundw
                case rel => exact ⟨k + 1, L.take j ++ v :: L.drop j, by omega, by go_num, (by have := srtTo_new HST.out HXY.out (by rw [HV.out]; exact HVM.out) (by rw [HV.out]; exact HAT.out); rwa [HV.out] at this), by rw [hln.out] at HS1 ⊢; exact HS1.out, HS2.out⟩
                case measure => first | (simp [intOf]; done) | (simp [intOf]; omega)
    · obtain rfl : k = ts.length := by omega
      obtain rfl := HALL.out L HST.out
      obtain ⟨A3, c3, rfl, hc3⟩ := own_slice hown
      clear hown hbel
      go_wp2_with fail
      go_ret
      exact ⟨_, rfl, own_base HO.out HG2.out.below.size, HG2.out.trans (Grew.of_below HB.out)⟩
end Go.Proofs.Ytgcgaplhaglejaa
