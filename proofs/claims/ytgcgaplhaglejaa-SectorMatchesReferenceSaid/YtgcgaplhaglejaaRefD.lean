/- The reference implementation: Same. -/
import Derived.Test.YtgcgaplhaglejaaSecC
namespace Go.Proofs.Ytgcgaplhaglejaa
set_option linter.unusedVariables false
set_option linter.unusedSimpArgs false
open Go.RowKit Go.Sort
attribute [local go_sem] Steady steadyUpon
attribute [local go_sem ↓] hs_dr lt_add_r lt_add_r2 lt_add_r3 lt_add_r4 lt_add_r5 lt_add_r6
attribute [local go_sem] cell?_gd frozen?_gd setCell_gd size_grow tape_grow cell?_grow' frozen?_grow' setCell_grow' grow_grow grow_dr grow_drew dr_dr dr_drew drew_dr dr_alloc dr_setCell dr_cell dr_frozen dr_tape dr_drawn

theorem same_get {xs ys : List Sec} (hl : xs.length = ys.length) (h : ∀ (j : Nat), j < xs.length → xs[j]? = ys[j]?) : xs = ys := by
  apply List.ext_getElem? 
  intro i
  by_cases hi : i < xs.length
  · exact h i hi
  · rw [List.getElem?_eq_none (by omega), List.getElem?_eq_none (by omega)]

set_option maxHeartbeats 1600000 in
theorem rSame_any (xs ys : List Sec) (A A' : Option Addr) (c c' : Nat) (w : World) (hr : Rd w w.heap.size 6 A (xs.map Sec.cells)) (hr' : Rd w w.heap.size 6 A' (ys.map Sec.cells)) (hc : xs.length ≤ 100000000000000) (hc' : ys.length ≤ 100000000000000) :
    Calls Try.prog 24 #[.slice A xs.length c, .slice A' ys.length c'] w (Ret w (.bool (decide (xs = ys)))) := by
  have hm := hmix
  by_cases hl : xs.length = ys.length
  · go_enter Try.func24, Try.ntmps24
    go_wp2_with fail
    go_loopw [5] (fun i wr => ∃ k : Nat, k ≤ xs.length ∧ i = .int .i64 k ∧ Grew w wr ∧ ∀ (j : Nat), j < k → xs[j]? = ys[j]?) (fun i _ => xs.length - (intOf i).toNat)
    case atStart => exact ⟨0, by omega, rfl, Grew.refl _, fun j hj => by omega⟩
    case round =>
      obtain ⟨k, hk, rfl, hg, hgood⟩ := hrel
      have HG := hide hgood
      clear hgood
      have HW := hide hg
      clear hg
      by_cases hlt : k < xs.length
      · obtain ⟨s, hs⟩ : ∃ s, xs[k]? = some s := ⟨_, List.getElem?_eq_getElem hlt⟩
        obtain ⟨t, ht⟩ : ∃ t, ys[k]? = some t := ⟨_, List.getElem?_eq_getElem (by omega)⟩
        have hlt' : k < ys.length := by omega
        obtain ⟨b, off, hA, hb, h0, h1, h2, h3, h4, h5⟩ := secAt (hr.up HW.out) hs
        obtain ⟨b', off', hA', hb', g0, g1, g2, g3, g4, g5⟩ := secAt (hr'.up HW.out) ht
        have HS := hide hs
        have HT := hide ht
        have HL := hide hl
        clear hs ht hl
        have hix := idx_run (cap := c) Try.underlying22 Try.sizeOf26 hA.out hlt
        have hix' := idx_run (cap := c') Try.underlying22 Try.sizeOf26 hA'.out hlt'
        by_cases hst : s = t
        · subst hst
          go_wp2_with fail
          refine wp_region_qas 9 [] [] hm (by kernel_rfl) (by simp only [List.take, List.filter, isQ]; rfl) (by simp only [List.drop]; rfl) ZOk.nil (by simp) ?_
          repeat (refine wpSteady_step (fun K hK => ?_); go_simp; first | (refine hK _ ?_; clear hK K) | (apply Exists.intro; refine ⟨fun _ => ?_, hK _ ?_⟩; (fail); clear hK K))
          refine wpSteady_nil ?_
          refine ⟨StOk.nil, LyOk.nil, ?_⟩
          rintro psq qsq Wq HWq HFq HBq
          obtain rfl : qsq = [] := HBq
          obtain rfl : psq = [] := HFq
          obtain ⟨⟨nq, osq⟩, rfl⟩ := HWq
          simp only [putAll, putB, Act.put, List.setIfInBounds_toArray, List.set_cons_succ, List.set_cons_zero]
          try dsimp only
          go_wp2_with fail
          go_roundw
          case rel =>
            refine ⟨k + 1, by omega, by go_num, HW.out.trans (by repeat (with_reducible first | exact Grew.refl _ | assumption | refine Grew.alloc ?_ _ | refine Grew.grow ?_ _ | refine Grew.dr ?_ _ | refine Grew.drewN ?_ _ | refine Grew.drew ?_ | refine Grew.trans ?_ (Hid.out (by assumption)))), fun j hj => ?_⟩
            by_cases hjk : j = k
            · rw [hjk, HS.out, HT.out]
            · exact HG.out j (by omega)
          case measure => simp [intOf]; omega
        · have HST := hide hst
          have hd : (s.fx ≠ t.fx) ∨ (s.fx = t.fx ∧ s.fy ≠ t.fy) ∨ (s.fx = t.fx ∧ s.fy = t.fy ∧ s.tx ≠ t.tx) ∨ (s.fx = t.fx ∧ s.fy = t.fy ∧ s.tx = t.tx ∧ s.ty ≠ t.ty) ∨ (s.fx = t.fx ∧ s.fy = t.fy ∧ s.tx = t.tx ∧ s.ty = t.ty ∧ s.col ≠ t.col) ∨ (s.fx = t.fx ∧ s.fy = t.fy ∧ s.tx = t.tx ∧ s.ty = t.ty ∧ s.col = t.col ∧ s.rng ≠ t.rng) := by
            obtain ⟨s1, s2, s3, s4, s5, s6⟩ := s
            obtain ⟨t1, t2, t3, t4, t5, t6⟩ := t
            simp at hst ⊢
            omega
          clear hst
          rcases hd with h | ⟨e1, h⟩ | ⟨e1, e2, h⟩ | ⟨e1, e2, e3, h⟩ | ⟨e1, e2, e3, e4, h⟩ | ⟨e1, e2, e3, e4, e5, h⟩
          all_goals
            try rw [← e1] at g0
            try rw [← e2] at g1
            try rw [← e3] at g2
            try rw [← e4] at g3
            try rw [← e5] at g4
            try clear e1
            try clear e2
            try clear e3
            try clear e4
            try clear e5
            go_wp2_with fail
            refine wp_region_qas 9 [] [] hm (by kernel_rfl) (by simp only [List.take, List.filter, isQ]; rfl) (by simp only [List.drop]; rfl) ZOk.nil (by simp) ?_
            repeat (refine wpSteady_step (fun K hK => ?_); go_simp; first | (refine hK _ ?_; clear hK K) | (apply Exists.intro; refine ⟨fun _ => ?_, hK _ ?_⟩; (fail); clear hK K))
            refine wpSteady_nil ?_
            refine ⟨StOk.nil, LyOk.nil, ?_⟩
            rintro psq qsq Wq HWq HFq HBq
            obtain rfl : qsq = [] := HBq
            obtain rfl : psq = [] := HFq
            obtain ⟨⟨nq, osq⟩, rfl⟩ := HWq
            simp only [putAll, putB, Act.put, List.setIfInBounds_toArray, List.set_cons_succ, List.set_cons_zero]
            try dsimp only
            go_wp2
            go_ret
            exact Ret.mk' (ret_bool (by symm; rw [decide_eq_false_iff_not]; intro e; subst e; rw [HS.out] at HT; have := HT.out; injection this with this; exact HST.out this)) (HW.out.trans (by repeat (with_reducible first | exact Grew.refl _ | assumption | refine Grew.alloc ?_ _ | refine Grew.grow ?_ _ | refine Grew.dr ?_ _ | refine Grew.drewN ?_ _ | refine Grew.drew ?_ | refine Grew.trans ?_ (Hid.out (by assumption)))))
      · obtain rfl : k = xs.length := by omega
        have hlt' : ¬ xs.length < ys.length := by omega
        go_wp2_with fail
        go_ret
        exact Ret.mk' (ret_bool (by have e := same_get hl HG.out; simp [e])) HW.out
  · go_enter Try.func24, Try.ntmps24
    go_wp2_with fail
    go_ret
    exact Ret.mk' (ret_bool (by simp; intro e; exact hl (by rw [e]))) (by repeat (with_reducible first | exact Grew.refl _ | assumption | refine Grew.alloc ?_ _ | refine Grew.grow ?_ _ | refine Grew.dr ?_ _ | refine Grew.drewN ?_ _ | refine Grew.drew ?_ | refine Grew.trans ?_ (Hid.out (by assumption))))
end Go.Proofs.Ytgcgaplhaglejaa
