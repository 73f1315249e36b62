/- Package poly: Valid. -/
import Derived.Test.YtdmlnmcaihodaaaPoe
namespace Go.Proofs.Ytdmlnmcaihodaaa
set_option linter.unusedVariables false
set_option linter.unusedSimpArgs false
open Go.RowKit Go.Sort
attribute [local go_sem] Steady steadyUpon
attribute [local go_sem ↓] hs_dr lt_add_r lt_add_r2 lt_add_r3 lt_add_r4 lt_add_r5 lt_add_r6
attribute [local go_sem] cell?_gd frozen?_gd setCell_gd size_grow tape_grow cell?_grow' frozen?_grow' setCell_grow' grow_grow grow_dr grow_drew dr_dr dr_drew drew_dr dr_alloc dr_setCell dr_cell dr_frozen dr_tape dr_drawn
attribute [local irreducible] wpSteady

/-- What Valid asks of a corner. -/
def vertOk (ps : List Pt) (i : Nat) : Bool := !((decide (0 < i) && decide (0 ≤ ord (cor ps 0) (cor ps i))) || tn (cor ps (i + ps.length - 1)) (cor ps i) (cor ps (i + 1)) == 0)
def PValid (ps : List Pt) : Bool := (decide (3 ≤ ps.length ∧ ps.length ≤ 24) && ps.all Pt.ok) && ((List.range ps.length).all (vertOk ps) && (simpleOf ps && decide (0 < twiceOf ps)))

theorem order_v (a b : Pt) (r : Int) (w : World) (h : ord a b = r) : Calls Try.prog 41 #[pt a.1 a.2, pt b.1 b.2] w (Ret w (.int .i64 r)) := by
  have := order_any a b w
  rwa [h] at this
theorem simple_v (ps : List Pt) (A : Option Addr) (c : Nat) (r : Bool) (w : World) (hr : Rd w w.heap.size 2 A (ps.map encD)) (hl : ps.length ≤ 100) (hok : ps.all Pt.ok = true) (h : simpleOf ps = r) :
    Calls Try.prog 50 #[.slice A ps.length c] w (Ret w (.bool r)) := by
  have := simple_any ps A c w hr hl hok
  rwa [h] at this
theorem twice_v (ps : List Pt) (A : Option Addr) (c : Nat) (r : Int) (w : World) (hr : Rd w w.heap.size 2 A (ps.map encD)) (hl : ps.length ≤ 100) (hok : ps.all Pt.ok = true) (h : twiceOf ps = r) :
    Calls Try.prog 27 #[.slice A ps.length c] w (Ret w (.int .i64 r)) := by
  have := twice_any ps A c w hr hl hok
  rwa [h] at this
theorem range_all_succ {f : Nat → Bool} {k : Nat} (h : (List.range k).all f = true) (hk : f k = true) : (List.range (k + 1)).all f = true := by
  rw [List.range_succ, List.all_append, h]
  simpa using hk

set_option maxRecDepth 100000 in
set_option maxHeartbeats 4000000 in
theorem PValid_any (ps : List Pt) (A : Option Addr) (c : Nat) (w : World) (hr : Rd w w.heap.size 2 A (ps.map encD)) (hc : ps.length ≤ 100000000000000) :
    Calls Try.prog 18 #[.slice A ps.length c] w (Ret w (.bool (PValid ps))) := by
  have hm := hmix
  obtain ⟨r, hrr⟩ : ∃ r, PValid ps = r := ⟨_, rfl⟩
  rw [hrr]
  by_cases h3 : ps.length < 3
  · obtain rfl : r = false := by
      rw [← hrr]; unfold PValid
      rw [show decide (3 ≤ ps.length ∧ ps.length ≤ 24) = false by simp; omega]
      rfl
    clear hrr
    go_enter Try.func18, Try.ntmps18
    go_wp2_with fail
    go_ret
    exact Ret.mk' rfl (by repeat (with_reducible first | exact Grew.refl _ | assumption | refine Grew.alloc ?_ _ | refine Grew.grow ?_ _ | refine Grew.dr ?_ _ | refine Grew.drewN ?_ _ | refine Grew.drew ?_ | refine Grew.trans ?_ (Hid.out (by assumption))))
  · by_cases h24 : 24 < ps.length
    · obtain rfl : r = false := by
        rw [← hrr]; unfold PValid
        rw [show decide (3 ≤ ps.length ∧ ps.length ≤ 24) = false by simp; omega]
        rfl
      clear hrr
      go_enter Try.func18, Try.ntmps18
      go_wp2_with fail
      go_ret
      exact Ret.mk' rfl (by repeat (with_reducible first | exact Grew.refl _ | assumption | refine Grew.alloc ?_ _ | refine Grew.grow ?_ _ | refine Grew.dr ?_ _ | refine Grew.drewN ?_ _ | refine Grew.drew ?_ | refine Grew.trans ?_ (Hid.out (by assumption))))
    · cases hok : ps.all Pt.ok
      · obtain rfl : r = false := by
          rw [← hrr]; unfold PValid
          rw [hok, Bool.and_false]
          rfl
        have k1 := hide (fun W (hg : Grew w W) => vb_con ps A c true W (hr.up hg) hc hok)
        clear hrr hok
        go_enter Try.func18, Try.ntmps18
        go_wp2_with (go_at_call 38; (with_reducible refine (k1.out _ (by repeat (with_reducible first | exact Grew.refl _ | assumption | refine Grew.alloc ?_ _ | refine Grew.grow ?_ _ | refine Grew.dr ?_ _ | refine Grew.drewN ?_ _ | refine Grew.drew ?_ | refine Grew.trans ?_ (Hid.out (by assumption))))).mono ?_); rintro e w' ⟨rfl, ⟨_, _⟩, rfl⟩; dsimp only)
        go_ret
        exact Ret.mk' rfl (by repeat (with_reducible first | exact Grew.refl _ | assumption | refine Grew.alloc ?_ _ | refine Grew.grow ?_ _ | refine Grew.dr ?_ _ | refine Grew.drewN ?_ _ | refine Grew.drew ?_ | refine Grew.trans ?_ (Hid.out (by assumption))))
      · have k1 := hide (fun W (hg : Grew w W) => vb_con ps A c false W (hr.up hg) hc hok)
        have hrv : r = ((List.range ps.length).all (vertOk ps) && (simpleOf ps && decide (0 < twiceOf ps))) := by
          rw [← hrr]; unfold PValid
          rw [hok, show decide (3 ≤ ps.length ∧ ps.length ≤ 24) = true by simp; omega]
          rfl
        have HRV := hide hrv
        have HOK := hide hok
        obtain ⟨sm, hsm⟩ : ∃ s, simpleOf ps = s := ⟨_, rfl⟩
        obtain ⟨tw, htw⟩ : ∃ s, twiceOf ps = s := ⟨_, rfl⟩
        have k2 := hide (fun W (hg : Grew w W) => simple_v ps A c sm W (hr.up hg) (by omega) HOK.out hsm)
        have k3 := hide (fun W (hg : Grew w W) => twice_v ps A c tw W (hr.up hg) (by omega) HOK.out htw)
        rw [hsm, htw] at HRV
        clear hrr hrv hok hsm htw
        go_enter Try.func18, Try.ntmps18
        go_wp2_with (go_at_call 38; (with_reducible refine (k1.out _ (by repeat (with_reducible first | exact Grew.refl _ | assumption | refine Grew.alloc ?_ _ | refine Grew.grow ?_ _ | refine Grew.dr ?_ _ | refine Grew.drewN ?_ _ | refine Grew.drew ?_ | refine Grew.trans ?_ (Hid.out (by assumption))))).mono ?_); rintro e w' ⟨rfl, ⟨_, _⟩, rfl⟩; dsimp only)
        go_loopw [22] (fun i wr => ∃ k : Nat, k ≤ ps.length ∧ i = .int .i64 k ∧ Grew w wr ∧ AppG ((List.range k).all (vertOk ps) = true)) (fun i _ => ps.length - (intOf i).toNat)
        case atStart => exact ⟨0, by omega, rfl, (by repeat (with_reducible first | exact Grew.refl _ | assumption | refine Grew.alloc ?_ _ | refine Grew.grow ?_ _ | refine Grew.dr ?_ _ | refine Grew.drewN ?_ _ | refine Grew.drew ?_ | refine Grew.trans ?_ (Hid.out (by assumption)))), rfl⟩
        case round =>
          obtain ⟨k, hk, rfl, hg, hall⟩ := hrel
          have HG := hide hg
          have HA := hide hall.stop
          clear hg hall
          by_cases hlt : k < ps.length
          · have hpos : 0 < ps.length := by omega
            obtain ⟨b, off, hA, hb, h0, h1⟩ := ptAt (hr.up HG.out) (cor_get hlt)
            obtain ⟨b', off', hA', hb', g0, g1⟩ := ptAt (hr.up HG.out) (cor_get hpos)
            have hix := idx_run (cap := c) Try.underlying56 Try.sizeOf28 hA.out hlt
            have hix0 := idx_run0 (cap := c) Try.underlying56 Try.sizeOf28 hA'.out hpos
            simp only [Nat.zero_mul, Nat.add_zero] at g0 g1
            have hq1 := cor_mod (k + ps.length - 1) hpos
            have hq2 := cor_mod (k + 1) hpos
            have o1 := cor_ok HOK.out (k + ps.length - 1)
            have o2 := cor_ok HOK.out k
            have o3 := cor_ok HOK.out (k + 1)
            have kc1 := hide (fun W' (hg : Grew w W') => corner_v ps A c ((k : Int) - 1) ((k + ps.length - 1) % ps.length) _ W' (hr.up hg) (by omega) (by omega) (by rw [Int.natCast_emod, show ((k + ps.length - 1 : Nat) : Int) = (k : Int) - 1 + (ps.length : Int) by omega]) hq1)
            have kc2 := hide (fun W' (hg : Grew w W') => corner_v ps A c ((k : Int) + 1) ((k + 1) % ps.length) _ W' (hr.up hg) (by omega) (by omega) (by rw [Int.natCast_emod, Int.add_emod_right]; rfl) hq2)
            obtain ⟨tt, htt⟩ : ∃ t, tn (cor ps (k + ps.length - 1)) (cor ps k) (cor ps (k + 1)) = t := ⟨_, rfl⟩
            obtain ⟨oo, hoo⟩ : ∃ o, ord (cor ps 0) (cor ps k) = o := ⟨_, rfl⟩
            have kt := hide (fun W' => turn_v _ _ _ tt W' o1 o2 o3 htt)
            have ko := hide (fun W' => order_v (cor ps 0) (cor ps k) oo W' hoo)
            have hvk : vertOk ps k = !((decide (0 < k) && decide (0 ≤ oo)) || tt == 0) := by unfold vertOk; rw [htt, hoo]
            generalize cor ps (k + ps.length - 1) = qa at *
            generalize cor ps k = qb at *
            generalize cor ps (k + 1) = qc at *
            generalize cor ps 0 = qd at *
            obtain ⟨a1, a2⟩ := qa
            obtain ⟨b1, b2⟩ := qb
            obtain ⟨c1, c2⟩ := qc
            obtain ⟨d1, d2⟩ := qd
            dsimp only at h0 h1 g0 g1
            have ew1 : IntKind.i64.wrap ((k : Int) - 1) = (k : Int) - 1 := by unfold IntKind.wrap; simp [IntKind.bits, IntKind.signed]; omega
            have ew2 : IntKind.i64.wrap ((k : Int) + 1) = (k : Int) + 1 := by unfold IntKind.wrap; simp [IntKind.bits, IntKind.signed]; omega
            have HVK := hide hvk
            have hcase : (decide (0 < k) = true ∧ decide (0 ≤ oo) = true) ∨ (decide (0 < k) = true ∧ decide (0 ≤ oo) = false) ∨ decide (0 < k) = false := by
              cases decide (0 < k) <;> cases decide (0 ≤ oo) <;> simp
            clear hq1 hq2 o1 o2 o3 htt hoo hvk hA hA'
            rcases hcase with ⟨e1, e2⟩ | ⟨e1, e2⟩ | e1
            · have hvf : vertOk ps k = false := by rw [HVK.out, e1, e2]; rfl
              obtain rfl : r = false := by
                rw [HRV.out, List.all_eq_false.2 ⟨k, List.mem_range.2 hlt, by rw [hvf]; simp⟩]
                rfl
              have e1' : 0 < k := by simpa using e1
              clear hvf e1
              go_wp2_with fail
              refine wp_region_qas 29 [] [] hm (by kernel_rfl) (by simp only [List.take, List.filter, isQ]; rfl) (by simp only [List.drop]; rfl) ZOk.nil (by simp) ?_
              repeat (refine wpSteady_step (fun K hK => ?_); go_simp; first | (refine hK _ ?_; clear hK K) | (apply Exists.intro; refine ⟨fun _ => ?_, hK _ ?_⟩; (first | (go_at_call 41; with_reducible exact ko.out _) | (go_at_call 49; first | with_reducible exact kc1.out _ (HG.out.trans (by repeat (with_reducible first | exact Grew.refl _ | assumption | refine Grew.alloc ?_ _ | refine Grew.grow ?_ _ | refine Grew.dr ?_ _ | refine Grew.drewN ?_ _ | refine Grew.drew ?_ | refine Grew.trans ?_ (Hid.out (by assumption))))) | with_reducible exact kc2.out _ (HG.out.trans (by repeat (with_reducible first | exact Grew.refl _ | assumption | refine Grew.alloc ?_ _ | refine Grew.grow ?_ _ | refine Grew.dr ?_ _ | refine Grew.drewN ?_ _ | refine Grew.drew ?_ | refine Grew.trans ?_ (Hid.out (by assumption)))))) | (go_at_call 48; with_reducible exact kt.out _)); clear hK K))
              refine wpSteady_nil ?_
              refine ⟨StOk.nil, LyOk.nil, ?_⟩
              rintro psq qsq Wq HWq HFq HBq
              obtain rfl : qsq = [] := HBq
              obtain rfl : psq = [] := HFq
              obtain ⟨⟨nq, osq⟩, rfl⟩ := HWq
              simp only [putAll, putB, Act.put, List.setIfInBounds_toArray, List.set_cons_succ, List.set_cons_zero]
              try dsimp only
              go_wp2_with fail
              go_ret
              exact Ret.mk' rfl (HG.out.trans (by repeat (with_reducible first | exact Grew.refl _ | assumption | refine Grew.alloc ?_ _ | refine Grew.grow ?_ _ | refine Grew.dr ?_ _ | refine Grew.drewN ?_ _ | refine Grew.drew ?_ | refine Grew.trans ?_ (Hid.out (by assumption)))))
            all_goals
              have hvt : vertOk ps k = !(tt == 0) := by rw [HVK.out, e1]; try rw [e2]
                                                        rfl
              have HVT := hide hvt
              clear hvt
              first
                | have e1' : 0 < k := by simpa using e1
                | have e1' : ¬ 0 < k := by simpa using e1
              clear e1
              by_cases ht0 : tt = 0
              · obtain rfl : r = false := by
                  rw [HRV.out, List.all_eq_false.2 ⟨k, List.mem_range.2 hlt, by rw [HVT.out, ht0]; simp⟩]
                  rfl
                subst ht0
                go_wp2_with fail
                refine wp_region_qas 29 [] [] hm (by kernel_rfl) (by simp only [List.take, List.filter, isQ]; rfl) (by simp only [List.drop]; rfl) ZOk.nil (by simp) ?_
                repeat (refine wpSteady_step (fun K hK => ?_); go_simp; first | (refine hK _ ?_; clear hK K) | (apply Exists.intro; refine ⟨fun _ => ?_, hK _ ?_⟩; (first | (go_at_call 41; with_reducible exact ko.out _) | (go_at_call 49; first | with_reducible exact kc1.out _ (HG.out.trans (by repeat (with_reducible first | exact Grew.refl _ | assumption | refine Grew.alloc ?_ _ | refine Grew.grow ?_ _ | refine Grew.dr ?_ _ | refine Grew.drewN ?_ _ | refine Grew.drew ?_ | refine Grew.trans ?_ (Hid.out (by assumption))))) | with_reducible exact kc2.out _ (HG.out.trans (by repeat (with_reducible first | exact Grew.refl _ | assumption | refine Grew.alloc ?_ _ | refine Grew.grow ?_ _ | refine Grew.dr ?_ _ | refine Grew.drewN ?_ _ | refine Grew.drew ?_ | refine Grew.trans ?_ (Hid.out (by assumption)))))) | (go_at_call 48; with_reducible exact kt.out _)); clear hK K))
                refine wpSteady_nil ?_
                refine ⟨StOk.nil, LyOk.nil, ?_⟩
                rintro psq qsq Wq HWq HFq HBq
                obtain rfl : qsq = [] := HBq
                obtain rfl : psq = [] := HFq
                obtain ⟨⟨nq, osq⟩, rfl⟩ := HWq
                simp only [putAll, putB, Act.put, List.setIfInBounds_toArray, List.set_cons_succ, List.set_cons_zero]
                try dsimp only
                go_wp2_with fail
                go_ret
                exact Ret.mk' rfl (HG.out.trans (by repeat (with_reducible first | exact Grew.refl _ | assumption | refine Grew.alloc ?_ _ | refine Grew.grow ?_ _ | refine Grew.dr ?_ _ | refine Grew.drewN ?_ _ | refine Grew.drew ?_ | refine Grew.trans ?_ (Hid.out (by assumption)))))
              · have ht1 : (tt == 0) = false := by simpa using ht0
                have hvt : vertOk ps k = true := by rw [HVT.out, ht1]; rfl
                have HVT2 := hide hvt
                clear hvt ht0 HVT
                go_wp2_with fail
                refine wp_region_qas 29 [] [] hm (by kernel_rfl) (by simp only [List.take, List.filter, isQ]; rfl) (by simp only [List.drop]; rfl) ZOk.nil (by simp) ?_
                repeat (refine wpSteady_step (fun K hK => ?_); go_simp; first | (refine hK _ ?_; clear hK K) | (apply Exists.intro; refine ⟨fun _ => ?_, hK _ ?_⟩; (first | (go_at_call 41; with_reducible exact ko.out _) | (go_at_call 49; first | with_reducible exact kc1.out _ (HG.out.trans (by repeat (with_reducible first | exact Grew.refl _ | assumption | refine Grew.alloc ?_ _ | refine Grew.grow ?_ _ | refine Grew.dr ?_ _ | refine Grew.drewN ?_ _ | refine Grew.drew ?_ | refine Grew.trans ?_ (Hid.out (by assumption))))) | with_reducible exact kc2.out _ (HG.out.trans (by repeat (with_reducible first | exact Grew.refl _ | assumption | refine Grew.alloc ?_ _ | refine Grew.grow ?_ _ | refine Grew.dr ?_ _ | refine Grew.drewN ?_ _ | refine Grew.drew ?_ | refine Grew.trans ?_ (Hid.out (by assumption)))))) | (go_at_call 48; with_reducible exact kt.out _)); clear hK K))
                refine wpSteady_nil ?_
                refine ⟨StOk.nil, LyOk.nil, ?_⟩
                rintro psq qsq Wq HWq HFq HBq
                obtain rfl : qsq = [] := HBq
                obtain rfl : psq = [] := HFq
                obtain ⟨⟨nq, osq⟩, rfl⟩ := HWq
                simp only [putAll, putB, Act.put, List.setIfInBounds_toArray, List.set_cons_succ, List.set_cons_zero]
                try dsimp only
                go_wp2_with fail
                go_roundw
                case rel => exact ⟨k + 1, by omega, by go_num, HG.out.trans (by repeat (with_reducible first | exact Grew.refl _ | assumption | refine Grew.alloc ?_ _ | refine Grew.grow ?_ _ | refine Grew.dr ?_ _ | refine Grew.drewN ?_ _ | refine Grew.drew ?_ | refine Grew.trans ?_ (Hid.out (by assumption)))), range_all_succ HA.out HVT2.out⟩
                case measure => simp [intOf]; omega
          · obtain rfl : k = ps.length := by omega
            rw [HA.out, Bool.true_and] at HRV
            cases sm
            · obtain rfl : r = false := HRV.out
              go_wp2_with (first | (go_at_call 50; (with_reducible refine (k2.out _ (HG.out.trans (by repeat (with_reducible first | exact Grew.refl _ | assumption | refine Grew.alloc ?_ _ | refine Grew.grow ?_ _ | refine Grew.dr ?_ _ | refine Grew.drewN ?_ _ | refine Grew.drew ?_ | refine Grew.trans ?_ (Hid.out (by assumption)))))).mono ?_); rintro e w' ⟨rfl, ⟨_, _⟩, rfl⟩; dsimp only) | (go_at_call 27; (with_reducible refine (k3.out _ (HG.out.trans (by repeat (with_reducible first | exact Grew.refl _ | assumption | refine Grew.alloc ?_ _ | refine Grew.grow ?_ _ | refine Grew.dr ?_ _ | refine Grew.drewN ?_ _ | refine Grew.drew ?_ | refine Grew.trans ?_ (Hid.out (by assumption)))))).mono ?_); rintro e w' ⟨rfl, ⟨_, _⟩, rfl⟩; dsimp only))
              go_ret
              exact Ret.mk' rfl (HG.out.trans (by repeat (with_reducible first | exact Grew.refl _ | assumption | refine Grew.alloc ?_ _ | refine Grew.grow ?_ _ | refine Grew.dr ?_ _ | refine Grew.drewN ?_ _ | refine Grew.drew ?_ | refine Grew.trans ?_ (Hid.out (by assumption)))))
            · rw [Bool.true_and] at HRV
              have hrd : decide (0 < tw) = r := HRV.out.symm
              go_wp2_with (first | (go_at_call 50; (with_reducible refine (k2.out _ (HG.out.trans (by repeat (with_reducible first | exact Grew.refl _ | assumption | refine Grew.alloc ?_ _ | refine Grew.grow ?_ _ | refine Grew.dr ?_ _ | refine Grew.drewN ?_ _ | refine Grew.drew ?_ | refine Grew.trans ?_ (Hid.out (by assumption)))))).mono ?_); rintro e w' ⟨rfl, ⟨_, _⟩, rfl⟩; dsimp only) | (go_at_call 27; (with_reducible refine (k3.out _ (HG.out.trans (by repeat (with_reducible first | exact Grew.refl _ | assumption | refine Grew.alloc ?_ _ | refine Grew.grow ?_ _ | refine Grew.dr ?_ _ | refine Grew.drewN ?_ _ | refine Grew.drew ?_ | refine Grew.trans ?_ (Hid.out (by assumption)))))).mono ?_); rintro e w' ⟨rfl, ⟨_, _⟩, rfl⟩; dsimp only))
              go_ret
              exact Ret.mk' (ret_bool (by simp [*])) (HG.out.trans (by repeat (with_reducible first | exact Grew.refl _ | assumption | refine Grew.alloc ?_ _ | refine Grew.grow ?_ _ | refine Grew.dr ?_ _ | refine Grew.drewN ?_ _ | refine Grew.drew ?_ | refine Grew.trans ?_ (Hid.out (by assumption)))))
theorem PValid_v (ps : List Pt) (A : Option Addr) (c : Nat) (r : Bool) (w : World) (hr : Rd w w.heap.size 2 A (ps.map encD)) (hc : ps.length ≤ 100000000000000) (h : PValid ps = r) :
    Calls Try.prog 18 #[.slice A ps.length c] w (Ret w (.bool r)) := by
  have := PValid_any ps A c w hr hc
  rwa [h] at this
theorem pv_parts {ps : List Pt} (h : PValid ps = true) : (3 ≤ ps.length ∧ ps.length ≤ 24) ∧ ps.all Pt.ok = true := by
  unfold PValid at h
  simp only [Bool.and_eq_true, decide_eq_true_eq] at h
  exact h.1
end Go.Proofs.Ytdmlnmcaihodaaa
