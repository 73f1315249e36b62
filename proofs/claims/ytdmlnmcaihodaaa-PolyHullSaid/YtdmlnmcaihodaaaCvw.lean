/- The reference implementation's turn, Next and Convex. -/
import Derived.Test.YtdmlnmcaihodaaaPoz
namespace Go.Proofs.Ytdmlnmcaihodaaa
set_option linter.unusedVariables false
set_option linter.unusedSimpArgs false
open Go.RowKit Go.Sort
attribute [local go_sem] Steady steadyUpon
attribute [local go_sem ↓] hs_dr lt_add_r lt_add_r2 lt_add_r3 lt_add_r4 lt_add_r5 lt_add_r6
attribute [local go_sem] cell?_gd frozen?_gd setCell_gd size_grow tape_grow cell?_grow' frozen?_grow' setCell_grow' grow_grow grow_dr grow_drew dr_dr dr_drew drew_dr dr_alloc dr_setCell dr_cell dr_frozen dr_tape dr_drawn
attribute [local irreducible] wpSteady

set_option maxHeartbeats 400000 in
theorem rMinus_any (a b c d : Int) (w : World) (ha : -4000000 ≤ a ∧ a ≤ 4000000) (hb : -4000000 ≤ b ∧ b ≤ 4000000) (hc : -4000000 ≤ c ∧ c ≤ 4000000) (hd : -4000000 ≤ d ∧ d ≤ 4000000) :
    Calls Try.prog 75 #[pt a b, pt c d] w (Ret w (pt (a - c) (b - d))) := by
  go_enter Try.func75, Try.ntmps75
  go_wp2
  refine bodyPost_ret (v := pt (a - c) (b - d)) (by simp [results, Try.results75, go_sem]) rfl ?_
  exact Ret.mk' rfl (by repeat (with_reducible first | exact Grew.refl _ | assumption | refine Grew.alloc ?_ _ | refine Grew.grow ?_ _ | refine Grew.dr ?_ _ | refine Grew.drewN ?_ _ | refine Grew.drew ?_ | refine Grew.trans ?_ (Hid.out (by assumption))))
theorem rMinus_v (a b : Pt) (w : World) (ha : a.ok = true) (hb : b.ok = true) : Calls Try.prog 75 #[pt b.1 b.2, pt a.1 a.2] w (Ret w (pt (b.1 - a.1) (b.2 - a.2))) := by
  have a' := ok_bd ha
  have b' := ok_bd hb
  exact rMinus_any _ _ _ _ w (by omega) (by omega) (by omega) (by omega)
set_option maxHeartbeats 400000 in
theorem rCross_any (a b c d : Int) (w : World) (ha : -4000000 ≤ a ∧ a ≤ 4000000) (hb : -4000000 ≤ b ∧ b ≤ 4000000) (hc : -4000000 ≤ c ∧ c ≤ 4000000) (hd : -4000000 ≤ d ∧ d ≤ 4000000) :
    Calls Try.prog 74 #[pt a b, pt c d] w (Ret w (.int .i64 (a * d - b * c))) := by
  have h1 : -16000000000000 ≤ a * d ∧ a * d ≤ 16000000000000 := mul_bd 4000000 4000000 ha hd
  have h2 : -16000000000000 ≤ b * c ∧ b * c ≤ 16000000000000 := mul_bd 4000000 4000000 hb hc
  go_enter Try.func74, Try.ntmps74
  go_wp2
  go_ret
  exact Ret.mk' rfl (by repeat (with_reducible first | exact Grew.refl _ | assumption | refine Grew.alloc ?_ _ | refine Grew.grow ?_ _ | refine Grew.dr ?_ _ | refine Grew.drewN ?_ _ | refine Grew.drew ?_ | refine Grew.trans ?_ (Hid.out (by assumption))))
set_option maxHeartbeats 400000 in
theorem rSign_any (n : Int) (w : World) : Calls Try.prog 73 #[.int .i64 n] w (Ret w (.int .i64 (sg n))) := by
  rcases sg_cases n with ⟨h, e⟩ | ⟨h, e⟩ | ⟨h, e⟩
  · have h1 : ¬ 0 < n := by omega
    rw [e]
    clear e
    go_enter Try.func73, Try.ntmps73
    go_wp2
    go_ret
    exact Ret.mk' rfl (by repeat (with_reducible first | exact Grew.refl _ | assumption | refine Grew.alloc ?_ _ | refine Grew.grow ?_ _ | refine Grew.dr ?_ _ | refine Grew.drewN ?_ _ | refine Grew.drew ?_ | refine Grew.trans ?_ (Hid.out (by assumption))))
  · subst h
    rw [e]
    clear e
    go_enter Try.func73, Try.ntmps73
    go_wp2
    go_ret
    exact Ret.mk' rfl (by repeat (with_reducible first | exact Grew.refl _ | assumption | refine Grew.alloc ?_ _ | refine Grew.grow ?_ _ | refine Grew.dr ?_ _ | refine Grew.drewN ?_ _ | refine Grew.drew ?_ | refine Grew.trans ?_ (Hid.out (by assumption))))
  · rw [e]
    clear e
    go_enter Try.func73, Try.ntmps73
    go_wp2
    go_ret
    exact Ret.mk' rfl (by repeat (with_reducible first | exact Grew.refl _ | assumption | refine Grew.alloc ?_ _ | refine Grew.grow ?_ _ | refine Grew.dr ?_ _ | refine Grew.drewN ?_ _ | refine Grew.drew ?_ | refine Grew.trans ?_ (Hid.out (by assumption))))
set_option maxHeartbeats 1600000 in
theorem rturn_v (a b c : Pt) (t : Int) (w : World) (ha : a.ok = true) (hb : b.ok = true) (hc : c.ok = true) (ht : tn a b c = t) :
    Calls Try.prog 51 #[pt a.1 a.2, pt b.1 b.2, pt c.1 c.2] w (Ret w (.int .i64 t)) := by
  have hm := hmix
  have k1 := hide (fun W => rMinus_v a b W ha hb)
  have k2 := hide (fun W => rMinus_v a c W ha hc)
  obtain ⟨a1, a2⟩ := a
  obtain ⟨b1, b2⟩ := b
  obtain ⟨c1, c2⟩ := c
  have a' := pl_bd ha
  have b' := pl_bd hb
  have c' := pl_bd hc
  have k3 : Hid (∀ W, Calls Try.prog 74 #[pt (b1 - a1) (b2 - a2), pt (c1 - a1) (c2 - a2)] W (Ret W (.int .i64 (cr (a1, a2) (b1, b2) (c1, c2))))) := hide (fun W => rCross_any _ _ _ _ W (by omega) (by omega) (by omega) (by omega))
  have k4 : Hid (∀ W, Calls Try.prog 73 #[.int .i64 (cr (a1, a2) (b1, b2) (c1, c2))] W (Ret W (.int .i64 t))) := hide (fun W => by
    have := rSign_any (cr (a1, a2) (b1, b2) (c1, c2)) W
    rw [← ht]
    exact this)
  clear ht ha hb hc
  dsimp only at k1 k2 ⊢
  go_enter Try.func51, Try.ntmps51
  go_wp2_with fail
  refine wp_region_qas 9 [] [] hm (by kernel_rfl) (by simp only [List.take, List.filter, isQ]; rfl) (by simp only [List.drop]; rfl) ZOk.nil (by simp) ?_
  repeat (refine wpSteady_step (fun K hK => ?_); go_simp; first | (refine hK _ ?_; clear hK K) | (apply Exists.intro; refine ⟨fun _ => ?_, hK _ ?_⟩; (first | (go_at_call 75; first | with_reducible exact k1.out _ | with_reducible exact k2.out _) | (go_at_call 74; with_reducible exact k3.out _) | (go_at_call 73; with_reducible exact k4.out _)); clear hK K))
  refine wpSteady_nil ?_
  refine ⟨StOk.nil, LyOk.nil, ?_⟩
  rintro psq qsq Wq HWq HFq HBq
  obtain rfl : qsq = [] := HBq
  obtain rfl : psq = [] := HFq
  obtain ⟨⟨nq, osq⟩, rfl⟩ := HWq
  simp only [putAll, putB, Act.put, List.setIfInBounds_toArray, List.set_cons_succ, List.set_cons_zero]
  try dsimp only
  go_wp2
  go_ret
  exact Ret.mk' rfl (by repeat (with_reducible first | exact Grew.refl _ | assumption | refine Grew.alloc ?_ _ | refine Grew.grow ?_ _ | refine Grew.dr ?_ _ | refine Grew.drewN ?_ _ | refine Grew.drew ?_ | refine Grew.trans ?_ (Hid.out (by assumption))))
set_option maxRecDepth 100000 in
set_option maxHeartbeats 1600000 in
theorem Next_v (ps : List Pt) (A : Option Addr) (c k : Nat) (p : Pt) (w : World) (hr : Rd w w.heap.size 2 A (ps.map encD)) (hl : ps.length ≤ 1000000) (hk : k < ps.length) (hp : cor ps (k + 1) = p) :
    Calls Try.prog 52 #[.slice A ps.length c, .int .i64 k] w (Ret w (pt p.1 p.2)) := by
  have hmx := hmix
  obtain ⟨j, hj⟩ : ∃ j, (k + 1) % ps.length = j := ⟨_, rfl⟩
  have hjl : j < ps.length := by rw [← hj]; exact Nat.mod_lt _ (by omega)
  have hq := cor_mod (ps := ps) (k + 1) (by omega)
  rw [hj, hp] at hq
  obtain ⟨b, off, hA, hb, h0, h1⟩ := ptAt hr hq
  have ej : ((k : Int) + 1) % (ps.length : Int) = (j : Int) := by rw [← hj, show (k : Int) + 1 = ((k + 1 : Nat) : Int) by omega, Int.natCast_emod]
  have hix := idx_run (cap := c) Try.underlying22 Try.sizeOf28 hA.out hjl
  have hne : ¬ (ps.length : Int) = 0 := by omega
  have hne2 : ¬ ps = [] := by intro e; rw [e] at hjl; simp at hjl
  have hnn : 0 ≤ (k : Int) + 1 := by omega
  have ew : IntKind.i64.wrap ((k : Int) + 1) = (k : Int) + 1 := by unfold IntKind.wrap; simp [IntKind.bits, IntKind.signed]; omega
  have ej' := ej
  rw [← Int.tmod_eq_emod_of_nonneg hnn] at ej'
  obtain ⟨p1, p2⟩ := p
  dsimp only at h0 h1
  clear hj hp hq hr hA
  go_enter Try.func52, Try.ntmps52
  go_wp2_with fail
  refine bodyPost_ret (v := pt p1 p2) (by simp [results, Try.results52, go_sem]) rfl ?_
  exact Ret.mk' rfl (by repeat (with_reducible first | exact Grew.refl _ | assumption | refine Grew.alloc ?_ _ | refine Grew.grow ?_ _ | refine Grew.dr ?_ _ | refine Grew.drewN ?_ _ | refine Grew.drew ?_ | refine Grew.trans ?_ (Hid.out (by assumption))))
/-- No corner bends inward. -/
def convTo (ps : List Pt) (k : Nat) : Bool := (List.range k).all fun i => !decide (tn (cor ps i) (cor ps (i + 1)) (cor ps (i + 2)) < 0)
def convexOf (ps : List Pt) : Bool := convTo ps ps.length
set_option maxRecDepth 100000 in
set_option maxHeartbeats 4000000 in
theorem Convex_v (ps : List Pt) (A : Option Addr) (c : Nat) (r : Bool) (w : World) (hr : Rd w w.heap.size 2 A (ps.map encD)) (hl : ps.length ≤ 1000) (hok : ps.all Pt.ok = true) (h : convexOf ps = r) :
    Calls Try.prog 19 #[.slice A ps.length c] w (Ret w (.bool r)) := by
  have hm := hmix
  have HH := hide h
  have HOK := hide hok
  have HR := hide hr
  clear h hok hr
  go_enter Try.func19, Try.ntmps19
  go_wp2_with fail
  go_loopw [3] (fun i wr => ∃ k : Nat, k ≤ ps.length ∧ i = .int .i64 k ∧ Grew w wr ∧ AppG2 (convTo ps k = true)) (fun i _ => ps.length - (intOf i).toNat)
  case atStart => exact ⟨0, by omega, rfl, (by repeat (with_reducible first | exact Grew.refl _ | assumption | refine Grew.alloc ?_ _ | refine Grew.grow ?_ _ | refine Grew.dr ?_ _ | refine Grew.drewN ?_ _ | refine Grew.drew ?_ | refine Grew.trans ?_ (Hid.out (by assumption)))), rfl⟩
  case round =>
    obtain ⟨k, hk, rfl, hg, hall⟩ := hrel
    have HG := hide hg
    have HA := hide hall.stop
    clear hg hall
    by_cases hlt : k < ps.length
    · have hrr := HR.out.up HG.out
      have kn := hide (fun W (hg : Grew wr W) => Next_v ps A c k _ W (hrr.up hg) (by omega) hlt rfl)
      obtain ⟨j, hj⟩ : ∃ j, (k + 2) % ps.length = j := ⟨_, rfl⟩
      have hjl : j < ps.length := by rw [← hj]; exact Nat.mod_lt _ (by omega)
      have hp := cor_get hlt
      have hq := cor_mod (ps := ps) (k + 2) (by omega)
      rw [hj] at hq
      have ej : ((k : Int) + 2) % (ps.length : Int) = (j : Int) := by rw [← hj, show (k : Int) + 2 = ((k + 2 : Nat) : Int) by omega, Int.natCast_emod]
      have hnn : 0 ≤ (k : Int) + 2 := by omega
      rw [← Int.tmod_eq_emod_of_nonneg hnn] at ej
      have ew : IntKind.i64.wrap ((k : Int) + 2) = (k : Int) + 2 := by unfold IntKind.wrap; simp [IntKind.bits, IntKind.signed]; omega
      have hne : ¬ (ps.length : Int) = 0 := by omega
      have hne2 : ¬ ps = [] := by intro e; rw [e] at hlt; simp at hlt
      have o1 := cor_ok HOK.out k
      have o2 := cor_ok HOK.out (k + 1)
      have o3 := cor_ok HOK.out (k + 2)
      obtain ⟨t, ht⟩ : ∃ t, tn (cor ps k) (cor ps (k + 1)) (cor ps (k + 2)) = t := ⟨_, rfl⟩
      have kt := hide (fun W => rturn_v _ _ _ t W o1 o2 o3 ht)
      have hst : convTo ps (k + 1) = !decide (t < 0) := by
        have e := HA.out
        unfold convTo at e ⊢
        rw [List.range_succ, List.all_append, e, ← ht]
        simp
      obtain ⟨b, off, hA, hb, h0, h1⟩ := ptAt hrr hp
      obtain ⟨b', off', hA', hb', h2, h3⟩ := ptAt hrr hq
      obtain ⟨rfl, rfl⟩ : b = b' ∧ off = off' := by have := hA.out.symm.trans hA'.out; injection this with this; injection this with h1 h2; exact ⟨h1, h2⟩
      have hix := idx_run (cap := c) (k := k) (len := ps.length) Try.underlying22 Try.sizeOf28 hA.out hlt
      have hix2 := idx_run (cap := c) (k := j) (len := ps.length) Try.underlying22 Try.sizeOf28 hA.out hjl
      generalize cor ps k = qa at *
      generalize cor ps (k + 1) = qb at *
      generalize cor ps (k + 2) = qc at *
      obtain ⟨a1, a2⟩ := qa
      obtain ⟨b1, b2⟩ := qb
      obtain ⟨c1, c2⟩ := qc
      dsimp only at h0 h1 h2 h3
      have HST := hide hst
      clear hj hp hq o1 o2 o3 ht hst hA hA' hrr
      by_cases hneg : t < 0
      · go_wp2_with fail
        refine wp_region_qas 17 [] [] hm (by kernel_rfl) (by simp only [List.take, List.filter, isQ]; rfl) (by simp only [List.drop]; rfl) ZOk.nil (by simp) ?_
        repeat (refine wpSteady_step (fun K hK => ?_); go_simp; first | (refine hK _ ?_; clear hK K) | (apply Exists.intro; refine ⟨fun _ => ?_, hK _ ?_⟩; (first | (go_at_call 52; with_reducible exact kn.out _ (by repeat (with_reducible first | exact Grew.refl _ | assumption | refine Grew.alloc ?_ _ | refine Grew.grow ?_ _ | refine Grew.dr ?_ _ | refine Grew.drewN ?_ _ | refine Grew.drew ?_ | refine Grew.trans ?_ (Hid.out (by assumption))))) | (go_at_call 51; with_reducible exact kt.out _)); clear hK K))
        refine wpSteady_nil ?_
        refine ⟨StOk.nil, LyOk.nil, ?_⟩
        rintro psq qsq Wq HWq HFq HBq
        obtain rfl : qsq = [] := HBq
        obtain rfl : psq = [] := HFq
        obtain ⟨⟨nq, osq⟩, rfl⟩ := HWq
        simp only [putAll, putB, Act.put, List.setIfInBounds_toArray, List.set_cons_succ, List.set_cons_zero]
        try dsimp only
        go_wp2_with fail
        go_ret
        have : r = false := by
          rw [← HH.out]
          have e := HST.out
          unfold convexOf
          unfold convTo at e ⊢
          rw [decide_eq_true hneg] at e
          cases hc : (List.range ps.length).all fun i => !decide (tn (cor ps i) (cor ps (i + 1)) (cor ps (i + 2)) < 0)
          · rfl
          · exfalso
            have : ((List.range (k + 1)).all fun i => !decide (tn (cor ps i) (cor ps (i + 1)) (cor ps (i + 2)) < 0)) = true := by
              rw [List.all_eq_true] at hc ⊢
              exact fun x hx => hc x (List.mem_range.2 (by have := List.mem_range.1 hx; omega))
            rw [this] at e
            cases e
        subst this
        exact Ret.mk' rfl (HG.out.trans (by repeat (with_reducible first | exact Grew.refl _ | assumption | refine Grew.alloc ?_ _ | refine Grew.grow ?_ _ | refine Grew.dr ?_ _ | refine Grew.drewN ?_ _ | refine Grew.drew ?_ | refine Grew.trans ?_ (Hid.out (by assumption)))))
      · have hneg' : decide (t < 0) = false := by simpa using hneg
        go_wp2_with fail
        refine wp_region_qas 17 [] [] hm (by kernel_rfl) (by simp only [List.take, List.filter, isQ]; rfl) (by simp only [List.drop]; rfl) ZOk.nil (by simp) ?_
        repeat (refine wpSteady_step (fun K hK => ?_); go_simp; first | (refine hK _ ?_; clear hK K) | (apply Exists.intro; refine ⟨fun _ => ?_, hK _ ?_⟩; (first | (go_at_call 52; with_reducible exact kn.out _ (by repeat (with_reducible first | exact Grew.refl _ | assumption | refine Grew.alloc ?_ _ | refine Grew.grow ?_ _ | refine Grew.dr ?_ _ | refine Grew.drewN ?_ _ | refine Grew.drew ?_ | refine Grew.trans ?_ (Hid.out (by assumption))))) | (go_at_call 51; with_reducible exact kt.out _)); clear hK K))
        refine wpSteady_nil ?_
        refine ⟨StOk.nil, LyOk.nil, ?_⟩
        rintro psq qsq Wq HWq HFq HBq
        obtain rfl : qsq = [] := HBq
        obtain rfl : psq = [] := HFq
        obtain ⟨⟨nq, osq⟩, rfl⟩ := HWq
        simp only [putAll, putB, Act.put, List.setIfInBounds_toArray, List.set_cons_succ, List.set_cons_zero]
        try dsimp only
        go_wp2_with fail
        go_roundw
        case rel => exact ⟨k + 1, by omega, by go_num, HG.out.trans (by repeat (with_reducible first | exact Grew.refl _ | assumption | refine Grew.alloc ?_ _ | refine Grew.grow ?_ _ | refine Grew.dr ?_ _ | refine Grew.drewN ?_ _ | refine Grew.drew ?_ | refine Grew.trans ?_ (Hid.out (by assumption)))), by rw [HST.out, hneg']; rfl⟩
        case measure => simp [intOf]; omega
    · obtain rfl : k = ps.length := by omega
      obtain rfl : r = true := by rw [← HH.out]; exact HA.out
      go_wp2_with fail
      go_ret
      exact Ret.mk' rfl HG.out
end Go.Proofs.Ytdmlnmcaihodaaa
