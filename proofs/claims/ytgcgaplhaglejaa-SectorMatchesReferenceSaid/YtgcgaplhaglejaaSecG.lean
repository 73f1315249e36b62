/- Package sector: the shortest direction that is alike. -/
import Derived.Test.YtgcgaplhaglejaaSecC
namespace Go.Proofs.Ytgcgaplhaglejaa
set_option linter.unusedVariables false
set_option linter.unusedSimpArgs false
open Go.RowKit Go.Sort
attribute [local go_sem] Steady steadyUpon
attribute [local go_sem ↓] hs_dr lt_add_r lt_add_r2 lt_add_r3 lt_add_r4 lt_add_r5 lt_add_r6
attribute [local go_sem] cell?_gd frozen?_gd setCell_gd size_grow tape_grow cell?_grow' frozen?_grow' setCell_grow' grow_grow grow_dr grow_drew dr_dr dr_drew drew_dr dr_alloc dr_setCell dr_cell dr_frozen dr_tape dr_drawn

def shortOf (x y : Int) : Int × Int := (Int.tdiv x (Int.gcd x y), Int.tdiv y (Int.gcd x y))

theorem tdiv_bd {x : Int} {g : Nat} (h : -1000000 ≤ x ∧ x ≤ 1000000) : -1000000 ≤ Int.tdiv x g ∧ Int.tdiv x g ≤ 1000000 := by
  have h1 : (Int.tdiv x g).natAbs ≤ x.natAbs := by
    rw [Int.natAbs_tdiv]
    exact Nat.div_le_self _ _
  omega

set_option maxHeartbeats 1000000 in
theorem short_any (x y : Int) (w : World) (h : dirOk x y = true) :
    Calls Try.prog 41 #[pt x y] w (Ret w (pt (shortOf x y).1 (shortOf x y).2)) := by
  have hm := hmix
  have hg : 0 < Int.gcd x y := by
    simp [dirOk] at h
    rw [Int.gcd_pos_iff]
    exact h.1
  have hxy : (-1000000 ≤ x ∧ x ≤ 1000000) ∧ (-1000000 ≤ y ∧ y ≤ 1000000) := by simp [dirOk] at h; omega
  clear h
  unfold shortOf
  obtain ⟨g, hgd⟩ : ∃ g, x.gcd y = g := ⟨_, rfl⟩
  rw [hgd] at hg ⊢
  have HGD := hide hgd
  clear hgd
  have e1 : IntKind.i64.wrap (-x) = -x := by unfold IntKind.wrap; simp [IntKind.bits, IntKind.signed]; omega
  have e2 : IntKind.i64.wrap (-y) = -y := by unfold IntKind.wrap; simp [IntKind.bits, IntKind.signed]; omega
  go_enter Try.func41, Try.ntmps41
  go_wp2_with fail
  refine wp_region_qas 14 [] [] hm (by kernel_rfl) (by simp only [List.take, List.filter, isQ]; rfl) (by simp only [List.drop]; rfl) ZOk.nil (by simp) ?_
  repeat (refine wpSteady_step (fun K hK => ?_); go_simp; first | (refine hK _ ?_; clear hK K) | (apply Exists.intro; refine ⟨fun _ => ?_, hK _ ?_⟩; (fail); clear hK K))
  refine wpSteady_nil ?_
  refine ⟨StOk.nil, LyOk.nil, ?_⟩
  rintro psq qsq Wq HWq HFq HBq
  obtain rfl : qsq = [] := HBq
  obtain rfl : psq = [] := HFq
  obtain ⟨⟨nq, osq⟩, rfl⟩ := HWq
  simp only [putAll, putB, Act.put, List.setIfInBounds_toArray, List.set_cons_succ, List.set_cons_zero]
  try dsimp only
  go_wp2_with fail
  all_goals (go_loopw [3, 4] (fun a b wr => ∃ p q : Nat, a = .int .i64 p ∧ b = .int .i64 q ∧ Nat.gcd p q = g ∧ p ≤ 1000000 ∧ q ≤ 1000000 ∧ Grew ((w.alloc (.cells #[.int .i64 x, .int .i64 y] 55)).alloc (.cells #[.int .i64 0, .int .i64 0] 55)) wr) (fun _ b _ => (intOf b).toNat))
  all_goals try
    case atStart =>
      refine ⟨x.natAbs, y.natAbs, ret_int (by omega), ret_int (by omega), HGD.out, by omega, by omega, (by repeat (with_reducible first | exact Grew.refl _ | assumption | refine Grew.alloc ?_ _ | refine Grew.grow ?_ _ | refine Grew.dr ?_ _ | refine Grew.drewN ?_ _ | refine Grew.drew ?_ | refine Grew.trans ?_ (Hid.out (by assumption))))⟩
  all_goals
    case round =>
      obtain ⟨p, q, rfl, rfl, hpq, hp, hq, ⟨⟨n, os⟩, rfl⟩⟩ := hrel
      by_cases h0 : q = 0
      · subst h0
        obtain rfl : p = g := by simpa using hpq
        have hb1 := tdiv_bd (g := p) hxy.1
        have hb2 := tdiv_bd (g := p) hxy.2
        have hne : ¬ ((p : Nat) : Int) = 0 := by omega
        have hne' : ¬ p = 0 := by omega
        clear hpq
        have w1 : IntKind.i64.wrap (Int.tdiv x p) = Int.tdiv x p := by unfold IntKind.wrap; simp [IntKind.bits, IntKind.signed]; omega
        have w2 : IntKind.i64.wrap (Int.tdiv y p) = Int.tdiv y p := by unfold IntKind.wrap; simp [IntKind.bits, IntKind.signed]; omega
        go_wp2_with fail
        refine wp_region_qas 9 [] [] hm (by kernel_rfl) (by simp only [List.take, List.filter, isQ]; rfl) (by simp only [List.drop]; rfl) ZOk.nil (by simp) ?_
        repeat (refine wpSteady_step (fun K hK => ?_); go_simp; first | (refine hK _ ?_; clear hK K) | (apply Exists.intro; refine ⟨fun _ => ?_, hK _ ?_⟩; (fail); clear hK K))
        refine wpSteady_nil ?_
        refine ⟨StOk.nil, LyOk.nil, ?_⟩
        rintro psq qsq Wq HWq HFq HBq
        obtain rfl : qsq = [] := HBq
        obtain rfl : psq = [] := HFq
        obtain ⟨⟨nq, osq⟩, rfl⟩ := HWq
        simp only [putAll, putB, Act.put, List.setIfInBounds_toArray, List.set_cons_succ, List.set_cons_zero]
        try dsimp only
        go_wp2
        refine bodyPost_ret (v := pt (Int.tdiv x p) (Int.tdiv y p)) (by simp [results, Try.results41, go_sem]) rfl ?_
        exact Ret.mk' rfl (by repeat (with_reducible first | exact Grew.refl _ | assumption | refine Grew.alloc ?_ _ | refine Grew.grow ?_ _ | refine Grew.dr ?_ _ | refine Grew.drewN ?_ _ | refine Grew.drew ?_ | refine Grew.trans ?_ (Hid.out (by assumption))))
      · have HPQ := hide hpq
        clear hpq
        have hne : ¬ (q : Int) = 0 := by omega
        have e3 : Int.tmod (p : Int) (q : Int) = ((p % q : Nat) : Int) := rfl
        have hlt : p % q < q := Nat.mod_lt _ (by omega)
        go_wp2_with fail
        refine wp_region_qas 6 [] [] hm (by kernel_rfl) (by simp only [List.take, List.filter, isQ]; rfl) (by simp only [List.drop]; rfl) ZOk.nil (by simp) ?_
        repeat (refine wpSteady_step (fun K hK => ?_); go_simp; first | (refine hK _ ?_; clear hK K) | (apply Exists.intro; refine ⟨fun _ => ?_, hK _ ?_⟩; (fail); clear hK K))
        refine wpSteady_nil ?_
        refine ⟨StOk.nil, LyOk.nil, ?_⟩
        rintro psq qsq Wq HWq HFq HBq
        obtain rfl : qsq = [] := HBq
        obtain rfl : psq = [] := HFq
        obtain ⟨⟨nq, osq⟩, rfl⟩ := HWq
        simp only [putAll, putB, Act.put, List.setIfInBounds_toArray, List.set_cons_succ, List.set_cons_zero]
        try dsimp only
        go_wp2_with fail
        go_roundw
        case rel => exact ⟨q, p % q, rfl, rfl, by rw [← HPQ.out, Nat.gcd_comm q, Nat.gcd_comm p]; exact (Nat.gcd_rec q p).symm, by omega, by omega, (by repeat (with_reducible first | exact Grew.refl _ | assumption | refine Grew.alloc ?_ _ | refine Grew.grow ?_ _ | refine Grew.dr ?_ _ | refine Grew.drewN ?_ _ | refine Grew.drew ?_ | refine Grew.trans ?_ (Hid.out (by assumption))))⟩
        case measure =>
          show ((p : Int) % (q : Int)).toNat < ((q : Int)).toNat
          rw [← Int.natCast_emod]
          omega
end Go.Proofs.Ytgcgaplhaglejaa
