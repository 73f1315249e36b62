/- A search for the least number with a property; the radius of a mooring. -/
import Derived.Test.YtpfpamopmncifaaGreatTsA
import Derived.Test.YtpfpamopmncifaaGreatIter
set_option linter.unusedSimpArgs false
set_option linter.unusedVariables false
set_option maxHeartbeats 4000000
set_option maxRecDepth 100000
namespace Go.Proofs.YtpfpamopmncifaaGreat
open Go.RowKit Go.Sort
attribute [local go_sem] Steady steadyUpon
attribute [local go_sem ↓] hs_dr lt_add_r lt_add_r2 lt_add_r3 lt_add_r4 lt_add_r5 lt_add_r6
attribute [local go_sem] cell?_gd frozen?_gd setCell_gd size_grow tape_grow cell?_grow' frozen?_grow' setCell_grow' grow_grow grow_dr grow_drew dr_dr dr_drew drew_dr dr_alloc dr_setCell dr_cell dr_frozen dr_tape dr_drawn
attribute [local irreducible] wpSteady
theorem radius1_v (n free : Int) (B : Nat) (r : Bool) (w : World) (hB : Boxed w B 3 (.int .i64 free)) (hn : 0 ≤ n ∧ n ≤ 100000) (h : decide (free ≤ 100 * (n * n)) = r) :
  Calls Tryz.prog 54 #[.int .i64 n, .pointer (some ⟨B, 0, none⟩)] w (Ret w (.bool r)) := by
 have hm := hmix
 subst h
 have e1 : -10000000000 ≤ n * n ∧ n * n ≤ 10000000000 := mul_bd 100000 100000 (by omega) (by omega)
 have e2 : 100 * n * n = 100 * (n * n) := Int.mul_assoc ..
 have c0 := hB.cell
 go_enter Tryz.func54, Tryz.ntmps54
 go_wp2
 go_ret
 exact Ret.mk' rfl gw
theorem search1_v (N free : Int) (B : Nat) (w : World) (hB : Boxed w B 3 (.int .i64 free)) (hN : 0 ≤ N ∧ N ≤ 100000) :
  Calls Tryz.prog 53 #[.int .i64 N, .func (.func 54) #[] #[.pointer (some ⟨B, 0, none⟩)]] w fun e w' => ∃ i : Int, e = .returned (.int .i64 i) ∧ 0 ≤ i ∧ i ≤ N ∧ (i = N ∨ free ≤ 100 * (i * i)) ∧ (i = 0 ∨ 100 * ((i - 1) * (i - 1)) < free) ∧ Grew w w' := by
 have hm := hmix
 have HB := hide hB
 clear hB
 go_enter Tryz.func53, Tryz.ntmps53
 go_wp2_with fail
 go_loopw [5, 6] (fun i j wr => ∃ a b : Int, i = .int .i64 a ∧ j = .int .i64 b ∧ 0 ≤ a ∧ a ≤ b ∧ b ≤ N ∧ Grew w wr ∧ AppG ((b = N ∨ free ≤ 100 * (b * b)) ∧ (a = 0 ∨ 100 * ((a - 1) * (a - 1)) < free))) (fun i j _ => (intOf j - intOf i).toNat)
 case atStart => exact ⟨0, N, rfl, rfl, by omega, by omega, by omega, gw, show _ ∧ _ from ⟨.inl rfl, .inl rfl⟩⟩
 case round =>
  obtain ⟨a, b, rfl, rfl, h0, hab, hbN, hg, hinv⟩ := hrel
  have HG := hide hg
  have HI := hide hinv.stop
  clear hg hinv
  by_cases hlt : a < b
  ·obtain ⟨m, hm2⟩ : ∃ m, (a + b) / 2 = m := ⟨_, rfl⟩
   obtain ⟨o, ho⟩ : ∃ o, decide (free ≤ 100 * (m * m)) = o := ⟨_, rfl⟩
   have k1 := hide (fun W (hg : Grew w W) => radius1_v m free B o W (bxd_grew HB.out hg) (by omega) ho)
   have HO := hide ho
   clear ho
   cases o
   ·go_wp2_with (go_at_call 54; with_reducible refine crv (k1.out _ (HG.out.trans gw)) fun _ _ => ?_; dsimp only)
    go_roundw
    case rel => exact ⟨m + 1, b, by go_num, rfl, by omega, by omega, hbN, HG.out.trans gw, show _ ∧ _ from ⟨HI.out.1, .inr (by have := HO.out; rw [decide_eq_false_iff_not] at this; rw [show m + 1 - 1 = m by omega]; omega)⟩⟩
    case measure => simp [intOf]; omega
   ·go_wp2_with (go_at_call 54; with_reducible refine crv (k1.out _ (HG.out.trans gw)) fun _ _ => ?_; dsimp only)
    go_roundw
    case rel => exact ⟨a, m, rfl, rfl, h0, by omega, by omega, HG.out.trans gw, show _ ∧ _ from ⟨.inr (by have := HO.out; rw [decide_eq_true_eq] at this; exact this), HI.out.2⟩⟩
    case measure => simp [intOf]; omega
  ·obtain rfl : a = b := by omega
   have HI2 := HI
   go_wp2_with fail
   go_ret
   exact ⟨a, rfl, h0, hbN, HI2.out.1, HI2.out.2, HG.out.trans gw⟩
end Go.Proofs.YtpfpamopmncifaaGreat
