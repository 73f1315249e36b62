/- The reference implementation's turn and Next. -/
import Derived.Test.YtndkfpmklmcjjaaGreatPoa
set_option linter.unusedSimpArgs false
set_option linter.unusedVariables false
set_option maxHeartbeats 1600000
set_option maxRecDepth 100000
namespace Go.Proofs.YtndkfpmklmcjjaaGreat
open Go.RowKit Go.Sort
attribute [local go_sem] Steady steadyUpon
attribute [local go_sem ↓] hs_dr lt_add_r lt_add_r2 lt_add_r3 lt_add_r4 lt_add_r5 lt_add_r6
attribute [local go_sem] cell?_gd frozen?_gd setCell_gd size_grow tape_grow cell?_grow' frozen?_grow' setCell_grow' grow_grow grow_dr grow_drew dr_dr dr_drew drew_dr dr_alloc dr_setCell dr_cell dr_frozen dr_tape dr_drawn
attribute [local irreducible] wpSteady
theorem rMinus_any (a b c d : Int) (w : World) (ha : -4000000 ≤ a ∧ a ≤ 4000000) (hb : -4000000 ≤ b ∧ b ≤ 4000000) (hc : -4000000 ≤ c ∧ c ≤ 4000000) (hd : -4000000 ≤ d ∧ d ≤ 4000000) :
  Calls Tryz.prog 72 #[pt a b, pt c d] w (Ret w (pt (a - c) (b - d))) := by
 go_enter Tryz.func72, Tryz.ntmps72
 go_wp2
 refine bodyPost_ret (v := pt (a - c) (b - d)) (by simp [results, Tryz.results72, go_sem]) rfl ?_
 exact Ret.mk' rfl gw
theorem rMinus_v (a b : Pt) (w : World) (ha : a.ok = true) (hb : b.ok = true) : Calls Tryz.prog 72 #[pt b.1 b.2, pt a.1 a.2] w (Ret w (pt (b.1 - a.1) (b.2 - a.2))) := by
 have a' := ok_bd ha
 have b' := ok_bd hb
 exact rMinus_any _ _ _ _ w (by omega) (by omega) (by omega) (by omega)
theorem rCross_any (a b c d : Int) (w : World) (ha : -4000000 ≤ a ∧ a ≤ 4000000) (hb : -4000000 ≤ b ∧ b ≤ 4000000) (hc : -4000000 ≤ c ∧ c ≤ 4000000) (hd : -4000000 ≤ d ∧ d ≤ 4000000) :
  Calls Tryz.prog 71 #[pt a b, pt c d] w (Ret w (.int .i64 (a * d - b * c))) := by
 have h1 : -16000000000000 ≤ a * d ∧ a * d ≤ 16000000000000 := mul_bd 4000000 4000000 ha hd
 have h2 : -16000000000000 ≤ b * c ∧ b * c ≤ 16000000000000 := mul_bd 4000000 4000000 hb hc
 go_enter Tryz.func71, Tryz.ntmps71
 go_wp2
 go_ret
 exact Ret.mk' rfl gw
theorem rSign_any (n : Int) (w : World) : Calls Tryz.prog 70 #[.int .i64 n] w (Ret w (.int .i64 (sg n))) := by
 rcases sg_cases n with ⟨h, e⟩ | ⟨h, e⟩ | ⟨h, e⟩
 ·have h1 : ¬ 0 < n := by omega
  rw [e]
  clear e
  go_enter Tryz.func70, Tryz.ntmps70
  go_wp2
  go_ret
  exact Ret.mk' rfl gw
 ·subst h
  rw [e]
  clear e
  go_enter Tryz.func70, Tryz.ntmps70
  go_wp2
  go_ret
  exact Ret.mk' rfl gw
 ·rw [e]
  clear e
  go_enter Tryz.func70, Tryz.ntmps70
  go_wp2
  go_ret
  exact Ret.mk' rfl gw
theorem rturn_v (a b c : Pt) (t : Int) (w : World) (ha : a.ok = true) (hb : b.ok = true) (hc : c.ok = true) (ht : tn a b c = t) :
  Calls Tryz.prog 35 #[pt a.1 a.2, pt b.1 b.2, pt c.1 c.2] w (Ret w (.int .i64 t)) := by
 have hm := hmix
 have k1 := hide (fun W => rMinus_v a b W ha hb)
 have k2 := hide (fun W => rMinus_v a c W ha hc)
 obtain ⟨a1, a2⟩ := a
 obtain ⟨b1, b2⟩ := b
 obtain ⟨c1, c2⟩ := c
 have a' := pl_bd ha
 have b' := pl_bd hb
 have c' := pl_bd hc
 have k3 : Hid (∀ W, Calls Tryz.prog 71 #[pt (b1 - a1) (b2 - a2), pt (c1 - a1) (c2 - a2)] W (Ret W (.int .i64 (cr (a1, a2) (b1, b2) (c1, c2))))) := hide (fun W => rCross_any _ _ _ _ W (by omega) (by omega) (by omega) (by omega))
 have k4 : Hid (∀ W, Calls Tryz.prog 70 #[.int .i64 (cr (a1, a2) (b1, b2) (c1, c2))] W (Ret W (.int .i64 t))) := hide (fun W => by
  have := rSign_any (cr (a1, a2) (b1, b2) (c1, c2)) W
  rw [← ht]
  exact this)
 clear ht ha hb hc
 dsimp only at k1 k2 ⊢
 go_enter Tryz.func35, Tryz.ntmps35
 go_wp2_with fail
 refine wp_region_qas 9 [] [] hm (h := ?_)
 repeat (refine wpSteady_step (fun K hK => ?_); go_simp; first | (refine hK _ ?_; clear hK K) | (apply Exists.intro; refine ⟨fun _ => ?_, hK _ ?_⟩; (first | (go_at_call 72; first | with_reducible exact k1.out _ | with_reducible exact k2.out _) | (go_at_call 71; with_reducible exact k3.out _) | (go_at_call 70; with_reducible exact k4.out _)); clear hK K))
 refine rq0 fun nq osq => ?_
 try simp only [Act.put, setA]
 try dsimp only
 go_wp2
 go_ret
 exact Ret.mk' rfl gw
theorem Next_v (ps : List Pt) (A : Option Addr) (c k : Nat) (p : Pt) (w : World) (hr : Rd w w.heap.size 2 A (ps.map encD)) (hl : ps.length ≤ 1000000) (hk : k < ps.length) (hp : cor ps (k + 1) = p) :
  Calls Tryz.prog 36 #[.slice A ps.length c, .int .i64 k] w (Ret w (pt p.1 p.2)) := by
 have hmx := hmix
 obtain ⟨j, hj⟩ : ∃ j, (k + 1) % ps.length = j := ⟨_, rfl⟩
 have hjl : j < ps.length := by rw [← hj]; exact Nat.mod_lt _ (by omega)
 have hq := cor_mod (ps := ps) (k + 1) (by omega)
 rw [hj, hp] at hq
 obtain ⟨b, off, hA, hb, h0, h1⟩ := ptAt hr hq
 have ej : ((k : Int) + 1) % (ps.length : Int) = (j : Int) := by rw [← hj, show (k : Int) + 1 = ((k + 1 : Nat) : Int) by omega, Int.natCast_emod]
 have hix := idx_run (cap := c) Tryz.underlying22 Tryz.sizeOf24 hA.out hjl
 have hne : ¬ (ps.length : Int) = 0 := by omega
 have hne2 : ¬ ps = [] := by intro e; rw [e] at hjl; simp at hjl
 have hnn : 0 ≤ (k : Int) + 1 := by omega
 have ew : IntKind.i64.wrap ((k : Int) + 1) = (k : Int) + 1 := by unfold IntKind.wrap; simp [IntKind.bits, IntKind.signed]; omega
 have ej' := ej
 rw [← Int.tmod_eq_emod_of_nonneg hnn] at ej'
 obtain ⟨p1, p2⟩ := p
 dsimp only at h0 h1
 clear hj hp hq hr hA
 go_enter Tryz.func36, Tryz.ntmps36
 go_wp2_with fail
 refine bodyPost_ret (v := pt p1 p2) (by simp [results, Tryz.results36, go_sem]) rfl ?_
 exact Ret.mk' rfl gw
end Go.Proofs.YtndkfpmklmcjjaaGreat
