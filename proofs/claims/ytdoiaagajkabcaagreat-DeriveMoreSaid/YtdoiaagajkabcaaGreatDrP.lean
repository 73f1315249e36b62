/- The law DeriveProvable, walked. -/
import Derived.Test.YtdoiaagajkabcaaGreatDrA
import Derived.Test.YtdoiaagajkabcaaGreatDrY
set_option linter.unusedSimpArgs false
set_option linter.unusedVariables false
set_option maxHeartbeats 8000000
set_option maxRecDepth 100000
namespace Go.Proofs.YtdoiaagajkabcaaGreat
open Go.RowKit Go.Sort
attribute [local go_sem] Steady steadyUpon
attribute [local go_sem ↓] hs_dr lt_add_r lt_add_r2 lt_add_r3 lt_add_r4 lt_add_r5 lt_add_r6
attribute [local go_sem] cell?_gd frozen?_gd setCell_gd size_grow tape_grow cell?_grow' frozen?_grow' setCell_grow' grow_grow grow_dr grow_drew dr_dr dr_drew drew_dr dr_alloc dr_setCell dr_cell dr_frozen dr_tape dr_drawn
attribute [local irreducible] wpSteady
theorem few_v (A B C : Option Addr) (a b c d e f : Nat) (r : Bool) (w : World) (h : decide (a ≤ 12 ∧ b ≤ 12 ∧ e ≤ 12) = r) : Calls Tryz.prog 12 #[.slice A a c, .slice B b d, .slice C e f] w (Ret w (.bool r)) := by
 have hcase : (a ≤ 12 ∧ b ≤ 12 ∧ e ≤ 12 ∧ r = true) ∨ (¬ a ≤ 12 ∧ r = false) ∨ (a ≤ 12 ∧ ¬ b ≤ 12 ∧ r = false) ∨ (a ≤ 12 ∧ b ≤ 12 ∧ ¬ e ≤ 12 ∧ r = false) := by
  by_cases h1 : a ≤ 12 <;> by_cases h2 : b ≤ 12 <;> by_cases h3 : e ≤ 12 <;> simp [h1, h2, h3] at h ⊢ <;> (first | exact h | exact h.symm)
 clear h
 rcases hcase with ⟨h1, h2, h3, rfl⟩ | ⟨h1, rfl⟩ | ⟨h1, h2, rfl⟩ | ⟨h1, h2, h3, rfl⟩
 ·have g1 : (a : Int) ≤ 12 := by omega
  have g2 : (b : Int) ≤ 12 := by omega
  have g3 : (e : Int) ≤ 12 := by omega
  clear h1 h2 h3
  go_enter Tryz.func12, Tryz.ntmps12
  go_wp2_with fail
  go_ret
  exact Ret.mk' rfl gw
 ·have g1 : ¬ (a : Int) ≤ 12 := by omega
  clear h1
  go_enter Tryz.func12, Tryz.ntmps12
  go_wp2_with fail
  go_ret
  exact Ret.mk' rfl gw
 ·have g1 : (a : Int) ≤ 12 := by omega
  have g2 : ¬ (b : Int) ≤ 12 := by omega
  clear h1 h2
  go_enter Tryz.func12, Tryz.ntmps12
  go_wp2_with fail
  go_ret
  exact Ret.mk' rfl gw
 ·have g1 : (a : Int) ≤ 12 := by omega
  have g2 : (b : Int) ≤ 12 := by omega
  have g3 : ¬ (e : Int) ≤ 12 := by omega
  clear h1 h2 h3
  go_enter Tryz.func12, Tryz.ntmps12
  go_wp2_with fail
  go_ret
  exact Ret.mk' rfl gw
theorem deriveProvable_row (fs : List FV) (A : Option Addr) (c : Nat) (gs : List FV) (A' : Option Addr) (c' : Nat) (lim : Int) (ps : List Pt) (Ap : Option Addr) (cp : Nat) (w : World) (hr : FRd w w.heap.size A fs) (hc : fs.length ≤ 100000000000000) (hr' : FRd w w.heap.size A' gs) (hc' : gs.length ≤ 100000000000000) (hrp : Rd w w.heap.size 2 Ap (ps.map encD)) (hcp : ps.length ≤ 100000000000000) :
  Calls Tryz.prog 6 #[.slice A fs.length c, .slice A' gs.length c', .int .i64 lim, .slice Ap ps.length cp] w (Ret w (.bool true)) := by
 have hm := hmix
 obtain ⟨fw, hfw⟩ : ∃ r, decide (fs.length ≤ 12 ∧ gs.length ≤ 12 ∧ 0 ≤ 12) = r := ⟨_, rfl⟩
 have kf := hide (fun W => few_v A A' none fs.length gs.length c c' 0 0 fw W hfw)
 cases fw
 ·clear hr hr' hrp
  go_enter Tryz.func6, Tryz.ntmps6
  go_wp2_with (first | (go_at_call 11; with_reducible refine crv (head_v _) fun _ _ => ?_; dsimp only) | (go_at_call 12; with_reducible refine crv (kf.out _) fun _ _ => ?_; dsimp only))
  go_ret
  exact Ret.mk' rfl gw
 ·simp at hfw
  obtain ⟨⟨l, e⟩, h1⟩ : ∃ d, unprovedOf fs gs lim = d := ⟨_, rfl⟩
  obtain ⟨⟨own, f⟩, h2⟩ : ∃ d, proveOf fs gs lim = d := ⟨_, rfl⟩
  obtain ⟨⟨x, g⟩, h3⟩ : ∃ d, checkOf fs gs lim ps = d := ⟨_, rfl⟩
  obtain ⟨⟨y, h⟩, h4⟩ : ∃ d, checkOf fs gs lim own = d := ⟨_, rfl⟩
  have hcase := prov_facts h1 h2 h3 h4
  have k1 := hide (fun W (hg : Grew w W) => Unproved_v fs gs A A' c c' lim W (hr.up hg) (hr'.up hg) (by omega) (by omega))
  have k2 := hide (fun W (hg : Grew w W) => Prove_v fs gs A A' c c' lim W (hr.up hg) (hr'.up hg) (by omega) (by omega))
  have k3 := hide (fun W (hg : Grew w W) => Check_v fs gs ps A A' Ap c c' cp lim W (hr.up hg) (hr'.up hg) (hrp.up hg) hc hc' hcp)
  have hown : own.length ≤ 300 := by
   unfold proveOf at h2
   split at h2
   ·rename_i ha
    have := list_len (asked_split ha).1
    split at h2
    ·injection h2 with h2 _
     rw [← h2]
     unfold prvS
     rw [List.length_map]
     exact Nat.le_trans (countsTo_len _ _ _) this
    ·injection h2 with h2 _
     rw [← h2]; simp
   ·injection h2 with h2 _
    rw [← h2]; simp
  have k4 : Hid (∀ W A'' c'', Grew w W → Rd W W.heap.size 2 A'' (own.map encD) → Calls Tryz.prog 17 #[.slice A fs.length c, .slice A' gs.length c', .int .i64 lim, .slice A'' own.length c''] W (Ret W (.tuple #[.bool (checkOf fs gs lim own).1, .int .i64 (checkOf fs gs lim own).2]))) := hide (fun W A'' c'' hg hro => Check_v fs gs own A A' A'' c c' c'' lim W (hr.up hg) (hr'.up hg) hro hc hc' (by omega))
  rw [h1] at k1
  rw [h2] at k2
  rw [h3] at k3
  rw [h4] at k4
  dsimp only at k1 k2 k3 k4
  clear hr hr' hrp h1 h2 h3 h4 hown
  go_enter Tryz.func6, Tryz.ntmps6
  go_wp2_with (first | (go_at_call 11; with_reducible refine crv (head_v _) fun _ _ => ?_; dsimp only) | (go_at_call 12; with_reducible refine crv (kf.out _) fun _ _ => ?_; dsimp only))
  refine (k1.out _ gw).mono ?_
  rintro e W1 ⟨A1, c1, rfl, _, hg⟩
  have HG1 : Hid (Grew w W1) := hide (Grew.trans gw hg)
  clear hg k1
  dsimp only
  go_wp2_with fail
  refine (k2.out _ (HG1.out.trans gw)).mono ?_
  rintro e W2 ⟨A2, c2, rfl, hrd, hg⟩
  have HG2 : Hid (Grew w W2) := hide (HG1.out.trans (Grew.trans gw hg))
  have HO := hide hrd
  clear hg k2 hrd HG1
  dsimp only
  go_wp2_with fail
  refine (k3.out _ (HG2.out.trans gw)).mono ?_
  rintro e W3 ⟨rfl, hg⟩
  have HG23 : Hid (Grew W2 W3) := hide (Grew.trans gw hg)
  have HG3 : Hid (Grew w W3) := hide (HG2.out.trans HG23.out)
  clear hg k3
  dsimp only
  rcases hcase with ⟨rfl, rfl, rfl, rfl, rfl⟩ | ⟨rfl, hl, rfl, rfl, rfl⟩ | ⟨rfl, rfl, rfl, rfl, rfl, rfl⟩
  ·go_wp2_with fail
   go_ret
   exact Ret.mk' rfl (HG3.out.trans gw)
  ·have hl1 : (0 : Int) < (l.length : Int) := by omega
   go_wp2_with fail
   go_ret
   exact Ret.mk' rfl (HG3.out.trans gw)
  ·go_wp2_with fail
   refine (k4.out _ _ _ (HG3.out.trans gw) (HO.out.up (HG23.out.trans gw))).mono ?_
   rintro e W4 ⟨rfl, hg⟩
   have HG4 : Hid (Grew w W4) := hide (HG3.out.trans (Grew.trans gw hg))
   clear hg k4
   dsimp only
   go_wp2_with fail
   go_ret
   exact Ret.mk' rfl (HG4.out.trans gw)
end Go.Proofs.YtdoiaagajkabcaaGreat
