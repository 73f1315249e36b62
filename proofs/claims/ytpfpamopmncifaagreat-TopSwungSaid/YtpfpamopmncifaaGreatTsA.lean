/- Packages span and mooring: spans, moorings, how far a buoy can be; a search. -/
import Derived.Test.YtpfpamopmncifaaGreatPla
set_option linter.unusedSimpArgs false
set_option linter.unusedVariables false
set_option maxHeartbeats 800000
namespace Go.Proofs.YtpfpamopmncifaaGreat
open Go.RowKit Go.Sort
attribute [local go_sem] Steady steadyUpon
attribute [local go_sem ↓] hs_dr lt_add_r lt_add_r2 lt_add_r3 lt_add_r4 lt_add_r5 lt_add_r6
attribute [local go_sem] cell?_gd frozen?_gd setCell_gd size_grow tape_grow cell?_grow' frozen?_grow' setCell_grow' grow_grow grow_dr grow_drew dr_dr dr_drew drew_dr dr_alloc dr_setCell dr_cell dr_frozen dr_tape dr_drawn
attribute [local irreducible] wpSteady
abbrev spv (lo hi : Int) : Value := .agg #[.int .i64 lo, .int .i64 hi]
abbrev mov (x y lo hi ch : Int) : Value := .agg #[.int .i64 x, .int .i64 y, .int .i64 lo, .int .i64 hi, .int .i64 ch]
abbrev afv (x y lo hi ch a b : Int) : Value := .agg #[.int .i64 x, .int .i64 y, .int .i64 lo, .int .i64 hi, .int .i64 ch, .int .i64 a, .int .i64 b]
def spOk (lo hi : Int) : Bool := decide (-1000000000000 ≤ lo ∧ lo ≤ hi ∧ hi ≤ 1000000000000)
def inB (lo hi a b : Int) : Bool := spOk lo hi && decide (a ≤ lo ∧ hi ≤ b)
theorem spanValid_v (lo hi : Int) (r : Bool) (w : World) (h : spOk lo hi = r) : Calls Tryz.prog 38 #[spv lo hi] w (Ret w (.bool r)) := by
 subst h
 have hcase : lo < -1000000000000 ∨ (-1000000000000 ≤ lo ∧ hi < lo) ∨ (-1000000000000 ≤ lo ∧ lo ≤ hi ∧ 1000000000000 < hi) ∨ (-1000000000000 ≤ lo ∧ lo ≤ hi ∧ hi ≤ 1000000000000) := by omega
 rcases hcase with h1 | ⟨h1, h2⟩ | ⟨h1, h2, h3⟩ | ⟨h1, h2, h3⟩
 ·have n1 : ¬ -1000000000000 ≤ lo := by omega
  go_enter Tryz.func38, Tryz.ntmps38
  go_wp2_with fail
  go_ret
  exact Ret.mk' (ret_bool (by simp [spOk]; omega)) gw
 ·have n1 : ¬ lo ≤ hi := by omega
  go_enter Tryz.func38, Tryz.ntmps38
  go_wp2_with fail
  go_ret
  exact Ret.mk' (ret_bool (by simp [spOk]; omega)) gw
 ·have n1 : ¬ hi ≤ 1000000000000 := by omega
  go_enter Tryz.func38, Tryz.ntmps38
  go_wp2_with fail
  go_ret
  exact Ret.mk' (ret_bool (by simp [spOk]; omega)) gw
 ·go_enter Tryz.func38, Tryz.ntmps38
  go_wp2_with fail
  go_ret
  exact Ret.mk' (ret_bool (by simp [spOk, h1, h2, h3])) gw
theorem within_v (lo hi a b : Int) (r : Bool) (w : World) (h : inB lo hi a b = r) : Calls Tryz.prog 41 #[spv lo hi, .int .i64 a, .int .i64 b] w (Ret w (.bool r)) := by
 obtain ⟨s, hs⟩ : ∃ s, spOk lo hi = s := ⟨_, rfl⟩
 have ks := hide (fun W => spanValid_v lo hi s W hs)
 unfold inB at h
 rw [hs] at h
 subst h
 clear hs
 have hcase : s = false ∨ (s = true ∧ lo < a) ∨ (s = true ∧ a ≤ lo ∧ b < hi) ∨ (s = true ∧ a ≤ lo ∧ hi ≤ b) := by cases s <;> simp <;> omega
 rcases hcase with rfl | ⟨rfl, h1⟩ | ⟨rfl, h1, h2⟩ | ⟨rfl, h1, h2⟩
 ·go_enter Tryz.func41, Tryz.ntmps41
  go_wp2_with (go_at_call 38; with_reducible refine crv (ks.out _) fun _ _ => ?_; dsimp only)
  go_ret
  exact Ret.mk' rfl gw
 ·have n1 : ¬ a ≤ lo := by omega
  go_enter Tryz.func41, Tryz.ntmps41
  go_wp2_with (go_at_call 38; with_reducible refine crv (ks.out _) fun _ _ => ?_; dsimp only)
  go_ret
  exact Ret.mk' (ret_bool (by simp; omega)) gw
 ·have n1 : ¬ hi ≤ b := by omega
  go_enter Tryz.func41, Tryz.ntmps41
  go_wp2_with (go_at_call 38; with_reducible refine crv (ks.out _) fun _ _ => ?_; dsimp only)
  go_ret
  exact Ret.mk' (ret_bool (by simp; omega)) gw
 ·go_enter Tryz.func41, Tryz.ntmps41
  go_wp2_with (go_at_call 38; with_reducible refine crv (ks.out _) fun _ _ => ?_; dsimp only)
  go_ret
  exact Ret.mk' (ret_bool (by simp [h1, h2])) gw
theorem isHeights_v (lo hi : Int) (r : Bool) (w : World) (h : inB lo hi (-100000) 100000 = r) : Calls Tryz.prog 20 #[spv lo hi] w (Ret w (.bool r)) := by
 have ks := hide (fun W => within_v lo hi _ _ r W h)
 clear h
 go_enter Tryz.func20, Tryz.ntmps20
 go_wp2_with (go_at_call 41; with_reducible refine crv (ks.out _) fun _ _ => ?_; dsimp only)
 go_ret
 exact Ret.mk' rfl gw
theorem isDepths_v (lo hi : Int) (r : Bool) (w : World) (h : inB lo hi 0 100000 = r) : Calls Tryz.prog 40 #[spv lo hi] w (Ret w (.bool r)) := by
 have ks := hide (fun W => within_v lo hi _ _ r W h)
 clear h
 go_enter Tryz.func40, Tryz.ntmps40
 go_wp2_with (go_at_call 41; with_reducible refine crv (ks.out _) fun _ _ => ?_; dsimp only)
 go_ret
 exact Ret.mk' rfl gw
def mOk (x y lo hi ch : Int) : Bool := plOk x y && (inB lo hi 0 100000 && decide (0 ≤ ch ∧ ch ≤ 1000000))
theorem mValid_v (x y lo hi ch : Int) (r : Bool) (w : World) (h : mOk x y lo hi ch = r) : Calls Tryz.prog 19 #[mov x y lo hi ch] w (Ret w (.bool r)) := by
 obtain ⟨s, hs⟩ : ∃ s, plOk x y = s := ⟨_, rfl⟩
 obtain ⟨t, ht⟩ : ∃ s, inB lo hi 0 100000 = s := ⟨_, rfl⟩
 have ks := hide (fun W => planeValid_v x y s W hs)
 have kt := hide (fun W => isDepths_v lo hi t W ht)
 unfold mOk at h
 rw [hs, ht] at h
 subst h
 clear hs ht
 have hcase : s = false ∨ (s = true ∧ t = false) ∨ (s = true ∧ t = true ∧ ch < 0) ∨ (s = true ∧ t = true ∧ 0 ≤ ch ∧ 1000000 < ch) ∨ (s = true ∧ t = true ∧ 0 ≤ ch ∧ ch ≤ 1000000) := by cases s <;> cases t <;> simp <;> omega
 rcases hcase with rfl | ⟨rfl, rfl⟩ | ⟨rfl, rfl, h1⟩ | ⟨rfl, rfl, h1, h2⟩ | ⟨rfl, rfl, h1, h2⟩
 ·go_enter Tryz.func19, Tryz.ntmps19
  go_wp2_with (first | (go_at_call 21; with_reducible refine crv (ks.out _) fun _ _ => ?_; dsimp only) | (go_at_call 40; with_reducible refine crv (kt.out _) fun _ _ => ?_; dsimp only))
  go_ret
  exact Ret.mk' rfl gw
 ·go_enter Tryz.func19, Tryz.ntmps19
  go_wp2_with (first | (go_at_call 21; with_reducible refine crv (ks.out _) fun _ _ => ?_; dsimp only) | (go_at_call 40; with_reducible refine crv (kt.out _) fun _ _ => ?_; dsimp only))
  go_ret
  exact Ret.mk' rfl gw
 ·have n1 : ¬ 0 ≤ ch := by omega
  go_enter Tryz.func19, Tryz.ntmps19
  go_wp2_with (first | (go_at_call 21; with_reducible refine crv (ks.out _) fun _ _ => ?_; dsimp only) | (go_at_call 40; with_reducible refine crv (kt.out _) fun _ _ => ?_; dsimp only))
  go_ret
  exact Ret.mk' (ret_bool (by simp; omega)) gw
 ·have n1 : ¬ ch ≤ 1000000 := by omega
  go_enter Tryz.func19, Tryz.ntmps19
  go_wp2_with (first | (go_at_call 21; with_reducible refine crv (ks.out _) fun _ _ => ?_; dsimp only) | (go_at_call 40; with_reducible refine crv (kt.out _) fun _ _ => ?_; dsimp only))
  go_ret
  exact Ret.mk' (ret_bool (by simp; omega)) gw
 ·go_enter Tryz.func19, Tryz.ntmps19
  go_wp2_with (first | (go_at_call 21; with_reducible refine crv (ks.out _) fun _ _ => ?_; dsimp only) | (go_at_call 40; with_reducible refine crv (kt.out _) fun _ _ => ?_; dsimp only))
  go_ret
  exact Ret.mk' (ret_bool (by simp [h1, h2])) gw
def wat (d t : Int) : Int := max 0 (d + t)
theorem in_v (x y lo hi ch a b : Int) (w : World) (h1 : -200000 ≤ lo + a ∧ lo + a ≤ 200000) (h2 : -200000 ≤ hi + b ∧ hi + b ≤ 200000) :
  Calls Tryz.prog 22 #[mov x y lo hi ch, spv a b] w (Ret w (afv x y lo hi ch (wat lo a) (wat hi b))) := by
 have hm := hmix
 go_enter Tryz.func22, Tryz.ntmps22
 go_wp2_with fail
 all_goals refine bodyPost_ret (v := afv x y lo hi ch (wat lo a) (wat hi b)) (by simp [results, Tryz.results22, go_sem, wat] <;> omega) rfl ?_
 all_goals exact Ret.mk' rfl gw
def hasM (ch a x y : Int) : Bool := decide (100 * (x * x + y * y) + a * a ≤ ch * ch)
theorem has_v (x y lo hi ch a b p q : Int) (r : Bool) (w : World) (hp : -2000000 ≤ p ∧ p ≤ 2000000) (hq : -2000000 ≤ q ∧ q ≤ 2000000) (ha : -1000000 ≤ a ∧ a ≤ 1000000) (hc : -1000000 ≤ ch ∧ ch ≤ 1000000) (h : hasM ch a p q = r) :
  Calls Tryz.prog 23 #[afv x y lo hi ch a b, .int .i64 p, .int .i64 q] w (Ret w (.bool r)) := by
 have hm := hmix
 subst h
 have e1 : -4000000000000 ≤ p * p ∧ p * p ≤ 4000000000000 := mul_bd 2000000 2000000 hp hp
 have e2 : -4000000000000 ≤ q * q ∧ q * q ≤ 4000000000000 := mul_bd 2000000 2000000 hq hq
 have e3 : -1000000000000 ≤ a * a ∧ a * a ≤ 1000000000000 := mul_bd 1000000 1000000 ha ha
 have e4 : -1000000000000 ≤ ch * ch ∧ ch * ch ≤ 1000000000000 := mul_bd 1000000 1000000 hc hc
 go_enter Tryz.func23, Tryz.ntmps23
 go_wp2
 go_ret
 exact Ret.mk' rfl gw
end Go.Proofs.YtpfpamopmncifaaGreat
