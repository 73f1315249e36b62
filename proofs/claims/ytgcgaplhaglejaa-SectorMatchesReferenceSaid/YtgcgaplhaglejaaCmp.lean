/- The comparison of two directions, with draws that only become more (as the sort's contract asks it). -/
import Derived.Test.YtgcgaplhaglejaaSecA
import Derived.Shelf.SlSortCmp.QuietGrown
namespace Go.Proofs.Ytgcgaplhaglejaa
set_option linter.unusedVariables false
set_option linter.unusedSimpArgs false
open Go.RowKit Go.Sort
attribute [local go_sem ↓] lt_add_r lt_add_r2 lt_add_r3 lt_add_r4
attribute [local go_sem] cell?_grow' frozen?_grow' size_grow

def GrewM (w w' : World) : Prop := ∃ q os, w' = grow (w.drewN q) os
theorem GrewM.refl (w : World) : GrewM w w := ⟨0, #[], by rw [grow_empty]; rfl⟩
theorem GrewM.trans {a b c : World} (h : GrewM a b) (k : GrewM b c) : GrewM a c := by
  obtain ⟨n, os, rfl⟩ := h
  obtain ⟨m, os', rfl⟩ := k
  exact ⟨n + m, os ++ os', by show grow (grow ((a.drewN n).drewN m) os) os' = _; rw [grow_grow, World.drewN_drewN]⟩
theorem GrewM.grow {a w : World} (h : GrewM a w) (os : Array Obj) : GrewM a (grow w os) := h.trans ⟨0, os, rfl⟩
theorem GrewM.drewN {a w : World} (h : GrewM a w) (n : Nat) : GrewM a (w.drewN n) := h.trans ⟨n, #[], by rw [grow_empty]⟩
theorem GrewM.alloc {a w : World} (h : GrewM a w) (o : Obj) : GrewM a (w.alloc o) := by rw [alloc_eq_grow]; exact h.grow _

set_option maxHeartbeats 400000 in
theorem upper_m (a b : Int) (w : World) :
    Calls Try.prog 56 #[pt a b] w fun e w' => e = .returned (.bool (upper a b)) ∧ GrewM w w' := by
  go_enter Try.func56, Try.ntmps56
  go_wp2
  all_goals go_ret
  all_goals refine ⟨congrArg _ (ret_bool ?_), GrewM.alloc (GrewM.refl _) _⟩
  all_goals simp [upper, *]
  all_goals omega

set_option maxHeartbeats 400000 in
theorem cross_m (a b c d : Int) (w : World) (ha : -4000000 ≤ a ∧ a ≤ 4000000) (hb : -4000000 ≤ b ∧ b ≤ 4000000) (hc : -4000000 ≤ c ∧ c ≤ 4000000) (hd : -4000000 ≤ d ∧ d ≤ 4000000) :
    Calls Try.prog 57 #[pt a b, pt c d] w fun e w' => e = .returned (.int .i64 (a * d - b * c)) ∧ GrewM w w' := by
  have h1 : -16000000000000 ≤ a * d ∧ a * d ≤ 16000000000000 := mul_bd 4000000 4000000 ha hd
  have h2 : -16000000000000 ≤ b * c ∧ b * c ≤ 16000000000000 := mul_bd 4000000 4000000 hb hc
  go_enter Try.func57, Try.ntmps57
  go_wp2
  go_ret
  exact ⟨rfl, ((GrewM.refl _).alloc _).alloc _⟩

set_option maxHeartbeats 800000 in
theorem compare_m (a b c d : Int) (w : World) (ha : -4000000 ≤ a ∧ a ≤ 4000000) (hb : -4000000 ≤ b ∧ b ≤ 4000000) (hc : -4000000 ≤ c ∧ c ≤ 4000000) (hd : -4000000 ≤ d ∧ d ≤ 4000000) :
    Calls Try.prog 43 #[pt a b, pt c d] w fun e w' => e = .returned (.int .i64 (cmpw a b c d)) ∧ GrewM w w' := by
  have hm := hmix
  go_enter Try.func43, Try.ntmps43
  go_wp2_with fail
  have k0 : ∀ n os, (grow (((w.alloc (.cells #[.int .i64 a, .int .i64 b] 55)).alloc (.cells #[.int .i64 c, .int .i64 d] 55)).drewN n) os).cell? ⟨w.heap.size, 0, none⟩ = some (.int .i64 a) := cell_grown (by simp; omega) (by simp)
  have k1 : ∀ n os, (grow (((w.alloc (.cells #[.int .i64 a, .int .i64 b] 55)).alloc (.cells #[.int .i64 c, .int .i64 d] 55)).drewN n) os).cell? ⟨w.heap.size, 1, none⟩ = some (.int .i64 b) := cell_grown (by simp; omega) (by simp)
  have k2 : ∀ n os, (grow (((w.alloc (.cells #[.int .i64 a, .int .i64 b] 55)).alloc (.cells #[.int .i64 c, .int .i64 d] 55)).drewN n) os).cell? ⟨w.heap.size + 1, 0, none⟩ = some (.int .i64 c) := cell_grown (by simp) (by simp)
  have k3 : ∀ n os, (grow (((w.alloc (.cells #[.int .i64 a, .int .i64 b] 55)).alloc (.cells #[.int .i64 c, .int .i64 d] 55)).drewN n) os).cell? ⟨w.heap.size + 1, 1, none⟩ = some (.int .i64 d) := cell_grown (by simp) (by simp)
  go_quiet_grown ((go_at_call 56; exact Calls.grown_of (upper_m _ _ _)))
  dsimp only
  go_wp2_with (first | (go_at_call 56; refine (upper_m _ _ _).mono ?_; rintro e w' ⟨rfl, _, _, rfl⟩; dsimp only) | (go_at_call 57; refine (cross_m _ _ _ _ _ ha hb hc hd).mono ?_; rintro e w' ⟨rfl, _, _, rfl⟩; dsimp only))
  all_goals go_ret
  all_goals refine ⟨congrArg _ (ret_int ?_), by repeat (with_reducible first | exact GrewM.refl _ | refine GrewM.alloc ?_ _ | refine GrewM.grow ?_ _ | refine GrewM.drewN ?_ _)⟩
  all_goals (first | exact cw1 ‹_› ‹_› | exact cw2 ‹_› ‹_› | exact cw3 ‹_› ‹_› | exact cw4 ‹_› ‹_› | exact cw5 ‹_› ‹_› ‹_›)
end Go.Proofs.Ytgcgaplhaglejaa
