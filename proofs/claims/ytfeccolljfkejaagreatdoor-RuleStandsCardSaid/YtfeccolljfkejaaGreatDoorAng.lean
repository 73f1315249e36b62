/- Plain law: the angle order of directions (no program in sight). -/
import Derived.Test.YtfeccolljfkejaaGreatDoorSecA
set_option linter.unusedSimpArgs false
set_option linter.unusedVariables false
namespace Go.Proofs.YtfeccolljfkejaaGreatDoor
open Go.RowKit Go.Sort
theorem upper_iff {a b : Int} : upper a b = true ↔ (0 < b ∨ (b = 0 ∧ 0 < a)) := by simp [upper]
theorem low_neg {a b : Int} (h : upper a b = false) (h0 : a ≠ 0 ∨ b ≠ 0) : upper (-a) (-b) = true := by
 rw [upper_iff]
 have : ¬ (0 < b ∨ (b = 0 ∧ 0 < a)) := by rw [← upper_iff, h]; simp
 omega
theorem crs_neg (a b c d : Int) : crs (-a) (-b) (-c) (-d) = crs a b c d := by unfold crs; rw [Int.neg_mul_neg, Int.neg_mul_neg]
theorem crs_swap (a b c d : Int) : crs c d a b = - crs a b c d := by unfold crs; rw [Int.mul_comm c b, Int.mul_comm d a]; omega
theorem crs_id (a b c d e f : Int) : crs a b e f * d = crs c d e f * b + crs a b c d * f := by
 unfold crs
 simp only [Int.sub_mul]
 have e1 : a * f * d = a * d * f := by rw [Int.mul_assoc, Int.mul_comm f d, ← Int.mul_assoc]
 have e2 : b * e * d = d * e * b := by rw [Int.mul_comm b e, Int.mul_comm d e, Int.mul_assoc, Int.mul_assoc, Int.mul_comm b d]
 have e3 : c * f * b = b * c * f := by rw [Int.mul_comm b c, Int.mul_assoc, Int.mul_assoc, Int.mul_comm f b]
 omega
/-- Three directions of the upper half: the order goes on. -/
theorem crs_trans_up {a b c d e f : Int} (hu : upper a b = true) (hv : upper c d = true) (hw : upper e f = true) (h1 : 0 ≤ crs a b c d) (h2 : 0 ≤ crs c d e f) : 0 ≤ crs a b e f := by
 rw [upper_iff] at hu hv hw
 rcases hv with hd | ⟨rfl, hc⟩
 ·have h := crs_id a b c d e f
  have q1 : 0 ≤ crs c d e f * b := Int.mul_nonneg h2 (by omega)
  have q2 : 0 ≤ crs a b c d * f := Int.mul_nonneg h1 (by omega)
  rcases Int.lt_or_le (crs a b e f) 0 with hn | hn
  ·have := Int.mul_neg_of_neg_of_pos hn hd
   omega
  ·exact hn
 ·have hb : b = 0 := by
   rcases hu with hb | ⟨hb, _⟩
   ·unfold crs at h1
    have := Int.mul_pos hb hc
    simp at h1
    omega
   ·exact hb
  subst hb
  have ha : 0 < a := by omega
  have hf : 0 ≤ f := by omega
  have := Int.mul_nonneg (Int.le_of_lt ha) hf
  unfold crs
  simp
  exact this
theorem crs_trans {a b c d e f : Int} (ha : a ≠ 0 ∨ b ≠ 0) (hc : c ≠ 0 ∨ d ≠ 0) (he : e ≠ 0 ∨ f ≠ 0) (h1 : upper a b = upper c d) (h2 : upper c d = upper e f) (k1 : 0 ≤ crs a b c d) (k2 : 0 ≤ crs c d e f) : 0 ≤ crs a b e f := by
 cases hv : upper c d
 ·rw [hv] at h1 h2
  have := crs_trans_up (low_neg h1 ha) (low_neg hv hc) (low_neg h2.symm he) (by rw [crs_neg]; exact k1) (by rw [crs_neg]; exact k2)
  rwa [crs_neg] at this
 ·rw [hv] at h1 h2
  exact crs_trans_up h1 hv h2.symm k1 k2
theorem cmpw_le {a b c d : Int} : cmpw a b c d ≤ 0 ↔ (upper a b = true ∧ upper c d = false) ∨ (upper a b = upper c d ∧ 0 ≤ crs a b c d) := by
 unfold cmpw
 cases upper a b <;> cases upper c d <;> simp
 all_goals (split <;> (try split) <;> omega)
theorem cmpw_swap (a b c d : Int) : cmpw c d a b = - cmpw a b c d := by
 unfold cmpw
 rw [crs_swap a b c d]
 cases upper a b <;> cases upper c d <;> simp
 all_goals (split <;> split <;> (try split) <;> (try split) <;> omega)
theorem cmpw_trans {a b c d e f : Int} (ha : a ≠ 0 ∨ b ≠ 0) (hc : c ≠ 0 ∨ d ≠ 0) (he : e ≠ 0 ∨ f ≠ 0) (h1 : cmpw a b c d ≤ 0) (h2 : cmpw c d e f ≤ 0) : cmpw a b e f ≤ 0 := by
 rw [cmpw_le] at *
 rcases h1 with ⟨p1, p2⟩ | ⟨p1, p2⟩ <;> rcases h2 with ⟨q1, q2⟩ | ⟨q1, q2⟩
 ·rw [p2] at q1; cases q1
 ·exact .inl ⟨p1, by rw [← q1]; exact p2⟩
 ·exact .inl ⟨by rw [p1]; exact q1, q2⟩
 ·exact .inr ⟨by rw [p1, q1], crs_trans ha hc he p1 q1 p2 q2⟩
theorem cmpw_bd (a b c d : Int) : cmpw a b c d = -1 ∨ cmpw a b c d = 0 ∨ cmpw a b c d = 1 := by
 unfold cmpw
 split
 ·split <;> simp
 ·split
  ·simp
  ·split <;> simp
theorem cmpw_self (a b : Int) : cmpw a b a b = 0 := by
 have := cmpw_swap a b a b
 omega
theorem dir_ne {a b : Int} (h : dirOk a b = true) : a ≠ 0 ∨ b ≠ 0 := by simp [dirOk] at h; omega
end Go.Proofs.YtfeccolljfkejaaGreatDoor
