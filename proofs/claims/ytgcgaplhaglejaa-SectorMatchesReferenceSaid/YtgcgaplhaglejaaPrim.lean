/- Plain law: the shortest directions. -/
import Derived.Test.YtgcgaplhaglejaaAng
import Derived.Test.YtgcgaplhaglejaaSecG
namespace Go.Proofs.Ytgcgaplhaglejaa
set_option linter.unusedVariables false
set_option linter.unusedSimpArgs false
open Go.RowKit Go.Sort

def prim (v : Int × Int) : Bool := dirOk v.1 v.2 && decide (Int.gcd v.1 v.2 = 1)
abbrev Prim := { v : Int × Int // prim v = true }
instance : Inhabited Prim := ⟨⟨(1, 0), by decide⟩⟩

theorem dvd_abs {a b c d : Int} (h : a * d = b * c) (h1 : Int.gcd a b = 1) (h2 : Int.gcd c d = 1) : a.natAbs = c.natAbs := by
  have hn : a.natAbs * d.natAbs = b.natAbs * c.natAbs := by rw [← Int.natAbs_mul, ← Int.natAbs_mul, h]
  have e1 : a.natAbs ∣ c.natAbs := Nat.Coprime.dvd_of_dvd_mul_left (m := b.natAbs) h1 (by rw [← hn]; exact Nat.dvd_mul_right _ _)
  have e2 : c.natAbs ∣ a.natAbs := Nat.Coprime.dvd_of_dvd_mul_right (n := d.natAbs) h2 (by rw [hn]; exact Nat.dvd_mul_left _ _)
  exact Nat.dvd_antisymm e1 e2

theorem mul_pos_left {g b : Int} (h : 0 < g) : 0 < g * b ↔ 0 < b := ⟨fun hx => Int.pos_of_mul_pos_right hx h, fun hx => Int.mul_pos h hx⟩

theorem prim_eq {u v : Int × Int} (hu : prim u = true) (hv : prim v = true) (h : cmpw u.1 u.2 v.1 v.2 = 0) : u = v := by
  obtain ⟨a, b⟩ := u
  obtain ⟨c, d⟩ := v
  simp only [prim, Bool.and_eq_true, decide_eq_true_eq] at hu hv
  have h0 : cmpw c d a b = 0 := by rw [cmpw_swap a b c d]; simp at h; omega
  have k1 := (cmpw_le (a := a) (b := b) (c := c) (d := d)).1 (by simp at h; omega)
  have k2 := (cmpw_le (a := c) (b := d) (c := a) (d := b)).1 (by omega)
  have hup : upper a b = upper c d ∧ crs a b c d = 0 := by
    rw [crs_swap a b c d] at k2
    rcases k1 with ⟨p, q⟩ | ⟨p, q⟩ <;> rcases k2 with ⟨p', q'⟩ | ⟨p', q'⟩
    · rw [q] at p'; cases p'
    · rw [q, p] at p'; cases p'
    · rw [p, p'] at q'; cases q'
    · exact ⟨p, by omega⟩
  have hc : a * d = b * c := by have := hup.2; unfold crs at this; omega
  have ea := dvd_abs hc hu.2 hv.2
  have eb := dvd_abs (a := b) (b := a) (c := d) (d := c) (by omega) (by rw [Int.gcd_comm]; exact hu.2) (by rw [Int.gcd_comm]; exact hv.2)
  have hupb := hup.1
  have hn := dir_ne hu.1
  have hc0 : a * d - b * c = 0 := by omega
  clear k1 k2 h h0 hup hu hv hc
  have key : (a = c ∧ b = d) ∨ (a = -c ∧ b = -d) := by
    rcases Int.natAbs_eq_natAbs_iff.1 ea with rfl | rfl <;> rcases Int.natAbs_eq_natAbs_iff.1 eb with rfl | rfl
    · exact .inl ⟨rfl, rfl⟩
    · rw [Int.neg_mul, Int.mul_comm d a] at hc0
      have : a * d = 0 := by omega
      rcases Int.mul_eq_zero.1 this with h | h
      · subst h; exact .inr ⟨rfl, rfl⟩
      · subst h; exact .inl ⟨rfl, rfl⟩
    · rw [Int.neg_mul, Int.mul_comm b c] at hc0
      have : c * b = 0 := by omega
      rcases Int.mul_eq_zero.1 this with h | h
      · subst h; exact .inl ⟨rfl, rfl⟩
      · subst h; exact .inr ⟨rfl, rfl⟩
    · exact .inr ⟨rfl, rfl⟩
  rcases key with ⟨rfl, rfl⟩ | ⟨rfl, rfl⟩
  · rfl
  · exfalso
    have h1 : upper (-c) (-d) = true ↔ _ := upper_iff
    have h2 : upper c d = true ↔ _ := upper_iff
    rw [hupb] at h1
    rw [h2] at h1
    omega

theorem gcd_pos_of {x y : Int} (h : dirOk x y = true) : 0 < Int.gcd x y := by
  have := dir_ne h
  rw [Int.gcd_pos_iff]
  exact this
theorem short_prim {x y : Int} (h : dirOk x y = true) : prim (shortOf x y) = true := by
  have hg := gcd_pos_of h
  have e1 : Int.tdiv x (Int.gcd x y) = x / (Int.gcd x y : Int) := Int.tdiv_eq_ediv_of_dvd (Int.gcd_dvd_left ..)
  have e2 : Int.tdiv y (Int.gcd x y) = y / (Int.gcd x y : Int) := Int.tdiv_eq_ediv_of_dvd (Int.gcd_dvd_right ..)
  have hgg : Int.gcd (x / (Int.gcd x y : Int)) (y / (Int.gcd x y : Int)) = 1 := Int.gcd_ediv_gcd_ediv_gcd hg
  have hb : (-1000000 ≤ x ∧ x ≤ 1000000) ∧ (-1000000 ≤ y ∧ y ≤ 1000000) := by simp [dirOk] at h; omega
  have b1 := tdiv_bd (g := Int.gcd x y) hb.1
  have b2 := tdiv_bd (g := Int.gcd x y) hb.2
  unfold shortOf prim
  rw [e1] at b1
  rw [e2] at b2
  simp only [e1, e2, hgg, decide_true, Bool.and_true]
  simp only [dirOk, decide_eq_true_eq]
  refine ⟨?_, b1, b2⟩
  rcases Decidable.em (x / (Int.gcd x y : Int) = 0) with h1 | h1
  · right
    intro h2
    rw [h1, h2] at hgg
    simp at hgg
  · exact .inl h1

/-- A direction and its shortest have the same angle. -/
theorem short_mul {x y : Int} (h : dirOk x y = true) : ∃ g : Int, 0 < g ∧ x = g * (shortOf x y).1 ∧ y = g * (shortOf x y).2 := by
  refine ⟨Int.gcd x y, by have := gcd_pos_of h; omega, ?_, ?_⟩
  · exact (Int.mul_tdiv_cancel' (Int.gcd_dvd_left ..)).symm
  · exact (Int.mul_tdiv_cancel' (Int.gcd_dvd_right ..)).symm

/-- The comparison does not see lengths. -/
theorem upper_scale {g a b : Int} (h : 0 < g) : upper (g * a) (g * b) = upper a b := by
  rw [Bool.eq_iff_iff, upper_iff, upper_iff]
  have e1 : 0 < g * b ↔ 0 < b := mul_pos_left h
  have e2 : 0 < g * a ↔ 0 < a := mul_pos_left h
  have e3 : g * b = 0 ↔ b = 0 := by rw [Int.mul_eq_zero]; omega
  rw [e1, e2, e3]
theorem crs_scale (g a b c d : Int) : crs (g * a) (g * b) c d = g * crs a b c d := by
  unfold crs
  rw [Int.mul_sub, Int.mul_assoc, Int.mul_assoc]
theorem cmpw_scale {g a b c d : Int} (h : 0 < g) : cmpw (g * a) (g * b) c d = cmpw a b c d := by
  unfold cmpw
  rw [upper_scale h, crs_scale]
  have e1 : 0 < g * crs a b c d ↔ 0 < crs a b c d := mul_pos_left h
  have e2 : g * crs a b c d < 0 ↔ crs a b c d < 0 := by
    constructor
    · intro hx
      rcases Int.lt_or_le (crs a b c d) 0 with h1 | h1
      · exact h1
      · have := Int.mul_nonneg (Int.le_of_lt h) h1
        omega
    · exact fun hx => Int.mul_neg_of_pos_of_neg h hx
  simp only [e1, e2]
theorem cmpw_scale_r {g a b c d : Int} (h : 0 < g) : cmpw a b (g * c) (g * d) = cmpw a b c d := by
  rw [cmpw_swap (g * c) (g * d) a b, cmpw_scale h, cmpw_swap a b c d]
  omega
end Go.Proofs.Ytgcgaplhaglejaa
