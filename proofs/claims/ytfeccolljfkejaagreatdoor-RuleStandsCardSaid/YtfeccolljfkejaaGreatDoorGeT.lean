/- One feature stands for another one. What a disc and a polygon cover at each scale; which one holds which (plain geometry). Which feature stands for which, in plain words: what it covers at each scale; it is so for itself, and from one to the next. -/
import Derived.Test.YtfeccolljfkejaaGreatDoorFeD
import Derived.Test.YtfeccolljfkejaaGreatDoorRuI
import Derived.Test.YtfeccolljfkejaaGreatDoorJoN
import Derived.Test.YtfeccolljfkejaaGreatDoorSecP
set_option linter.unusedSimpArgs false
set_option linter.unusedVariables false
namespace Go.Proofs.YtfeccolljfkejaaGreatDoor
/-- A place z of scale d lies in a disc. -/
def Dsk (c : Pt) (r d : Int) (z : Pt) : Prop := sqd (sc d c) z ≤ (d * r) * (d * r)
theorem sq_le_of {x y : Int} (hy : 0 ≤ y) (h : x * x ≤ y * y) : x ≤ y := by
 rcases Int.lt_or_le y x with h1 | h1
 ·have := Int.mul_pos (show 0 < x - y by omega) (show 0 < x + y by omega)
  have e : (x - y) * (x + y) = x * x - y * y := by grind
  omega
 ·exact h1
theorem dot_id (a b c e : Int) : (a * c + b * e) * (a * c + b * e) + (a * e - b * c) * (a * e - b * c) = (a * a + b * b) * (c * c + e * e) := by grind
theorem sum_nn (a b : Int) : 0 ≤ a * a + b * b := by
 have := sq_nonneg a
 have := sq_nonneg b
 omega
theorem dot_le {a b c e P Q : Int} (hP : 0 ≤ P) (hQ : 0 ≤ Q) (h1 : a * a + b * b ≤ P * P) (h2 : c * c + e * e ≤ Q * Q) : a * c + b * e ≤ P * Q := by
 refine sq_le_of (Int.mul_nonneg hP hQ) ?_
 have h3 := dot_id a b c e
 have h4 := sq_nonneg (a * e - b * c)
 have h5 : (a * a + b * b) * (c * c + e * e) ≤ (P * P) * (Q * Q) := Int.mul_le_mul h1 h2 (sum_nn _ _) (sq_nonneg P)
 have h6 : (P * Q) * (P * Q) = (P * P) * (Q * Q) := by grind
 omega
theorem dot_lt {a b c e A : Int} (hA : a * a + b * b = A) (hw : c * c + e * e < A) : a * c + b * e < A := by
 rcases Int.lt_or_le (a * c + b * e) A with h | h
 ·exact h
 ·exfalso
  have h0 := sum_nn c e
  have h3 := dot_id a b c e
  have h4 := sq_nonneg (a * e - b * c)
  have h5 : A * A ≤ (a * c + b * e) * (a * c + b * e) := Int.mul_le_mul h h (by omega) (by omega)
  have h6 : A * (c * c + e * e) < A * A := Int.mul_lt_mul_of_pos_left hw (by omega)
  rw [hA] at h3
  omega
theorem tri2 {a b c e P Q : Int} (hP : 0 ≤ P) (hQ : 0 ≤ Q) (h1 : a * a + b * b ≤ P * P) (h2 : c * c + e * e ≤ Q * Q) : (a + c) * (a + c) + (b + e) * (b + e) ≤ (P + Q) * (P + Q) := by
 have h3 := dot_le hP hQ h1 h2
 have e1 : (a + c) * (a + c) + (b + e) * (b + e) = (a * a + b * b) + 2 * (a * c + b * e) + (c * c + e * e) := by grind
 have e2 : (P + Q) * (P + Q) = P * P + 2 * (P * Q) + Q * Q := by grind
 omega
theorem sqd_comm (p q : Pt) : sqd p q = sqd q p := by unfold sqd; grind
theorem dsk_dsk {c c' : Pt} {r s d : Int} {z : Pt} (hd : 0 < d) (hr : 0 ≤ r) (hrs : r ≤ s) (hcc : sqd c' c ≤ (s - r) * (s - r)) (h : Dsk c r d z) : Dsk c' s d z := by
 unfold Dsk at *
 have h1 : (z.1 - d * c.1) * (z.1 - d * c.1) + (z.2 - d * c.2) * (z.2 - d * c.2) ≤ (d * r) * (d * r) := h
 have h2 : (d * (c.1 - c'.1)) * (d * (c.1 - c'.1)) + (d * (c.2 - c'.2)) * (d * (c.2 - c'.2)) ≤ (d * (s - r)) * (d * (s - r)) := by
  have e1 : (d * (c.1 - c'.1)) * (d * (c.1 - c'.1)) + (d * (c.2 - c'.2)) * (d * (c.2 - c'.2)) = (d * d) * sqd c' c := by unfold sqd; grind
  have e2 : (d * (s - r)) * (d * (s - r)) = (d * d) * ((s - r) * (s - r)) := by grind
  rw [e1, e2]
  exact Int.mul_le_mul_of_nonneg_left hcc (sq_nonneg d)
 have h3 := tri2 (Int.mul_nonneg (by omega) hr) (Int.mul_nonneg (by omega) (by omega)) h1 h2
 have e3 : d * r + d * (s - r) = d * s := by grind
 rw [e3] at h3
 have e4 : sqd (sc d c') z = (z.1 - d * c.1 + d * (c.1 - c'.1)) * (z.1 - d * c.1 + d * (c.1 - c'.1)) + (z.2 - d * c.2 + d * (c.2 - c'.2)) * (z.2 - d * c.2 + d * (c.2 - c'.2)) := by unfold sqd sc; grind
 rw [e4]
 exact h3
theorem add_lt {A B P Q U : Int} (hA : 0 ≤ A) (hB : 0 ≤ B) (hU : 0 ≤ U) (h1 : P * P < A * A * U) (h2 : Q * Q < B * B * U) : (P + Q) * (P + Q) < (A + B) * (A + B) * U := by
 have h3 : P * Q ≤ A * B * U := by
  refine sq_le_of (Int.mul_nonneg (Int.mul_nonneg hA hB) hU) ?_
  have e1 : (P * Q) * (P * Q) = (P * P) * (Q * Q) := by grind
  have e2 : (A * B * U) * (A * B * U) = (A * A * U) * (B * B * U) := by grind
  rw [e1, e2]
  exact Int.mul_le_mul (Int.le_of_lt h1) (Int.le_of_lt h2) (sq_nonneg Q) (Int.mul_nonneg (sq_nonneg A) hU)
 have e1 : (P + Q) * (P + Q) = P * P + 2 * (P * Q) + Q * Q := by grind
 have e2 : (A + B) * (A + B) * U = A * A * U + 2 * (A * B * U) + B * B * U := by grind
 omega
theorem add_le {A B P Q U : Int} (hP : 0 ≤ P) (hQ : 0 ≤ Q) (hU : 0 ≤ U) (h1 : A * A * U ≤ P * P) (h2 : B * B * U ≤ Q * Q) : (A + B) * (A + B) * U ≤ (P + Q) * (P + Q) := by
 have h3 : A * B * U ≤ P * Q := by
  refine sq_le_of (Int.mul_nonneg hP hQ) ?_
  have e1 : (P * Q) * (P * Q) = (P * P) * (Q * Q) := by grind
  have e2 : (A * B * U) * (A * B * U) = (A * A * U) * (B * B * U) := by grind
  rw [e1, e2]
  exact Int.mul_le_mul h1 h2 (Int.mul_nonneg (sq_nonneg B) hU) (sq_nonneg P)
 have e1 : (P + Q) * (P + Q) = P * P + 2 * (P * Q) + Q * Q := by grind
 have e2 : (A + B) * (A + B) * U = A * A * U + 2 * (A * B * U) + B * B * U := by grind
 omega
theorem far_dsk {c c' : Pt} {r s : Int} (hr : 0 ≤ r) (hs : 0 ≤ s) (h : ∀ d z, 0 < d → Dsk c r d z → Dsk c' s d z) : r ≤ s ∧ sqd c' c ≤ (s - r) * (s - r) := by
 unfold Dsk at h
 have hrs : r ≤ s := by
  by_cases ha : 0 ≤ c.1 - c'.1
  ·have h1 := h 1 (c.1 + r, c.2) (by omega) (by unfold sqd sc; dsimp only; grind)
   have e : sqd (sc 1 c') (c.1 + r, c.2) = ((c.1 - c'.1) + r) * ((c.1 - c'.1) + r) + (c.2 - c'.2) * (c.2 - c'.2) := by unfold sqd sc; dsimp only; grind
   rw [e, Int.one_mul] at h1
   have := sq_nonneg (c.2 - c'.2)
   have := sq_le_of hs (show ((c.1 - c'.1) + r) * ((c.1 - c'.1) + r) ≤ s * s by omega)
   omega
  ·have h1 := h 1 (c.1 - r, c.2) (by omega) (by unfold sqd sc; dsimp only; grind)
   have e : sqd (sc 1 c') (c.1 - r, c.2) = (r - (c.1 - c'.1)) * (r - (c.1 - c'.1)) + (c.2 - c'.2) * (c.2 - c'.2) := by unfold sqd sc; dsimp only; grind
   rw [e, Int.one_mul] at h1
   have := sq_nonneg (c.2 - c'.2)
   have := sq_le_of hs (show (r - (c.1 - c'.1)) * (r - (c.1 - c'.1)) ≤ s * s by omega)
   omega
 refine ⟨hrs, ?_⟩
 rcases Int.lt_or_le ((s - r) * (s - r)) (sqd c' c) with hlt | hle
 ·exfalso
  obtain ⟨m, hm⟩ : ∃ m, s - r = m := ⟨_, rfl⟩
  obtain ⟨U, hU⟩ : ∃ U, sqd c' c = U := ⟨_, rfl⟩
  rw [hm, hU] at hlt
  have hm0 : 0 ≤ m := by omega
  have hmm := sq_nonneg m
  have hU1 : 1 ≤ U := by omega
  obtain ⟨N, hN⟩ : ∃ N, N = 2 * m + 2 := ⟨_, rfl⟩
  have hNN : (N * m + 1) * (N * m + 1) < N * N * U := by
   have h1 : N * N * (m * m + 1) ≤ N * N * U := Int.mul_le_mul_of_nonneg_left (by omega) (sq_nonneg N)
   have e1 : N * N * (m * m + 1) = (N * m) * (N * m) + N * N := by grind
   have e2 : (N * m + 1) * (N * m + 1) = (N * m) * (N * m) + 2 * (N * m) + 1 := by grind
   have e3 : N * N = 2 * (N * m) + 2 * N := by rw [hN]; grind
   omega
  have hk : ∃ j, j < (N * U * r + 1).toNat ∧ ((j : Int) * j * U ≤ (N * U * r) * (N * U * r)) ∧ ¬ (((j + 1 : Nat) : Int) * ((j + 1 : Nat) : Int) * U ≤ (N * U * r) * (N * U * r)) := by
   refine ivt (P := fun j => (j : Int) * j * U ≤ (N * U * r) * (N * U * r)) _ ?_ ?_
   ·show ((0 : Nat) : Int) * ((0 : Nat) : Int) * U ≤ _
    have := sq_nonneg (N * U * r)
    simp
    exact this
   ·have hd0 : 0 ≤ N * U * r := Int.mul_nonneg (Int.mul_nonneg (by omega) (by omega)) hr
    have ej : (((N * U * r + 1).toNat : Nat) : Int) = N * U * r + 1 := by omega
    rw [ej]
    intro h9
    have h1 : (N * U * r + 1) * (N * U * r + 1) * 1 ≤ (N * U * r + 1) * (N * U * r + 1) * U := Int.mul_le_mul_of_nonneg_left hU1 (sq_nonneg _)
    have e2 : (N * U * r + 1) * (N * U * r + 1) = (N * U * r) * (N * U * r) + 2 * (N * U * r) + 1 := by grind
    omega
  obtain ⟨j, _, hj1, hj2⟩ := hk
  obtain ⟨k, hkj⟩ : ∃ k : Int, k = (j : Int) := ⟨_, rfl⟩
  have hk0 : 0 ≤ k := by omega
  rw [← hkj] at hj1
  rw [show ((j + 1 : Nat) : Int) = k + 1 by omega] at hj2
  have hd : 0 < N * U := Int.mul_pos (by omega) (by omega)
  obtain ⟨d, hdd⟩ : ∃ d, N * U = d := ⟨_, rfl⟩
  rw [hdd] at hj1 hj2 hd
  have eU : U = (c.1 - c'.1) * (c.1 - c'.1) + (c.2 - c'.2) * (c.2 - c'.2) := by rw [← hU]; unfold sqd; grind
  have h1 := h d (d * c.1 + k * (c.1 - c'.1), d * c.2 + k * (c.2 - c'.2)) hd (by
   have e : sqd (sc d c) (d * c.1 + k * (c.1 - c'.1), d * c.2 + k * (c.2 - c'.2)) = k * k * U := by rw [eU]; unfold sqd sc; dsimp only; grind
   rw [e]
   exact hj1)
  have e1 : sqd (sc d c') (d * c.1 + k * (c.1 - c'.1), d * c.2 + k * (c.2 - c'.2)) = (d + k) * (d + k) * U := by rw [eU]; unfold sqd sc; dsimp only; grind
  rw [e1] at h1
  have hA : (d * m + U) * (d * m + U) < d * d * U := by
   have e2 : (d * m + U) * (d * m + U) = (U * U) * ((N * m + 1) * (N * m + 1)) := by rw [← hdd]; grind
   have e3 : d * d * U = (U * U) * (N * N * U) := by rw [← hdd]; grind
   rw [e2, e3]
   exact Int.mul_lt_mul_of_pos_left hNN (Int.mul_pos (by omega) (by omega))
  have hB : (d * r) * (d * r) < (k + 1) * (k + 1) * U := by omega
  have hC := add_lt (by omega) (by omega) (by omega) hA hB
  have hD := add_le (A := d + k) (B := 1) (P := d * s) (Q := U) (U := U) (Int.mul_nonneg (by omega) hs) (by omega) (by omega) h1 (by
   have : 1 * U ≤ U * U := Int.mul_le_mul_of_nonneg_right hU1 (by omega)
   omega)
  have e4 : d * m + U + d * r = d * s + U := by rw [← hm]; grind
  have e5 : d + (k + 1) = d + k + 1 := by omega
  rw [e4, e5] at hC
  omega
 ·exact hle
theorem apart_sc {d : Int} (hd : 0 < d) {p a b : Pt} {r : Int} (h : apartB p a b r = true) : apartB (sc d p) (sc d a) (sc d b) (d * r) = true := by
 have hdd : 0 < d * d := Int.mul_pos hd hd
 have e1 : dt (sc d a) (sc d b) (sc d p) = (d * d) * dt a b p := by unfold dt sc; dsimp only; grind
 have e2 : dt (sc d a) (sc d p) (sc d p) = (d * d) * dt a p p := by unfold dt sc; dsimp only; grind
 have e3 : dt (sc d b) (sc d p) (sc d p) = (d * d) * dt b p p := by unfold dt sc; dsimp only; grind
 have e4 : dt (sc d a) (sc d b) (sc d b) = (d * d) * dt a b b := by unfold dt sc; dsimp only; grind
 have e5 : cr (sc d a) (sc d b) (sc d p) = (d * d) * cr a b p := by unfold cr sc; dsimp only; grind
 have mono : ∀ {x y : Int}, x ≤ y → (d * d) * x ≤ (d * d) * y := fun h => Int.mul_le_mul_of_nonneg_left h (Int.le_of_lt hdd)
 have monol : ∀ {x y : Int}, x < y → (d * d) * x < (d * d) * y := fun h => Int.mul_lt_mul_of_pos_left h hdd
 unfold apartB sqr at *
 rw [e1, e2, e3, e4, e5]
 by_cases c1 : dt a b p ≤ 0
 ·rw [if_pos c1] at h
  have c1' := mono c1
  rw [Int.mul_zero] at c1'
  rw [if_pos c1']
  rw [decide_eq_true_eq] at h ⊢
  dsimp only at h ⊢
  have := mono (show r * r ≤ dt a p p by omega)
  have e : d * r * (d * r) = (d * d) * (r * r) := by grind
  omega
 ·have c1' := monol (show 0 < dt a b p by omega)
  rw [Int.mul_zero] at c1'
  rw [if_neg c1] at h
  rw [if_neg (by omega)]
  by_cases c2 : dt a b b ≤ dt a b p
  ·rw [if_pos c2] at h
   rw [if_pos (mono c2)]
   rw [decide_eq_true_eq] at h ⊢
   dsimp only at h ⊢
   have := mono (show r * r ≤ dt b p p by omega)
   have e : d * r * (d * r) = (d * d) * (r * r) := by grind
   omega
  ·have c2' := monol (show dt a b p < dt a b b by omega)
   rw [if_neg c2] at h
   rw [if_neg (by omega)]
   rw [decide_eq_true_eq] at h ⊢
   dsimp only at h ⊢
   rw [show ((cr a b p).natAbs : Int) * ((cr a b p).natAbs : Int) = cr a b p * cr a b p from Int.natAbs_mul_self] at h
   rw [show (((d * d) * cr a b p).natAbs : Int) * (((d * d) * cr a b p).natAbs : Int) = ((d * d) * cr a b p) * ((d * d) * cr a b p) from Int.natAbs_mul_self]
   have := Int.mul_le_mul_of_nonneg_left h (sq_nonneg (d * d))
   have e : d * r * (d * r) * ((d * d) * dt a b b) = (d * d) * (d * d) * (r * r * dt a b b) := by grind
   have e' : (d * d) * cr a b p * ((d * d) * cr a b p) = (d * d) * (d * d) * (cr a b p * cr a b p) := by grind
   rw [e, e']
   exact this
theorem disc_sc {ps : List Pt} (hp : Simp ps) {c : Pt} {r d : Int} (hd : 0 < d) (h : discVal ps c r = 1) : discVal (ps.map (sc d)) (sc d c) (d * r) = 1 := by
 unfold discVal at *
 rw [place_sc hp hd]
 by_cases h0 : 0 ≤ placeOf ps c
 ·rw [if_pos h0] at h ⊢
  have ha : apartAll ps c r (List.range ps.length) = true := by
   cases hx : apartAll ps c r (List.range ps.length)
   ·rw [hx] at h; simp at h
   ·rfl
  rw [if_pos ?_]
  unfold apartAll at *
  rw [List.all_eq_true] at *
  intro i hi
  rw [List.length_map] at hi
  rw [cor_sc, cor_sc]
  exact apart_sc hd (ha i hi)
 ·rw [if_neg h0] at h
  split at h <;> cases h
theorem disc_cov {ps : List Pt} (hp : Simp ps) {c : Pt} {r d : Int} {z : Pt} (hd : 0 < d) (h : discVal ps c r = 1) (hz : Dsk c r d z) : 0 ≤ placeOf (ps.map (sc d)) z :=
 (disc_has (at' := sc d c) (r := d * r) hz).1 (disc_sc hp hd h)
/-- The nearest place of a segment. -/
theorem near_pt {p u v : Pt} {r : Int} (h : apartB p u v r = false) : ∃ m z, 0 < m ∧ onB z (sc m u) (sc m v) = true ∧ sqd (sc m p) z < (m * r) * (m * r) := by
 unfold apartB sqr at h
 rw [decide_eq_false_iff_not] at h
 by_cases c1 : dt u v p ≤ 0
 ·rw [if_pos c1] at h
  dsimp only at h
  refine ⟨1, sc 1 u, by omega, onB_left _ _, ?_⟩
  have e : sqd (sc 1 p) (sc 1 u) = dt u p p := by unfold sqd dt sc; dsimp only; grind
  rw [e]
  have e2 : 1 * r * (1 * r) = r * r := by grind
  omega
 ·rw [if_neg c1] at h
  by_cases c2 : dt u v v ≤ dt u v p
  ·rw [if_pos c2] at h
   dsimp only at h
   refine ⟨1, sc 1 v, by omega, onB_right _ _, ?_⟩
   have e : sqd (sc 1 p) (sc 1 v) = dt v p p := by unfold sqd dt sc; dsimp only; grind
   rw [e]
   have e2 : 1 * r * (1 * r) = r * r := by grind
   omega
  ·rw [if_neg c2] at h
   dsimp only at h
   rw [show ((cr u v p).natAbs : Int) * ((cr u v p).natAbs : Int) = cr u v p * cr u v p from Int.natAbs_mul_self] at h
   obtain ⟨L, hL⟩ : ∃ L, dt u v v = L := ⟨_, rfl⟩
   obtain ⟨k, hk⟩ : ∃ k, dt u v p = k := ⟨_, rfl⟩
   rw [hL] at h c2
   rw [hk] at c1 c2
   have hL0 : 0 < L := by omega
   refine ⟨L, (L * u.1 + k * (v.1 - u.1), L * u.2 + k * (v.2 - u.2)), hL0, ?_, ?_⟩
   ·rw [onB_iff]
    have x1 := coord_line (L * u.1) (v.1 - u.1) 0 L k ⟨by omega, by omega⟩
    have x2 := coord_line (L * u.2) (v.2 - u.2) 0 L k ⟨by omega, by omega⟩
    have y1 : L * u.1 + L * (v.1 - u.1) = L * v.1 := by grind
    have y2 : L * u.2 + L * (v.2 - u.2) = L * v.2 := by grind
    rw [y1, Int.zero_mul, Int.add_zero] at x1
    rw [y2, Int.zero_mul, Int.add_zero] at x2
    refine ⟨?_, x1, x2⟩
    unfold cr sc
    dsimp only
    grind
   ·have e : sqd (sc L p) (L * u.1 + k * (v.1 - u.1), L * u.2 + k * (v.2 - u.2)) = L * (cr u v p * cr u v p) := by
     rw [← hL, ← hk]
     unfold sqd sc cr dt
     dsimp only
     grind
    rw [e]
    have e2 : L * r * (L * r) = L * (r * r * L) := by grind
    rw [e2]
    exact Int.mul_lt_mul_of_pos_left (by omega) hL0
theorem disc_full {ps : List Pt} (hp : Poly ps) {c : Pt} {r : Int} (h : ∀ d z, 0 < d → Dsk c r d z → 0 ≤ placeOf (ps.map (sc d)) z) : discVal ps c r = 1 := by
 have h0 : 0 ≤ placeOf ps c := by
  have h1 := h 1 c (by omega) (by
   unfold Dsk
   have e : sqd (sc 1 c) c = 0 := by unfold sqd sc; dsimp only; grind
   rw [e]
   exact sq_nonneg _)
  rwa [sc_one] at h1
 unfold discVal
 rw [if_pos h0]
 have ha : apartAll ps c r (List.range ps.length) = true := by
  cases hx : apartAll ps c r (List.range ps.length)
  ·exfalso
   unfold apartAll at hx
   rw [List.all_eq_false] at hx
   obtain ⟨i, hi, hx⟩ := hx
   have hi := List.mem_range.1 hi
   obtain ⟨m, z, hm, hon, hlt⟩ := near_pt (by simpa using hx)
   have hpm := hp.sc hm
   have hz : placeOf (ps.map (sc m)) z = 0 := on_in (i := i) (by rw [List.length_map]; exact hi) (by rw [cor_sc, cor_sc]; exact hon)
   obtain ⟨f, hf⟩ := some_out hpm hz
   obtain ⟨M, hM⟩ := Ev.and (Ev.and hf (Ev.quad (A := (m * r) * (m * r) - sqd (sc m c) z) (by omega) (-2 * ((z.1 - m * c.1) * f.1 + (z.2 - m * c.2) * f.2)) (-(f.1 * f.1 + f.2 * f.2)))) (Ev.ge 1)
   obtain ⟨⟨⟨o1, o2⟩, hq⟩, h1⟩ := hM M (Int.le_refl _)
   have hD : Dsk c r (M * m) (nr M z f) := by
    unfold Dsk
    have e : (M * m * r) * (M * m * r) - sqd (sc (M * m) c) (nr M z f) = M * M * ((m * r) * (m * r) - sqd (sc m c) z) + M * (-2 * ((z.1 - m * c.1) * f.1 + (z.2 - m * c.2) * f.2)) + -(f.1 * f.1 + f.2 * f.2) := by
     unfold sqd sc nr
     dsimp only
     grind
    omega
   have hin := h (M * m) _ (Int.mul_pos (by omega) hm) hD
   have hout := place_out (hpm.toSimp.sc (d := M) (by omega)) o1 o2
   rw [map_sc] at hout
   omega
  ·rfl
 rw [if_pos ha]
theorem area_in {ps : List Pt} (hp : Simp ps) {c : Pt} {r d : Int} (hr : 0 ≤ r) (h : ∀ p ∈ ps, sqd c p ≤ r * r) (hd : 0 < d) {z : Pt} (hz : 0 ≤ placeOf (ps.map (sc d)) z) : Dsk c r d z := by
 unfold Dsk
 rcases Int.lt_or_le ((d * r) * (d * r)) (sqd (sc d c) z) with hlt | hle
 ·exfalso
  obtain ⟨x, hx⟩ : ∃ x, z.1 - d * c.1 = x := ⟨_, rfl⟩
  obtain ⟨y, hy⟩ : ∃ x, z.2 - d * c.2 = x := ⟨_, rfl⟩
  obtain ⟨A, hA⟩ : ∃ A, x * x + y * y = A := ⟨_, rfl⟩
  have eA : sqd (sc d c) z = A := by rw [← hA, ← hx, ← hy]; rfl
  rw [eA] at hlt
  obtain ⟨γ, hγ⟩ : ∃ g, g = -(2 * (x * (d * c.1) + y * (d * c.2))) - (2 * A - 1) := ⟨_, rfl⟩
  have hl := hp.len
  have hcor : ∀ i, ev (2 * x) (2 * y) γ (cor (ps.map (sc d)) i) < 0 := by
   intro i
   rw [cor_sc]
   have hm : cor ps i ∈ ps := by
    rw [cor_mod2]
    exact List.mem_of_getElem? (cor_get (Nat.mod_lt _ (by omega)))
   have hq := h _ hm
   generalize cor ps i = q at *
   have hw : (d * (q.1 - c.1)) * (d * (q.1 - c.1)) + (d * (q.2 - c.2)) * (d * (q.2 - c.2)) < A := by
    have e1 : (d * (q.1 - c.1)) * (d * (q.1 - c.1)) + (d * (q.2 - c.2)) * (d * (q.2 - c.2)) = (d * d) * sqd c q := by unfold sqd; grind
    have e2 : (d * r) * (d * r) = (d * d) * (r * r) := by grind
    have := Int.mul_le_mul_of_nonneg_left hq (sq_nonneg d)
    omega
   have hdl := dot_lt hA hw
   have e : ev (2 * x) (2 * y) γ (sc d q) = 2 * (x * (d * (q.1 - c.1)) + y * (d * (q.2 - c.2))) - (2 * A - 1) := by rw [hγ]; unfold ev sc; dsimp only; grind
   rw [e]
   omega
  have hez : 0 < ev (2 * x) (2 * y) γ z := by
   have e : ev (2 * x) (2 * y) γ z = 2 * (x * (z.1 - d * c.1) + y * (z.2 - d * c.2)) - (2 * A - 1) := by rw [hγ]; unfold ev; grind
   rw [e, hx, hy, hA]
   omega
  have hoff : offB (ps.map (sc d)) z := by
   intro i
   cases ho : onB z (cor (ps.map (sc d)) i) (cor (ps.map (sc d)) (i + 1))
   ·rfl
   ·have := ev_on_neg ho (hcor i) (hcor (i + 1))
    omega
  have hw : wn (ps.map (sc d)) z = 0 := by
   unfold wn
   rw [sumN_congr (g := fun i => (fun i => -gp z (decide (2 * x < 0)) (cor (ps.map (sc d)) i)) (i + 1) - (fun i => -gp z (decide (2 * x < 0)) (cor (ps.map (sc d)) i)) i) _ (fun i _ => by rw [cw_sep (hcor i) (hcor (i + 1)) hez]; dsimp only; omega)]
   refine (sumN_tel (fun i => -gp z (decide (2 * x < 0)) (cor (ps.map (sc d)) i)) _).trans ?_
   rw [cor_len]
   omega
  have := place_out (hp.sc hd) hoff hw
  omega
 ·exact hle
end Go.Proofs.YtfeccolljfkejaaGreatDoor
namespace Go.Proofs.YtfeccolljfkejaaGreatDoor
open Go.RowKit Go.Sort
/-- What a feature covers, at scale d. -/
def Cov (f : FV) (d : Int) (z : Pt) : Prop := if f.kind = 4 then False else if f.kind = 3 ∨ f.kind = 6 then 0 ≤ placeOf (f.area.map (sc d)) z else Dsk (f.x, f.y) f.rad d z
theorem valid_rng {f : FV} (h : FValid f = true) : (1 ≤ f.id ∧ f.id ≤ 100000) ∧ (0 ≤ f.dep ∧ f.dep ≤ 100000) ∧ (0 ≤ f.rad ∧ f.rad ≤ 100000) := by
 unfold FValid baseOk at h
 rw [Bool.and_eq_true, decide_eq_true_eq] at h
 omega
theorem valid_cases {f : FV} (h : FValid f = true) : (f.kind = 4 ∧ plOk f.x f.y = true ∧ LValid f.secs = true ∧ f.dep = 0) ∨ ((f.kind = 3 ∨ f.kind = 6) ∧ PValid f.area = true) ∨ ((f.kind = 1 ∨ f.kind = 2 ∨ f.kind = 5) ∧ plOk f.x f.y = true ∧ f.area = [] ∧ f.secs = []) := by
 unfold FValid at h
 rw [Bool.and_eq_true] at h
 have h := h.2
 by_cases c1 : isDisc f.kind = true
 ·rw [if_pos c1] at h
  unfold isDisc at c1
  unfold discOk at h
  simp only [Bool.and_eq_true, decide_eq_true_eq, List.length_eq_zero_iff] at h c1
  exact .inr (.inr ⟨c1, h.1, h.2.2.1, h.2.2.2⟩)
 ·rw [if_neg c1] at h
  by_cases c3 : f.kind = 3
  ·rw [if_pos c3] at h
   unfold areaOk at h
   rw [Bool.and_eq_true] at h
   exact .inr (.inl ⟨.inl c3, h.1⟩)
  ·rw [if_neg c3] at h
   by_cases c6 : f.kind = 6
   ·rw [if_pos c6] at h
    unfold areaOk at h
    rw [Bool.and_eq_true, Bool.and_eq_true] at h
    exact .inr (.inl ⟨.inr c6, h.2.1⟩)
   ·rw [if_neg c6] at h
    by_cases c4 : f.kind = 4
    ·rw [if_pos c4] at h
     unfold lightOk at h
     simp only [Bool.and_eq_true, decide_eq_true_eq] at h
     exact .inl ⟨c4, h.1, h.2.1, h.2.2.2.1⟩
    ·rw [if_neg c4] at h
     cases h
theorem rad_ok {r : Int} (h : 0 ≤ r ∧ r ≤ 100000) : distB r = true := by unfold distB; rw [decide_eq_true_eq]; omega
theorem dt_sqd (p q : Pt) : dt p q q = sqd q p := by unfold dt sqd; grind
theorem near_iff {p a : Pt} {r : Int} : nearB p a a r = true ↔ sqd a p ≤ r * r := by
 refine ⟨near_self, fun h => ?_⟩
 unfold nearB sqr
 rw [decide_eq_true_eq]
 have e : dt a a p = 0 := by unfold dt; grind
 rw [if_pos (by omega)]
 have e2 : dt a p p = sqd a p := by unfold dt sqd; grind
 rw [e2]
 dsimp only
 omega
theorem cover_disc {x y r : Int} {p : Pt} (hr : 0 ≤ r ∧ r ≤ 100000) (ho : plOk x y = true) : coverD x y r p = true ↔ p.ok = true ∧ sqd (x, y) p ≤ r * r := by
 unfold coverD nearOf
 by_cases hp : p.ok = true
 ·rw [if_pos (by rw [hp, rad_ok hr, show Pt.ok (x, y) = true from ho]; rfl)]
  simp [near_iff, hp]
 ·rw [if_neg (by simp only [Bool.and_eq_true]; exact fun h => hp h.1)]
  simp [hp]
/-- Which one covers all that the other one covers. -/
theorem hold_iff {f g : FV} (vf : FValid f = true) (vg : FValid g = true) (hf : f.kind ≠ 4) (hg : g.kind ≠ 4) : shHolds g f = true ↔ ∀ d z, 0 < d → Cov f d z → Cov g d z := by
 have rf := (valid_rng vf).2.2
 have rg := (valid_rng vg).2.2
 unfold shHolds Cov
 rw [if_neg hg, if_neg hf]
 rcases valid_cases vg with ⟨a, _⟩ | ⟨kg, pg⟩ | ⟨kg, og, _⟩
 ·exact absurd a hg
 ·rw [if_pos kg]
  have Pg := pv_poly pg
  rcases valid_cases vf with ⟨a, _⟩ | ⟨kf, pf⟩ | ⟨kf, of, _⟩
  ·exact absurd a hf
  ·rw [if_pos kf]
   have Pf := pv_poly pf
   unfold areaHoldsA pholdsOf
   rw [if_pos (by rw [pg, pf]; rfl)]
   simp only [if_neg hf, if_neg hg, if_pos kg, if_pos kf]
   rw [show ((0 : Int) == 0 && pholds g.area f.area) = pholds g.area f.area by simp, holds_sub Pg Pf]
   exact ⟨fun h d z hd hz => h d hd z hz, fun h d hd z hz => h d z hd hz⟩
  ·have nf : ¬ (f.kind = 3 ∨ f.kind = 6) := by omega
   rw [if_neg nf]
   simp only [if_neg hf, if_neg hg, if_pos kg, if_neg nf]
   unfold areaHoldsD discOf
   rw [if_pos (by rw [pg, rad_ok rf, show Pt.ok (f.x, f.y) = true from of]; rfl)]
   rw [show ((0 : Int) == 0 && discVal g.area (f.x, f.y) f.rad == 1) = (discVal g.area (f.x, f.y) f.rad == 1) by simp, beq_iff_eq]
   exact ⟨fun h d z hd hz => disc_cov Pg.toSimp hd h hz, fun h => disc_full Pg h⟩
 ·have ng' : ¬ (g.kind = 3 ∨ g.kind = 6) := by omega
  rw [if_neg ng']
  rcases valid_cases vf with ⟨a, _⟩ | ⟨kf, pf⟩ | ⟨kf, of, _⟩
  ·exact absurd a hf
  ·rw [if_pos kf]
   have Pf := pv_poly pf
   simp only [if_neg hf, if_neg hg, if_neg ng', if_pos kf]
   unfold discHoldsA
   rw [List.all_eq_true]
   have pok : ∀ p ∈ f.area, p.ok = true := by
    unfold PValid at pf
    simp only [Bool.and_eq_true] at pf
    exact List.all_eq_true.1 pf.1.2
   constructor
   ·intro h d z hd hz
    exact area_in Pf.toSimp rg.1 (fun p hp => ((cover_disc rg og).1 (h p hp)).2) hd hz
   ·intro h p hp
    rw [cover_disc rg og]
    refine ⟨pok p hp, ?_⟩
    obtain ⟨k, hk, rfl⟩ : ∃ k, k < f.area.length ∧ cor f.area k = p := by
     obtain ⟨k, hk, e⟩ := List.getElem_of_mem hp
     refine ⟨k, hk, ?_⟩
     have a := cor_get hk
     rw [List.getElem?_eq_getElem hk, e] at a
     injection a with a
     exact a.symm
    have h1 := h 1 (cor f.area k) (by omega) (by
     rw [sc_one, on_in hk (onB_left _ _)]
     exact Int.le_refl _)
    unfold Dsk at h1
    have e : sqd (sc 1 (g.x, g.y)) (cor f.area k) = sqd (g.x, g.y) (cor f.area k) := by unfold sqd sc; dsimp only; grind
    rw [e, Int.one_mul] at h1
    exact h1
  ·have nf : ¬ (f.kind = 3 ∨ f.kind = 6) := by omega
   rw [if_neg nf]
   simp only [if_neg hf, if_neg hg, if_neg ng', if_neg nf]
   unfold discHoldsD liesOf
   rw [if_pos (by rw [rad_ok rf, rad_ok rg, show Pt.ok (f.x, f.y) = true from of, show Pt.ok (g.x, g.y) = true from og]; rfl)]
   rw [show ((0 : Int) == 0 && liesB (f.x, f.y) f.rad (g.x, g.y) g.rad) = liesB (f.x, f.y) f.rad (g.x, g.y) g.rad by simp]
   unfold liesB
   rw [Bool.and_eq_true, decide_eq_true_eq, decide_eq_true_eq, dt_sqd]
   exact ⟨fun h d z hd hz => dsk_dsk hd rf.1 h.1 h.2 hz, fun h => far_dsk rf.1 rg.1 h⟩
theorem light_iff {f g : FV} (vf : FValid f = true) (vg : FValid g = true) (hf : f.kind = 4) : standL f g = true ↔ g.kind = 4 ∧ (g.x = f.x ∧ g.y = f.y) ∧ (holdsOf g.secs f.secs 1).1 = true := by
 unfold standL
 simp only [Bool.and_eq_true, decide_eq_true_eq]
 refine and_congr_right fun hg => and_congr_right fun _ => ?_
 rcases valid_cases vf with ⟨_, _, lf, _⟩ | ⟨a, _⟩ | ⟨a, _⟩
 ·rcases valid_cases vg with ⟨_, _, lg, _⟩ | ⟨a, _⟩ | ⟨a, _⟩
  ·have h0 : (holdsOf g.secs f.secs 1).2 = 0 := by rw [holdsOf_ok (by rw [lf, lg]; rfl)]
   unfold saferOf
   rw [h0]
   simp
  ·omega
  ·omega
 ·omega
 ·omega
theorem met_parts {f g : FV} : metB f g = true ↔ FValid f = true ∧ FValid g = true ∧ standB f g = true := by
 unfold metB standsOf
 by_cases h : (FValid f && FValid g) = true
 ·rw [if_pos h]
  rw [Bool.and_eq_true] at h
  simp [h.1, h.2]
 ·rw [if_neg h]
  rw [Bool.and_eq_true] at h
  simp
  intro a b
  exact absurd ⟨a, b⟩ h
theorem met_light {f g : FV} (hf : f.kind = 4) : metB f g = true ↔ FValid f = true ∧ FValid g = true ∧ g.kind = 4 ∧ (g.x = f.x ∧ g.y = f.y) ∧ (holdsOf g.secs f.secs 1).1 = true := by
 rw [met_parts]
 refine and_congr_right fun vf => and_congr_right fun vg => ?_
 unfold standB
 rw [if_pos hf]
 exact light_iff vf vg hf
theorem met_iff {f g : FV} (hf : f.kind ≠ 4) : metB f g = true ↔ FValid f = true ∧ FValid g = true ∧ g.kind ≠ 4 ∧ g.dep ≤ f.dep ∧ ∀ d z, 0 < d → Cov f d z → Cov g d z := by
 rw [met_parts]
 refine and_congr_right fun vf => and_congr_right fun vg => ?_
 unfold standB
 rw [if_neg hf, Bool.and_eq_true, decide_eq_true_eq]
 by_cases hg : g.kind = 4
 ·have : shHolds g f = false := by
   unfold shHolds
   rw [if_pos hg, decide_eq_false hf]
  rw [this]
  simp [hg]
 ·rw [hold_iff vf vg hf hg]
  exact ⟨fun h => ⟨hg, h.1, h.2⟩, fun h => ⟨h.2.1, h.2.2⟩⟩
theorem light_valid {f : FV} (vf : FValid f = true) (hf : f.kind = 4) : LValid f.secs = true := by
 rcases valid_cases vf with ⟨_, _, lf, _⟩ | ⟨a, _⟩ | ⟨a, _⟩
 ·exact lf
 ·omega
 ·omega
theorem met_trans {f g h : FV} (h1 : metB f g = true) (h2 : metB g h = true) : metB f h = true := by
 by_cases hf : f.kind = 4
 ·rw [met_light hf] at h1 ⊢
  obtain ⟨vf, vg, kg, e, s⟩ := h1
  rw [met_light kg] at h2
  obtain ⟨_, vh, kh, e', s'⟩ := h2
  exact ⟨vf, vh, kh, ⟨e'.1.trans e.1, e'.2.trans e.2⟩, holds_trans (light_valid vh kh) (light_valid vg kg) (light_valid vf hf) rfl s' s⟩
 ·rw [met_iff hf] at h1 ⊢
  obtain ⟨vf, vg, kg, e, s⟩ := h1
  rw [met_iff kg] at h2
  obtain ⟨_, vh, kh, e', s'⟩ := h2
  exact ⟨vf, vh, kh, Int.le_trans e' e, fun d z hd hz => s' d z hd (s d z hd hz)⟩
theorem met_refl {f : FV} (v : FValid f = true) : metB f f = true := by
 by_cases hf : f.kind = 4
 ·rw [met_light hf]
  exact ⟨v, v, hf, ⟨rfl, rfl⟩, by rw [holds_self (light_valid v hf) rfl]⟩
 ·rw [met_iff hf]
  exact ⟨v, v, hf, Int.le_refl _, fun d z _ h => h⟩
/-- What a feature covers, as the program tells it. -/
theorem cov_sh {f : FV} {p : Pt} (v : FValid f = true) (hp : p.ok = true) : shCovers f p = true ↔ Cov f 1 p := by
 have rf := (valid_rng v).2.2
 unfold shCovers Cov
 by_cases h4 : f.kind = 4
 ·rw [if_pos h4, if_pos h4]
  simp
 ·rw [if_neg h4, if_neg h4]
  rcases valid_cases v with ⟨a, _⟩ | ⟨kf, pf⟩ | ⟨kf, of, _⟩
  ·exact absurd a h4
  ·rw [if_pos kf, if_pos kf]
   unfold coverA inOf
   rw [if_pos (by rw [hp, pf]; rfl), sc_one]
   simp
  ·have nf : ¬ (f.kind = 3 ∨ f.kind = 6) := by omega
   rw [if_neg nf, if_neg nf, cover_disc rf of]
   unfold Dsk
   have e : sqd (sc 1 (f.x, f.y)) p = sqd (f.x, f.y) p := by unfold sqd sc; dsimp only; grind
   rw [e, Int.one_mul]
   exact ⟨fun h => h.2, fun h => ⟨hp, h⟩⟩
/-- What stands for a feature covers what this covers, and is not deeper. -/
theorem met_cov {f g : FV} {p : Pt} (h : metB f g = true) (hp : p.ok = true) (hc : shCovers f p = true) : shCovers g p = true ∧ g.dep ≤ f.dep := by
 have hf : f.kind ≠ 4 := fun e => by
  unfold shCovers at hc
  rw [if_pos e] at hc
  cases hc
 rw [met_iff hf] at h
 obtain ⟨vf, vg, _, e, s⟩ := h
 exact ⟨(cov_sh vg hp).2 (s 1 p (by omega) ((cov_sh vf hp).1 hc)), e⟩
end Go.Proofs.YtfeccolljfkejaaGreatDoor
