/- TopSwung in plain words: what a datum makes of a disc covers what it makes of the disc's places. -/
import Derived.Test.YtpfpamopmncifaaGreatKit
set_option linter.unusedSimpArgs false
set_option linter.unusedVariables false
namespace Go.Proofs.YtpfpamopmncifaaGreat
theorem sq_le_of {a b : Int} (hb : 0 ≤ b) (h : a * a ≤ b * b) : a ≤ b := by
 rcases Int.lt_or_le b a with h1 | h1
 ·have h2 : 0 < (a - b) * (a + b) := Int.mul_pos (by omega) (by omega)
  have e : (a - b) * (a + b) = a * a - b * b := by grind
  omega
 ·exact h1
theorem sq_abs {x c : Int} (h1 : -c ≤ x) (h2 : x ≤ c) : x * x ≤ c * c := by
 have h3 : 0 ≤ (c - x) * (c + x) := Int.mul_nonneg (by omega) (by omega)
 have e : (c - x) * (c + x) = c * c - x * x := by grind
 omega
theorem sq_nn (x : Int) : 0 ≤ x * x := by
 rcases Int.le_total 0 x with h | h
 ·exact Int.mul_nonneg h h
 ·have := Int.mul_nonneg (Int.neg_nonneg.2 h) (Int.neg_nonneg.2 h)
  rwa [Int.neg_mul_neg] at this
/-- The triangle's inequality, without roots. -/
theorem tri {u v e f G K : Int} (hG : 0 ≤ G) (hK : 0 ≤ K) (hu : u * u + v * v ≤ G * G) (he : e * e + f * f ≤ K * K) : (u + e) * (u + e) + (v + f) * (v + f) ≤ (G + K) * (G + K) := by
 have hcs : (u * e + v * f) * (u * e + v * f) ≤ (G * K) * (G * K) := by
  have h1 : (u * e + v * f) * (u * e + v * f) + (u * f - v * e) * (u * f - v * e) = (u * u + v * v) * (e * e + f * f) := by grind
  have h2 := sq_nn (u * f - v * e)
  have h3 : (u * u + v * v) * (e * e + f * f) ≤ (G * G) * (e * e + f * f) := Int.mul_le_mul_of_nonneg_right hu (by have := sq_nn e; have := sq_nn f; omega)
  have h4 : (G * G) * (e * e + f * f) ≤ (G * G) * (K * K) := Int.mul_le_mul_of_nonneg_left he (sq_nn G)
  have h5 : (G * G) * (K * K) = (G * K) * (G * K) := by grind
  omega
 have h6 := sq_le_of (Int.mul_nonneg hG hK) hcs
 have h7 : (u + e) * (u + e) + (v + f) * (v + f) = (u * u + v * v) + 2 * (u * e + v * f) + (e * e + f * f) := by grind
 have h8 : (G + K) * (G + K) = G * G + 2 * (G * K) + K * K := by grind
 omega
/-- A linear map makes nothing longer than its stretch. -/
theorem stretch_ok {a b d e s x y : Int} (h1 : a * a + d * d + (a * b + d * e) ≤ s * s) (h2 : a * a + d * d - (a * b + d * e) ≤ s * s) (h3 : b * b + e * e + (a * b + d * e) ≤ s * s) (h4 : b * b + e * e - (a * b + d * e) ≤ s * s) :
  (a * x + b * y) * (a * x + b * y) + (d * x + e * y) * (d * x + e * y) ≤ (s * s) * (x * x + y * y) := by
 have e1 : (a * x + b * y) * (a * x + b * y) + (d * x + e * y) * (d * x + e * y) = (a * a + d * d) * (x * x) + (b * b + e * e) * (y * y) + (a * b + d * e) * (2 * (x * y)) := by grind
 rw [e1]
 have hx := sq_nn x
 have hy := sq_nn y
 have hp := sq_nn (x + y)
 have hm := sq_nn (x - y)
 have ep : (x + y) * (x + y) = x * x + y * y + 2 * (x * y) := by grind
 have em : (x - y) * (x - y) = x * x + y * y - 2 * (x * y) := by grind
 generalize a * a + d * d = P at *
 generalize b * b + e * e = Q at *
 generalize a * b + d * e = R at *
 generalize s * s = S at *
 generalize x * x = X at *
 generalize y * y = Y at *
 generalize x * y = Z at *
 rw [ep] at hp
 rw [em] at hm
 have k1 : (P + R) * X ≤ S * X := Int.mul_le_mul_of_nonneg_right h1 hx
 have k2 : (P - R) * X ≤ S * X := Int.mul_le_mul_of_nonneg_right h2 hx
 have k3 : (Q + R) * Y ≤ S * Y := Int.mul_le_mul_of_nonneg_right h3 hy
 have k4 : (Q - R) * Y ≤ S * Y := Int.mul_le_mul_of_nonneg_right h4 hy
 rcases Int.le_total 0 R with hR | hR
 ·have k5 : R * (2 * Z) ≤ R * (X + Y) := Int.mul_le_mul_of_nonneg_left (by omega) hR
  have k6 : R * (X + Y) = R * X + R * Y := by grind
  have k7 : (P + R) * X = P * X + R * X := by grind
  have k8 : (Q + R) * Y = Q * Y + R * Y := by grind
  have k9 : S * (X + Y) = S * X + S * Y := by grind
  omega
 ·have k5 : (-R) * (-(2 * Z)) ≤ (-R) * (X + Y) := Int.mul_le_mul_of_nonneg_left (by omega) (by omega)
  have k5' : (-R) * (-(2 * Z)) = R * (2 * Z) := by grind
  have k6 : (-R) * (X + Y) = -(R * X) - R * Y := by grind
  have k7 : (P - R) * X = P * X - R * X := by grind
  have k8 : (Q - R) * Y = Q * Y - R * Y := by grind
  have k9 : S * (X + Y) = S * X + S * Y := by grind
  omega
/-- A carried disc has what its places may be. -/
theorem swung {a b c d e f n res s k G r px py ax ay qx qy mx my : Int} (hs : 0 ≤ s) (hk : 0 ≤ k) (hG : 0 ≤ G) (hr : 0 ≤ r) (hn : res ≤ n) (hres : 0 ≤ res)
  (h1 : a * a + d * d + (a * b + d * e) ≤ s * s) (h2 : a * a + d * d - (a * b + d * e) ≤ s * s) (h3 : b * b + e * e + (a * b + d * e) ≤ s * s) (h4 : b * b + e * e - (a * b + d * e) ≤ s * s)
  (h5 : 2 * (n * n) ≤ k * k) (h6 : r * s ≤ 1000000 * G) (h7 : (px - ax) * (px - ax) + (py - ay) * (py - ay) ≤ r * r)
  (q1 : -(1000000 * res) ≤ 1000000 * qx - (a * px + b * py + 1000000 * c)) (q2 : 1000000 * qx - (a * px + b * py + 1000000 * c) ≤ 1000000 * res)
  (q3 : -(1000000 * res) ≤ 1000000 * qy - (d * px + e * py + 1000000 * f)) (q4 : 1000000 * qy - (d * px + e * py + 1000000 * f) ≤ 1000000 * res)
  (m1 : -(1000000 * (n - res)) ≤ (a * ax + b * ay + 1000000 * c) - 1000000 * mx) (m2 : (a * ax + b * ay + 1000000 * c) - 1000000 * mx ≤ 1000000 * (n - res))
  (m3 : -(1000000 * (n - res)) ≤ (d * ax + e * ay + 1000000 * f) - 1000000 * my) (m4 : (d * ax + e * ay + 1000000 * f) - 1000000 * my ≤ 1000000 * (n - res)) :
  (qx - mx) * (qx - mx) + (qy - my) * (qy - my) ≤ (G + k) * (G + k) := by
 have hu := stretch_ok (x := px - ax) (y := py - ay) h1 h2 h3 h4
 have hu2 : (s * s) * ((px - ax) * (px - ax) + (py - ay) * (py - ay)) ≤ (s * s) * (r * r) := Int.mul_le_mul_of_nonneg_left h7 (sq_nn s)
 have hrs : 0 ≤ r * s := Int.mul_nonneg hr hs
 have hu3 : (r * s) * (r * s) ≤ (1000000 * G) * (1000000 * G) := sq_abs (by omega) h6
 have e1 : (s * s) * (r * r) = (r * s) * (r * s) := by grind
 have eu : a * (px - ax) + b * (py - ay) = (a * px + b * py) - (a * ax + b * ay) := by grind
 have ev : d * (px - ax) + e * (py - ay) = (d * px + e * py) - (d * ax + e * ay) := by grind
 have hE1 := sq_abs (x := 1000000 * (qx - mx) - (a * (px - ax) + b * (py - ay))) (c := 1000000 * n) (by rw [eu]; omega) (by rw [eu]; omega)
 have hE2 := sq_abs (x := 1000000 * (qy - my) - (d * (px - ax) + e * (py - ay))) (c := 1000000 * n) (by rw [ev]; omega) (by rw [ev]; omega)
 have en : (1000000 * n) * (1000000 * n) = 1000000000000 * (n * n) := by grind
 have ek : (1000000 * k) * (1000000 * k) = 1000000000000 * (k * k) := by grind
 have ht := tri (u := a * (px - ax) + b * (py - ay)) (v := d * (px - ax) + e * (py - ay)) (e := 1000000 * (qx - mx) - (a * (px - ax) + b * (py - ay))) (f := 1000000 * (qy - my) - (d * (px - ax) + e * (py - ay))) (G := 1000000 * G) (K := 1000000 * k) (by omega) (by omega) (by omega) (by omega)
 have e2 : a * (px - ax) + b * (py - ay) + (1000000 * (qx - mx) - (a * (px - ax) + b * (py - ay))) = 1000000 * (qx - mx) := by omega
 have e3 : d * (px - ax) + e * (py - ay) + (1000000 * (qy - my) - (d * (px - ax) + e * (py - ay))) = 1000000 * (qy - my) := by omega
 rw [e2, e3] at ht
 have e4 : 1000000 * (qx - mx) * (1000000 * (qx - mx)) = 1000000000000 * ((qx - mx) * (qx - mx)) := by grind
 have e5 : 1000000 * (qy - my) * (1000000 * (qy - my)) = 1000000000000 * ((qy - my) * (qy - my)) := by grind
 have e6 : (1000000 * G + 1000000 * k) * (1000000 * G + 1000000 * k) = 1000000000000 * ((G + k) * (G + k)) := by grind
 rw [e4, e5, e6] at ht
 omega
end Go.Proofs.YtpfpamopmncifaaGreat
