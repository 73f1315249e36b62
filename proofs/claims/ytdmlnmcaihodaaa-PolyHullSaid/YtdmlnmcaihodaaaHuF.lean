/- A polygon that bends inward nowhere is convex. A polygon that bends inward nowhere has all its corners on the left of each edge. The hull of places: a polygon that bends inward nowhere, has all of them, and lies in each such polygon. -/
import Derived.Test.YtdmlnmcaihodaaaHuC
import Derived.Test.YtdmlnmcaihodaaaBoQ
namespace Go.Proofs.Ytdmlnmcaihodaaa
set_option linter.unusedVariables false
set_option linter.unusedSimpArgs false

/-- Lines that pass through a triangle: a place stays in it until it meets one of two sides. -/
def inT (a b c p : Pt) : Prop := 0 ≤ cr a b p ∧ 0 ≤ cr b c p ∧ 0 ≤ cr c a p
theorem cr_sum (a b c p : Pt) : cr a b p + cr b c p + cr c a p = cr a b c := by unfold cr; grind
theorem exit_one {a b x w : Pt} {p q : Int} {c : Pt} (hA : 0 < cr a b c) (h1 : 0 ≤ cr a b x) (h2 : cr a b w < 0) (hb : 0 ≤ (-cr a b w) * cr b c x + cr a b x * cr b c w) (hc : 0 ≤ (-cr a b w) * cr c a x + cr a b x * cr c a w) (hp : p = -cr a b w) (hq : q = cr a b x) : meetB a b x w = true := by
  have hM : 0 < p + q := by omega
  have hAM : 0 < cr a b c * (p + q) := Int.mul_pos hA hM
  have m1 := on_mix (u := x) (v := w) (s := cr a b c * p) (r := cr a b c * q) (nn_mul (Int.le_of_lt hA) (by omega)) (nn_mul (Int.le_of_lt hA) (by omega))
  have m2 := on_mix (u := a) (v := b) (s := p * cr b c x + q * cr b c w) (r := p * cr c a x + q * cr c a w) (by rw [hp, hq]; exact hb) (by rw [hp, hq]; exact hc)
  have s1 := cr_sum a b c x
  have s2 := cr_sum a b c w
  have e1 : cr a b c * p + cr a b c * q = cr a b c * (p + q) := by grind
  have e2 : p * cr b c x + q * cr b c w + (p * cr c a x + q * cr c a w) = cr a b c * (p + q) := by
    have : p * cr b c x + q * cr b c w + (p * cr c a x + q * cr c a w) = p * (cr a b x + cr b c x + cr c a x) + q * (cr a b w + cr b c w + cr c a w) - (p * cr a b x + q * cr a b w) := by grind
    rw [this, s1, s2, hp, hq]
    grind
  rw [e1] at m1
  rw [e2] at m2
  have e3 : ((cr a b c * p) * x.1 + (cr a b c * q) * w.1, (cr a b c * p) * x.2 + (cr a b c * q) * w.2) = ((p * cr b c x + q * cr b c w) * a.1 + (p * cr c a x + q * cr c a w) * b.1, (p * cr b c x + q * cr b c w) * a.2 + (p * cr c a x + q * cr c a w) * b.2) := by
    have bary1 : ∀ z : Pt, cr a b c * z.1 = cr a b z * c.1 + cr b c z * a.1 + cr c a z * b.1 := by intro z; unfold cr; grind
    have bary2 : ∀ z : Pt, cr a b c * z.2 = cr a b z * c.2 + cr b c z * a.2 + cr c a z * b.2 := by intro z; unfold cr; grind
    have x1 := bary1 x
    have x2 := bary2 x
    have w1 := bary1 w
    have w2 := bary2 w
    refine Prod.ext ?_ ?_
    · show cr a b c * p * x.1 + cr a b c * q * w.1 = _
      rw [show cr a b c * p * x.1 + cr a b c * q * w.1 = p * (cr a b c * x.1) + q * (cr a b c * w.1) by grind, x1, w1, hp, hq]
      grind
    · show cr a b c * p * x.2 + cr a b c * q * w.2 = _
      rw [show cr a b c * p * x.2 + cr a b c * q * w.2 = p * (cr a b c * x.2) + q * (cr a b c * w.2) by grind, x2, w2, hp, hq]
      grind
  rw [e3] at m1
  have := meet_of m2 m1
  rwa [meetB_sc hAM] at this
theorem nn_mix {p q x y : Int} (hp : 0 ≤ p) (hq : 0 ≤ q) (hx : 0 ≤ x) (hy : 0 ≤ y) : 0 ≤ p * x + q * y := by
  have := nn_mul hp hx
  have := nn_mul hq hy
  omega
theorem tri_stay {a b c x w : Pt} (hA : 0 < cr a b c) (hx : inT a b c x) (hg : 0 ≤ cr c a w) (n1 : meetB a b x w = false) (n2 : meetB b c x w = false) : inT a b c w := by
  obtain ⟨x1, x2, x3⟩ := hx
  rcases Int.lt_or_le (cr a b w) 0 with c1 | c1
  · exfalso
    rcases Int.lt_or_le ((-cr a b w) * cr b c x + cr a b x * cr b c w) 0 with c2 | c2
    · -- the other side is met first
      have c3 : cr b c w < 0 := by
        rcases Int.lt_or_le (cr b c w) 0 with y | y
        · exact y
        · have := nn_mix (show 0 ≤ -cr a b w by omega) x1 x2 y
          omega
      have e : cr b c a = cr a b c := by unfold cr; grind
      have := exit_one (a := b) (b := c) (c := a) (x := x) (w := w) (by rw [e]; exact hA) x2 c3 (nn_mix (by omega) x2 x3 hg) (by
        have : (-cr b c w) * cr a b x + cr b c x * cr a b w = -((-cr a b w) * cr b c x + cr a b x * cr b c w) := by grind
        omega) rfl rfl
      rw [n2] at this
      cases this
    · have := exit_one (c := c) hA x1 c1 c2 (nn_mix (by omega) x1 x3 hg) rfl rfl
      rw [n1] at this
      cases this
  · rcases Int.lt_or_le (cr b c w) 0 with c3 | c3
    · exfalso
      have e : cr b c a = cr a b c := by unfold cr; grind
      have := exit_one (a := b) (b := c) (c := a) (x := x) (w := w) (by rw [e]; exact hA) x2 c3 (nn_mix (by omega) x2 x3 hg) (nn_mix (by omega) x2 x1 c1) rfl rfl
      rw [n2] at this
      cases this
    · exact ⟨c1, c3, hg⟩
/-- No edge is met on the way. -/
def clr (ps : List Pt) (a b : Pt) : Prop := ∀ i, meetB a b (cor ps i) (cor ps (i + 1)) = false
theorem clr.symm {ps : List Pt} {a b : Pt} (h : clr ps a b) : clr ps b a := fun i => by rw [meetB_swap1]; exact h i
theorem clr_of {ps : List Pt} (hn : 0 < ps.length) {a b : Pt} (h : ∀ i, i < ps.length → meetB a b (cor ps i) (cor ps (i + 1)) = false) : clr ps a b := by
  intro i
  have := h (i % ps.length) (Nat.mod_lt _ hn)
  rw [← cor_mod2] at this
  rw [cor_eqm (ps := ps) (i := i + 1) (k := i % ps.length + 1) (by rw [Nat.mod_add_mod])]
  exact this
theorem clr_wn {ps : List Pt} {a b : Pt} (h : clr ps a b) : wn ps a = wn ps b := wn_const fun i _ => h i
theorem clr_sc {ps : List Pt} {a b : Pt} (h : clr ps a b) {d : Int} (hd : 0 < d) : clr (ps.map (sc d)) (sc d a) (sc d b) := by
  intro i
  rw [cor_sc, cor_sc, meetB_sc hd]
  exact h i
theorem clr.off {ps : List Pt} {a b : Pt} (h : clr ps a b) : offB ps a := fun i => by
  cases c : onB a (cor ps i) (cor ps (i + 1))
  · rfl
  · have := meet_of (onB_left a b) c
    rw [h i] at this
    cases this
theorem most {f : Nat → Int} {P : Nat → Prop} : ∀ n : Nat, (∃ i, i < n ∧ P i) → ∃ i, i < n ∧ P i ∧ ∀ j, j < n → P j → f j ≤ f i
  | 0, ⟨i, hi, _⟩ => absurd hi (by omega)
  | n + 1, ⟨i, hi, hp⟩ => by
    by_cases h : ∃ i, i < n ∧ P i
    · obtain ⟨k, k1, k2, k3⟩ := most (f := f) n h
      by_cases c : P n ∧ f k < f n
      · exact ⟨n, by omega, c.1, fun j hj pj => by
          by_cases e : j = n
          · rw [e]; exact Int.le_refl _
          · have := k3 j (by omega) pj
            omega⟩
      · refine ⟨k, by omega, k2, fun j hj pj => ?_⟩
        by_cases e : j = n
        · subst e
          rcases Int.lt_or_le (f k) (f j) with x | x
          · exact absurd ⟨pj, x⟩ c
          · exact x
        · exact k3 j (by omega) pj
    · have : i = n := by
        by_cases e : i = n
        · exact e
        · exact absurd ⟨i, by omega, hp⟩ h
      subst this
      refine ⟨i, by omega, hp, fun j hj pj => ?_⟩
      by_cases e : j = i
      · rw [e]; exact Int.le_refl _
      · exact absurd ⟨j, by omega, pj⟩ h
/-- It bends inward nowhere. -/
def lefts (ps : List Pt) : Prop := ∀ i, 0 < cr (cor ps i) (cor ps (i + 1)) (cor ps (i + 2))
theorem cr_on {a b u v z : Pt} {k m : Int} (e1 : m * (z.1 - u.1) = k * (v.1 - u.1)) (e2 : m * (z.2 - u.2) = k * (v.2 - u.2)) : m * cr a b z = (m - k) * cr a b u + k * cr a b v := by
  have : m * cr a b z = m * cr a b u + ((b.1 - a.1) * (m * (z.2 - u.2)) - (b.2 - a.2) * (m * (z.1 - u.1))) := by unfold cr; grind
  rw [this, e1, e2]
  unfold cr
  grind
theorem on_nonneg {a b u v z : Pt} (h : onB z u v = true) (hu : 0 ≤ cr a b u) (hv : 0 ≤ cr a b v) : 0 ≤ cr a b z := by
  obtain ⟨k, m, k1, k2, k3, e1, e2⟩ := on_part h
  have e := cr_on (a := a) (b := b) e1 e2
  have := nn_mix (show 0 ≤ m - k by omega) k1 hu hv
  rcases Int.lt_or_le (cr a b z) 0 with c | c
  · have := (muln k3).2 c
    omega
  · exact c
theorem on_end {a b u v z : Pt} (h : onB z u v = true) : cr a b z ≤ cr a b u ∨ cr a b z ≤ cr a b v := by
  obtain ⟨k, m, k1, k2, k3, e1, e2⟩ := on_part h
  have e := cr_on (a := a) (b := b) e1 e2
  rcases Int.lt_or_le (cr a b u) (cr a b z) with c | c
  · rcases Int.lt_or_le (cr a b v) (cr a b z) with c2 | c2
    · exfalso
      have q1 := Int.mul_nonneg (show 0 ≤ m - k by omega) (show 0 ≤ cr a b z - cr a b u by omega)
      have q2 := Int.mul_nonneg k1 (show 0 ≤ cr a b z - cr a b v by omega)
      have : (m - k) * (cr a b z - cr a b u) + k * (cr a b z - cr a b v) = m * cr a b z - ((m - k) * cr a b u + k * cr a b v) := by grind
      rcases Int.lt_or_le 0 k with c3 | c3
      · have := Int.mul_pos c3 (show 0 < cr a b z - cr a b v by omega)
        omega
      · have := Int.mul_pos (show 0 < m - k by omega) (show 0 < cr a b z - cr a b u by omega)
        omega
    · exact .inr c2
  · exact .inl c
theorem onB_sc1 {d : Int} (hd : 0 < d) {p a b : Pt} (h : onB p a b = true) : onB (sc d p) (sc d a) (sc d b) = true := by rw [onB_sc hd]; exact h
theorem inT_sc {d : Int} (hd : 0 < d) {a b c p : Pt} : inT (sc d a) (sc d b) (sc d c) (sc d p) ↔ inT a b c p := by
  have hdd := dd_pos hd
  have one : ∀ u v w : Pt, 0 ≤ cr (sc d u) (sc d v) (sc d w) ↔ 0 ≤ cr u v w := by
    intro u v w
    rw [cr_sc]
    constructor
    · intro h
      rcases Int.lt_or_le (cr u v w) 0 with c | c
      · have := (muln hdd).2 c
        omega
      · exact c
    · exact fun h => nn_mul (Int.le_of_lt hdd) h
  unfold inT
  rw [one, one, one]
section
variable {ps : List Pt} (h : Poly ps) (hl : lefts ps) {a b c : Pt} (hA : 0 < cr a b c) (h1 : clr ps a b) (h2 : clr ps b c)
include h1 h2 hA in
/-- From a place on an edge in the triangle one end of the edge is in the triangle, and not nearer to the third side. -/
theorem edge_end {t : Int} (ht : 0 < t) {z : Pt} (i : Nat) (hz : onB z (sc t (cor ps i)) (sc t (cor ps (i + 1))) = true) (hT : inT (sc t a) (sc t b) (sc t c) z) :
    ∃ k, inT a b c (cor ps k) ∧ cr (sc t c) (sc t a) z ≤ t * t * cr c a (cor ps k) := by
  have hAt : 0 < cr (sc t a) (sc t b) (sc t c) := by rw [cr_sc]; exact Int.mul_pos (dd_pos ht) hA
  have m1 : meetB (sc t (cor ps i)) (sc t (cor ps (i + 1))) (sc t a) (sc t b) = false := by rw [meetB_sc ht, ← meetB_comm]; exact h1 i
  have m2 : meetB (sc t (cor ps i)) (sc t (cor ps (i + 1))) (sc t b) (sc t c) = false := by rw [meetB_sc ht, ← meetB_comm]; exact h2 i
  have g3 := hT.2.2
  rcases on_end (a := sc t c) (b := sc t a) hz with e | e
  · refine ⟨i, ?_, by rw [← cr_sc]; exact e⟩
    rw [← inT_sc ht]
    refine tri_stay hAt hT (by omega) ?_ ?_
    · rw [meetB_swap2, meetB_comm]
      exact sub_meet_any hz m1
    · rw [meetB_swap2, meetB_comm]
      exact sub_meet_any hz m2
  · refine ⟨i + 1, ?_, by rw [← cr_sc]; exact e⟩
    rw [← inT_sc ht]
    rw [onB_swap] at hz
    rw [meetB_swap1] at m1 m2
    refine tri_stay hAt hT (by omega) ?_ ?_
    · rw [meetB_swap2, meetB_comm]
      exact sub_meet_any hz m1
    · rw [meetB_swap2, meetB_comm]
      exact sub_meet_any hz m2
include h hl h1 h2 hA in
/-- No corner is in a triangle two of whose sides meet no edge, if the place between is inside. -/
theorem no_corner (hw : wn ps b ≠ 0) : ∀ k, ¬ inT a b c (cor ps k) := by
  intro k hk
  have hlen := h.len
  obtain ⟨k, kn, kT, kmax⟩ := most (f := fun i => cr c a (cor ps i)) (P := fun i => inT a b c (cor ps i)) ps.length ⟨k % ps.length, Nat.mod_lt _ (by omega), by rw [← cor_mod2]; exact hk⟩
  have kmax' : ∀ j, inT a b c (cor ps j) → cr c a (cor ps j) ≤ cr c a (cor ps k) := by
    intro j hj
    have := kmax (j % ps.length) (Nat.mod_lt _ (by omega)) (by rw [← cor_mod2]; exact hj)
    try dsimp only at this
    rwa [← cor_mod2] at this
  have hsum := cr_sum a b c (cor ps k)
  have hbb : cr c a b = cr a b c := by unfold cr; grind
  -- it is farther from the third side than the corner
  have hgx : cr c a (cor ps k) < cr a b c := by
    rcases Int.lt_or_le (cr c a (cor ps k)) (cr a b c) with x | x
    · exact x
    · exfalso
      obtain ⟨y1, y2, y3⟩ := kT
      have z1 : cr a b (cor ps k) = 0 := by omega
      have z2 : cr b c (cor ps k) = 0 := by omega
      have z3 : cr c a (cor ps k) = cr a b c := by omega
      have b1 : cr a b c * (cor ps k).1 = cr a b (cor ps k) * c.1 + cr b c (cor ps k) * a.1 + cr c a (cor ps k) * b.1 := by unfold cr; grind
      have b2 : cr a b c * (cor ps k).2 = cr a b (cor ps k) * c.2 + cr b c (cor ps k) * a.2 + cr c a (cor ps k) * b.2 := by unfold cr; grind
      rw [z1, z2, z3] at b1 b2
      simp only [Int.zero_mul, Int.zero_add] at b1 b2
      have e : cor ps k = b := Prod.ext (Int.eq_of_mul_eq_mul_left (by omega) b1) (Int.eq_of_mul_eq_mul_left (by omega) b2)
      have := meet_of (onB_right a b) (by rw [← e]; exact onB_left (cor ps k) (cor ps (k + 1)))
      rw [h1 k] at this
      cases this
  -- the neighbours are not farther
  have nb : ∀ w, meetB a b (cor ps k) w = false → meetB b c (cor ps k) w = false → (∃ j, w = cor ps j) → cr c a w ≤ cr c a (cor ps k) := by
    rintro w n1 n2 ⟨j, rfl⟩
    rcases Int.lt_or_le (cr c a (cor ps k)) (cr c a (cor ps j)) with x | x
    · have := kmax' j (tri_stay hA kT (by have := kT.2.2; omega) n1 n2)
      omega
    · exact x
  have ep : cor ps (k + ps.length - 1 + 1) = cor ps k := by rw [show k + ps.length - 1 + 1 = k + ps.length by omega, cor_per]
  have gu := nb (cor ps (k + ps.length - 1)) (by have := h1 (k + ps.length - 1); rw [ep] at this; rw [meetB_swap2]; exact this) (by have := h2 (k + ps.length - 1); rw [ep] at this; rw [meetB_swap2]; exact this) ⟨_, rfl⟩
  have gv := nb (cor ps (k + 1)) (h1 k) (h2 k) ⟨_, rfl⟩
  have ht : 0 < cr (cor ps (k + ps.length - 1)) (cor ps k) (cor ps (k + 1)) := by
    have := hl (k + ps.length - 1)
    rw [ep, show k + ps.length - 1 + 2 = k + 1 + ps.length by omega, cor_per] at this
    exact this
  have hr : rwed (cor ps (k + ps.length - 1)) (cor ps k) (cor ps (k + 1)) (df b (cor ps k)) := by
    unfold rwed
    rw [if_pos ht]
    rcases Int.lt_or_le (xr (cor ps k) (cor ps (k + 1)) (df b (cor ps k))) 0 with x | x
    · exact .inl x
    · rcases Int.lt_or_le (xr (cor ps (k + ps.length - 1)) (cor ps k) (df b (cor ps k))) 0 with y | y
      · exact .inr y
      · exfalso
        have e : cr (cor ps (k + ps.length - 1)) (cor ps k) (cor ps (k + 1)) * (cr c a b - cr c a (cor ps k)) = xr (cor ps (k + ps.length - 1)) (cor ps k) (df b (cor ps k)) * (cr c a (cor ps (k + 1)) - cr c a (cor ps k)) + xr (cor ps k) (cor ps (k + 1)) (df b (cor ps k)) * (cr c a (cor ps (k + ps.length - 1)) - cr c a (cor ps k)) := by unfold cr xr df; grind
        have p0 := Int.mul_pos ht (show 0 < cr c a b - cr c a (cor ps k) by omega)
        have p1 := Int.mul_nonneg y (show 0 ≤ -(cr c a (cor ps (k + 1)) - cr c a (cor ps k)) by omega)
        have p2 := Int.mul_nonneg x (show 0 ≤ -(cr c a (cor ps (k + ps.length - 1)) - cr c a (cor ps k)) by omega)
        rw [Int.mul_neg] at p1 p2
        omega
  obtain ⟨N, hN⟩ := (out_cor h k hr).and (Ev.ge 1)
  obtain ⟨⟨_, w0⟩, hN1⟩ := hN N (Int.le_refl _)
  have hNp : 0 < N := by omega
  -- from just above the corner to b
  have hcl : wn (ps.map (sc N)) (nr N (cor ps k) (df b (cor ps k))) = wn (ps.map (sc N)) (sc N b) := by
    refine wn_const fun i hi => ?_
    cases hm : meetB (nr N (cor ps k) (df b (cor ps k))) (sc N b) (cor (ps.map (sc N)) i) (cor (ps.map (sc N)) (i + 1))
    · rfl
    · exfalso
      obtain ⟨t, ht0, z, z1, z2⟩ := meet_common hm
      rw [cor_sc, cor_sc, sc_sc, sc_sc] at z2
      rw [sc_sc] at z1
      have htN : 0 < t * N := Int.mul_pos ht0 hNp
      -- where the start lies
      have start : ∀ u v : Pt, cr (sc (t * N) u) (sc (t * N) v) (sc t (nr N (cor ps k) (df b (cor ps k)))) = t * (t * N) * ((N - 1) * cr u v (cor ps k) + cr u v b) := by
        intro u v
        unfold cr sc nr df
        grind
      have cb : ∀ u v : Pt, cr (sc (t * N) u) (sc (t * N) v) (sc (t * N) b) = t * (t * N) * (N * cr u v b) := by
        intro u v
        rw [cr_sc]
        grind
      have htt : 0 ≤ t * (t * N) := Int.le_of_lt (Int.mul_pos ht0 htN)
      have nonneg : ∀ u v : Pt, 0 ≤ cr u v (cor ps k) → 0 ≤ cr u v b → 0 ≤ cr (sc (t * N) u) (sc (t * N) v) z := by
        intro u v p q
        refine on_nonneg z1 ?_ ?_
        · rw [start]
          refine nn_mul htt ?_
          have := nn_mul (show 0 ≤ N - 1 by omega) p
          omega
        · rw [cb]
          exact nn_mul htt (nn_mul (by omega) q)
      have b1 : cr a b b = 0 := by unfold cr; grind
      have b2 : cr b c b = 0 := by unfold cr; grind
      have hT : inT (sc (t * N) a) (sc (t * N) b) (sc (t * N) c) z := ⟨nonneg a b kT.1 (by omega), nonneg b c kT.2.1 (by omega), nonneg c a kT.2.2 (by omega)⟩
      obtain ⟨j, jT, jg⟩ := edge_end hA h1 h2 htN i z2 hT
      have jm := kmax' j jT
      -- it is farther than the corner
      have far : t * N * (t * N) * cr c a (cor ps k) < cr (sc (t * N) c) (sc (t * N) a) z := by
        obtain ⟨q, m, q1, q2, q3, e1, e2⟩ := on_part z1
        have e := cr_on (a := sc (t * N) c) (b := sc (t * N) a) e1 e2
        rw [start, cb] at e
        have d : 0 < cr c a b - cr c a (cor ps k) := by omega
        have e5 : m * (cr (sc (t * N) c) (sc (t * N) a) z - t * N * (t * N) * cr c a (cor ps k)) = t * (t * N) * (((m - q) + q * N) * (cr c a b - cr c a (cor ps k))) := by
          rw [Int.mul_sub, e]
          grind
        have q5 : 0 < (m - q) + q * N := by
          rcases Int.lt_or_le q m with x | x
          · have := nn_mul q1 (show 0 ≤ N by omega)
            omega
          · have : q = m := by omega
            subst this
            have := Int.mul_pos q3 hNp
            omega
        have q6 := Int.mul_pos (Int.mul_pos ht0 htN) (Int.mul_pos q5 d)
        rw [← e5] at q6
        have := pos_of (x := cr (sc (t * N) c) (sc (t * N) a) z - t * N * (t * N) * cr c a (cor ps k)) (y := m) (by rw [Int.mul_comm]; exact q6) q3
        omega
      have := (mulle (Int.mul_pos htN htN)).2 jm
      omega
  rw [w0, wn_sc hNp] at hcl
  exact hw hcl.symm
include h hl h1 h2 hA in
theorem clr_tri (hw : wn ps b ≠ 0) : clr ps a c := by
  intro i
  cases hm : meetB a c (cor ps i) (cor ps (i + 1))
  · rfl
  · exfalso
    obtain ⟨t, ht, z, z1, z2⟩ := meet_common hm
    have a1 : cr a b a = 0 := by unfold cr; grind
    have a2 : cr b c c = 0 := by unfold cr; grind
    have a3 : cr c a c = 0 := by unfold cr; grind
    have a4 : cr c a a = 0 := by unfold cr; grind
    have a5 : cr b c a = cr a b c := by unfold cr; grind
    have tt := Int.le_of_lt (dd_pos ht)
    have nn : ∀ u v : Pt, 0 ≤ cr u v a → 0 ≤ cr u v c → 0 ≤ cr (sc t u) (sc t v) z := fun u v p q => on_nonneg z1 (by rw [cr_sc]; exact nn_mul tt p) (by rw [cr_sc]; exact nn_mul tt q)
    obtain ⟨k, kT, _⟩ := edge_end hA h1 h2 ht i z2 ⟨nn a b (by omega) (by omega), nn b c (by omega) (by omega), nn c a (by omega) (by omega)⟩
    exact no_corner h hl hA h1 h2 hw k kT
end
theorem flat_cover {a b c z : Pt} (h : cr a b c = 0) (hz : onB z a c = true) : onB z a b = true ∨ onB z b c = true := by
  by_cases hac : a = c
  · subst hac
    have := (onB_iff.1 hz).2
    have e : z = a := Prod.ext (by omega) (by omega)
    rw [e]
    exact .inl (onB_left _ _)
  · have hs := al_self hac
    have hb : cr a c b = 0 := by unfold cr at *; grind
    have hzl := on_zero hz
    have lnb : ∀ p : Pt, cr a c p = 0 → sc (al a c c) p = ln (sc (al a c c) a) (df c a) (al a c p) := by
      intro p hp
      have i1 := al_id1 a c p
      have i2 := al_id2 a c p
      rw [hp] at i1 i2
      unfold sc ln df
      refine Prod.ext ?_ ?_ <;> (dsimp only; grind)
    have hv : df c a ≠ (0, 0) := by
      intro e
      have e1 := congrArg Prod.fst e
      have e2 := congrArg Prod.snd e
      unfold df at e1 e2
      exact hac (Prod.ext (by omega) (by omega))
    have la : sc (al a c c) a = ln (sc (al a c c) a) (df c a) 0 := by unfold ln; refine Prod.ext ?_ ?_ <;> (dsimp only; grind)
    have hcc : cr a c c = 0 := by unfold cr; grind
    have zz := lnb z hzl
    have bb := lnb b hb
    have cc := lnb c hcc
    rw [← onB_sc hs z a c, zz, cc] at hz
    conv at hz => lhs; arg 2; rw [la]
    have j := (on_line hv).1 hz
    rw [← onB_sc hs z a b, ← onB_sc hs z b c, zz, bb, cc]
    rcases Int.lt_or_le (al a c b) (al a c z) with x | x
    · exact .inr ((on_line hv).2 (by omega))
    · refine .inl ?_
      conv => lhs; arg 2; rw [la]
      exact (on_line hv).2 (by omega)
/-- In a polygon that bends inward nowhere: what sees what, sees what that sees. -/
theorem clr.trans {ps : List Pt} (h : Poly ps) (hl : lefts ps) {a b c : Pt} (h1 : clr ps a b) (h2 : clr ps b c) (hw : wn ps b ≠ 0) : clr ps a c := by
  rcases Int.lt_trichotomy (cr a b c) 0 with x | x | x
  · have e : cr c b a = -cr a b c := by unfold cr; grind
    exact (clr_tri h hl (a := c) (b := b) (c := a) (by omega) h2.symm h1.symm hw).symm
  · intro i
    cases hm : meetB a c (cor ps i) (cor ps (i + 1))
    · rfl
    · exfalso
      obtain ⟨t, ht, z, z1, z2⟩ := meet_common hm
      rcases flat_cover (a := sc t a) (b := sc t b) (c := sc t c) (by rw [cr_sc, x, Int.mul_zero]) z1 with y | y
      · have := meet_of y z2
        rw [meetB_sc ht, h1 i] at this
        cases this
      · have := meet_of y z2
        rw [meetB_sc ht, h2 i] at this
        cases this
  · exact clr_tri h hl x h1 h2 hw
end Go.Proofs.Ytdmlnmcaihodaaa
namespace Go.Proofs.Ytdmlnmcaihodaaa
set_option linter.unusedVariables false
set_option linter.unusedSimpArgs false

theorem crN (N : Int) (a b c m k l : Pt) : cr (nr N a m) (nr N b k) (nr N c l) = N * N * cr a b c + N * (((b.1 - a.1) * (l.2 - m.2) - (b.2 - a.2) * (l.1 - m.1)) + ((k.1 - m.1) * (c.2 - a.2) - (k.2 - m.2) * (c.1 - a.1))) + ((k.1 - m.1) * (l.2 - m.2) - (k.2 - m.2) * (l.1 - m.1)) := by
  unfold cr nr
  grind
theorem ev_cr {a b c : Pt} (h : 0 < cr a b c) (m k l : Pt) : Ev fun N => 0 < cr (nr N a m) (nr N b k) (nr N c l) := Ev.quad' h fun N => crN N a b c m k l
theorem cor_tr (ps : List Pt) (i : Nat) : cor (ps.map tr) i = tr (cor ps i) := by
  unfold cor
  rw [List.length_map, List.getD_eq_getElem?_getD, List.getD_eq_getElem?_getD, List.getElem?_map]
  cases ps[i % ps.length]? <;> rfl
theorem Simp.tr {ps : List Pt} (h : Simp ps) : Simp (ps.map tr) := by
  refine ⟨by rw [List.length_map]; exact h.len, fun i => ?_, fun i k => ?_⟩
  · rw [cor_tr, cor_tr, cor_tr, cr_tr]
    have := h.bend i
    omega
  · rw [List.length_map, cor_tr, cor_tr, cor_tr, cor_tr, meetB_tr]
    exact h.far i k
/-- Just inside of a corner. -/
def mi (a b c : Pt) : Pt := (a.1 + c.1 - 2 * b.1, a.2 + c.2 - 2 * b.2)
def inW (N : Int) (ps : List Pt) (i : Nat) : Pt := nr N (cor ps (i + 1)) (mi (cor ps i) (cor ps (i + 1)) (cor ps (i + 2)))
theorem inW_per (N : Int) (ps : List Pt) (i : Nat) : inW N ps (i + ps.length) = inW N ps i := by
  unfold inW
  rw [cor_per, show i + ps.length + 1 = i + 1 + ps.length by omega, show i + ps.length + 2 = i + 2 + ps.length by omega, cor_per, cor_per]
theorem inW_mod (N : Int) (ps : List Pt) (i : Nat) : inW N ps i = inW N ps (i % ps.length) := by
  unfold inW
  rw [cor_mod2 ps i, cor_eqm (ps := ps) (i := i + 1) (k := i % ps.length + 1) (by rw [Nat.mod_add_mod]), cor_eqm (ps := ps) (i := i + 2) (k := i % ps.length + 2) (by rw [Nat.mod_add_mod])]
theorem tr_nr (N : Int) (p m : Pt) : tr (nr N p m) = nr N (tr p) (tr m) := rfl
theorem inW_tr {ps : List Pt} (hl : lefts ps) (hn : 0 < ps.length) (N : Int) (i : Nat) : cor (side N (ps.map tr)) (i + 1) = tr (inW N ps i) := by
  rw [cor_side (by rw [List.length_map]; exact hn), cor_tr, cor_tr, cor_tr]
  have := hl i
  have e : mv (tr (cor ps i)) (tr (cor ps (i + 1))) (tr (cor ps (i + 2))) = tr (mi (cor ps i) (cor ps (i + 1)) (cor ps (i + 2))) := by
    unfold mv
    rw [cr_tr, if_neg (by omega)]
    rfl
  rw [e]
  rfl
theorem inW_clear {ps : List Pt} (h : Simp ps) (hl : lefts ps) : Ev fun N => 0 < N ∧ ∀ i, clr (ps.map (sc N)) (inW N ps i) (inW N ps (i + 1)) := by
  have hn := h.len
  refine ((side_sep h.tr).and (Ev.ge 1)).mono fun N ⟨hs, hN⟩ => ⟨by omega, ?_⟩
  have one : ∀ i, i < ps.length → clr (ps.map (sc N)) (inW N ps i) (inW N ps (i + 1)) := by
    intro i hi
    refine clr_of (by rw [List.length_map]; omega) fun k hk => ?_
    rw [List.length_map] at hk
    have := (hs i (by rw [List.length_map]; exact hi) k (by rw [List.length_map]; exact hk)).nomeet
    rw [show i + 2 = i + 1 + 1 by omega, inW_tr hl (by omega), inW_tr hl (by omega), cor_tr, cor_tr] at this
    rw [← meetB_tr, cor_sc, cor_sc]
    exact this
  intro i
  have := one (i % ps.length) (Nat.mod_lt _ (by omega))
  rw [inW_mod N ps i, inW_mod N ps (i + 1), show (i + 1) % ps.length = (i % ps.length + 1) % ps.length by rw [Nat.mod_add_mod], ← inW_mod N ps (i % ps.length + 1)]
  exact this
theorem inW_one {ps : List Pt} (h : Poly ps) (hl : lefts ps) : Ev fun N => ∀ i, wn (ps.map (sc N)) (inW N ps i) = 1 := by
  have hn := h.len
  have one : Ev fun N => ∀ i, i < ps.length → wn (ps.map (sc N)) (inW N ps i) = 1 := by
    refine Ev.all _ fun i hi => ?_
    refine (cor_in h hi (f := mi (cor ps i) (cor ps (i + 1)) (cor ps (i + 2))) ?_).mono fun N hN => hN.2
    unfold lwed
    have := hl i
    rw [if_pos this]
    have e1 : xr (cor ps (i + 1)) (cor ps (i + 2)) (mi (cor ps i) (cor ps (i + 1)) (cor ps (i + 2))) = cr (cor ps i) (cor ps (i + 1)) (cor ps (i + 2)) := by unfold xr mi cr; grind
    have e2 : xr (cor ps i) (cor ps (i + 1)) (mi (cor ps i) (cor ps (i + 1)) (cor ps (i + 2))) = cr (cor ps i) (cor ps (i + 1)) (cor ps (i + 2)) := by unfold xr mi cr; grind
    omega
  refine one.mono fun N hN i => ?_
  rw [inW_mod]
  exact hN _ (Nat.mod_lt _ (by omega))
theorem lefts_sc {ps : List Pt} (hl : lefts ps) {d : Int} (hd : 0 < d) : lefts (ps.map (sc d)) := by
  intro i
  rw [cor_sc, cor_sc, cor_sc, cr_sc]
  exact Int.mul_pos (dd_pos hd) (hl i)
/-- All places just inside of corners see each other. -/
theorem inW_all {ps : List Pt} (h : Poly ps) (hl : lefts ps) : Ev fun N => 0 < N ∧ (∀ i, wn (ps.map (sc N)) (inW N ps i) ≠ 0) ∧ ∀ i j, clr (ps.map (sc N)) (inW N ps i) (inW N ps j) := by
  have hn := h.len
  refine ((inW_clear h.toSimp hl).and (inW_one h hl)).mono fun N ⟨⟨hN, hc⟩, hw⟩ => ?_
  have hw' : ∀ i, wn (ps.map (sc N)) (inW N ps i) ≠ 0 := fun i => by rw [hw]; omega
  have go : ∀ d i, clr (ps.map (sc N)) (inW N ps i) (inW N ps (i + d + 1)) := by
    intro d
    induction d with
    | zero => exact fun i => hc i
    | succ d ih => exact fun i => clr.trans (h.sc hN) (lefts_sc hl hN) (ih i) (hc (i + d + 1)) (hw' _)
  refine ⟨hN, hw', fun i j => ?_⟩
  have e : inW N ps j = inW N ps (i % ps.length + (ps.length - i % ps.length + j % ps.length + ps.length - 1) + 1) := by
    have hm := Nat.mod_lt i (show 0 < ps.length by omega)
    rw [show i % ps.length + (ps.length - i % ps.length + j % ps.length + ps.length - 1) + 1 = j % ps.length + ps.length + ps.length by omega, inW_per, inW_per, ← inW_mod]
  rw [e, inW_mod N ps i]
  exact go _ _
theorem lefts_left {ps : List Pt} (h : Poly ps) (hl : lefts ps) (k m : Nat) : 0 ≤ cr (cor ps (k + 1)) (cor ps (k + 2)) (cor ps (m + 1)) := by
  rcases Int.lt_or_le (cr (cor ps (k + 1)) (cor ps (k + 2)) (cor ps (m + 1))) 0 with c | c
  · exfalso
    have tA := hl k
    have tB := hl (k + 1)
    rw [show k + 1 + 1 = k + 2 by omega, show k + 1 + 2 = k + 3 by omega] at tB
    have eB : inW 0 ps 0 = inW 0 ps 0 := rfl
    -- the triangle
    have E1 : Ev fun N => 0 < cr (inW N ps (k + 1)) (inW N ps k) (inW N ps m) := by
      unfold inW
      refine ev_cr ?_ _ _ _
      rw [show k + 1 + 1 = k + 2 by omega]
      have : cr (cor ps (k + 2)) (cor ps (k + 1)) (cor ps (m + 1)) = -cr (cor ps (k + 1)) (cor ps (k + 2)) (cor ps (m + 1)) := by unfold cr; grind
      omega
    have zN : ∀ N : Int, sc N (md (cor ps (k + 1)) (cor ps (k + 2))) = nr N (md (cor ps (k + 1)) (cor ps (k + 2))) (0, 0) := fun N => (nr_zero N _).symm
    have E2 : Ev fun N => 0 < cr (sc 2 (inW N ps k)) (sc 2 (inW N ps m)) (sc N (md (cor ps (k + 1)) (cor ps (k + 2)))) := by
      unfold inW
      have := ev_cr (a := sc 2 (cor ps (k + 1))) (b := sc 2 (cor ps (m + 1))) (c := md (cor ps (k + 1)) (cor ps (k + 2))) (by
        have : cr (sc 2 (cor ps (k + 1))) (sc 2 (cor ps (m + 1))) (md (cor ps (k + 1)) (cor ps (k + 2))) = -(2 * cr (cor ps (k + 1)) (cor ps (k + 2)) (cor ps (m + 1))) := by unfold cr sc md; grind
        omega) (sc 2 (mi (cor ps k) (cor ps (k + 1)) (cor ps (k + 2)))) (sc 2 (mi (cor ps m) (cor ps (m + 1)) (cor ps (m + 2)))) (0, 0)
      refine this.mono fun N hN => ?_
      rw [nr_sc2, nr_sc2, ← zN] at hN
      exact hN
    have E3 : Ev fun N => 0 < cr (sc 2 (inW N ps m)) (sc 2 (inW N ps (k + 1))) (sc N (md (cor ps (k + 1)) (cor ps (k + 2)))) := by
      unfold inW
      rw [show k + 1 + 1 = k + 2 by omega, show k + 1 + 2 = k + 3 by omega]
      have := ev_cr (a := sc 2 (cor ps (m + 1))) (b := sc 2 (cor ps (k + 2))) (c := md (cor ps (k + 1)) (cor ps (k + 2))) (by
        have : cr (sc 2 (cor ps (m + 1))) (sc 2 (cor ps (k + 2))) (md (cor ps (k + 1)) (cor ps (k + 2))) = -(2 * cr (cor ps (k + 1)) (cor ps (k + 2)) (cor ps (m + 1))) := by unfold cr sc md; grind
        omega) (sc 2 (mi (cor ps m) (cor ps (m + 1)) (cor ps (m + 2)))) (sc 2 (mi (cor ps (k + 1)) (cor ps (k + 2)) (cor ps (k + 3)))) (0, 0)
      refine this.mono fun N hN => ?_
      rw [nr_sc2, nr_sc2, ← zN] at hN
      exact hN
    have E4 : Ev fun N => 0 < cr (sc 2 (inW N ps (k + 1))) (sc 2 (inW N ps k)) (sc N (md (cor ps (k + 1)) (cor ps (k + 2)))) := by
      unfold inW
      rw [show k + 1 + 1 = k + 2 by omega, show k + 1 + 2 = k + 3 by omega]
      generalize cor ps k = P at *
      generalize cor ps (k + 1) = A at *
      generalize cor ps (k + 2) = B at *
      generalize cor ps (k + 3) = Q at *
      refine Ev.lin' (A := 2 * (cr P A B + cr A B Q)) (B := cr (sc 2 (mi A B Q)) (sc 2 (mi P A B)) (0, 0)) (by omega) fun N => ?_
      unfold cr sc nr md mi
      grind
    obtain ⟨N, hN⟩ := ((inW_all h hl).and ((E1.and E2).and (E3.and E4)))
    obtain ⟨⟨hN1, hw, hc⟩, ⟨e1, e2⟩, e3, e4⟩ := hN N (Int.le_refl _)
    have hz := (mid_ins (c := cor ps (k + 1)) (b := cor ps (k + 2)) (bend_ne h.toSimp k)).1
    have hz2 := onB_sc1 hN1 hz
    obtain ⟨j, jT, _⟩ := edge_end (ps := ps.map (sc N)) (a := inW N ps (k + 1)) (b := inW N ps k) (c := inW N ps m) e1 (hc _ _) (hc _ _) (t := 2) (by omega) (k + 1) (z := sc N (md (cor ps (k + 1)) (cor ps (k + 2)))) (by
      rw [cor_sc, cor_sc, show k + 1 + 1 = k + 2 by omega, sc_sc, sc_sc, Int.mul_comm 2 N, ← sc_sc, ← sc_sc]
      exact hz2) ⟨Int.le_of_lt e4, Int.le_of_lt e2, Int.le_of_lt e3⟩
    exact no_corner (h.sc hN1) (lefts_sc hl hN1) e1 (hc _ _) (hc _ _) (hw _) j jT
  · exact c
theorem cor_inj {ps : List Pt} (h : Simp ps) {i j : Nat} (hi : i < ps.length) (hj : j < ps.length) (e : cor ps i = cor ps j) : i = j := by
  have hl := h.len
  by_cases c : i = j
  · exact c
  · exfalso
    by_cases c1 : j = (i + 1) % ps.length
    · rw [c1, ← cor_mod2] at e
      exact edge_ne h i e
    · by_cases c2 : i = (j + 1) % ps.length
      · rw [c2, ← cor_mod2] at e
        exact edge_ne h j e.symm
      · have := meet_of (onB_left (cor ps i) (cor ps (i + 1))) (by rw [e]; exact onB_left (cor ps j) (cor ps (j + 1)))
        rw [h.far i j hi hj (fun x => c x.symm) c1 c2] at this
        cases this
theorem poly_cvx {ps : List Pt} (h : Poly ps) (hl : lefts ps) : Cvx ps := by
  have hn := h.len
  refine ⟨hn, fun i j => ?_, hl, fun i j hi hj e => cor_inj h.toSimp hi hj e⟩
  have := lefts_left h hl (i + ps.length - 1) (j + ps.length - 1)
  rw [show i + ps.length - 1 + 1 = i + ps.length by omega, show i + ps.length - 1 + 2 = i + 1 + ps.length by omega, show j + ps.length - 1 + 1 = j + ps.length by omega, cor_per, cor_per, cor_per] at this
  exact this
end Go.Proofs.Ytdmlnmcaihodaaa
namespace Go.Proofs.Ytdmlnmcaihodaaa
set_option linter.unusedVariables false
set_option linter.unusedSimpArgs false
open Go.Lib

theorem leQ_lt {u v : Pt} (h : leQ u v = true) (hne : u ≠ v) : ltP u v := by
  rw [leQ_iff] at h
  unfold ltP
  rcases h with h | ⟨h1, h2⟩
  · exact .inl h
  · have : u.2 ≠ v.2 := fun e => hne (Prod.ext h1 e)
    omega
theorem comp_inv (l : List Pt) (hs : l.Pairwise fun a b => leQ a b = true) : ∀ m, m ≤ l.length → (compactUpTo l.toArray m).Pairwise ltP ∧ (∀ j, j < m → cor l j ∈ compactUpTo l.toArray m) ∧ (0 < m → ∀ x, x ∈ compactUpTo l.toArray m → x = cor l (m - 1) ∨ ltP x (cor l (m - 1)))
  | 0, _ => ⟨by simp [compactUpTo], fun j hj => by omega, fun h => by omega⟩
  | m + 1, hm => by
    obtain ⟨h1, h2, h3⟩ := comp_inv l hs m (by omega)
    have gm : l.toArray[m]! = cor l m := by
      have a := cor_get (ps := l) (k := m) (by omega)
      have b := bangQ_get (l := l) (j := m) (by omega)
      rw [a] at b
      injection b with b
      exact b.symm
    rw [compactUpTo_succ, gm, Nat.add_sub_cancel]
    by_cases hk : keeps l.toArray m = true
    · rw [if_pos hk]
      have hlt : 0 < m → ltP (cor l (m - 1)) (cor l m) := by
        intro h0
        refine leQ_lt ?_ ?_
        · have := List.pairwise_iff_getElem.1 hs (m - 1) m (by omega) (by omega) (by omega)
          have a := cor_get (ps := l) (k := m) (by omega)
          have b := cor_get (ps := l) (k := m - 1) (by omega)
          rw [List.getElem?_eq_getElem (by omega)] at a b
          injection a with a
          injection b with b
          rw [← a, ← b]
          exact this
        · intro e
          unfold keeps at hk
          rw [decide_eq_true_eq] at hk
          rcases hk with hk | hk
          · omega
          · refine hk ?_
            rw [gm, ← e]
            have a := cor_get (ps := l) (k := m - 1) (by omega)
            have b := bangQ_get (l := l) (j := m - 1) (by omega)
            rw [a] at b
            injection b
      have hx : ∀ x, x ∈ compactUpTo l.toArray m → ltP x (cor l m) := by
        intro x hx
        have h0 : 0 < m := by
          rcases Nat.eq_zero_or_pos m with z | z
          · subst z
            simp [compactUpTo] at hx
          · exact z
        rcases h3 h0 x hx with e | e
        · rw [e]
          exact hlt h0
        · exact e.trans (hlt h0)
      refine ⟨List.pairwise_append.2 ⟨h1, by simp, fun a ha b hb => by rw [List.mem_singleton.1 hb]; exact hx a ha⟩, fun j hj => ?_, fun _ x hxx => ?_⟩
      · by_cases c : j = m
        · rw [c]
          simp
        · exact List.mem_append_left _ (h2 j (by omega))
      · rcases List.mem_append.1 hxx with c | c
        · exact .inr (hx x c)
        · exact .inl (List.mem_singleton.1 c)
    · rw [if_neg hk, List.append_nil]
      unfold keeps at hk
      rw [decide_eq_true_eq, not_or, ne_eq, Decidable.not_not] at hk
      have e : cor l m = cor l (m - 1) := by
        rw [← gm, hk.2]
        have a := cor_get (ps := l) (k := m - 1) (by omega)
        have b := bangQ_get (l := l) (j := m - 1) (by omega)
        rw [a] at b
        injection b with b
        exact b.symm
      refine ⟨h1, fun j hj => ?_, fun _ x hx => ?_⟩
      · by_cases c : j = m
        · rw [c, e]
          exact h2 (m - 1) (by omega)
        · exact h2 j (by omega)
      · rw [e]
        exact h3 (by omega) x hx
theorem places_inv (ps : List Pt) : (placesOf ps).Pairwise ltP ∧ ∀ x, x ∈ placesOf ps ↔ x ∈ ps := by
  have hs : (sortQ ps).Pairwise fun a b => leQ a b = true := List.pairwise_mergeSort (le := leQ) (fun a b c h1 h2 => leQ_trans h1 h2) (fun a b => by rcases leQ_total a b with h | h <;> rw [h] <;> simp) ps
  obtain ⟨h1, h2, _⟩ := comp_inv (sortQ ps) hs _ (Nat.le_refl _)
  refine ⟨h1, fun x => ⟨fun h => sortQ_mem.1 (compQ_mem h), fun h => ?_⟩⟩
  obtain ⟨j, hj, e⟩ := List.getElem_of_mem (sortQ_mem.2 h)
  have := h2 j hj
  have a := cor_get (ps := sortQ ps) (k := j) hj
  rw [List.getElem?_eq_getElem hj, e] at a
  injection a with a
  rw [a]
  exact this
theorem cor_ng (ps : List Pt) (i : Nat) : cor (ps.map ng) i = ng (cor ps i) := by
  unfold cor
  rw [List.length_map, List.getD_eq_getElem?_getD, List.getD_eq_getElem?_getD, List.getElem?_map]
  cases ps[i % ps.length]? <;> rfl
theorem tn_ng (a b c : Pt) : tn (ng a) (ng b) (ng c) = tn a b c := by unfold tn; rw [cr_ng]
theorem popK_ng (out : List Pt) (q : Pt) : ∀ k, popK (out.map ng) (ng q) k = popK out q k
  | 0 => rfl
  | 1 => rfl
  | k + 2 => by
    unfold popK
    rw [cor_ng, cor_ng, tn_ng, popK_ng out q (k + 1)]
theorem push_ng (M : List Pt) (q : Pt) : pushQ (M.map ng) (ng q) = (pushQ M q).map ng := by
  unfold pushQ
  rw [List.length_map, popK_ng, List.map_append, List.map_take]
  rfl
theorem fold_ng : ∀ (L M : List Pt), (L.map ng).foldl pushQ (M.map ng) = (L.foldl pushQ M).map ng
  | [], _ => rfl
  | q :: L, M => by
    rw [List.map_cons, List.foldl_cons, push_ng, List.foldl_cons]
    exact fold_ng L _
theorem half_ng (L : List Pt) : halfL (L.map ng) = (halfL L).map ng := fold_ng L []
theorem ltP_ng {a b : Pt} (h : ltP a b) : ltP (ng b) (ng a) := by unfold ltP ng at *; dsimp only; omega
theorem ng_ltP {a b : Pt} (h : ltP (ng a) (ng b)) : ltP b a := by unfold ltP ng at *; dsimp only at h; omega
theorem ng_inj {a b : Pt} (h : ng a = ng b) : a = b := by
  have e1 := congrArg Prod.fst h
  have e2 := congrArg Prod.snd h
  unfold ng at e1 e2
  exact Prod.ext (by dsimp only at e1; omega) (by dsimp only at e2; omega)
/-- The corners of half a hull from the last place to the first one. -/
structure Dwn (S C : List Pt) : Prop where
  ne : 0 < C.length
  mem : ∀ c, c ∈ C → c ∈ S
  inc : ∀ i, i + 1 < C.length → ltP (cor C (i + 1)) (cor C i)
  bend : ∀ i, i + 2 < C.length → 0 < cr (cor C i) (cor C (i + 1)) (cor C (i + 2))
  left : ∀ i, i + 1 < C.length → ∀ p, p ∈ S → 0 ≤ cr (cor C i) (cor C (i + 1)) p
  low : ∀ p, p ∈ S → p = cor C 0 ∨ ltP p (cor C 0)
  high : ∀ p, p ∈ S → p = cor C (C.length - 1) ∨ ltP (cor C (C.length - 1)) p
theorem dwn_half {L : List Pt} (hn : L ≠ []) (hs : L.Pairwise ltP) : Dwn L (halfL L.reverse) := by
  have hs2 : (L.reverse.map ng).Pairwise ltP := by
    rw [List.pairwise_map, List.pairwise_reverse]
    exact hs.imp fun h => ltP_ng h
  have h := chn_halfL (by simp [hn]) hs2
  rw [half_ng] at h
  generalize halfL L.reverse = D at *
  have mem : ∀ p, p ∈ L → ng p ∈ L.reverse.map ng := fun p hp => List.mem_map_of_mem (by simpa using hp)
  refine ⟨by have := h.ne; simpa using this, fun c hc => ?_, fun i hi => ?_, fun i hi => ?_, fun i hi p hp => ?_, fun p hp => ?_, fun p hp => ?_⟩
  · have := h.mem (ng c) (List.mem_map_of_mem hc)
    obtain ⟨x, hx, e⟩ := List.mem_map.1 this
    rw [← ng_inj e]
    simpa using hx
  · have := h.inc i (by simpa using hi)
    rw [cor_ng, cor_ng] at this
    exact ng_ltP this
  · have := h.bend i (by simpa using hi)
    rw [cor_ng, cor_ng, cor_ng, cr_ng] at this
    exact this
  · have := h.left i (by simpa using hi) _ (mem p hp)
    rw [cor_ng, cor_ng, cr_ng] at this
    exact this
  · rcases h.low _ (mem p hp) with e | e
    · rw [cor_ng] at e
      exact .inl (ng_inj e)
    · rw [cor_ng] at e
      exact .inr (ng_ltP e)
  · rcases h.high _ (mem p hp) with e | e
    · rw [cor_ng, List.length_map] at e
      exact .inl (ng_inj e)
    · rw [cor_ng, List.length_map] at e
      exact .inr (ng_ltP e)
/-- Two edges along one line, to a place and back from it: all places lie on it. -/
theorem flat_joint {L : List Pt} {a z b : Pt} (ha : ltP a z) (hb : ltP b z) (h1 : ∀ p, p ∈ L → 0 ≤ cr a z p) (h2 : ∀ p, p ∈ L → 0 ≤ cr z b p) (h0 : cr a z b = 0) : ∀ p, p ∈ L → cr a z p = 0 := by
  intro p hp
  have g1 := h1 p hp
  have g2 := h2 p hp
  have la := lp_df ha
  have lb := lp_df hb
  have e0 : cr a z b = -xx (df z a) (df z b) := by unfold cr xx df; grind
  have e1 : cr a z p = xx (df z a) (df p z) := by unfold cr xx df; grind
  have e2 : cr z b p = -xx (df z b) (df p z) := by unfold cr xx df; grind
  have i1 := xx_id1 (df z a) (df z b) (df p z)
  have i2 := xx_id2 (df z a) (df z b) (df p z)
  rw [e1]
  rw [e1] at g1
  have hz : xx (df z a) (df z b) = 0 := by omega
  rw [hz, Int.zero_mul, Int.zero_add] at i1 i2
  generalize df z a = V at *
  generalize df z b = W at *
  generalize df p z = Q at *
  have hV1 : 0 ≤ V.1 := by unfold lp at la; omega
  rcases lb with k | ⟨k, k2⟩
  · have a1 := Int.mul_nonneg (show 0 ≤ -xx W Q by omega) hV1
    have a2 := Int.mul_nonneg g1 (Int.le_of_lt k)
    rw [Int.neg_mul] at a1
    exact zero_of (show xx V Q * W.1 = 0 by omega) k
  · have hv : V.1 = 0 := by
      unfold xx at hz
      rw [k, Int.mul_zero, Int.sub_zero] at hz
      exact zero_of hz k2
    have hv2 : 0 < V.2 := by unfold lp at la; omega
    have a1 := Int.mul_nonneg (show 0 ≤ -xx W Q by omega) (Int.le_of_lt hv2)
    have a2 := Int.mul_nonneg g1 (Int.le_of_lt k2)
    rw [Int.neg_mul] at a1
    exact zero_of (show xx V Q * W.2 = 0 by omega) k2
theorem cut_len (l : List Pt) : (cutL l).length = l.length - 1 := by unfold cutL; rw [List.length_take]; omega
section
variable {L : List Pt} (hs : L.Pairwise ltP) (hn : L ≠ [])
/-- The corners of both halves. -/
def outL (L : List Pt) : List Pt := cutL (halfL L) ++ cutL (halfL L.reverse)
theorem out_len (L : List Pt) : (outL L).length = ((halfL L).length - 1) + ((halfL L.reverse).length - 1) := by
  unfold outL
  rw [List.length_append, cut_len, cut_len]
include hs hn in
theorem ends_eq : cor (halfL L) ((halfL L).length - 1) = cor (halfL L.reverse) 0 ∧ cor (halfL L) 0 = cor (halfL L.reverse) ((halfL L.reverse).length - 1) := by
  have hC := chn_halfL hn hs
  have hD := dwn_half hn hs
  have c0 := hC.ne
  have d0 := hD.ne
  constructor
  · rcases hC.high _ (hD.mem _ (cor_mem (i := 0) d0)) with e | e
    · exact e.symm
    · rcases hD.low _ (hC.mem _ (cor_mem (i := (halfL L).length - 1) (by omega))) with e2 | e2
      · exact e2
      · exact absurd e e2.asymm
  · rcases hC.low _ (hD.mem _ (cor_mem (i := (halfL L.reverse).length - 1) (by omega))) with e | e
    · exact e.symm
    · rcases hD.high _ (hC.mem _ (cor_mem (i := 0) c0)) with e2 | e2
      · exact e2
      · exact absurd e e2.asymm
include hs hn in
theorem both_two (h3 : 0 < (outL L).length) : 2 ≤ (halfL L).length ∧ 2 ≤ (halfL L.reverse).length := by
  have hC := chn_halfL hn hs
  have hD := dwn_half hn hs
  have c0 := hC.ne
  have d0 := hD.ne
  obtain ⟨e1, e2⟩ := ends_eq hs hn
  rw [out_len] at h3
  by_cases c : (halfL L).length = 1
  · exfalso
    rw [c] at e1 h3
    have h2 : 2 ≤ (halfL L.reverse).length := by omega
    rw [show 1 - 1 = 0 by omega] at e1
    have hlt := hD.inc 0 (by omega)
    rcases hD.high _ (hD.mem _ (cor_mem (C := halfL L.reverse) (i := 0 + 1) (by omega))) with x | x
    · rw [x, ← e2, e1] at hlt
      exact hlt.ne rfl
    · rw [← e2, e1] at x
      exact hlt.asymm x
  · by_cases d : (halfL L.reverse).length = 1
    · exfalso
      rw [d] at e2 h3
      rw [show 1 - 1 = 0 by omega] at e2
      have hlt := hC.inc 0 (by omega)
      rcases hC.high _ (hC.mem _ (cor_mem (C := halfL L) (i := 0 + 1) (by omega))) with x | x
      · rw [x, e1, ← e2] at hlt
        exact hlt.ne rfl
      · rw [e1, ← e2] at x
        exact hlt.asymm x
    · omega
include hs hn in
theorem out_low (h3 : 0 < (outL L).length) : ∀ i, i ≤ (halfL L).length - 1 → cor (outL L) i = cor (halfL L) i := by
  obtain ⟨c2, d2⟩ := both_two hs hn h3
  have hl := out_len L
  intro i hi
  have a := cor_get (ps := outL L) (k := i) (by omega)
  by_cases c : i < (halfL L).length - 1
  · unfold outL at a
    rw [List.getElem?_append_left (by rw [cut_len]; exact c)] at a
    unfold cutL at a
    rw [List.getElem?_take, if_pos c, cor_get (by omega)] at a
    injection a with a
    exact a.symm
  · obtain rfl : i = (halfL L).length - 1 := by omega
    unfold outL at a
    rw [List.getElem?_append_right (by rw [cut_len]; omega), cut_len, Nat.sub_self] at a
    unfold cutL at a
    rw [List.getElem?_take, if_pos (by omega), cor_get (by omega)] at a
    injection a with a
    rw [(ends_eq hs hn).1]
    exact a.symm
include hs hn in
theorem out_high (h3 : 0 < (outL L).length) : ∀ j, j ≤ (halfL L.reverse).length - 1 → cor (outL L) ((halfL L).length - 1 + j) = cor (halfL L.reverse) j := by
  obtain ⟨c2, d2⟩ := both_two hs hn h3
  have hl := out_len L
  intro j hj
  by_cases c : j < (halfL L.reverse).length - 1
  · have a := cor_get (ps := outL L) (k := (halfL L).length - 1 + j) (by omega)
    unfold outL at a
    rw [List.getElem?_append_right (by rw [cut_len]; omega), cut_len, show (halfL L).length - 1 + j - ((halfL L).length - 1) = j by omega] at a
    unfold cutL at a
    rw [List.getElem?_take, if_pos c, cor_get (by omega)] at a
    injection a with a
    exact a.symm
  · obtain rfl : j = (halfL L.reverse).length - 1 := by omega
    rw [← hl, cor_len, out_low hs hn h3 0 (by omega)]
    exact (ends_eq hs hn).2
include hs hn in
theorem out_left (h3 : 0 < (outL L).length) (i : Nat) : ∀ p, p ∈ L → 0 ≤ cr (cor (outL L) i) (cor (outL L) (i + 1)) p := by
  obtain ⟨c2, d2⟩ := both_two hs hn h3
  have hl := out_len L
  have hC := chn_halfL hn hs
  have hD := dwn_half hn hs
  have one : ∀ i, i < (outL L).length → ∀ p, p ∈ L → 0 ≤ cr (cor (outL L) i) (cor (outL L) (i + 1)) p := by
    intro i hi p hp
    by_cases c : i < (halfL L).length - 1
    · rw [out_low hs hn h3 i (by omega), out_low hs hn h3 (i + 1) (by omega)]
      exact hC.left i (by omega) p hp
    · obtain ⟨j, rfl⟩ : ∃ j, i = (halfL L).length - 1 + j := ⟨i - ((halfL L).length - 1), by omega⟩
      rw [Nat.add_assoc, out_high hs hn h3 j (by omega), out_high hs hn h3 (j + 1) (by omega)]
      exact hD.left j (by omega) p hp
  intro p hp
  have := one (i % (outL L).length) (Nat.mod_lt _ h3) p hp
  rw [← cor_mod2] at this
  rw [cor_eqm (ps := outL L) (i := i + 1) (k := i % (outL L).length + 1) (by rw [Nat.mod_add_mod])]
  exact this
include hs hn in
theorem out_mem (h3 : 0 < (outL L).length) (i : Nat) : cor (outL L) i ∈ L := by
  have hC := chn_halfL hn hs
  have hD := dwn_half hn hs
  rw [cor_mod2]
  have := cor_mem (C := outL L) (Nat.mod_lt i h3)
  unfold outL at this
  rcases List.mem_append.1 this with x | x
  · exact hC.mem _ (List.mem_of_mem_take x)
  · exact hD.mem _ (List.mem_of_mem_take x)
include hs hn in
theorem out_flat (h3 : 3 ≤ (outL L).length) {a z : Pt} (hne : a ≠ z) : ¬ ∀ p, p ∈ L → cr a z p = 0 := by
  intro h
  obtain ⟨c2, d2⟩ := both_two hs hn (by omega)
  have hl := out_len L
  have hC := chn_halfL hn hs
  have hD := dwn_half hn hs
  by_cases c : 3 ≤ (halfL L).length
  · have b := hC.bend 0 (by omega)
    have := lin_zero hne (h _ (hC.mem _ (cor_mem (i := 0) (by omega)))) (h _ (hC.mem _ (cor_mem (i := 0 + 1) (by omega)))) _ (h _ (hC.mem _ (cor_mem (i := 0 + 2) (by omega))))
    omega
  · have b := hD.bend 0 (by omega)
    have := lin_zero hne (h _ (hD.mem _ (cor_mem (i := 0) (by omega)))) (h _ (hD.mem _ (cor_mem (i := 0 + 1) (by omega)))) _ (h _ (hD.mem _ (cor_mem (i := 0 + 2) (by omega))))
    omega
include hs hn in
theorem out_turn (h3 : 3 ≤ (outL L).length) (i : Nat) : 0 < cr (cor (outL L) i) (cor (outL L) (i + 1)) (cor (outL L) (i + 2)) := by
  have h0 : 0 < (outL L).length := by omega
  obtain ⟨c2, d2⟩ := both_two hs hn h0
  have hl := out_len L
  have hC := chn_halfL hn hs
  have hD := dwn_half hn hs
  obtain ⟨e1, e2⟩ := ends_eq hs hn
  have one : ∀ i, i < (outL L).length → 0 < cr (cor (outL L) i) (cor (outL L) (i + 1)) (cor (outL L) (i + 2)) := by
    intro i hi
    by_cases c : i + 1 < (halfL L).length - 1
    · rw [out_low hs hn h0 i (by omega), out_low hs hn h0 (i + 1) (by omega), out_low hs hn h0 (i + 2) (by omega)]
      exact hC.bend i (by omega)
    · by_cases c' : i + 1 = (halfL L).length - 1
      · -- at the last place
        have g := out_left hs hn h0 i _ (out_mem hs hn h0 (i + 2))
        rcases Int.lt_or_le 0 (cr (cor (outL L) i) (cor (outL L) (i + 1)) (cor (outL L) (i + 2))) with x | x
        · exact x
        · exfalso
          have q1 := out_low hs hn h0 i (by omega)
          have q2 := out_low hs hn h0 (i + 1) (by omega)
          have q3 := out_high hs hn h0 1 (by omega)
          have q4 := out_high hs hn h0 0 (by omega)
          rw [show (halfL L).length - 1 + 1 = i + 2 by omega] at q3
          rw [show (halfL L).length - 1 + 0 = i + 1 by omega] at q4
          have l1 := hC.inc i (by omega)
          have l2 := hD.inc 0 (by omega)
          rw [← q1, ← q2] at l1
          rw [← q4, show 0 + 1 = 1 by omega, ← q3] at l2
          exact out_flat hs hn h3 l1.ne (flat_joint l1 l2 (out_left hs hn h0 i) (fun p hp => by
            have := out_left hs hn h0 (i + 1) p hp
            rw [show i + 1 + 1 = i + 2 by omega] at this
            exact this) (by omega))
      · obtain ⟨j, rfl⟩ : ∃ j, i = (halfL L).length - 1 + j := ⟨i - ((halfL L).length - 1), by omega⟩
        by_cases d : j + 2 ≤ (halfL L.reverse).length - 1
        · rw [Nat.add_assoc, Nat.add_assoc, out_high hs hn h0 j (by omega), out_high hs hn h0 (j + 1) (by omega), out_high hs hn h0 (j + 2) (by omega)]
          exact hD.bend j (by omega)
        · -- at the first place
          have g := out_left hs hn h0 ((halfL L).length - 1 + j) _ (out_mem hs hn h0 ((halfL L).length - 1 + j + 2))
          rcases Int.lt_or_le 0 (cr (cor (outL L) ((halfL L).length - 1 + j)) (cor (outL L) ((halfL L).length - 1 + j + 1)) (cor (outL L) ((halfL L).length - 1 + j + 2))) with x | x
          · exact x
          · exfalso
            have q1 := out_high hs hn h0 j (by omega)
            have q2 := out_high hs hn h0 (j + 1) (by omega)
            have q3 := out_low hs hn h0 1 (by omega)
            have q4 := out_low hs hn h0 0 (by omega)
            have p3 : cor (outL L) ((halfL L).length - 1 + j + 2) = cor (outL L) 1 := by
              rw [show (halfL L).length - 1 + j + 2 = 1 + (outL L).length by omega, cor_per]
            have p4 : cor (outL L) ((halfL L).length - 1 + j + 1) = cor (outL L) 0 := by
              rw [show (halfL L).length - 1 + j + 1 = 0 + (outL L).length by omega, cor_per]
            have l1 := hD.inc j (by omega)
            have l2 := hC.inc 0 (by omega)
            rw [← q1, ← q2] at l1
            rw [← q4, show 0 + 1 = 1 by omega, ← q3] at l2
            rw [← Nat.add_assoc] at l1
            rw [p4] at l1
            have a1 := out_left hs hn h0 ((halfL L).length - 1 + j)
            rw [p4] at a1
            have a2 := out_left hs hn h0 0
            rw [show 0 + 1 = 1 by omega] at a2
            rw [p3, p4] at x g
            have ngL : ∀ {a b : Pt}, (∀ p, p ∈ L → 0 ≤ cr a b p) → ∀ p, p ∈ L.map ng → 0 ≤ cr (ng a) (ng b) p := by
              intro a b h p hp
              obtain ⟨y, hy, rfl⟩ := List.mem_map.1 hp
              rw [cr_ng]
              exact h y hy
            have f := flat_joint (ltP_ng l1) (ltP_ng l2) (ngL a1) (ngL a2) (by rw [cr_ng]; omega)
            refine out_flat hs hn h3 (fun e => l1.ne e.symm) fun p hp => ?_
            have := f (ng p) (List.mem_map_of_mem hp)
            rw [cr_ng] at this
            exact this
  have := one (i % (outL L).length) (Nat.mod_lt _ h0)
  rw [← cor_mod2] at this
  rw [cor_eqm (ps := outL L) (i := i + 1) (k := i % (outL L).length + 1) (by rw [Nat.mod_add_mod]), cor_eqm (ps := outL L) (i := i + 2) (k := i % (outL L).length + 2) (by rw [Nat.mod_add_mod])]
  exact this
theorem inc_lt {C : List Pt} (h : ∀ i, i + 1 < C.length → ltP (cor C i) (cor C (i + 1))) : ∀ d i, i + d + 1 < C.length → ltP (cor C i) (cor C (i + d + 1)) := by
  intro d
  induction d with
  | zero => exact fun i hi => h i hi
  | succ d ih => exact fun i hi => (ih i (by omega)).trans (h (i + d + 1) hi)
theorem dec_lt {C : List Pt} (h : ∀ i, i + 1 < C.length → ltP (cor C (i + 1)) (cor C i)) : ∀ d i, i + d + 1 < C.length → ltP (cor C (i + d + 1)) (cor C i) := by
  intro d
  induction d with
  | zero => exact fun i hi => h i hi
  | succ d ih => exact fun i hi => (h (i + d + 1) hi).trans (ih i (by omega))
include hs hn in
theorem out_cross {i j : Nat} (h3 : 0 < (outL L).length) (hi : i < (halfL L).length - 1) (hj : j < (halfL L.reverse).length - 1) : cor (halfL L) i ≠ cor (halfL L.reverse) j := by
  intro e
  have hC := chn_halfL hn hs
  have hD := dwn_half hn hs
  obtain ⟨e1, e2⟩ := ends_eq hs hn
  obtain ⟨c2, d2⟩ := both_two hs hn h3
  by_cases ci : i = 0
  · subst ci
    rw [e2] at e
    have := dec_lt hD.inc ((halfL L.reverse).length - 1 - j - 1) j (by omega)
    rw [show j + ((halfL L.reverse).length - 1 - j - 1) + 1 = (halfL L.reverse).length - 1 by omega, e] at this
    exact this.ne rfl
  · by_cases cj : j = 0
    · subst cj
      rw [← e1] at e
      have := inc_lt hC.inc ((halfL L).length - 1 - i - 1) i (by omega)
      rw [show i + ((halfL L).length - 1 - i - 1) + 1 = (halfL L).length - 1 by omega, e] at this
      exact this.ne rfl
    · obtain ⟨m, rfl⟩ : ∃ m, i = m + 1 := ⟨i - 1, by omega⟩
      have b := hC.bend m (by omega)
      have w1 := hC.inc m (by omega)
      have w2 := hC.inc (m + 1) (by omega)
      have t1 := hD.inc j (by omega)
      have g1 := hD.left j (by omega) _ (hC.mem _ (cor_mem (C := halfL L) (i := m + 2) (by omega)))
      have g2 := hD.left j (by omega) _ (hC.mem _ (cor_mem (C := halfL L) (i := m) (by omega)))
      rw [show m + 1 + 1 = m + 2 by omega] at w2
      rw [← e] at g1 g2 t1
      generalize cor (halfL L) m = P at *
      generalize cor (halfL L) (m + 1) = X at *
      generalize cor (halfL L) (m + 2) = U at *
      generalize cor (halfL L.reverse) (j + 1) = T at *
      have a1 : cr X T U = -xx (df X T) (df U X) := by unfold cr xx df; grind
      have a2 : cr X T P = xx (df X T) (df X P) := by unfold cr xx df; grind
      have a3 : cr P X U = xx (df X P) (df U X) := by unfold cr xx df; grind
      have := xx_trans2 (lp_df t1) (lp_df w1) (lp_df w2) (by omega) (by omega)
      omega
include hs hn in
theorem out_inj (h3 : 0 < (outL L).length) : ∀ i j, i < (outL L).length → j < (outL L).length → cor (outL L) i = cor (outL L) j → i = j := by
  have hl := out_len L
  obtain ⟨c2, d2⟩ := both_two hs hn h3
  have hC := chn_halfL hn hs
  have hD := dwn_half hn hs
  have go : ∀ i j, i < j → j < (outL L).length → cor (outL L) i ≠ cor (outL L) j := by
    intro i j hij hj e
    by_cases ci : i < (halfL L).length - 1
    · by_cases cj : j < (halfL L).length - 1
      · rw [out_low hs hn h3 i (by omega), out_low hs hn h3 j (by omega)] at e
        have := inc_lt hC.inc (j - i - 1) i (by omega)
        rw [show i + (j - i - 1) + 1 = j by omega] at this
        exact this.ne e
      · obtain ⟨k, rfl⟩ : ∃ k, j = (halfL L).length - 1 + k := ⟨j - ((halfL L).length - 1), by omega⟩
        rw [out_low hs hn h3 i (by omega), out_high hs hn h3 k (by omega)] at e
        exact out_cross hs hn h3 ci (by omega) e
    · obtain ⟨m, rfl⟩ : ∃ m, i = (halfL L).length - 1 + m := ⟨i - ((halfL L).length - 1), by omega⟩
      obtain ⟨k, rfl⟩ : ∃ k, j = (halfL L).length - 1 + k := ⟨j - ((halfL L).length - 1), by omega⟩
      rw [out_high hs hn h3 m (by omega), out_high hs hn h3 k (by omega)] at e
      have := dec_lt hD.inc (k - m - 1) m (by omega)
      rw [show m + (k - m - 1) + 1 = k by omega] at this
      exact this.ne e.symm
  intro i j hi hj e
  rcases Nat.lt_trichotomy i j with x | x | x
  · exact absurd e (go i j x hj)
  · exact x
  · exact absurd e.symm (go j i x hi)
include hs hn in
theorem out_cvx (h3 : 3 ≤ (outL L).length) : Cvx (outL L) :=
  ⟨h3, fun i j => out_left hs hn (by omega) i _ (out_mem hs hn (by omega) j), out_turn hs hn h3, out_inj hs hn (by omega)⟩
include hs hn in
theorem out_first (h3 : 0 < (outL L).length) : ∀ i, 0 < i → i < (outL L).length → ltP (cor (outL L) 0) (cor (outL L) i) := by
  intro i h0 hi
  have hC := chn_halfL hn hs
  have hm := out_mem hs hn h3 i
  rcases hC.low _ hm with e | e
  · rw [← out_low hs hn h3 0 (by omega)] at e
    have := out_inj hs hn h3 i 0 hi h3 e
    omega
  · rw [out_low hs hn h3 0 (by omega)]
    exact e
include hs hn in
theorem out_small (h3 : (outL L).length < 3) : ∃ a z, a ≠ z ∧ ∀ p, p ∈ L → cr a z p = 0 := by
  have hC := chn_halfL hn hs
  have hD := dwn_half hn hs
  have hl := out_len L
  by_cases c : 0 < (outL L).length
  · obtain ⟨c2, d2⟩ := both_two hs hn c
    refine ⟨_, _, (hC.inc 0 (by omega)).ne, fun p hp => ?_⟩
    have g1 := hC.left 0 (by omega) p hp
    have g2 := hD.left 0 (by omega) p hp
    obtain ⟨e1, e2⟩ := ends_eq hs hn
    rw [show (halfL L).length - 1 = 0 + 1 by omega] at e1
    rw [show (halfL L.reverse).length - 1 = 0 + 1 by omega] at e2
    rw [← e1, ← e2, cr_swap] at g2
    omega
  · -- one place alone
    have c1 : (halfL L).length = 1 := by have := hC.ne; omega
    have all : ∀ p, p ∈ L → p = cor (halfL L) 0 := by
      intro p hp
      rcases hC.low p hp with e | e
      · exact e
      · rcases hC.high p hp with e2 | e2
        · rw [c1] at e2
          exact e2
        · rw [c1] at e2
          exact absurd e e2.asymm
    refine ⟨cor (halfL L) 0, ((cor (halfL L) 0).1 + 1, (cor (halfL L) 0).2), fun e => ?_, fun p hp => ?_⟩
    · have := congrArg Prod.fst e
      dsimp only at this
      omega
    · rw [all p hp]
      unfold cr
      grind
end
theorem nodup_len {α : Type} [BEq α] [LawfulBEq α] : ∀ (l m : List α), l.Nodup → (∀ x, x ∈ l → x ∈ m) → l.length ≤ m.length
  | [], _, _, _ => Nat.zero_le _
  | x :: l, m, hn, h => by
    rw [List.nodup_cons] at hn
    have := nodup_len l (m.erase x) hn.2 fun y hy => (List.mem_erase_of_ne (fun e => hn.1 (by rw [← e]; exact hy))).2 (h y (List.mem_cons_of_mem _ hy))
    have hx := h x (List.mem_cons_self ..)
    rw [List.length_erase_of_mem hx] at this
    have := List.length_pos_of_mem hx
    simp
    omega
theorem nodup_cor {l : List Pt} (h : ∀ i j, i < l.length → j < l.length → cor l i = cor l j → i = j) : l.Nodup := by
  rw [List.nodup_iff_pairwise_ne, List.pairwise_iff_getElem]
  intro i j hi hj hij e
  have a := cor_get hi
  have b := cor_get hj
  rw [List.getElem?_eq_getElem] at a b
  injection a with a
  injection b with b
  have := h i j hi hj (by rw [← a, ← b]; exact e)
  omega
theorem hullC_out (ps : List Pt) : hullC ps = outL (placesOf ps) := rfl
theorem places_ne {ps : List Pt} (h : ps ≠ []) : placesOf ps ≠ [] := by
  obtain ⟨p, hp⟩ := List.exists_mem_of_ne_nil ps h
  intro e
  have := (places_inv ps).2 p |>.2 hp
  rw [e] at this
  cases this
/-- What the hull of places is. -/
theorem hull_is {ps : List Pt} (h0 : ps ≠ []) (hok : ps.all Pt.ok = true) (h3 : 3 ≤ (hullC ps).length) (h24 : (hullC ps).length ≤ 24) :
    PValid (hullC ps) = true ∧ Cvx (hullC ps) ∧ (∀ c, c ∈ hullC ps → c ∈ ps) ∧ ∀ q, q ∈ ps → 0 ≤ placeOf (hullC ps) q := by
  obtain ⟨hs, hm⟩ := places_inv ps
  have hn := places_ne h0
  rw [hullC_out] at *
  have hc := out_cvx hs hn h3
  have memL : ∀ c, c ∈ outL (placesOf ps) → c ∈ ps := by
    intro c hc
    rw [← hm]
    unfold outL at hc
    rcases List.mem_append.1 hc with x | x
    · exact (chn_halfL hn hs).mem _ (List.mem_of_mem_take x)
    · exact (dwn_half hn hs).mem _ (List.mem_of_mem_take x)
  have hv : PValid (outL (placesOf ps)) = true := hc.valid h24 (by
    rw [List.all_eq_true] at hok ⊢
    exact fun x hx => hok x (memL x hx)) (out_first hs hn (by omega))
  refine ⟨hv, hc, memL, fun q hq => ?_⟩
  exact hc.has (pv_poly hv) fun i => out_left hs hn (by omega) i q ((hm q).2 hq)
theorem cor_of_mem {l : List Pt} {x : Pt} (h : x ∈ l) : ∃ i, i < l.length ∧ x = cor l i := by
  obtain ⟨i, hi, e⟩ := List.getElem_of_mem h
  have a := cor_get hi
  rw [List.getElem?_eq_getElem hi, e] at a
  injection a with a
  exact ⟨i, hi, a⟩
/-- A polygon that bends inward nowhere and has all corners of another one holds it. -/
theorem cvx_holds {ps qs : List Pt} (vp : PValid ps = true) (hl : lefts ps) (h : ∀ c, c ∈ qs → 0 ≤ placeOf ps c) : pholds ps qs = true := by
  have pp := pv_poly vp
  have hc := poly_cvx pp hl
  have hn := hc.len
  unfold pholds
  rw [List.all_eq_true]
  intro i hi
  rw [List.mem_range] at hi
  unfold holdsE
  have a := h _ (cor_mem hi)
  have b := h (cor qs (i + 1)) (by rw [cor_mod2]; exact cor_mem (Nat.mod_lt _ (by omega)))
  exact has_left (fun i hi => by
    have := hc.turn (i + ps.length - 1)
    rw [show i + ps.length - 1 + 1 = i + ps.length by omega, show i + ps.length - 1 + 2 = i + 1 + ps.length by omega, cor_per, cor_per] at this
    exact this) (fun i _ => hc.of_place pp.toSimp a i) (fun i _ => hc.of_place pp.toSimp b i) a b
theorem hull_self {ps : List Pt} (vp : PValid ps = true) (hc : Cvx ps) : hullOf ps = (ps, 0) := by
  have pr := pv_parts vp
  have h0 : ps ≠ [] := by
    intro e
    rw [e] at pr
    simp at pr
  have hok : ps.all Pt.ok = true := by
    unfold PValid at vp
    simp only [Bool.and_eq_true] at vp
    exact vp.1.2
  obtain ⟨hs, hm⟩ := places_inv ps
  have hn := places_ne h0
  have h3 : 3 ≤ (hullC ps).length := by
    rcases Nat.lt_or_ge (hullC ps).length 3 with c | c
    · exfalso
      rw [hullC_out] at c
      obtain ⟨a, z, hne, hz⟩ := out_small hs hn c
      have hz' : ∀ i, cr a z (cor ps i) = 0 := fun i => hz _ ((hm _).2 (by rw [cor_mod2]; exact cor_mem (Nat.mod_lt _ (by have := hc.len; omega))))
      have := lin_zero hne (hz' 0) (hz' (0 + 1)) _ (hz' (0 + 2))
      have := hc.turn 0
      omega
    · exact c
  have hcv : Cvx (hullC ps) := by
    rw [hullC_out] at h3 ⊢
    exact out_cvx hs hn h3
  have h24 : (hullC ps).length ≤ 24 := by
    have := nodup_len (hullC ps) ps (nodup_cor hcv.inj) (by
      intro c hc
      rw [hullC_out] at hc
      rw [← hm]
      unfold outL at hc
      rcases List.mem_append.1 hc with x | x
      · exact (chn_halfL hn hs).mem _ (List.mem_of_mem_take x)
      · exact (dwn_half hn hs).mem _ (List.mem_of_mem_take x))
    omega
  obtain ⟨hv, _, g1, g2⟩ := hull_is h0 hok h3 h24
  have e : ps = hullC ps := by
    refine sub_eq vp hv ?_ ?_
    · refine (holds_sub (pv_poly vp) (pv_poly hv)).1 (cvx_holds vp hc.turn fun c hcm => ?_)
      obtain ⟨i, hi, rfl⟩ := cor_of_mem (g1 c hcm)
      exact hc.has (pv_poly vp) fun k => hc.left k i
    · exact (holds_sub (pv_poly hv) (pv_poly vp)).1 (cvx_holds hv hcv.turn fun c hcm => g2 c hcm)
  unfold hullOf
  rw [if_pos ⟨by omega, by omega, hok⟩, if_neg (by omega), if_neg (by omega), ← e]
end Go.Proofs.Ytdmlnmcaihodaaa
