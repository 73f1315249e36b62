/- Discs: a segment that meets an edge brings its ends near it. -/
import Derived.Test.YtdmlnmcaihodaaaInP
import Derived.Test.YtdmlnmcaihodaaaPol
namespace Go.Proofs.Ytdmlnmcaihodaaa
set_option linter.unusedVariables false
set_option linter.unusedSimpArgs false

/-- The square of the distance of two places. -/
def sqd (p q : Pt) : Int := (q.1 - p.1) * (q.1 - p.1) + (q.2 - p.2) * (q.2 - p.2)
theorem sq_nonneg (x : Int) : 0 ≤ x * x := by
  rcases Int.le_total 0 x with h | h
  · exact Int.mul_nonneg h h
  · have := Int.mul_nonneg (show 0 ≤ -x by omega) (show 0 ≤ -x by omega)
    rw [Int.neg_mul_neg] at this
    exact this
theorem sq_le {x y : Int} (h : -y ≤ x ∧ x ≤ y) : x * x ≤ y * y := by
  have h1 := Int.mul_nonneg (show 0 ≤ y - x by omega) (show 0 ≤ y + x by omega)
  have e : (y - x) * (y + x) = y * y - x * x := by grind
  omega
theorem sq_lt {x y : Int} (h : -y < x ∧ x < y) : x * x < y * y := by
  have h1 := Int.mul_pos (show 0 < y - x by omega) (show 0 < y + x by omega)
  have e : (y - x) * (y + x) = y * y - x * x := by grind
  omega
theorem sqd_nonneg (p q : Pt) : 0 ≤ sqd p q := by
  unfold sqd
  have h1 := sq_nonneg (q.1 - p.1)
  have h2 := sq_nonneg (q.2 - p.2)
  omega
theorem sqd_pos {p q : Pt} (h : q ≠ p) : 0 < sqd p q := by
  unfold sqd
  have h1 := sq_nonneg (q.1 - p.1)
  have h2 := sq_nonneg (q.2 - p.2)
  by_cases e : q.1 = p.1
  · have e2 : q.2 ≠ p.2 := fun e2 => h (Prod.ext e e2)
    have : 0 < (q.2 - p.2) * (q.2 - p.2) := by
      rcases Int.lt_or_lt_of_ne e2 with h3 | h3
      · have := Int.mul_pos (show 0 < -(q.2 - p.2) by omega) (show 0 < -(q.2 - p.2) by omega)
        rwa [Int.neg_mul_neg] at this
      · exact Int.mul_pos (by omega) (by omega)
    omega
  · have : 0 < (q.1 - p.1) * (q.1 - p.1) := by
      rcases Int.lt_or_lt_of_ne e with h3 | h3
      · have := Int.mul_pos (show 0 < -(q.1 - p.1) by omega) (show 0 < -(q.1 - p.1) by omega)
        rwa [Int.neg_mul_neg] at this
      · exact Int.mul_pos (by omega) (by omega)
    omega
theorem sqr_third (p u v : Pt) : 0 < (sqr p u v).2.2 := by
  unfold sqr
  split
  · exact Int.zero_lt_one
  · split
    · exact Int.zero_lt_one
    · dsimp only
      omega
/-- The square of the distance of a segment is the least one. -/
theorem sqr_min (p u v : Pt) {k m : Int} (hk : 0 ≤ k) (hkm : k ≤ m) : m * m * ((sqr p u v).1 * (sqr p u v).2.1) ≤ ((m * (p.1 - u.1) - k * (v.1 - u.1)) * (m * (p.1 - u.1) - k * (v.1 - u.1)) + (m * (p.2 - u.2) - k * (v.2 - u.2)) * (m * (p.2 - u.2) - k * (v.2 - u.2))) * (sqr p u v).2.2 := by
  unfold sqr
  have hm : 0 ≤ m := by omega
  have hL : 0 ≤ dt u v v := by
    unfold dt
    have h1 := sq_nonneg (v.1 - u.1)
    have h2 := sq_nonneg (v.2 - u.2)
    omega
  have hkL := Int.mul_nonneg (Int.mul_nonneg hk hk) hL
  split
  · rename_i h
    dsimp only
    have e : ((m * (p.1 - u.1) - k * (v.1 - u.1)) * (m * (p.1 - u.1) - k * (v.1 - u.1)) + (m * (p.2 - u.2) - k * (v.2 - u.2)) * (m * (p.2 - u.2) - k * (v.2 - u.2))) = m * m * dt u p p + 2 * (m * k * -dt u v p) + k * k * dt u v v := by unfold dt; grind
    have h1 := Int.mul_nonneg (Int.mul_nonneg hm hk) (show 0 ≤ -dt u v p by omega)
    rw [e, Int.mul_one, Int.mul_one]
    omega
  · split
    · rename_i h0 h
      dsimp only
      have e : ((m * (p.1 - u.1) - k * (v.1 - u.1)) * (m * (p.1 - u.1) - k * (v.1 - u.1)) + (m * (p.2 - u.2) - k * (v.2 - u.2)) * (m * (p.2 - u.2) - k * (v.2 - u.2))) = m * m * dt v p p + 2 * (m * (m - k) * (dt u v p - dt u v v)) + (m - k) * (m - k) * dt u v v := by unfold dt; grind
      have h1 := Int.mul_nonneg (Int.mul_nonneg hm (show 0 ≤ m - k by omega)) (show 0 ≤ dt u v p - dt u v v by omega)
      have h2 := Int.mul_nonneg (Int.mul_nonneg (show 0 ≤ m - k by omega) (show 0 ≤ m - k by omega)) hL
      rw [e, Int.mul_one, Int.mul_one]
      omega
    · dsimp only
      have en : ((cr u v p).natAbs : Int) * ((cr u v p).natAbs : Int) = cr u v p * cr u v p := Int.natAbs_mul_self
      rw [en]
      have e : ((m * (p.1 - u.1) - k * (v.1 - u.1)) * (m * (p.1 - u.1) - k * (v.1 - u.1)) + (m * (p.2 - u.2) - k * (v.2 - u.2)) * (m * (p.2 - u.2) - k * (v.2 - u.2))) * dt u v v = m * m * (cr u v p * cr u v p) + (m * dt u v p - k * dt u v v) * (m * dt u v p - k * dt u v v) := by unfold dt cr; grind
      have h1 := sq_nonneg (m * dt u v p - k * dt u v v)
      rw [e]
      omega
theorem le_of_mul {m x y : Int} (hm : 0 < m) (h : m * m * x ≤ m * m * y) : x ≤ y := by
  rcases Int.lt_or_le y x with h1 | h1
  · have := Int.mul_lt_mul_of_pos_left h1 (Int.mul_pos hm hm)
    omega
  · exact h1
/-- A place of a segment is not nearer than the segment. -/
theorem seg_near (p : Pt) {q u v : Pt} (h : onB q u v = true) : (sqr p u v).1 * (sqr p u v).2.1 ≤ sqd p q * (sqr p u v).2.2 := by
  rw [onB_iff] at h
  obtain ⟨h0, h1, h2⟩ := h
  have hc : (v.1 - u.1) * (q.2 - u.2) = (v.2 - u.2) * (q.1 - u.1) := by unfold cr at h0; omega
  have key : ∃ k m : Int, 0 ≤ k ∧ k ≤ m ∧ 0 < m ∧ m * (q.1 - u.1) = k * (v.1 - u.1) ∧ m * (q.2 - u.2) = k * (v.2 - u.2) := by
    by_cases hz : u.1 = v.1 ∧ u.2 = v.2
    · refine ⟨0, 1, by omega, by omega, by omega, ?_, ?_⟩ <;> omega
    · rcases Int.le_total u.1 v.1 with a1 | a1 <;> rcases Int.le_total u.2 v.2 with a2 | a2
      · exact ⟨(q.1 - u.1) + (q.2 - u.2), (v.1 - u.1) + (v.2 - u.2), by omega, by omega, by omega, by grind, by grind⟩
      · exact ⟨(q.1 - u.1) - (q.2 - u.2), (v.1 - u.1) - (v.2 - u.2), by omega, by omega, by omega, by grind, by grind⟩
      · exact ⟨-(q.1 - u.1) + (q.2 - u.2), -(v.1 - u.1) + (v.2 - u.2), by omega, by omega, by omega, by grind, by grind⟩
      · exact ⟨-(q.1 - u.1) - (q.2 - u.2), -(v.1 - u.1) - (v.2 - u.2), by omega, by omega, by omega, by grind, by grind⟩
  obtain ⟨k, m, hk, hkm, hm, e1, e2⟩ := key
  have := sqr_min p u v hk hkm
  refine le_of_mul hm ?_
  have e : (m * (p.1 - u.1) - k * (v.1 - u.1)) * (m * (p.1 - u.1) - k * (v.1 - u.1)) + (m * (p.2 - u.2) - k * (v.2 - u.2)) * (m * (p.2 - u.2) - k * (v.2 - u.2)) = m * m * sqd p q := by
    rw [← e1, ← e2]
    unfold sqd
    grind
  rw [e, Int.mul_assoc (m * m)] at this
  exact this
theorem onB_left (u v : Pt) : onB u u v = true := by
  rw [onB_iff]
  refine ⟨by unfold cr; grind, by omega, by omega⟩
theorem onB_right (u v : Pt) : onB v u v = true := by
  rw [onB_iff]
  refine ⟨by unfold cr; grind, by omega, by omega⟩
/-- A place of a segment is not farther from an end than the other end. -/
theorem on_sqd {p o q : Pt} (h : onB q p o = true) : sqd p q ≤ sqd p o ∧ (q ≠ o → sqd p q < sqd p o) := by
  rw [onB_iff] at h
  obtain ⟨_, h1, h2⟩ := h
  have a : ∀ x y z : Int, min x z ≤ y → y ≤ max x z → (y - x) * (y - x) ≤ (z - x) * (z - x) ∧ (y ≠ z → (y - x) * (y - x) < (z - x) * (z - x)) := by
    intro x y z h1 h2
    rcases Int.le_total x z with h | h
    · refine ⟨sq_le (by omega), fun hne => sq_lt (by omega)⟩
    · have e1 : (z - x) * (z - x) = (x - z) * (x - z) := by grind
      rw [e1]
      refine ⟨sq_le (by omega), fun hne => sq_lt (by omega)⟩
  have a1 := a p.1 q.1 o.1 (by omega) (by omega)
  have a2 := a p.2 q.2 o.2 (by omega) (by omega)
  unfold sqd
  refine ⟨by omega, fun hne => ?_⟩
  by_cases e : q.1 = o.1
  · have := a2.2 (fun e2 => hne (Prod.ext e e2))
    omega
  · have := a1.2 e
    omega
/-- If a segment meets an edge, its first end is not farther from the edge than from the other end; and nearer, unless the other end is on the edge. -/
theorem meet_near {p o u v : Pt} (h : meetB p o u v = true) : (sqr p u v).1 * (sqr p u v).2.1 ≤ sqd p o * (sqr p u v).2.2 ∧ (onB o u v = false → o ≠ p → (sqr p u v).1 * (sqr p u v).2.1 < sqd p o * (sqr p u v).2.2) := by
  have h3 := sqr_third p u v
  have mono : ∀ q : Pt, onB q u v = true → onB q p o = true → (sqr p u v).1 * (sqr p u v).2.1 ≤ sqd p o * (sqr p u v).2.2 ∧ (onB o u v = false → o ≠ p → (sqr p u v).1 * (sqr p u v).2.1 < sqd p o * (sqr p u v).2.2) := by
    intro q h1 h2
    have a := seg_near p h1
    obtain ⟨b1, b2⟩ := on_sqd h2
    have c := Int.mul_le_mul_of_nonneg_right b1 (Int.le_of_lt h3)
    refine ⟨by omega, fun ho _ => ?_⟩
    have := b2 (fun e => by rw [← e, h1] at ho; cases ho)
    have c := Int.mul_lt_mul_of_pos_right this h3
    omega
  unfold meetB at h
  simp only [Bool.or_eq_true] at h
  rcases h with h | h | h | h | h
  · rw [cutB_iff] at h
    have hAB : cr u v p - cr u v o = cr p o v - cr p o u := by unfold cr; grind
    have i1 : (cr p o v - cr p o u) * (p.1 - u.1) + cr p o u * (v.1 - u.1) = -cr u v p * (o.1 - p.1) := by unfold cr; grind
    have i2 : (cr p o v - cr p o u) * (p.2 - u.2) + cr p o u * (v.2 - u.2) = -cr u v p * (o.2 - p.2) := by unfold cr; grind
    obtain ⟨A, hA⟩ : ∃ x, cr u v p = x := ⟨_, rfl⟩
    obtain ⟨B, hB⟩ : ∃ x, cr u v o = x := ⟨_, rfl⟩
    obtain ⟨U, hU⟩ : ∃ x, cr p o u = x := ⟨_, rfl⟩
    obtain ⟨V, hV⟩ : ∃ x, cr p o v = x := ⟨_, rfl⟩
    rw [hA, hB, hU, hV] at h
    rw [hA, hB, hU, hV] at hAB
    rw [hA, hU, hV] at i1 i2
    have hop : 0 < sqd p o := sqd_pos fun e => by rw [e] at hB; omega
    have key : ∃ k m : Int, 0 ≤ k ∧ k ≤ m ∧ 0 < m ∧ (A * A < m * m) ∧ (m * (p.1 - u.1) - k * (v.1 - u.1)) * (m * (p.1 - u.1) - k * (v.1 - u.1)) + (m * (p.2 - u.2) - k * (v.2 - u.2)) * (m * (p.2 - u.2) - k * (v.2 - u.2)) = A * A * sqd p o := by
      rcases h with ⟨⟨h1, h2⟩ | ⟨h1, h2⟩, h4⟩
      · refine ⟨-U, V - U, by omega, by omega, by omega, ?_, ?_⟩
        · exact sq_lt (by omega)
        · have e1 : (V - U) * (p.1 - u.1) - -U * (v.1 - u.1) = -A * (o.1 - p.1) := by rw [← i1]; grind
          have e2 : (V - U) * (p.2 - u.2) - -U * (v.2 - u.2) = -A * (o.2 - p.2) := by rw [← i2]; grind
          rw [e1, e2]
          unfold sqd
          grind
      · refine ⟨U, U - V, by omega, by omega, by omega, ?_, ?_⟩
        · exact sq_lt (by omega)
        · have e1 : (U - V) * (p.1 - u.1) - U * (v.1 - u.1) = A * (o.1 - p.1) := by have : A * (o.1 - p.1) = -(-A * (o.1 - p.1)) := by grind
                                                                                    rw [this, ← i1]; grind
          have e2 : (U - V) * (p.2 - u.2) - U * (v.2 - u.2) = A * (o.2 - p.2) := by have : A * (o.2 - p.2) = -(-A * (o.2 - p.2)) := by grind
                                                                                    rw [this, ← i2]; grind
          rw [e1, e2]
          unfold sqd
          grind
    obtain ⟨k, m, hk, hkm, hm, hlt, hE⟩ := key
    have hs := sqr_min p u v hk hkm
    rw [hE] at hs
    have hY := Int.mul_pos hop h3
    have hl := Int.mul_lt_mul_of_pos_right hlt hY
    rw [Int.mul_assoc (A * A)] at hs
    have hfin : (sqr p u v).1 * (sqr p u v).2.1 < sqd p o * (sqr p u v).2.2 := by
      rcases Int.lt_or_le ((sqr p u v).1 * (sqr p u v).2.1) (sqd p o * (sqr p u v).2.2) with h1 | h1
      · exact h1
      · have := Int.mul_le_mul_of_nonneg_left h1 (Int.le_of_lt (Int.mul_pos hm hm))
        omega
    exact ⟨by omega, fun _ _ => hfin⟩
  · have a := seg_near p h
    have e0 : sqd p p = 0 := by unfold sqd; grind
    rw [e0, Int.zero_mul] at a
    have b := Int.mul_nonneg (sqd_nonneg p o) (Int.le_of_lt h3)
    refine ⟨by omega, fun _ hne => ?_⟩
    have := Int.mul_pos (sqd_pos hne) h3
    omega
  · exact mono o h (onB_right p o)
  · exact mono u (onB_left u v) h
  · exact mono v (onB_right u v) h
/-- The laws of discs. -/
theorem disc_mono {ps : List Pt} {at' : Pt} {r s : Int} (hs : 0 ≤ s) (hsr : s ≤ r) : (-1 ≤ discVal ps at' r ∧ discVal ps at' r ≤ 1) ∧ (discVal ps at' r = 1 → discVal ps at' s = 1) ∧ (discVal ps at' r = -1 → discVal ps at' s = -1) := by
  have hss : s * s ≤ r * r := sq_le (by omega)
  have h1 : apartAll ps at' r (List.range ps.length) = true → apartAll ps at' s (List.range ps.length) = true := by
    unfold apartAll
    rw [List.all_eq_true, List.all_eq_true]
    intro h i hi
    have := h i hi
    unfold apartB at this ⊢
    rw [decide_eq_true_eq] at this ⊢
    have := Int.mul_le_mul_of_nonneg_right hss (Int.le_of_lt (sqr_third at' (cor ps i) (cor ps (i + 1))))
    omega
  have h2 : nearAll ps at' r (List.range ps.length) = false → nearAll ps at' s (List.range ps.length) = false := by
    unfold nearAll
    rw [List.any_eq_false, List.any_eq_false]
    intro h i hi
    have := h i hi
    unfold nearB at this ⊢
    rw [decide_eq_true_eq] at this ⊢
    have := Int.mul_le_mul_of_nonneg_right hss (Int.le_of_lt (sqr_third at' (cor ps i) (cor ps (i + 1))))
    omega
  unfold discVal
  by_cases hp : 0 ≤ placeOf ps at'
  · rw [if_pos hp, if_pos hp]
    cases ha : apartAll ps at' r (List.range ps.length)
    · simp
    · rw [h1 ha]
      simp
  · rw [if_neg hp, if_neg hp]
    cases hn : nearAll ps at' r (List.range ps.length)
    · rw [h2 hn]
      simp
    · simp
theorem place_cases (ps : List Pt) (q : Pt) : (onAny ps q = true ∧ placeOf ps q = 0) ∨ (onAny ps q = false ∧ par ps q (List.range ps.length) = true ∧ placeOf ps q = 1) ∨ (onAny ps q = false ∧ par ps q (List.range ps.length) = false ∧ placeOf ps q = -1) := by
  unfold placeOf
  cases onAny ps q <;> cases par ps q (List.range ps.length) <;> simp
theorem place_meets {ps : List Pt} {a b : Pt} (h : 0 ≤ placeOf ps a) (h2 : placeOf ps b < 0) : a ≠ b ∧ ∃ i, i < ps.length ∧ meetB a b (cor ps i) (cor ps (i + 1)) = true := by
  refine ⟨fun e => by rw [e] at h; omega, ?_⟩
  rcases place_cases ps a with ⟨e, f⟩ | ⟨e, g, f⟩ | ⟨e, g, f⟩
  · unfold onAny at e
    rw [List.any_eq_true] at e
    obtain ⟨i, hi, ho⟩ := e
    exact ⟨i, List.mem_range.1 hi, by unfold meetB; rw [ho]; simp⟩
  · rcases place_cases ps b with ⟨e', f'⟩ | ⟨e', g', f'⟩ | ⟨e', g', f'⟩
    · omega
    · omega
    · by_cases hm : ∃ i, i < ps.length ∧ meetB a b (cor ps i) (cor ps (i + 1)) = true
      · exact hm
      · have := par_const (ps := ps) (a := a) (b := b) (fun i hi => by
          cases h : meetB a b (cor ps i) (cor ps (i + 1))
          · rfl
          · exact absurd ⟨i, hi, h⟩ hm)
        rw [g, g'] at this
        cases this
  · omega
theorem disc_has {ps : List Pt} {at' other : Pt} {r : Int} (hn : sqd at' other ≤ r * r) : (discVal ps at' r = 1 → 0 ≤ placeOf ps other) ∧ (discVal ps at' r = -1 → placeOf ps other < 0) := by
  unfold discVal
  by_cases hp : 0 ≤ placeOf ps at'
  · rw [if_pos hp]
    refine ⟨fun h => ?_, fun h => by split at h <;> cases h⟩
    have ha : apartAll ps at' r (List.range ps.length) = true := by
      cases hx : apartAll ps at' r (List.range ps.length)
      · rw [hx] at h; simp at h
      · rfl
    rcases Int.lt_or_le (placeOf ps other) 0 with hlt | hle
    · obtain ⟨hne, i, hi, hm⟩ := place_meets hp hlt
      obtain ⟨_, h2⟩ := meet_near hm
      have hno : onB other (cor ps i) (cor ps (i + 1)) = false := by
        rcases place_cases ps other with ⟨e, f⟩ | ⟨e, g, f⟩ | ⟨e, g, f⟩
        · omega
        · omega
        · unfold onAny at e
          rw [List.any_eq_false] at e
          simpa using e i (List.mem_range.2 hi)
      have h3 := h2 hno (fun e => hne e.symm)
      unfold apartAll at ha
      rw [List.all_eq_true] at ha
      have h4 := ha i (List.mem_range.2 hi)
      unfold apartB at h4
      rw [decide_eq_true_eq] at h4
      have h5 := Int.mul_le_mul_of_nonneg_right hn (Int.le_of_lt (sqr_third at' (cor ps i) (cor ps (i + 1))))
      omega
    · exact hle
  · rw [if_neg hp]
    refine ⟨fun h => (by split at h <;> cases h), fun h => ?_⟩
    have ha : nearAll ps at' r (List.range ps.length) = false := by
      cases hx : nearAll ps at' r (List.range ps.length)
      · rfl
      · rw [hx] at h; simp at h
    rcases Int.lt_or_le (placeOf ps other) 0 with hlt | hle
    · exact hlt
    · obtain ⟨hne, i, hi, hm⟩ := place_meets hle (show placeOf ps at' < 0 by omega)
      rw [← meetB_swap1] at hm
      obtain ⟨h2, _⟩ := meet_near hm
      unfold nearAll at ha
      rw [List.any_eq_false] at ha
      have h4 := ha i (List.mem_range.2 hi)
      unfold nearB at h4
      rw [decide_eq_true_eq] at h4
      have h5 := Int.mul_le_mul_of_nonneg_right hn (Int.le_of_lt (sqr_third at' (cor ps i) (cor ps (i + 1))))
      omega
theorem near_self {p a : Pt} {r : Int} (h : nearB p a a r = true) : sqd a p ≤ r * r := by
  unfold nearB sqr at h
  rw [decide_eq_true_eq] at h
  have e : dt a a p = 0 := by unfold dt; grind
  rw [if_pos (by omega)] at h
  have e2 : dt a p p = sqd a p := by unfold dt sqd; grind
  rw [e2] at h
  dsimp only at h
  omega
end Go.Proofs.Ytdmlnmcaihodaaa
