/- Where a place is does not change along a segment that meets no edge: the parity of the crossings. -/
import Derived.Test.YtdmlnmcaihodaaaPog
namespace Go.Proofs.Ytdmlnmcaihodaaa
set_option linter.unusedVariables false
set_option linter.unusedSimpArgs false

theorem neg_of {x y : Int} (h : x * y < 0) (hy : 0 < y) : x < 0 := by
  rcases Int.lt_or_le x 0 with h1 | h1
  · exact h1
  · have := Int.mul_nonneg h1 (Int.le_of_lt hy)
    omega
theorem pos_of {x y : Int} (h : 0 < x * y) (hy : 0 < y) : 0 < x := by
  rcases Int.lt_or_le 0 x with h1 | h1
  · exact h1
  · have := Int.mul_nonneg (show 0 ≤ -x by omega) (Int.le_of_lt hy)
    rw [Int.neg_mul] at this
    omega
theorem zero_of {x y : Int} (h : x * y = 0) (hy : 0 < y) : x = 0 := by
  rcases Int.mul_eq_zero.1 h with h | h
  · exact h
  · omega
theorem np_of {x y : Int} (hx : x ≤ 0) (hy : 0 ≤ y) : x * y ≤ 0 := by
  have := Int.mul_nonneg (show 0 ≤ -x by omega) hy
  rw [Int.neg_mul] at this
  omega
theorem sg_pos {x : Int} : 0 < sg x ↔ 0 < x := by rcases sg_cases x with ⟨h, e⟩ | ⟨h, e⟩ | ⟨h, e⟩ <;> rw [e] <;> omega
theorem sg_neg {x : Int} : sg x < 0 ↔ x < 0 := by rcases sg_cases x with ⟨h, e⟩ | ⟨h, e⟩ | ⟨h, e⟩ <;> rw [e] <;> omega
theorem sg_zero {x : Int} : sg x = 0 ↔ x = 0 := by rcases sg_cases x with ⟨h, e⟩ | ⟨h, e⟩ | ⟨h, e⟩ <;> rw [e] <;> omega
theorem sg_opp {x y : Int} : sg x * sg y < 0 ↔ (x < 0 ∧ 0 < y) ∨ (0 < x ∧ y < 0) := by
  rcases sg_cases x with ⟨h, e⟩ | ⟨h, e⟩ | ⟨h, e⟩ <;> rcases sg_cases y with ⟨k, f⟩ | ⟨k, f⟩ | ⟨k, f⟩ <;> rw [e, f] <;> omega
theorem cr_swap (a b p : Pt) : cr b a p = - cr a b p := by unfold cr; grind
theorem tn_swap (a b p : Pt) : tn b a p = - tn a b p := by
  unfold tn
  rw [cr_swap]
  rcases sg_cases (cr a b p) with ⟨h, e⟩ | ⟨h, e⟩ | ⟨h, e⟩ <;> rcases sg_cases (-cr a b p) with ⟨k, f⟩ | ⟨k, f⟩ | ⟨k, f⟩ <;> rw [e, f] <;> omega
theorem onB_iff {p a b : Pt} : onB p a b = true ↔ cr a b p = 0 ∧ (min a.1 b.1 ≤ p.1 ∧ p.1 ≤ max a.1 b.1) ∧ (min a.2 b.2 ≤ p.2 ∧ p.2 ≤ max a.2 b.2) := by
  unfold onB tn
  rw [decide_eq_true_eq, sg_zero]
theorem onB_swap (p a b : Pt) : onB p b a = onB p a b := by
  rw [Bool.eq_iff_iff, onB_iff, onB_iff, cr_swap, Int.min_comm, Int.max_comm, Int.min_comm b.2, Int.max_comm b.2]
  omega
theorem cutB_iff {a b c d : Pt} : cutB a b c d = true ↔ ((cr a b c < 0 ∧ 0 < cr a b d) ∨ (0 < cr a b c ∧ cr a b d < 0)) ∧ ((cr c d a < 0 ∧ 0 < cr c d b) ∨ (0 < cr c d a ∧ cr c d b < 0)) := by
  unfold cutB tn
  rw [Bool.and_eq_true, decide_eq_true_eq, decide_eq_true_eq, sg_opp, sg_opp]
theorem cutB_swap1 (a b c d : Pt) : cutB b a c d = cutB a b c d := by
  rw [Bool.eq_iff_iff, cutB_iff, cutB_iff, cr_swap a b c, cr_swap a b d]
  omega
theorem cutB_swap2 (a b c d : Pt) : cutB a b d c = cutB a b c d := by
  rw [Bool.eq_iff_iff, cutB_iff, cutB_iff, cr_swap c d a, cr_swap c d b]
  omega
theorem cutB_comm (a b c d : Pt) : cutB c d a b = cutB a b c d := by unfold cutB; rw [Bool.and_comm]
theorem meetB_swap1 (a b c d : Pt) : meetB b a c d = meetB a b c d := by
  unfold meetB
  rw [cutB_swap1, onB_swap c a b, onB_swap d a b]
  cases cutB a b c d <;> cases onB a c d <;> cases onB b c d <;> rfl
theorem meetB_swap2 (a b c d : Pt) : meetB a b d c = meetB a b c d := by
  unfold meetB
  rw [cutB_swap2, onB_swap a c d, onB_swap b c d]
  cases cutB a b c d <;> cases onB a c d <;> cases onB b c d <;> cases onB c a b <;> cases onB d a b <;> rfl
theorem meetB_comm (a b c d : Pt) : meetB c d a b = meetB a b c d := by
  unfold meetB
  rw [cutB_comm]
  cases cutB a b c d <;> cases onB a c d <;> cases onB b c d <;> cases onB c a b <;> cases onB d a b <;> rfl
theorem meet_parts {a b u v : Pt} (h : meetB a b u v = false) : cutB a b u v = false ∧ onB a u v = false ∧ onB b u v = false ∧ onB u a b = false ∧ onB v a b = false := by
  unfold meetB at h
  simpa using h
theorem crossB_swap (q a b : Pt) : crossB q b a = crossB q a b := by
  unfold crossB
  rcases Int.lt_trichotomy a.2 b.2 with h | h | h
  · rw [if_pos h, if_neg (by omega)]
  · rw [if_neg (by omega), if_neg (by omega), h]
    have : ∀ x y : Bool, (decide (b.2 ≤ q.2 ∧ q.2 < b.2) && x) = (decide (b.2 ≤ q.2 ∧ q.2 < b.2) && y) := by
      intro x y
      rw [show decide (b.2 ≤ q.2 ∧ q.2 < b.2) = false by simp]
      rfl
    exact this _ _
  · rw [if_neg (by omega), if_pos h]
theorem crossB_up {q u v : Pt} (h : u.2 ≤ v.2) : crossB q u v = (decide (u.2 ≤ q.2 ∧ q.2 < v.2) && decide (0 < cr u v q)) := by
  unfold crossB
  rw [if_neg (by omega)]
  congr 1
  rw [decide_eq_decide]
  exact sg_pos

theorem idU (a b u v : Pt) : cr a b u * (v.2 - u.2) = -cr u v a * (b.2 - u.2) + cr u v b * (a.2 - u.2) := by unfold cr; grind
theorem idV (a b u v : Pt) : cr a b v * (v.2 - u.2) = cr u v a * (v.2 - b.2) - cr u v b * (v.2 - a.2) := by unfold cr; grind
/-- A place on the line, of a height between, is on the segment. -/
theorem on_of {p u v : Pt} (h : cr u v p = 0) (h1 : u.2 ≤ p.2) (h2 : p.2 ≤ v.2) (h3 : u.2 < v.2) : onB p u v = true := by
  rw [onB_iff]
  refine ⟨h, ?_, by omega⟩
  have e : (p.1 - u.1) * (v.2 - u.2) = (v.1 - u.1) * (p.2 - u.2) := by unfold cr at h; grind
  have e2 : (v.1 - p.1) * (v.2 - u.2) = (v.1 - u.1) * (v.2 - p.2) := by unfold cr at h; grind
  rcases Int.le_total u.1 v.1 with h4 | h4
  · have a1 := Int.mul_nonneg (show 0 ≤ v.1 - u.1 by omega) (show 0 ≤ p.2 - u.2 by omega)
    have a2 := Int.mul_nonneg (show 0 ≤ v.1 - u.1 by omega) (show 0 ≤ v.2 - p.2 by omega)
    rw [← e] at a1
    rw [← e2] at a2
    have b1 : ¬ p.1 - u.1 < 0 := fun hn => by
      have := Int.mul_pos (show 0 < -(p.1 - u.1) by omega) (show 0 < v.2 - u.2 by omega)
      rw [Int.neg_mul] at this
      omega
    have b2 : ¬ v.1 - p.1 < 0 := fun hn => by
      have := Int.mul_pos (show 0 < -(v.1 - p.1) by omega) (show 0 < v.2 - u.2 by omega)
      rw [Int.neg_mul] at this
      omega
    omega
  · have a1 := np_of (show v.1 - u.1 ≤ 0 by omega) (show 0 ≤ p.2 - u.2 by omega)
    have a2 := np_of (show v.1 - u.1 ≤ 0 by omega) (show 0 ≤ v.2 - p.2 by omega)
    rw [← e] at a1
    rw [← e2] at a2
    have b1 : ¬ 0 < p.1 - u.1 := fun hn => by
      have := Int.mul_pos hn (show 0 < v.2 - u.2 by omega)
      omega
    have b2 : ¬ 0 < v.1 - p.1 := fun hn => by
      have := Int.mul_pos hn (show 0 < v.2 - u.2 by omega)
      omega
    omega
/-- On which side of a segment a place of its heights is. -/
def sideB (a b w : Pt) : Bool := decide (a.2 < w.2 ∧ w.2 ≤ b.2) && decide (cr a b w < 0)
theorem pos3 {A B U V u a v b : Int} (iU : U * (v - u) = -A * (b - u) + B * (a - u)) (iV : V * (v - u) = A * (v - b) - B * (v - a)) (h1 : u ≤ a) (h2 : a < v) (h3 : v ≤ b) (hA : 0 < A) (hV : 0 < V) : B < 0 ∧ U < 0 := by
  have e1 := Int.mul_pos hV (show 0 < v - u by omega)
  have e2 := Int.mul_nonneg (Int.le_of_lt hA) (show 0 ≤ b - v by omega)
  have e3 : A * (v - b) = -(A * (b - v)) := by grind
  have hB : B < 0 := neg_of (y := v - a) (by omega) (by omega)
  have e4 := Int.mul_pos hA (show 0 < b - u by omega)
  have e5 := np_of (Int.le_of_lt hB) (show 0 ≤ a - u by omega)
  rw [Int.neg_mul] at iU
  exact ⟨hB, neg_of (y := v - u) (by omega) (by omega)⟩
theorem pos4 {A B U V u a v b : Int} (iU : U * (v - u) = -A * (b - u) + B * (a - u)) (iV : V * (v - u) = A * (v - b) - B * (v - a)) (h1 : u ≤ a) (h2 : a ≤ b) (h3 : b < v) (hA : 0 < A) (hB : B < 0) : 0 < V ∧ (U < 0 ∨ (b = u ∧ a = u)) := by
  have e1 := Int.mul_pos hA (show 0 < v - b by omega)
  have e2 := np_of (Int.le_of_lt hB) (show 0 ≤ v - a by omega)
  have hV : 0 < V := pos_of (y := v - u) (by omega) (by omega)
  refine ⟨hV, ?_⟩
  by_cases hbu : b = u
  · exact .inr ⟨hbu, by omega⟩
  · have e4 := Int.mul_pos hA (show 0 < b - u by omega)
    have e5 := np_of (Int.le_of_lt hB) (show 0 ≤ a - u by omega)
    rw [Int.neg_mul] at iU
    exact .inl (neg_of (y := v - u) (by omega) (by omega))
theorem pos6 {A B U V u a v b : Int} (iU : U * (v - u) = -A * (b - u) + B * (a - u)) (iV : V * (v - u) = A * (v - b) - B * (v - a)) (h1 : a < u) (h2 : u ≤ b) (h3 : b < v) (hB : 0 < B) (hU : 0 < U) : A < 0 ∧ V < 0 := by
  have e1 := Int.mul_pos hU (show 0 < v - u by omega)
  have e2 := Int.mul_pos hB (show 0 < u - a by omega)
  have e3 : B * (a - u) = -(B * (u - a)) := by grind
  rw [Int.neg_mul] at iU
  have hbu : ¬ b = u := fun e => by rw [e, Int.sub_self, Int.mul_zero] at iU; omega
  have hA : A < 0 := neg_of (y := b - u) (by omega) (by omega)
  have e4 := np_of (Int.le_of_lt hA) (show 0 ≤ v - b by omega)
  have e5 := Int.mul_pos hB (show 0 < v - a by omega)
  exact ⟨hA, neg_of (y := v - u) (by omega) (by omega)⟩
theorem neg_id {A B U x y z : Int} (h : U * x = -A * y + B * z) : -U * x = - -A * y + -B * z := by grind
theorem neg_id2 {A B V x y z : Int} (h : V * x = A * y - B * z) : -V * x = -A * y - -B * z := by grind
theorem edge_par {a b u v : Pt} (hab : a.2 ≤ b.2) (huv : u.2 ≤ v.2) (hm : meetB a b u v = false) : (crossB a u v ^^ crossB b u v) = (sideB a b u ^^ sideB a b v) := by
  obtain ⟨hc, ha, hb, hu, hv⟩ := meet_parts hm
  have hc' : ¬ (((cr a b u < 0 ∧ 0 < cr a b v) ∨ (0 < cr a b u ∧ cr a b v < 0)) ∧ ((cr u v a < 0 ∧ 0 < cr u v b) ∨ (0 < cr u v a ∧ cr u v b < 0))) := fun h => by
    rw [cutB_iff.2 h] at hc
    cases hc
  have iU := idU a b u v
  have iV := idV a b u v
  have iA := idU u v a b
  have iB := idV u v a b
  rw [crossB_up huv, crossB_up huv]
  unfold sideB
  have oa : u.2 ≤ a.2 → a.2 ≤ v.2 → u.2 < v.2 → cr u v a ≠ 0 := fun h1 h2 h3 e => by rw [on_of e h1 h2 h3] at ha; cases ha
  have ob : u.2 ≤ b.2 → b.2 ≤ v.2 → u.2 < v.2 → cr u v b ≠ 0 := fun h1 h2 h3 e => by rw [on_of e h1 h2 h3] at hb; cases hb
  have ou : a.2 ≤ u.2 → u.2 ≤ b.2 → a.2 < b.2 → cr a b u ≠ 0 := fun h1 h2 h3 e => by rw [on_of e h1 h2 h3] at hu; cases hu
  have ov : a.2 ≤ v.2 → v.2 ≤ b.2 → a.2 < b.2 → cr a b v ≠ 0 := fun h1 h2 h3 e => by rw [on_of e h1 h2 h3] at hv; cases hv
  have hcases : (v.2 ≤ a.2) ∨ (b.2 < u.2) ∨ (u.2 ≤ a.2 ∧ a.2 < v.2 ∧ v.2 ≤ b.2) ∨ (u.2 ≤ a.2 ∧ b.2 < v.2) ∨ (a.2 < u.2 ∧ v.2 ≤ b.2) ∨ (a.2 < u.2 ∧ u.2 ≤ b.2 ∧ b.2 < v.2) := by omega
  obtain ⟨A, hA⟩ : ∃ x, cr u v a = x := ⟨_, rfl⟩
  obtain ⟨B, hB⟩ : ∃ x, cr u v b = x := ⟨_, rfl⟩
  obtain ⟨U, hU⟩ : ∃ x, cr a b u = x := ⟨_, rfl⟩
  obtain ⟨V, hV⟩ : ∃ x, cr a b v = x := ⟨_, rfl⟩
  rcases hcases with h | h | ⟨h1, h2, h3⟩ | ⟨h1, h2⟩ | ⟨h1, h2⟩ | ⟨h1, h2, h3⟩
  · rw [show decide (u.2 ≤ a.2 ∧ a.2 < v.2) = false by simp; omega, show decide (u.2 ≤ b.2 ∧ b.2 < v.2) = false by simp; omega, show decide (a.2 < u.2 ∧ u.2 ≤ b.2) = false by simp; omega, show decide (a.2 < v.2 ∧ v.2 ≤ b.2) = false by simp; omega]
    rfl
  · rw [show decide (u.2 ≤ a.2 ∧ a.2 < v.2) = false by simp; omega, show decide (u.2 ≤ b.2 ∧ b.2 < v.2) = false by simp; omega, show decide (a.2 < u.2 ∧ u.2 ≤ b.2) = false by simp; omega, show decide (a.2 < v.2 ∧ v.2 ≤ b.2) = false by simp; omega]
    rfl
  · rw [show decide (u.2 ≤ a.2 ∧ a.2 < v.2) = true by simp; omega, show decide (u.2 ≤ b.2 ∧ b.2 < v.2) = false by simp; omega, show decide (a.2 < u.2 ∧ u.2 ≤ b.2) = false by simp; omega, show decide (a.2 < v.2 ∧ v.2 ≤ b.2) = true by simp; omega]
    have a0 := oa h1 (by omega) (by omega)
    have v0 := ov (by omega) h3 (by omega)
    rw [hA] at a0
    rw [hV] at v0
    rw [hA, hB, hU, hV] at hc'
    rw [hA, hV]
    rw [hU, hA, hB] at iU
    rw [hV, hA, hB] at iV
    have key : (0 < A ↔ V < 0) := by
      constructor
      · intro h
        rcases Int.lt_trichotomy V 0 with h9 | h9 | h9
        · exact h9
        · exact absurd h9 v0
        · obtain ⟨x, y⟩ := pos3 iU iV h1 h2 h3 h h9
          exact absurd ⟨.inl ⟨y, h9⟩, .inr ⟨h, x⟩⟩ hc'
      · intro h
        rcases Int.lt_trichotomy 0 A with h9 | h9 | h9
        · exact h9
        · exact absurd h9.symm a0
        · obtain ⟨x, y⟩ := pos3 (neg_id iU) (neg_id2 iV) h1 h2 h3 (show 0 < -A by omega) (show 0 < -V by omega)
          exact absurd ⟨.inr ⟨by omega, h⟩, .inl ⟨h9, by omega⟩⟩ hc'
    simp [key]
  · rw [show decide (u.2 ≤ a.2 ∧ a.2 < v.2) = true by simp; omega, show decide (u.2 ≤ b.2 ∧ b.2 < v.2) = true by simp; omega, show decide (a.2 < u.2 ∧ u.2 ≤ b.2) = false by simp; omega, show decide (a.2 < v.2 ∧ v.2 ≤ b.2) = false by simp; omega]
    have a0 := oa h1 (by omega) (by omega)
    have b0 := ob (by omega) (by omega) (by omega)
    have hflat : u.2 = a.2 → b.2 = a.2 → (0 < cr u v a ∧ cr u v b < 0) ∨ (cr u v a < 0 ∧ 0 < cr u v b) → False := by
      intro e1 e2 e3
      have x1 : cr u v a = (v.2 - u.2) * (u.1 - a.1) := by unfold cr; rw [e1]; grind
      have x2 : cr u v b = (v.2 - u.2) * (u.1 - b.1) := by unfold cr; rw [e2, e1]; grind
      have y0 : cr a b u = 0 := by unfold cr; rw [e1, e2]; grind
      have hp : 0 < v.2 - u.2 := by omega
      have hon : onB u a b = true := by
        rw [onB_iff]
        refine ⟨y0, ?_, by omega⟩
        rw [x1, x2, Int.mul_comm, Int.mul_comm (v.2 - u.2)] at e3
        rcases e3 with ⟨q1, q2⟩ | ⟨q1, q2⟩
        · have := pos_of q1 hp
          have := neg_of q2 hp
          omega
        · have := neg_of q1 hp
          have := pos_of q2 hp
          omega
      rw [hon] at hu
      cases hu
    rw [hA] at a0 hflat
    rw [hB] at b0 hflat
    rw [hA, hB, hU, hV] at hc'
    rw [hA, hB]
    rw [hU, hA, hB] at iU
    rw [hV, hA, hB] at iV
    have key : (0 < A ↔ 0 < B) := by
      constructor
      · intro h
        rcases Int.lt_trichotomy 0 B with h9 | h9 | h9
        · exact h9
        · exact absurd h9.symm b0
        · obtain ⟨x, y | ⟨y1, y2⟩⟩ := pos4 iU iV h1 hab h2 h h9
          · exact absurd ⟨.inl ⟨y, x⟩, .inr ⟨h, h9⟩⟩ hc'
          · exact absurd (hflat (by omega) (by omega) (.inl ⟨h, h9⟩)) id
      · intro h
        rcases Int.lt_trichotomy 0 A with h9 | h9 | h9
        · exact h9
        · exact absurd h9.symm a0
        · obtain ⟨x, y | ⟨y1, y2⟩⟩ := pos4 (neg_id iU) (neg_id2 iV) h1 hab h2 (show 0 < -A by omega) (show -B < 0 by omega)
          · exact absurd ⟨.inr ⟨by omega, by omega⟩, .inl ⟨h9, h⟩⟩ hc'
          · exact absurd (hflat (by omega) (by omega) (.inr ⟨h9, h⟩)) id
    simp [key]
  · rw [show decide (u.2 ≤ a.2 ∧ a.2 < v.2) = false by simp; omega, show decide (u.2 ≤ b.2 ∧ b.2 < v.2) = false by simp; omega, show decide (a.2 < u.2 ∧ u.2 ≤ b.2) = true by simp; omega, show decide (a.2 < v.2 ∧ v.2 ≤ b.2) = true by simp; omega]
    have u0 := ou (by omega) (by omega) (by omega)
    have v0 := ov (by omega) (by omega) (by omega)
    have hflat : b.2 = u.2 → v.2 = u.2 → (0 < cr a b u ∧ cr a b v < 0) ∨ (cr a b u < 0 ∧ 0 < cr a b v) → False := by
      intro e1 e2 e3
      have x1 : cr a b u = (b.2 - a.2) * (b.1 - u.1) := by unfold cr; rw [e1]; grind
      have x2 : cr a b v = (b.2 - a.2) * (b.1 - v.1) := by unfold cr; rw [e2, e1]; grind
      have y0 : cr u v b = 0 := by unfold cr; rw [e1, e2]; grind
      have hp : 0 < b.2 - a.2 := by omega
      have hon : onB b u v = true := by
        rw [onB_iff]
        refine ⟨y0, ?_, by omega⟩
        rw [x1, x2, Int.mul_comm, Int.mul_comm (b.2 - a.2)] at e3
        rcases e3 with ⟨q1, q2⟩ | ⟨q1, q2⟩
        · have := pos_of q1 hp
          have := neg_of q2 hp
          omega
        · have := neg_of q1 hp
          have := pos_of q2 hp
          omega
      rw [hon] at hb
      cases hb
    rw [hU] at u0 hflat
    rw [hV] at v0 hflat
    rw [hA, hB, hU, hV] at hc'
    rw [hU, hV]
    rw [hU, hA, hV] at iA
    rw [hU, hV, hB] at iB
    have dual : ∀ A B U V : Int, A * (b.2 - a.2) = -U * (v.2 - a.2) + V * (u.2 - a.2) → B * (b.2 - a.2) = U * (b.2 - v.2) - V * (b.2 - u.2) → U < 0 → 0 < V → 0 < A ∧ (B < 0 ∨ (b.2 = u.2 ∧ v.2 = u.2)) := by
      intro A B U V iA iB hU hV
      have e1 := Int.mul_pos hV (show 0 < u.2 - a.2 by omega)
      have e2 := np_of (Int.le_of_lt hU) (show 0 ≤ v.2 - a.2 by omega)
      rw [Int.neg_mul] at iA
      refine ⟨pos_of (y := b.2 - a.2) (by omega) (by omega), ?_⟩
      by_cases hbu : b.2 = u.2
      · exact .inr ⟨hbu, by omega⟩
      · have e3 := Int.mul_pos hV (show 0 < b.2 - u.2 by omega)
        have e4 := np_of (Int.le_of_lt hU) (show 0 ≤ b.2 - v.2 by omega)
        exact .inl (neg_of (y := b.2 - a.2) (by omega) (by omega))
    have key : (U < 0 ↔ V < 0) := by
      constructor
      · intro h
        rcases Int.lt_trichotomy V 0 with h9 | h9 | h9
        · exact h9
        · exact absurd h9 v0
        · obtain ⟨x, y | ⟨y1, y2⟩⟩ := dual A B U V iA iB h h9
          · exact absurd ⟨.inl ⟨h, h9⟩, .inr ⟨x, y⟩⟩ hc'
          · exact absurd (hflat (by omega) (by omega) (.inr ⟨h, h9⟩)) id
      · intro h
        rcases Int.lt_trichotomy U 0 with h9 | h9 | h9
        · exact h9
        · exact absurd h9 u0
        · obtain ⟨x, y | ⟨y1, y2⟩⟩ := dual (-A) (-B) (-U) (-V) (neg_id iA) (neg_id2 iB) (by omega) (by omega)
          · exact absurd ⟨.inr ⟨h9, h⟩, .inl ⟨by omega, by omega⟩⟩ hc'
          · exact absurd (hflat (by omega) (by omega) (.inl ⟨h9, h⟩)) id
    simp [key]
  · rw [show decide (u.2 ≤ a.2 ∧ a.2 < v.2) = false by simp; omega, show decide (u.2 ≤ b.2 ∧ b.2 < v.2) = true by simp; omega, show decide (a.2 < u.2 ∧ u.2 ≤ b.2) = true by simp; omega, show decide (a.2 < v.2 ∧ v.2 ≤ b.2) = false by simp; omega]
    have b0 := ob (by omega) (by omega) (by omega)
    have u0 := ou (by omega) (by omega) (by omega)
    rw [hB] at b0
    rw [hU] at u0
    rw [hA, hB, hU, hV] at hc'
    rw [hB, hU]
    rw [hU, hA, hB] at iU
    rw [hV, hA, hB] at iV
    have key : (0 < B ↔ U < 0) := by
      constructor
      · intro h
        rcases Int.lt_trichotomy U 0 with h9 | h9 | h9
        · exact h9
        · exact absurd h9 u0
        · obtain ⟨x, y⟩ := pos6 iU iV h1 h2 h3 h h9
          exact absurd ⟨.inr ⟨h9, y⟩, .inl ⟨x, h⟩⟩ hc'
      · intro h
        rcases Int.lt_trichotomy 0 B with h9 | h9 | h9
        · exact h9
        · exact absurd h9.symm b0
        · obtain ⟨x, y⟩ := pos6 (neg_id iU) (neg_id2 iV) h1 h2 h3 (show 0 < -B by omega) (show 0 < -U by omega)
          exact absurd ⟨.inl ⟨h, by omega⟩, .inr ⟨by omega, h9⟩⟩ hc'
    simp [key]
theorem edge_par2 {a b u v : Pt} (hab : a.2 ≤ b.2) (hm : meetB a b u v = false) : (crossB a u v ^^ crossB b u v) = (sideB a b u ^^ sideB a b v) := by
  rcases Int.le_total u.2 v.2 with h | h
  · exact edge_par hab h hm
  · rw [← crossB_swap a u v, ← crossB_swap b u v, Bool.xor_comm (sideB a b u)]
    exact edge_par hab h (by rw [meetB_swap2]; exact hm)
theorem par_xor {ps : List Pt} {a b : Pt} (hab : a.2 ≤ b.2) : ∀ n, (∀ i, i < n → meetB a b (cor ps i) (cor ps (i + 1)) = false) → (par ps a (List.range n) ^^ par ps b (List.range n)) = (sideB a b (cor ps 0) ^^ sideB a b (cor ps n))
  | 0, _ => by simp [par]
  | n + 1, h => by
    have ih := par_xor hab n (fun i hi => h i (by omega))
    have he := edge_par2 hab (h n (by omega))
    rw [List.range_succ, par_snoc, par_snoc]
    revert ih he
    generalize par ps a (List.range n) = x1
    generalize par ps b (List.range n) = x2
    generalize crossB a (cor ps n) (cor ps (n + 1)) = x3
    generalize crossB b (cor ps n) (cor ps (n + 1)) = x4
    generalize sideB a b (cor ps 0) = x5
    generalize sideB a b (cor ps n) = x6
    generalize sideB a b (cor ps (n + 1)) = x7
    revert x1 x2 x3 x4 x5 x6 x7
    decide
theorem cor_len (ps : List Pt) : cor ps ps.length = cor ps 0 := by unfold cor; rw [Nat.mod_self, Nat.zero_mod]
/-- Along a segment that meets no edge the parity does not change. -/
theorem par_const {ps : List Pt} {a b : Pt} (h : ∀ i, i < ps.length → meetB a b (cor ps i) (cor ps (i + 1)) = false) : par ps a (List.range ps.length) = par ps b (List.range ps.length) := by
  rcases Int.le_total a.2 b.2 with hab | hab
  · have := par_xor hab ps.length h
    rw [cor_len, Bool.xor_self] at this
    simpa using this
  · have := par_xor (ps := ps) hab ps.length (fun i hi => by rw [meetB_swap1]; exact h i hi)
    rw [cor_len, Bool.xor_self] at this
    have : par ps b (List.range ps.length) = par ps a (List.range ps.length) := by simpa using this
    exact this.symm
end Go.Proofs.Ytdmlnmcaihodaaa
