/- Where a place is does not change along a segment that meets no edge: the parity of the crossings. Discs: a segment that meets an edge brings its ends near it. Two polygons that touch, in plain words. Two polygons whose edges do not meet, with a common place inside: one of them has a corner of the other. Touch: the laws. -/
import Derived.Test.YtndkfpmklmcjjaaGreatPog
import Derived.Test.YtndkfpmklmcjjaaGreatPol
set_option linter.unusedSimpArgs false
set_option linter.unusedVariables false
namespace Go.Proofs.YtndkfpmklmcjjaaGreat
theorem neg_of {x y : Int} (h : x * y < 0) (hy : 0 < y) : x < 0 := by
 rcases Int.lt_or_le x 0 with h1 | h1
 ·exact h1
 ·have := Int.mul_nonneg h1 (Int.le_of_lt hy)
  omega
theorem pos_of {x y : Int} (h : 0 < x * y) (hy : 0 < y) : 0 < x := by
 rcases Int.lt_or_le 0 x with h1 | h1
 ·exact h1
 ·have := Int.mul_nonneg (show 0 ≤ -x by omega) (Int.le_of_lt hy)
  rw [Int.neg_mul] at this
  omega
theorem zero_of {x y : Int} (h : x * y = 0) (hy : 0 < y) : x = 0 := by
 rcases Int.mul_eq_zero.1 h with h | h
 ·exact h
 ·omega
theorem np_of {x y : Int} (hx : x ≤ 0) (hy : 0 ≤ y) : x * y ≤ 0 := by
 have := Int.mul_nonneg (show 0 ≤ -x by omega) hy
 rw [Int.neg_mul] at this
 omega
theorem sg_pos {x : Int} : 0 < sg x ↔ 0 < x := by rcases sg_cases x with ⟨h, e⟩ | ⟨h, e⟩ | ⟨h, e⟩ <;> rw [e] <;> omega
theorem sg_zero {x : Int} : sg x = 0 ↔ x = 0 := by rcases sg_cases x with ⟨h, e⟩ | ⟨h, e⟩ | ⟨h, e⟩ <;> rw [e] <;> omega
theorem sg_opp {x y : Int} : sg x * sg y < 0 ↔ (x < 0 ∧ 0 < y) ∨ (0 < x ∧ y < 0) := by
 rcases sg_cases x with ⟨h, e⟩ | ⟨h, e⟩ | ⟨h, e⟩ <;> rcases sg_cases y with ⟨k, f⟩ | ⟨k, f⟩ | ⟨k, f⟩ <;> rw [e, f] <;> omega
theorem cr_swap (a b p : Pt) : cr b a p = - cr a b p := by unfold cr; grind
theorem tn_swap (a b p : Pt) : tn b a p = - tn a b p := by
 unfold tn
 rw [cr_swap]
 rcases sg_cases (cr a b p) with ⟨h, e⟩ | ⟨h, e⟩ | ⟨h, e⟩ <;> rcases sg_cases (-cr a b p) with ⟨k, f⟩ | ⟨k, f⟩ | ⟨k, f⟩ <;> rw [e, f] <;> omega
theorem onB_iff {p a b : Pt} : onB p a b = true ↔ cr a b p = 0 ∧ (min a.1 b.1 ≤ p.1 ∧ p.1 ≤ max a.1 b.1) ∧ (min a.2 b.2 ≤ p.2 ∧ p.2 ≤ max a.2 b.2) := by
 unfold onB tn
 rw [decide_eq_true_eq, sg_zero]
theorem onB_swap (p a b : Pt) : onB p b a = onB p a b := by
 rw [Bool.eq_iff_iff, onB_iff, onB_iff, cr_swap, Int.min_comm, Int.max_comm, Int.min_comm b.2, Int.max_comm b.2]
 omega
theorem cutB_iff {a b c d : Pt} : cutB a b c d = true ↔ ((cr a b c < 0 ∧ 0 < cr a b d) ∨ (0 < cr a b c ∧ cr a b d < 0)) ∧ ((cr c d a < 0 ∧ 0 < cr c d b) ∨ (0 < cr c d a ∧ cr c d b < 0)) := by
 unfold cutB tn
 rw [Bool.and_eq_true, decide_eq_true_eq, decide_eq_true_eq, sg_opp, sg_opp]
theorem cutB_swap1 (a b c d : Pt) : cutB b a c d = cutB a b c d := by
 rw [Bool.eq_iff_iff, cutB_iff, cutB_iff, cr_swap a b c, cr_swap a b d]
 omega
theorem cutB_swap2 (a b c d : Pt) : cutB a b d c = cutB a b c d := by
 rw [Bool.eq_iff_iff, cutB_iff, cutB_iff, cr_swap c d a, cr_swap c d b]
 omega
theorem cutB_comm (a b c d : Pt) : cutB c d a b = cutB a b c d := by unfold cutB; rw [Bool.and_comm]
theorem meetB_swap1 (a b c d : Pt) : meetB b a c d = meetB a b c d := by
 unfold meetB
 rw [cutB_swap1, onB_swap c a b, onB_swap d a b]
 cases cutB a b c d <;> cases onB a c d <;> cases onB b c d <;> rfl
theorem meetB_swap2 (a b c d : Pt) : meetB a b d c = meetB a b c d := by
 unfold meetB
 rw [cutB_swap2, onB_swap a c d, onB_swap b c d]
 cases cutB a b c d <;> cases onB a c d <;> cases onB b c d <;> cases onB c a b <;> cases onB d a b <;> rfl
theorem meetB_comm (a b c d : Pt) : meetB c d a b = meetB a b c d := by
 unfold meetB
 rw [cutB_comm]
 cases cutB a b c d <;> cases onB a c d <;> cases onB b c d <;> cases onB c a b <;> cases onB d a b <;> rfl
theorem meet_parts {a b u v : Pt} (h : meetB a b u v = false) : cutB a b u v = false ∧ onB a u v = false ∧ onB b u v = false ∧ onB u a b = false ∧ onB v a b = false := by
 unfold meetB at h
 simpa using h
theorem crossB_swap (q a b : Pt) : crossB q b a = crossB q a b := by
 unfold crossB
 rcases Int.lt_trichotomy a.2 b.2 with h | h | h
 ·rw [if_pos h, if_neg (by omega)]
 ·rw [if_neg (by omega), if_neg (by omega), h]
  have : ∀ x y : Bool, (decide (b.2 ≤ q.2 ∧ q.2 < b.2) && x) = (decide (b.2 ≤ q.2 ∧ q.2 < b.2) && y) := by
   intro x y
   rw [show decide (b.2 ≤ q.2 ∧ q.2 < b.2) = false by simp]
   rfl
  exact this _ _
 ·rw [if_neg (by omega), if_pos h]
theorem crossB_up {q u v : Pt} (h : u.2 ≤ v.2) : crossB q u v = (decide (u.2 ≤ q.2 ∧ q.2 < v.2) && decide (0 < cr u v q)) := by
 unfold crossB
 rw [if_neg (by omega)]
 congr 1
 rw [decide_eq_decide]
 exact sg_pos
theorem idU (a b u v : Pt) : cr a b u * (v.2 - u.2) = -cr u v a * (b.2 - u.2) + cr u v b * (a.2 - u.2) := by unfold cr; grind
theorem idV (a b u v : Pt) : cr a b v * (v.2 - u.2) = cr u v a * (v.2 - b.2) - cr u v b * (v.2 - a.2) := by unfold cr; grind
/-- A place on the line, of a height between, is on the segment. -/
theorem on_of {p u v : Pt} (h : cr u v p = 0) (h1 : u.2 ≤ p.2) (h2 : p.2 ≤ v.2) (h3 : u.2 < v.2) : onB p u v = true := by
 rw [onB_iff]
 refine ⟨h, ?_, by omega⟩
 have e : (p.1 - u.1) * (v.2 - u.2) = (v.1 - u.1) * (p.2 - u.2) := by unfold cr at h; grind
 have e2 : (v.1 - p.1) * (v.2 - u.2) = (v.1 - u.1) * (v.2 - p.2) := by unfold cr at h; grind
 rcases Int.le_total u.1 v.1 with h4 | h4
 ·have a1 := Int.mul_nonneg (show 0 ≤ v.1 - u.1 by omega) (show 0 ≤ p.2 - u.2 by omega)
  have a2 := Int.mul_nonneg (show 0 ≤ v.1 - u.1 by omega) (show 0 ≤ v.2 - p.2 by omega)
  rw [← e] at a1
  rw [← e2] at a2
  have b1 : ¬ p.1 - u.1 < 0 := fun hn => by
   have := Int.mul_pos (show 0 < -(p.1 - u.1) by omega) (show 0 < v.2 - u.2 by omega)
   rw [Int.neg_mul] at this
   omega
  have b2 : ¬ v.1 - p.1 < 0 := fun hn => by
   have := Int.mul_pos (show 0 < -(v.1 - p.1) by omega) (show 0 < v.2 - u.2 by omega)
   rw [Int.neg_mul] at this
   omega
  omega
 ·have a1 := np_of (show v.1 - u.1 ≤ 0 by omega) (show 0 ≤ p.2 - u.2 by omega)
  have a2 := np_of (show v.1 - u.1 ≤ 0 by omega) (show 0 ≤ v.2 - p.2 by omega)
  rw [← e] at a1
  rw [← e2] at a2
  have b1 : ¬ 0 < p.1 - u.1 := fun hn => by
   have := Int.mul_pos hn (show 0 < v.2 - u.2 by omega)
   omega
  have b2 : ¬ 0 < v.1 - p.1 := fun hn => by
   have := Int.mul_pos hn (show 0 < v.2 - u.2 by omega)
   omega
  omega
/-- On which side of a segment a place of its heights is. -/
def sideB (a b w : Pt) : Bool := decide (a.2 < w.2 ∧ w.2 ≤ b.2) && decide (cr a b w < 0)
theorem pos3 {A B U V u a v b : Int} (iU : U * (v - u) = -A * (b - u) + B * (a - u)) (iV : V * (v - u) = A * (v - b) - B * (v - a)) (h1 : u ≤ a) (h2 : a < v) (h3 : v ≤ b) (hA : 0 < A) (hV : 0 < V) : B < 0 ∧ U < 0 := by
 have e1 := Int.mul_pos hV (show 0 < v - u by omega)
 have e2 := Int.mul_nonneg (Int.le_of_lt hA) (show 0 ≤ b - v by omega)
 have e3 : A * (v - b) = -(A * (b - v)) := by grind
 have hB : B < 0 := neg_of (y := v - a) (by omega) (by omega)
 have e4 := Int.mul_pos hA (show 0 < b - u by omega)
 have e5 := np_of (Int.le_of_lt hB) (show 0 ≤ a - u by omega)
 rw [Int.neg_mul] at iU
 exact ⟨hB, neg_of (y := v - u) (by omega) (by omega)⟩
theorem pos4 {A B U V u a v b : Int} (iU : U * (v - u) = -A * (b - u) + B * (a - u)) (iV : V * (v - u) = A * (v - b) - B * (v - a)) (h1 : u ≤ a) (h2 : a ≤ b) (h3 : b < v) (hA : 0 < A) (hB : B < 0) : 0 < V ∧ (U < 0 ∨ (b = u ∧ a = u)) := by
 have e1 := Int.mul_pos hA (show 0 < v - b by omega)
 have e2 := np_of (Int.le_of_lt hB) (show 0 ≤ v - a by omega)
 have hV : 0 < V := pos_of (y := v - u) (by omega) (by omega)
 refine ⟨hV, ?_⟩
 by_cases hbu : b = u
 ·exact .inr ⟨hbu, by omega⟩
 ·have e4 := Int.mul_pos hA (show 0 < b - u by omega)
  have e5 := np_of (Int.le_of_lt hB) (show 0 ≤ a - u by omega)
  rw [Int.neg_mul] at iU
  exact .inl (neg_of (y := v - u) (by omega) (by omega))
theorem pos6 {A B U V u a v b : Int} (iU : U * (v - u) = -A * (b - u) + B * (a - u)) (iV : V * (v - u) = A * (v - b) - B * (v - a)) (h1 : a < u) (h2 : u ≤ b) (h3 : b < v) (hB : 0 < B) (hU : 0 < U) : A < 0 ∧ V < 0 := by
 have e1 := Int.mul_pos hU (show 0 < v - u by omega)
 have e2 := Int.mul_pos hB (show 0 < u - a by omega)
 have e3 : B * (a - u) = -(B * (u - a)) := by grind
 rw [Int.neg_mul] at iU
 have hbu : ¬ b = u := fun e => by rw [e, Int.sub_self, Int.mul_zero] at iU; omega
 have hA : A < 0 := neg_of (y := b - u) (by omega) (by omega)
 have e4 := np_of (Int.le_of_lt hA) (show 0 ≤ v - b by omega)
 have e5 := Int.mul_pos hB (show 0 < v - a by omega)
 exact ⟨hA, neg_of (y := v - u) (by omega) (by omega)⟩
theorem neg_id {A B U x y z : Int} (h : U * x = -A * y + B * z) : -U * x = - -A * y + -B * z := by grind
theorem neg_id2 {A B V x y z : Int} (h : V * x = A * y - B * z) : -V * x = -A * y - -B * z := by grind
theorem edge_par {a b u v : Pt} (hab : a.2 ≤ b.2) (huv : u.2 ≤ v.2) (hm : meetB a b u v = false) : (crossB a u v ^^ crossB b u v) = (sideB a b u ^^ sideB a b v) := by
 obtain ⟨hc, ha, hb, hu, hv⟩ := meet_parts hm
 have hc' : ¬ (((cr a b u < 0 ∧ 0 < cr a b v) ∨ (0 < cr a b u ∧ cr a b v < 0)) ∧ ((cr u v a < 0 ∧ 0 < cr u v b) ∨ (0 < cr u v a ∧ cr u v b < 0))) := fun h => by
  rw [cutB_iff.2 h] at hc
  cases hc
 have iU := idU a b u v
 have iV := idV a b u v
 have iA := idU u v a b
 have iB := idV u v a b
 rw [crossB_up huv, crossB_up huv]
 unfold sideB
 have oa : u.2 ≤ a.2 → a.2 ≤ v.2 → u.2 < v.2 → cr u v a ≠ 0 := fun h1 h2 h3 e => by rw [on_of e h1 h2 h3] at ha; cases ha
 have ob : u.2 ≤ b.2 → b.2 ≤ v.2 → u.2 < v.2 → cr u v b ≠ 0 := fun h1 h2 h3 e => by rw [on_of e h1 h2 h3] at hb; cases hb
 have ou : a.2 ≤ u.2 → u.2 ≤ b.2 → a.2 < b.2 → cr a b u ≠ 0 := fun h1 h2 h3 e => by rw [on_of e h1 h2 h3] at hu; cases hu
 have ov : a.2 ≤ v.2 → v.2 ≤ b.2 → a.2 < b.2 → cr a b v ≠ 0 := fun h1 h2 h3 e => by rw [on_of e h1 h2 h3] at hv; cases hv
 have hcases : (v.2 ≤ a.2) ∨ (b.2 < u.2) ∨ (u.2 ≤ a.2 ∧ a.2 < v.2 ∧ v.2 ≤ b.2) ∨ (u.2 ≤ a.2 ∧ b.2 < v.2) ∨ (a.2 < u.2 ∧ v.2 ≤ b.2) ∨ (a.2 < u.2 ∧ u.2 ≤ b.2 ∧ b.2 < v.2) := by omega
 obtain ⟨A, hA⟩ : ∃ x, cr u v a = x := ⟨_, rfl⟩
 obtain ⟨B, hB⟩ : ∃ x, cr u v b = x := ⟨_, rfl⟩
 obtain ⟨U, hU⟩ : ∃ x, cr a b u = x := ⟨_, rfl⟩
 obtain ⟨V, hV⟩ : ∃ x, cr a b v = x := ⟨_, rfl⟩
 rcases hcases with h | h | ⟨h1, h2, h3⟩ | ⟨h1, h2⟩ | ⟨h1, h2⟩ | ⟨h1, h2, h3⟩
 ·rw [show decide (u.2 ≤ a.2 ∧ a.2 < v.2) = false by simp; omega, show decide (u.2 ≤ b.2 ∧ b.2 < v.2) = false by simp; omega, show decide (a.2 < u.2 ∧ u.2 ≤ b.2) = false by simp; omega, show decide (a.2 < v.2 ∧ v.2 ≤ b.2) = false by simp; omega]
  rfl
 ·rw [show decide (u.2 ≤ a.2 ∧ a.2 < v.2) = false by simp; omega, show decide (u.2 ≤ b.2 ∧ b.2 < v.2) = false by simp; omega, show decide (a.2 < u.2 ∧ u.2 ≤ b.2) = false by simp; omega, show decide (a.2 < v.2 ∧ v.2 ≤ b.2) = false by simp; omega]
  rfl
 ·rw [show decide (u.2 ≤ a.2 ∧ a.2 < v.2) = true by simp; omega, show decide (u.2 ≤ b.2 ∧ b.2 < v.2) = false by simp; omega, show decide (a.2 < u.2 ∧ u.2 ≤ b.2) = false by simp; omega, show decide (a.2 < v.2 ∧ v.2 ≤ b.2) = true by simp; omega]
  have a0 := oa h1 (by omega) (by omega)
  have v0 := ov (by omega) h3 (by omega)
  rw [hA] at a0
  rw [hV] at v0
  rw [hA, hB, hU, hV] at hc'
  rw [hA, hV]
  rw [hU, hA, hB] at iU
  rw [hV, hA, hB] at iV
  have key : (0 < A ↔ V < 0) := by
   constructor
   ·intro h
    rcases Int.lt_trichotomy V 0 with h9 | h9 | h9
    ·exact h9
    ·exact absurd h9 v0
    ·obtain ⟨x, y⟩ := pos3 iU iV h1 h2 h3 h h9
     exact absurd ⟨.inl ⟨y, h9⟩, .inr ⟨h, x⟩⟩ hc'
   ·intro h
    rcases Int.lt_trichotomy 0 A with h9 | h9 | h9
    ·exact h9
    ·exact absurd h9.symm a0
    ·obtain ⟨x, y⟩ := pos3 (neg_id iU) (neg_id2 iV) h1 h2 h3 (show 0 < -A by omega) (show 0 < -V by omega)
     exact absurd ⟨.inr ⟨by omega, h⟩, .inl ⟨h9, by omega⟩⟩ hc'
  simp [key]
 ·rw [show decide (u.2 ≤ a.2 ∧ a.2 < v.2) = true by simp; omega, show decide (u.2 ≤ b.2 ∧ b.2 < v.2) = true by simp; omega, show decide (a.2 < u.2 ∧ u.2 ≤ b.2) = false by simp; omega, show decide (a.2 < v.2 ∧ v.2 ≤ b.2) = false by simp; omega]
  have a0 := oa h1 (by omega) (by omega)
  have b0 := ob (by omega) (by omega) (by omega)
  have hflat : u.2 = a.2 → b.2 = a.2 → (0 < cr u v a ∧ cr u v b < 0) ∨ (cr u v a < 0 ∧ 0 < cr u v b) → False := by
   intro e1 e2 e3
   have x1 : cr u v a = (v.2 - u.2) * (u.1 - a.1) := by unfold cr; rw [e1]; grind
   have x2 : cr u v b = (v.2 - u.2) * (u.1 - b.1) := by unfold cr; rw [e2, e1]; grind
   have y0 : cr a b u = 0 := by unfold cr; rw [e1, e2]; grind
   have hp : 0 < v.2 - u.2 := by omega
   have hon : onB u a b = true := by
    rw [onB_iff]
    refine ⟨y0, ?_, by omega⟩
    rw [x1, x2, Int.mul_comm, Int.mul_comm (v.2 - u.2)] at e3
    rcases e3 with ⟨q1, q2⟩ | ⟨q1, q2⟩
    ·have := pos_of q1 hp
     have := neg_of q2 hp
     omega
    ·have := neg_of q1 hp
     have := pos_of q2 hp
     omega
   rw [hon] at hu
   cases hu
  rw [hA] at a0 hflat
  rw [hB] at b0 hflat
  rw [hA, hB, hU, hV] at hc'
  rw [hA, hB]
  rw [hU, hA, hB] at iU
  rw [hV, hA, hB] at iV
  have key : (0 < A ↔ 0 < B) := by
   constructor
   ·intro h
    rcases Int.lt_trichotomy 0 B with h9 | h9 | h9
    ·exact h9
    ·exact absurd h9.symm b0
    ·obtain ⟨x, y | ⟨y1, y2⟩⟩ := pos4 iU iV h1 hab h2 h h9
     ·exact absurd ⟨.inl ⟨y, x⟩, .inr ⟨h, h9⟩⟩ hc'
     ·exact absurd (hflat (by omega) (by omega) (.inl ⟨h, h9⟩)) id
   ·intro h
    rcases Int.lt_trichotomy 0 A with h9 | h9 | h9
    ·exact h9
    ·exact absurd h9.symm a0
    ·obtain ⟨x, y | ⟨y1, y2⟩⟩ := pos4 (neg_id iU) (neg_id2 iV) h1 hab h2 (show 0 < -A by omega) (show -B < 0 by omega)
     ·exact absurd ⟨.inr ⟨by omega, by omega⟩, .inl ⟨h9, h⟩⟩ hc'
     ·exact absurd (hflat (by omega) (by omega) (.inr ⟨h9, h⟩)) id
  simp [key]
 ·rw [show decide (u.2 ≤ a.2 ∧ a.2 < v.2) = false by simp; omega, show decide (u.2 ≤ b.2 ∧ b.2 < v.2) = false by simp; omega, show decide (a.2 < u.2 ∧ u.2 ≤ b.2) = true by simp; omega, show decide (a.2 < v.2 ∧ v.2 ≤ b.2) = true by simp; omega]
  have u0 := ou (by omega) (by omega) (by omega)
  have v0 := ov (by omega) (by omega) (by omega)
  have hflat : b.2 = u.2 → v.2 = u.2 → (0 < cr a b u ∧ cr a b v < 0) ∨ (cr a b u < 0 ∧ 0 < cr a b v) → False := by
   intro e1 e2 e3
   have x1 : cr a b u = (b.2 - a.2) * (b.1 - u.1) := by unfold cr; rw [e1]; grind
   have x2 : cr a b v = (b.2 - a.2) * (b.1 - v.1) := by unfold cr; rw [e2, e1]; grind
   have y0 : cr u v b = 0 := by unfold cr; rw [e1, e2]; grind
   have hp : 0 < b.2 - a.2 := by omega
   have hon : onB b u v = true := by
    rw [onB_iff]
    refine ⟨y0, ?_, by omega⟩
    rw [x1, x2, Int.mul_comm, Int.mul_comm (b.2 - a.2)] at e3
    rcases e3 with ⟨q1, q2⟩ | ⟨q1, q2⟩
    ·have := pos_of q1 hp
     have := neg_of q2 hp
     omega
    ·have := neg_of q1 hp
     have := pos_of q2 hp
     omega
   rw [hon] at hb
   cases hb
  rw [hU] at u0 hflat
  rw [hV] at v0 hflat
  rw [hA, hB, hU, hV] at hc'
  rw [hU, hV]
  rw [hU, hA, hV] at iA
  rw [hU, hV, hB] at iB
  have dual : ∀ A B U V : Int, A * (b.2 - a.2) = -U * (v.2 - a.2) + V * (u.2 - a.2) → B * (b.2 - a.2) = U * (b.2 - v.2) - V * (b.2 - u.2) → U < 0 → 0 < V → 0 < A ∧ (B < 0 ∨ (b.2 = u.2 ∧ v.2 = u.2)) := by
   intro A B U V iA iB hU hV
   have e1 := Int.mul_pos hV (show 0 < u.2 - a.2 by omega)
   have e2 := np_of (Int.le_of_lt hU) (show 0 ≤ v.2 - a.2 by omega)
   rw [Int.neg_mul] at iA
   refine ⟨pos_of (y := b.2 - a.2) (by omega) (by omega), ?_⟩
   by_cases hbu : b.2 = u.2
   ·exact .inr ⟨hbu, by omega⟩
   ·have e3 := Int.mul_pos hV (show 0 < b.2 - u.2 by omega)
    have e4 := np_of (Int.le_of_lt hU) (show 0 ≤ b.2 - v.2 by omega)
    exact .inl (neg_of (y := b.2 - a.2) (by omega) (by omega))
  have key : (U < 0 ↔ V < 0) := by
   constructor
   ·intro h
    rcases Int.lt_trichotomy V 0 with h9 | h9 | h9
    ·exact h9
    ·exact absurd h9 v0
    ·obtain ⟨x, y | ⟨y1, y2⟩⟩ := dual A B U V iA iB h h9
     ·exact absurd ⟨.inl ⟨h, h9⟩, .inr ⟨x, y⟩⟩ hc'
     ·exact absurd (hflat (by omega) (by omega) (.inr ⟨h, h9⟩)) id
   ·intro h
    rcases Int.lt_trichotomy U 0 with h9 | h9 | h9
    ·exact h9
    ·exact absurd h9 u0
    ·obtain ⟨x, y | ⟨y1, y2⟩⟩ := dual (-A) (-B) (-U) (-V) (neg_id iA) (neg_id2 iB) (by omega) (by omega)
     ·exact absurd ⟨.inr ⟨h9, h⟩, .inl ⟨by omega, by omega⟩⟩ hc'
     ·exact absurd (hflat (by omega) (by omega) (.inl ⟨h9, h⟩)) id
  simp [key]
 ·rw [show decide (u.2 ≤ a.2 ∧ a.2 < v.2) = false by simp; omega, show decide (u.2 ≤ b.2 ∧ b.2 < v.2) = true by simp; omega, show decide (a.2 < u.2 ∧ u.2 ≤ b.2) = true by simp; omega, show decide (a.2 < v.2 ∧ v.2 ≤ b.2) = false by simp; omega]
  have b0 := ob (by omega) (by omega) (by omega)
  have u0 := ou (by omega) (by omega) (by omega)
  rw [hB] at b0
  rw [hU] at u0
  rw [hA, hB, hU, hV] at hc'
  rw [hB, hU]
  rw [hU, hA, hB] at iU
  rw [hV, hA, hB] at iV
  have key : (0 < B ↔ U < 0) := by
   constructor
   ·intro h
    rcases Int.lt_trichotomy U 0 with h9 | h9 | h9
    ·exact h9
    ·exact absurd h9 u0
    ·obtain ⟨x, y⟩ := pos6 iU iV h1 h2 h3 h h9
     exact absurd ⟨.inr ⟨h9, y⟩, .inl ⟨x, h⟩⟩ hc'
   ·intro h
    rcases Int.lt_trichotomy 0 B with h9 | h9 | h9
    ·exact h9
    ·exact absurd h9.symm b0
    ·obtain ⟨x, y⟩ := pos6 (neg_id iU) (neg_id2 iV) h1 h2 h3 (show 0 < -B by omega) (show 0 < -U by omega)
     exact absurd ⟨.inl ⟨h, by omega⟩, .inr ⟨by omega, h9⟩⟩ hc'
  simp [key]
theorem cor_len (ps : List Pt) : cor ps ps.length = cor ps 0 := by unfold cor; rw [Nat.mod_self, Nat.zero_mod]
end Go.Proofs.YtndkfpmklmcjjaaGreat
namespace Go.Proofs.YtndkfpmklmcjjaaGreat
/-- The square of the distance of two places. -/
def sqd (p q : Pt) : Int := (q.1 - p.1) * (q.1 - p.1) + (q.2 - p.2) * (q.2 - p.2)
theorem sq_nonneg (x : Int) : 0 ≤ x * x := by
 rcases Int.le_total 0 x with h | h
 ·exact Int.mul_nonneg h h
 ·have := Int.mul_nonneg (show 0 ≤ -x by omega) (show 0 ≤ -x by omega)
  rw [Int.neg_mul_neg] at this
  exact this
theorem sqd_pos {p q : Pt} (h : q ≠ p) : 0 < sqd p q := by
 unfold sqd
 have h1 := sq_nonneg (q.1 - p.1)
 have h2 := sq_nonneg (q.2 - p.2)
 by_cases e : q.1 = p.1
 ·have e2 : q.2 ≠ p.2 := fun e2 => h (Prod.ext e e2)
  have : 0 < (q.2 - p.2) * (q.2 - p.2) := by
   rcases Int.lt_or_lt_of_ne e2 with h3 | h3
   ·have := Int.mul_pos (show 0 < -(q.2 - p.2) by omega) (show 0 < -(q.2 - p.2) by omega)
    rwa [Int.neg_mul_neg] at this
   ·exact Int.mul_pos (by omega) (by omega)
  omega
 ·have : 0 < (q.1 - p.1) * (q.1 - p.1) := by
   rcases Int.lt_or_lt_of_ne e with h3 | h3
   ·have := Int.mul_pos (show 0 < -(q.1 - p.1) by omega) (show 0 < -(q.1 - p.1) by omega)
    rwa [Int.neg_mul_neg] at this
   ·exact Int.mul_pos (by omega) (by omega)
  omega
theorem onB_left (u v : Pt) : onB u u v = true := by
 rw [onB_iff]
 refine ⟨by unfold cr; grind, by omega, by omega⟩
theorem onB_right (u v : Pt) : onB v u v = true := by
 rw [onB_iff]
 refine ⟨by unfold cr; grind, by omega, by omega⟩
theorem place_cases (ps : List Pt) (q : Pt) : (onAny ps q = true ∧ placeOf ps q = 0) ∨ (onAny ps q = false ∧ par ps q (List.range ps.length) = true ∧ placeOf ps q = 1) ∨ (onAny ps q = false ∧ par ps q (List.range ps.length) = false ∧ placeOf ps q = -1) := by
 unfold placeOf
 cases onAny ps q <;> cases par ps q (List.range ps.length) <;> simp
theorem pv_vert {ps : List Pt} (h : PValid ps = true) {i : Nat} (hi : i < ps.length) : vertOk ps i = true := by
 unfold PValid at h
 simp only [Bool.and_eq_true] at h
 exact List.all_eq_true.1 h.2.1 i (List.mem_range.2 hi)
end Go.Proofs.YtndkfpmklmcjjaaGreat
namespace Go.Proofs.YtndkfpmklmcjjaaGreat
def meetE (ps qs : List Pt) (i k : Nat) : Bool := meetB (cor ps i) (cor ps (i + 1)) (cor qs k) (cor qs (k + 1))
def touchE (ps qs : List Pt) (i : Nat) : Bool := (List.range qs.length).any (meetE ps qs i)
def touchAny (ps qs : List Pt) : Bool := (List.range ps.length).any (touchE ps qs)
def ptouch (ps qs : List Pt) : Bool := touchAny ps qs || (placeOf ps (cor qs 0) == 1 || placeOf qs (cor ps 0) == 1)
def ptouchOf (ps qs : List Pt) : Bool × Int := if (PValid ps && PValid qs) = true then (ptouch ps qs, 0) else (false, 1)
end Go.Proofs.YtndkfpmklmcjjaaGreat
namespace Go.Proofs.YtndkfpmklmcjjaaGreat
/-- Places with all coordinates multiplied. -/
def sc (d : Int) (p : Pt) : Pt := (d * p.1, d * p.2)
theorem cr_sc (d : Int) (a b p : Pt) : cr (sc d a) (sc d b) (sc d p) = d * d * cr a b p := by unfold cr sc; grind
theorem dd_pos {d : Int} (hd : 0 < d) : 0 < d * d := Int.mul_pos hd hd
theorem mulp {m x : Int} (hm : 0 < m) : 0 < m * x ↔ 0 < x := by
 constructor
 ·intro h
  rw [Int.mul_comm] at h
  exact pos_of h hm
 ·exact Int.mul_pos hm
theorem muln {m x : Int} (hm : 0 < m) : m * x < 0 ↔ x < 0 := by
 constructor
 ·intro h
  rw [Int.mul_comm] at h
  exact neg_of h hm
 ·intro h
  have := Int.mul_pos hm (show 0 < -x by omega)
  rw [Int.mul_neg] at this
  omega
theorem mulz {m x : Int} (hm : 0 < m) : m * x = 0 ↔ x = 0 := by
 constructor
 ·intro h
  rw [Int.mul_comm] at h
  exact zero_of h hm
 ·intro h
  rw [h, Int.mul_zero]
theorem mulle {m x y : Int} (hm : 0 < m) : m * x ≤ m * y ↔ x ≤ y := by
 constructor
 ·intro h
  rcases Int.lt_or_le y x with h1 | h1
  ·have := Int.mul_lt_mul_of_pos_left h1 hm
   omega
  ·exact h1
 ·exact fun h => Int.mul_le_mul_of_nonneg_left h (Int.le_of_lt hm)
theorem mullt {m x y : Int} (hm : 0 < m) : m * x < m * y ↔ x < y := by
 rw [← Int.not_le, mulle hm, Int.not_le]
theorem min_sc {d x y : Int} (hd : 0 < d) : min (d * x) (d * y) = d * min x y := by
 rcases Int.le_total x y with h | h
 ·rw [Int.min_eq_left h, Int.min_eq_left ((mulle hd).2 h)]
 ·rw [Int.min_eq_right h, Int.min_eq_right ((mulle hd).2 h)]
theorem max_sc {d x y : Int} (hd : 0 < d) : max (d * x) (d * y) = d * max x y := by
 rcases Int.le_total x y with h | h
 ·rw [Int.max_eq_right h, Int.max_eq_right ((mulle hd).2 h)]
 ·rw [Int.max_eq_left h, Int.max_eq_left ((mulle hd).2 h)]
theorem onB_sc {d : Int} (hd : 0 < d) (p a b : Pt) : onB (sc d p) (sc d a) (sc d b) = onB p a b := by
 rw [Bool.eq_iff_iff, onB_iff, onB_iff, cr_sc, mulz (dd_pos hd)]
 unfold sc
 dsimp only
 rw [min_sc hd, max_sc hd, min_sc hd, max_sc hd, mulle hd, mulle hd, mulle hd, mulle hd]
theorem cutB_sc {d : Int} (hd : 0 < d) (a b u v : Pt) : cutB (sc d a) (sc d b) (sc d u) (sc d v) = cutB a b u v := by
 have h := dd_pos hd
 rw [Bool.eq_iff_iff, cutB_iff, cutB_iff, cr_sc, cr_sc, cr_sc, cr_sc, mulp h, mulp h, mulp h, mulp h, muln h, muln h, muln h, muln h]
theorem meetB_sc {d : Int} (hd : 0 < d) (a b u v : Pt) : meetB (sc d a) (sc d b) (sc d u) (sc d v) = meetB a b u v := by
 unfold meetB
 rw [cutB_sc hd, onB_sc hd, onB_sc hd, onB_sc hd, onB_sc hd]
theorem crossB_sc {d : Int} (hd : 0 < d) (q a b : Pt) : crossB (sc d q) (sc d a) (sc d b) = crossB q a b := by
 have h := dd_pos hd
 have up : ∀ q a b : Pt, a.2 ≤ b.2 → crossB (sc d q) (sc d a) (sc d b) = crossB q a b := by
  intro q a b hab
  rw [crossB_up hab, crossB_up (show (sc d a).2 ≤ (sc d b).2 from (mulle hd).2 hab), cr_sc, Bool.eq_iff_iff]
  simp only [Bool.and_eq_true, decide_eq_true_eq]
  rw [mulp h]
  unfold sc
  dsimp only
  rw [mulle hd, mullt hd]
 rcases Int.le_total a.2 b.2 with hab | hab
 ·exact up q a b hab
 ·rw [← crossB_swap, ← crossB_swap q]
  exact up q b a hab
theorem cor_sc (d : Int) (ps : List Pt) (i : Nat) : cor (ps.map (sc d)) i = sc d (cor ps i) := by
 unfold cor
 rw [List.length_map, List.getD_eq_getElem?_getD, List.getD_eq_getElem?_getD, List.getElem?_map]
 cases ps[i % ps.length]?
 ·unfold sc
  simp
 ·rfl
theorem aff {u v z : Pt} (h : cr u v z = 0) (c d : Pt) : (v.2 - u.2) * cr c d z = (v.2 - z.2) * cr c d u + (z.2 - u.2) * cr c d v := by
 unfold cr at *
 grind
theorem common_neg {u v c d z : Pt} (hneg : cr c d u < 0) (huv : u.2 < v.2) (h1 : onB z u v = true) (h2 : onB z c d = true) : meetB u v c d = true := by
 have done1 : onB u c d = true → meetB u v c d = true := fun h => by unfold meetB; rw [h]; simp
 have done2 : onB v c d = true → meetB u v c d = true := fun h => by unfold meetB; rw [h]; simp
 have done3 : onB c u v = true → meetB u v c d = true := fun h => by unfold meetB; rw [h]; simp
 have done4 : onB d u v = true → meetB u v c d = true := fun h => by unfold meetB; rw [h]; simp
 have k1 := onB_iff.1 h1
 have k2 := onB_iff.1 h2
 have hz : u.2 ≤ z.2 ∧ z.2 ≤ v.2 := by omega
 have e0 := aff k1.1 c d
 rw [k2.1, Int.mul_zero] at e0
 have hAB : cr u v c - cr u v d = cr c d v - cr c d u := by unfold cr; grind
 -- the ends of the first one
 by_cases z1 : z.2 = u.2
 ·have : z = u := by
   have hx := k1.1
   unfold cr at hx
   rw [z1, Int.sub_self, Int.mul_zero] at hx
   have : (z.1 - u.1) = 0 := zero_of (y := v.2 - u.2) (by rw [Int.mul_comm]; omega) (by omega)
   exact Prod.ext (by omega) z1
  rw [this] at h2
  exact done1 h2
 by_cases z2 : z.2 = v.2
 ·have : z = v := by
   have hx := k1.1
   unfold cr at hx
   rw [z2] at hx
   have h3 : (v.1 - z.1) * (v.2 - u.2) = 0 := by grind
   have := zero_of h3 (by omega)
   exact Prod.ext (by omega) z2
  rw [this] at h2
  exact done2 h2
 have p1 : 0 < v.2 - z.2 := by omega
 have p2 : 0 < z.2 - u.2 := by omega
 obtain ⟨e, he⟩ : ∃ x, cr c d u = x := ⟨_, rfl⟩
 obtain ⟨f, hf⟩ : ∃ x, cr c d v = x := ⟨_, rfl⟩
 obtain ⟨a, ha⟩ : ∃ x, cr u v c = x := ⟨_, rfl⟩
 obtain ⟨b, hb⟩ : ∃ x, cr u v d = x := ⟨_, rfl⟩
 have e1 := hneg
 rw [he] at e1
 rw [he, hf] at e0
 rw [ha, hb, he, hf] at hAB
 have x1 := (muln p1).2 e1
 have f1 : 0 < f := (mulp p2).1 (by omega)
 -- the ends of the second one
 by_cases a0 : 0 < a ∧ b < 0
 ·unfold meetB
  rw [cutB_iff.2 ⟨.inr (by rw [ha, hb]; exact a0), .inl (by rw [he, hf]; exact ⟨e1, f1⟩)⟩]
  rfl
 ·have key : ∃ k m : Int, 0 ≤ k ∧ k ≤ m ∧ 0 < m ∧ (m - k) * a + k * b = 0 ∧ (k = 0 → z = c) ∧ (k = m → z = d) := by
   have hc : (d.1 - c.1) * (z.2 - c.2) = (d.2 - c.2) * (z.1 - c.1) := by have := k2.1; unfold cr at this; omega
   have hk : ∀ k m : Int, 0 < m → m * (z.1 - c.1) = k * (d.1 - c.1) → m * (z.2 - c.2) = k * (d.2 - c.2) → (m - k) * a + k * b = 0 ∧ (k = 0 → z = c) ∧ (k = m → z = d) := by
    intro k m hm m1 m2
    refine ⟨?_, fun hk => ?_, fun hk => ?_⟩
    ·have : (m - k) * a + k * b = m * cr u v z := by rw [← ha, ← hb]; unfold cr; grind
     rw [this, k1.1, Int.mul_zero]
    ·rw [hk, Int.zero_mul] at m1 m2
     have := (mulz hm).1 m1
     have := (mulz hm).1 m2
     exact Prod.ext (by omega) (by omega)
    ·rw [hk] at m1 m2
     have := Int.eq_of_mul_eq_mul_left (by omega) m1
     have := Int.eq_of_mul_eq_mul_left (by omega) m2
     exact Prod.ext (by omega) (by omega)
   by_cases hz : c.1 = d.1 ∧ c.2 = d.2
   ·have := hk 0 1 (by omega) (by omega) (by omega)
    exact ⟨0, 1, by omega, by omega, by omega, this⟩
   ·rcases Int.le_total c.1 d.1 with a1 | a1 <;> rcases Int.le_total c.2 d.2 with a2 | a2
    ·exact ⟨(z.1 - c.1) + (z.2 - c.2), (d.1 - c.1) + (d.2 - c.2), by omega, by omega, by omega, hk _ _ (by omega) (by grind) (by grind)⟩
    ·exact ⟨(z.1 - c.1) - (z.2 - c.2), (d.1 - c.1) - (d.2 - c.2), by omega, by omega, by omega, hk _ _ (by omega) (by grind) (by grind)⟩
    ·exact ⟨-(z.1 - c.1) + (z.2 - c.2), -(d.1 - c.1) + (d.2 - c.2), by omega, by omega, by omega, hk _ _ (by omega) (by grind) (by grind)⟩
    ·exact ⟨-(z.1 - c.1) - (z.2 - c.2), -(d.1 - c.1) - (d.2 - c.2), by omega, by omega, by omega, hk _ _ (by omega) (by grind) (by grind)⟩
  obtain ⟨k, m, hk, hkm, hm, h5, h6, h7⟩ := key
  by_cases k0 : k = 0
  ·rw [h6 k0] at h1
   exact done3 h1
  ·by_cases km : k = m
   ·rw [h7 km] at h1
    exact done4 h1
   ·have q1 : 0 < k := by omega
    have q2 : 0 < m - k := by omega
    rcases Int.lt_trichotomy a 0 with a1 | a1 | a1
    ·have := (muln q2).2 a1
     have := (mulp q1).1 (show 0 < k * b by omega)
     omega
    ·rw [a1, Int.mul_zero] at h5
     have := (mulz q1).1 (show k * b = 0 by omega)
     omega
    ·have := (mulp q2).2 a1
     have := (muln q1).1 (show k * b < 0 by omega)
     exact absurd ⟨a1, this⟩ a0
/-- A place on both: the segments meet. -/
theorem common {u v c d z : Pt} (huv : u.2 < v.2) (h1 : onB z u v = true) (h2 : onB z c d = true) : meetB u v c d = true := by
 rcases Int.lt_trichotomy (cr c d u) 0 with e1 | e1 | e1
 ·exact common_neg e1 huv h1 h2
 ·have done1 : onB u c d = true → meetB u v c d = true := fun h => by unfold meetB; rw [h]; simp
  have done3 : onB c u v = true → meetB u v c d = true := fun h => by unfold meetB; rw [h]; simp
  have done4 : onB d u v = true → meetB u v c d = true := fun h => by unfold meetB; rw [h]; simp
  have k1 := onB_iff.1 h1
  have k2 := onB_iff.1 h2
  have hz : u.2 ≤ z.2 ∧ z.2 ≤ v.2 := by omega
  have e0 := aff k1.1 c d
  rw [k2.1, Int.mul_zero, e1, Int.mul_zero, Int.zero_add] at e0
  by_cases z1 : z.2 = u.2
  ·have : z = u := by
    have hx := k1.1
    unfold cr at hx
    rw [z1, Int.sub_self, Int.mul_zero] at hx
    have : (z.1 - u.1) = 0 := zero_of (y := v.2 - u.2) (by rw [Int.mul_comm]; omega) (by omega)
    exact Prod.ext (by omega) z1
   rw [this] at h2
   exact done1 h2
  have f0 : cr c d v = 0 := (mulz (show 0 < z.2 - u.2 by omega)).1 e0.symm
  by_cases hcd : c.2 = d.2
  ·have hc1 : c.1 = d.1 := by
    unfold cr at e1
    rw [hcd, Int.sub_self, Int.zero_mul] at e1
    rcases Int.mul_eq_zero.1 (show (d.1 - c.1) * (u.2 - d.2) = 0 by omega) with h | h
    ·omega
    ·omega
   have : z = c := Prod.ext (by omega) (by omega)
   rw [this] at h1
   exact done3 h1
  ·have ia := idU u v c d
   have ib := idV u v c d
   rw [e1, f0] at ia ib
   simp only [Int.neg_zero, Int.zero_mul, Int.add_zero, Int.sub_zero] at ia ib
   have a0 : cr u v c = 0 := by
    rcases Int.mul_eq_zero.1 ia with h | h
    ·exact h
    ·omega
   have b0 : cr u v d = 0 := by
    rcases Int.mul_eq_zero.1 ib with h | h
    ·exact h
    ·omega
   by_cases x1 : u.2 ≤ c.2 ∧ c.2 ≤ v.2
   ·exact done3 (on_of a0 x1.1 x1.2 huv)
   ·by_cases x2 : u.2 ≤ d.2 ∧ d.2 ≤ v.2
    ·exact done4 (on_of b0 x2.1 x2.2 huv)
    ·rcases Int.lt_or_le c.2 d.2 with x3 | x3
     ·exact done1 (on_of e1 (by omega) (by omega) x3)
     ·refine done1 ?_
      rw [← onB_swap]
      exact on_of (by rw [cr_swap, e1]; rfl) (by omega) (by omega) (by omega)
 ·rw [← meetB_swap2]
  exact common_neg (by rw [cr_swap]; omega) huv h1 (by rw [onB_swap]; exact h2)
/-- A part of a segment does not meet what the segment does not meet. -/
theorem sub_meet {u v c d z : Pt} (huv : u.2 < v.2) (h1 : onB z u v = true) (hm : meetB u v c d = false) : meetB u z c d = false := by
 cases h : meetB u z c d
 ·rfl
 ·exfalso
  have no : ∀ q, onB q u v = true → onB q c d = true → False := fun q a b => by rw [common huv a b] at hm; cases hm
  obtain ⟨hc, _, _, hcu, hdu⟩ := meet_parts hm
  have k1 := onB_iff.1 h1
  have hz : u.2 ≤ z.2 ∧ z.2 ≤ v.2 := by omega
  have part : ∀ q, onB q u z = true → onB q u v = true := by
   intro q hq
   have k3 := onB_iff.1 hq
   by_cases zu : z.2 = u.2
   ·have : z = u := by
     have hx := k1.1
     unfold cr at hx
     rw [zu, Int.sub_self, Int.mul_zero] at hx
     have : (z.1 - u.1) = 0 := zero_of (y := v.2 - u.2) (by rw [Int.mul_comm]; omega) (by omega)
     exact Prod.ext (by omega) zu
    subst this
    have : q = z := Prod.ext (by omega) (by omega)
    rw [this]
    exact h1
   ·refine on_of ?_ (by omega) (by omega) huv
    have : (z.2 - u.2) * cr u v q = (v.2 - u.2) * cr u z q := by
     have a := k1.1
     unfold cr at a ⊢
     grind
    rw [k3.1, Int.mul_zero] at this
    exact (mulz (show 0 < z.2 - u.2 by omega)).1 this
  unfold meetB at h
  simp only [Bool.or_eq_true] at h
  rcases h with h | h | h | h | h
  ·have h9 := cutB_iff.1 h
   have hzu : u.2 < z.2 := by
    rcases Int.lt_or_le u.2 z.2 with h | h
    ·exact h
    ·exfalso
     have zu : z.2 = u.2 := by omega
     have : z = u := by
      have hx := k1.1
      unfold cr at hx
      rw [zu, Int.sub_self, Int.mul_zero] at hx
      have : (z.1 - u.1) = 0 := zero_of (y := v.2 - u.2) (by rw [Int.mul_comm]; omega) (by omega)
      exact Prod.ext (by omega) zu
     rw [this] at h9
     omega
   have p1 : 0 < v.2 - u.2 := by omega
   have p2 : 0 < z.2 - u.2 := by omega
   have p3 : 0 ≤ v.2 - z.2 := by omega
   have e0 := aff k1.1 c d
   have ac : (z.2 - u.2) * cr u v c = (v.2 - u.2) * cr u z c := by have a := k1.1; unfold cr at a ⊢; grind
   have ad : (z.2 - u.2) * cr u v d = (v.2 - u.2) * cr u z d := by have a := k1.1; unfold cr at a ⊢; grind
   have hcut : cutB u v c d = true := by
    rw [cutB_iff]
    refine ⟨?_, ?_⟩
    ·have s1 : 0 < cr u v c ↔ 0 < cr u z c := by rw [← mulp (x := cr u v c) p2, ac, mulp p1]
     have s2 : cr u v c < 0 ↔ cr u z c < 0 := by rw [← muln (x := cr u v c) p2, ac, muln p1]
     have s3 : 0 < cr u v d ↔ 0 < cr u z d := by rw [← mulp (x := cr u v d) p2, ad, mulp p1]
     have s4 : cr u v d < 0 ↔ cr u z d < 0 := by rw [← muln (x := cr u v d) p2, ad, muln p1]
     rw [s1, s2, s3, s4]
     exact h9.1
    ·rcases h9.2 with ⟨x, y⟩ | ⟨x, y⟩
     ·have y2 := (mulp p1).2 y
      have x2 := np_of (Int.le_of_lt x) p3
      rw [Int.mul_comm] at x2
      exact .inl ⟨x, (mulp p2).1 (by omega)⟩
     ·have y2 := (muln p1).2 y
      have x2 := Int.mul_nonneg p3 (Int.le_of_lt x)
      exact .inr ⟨x, (muln p2).1 (by omega)⟩
   rw [hcut] at hc
   cases hc
  ·exact no u (onB_left u v) h
  ·exact no z h1 h
  ·have := part c h
   rw [this] at hcu
   cases hcu
  ·have := part d h
   rw [this] at hdu
   cases hdu
/-- The lower end and the upper end of an edge. -/
def lo (a b : Pt) : Pt := if a.2 ≤ b.2 then a else b
def hi (a b : Pt) : Pt := if a.2 ≤ b.2 then b else a
theorem lohi (a b : Pt) : (lo a b = a ∧ hi a b = b ∧ a.2 ≤ b.2) ∨ (lo a b = b ∧ hi a b = a ∧ b.2 ≤ a.2) := by
 unfold lo hi
 by_cases h : a.2 ≤ b.2
 ·exact .inl ⟨if_pos h, if_pos h, h⟩
 ·exact .inr ⟨if_neg h, if_neg h, by omega⟩
theorem lohi_le (a b : Pt) : (lo a b).2 ≤ (hi a b).2 := by rcases lohi a b with ⟨e, f, h⟩ | ⟨e, f, h⟩ <;> rw [e, f] <;> exact h
theorem cross_lohi (q a b : Pt) : crossB q (lo a b) (hi a b) = crossB q a b := by
 rcases lohi a b with ⟨e, f, h⟩ | ⟨e, f, h⟩ <;> rw [e, f]
 exact crossB_swap q a b
theorem meet_lohi1 (a b c d : Pt) : meetB (lo a b) (hi a b) c d = meetB a b c d := by
 rcases lohi a b with ⟨e, f, h⟩ | ⟨e, f, h⟩ <;> rw [e, f]
 exact meetB_swap1 a b c d
theorem meet_lohi2 (a b c d : Pt) : meetB a b (lo c d) (hi c d) = meetB a b c d := by
 rcases lohi c d with ⟨e, f, h⟩ | ⟨e, f, h⟩ <;> rw [e, f]
 exact meetB_swap2 a b c d
theorem cross_parts {q u v : Pt} (huv : u.2 ≤ v.2) (h : crossB q u v = true) : u.2 ≤ q.2 ∧ q.2 < v.2 ∧ 0 < cr u v q := by
 rw [crossB_up huv] at h
 simp only [Bool.and_eq_true, decide_eq_true_eq] at h
 exact ⟨h.1.1, h.1.2, h.2⟩
/-- Where the ray from q crosses the edge from u to v: with all coordinates multiplied by the difference of the heights. -/
def zz (q u v : Pt) : Pt := ((v.2 - u.2) * u.1 + (v.1 - u.1) * (q.2 - u.2), (v.2 - u.2) * q.2)
theorem zz_on {q u v : Pt} (h1 : u.2 ≤ q.2) (h2 : q.2 < v.2) : onB (zz q u v) (sc (v.2 - u.2) u) (sc (v.2 - u.2) v) = true := by
 have hd : 0 < v.2 - u.2 := by omega
 refine on_of ?_ ?_ ?_ ?_
 ·unfold cr zz sc; grind
 ·exact (mulle hd).2 h1
 ·exact (mulle hd).2 (by omega)
 ·exact (mullt hd).2 (by omega)
theorem zz_cr (q u v c d : Pt) : cr (sc (v.2 - u.2) c) (sc (v.2 - u.2) d) (zz q u v) = (v.2 - u.2) * ((v.2 - u.2) * cr c d q - (d.2 - c.2) * cr u v q) := by
 unfold cr zz sc; grind
theorem zz_cross {q u v c d : Pt} (hcd : c.2 ≤ d.2) (hd : 0 < v.2 - u.2) : crossB (zz q u v) (sc (v.2 - u.2) c) (sc (v.2 - u.2) d) = (decide (c.2 ≤ q.2 ∧ q.2 < d.2) && decide ((d.2 - c.2) * cr u v q < (v.2 - u.2) * cr c d q)) := by
 rw [crossB_up ((mulle hd).2 hcd), zz_cr, Bool.eq_iff_iff]
 simp only [Bool.and_eq_true, decide_eq_true_eq]
 rw [mulp hd]
 unfold sc zz
 dsimp only
 rw [mulle hd, mullt hd]
 omega
theorem zz_imp {q u v c d : Pt} (hcd : c.2 ≤ d.2) (hu : 0 < v.2 - u.2) (hA : 0 < cr u v q) (h : crossB (zz q u v) (sc (v.2 - u.2) c) (sc (v.2 - u.2) d) = true) : crossB q c d = true := by
 rw [zz_cross hcd hu] at h
 rw [crossB_up hcd]
 simp only [Bool.and_eq_true, decide_eq_true_eq] at h ⊢
 refine ⟨h.1, ?_⟩
 have := Int.mul_nonneg (show 0 ≤ d.2 - c.2 by omega) (Int.le_of_lt hA)
 exact (mulp hu).1 (by omega)
/-- Of two edges that the ray crosses one is crossed first. -/
theorem zz_one {q u v c d : Pt} (huv : u.2 ≤ v.2) (hcd : c.2 ≤ d.2) (h1 : crossB q u v = true) (h2 : crossB q c d = true) (hm : meetB u v c d = false) : (crossB (zz q u v) (sc (v.2 - u.2) c) (sc (v.2 - u.2) d) ^^ crossB (zz q c d) (sc (d.2 - c.2) u) (sc (d.2 - c.2) v)) = true := by
 obtain ⟨a1, a2, a3⟩ := cross_parts huv h1
 obtain ⟨b1, b2, b3⟩ := cross_parts hcd h2
 have hd1 : 0 < v.2 - u.2 := by omega
 have hd2 : 0 < d.2 - c.2 := by omega
 rw [zz_cross hcd hd1, zz_cross huv hd2, show decide (c.2 ≤ q.2 ∧ q.2 < d.2) = true by simp; omega, show decide (u.2 ≤ q.2 ∧ q.2 < v.2) = true by simp; omega]
 simp only [Bool.true_and]
 rcases Int.lt_trichotomy ((d.2 - c.2) * cr u v q) ((v.2 - u.2) * cr c d q) with h | h | h
 ·rw [decide_eq_true h, decide_eq_false (by omega)]
  rfl
 ·exfalso
  have e1 := zz_on a1 a2
  have e2 := zz_on b1 b2
  rw [← onB_sc hd2] at e1
  rw [← onB_sc hd1] at e2
  have ez : sc (d.2 - c.2) (zz q u v) = sc (v.2 - u.2) (zz q c d) := by
   unfold sc zz
   apply Prod.ext
   ·dsimp only
    unfold cr at h
    grind
   ·dsimp only
    grind
  have es : ∀ p : Pt, sc (d.2 - c.2) (sc (v.2 - u.2) p) = sc ((d.2 - c.2) * (v.2 - u.2)) p := fun p => by
   unfold sc
   apply Prod.ext <;> dsimp only <;> grind
  have es2 : ∀ p : Pt, sc (v.2 - u.2) (sc (d.2 - c.2) p) = sc ((d.2 - c.2) * (v.2 - u.2)) p := fun p => by
   unfold sc
   apply Prod.ext <;> dsimp only <;> grind
  rw [es, es] at e1
  rw [es2, es2, ← ez] at e2
  have hE := Int.mul_pos hd2 hd1
  have := common (show (sc ((d.2 - c.2) * (v.2 - u.2)) u).2 < (sc ((d.2 - c.2) * (v.2 - u.2)) v).2 from (mullt hE).2 (by omega)) e1 e2
  rw [meetB_sc hE, hm] at this
  cases this
 ·rw [decide_eq_false (by omega), decide_eq_true h]
  rfl
end Go.Proofs.YtndkfpmklmcjjaaGreat
namespace Go.Proofs.YtndkfpmklmcjjaaGreat
theorem cor_mod2 (ps : List Pt) (i : Nat) : cor ps i = cor ps (i % ps.length) := by unfold cor; rw [Nat.mod_mod]
end Go.Proofs.YtndkfpmklmcjjaaGreat
