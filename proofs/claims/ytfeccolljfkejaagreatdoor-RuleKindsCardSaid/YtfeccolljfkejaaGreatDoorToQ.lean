/- Where a place is does not change along a segment that meets no edge: the parity of the crossings. Discs: a segment that meets an edge brings its ends near it. Two polygons that touch, in plain words. Two polygons whose edges do not meet, with a common place inside: one of them has a corner of the other. Touch: the laws. -/
import Derived.Test.YtfeccolljfkejaaGreatDoorPog
import Derived.Test.YtfeccolljfkejaaGreatDoorPol
set_option linter.unusedSimpArgs false
set_option linter.unusedVariables false
namespace Go.Proofs.YtfeccolljfkejaaGreatDoor
theorem neg_of {x y : Int} (h : x * y < 0) (hy : 0 < y) : x < 0 := by
 rcases Int.lt_or_le x 0 with h1 | h1
 ·exact h1
 ·have := Int.mul_nonneg h1 (Int.le_of_lt hy)
  omega
theorem pos_of {x y : Int} (h : 0 < x * y) (hy : 0 < y) : 0 < x := by
 rcases Int.lt_or_le 0 x with h1 | h1
 ·exact h1
 ·have := Int.mul_nonneg (show 0 ≤ -x by omega) (Int.le_of_lt hy)
  rw [Int.neg_mul] at this
  omega
theorem zero_of {x y : Int} (h : x * y = 0) (hy : 0 < y) : x = 0 := by
 rcases Int.mul_eq_zero.1 h with h | h
 ·exact h
 ·omega
theorem np_of {x y : Int} (hx : x ≤ 0) (hy : 0 ≤ y) : x * y ≤ 0 := by
 have := Int.mul_nonneg (show 0 ≤ -x by omega) hy
 rw [Int.neg_mul] at this
 omega
theorem sg_pos {x : Int} : 0 < sg x ↔ 0 < x := by rcases sg_cases x with ⟨h, e⟩ | ⟨h, e⟩ | ⟨h, e⟩ <;> rw [e] <;> omega
theorem sg_neg {x : Int} : sg x < 0 ↔ x < 0 := by rcases sg_cases x with ⟨h, e⟩ | ⟨h, e⟩ | ⟨h, e⟩ <;> rw [e] <;> omega
theorem sg_zero {x : Int} : sg x = 0 ↔ x = 0 := by rcases sg_cases x with ⟨h, e⟩ | ⟨h, e⟩ | ⟨h, e⟩ <;> rw [e] <;> omega
theorem sg_opp {x y : Int} : sg x * sg y < 0 ↔ (x < 0 ∧ 0 < y) ∨ (0 < x ∧ y < 0) := by
 rcases sg_cases x with ⟨h, e⟩ | ⟨h, e⟩ | ⟨h, e⟩ <;> rcases sg_cases y with ⟨k, f⟩ | ⟨k, f⟩ | ⟨k, f⟩ <;> rw [e, f] <;> omega
theorem cr_swap (a b p : Pt) : cr b a p = - cr a b p := by unfold cr; grind
theorem tn_swap (a b p : Pt) : tn b a p = - tn a b p := by
 unfold tn
 rw [cr_swap]
 rcases sg_cases (cr a b p) with ⟨h, e⟩ | ⟨h, e⟩ | ⟨h, e⟩ <;> rcases sg_cases (-cr a b p) with ⟨k, f⟩ | ⟨k, f⟩ | ⟨k, f⟩ <;> rw [e, f] <;> omega
theorem onB_iff {p a b : Pt} : onB p a b = true ↔ cr a b p = 0 ∧ (min a.1 b.1 ≤ p.1 ∧ p.1 ≤ max a.1 b.1) ∧ (min a.2 b.2 ≤ p.2 ∧ p.2 ≤ max a.2 b.2) := by
 unfold onB tn
 rw [decide_eq_true_eq, sg_zero]
theorem onB_swap (p a b : Pt) : onB p b a = onB p a b := by
 rw [Bool.eq_iff_iff, onB_iff, onB_iff, cr_swap, Int.min_comm, Int.max_comm, Int.min_comm b.2, Int.max_comm b.2]
 omega
theorem cutB_iff {a b c d : Pt} : cutB a b c d = true ↔ ((cr a b c < 0 ∧ 0 < cr a b d) ∨ (0 < cr a b c ∧ cr a b d < 0)) ∧ ((cr c d a < 0 ∧ 0 < cr c d b) ∨ (0 < cr c d a ∧ cr c d b < 0)) := by
 unfold cutB tn
 rw [Bool.and_eq_true, decide_eq_true_eq, decide_eq_true_eq, sg_opp, sg_opp]
theorem cutB_swap1 (a b c d : Pt) : cutB b a c d = cutB a b c d := by
 rw [Bool.eq_iff_iff, cutB_iff, cutB_iff, cr_swap a b c, cr_swap a b d]
 omega
theorem cutB_swap2 (a b c d : Pt) : cutB a b d c = cutB a b c d := by
 rw [Bool.eq_iff_iff, cutB_iff, cutB_iff, cr_swap c d a, cr_swap c d b]
 omega
theorem cutB_comm (a b c d : Pt) : cutB c d a b = cutB a b c d := by unfold cutB; rw [Bool.and_comm]
theorem meetB_swap1 (a b c d : Pt) : meetB b a c d = meetB a b c d := by
 unfold meetB
 rw [cutB_swap1, onB_swap c a b, onB_swap d a b]
 cases cutB a b c d <;> cases onB a c d <;> cases onB b c d <;> rfl
theorem meetB_swap2 (a b c d : Pt) : meetB a b d c = meetB a b c d := by
 unfold meetB
 rw [cutB_swap2, onB_swap a c d, onB_swap b c d]
 cases cutB a b c d <;> cases onB a c d <;> cases onB b c d <;> cases onB c a b <;> cases onB d a b <;> rfl
theorem meetB_comm (a b c d : Pt) : meetB c d a b = meetB a b c d := by
 unfold meetB
 rw [cutB_comm]
 cases cutB a b c d <;> cases onB a c d <;> cases onB b c d <;> cases onB c a b <;> cases onB d a b <;> rfl
theorem meet_parts {a b u v : Pt} (h : meetB a b u v = false) : cutB a b u v = false ∧ onB a u v = false ∧ onB b u v = false ∧ onB u a b = false ∧ onB v a b = false := by
 unfold meetB at h
 simpa using h
theorem crossB_swap (q a b : Pt) : crossB q b a = crossB q a b := by
 unfold crossB
 rcases Int.lt_trichotomy a.2 b.2 with h | h | h
 ·rw [if_pos h, if_neg (by omega)]
 ·rw [if_neg (by omega), if_neg (by omega), h]
  have : ∀ x y : Bool, (decide (b.2 ≤ q.2 ∧ q.2 < b.2) && x) = (decide (b.2 ≤ q.2 ∧ q.2 < b.2) && y) := by
   intro x y
   rw [show decide (b.2 ≤ q.2 ∧ q.2 < b.2) = false by simp]
   rfl
  exact this _ _
 ·rw [if_neg (by omega), if_pos h]
theorem crossB_up {q u v : Pt} (h : u.2 ≤ v.2) : crossB q u v = (decide (u.2 ≤ q.2 ∧ q.2 < v.2) && decide (0 < cr u v q)) := by
 unfold crossB
 rw [if_neg (by omega)]
 congr 1
 rw [decide_eq_decide]
 exact sg_pos
theorem idU (a b u v : Pt) : cr a b u * (v.2 - u.2) = -cr u v a * (b.2 - u.2) + cr u v b * (a.2 - u.2) := by unfold cr; grind
theorem idV (a b u v : Pt) : cr a b v * (v.2 - u.2) = cr u v a * (v.2 - b.2) - cr u v b * (v.2 - a.2) := by unfold cr; grind
/-- A place on the line, of a height between, is on the segment. -/
theorem on_of {p u v : Pt} (h : cr u v p = 0) (h1 : u.2 ≤ p.2) (h2 : p.2 ≤ v.2) (h3 : u.2 < v.2) : onB p u v = true := by
 rw [onB_iff]
 refine ⟨h, ?_, by omega⟩
 have e : (p.1 - u.1) * (v.2 - u.2) = (v.1 - u.1) * (p.2 - u.2) := by unfold cr at h; grind
 have e2 : (v.1 - p.1) * (v.2 - u.2) = (v.1 - u.1) * (v.2 - p.2) := by unfold cr at h; grind
 rcases Int.le_total u.1 v.1 with h4 | h4
 ·have a1 := Int.mul_nonneg (show 0 ≤ v.1 - u.1 by omega) (show 0 ≤ p.2 - u.2 by omega)
  have a2 := Int.mul_nonneg (show 0 ≤ v.1 - u.1 by omega) (show 0 ≤ v.2 - p.2 by omega)
  rw [← e] at a1
  rw [← e2] at a2
  have b1 : ¬ p.1 - u.1 < 0 := fun hn => by
   have := Int.mul_pos (show 0 < -(p.1 - u.1) by omega) (show 0 < v.2 - u.2 by omega)
   rw [Int.neg_mul] at this
   omega
  have b2 : ¬ v.1 - p.1 < 0 := fun hn => by
   have := Int.mul_pos (show 0 < -(v.1 - p.1) by omega) (show 0 < v.2 - u.2 by omega)
   rw [Int.neg_mul] at this
   omega
  omega
 ·have a1 := np_of (show v.1 - u.1 ≤ 0 by omega) (show 0 ≤ p.2 - u.2 by omega)
  have a2 := np_of (show v.1 - u.1 ≤ 0 by omega) (show 0 ≤ v.2 - p.2 by omega)
  rw [← e] at a1
  rw [← e2] at a2
  have b1 : ¬ 0 < p.1 - u.1 := fun hn => by
   have := Int.mul_pos hn (show 0 < v.2 - u.2 by omega)
   omega
  have b2 : ¬ 0 < v.1 - p.1 := fun hn => by
   have := Int.mul_pos hn (show 0 < v.2 - u.2 by omega)
   omega
  omega
/-- On which side of a segment a place of its heights is. -/
def sideB (a b w : Pt) : Bool := decide (a.2 < w.2 ∧ w.2 ≤ b.2) && decide (cr a b w < 0)
theorem pos3 {A B U V u a v b : Int} (iU : U * (v - u) = -A * (b - u) + B * (a - u)) (iV : V * (v - u) = A * (v - b) - B * (v - a)) (h1 : u ≤ a) (h2 : a < v) (h3 : v ≤ b) (hA : 0 < A) (hV : 0 < V) : B < 0 ∧ U < 0 := by
 have e1 := Int.mul_pos hV (show 0 < v - u by omega)
 have e2 := Int.mul_nonneg (Int.le_of_lt hA) (show 0 ≤ b - v by omega)
 have e3 : A * (v - b) = -(A * (b - v)) := by grind
 have hB : B < 0 := neg_of (y := v - a) (by omega) (by omega)
 have e4 := Int.mul_pos hA (show 0 < b - u by omega)
 have e5 := np_of (Int.le_of_lt hB) (show 0 ≤ a - u by omega)
 rw [Int.neg_mul] at iU
 exact ⟨hB, neg_of (y := v - u) (by omega) (by omega)⟩
theorem pos4 {A B U V u a v b : Int} (iU : U * (v - u) = -A * (b - u) + B * (a - u)) (iV : V * (v - u) = A * (v - b) - B * (v - a)) (h1 : u ≤ a) (h2 : a ≤ b) (h3 : b < v) (hA : 0 < A) (hB : B < 0) : 0 < V ∧ (U < 0 ∨ (b = u ∧ a = u)) := by
 have e1 := Int.mul_pos hA (show 0 < v - b by omega)
 have e2 := np_of (Int.le_of_lt hB) (show 0 ≤ v - a by omega)
 have hV : 0 < V := pos_of (y := v - u) (by omega) (by omega)
 refine ⟨hV, ?_⟩
 by_cases hbu : b = u
 ·exact .inr ⟨hbu, by omega⟩
 ·have e4 := Int.mul_pos hA (show 0 < b - u by omega)
  have e5 := np_of (Int.le_of_lt hB) (show 0 ≤ a - u by omega)
  rw [Int.neg_mul] at iU
  exact .inl (neg_of (y := v - u) (by omega) (by omega))
theorem pos6 {A B U V u a v b : Int} (iU : U * (v - u) = -A * (b - u) + B * (a - u)) (iV : V * (v - u) = A * (v - b) - B * (v - a)) (h1 : a < u) (h2 : u ≤ b) (h3 : b < v) (hB : 0 < B) (hU : 0 < U) : A < 0 ∧ V < 0 := by
 have e1 := Int.mul_pos hU (show 0 < v - u by omega)
 have e2 := Int.mul_pos hB (show 0 < u - a by omega)
 have e3 : B * (a - u) = -(B * (u - a)) := by grind
 rw [Int.neg_mul] at iU
 have hbu : ¬ b = u := fun e => by rw [e, Int.sub_self, Int.mul_zero] at iU; omega
 have hA : A < 0 := neg_of (y := b - u) (by omega) (by omega)
 have e4 := np_of (Int.le_of_lt hA) (show 0 ≤ v - b by omega)
 have e5 := Int.mul_pos hB (show 0 < v - a by omega)
 exact ⟨hA, neg_of (y := v - u) (by omega) (by omega)⟩
theorem neg_id {A B U x y z : Int} (h : U * x = -A * y + B * z) : -U * x = - -A * y + -B * z := by grind
theorem neg_id2 {A B V x y z : Int} (h : V * x = A * y - B * z) : -V * x = -A * y - -B * z := by grind
theorem edge_par {a b u v : Pt} (hab : a.2 ≤ b.2) (huv : u.2 ≤ v.2) (hm : meetB a b u v = false) : (crossB a u v ^^ crossB b u v) = (sideB a b u ^^ sideB a b v) := by
 obtain ⟨hc, ha, hb, hu, hv⟩ := meet_parts hm
 have hc' : ¬ (((cr a b u < 0 ∧ 0 < cr a b v) ∨ (0 < cr a b u ∧ cr a b v < 0)) ∧ ((cr u v a < 0 ∧ 0 < cr u v b) ∨ (0 < cr u v a ∧ cr u v b < 0))) := fun h => by
  rw [cutB_iff.2 h] at hc
  cases hc
 have iU := idU a b u v
 have iV := idV a b u v
 have iA := idU u v a b
 have iB := idV u v a b
 rw [crossB_up huv, crossB_up huv]
 unfold sideB
 have oa : u.2 ≤ a.2 → a.2 ≤ v.2 → u.2 < v.2 → cr u v a ≠ 0 := fun h1 h2 h3 e => by rw [on_of e h1 h2 h3] at ha; cases ha
 have ob : u.2 ≤ b.2 → b.2 ≤ v.2 → u.2 < v.2 → cr u v b ≠ 0 := fun h1 h2 h3 e => by rw [on_of e h1 h2 h3] at hb; cases hb
 have ou : a.2 ≤ u.2 → u.2 ≤ b.2 → a.2 < b.2 → cr a b u ≠ 0 := fun h1 h2 h3 e => by rw [on_of e h1 h2 h3] at hu; cases hu
 have ov : a.2 ≤ v.2 → v.2 ≤ b.2 → a.2 < b.2 → cr a b v ≠ 0 := fun h1 h2 h3 e => by rw [on_of e h1 h2 h3] at hv; cases hv
 have hcases : (v.2 ≤ a.2) ∨ (b.2 < u.2) ∨ (u.2 ≤ a.2 ∧ a.2 < v.2 ∧ v.2 ≤ b.2) ∨ (u.2 ≤ a.2 ∧ b.2 < v.2) ∨ (a.2 < u.2 ∧ v.2 ≤ b.2) ∨ (a.2 < u.2 ∧ u.2 ≤ b.2 ∧ b.2 < v.2) := by omega
 obtain ⟨A, hA⟩ : ∃ x, cr u v a = x := ⟨_, rfl⟩
 obtain ⟨B, hB⟩ : ∃ x, cr u v b = x := ⟨_, rfl⟩
 obtain ⟨U, hU⟩ : ∃ x, cr a b u = x := ⟨_, rfl⟩
 obtain ⟨V, hV⟩ : ∃ x, cr a b v = x := ⟨_, rfl⟩
 rcases hcases with h | h | ⟨h1, h2, h3⟩ | ⟨h1, h2⟩ | ⟨h1, h2⟩ | ⟨h1, h2, h3⟩
 ·rw [show decide (u.2 ≤ a.2 ∧ a.2 < v.2) = false by simp; omega, show decide (u.2 ≤ b.2 ∧ b.2 < v.2) = false by simp; omega, show decide (a.2 < u.2 ∧ u.2 ≤ b.2) = false by simp; omega, show decide (a.2 < v.2 ∧ v.2 ≤ b.2) = false by simp; omega]
  rfl
 ·rw [show decide (u.2 ≤ a.2 ∧ a.2 < v.2) = false by simp; omega, show decide (u.2 ≤ b.2 ∧ b.2 < v.2) = false by simp; omega, show decide (a.2 < u.2 ∧ u.2 ≤ b.2) = false by simp; omega, show decide (a.2 < v.2 ∧ v.2 ≤ b.2) = false by simp; omega]
  rfl
 ·rw [show decide (u.2 ≤ a.2 ∧ a.2 < v.2) = true by simp; omega, show decide (u.2 ≤ b.2 ∧ b.2 < v.2) = false by simp; omega, show decide (a.2 < u.2 ∧ u.2 ≤ b.2) = false by simp; omega, show decide (a.2 < v.2 ∧ v.2 ≤ b.2) = true by simp; omega]
  have a0 := oa h1 (by omega) (by omega)
  have v0 := ov (by omega) h3 (by omega)
  rw [hA] at a0
  rw [hV] at v0
  rw [hA, hB, hU, hV] at hc'
  rw [hA, hV]
  rw [hU, hA, hB] at iU
  rw [hV, hA, hB] at iV
  have key : (0 < A ↔ V < 0) := by
   constructor
   ·intro h
    rcases Int.lt_trichotomy V 0 with h9 | h9 | h9
    ·exact h9
    ·exact absurd h9 v0
    ·obtain ⟨x, y⟩ := pos3 iU iV h1 h2 h3 h h9
     exact absurd ⟨.inl ⟨y, h9⟩, .inr ⟨h, x⟩⟩ hc'
   ·intro h
    rcases Int.lt_trichotomy 0 A with h9 | h9 | h9
    ·exact h9
    ·exact absurd h9.symm a0
    ·obtain ⟨x, y⟩ := pos3 (neg_id iU) (neg_id2 iV) h1 h2 h3 (show 0 < -A by omega) (show 0 < -V by omega)
     exact absurd ⟨.inr ⟨by omega, h⟩, .inl ⟨h9, by omega⟩⟩ hc'
  simp [key]
 ·rw [show decide (u.2 ≤ a.2 ∧ a.2 < v.2) = true by simp; omega, show decide (u.2 ≤ b.2 ∧ b.2 < v.2) = true by simp; omega, show decide (a.2 < u.2 ∧ u.2 ≤ b.2) = false by simp; omega, show decide (a.2 < v.2 ∧ v.2 ≤ b.2) = false by simp; omega]
  have a0 := oa h1 (by omega) (by omega)
  have b0 := ob (by omega) (by omega) (by omega)
  have hflat : u.2 = a.2 → b.2 = a.2 → (0 < cr u v a ∧ cr u v b < 0) ∨ (cr u v a < 0 ∧ 0 < cr u v b) → False := by
   intro e1 e2 e3
   have x1 : cr u v a = (v.2 - u.2) * (u.1 - a.1) := by unfold cr; rw [e1]; grind
   have x2 : cr u v b = (v.2 - u.2) * (u.1 - b.1) := by unfold cr; rw [e2, e1]; grind
   have y0 : cr a b u = 0 := by unfold cr; rw [e1, e2]; grind
   have hp : 0 < v.2 - u.2 := by omega
   have hon : onB u a b = true := by
    rw [onB_iff]
    refine ⟨y0, ?_, by omega⟩
    rw [x1, x2, Int.mul_comm, Int.mul_comm (v.2 - u.2)] at e3
    rcases e3 with ⟨q1, q2⟩ | ⟨q1, q2⟩
    ·have := pos_of q1 hp
     have := neg_of q2 hp
     omega
    ·have := neg_of q1 hp
     have := pos_of q2 hp
     omega
   rw [hon] at hu
   cases hu
  rw [hA] at a0 hflat
  rw [hB] at b0 hflat
  rw [hA, hB, hU, hV] at hc'
  rw [hA, hB]
  rw [hU, hA, hB] at iU
  rw [hV, hA, hB] at iV
  have key : (0 < A ↔ 0 < B) := by
   constructor
   ·intro h
    rcases Int.lt_trichotomy 0 B with h9 | h9 | h9
    ·exact h9
    ·exact absurd h9.symm b0
    ·obtain ⟨x, y | ⟨y1, y2⟩⟩ := pos4 iU iV h1 hab h2 h h9
     ·exact absurd ⟨.inl ⟨y, x⟩, .inr ⟨h, h9⟩⟩ hc'
     ·exact absurd (hflat (by omega) (by omega) (.inl ⟨h, h9⟩)) id
   ·intro h
    rcases Int.lt_trichotomy 0 A with h9 | h9 | h9
    ·exact h9
    ·exact absurd h9.symm a0
    ·obtain ⟨x, y | ⟨y1, y2⟩⟩ := pos4 (neg_id iU) (neg_id2 iV) h1 hab h2 (show 0 < -A by omega) (show -B < 0 by omega)
     ·exact absurd ⟨.inr ⟨by omega, by omega⟩, .inl ⟨h9, h⟩⟩ hc'
     ·exact absurd (hflat (by omega) (by omega) (.inr ⟨h9, h⟩)) id
  simp [key]
 ·rw [show decide (u.2 ≤ a.2 ∧ a.2 < v.2) = false by simp; omega, show decide (u.2 ≤ b.2 ∧ b.2 < v.2) = false by simp; omega, show decide (a.2 < u.2 ∧ u.2 ≤ b.2) = true by simp; omega, show decide (a.2 < v.2 ∧ v.2 ≤ b.2) = true by simp; omega]
  have u0 := ou (by omega) (by omega) (by omega)
  have v0 := ov (by omega) (by omega) (by omega)
  have hflat : b.2 = u.2 → v.2 = u.2 → (0 < cr a b u ∧ cr a b v < 0) ∨ (cr a b u < 0 ∧ 0 < cr a b v) → False := by
   intro e1 e2 e3
   have x1 : cr a b u = (b.2 - a.2) * (b.1 - u.1) := by unfold cr; rw [e1]; grind
   have x2 : cr a b v = (b.2 - a.2) * (b.1 - v.1) := by unfold cr; rw [e2, e1]; grind
   have y0 : cr u v b = 0 := by unfold cr; rw [e1, e2]; grind
   have hp : 0 < b.2 - a.2 := by omega
   have hon : onB b u v = true := by
    rw [onB_iff]
    refine ⟨y0, ?_, by omega⟩
    rw [x1, x2, Int.mul_comm, Int.mul_comm (b.2 - a.2)] at e3
    rcases e3 with ⟨q1, q2⟩ | ⟨q1, q2⟩
    ·have := pos_of q1 hp
     have := neg_of q2 hp
     omega
    ·have := neg_of q1 hp
     have := pos_of q2 hp
     omega
   rw [hon] at hb
   cases hb
  rw [hU] at u0 hflat
  rw [hV] at v0 hflat
  rw [hA, hB, hU, hV] at hc'
  rw [hU, hV]
  rw [hU, hA, hV] at iA
  rw [hU, hV, hB] at iB
  have dual : ∀ A B U V : Int, A * (b.2 - a.2) = -U * (v.2 - a.2) + V * (u.2 - a.2) → B * (b.2 - a.2) = U * (b.2 - v.2) - V * (b.2 - u.2) → U < 0 → 0 < V → 0 < A ∧ (B < 0 ∨ (b.2 = u.2 ∧ v.2 = u.2)) := by
   intro A B U V iA iB hU hV
   have e1 := Int.mul_pos hV (show 0 < u.2 - a.2 by omega)
   have e2 := np_of (Int.le_of_lt hU) (show 0 ≤ v.2 - a.2 by omega)
   rw [Int.neg_mul] at iA
   refine ⟨pos_of (y := b.2 - a.2) (by omega) (by omega), ?_⟩
   by_cases hbu : b.2 = u.2
   ·exact .inr ⟨hbu, by omega⟩
   ·have e3 := Int.mul_pos hV (show 0 < b.2 - u.2 by omega)
    have e4 := np_of (Int.le_of_lt hU) (show 0 ≤ b.2 - v.2 by omega)
    exact .inl (neg_of (y := b.2 - a.2) (by omega) (by omega))
  have key : (U < 0 ↔ V < 0) := by
   constructor
   ·intro h
    rcases Int.lt_trichotomy V 0 with h9 | h9 | h9
    ·exact h9
    ·exact absurd h9 v0
    ·obtain ⟨x, y | ⟨y1, y2⟩⟩ := dual A B U V iA iB h h9
     ·exact absurd ⟨.inl ⟨h, h9⟩, .inr ⟨x, y⟩⟩ hc'
     ·exact absurd (hflat (by omega) (by omega) (.inr ⟨h, h9⟩)) id
   ·intro h
    rcases Int.lt_trichotomy U 0 with h9 | h9 | h9
    ·exact h9
    ·exact absurd h9 u0
    ·obtain ⟨x, y | ⟨y1, y2⟩⟩ := dual (-A) (-B) (-U) (-V) (neg_id iA) (neg_id2 iB) (by omega) (by omega)
     ·exact absurd ⟨.inr ⟨h9, h⟩, .inl ⟨by omega, by omega⟩⟩ hc'
     ·exact absurd (hflat (by omega) (by omega) (.inl ⟨h9, h⟩)) id
  simp [key]
 ·rw [show decide (u.2 ≤ a.2 ∧ a.2 < v.2) = false by simp; omega, show decide (u.2 ≤ b.2 ∧ b.2 < v.2) = true by simp; omega, show decide (a.2 < u.2 ∧ u.2 ≤ b.2) = true by simp; omega, show decide (a.2 < v.2 ∧ v.2 ≤ b.2) = false by simp; omega]
  have b0 := ob (by omega) (by omega) (by omega)
  have u0 := ou (by omega) (by omega) (by omega)
  rw [hB] at b0
  rw [hU] at u0
  rw [hA, hB, hU, hV] at hc'
  rw [hB, hU]
  rw [hU, hA, hB] at iU
  rw [hV, hA, hB] at iV
  have key : (0 < B ↔ U < 0) := by
   constructor
   ·intro h
    rcases Int.lt_trichotomy U 0 with h9 | h9 | h9
    ·exact h9
    ·exact absurd h9 u0
    ·obtain ⟨x, y⟩ := pos6 iU iV h1 h2 h3 h h9
     exact absurd ⟨.inr ⟨h9, y⟩, .inl ⟨x, h⟩⟩ hc'
   ·intro h
    rcases Int.lt_trichotomy 0 B with h9 | h9 | h9
    ·exact h9
    ·exact absurd h9.symm b0
    ·obtain ⟨x, y⟩ := pos6 (neg_id iU) (neg_id2 iV) h1 h2 h3 (show 0 < -B by omega) (show 0 < -U by omega)
     exact absurd ⟨.inl ⟨h, by omega⟩, .inr ⟨by omega, h9⟩⟩ hc'
  simp [key]
theorem edge_par2 {a b u v : Pt} (hab : a.2 ≤ b.2) (hm : meetB a b u v = false) : (crossB a u v ^^ crossB b u v) = (sideB a b u ^^ sideB a b v) := by
 rcases Int.le_total u.2 v.2 with h | h
 ·exact edge_par hab h hm
 ·rw [← crossB_swap a u v, ← crossB_swap b u v, Bool.xor_comm (sideB a b u)]
  exact edge_par hab h (by rw [meetB_swap2]; exact hm)
theorem par_xor {ps : List Pt} {a b : Pt} (hab : a.2 ≤ b.2) : ∀ n, (∀ i, i < n → meetB a b (cor ps i) (cor ps (i + 1)) = false) → (par ps a (List.range n) ^^ par ps b (List.range n)) = (sideB a b (cor ps 0) ^^ sideB a b (cor ps n))
 | 0, _ => by simp [par]
 | n + 1, h => by
  have ih := par_xor hab n (fun i hi => h i (by omega))
  have he := edge_par2 hab (h n (by omega))
  rw [List.range_succ, par_snoc, par_snoc]
  revert ih he
  generalize par ps a (List.range n) = x1
  generalize par ps b (List.range n) = x2
  generalize crossB a (cor ps n) (cor ps (n + 1)) = x3
  generalize crossB b (cor ps n) (cor ps (n + 1)) = x4
  generalize sideB a b (cor ps 0) = x5
  generalize sideB a b (cor ps n) = x6
  generalize sideB a b (cor ps (n + 1)) = x7
  revert x1 x2 x3 x4 x5 x6 x7
  decide
theorem cor_len (ps : List Pt) : cor ps ps.length = cor ps 0 := by unfold cor; rw [Nat.mod_self, Nat.zero_mod]
/-- Along a segment that meets no edge the parity does not change. -/
theorem par_const {ps : List Pt} {a b : Pt} (h : ∀ i, i < ps.length → meetB a b (cor ps i) (cor ps (i + 1)) = false) : par ps a (List.range ps.length) = par ps b (List.range ps.length) := by
 rcases Int.le_total a.2 b.2 with hab | hab
 ·have := par_xor hab ps.length h
  rw [cor_len, Bool.xor_self] at this
  simpa using this
 ·have := par_xor (ps := ps) hab ps.length (fun i hi => by rw [meetB_swap1]; exact h i hi)
  rw [cor_len, Bool.xor_self] at this
  have : par ps b (List.range ps.length) = par ps a (List.range ps.length) := by simpa using this
  exact this.symm
end Go.Proofs.YtfeccolljfkejaaGreatDoor
namespace Go.Proofs.YtfeccolljfkejaaGreatDoor
/-- The square of the distance of two places. -/
def sqd (p q : Pt) : Int := (q.1 - p.1) * (q.1 - p.1) + (q.2 - p.2) * (q.2 - p.2)
theorem sq_nonneg (x : Int) : 0 ≤ x * x := by
 rcases Int.le_total 0 x with h | h
 ·exact Int.mul_nonneg h h
 ·have := Int.mul_nonneg (show 0 ≤ -x by omega) (show 0 ≤ -x by omega)
  rw [Int.neg_mul_neg] at this
  exact this
theorem sq_le {x y : Int} (h : -y ≤ x ∧ x ≤ y) : x * x ≤ y * y := by
 have h1 := Int.mul_nonneg (show 0 ≤ y - x by omega) (show 0 ≤ y + x by omega)
 have e : (y - x) * (y + x) = y * y - x * x := by grind
 omega
theorem sq_lt {x y : Int} (h : -y < x ∧ x < y) : x * x < y * y := by
 have h1 := Int.mul_pos (show 0 < y - x by omega) (show 0 < y + x by omega)
 have e : (y - x) * (y + x) = y * y - x * x := by grind
 omega
theorem sqd_nonneg (p q : Pt) : 0 ≤ sqd p q := by
 unfold sqd
 have h1 := sq_nonneg (q.1 - p.1)
 have h2 := sq_nonneg (q.2 - p.2)
 omega
theorem sqd_pos {p q : Pt} (h : q ≠ p) : 0 < sqd p q := by
 unfold sqd
 have h1 := sq_nonneg (q.1 - p.1)
 have h2 := sq_nonneg (q.2 - p.2)
 by_cases e : q.1 = p.1
 ·have e2 : q.2 ≠ p.2 := fun e2 => h (Prod.ext e e2)
  have : 0 < (q.2 - p.2) * (q.2 - p.2) := by
   rcases Int.lt_or_lt_of_ne e2 with h3 | h3
   ·have := Int.mul_pos (show 0 < -(q.2 - p.2) by omega) (show 0 < -(q.2 - p.2) by omega)
    rwa [Int.neg_mul_neg] at this
   ·exact Int.mul_pos (by omega) (by omega)
  omega
 ·have : 0 < (q.1 - p.1) * (q.1 - p.1) := by
   rcases Int.lt_or_lt_of_ne e with h3 | h3
   ·have := Int.mul_pos (show 0 < -(q.1 - p.1) by omega) (show 0 < -(q.1 - p.1) by omega)
    rwa [Int.neg_mul_neg] at this
   ·exact Int.mul_pos (by omega) (by omega)
  omega
theorem sqr_third (p u v : Pt) : 0 < (sqr p u v).2.2 := by
 unfold sqr
 split
 ·exact Int.zero_lt_one
 ·split
  ·exact Int.zero_lt_one
  ·dsimp only
   omega
/-- The square of the distance of a segment is the least one. -/
theorem sqr_min (p u v : Pt) {k m : Int} (hk : 0 ≤ k) (hkm : k ≤ m) : m * m * ((sqr p u v).1 * (sqr p u v).2.1) ≤ ((m * (p.1 - u.1) - k * (v.1 - u.1)) * (m * (p.1 - u.1) - k * (v.1 - u.1)) + (m * (p.2 - u.2) - k * (v.2 - u.2)) * (m * (p.2 - u.2) - k * (v.2 - u.2))) * (sqr p u v).2.2 := by
 unfold sqr
 have hm : 0 ≤ m := by omega
 have hL : 0 ≤ dt u v v := by
  unfold dt
  have h1 := sq_nonneg (v.1 - u.1)
  have h2 := sq_nonneg (v.2 - u.2)
  omega
 have hkL := Int.mul_nonneg (Int.mul_nonneg hk hk) hL
 split
 ·rename_i h
  dsimp only
  have e : ((m * (p.1 - u.1) - k * (v.1 - u.1)) * (m * (p.1 - u.1) - k * (v.1 - u.1)) + (m * (p.2 - u.2) - k * (v.2 - u.2)) * (m * (p.2 - u.2) - k * (v.2 - u.2))) = m * m * dt u p p + 2 * (m * k * -dt u v p) + k * k * dt u v v := by unfold dt; grind
  have h1 := Int.mul_nonneg (Int.mul_nonneg hm hk) (show 0 ≤ -dt u v p by omega)
  rw [e, Int.mul_one, Int.mul_one]
  omega
 ·split
  ·rename_i h0 h
   dsimp only
   have e : ((m * (p.1 - u.1) - k * (v.1 - u.1)) * (m * (p.1 - u.1) - k * (v.1 - u.1)) + (m * (p.2 - u.2) - k * (v.2 - u.2)) * (m * (p.2 - u.2) - k * (v.2 - u.2))) = m * m * dt v p p + 2 * (m * (m - k) * (dt u v p - dt u v v)) + (m - k) * (m - k) * dt u v v := by unfold dt; grind
   have h1 := Int.mul_nonneg (Int.mul_nonneg hm (show 0 ≤ m - k by omega)) (show 0 ≤ dt u v p - dt u v v by omega)
   have h2 := Int.mul_nonneg (Int.mul_nonneg (show 0 ≤ m - k by omega) (show 0 ≤ m - k by omega)) hL
   rw [e, Int.mul_one, Int.mul_one]
   omega
  ·dsimp only
   have en : ((cr u v p).natAbs : Int) * ((cr u v p).natAbs : Int) = cr u v p * cr u v p := Int.natAbs_mul_self
   rw [en]
   have e : ((m * (p.1 - u.1) - k * (v.1 - u.1)) * (m * (p.1 - u.1) - k * (v.1 - u.1)) + (m * (p.2 - u.2) - k * (v.2 - u.2)) * (m * (p.2 - u.2) - k * (v.2 - u.2))) * dt u v v = m * m * (cr u v p * cr u v p) + (m * dt u v p - k * dt u v v) * (m * dt u v p - k * dt u v v) := by unfold dt cr; grind
   have h1 := sq_nonneg (m * dt u v p - k * dt u v v)
   rw [e]
   omega
theorem le_of_mul {m x y : Int} (hm : 0 < m) (h : m * m * x ≤ m * m * y) : x ≤ y := by
 rcases Int.lt_or_le y x with h1 | h1
 ·have := Int.mul_lt_mul_of_pos_left h1 (Int.mul_pos hm hm)
  omega
 ·exact h1
/-- A place of a segment is not nearer than the segment. -/
theorem seg_near (p : Pt) {q u v : Pt} (h : onB q u v = true) : (sqr p u v).1 * (sqr p u v).2.1 ≤ sqd p q * (sqr p u v).2.2 := by
 rw [onB_iff] at h
 obtain ⟨h0, h1, h2⟩ := h
 have hc : (v.1 - u.1) * (q.2 - u.2) = (v.2 - u.2) * (q.1 - u.1) := by unfold cr at h0; omega
 have key : ∃ k m : Int, 0 ≤ k ∧ k ≤ m ∧ 0 < m ∧ m * (q.1 - u.1) = k * (v.1 - u.1) ∧ m * (q.2 - u.2) = k * (v.2 - u.2) := by
  by_cases hz : u.1 = v.1 ∧ u.2 = v.2
  ·refine ⟨0, 1, by omega, by omega, by omega, ?_, ?_⟩ <;> omega
  ·rcases Int.le_total u.1 v.1 with a1 | a1 <;> rcases Int.le_total u.2 v.2 with a2 | a2
   ·exact ⟨(q.1 - u.1) + (q.2 - u.2), (v.1 - u.1) + (v.2 - u.2), by omega, by omega, by omega, by grind, by grind⟩
   ·exact ⟨(q.1 - u.1) - (q.2 - u.2), (v.1 - u.1) - (v.2 - u.2), by omega, by omega, by omega, by grind, by grind⟩
   ·exact ⟨-(q.1 - u.1) + (q.2 - u.2), -(v.1 - u.1) + (v.2 - u.2), by omega, by omega, by omega, by grind, by grind⟩
   ·exact ⟨-(q.1 - u.1) - (q.2 - u.2), -(v.1 - u.1) - (v.2 - u.2), by omega, by omega, by omega, by grind, by grind⟩
 obtain ⟨k, m, hk, hkm, hm, e1, e2⟩ := key
 have := sqr_min p u v hk hkm
 refine le_of_mul hm ?_
 have e : (m * (p.1 - u.1) - k * (v.1 - u.1)) * (m * (p.1 - u.1) - k * (v.1 - u.1)) + (m * (p.2 - u.2) - k * (v.2 - u.2)) * (m * (p.2 - u.2) - k * (v.2 - u.2)) = m * m * sqd p q := by
  rw [← e1, ← e2]
  unfold sqd
  grind
 rw [e, Int.mul_assoc (m * m)] at this
 exact this
theorem onB_left (u v : Pt) : onB u u v = true := by
 rw [onB_iff]
 refine ⟨by unfold cr; grind, by omega, by omega⟩
theorem onB_right (u v : Pt) : onB v u v = true := by
 rw [onB_iff]
 refine ⟨by unfold cr; grind, by omega, by omega⟩
/-- A place of a segment is not farther from an end than the other end. -/
theorem on_sqd {p o q : Pt} (h : onB q p o = true) : sqd p q ≤ sqd p o ∧ (q ≠ o → sqd p q < sqd p o) := by
 rw [onB_iff] at h
 obtain ⟨_, h1, h2⟩ := h
 have a : ∀ x y z : Int, min x z ≤ y → y ≤ max x z → (y - x) * (y - x) ≤ (z - x) * (z - x) ∧ (y ≠ z → (y - x) * (y - x) < (z - x) * (z - x)) := by
  intro x y z h1 h2
  rcases Int.le_total x z with h | h
  ·refine ⟨sq_le (by omega), fun hne => sq_lt (by omega)⟩
  ·have e1 : (z - x) * (z - x) = (x - z) * (x - z) := by grind
   rw [e1]
   refine ⟨sq_le (by omega), fun hne => sq_lt (by omega)⟩
 have a1 := a p.1 q.1 o.1 (by omega) (by omega)
 have a2 := a p.2 q.2 o.2 (by omega) (by omega)
 unfold sqd
 refine ⟨by omega, fun hne => ?_⟩
 by_cases e : q.1 = o.1
 ·have := a2.2 (fun e2 => hne (Prod.ext e e2))
  omega
 ·have := a1.2 e
  omega
/-- If a segment meets an edge, its first end is not farther from the edge than from the other end; and nearer, unless the other end is on the edge. -/
theorem meet_near {p o u v : Pt} (h : meetB p o u v = true) : (sqr p u v).1 * (sqr p u v).2.1 ≤ sqd p o * (sqr p u v).2.2 ∧ (onB o u v = false → o ≠ p → (sqr p u v).1 * (sqr p u v).2.1 < sqd p o * (sqr p u v).2.2) := by
 have h3 := sqr_third p u v
 have mono : ∀ q : Pt, onB q u v = true → onB q p o = true → (sqr p u v).1 * (sqr p u v).2.1 ≤ sqd p o * (sqr p u v).2.2 ∧ (onB o u v = false → o ≠ p → (sqr p u v).1 * (sqr p u v).2.1 < sqd p o * (sqr p u v).2.2) := by
  intro q h1 h2
  have a := seg_near p h1
  obtain ⟨b1, b2⟩ := on_sqd h2
  have c := Int.mul_le_mul_of_nonneg_right b1 (Int.le_of_lt h3)
  refine ⟨by omega, fun ho _ => ?_⟩
  have := b2 (fun e => by rw [← e, h1] at ho; cases ho)
  have c := Int.mul_lt_mul_of_pos_right this h3
  omega
 unfold meetB at h
 simp only [Bool.or_eq_true] at h
 rcases h with h | h | h | h | h
 ·rw [cutB_iff] at h
  have hAB : cr u v p - cr u v o = cr p o v - cr p o u := by unfold cr; grind
  have i1 : (cr p o v - cr p o u) * (p.1 - u.1) + cr p o u * (v.1 - u.1) = -cr u v p * (o.1 - p.1) := by unfold cr; grind
  have i2 : (cr p o v - cr p o u) * (p.2 - u.2) + cr p o u * (v.2 - u.2) = -cr u v p * (o.2 - p.2) := by unfold cr; grind
  obtain ⟨A, hA⟩ : ∃ x, cr u v p = x := ⟨_, rfl⟩
  obtain ⟨B, hB⟩ : ∃ x, cr u v o = x := ⟨_, rfl⟩
  obtain ⟨U, hU⟩ : ∃ x, cr p o u = x := ⟨_, rfl⟩
  obtain ⟨V, hV⟩ : ∃ x, cr p o v = x := ⟨_, rfl⟩
  rw [hA, hB, hU, hV] at h
  rw [hA, hB, hU, hV] at hAB
  rw [hA, hU, hV] at i1 i2
  have hop : 0 < sqd p o := sqd_pos fun e => by rw [e] at hB; omega
  have key : ∃ k m : Int, 0 ≤ k ∧ k ≤ m ∧ 0 < m ∧ (A * A < m * m) ∧ (m * (p.1 - u.1) - k * (v.1 - u.1)) * (m * (p.1 - u.1) - k * (v.1 - u.1)) + (m * (p.2 - u.2) - k * (v.2 - u.2)) * (m * (p.2 - u.2) - k * (v.2 - u.2)) = A * A * sqd p o := by
   rcases h with ⟨⟨h1, h2⟩ | ⟨h1, h2⟩, h4⟩
   ·refine ⟨-U, V - U, by omega, by omega, by omega, ?_, ?_⟩
    ·exact sq_lt (by omega)
    ·have e1 : (V - U) * (p.1 - u.1) - -U * (v.1 - u.1) = -A * (o.1 - p.1) := by rw [← i1]; grind
     have e2 : (V - U) * (p.2 - u.2) - -U * (v.2 - u.2) = -A * (o.2 - p.2) := by rw [← i2]; grind
     rw [e1, e2]
     unfold sqd
     grind
   ·refine ⟨U, U - V, by omega, by omega, by omega, ?_, ?_⟩
    ·exact sq_lt (by omega)
    ·have e1 : (U - V) * (p.1 - u.1) - U * (v.1 - u.1) = A * (o.1 - p.1) := by
      have : A * (o.1 - p.1) = -(-A * (o.1 - p.1)) := by grind
      rw [this, ← i1]; grind
     have e2 : (U - V) * (p.2 - u.2) - U * (v.2 - u.2) = A * (o.2 - p.2) := by
      have : A * (o.2 - p.2) = -(-A * (o.2 - p.2)) := by grind
      rw [this, ← i2]; grind
     rw [e1, e2]
     unfold sqd
     grind
  obtain ⟨k, m, hk, hkm, hm, hlt, hE⟩ := key
  have hs := sqr_min p u v hk hkm
  rw [hE] at hs
  have hY := Int.mul_pos hop h3
  have hl := Int.mul_lt_mul_of_pos_right hlt hY
  rw [Int.mul_assoc (A * A)] at hs
  have hfin : (sqr p u v).1 * (sqr p u v).2.1 < sqd p o * (sqr p u v).2.2 := by
   rcases Int.lt_or_le ((sqr p u v).1 * (sqr p u v).2.1) (sqd p o * (sqr p u v).2.2) with h1 | h1
   ·exact h1
   ·have := Int.mul_le_mul_of_nonneg_left h1 (Int.le_of_lt (Int.mul_pos hm hm))
    omega
  exact ⟨by omega, fun _ _ => hfin⟩
 ·have a := seg_near p h
  have e0 : sqd p p = 0 := by unfold sqd; grind
  rw [e0, Int.zero_mul] at a
  have b := Int.mul_nonneg (sqd_nonneg p o) (Int.le_of_lt h3)
  refine ⟨by omega, fun _ hne => ?_⟩
  have := Int.mul_pos (sqd_pos hne) h3
  omega
 ·exact mono o h (onB_right p o)
 ·exact mono u (onB_left u v) h
 ·exact mono v (onB_right u v) h
/-- The laws of discs. -/
theorem disc_mono {ps : List Pt} {at' : Pt} {r s : Int} (hs : 0 ≤ s) (hsr : s ≤ r) : (-1 ≤ discVal ps at' r ∧ discVal ps at' r ≤ 1) ∧ (discVal ps at' r = 1 → discVal ps at' s = 1) ∧ (discVal ps at' r = -1 → discVal ps at' s = -1) := by
 have hss : s * s ≤ r * r := sq_le (by omega)
 have h1 : apartAll ps at' r (List.range ps.length) = true → apartAll ps at' s (List.range ps.length) = true := by
  unfold apartAll
  rw [List.all_eq_true, List.all_eq_true]
  intro h i hi
  have := h i hi
  unfold apartB at this ⊢
  rw [decide_eq_true_eq] at this ⊢
  have := Int.mul_le_mul_of_nonneg_right hss (Int.le_of_lt (sqr_third at' (cor ps i) (cor ps (i + 1))))
  omega
 have h2 : nearAll ps at' r (List.range ps.length) = false → nearAll ps at' s (List.range ps.length) = false := by
  unfold nearAll
  rw [List.any_eq_false, List.any_eq_false]
  intro h i hi
  have := h i hi
  unfold nearB at this ⊢
  rw [decide_eq_true_eq] at this ⊢
  have := Int.mul_le_mul_of_nonneg_right hss (Int.le_of_lt (sqr_third at' (cor ps i) (cor ps (i + 1))))
  omega
 unfold discVal
 by_cases hp : 0 ≤ placeOf ps at'
 ·rw [if_pos hp, if_pos hp]
  cases ha : apartAll ps at' r (List.range ps.length)
  ·simp
  ·rw [h1 ha]
   simp
 ·rw [if_neg hp, if_neg hp]
  cases hn : nearAll ps at' r (List.range ps.length)
  ·rw [h2 hn]
   simp
  ·simp
theorem place_cases (ps : List Pt) (q : Pt) : (onAny ps q = true ∧ placeOf ps q = 0) ∨ (onAny ps q = false ∧ par ps q (List.range ps.length) = true ∧ placeOf ps q = 1) ∨ (onAny ps q = false ∧ par ps q (List.range ps.length) = false ∧ placeOf ps q = -1) := by
 unfold placeOf
 cases onAny ps q <;> cases par ps q (List.range ps.length) <;> simp
theorem place_meets {ps : List Pt} {a b : Pt} (h : 0 ≤ placeOf ps a) (h2 : placeOf ps b < 0) : a ≠ b ∧ ∃ i, i < ps.length ∧ meetB a b (cor ps i) (cor ps (i + 1)) = true := by
 refine ⟨fun e => by rw [e] at h; omega, ?_⟩
 rcases place_cases ps a with ⟨e, f⟩ | ⟨e, g, f⟩ | ⟨e, g, f⟩
 ·unfold onAny at e
  rw [List.any_eq_true] at e
  obtain ⟨i, hi, ho⟩ := e
  exact ⟨i, List.mem_range.1 hi, by unfold meetB; rw [ho]; simp⟩
 ·rcases place_cases ps b with ⟨e', f'⟩ | ⟨e', g', f'⟩ | ⟨e', g', f'⟩
  ·omega
  ·omega
  ·by_cases hm : ∃ i, i < ps.length ∧ meetB a b (cor ps i) (cor ps (i + 1)) = true
   ·exact hm
   ·have := par_const (ps := ps) (a := a) (b := b) (fun i hi => by
     cases h : meetB a b (cor ps i) (cor ps (i + 1))
     ·rfl
     ·exact absurd ⟨i, hi, h⟩ hm)
    rw [g, g'] at this
    cases this
 ·omega
theorem disc_has {ps : List Pt} {at' other : Pt} {r : Int} (hn : sqd at' other ≤ r * r) : (discVal ps at' r = 1 → 0 ≤ placeOf ps other) ∧ (discVal ps at' r = -1 → placeOf ps other < 0) := by
 unfold discVal
 by_cases hp : 0 ≤ placeOf ps at'
 ·rw [if_pos hp]
  refine ⟨fun h => ?_, fun h => by split at h <;> cases h⟩
  have ha : apartAll ps at' r (List.range ps.length) = true := by
   cases hx : apartAll ps at' r (List.range ps.length)
   ·rw [hx] at h; simp at h
   ·rfl
  rcases Int.lt_or_le (placeOf ps other) 0 with hlt | hle
  ·obtain ⟨hne, i, hi, hm⟩ := place_meets hp hlt
   obtain ⟨_, h2⟩ := meet_near hm
   have hno : onB other (cor ps i) (cor ps (i + 1)) = false := by
    rcases place_cases ps other with ⟨e, f⟩ | ⟨e, g, f⟩ | ⟨e, g, f⟩
    ·omega
    ·omega
    ·unfold onAny at e
     rw [List.any_eq_false] at e
     simpa using e i (List.mem_range.2 hi)
   have h3 := h2 hno (fun e => hne e.symm)
   unfold apartAll at ha
   rw [List.all_eq_true] at ha
   have h4 := ha i (List.mem_range.2 hi)
   unfold apartB at h4
   rw [decide_eq_true_eq] at h4
   have h5 := Int.mul_le_mul_of_nonneg_right hn (Int.le_of_lt (sqr_third at' (cor ps i) (cor ps (i + 1))))
   omega
  ·exact hle
 ·rw [if_neg hp]
  refine ⟨fun h => (by split at h <;> cases h), fun h => ?_⟩
  have ha : nearAll ps at' r (List.range ps.length) = false := by
   cases hx : nearAll ps at' r (List.range ps.length)
   ·rfl
   ·rw [hx] at h; simp at h
  rcases Int.lt_or_le (placeOf ps other) 0 with hlt | hle
  ·exact hlt
  ·obtain ⟨hne, i, hi, hm⟩ := place_meets hle (show placeOf ps at' < 0 by omega)
   rw [← meetB_swap1] at hm
   obtain ⟨h2, _⟩ := meet_near hm
   unfold nearAll at ha
   rw [List.any_eq_false] at ha
   have h4 := ha i (List.mem_range.2 hi)
   unfold nearB at h4
   rw [decide_eq_true_eq] at h4
   have h5 := Int.mul_le_mul_of_nonneg_right hn (Int.le_of_lt (sqr_third at' (cor ps i) (cor ps (i + 1))))
   omega
theorem near_self {p a : Pt} {r : Int} (h : nearB p a a r = true) : sqd a p ≤ r * r := by
 unfold nearB sqr at h
 rw [decide_eq_true_eq] at h
 have e : dt a a p = 0 := by unfold dt; grind
 rw [if_pos (by omega)] at h
 have e2 : dt a p p = sqd a p := by unfold dt sqd; grind
 rw [e2] at h
 dsimp only at h
 omega
theorem pv_vert {ps : List Pt} (h : PValid ps = true) {i : Nat} (hi : i < ps.length) : vertOk ps i = true := by
 unfold PValid at h
 simp only [Bool.and_eq_true] at h
 exact List.all_eq_true.1 h.2.1 i (List.mem_range.2 hi)
end Go.Proofs.YtfeccolljfkejaaGreatDoor
namespace Go.Proofs.YtfeccolljfkejaaGreatDoor
def meetE (ps qs : List Pt) (i k : Nat) : Bool := meetB (cor ps i) (cor ps (i + 1)) (cor qs k) (cor qs (k + 1))
def touchE (ps qs : List Pt) (i : Nat) : Bool := (List.range qs.length).any (meetE ps qs i)
def touchAny (ps qs : List Pt) : Bool := (List.range ps.length).any (touchE ps qs)
def ptouch (ps qs : List Pt) : Bool := touchAny ps qs || (placeOf ps (cor qs 0) == 1 || placeOf qs (cor ps 0) == 1)
def ptouchOf (ps qs : List Pt) : Bool × Int := if (PValid ps && PValid qs) = true then (ptouch ps qs, 0) else (false, 1)
end Go.Proofs.YtfeccolljfkejaaGreatDoor
namespace Go.Proofs.YtfeccolljfkejaaGreatDoor
/-- Places with all coordinates multiplied. -/
def sc (d : Int) (p : Pt) : Pt := (d * p.1, d * p.2)
theorem cr_sc (d : Int) (a b p : Pt) : cr (sc d a) (sc d b) (sc d p) = d * d * cr a b p := by unfold cr sc; grind
theorem dd_pos {d : Int} (hd : 0 < d) : 0 < d * d := Int.mul_pos hd hd
theorem mulp {m x : Int} (hm : 0 < m) : 0 < m * x ↔ 0 < x := by
 constructor
 ·intro h
  rw [Int.mul_comm] at h
  exact pos_of h hm
 ·exact Int.mul_pos hm
theorem muln {m x : Int} (hm : 0 < m) : m * x < 0 ↔ x < 0 := by
 constructor
 ·intro h
  rw [Int.mul_comm] at h
  exact neg_of h hm
 ·intro h
  have := Int.mul_pos hm (show 0 < -x by omega)
  rw [Int.mul_neg] at this
  omega
theorem mulz {m x : Int} (hm : 0 < m) : m * x = 0 ↔ x = 0 := by
 constructor
 ·intro h
  rw [Int.mul_comm] at h
  exact zero_of h hm
 ·intro h
  rw [h, Int.mul_zero]
theorem mulle {m x y : Int} (hm : 0 < m) : m * x ≤ m * y ↔ x ≤ y := by
 constructor
 ·intro h
  rcases Int.lt_or_le y x with h1 | h1
  ·have := Int.mul_lt_mul_of_pos_left h1 hm
   omega
  ·exact h1
 ·exact fun h => Int.mul_le_mul_of_nonneg_left h (Int.le_of_lt hm)
theorem mullt {m x y : Int} (hm : 0 < m) : m * x < m * y ↔ x < y := by
 rw [← Int.not_le, mulle hm, Int.not_le]
theorem min_sc {d x y : Int} (hd : 0 < d) : min (d * x) (d * y) = d * min x y := by
 rcases Int.le_total x y with h | h
 ·rw [Int.min_eq_left h, Int.min_eq_left ((mulle hd).2 h)]
 ·rw [Int.min_eq_right h, Int.min_eq_right ((mulle hd).2 h)]
theorem max_sc {d x y : Int} (hd : 0 < d) : max (d * x) (d * y) = d * max x y := by
 rcases Int.le_total x y with h | h
 ·rw [Int.max_eq_right h, Int.max_eq_right ((mulle hd).2 h)]
 ·rw [Int.max_eq_left h, Int.max_eq_left ((mulle hd).2 h)]
theorem onB_sc {d : Int} (hd : 0 < d) (p a b : Pt) : onB (sc d p) (sc d a) (sc d b) = onB p a b := by
 rw [Bool.eq_iff_iff, onB_iff, onB_iff, cr_sc, mulz (dd_pos hd)]
 unfold sc
 dsimp only
 rw [min_sc hd, max_sc hd, min_sc hd, max_sc hd, mulle hd, mulle hd, mulle hd, mulle hd]
theorem cutB_sc {d : Int} (hd : 0 < d) (a b u v : Pt) : cutB (sc d a) (sc d b) (sc d u) (sc d v) = cutB a b u v := by
 have h := dd_pos hd
 rw [Bool.eq_iff_iff, cutB_iff, cutB_iff, cr_sc, cr_sc, cr_sc, cr_sc, mulp h, mulp h, mulp h, mulp h, muln h, muln h, muln h, muln h]
theorem meetB_sc {d : Int} (hd : 0 < d) (a b u v : Pt) : meetB (sc d a) (sc d b) (sc d u) (sc d v) = meetB a b u v := by
 unfold meetB
 rw [cutB_sc hd, onB_sc hd, onB_sc hd, onB_sc hd, onB_sc hd]
theorem crossB_sc {d : Int} (hd : 0 < d) (q a b : Pt) : crossB (sc d q) (sc d a) (sc d b) = crossB q a b := by
 have h := dd_pos hd
 have up : ∀ q a b : Pt, a.2 ≤ b.2 → crossB (sc d q) (sc d a) (sc d b) = crossB q a b := by
  intro q a b hab
  rw [crossB_up hab, crossB_up (show (sc d a).2 ≤ (sc d b).2 from (mulle hd).2 hab), cr_sc, Bool.eq_iff_iff]
  simp only [Bool.and_eq_true, decide_eq_true_eq]
  rw [mulp h]
  unfold sc
  dsimp only
  rw [mulle hd, mullt hd]
 rcases Int.le_total a.2 b.2 with hab | hab
 ·exact up q a b hab
 ·rw [← crossB_swap, ← crossB_swap q]
  exact up q b a hab
theorem cor_sc (d : Int) (ps : List Pt) (i : Nat) : cor (ps.map (sc d)) i = sc d (cor ps i) := by
 unfold cor
 rw [List.length_map, List.getD_eq_getElem?_getD, List.getD_eq_getElem?_getD, List.getElem?_map]
 cases ps[i % ps.length]?
 ·unfold sc
  simp
 ·rfl
theorem par_sc {d : Int} (hd : 0 < d) (ps : List Pt) (q : Pt) : ∀ n, par (ps.map (sc d)) (sc d q) (List.range n) = par ps q (List.range n)
 | 0 => rfl
 | n + 1 => by rw [List.range_succ, par_snoc, par_snoc, par_sc hd ps q n, cor_sc, cor_sc, crossB_sc hd]
theorem aff {u v z : Pt} (h : cr u v z = 0) (c d : Pt) : (v.2 - u.2) * cr c d z = (v.2 - z.2) * cr c d u + (z.2 - u.2) * cr c d v := by
 unfold cr at *
 grind
theorem common_neg {u v c d z : Pt} (hneg : cr c d u < 0) (huv : u.2 < v.2) (h1 : onB z u v = true) (h2 : onB z c d = true) : meetB u v c d = true := by
 have done1 : onB u c d = true → meetB u v c d = true := fun h => by unfold meetB; rw [h]; simp
 have done2 : onB v c d = true → meetB u v c d = true := fun h => by unfold meetB; rw [h]; simp
 have done3 : onB c u v = true → meetB u v c d = true := fun h => by unfold meetB; rw [h]; simp
 have done4 : onB d u v = true → meetB u v c d = true := fun h => by unfold meetB; rw [h]; simp
 have k1 := onB_iff.1 h1
 have k2 := onB_iff.1 h2
 have hz : u.2 ≤ z.2 ∧ z.2 ≤ v.2 := by omega
 have e0 := aff k1.1 c d
 rw [k2.1, Int.mul_zero] at e0
 have hAB : cr u v c - cr u v d = cr c d v - cr c d u := by unfold cr; grind
 -- the ends of the first one
 by_cases z1 : z.2 = u.2
 ·have : z = u := by
   have hx := k1.1
   unfold cr at hx
   rw [z1, Int.sub_self, Int.mul_zero] at hx
   have : (z.1 - u.1) = 0 := zero_of (y := v.2 - u.2) (by rw [Int.mul_comm]; omega) (by omega)
   exact Prod.ext (by omega) z1
  rw [this] at h2
  exact done1 h2
 by_cases z2 : z.2 = v.2
 ·have : z = v := by
   have hx := k1.1
   unfold cr at hx
   rw [z2] at hx
   have h3 : (v.1 - z.1) * (v.2 - u.2) = 0 := by grind
   have := zero_of h3 (by omega)
   exact Prod.ext (by omega) z2
  rw [this] at h2
  exact done2 h2
 have p1 : 0 < v.2 - z.2 := by omega
 have p2 : 0 < z.2 - u.2 := by omega
 obtain ⟨e, he⟩ : ∃ x, cr c d u = x := ⟨_, rfl⟩
 obtain ⟨f, hf⟩ : ∃ x, cr c d v = x := ⟨_, rfl⟩
 obtain ⟨a, ha⟩ : ∃ x, cr u v c = x := ⟨_, rfl⟩
 obtain ⟨b, hb⟩ : ∃ x, cr u v d = x := ⟨_, rfl⟩
 have e1 := hneg
 rw [he] at e1
 rw [he, hf] at e0
 rw [ha, hb, he, hf] at hAB
 have x1 := (muln p1).2 e1
 have f1 : 0 < f := (mulp p2).1 (by omega)
 -- the ends of the second one
 by_cases a0 : 0 < a ∧ b < 0
 ·unfold meetB
  rw [cutB_iff.2 ⟨.inr (by rw [ha, hb]; exact a0), .inl (by rw [he, hf]; exact ⟨e1, f1⟩)⟩]
  rfl
 ·have key : ∃ k m : Int, 0 ≤ k ∧ k ≤ m ∧ 0 < m ∧ (m - k) * a + k * b = 0 ∧ (k = 0 → z = c) ∧ (k = m → z = d) := by
   have hc : (d.1 - c.1) * (z.2 - c.2) = (d.2 - c.2) * (z.1 - c.1) := by have := k2.1; unfold cr at this; omega
   have hk : ∀ k m : Int, 0 < m → m * (z.1 - c.1) = k * (d.1 - c.1) → m * (z.2 - c.2) = k * (d.2 - c.2) → (m - k) * a + k * b = 0 ∧ (k = 0 → z = c) ∧ (k = m → z = d) := by
    intro k m hm m1 m2
    refine ⟨?_, fun hk => ?_, fun hk => ?_⟩
    ·have : (m - k) * a + k * b = m * cr u v z := by rw [← ha, ← hb]; unfold cr; grind
     rw [this, k1.1, Int.mul_zero]
    ·rw [hk, Int.zero_mul] at m1 m2
     have := (mulz hm).1 m1
     have := (mulz hm).1 m2
     exact Prod.ext (by omega) (by omega)
    ·rw [hk] at m1 m2
     have := Int.eq_of_mul_eq_mul_left (by omega) m1
     have := Int.eq_of_mul_eq_mul_left (by omega) m2
     exact Prod.ext (by omega) (by omega)
   by_cases hz : c.1 = d.1 ∧ c.2 = d.2
   ·have := hk 0 1 (by omega) (by omega) (by omega)
    exact ⟨0, 1, by omega, by omega, by omega, this⟩
   ·rcases Int.le_total c.1 d.1 with a1 | a1 <;> rcases Int.le_total c.2 d.2 with a2 | a2
    ·exact ⟨(z.1 - c.1) + (z.2 - c.2), (d.1 - c.1) + (d.2 - c.2), by omega, by omega, by omega, hk _ _ (by omega) (by grind) (by grind)⟩
    ·exact ⟨(z.1 - c.1) - (z.2 - c.2), (d.1 - c.1) - (d.2 - c.2), by omega, by omega, by omega, hk _ _ (by omega) (by grind) (by grind)⟩
    ·exact ⟨-(z.1 - c.1) + (z.2 - c.2), -(d.1 - c.1) + (d.2 - c.2), by omega, by omega, by omega, hk _ _ (by omega) (by grind) (by grind)⟩
    ·exact ⟨-(z.1 - c.1) - (z.2 - c.2), -(d.1 - c.1) - (d.2 - c.2), by omega, by omega, by omega, hk _ _ (by omega) (by grind) (by grind)⟩
  obtain ⟨k, m, hk, hkm, hm, h5, h6, h7⟩ := key
  by_cases k0 : k = 0
  ·rw [h6 k0] at h1
   exact done3 h1
  ·by_cases km : k = m
   ·rw [h7 km] at h1
    exact done4 h1
   ·have q1 : 0 < k := by omega
    have q2 : 0 < m - k := by omega
    rcases Int.lt_trichotomy a 0 with a1 | a1 | a1
    ·have := (muln q2).2 a1
     have := (mulp q1).1 (show 0 < k * b by omega)
     omega
    ·rw [a1, Int.mul_zero] at h5
     have := (mulz q1).1 (show k * b = 0 by omega)
     omega
    ·have := (mulp q2).2 a1
     have := (muln q1).1 (show k * b < 0 by omega)
     exact absurd ⟨a1, this⟩ a0
/-- A place on both: the segments meet. -/
theorem common {u v c d z : Pt} (huv : u.2 < v.2) (h1 : onB z u v = true) (h2 : onB z c d = true) : meetB u v c d = true := by
 rcases Int.lt_trichotomy (cr c d u) 0 with e1 | e1 | e1
 ·exact common_neg e1 huv h1 h2
 ·have done1 : onB u c d = true → meetB u v c d = true := fun h => by unfold meetB; rw [h]; simp
  have done3 : onB c u v = true → meetB u v c d = true := fun h => by unfold meetB; rw [h]; simp
  have done4 : onB d u v = true → meetB u v c d = true := fun h => by unfold meetB; rw [h]; simp
  have k1 := onB_iff.1 h1
  have k2 := onB_iff.1 h2
  have hz : u.2 ≤ z.2 ∧ z.2 ≤ v.2 := by omega
  have e0 := aff k1.1 c d
  rw [k2.1, Int.mul_zero, e1, Int.mul_zero, Int.zero_add] at e0
  by_cases z1 : z.2 = u.2
  ·have : z = u := by
    have hx := k1.1
    unfold cr at hx
    rw [z1, Int.sub_self, Int.mul_zero] at hx
    have : (z.1 - u.1) = 0 := zero_of (y := v.2 - u.2) (by rw [Int.mul_comm]; omega) (by omega)
    exact Prod.ext (by omega) z1
   rw [this] at h2
   exact done1 h2
  have f0 : cr c d v = 0 := (mulz (show 0 < z.2 - u.2 by omega)).1 e0.symm
  by_cases hcd : c.2 = d.2
  ·have hc1 : c.1 = d.1 := by
    unfold cr at e1
    rw [hcd, Int.sub_self, Int.zero_mul] at e1
    rcases Int.mul_eq_zero.1 (show (d.1 - c.1) * (u.2 - d.2) = 0 by omega) with h | h
    ·omega
    ·omega
   have : z = c := Prod.ext (by omega) (by omega)
   rw [this] at h1
   exact done3 h1
  ·have ia := idU u v c d
   have ib := idV u v c d
   rw [e1, f0] at ia ib
   simp only [Int.neg_zero, Int.zero_mul, Int.add_zero, Int.sub_zero] at ia ib
   have a0 : cr u v c = 0 := by
    rcases Int.mul_eq_zero.1 ia with h | h
    ·exact h
    ·omega
   have b0 : cr u v d = 0 := by
    rcases Int.mul_eq_zero.1 ib with h | h
    ·exact h
    ·omega
   by_cases x1 : u.2 ≤ c.2 ∧ c.2 ≤ v.2
   ·exact done3 (on_of a0 x1.1 x1.2 huv)
   ·by_cases x2 : u.2 ≤ d.2 ∧ d.2 ≤ v.2
    ·exact done4 (on_of b0 x2.1 x2.2 huv)
    ·rcases Int.lt_or_le c.2 d.2 with x3 | x3
     ·exact done1 (on_of e1 (by omega) (by omega) x3)
     ·refine done1 ?_
      rw [← onB_swap]
      exact on_of (by rw [cr_swap, e1]; rfl) (by omega) (by omega) (by omega)
 ·rw [← meetB_swap2]
  exact common_neg (by rw [cr_swap]; omega) huv h1 (by rw [onB_swap]; exact h2)
/-- A part of a segment does not meet what the segment does not meet. -/
theorem sub_meet {u v c d z : Pt} (huv : u.2 < v.2) (h1 : onB z u v = true) (hm : meetB u v c d = false) : meetB u z c d = false := by
 cases h : meetB u z c d
 ·rfl
 ·exfalso
  have no : ∀ q, onB q u v = true → onB q c d = true → False := fun q a b => by rw [common huv a b] at hm; cases hm
  obtain ⟨hc, _, _, hcu, hdu⟩ := meet_parts hm
  have k1 := onB_iff.1 h1
  have hz : u.2 ≤ z.2 ∧ z.2 ≤ v.2 := by omega
  have part : ∀ q, onB q u z = true → onB q u v = true := by
   intro q hq
   have k3 := onB_iff.1 hq
   by_cases zu : z.2 = u.2
   ·have : z = u := by
     have hx := k1.1
     unfold cr at hx
     rw [zu, Int.sub_self, Int.mul_zero] at hx
     have : (z.1 - u.1) = 0 := zero_of (y := v.2 - u.2) (by rw [Int.mul_comm]; omega) (by omega)
     exact Prod.ext (by omega) zu
    subst this
    have : q = z := Prod.ext (by omega) (by omega)
    rw [this]
    exact h1
   ·refine on_of ?_ (by omega) (by omega) huv
    have : (z.2 - u.2) * cr u v q = (v.2 - u.2) * cr u z q := by
     have a := k1.1
     unfold cr at a ⊢
     grind
    rw [k3.1, Int.mul_zero] at this
    exact (mulz (show 0 < z.2 - u.2 by omega)).1 this
  unfold meetB at h
  simp only [Bool.or_eq_true] at h
  rcases h with h | h | h | h | h
  ·have h9 := cutB_iff.1 h
   have hzu : u.2 < z.2 := by
    rcases Int.lt_or_le u.2 z.2 with h | h
    ·exact h
    ·exfalso
     have zu : z.2 = u.2 := by omega
     have : z = u := by
      have hx := k1.1
      unfold cr at hx
      rw [zu, Int.sub_self, Int.mul_zero] at hx
      have : (z.1 - u.1) = 0 := zero_of (y := v.2 - u.2) (by rw [Int.mul_comm]; omega) (by omega)
      exact Prod.ext (by omega) zu
     rw [this] at h9
     omega
   have p1 : 0 < v.2 - u.2 := by omega
   have p2 : 0 < z.2 - u.2 := by omega
   have p3 : 0 ≤ v.2 - z.2 := by omega
   have e0 := aff k1.1 c d
   have ac : (z.2 - u.2) * cr u v c = (v.2 - u.2) * cr u z c := by have a := k1.1; unfold cr at a ⊢; grind
   have ad : (z.2 - u.2) * cr u v d = (v.2 - u.2) * cr u z d := by have a := k1.1; unfold cr at a ⊢; grind
   have hcut : cutB u v c d = true := by
    rw [cutB_iff]
    refine ⟨?_, ?_⟩
    ·have s1 : 0 < cr u v c ↔ 0 < cr u z c := by rw [← mulp (x := cr u v c) p2, ac, mulp p1]
     have s2 : cr u v c < 0 ↔ cr u z c < 0 := by rw [← muln (x := cr u v c) p2, ac, muln p1]
     have s3 : 0 < cr u v d ↔ 0 < cr u z d := by rw [← mulp (x := cr u v d) p2, ad, mulp p1]
     have s4 : cr u v d < 0 ↔ cr u z d < 0 := by rw [← muln (x := cr u v d) p2, ad, muln p1]
     rw [s1, s2, s3, s4]
     exact h9.1
    ·rcases h9.2 with ⟨x, y⟩ | ⟨x, y⟩
     ·have y2 := (mulp p1).2 y
      have x2 := np_of (Int.le_of_lt x) p3
      rw [Int.mul_comm] at x2
      exact .inl ⟨x, (mulp p2).1 (by omega)⟩
     ·have y2 := (muln p1).2 y
      have x2 := Int.mul_nonneg p3 (Int.le_of_lt x)
      exact .inr ⟨x, (muln p2).1 (by omega)⟩
   rw [hcut] at hc
   cases hc
  ·exact no u (onB_left u v) h
  ·exact no z h1 h
  ·have := part c h
   rw [this] at hcu
   cases hcu
  ·have := part d h
   rw [this] at hdu
   cases hdu
/-- The parity of a property over indices. -/
def xorL (n : Nat) (g : Nat → Bool) : Bool := (List.range n).foldl (fun s i => s ^^ g i) false
theorem xorL_succ (n : Nat) (g : Nat → Bool) : xorL (n + 1) g = (xorL n g ^^ g n) := by unfold xorL; rw [List.range_succ, List.foldl_append]; rfl
theorem xorL_congr {g h : Nat → Bool} : ∀ n, (∀ i, i < n → g i = h i) → xorL n g = xorL n h
 | 0, _ => rfl
 | n + 1, e => by rw [xorL_succ, xorL_succ, xorL_congr n (fun i hi => e i (by omega)), e n (by omega)]
theorem xorL_false {g : Nat → Bool} : ∀ n, (∀ i, i < n → g i = false) → xorL n g = false
 | 0, _ => rfl
 | n + 1, e => by rw [xorL_succ, xorL_false n (fun i hi => e i (by omega)), e n (by omega)]; rfl
theorem xorL_xor (g h : Nat → Bool) : ∀ n, xorL n (fun i => g i ^^ h i) = (xorL n g ^^ xorL n h)
 | 0 => rfl
 | n + 1 => by
  rw [xorL_succ, xorL_succ, xorL_succ, xorL_xor g h n]
  cases xorL n g <;> cases xorL n h <;> cases g n <;> cases h n <;> rfl
theorem xorL_and (b : Bool) (g : Nat → Bool) : ∀ n, xorL n (fun i => b && g i) = (b && xorL n g)
 | 0 => by cases b <;> rfl
 | n + 1 => by
  rw [xorL_succ, xorL_succ, xorL_and b g n]
  cases b <;> cases xorL n g <;> cases g n <;> rfl
theorem xorL_comm (g : Nat → Nat → Bool) (m : Nat) : ∀ n, xorL n (fun i => xorL m (fun k => g i k)) = xorL m (fun k => xorL n (fun i => g i k))
 | 0 => (xorL_false m fun _ _ => rfl).symm
 | n + 1 => by
  rw [xorL_succ, xorL_comm g m n, ← xorL_xor]
  exact xorL_congr m fun k _ => (xorL_succ n fun i => g i k).symm
theorem par_xorL (ps : List Pt) (q : Pt) (n : Nat) : par ps q (List.range n) = xorL n fun i => crossB q (cor ps i) (cor ps (i + 1)) := rfl
/-- The lower end and the upper end of an edge. -/
def lo (a b : Pt) : Pt := if a.2 ≤ b.2 then a else b
def hi (a b : Pt) : Pt := if a.2 ≤ b.2 then b else a
theorem lohi (a b : Pt) : (lo a b = a ∧ hi a b = b ∧ a.2 ≤ b.2) ∨ (lo a b = b ∧ hi a b = a ∧ b.2 ≤ a.2) := by
 unfold lo hi
 by_cases h : a.2 ≤ b.2
 ·exact .inl ⟨if_pos h, if_pos h, h⟩
 ·exact .inr ⟨if_neg h, if_neg h, by omega⟩
theorem lohi_le (a b : Pt) : (lo a b).2 ≤ (hi a b).2 := by rcases lohi a b with ⟨e, f, h⟩ | ⟨e, f, h⟩ <;> rw [e, f] <;> exact h
theorem cross_lohi (q a b : Pt) : crossB q (lo a b) (hi a b) = crossB q a b := by
 rcases lohi a b with ⟨e, f, h⟩ | ⟨e, f, h⟩ <;> rw [e, f]
 exact crossB_swap q a b
theorem meet_lohi1 (a b c d : Pt) : meetB (lo a b) (hi a b) c d = meetB a b c d := by
 rcases lohi a b with ⟨e, f, h⟩ | ⟨e, f, h⟩ <;> rw [e, f]
 exact meetB_swap1 a b c d
theorem meet_lohi2 (a b c d : Pt) : meetB a b (lo c d) (hi c d) = meetB a b c d := by
 rcases lohi c d with ⟨e, f, h⟩ | ⟨e, f, h⟩ <;> rw [e, f]
 exact meetB_swap2 a b c d
theorem cross_parts {q u v : Pt} (huv : u.2 ≤ v.2) (h : crossB q u v = true) : u.2 ≤ q.2 ∧ q.2 < v.2 ∧ 0 < cr u v q := by
 rw [crossB_up huv] at h
 simp only [Bool.and_eq_true, decide_eq_true_eq] at h
 exact ⟨h.1.1, h.1.2, h.2⟩
/-- Where the ray from q crosses the edge from u to v: with all coordinates multiplied by the difference of the heights. -/
def zz (q u v : Pt) : Pt := ((v.2 - u.2) * u.1 + (v.1 - u.1) * (q.2 - u.2), (v.2 - u.2) * q.2)
theorem zz_on {q u v : Pt} (h1 : u.2 ≤ q.2) (h2 : q.2 < v.2) : onB (zz q u v) (sc (v.2 - u.2) u) (sc (v.2 - u.2) v) = true := by
 have hd : 0 < v.2 - u.2 := by omega
 refine on_of ?_ ?_ ?_ ?_
 ·unfold cr zz sc; grind
 ·exact (mulle hd).2 h1
 ·exact (mulle hd).2 (by omega)
 ·exact (mullt hd).2 (by omega)
theorem zz_cr (q u v c d : Pt) : cr (sc (v.2 - u.2) c) (sc (v.2 - u.2) d) (zz q u v) = (v.2 - u.2) * ((v.2 - u.2) * cr c d q - (d.2 - c.2) * cr u v q) := by
 unfold cr zz sc; grind
theorem zz_cross {q u v c d : Pt} (hcd : c.2 ≤ d.2) (hd : 0 < v.2 - u.2) : crossB (zz q u v) (sc (v.2 - u.2) c) (sc (v.2 - u.2) d) = (decide (c.2 ≤ q.2 ∧ q.2 < d.2) && decide ((d.2 - c.2) * cr u v q < (v.2 - u.2) * cr c d q)) := by
 rw [crossB_up ((mulle hd).2 hcd), zz_cr, Bool.eq_iff_iff]
 simp only [Bool.and_eq_true, decide_eq_true_eq]
 rw [mulp hd]
 unfold sc zz
 dsimp only
 rw [mulle hd, mullt hd]
 omega
theorem zz_imp {q u v c d : Pt} (hcd : c.2 ≤ d.2) (hu : 0 < v.2 - u.2) (hA : 0 < cr u v q) (h : crossB (zz q u v) (sc (v.2 - u.2) c) (sc (v.2 - u.2) d) = true) : crossB q c d = true := by
 rw [zz_cross hcd hu] at h
 rw [crossB_up hcd]
 simp only [Bool.and_eq_true, decide_eq_true_eq] at h ⊢
 refine ⟨h.1, ?_⟩
 have := Int.mul_nonneg (show 0 ≤ d.2 - c.2 by omega) (Int.le_of_lt hA)
 exact (mulp hu).1 (by omega)
/-- Of two edges that the ray crosses one is crossed first. -/
theorem zz_one {q u v c d : Pt} (huv : u.2 ≤ v.2) (hcd : c.2 ≤ d.2) (h1 : crossB q u v = true) (h2 : crossB q c d = true) (hm : meetB u v c d = false) : (crossB (zz q u v) (sc (v.2 - u.2) c) (sc (v.2 - u.2) d) ^^ crossB (zz q c d) (sc (d.2 - c.2) u) (sc (d.2 - c.2) v)) = true := by
 obtain ⟨a1, a2, a3⟩ := cross_parts huv h1
 obtain ⟨b1, b2, b3⟩ := cross_parts hcd h2
 have hd1 : 0 < v.2 - u.2 := by omega
 have hd2 : 0 < d.2 - c.2 := by omega
 rw [zz_cross hcd hd1, zz_cross huv hd2, show decide (c.2 ≤ q.2 ∧ q.2 < d.2) = true by simp; omega, show decide (u.2 ≤ q.2 ∧ q.2 < v.2) = true by simp; omega]
 simp only [Bool.true_and]
 rcases Int.lt_trichotomy ((d.2 - c.2) * cr u v q) ((v.2 - u.2) * cr c d q) with h | h | h
 ·rw [decide_eq_true h, decide_eq_false (by omega)]
  rfl
 ·exfalso
  have e1 := zz_on a1 a2
  have e2 := zz_on b1 b2
  rw [← onB_sc hd2] at e1
  rw [← onB_sc hd1] at e2
  have ez : sc (d.2 - c.2) (zz q u v) = sc (v.2 - u.2) (zz q c d) := by
   unfold sc zz
   apply Prod.ext
   ·dsimp only
    unfold cr at h
    grind
   ·dsimp only
    grind
  have es : ∀ p : Pt, sc (d.2 - c.2) (sc (v.2 - u.2) p) = sc ((d.2 - c.2) * (v.2 - u.2)) p := fun p => by
   unfold sc
   apply Prod.ext <;> dsimp only <;> grind
  have es2 : ∀ p : Pt, sc (v.2 - u.2) (sc (d.2 - c.2) p) = sc ((d.2 - c.2) * (v.2 - u.2)) p := fun p => by
   unfold sc
   apply Prod.ext <;> dsimp only <;> grind
  rw [es, es] at e1
  rw [es2, es2, ← ez] at e2
  have hE := Int.mul_pos hd2 hd1
  have := common (show (sc ((d.2 - c.2) * (v.2 - u.2)) u).2 < (sc ((d.2 - c.2) * (v.2 - u.2)) v).2 from (mullt hE).2 (by omega)) e1 e2
  rw [meetB_sc hE, hm] at this
  cases this
 ·rw [decide_eq_false (by omega), decide_eq_true h]
  rfl
/-- Where the ray crosses an edge that does not meet the polygon, the parity is the one of the edge's lower end. -/
theorem zz_par {qs : List Pt} {q u v : Pt} (huv : u.2 ≤ v.2) (h : crossB q u v = true) (hm : ∀ k, k < qs.length → meetB u v (cor qs k) (cor qs (k + 1)) = false) :
  (xorL qs.length fun k => crossB (zz q u v) (sc (v.2 - u.2) (cor qs k)) (sc (v.2 - u.2) (cor qs (k + 1)))) = par qs u (List.range qs.length) := by
 obtain ⟨a1, a2, _⟩ := cross_parts huv h
 have hd : 0 < v.2 - u.2 := by omega
 have hz := zz_on a1 a2
 have hpc := par_const (ps := qs.map (sc (v.2 - u.2))) (a := sc (v.2 - u.2) u) (b := zz q u v) (fun k hk => by
  rw [List.length_map] at hk
  rw [cor_sc, cor_sc]
  exact sub_meet ((mullt hd).2 (by omega)) hz (by rw [meetB_sc hd]; exact hm k hk))
 rw [List.length_map, par_sc hd] at hpc
 rw [hpc, par_xorL]
 exact xorL_congr _ fun k _ => by rw [cor_sc, cor_sc]
/-- The law: two polygons whose edges do not meet, with no corner of one in the other, have no common place inside. -/
theorem no_common {ps qs : List Pt} {q : Pt} (hm : ∀ i, i < ps.length → ∀ k, k < qs.length → meetB (cor ps i) (cor ps (i + 1)) (cor qs k) (cor qs (k + 1)) = false) (h1 : ∀ i, par qs (cor ps i) (List.range qs.length) = false) (h2 : ∀ k, par ps (cor qs k) (List.range ps.length) = false) :
  (par ps q (List.range ps.length) && par qs q (List.range qs.length)) = false := by
 let P : Nat → Bool := fun i => crossB q (cor ps i) (cor ps (i + 1))
 let Q : Nat → Bool := fun k => crossB q (cor qs k) (cor qs (k + 1))
 let pl : Nat → Pt := fun i => lo (cor ps i) (cor ps (i + 1))
 let ph : Nat → Pt := fun i => hi (cor ps i) (cor ps (i + 1))
 let ql : Nat → Pt := fun k => lo (cor qs k) (cor qs (k + 1))
 let qh : Nat → Pt := fun k => hi (cor qs k) (cor qs (k + 1))
 let G : Nat → Nat → Bool := fun i k => crossB (zz q (pl i) (ph i)) (sc ((ph i).2 - (pl i).2) (cor qs k)) (sc ((ph i).2 - (pl i).2) (cor qs (k + 1)))
 let H : Nat → Nat → Bool := fun i k => crossB (zz q (ql k) (qh k)) (sc ((qh k).2 - (ql k).2) (cor ps i)) (sc ((qh k).2 - (ql k).2) (cor ps (i + 1)))
 have hG : ∀ i k, G i k = crossB (zz q (pl i) (ph i)) (sc ((ph i).2 - (pl i).2) (ql k)) (sc ((ph i).2 - (pl i).2) (qh k)) := by
  intro i k
  rcases lohi (cor qs k) (cor qs (k + 1)) with ⟨e, f, _⟩ | ⟨e, f, _⟩
  ·show crossB _ _ _ = crossB _ (sc _ (lo (cor qs k) (cor qs (k + 1)))) (sc _ (hi (cor qs k) (cor qs (k + 1))))
   rw [e, f]
  ·show crossB _ _ _ = crossB _ (sc _ (lo (cor qs k) (cor qs (k + 1)))) (sc _ (hi (cor qs k) (cor qs (k + 1))))
   rw [e, f, crossB_swap]
 have hH : ∀ i k, H i k = crossB (zz q (ql k) (qh k)) (sc ((qh k).2 - (ql k).2) (pl i)) (sc ((qh k).2 - (ql k).2) (ph i)) := by
  intro i k
  rcases lohi (cor ps i) (cor ps (i + 1)) with ⟨e, f, _⟩ | ⟨e, f, _⟩
  ·show crossB _ _ _ = crossB _ (sc _ (lo (cor ps i) (cor ps (i + 1)))) (sc _ (hi (cor ps i) (cor ps (i + 1))))
   rw [e, f]
  ·show crossB _ _ _ = crossB _ (sc _ (lo (cor ps i) (cor ps (i + 1)))) (sc _ (hi (cor ps i) (cor ps (i + 1))))
   rw [e, f, crossB_swap]
 have hP : ∀ i, P i = crossB q (pl i) (ph i) := fun i => (cross_lohi q (cor ps i) (cor ps (i + 1))).symm
 have hQ : ∀ k, Q k = crossB q (ql k) (qh k) := fun k => (cross_lohi q (cor qs k) (cor qs (k + 1))).symm
 have hpl : ∀ i, (pl i).2 ≤ (ph i).2 := fun i => lohi_le _ _
 have hql : ∀ k, (ql k).2 ≤ (qh k).2 := fun k => lohi_le _ _
 have hmm : ∀ i, i < ps.length → ∀ k, k < qs.length → meetB (pl i) (ph i) (ql k) (qh k) = false := fun i hi k hk => by
  show meetB (lo _ _) (Go.Proofs.YtfeccolljfkejaaGreatDoor.hi _ _) (lo _ _) (Go.Proofs.YtfeccolljfkejaaGreatDoor.hi _ _) = false
  rw [meet_lohi1, meet_lohi2]
  exact hm i hi k hk
 -- the sums
 have s1 : ∀ i, i < ps.length → xorL qs.length (fun k => P i && G i k) = false := by
  intro i hi
  rw [xorL_and]
  cases hp : P i
  ·rfl
  ·have := zz_par (qs := qs) (q := q) (hpl i) (by rw [← hP]; exact hp) (fun k hk => by
    show meetB (lo _ _) (Go.Proofs.YtfeccolljfkejaaGreatDoor.hi _ _) _ _ = false
    rw [meet_lohi1]
    exact hm i hi k hk)
   show (true && xorL qs.length (G i)) = false
   rw [Bool.true_and]
   refine this.trans ?_
   show par qs (lo _ _) _ = false
   rcases lohi (cor ps i) (cor ps (i + 1)) with ⟨e, _, _⟩ | ⟨e, _, _⟩ <;> rw [e] <;> exact h1 _
 have s2 : ∀ k, k < qs.length → xorL ps.length (fun i => Q k && H i k) = false := by
  intro k hk
  rw [xorL_and]
  cases hq : Q k
  ·rfl
  ·have := zz_par (qs := ps) (q := q) (hql k) (by rw [← hQ]; exact hq) (fun i hi => by
    show meetB (lo _ _) (Go.Proofs.YtfeccolljfkejaaGreatDoor.hi _ _) _ _ = false
    rw [meet_lohi1, ← meetB_comm]
    exact hm i hi k hk)
   show (true && xorL ps.length (fun i => H i k)) = false
   rw [Bool.true_and]
   refine this.trans ?_
   show par ps (lo _ _) _ = false
   rcases lohi (cor qs k) (cor qs (k + 1)) with ⟨e, _, _⟩ | ⟨e, _, _⟩ <;> rw [e] <;> exact h2 _
 have hT : ∀ i, i < ps.length → ∀ k, k < qs.length → (P i && Q k) = ((P i && G i k) ^^ (Q k && H i k)) := by
  intro i hi k hk
  cases hp : P i
  ·cases hq : Q k
   ·rfl
   ·have hh : H i k = false := by
     cases hh : H i k
     ·rfl
     ·rw [hH] at hh
      rw [hQ] at hq
      obtain ⟨c1, c2, c3⟩ := cross_parts (hql k) hq
      have := zz_imp (hpl i) (by omega) c3 hh
      rw [← hP, hp] at this
      cases this
    rw [hh]
    rfl
  ·cases hq : Q k
   ·have hg : G i k = false := by
     cases hg : G i k
     ·rfl
     ·rw [hG] at hg
      rw [hP] at hp
      obtain ⟨c1, c2, c3⟩ := cross_parts (hpl i) hp
      have := zz_imp (hql k) (by omega) c3 hg
      rw [← hQ, hq] at this
      cases this
    rw [hg]
    rfl
   ·have := zz_one (hpl i) (hql k) (by rw [← hP]; exact hp) (by rw [← hQ]; exact hq) (hmm i hi k hk)
    rw [hG, hH]
    simp only [Bool.true_and]
    exact this.symm
 have tot : xorL ps.length (fun i => xorL qs.length (fun k => P i && Q k)) = false := by
  have e1 : xorL ps.length (fun i => xorL qs.length (fun k => P i && Q k)) = xorL ps.length (fun i => xorL qs.length (fun k => P i && G i k) ^^ xorL qs.length (fun k => Q k && H i k)) :=
   xorL_congr _ fun i hi => by
    rw [← xorL_xor]
    exact xorL_congr _ fun k hk => hT i hi k hk
  rw [e1, xorL_xor, xorL_false _ s1, xorL_comm, xorL_false _ s2]
  rfl
 have e2 : xorL ps.length (fun i => xorL qs.length (fun k => P i && Q k)) = (par ps q (List.range ps.length) && par qs q (List.range qs.length)) := by
  have : ∀ i, xorL qs.length (fun k => P i && Q k) = (xorL qs.length Q && P i) := fun i => by rw [xorL_and, Bool.and_comm]
  simp only [this]
  rw [xorL_and, Bool.and_comm]
  rfl
 rw [← e2]
 exact tot
end Go.Proofs.YtfeccolljfkejaaGreatDoor
namespace Go.Proofs.YtfeccolljfkejaaGreatDoor
/-- Turned by a half; the coordinates exchanged. -/
def ng (p : Pt) : Pt := (-p.1, -p.2)
def tr (p : Pt) : Pt := (p.2, p.1)
theorem cr_ng (a b p : Pt) : cr (ng a) (ng b) (ng p) = cr a b p := by unfold cr ng; grind
theorem cr_tr (a b p : Pt) : cr (tr a) (tr b) (tr p) = -cr a b p := by unfold cr tr; grind
theorem onB_ng (p a b : Pt) : onB (ng p) (ng a) (ng b) = onB p a b := by
 rw [Bool.eq_iff_iff, onB_iff, onB_iff, cr_ng]
 unfold ng
 dsimp only
 omega
theorem onB_tr (p a b : Pt) : onB (tr p) (tr a) (tr b) = onB p a b := by
 rw [Bool.eq_iff_iff, onB_iff, onB_iff, cr_tr]
 unfold tr
 dsimp only
 omega
theorem cutB_ng (a b u v : Pt) : cutB (ng a) (ng b) (ng u) (ng v) = cutB a b u v := by
 rw [Bool.eq_iff_iff, cutB_iff, cutB_iff, cr_ng, cr_ng, cr_ng, cr_ng]
theorem cutB_tr (a b u v : Pt) : cutB (tr a) (tr b) (tr u) (tr v) = cutB a b u v := by
 rw [Bool.eq_iff_iff, cutB_iff, cutB_iff, cr_tr, cr_tr, cr_tr, cr_tr]
 omega
theorem meetB_ng (a b u v : Pt) : meetB (ng a) (ng b) (ng u) (ng v) = meetB a b u v := by
 unfold meetB
 rw [cutB_ng, onB_ng, onB_ng, onB_ng, onB_ng]
theorem meetB_tr (a b u v : Pt) : meetB (tr a) (tr b) (tr u) (tr v) = meetB a b u v := by
 unfold meetB
 rw [cutB_tr, onB_tr, onB_tr, onB_tr, onB_tr]
theorem sub_meet_any {u v c d z : Pt} (h1 : onB z u v = true) (hm : meetB u v c d = false) : meetB u z c d = false := by
 rcases Int.lt_trichotomy u.2 v.2 with h | h | h
 ·exact sub_meet h h1 hm
 ·rcases Int.lt_trichotomy u.1 v.1 with k | k | k
  ·rw [← onB_tr] at h1
   rw [← meetB_tr] at hm ⊢
   exact sub_meet (u := tr u) (v := tr v) k h1 hm
  ·have hz := (onB_iff.1 h1).2
   have : z = v := Prod.ext (by omega) (by omega)
   rw [this]
   exact hm
  ·rw [← onB_tr, ← onB_ng] at h1
   rw [← meetB_tr, ← meetB_ng] at hm ⊢
   exact sub_meet (u := ng (tr u)) (v := ng (tr v)) (show -u.1 < -v.1 by omega) h1 hm
 ·rw [← onB_ng] at h1
  rw [← meetB_ng] at hm ⊢
  exact sub_meet (u := ng u) (v := ng v) (show -u.2 < -v.2 by omega) h1 hm
theorem cor_mod2 (ps : List Pt) (i : Nat) : cor ps i = cor ps (i % ps.length) := by unfold cor; rw [Nat.mod_mod]
theorem touchAny_false {ps qs : List Pt} : touchAny ps qs = false ↔ ∀ i, i < ps.length → ∀ k, k < qs.length → meetB (cor ps i) (cor ps (i + 1)) (cor qs k) (cor qs (k + 1)) = false := by
 unfold touchAny touchE meetE
 rw [List.any_eq_false]
 constructor
 ·intro h i hi k hk
  have := h i (List.mem_range.2 hi)
  rw [Bool.not_eq_true, List.any_eq_false] at this
  simpa using this k (List.mem_range.2 hk)
 ·intro h i hi
  rw [Bool.not_eq_true, List.any_eq_false]
  intro k hk
  rw [h i (List.mem_range.1 hi) k (List.mem_range.1 hk)]
  simp
theorem touchAny_comm (ps qs : List Pt) : touchAny qs ps = touchAny ps qs := by
 have key : ∀ a b : List Pt, touchAny a b = false → touchAny b a = false := by
  intro a b h
  rw [touchAny_false] at h ⊢
  intro k hk i hi
  rw [meetB_comm]
  exact h i hi k hk
 cases h : touchAny ps qs
 ·exact key _ _ h
 ·cases h2 : touchAny qs ps
  ·rw [key _ _ h2] at h
   cases h
  ·rfl
theorem touch_comm (ps qs : List Pt) : ptouchOf qs ps = ptouchOf ps qs := by
 unfold ptouchOf ptouch
 rw [touchAny_comm, Bool.and_comm (PValid qs), Bool.or_comm (placeOf qs (cor ps 0) == 1)]
theorem touch_self {ps : List Pt} (h : 0 < ps.length) : ptouch ps ps = true := by
 unfold ptouch
 have : touchAny ps ps = true := by
  cases hx : touchAny ps ps
  ·rw [touchAny_false] at hx
   have := hx 0 h 0 h
   unfold meetB at this
   rw [onB_left] at this
   simp at this
  ·rfl
 rw [this]
 rfl
/-- If no edges meet, and a corner of the second one is not in the first one, none is. -/
theorem corners_out {ps qs : List Pt} (hq : 0 < qs.length) (hm : ∀ i, i < ps.length → ∀ k, k < qs.length → meetB (cor ps i) (cor ps (i + 1)) (cor qs k) (cor qs (k + 1)) = false) (h0 : placeOf ps (cor qs 0) ≠ 1) : ∀ k, par ps (cor qs k) (List.range ps.length) = false ∧ onAny ps (cor qs k) = false := by
 have hon : ∀ k, k < qs.length → onAny ps (cor qs k) = false := by
  intro k hk
  unfold onAny
  rw [List.any_eq_false]
  intro i hi
  have := (meet_parts (hm i (List.mem_range.1 hi) k hk)).2.2.2.1
  rw [this]
  simp
 have hpar : ∀ k, k < qs.length → par ps (cor qs k) (List.range ps.length) = false := by
  intro k
  induction k with
  | zero =>
   intro hk
   rcases place_cases ps (cor qs 0) with ⟨e, f⟩ | ⟨e, g, f⟩ | ⟨e, g, f⟩
   ·rw [hon 0 hk] at e; cases e
   ·exact absurd f h0
   ·exact g
  | succ k ih =>
   intro hk
   rw [← ih (by omega)]
   exact (par_const (ps := ps) (a := cor qs k) (b := cor qs (k + 1)) (fun i hi => by rw [meetB_comm]; exact hm i hi k (by omega))).symm
 intro k
 rw [cor_mod2]
 exact ⟨hpar _ (Nat.mod_lt _ hq), hon _ (Nat.mod_lt _ hq)⟩
theorem border_out {ps qs : List Pt} {q : Pt} (hm : ∀ i, i < ps.length → ∀ k, k < qs.length → meetB (cor ps i) (cor ps (i + 1)) (cor qs k) (cor qs (k + 1)) = false) (h1 : ∀ i, par qs (cor ps i) (List.range qs.length) = false) (h : onAny ps q = true) : placeOf qs q = -1 := by
 unfold onAny at h
 rw [List.any_eq_true] at h
 obtain ⟨i, hi, ho⟩ := h
 have hs : ∀ k, k < qs.length → meetB (cor ps i) q (cor qs k) (cor qs (k + 1)) = false := fun k hk => sub_meet_any ho (hm i (List.mem_range.1 hi) k hk)
 have hp := par_const (ps := qs) hs
 rw [h1 i] at hp
 rcases place_cases qs q with ⟨e, f⟩ | ⟨e, g, f⟩ | ⟨e, g, f⟩
 ·unfold onAny at e
  rw [List.any_eq_true] at e
  obtain ⟨k, hk, hok⟩ := e
  have := (meet_parts (hs k (List.mem_range.1 hk))).2.2.1
  rw [hok] at this
  cases this
 ·rw [g] at hp; cases hp
 ·exact f
/-- A common place: they touch. -/
theorem touch_common {ps qs : List Pt} {q : Pt} (hp : 0 < ps.length) (hq : 0 < qs.length) (h1 : 0 ≤ placeOf ps q) (h2 : 0 ≤ placeOf qs q) : ptouch ps qs = true := by
 cases h : ptouch ps qs
 ·exfalso
  unfold ptouch at h
  simp only [Bool.or_eq_false_iff, beq_eq_false_iff_ne] at h
  obtain ⟨ht, hc1, hc2⟩ := h
  have hm := touchAny_false.1 ht
  have hm2 := touchAny_false.1 ((touchAny_comm ps qs).trans ht)
  have o1 := corners_out hq hm hc1
  have o2 := corners_out hp hm2 hc2
  rcases place_cases ps q with ⟨e, f⟩ | ⟨e, g, f⟩ | ⟨e, g, f⟩
  ·have := border_out hm (fun i => (o2 i).1) e
   omega
  ·rcases place_cases qs q with ⟨e', f'⟩ | ⟨e', g', f'⟩ | ⟨e', g', f'⟩
   ·have := border_out hm2 (fun i => (o1 i).1) e'
    omega
   ·have := no_common (q := q) hm (fun i => (o2 i).1) (fun k => (o1 k).1)
    rw [g, g'] at this
    cases this
   ·omega
  ·omega
 ·rfl
end Go.Proofs.YtfeccolljfkejaaGreatDoor
