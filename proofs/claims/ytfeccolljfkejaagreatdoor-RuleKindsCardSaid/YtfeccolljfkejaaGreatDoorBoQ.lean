/- A polygon and the rectangle of its box: the laws. A polygon and the rectangle of its box: which places are in them. -/
import Derived.Test.YtfeccolljfkejaaGreatDoorToQ
import Derived.Test.YtfeccolljfkejaaGreatDoorPov
import Derived.Test.YtfeccolljfkejaaGreatDoorPol
set_option linter.unusedSimpArgs false
set_option linter.unusedVariables false
namespace Go.Proofs.YtfeccolljfkejaaGreatDoor
/-- What is chosen: one of the corners, and none is better. -/
theorem selTo_is (p : Pt → Pt → Bool) (ps : List Pt) : ∀ k, ∃ j, j ≤ k ∧ selTo p ps k = cor ps j
 | 0 => ⟨0, by omega, rfl⟩
 | k + 1 => by
  obtain ⟨j, hj, e⟩ := selTo_is p ps k
  unfold selTo
  split
  ·exact ⟨k + 1, by omega, rfl⟩
  ·exact ⟨j, by omega, e⟩
theorem selTo_best {p : Pt → Pt → Bool} {f : Pt → Int} (hp : ∀ x m, p x m = true → f x ≤ f m) (hn : ∀ x m, p x m = false → f m ≤ f x) (ps : List Pt) : ∀ k j, j ≤ k → f (selTo p ps k) ≤ f (cor ps j)
 | 0, j, h => by
  obtain rfl : j = 0 := by omega
  exact Int.le_refl _
 | k + 1, j, h => by
  unfold selTo
  by_cases hj : j = k + 1
  ·subst hj
   split
   ·exact Int.le_refl _
   ·rename_i h1
    exact hn _ _ (by simpa using h1)
  ·have ih := selTo_best hp hn ps k j (by omega)
   split
   ·rename_i h1
    have := hp _ _ h1
    omega
   ·exact ih
theorem minS_1 : (∀ x m, minS x m = true → x.1 ≤ m.1) ∧ (∀ x m, minS x m = false → m.1 ≤ x.1) := by
 constructor
 ·intro x m h
  unfold minS ord at h
  rw [decide_eq_true_eq] at h
  rcases sg_cases (x.1 - m.1) with ⟨a, e⟩ | ⟨a, e⟩ | ⟨a, e⟩ <;> simp [e] at h <;> omega
 ·intro x m h
  unfold minS ord at h
  rw [decide_eq_false_iff_not] at h
  rcases sg_cases (x.1 - m.1) with ⟨a, e⟩ | ⟨a, e⟩ | ⟨a, e⟩ <;> simp [e] at h <;> omega
theorem maxS_1 : (∀ x m, maxS x m = true → -x.1 ≤ -m.1) ∧ (∀ x m, maxS x m = false → -m.1 ≤ -x.1) := by
 constructor
 ·intro x m h
  unfold maxS ord at h
  rw [decide_eq_true_eq] at h
  rcases sg_cases (x.1 - m.1) with ⟨a, e⟩ | ⟨a, e⟩ | ⟨a, e⟩ <;> simp [e] at h <;> omega
 ·intro x m h
  unfold maxS ord at h
  rw [decide_eq_false_iff_not] at h
  rcases sg_cases (x.1 - m.1) with ⟨a, e⟩ | ⟨a, e⟩ | ⟨a, e⟩ <;> simp [e] at h <;> omega
theorem minY_2 : (∀ x m, minY x m = true → x.2 ≤ m.2) ∧ (∀ x m, minY x m = false → m.2 ≤ x.2) := by
 constructor
 ·intro x m h
  unfold minY ordY at h
  rw [decide_eq_true_eq, sg_neg] at h
  omega
 ·intro x m h
  unfold minY ordY at h
  rw [decide_eq_false_iff_not, sg_neg] at h
  omega
theorem maxY_2 : (∀ x m, maxY x m = true → -x.2 ≤ -m.2) ∧ (∀ x m, maxY x m = false → -m.2 ≤ -x.2) := by
 constructor
 ·intro x m h
  unfold maxY ordY at h
  rw [decide_eq_true_eq, sg_pos] at h
  omega
 ·intro x m h
  unfold maxY ordY at h
  rw [decide_eq_false_iff_not, sg_pos] at h
  omega
/-- A place in a box. -/
def inB (b : B4) (q : Pt) : Prop := (b.1.1 ≤ q.1 ∧ q.1 ≤ b.1.2) ∧ (b.2.1 ≤ q.2 ∧ q.2 ≤ b.2.2)
/-- The box of the corners. -/
theorem box_has {ps : List Pt} (h : 0 < ps.length) (i : Nat) : inB (boxC ps) (cor ps i) := by
 have hm : i % ps.length ≤ ps.length - 1 := by have := Nat.mod_lt i h; omega
 have e : cor ps i = cor ps (i % ps.length) := by unfold cor; rw [Nat.mod_mod]
 rw [e]
 have a := selTo_best (f := fun p => p.1) minS_1.1 minS_1.2 ps _ _ hm
 have b := selTo_best (f := fun p => -p.1) maxS_1.1 maxS_1.2 ps _ _ hm
 have c := selTo_best (f := fun p => p.2) minY_2.1 minY_2.2 ps _ _ hm
 have d := selTo_best (f := fun p => -p.2) maxY_2.1 maxY_2.2 ps _ _ hm
 unfold inB boxC
 dsimp only at *
 omega
theorem box_at {ps : List Pt} (h : 0 < ps.length) : (∃ j, j < ps.length ∧ (boxC ps).1.1 = (cor ps j).1) ∧ (∃ j, j < ps.length ∧ (boxC ps).1.2 = (cor ps j).1) ∧ (∃ j, j < ps.length ∧ (boxC ps).2.1 = (cor ps j).2) ∧ (∃ j, j < ps.length ∧ (boxC ps).2.2 = (cor ps j).2) := by
 have g := fun p => selTo_is p ps (ps.length - 1)
 obtain ⟨j1, h1, e1⟩ := g minS
 obtain ⟨j2, h2, e2⟩ := g maxS
 obtain ⟨j3, h3, e3⟩ := g minY
 obtain ⟨j4, h4, e4⟩ := g maxY
 unfold boxC
 dsimp only
 exact ⟨⟨j1, by omega, by rw [e1]⟩, ⟨j2, by omega, by rw [e2]⟩, ⟨j3, by omega, by rw [e3]⟩, ⟨j4, by omega, by rw [e4]⟩⟩
theorem box_uniq {ps : List Pt} {b : B4} (h : 0 < ps.length) (hb : ∀ i, i < ps.length → inB b (cor ps i)) (h1 : ∃ j, j < ps.length ∧ b.1.1 = (cor ps j).1) (h2 : ∃ j, j < ps.length ∧ b.1.2 = (cor ps j).1) (h3 : ∃ j, j < ps.length ∧ b.2.1 = (cor ps j).2) (h4 : ∃ j, j < ps.length ∧ b.2.2 = (cor ps j).2) : boxC ps = b := by
 obtain ⟨⟨i1, l1, e1⟩, ⟨i2, l2, e2⟩, ⟨i3, l3, e3⟩, ⟨i4, l4, e4⟩⟩ := box_at h
 obtain ⟨j1, k1, f1⟩ := h1
 obtain ⟨j2, k2, f2⟩ := h2
 obtain ⟨j3, k3, f3⟩ := h3
 obtain ⟨j4, k4, f4⟩ := h4
 have a1 := box_has h j1
 have a2 := box_has h j2
 have a3 := box_has h j3
 have a4 := box_has h j4
 have b1 := hb i1 l1
 have b2 := hb i2 l2
 have b3 := hb i3 l3
 have b4 := hb i4 l4
 unfold inB at *
 apply Prod.ext <;> apply Prod.ext <;> omega
/-- The box of a polygon is not flat. -/
theorem box_wide {ps : List Pt} (h : PValid ps = true) : (boxC ps).1.1 < (boxC ps).1.2 ∧ (boxC ps).2.1 < (boxC ps).2.2 := by
 have hp := pv_parts h
 have hv := pv_vert h (i := 0) (by omega)
 unfold vertOk tn at hv
 simp only [Nat.lt_irrefl, decide_false, Bool.false_and, Bool.false_or, Bool.not_eq_true', beq_eq_false_iff_ne, ne_eq, sg_zero] at hv
 have a := box_has (ps := ps) (by omega) (0 + ps.length - 1)
 have b := box_has (ps := ps) (by omega) 0
 have c := box_has (ps := ps) (by omega) (0 + 1)
 unfold inB at a b c
 constructor
 ·rcases Int.lt_or_le (boxC ps).1.1 (boxC ps).1.2 with h1 | h1
  ·exact h1
  ·refine absurd ?_ hv
   have x1 : (cor ps 0).1 = (cor ps (0 + ps.length - 1)).1 := by omega
   have x2 : (cor ps (0 + 1)).1 = (cor ps (0 + ps.length - 1)).1 := by omega
   unfold cr
   rw [x1, x2]
   grind
 ·rcases Int.lt_or_le (boxC ps).2.1 (boxC ps).2.2 with h1 | h1
  ·exact h1
  ·refine absurd ?_ hv
   have x1 : (cor ps 0).2 = (cor ps (0 + ps.length - 1)).2 := by omega
   have x2 : (cor ps (0 + 1)).2 = (cor ps (0 + ps.length - 1)).2 := by omega
   unfold cr
   rw [x1, x2]
   grind
theorem box_okB {ps : List Pt} (h : PValid ps = true) : okB (boxC ps) = true := by
 have hp := pv_parts h
 have hw := box_wide h
 obtain ⟨⟨i1, l1, e1⟩, ⟨i2, l2, e2⟩, ⟨i3, l3, e3⟩, ⟨i4, l4, e4⟩⟩ := box_at (ps := ps) (by omega)
 have o1 := ok_bd (cor_ok hp.2 i1)
 have o2 := ok_bd (cor_ok hp.2 i2)
 have o3 := ok_bd (cor_ok hp.2 i3)
 have o4 := ok_bd (cor_ok hp.2 i4)
 unfold okB
 rw [decide_eq_true_eq]
 omega
theorem rectOf_box {ps : List Pt} (h : PValid ps = true) : rectOf (boxC ps) = (rectC (boxC ps), 0) := by
 have hw := box_wide h
 unfold rectOf
 rw [if_pos (box_okB h), if_neg (by omega)]
theorem ord_neg {a b : Pt} (h : a.1 < b.1 ∨ (a.1 = b.1 ∧ a.2 < b.2)) : ¬ 0 ≤ ord a b := by
 unfold ord
 rcases sg_cases (a.1 - b.1) with ⟨h1, e⟩ | ⟨h1, e⟩ | ⟨h1, e⟩ <;> rcases sg_cases (a.2 - b.2) with ⟨k, f⟩ | ⟨k, f⟩ | ⟨k, f⟩ <;> simp [e, f] <;> omega
section
variable {b : B4} (hx : b.1.1 < b.1.2) (hy : b.2.1 < b.2.2)
theorem rc0 (b : B4) : cor (rectC b) 0 = (b.1.1, b.2.1) := rfl
theorem rc1 (b : B4) : cor (rectC b) 1 = (b.1.2, b.2.1) := rfl
theorem rc2 (b : B4) : cor (rectC b) 2 = (b.1.2, b.2.2) := rfl
theorem rc3 (b : B4) : cor (rectC b) 3 = (b.1.1, b.2.2) := rfl
theorem rc4 (b : B4) : cor (rectC b) 4 = (b.1.1, b.2.1) := by simp [cor, rectC]
theorem rc5 (b : B4) : cor (rectC b) 5 = (b.1.2, b.2.1) := by simp [cor, rectC]
theorem rc6 (b : B4) : cor (rectC b) 6 = (b.1.2, b.2.2) := by simp [cor, rectC]
theorem rect_cases {P : Nat → Prop} (h0 : P 0) (h1 : P 1) (h2 : P 2) (h3 : P 3) : ∀ i, i < (rectC b).length → P i := by
 intro i hi
 have : i < 4 := hi
 match i, this with
 | 0, _ => exact h0
 | 1, _ => exact h1
 | 2, _ => exact h2
 | 3, _ => exact h3
include hx hy in
theorem rect_turn : ∀ i, i < (rectC b).length → 0 < cr (cor (rectC b) (i + (rectC b).length - 1)) (cor (rectC b) i) (cor (rectC b) (i + 1)) := by
 have hp := Int.mul_pos (show 0 < b.1.2 - b.1.1 by omega) (show 0 < b.2.2 - b.2.1 by omega)
 rw [show (rectC b).length = 4 from rfl]
 intro i hi
 have h4 : i < 4 := hi
 match i, h4 with
 | 0, _ =>
  show 0 < cr (cor (rectC b) 3) (cor (rectC b) 0) (cor (rectC b) 1)
  rw [rc3, rc0, rc1]
  unfold cr; dsimp only; grind
 | 1, _ =>
  show 0 < cr (cor (rectC b) 4) (cor (rectC b) 1) (cor (rectC b) 2)
  rw [rc4, rc1, rc2]
  unfold cr; dsimp only; grind
 | 2, _ =>
  show 0 < cr (cor (rectC b) 5) (cor (rectC b) 2) (cor (rectC b) 3)
  rw [rc5, rc2, rc3]
  unfold cr; dsimp only; grind
 | 3, _ =>
  show 0 < cr (cor (rectC b) 6) (cor (rectC b) 3) (cor (rectC b) 4)
  rw [rc6, rc3, rc4]
  unfold cr; dsimp only; grind
theorem cr_e0 (b : B4) (q : Pt) : cr (b.1.1, b.2.1) (b.1.2, b.2.1) q = (b.1.2 - b.1.1) * (q.2 - b.2.1) := by unfold cr; dsimp only; grind
theorem cr_e1 (b : B4) (q : Pt) : cr (b.1.2, b.2.1) (b.1.2, b.2.2) q = (b.2.2 - b.2.1) * (b.1.2 - q.1) := by unfold cr; dsimp only; grind
theorem cr_e2 (b : B4) (q : Pt) : cr (b.1.2, b.2.2) (b.1.1, b.2.2) q = (b.1.2 - b.1.1) * (b.2.2 - q.2) := by unfold cr; dsimp only; grind
theorem cr_e3 (b : B4) (q : Pt) : cr (b.1.1, b.2.2) (b.1.1, b.2.1) q = (b.2.2 - b.2.1) * (q.1 - b.1.1) := by unfold cr; dsimp only; grind
include hx hy in
theorem rect_left {q : Pt} (hq : inB b q) : ∀ i, i < (rectC b).length → 0 ≤ cr (cor (rectC b) i) (cor (rectC b) (i + 1)) q := by
 unfold inB at hq
 refine rect_cases ?_ ?_ ?_ ?_
 ·rw [rc0, rc1, cr_e0]
  exact Int.mul_nonneg (by omega) (by omega)
 ·rw [rc1, rc2, cr_e1]
  exact Int.mul_nonneg (by omega) (by omega)
 ·rw [rc2, rc3, cr_e2]
  exact Int.mul_nonneg (by omega) (by omega)
 ·rw [rc3, rc4, cr_e3]
  exact Int.mul_nonneg (by omega) (by omega)
theorem cr_cyc (a b c : Pt) : cr b c a = cr a b c := by unfold cr; grind
include hx hy in
theorem rect_valid (hok : okB b = true) : PValid (rectC b) = true := by
 have ho := hok
 unfold okB at ho
 rw [decide_eq_true_eq] at ho
 have hall : (rectC b).all Pt.ok = true := by
  unfold rectC
  simp only [List.all_cons, List.all_nil, Bool.and_true, Bool.and_eq_true, Pt.ok, plOk, decide_eq_true_eq]
  omega
 have hp := Int.mul_pos (show 0 < b.1.2 - b.1.1 by omega) (show 0 < b.2.2 - b.2.1 by omega)
 have hvert : ∀ i, i < (rectC b).length → vertOk (rectC b) i = true := by
  intro i hi
  have ht := rect_turn hx hy i hi
  unfold vertOk tn
  have hz : (sg (cr (cor (rectC b) (i + (rectC b).length - 1)) (cor (rectC b) i) (cor (rectC b) (i + 1))) == 0) = false := by
   rw [beq_eq_false_iff_ne, ne_eq, sg_zero]
   omega
  rw [hz, Bool.or_false]
  clear hz ht
  have h4 : i < 4 := hi
  match i, h4 with
  | 0, _ => rfl
  | 1, _ => rw [rc0, rc1, decide_eq_false (ord_neg (.inl hx)), Bool.and_false]; rfl
  | 2, _ => rw [rc0, rc2, decide_eq_false (ord_neg (.inl hx)), Bool.and_false]; rfl
  | 3, _ => rw [rc0, rc3, decide_eq_false (ord_neg (a := (b.1.1, b.2.1)) (b := (b.1.1, b.2.2)) (.inr ⟨rfl, hy⟩)), Bool.and_false]; rfl
 have hsimple : simpleOf (rectC b) = true := by
  have m1 : meetB (b.1.1, b.2.1) (b.1.2, b.2.1) (b.1.2, b.2.2) (b.1.1, b.2.2) = false := by
   have q1 := cr_e0 b (b.1.2, b.2.2)
   have q2 := cr_e0 b (b.1.1, b.2.2)
   dsimp only at q1 q2
   have no : ∀ p1 p2 a1 y c1 : Int, p2 ≠ y → onB (p1, p2) (a1, y) (c1, y) = false := fun p1 p2 a1 y c1 h => by
    cases ho : onB (p1, p2) (a1, y) (c1, y)
    ·rfl
    ·have := (onB_iff.1 ho).2
     dsimp only at this
     omega
   unfold meetB
   rw [no _ _ _ _ _ (by omega), no _ _ _ _ _ (by omega), no _ _ _ _ _ (by omega), no _ _ _ _ _ (by omega)]
   cases hc : cutB (b.1.1, b.2.1) (b.1.2, b.2.1) (b.1.2, b.2.2) (b.1.1, b.2.2)
   ·rfl
   ·have := (cutB_iff.1 hc).1
    rw [q1, q2] at this
    omega
  have m2 : meetB (b.1.2, b.2.1) (b.1.2, b.2.2) (b.1.1, b.2.2) (b.1.1, b.2.1) = false := by
   have q1 := cr_e1 b (b.1.1, b.2.2)
   have q2 := cr_e1 b (b.1.1, b.2.1)
   dsimp only at q1 q2
   have no : ∀ p1 p2 a1 y c1 : Int, p1 ≠ y → onB (p1, p2) (y, a1) (y, c1) = false := fun p1 p2 a1 y c1 h => by
    cases ho : onB (p1, p2) (y, a1) (y, c1)
    ·rfl
    ·have := (onB_iff.1 ho).2
     dsimp only at this
     omega
   unfold meetB
   rw [no _ _ _ _ _ (by omega), no _ _ _ _ _ (by omega), no _ _ _ _ _ (by omega), no _ _ _ _ _ (by omega)]
   cases hc : cutB (b.1.2, b.2.1) (b.1.2, b.2.2) (b.1.1, b.2.2) (b.1.1, b.2.1)
   ·rfl
   ·have := (cutB_iff.1 hc).1
    rw [q1, q2] at this
    omega
  unfold simpleOf
  rw [List.all_eq_true]
  intro i hi
  rw [List.mem_range] at hi
  unfold rowOk
  rw [List.all_eq_true]
  intro k hk
  rw [List.mem_range] at hk
  have i4 : i < 4 := hi
  have k4 : k < 4 := hk
  unfold pairOk
  by_cases h1 : k ≤ i + 1
  ·rw [decide_eq_true h1]; rfl
  ·by_cases h2 : i = 0 ∧ k = 2
   ·obtain ⟨rfl, rfl⟩ := h2
    show (_ || (_ || !meetB (cor (rectC b) 0) (cor (rectC b) 1) (cor (rectC b) 2) (cor (rectC b) 3))) = true
    rw [rc0, rc1, rc2, rc3, m1]
    simp
   ·by_cases h3 : i = 1 ∧ k = 3
    ·obtain ⟨rfl, rfl⟩ := h3
     show (_ || (_ || !meetB (cor (rectC b) 1) (cor (rectC b) 2) (cor (rectC b) 3) (cor (rectC b) 4))) = true
     rw [rc1, rc2, rc3, rc4, m2]
     simp
    ·have : i = 0 ∧ k + 1 = (rectC b).length := by
      show i = 0 ∧ k + 1 = 4
      omega
     rw [decide_eq_true this]
     simp
 have htw : 0 < twiceOf (rectC b) := by
  have : twiceOf (rectC b) = 2 * ((b.1.2 - b.1.1) * (b.2.2 - b.2.1)) := by
   show sumI (rectC b) [0, 1, 2, 3] = _
   unfold sumI crs2
   simp only [List.map_cons, List.map_nil, List.sum_cons, List.sum_nil, Nat.zero_add, Nat.reduceAdd, rc0, rc1, rc2, rc3, rc4]
   grind
  omega
 unfold PValid
 rw [hall, hsimple, decide_eq_true htw]
 have : (List.range (rectC b).length).all (vertOk (rectC b)) = true := by
  rw [List.all_eq_true]
  exact fun i hi => hvert i (List.mem_range.1 hi)
 rw [this]
 rfl
end
end Go.Proofs.YtfeccolljfkejaaGreatDoor
namespace Go.Proofs.YtfeccolljfkejaaGreatDoor
theorem sg_nonneg {x : Int} : 0 ≤ sg x ↔ 0 ≤ x := by rcases sg_cases x with ⟨h, e⟩ | ⟨h, e⟩ | ⟨h, e⟩ <;> rw [e] <;> omega
section
variable {ps : List Pt} (hn : 0 < ps.length) (ht : ∀ i, i < ps.length → 0 < cr (cor ps (i + ps.length - 1)) (cor ps i) (cor ps (i + 1)))
include ht in
/-- In a polygon that bends inward nowhere a corner opens to all places on the left of the edges. -/
theorem opens_left {i : Nat} (hi : i < ps.length) {to : Pt} (hl : ∀ i, i < ps.length → 0 ≤ cr (cor ps i) (cor ps (i + 1)) to) : opensOf ps i to = true := by
 unfold opensOf
 have h0 : 0 < tn (cor ps (i + ps.length - 1)) (cor ps i) (cor ps (i + 1)) := sg_pos.2 (ht i hi)
 rw [if_pos h0]
 have h1 : 0 ≤ tn (cor ps i) (cor ps (i + 1)) to := sg_nonneg.2 (hl i hi)
 have h2 : 0 ≤ tn (cor ps i) to (cor ps (i + ps.length - 1)) := by
  refine sg_nonneg.2 ?_
  rw [cr_cyc]
  have hj : (i + ps.length - 1) % ps.length < ps.length := Nat.mod_lt _ (by omega)
  have := hl _ hj
  have e1 : cor ps ((i + ps.length - 1) % ps.length) = cor ps (i + ps.length - 1) := by unfold cor; rw [Nat.mod_mod]
  have e2 : cor ps ((i + ps.length - 1) % ps.length + 1) = cor ps i := by
   unfold cor
   rw [Nat.mod_add_mod, show i + ps.length - 1 + 1 = i + ps.length by omega, Nat.add_mod_right]
  rw [e1, e2] at this
  exact this
 rw [decide_eq_true h1, decide_eq_true h2]
 rfl
include ht in
theorem leads_left {a to : Pt} (hl : ∀ i, i < ps.length → 0 ≤ cr (cor ps i) (cor ps (i + 1)) to) : leadsOf ps a to = true := by
 unfold leadsOf
 split
 ·rename_i i h
  exact opens_left ht (List.mem_range.1 (List.mem_of_find?_eq_some h)) hl
 ·split
  ·rename_i i h
   unfold edgeLeads
   rw [decide_eq_true_eq]
   exact sg_nonneg.2 (hl i (List.mem_range.1 (List.mem_of_find?_eq_some h)))
  ·rfl
include ht in
/-- It has all of a segment whose ends it has. -/
theorem has_left {a b : Pt} (ha : ∀ i, i < ps.length → 0 ≤ cr (cor ps i) (cor ps (i + 1)) a) (hb : ∀ i, i < ps.length → 0 ≤ cr (cor ps i) (cor ps (i + 1)) b) (pa : 0 ≤ placeOf ps a) (pb : 0 ≤ placeOf ps b) : hasOf ps a b = true := by
 unfold hasOf hasFst
 rw [decide_eq_true pa, decide_eq_true pb, leads_left ht hb, leads_left ht ha]
 simp only [Bool.true_and]
 rw [List.all_eq_true]
 intro i hi
 rw [List.mem_range] at hi
 unfold edgeHas
 rw [opens_left ht hi ha, opens_left ht hi hb]
 have hc : cutB a b (cor ps i) (cor ps (i + 1)) = false := by
  cases h : cutB a b (cor ps i) (cor ps (i + 1))
  ·rfl
  ·have h2 := (cutB_iff.1 h).2
   have h3 := ha i hi
   have h4 := hb i hi
   omega
 rw [hc]
 simp
end
section
variable {b : B4} (hx : b.1.1 < b.1.2) (hy : b.2.1 < b.2.2)
include hx hy in
/-- The places of the rectangle of a box are those of the box. -/
theorem rect_place (q : Pt) : 0 ≤ placeOf (rectC b) q ↔ inB b q := by
 have c1 : crossB q (b.1.1, b.2.1) (b.1.2, b.2.1) = false := by
  rw [crossB_up (show ((b.1.1, b.2.1) : Pt).2 ≤ ((b.1.2, b.2.1) : Pt).2 from Int.le_refl _), Bool.and_eq_false_iff]
  exact .inl (decide_eq_false (by dsimp only; omega))
 have c2 : crossB q (b.1.2, b.2.1) (b.1.2, b.2.2) = (decide (b.2.1 ≤ q.2 ∧ q.2 < b.2.2) && decide (q.1 < b.1.2)) := by
  rw [crossB_up (Int.le_of_lt hy), cr_e1, Bool.eq_iff_iff]
  simp only [Bool.and_eq_true, decide_eq_true_eq]
  constructor
  ·rintro ⟨h1, h2⟩
   refine ⟨h1, ?_⟩
   rw [Int.mul_comm] at h2
   have := pos_of h2 (show 0 < b.2.2 - b.2.1 by omega)
   omega
  ·rintro ⟨h1, h2⟩
   exact ⟨h1, Int.mul_pos (by omega) (by omega)⟩
 have c3 : crossB q (b.1.2, b.2.2) (b.1.1, b.2.2) = false := by
  rw [crossB_up (show ((b.1.2, b.2.2) : Pt).2 ≤ ((b.1.1, b.2.2) : Pt).2 from Int.le_refl _), Bool.and_eq_false_iff]
  exact .inl (decide_eq_false (by dsimp only; omega))
 have c4 : crossB q (b.1.1, b.2.2) (b.1.1, b.2.1) = (decide (b.2.1 ≤ q.2 ∧ q.2 < b.2.2) && decide (q.1 < b.1.1)) := by
  rw [crossB_swap, crossB_up (Int.le_of_lt hy), cr_swap, cr_e3, Bool.eq_iff_iff]
  simp only [Bool.and_eq_true, decide_eq_true_eq]
  constructor
  ·rintro ⟨h1, h2⟩
   refine ⟨h1, ?_⟩
   have := neg_of (x := q.1 - b.1.1) (y := b.2.2 - b.2.1) (by rw [Int.mul_comm]; omega) (by omega)
   omega
  ·rintro ⟨h1, h2⟩
   refine ⟨h1, ?_⟩
   have := Int.mul_pos (show 0 < b.2.2 - b.2.1 by omega) (show 0 < -(q.1 - b.1.1) by omega)
   rw [Int.mul_neg] at this
   omega
 have hpar : par (rectC b) q (List.range (rectC b).length) = (decide (b.2.1 ≤ q.2 ∧ q.2 < b.2.2) && decide (b.1.1 ≤ q.1 ∧ q.1 < b.1.2)) := by
  show ((((false ^^ crossB q (cor (rectC b) 0) (cor (rectC b) 1)) ^^ crossB q (cor (rectC b) 1) (cor (rectC b) 2)) ^^ crossB q (cor (rectC b) 2) (cor (rectC b) 3)) ^^ crossB q (cor (rectC b) 3) (cor (rectC b) 4)) = _
  rw [rc0, rc1, rc2, rc3, rc4, c1, c2, c3, c4]
  by_cases h1 : q.1 < b.1.1
  ·rw [decide_eq_true h1, decide_eq_true (show q.1 < b.1.2 by omega), decide_eq_false (show ¬ (b.1.1 ≤ q.1 ∧ q.1 < b.1.2) by omega)]
   cases decide (b.2.1 ≤ q.2 ∧ q.2 < b.2.2) <;> rfl
  ·by_cases h2 : q.1 < b.1.2
   ·rw [decide_eq_false h1, decide_eq_true h2, decide_eq_true (show (b.1.1 ≤ q.1 ∧ q.1 < b.1.2) by omega)]
    cases decide (b.2.1 ≤ q.2 ∧ q.2 < b.2.2) <;> rfl
   ·rw [decide_eq_false h1, decide_eq_false h2, decide_eq_false (show ¬ (b.1.1 ≤ q.1 ∧ q.1 < b.1.2) by omega)]
    cases decide (b.2.1 ≤ q.2 ∧ q.2 < b.2.2) <;> rfl
 have hon : onAny (rectC b) q = true → inB b q := by
  intro h
  unfold onAny at h
  rw [List.any_eq_true] at h
  obtain ⟨i, hi, ho⟩ := h
  have h4 : i < 4 := List.mem_range.1 hi
  have ho2 := (onB_iff.1 ho).2
  unfold inB
  match i, h4 with
  | 0, _ => rw [rc0, rc1] at ho2; dsimp only at ho2; omega
  | 1, _ => rw [rc1, rc2] at ho2; dsimp only at ho2; omega
  | 2, _ => rw [rc2, rc3] at ho2; dsimp only at ho2; omega
  | 3, _ => rw [rc3, rc4] at ho2; dsimp only at ho2; omega
 constructor
 ·intro h
  rcases place_cases (rectC b) q with ⟨e, f⟩ | ⟨e, g, f⟩ | ⟨e, g, f⟩
  ·exact hon e
  ·rw [hpar] at g
   simp only [Bool.and_eq_true, decide_eq_true_eq] at g
   unfold inB
   omega
  ·omega
 ·intro h
  rcases place_cases (rectC b) q with ⟨e, f⟩ | ⟨e, g, f⟩ | ⟨e, g, f⟩
  ·omega
  ·omega
  ·exfalso
   unfold onAny at e
   rw [List.any_eq_false] at e
   unfold inB at h
   by_cases h1 : q.1 = b.1.2
   ·refine e 1 (List.mem_range.2 (show 1 < 4 by omega)) ?_
    rw [rc1, rc2, onB_iff, cr_e1]
    refine ⟨by rw [h1, Int.sub_self, Int.mul_zero], ?_⟩
    dsimp only
    omega
   ·by_cases h2 : q.2 = b.2.2
    ·refine e 2 (List.mem_range.2 (show 2 < 4 by omega)) ?_
     rw [rc2, rc3, onB_iff, cr_e2]
     refine ⟨by rw [h2, Int.sub_self, Int.mul_zero], ?_⟩
     dsimp only
     omega
    ·rw [hpar, decide_eq_true (show b.2.1 ≤ q.2 ∧ q.2 < b.2.2 by omega), decide_eq_true (show b.1.1 ≤ q.1 ∧ q.1 < b.1.2 by omega)] at g
     cases g
end
/-- The parity of the edges that cross a height is even. -/
theorem par_left {ps : List Pt} {q : Pt} (h : ∀ i, q.1 < (cor ps i).1) : par ps q (List.range ps.length) = false := by
 have one : ∀ u v : Pt, q.1 < u.1 → q.1 < v.1 → crossB q u v = (decide (u.2 ≤ q.2) ^^ decide (v.2 ≤ q.2)) := by
  have up : ∀ u v : Pt, q.1 < u.1 → q.1 < v.1 → u.2 ≤ v.2 → crossB q u v = (decide (u.2 ≤ q.2) ^^ decide (v.2 ≤ q.2)) := by
   intro u v h1 h2 huv
   rw [crossB_up huv]
   by_cases a : u.2 ≤ q.2
   ·by_cases b : q.2 < v.2
    ·have hc : 0 < cr u v q := by
      have e : cr u v q = (v.1 - u.1) * (q.2 - u.2) + (v.2 - u.2) * (u.1 - q.1) := by unfold cr; grind
      rcases Int.le_total u.1 v.1 with h3 | h3
      ·have x1 := Int.mul_nonneg (show 0 ≤ v.1 - u.1 by omega) (show 0 ≤ q.2 - u.2 by omega)
       have x2 := Int.mul_pos (show 0 < v.2 - u.2 by omega) (show 0 < u.1 - q.1 by omega)
       omega
      ·have e2 : cr u v q = (u.1 - v.1) * (v.2 - q.2) + (v.2 - u.2) * (v.1 - q.1) := by unfold cr; grind
       have x1 := Int.mul_nonneg (show 0 ≤ u.1 - v.1 by omega) (show 0 ≤ v.2 - q.2 by omega)
       have x2 := Int.mul_pos (show 0 < v.2 - u.2 by omega) (show 0 < v.1 - q.1 by omega)
       omega
     rw [decide_eq_true (show u.2 ≤ q.2 ∧ q.2 < v.2 from ⟨a, b⟩), decide_eq_true hc, decide_eq_true a, decide_eq_false (show ¬ v.2 ≤ q.2 by omega)]
     rfl
    ·rw [decide_eq_false (show ¬ (u.2 ≤ q.2 ∧ q.2 < v.2) by omega), decide_eq_true a, decide_eq_true (show v.2 ≤ q.2 by omega)]
     rfl
   ·rw [decide_eq_false (show ¬ (u.2 ≤ q.2 ∧ q.2 < v.2) by omega), decide_eq_false a, decide_eq_false (show ¬ v.2 ≤ q.2 by omega)]
    rfl
  intro u v h1 h2
  rcases Int.le_total u.2 v.2 with h3 | h3
  ·exact up u v h1 h2 h3
  ·rw [← crossB_swap, Bool.xor_comm]
   exact up v u h2 h1 h3
 have tel : ∀ n, par ps q (List.range n) = (decide ((cor ps 0).2 ≤ q.2) ^^ decide ((cor ps n).2 ≤ q.2)) := by
  intro n
  induction n with
  | zero => simp [par]
  | succ n ih =>
   rw [List.range_succ, par_snoc, ih, one _ _ (h n) (h (n + 1))]
   cases decide ((cor ps 0).2 ≤ q.2) <;> cases decide ((cor ps n).2 ≤ q.2) <;> cases decide ((cor ps (n + 1)).2 ≤ q.2) <;> rfl
 rw [tel, cor_len, Bool.xor_self]
theorem par_none {ps : List Pt} {q : Pt} (h : ∀ i, crossB q (cor ps i) (cor ps (i + 1)) = false) : ∀ n, par ps q (List.range n) = false
 | 0 => rfl
 | n + 1 => by rw [List.range_succ, par_snoc, par_none h n, h n]; rfl
/-- A place of a polygon is in its box. -/
theorem place_box {ps : List Pt} (hn : 0 < ps.length) {q : Pt} (h : 0 ≤ placeOf ps q) : inB (boxC ps) q := by
 have hb := box_has hn
 rcases place_cases ps q with ⟨e, f⟩ | ⟨e, g, f⟩ | ⟨e, g, f⟩
 ·unfold onAny at e
  rw [List.any_eq_true] at e
  obtain ⟨i, _, ho⟩ := e
  have := (onB_iff.1 ho).2
  have b1 := hb i
  have b2 := hb (i + 1)
  unfold inB at *
  omega
 ·obtain ⟨⟨⟨X1, X2⟩, ⟨Y1, Y2⟩⟩, hbx⟩ : ∃ x, boxC ps = x := ⟨_, rfl⟩
  rw [hbx] at hb ⊢
  unfold inB at hb ⊢
  dsimp only at hb ⊢
  have up : ∀ i, crossB q (cor ps i) (cor ps (i + 1)) = true → Y1 ≤ q.2 ∧ q.2 ≤ Y2 ∧ q.1 ≤ X2 := by
   have go : ∀ u v : Pt, (X1 ≤ u.1 ∧ u.1 ≤ X2) ∧ Y1 ≤ u.2 ∧ u.2 ≤ Y2 → (X1 ≤ v.1 ∧ v.1 ≤ X2) ∧ Y1 ≤ v.2 ∧ v.2 ≤ Y2 → u.2 ≤ v.2 → crossB q u v = true → Y1 ≤ q.2 ∧ q.2 ≤ Y2 ∧ q.1 ≤ X2 := by
    intro u v hu hv huv hc
    rw [crossB_up huv] at hc
    simp only [Bool.and_eq_true, decide_eq_true_eq] at hc
    refine ⟨by omega, by omega, ?_⟩
    rcases Int.lt_or_le X2 q.1 with h1 | h1
    ·exfalso
     have e1 : cr u v q = (v.1 - u.1) * (q.2 - u.2) - (v.2 - u.2) * (q.1 - u.1) := rfl
     rcases Int.le_total u.1 v.1 with h3 | h3
     ·have e2 : cr u v q = -((v.1 - u.1) * (v.2 - q.2)) - (v.2 - u.2) * (q.1 - v.1) := by unfold cr; grind
      have x1 := Int.mul_nonneg (show 0 ≤ v.1 - u.1 by omega) (show 0 ≤ v.2 - q.2 by omega)
      have x2 := Int.mul_nonneg (show 0 ≤ v.2 - u.2 by omega) (show 0 ≤ q.1 - v.1 by omega)
      omega
     ·have x1 := np_of (show v.1 - u.1 ≤ 0 by omega) (show 0 ≤ q.2 - u.2 by omega)
      have x2 := Int.mul_nonneg (show 0 ≤ v.2 - u.2 by omega) (show 0 ≤ q.1 - u.1 by omega)
      omega
    ·exact h1
   intro i hc
   rcases Int.le_total (cor ps i).2 (cor ps (i + 1)).2 with h3 | h3
   ·exact go _ _ (hb i) (hb (i + 1)) h3 hc
   ·rw [← crossB_swap] at hc
    exact go _ _ (hb (i + 1)) (hb i) h3 hc
  have hex : ∃ i, crossB q (cor ps i) (cor ps (i + 1)) = true := by
   by_cases hh : ∃ i, crossB q (cor ps i) (cor ps (i + 1)) = true
   ·exact hh
   ·rw [par_none (fun i => by
     cases hc : crossB q (cor ps i) (cor ps (i + 1))
     ·rfl
     ·exact absurd ⟨i, hc⟩ hh)] at g
    cases g
  obtain ⟨i, hc⟩ := hex
  have := up i hc
  have hl : X1 ≤ q.1 := by
   rcases Int.lt_or_le q.1 X1 with h1 | h1
   ·rw [par_left (fun i => by have := hb i; omega)] at g
    cases g
   ·exact h1
  omega
 ·omega
/-- The rectangle of a polygon's box holds it. -/
theorem rect_holds {ps : List Pt} (h : PValid ps = true) : pholds (rectC (boxC ps)) ps = true := by
 obtain ⟨hx, hy⟩ := box_wide h
 have hn : 0 < ps.length := by have := pv_parts h; omega
 unfold pholds
 rw [List.all_eq_true]
 intro i _
 unfold holdsE
 exact has_left (rect_turn hx hy) (rect_left hx hy (box_has hn i)) (rect_left hx hy (box_has hn (i + 1))) ((rect_place hx hy _).2 (box_has hn i)) ((rect_place hx hy _).2 (box_has hn (i + 1)))
end Go.Proofs.YtfeccolljfkejaaGreatDoor
