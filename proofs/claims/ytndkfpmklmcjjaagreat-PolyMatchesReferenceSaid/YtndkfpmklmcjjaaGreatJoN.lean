/- Winding numbers: along segments that meet no edge they do not change; the pairs of crossings of two ways. Segments that do not meet are separated by a line; what holds for all great numbers. The way along a polygon's border, on its right: it does not meet the border. A polygon's winding numbers: the sidewalk does not meet the border. A polygon's winding numbers: those of the sidewalk; none, or one. A polygon's winding numbers are none, or one and the same sign: what changes across the middle of an edge. What changes across an edge, at any place strictly inside of it. The area, by counting places: a polygon's winding numbers are none or one; what has fewer places has not more area. Where the places near a corner are, and near a place inside of an edge. The sidewalk is outside; what has its border in a polygon is in it. A segment that 'has' accepts is in the polygon. A segment that 'has' accepts is in the polygon. A segment in a polygon is accepted; what holds what, told by places. Two polygons with the same places are equal. -/
import Derived.Test.YtndkfpmklmcjjaaGreatToQ
set_option linter.unusedSimpArgs false
set_option linter.unusedVariables false
namespace Go.Proofs.YtndkfpmklmcjjaaGreat
def b2i (b : Bool) : Int := if b = true then 1 else 0
theorem b2i_t : b2i true = 1 := rfl
theorem b2i_f : b2i false = 0 := rfl
/-- The direction of an edge: 1 if it leads up. -/
def dirE (u v : Pt) : Int := if u.2 ≤ v.2 then 1 else -1
/-- How an edge counts in the winding number of a place. -/
def cw (q u v : Pt) : Int := dirE u v * b2i (crossB q u v)
def sumN (f : Nat → Int) : Nat → Int
 | 0 => 0
 | n + 1 => sumN f n + f n
def wn (ps : List Pt) (q : Pt) : Int := sumN (fun i => cw q (cor ps i) (cor ps (i + 1))) ps.length
theorem sumN_congr {f g : Nat → Int} : ∀ n, (∀ i, i < n → f i = g i) → sumN f n = sumN g n
 | 0, _ => rfl
 | n + 1, h => by unfold sumN; rw [sumN_congr n (fun i hi => h i (by omega)), h n (by omega)]
theorem sumN_add (f g : Nat → Int) : ∀ n, sumN (fun i => f i + g i) n = sumN f n + sumN g n
 | 0 => rfl
 | n + 1 => by unfold sumN; rw [sumN_add f g n]; omega
theorem sumN_mul (c : Int) (f : Nat → Int) : ∀ n, sumN (fun i => c * f i) n = c * sumN f n
 | 0 => by simp [sumN]
 | n + 1 => by unfold sumN; rw [sumN_mul c f n, Int.mul_add]
theorem sumN_mulr (c : Int) (f : Nat → Int) (n : Nat) : sumN (fun i => f i * c) n = sumN f n * c := by
 rw [Int.mul_comm, ← sumN_mul]
 exact sumN_congr n fun i _ => Int.mul_comm _ _
theorem sumN_zero : ∀ n, sumN (fun _ => 0) n = 0
 | 0 => rfl
 | n + 1 => by unfold sumN; rw [sumN_zero n]; rfl
theorem sumN_comm (f : Nat → Nat → Int) (m : Nat) : ∀ n, sumN (fun i => sumN (fun k => f i k) m) n = sumN (fun k => sumN (fun i => f i k) n) m
 | 0 => (sumN_zero m).symm
 | n + 1 => by
  have := sumN_comm f m n
  show sumN (fun i => sumN (fun k => f i k) m) n + sumN (fun k => f n k) m = _
  rw [this, ← sumN_add]
  rfl
theorem sumN_tel (f : Nat → Int) : ∀ n, sumN (fun i => f (i + 1) - f i) n = f n - f 0
 | 0 => by simp [sumN]
 | n + 1 => by unfold sumN; rw [sumN_tel f n]; omega
theorem cross_flat {q u v : Pt} (h : u.2 = v.2) : crossB q u v = false := by
 rw [crossB_up (by omega), decide_eq_false (show ¬ (u.2 ≤ q.2 ∧ q.2 < v.2) by omega)]
 rfl
theorem cw_swap (q u v : Pt) : cw q v u = -cw q u v := by
 unfold cw
 rw [crossB_swap]
 unfold dirE
 rcases Int.lt_trichotomy u.2 v.2 with h | h | h
 ·rw [if_neg (by omega), if_pos (by omega)]; omega
 ·rw [cross_flat h, b2i_f]; simp
 ·rw [if_pos (by omega), if_neg (by omega)]; omega
theorem cw_up {q u v : Pt} (h : u.2 ≤ v.2) : cw q u v = b2i (crossB q u v) := by
 unfold cw dirE
 rw [if_pos h, Int.one_mul]
theorem b2i_xor {a b u v : Bool} (h : (a ^^ b) = (u ^^ v)) (h1 : a = true → u = false) (h2 : b = true → v = false) : b2i a - b2i b = b2i v - b2i u := by
 cases a <;> cases b <;> cases u <;> cases v <;> simp_all [b2i]
theorem edge_wn {a b u v : Pt} (hab : a.2 ≤ b.2) (hm : meetB a b u v = false) : cw a u v - cw b u v = b2i (sideB a b v) - b2i (sideB a b u) := by
 have up : ∀ u v : Pt, u.2 ≤ v.2 → meetB a b u v = false → cw a u v - cw b u v = b2i (sideB a b v) - b2i (sideB a b u) := by
  intro u v huv hm
  rw [cw_up huv, cw_up huv]
  refine b2i_xor (edge_par hab huv hm) (fun h => ?_) (fun h => ?_)
  ·rw [crossB_up huv] at h
   simp only [Bool.and_eq_true, decide_eq_true_eq] at h
   unfold sideB
   rw [decide_eq_false (show ¬ (a.2 < u.2 ∧ u.2 ≤ b.2) by omega)]
   rfl
  ·rw [crossB_up huv] at h
   simp only [Bool.and_eq_true, decide_eq_true_eq] at h
   unfold sideB
   rw [decide_eq_false (show ¬ (a.2 < v.2 ∧ v.2 ≤ b.2) by omega)]
   rfl
 rcases Int.le_total u.2 v.2 with h | h
 ·exact up u v h hm
 ·have := up v u h (by rw [meetB_swap2]; exact hm)
  rw [cw_swap a u v, cw_swap b u v] at this
  omega
theorem wn_const {ps : List Pt} {a b : Pt} (h : ∀ i, i < ps.length → meetB a b (cor ps i) (cor ps (i + 1)) = false) : wn ps a = wn ps b := by
 have go : ∀ a b : Pt, a.2 ≤ b.2 → (∀ i, i < ps.length → meetB a b (cor ps i) (cor ps (i + 1)) = false) → wn ps a = wn ps b := by
  intro a b hab h
  have e : wn ps a = sumN (fun i => cw b (cor ps i) (cor ps (i + 1)) + (b2i (sideB a b (cor ps (i + 1))) - b2i (sideB a b (cor ps i)))) ps.length := by
   refine sumN_congr _ fun i hi => ?_
   have := edge_wn hab (h i hi)
   omega
  rw [e, sumN_add, sumN_tel (fun i => b2i (sideB a b (cor ps i)))]
  rw [cor_len]
  show sumN _ _ + _ = wn ps b
  unfold wn
  omega
 rcases Int.le_total a.2 b.2 with hab | hab
 ·exact go a b hab h
 ·exact (go b a hab (fun i hi => by rw [meetB_swap1]; exact h i hi)).symm
theorem dirE_sc {d : Int} (hd : 0 < d) (u v : Pt) : dirE (sc d u) (sc d v) = dirE u v := by
 unfold dirE
 have : (sc d u).2 ≤ (sc d v).2 ↔ u.2 ≤ v.2 := mulle hd
 by_cases h : u.2 ≤ v.2
 ·rw [if_pos (this.2 h), if_pos h]
 ·rw [if_neg (fun x => h (this.1 x)), if_neg h]
theorem cw_sc {d : Int} (hd : 0 < d) (q u v : Pt) : cw (sc d q) (sc d u) (sc d v) = cw q u v := by
 unfold cw
 rw [crossB_sc hd, dirE_sc hd]
theorem wn_sc {d : Int} (hd : 0 < d) (ps : List Pt) (q : Pt) : wn (ps.map (sc d)) (sc d q) = wn ps q := by
 unfold wn
 rw [List.length_map]
 exact sumN_congr _ fun i _ => by rw [cor_sc, cor_sc, cw_sc hd]
/-- Where the ray crosses an edge that does not meet the way, the winding number is the one of the edge's lower end. -/
theorem zz_wn {qs : List Pt} {q u v : Pt} (huv : u.2 ≤ v.2) (h : crossB q u v = true) (hm : ∀ k, k < qs.length → meetB u v (cor qs k) (cor qs (k + 1)) = false) :
  sumN (fun k => cw (zz q u v) (sc (v.2 - u.2) (cor qs k)) (sc (v.2 - u.2) (cor qs (k + 1)))) qs.length = wn qs u := by
 obtain ⟨a1, a2, _⟩ := cross_parts huv h
 have hd : 0 < v.2 - u.2 := by omega
 have hz := zz_on a1 a2
 have hpc := wn_const (ps := qs.map (sc (v.2 - u.2))) (a := sc (v.2 - u.2) u) (b := zz q u v) (fun k hk => by
  rw [List.length_map] at hk
  rw [cor_sc, cor_sc]
  exact sub_meet ((mullt hd).2 (by omega)) hz (by rw [meetB_sc hd]; exact hm k hk))
 rw [wn_sc hd] at hpc
 rw [hpc]
 unfold wn
 rw [List.length_map]
 exact sumN_congr _ fun k _ => by rw [cor_sc, cor_sc]
/-- Where the ray crosses an edge, whether it crosses another one behind it. -/
def gE (q a b c d : Pt) : Bool := crossB (zz q (lo a b) (hi a b)) (sc ((hi a b).2 - (lo a b).2) c) (sc ((hi a b).2 - (lo a b).2) d)
theorem gE_lohi (q a b c d : Pt) : gE q a b (lo c d) (hi c d) = gE q a b c d := by
 unfold gE
 rcases lohi c d with ⟨e, f, _⟩ | ⟨e, f, _⟩ <;> rw [e, f]
 exact crossB_swap _ _ _
theorem pair_one {q a b c d : Pt} (hm : meetB a b c d = false) : b2i (crossB q a b) * b2i (crossB q c d) = b2i (crossB q a b) * b2i (gE q a b c d) + b2i (crossB q c d) * b2i (gE q c d a b) := by
 have l1 := lohi_le a b
 have l2 := lohi_le c d
 cases hp : crossB q a b
 ·cases hq : crossB q c d
  ·simp [b2i]
  ·have hh : gE q c d a b = false := by
    cases hh : gE q c d a b
    ·rfl
    ·rw [← gE_lohi] at hh
     rw [← cross_lohi] at hq
     obtain ⟨c1, c2, c3⟩ := cross_parts l2 hq
     have := zz_imp l1 (by omega) c3 hh
     rw [cross_lohi, hp] at this
     cases this
   rw [hh]
   simp [b2i]
 ·cases hq : crossB q c d
  ·have hg : gE q a b c d = false := by
    cases hg : gE q a b c d
    ·rfl
    ·rw [← gE_lohi] at hg
     rw [← cross_lohi] at hp
     obtain ⟨c1, c2, c3⟩ := cross_parts l1 hp
     have := zz_imp l2 (by omega) c3 hg
     rw [cross_lohi, hq] at this
     cases this
   rw [hg]
   simp [b2i]
  ·have := zz_one l1 l2 (by rw [cross_lohi]; exact hp) (by rw [cross_lohi]; exact hq) (by rw [meet_lohi1, meet_lohi2]; exact hm)
   have e1 := gE_lohi q a b c d
   have e2 := gE_lohi q c d a b
   unfold gE at e1 e2 ⊢
   rw [e1, e2] at this
   revert this
   generalize crossB (zz q (lo a b) (hi a b)) _ _ = g
   generalize crossB (zz q (lo c d) (hi c d)) _ _ = h
   cases g <;> cases h <;> decide
/-- The law of the pairs: two ways whose edges do not meet. -/
theorem pairs {ps qs : List Pt} {q : Pt} {α β : Int} (hm : ∀ i, i < ps.length → ∀ k, k < qs.length → meetB (cor ps i) (cor ps (i + 1)) (cor qs k) (cor qs (k + 1)) = false) (h1 : ∀ i, wn qs (cor ps i) = β) (h2 : ∀ k, wn ps (cor qs k) = α) :
  wn ps q * wn qs q = wn ps q * β + wn qs q * α := by
 let P : Nat → Int := fun i => dirE (cor ps i) (cor ps (i + 1))
 let Q : Nat → Int := fun k => dirE (cor qs k) (cor qs (k + 1))
 let p : Nat → Int := fun i => b2i (crossB q (cor ps i) (cor ps (i + 1)))
 let r : Nat → Int := fun k => b2i (crossB q (cor qs k) (cor qs (k + 1)))
 let g : Nat → Nat → Int := fun i k => b2i (gE q (cor ps i) (cor ps (i + 1)) (cor qs k) (cor qs (k + 1)))
 let h : Nat → Nat → Int := fun i k => b2i (gE q (cor qs k) (cor qs (k + 1)) (cor ps i) (cor ps (i + 1)))
 have hpr : ∀ i, i < ps.length → ∀ k, k < qs.length → (P i * p i) * (Q k * r k) = (P i * p i) * (Q k * g i k) + (Q k * r k) * (P i * h i k) := by
  intro i hi k hk
  have := pair_one (q := q) (hm i hi k hk)
  have e : p i * r k = p i * g i k + r k * h i k := this
  have e2 : (P i * p i) * (Q k * r k) = (P i * Q k) * (p i * r k) := by grind
  rw [e2, e]
  grind
 -- the winding numbers at the crossings
 have s1 : ∀ i, i < ps.length → (P i * p i) * sumN (fun k => Q k * g i k) qs.length = (P i * p i) * β := by
  intro i hi
  cases hc : crossB q (cor ps i) (cor ps (i + 1))
  ·have : p i = 0 := by show b2i _ = 0; rw [hc]; rfl
   rw [this]
   simp
  ·congr 1
   have hl := lohi_le (cor ps i) (cor ps (i + 1))
   have hcl : crossB q (lo (cor ps i) (cor ps (i + 1))) (Go.Proofs.YtndkfpmklmcjjaaGreat.hi (cor ps i) (cor ps (i + 1))) = true := by rw [cross_lohi]; exact hc
   have hd : 0 < (Go.Proofs.YtndkfpmklmcjjaaGreat.hi (cor ps i) (cor ps (i + 1))).2 - (lo (cor ps i) (cor ps (i + 1))).2 := by
    obtain ⟨x, y, _⟩ := cross_parts hl hcl
    omega
   have := zz_wn (qs := qs) hl hcl (fun k hk => by rw [meet_lohi1]; exact hm i hi k hk)
   have e : sumN (fun k => Q k * g i k) qs.length = sumN (fun k => cw (zz q (lo (cor ps i) (cor ps (i + 1))) (Go.Proofs.YtndkfpmklmcjjaaGreat.hi (cor ps i) (cor ps (i + 1)))) (sc ((Go.Proofs.YtndkfpmklmcjjaaGreat.hi (cor ps i) (cor ps (i + 1))).2 - (lo (cor ps i) (cor ps (i + 1))).2) (cor qs k)) (sc ((Go.Proofs.YtndkfpmklmcjjaaGreat.hi (cor ps i) (cor ps (i + 1))).2 - (lo (cor ps i) (cor ps (i + 1))).2) (cor qs (k + 1)))) qs.length :=
    sumN_congr _ fun k _ => by
     unfold cw
     rw [dirE_sc hd]
     rfl
   rw [e, this]
   rcases lohi (cor ps i) (cor ps (i + 1)) with ⟨e, _, _⟩ | ⟨e, _, _⟩ <;> rw [e] <;> exact h1 _
 have s2 : ∀ k, k < qs.length → (Q k * r k) * sumN (fun i => P i * h i k) ps.length = (Q k * r k) * α := by
  intro k hk
  cases hc : crossB q (cor qs k) (cor qs (k + 1))
  ·have : r k = 0 := by show b2i _ = 0; rw [hc]; rfl
   rw [this]
   simp
  ·congr 1
   have hl := lohi_le (cor qs k) (cor qs (k + 1))
   have hcl : crossB q (lo (cor qs k) (cor qs (k + 1))) (Go.Proofs.YtndkfpmklmcjjaaGreat.hi (cor qs k) (cor qs (k + 1))) = true := by rw [cross_lohi]; exact hc
   have hd : 0 < (Go.Proofs.YtndkfpmklmcjjaaGreat.hi (cor qs k) (cor qs (k + 1))).2 - (lo (cor qs k) (cor qs (k + 1))).2 := by
    obtain ⟨x, y, _⟩ := cross_parts hl hcl
    omega
   have := zz_wn (qs := ps) hl hcl (fun i hi => by rw [meet_lohi1, meetB_comm]; exact hm i hi k hk)
   have e : sumN (fun i => P i * h i k) ps.length = sumN (fun i => cw (zz q (lo (cor qs k) (cor qs (k + 1))) (Go.Proofs.YtndkfpmklmcjjaaGreat.hi (cor qs k) (cor qs (k + 1)))) (sc ((Go.Proofs.YtndkfpmklmcjjaaGreat.hi (cor qs k) (cor qs (k + 1))).2 - (lo (cor qs k) (cor qs (k + 1))).2) (cor ps i)) (sc ((Go.Proofs.YtndkfpmklmcjjaaGreat.hi (cor qs k) (cor qs (k + 1))).2 - (lo (cor qs k) (cor qs (k + 1))).2) (cor ps (i + 1)))) ps.length :=
    sumN_congr _ fun i _ => by
     unfold cw
     rw [dirE_sc hd]
     rfl
   rw [e, this]
   rcases lohi (cor qs k) (cor qs (k + 1)) with ⟨e, _, _⟩ | ⟨e, _, _⟩ <;> rw [e] <;> exact h2 _
 have eP : wn ps q = sumN (fun i => P i * p i) ps.length := rfl
 have eQ : wn qs q = sumN (fun k => Q k * r k) qs.length := rfl
 have e1 : wn ps q * wn qs q = sumN (fun i => sumN (fun k => (P i * p i) * (Q k * r k)) qs.length) ps.length := by
  rw [eP, eQ, ← sumN_mulr]
  exact sumN_congr _ fun i _ => (sumN_mul _ _ _).symm
 rw [e1]
 have e2 : sumN (fun i => sumN (fun k => (P i * p i) * (Q k * r k)) qs.length) ps.length = sumN (fun i => sumN (fun k => (P i * p i) * (Q k * g i k)) qs.length) ps.length + sumN (fun i => sumN (fun k => (Q k * r k) * (P i * h i k)) qs.length) ps.length := by
  rw [← sumN_add]
  refine sumN_congr _ fun i hi => ?_
  rw [← sumN_add]
  exact sumN_congr _ fun k hk => hpr i hi k hk
 rw [e2, sumN_comm (fun i k => (Q k * r k) * (P i * h i k))]
 have e3 : sumN (fun i => sumN (fun k => (P i * p i) * (Q k * g i k)) qs.length) ps.length = wn ps q * β := by
  rw [eP, ← sumN_mulr]
  refine sumN_congr _ fun i hi => ?_
  rw [sumN_mul]
  exact s1 i hi
 have e4 : sumN (fun k => sumN (fun i => (Q k * r k) * (P i * h i k)) ps.length) qs.length = wn qs q * α := by
  rw [eQ, ← sumN_mulr]
  refine sumN_congr _ fun k hk => ?_
  rw [sumN_mul]
  exact s2 k hk
 rw [e3, e4]
end Go.Proofs.YtndkfpmklmcjjaaGreat
namespace Go.Proofs.YtndkfpmklmcjjaaGreat
/-- The value of an affine function. -/
def ev (α β γ : Int) (p : Pt) : Int := α * p.1 + β * p.2 + γ
/-- An affine function that is negative at a and b, and positive at c and d. -/
def Sep (a b c d : Pt) : Prop := ∃ α β γ, ev α β γ a < 0 ∧ ev α β γ b < 0 ∧ 0 < ev α β γ c ∧ 0 < ev α β γ d
theorem Sep.swap1 {a b c d : Pt} (h : Sep a b c d) : Sep b a c d := by
 obtain ⟨α, β, γ, h1, h2, h3, h4⟩ := h
 exact ⟨α, β, γ, h2, h1, h3, h4⟩
theorem Sep.swap2 {a b c d : Pt} (h : Sep a b c d) : Sep a b d c := by
 obtain ⟨α, β, γ, h1, h2, h3, h4⟩ := h
 exact ⟨α, β, γ, h1, h2, h4, h3⟩
theorem Sep.symm {a b c d : Pt} (h : Sep a b c d) : Sep c d a b := by
 obtain ⟨α, β, γ, h1, h2, h3, h4⟩ := h
 have e : ∀ p, ev (-α) (-β) (-γ) p = -ev α β γ p := fun p => by unfold ev; grind
 exact ⟨-α, -β, -γ, by rw [e]; omega, by rw [e]; omega, by rw [e]; omega, by rw [e]; omega⟩
/-- A place of a segment, by a part of it. -/
theorem on_part {q u v : Pt} (h : onB q u v = true) : ∃ k m : Int, 0 ≤ k ∧ k ≤ m ∧ 0 < m ∧ m * (q.1 - u.1) = k * (v.1 - u.1) ∧ m * (q.2 - u.2) = k * (v.2 - u.2) := by
 rw [onB_iff] at h
 obtain ⟨h0, h1, h2⟩ := h
 have hc : (v.1 - u.1) * (q.2 - u.2) = (v.2 - u.2) * (q.1 - u.1) := by unfold cr at h0; omega
 by_cases hz : u.1 = v.1 ∧ u.2 = v.2
 ·refine ⟨0, 1, by omega, by omega, by omega, ?_, ?_⟩ <;> omega
 ·rcases Int.le_total u.1 v.1 with a1 | a1 <;> rcases Int.le_total u.2 v.2 with a2 | a2
  ·exact ⟨(q.1 - u.1) + (q.2 - u.2), (v.1 - u.1) + (v.2 - u.2), by omega, by omega, by omega, by grind, by grind⟩
  ·exact ⟨(q.1 - u.1) - (q.2 - u.2), (v.1 - u.1) - (v.2 - u.2), by omega, by omega, by omega, by grind, by grind⟩
  ·exact ⟨-(q.1 - u.1) + (q.2 - u.2), -(v.1 - u.1) + (v.2 - u.2), by omega, by omega, by omega, by grind, by grind⟩
  ·exact ⟨-(q.1 - u.1) - (q.2 - u.2), -(v.1 - u.1) - (v.2 - u.2), by omega, by omega, by omega, by grind, by grind⟩
theorem ev_on {α β γ : Int} {q u v : Pt} (h : onB q u v = true) : ∃ k m : Int, 0 ≤ k ∧ k ≤ m ∧ 0 < m ∧ m * ev α β γ q = (m - k) * ev α β γ u + k * ev α β γ v := by
 obtain ⟨k, m, h1, h2, h3, e1, e2⟩ := on_part h
 refine ⟨k, m, h1, h2, h3, ?_⟩
 have : m * ev α β γ q = (m - k) * ev α β γ u + k * ev α β γ v + (α * (m * (q.1 - u.1) - k * (v.1 - u.1)) + β * (m * (q.2 - u.2) - k * (v.2 - u.2))) := by unfold ev; grind
 rw [this, e1, e2]
 grind
theorem ev_on_neg {α β γ : Int} {q u v : Pt} (h : onB q u v = true) (hu : ev α β γ u < 0) (hv : ev α β γ v < 0) : ev α β γ q < 0 := by
 obtain ⟨k, m, h1, h2, h3, e⟩ := ev_on (α := α) (β := β) (γ := γ) h
 have x := np_of (Int.le_of_lt hv) h1
 rw [Int.mul_comm] at x
 have y := np_of (Int.le_of_lt hu) (show 0 ≤ m - k by omega)
 rw [Int.mul_comm] at y
 rcases Int.lt_or_le 0 k with hk | hk
 ·have := (muln hk).2 hv
  exact (muln h3).1 (by omega)
 ·have := (muln (show 0 < m - k by omega)).2 hu
  exact (muln h3).1 (by omega)
theorem ev_on_pos {α β γ : Int} {q u v : Pt} (h : onB q u v = true) (hu : 0 < ev α β γ u) (hv : 0 < ev α β γ v) : 0 < ev α β γ q := by
 have e : ∀ p, ev (-α) (-β) (-γ) p = -ev α β γ p := fun p => by unfold ev; grind
 have := ev_on_neg (α := -α) (β := -β) (γ := -γ) h (by rw [e]; omega) (by rw [e]; omega)
 rw [e] at this
 omega
/-- Separated segments do not meet. -/
theorem Sep.nomeet {a b c d : Pt} (h : Sep a b c d) : meetB a b c d = false := by
 obtain ⟨α, β, γ, h1, h2, h3, h4⟩ := h
 cases hm : meetB a b c d
 ·rfl
 ·exfalso
  unfold meetB at hm
  simp only [Bool.or_eq_true] at hm
  rcases hm with hm | hm | hm | hm | hm
  ·have hc := cutB_iff.1 hm
   have i1 : cr c d a - cr c d b = cr a b d - cr a b c := by unfold cr; grind
   have i2 : cr c d a * ev α β γ b - cr c d b * ev α β γ a = cr a b d * ev α β γ c - cr a b c * ev α β γ d := by unfold cr ev; grind
   generalize cr c d a = A at *
   generalize cr c d b = B at *
   generalize cr a b c = U at *
   generalize cr a b d = V at *
   generalize ev α β γ a = x at *
   generalize ev α β γ b = y at *
   generalize ev α β γ c = z at *
   generalize ev α β γ d = t at *
   rcases hc.2 with ⟨p1, p2⟩ | ⟨p1, p2⟩
   ·have q1 := Int.mul_pos (show 0 < -A by omega) (show 0 < -y by omega)
    have q2 := Int.mul_pos p2 (show 0 < -x by omega)
    rw [Int.neg_mul_neg] at q1
    rw [Int.mul_neg] at q2
    have q3 := Int.mul_pos (show 0 < -V by omega) h3
    have q4 := Int.mul_pos (show 0 < U by omega) h4
    rw [Int.neg_mul] at q3
    omega
   ·have q1 := Int.mul_pos p1 (show 0 < -y by omega)
    have q2 := Int.mul_pos (show 0 < -B by omega) (show 0 < -x by omega)
    rw [Int.neg_mul_neg] at q2
    rw [Int.mul_neg] at q1
    have q3 := Int.mul_pos (show 0 < V by omega) h3
    have q4 := Int.mul_pos (show 0 < -U by omega) h4
    rw [Int.neg_mul] at q4
    omega
  ·have := ev_on_pos hm h3 h4
   omega
  ·have := ev_on_pos hm h3 h4
   omega
  ·have := ev_on_neg hm h1 h2
   omega
  ·have := ev_on_neg hm h1 h2
   omega
/-- Two places on one side of a line, and two on it. -/
theorem Sep.left {a b c d : Pt} (h1 : 0 < cr a b c) (h2 : 0 < cr a b d) : Sep a b c d := by
 have e : ∀ t p, ev (-2 * (b.2 - a.2)) (2 * (b.1 - a.1)) (-2 * (b.1 - a.1) * a.2 + 2 * (b.2 - a.2) * a.1 - t) p = 2 * cr a b p - t := fun t p => by unfold ev cr; grind
 have ea : cr a b a = 0 := by unfold cr; grind
 have eb : cr a b b = 0 := by unfold cr; grind
 refine ⟨-2 * (b.2 - a.2), 2 * (b.1 - a.1), -2 * (b.1 - a.1) * a.2 + 2 * (b.2 - a.2) * a.1 - 1, ?_, ?_, ?_, ?_⟩
 ·rw [e, ea]; omega
 ·rw [e, eb]; omega
 ·rw [e]; omega
 ·rw [e]; omega
theorem Sep.right {a b c d : Pt} (h1 : cr a b c < 0) (h2 : cr a b d < 0) : Sep a b c d := by
 refine (Sep.left ?_ ?_).swap1
 ·rw [cr_swap]; omega
 ·rw [cr_swap]; omega
/-- The place along a line. -/
def al (a b p : Pt) : Int := (b.1 - a.1) * (p.1 - a.1) + (b.2 - a.2) * (p.2 - a.2)
theorem al_on {a b p : Pt} (h : cr a b p = 0) (h1 : 0 ≤ al a b p) (h2 : al a b p ≤ al a b b) (hne : a ≠ b) : onB p a b = true := by
 have hL : 0 < al a b b := by
  have : al a b b = sqd a b := rfl
  rw [this]
  exact sqd_pos fun e => hne e.symm
 have e1 : al a b b * (p.1 - a.1) = al a b p * (b.1 - a.1) := by unfold al; unfold cr at h; grind
 have e2 : al a b b * (p.2 - a.2) = al a b p * (b.2 - a.2) := by unfold al; unfold cr at h; grind
 have btw : ∀ x y : Int, al a b b * x = al a b p * y → (0 ≤ y → 0 ≤ x ∧ x ≤ y) ∧ (y ≤ 0 → y ≤ x ∧ x ≤ 0) := by
  intro x y e
  constructor
  ·intro hy
   have p1 := Int.mul_nonneg h1 hy
   have p2 := Int.mul_le_mul_of_nonneg_right h2 hy
   constructor
   ·rcases Int.lt_or_le x 0 with h | h
    ·have := (muln hL).2 h
     omega
    ·exact h
   ·exact (mulle hL).1 (by omega)
  ·intro hy
   have p1 := np_of hy h1
   rw [Int.mul_comm] at p1
   have p2 := Int.mul_le_mul_of_nonneg_right h2 (show 0 ≤ -y by omega)
   rw [Int.mul_neg, Int.mul_neg] at p2
   constructor
   ·exact (mulle hL).1 (by omega)
   ·rcases Int.lt_or_le 0 x with h | h
    ·have := (mulp hL).2 h
     omega
    ·exact h
 have b1 := btw _ _ e1
 have b2 := btw _ _ e2
 rw [onB_iff]
 refine ⟨h, ?_, ?_⟩
 ·rcases Int.le_total 0 (b.1 - a.1) with h3 | h3
  ·have := b1.1 h3; omega
  ·have := b1.2 h3; omega
 ·rcases Int.le_total 0 (b.2 - a.2) with h3 | h3
  ·have := b2.1 h3; omega
  ·have := b2.2 h3; omega
theorem sep_line {a b c d : Pt} (hne : a ≠ b) (hc : cr a b c = 0) (hd : cr a b d = 0) (hm : meetB a b c d = false) : Sep a b c d := by
 obtain ⟨_, ha, _, hcn, hdn⟩ := meet_parts hm
 have hL : 0 < al a b b := by
  have : al a b b = sqd a b := rfl
  rw [this]
  exact sqd_pos fun e => hne e.symm
 have c1 : al a b c < 0 ∨ al a b b < al a b c := by
  rcases Int.lt_or_le (al a b c) 0 with h | h
  ·exact .inl h
  ·rcases Int.lt_or_le (al a b b) (al a b c) with h2 | h2
   ·exact .inr h2
   ·rw [al_on hc h h2 hne] at hcn; cases hcn
 have d1 : al a b d < 0 ∨ al a b b < al a b d := by
  rcases Int.lt_or_le (al a b d) 0 with h | h
  ·exact .inl h
  ·rcases Int.lt_or_le (al a b b) (al a b d) with h2 | h2
   ·exact .inr h2
   ·rw [al_on hd h h2 hne] at hdn; cases hdn
 have e : ∀ s t p, ev (s * (b.1 - a.1)) (s * (b.2 - a.2)) (s * (-(b.1 - a.1) * a.1 - (b.2 - a.2) * a.2) - t) p = s * al a b p - t := fun s t p => by unfold ev al; grind
 have ea : al a b a = 0 := by unfold al; grind
 have opp : ∀ c d : Pt, cr a b c = 0 → cr a b d = 0 → al a b c < 0 → al a b b < al a b d → onB a c d = false → False := by
  intro c d hc hd x y hn
  have hcd : c ≠ d := fun e => by rw [e] at x; omega
  have z1 : cr c d a = 0 := by
   have : al a b b * cr c d a = 0 := by
    have : al a b b * cr c d a = al a b c * cr a b d - al a b d * cr a b c := by unfold al cr; grind
    rw [this, hc, hd]; simp
   exact (mulz hL).1 this
  have k1 : al a b b * al c d a = -al a b c * (al a b d - al a b c) := by unfold al; unfold cr at hc hd; grind
  have k2 : al a b b * al c d d = (al a b d - al a b c) * (al a b d - al a b c) := by unfold al; unfold cr at hc hd; grind
  have x1 := Int.mul_pos (show 0 < -al a b c by omega) (show 0 < al a b d - al a b c by omega)
  have w1 : 0 < al c d a := (mulp hL).1 (by omega)
  have x2 := Int.mul_pos (show 0 < al a b d by omega) (show 0 < al a b d - al a b c by omega)
  have w2 : al c d a ≤ al c d d := by
   refine (mulle hL).1 ?_
   rw [k1, k2]
   have : (al a b d - al a b c) * (al a b d - al a b c) = al a b d * (al a b d - al a b c) + -al a b c * (al a b d - al a b c) := by grind
   omega
  rw [al_on z1 (by omega) w2 hcd] at hn
  cases hn
 rcases c1 with c1 | c1 <;> rcases d1 with d1 | d1
 ·refine ⟨(-2) * (b.1 - a.1), (-2) * (b.2 - a.2), (-2) * (-(b.1 - a.1) * a.1 - (b.2 - a.2) * a.2) - 1, ?_, ?_, ?_, ?_⟩
  ·rw [e, ea]; omega
  ·rw [e]; omega
  ·rw [e]; omega
  ·rw [e]; omega
 ·exact (opp c d hc hd c1 d1 ha).elim
 ·exact (opp d c hd hc d1 c1 (by rw [onB_swap]; exact ha)).elim
 ·refine ⟨2 * (b.1 - a.1), 2 * (b.2 - a.2), 2 * (-(b.1 - a.1) * a.1 - (b.2 - a.2) * a.2) - (2 * al a b b + 1), ?_, ?_, ?_, ?_⟩
  ·rw [e, ea]; omega
  ·rw [e]; omega
  ·rw [e]; omega
  ·rw [e]; omega
theorem sep_mix {a b c d : Pt} (hc : cr a b c = 0) (hd : cr a b d ≠ 0) (hcn : onB c a b = false) : Sep a b c d := by
 have hne : a ≠ b := fun e => hd (by rw [e]; unfold cr; grind)
 have hL : 0 < al a b b := by
  have : al a b b = sqd a b := rfl
  rw [this]
  exact sqd_pos fun e => hne e.symm
 have k1 : al a b b * cr c d a = al a b c * cr a b d := by unfold al; unfold cr at hc ⊢; grind
 have k2 : al a b b * cr c d b = (al a b c - al a b b) * cr a b d := by unfold al; unfold cr at hc ⊢; grind
 have c1 : al a b c < 0 ∨ al a b b < al a b c := by
  rcases Int.lt_or_le (al a b c) 0 with h | h
  ·exact .inl h
  ·rcases Int.lt_or_le (al a b b) (al a b c) with h2 | h2
   ·exact .inr h2
   ·rw [al_on hc h h2 hne] at hcn; cases hcn
 have pp : ∀ x y : Int, 0 < x → 0 < y → 0 < x * y := fun x y => Int.mul_pos
 have pn : ∀ x y : Int, 0 < x → y < 0 → x * y < 0 := fun x y hx hy => (muln hx).2 hy
 have np : ∀ x y : Int, x < 0 → 0 < y → x * y < 0 := fun x y hx hy => by rw [Int.mul_comm]; exact pn y x hy hx
 have nn : ∀ x y : Int, x < 0 → y < 0 → 0 < x * y := fun x y hx hy => by have := pp (-x) (-y) (by omega) (by omega); rwa [Int.neg_mul_neg] at this
 rcases Int.lt_or_gt_of_ne hd with d1 | d1 <;> rcases c1 with c1 | c1
 ·exact (Sep.left ((mulp hL).1 (by rw [k1]; exact nn _ _ c1 d1)) ((mulp hL).1 (by rw [k2]; exact nn _ _ (by omega) d1))).symm
 ·exact (Sep.right ((muln hL).1 (by rw [k1]; exact pn _ _ (by omega) d1)) ((muln hL).1 (by rw [k2]; exact pn _ _ (by omega) d1))).symm
 ·exact (Sep.right ((muln hL).1 (by rw [k1]; exact np _ _ c1 d1)) ((muln hL).1 (by rw [k2]; exact np _ _ (by omega) d1))).symm
 ·exact (Sep.left ((mulp hL).1 (by rw [k1]; exact pp _ _ (by omega) d1)) ((mulp hL).1 (by rw [k2]; exact pp _ _ (by omega) d1))).symm
/-- Segments that do not meet are separated. -/
theorem sep_of {a b c d : Pt} (hm : meetB a b c d = false) : Sep a b c d := by
 obtain ⟨hc, ha, hb, hcn, hdn⟩ := meet_parts hm
 by_cases u0 : cr a b c = 0
 ·by_cases v0 : cr a b d = 0
  ·by_cases hab : a = b
   ·subst hab
    -- a place and a segment
    by_cases a0 : cr c d a = 0
    ·by_cases hcd : c = d
     ·subst hcd
      have hne : a ≠ c := fun e => by rw [e, onB_left] at ha; cases ha
      have hs := sqd_pos (p := a) (q := c) fun e => hne e.symm
      have e : ∀ p, ev (2 * (c.1 - a.1)) (2 * (c.2 - a.2)) (2 * (-(c.1 - a.1) * a.1 - (c.2 - a.2) * a.2) - sqd a c) p = 2 * al a c p - sqd a c := fun p => by unfold ev al; grind
      have e1 : al a c a = 0 := by unfold al; grind
      have e2 : al a c c = sqd a c := rfl
      exact ⟨2 * (c.1 - a.1), 2 * (c.2 - a.2), 2 * (-(c.1 - a.1) * a.1 - (c.2 - a.2) * a.2) - sqd a c, by rw [e, e1]; omega, by rw [e, e1]; omega, by rw [e, e2]; omega, by rw [e, e2]; omega⟩
     ·exact (sep_line hcd a0 a0 (by rw [meetB_comm]; exact hm)).symm
    ·rcases Int.lt_or_gt_of_ne a0 with h | h
     ·exact (Sep.right h h).symm
     ·exact (Sep.left h h).symm
   ·exact sep_line hab u0 v0 hm
  ·exact sep_mix u0 v0 hcn
 ·by_cases v0 : cr a b d = 0
  ·exact (sep_mix v0 u0 hdn).swap2
  ·by_cases a0 : cr c d a = 0
   ·by_cases b0 : cr c d b = 0
    ·by_cases hcd : c = d
     ·subst hcd
      rcases Int.lt_or_gt_of_ne u0 with h | h
      ·exact Sep.right h h
      ·exact Sep.left h h
     ·exact (sep_line hcd a0 b0 (by rw [meetB_comm]; exact hm)).symm
    ·exact (sep_mix a0 b0 ha).symm
   ·by_cases b0 : cr c d b = 0
    ·exact (sep_mix b0 a0 hb).swap2.symm
    ·-- all four off the lines
     have hcut : ¬ (((cr a b c < 0 ∧ 0 < cr a b d) ∨ (0 < cr a b c ∧ cr a b d < 0)) ∧ ((cr c d a < 0 ∧ 0 < cr c d b) ∨ (0 < cr c d a ∧ cr c d b < 0))) := fun h => by
      rw [cutB_iff.2 h] at hc
      cases hc
     rcases Int.lt_or_gt_of_ne u0 with u1 | u1 <;> rcases Int.lt_or_gt_of_ne v0 with v1 | v1
     ·exact Sep.right u1 v1
     ·rcases Int.lt_or_gt_of_ne a0 with a1 | a1 <;> rcases Int.lt_or_gt_of_ne b0 with b1 | b1
      ·exact (Sep.right a1 b1).symm
      ·exact absurd ⟨.inl ⟨u1, v1⟩, .inl ⟨a1, b1⟩⟩ hcut
      ·exact absurd ⟨.inl ⟨u1, v1⟩, .inr ⟨a1, b1⟩⟩ hcut
      ·exact (Sep.left a1 b1).symm
     ·rcases Int.lt_or_gt_of_ne a0 with a1 | a1 <;> rcases Int.lt_or_gt_of_ne b0 with b1 | b1
      ·exact (Sep.right a1 b1).symm
      ·exact absurd ⟨.inr ⟨u1, v1⟩, .inl ⟨a1, b1⟩⟩ hcut
      ·exact absurd ⟨.inr ⟨u1, v1⟩, .inr ⟨a1, b1⟩⟩ hcut
      ·exact (Sep.left a1 b1).symm
     ·exact Sep.left u1 v1
end Go.Proofs.YtndkfpmklmcjjaaGreat
namespace Go.Proofs.YtndkfpmklmcjjaaGreat
/-- It holds for all great numbers. -/
def Ev (P : Int → Prop) : Prop := ∃ N0 : Int, ∀ N, N0 ≤ N → P N
theorem Ev.mono {P Q : Int → Prop} (h : Ev P) (hi : ∀ N, P N → Q N) : Ev Q := by
 obtain ⟨N0, h⟩ := h
 exact ⟨N0, fun N hN => hi N (h N hN)⟩
theorem Ev.and {P Q : Int → Prop} (h : Ev P) (k : Ev Q) : Ev fun N => P N ∧ Q N := by
 obtain ⟨N0, h⟩ := h
 obtain ⟨N1, k⟩ := k
 exact ⟨max N0 N1, fun N hN => ⟨h N (by omega), k N (by omega)⟩⟩
theorem Ev.const {p : Prop} (h : p) : Ev fun _ => p := ⟨0, fun _ _ => h⟩
theorem Ev.ge (M : Int) : Ev fun N => M ≤ N := ⟨M, fun _ h => h⟩
theorem Ev.all {P : Nat → Int → Prop} : ∀ n : Nat, (∀ i, i < n → Ev (P i)) → Ev fun N => ∀ i, i < n → P i N
 | 0, _ => ⟨0, fun _ _ i hi => by omega⟩
 | n + 1, h => ((Ev.all n (fun i hi => h i (by omega))).and (h n (by omega))).mono fun N ⟨a, b⟩ i hi => by
  by_cases e : i = n
  ·subst e; exact b
  ·exact a i (by omega)
theorem Ev.lin {A : Int} (h : 0 < A) (B : Int) : Ev fun N => 0 < N * A + B := by
 refine ⟨B.natAbs + 1, fun N hN => ?_⟩
 have := Int.mul_le_mul_of_nonneg_left (show (1 : Int) ≤ A by omega) (show 0 ≤ N by omega)
 omega
theorem Ev.quad {A : Int} (h : 0 < A) (B C : Int) : Ev fun N => 0 < N * N * A + N * B + C := by
 refine ⟨B.natAbs + C.natAbs + 2, fun N hN => ?_⟩
 have h1 := Int.mul_le_mul_of_nonneg_left (show (1 : Int) ≤ A by omega) (show 0 ≤ N by omega)
 have h2 : C.natAbs + 1 ≤ N * A + B := by omega
 have h3 := Int.mul_le_mul_of_nonneg_left h2 (show 0 ≤ N by omega)
 have h4 := Int.mul_le_mul_of_nonneg_right (show (1 : Int) ≤ N by omega) (show (0 : Int) ≤ C.natAbs + 1 by omega)
 have e : N * N * A + N * B + C = N * (N * A + B) + C := by grind
 omega
theorem Ev.lin' {A B : Int} {f : Int → Int} (h : 0 < A) (e : ∀ N, f N = N * A + B) : Ev fun N => 0 < f N := (Ev.lin h B).mono fun N h => by rw [e]; exact h
theorem Ev.quad' {A B C : Int} {f : Int → Int} (h : 0 < A) (e : ∀ N, f N = N * N * A + N * B + C) : Ev fun N => 0 < f N := (Ev.quad h B C).mono fun N h => by rw [e]; exact h
/-- A place near a great multiple. -/
def nr (N : Int) (p m : Pt) : Pt := (N * p.1 + m.1, N * p.2 + m.2)
theorem ev_nr (α β γ N : Int) (p m : Pt) : ev α β (N * γ) (nr N p m) = N * ev α β γ p + (α * m.1 + β * m.2) := by unfold ev nr; grind
/-- What is separated is separated near great multiples. -/
theorem Sep.near {a b c d : Pt} (h : Sep a b c d) (m1 m2 m3 m4 : Pt) : Ev fun N => Sep (nr N a m1) (nr N b m2) (nr N c m3) (nr N d m4) := by
 obtain ⟨α, β, γ, h1, h2, h3, h4⟩ := h
 have e1 := Ev.lin (show 0 < -ev α β γ a by omega) (-(α * m1.1 + β * m1.2))
 have e2 := Ev.lin (show 0 < -ev α β γ b by omega) (-(α * m2.1 + β * m2.2))
 have e3 := Ev.lin h3 (α * m3.1 + β * m3.2)
 have e4 := Ev.lin h4 (α * m4.1 + β * m4.2)
 refine ((e1.and e2).and (e3.and e4)).mono fun N h => ?_
 obtain ⟨⟨h1, h2⟩, h3, h4⟩ := h
 refine ⟨α, β, N * γ, ?_, ?_, ?_, ?_⟩
 ·rw [ev_nr]; rw [Int.mul_neg] at h1; omega
 ·rw [ev_nr]; rw [Int.mul_neg] at h2; omega
 ·rw [ev_nr]; omega
 ·rw [ev_nr]; omega
/-- At a corner b between a and c: towards the right of both edges. -/
def mv (a b c : Pt) : Pt := if 0 < cr a b c then (2 * b.1 - a.1 - c.1, 2 * b.2 - a.2 - c.2) else (a.1 + c.1 - 2 * b.1, a.2 + c.2 - 2 * b.2)
theorem nr_zero (N : Int) (p : Pt) : nr N p (0, 0) = sc N p := by unfold nr sc; simp
section
variable {a b c d : Pt} (h1 : cr a b c ≠ 0) (h2 : cr b c d ≠ 0)
/-- The side of edge b c, and that edge. -/
theorem side_own (a b c d : Pt) (h1 : cr a b c ≠ 0) (h2 : cr b c d ≠ 0) : Ev fun N => Sep (nr N b (mv a b c)) (nr N c (mv b c d)) (sc N b) (sc N c) := by
 have e1 : ∀ N, cr (sc N b) (sc N c) (nr N b (mv a b c)) = N * (if 0 < cr a b c then -cr a b c else cr a b c) := by
  intro N
  unfold mv
  split <;> (unfold nr sc cr; grind)
 have e2 : ∀ N, cr (sc N b) (sc N c) (nr N c (mv b c d)) = N * (if 0 < cr b c d then -cr b c d else cr b c d) := by
  intro N
  unfold mv
  split <;> (unfold nr sc cr; grind)
 refine (Ev.ge 1).mono fun N hN => (Sep.right ?_ ?_).symm
 ·rw [e1, muln (show 0 < N by omega)]
  split <;> omega
 ·rw [e2, muln (show 0 < N by omega)]
  split <;> omega
/-- The side of edge b c, and the edge ahead of it. -/
theorem side_last (a b c d : Pt) (h1 : cr a b c ≠ 0) : Ev fun N => Sep (nr N b (mv a b c)) (nr N c (mv b c d)) (sc N a) (sc N b) := by
 obtain ⟨m, hm⟩ : ∃ m, mv b c d = m := ⟨_, rfl⟩
 rw [hm]
 unfold mv
 by_cases ht : 0 < cr a b c
 ·rw [if_pos ht]
  have e1 : ∀ N, cr (nr N b (2 * b.1 - a.1 - c.1, 2 * b.2 - a.2 - c.2)) (nr N c m) (sc N b) = N * cr a b c + (-(m.1 * (2 * b.2 - a.2 - c.2) - m.2 * (2 * b.1 - a.1 - c.1))) := by intro N; unfold nr sc cr; grind
  have e2 : ∀ N, cr (nr N b (2 * b.1 - a.1 - c.1, 2 * b.2 - a.2 - c.2)) (nr N c m) (sc N a) = N * N * cr a b c + N * (cr a b c - ((m.1 - (2 * b.1 - a.1 - c.1)) * (b.2 - a.2) - (m.2 - (2 * b.2 - a.2 - c.2)) * (b.1 - a.1))) + (-(m.1 * (2 * b.2 - a.2 - c.2) - m.2 * (2 * b.1 - a.1 - c.1))) := by intro N; unfold nr sc cr; grind
  exact ((Ev.lin' ht e1).and (Ev.quad' ht e2)).mono fun N h => Sep.left h.2 h.1
 ·rw [if_neg ht]
  have hn : 0 < -cr a b c := by omega
  have e1 : ∀ N, cr (sc N a) (sc N b) (nr N b (a.1 + c.1 - 2 * b.1, a.2 + c.2 - 2 * b.2)) = -(N * -cr a b c) := by intro N; unfold nr sc cr; grind
  have e2 : ∀ N, cr (sc N a) (sc N b) (nr N c m) = -(N * N * -cr a b c + N * (-((b.1 - a.1) * m.2 - (b.2 - a.2) * m.1)) + 0) := by intro N; unfold nr sc cr; grind
  refine ((Ev.ge 1).and (Ev.quad hn (-((b.1 - a.1) * m.2 - (b.2 - a.2) * m.1)) 0)).mono fun N h => (Sep.right ?_ ?_).symm
  ·rw [e1]
   have := (mulp (show 0 < N by omega)).2 hn
   omega
  ·rw [e2]
   omega
/-- The side of edge b c, and the edge behind it. -/
theorem side_next (a b c d : Pt) (h2 : cr b c d ≠ 0) : Ev fun N => Sep (nr N b (mv a b c)) (nr N c (mv b c d)) (sc N c) (sc N d) := by
 obtain ⟨m, hm⟩ : ∃ m, mv a b c = m := ⟨_, rfl⟩
 rw [hm]
 unfold mv
 by_cases ht : 0 < cr b c d
 ·rw [if_pos ht]
  have e1 : ∀ N, cr (nr N b m) (nr N c (2 * c.1 - b.1 - d.1, 2 * c.2 - b.2 - d.2)) (sc N c) = N * cr b c d + (m.1 * (2 * c.2 - b.2 - d.2) - m.2 * (2 * c.1 - b.1 - d.1)) := by intro N; unfold nr sc cr; grind
  have e2 : ∀ N, cr (nr N b m) (nr N c (2 * c.1 - b.1 - d.1, 2 * c.2 - b.2 - d.2)) (sc N d) = N * N * cr b c d + N * (cr b c d + (((2 * c.1 - b.1 - d.1) - m.1) * (d.2 - c.2) - ((2 * c.2 - b.2 - d.2) - m.2) * (d.1 - c.1))) + (m.1 * (2 * c.2 - b.2 - d.2) - m.2 * (2 * c.1 - b.1 - d.1)) := by intro N; unfold nr sc cr; grind
  exact ((Ev.lin' ht e1).and (Ev.quad' ht e2)).mono fun N h => Sep.left h.1 h.2
 ·rw [if_neg ht]
  have hn : 0 < -cr b c d := by omega
  have e1 : ∀ N, cr (sc N c) (sc N d) (nr N c (b.1 + d.1 - 2 * c.1, b.2 + d.2 - 2 * c.2)) = -(N * -cr b c d) := by intro N; unfold nr sc cr; grind
  have e2 : ∀ N, cr (sc N c) (sc N d) (nr N b m) = -(N * N * -cr b c d + N * (-((d.1 - c.1) * m.2 - (d.2 - c.2) * m.1)) + 0) := by intro N; unfold nr sc cr; grind
  refine ((Ev.ge 1).and (Ev.quad hn (-((d.1 - c.1) * m.2 - (d.2 - c.2) * m.1)) 0)).mono fun N h => (Sep.right ?_ ?_).symm
  ·rw [e2]
   omega
  ·rw [e1]
   have := (mulp (show 0 < N by omega)).2 hn
   omega
end
end Go.Proofs.YtndkfpmklmcjjaaGreat
namespace Go.Proofs.YtndkfpmklmcjjaaGreat
/-- What is asked of a way round: neighbours do not lie on a line, and no edges meet but neighbours. -/
structure Simp (ps : List Pt) : Prop where
 len : 3 ≤ ps.length
 bend : ∀ i, cr (cor ps i) (cor ps (i + 1)) (cor ps (i + 2)) ≠ 0
 far : ∀ i k, i < ps.length → k < ps.length → k ≠ i → k ≠ (i + 1) % ps.length → i ≠ (k + 1) % ps.length → meetB (cor ps i) (cor ps (i + 1)) (cor ps k) (cor ps (k + 1)) = false
theorem cor_eqm {ps : List Pt} {i k : Nat} (h : i % ps.length = k % ps.length) : cor ps i = cor ps k := by rw [cor_mod2, h, ← cor_mod2]
theorem cor_per (ps : List Pt) (i : Nat) : cor ps (i + ps.length) = cor ps i := cor_eqm (Nat.add_mod_right _ _)
theorem pv_simp {ps : List Pt} (h : PValid ps = true) : Simp ps := by
 have hp := pv_parts h
 refine ⟨by omega, fun i => ?_, fun i k hi hk h1 h2 h3 => ?_⟩
 ·have hv := pv_vert h (i := (i + 1) % ps.length) (Nat.mod_lt _ (by omega))
  unfold vertOk tn at hv
  simp only [Bool.not_eq_true', Bool.or_eq_false_iff, beq_eq_false_iff_ne, ne_eq, sg_zero] at hv
  have e1 : cor ps ((i + 1) % ps.length + ps.length - 1) = cor ps i := cor_eqm (by
   rw [show (i + 1) % ps.length + ps.length - 1 = (i + 1) % ps.length + (ps.length - 1) by omega, Nat.mod_add_mod, show i + 1 + (ps.length - 1) = i + ps.length by omega, Nat.add_mod_right])
  have e2 : cor ps ((i + 1) % ps.length) = cor ps (i + 1) := (cor_mod2 _ _).symm
  have e3 : cor ps ((i + 1) % ps.length + 1) = cor ps (i + 2) := cor_eqm (by rw [Nat.mod_add_mod])
  rw [e1, e2, e3] at hv
  exact hv.2
 ·have go : ∀ i k, i < k → k < ps.length → k ≠ (i + 1) % ps.length → i ≠ (k + 1) % ps.length → meetB (cor ps i) (cor ps (i + 1)) (cor ps k) (cor ps (k + 1)) = false := by
   intro i k hik hk h2 h3
   have hs : simpleOf ps = true := by
    unfold PValid at h
    simp only [Bool.and_eq_true] at h
    exact h.2.2.1
   unfold simpleOf at hs
   have h4 := List.all_eq_true.1 hs i (List.mem_range.2 (by omega))
   unfold rowOk at h4
   have h5 := List.all_eq_true.1 h4 k (List.mem_range.2 hk)
   unfold pairOk at h5
   rw [Nat.mod_eq_of_lt (by omega)] at h2
   have h6 : ¬ (i = 0 ∧ k + 1 = ps.length) := fun ⟨a, b⟩ => h3 (by rw [b, Nat.mod_self, a])
   simpa [show ¬ k ≤ i + 1 by omega, h6] using h5
  rcases Nat.lt_trichotomy i k with h9 | h9 | h9
  ·exact go i k h9 hk h2 h3
  ·exact absurd h9.symm h1
  ·rw [← meetB_comm]
   exact go k i h9 hi h3 h2
theorem Simp.sc {ps : List Pt} (h : Simp ps) {d : Int} (hd : 0 < d) : Simp (ps.map (sc d)) := by
 refine ⟨by rw [List.length_map]; exact h.len, fun i => ?_, fun i k => ?_⟩
 ·rw [cor_sc, cor_sc, cor_sc, cr_sc]
  intro h0
  exact h.bend i ((mulz (dd_pos hd)).1 h0)
 ·rw [List.length_map, cor_sc, cor_sc, cor_sc, cor_sc, meetB_sc hd]
  exact h.far i k
/-- The sidewalk. -/
def side (N : Int) (ps : List Pt) : List Pt := (List.range ps.length).map fun i => nr N (cor ps i) (mv (cor ps (i + ps.length - 1)) (cor ps i) (cor ps (i + 1)))
theorem side_len (N : Int) (ps : List Pt) : (side N ps).length = ps.length := by unfold side; simp
theorem cor_side {ps : List Pt} (h : 0 < ps.length) (N : Int) (i : Nat) : cor (side N ps) (i + 1) = nr N (cor ps (i + 1)) (mv (cor ps i) (cor ps (i + 1)) (cor ps (i + 2))) := by
 have hj : (i + 1) % ps.length < ps.length := Nat.mod_lt _ h
 rw [show cor (side N ps) (i + 1) = cor (side N ps) ((i + 1) % ps.length) by rw [cor_mod2, side_len]]
 have : (side N ps)[(i + 1) % ps.length]? = some (cor (side N ps) ((i + 1) % ps.length)) := cor_get (by rw [side_len]; exact hj)
 unfold side at this ⊢
 rw [List.getElem?_map, List.getElem?_range hj, Option.map_some] at this
 have := Option.some.inj this
 rw [← this]
 have e1 : cor ps ((i + 1) % ps.length + ps.length - 1) = cor ps i := cor_eqm (by
  rw [show (i + 1) % ps.length + ps.length - 1 = (i + 1) % ps.length + (ps.length - 1) by omega, Nat.mod_add_mod, show i + 1 + (ps.length - 1) = i + ps.length by omega, Nat.add_mod_right])
 have e2 : cor ps ((i + 1) % ps.length) = cor ps (i + 1) := (cor_mod2 _ _).symm
 have e3 : cor ps ((i + 1) % ps.length + 1) = cor ps (i + 2) := cor_eqm (by rw [Nat.mod_add_mod])
 rw [e1, e2, e3]
/-- What each edge of the sidewalk keeps clear of. -/
theorem side_sep {ps : List Pt} (h : Simp ps) : Ev fun N => ∀ i, i < ps.length → ∀ k, k < ps.length → Sep (cor (side N ps) (i + 1)) (cor (side N ps) (i + 2)) (sc N (cor ps k)) (sc N (cor ps (k + 1))) := by
 have hl := h.len
 refine Ev.all ps.length (P := fun i N => ∀ k, k < ps.length → Sep (cor (side N ps) (i + 1)) (cor (side N ps) (i + 2)) (sc N (cor ps k)) (sc N (cor ps (k + 1)))) fun i hi => ?_
 refine Ev.all ps.length (P := fun k N => Sep (cor (side N ps) (i + 1)) (cor (side N ps) (i + 2)) (sc N (cor ps k)) (sc N (cor ps (k + 1)))) fun k hk => ?_
 have e1 := fun N => cor_side (ps := ps) (by omega) N i
 have e2 := fun N => cor_side (ps := ps) (by omega) N (i + 1)
 have b1 := h.bend i
 have b2 := h.bend (i + 1)
 by_cases c1 : k = (i + 1) % ps.length
 ·have f1 : cor ps k = cor ps (i + 1) := by rw [c1, ← cor_mod2]
  have f2 : cor ps (k + 1) = cor ps (i + 2) := cor_eqm (by rw [c1, Nat.mod_add_mod])
  rw [f1, f2]
  refine (side_own _ _ _ _ b1 b2).mono fun N hN => ?_
  rw [e1, e2]
  exact hN
 by_cases c2 : k = i
 ·rw [c2]
  refine (side_last _ (cor ps (i + 1)) _ (cor ps (i + 3)) b1).mono fun N hN => ?_
  rw [e1, e2]
  exact hN
 by_cases c3 : k = (i + 2) % ps.length
 ·have f1 : cor ps k = cor ps (i + 2) := by rw [c3, ← cor_mod2]
  have f2 : cor ps (k + 1) = cor ps (i + 3) := cor_eqm (by rw [c3, Nat.mod_add_mod])
  rw [f1, f2]
  refine (side_next (cor ps i) (cor ps (i + 1)) _ _ b2).mono fun N hN => ?_
  rw [e1, e2]
  exact hN
 have f1 : cor ps ((i + 1) % ps.length) = cor ps (i + 1) := (cor_mod2 _ _).symm
 have f2 : cor ps ((i + 1) % ps.length + 1) = cor ps (i + 2) := cor_eqm (by rw [Nat.mod_add_mod])
 have hm := h.far ((i + 1) % ps.length) k (Nat.mod_lt _ (by omega)) hk c1 (by rw [Nat.mod_add_mod]; exact c3) (fun e => c2 (by
  have : (i + 1) % ps.length = (k + 1) % ps.length := e
  rcases Nat.lt_or_ge (i + 1) ps.length with x | x <;> rcases Nat.lt_or_ge (k + 1) ps.length with y | y
  ·rw [Nat.mod_eq_of_lt x, Nat.mod_eq_of_lt y] at this; omega
  ·rw [Nat.mod_eq_of_lt x, show k + 1 = ps.length by omega, Nat.mod_self] at this; omega
  ·rw [Nat.mod_eq_of_lt y, show i + 1 = ps.length by omega, Nat.mod_self] at this; omega
  ·omega))
 rw [f1, f2] at hm
 refine ((sep_of hm).near (mv (cor ps i) (cor ps (i + 1)) (cor ps (i + 2))) (mv (cor ps (i + 1)) (cor ps (i + 2)) (cor ps (i + 3))) (0, 0) (0, 0)).mono fun N hN => ?_
 rw [nr_zero, nr_zero] at hN
 rw [e1, e2]
 exact hN
/-- Round a way the winding number about another one that it does not meet is the same. -/
theorem wn_round {ps qs : List Pt} (hn : 0 < qs.length) (hm : ∀ i, i < ps.length → ∀ k, k < qs.length → meetB (cor ps i) (cor ps (i + 1)) (cor qs k) (cor qs (k + 1)) = false) : ∀ k, wn ps (cor qs k) = wn ps (cor qs 0) := by
 have go : ∀ k, k < qs.length → wn ps (cor qs k) = wn ps (cor qs 0) := by
  intro k
  induction k with
  | zero => intro _; rfl
  | succ k ih =>
   intro hk
   rw [← ih (by omega)]
   exact (wn_const fun i hi => by rw [meetB_comm]; exact hm i hi k (by omega)).symm
 intro k
 rw [cor_mod2]
 exact go _ (Nat.mod_lt _ hn)
theorem side_meet {ps : List Pt} (h : Simp ps) : Ev fun N => ∀ i, i < ps.length → ∀ k, k < (side N ps).length → meetB (cor (ps.map (sc N)) i) (cor (ps.map (sc N)) (i + 1)) (cor (side N ps) k) (cor (side N ps) (k + 1)) = false := by
 have hl := h.len
 refine (side_sep h).mono fun N hN i hi k hk => ?_
 rw [side_len] at hk
 rw [cor_sc, cor_sc, meetB_comm]
 -- k = k' + 1 counted round
 obtain ⟨k', hk', e⟩ : ∃ k', k' < ps.length ∧ (k' + 1) % ps.length = k := by
  rcases Nat.eq_zero_or_pos k with h0 | h0
  ·exact ⟨ps.length - 1, by omega, by rw [show ps.length - 1 + 1 = ps.length by omega, Nat.mod_self, h0]⟩
  ·exact ⟨k - 1, by omega, by rw [show k - 1 + 1 = k by omega, Nat.mod_eq_of_lt hk]⟩
 have f1 : cor (side N ps) k = cor (side N ps) (k' + 1) := cor_eqm (by rw [side_len, ← e, Nat.mod_mod])
 have f2 : cor (side N ps) (k + 1) = cor (side N ps) (k' + 2) := cor_eqm (by rw [side_len, ← e, Nat.mod_add_mod])
 rw [f1, f2]
 exact (hN k' hk' i hi).nomeet
end Go.Proofs.YtndkfpmklmcjjaaGreat
namespace Go.Proofs.YtndkfpmklmcjjaaGreat
/-- How an edge counts for a place that a line separates from it. -/
def gp (q : Pt) (up : Bool) (p : Pt) : Int := if up = true then b2i (decide (p.2 ≤ q.2)) else 0
theorem cw_sep {α β γ : Int} {q a b : Pt} (ha : ev α β γ a < 0) (hb : ev α β γ b < 0) (hq : 0 < ev α β γ q) : cw q a b = gp q (decide (α < 0)) a - gp q (decide (α < 0)) b := by
 have up : ∀ a b : Pt, ev α β γ a < 0 → ev α β γ b < 0 → a.2 ≤ b.2 → cw q a b = gp q (decide (α < 0)) a - gp q (decide (α < 0)) b := by
  intro a b ha hb hab
  rw [cw_up hab, crossB_up hab]
  have key : (b.2 - a.2) * ev α β γ q = (b.2 - q.2) * ev α β γ a + (q.2 - a.2) * ev α β γ b + -α * cr a b q := by unfold ev cr; grind
  by_cases h : a.2 ≤ q.2 ∧ q.2 < b.2
  ·have k1 := Int.mul_pos (show 0 < b.2 - a.2 by omega) hq
   have k2 := (muln (show 0 < b.2 - q.2 by omega)).2 ha
   have k3 := np_of (Int.le_of_lt hb) (show 0 ≤ q.2 - a.2 by omega)
   rw [Int.mul_comm] at k3
   have k4 : 0 < -α * cr a b q := by omega
   rw [decide_eq_true h, Bool.true_and]
   unfold gp
   rcases Int.lt_trichotomy α 0 with h1 | h1 | h1
   ·rw [Int.mul_comm] at k4
    have := pos_of k4 (by omega)
    rw [decide_eq_true h1, decide_eq_true this, decide_eq_true h.1, decide_eq_false (show ¬ b.2 ≤ q.2 by omega)]
    rfl
   ·rw [h1] at k4
    simp at k4
   ·have k5 : ¬ 0 < cr a b q := fun h9 => by
     have := Int.mul_pos h1 h9
     rw [Int.neg_mul] at k4
     omega
    rw [decide_eq_false (show ¬ α < 0 by omega), decide_eq_false k5]
    rfl
  ·rw [decide_eq_false h, Bool.false_and]
   unfold gp
   split
   ·rw [show decide (a.2 ≤ q.2) = decide (b.2 ≤ q.2) by rw [decide_eq_decide]; omega, b2i_f]
    omega
   ·rfl
 rcases Int.le_total a.2 b.2 with h | h
 ·exact up a b ha hb h
 ·have := up b a hb ha h
  rw [cw_swap]
  omega
theorem quad_zero {α β γ : Int} {q a b c d : Pt} (ha : ev α β γ a < 0) (hb : ev α β γ b < 0) (hc : ev α β γ c < 0) (hd : ev α β γ d < 0) (hq : 0 < ev α β γ q) : cw q a b - cw q d c = cw q a d - cw q b c := by
 rw [cw_sep ha hb hq, cw_sep hd hc hq, cw_sep ha hd hq, cw_sep hb hc hq]
 omega
theorem meet_point {q c d : Pt} (h : onB q c d = false) : meetB c d q q = false := by
 unfold meetB
 have h1 : cutB c d q q = false := by
  cases hc : cutB c d q q
  ·rfl
  ·rw [cutB_iff] at hc
   omega
 have h2 : ∀ p, onB p q q = true → p = q := by
  intro p hp
  rw [onB_iff] at hp
  apply Prod.ext <;> omega
 have h3 : onB c q q = false := by
  cases hc : onB c q q
  ·rfl
  ·rw [← h2 _ hc, onB_left] at h
   cases h
 have h4 : onB d q q = false := by
  cases hc : onB d q q
  ·rfl
  ·rw [← h2 _ hc, onB_right] at h
   cases h
 rw [h1, h, h3, h4]
 rfl
/-- It is on no edge. -/
def offB (ps : List Pt) (q : Pt) : Prop := ∀ i, onB q (cor ps i) (cor ps (i + 1)) = false
theorem offB_sc {ps : List Pt} {d : Int} (hd : 0 < d) {q : Pt} : offB (ps.map (sc d)) (sc d q) ↔ offB ps q := by
 unfold offB
 simp only [cor_sc, onB_sc hd]
theorem ev_neg_near {α β γ : Int} {p : Pt} (h : ev α β γ p < 0) (m : Pt) : Ev fun N => ev α β (N * γ) (nr N p m) < 0 :=
 (Ev.lin (show 0 < -ev α β γ p by omega) (-(α * m.1 + β * m.2))).mono fun N h => by rw [ev_nr]; rw [Int.mul_neg] at h; omega
theorem ev_pos_near {α β γ : Int} {p : Pt} (h : 0 < ev α β γ p) (m : Pt) : Ev fun N => 0 < ev α β (N * γ) (nr N p m) :=
 (Ev.lin h (α * m.1 + β * m.2)).mono fun N h => by rw [ev_nr]; omega
/-- Off the border the sidewalk's winding number is the border's. -/
theorem wn_side {ps : List Pt} (h : Simp ps) {q : Pt} (hq : offB ps q) : Ev fun N => wn (side N ps) (sc N q) = wn ps q := by
 have hl := h.len
 have hx : Ev fun N => ∀ i, i < ps.length → cw (sc N q) (sc N (cor ps (i + 1))) (sc N (cor ps (i + 2))) - cw (sc N q) (cor (side N ps) (i + 1)) (cor (side N ps) (i + 2)) = cw (sc N q) (sc N (cor ps (i + 1))) (cor (side N ps) (i + 1)) - cw (sc N q) (sc N (cor ps (i + 2))) (cor (side N ps) (i + 2)) := by
  refine Ev.all ps.length (P := fun i N => cw (sc N q) (sc N (cor ps (i + 1))) (sc N (cor ps (i + 2))) - cw (sc N q) (cor (side N ps) (i + 1)) (cor (side N ps) (i + 2)) = cw (sc N q) (sc N (cor ps (i + 1))) (cor (side N ps) (i + 1)) - cw (sc N q) (sc N (cor ps (i + 2))) (cor (side N ps) (i + 2))) fun i hi => ?_
  obtain ⟨α, β, γ, h1, h2, h3, _⟩ := sep_of (meet_point (hq (i + 1)))
  refine (((ev_neg_near h1 (0, 0)).and (ev_neg_near h2 (0, 0))).and (((ev_neg_near h1 (mv (cor ps i) (cor ps (i + 1)) (cor ps (i + 2)))).and (ev_neg_near h2 (mv (cor ps (i + 1)) (cor ps (i + 2)) (cor ps (i + 3))))).and (ev_pos_near h3 (0, 0)))).mono fun N hN => ?_
  obtain ⟨⟨k1, k2⟩, ⟨k3, k4⟩, k5⟩ := hN
  rw [nr_zero] at k1 k2 k5
  rw [cor_side (by omega) N i, cor_side (by omega) N (i + 1)]
  exact quad_zero k1 k2 k4 k3 k5
 refine (hx.and (Ev.ge 1)).mono fun N ⟨hN, h1⟩ => ?_
 have hsh : ∀ (rs : List Pt) (q : Pt), rs.length = ps.length → wn rs q = sumN (fun i => cw q (cor rs (i + 1)) (cor rs (i + 2))) rs.length := by
  intro rs q hr
  have := sumN_tel (fun i => cw q (cor rs i) (cor rs (i + 1))) rs.length
  have e : sumN (fun i => cw q (cor rs (i + 1)) (cor rs (i + 1 + 1)) - cw q (cor rs i) (cor rs (i + 1))) rs.length + wn rs q = sumN (fun i => cw q (cor rs (i + 1)) (cor rs (i + 2))) rs.length := by
   unfold wn
   rw [← sumN_add]
   exact sumN_congr _ fun i _ => by show cw q (cor rs (i + 2 - 1)) (cor rs (i + 2)) - _ + _ = _; rw [show i + 2 - 1 = i + 1 by omega]; omega
  have e2 : cor rs rs.length = cor rs 0 := cor_len rs
  have e3 : cor rs (rs.length + 1) = cor rs (0 + 1) := by rw [Nat.add_comm, ← cor_per rs (0 + 1)]
  rw [e2, e3] at this
  omega
 have w1 : wn ps q = sumN (fun i => cw (sc N q) (sc N (cor ps (i + 1))) (sc N (cor ps (i + 2)))) ps.length := by
  rw [hsh ps q rfl]
  exact sumN_congr _ fun i _ => (cw_sc (by omega) _ _ _).symm
 have w2 := hsh (side N ps) (sc N q) (side_len N ps)
 rw [side_len] at w2
 rw [w1, w2]
 have t := sumN_tel (fun i => -cw (sc N q) (sc N (cor ps (i + 1))) (cor (side N ps) (i + 1))) ps.length
 have e : sumN (fun i => -cw (sc N q) (sc N (cor ps (i + 1 + 1))) (cor (side N ps) (i + 1 + 1)) - -cw (sc N q) (sc N (cor ps (i + 1))) (cor (side N ps) (i + 1))) ps.length + sumN (fun i => cw (sc N q) (cor (side N ps) (i + 1)) (cor (side N ps) (i + 2))) ps.length = sumN (fun i => cw (sc N q) (sc N (cor ps (i + 1))) (sc N (cor ps (i + 2)))) ps.length := by
  rw [← sumN_add]
  refine sumN_congr _ fun i hi => ?_
  have := hN i hi
  show -cw (sc N q) (sc N (cor ps (i + 2))) (cor (side N ps) (i + 2)) - -cw (sc N q) (sc N (cor ps (i + 1))) (cor (side N ps) (i + 1)) + cw (sc N q) (cor (side N ps) (i + 1)) (cor (side N ps) (i + 2)) = _
  omega
 have e2 : cor ps (ps.length + 1) = cor ps (0 + 1) := by rw [Nat.add_comm, ← cor_per ps (0 + 1)]
 have e3 : cor (side N ps) (ps.length + 1) = cor (side N ps) (0 + 1) := by
  have := cor_per (side N ps) (0 + 1)
  rw [side_len] at this
  rw [← this]
  congr 1
  omega
 rw [e2, e3] at t
 omega
end Go.Proofs.YtndkfpmklmcjjaaGreat
namespace Go.Proofs.YtndkfpmklmcjjaaGreat
theorem Ev.list {A : Type} {P : A → Int → Prop} : ∀ l : List A, (∀ a, a ∈ l → Ev (P a)) → Ev fun N => ∀ a, a ∈ l → P a N
 | [], _ => ⟨0, fun _ _ a ha => by cases ha⟩
 | a :: l, h => ((h a (List.mem_cons_self ..)).and (Ev.list l fun b hb => h b (List.mem_cons_of_mem _ hb))).mono fun N ⟨x, y⟩ b hb => by
  rcases List.mem_cons.1 hb with rfl | hb
  ·exact x
  ·exact y b hb
/-- Places off the border: their winding numbers are none, or one and the same number. -/
theorem wn_many {ps : List Pt} (h : Simp ps) (l : List Pt) (hq : ∀ q, q ∈ l → offB ps q) : ∃ K, ∀ q, q ∈ l → wn ps q * wn ps q = wn ps q * K := by
 have hl := h.len
 obtain ⟨N0, hN⟩ := ((side_meet h).and (Ev.ge 1)).and (Ev.list l fun q hx => wn_side h (hq q hx))
 obtain ⟨⟨hm, h1⟩, a⟩ := hN N0 (Int.le_refl _)
 have hm' : ∀ i, i < (ps.map (sc N0)).length → ∀ k, k < (side N0 ps).length → meetB (cor (ps.map (sc N0)) i) (cor (ps.map (sc N0)) (i + 1)) (cor (side N0 ps) k) (cor (side N0 ps) (k + 1)) = false := by
  intro i hi
  rw [List.length_map] at hi
  exact hm i hi
 have hα := wn_round (ps := ps.map (sc N0)) (qs := side N0 ps) (by rw [side_len]; omega) hm'
 have hβ := wn_round (ps := side N0 ps) (qs := ps.map (sc N0)) (by rw [List.length_map]; omega) (fun i hi k hk => by rw [meetB_comm]; exact hm' k hk i hi)
 refine ⟨wn (side N0 ps) (cor (ps.map (sc N0)) 0) + wn (ps.map (sc N0)) (cor (side N0 ps) 0), fun q hx => ?_⟩
 have := pairs (q := sc N0 q) hm' hβ hα
 rw [a q hx, wn_sc (by omega)] at this
 rw [this, Int.mul_add]
theorem sumN_one {f g : Nat → Int} {i : Nat} : ∀ n, i < n → (∀ k, k < n → k ≠ i → f k = g k) → sumN f n = sumN g n + (f i - g i)
 | n + 1, hi, h => by
  unfold sumN
  by_cases e : i = n
  ·subst e
   rw [sumN_congr i (fun k hk => h k (by omega) (by omega))]
   omega
  ·rw [sumN_one n (by omega) (fun k hk hne => h k (by omega) hne), h n (by omega) (fun x => e x.symm)]
   omega
/-- The middle of an edge, at twice the scale. -/
def md (a b : Pt) : Pt := (a.1 + b.1, a.2 + b.2)
def dbl (N : Int) (ps : List Pt) : List Pt := (ps.map (sc 2)).map (sc N)
theorem dbl_len (N : Int) (ps : List Pt) : (dbl N ps).length = ps.length := by unfold dbl; simp
theorem cor_dbl (N : Int) (ps : List Pt) (i : Nat) : cor (dbl N ps) i = sc N (sc 2 (cor ps i)) := by unfold dbl; rw [cor_sc, cor_sc]
theorem Simp.dbl {ps : List Pt} (h : Simp ps) {N : Int} (hN : 0 < N) : Simp (dbl N ps) := (h.sc (d := 2) (by omega)).sc hN
/-- On which side of an edge a direction leads. -/
def xr (a b f : Pt) : Int := (b.1 - a.1) * f.2 - (b.2 - a.2) * f.1
theorem cr_mid (N : Int) (a b f : Pt) : cr (sc N (sc 2 a)) (sc N (sc 2 b)) (nr N (md a b) f) = (2 * N) * xr a b f := by unfold cr sc nr md xr; grind
theorem mid_sep {ps : List Pt} (h : Simp ps) {i k : Nat} (hi : i < ps.length) (hk : k < ps.length) (hne : k ≠ i) : Sep (md (cor ps i) (cor ps (i + 1))) (md (cor ps i) (cor ps (i + 1))) (sc 2 (cor ps k)) (sc 2 (cor ps (k + 1))) := by
 have hl := h.len
 have adj : ∀ c d : Pt, cr (sc 2 c) (sc 2 d) (md (cor ps i) (cor ps (i + 1))) ≠ 0 → Sep (md (cor ps i) (cor ps (i + 1))) (md (cor ps i) (cor ps (i + 1))) (sc 2 c) (sc 2 d) := by
  intro c d h0
  refine (sep_of (meet_point ?_)).symm
  cases ho : onB (md (cor ps i) (cor ps (i + 1))) (sc 2 c) (sc 2 d)
  ·rfl
  ·exact absurd (onB_iff.1 ho).1 h0
 by_cases c1 : k = (i + 1) % ps.length
 ·have f1 : cor ps k = cor ps (i + 1) := by rw [c1, ← cor_mod2]
  have f2 : cor ps (k + 1) = cor ps (i + 2) := cor_eqm (by rw [c1, Nat.mod_add_mod])
  rw [f1, f2]
  refine adj _ _ ?_
  have e : cr (sc 2 (cor ps (i + 1))) (sc 2 (cor ps (i + 2))) (md (cor ps i) (cor ps (i + 1))) = 2 * cr (cor ps i) (cor ps (i + 1)) (cor ps (i + 2)) := by unfold cr sc md; grind
  have := h.bend i
  omega
 by_cases c2 : i = (k + 1) % ps.length
 ·have f1 : cor ps i = cor ps (k + 1) := by rw [c2, ← cor_mod2]
  have f2 : cor ps (i + 1) = cor ps (k + 2) := cor_eqm (by rw [c2, Nat.mod_add_mod])
  rw [f1, f2] at adj ⊢
  refine adj _ _ ?_
  have e : cr (sc 2 (cor ps k)) (sc 2 (cor ps (k + 1))) (md (cor ps (k + 1)) (cor ps (k + 2))) = 2 * cr (cor ps k) (cor ps (k + 1)) (cor ps (k + 2)) := by unfold cr sc md; grind
  have := h.bend k
  omega
 ·obtain ⟨α, β, γ, h1, h2, h3, h4⟩ := sep_of (h.far i k hi hk hne c1 c2)
  have e0 : ev α β (2 * γ) (md (cor ps i) (cor ps (i + 1))) = ev α β γ (cor ps i) + ev α β γ (cor ps (i + 1)) := by unfold ev md; grind
  have e1 : ∀ p, ev α β (2 * γ) (sc 2 p) = 2 * ev α β γ p := by intro p; unfold ev sc; grind
  exact ⟨α, β, 2 * γ, by rw [e0]; omega, by rw [e0]; omega, by rw [e1]; omega, by rw [e1]; omega⟩
theorem mid_clear {ps : List Pt} (h : Simp ps) {i : Nat} (hi : i < ps.length) (f g : Pt) : Ev fun N => ∀ k, k < ps.length → k ≠ i → Sep (nr N (md (cor ps i) (cor ps (i + 1))) f) (nr N (md (cor ps i) (cor ps (i + 1))) g) (sc N (sc 2 (cor ps k))) (sc N (sc 2 (cor ps (k + 1)))) := by
 refine Ev.all ps.length (P := fun k N => k ≠ i → Sep (nr N (md (cor ps i) (cor ps (i + 1))) f) (nr N (md (cor ps i) (cor ps (i + 1))) g) (sc N (sc 2 (cor ps k))) (sc N (sc 2 (cor ps (k + 1))))) fun k hk => ?_
 by_cases e : k = i
 ·exact ⟨0, fun _ _ hx => absurd e hx⟩
 ·refine ((mid_sep h hi hk e).near f g (0, 0) (0, 0)).mono fun N hN _ => ?_
  rw [nr_zero, nr_zero] at hN
  exact hN
theorem offB_of {ps : List Pt} (hn : 0 < ps.length) {q : Pt} (h : ∀ i, i < ps.length → onB q (cor ps i) (cor ps (i + 1)) = false) : offB ps q := by
 intro i
 have := h (i % ps.length) (Nat.mod_lt _ hn)
 rwa [← cor_mod2, cor_eqm (ps := ps) (i := i % ps.length + 1) (k := i + 1) (by rw [Nat.mod_add_mod])] at this
theorem on_meet {q c d : Pt} (h : onB q c d = true) : meetB q q c d = true := by unfold meetB; rw [h]; simp
theorem mid_off {ps : List Pt} (h : Simp ps) {i : Nat} (hi : i < ps.length) {f : Pt} (hf : xr (cor ps i) (cor ps (i + 1)) f ≠ 0) : Ev fun N => offB (dbl N ps) (nr N (md (cor ps i) (cor ps (i + 1))) f) := by
 have hl := h.len
 refine ((mid_clear h hi f f).and (Ev.ge 1)).mono fun N ⟨hN, h1⟩ => offB_of (by rw [dbl_len]; omega) fun k hk => ?_
 rw [dbl_len] at hk
 rw [cor_dbl, cor_dbl]
 by_cases e : k = i
 ·rw [e]
  cases ho : onB (nr N (md (cor ps i) (cor ps (i + 1))) f) (sc N (sc 2 (cor ps i))) (sc N (sc 2 (cor ps (i + 1))))
  ·rfl
  ·have := (onB_iff.1 ho).1
   rw [cr_mid, mulz (by omega)] at this
   exact absurd this hf
 ·cases ho : onB (nr N (md (cor ps i) (cor ps (i + 1))) f) (sc N (sc 2 (cor ps k))) (sc N (sc 2 (cor ps (k + 1))))
  ·rfl
  ·have := (hN k hk e).nomeet
   rw [on_meet ho] at this
   cases this
/-- Across an edge's middle it changes by one. -/
theorem mid_step {ps : List Pt} (h : Simp ps) {i : Nat} (hi : i < ps.length) (hne : (cor ps i).2 ≠ (cor ps (i + 1)).2) :
  Ev fun N => wn (dbl N ps) (nr N (md (cor ps i) (cor ps (i + 1))) (-1, 0)) = wn (dbl N ps) (nr N (md (cor ps i) (cor ps (i + 1))) (1, 0)) + dirE (cor ps i) (cor ps (i + 1)) := by
 refine ((mid_clear h hi (-1, 0) (1, 0)).and (Ev.ge 1)).mono fun N ⟨hN, h1⟩ => ?_
 unfold wn
 rw [dbl_len]
 have hflat : (nr N (md (cor ps i) (cor ps (i + 1))) (-1, 0)).2 = (nr N (md (cor ps i) (cor ps (i + 1))) (1, 0)).2 := rfl
 have hs : ∀ w, sideB (nr N (md (cor ps i) (cor ps (i + 1))) (-1, 0)) (nr N (md (cor ps i) (cor ps (i + 1))) (1, 0)) w = false := by
  intro w
  unfold sideB
  rw [hflat, decide_eq_false (by omega)]
  rfl
 rw [sumN_one ps.length hi (g := fun k => cw (nr N (md (cor ps i) (cor ps (i + 1))) (1, 0)) (cor (dbl N ps) k) (cor (dbl N ps) (k + 1))) (fun k hk e => by
  have := edge_wn (Int.le_of_eq hflat) (hN k hk e).nomeet
  rw [hs, hs] at this
  rw [cor_dbl, cor_dbl]
  omega)]
 congr 1
 rw [cor_dbl, cor_dbl]
 have key : ∀ a b : Pt, a.2 < b.2 → cw (nr N (md a b) (-1, 0)) (sc N (sc 2 a)) (sc N (sc 2 b)) - cw (nr N (md a b) (1, 0)) (sc N (sc 2 a)) (sc N (sc 2 b)) = 1 := by
  intro a b hab
  have g1 : (sc N (sc 2 a)).2 ≤ (nr N (md a b) (-1, 0)).2 ∧ (nr N (md a b) (-1, 0)).2 < (sc N (sc 2 b)).2 := by
   have x := (mullt (show 0 < N by omega)).2 hab
   unfold nr sc md
   dsimp only
   constructor
   ·have : N * (a.2 + b.2) = N * a.2 + N * b.2 := Int.mul_add ..
    have : N * (2 * a.2) = 2 * (N * a.2) := by grind
    omega
   ·have : N * (a.2 + b.2) = N * a.2 + N * b.2 := Int.mul_add ..
    have : N * (2 * b.2) = 2 * (N * b.2) := by grind
    omega
  have g2 : (sc N (sc 2 a)).2 ≤ (nr N (md a b) (1, 0)).2 ∧ (nr N (md a b) (1, 0)).2 < (sc N (sc 2 b)).2 := g1
  rw [cw_up (by omega), cw_up (by omega), crossB_up (by omega), crossB_up (by omega), cr_mid, cr_mid, decide_eq_true g1, decide_eq_true g2]
  have x1 : 0 < 2 * N * xr a b (-1, 0) := (mulp (by omega)).2 (by unfold xr; dsimp only; omega)
  have x2 : 2 * N * xr a b (1, 0) < 0 := (muln (by omega)).2 (by unfold xr; dsimp only; omega)
  rw [decide_eq_true x1, decide_eq_false (show ¬ 0 < 2 * N * xr a b (1, 0) by omega)]
  rfl
 rcases Int.lt_trichotomy (cor ps i).2 (cor ps (i + 1)).2 with h9 | h9 | h9
 ·rw [key _ _ h9]
  unfold dirE
  rw [if_pos (by omega)]
 ·exact absurd h9 hne
 ·have := key _ _ h9
  rw [cw_swap _ (sc N (sc 2 (cor ps i))), cw_swap _ (sc N (sc 2 (cor ps i))), show md (cor ps (i + 1)) (cor ps i) = md (cor ps i) (cor ps (i + 1)) by unfold md; rw [Int.add_comm, Int.add_comm (cor ps (i + 1)).2]] at this
  unfold dirE
  rw [if_neg (by omega)]
  omega
theorem steep {ps : List Pt} (h : Simp ps) : ∃ i, i < ps.length ∧ (cor ps i).2 ≠ (cor ps (i + 1)).2 := by
 have hl := h.len
 by_cases h0 : (cor ps 0).2 = (cor ps 1).2
 ·by_cases h1 : (cor ps 1).2 = (cor ps 2).2
  ·refine absurd ?_ (h.bend 0)
   unfold cr
   rw [← h0.trans h1, ← h0]
   grind
  ·exact ⟨1, by omega, h1⟩
 ·exact ⟨0, by omega, h0⟩
theorem dirE_one (a b : Pt) : dirE a b = 1 ∨ dirE a b = -1 := by unfold dirE; split <;> simp
theorem sq_lin {x K : Int} (h : x * x = x * K) : x = 0 ∨ x = K := by
 by_cases e : x = 0
 ·exact .inl e
 ·exact .inr (Int.eq_of_mul_eq_mul_left e h)
/-- Places off the border: their winding numbers are none, or one and the same sign; left of an edge's middle it is greater by one. -/
theorem wn_sign {ps : List Pt} (h : Simp ps) (l : List Pt) (hq : ∀ q, q ∈ l → offB ps q) : ∃ K, (K = 1 ∨ K = -1) ∧ ∀ q, q ∈ l → wn ps q = 0 ∨ wn ps q = K := by
 obtain ⟨i, hi, hne⟩ := steep h
 have x1 : xr (cor ps i) (cor ps (i + 1)) (-1, 0) ≠ 0 := by unfold xr; dsimp only; omega
 have x2 : xr (cor ps i) (cor ps (i + 1)) (1, 0) ≠ 0 := by unfold xr; dsimp only; omega
 obtain ⟨N, hN⟩ := ((mid_off h hi x1).and (mid_off h hi x2)).and ((mid_step h hi hne).and (Ev.ge 1))
 obtain ⟨⟨o1, o2⟩, st, h1⟩ := hN N (Int.le_refl _)
 have hd := dirE_one (cor ps i) (cor ps (i + 1))
 obtain ⟨K, hK⟩ := wn_many (h.dbl (show 0 < N by omega)) (nr N (md (cor ps i) (cor ps (i + 1))) (-1, 0) :: nr N (md (cor ps i) (cor ps (i + 1))) (1, 0) :: l.map fun q => sc N (sc 2 q)) (by
  intro q hx
  rcases List.mem_cons.1 hx with rfl | hx
  ·exact o1
  rcases List.mem_cons.1 hx with rfl | hx
  ·exact o2
  obtain ⟨r, hr, rfl⟩ := List.mem_map.1 hx
  exact (offB_sc (by omega)).2 ((offB_sc (by omega)).2 (hq r hr)))
 have a1 := sq_lin (hK _ (List.mem_cons_self ..))
 have a2 := sq_lin (hK _ (List.mem_cons_of_mem _ (List.mem_cons_self ..)))
 refine ⟨K, by omega, fun q hx => ?_⟩
 have a3 := sq_lin (hK (sc N (sc 2 q)) (List.mem_cons_of_mem _ (List.mem_cons_of_mem _ (List.mem_map.2 ⟨q, hx, rfl⟩))))
 have e : wn (dbl N ps) (sc N (sc 2 q)) = wn ps q := by unfold dbl; rw [wn_sc (by omega), wn_sc (by omega)]
 rw [e] at a3
 exact a3
/-- A polygon's winding numbers have one sign. -/
theorem wn_sgn {ps : List Pt} (h : Simp ps) : ∃ K, (K = 1 ∨ K = -1) ∧ ∀ q, offB ps q → wn ps q = 0 ∨ wn ps q = K := by
 by_cases hx : ∃ q, offB ps q ∧ wn ps q = -1
 ·obtain ⟨q, o, e⟩ := hx
  refine ⟨-1, .inr rfl, fun r hr => ?_⟩
  obtain ⟨K, hK, ha⟩ := wn_sign h [q, r] (by simp; exact ⟨o, hr⟩)
  have a1 := ha q (by simp)
  have a2 := ha r (by simp)
  omega
 ·refine ⟨1, .inl rfl, fun r hr => ?_⟩
  obtain ⟨K, hK, ha⟩ := wn_sign h [r] (by simp; exact hr)
  have a2 := ha r (by simp)
  have : wn ps r ≠ -1 := fun e => hx ⟨r, hr, e⟩
  omega
/-- The parity of the crossings. -/
theorem par_wn (ps : List Pt) (q : Pt) : ∀ n, b2i (par ps q (List.range n)) = sumN (fun i => cw q (cor ps i) (cor ps (i + 1))) n % 2
 | 0 => by simp [par, sumN, b2i]
 | n + 1 => by
  have ih := par_wn ps q n
  rw [List.range_succ, par_snoc]
  unfold sumN
  have hd := dirE_one (cor ps n) (cor ps (n + 1))
  have e : cw q (cor ps n) (cor ps (n + 1)) = dirE (cor ps n) (cor ps (n + 1)) * b2i (crossB q (cor ps n) (cor ps (n + 1))) := rfl
  rw [e]
  revert ih
  generalize sumN (fun i => cw q (cor ps i) (cor ps (i + 1))) n = s
  cases par ps q (List.range n) <;> cases crossB q (cor ps n) (cor ps (n + 1)) <;> simp only [b2i_t, b2i_f, Bool.false_bne, Bool.bne_false, Bool.bne_true, Bool.not_false, Bool.not_true, Bool.xor_false, Bool.xor_true, Bool.false_xor, Bool.true_xor] <;> intro ih <;> omega
theorem onAny_off {ps : List Pt} (hn : 0 < ps.length) {q : Pt} : onAny ps q = false ↔ offB ps q := by
 unfold onAny
 rw [List.any_eq_false]
 constructor
 ·intro h
  exact offB_of hn fun i hi => by simpa using h i (List.mem_range.2 hi)
 ·intro h i hi
  rw [h i]
  simp
/-- Where a place is, told by its winding number. -/
theorem place_wn {ps : List Pt} (h : Simp ps) (q : Pt) : placeOf ps q = if onAny ps q = true then 0 else if wn ps q = 0 then -1 else 1 := by
 have hl := h.len
 unfold placeOf
 cases ho : onAny ps q
 ·rw [if_neg (show ¬ (false = true) by simp), if_neg (show ¬ (false = true) by simp)]
  obtain ⟨K, hK, ha⟩ := wn_sgn h
  have hw := ha q ((onAny_off (by omega)).1 ho)
  have hp := par_wn ps q ps.length
  have e : sumN (fun i => cw q (cor ps i) (cor ps (i + 1))) ps.length = wn ps q := rfl
  rw [e] at hp
  cases hb : par ps q (List.range ps.length)
  ·rw [hb, b2i_f] at hp
   rw [if_neg (show ¬ (false = true) by simp), if_pos (by omega)]
  ·rw [hb, b2i_t] at hp
   rw [if_pos rfl, if_neg (by omega)]
 ·rfl
end Go.Proofs.YtndkfpmklmcjjaaGreat
namespace Go.Proofs.YtndkfpmklmcjjaaGreat
/-- A place strictly inside of a segment. -/
def insE (z a b : Pt) : Prop := onB z a b = true ∧ z ≠ a ∧ z ≠ b
theorem on_zero {z a b : Pt} (h : onB z a b = true) : cr a b z = 0 := (onB_iff.1 h).1
section
variable {ps : List Pt} (h : Simp ps) {i : Nat} (hi : i < ps.length) {z : Pt} (hz : insE z (cor ps i) (cor ps (i + 1)))
include h hi hz
end
end Go.Proofs.YtndkfpmklmcjjaaGreat
namespace Go.Proofs.YtndkfpmklmcjjaaGreat
/-- A place counted from a far corner. -/
def at' (X s t : Nat) : Pt := ((t : Int) - X, (s : Int) - X)
/-- A place a little to the right, and less upwards. -/
def ptb (M : Int) (q : Pt) : Pt := (M * M * q.1 + M, M * M * q.2 + 1)
theorem ptb_edge (q u v : Pt) : Ev fun M => crossB (ptb M q) (sc (M * M) u) (sc (M * M) v) = crossB q u v ∧ onB (ptb M q) (sc (M * M) u) (sc (M * M) v) = false := by
 have up : ∀ u v : Pt, u.2 ≤ v.2 → Ev fun M => crossB (ptb M q) (sc (M * M) u) (sc (M * M) v) = crossB q u v ∧ onB (ptb M q) (sc (M * M) u) (sc (M * M) v) = false := by
  intro u v huv
  have hsm : ∀ M : Int, 2 ≤ M → ∀ x y : Int, (M * M * x ≤ M * M * y + 1 ↔ x ≤ y) ∧ (M * M * y + 1 < M * M * x ↔ y < x) ∧ (M * M * y + 1 ≤ M * M * x ↔ y < x) := by
   intro M hM x y
   have hMM : 4 ≤ M * M := Int.mul_le_mul hM hM (by omega) (by omega)
   have lo : ∀ x y : Int, x ≤ y → M * M * x ≤ M * M * y := fun x y h => Int.mul_le_mul_of_nonneg_left h (by omega)
   have st : ∀ x y : Int, x < y → M * M * x + M * M ≤ M * M * y := fun x y h => by
    have := lo (x + 1) y (by omega)
    rw [Int.mul_add, Int.mul_one] at this
    exact this
   refine ⟨⟨fun h => ?_, fun h => ?_⟩, ⟨fun h => ?_, fun h => ?_⟩, ⟨fun h => ?_, fun h => ?_⟩⟩
   ·rcases Int.lt_or_le y x with c | c
    ·have := st _ _ c; omega
    ·exact c
   ·have := lo _ _ h; omega
   ·rcases Int.lt_or_le y x with c | c
    ·exact c
    ·have := lo _ _ c; omega
   ·have := st _ _ h; omega
   ·rcases Int.lt_or_le y x with c | c
    ·exact c
    ·have := lo _ _ c; omega
   ·have := st _ _ h; omega
  have hcr : ∀ M : Int, cr (sc (M * M) u) (sc (M * M) v) (ptb M q) = M * M * (M * M * cr u v q + M * (-(v.2 - u.2)) + (v.1 - u.1)) := by intro M; unfold cr sc ptb; grind
  by_cases hs : u.2 ≤ q.2 ∧ q.2 < v.2
  ·have main : Ev fun M => 2 ≤ M ∧ ((0 < cr u v q ∧ 0 < M * M * cr u v q + M * (-(v.2 - u.2)) + (v.1 - u.1)) ∨ (cr u v q ≤ 0 ∧ M * M * cr u v q + M * (-(v.2 - u.2)) + (v.1 - u.1) < 0)) := by
    refine (Ev.ge 2).and ?_
    rcases Int.lt_trichotomy (cr u v q) 0 with c | c | c
    ·refine (Ev.quad (show 0 < -cr u v q by omega) (v.2 - u.2) (-(v.1 - u.1))).mono fun M hM => .inr ⟨by omega, ?_⟩
     have e : M * M * -cr u v q + M * (v.2 - u.2) + -(v.1 - u.1) = -(M * M * cr u v q + M * (-(v.2 - u.2)) + (v.1 - u.1)) := by grind
     omega
    ·refine (Ev.lin (show 0 < v.2 - u.2 by omega) (-(v.1 - u.1))).mono fun M hM => .inr ⟨by omega, ?_⟩
     rw [c, Int.mul_zero, Int.mul_neg]
     omega
    ·exact (Ev.quad c (-(v.2 - u.2)) (v.1 - u.1)).mono fun M hM => .inl ⟨c, hM⟩
   refine main.mono fun M ⟨hM, hx⟩ => ?_
   have hMM : 0 < M * M := Int.mul_pos (by omega) (by omega)
   have k := hsm M hM
   have hd : (sc (M * M) u).2 ≤ (ptb M q).2 ∧ (ptb M q).2 < (sc (M * M) v).2 := ⟨(k _ _).1.2 hs.1, (k _ _).2.1.2 hs.2⟩
   constructor
   ·rw [crossB_up (by omega), crossB_up huv, decide_eq_true hd, decide_eq_true hs]
    congr 1
    rw [decide_eq_decide, hcr, mulp hMM]
    omega
   ·cases ho : onB (ptb M q) (sc (M * M) u) (sc (M * M) v)
    ·rfl
    ·have := on_zero ho
     rw [hcr, mulz hMM] at this
     omega
  ·refine (Ev.ge 2).mono fun M hM => ?_
   have k := hsm M hM
   constructor
   ·rw [crossB_up ((mulle (Int.mul_pos (by omega) (by omega))).2 huv), crossB_up huv, decide_eq_false hs]
    rw [decide_eq_false (fun hd => hs ⟨(k _ _).1.1 hd.1, (k _ _).2.1.1 hd.2⟩)]
    rfl
   ·cases ho : onB (ptb M q) (sc (M * M) u) (sc (M * M) v)
    ·rfl
    ·have := (onB_iff.1 ho).2.2
     have hle : (sc (M * M) u).2 ≤ (sc (M * M) v).2 := (mulle (Int.mul_pos (by omega) (by omega))).2 huv
     rw [Int.min_eq_left hle, Int.max_eq_right hle] at this
     exact absurd ⟨(k _ _).1.1 this.1, (k _ _).2.2.1 this.2⟩ hs
 rcases Int.le_total u.2 v.2 with h | h
 ·exact up u v h
 ·refine (up v u h).mono fun M hM => ?_
  rw [← crossB_swap (ptb M q), ← crossB_swap q, ← onB_swap]
  exact hM
/-- Near each place there is one off the border, with the same winding number. -/
theorem ptb_wn {ps : List Pt} (hn : 0 < ps.length) (q : Pt) : Ev fun M => 0 < M * M ∧ offB (ps.map (sc (M * M))) (ptb M q) ∧ wn (ps.map (sc (M * M))) (ptb M q) = wn ps q := by
 refine ((Ev.ge 1).and (Ev.all ps.length (P := fun i M => crossB (ptb M q) (sc (M * M) (cor ps i)) (sc (M * M) (cor ps (i + 1))) = crossB q (cor ps i) (cor ps (i + 1)) ∧ onB (ptb M q) (sc (M * M) (cor ps i)) (sc (M * M) (cor ps (i + 1))) = false) fun i _ => ptb_edge q _ _)).mono fun M ⟨h1, h2⟩ => ?_
 have hMM : 0 < M * M := Int.mul_pos (by omega) (by omega)
 refine ⟨hMM, offB_of (by rw [List.length_map]; exact hn) fun i hi => ?_, ?_⟩
 ·rw [List.length_map] at hi
  rw [cor_sc, cor_sc]
  exact (h2 i hi).2
 ·unfold wn
  rw [List.length_map]
  refine sumN_congr _ fun i hi => ?_
  rw [cor_sc, cor_sc]
  unfold cw
  rw [(h2 i hi).1, dirE_sc hMM]
theorem sc_sc (a b : Int) (p : Pt) : sc a (sc b p) = sc (a * b) p := by unfold sc; dsimp only; rw [Int.mul_assoc, Int.mul_assoc]
theorem map_sc (a b : Int) (ps : List Pt) : (ps.map (sc b)).map (sc a) = ps.map (sc (a * b)) := by
 rw [List.map_map]
 exact List.map_congr_left fun p _ => sc_sc a b p
/-- A polygon, of positive area. -/
structure Poly (ps : List Pt) : Prop extends Simp ps where
 one : ∀ d, 0 < d → ∀ q, offB (ps.map (sc d)) q → wn (ps.map (sc d)) q = 0 ∨ wn (ps.map (sc d)) q = 1
theorem Poly.sc {ps : List Pt} (h : Poly ps) {d : Int} (hd : 0 < d) : Poly (ps.map (sc d)) := by
 refine ⟨h.toSimp.sc hd, fun c hc q => ?_⟩
 rw [map_sc]
 exact h.one _ (Int.mul_pos hc hd) q
end Go.Proofs.YtndkfpmklmcjjaaGreat
namespace Go.Proofs.YtndkfpmklmcjjaaGreat
/-- A functional. -/
def lin (α β : Int) (v : Pt) : Int := α * v.1 + β * v.2
section
variable {ps : List Pt} (h : Simp ps) {i : Nat} (hi : i < ps.length)
include h hi
end
end Go.Proofs.YtndkfpmklmcjjaaGreat
namespace Go.Proofs.YtndkfpmklmcjjaaGreat
theorem Sep.sc {a b c d : Pt} (h : Sep a b c d) {t : Int} (ht : 0 < t) : Sep (sc t a) (sc t b) (sc t c) (sc t d) := by
 obtain ⟨α, β, γ, h1, h2, h3, h4⟩ := h
 have e : ∀ p, ev α β (t * γ) (Go.Proofs.YtndkfpmklmcjjaaGreat.sc t p) = t * ev α β γ p := fun p => by unfold ev Go.Proofs.YtndkfpmklmcjjaaGreat.sc; grind
 exact ⟨α, β, t * γ, by rw [e]; exact (muln ht).2 h1, by rw [e]; exact (muln ht).2 h2, by rw [e]; exact (mulp ht).2 h3, by rw [e]; exact (mulp ht).2 h4⟩
end Go.Proofs.YtndkfpmklmcjjaaGreat
namespace Go.Proofs.YtndkfpmklmcjjaaGreat
end Go.Proofs.YtndkfpmklmcjjaaGreat
namespace Go.Proofs.YtndkfpmklmcjjaaGreat
end Go.Proofs.YtndkfpmklmcjjaaGreat
namespace Go.Proofs.YtndkfpmklmcjjaaGreat
/-- All places of a segment are in the polygon. -/
def segIn (ps : List Pt) (a b : Pt) : Prop := ∀ d : Int, 0 < d → ∀ z, onB z (sc d a) (sc d b) = true → 0 ≤ placeOf (ps.map (sc d)) z
theorem segIn.symm {ps : List Pt} {a b : Pt} (h : segIn ps a b) : segIn ps b a := fun d hd z hz => h d hd z (by rw [onB_swap]; exact hz)
/-- All places of one polygon are places of the other one. -/
def Sub (ps qs : List Pt) : Prop := ∀ d : Int, 0 < d → ∀ z, 0 ≤ placeOf (qs.map (sc d)) z → 0 ≤ placeOf (ps.map (sc d)) z
theorem Sub.refl (ps : List Pt) : Sub ps ps := fun _ _ _ h => h
theorem Sub.trans {ps qs rs : List Pt} (h1 : Sub ps qs) (h2 : Sub qs rs) : Sub ps rs := fun d hd z hz => h1 d hd z (h2 d hd z hz)
theorem Sub.wn {ps qs : List Pt} (hp : Poly ps) (hq : Poly qs) (h : Sub ps qs) {d : Int} (hd : 0 < d) (x : Pt) : wn (qs.map (sc d)) x ≤ wn (ps.map (sc d)) x := by
 have hl := hp.len
 have hl2 := hq.len
 obtain ⟨M, hM⟩ := (ptb_wn (ps := ps.map (sc d)) (by rw [List.length_map]; omega) x).and (ptb_wn (ps := qs.map (sc d)) (by rw [List.length_map]; omega) x)
 obtain ⟨⟨hMM, o1, w1⟩, _, o2, w2⟩ := hM M (Int.le_refl _)
 rw [← w1, ← w2]
 rw [map_sc] at o1 o2 ⊢
 rw [map_sc]
 have hd2 : 0 < M * M * d := Int.mul_pos hMM hd
 have v1 := hp.one _ hd2 _ o1
 have v2 := hq.one _ hd2 _ o2
 have := h _ hd2 (ptb M x)
 rw [place_wn (hp.toSimp.sc hd2), place_wn (hq.toSimp.sc hd2), (onAny_off (by rw [List.length_map]; omega)).2 o1, (onAny_off (by rw [List.length_map]; omega)).2 o2] at this
 simp only [Bool.false_eq_true, if_false] at this
 by_cases c1 : Go.Proofs.YtndkfpmklmcjjaaGreat.wn (ps.map (sc (M * M * d))) (ptb M x) = 0
 ·by_cases c2 : Go.Proofs.YtndkfpmklmcjjaaGreat.wn (qs.map (sc (M * M * d))) (ptb M x) = 0
  ·omega
  ·rw [if_neg c2, if_pos c1] at this
   omega
 ·omega
end Go.Proofs.YtndkfpmklmcjjaaGreat
namespace Go.Proofs.YtndkfpmklmcjjaaGreat
end Go.Proofs.YtndkfpmklmcjjaaGreat
