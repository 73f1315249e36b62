/- Two polygons whose edges do not meet, with a common place inside: one of them has a corner of the other. -/
import Derived.Test.YtdmlnmcaihodaaaDiP
import Derived.Test.YtdmlnmcaihodaaaPon
namespace Go.Proofs.Ytdmlnmcaihodaaa
set_option linter.unusedVariables false
set_option linter.unusedSimpArgs false

/-- Places with all coordinates multiplied. -/
def sc (d : Int) (p : Pt) : Pt := (d * p.1, d * p.2)
theorem cr_sc (d : Int) (a b p : Pt) : cr (sc d a) (sc d b) (sc d p) = d * d * cr a b p := by unfold cr sc; grind
theorem dd_pos {d : Int} (hd : 0 < d) : 0 < d * d := Int.mul_pos hd hd
theorem mulp {m x : Int} (hm : 0 < m) : 0 < m * x ↔ 0 < x := by
  constructor
  · intro h
    rw [Int.mul_comm] at h
    exact pos_of h hm
  · exact Int.mul_pos hm
theorem muln {m x : Int} (hm : 0 < m) : m * x < 0 ↔ x < 0 := by
  constructor
  · intro h
    rw [Int.mul_comm] at h
    exact neg_of h hm
  · intro h
    have := Int.mul_pos hm (show 0 < -x by omega)
    rw [Int.mul_neg] at this
    omega
theorem mulz {m x : Int} (hm : 0 < m) : m * x = 0 ↔ x = 0 := by
  constructor
  · intro h
    rw [Int.mul_comm] at h
    exact zero_of h hm
  · intro h
    rw [h, Int.mul_zero]
theorem mulle {m x y : Int} (hm : 0 < m) : m * x ≤ m * y ↔ x ≤ y := by
  constructor
  · intro h
    rcases Int.lt_or_le y x with h1 | h1
    · have := Int.mul_lt_mul_of_pos_left h1 hm
      omega
    · exact h1
  · exact fun h => Int.mul_le_mul_of_nonneg_left h (Int.le_of_lt hm)
theorem mullt {m x y : Int} (hm : 0 < m) : m * x < m * y ↔ x < y := by
  rw [← Int.not_le, mulle hm, Int.not_le]
theorem min_sc {d x y : Int} (hd : 0 < d) : min (d * x) (d * y) = d * min x y := by
  rcases Int.le_total x y with h | h
  · rw [Int.min_eq_left h, Int.min_eq_left ((mulle hd).2 h)]
  · rw [Int.min_eq_right h, Int.min_eq_right ((mulle hd).2 h)]
theorem max_sc {d x y : Int} (hd : 0 < d) : max (d * x) (d * y) = d * max x y := by
  rcases Int.le_total x y with h | h
  · rw [Int.max_eq_right h, Int.max_eq_right ((mulle hd).2 h)]
  · rw [Int.max_eq_left h, Int.max_eq_left ((mulle hd).2 h)]
theorem onB_sc {d : Int} (hd : 0 < d) (p a b : Pt) : onB (sc d p) (sc d a) (sc d b) = onB p a b := by
  rw [Bool.eq_iff_iff, onB_iff, onB_iff, cr_sc, mulz (dd_pos hd)]
  unfold sc
  dsimp only
  rw [min_sc hd, max_sc hd, min_sc hd, max_sc hd, mulle hd, mulle hd, mulle hd, mulle hd]
theorem cutB_sc {d : Int} (hd : 0 < d) (a b u v : Pt) : cutB (sc d a) (sc d b) (sc d u) (sc d v) = cutB a b u v := by
  have h := dd_pos hd
  rw [Bool.eq_iff_iff, cutB_iff, cutB_iff, cr_sc, cr_sc, cr_sc, cr_sc, mulp h, mulp h, mulp h, mulp h, muln h, muln h, muln h, muln h]
theorem meetB_sc {d : Int} (hd : 0 < d) (a b u v : Pt) : meetB (sc d a) (sc d b) (sc d u) (sc d v) = meetB a b u v := by
  unfold meetB
  rw [cutB_sc hd, onB_sc hd, onB_sc hd, onB_sc hd, onB_sc hd]
theorem crossB_sc {d : Int} (hd : 0 < d) (q a b : Pt) : crossB (sc d q) (sc d a) (sc d b) = crossB q a b := by
  have h := dd_pos hd
  have up : ∀ q a b : Pt, a.2 ≤ b.2 → crossB (sc d q) (sc d a) (sc d b) = crossB q a b := by
    intro q a b hab
    rw [crossB_up hab, crossB_up (show (sc d a).2 ≤ (sc d b).2 from (mulle hd).2 hab), cr_sc, Bool.eq_iff_iff]
    simp only [Bool.and_eq_true, decide_eq_true_eq]
    rw [mulp h]
    unfold sc
    dsimp only
    rw [mulle hd, mullt hd]
  rcases Int.le_total a.2 b.2 with hab | hab
  · exact up q a b hab
  · rw [← crossB_swap, ← crossB_swap q]
    exact up q b a hab
theorem cor_sc (d : Int) (ps : List Pt) (i : Nat) : cor (ps.map (sc d)) i = sc d (cor ps i) := by
  unfold cor
  rw [List.length_map, List.getD_eq_getElem?_getD, List.getD_eq_getElem?_getD, List.getElem?_map]
  cases ps[i % ps.length]?
  · unfold sc
    simp
  · rfl
theorem par_sc {d : Int} (hd : 0 < d) (ps : List Pt) (q : Pt) : ∀ n, par (ps.map (sc d)) (sc d q) (List.range n) = par ps q (List.range n)
  | 0 => rfl
  | n + 1 => by rw [List.range_succ, par_snoc, par_snoc, par_sc hd ps q n, cor_sc, cor_sc, crossB_sc hd]

theorem aff {u v z : Pt} (h : cr u v z = 0) (c d : Pt) : (v.2 - u.2) * cr c d z = (v.2 - z.2) * cr c d u + (z.2 - u.2) * cr c d v := by
  unfold cr at *
  grind
theorem common_neg {u v c d z : Pt} (hneg : cr c d u < 0) (huv : u.2 < v.2) (h1 : onB z u v = true) (h2 : onB z c d = true) : meetB u v c d = true := by
  have done1 : onB u c d = true → meetB u v c d = true := fun h => by unfold meetB; rw [h]; simp
  have done2 : onB v c d = true → meetB u v c d = true := fun h => by unfold meetB; rw [h]; simp
  have done3 : onB c u v = true → meetB u v c d = true := fun h => by unfold meetB; rw [h]; simp
  have done4 : onB d u v = true → meetB u v c d = true := fun h => by unfold meetB; rw [h]; simp
  have k1 := onB_iff.1 h1
  have k2 := onB_iff.1 h2
  have hz : u.2 ≤ z.2 ∧ z.2 ≤ v.2 := by omega
  have e0 := aff k1.1 c d
  rw [k2.1, Int.mul_zero] at e0
  have hAB : cr u v c - cr u v d = cr c d v - cr c d u := by unfold cr; grind
  -- the ends of the first one
  by_cases z1 : z.2 = u.2
  · have : z = u := by
      have hx := k1.1
      unfold cr at hx
      rw [z1, Int.sub_self, Int.mul_zero] at hx
      have : (z.1 - u.1) = 0 := zero_of (y := v.2 - u.2) (by rw [Int.mul_comm]; omega) (by omega)
      exact Prod.ext (by omega) z1
    rw [this] at h2
    exact done1 h2
  by_cases z2 : z.2 = v.2
  · have : z = v := by
      have hx := k1.1
      unfold cr at hx
      rw [z2] at hx
      have h3 : (v.1 - z.1) * (v.2 - u.2) = 0 := by grind
      have := zero_of h3 (by omega)
      exact Prod.ext (by omega) z2
    rw [this] at h2
    exact done2 h2
  have p1 : 0 < v.2 - z.2 := by omega
  have p2 : 0 < z.2 - u.2 := by omega
  obtain ⟨e, he⟩ : ∃ x, cr c d u = x := ⟨_, rfl⟩
  obtain ⟨f, hf⟩ : ∃ x, cr c d v = x := ⟨_, rfl⟩
  obtain ⟨a, ha⟩ : ∃ x, cr u v c = x := ⟨_, rfl⟩
  obtain ⟨b, hb⟩ : ∃ x, cr u v d = x := ⟨_, rfl⟩
  have e1 := hneg
  rw [he] at e1
  rw [he, hf] at e0
  rw [ha, hb, he, hf] at hAB
  have x1 := (muln p1).2 e1
  have f1 : 0 < f := (mulp p2).1 (by omega)
  -- the ends of the second one
  by_cases a0 : 0 < a ∧ b < 0
  · unfold meetB
    rw [cutB_iff.2 ⟨.inr (by rw [ha, hb]; exact a0), .inl (by rw [he, hf]; exact ⟨e1, f1⟩)⟩]
    rfl
  · have key : ∃ k m : Int, 0 ≤ k ∧ k ≤ m ∧ 0 < m ∧ (m - k) * a + k * b = 0 ∧ (k = 0 → z = c) ∧ (k = m → z = d) := by
      have hc : (d.1 - c.1) * (z.2 - c.2) = (d.2 - c.2) * (z.1 - c.1) := by have := k2.1; unfold cr at this; omega
      have hk : ∀ k m : Int, 0 < m → m * (z.1 - c.1) = k * (d.1 - c.1) → m * (z.2 - c.2) = k * (d.2 - c.2) → (m - k) * a + k * b = 0 ∧ (k = 0 → z = c) ∧ (k = m → z = d) := by
        intro k m hm m1 m2
        refine ⟨?_, fun hk => ?_, fun hk => ?_⟩
        · have : (m - k) * a + k * b = m * cr u v z := by rw [← ha, ← hb]; unfold cr; grind
          rw [this, k1.1, Int.mul_zero]
        · rw [hk, Int.zero_mul] at m1 m2
          have := (mulz hm).1 m1
          have := (mulz hm).1 m2
          exact Prod.ext (by omega) (by omega)
        · rw [hk] at m1 m2
          have := Int.eq_of_mul_eq_mul_left (by omega) m1
          have := Int.eq_of_mul_eq_mul_left (by omega) m2
          exact Prod.ext (by omega) (by omega)
      by_cases hz : c.1 = d.1 ∧ c.2 = d.2
      · have := hk 0 1 (by omega) (by omega) (by omega)
        exact ⟨0, 1, by omega, by omega, by omega, this⟩
      · rcases Int.le_total c.1 d.1 with a1 | a1 <;> rcases Int.le_total c.2 d.2 with a2 | a2
        · exact ⟨(z.1 - c.1) + (z.2 - c.2), (d.1 - c.1) + (d.2 - c.2), by omega, by omega, by omega, hk _ _ (by omega) (by grind) (by grind)⟩
        · exact ⟨(z.1 - c.1) - (z.2 - c.2), (d.1 - c.1) - (d.2 - c.2), by omega, by omega, by omega, hk _ _ (by omega) (by grind) (by grind)⟩
        · exact ⟨-(z.1 - c.1) + (z.2 - c.2), -(d.1 - c.1) + (d.2 - c.2), by omega, by omega, by omega, hk _ _ (by omega) (by grind) (by grind)⟩
        · exact ⟨-(z.1 - c.1) - (z.2 - c.2), -(d.1 - c.1) - (d.2 - c.2), by omega, by omega, by omega, hk _ _ (by omega) (by grind) (by grind)⟩
    obtain ⟨k, m, hk, hkm, hm, h5, h6, h7⟩ := key
    by_cases k0 : k = 0
    · rw [h6 k0] at h1
      exact done3 h1
    · by_cases km : k = m
      · rw [h7 km] at h1
        exact done4 h1
      · have q1 : 0 < k := by omega
        have q2 : 0 < m - k := by omega
        rcases Int.lt_trichotomy a 0 with a1 | a1 | a1
        · have := (muln q2).2 a1
          have := (mulp q1).1 (show 0 < k * b by omega)
          omega
        · rw [a1, Int.mul_zero] at h5
          have := (mulz q1).1 (show k * b = 0 by omega)
          omega
        · have := (mulp q2).2 a1
          have := (muln q1).1 (show k * b < 0 by omega)
          exact absurd ⟨a1, this⟩ a0
/-- A place on both: the segments meet. -/
theorem common {u v c d z : Pt} (huv : u.2 < v.2) (h1 : onB z u v = true) (h2 : onB z c d = true) : meetB u v c d = true := by
  rcases Int.lt_trichotomy (cr c d u) 0 with e1 | e1 | e1
  · exact common_neg e1 huv h1 h2
  · have done1 : onB u c d = true → meetB u v c d = true := fun h => by unfold meetB; rw [h]; simp
    have done3 : onB c u v = true → meetB u v c d = true := fun h => by unfold meetB; rw [h]; simp
    have done4 : onB d u v = true → meetB u v c d = true := fun h => by unfold meetB; rw [h]; simp
    have k1 := onB_iff.1 h1
    have k2 := onB_iff.1 h2
    have hz : u.2 ≤ z.2 ∧ z.2 ≤ v.2 := by omega
    have e0 := aff k1.1 c d
    rw [k2.1, Int.mul_zero, e1, Int.mul_zero, Int.zero_add] at e0
    by_cases z1 : z.2 = u.2
    · have : z = u := by
        have hx := k1.1
        unfold cr at hx
        rw [z1, Int.sub_self, Int.mul_zero] at hx
        have : (z.1 - u.1) = 0 := zero_of (y := v.2 - u.2) (by rw [Int.mul_comm]; omega) (by omega)
        exact Prod.ext (by omega) z1
      rw [this] at h2
      exact done1 h2
    have f0 : cr c d v = 0 := (mulz (show 0 < z.2 - u.2 by omega)).1 e0.symm
    by_cases hcd : c.2 = d.2
    · have hc1 : c.1 = d.1 := by
        unfold cr at e1
        rw [hcd, Int.sub_self, Int.zero_mul] at e1
        rcases Int.mul_eq_zero.1 (show (d.1 - c.1) * (u.2 - d.2) = 0 by omega) with h | h
        · omega
        · omega
      have : z = c := Prod.ext (by omega) (by omega)
      rw [this] at h1
      exact done3 h1
    · have ia := idU u v c d
      have ib := idV u v c d
      rw [e1, f0] at ia ib
      simp only [Int.neg_zero, Int.zero_mul, Int.add_zero, Int.sub_zero] at ia ib
      have a0 : cr u v c = 0 := by
        rcases Int.mul_eq_zero.1 ia with h | h
        · exact h
        · omega
      have b0 : cr u v d = 0 := by
        rcases Int.mul_eq_zero.1 ib with h | h
        · exact h
        · omega
      by_cases x1 : u.2 ≤ c.2 ∧ c.2 ≤ v.2
      · exact done3 (on_of a0 x1.1 x1.2 huv)
      · by_cases x2 : u.2 ≤ d.2 ∧ d.2 ≤ v.2
        · exact done4 (on_of b0 x2.1 x2.2 huv)
        · rcases Int.lt_or_le c.2 d.2 with x3 | x3
          · exact done1 (on_of e1 (by omega) (by omega) x3)
          · refine done1 ?_
            rw [← onB_swap]
            exact on_of (by rw [cr_swap, e1]; rfl) (by omega) (by omega) (by omega)
  · rw [← meetB_swap2]
    exact common_neg (by rw [cr_swap]; omega) huv h1 (by rw [onB_swap]; exact h2)
/-- A part of a segment does not meet what the segment does not meet. -/
theorem sub_meet {u v c d z : Pt} (huv : u.2 < v.2) (h1 : onB z u v = true) (hm : meetB u v c d = false) : meetB u z c d = false := by
  cases h : meetB u z c d
  · rfl
  · exfalso
    have no : ∀ q, onB q u v = true → onB q c d = true → False := fun q a b => by rw [common huv a b] at hm; cases hm
    obtain ⟨hc, _, _, hcu, hdu⟩ := meet_parts hm
    have k1 := onB_iff.1 h1
    have hz : u.2 ≤ z.2 ∧ z.2 ≤ v.2 := by omega
    have part : ∀ q, onB q u z = true → onB q u v = true := by
      intro q hq
      have k3 := onB_iff.1 hq
      by_cases zu : z.2 = u.2
      · have : z = u := by
          have hx := k1.1
          unfold cr at hx
          rw [zu, Int.sub_self, Int.mul_zero] at hx
          have : (z.1 - u.1) = 0 := zero_of (y := v.2 - u.2) (by rw [Int.mul_comm]; omega) (by omega)
          exact Prod.ext (by omega) zu
        subst this
        have : q = z := Prod.ext (by omega) (by omega)
        rw [this]
        exact h1
      · refine on_of ?_ (by omega) (by omega) huv
        have : (z.2 - u.2) * cr u v q = (v.2 - u.2) * cr u z q := by
          have a := k1.1
          unfold cr at a ⊢
          grind
        rw [k3.1, Int.mul_zero] at this
        exact (mulz (show 0 < z.2 - u.2 by omega)).1 this
    unfold meetB at h
    simp only [Bool.or_eq_true] at h
    rcases h with h | h | h | h | h
    · have h9 := cutB_iff.1 h
      have hzu : u.2 < z.2 := by
        rcases Int.lt_or_le u.2 z.2 with h | h
        · exact h
        · exfalso
          have zu : z.2 = u.2 := by omega
          have : z = u := by
            have hx := k1.1
            unfold cr at hx
            rw [zu, Int.sub_self, Int.mul_zero] at hx
            have : (z.1 - u.1) = 0 := zero_of (y := v.2 - u.2) (by rw [Int.mul_comm]; omega) (by omega)
            exact Prod.ext (by omega) zu
          rw [this] at h9
          omega
      have p1 : 0 < v.2 - u.2 := by omega
      have p2 : 0 < z.2 - u.2 := by omega
      have p3 : 0 ≤ v.2 - z.2 := by omega
      have e0 := aff k1.1 c d
      have ac : (z.2 - u.2) * cr u v c = (v.2 - u.2) * cr u z c := by have a := k1.1; unfold cr at a ⊢; grind
      have ad : (z.2 - u.2) * cr u v d = (v.2 - u.2) * cr u z d := by have a := k1.1; unfold cr at a ⊢; grind
      have hcut : cutB u v c d = true := by
        rw [cutB_iff]
        refine ⟨?_, ?_⟩
        · have s1 : 0 < cr u v c ↔ 0 < cr u z c := by rw [← mulp (x := cr u v c) p2, ac, mulp p1]
          have s2 : cr u v c < 0 ↔ cr u z c < 0 := by rw [← muln (x := cr u v c) p2, ac, muln p1]
          have s3 : 0 < cr u v d ↔ 0 < cr u z d := by rw [← mulp (x := cr u v d) p2, ad, mulp p1]
          have s4 : cr u v d < 0 ↔ cr u z d < 0 := by rw [← muln (x := cr u v d) p2, ad, muln p1]
          rw [s1, s2, s3, s4]
          exact h9.1
        · rcases h9.2 with ⟨x, y⟩ | ⟨x, y⟩
          · have y2 := (mulp p1).2 y
            have x2 := np_of (Int.le_of_lt x) p3
            rw [Int.mul_comm] at x2
            exact .inl ⟨x, (mulp p2).1 (by omega)⟩
          · have y2 := (muln p1).2 y
            have x2 := Int.mul_nonneg p3 (Int.le_of_lt x)
            exact .inr ⟨x, (muln p2).1 (by omega)⟩
      rw [hcut] at hc
      cases hc
    · exact no u (onB_left u v) h
    · exact no z h1 h
    · have := part c h
      rw [this] at hcu
      cases hcu
    · have := part d h
      rw [this] at hdu
      cases hdu

/-- The parity of a property over indices. -/
def xorL (n : Nat) (g : Nat → Bool) : Bool := (List.range n).foldl (fun s i => s ^^ g i) false
theorem xorL_succ (n : Nat) (g : Nat → Bool) : xorL (n + 1) g = (xorL n g ^^ g n) := by unfold xorL; rw [List.range_succ, List.foldl_append]; rfl
theorem xorL_congr {g h : Nat → Bool} : ∀ n, (∀ i, i < n → g i = h i) → xorL n g = xorL n h
  | 0, _ => rfl
  | n + 1, e => by rw [xorL_succ, xorL_succ, xorL_congr n (fun i hi => e i (by omega)), e n (by omega)]
theorem xorL_false {g : Nat → Bool} : ∀ n, (∀ i, i < n → g i = false) → xorL n g = false
  | 0, _ => rfl
  | n + 1, e => by rw [xorL_succ, xorL_false n (fun i hi => e i (by omega)), e n (by omega)]; rfl
theorem xorL_xor (g h : Nat → Bool) : ∀ n, xorL n (fun i => g i ^^ h i) = (xorL n g ^^ xorL n h)
  | 0 => rfl
  | n + 1 => by
    rw [xorL_succ, xorL_succ, xorL_succ, xorL_xor g h n]
    cases xorL n g <;> cases xorL n h <;> cases g n <;> cases h n <;> rfl
theorem xorL_and (b : Bool) (g : Nat → Bool) : ∀ n, xorL n (fun i => b && g i) = (b && xorL n g)
  | 0 => by cases b <;> rfl
  | n + 1 => by
    rw [xorL_succ, xorL_succ, xorL_and b g n]
    cases b <;> cases xorL n g <;> cases g n <;> rfl
theorem xorL_comm (g : Nat → Nat → Bool) (m : Nat) : ∀ n, xorL n (fun i => xorL m (fun k => g i k)) = xorL m (fun k => xorL n (fun i => g i k))
  | 0 => (xorL_false m fun _ _ => rfl).symm
  | n + 1 => by
    rw [xorL_succ, xorL_comm g m n, ← xorL_xor]
    exact xorL_congr m fun k _ => (xorL_succ n fun i => g i k).symm
theorem par_xorL (ps : List Pt) (q : Pt) (n : Nat) : par ps q (List.range n) = xorL n fun i => crossB q (cor ps i) (cor ps (i + 1)) := rfl

/-- The lower end and the upper end of an edge. -/
def lo (a b : Pt) : Pt := if a.2 ≤ b.2 then a else b
def hi (a b : Pt) : Pt := if a.2 ≤ b.2 then b else a
theorem lohi (a b : Pt) : (lo a b = a ∧ hi a b = b ∧ a.2 ≤ b.2) ∨ (lo a b = b ∧ hi a b = a ∧ b.2 ≤ a.2) := by
  unfold lo hi
  by_cases h : a.2 ≤ b.2
  · exact .inl ⟨if_pos h, if_pos h, h⟩
  · exact .inr ⟨if_neg h, if_neg h, by omega⟩
theorem lohi_le (a b : Pt) : (lo a b).2 ≤ (hi a b).2 := by rcases lohi a b with ⟨e, f, h⟩ | ⟨e, f, h⟩ <;> rw [e, f] <;> exact h
theorem cross_lohi (q a b : Pt) : crossB q (lo a b) (hi a b) = crossB q a b := by
  rcases lohi a b with ⟨e, f, h⟩ | ⟨e, f, h⟩ <;> rw [e, f]
  exact crossB_swap q a b
theorem meet_lohi1 (a b c d : Pt) : meetB (lo a b) (hi a b) c d = meetB a b c d := by
  rcases lohi a b with ⟨e, f, h⟩ | ⟨e, f, h⟩ <;> rw [e, f]
  exact meetB_swap1 a b c d
theorem meet_lohi2 (a b c d : Pt) : meetB a b (lo c d) (hi c d) = meetB a b c d := by
  rcases lohi c d with ⟨e, f, h⟩ | ⟨e, f, h⟩ <;> rw [e, f]
  exact meetB_swap2 a b c d
theorem cross_parts {q u v : Pt} (huv : u.2 ≤ v.2) (h : crossB q u v = true) : u.2 ≤ q.2 ∧ q.2 < v.2 ∧ 0 < cr u v q := by
  rw [crossB_up huv] at h
  simp only [Bool.and_eq_true, decide_eq_true_eq] at h
  exact ⟨h.1.1, h.1.2, h.2⟩
/-- Where the ray from q crosses the edge from u to v: with all coordinates multiplied by the difference of the heights. -/
def zz (q u v : Pt) : Pt := ((v.2 - u.2) * u.1 + (v.1 - u.1) * (q.2 - u.2), (v.2 - u.2) * q.2)
theorem zz_on {q u v : Pt} (h1 : u.2 ≤ q.2) (h2 : q.2 < v.2) : onB (zz q u v) (sc (v.2 - u.2) u) (sc (v.2 - u.2) v) = true := by
  have hd : 0 < v.2 - u.2 := by omega
  refine on_of ?_ ?_ ?_ ?_
  · unfold cr zz sc; grind
  · exact (mulle hd).2 h1
  · exact (mulle hd).2 (by omega)
  · exact (mullt hd).2 (by omega)
theorem zz_cr (q u v c d : Pt) : cr (sc (v.2 - u.2) c) (sc (v.2 - u.2) d) (zz q u v) = (v.2 - u.2) * ((v.2 - u.2) * cr c d q - (d.2 - c.2) * cr u v q) := by
  unfold cr zz sc; grind
theorem zz_cross {q u v c d : Pt} (hcd : c.2 ≤ d.2) (hd : 0 < v.2 - u.2) : crossB (zz q u v) (sc (v.2 - u.2) c) (sc (v.2 - u.2) d) = (decide (c.2 ≤ q.2 ∧ q.2 < d.2) && decide ((d.2 - c.2) * cr u v q < (v.2 - u.2) * cr c d q)) := by
  rw [crossB_up ((mulle hd).2 hcd), zz_cr, Bool.eq_iff_iff]
  simp only [Bool.and_eq_true, decide_eq_true_eq]
  rw [mulp hd]
  unfold sc zz
  dsimp only
  rw [mulle hd, mullt hd]
  omega
theorem zz_imp {q u v c d : Pt} (hcd : c.2 ≤ d.2) (hu : 0 < v.2 - u.2) (hA : 0 < cr u v q) (h : crossB (zz q u v) (sc (v.2 - u.2) c) (sc (v.2 - u.2) d) = true) : crossB q c d = true := by
  rw [zz_cross hcd hu] at h
  rw [crossB_up hcd]
  simp only [Bool.and_eq_true, decide_eq_true_eq] at h ⊢
  refine ⟨h.1, ?_⟩
  have := Int.mul_nonneg (show 0 ≤ d.2 - c.2 by omega) (Int.le_of_lt hA)
  exact (mulp hu).1 (by omega)
/-- Of two edges that the ray crosses one is crossed first. -/
theorem zz_one {q u v c d : Pt} (huv : u.2 ≤ v.2) (hcd : c.2 ≤ d.2) (h1 : crossB q u v = true) (h2 : crossB q c d = true) (hm : meetB u v c d = false) : (crossB (zz q u v) (sc (v.2 - u.2) c) (sc (v.2 - u.2) d) ^^ crossB (zz q c d) (sc (d.2 - c.2) u) (sc (d.2 - c.2) v)) = true := by
  obtain ⟨a1, a2, a3⟩ := cross_parts huv h1
  obtain ⟨b1, b2, b3⟩ := cross_parts hcd h2
  have hd1 : 0 < v.2 - u.2 := by omega
  have hd2 : 0 < d.2 - c.2 := by omega
  rw [zz_cross hcd hd1, zz_cross huv hd2, show decide (c.2 ≤ q.2 ∧ q.2 < d.2) = true by simp; omega, show decide (u.2 ≤ q.2 ∧ q.2 < v.2) = true by simp; omega]
  simp only [Bool.true_and]
  rcases Int.lt_trichotomy ((d.2 - c.2) * cr u v q) ((v.2 - u.2) * cr c d q) with h | h | h
  · rw [decide_eq_true h, decide_eq_false (by omega)]
    rfl
  · exfalso
    have e1 := zz_on a1 a2
    have e2 := zz_on b1 b2
    rw [← onB_sc hd2] at e1
    rw [← onB_sc hd1] at e2
    have ez : sc (d.2 - c.2) (zz q u v) = sc (v.2 - u.2) (zz q c d) := by
      unfold sc zz
      apply Prod.ext
      · dsimp only
        unfold cr at h
        grind
      · dsimp only
        grind
    have es : ∀ p : Pt, sc (d.2 - c.2) (sc (v.2 - u.2) p) = sc ((d.2 - c.2) * (v.2 - u.2)) p := fun p => by
      unfold sc
      apply Prod.ext <;> dsimp only <;> grind
    have es2 : ∀ p : Pt, sc (v.2 - u.2) (sc (d.2 - c.2) p) = sc ((d.2 - c.2) * (v.2 - u.2)) p := fun p => by
      unfold sc
      apply Prod.ext <;> dsimp only <;> grind
    rw [es, es] at e1
    rw [es2, es2, ← ez] at e2
    have hE := Int.mul_pos hd2 hd1
    have := common (show (sc ((d.2 - c.2) * (v.2 - u.2)) u).2 < (sc ((d.2 - c.2) * (v.2 - u.2)) v).2 from (mullt hE).2 (by omega)) e1 e2
    rw [meetB_sc hE, hm] at this
    cases this
  · rw [decide_eq_false (by omega), decide_eq_true h]
    rfl
/-- Where the ray crosses an edge that does not meet the polygon, the parity is the one of the edge's lower end. -/
theorem zz_par {qs : List Pt} {q u v : Pt} (huv : u.2 ≤ v.2) (h : crossB q u v = true) (hm : ∀ k, k < qs.length → meetB u v (cor qs k) (cor qs (k + 1)) = false) :
    (xorL qs.length fun k => crossB (zz q u v) (sc (v.2 - u.2) (cor qs k)) (sc (v.2 - u.2) (cor qs (k + 1)))) = par qs u (List.range qs.length) := by
  obtain ⟨a1, a2, _⟩ := cross_parts huv h
  have hd : 0 < v.2 - u.2 := by omega
  have hz := zz_on a1 a2
  have hpc := par_const (ps := qs.map (sc (v.2 - u.2))) (a := sc (v.2 - u.2) u) (b := zz q u v) (fun k hk => by
    rw [List.length_map] at hk
    rw [cor_sc, cor_sc]
    exact sub_meet ((mullt hd).2 (by omega)) hz (by rw [meetB_sc hd]; exact hm k hk))
  rw [List.length_map, par_sc hd] at hpc
  rw [hpc, par_xorL]
  exact xorL_congr _ fun k _ => by rw [cor_sc, cor_sc]
/-- The law: two polygons whose edges do not meet, with no corner of one in the other, have no common place inside. -/
theorem no_common {ps qs : List Pt} {q : Pt} (hm : ∀ i, i < ps.length → ∀ k, k < qs.length → meetB (cor ps i) (cor ps (i + 1)) (cor qs k) (cor qs (k + 1)) = false) (h1 : ∀ i, par qs (cor ps i) (List.range qs.length) = false) (h2 : ∀ k, par ps (cor qs k) (List.range ps.length) = false) :
    (par ps q (List.range ps.length) && par qs q (List.range qs.length)) = false := by
  let P : Nat → Bool := fun i => crossB q (cor ps i) (cor ps (i + 1))
  let Q : Nat → Bool := fun k => crossB q (cor qs k) (cor qs (k + 1))
  let pl : Nat → Pt := fun i => lo (cor ps i) (cor ps (i + 1))
  let ph : Nat → Pt := fun i => hi (cor ps i) (cor ps (i + 1))
  let ql : Nat → Pt := fun k => lo (cor qs k) (cor qs (k + 1))
  let qh : Nat → Pt := fun k => hi (cor qs k) (cor qs (k + 1))
  let G : Nat → Nat → Bool := fun i k => crossB (zz q (pl i) (ph i)) (sc ((ph i).2 - (pl i).2) (cor qs k)) (sc ((ph i).2 - (pl i).2) (cor qs (k + 1)))
  let H : Nat → Nat → Bool := fun i k => crossB (zz q (ql k) (qh k)) (sc ((qh k).2 - (ql k).2) (cor ps i)) (sc ((qh k).2 - (ql k).2) (cor ps (i + 1)))
  have hG : ∀ i k, G i k = crossB (zz q (pl i) (ph i)) (sc ((ph i).2 - (pl i).2) (ql k)) (sc ((ph i).2 - (pl i).2) (qh k)) := by
    intro i k
    rcases lohi (cor qs k) (cor qs (k + 1)) with ⟨e, f, _⟩ | ⟨e, f, _⟩
    · show crossB _ _ _ = crossB _ (sc _ (lo (cor qs k) (cor qs (k + 1)))) (sc _ (hi (cor qs k) (cor qs (k + 1))))
      rw [e, f]
    · show crossB _ _ _ = crossB _ (sc _ (lo (cor qs k) (cor qs (k + 1)))) (sc _ (hi (cor qs k) (cor qs (k + 1))))
      rw [e, f, crossB_swap]
  have hH : ∀ i k, H i k = crossB (zz q (ql k) (qh k)) (sc ((qh k).2 - (ql k).2) (pl i)) (sc ((qh k).2 - (ql k).2) (ph i)) := by
    intro i k
    rcases lohi (cor ps i) (cor ps (i + 1)) with ⟨e, f, _⟩ | ⟨e, f, _⟩
    · show crossB _ _ _ = crossB _ (sc _ (lo (cor ps i) (cor ps (i + 1)))) (sc _ (hi (cor ps i) (cor ps (i + 1))))
      rw [e, f]
    · show crossB _ _ _ = crossB _ (sc _ (lo (cor ps i) (cor ps (i + 1)))) (sc _ (hi (cor ps i) (cor ps (i + 1))))
      rw [e, f, crossB_swap]
  have hP : ∀ i, P i = crossB q (pl i) (ph i) := fun i => (cross_lohi q (cor ps i) (cor ps (i + 1))).symm
  have hQ : ∀ k, Q k = crossB q (ql k) (qh k) := fun k => (cross_lohi q (cor qs k) (cor qs (k + 1))).symm
  have hpl : ∀ i, (pl i).2 ≤ (ph i).2 := fun i => lohi_le _ _
  have hql : ∀ k, (ql k).2 ≤ (qh k).2 := fun k => lohi_le _ _
  have hmm : ∀ i, i < ps.length → ∀ k, k < qs.length → meetB (pl i) (ph i) (ql k) (qh k) = false := fun i hi k hk => by
    show meetB (lo _ _) (Go.Proofs.Ytdmlnmcaihodaaa.hi _ _) (lo _ _) (Go.Proofs.Ytdmlnmcaihodaaa.hi _ _) = false
    rw [meet_lohi1, meet_lohi2]
    exact hm i hi k hk
  -- the sums
  have s1 : ∀ i, i < ps.length → xorL qs.length (fun k => P i && G i k) = false := by
    intro i hi
    rw [xorL_and]
    cases hp : P i
    · rfl
    · have := zz_par (qs := qs) (q := q) (hpl i) (by rw [← hP]; exact hp) (fun k hk => by
        show meetB (lo _ _) (Go.Proofs.Ytdmlnmcaihodaaa.hi _ _) _ _ = false
        rw [meet_lohi1]
        exact hm i hi k hk)
      show (true && xorL qs.length (G i)) = false
      rw [Bool.true_and]
      refine this.trans ?_
      show par qs (lo _ _) _ = false
      rcases lohi (cor ps i) (cor ps (i + 1)) with ⟨e, _, _⟩ | ⟨e, _, _⟩ <;> rw [e] <;> exact h1 _
  have s2 : ∀ k, k < qs.length → xorL ps.length (fun i => Q k && H i k) = false := by
    intro k hk
    rw [xorL_and]
    cases hq : Q k
    · rfl
    · have := zz_par (qs := ps) (q := q) (hql k) (by rw [← hQ]; exact hq) (fun i hi => by
        show meetB (lo _ _) (Go.Proofs.Ytdmlnmcaihodaaa.hi _ _) _ _ = false
        rw [meet_lohi1, ← meetB_comm]
        exact hm i hi k hk)
      show (true && xorL ps.length (fun i => H i k)) = false
      rw [Bool.true_and]
      refine this.trans ?_
      show par ps (lo _ _) _ = false
      rcases lohi (cor qs k) (cor qs (k + 1)) with ⟨e, _, _⟩ | ⟨e, _, _⟩ <;> rw [e] <;> exact h2 _
  have hT : ∀ i, i < ps.length → ∀ k, k < qs.length → (P i && Q k) = ((P i && G i k) ^^ (Q k && H i k)) := by
    intro i hi k hk
    cases hp : P i
    · cases hq : Q k
      · rfl
      · have hh : H i k = false := by
          cases hh : H i k
          · rfl
          · rw [hH] at hh
            rw [hQ] at hq
            obtain ⟨c1, c2, c3⟩ := cross_parts (hql k) hq
            have := zz_imp (hpl i) (by omega) c3 hh
            rw [← hP, hp] at this
            cases this
        rw [hh]
        rfl
    · cases hq : Q k
      · have hg : G i k = false := by
          cases hg : G i k
          · rfl
          · rw [hG] at hg
            rw [hP] at hp
            obtain ⟨c1, c2, c3⟩ := cross_parts (hpl i) hp
            have := zz_imp (hql k) (by omega) c3 hg
            rw [← hQ, hq] at this
            cases this
        rw [hg]
        rfl
      · have := zz_one (hpl i) (hql k) (by rw [← hP]; exact hp) (by rw [← hQ]; exact hq) (hmm i hi k hk)
        rw [hG, hH]
        simp only [Bool.true_and]
        exact this.symm
  have tot : xorL ps.length (fun i => xorL qs.length (fun k => P i && Q k)) = false := by
    have e1 : xorL ps.length (fun i => xorL qs.length (fun k => P i && Q k)) = xorL ps.length (fun i => xorL qs.length (fun k => P i && G i k) ^^ xorL qs.length (fun k => Q k && H i k)) :=
      xorL_congr _ fun i hi => by
        rw [← xorL_xor]
        exact xorL_congr _ fun k hk => hT i hi k hk
    rw [e1, xorL_xor, xorL_false _ s1, xorL_comm, xorL_false _ s2]
    rfl
  have e2 : xorL ps.length (fun i => xorL qs.length (fun k => P i && Q k)) = (par ps q (List.range ps.length) && par qs q (List.range qs.length)) := by
    have : ∀ i, xorL qs.length (fun k => P i && Q k) = (xorL qs.length Q && P i) := fun i => by rw [xorL_and, Bool.and_comm]
    simp only [this]
    rw [xorL_and, Bool.and_comm]
    rfl
  rw [← e2]
  exact tot
end Go.Proofs.Ytdmlnmcaihodaaa
