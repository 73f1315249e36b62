/- A polygon and the rectangle of its box: which places are in them. -/
import Derived.Test.YtdmlnmcaihodaaaBoP
namespace Go.Proofs.Ytdmlnmcaihodaaa
set_option linter.unusedVariables false
set_option linter.unusedSimpArgs false

theorem sg_nonneg {x : Int} : 0 ≤ sg x ↔ 0 ≤ x := by rcases sg_cases x with ⟨h, e⟩ | ⟨h, e⟩ | ⟨h, e⟩ <;> rw [e] <;> omega
section
variable {ps : List Pt} (hn : 0 < ps.length) (ht : ∀ i, i < ps.length → 0 < cr (cor ps (i + ps.length - 1)) (cor ps i) (cor ps (i + 1)))
include ht in
/-- In a polygon that bends inward nowhere a corner opens to all places on the left of the edges. -/
theorem opens_left {i : Nat} (hi : i < ps.length) {to : Pt} (hl : ∀ i, i < ps.length → 0 ≤ cr (cor ps i) (cor ps (i + 1)) to) : opensOf ps i to = true := by
  unfold opensOf
  have h0 : 0 < tn (cor ps (i + ps.length - 1)) (cor ps i) (cor ps (i + 1)) := sg_pos.2 (ht i hi)
  rw [if_pos h0]
  have h1 : 0 ≤ tn (cor ps i) (cor ps (i + 1)) to := sg_nonneg.2 (hl i hi)
  have h2 : 0 ≤ tn (cor ps i) to (cor ps (i + ps.length - 1)) := by
    refine sg_nonneg.2 ?_
    rw [cr_cyc]
    have hj : (i + ps.length - 1) % ps.length < ps.length := Nat.mod_lt _ (by omega)
    have := hl _ hj
    have e1 : cor ps ((i + ps.length - 1) % ps.length) = cor ps (i + ps.length - 1) := by unfold cor; rw [Nat.mod_mod]
    have e2 : cor ps ((i + ps.length - 1) % ps.length + 1) = cor ps i := by
      unfold cor
      rw [Nat.mod_add_mod, show i + ps.length - 1 + 1 = i + ps.length by omega, Nat.add_mod_right]
    rw [e1, e2] at this
    exact this
  rw [decide_eq_true h1, decide_eq_true h2]
  rfl
include ht in
theorem leads_left {a to : Pt} (hl : ∀ i, i < ps.length → 0 ≤ cr (cor ps i) (cor ps (i + 1)) to) : leadsOf ps a to = true := by
  unfold leadsOf
  split
  · rename_i i h
    exact opens_left ht (List.mem_range.1 (List.mem_of_find?_eq_some h)) hl
  · split
    · rename_i i h
      unfold edgeLeads
      rw [decide_eq_true_eq]
      exact sg_nonneg.2 (hl i (List.mem_range.1 (List.mem_of_find?_eq_some h)))
    · rfl
include ht in
/-- It has all of a segment whose ends it has. -/
theorem has_left {a b : Pt} (ha : ∀ i, i < ps.length → 0 ≤ cr (cor ps i) (cor ps (i + 1)) a) (hb : ∀ i, i < ps.length → 0 ≤ cr (cor ps i) (cor ps (i + 1)) b) (pa : 0 ≤ placeOf ps a) (pb : 0 ≤ placeOf ps b) : hasOf ps a b = true := by
  unfold hasOf hasFst
  rw [decide_eq_true pa, decide_eq_true pb, leads_left ht hb, leads_left ht ha]
  simp only [Bool.true_and]
  rw [List.all_eq_true]
  intro i hi
  rw [List.mem_range] at hi
  unfold edgeHas
  rw [opens_left ht hi ha, opens_left ht hi hb]
  have hc : cutB a b (cor ps i) (cor ps (i + 1)) = false := by
    cases h : cutB a b (cor ps i) (cor ps (i + 1))
    · rfl
    · have h2 := (cutB_iff.1 h).2
      have h3 := ha i hi
      have h4 := hb i hi
      omega
  rw [hc]
  simp
end
section
variable {b : B4} (hx : b.1.1 < b.1.2) (hy : b.2.1 < b.2.2)
include hx hy in
/-- The places of the rectangle of a box are those of the box. -/
theorem rect_place (q : Pt) : 0 ≤ placeOf (rectC b) q ↔ inB b q := by
  have c1 : crossB q (b.1.1, b.2.1) (b.1.2, b.2.1) = false := by
    rw [crossB_up (show ((b.1.1, b.2.1) : Pt).2 ≤ ((b.1.2, b.2.1) : Pt).2 from Int.le_refl _), Bool.and_eq_false_iff]
    exact .inl (decide_eq_false (by dsimp only; omega))
  have c2 : crossB q (b.1.2, b.2.1) (b.1.2, b.2.2) = (decide (b.2.1 ≤ q.2 ∧ q.2 < b.2.2) && decide (q.1 < b.1.2)) := by
    rw [crossB_up (Int.le_of_lt hy), cr_e1, Bool.eq_iff_iff]
    simp only [Bool.and_eq_true, decide_eq_true_eq]
    constructor
    · rintro ⟨h1, h2⟩
      refine ⟨h1, ?_⟩
      rw [Int.mul_comm] at h2
      have := pos_of h2 (show 0 < b.2.2 - b.2.1 by omega)
      omega
    · rintro ⟨h1, h2⟩
      exact ⟨h1, Int.mul_pos (by omega) (by omega)⟩
  have c3 : crossB q (b.1.2, b.2.2) (b.1.1, b.2.2) = false := by
    rw [crossB_up (show ((b.1.2, b.2.2) : Pt).2 ≤ ((b.1.1, b.2.2) : Pt).2 from Int.le_refl _), Bool.and_eq_false_iff]
    exact .inl (decide_eq_false (by dsimp only; omega))
  have c4 : crossB q (b.1.1, b.2.2) (b.1.1, b.2.1) = (decide (b.2.1 ≤ q.2 ∧ q.2 < b.2.2) && decide (q.1 < b.1.1)) := by
    rw [crossB_swap, crossB_up (Int.le_of_lt hy), cr_swap, cr_e3, Bool.eq_iff_iff]
    simp only [Bool.and_eq_true, decide_eq_true_eq]
    constructor
    · rintro ⟨h1, h2⟩
      refine ⟨h1, ?_⟩
      have := neg_of (x := q.1 - b.1.1) (y := b.2.2 - b.2.1) (by rw [Int.mul_comm]; omega) (by omega)
      omega
    · rintro ⟨h1, h2⟩
      refine ⟨h1, ?_⟩
      have := Int.mul_pos (show 0 < b.2.2 - b.2.1 by omega) (show 0 < -(q.1 - b.1.1) by omega)
      rw [Int.mul_neg] at this
      omega
  have hpar : par (rectC b) q (List.range (rectC b).length) = (decide (b.2.1 ≤ q.2 ∧ q.2 < b.2.2) && decide (b.1.1 ≤ q.1 ∧ q.1 < b.1.2)) := by
    show ((((false ^^ crossB q (cor (rectC b) 0) (cor (rectC b) 1)) ^^ crossB q (cor (rectC b) 1) (cor (rectC b) 2)) ^^ crossB q (cor (rectC b) 2) (cor (rectC b) 3)) ^^ crossB q (cor (rectC b) 3) (cor (rectC b) 4)) = _
    rw [rc0, rc1, rc2, rc3, rc4, c1, c2, c3, c4]
    by_cases h1 : q.1 < b.1.1
    · rw [decide_eq_true h1, decide_eq_true (show q.1 < b.1.2 by omega), decide_eq_false (show ¬ (b.1.1 ≤ q.1 ∧ q.1 < b.1.2) by omega)]
      cases decide (b.2.1 ≤ q.2 ∧ q.2 < b.2.2) <;> rfl
    · by_cases h2 : q.1 < b.1.2
      · rw [decide_eq_false h1, decide_eq_true h2, decide_eq_true (show (b.1.1 ≤ q.1 ∧ q.1 < b.1.2) by omega)]
        cases decide (b.2.1 ≤ q.2 ∧ q.2 < b.2.2) <;> rfl
      · rw [decide_eq_false h1, decide_eq_false h2, decide_eq_false (show ¬ (b.1.1 ≤ q.1 ∧ q.1 < b.1.2) by omega)]
        cases decide (b.2.1 ≤ q.2 ∧ q.2 < b.2.2) <;> rfl
  have hon : onAny (rectC b) q = true → inB b q := by
    intro h
    unfold onAny at h
    rw [List.any_eq_true] at h
    obtain ⟨i, hi, ho⟩ := h
    have h4 : i < 4 := List.mem_range.1 hi
    have ho2 := (onB_iff.1 ho).2
    unfold inB
    match i, h4 with
    | 0, _ => rw [rc0, rc1] at ho2; dsimp only at ho2; omega
    | 1, _ => rw [rc1, rc2] at ho2; dsimp only at ho2; omega
    | 2, _ => rw [rc2, rc3] at ho2; dsimp only at ho2; omega
    | 3, _ => rw [rc3, rc4] at ho2; dsimp only at ho2; omega
  constructor
  · intro h
    rcases place_cases (rectC b) q with ⟨e, f⟩ | ⟨e, g, f⟩ | ⟨e, g, f⟩
    · exact hon e
    · rw [hpar] at g
      simp only [Bool.and_eq_true, decide_eq_true_eq] at g
      unfold inB
      omega
    · omega
  · intro h
    rcases place_cases (rectC b) q with ⟨e, f⟩ | ⟨e, g, f⟩ | ⟨e, g, f⟩
    · omega
    · omega
    · exfalso
      unfold onAny at e
      rw [List.any_eq_false] at e
      unfold inB at h
      by_cases h1 : q.1 = b.1.2
      · refine e 1 (List.mem_range.2 (show 1 < 4 by omega)) ?_
        rw [rc1, rc2, onB_iff, cr_e1]
        refine ⟨by rw [h1, Int.sub_self, Int.mul_zero], ?_⟩
        dsimp only
        omega
      · by_cases h2 : q.2 = b.2.2
        · refine e 2 (List.mem_range.2 (show 2 < 4 by omega)) ?_
          rw [rc2, rc3, onB_iff, cr_e2]
          refine ⟨by rw [h2, Int.sub_self, Int.mul_zero], ?_⟩
          dsimp only
          omega
        · rw [hpar, decide_eq_true (show b.2.1 ≤ q.2 ∧ q.2 < b.2.2 by omega), decide_eq_true (show b.1.1 ≤ q.1 ∧ q.1 < b.1.2 by omega)] at g
          cases g
end
/-- The parity of the edges that cross a height is even. -/
theorem par_left {ps : List Pt} {q : Pt} (h : ∀ i, q.1 < (cor ps i).1) : par ps q (List.range ps.length) = false := by
  have one : ∀ u v : Pt, q.1 < u.1 → q.1 < v.1 → crossB q u v = (decide (u.2 ≤ q.2) ^^ decide (v.2 ≤ q.2)) := by
    have up : ∀ u v : Pt, q.1 < u.1 → q.1 < v.1 → u.2 ≤ v.2 → crossB q u v = (decide (u.2 ≤ q.2) ^^ decide (v.2 ≤ q.2)) := by
      intro u v h1 h2 huv
      rw [crossB_up huv]
      by_cases a : u.2 ≤ q.2
      · by_cases b : q.2 < v.2
        · have hc : 0 < cr u v q := by
            have e : cr u v q = (v.1 - u.1) * (q.2 - u.2) + (v.2 - u.2) * (u.1 - q.1) := by unfold cr; grind
            rcases Int.le_total u.1 v.1 with h3 | h3
            · have x1 := Int.mul_nonneg (show 0 ≤ v.1 - u.1 by omega) (show 0 ≤ q.2 - u.2 by omega)
              have x2 := Int.mul_pos (show 0 < v.2 - u.2 by omega) (show 0 < u.1 - q.1 by omega)
              omega
            · have e2 : cr u v q = (u.1 - v.1) * (v.2 - q.2) + (v.2 - u.2) * (v.1 - q.1) := by unfold cr; grind
              have x1 := Int.mul_nonneg (show 0 ≤ u.1 - v.1 by omega) (show 0 ≤ v.2 - q.2 by omega)
              have x2 := Int.mul_pos (show 0 < v.2 - u.2 by omega) (show 0 < v.1 - q.1 by omega)
              omega
          rw [decide_eq_true (show u.2 ≤ q.2 ∧ q.2 < v.2 from ⟨a, b⟩), decide_eq_true hc, decide_eq_true a, decide_eq_false (show ¬ v.2 ≤ q.2 by omega)]
          rfl
        · rw [decide_eq_false (show ¬ (u.2 ≤ q.2 ∧ q.2 < v.2) by omega), decide_eq_true a, decide_eq_true (show v.2 ≤ q.2 by omega)]
          rfl
      · rw [decide_eq_false (show ¬ (u.2 ≤ q.2 ∧ q.2 < v.2) by omega), decide_eq_false a, decide_eq_false (show ¬ v.2 ≤ q.2 by omega)]
        rfl
    intro u v h1 h2
    rcases Int.le_total u.2 v.2 with h3 | h3
    · exact up u v h1 h2 h3
    · rw [← crossB_swap, Bool.xor_comm]
      exact up v u h2 h1 h3
  have tel : ∀ n, par ps q (List.range n) = (decide ((cor ps 0).2 ≤ q.2) ^^ decide ((cor ps n).2 ≤ q.2)) := by
    intro n
    induction n with
    | zero => simp [par]
    | succ n ih =>
      rw [List.range_succ, par_snoc, ih, one _ _ (h n) (h (n + 1))]
      cases decide ((cor ps 0).2 ≤ q.2) <;> cases decide ((cor ps n).2 ≤ q.2) <;> cases decide ((cor ps (n + 1)).2 ≤ q.2) <;> rfl
  rw [tel, cor_len, Bool.xor_self]
theorem par_none {ps : List Pt} {q : Pt} (h : ∀ i, crossB q (cor ps i) (cor ps (i + 1)) = false) : ∀ n, par ps q (List.range n) = false
  | 0 => rfl
  | n + 1 => by rw [List.range_succ, par_snoc, par_none h n, h n]; rfl
/-- A place of a polygon is in its box. -/
theorem place_box {ps : List Pt} (hn : 0 < ps.length) {q : Pt} (h : 0 ≤ placeOf ps q) : inB (boxC ps) q := by
  have hb := box_has hn
  rcases place_cases ps q with ⟨e, f⟩ | ⟨e, g, f⟩ | ⟨e, g, f⟩
  · unfold onAny at e
    rw [List.any_eq_true] at e
    obtain ⟨i, _, ho⟩ := e
    have := (onB_iff.1 ho).2
    have b1 := hb i
    have b2 := hb (i + 1)
    unfold inB at *
    omega
  · obtain ⟨⟨⟨X1, X2⟩, ⟨Y1, Y2⟩⟩, hbx⟩ : ∃ x, boxC ps = x := ⟨_, rfl⟩
    rw [hbx] at hb ⊢
    unfold inB at hb ⊢
    dsimp only at hb ⊢
    have up : ∀ i, crossB q (cor ps i) (cor ps (i + 1)) = true → Y1 ≤ q.2 ∧ q.2 ≤ Y2 ∧ q.1 ≤ X2 := by
      have go : ∀ u v : Pt, (X1 ≤ u.1 ∧ u.1 ≤ X2) ∧ Y1 ≤ u.2 ∧ u.2 ≤ Y2 → (X1 ≤ v.1 ∧ v.1 ≤ X2) ∧ Y1 ≤ v.2 ∧ v.2 ≤ Y2 → u.2 ≤ v.2 → crossB q u v = true → Y1 ≤ q.2 ∧ q.2 ≤ Y2 ∧ q.1 ≤ X2 := by
        intro u v hu hv huv hc
        rw [crossB_up huv] at hc
        simp only [Bool.and_eq_true, decide_eq_true_eq] at hc
        refine ⟨by omega, by omega, ?_⟩
        rcases Int.lt_or_le X2 q.1 with h1 | h1
        · exfalso
          have e1 : cr u v q = (v.1 - u.1) * (q.2 - u.2) - (v.2 - u.2) * (q.1 - u.1) := rfl
          rcases Int.le_total u.1 v.1 with h3 | h3
          · have e2 : cr u v q = -((v.1 - u.1) * (v.2 - q.2)) - (v.2 - u.2) * (q.1 - v.1) := by unfold cr; grind
            have x1 := Int.mul_nonneg (show 0 ≤ v.1 - u.1 by omega) (show 0 ≤ v.2 - q.2 by omega)
            have x2 := Int.mul_nonneg (show 0 ≤ v.2 - u.2 by omega) (show 0 ≤ q.1 - v.1 by omega)
            omega
          · have x1 := np_of (show v.1 - u.1 ≤ 0 by omega) (show 0 ≤ q.2 - u.2 by omega)
            have x2 := Int.mul_nonneg (show 0 ≤ v.2 - u.2 by omega) (show 0 ≤ q.1 - u.1 by omega)
            omega
        · exact h1
      intro i hc
      rcases Int.le_total (cor ps i).2 (cor ps (i + 1)).2 with h3 | h3
      · exact go _ _ (hb i) (hb (i + 1)) h3 hc
      · rw [← crossB_swap] at hc
        exact go _ _ (hb (i + 1)) (hb i) h3 hc
    have hex : ∃ i, crossB q (cor ps i) (cor ps (i + 1)) = true := by
      by_cases hh : ∃ i, crossB q (cor ps i) (cor ps (i + 1)) = true
      · exact hh
      · rw [par_none (fun i => by
          cases hc : crossB q (cor ps i) (cor ps (i + 1))
          · rfl
          · exact absurd ⟨i, hc⟩ hh)] at g
        cases g
    obtain ⟨i, hc⟩ := hex
    have := up i hc
    have hl : X1 ≤ q.1 := by
      rcases Int.lt_or_le q.1 X1 with h1 | h1
      · rw [par_left (fun i => by have := hb i; omega)] at g
        cases g
      · exact h1
    omega
  · omega
/-- The rectangle of a polygon's box holds it. -/
theorem rect_holds {ps : List Pt} (h : PValid ps = true) : pholds (rectC (boxC ps)) ps = true := by
  obtain ⟨hx, hy⟩ := box_wide h
  have hn : 0 < ps.length := by have := pv_parts h; omega
  unfold pholds
  rw [List.all_eq_true]
  intro i _
  unfold holdsE
  exact has_left (rect_turn hx hy) (rect_left hx hy (box_has hn i)) (rect_left hx hy (box_has hn (i + 1))) ((rect_place hx hy _).2 (box_has hn i)) ((rect_place hx hy _).2 (box_has hn (i + 1)))
theorem rect_box {b : B4} (hx : b.1.1 < b.1.2) (hy : b.2.1 < b.2.2) (hok : okB b = true) : boxOf (rectC b) = (b, 0) := by
  unfold boxOf
  rw [rect_valid hx hy hok, if_pos rfl]
  congr 1
  refine box_uniq (show 0 < 4 by omega) ?_ ⟨0, show 0 < 4 by omega, ?_⟩ ⟨1, show 1 < 4 by omega, ?_⟩ ⟨0, show 0 < 4 by omega, ?_⟩ ⟨2, show 2 < 4 by omega, ?_⟩
  · refine rect_cases ?_ ?_ ?_ ?_
    · rw [rc0]; unfold inB; dsimp only; omega
    · rw [rc1]; unfold inB; dsimp only; omega
    · rw [rc2]; unfold inB; dsimp only; omega
    · rw [rc3]; unfold inB; dsimp only; omega
  · rw [rc0]
  · rw [rc1]
  · rw [rc0]
  · rw [rc2]
theorem inBox_eq {b : B4} (hok : okB b = true) {q : Pt} (hq : q.ok = true) (r : Bool) (h : r = true ↔ inB b q) : inBox q b = (r, 0) := by
  have ho := ok_bd hq
  unfold inBox withinBox
  have hk : okB ((q.1, q.1), (q.2, q.2)) = true := by unfold okB; rw [decide_eq_true_eq]; dsimp only; omega
  rw [hk, hok, Bool.and_true, if_pos rfl]
  congr 1
  rw [Bool.eq_iff_iff, decide_eq_true_eq, h]
  obtain ⟨⟨x1, x2⟩, ⟨y1, y2⟩⟩ := b
  unfold joinB inB
  simp only [Prod.mk.injEq]
  omega
theorem inBox_bad {b : B4} {q : Pt} (hq : q.ok = false) : (inBox q b).2 = 1 := by
  unfold inBox withinBox
  have hk : okB ((q.1, q.1), (q.2, q.2)) = false := by
    unfold Pt.ok plOk at hq
    rw [decide_eq_false_iff_not] at hq
    unfold okB
    rw [decide_eq_false_iff_not]
    dsimp only
    omega
  rw [hk]
  rfl
end Go.Proofs.Ytdmlnmcaihodaaa
