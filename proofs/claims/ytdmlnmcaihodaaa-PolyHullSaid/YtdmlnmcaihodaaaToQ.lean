/- Touch: the laws. -/
import Derived.Test.YtdmlnmcaihodaaaToP
namespace Go.Proofs.Ytdmlnmcaihodaaa
set_option linter.unusedVariables false
set_option linter.unusedSimpArgs false

/-- Turned by a half; the coordinates exchanged. -/
def ng (p : Pt) : Pt := (-p.1, -p.2)
def tr (p : Pt) : Pt := (p.2, p.1)
theorem cr_ng (a b p : Pt) : cr (ng a) (ng b) (ng p) = cr a b p := by unfold cr ng; grind
theorem cr_tr (a b p : Pt) : cr (tr a) (tr b) (tr p) = -cr a b p := by unfold cr tr; grind
theorem onB_ng (p a b : Pt) : onB (ng p) (ng a) (ng b) = onB p a b := by
  rw [Bool.eq_iff_iff, onB_iff, onB_iff, cr_ng]
  unfold ng
  dsimp only
  omega
theorem onB_tr (p a b : Pt) : onB (tr p) (tr a) (tr b) = onB p a b := by
  rw [Bool.eq_iff_iff, onB_iff, onB_iff, cr_tr]
  unfold tr
  dsimp only
  omega
theorem cutB_ng (a b u v : Pt) : cutB (ng a) (ng b) (ng u) (ng v) = cutB a b u v := by
  rw [Bool.eq_iff_iff, cutB_iff, cutB_iff, cr_ng, cr_ng, cr_ng, cr_ng]
theorem cutB_tr (a b u v : Pt) : cutB (tr a) (tr b) (tr u) (tr v) = cutB a b u v := by
  rw [Bool.eq_iff_iff, cutB_iff, cutB_iff, cr_tr, cr_tr, cr_tr, cr_tr]
  omega
theorem meetB_ng (a b u v : Pt) : meetB (ng a) (ng b) (ng u) (ng v) = meetB a b u v := by
  unfold meetB
  rw [cutB_ng, onB_ng, onB_ng, onB_ng, onB_ng]
theorem meetB_tr (a b u v : Pt) : meetB (tr a) (tr b) (tr u) (tr v) = meetB a b u v := by
  unfold meetB
  rw [cutB_tr, onB_tr, onB_tr, onB_tr, onB_tr]
theorem sub_meet_any {u v c d z : Pt} (h1 : onB z u v = true) (hm : meetB u v c d = false) : meetB u z c d = false := by
  rcases Int.lt_trichotomy u.2 v.2 with h | h | h
  · exact sub_meet h h1 hm
  · rcases Int.lt_trichotomy u.1 v.1 with k | k | k
    · rw [← onB_tr] at h1
      rw [← meetB_tr] at hm ⊢
      exact sub_meet (u := tr u) (v := tr v) k h1 hm
    · have hz := (onB_iff.1 h1).2
      have : z = v := Prod.ext (by omega) (by omega)
      rw [this]
      exact hm
    · rw [← onB_tr, ← onB_ng] at h1
      rw [← meetB_tr, ← meetB_ng] at hm ⊢
      exact sub_meet (u := ng (tr u)) (v := ng (tr v)) (show -u.1 < -v.1 by omega) h1 hm
  · rw [← onB_ng] at h1
    rw [← meetB_ng] at hm ⊢
    exact sub_meet (u := ng u) (v := ng v) (show -u.2 < -v.2 by omega) h1 hm
theorem cor_mod2 (ps : List Pt) (i : Nat) : cor ps i = cor ps (i % ps.length) := by unfold cor; rw [Nat.mod_mod]
theorem touchAny_false {ps qs : List Pt} : touchAny ps qs = false ↔ ∀ i, i < ps.length → ∀ k, k < qs.length → meetB (cor ps i) (cor ps (i + 1)) (cor qs k) (cor qs (k + 1)) = false := by
  unfold touchAny touchE meetE
  rw [List.any_eq_false]
  constructor
  · intro h i hi k hk
    have := h i (List.mem_range.2 hi)
    rw [Bool.not_eq_true, List.any_eq_false] at this
    simpa using this k (List.mem_range.2 hk)
  · intro h i hi
    rw [Bool.not_eq_true, List.any_eq_false]
    intro k hk
    rw [h i (List.mem_range.1 hi) k (List.mem_range.1 hk)]
    simp
theorem touchAny_comm (ps qs : List Pt) : touchAny qs ps = touchAny ps qs := by
  have key : ∀ a b : List Pt, touchAny a b = false → touchAny b a = false := by
    intro a b h
    rw [touchAny_false] at h ⊢
    intro k hk i hi
    rw [meetB_comm]
    exact h i hi k hk
  cases h : touchAny ps qs
  · exact key _ _ h
  · cases h2 : touchAny qs ps
    · rw [key _ _ h2] at h
      cases h
    · rfl
theorem touch_comm (ps qs : List Pt) : ptouchOf qs ps = ptouchOf ps qs := by
  unfold ptouchOf ptouch
  rw [touchAny_comm, Bool.and_comm (PValid qs), Bool.or_comm (placeOf qs (cor ps 0) == 1)]
theorem touch_self {ps : List Pt} (h : 0 < ps.length) : ptouch ps ps = true := by
  unfold ptouch
  have : touchAny ps ps = true := by
    cases hx : touchAny ps ps
    · rw [touchAny_false] at hx
      have := hx 0 h 0 h
      unfold meetB at this
      rw [onB_left] at this
      simp at this
    · rfl
  rw [this]
  rfl
/-- If no edges meet, and a corner of the second one is not in the first one, none is. -/
theorem corners_out {ps qs : List Pt} (hq : 0 < qs.length) (hm : ∀ i, i < ps.length → ∀ k, k < qs.length → meetB (cor ps i) (cor ps (i + 1)) (cor qs k) (cor qs (k + 1)) = false) (h0 : placeOf ps (cor qs 0) ≠ 1) : ∀ k, par ps (cor qs k) (List.range ps.length) = false ∧ onAny ps (cor qs k) = false := by
  have hon : ∀ k, k < qs.length → onAny ps (cor qs k) = false := by
    intro k hk
    unfold onAny
    rw [List.any_eq_false]
    intro i hi
    have := (meet_parts (hm i (List.mem_range.1 hi) k hk)).2.2.2.1
    rw [this]
    simp
  have hpar : ∀ k, k < qs.length → par ps (cor qs k) (List.range ps.length) = false := by
    intro k
    induction k with
    | zero =>
      intro hk
      rcases place_cases ps (cor qs 0) with ⟨e, f⟩ | ⟨e, g, f⟩ | ⟨e, g, f⟩
      · rw [hon 0 hk] at e; cases e
      · exact absurd f h0
      · exact g
    | succ k ih =>
      intro hk
      rw [← ih (by omega)]
      exact (par_const (ps := ps) (a := cor qs k) (b := cor qs (k + 1)) (fun i hi => by rw [meetB_comm]; exact hm i hi k (by omega))).symm
  intro k
  rw [cor_mod2]
  exact ⟨hpar _ (Nat.mod_lt _ hq), hon _ (Nat.mod_lt _ hq)⟩
theorem border_out {ps qs : List Pt} {q : Pt} (hm : ∀ i, i < ps.length → ∀ k, k < qs.length → meetB (cor ps i) (cor ps (i + 1)) (cor qs k) (cor qs (k + 1)) = false) (h1 : ∀ i, par qs (cor ps i) (List.range qs.length) = false) (h : onAny ps q = true) : placeOf qs q = -1 := by
  unfold onAny at h
  rw [List.any_eq_true] at h
  obtain ⟨i, hi, ho⟩ := h
  have hs : ∀ k, k < qs.length → meetB (cor ps i) q (cor qs k) (cor qs (k + 1)) = false := fun k hk => sub_meet_any ho (hm i (List.mem_range.1 hi) k hk)
  have hp := par_const (ps := qs) hs
  rw [h1 i] at hp
  rcases place_cases qs q with ⟨e, f⟩ | ⟨e, g, f⟩ | ⟨e, g, f⟩
  · unfold onAny at e
    rw [List.any_eq_true] at e
    obtain ⟨k, hk, hok⟩ := e
    have := (meet_parts (hs k (List.mem_range.1 hk))).2.2.1
    rw [hok] at this
    cases this
  · rw [g] at hp; cases hp
  · exact f
/-- A common place: they touch. -/
theorem touch_common {ps qs : List Pt} {q : Pt} (hp : 0 < ps.length) (hq : 0 < qs.length) (h1 : 0 ≤ placeOf ps q) (h2 : 0 ≤ placeOf qs q) : ptouch ps qs = true := by
  cases h : ptouch ps qs
  · exfalso
    unfold ptouch at h
    simp only [Bool.or_eq_false_iff, beq_eq_false_iff_ne] at h
    obtain ⟨ht, hc1, hc2⟩ := h
    have hm := touchAny_false.1 ht
    have hm2 := touchAny_false.1 ((touchAny_comm ps qs).trans ht)
    have o1 := corners_out hq hm hc1
    have o2 := corners_out hp hm2 hc2
    rcases place_cases ps q with ⟨e, f⟩ | ⟨e, g, f⟩ | ⟨e, g, f⟩
    · have := border_out hm (fun i => (o2 i).1) e
      omega
    · rcases place_cases qs q with ⟨e', f'⟩ | ⟨e', g', f'⟩ | ⟨e', g', f'⟩
      · have := border_out hm2 (fun i => (o1 i).1) e'
        omega
      · have := no_common (q := q) hm (fun i => (o2 i).1) (fun k => (o1 k).1)
        rw [g, g'] at this
        cases this
      · omega
    · omega
  · rfl
end Go.Proofs.Ytdmlnmcaihodaaa
