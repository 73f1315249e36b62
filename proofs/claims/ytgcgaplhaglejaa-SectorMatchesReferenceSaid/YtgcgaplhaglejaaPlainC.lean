/- Plain law: the program's test of a direction in a sector is the reference's; quarter turns. -/
import Derived.Test.YtgcgaplhaglejaaPlainB
import Derived.Test.YtgcgaplhaglejaaRefB
namespace Go.Proofs.Ytgcgaplhaglejaa
set_option linter.unusedVariables false
set_option linter.unusedSimpArgs false
open Go.RowKit Go.Sort

theorem dot_up {a b c d : Int} (hu : upper a b = true) (hv : upper c d = true) (h : crs a b c d = 0) : 0 < a * c + b * d := by
  rw [upper_iff] at hu hv
  have h' : a * d = b * c := by unfold crs at h; omega
  rcases hu with hb | ⟨rfl, ha⟩ <;> rcases hv with hd | ⟨rfl, hc⟩
  · have h1 : a * c * d = b * (c * c) := by
      rw [Int.mul_right_comm, h', Int.mul_assoc]
    have h2 : 0 ≤ b * (c * c) := Int.mul_nonneg (by omega) (by rw [← Int.natAbs_mul_self' c]; exact Int.natCast_nonneg _)
    have h3 : 0 < b * d := Int.mul_pos hb hd
    have h4 : 0 ≤ a * c := by
      rcases Int.lt_or_le (a * c) 0 with h5 | h5
      · have := Int.mul_neg_of_neg_of_pos h5 hd
        omega
      · exact h5
    omega
  · exfalso
    have := Int.mul_pos hb hc
    simp at h'
    omega
  · exfalso
    have := Int.mul_pos ha hd
    simp at h'
    omega
  · have := Int.mul_pos ha hc
    simpa using this
theorem crs_negl (a b c d : Int) : crs (-a) (-b) c d = - crs a b c d := by unfold crs; rw [Int.neg_mul, Int.neg_mul]; omega
theorem crs_negr (a b c d : Int) : crs a b (-c) (-d) = - crs a b c d := by unfold crs; rw [Int.mul_neg, Int.mul_neg]; omega
theorem alike_cw {a b c d : Int} (ha : a ≠ 0 ∨ b ≠ 0) (hc : c ≠ 0 ∨ d ≠ 0) : alike a b c d = (cmpw a b c d == 0) := by
  have hcw : (cmpw a b c d == 0) = decide (upper a b = upper c d ∧ crs a b c d = 0) := by
    unfold cmpw
    cases h1 : upper a b <;> cases h2 : upper c d <;> simp
    all_goals (split <;> (try split) <;> simp <;> omega)
  rw [hcw, Bool.eq_iff_iff]
  unfold alike
  simp only [decide_eq_true_eq]
  have e : a * d - b * c = crs a b c d := rfl
  rw [e]
  constructor
  · rintro ⟨h1, h2⟩
    refine ⟨?_, h1⟩
    cases hu : upper a b <;> cases hv : upper c d
    · rfl
    · exfalso
      have := dot_up (low_neg hu ha) hv (by rw [crs_negl, h1]; rfl)
      rw [Int.neg_mul, Int.neg_mul] at this
      omega
    · exfalso
      have := dot_up hu (low_neg hv hc) (by rw [crs_negr, h1]; rfl)
      rw [Int.mul_neg, Int.mul_neg] at this
      omega
    · rfl
  · rintro ⟨h1, h2⟩
    refine ⟨h2, ?_⟩
    cases hu : upper a b
    · rw [hu] at h1
      have := dot_up (low_neg hu ha) (low_neg h1.symm hc) (by rw [crs_neg]; exact h2)
      rwa [Int.neg_mul_neg, Int.neg_mul_neg] at this
    · rw [hu] at h1
      exact dot_up hu h1.symm h2
def nrm (v : Int × Int) : Int × Int := if upper v.1 v.2 = true then v else (-v.1, -v.2)
theorem nrm_up {v : Int × Int} (h : NZ v) : upper (nrm v).1 (nrm v).2 = true := by
  unfold nrm
  split
  · assumption
  · rename_i h1
    exact low_neg (by simpa using h1) h
theorem up_nz {v : Int × Int} (h : upper v.1 v.2 = true) : NZ v := by
  rw [upper_iff] at h
  unfold NZ
  omega
theorem cw_up {u v : Int × Int} (hu : upper u.1 u.2 = true) (hv : upper v.1 v.2 = true) : cw u v = if 0 < crs u.1 u.2 v.1 v.2 then -1 else if crs u.1 u.2 v.1 v.2 < 0 then 1 else 0 := by
  unfold cw cmpw
  rw [hu, hv]
  rfl
/-- The sign of a cross product by ranks of the directions turned up. -/
theorem crs_rk {L : List (Int × Int)} (hL : ∀ e ∈ L, NZ e) {u v : Int × Int} (hu : NZ u) (hv : NZ v) (mu : nrm u ∈ L) (mv : nrm v ∈ L) :
    (upper u.1 u.2 = upper v.1 v.2 → (0 < crs u.1 u.2 v.1 v.2 ↔ rk L (nrm u) < rk L (nrm v)) ∧ (crs u.1 u.2 v.1 v.2 < 0 ↔ rk L (nrm v) < rk L (nrm u))) ∧
    (upper u.1 u.2 ≠ upper v.1 v.2 → (crs u.1 u.2 v.1 v.2 < 0 ↔ rk L (nrm u) < rk L (nrm v)) ∧ (0 < crs u.1 u.2 v.1 v.2 ↔ rk L (nrm v) < rk L (nrm u))) := by
  have h1 := cw_up (nrm_up hu) (nrm_up hv)
  have h2 := rk_cases hL mu mv
  have key : (0 < crs (nrm u).1 (nrm u).2 (nrm v).1 (nrm v).2 ↔ rk L (nrm u) < rk L (nrm v)) ∧ (crs (nrm u).1 (nrm u).2 (nrm v).1 (nrm v).2 < 0 ↔ rk L (nrm v) < rk L (nrm u)) := by
    rw [h1] at h2
    split at h2
    · omega
    · split at h2 <;> omega
  have e : crs (nrm u).1 (nrm u).2 (nrm v).1 (nrm v).2 = if upper u.1 u.2 = upper v.1 v.2 then crs u.1 u.2 v.1 v.2 else - crs u.1 u.2 v.1 v.2 := by
    unfold nrm
    cases a : upper u.1 u.2 <;> cases b : upper v.1 v.2 <;> simp [crs_neg, crs_negl, crs_negr]
  constructor
  · intro h
    rw [if_pos h] at e
    rw [e] at key
    exact key
  · intro h
    rw [if_neg h] at e
    rw [e] at key
    omega
theorem has_eq {f t v : Int × Int} (hf : NZ f) (ht : NZ t) (hv : NZ v) : hasw f.1 f.2 t.1 t.2 v.1 v.2 = hasR f.1 f.2 t.1 t.2 v.1 v.2 := by
  have hL : ∀ e ∈ [nrm f, nrm t, nrm v], NZ e := fun e he => by
    simp at he
    rcases he with rfl | rfl | rfl
    · exact up_nz (nrm_up hf)
    · exact up_nz (nrm_up ht)
    · exact up_nz (nrm_up hv)
  have k1 := crs_rk hL hf ht (by simp) (by simp)
  have k2 := crs_rk hL hf hv (by simp) (by simp)
  have k3 := crs_rk hL ht hv (by simp) (by simp)
  have e1 : f.1 * v.2 - f.2 * v.1 = crs f.1 f.2 v.1 v.2 := rfl
  have e2 : v.1 * t.2 - v.2 * t.1 = - crs t.1 t.2 v.1 v.2 := crs_swap t.1 t.2 v.1 v.2
  have e3 : f.1 * t.2 - f.2 * t.1 = crs f.1 f.2 t.1 t.2 := rfl
  unfold hasw hasR
  rw [alike_cw hf ht, alike_cw hf hv, alike_cw ht hv, e1, e2, e3]
  generalize rk [nrm f, nrm t, nrm v] (nrm f) = p at *
  generalize rk [nrm f, nrm t, nrm v] (nrm t) = q at *
  generalize rk [nrm f, nrm t, nrm v] (nrm v) = r at *
  unfold cmpw
  generalize crs f.1 f.2 t.1 t.2 = A at *
  generalize crs f.1 f.2 v.1 v.2 = B at *
  generalize crs t.1 t.2 v.1 v.2 = C at *
  clear e1 e2 e3 hL
  cases a : upper f.1 f.2 <;> cases b : upper t.1 t.2 <;> cases c : upper v.1 v.2 <;> simp only [a, b, c] at k1 k2 k3 ⊢ <;> simp at k1 k2 k3 ⊢
  all_goals
    obtain ⟨k11, k12⟩ := k1
    obtain ⟨k21, k22⟩ := k2
    obtain ⟨k31, k32⟩ := k3
    by_cases a1 : 0 < A <;> by_cases a2 : A < 0 <;> by_cases b1 : 0 < B <;> by_cases b2 : B < 0 <;> by_cases c1 : 0 < C <;> by_cases c2 : C < 0 <;> first | (exfalso; omega) | (simp [a1, a2, b1, b2, c1, c2]; done) | (simp [a1, a2, b1, b2, c1, c2]; omega)
theorem hs_hasS {s : Sec} (h1 : NZ s.fr) (h2 : NZ s.to) {v : Int × Int} (hv : NZ v) : hs s v = hasR s.fx s.fy s.tx s.ty v.1 v.2 := has_eq h1 h2 hv
/-- A quarter turn. -/
def qt (v : Int × Int) : Int × Int := (-v.2, v.1)
theorem qt_nz {v : Int × Int} (h : NZ v) : NZ (qt v) := by unfold NZ qt at *; simp; omega
theorem alike_qt (a b c d : Int) : alike (-b) a (-d) c = alike a b c d := by
  unfold alike
  rw [Int.neg_mul, Int.mul_neg, Int.neg_mul_neg, show -(b * c) - -(a * d) = a * d - b * c by omega, show b * d + a * c = a * c + b * d by omega]
theorem hasR_qt (a b c d x y : Int) : hasR (-b) a (-d) c (-y) x = hasR a b c d x y := by
  unfold hasR
  rw [alike_qt, alike_qt, alike_qt]
  simp only [Int.neg_mul, Int.mul_neg]
  rw [show -(b * x) - -(a * y) = a * y - b * x by omega, show -(y * c) - -(x * d) = x * d - y * c by omega, show -(b * c) - -(a * d) = a * d - b * c by omega]
def qtS (s : Sec) : Sec := ⟨-s.fy, s.fx, -s.ty, s.tx, s.col, s.rng⟩
theorem hs_qt {s : Sec} (h1 : NZ s.fr) (h2 : NZ s.to) {v : Int × Int} (hv : NZ v) : hs (qtS s) (qt v) = hs s v := by
  rw [hs_hasS (s := qtS s) (qt_nz h1) (qt_nz h2) (qt_nz hv), hs_hasS h1 h2 hv]
  exact hasR_qt ..
theorem dirOk_qt (a b : Int) : dirOk (-b) a = dirOk a b := by unfold dirOk; rw [Bool.eq_iff_iff]; simp; omega
theorem ok_qt (s : Sec) : (qtS s).ok = s.ok := by
  unfold Sec.ok secOk qtS
  rw [dirOk_qt, dirOk_qt]
theorem clash_qt {s t : Sec} (h1 : NZ s.fr) (h2 : NZ s.to) (h3 : NZ t.fr) (h4 : NZ t.to) : clash (qtS s) (qtS t) = clash s t := by
  have e1 := hs_qt h1 h2 h3
  have e2 := hs_qt h3 h4 h1
  show (hs (qtS s) (qt t.fr) || hs (qtS t) (qt s.fr)) = (hs s t.fr || hs t s.fr)
  rw [e1, e2]
theorem LValid_qt {ss : List Sec} (h : LValid ss = true) : LValid (ss.map qtS) = true := by
  have hn := LV_nzs h
  rw [LValid_iff, LV_pair] at *
  obtain ⟨h1, h2, h3⟩ := h
  refine ⟨fun s hs' => ?_, ?_, by simpa using h3⟩
  · obtain ⟨t, ht, rfl⟩ := List.mem_map.1 hs'
    rw [ok_qt]
    exact h1 t ht
  · rw [List.pairwise_map]
    exact List.Pairwise.imp_of_mem (fun {s t} hs' ht' hst => by rw [clash_qt (hn s hs').1 (hn s hs').2 (hn t ht').1 (hn t ht').2]; exact hst) h2
theorem shA_qt {ss : List Sec} (hn : NZs ss) {v : Int × Int} (hv : NZ v) : shA (ss.map qtS) (qt v) = shA ss v := by
  rw [shA_def, shA_def, List.find?_map]
  have : ss.find? ((fun s => hs s (qt v)) ∘ qtS) = ss.find? (fun s => hs s v) := find_congr fun s hs' => hs_qt (hn s hs').1 (hn s hs').2 hv
  rw [this]
  cases ss.find? (fun s => hs s v) <;> rfl
theorem turns_qt (ss : List Sec) : turnsOf (ss.map qtS) = (turnsOf ss).map qt := by
  unfold turnsOf
  induction ss with
  | nil => rfl
  | cons s ss ih => simp only [List.map_cons, List.flatMap_cons, List.map_append, ih]; rfl
theorem holds_qt {sa sb : List Sec} (ha : NZs sa) (hb : NZs sb) (col : Int) : (turnsOf (sa.map qtS ++ sb.map qtS)).all (holdsAt (sa.map qtS) (sb.map qtS) col) = (turnsOf (sa ++ sb)).all (holdsAt sa sb col) := by
  rw [← List.map_append, turns_qt, List.all_map]
  rw [Bool.eq_iff_iff, List.all_eq_true, List.all_eq_true]
  have hn : NZs (sa ++ sb) := fun s hs => (List.mem_append.1 hs).elim (ha s) (hb s)
  have e : ∀ t ∈ turnsOf (sa ++ sb), (holdsAt (sa.map qtS) (sb.map qtS) col ∘ qt) t = holdsAt sa sb col t := fun t ht => by
    have hz := turns_nz hn t ht
    show holdsAt _ _ _ (qt t) = _
    rw [holdsAt_def, holdsAt_def, shA_qt ha hz, shA_qt hb hz]
  constructor <;> intro h t ht
  · rw [← e t ht]; exact h t ht
  · rw [e t ht]; exact h t ht
end Go.Proofs.Ytgcgaplhaglejaa
