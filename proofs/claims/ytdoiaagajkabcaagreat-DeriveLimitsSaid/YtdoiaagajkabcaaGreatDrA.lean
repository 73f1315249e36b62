/- What proofs prove, in plain words. What rules make of a list, and what Make makes, in plain words. The chapter's examples, by computing. -/
import Derived.Test.YtdoiaagajkabcaaGreatDeG
namespace Go.Proofs.YtdoiaagajkabcaaGreat
set_option linter.unusedVariables false
set_option linter.unusedSimpArgs false
open Go.RowKit Go.Sort

theorem fAt_of_mem {fs : List FV} {f : FV} (h : f ∈ fs) : ∃ k, k < fs.length ∧ fAt fs k = f := by
  obtain ⟨k, hk, e⟩ := List.getElem_of_mem h
  refine ⟨k, hk, ?_⟩
  have a := fAt_get hk
  rw [List.getElem?_eq_getElem hk, e] at a
  injection a with a
  exact a.symm
theorem list_uniq {fs : List FV} (h : FList fs = true) {f g : FV} (hf : f ∈ fs) (hg : g ∈ fs) (e : f.id = g.id) : f = g := by
  obtain ⟨i, hi, rfl⟩ := fAt_of_mem hf
  obtain ⟨j, hj, rfl⟩ := fAt_of_mem hg
  have h1 := list_asc h i j
  have h2 := list_asc h j i
  by_cases hij : i = j
  · rw [hij]
  · by_cases hlt : i < j
    · have := h1 hlt hj; omega
    · have := h2 (by omega) hi; omega
theorem list_id {fs : List FV} (h : FList fs = true) {f : FV} (hf : f ∈ fs) : 1 ≤ f.id ∧ f.id ≤ 100000 := by
  obtain ⟨i, hi, rfl⟩ := fAt_of_mem hf
  exact list_ids h hi
theorem findF_some {fs : List FV} {x : Int} {f : FV} (h : findF fs x = some f) : f ∈ fs ∧ f.id = x := by
  refine ⟨findF_mem h, ?_⟩
  have := List.find?_some h
  simpa using this
theorem find_id {fs : List FV} (h : FList fs = true) {f : FV} (hf : f ∈ fs) : findF fs f.id = some f := by
  cases hc : findF fs f.id with
  | none =>
    unfold findF at hc
    rw [List.find?_eq_none] at hc
    have := hc f hf
    simp at this
  | some g =>
    obtain ⟨h1, h2⟩ := findF_some hc
    rw [list_uniq h h1 hf h2]
theorem by_at {f : FV} {gs : List FV} (h : byOf f gs ≠ 0) : ∃ g, g ∈ gs ∧ metB f g = true ∧ g.id = byOf f gs := by
  unfold byOf at *
  cases hc : gs.find? (metB f) with
  | none => rw [hc] at h; exact absurd rfl h
  | some g => exact ⟨g, List.mem_of_find?_eq_some hc, List.find?_some hc, rfl⟩
theorem by_pos {f : FV} {gs : List FV} (hv : FList gs = true) {g : FV} (hg : g ∈ gs) (hm : metB f g = true) : byOf f gs ≠ 0 := by
  unfold byOf
  cases hc : gs.find? (metB f) with
  | none =>
    rw [List.find?_eq_none] at hc
    exact absurd hm (hc g hg)
  | some g' =>
    have := list_id hv (List.mem_of_find?_eq_some hc)
    show g'.id ≠ 0
    omega
theorem mem_counts {fs : List FV} {lim : Int} {i : Nat} : i ∈ countsTo fs lim fs.length ↔ i < fs.length ∧ countB (fAt fs i) lim = true := by
  unfold countsTo
  rw [List.mem_filter, List.mem_range]
theorem cor_mem' {ps : List Pt} {p : Pt} (h : p ∈ ps) : ∃ k, k < ps.length ∧ cor ps k = p := by
  obtain ⟨k, hk, e⟩ := List.getElem_of_mem h
  refine ⟨k, hk, ?_⟩
  have a := cor_get hk
  rw [List.getElem?_eq_getElem hk, e] at a
  injection a with a
  exact a.symm
/-- Proofs in order, in plain words. -/
theorem ord_of {ps : List Pt} (h1 : ps.Pairwise fun p q => p.1 < q.1) (h2 : ∀ p ∈ ps, 1 ≤ p.1 ∧ p.1 ≤ 100000 ∧ 1 ≤ p.2 ∧ p.2 ≤ 100000) : orderedOf ps = true := by
  unfold orderedOf proofsTo
  rw [List.all_eq_true]
  intro k hk
  rw [List.mem_range] at hk
  have hp := h2 _ (List.mem_of_getElem? (cor_get hk))
  unfold proofOk
  rw [decide_eq_true_eq]
  refine ⟨?_, hp.2.1, hp.2.2.1, hp.2.2.2⟩
  unfold lastFrom
  by_cases h0 : k = 0
  · rw [if_pos h0]; omega
  · rw [if_neg h0]
    rw [List.pairwise_iff_getElem] at h1
    have := h1 (k - 1) k (by omega) hk (by omega)
    have a := cor_get hk
    have b := cor_get (ps := ps) (k := k - 1) (by omega)
    rw [List.getElem?_eq_getElem hk] at a
    rw [List.getElem?_eq_getElem (by omega)] at b
    injection a with a
    injection b with b
    rw [a, b] at this
    exact this
theorem ord_pw {ps : List Pt} (h : orderedOf ps = true) : (ps.Pairwise fun p q => p.1 < q.1) ∧ ∀ p ∈ ps, 1 ≤ p.1 ∧ p.1 ≤ 100000 ∧ 1 ≤ p.2 ∧ p.2 ≤ 100000 := by
  constructor
  · rw [List.pairwise_iff_getElem]
    intro i j hi hj hij
    have a := cor_get hi
    have b := cor_get hj
    rw [List.getElem?_eq_getElem hi] at a
    rw [List.getElem?_eq_getElem hj] at b
    injection a with a
    injection b with b
    rw [a, b]
    exact ord_asc h i j hij hj
  · intro p hp
    obtain ⟨k, hk, rfl⟩ := cor_mem' hp
    have h1 := ord_at h hk
    have h2 := ord_pos h hk
    omega
structure Proves (fs gs : List FV) (lim : Int) (ps : List Pt) : Prop where
  lf : FList fs = true
  lg : FList gs = true
  lm : limOk lim = true
  ord : orderedOf ps = true
  good : ∀ p ∈ ps, ∃ f ∈ fs, ∃ g ∈ gs, f.id = p.1 ∧ g.id = p.2 ∧ metB f g = true
  cov : ∀ f ∈ fs, countB f lim = true → ∃ p ∈ ps, p.1 = f.id
theorem good_iff {fs gs : List FV} (hf : FList fs = true) (hg : FList gs = true) {p : Pt} : goodP fs gs p = true ↔ ∃ f ∈ fs, ∃ g ∈ gs, f.id = p.1 ∧ g.id = p.2 ∧ metB f g = true := by
  constructor
  · intro h
    unfold goodP at h
    cases h1 : findF fs p.1 with
    | none => rw [h1] at h; cases h
    | some f =>
      cases h2 : findF gs p.2 with
      | none => rw [h1, h2] at h; cases h
      | some g =>
        rw [h1, h2] at h
        obtain ⟨a, b⟩ := findF_some h1
        obtain ⟨c, d⟩ := findF_some h2
        exact ⟨f, a, g, c, b, d, h⟩
  · rintro ⟨f, a, g, c, b, d, h⟩
    unfold goodP
    rw [← b, ← d, find_id hf a, find_id hg c]
    exact h
theorem cover_iff {fs : List FV} {ps : List Pt} {lim : Int} : coverB fs ps (countsTo fs lim fs.length) = true ↔ ∀ f ∈ fs, countB f lim = true → ∃ p ∈ ps, p.1 = f.id := by
  unfold coverB provedB
  rw [List.all_eq_true]
  constructor
  · intro h f hf hc
    obtain ⟨k, hk, rfl⟩ := fAt_of_mem hf
    have := h k (mem_counts.2 ⟨hk, hc⟩)
    rw [List.any_eq_true] at this
    obtain ⟨p, hp, e⟩ := this
    exact ⟨p, hp, by simpa using e⟩
  · intro h i hi
    obtain ⟨hk, hc⟩ := mem_counts.1 hi
    obtain ⟨p, hp, e⟩ := h _ (fAt_mem hk) hc
    rw [List.any_eq_true]
    exact ⟨p, hp, by simpa using e⟩
theorem asked_mk {fs gs : List FV} {lim : Int} (h1 : FList fs = true) (h2 : FList gs = true) (h3 : limOk lim = true) : askedOf fs gs lim = true := by
  unfold askedOf
  rw [h1, h2, h3]
  rfl
theorem check_iff {fs gs : List FV} {lim : Int} {ps : List Pt} : (checkOf fs gs lim ps).1 = true ↔ Proves fs gs lim ps := by
  unfold checkOf
  constructor
  · intro h
    by_cases ha : askedOf fs gs lim = true
    · rw [if_pos ha] at h
      obtain ⟨h1, h2, h3⟩ := asked_split ha
      simp only [Bool.and_eq_true] at h
      obtain ⟨ho, hg, hc⟩ := h
      rw [List.all_eq_true] at hg
      exact ⟨h1, h2, h3, ho, fun p hp => (good_iff h1 h2).1 (hg p hp), cover_iff.1 hc⟩
    · rw [if_neg ha] at h
      cases h
  · rintro ⟨h1, h2, h3, ho, hg, hc⟩
    rw [if_pos (asked_mk h1 h2 h3)]
    simp only [Bool.and_eq_true]
    exact ⟨ho, List.all_eq_true.2 fun p hp => (good_iff h1 h2).2 (hg p hp), cover_iff.2 hc⟩
theorem check_code {fs gs : List FV} {lim : Int} {ps : List Pt} : ((checkOf fs gs lim ps).2 = 0 ∧ askedOf fs gs lim = true) ∨ (checkOf fs gs lim ps = (false, 1) ∧ askedOf fs gs lim = false) := by
  unfold checkOf
  by_cases ha : askedOf fs gs lim = true
  · rw [if_pos ha]
    exact .inl ⟨rfl, ha⟩
  · rw [if_neg ha]
    exact .inr ⟨rfl, by simpa using ha⟩
theorem unp_nil {fs gs : List FV} {lim : Int} (hg : FList gs = true) : unpS fs gs (countsTo fs lim fs.length) = [] ↔ ∀ f ∈ fs, countB f lim = true → ∃ g ∈ gs, metB f g = true := by
  unfold unpS
  rw [List.map_eq_nil_iff, List.filter_eq_nil_iff]
  constructor
  · intro h f hf hc
    obtain ⟨k, hk, rfl⟩ := fAt_of_mem hf
    have := h k (mem_counts.2 ⟨hk, hc⟩)
    obtain ⟨g, h1, h2, _⟩ := by_at (f := fAt fs k) (gs := gs) (by simpa using this)
    exact ⟨g, h1, h2⟩
  · intro h i hi
    obtain ⟨hk, hc⟩ := mem_counts.1 hi
    obtain ⟨g, h1, h2⟩ := h _ (fAt_mem hk) hc
    have := by_pos hg h1 h2
    simpa using this
/-- What Prove makes proves. -/
theorem prv_proves {fs gs : List FV} {lim : Int} (hf : FList fs = true) (hg : FList gs = true) (hl : limOk lim = true) (h : unpS fs gs (countsTo fs lim fs.length) = []) : Proves fs gs lim (prvS fs gs (countsTo fs lim fs.length)) := by
  have hb : ∀ i, i ∈ countsTo fs lim fs.length → ∃ g, g ∈ gs ∧ metB (fAt fs i) g = true ∧ g.id = byOf (fAt fs i) gs := by
    intro i hi
    obtain ⟨hk, hc⟩ := mem_counts.1 hi
    obtain ⟨g, h1, h2⟩ := (unp_nil hg).1 h _ (fAt_mem hk) hc
    exact by_at (by_pos hg h1 h2)
  refine ⟨hf, hg, hl, ord_of ?_ ?_, ?_, ?_⟩
  · unfold prvS
    rw [List.pairwise_map]
    refine List.Pairwise.imp_of_mem (R := fun i j => i < j) ?_ ?_
    · intro i j hi hj hij
      exact list_asc hf i j hij (mem_counts.1 hj).1
    · unfold countsTo
      exact List.pairwise_lt_range.filter _
  · intro p hp
    unfold prvS at hp
    obtain ⟨i, hi, rfl⟩ := List.mem_map.1 hp
    obtain ⟨g, h1, _, h3⟩ := hb i hi
    have := list_ids hf (mem_counts.1 hi).1
    have := list_id hg h1
    dsimp only
    omega
  · intro p hp
    unfold prvS at hp
    obtain ⟨i, hi, rfl⟩ := List.mem_map.1 hp
    obtain ⟨g, h1, h2, h3⟩ := hb i hi
    exact ⟨_, fAt_mem (mem_counts.1 hi).1, g, h1, rfl, h3, h2⟩
  · intro f hm hc
    obtain ⟨k, hk, rfl⟩ := fAt_of_mem hm
    refine ⟨((fAt fs k).id, byOf (fAt fs k) gs), List.mem_map.2 ⟨k, mem_counts.2 ⟨hk, hc⟩, rfl⟩, rfl⟩
/-- If something is unproved, no proofs prove. -/
theorem unp_no {fs gs : List FV} {lim : Int} {ps : List Pt} (h : Proves fs gs lim ps) : unpS fs gs (countsTo fs lim fs.length) = [] := by
  rw [unp_nil h.lg]
  intro f hf hc
  obtain ⟨p, hp, e⟩ := h.cov f hf hc
  obtain ⟨f', h1, g, h2, h3, _, h5⟩ := h.good p hp
  obtain rfl := list_uniq h.lf h1 hf (by rw [h3, e])
  exact ⟨g, h2, h5⟩
theorem prov_facts {fs gs : List FV} {lim : Int} {ps own : List Pt} {l : List Int} {e f g h : Int} {x y : Bool} (h1 : unprovedOf fs gs lim = (l, e)) (h2 : proveOf fs gs lim = (own, f)) (h3 : checkOf fs gs lim ps = (x, g)) (h4 : checkOf fs gs lim own = (y, h)) :
    (e = 1 ∧ l = [] ∧ f = 1 ∧ own = [] ∧ g = 1) ∨ (e = 0 ∧ 0 < l.length ∧ f = 19 ∧ g = 0 ∧ x = false) ∨ (e = 0 ∧ l = [] ∧ f = 0 ∧ g = 0 ∧ h = 0 ∧ y = true) := by
  by_cases ha : askedOf fs gs lim = true
  · obtain ⟨v1, v2, v3⟩ := asked_split ha
    have c1 := check_code (fs := fs) (gs := gs) (lim := lim) (ps := ps)
    have c2 := check_code (fs := fs) (gs := gs) (lim := lim) (ps := own)
    rw [h3] at c1
    rw [h4] at c2
    rw [ha] at c1 c2
    simp at c1 c2
    unfold unprovedOf at h1
    unfold proveOf at h2
    rw [if_pos ha] at h1 h2
    injection h1 with h1 he
    by_cases hn : unpS fs gs (countsTo fs lim fs.length) = []
    · rw [if_pos hn] at h2
      injection h2 with h2 hf
      have hp := prv_proves v1 v2 v3 hn
      rw [h2, ← check_iff, h4] at hp
      exact .inr (.inr ⟨he.symm, by rw [← h1, hn], hf.symm, c1, c2, hp⟩)
    · rw [if_neg hn] at h2
      injection h2 with h2 hf
      refine .inr (.inl ⟨he.symm, ?_, hf.symm, c1, ?_⟩)
      · rw [← h1]
        exact List.length_pos_iff.2 hn
      · cases hx : x with
        | false => rfl
        | true =>
          have : (checkOf fs gs lim ps).1 = true := by rw [h3]; exact hx
          exact absurd (unp_no (check_iff.1 this)) hn
  · unfold unprovedOf at h1
    unfold proveOf at h2
    unfold checkOf at h3
    rw [if_neg ha] at h1 h2 h3
    injection h1 with h1 he
    injection h2 with h2 hf
    injection h3 with h3 hg
    exact .inl ⟨he.symm, h1.symm, hf.symm, h2.symm, hg.symm⟩
theorem limits_facts {fs gs : List FV} {lim less : Int} {ps : List Pt} {l m : List Int} {e f g h : Int} {x y : Bool} (hle : less ≤ lim) (h1 : checkOf fs gs lim ps = (x, e)) (h2 : checkOf fs gs less ps = (y, f)) (h3 : unprovedOf fs gs lim = (l, g)) (h4 : unprovedOf fs gs less = (m, h)) :
    ((e ≠ 0 ∧ x = false) ∨ (e = 0 ∧ f ≠ 0 ∧ y = false)) ∨ (e = 0 ∧ f = 0 ∧ g = 0 ∧ h = 0 ∧ (x = false ∨ (x = true ∧ y = true)) ∧ ∀ n ∈ m, n ∈ l) := by
  have c1 := check_code (fs := fs) (gs := gs) (lim := lim) (ps := ps)
  have c2 := check_code (fs := fs) (gs := gs) (lim := less) (ps := ps)
  rw [h1] at c1
  rw [h2] at c2
  rcases c1 with ⟨c1, a1⟩ | ⟨c1, a1⟩
  · rcases c2 with ⟨c2, a2⟩ | ⟨c2, a2⟩
    · dsimp only at c1 c2
      unfold unprovedOf at h3 h4
      rw [if_pos a1] at h3
      rw [if_pos a2] at h4
      injection h3 with h3 hg
      injection h4 with h4 hh
      refine .inr ⟨c1, c2, hg.symm, hh.symm, ?_, ?_⟩
      · cases hx : x with
        | false => exact .inl rfl
        | true =>
          refine .inr ⟨rfl, ?_⟩
          have hp : Proves fs gs lim ps := check_iff.1 (by rw [h1]; exact hx)
          have hq : Proves fs gs less ps := ⟨hp.lf, hp.lg, (asked_split a2).2.2, hp.ord, hp.good, fun f hf hc => hp.cov f hf (by
            unfold countB at *
            simp at *
            omega)⟩
          have := check_iff.2 hq
          rw [h2] at this
          exact this
      · intro n hn
        rw [← h4] at hn
        rw [← h3]
        unfold unpS at *
        obtain ⟨i, hi, rfl⟩ := List.mem_map.1 hn
        refine List.mem_map.2 ⟨i, ?_, rfl⟩
        obtain ⟨h5, h6⟩ := List.mem_filter.1 hi
        refine List.mem_filter.2 ⟨?_, h6⟩
        obtain ⟨h7, h8⟩ := mem_counts.1 h5
        refine mem_counts.2 ⟨h7, ?_⟩
        unfold countB at *
        simp at *
        omega
    · injection c2 with c2 c3
      exact .inl (.inr ⟨c1, by omega, c2⟩)
  · injection c1 with c1 c3
    exact .inl (.inl ⟨by omega, c1⟩)
end Go.Proofs.YtdoiaagajkabcaaGreat
namespace Go.Proofs.YtdoiaagajkabcaaGreat
set_option linter.unusedVariables false
set_option linter.unusedSimpArgs false
open Go.RowKit Go.Sort

theorem list_iff {fs : List FV} : FList fs = true ↔ (fs.Pairwise fun f g => f.id < g.id) ∧ (∀ f ∈ fs, FValid f = true) ∧ fs.length ≤ 300 := by
  constructor
  · intro h
    refine ⟨?_, list_valid h, list_len h⟩
    rw [List.pairwise_iff_getElem]
    intro i j hi hj hij
    have a := fAt_get hi
    have b := fAt_get hj
    rw [List.getElem?_eq_getElem hi] at a
    rw [List.getElem?_eq_getElem hj] at b
    injection a with a
    injection b with b
    rw [a, b]
    exact list_asc h i j hij hj
  · rintro ⟨h1, h2, h3⟩
    unfold FList
    rw [decide_eq_true h3, Bool.and_true]
    unfold upTo
    rw [List.all_eq_true]
    intro k hk
    rw [List.mem_range] at hk
    have hv := h2 _ (fAt_mem hk)
    unfold upOk
    rw [hv, Bool.true_and, decide_eq_true_eq]
    unfold lastId
    by_cases h0 : k = 0
    · rw [if_pos h0]
      unfold FValid baseOk at hv
      rw [Bool.and_eq_true, decide_eq_true_eq] at hv
      omega
    · rw [if_neg h0]
      rw [List.pairwise_iff_getElem] at h1
      have := h1 (k - 1) k (by omega) hk (by omega)
      have a := fAt_get hk
      have b := fAt_get (fs := fs) (k := k - 1) (by omega)
      rw [List.getElem?_eq_getElem hk] at a
      rw [List.getElem?_eq_getElem (by omega)] at b
      injection a with a
      injection b with b
      rw [a, b] at this
      exact this
theorem list_sub {fs gs : List FV} (h : FList fs = true) (hs : gs.Sublist fs) : FList gs = true := by
  rw [list_iff] at *
  exact ⟨h.1.sublist hs, fun f hf => h.2.1 f (hs.subset hf), Nat.le_trans hs.length_le h.2.2⟩
theorem chart_list {fs : List FV} (h : FList fs = true) (n : Int) : FList (chartOf fs n) = true := by
  rw [list_iff]
  refine ⟨?_, fun f hf => list_valid h f (chart_mem hf).1, Nat.le_trans (chart_len fs n) (list_len h)⟩
  unfold chartOf cntL
  rw [List.pairwise_map]
  refine List.Pairwise.imp_of_mem (R := fun i j => i < j) ?_ ?_
  · intro i j hi hj hij
    exact list_asc h i j hij (mem_counts.1 hj).1
  · unfold countsTo
    exact List.pairwise_lt_range.filter _
theorem chart_in {fs : List FV} {n : Int} {f : FV} (hf : f ∈ fs) (hc : countB f n = true) : f ∈ chartOf fs n := by
  obtain ⟨k, hk, rfl⟩ := fAt_of_mem hf
  unfold chartOf cntL
  exact List.mem_map.2 ⟨k, mem_counts.2 ⟨hk, hc⟩, rfl⟩
theorem ru_mem {rs : List Ru} (h : rsOk rs = true) : rs.length ≤ 40 ∧ ∀ r ∈ rs, r.ok = true := by
  unfold rsOk okTo at h
  rw [Bool.and_eq_true, decide_eq_true_eq, List.all_eq_true] at h
  refine ⟨h.1, fun r hr => ?_⟩
  obtain ⟨k, hk, e⟩ := List.getElem_of_mem hr
  have a := ruAt_get hk
  rw [List.getElem?_eq_getElem hk, e] at a
  injection a with a
  rw [a]
  exact h.2 k (List.mem_range.2 hk)
theorem cap_bd {rs : List Ru} (h : ∀ r ∈ rs, r.ok = true) (m : Int) (hm : 1 ≤ m ∧ m ≤ 100000) : 1 ≤ rs.foldl capStep m ∧ rs.foldl capStep m ≤ 100000 := by
  induction rs generalizing m with
  | nil => exact hm
  | cons r rs ih =>
    rw [List.foldl_cons]
    refine ih (fun q hq => h q (List.mem_cons_of_mem _ hq)) _ ?_
    have hr := h r (List.mem_cons_self ..)
    unfold capStep
    split
    · rename_i h1
      unfold Ru.ok ruleOk at hr
      rw [h1] at hr
      simp [opLeast, opMost] at hr
      omega
    · exact hm
theorem cap_lim {rs : List Ru} (h : rsOk rs = true) : limOk (capOf rs).1 = true := by
  unfold capOf
  rw [if_pos h]
  unfold capTo limOk
  rw [List.take_length, decide_eq_true_eq]
  exact cap_bd (ru_mem h).2 _ (by omega)
/-- What a rule keeps of a feature. -/
def Kin (fs : List FV) (g : FV) : Prop := ∃ f ∈ fs, f.id = g.id ∧ f.kind = g.kind ∧ f.sym = g.sym
theorem Kin.trans {fs gs : List FV} {g : FV} (h : Kin gs g) (k : ∀ g ∈ gs, Kin fs g) : Kin fs g := by
  obtain ⟨f, hf, a, b, c⟩ := h
  obtain ⟨f', hf', a', b', c'⟩ := k f hf
  exact ⟨f', hf', a'.trans a, b'.trans b, c'.trans c⟩
theorem chg_kin (o k n : Int) (f : FV) : (chg o k n f).id = f.id ∧ (chg o k n f).kind = f.kind ∧ (chg o k n f).sym = f.sym := by
  unfold chg changeF
  split
  · split
    · exact ⟨rfl, rfl, rfl⟩
    · split
      · exact ⟨rfl, rfl, rfl⟩
      · split <;> exact ⟨rfl, rfl, rfl⟩
  · exact ⟨rfl, rfl, rfl⟩
theorem thin_kin {k n : Int} {fs : List FV} (hv : FList fs = true) {g : FV} (h : g ∈ thinOf k n fs) : Kin fs g := by
  unfold thinOf at h
  have h := (List.mergeSort_perm _ _).mem_iff.1 h
  rcases List.mem_append.1 h with h | h
  · unfold othersOf at h
    exact ⟨g, (List.mem_filter.1 h).1, rfl, rfl, rfl⟩
  · have hd : ∀ f, f ∈ discsOf k fs → f ∈ fs := fun f hf => (List.mem_filter.1 ((discs_perm k fs).mem_iff.1 hf)).1
    have hk := kept_all (n := n) (ds := discsOf k fs) (fun f hf => valid_rad (list_valid hv f (hd f hf))) _ (Nat.le_refl _) g h
    obtain ⟨f, hf, e⟩ := hk.src
    refine ⟨f, hd f hf, ?_⟩
    rw [e]
    exact ⟨rfl, rfl, rfl⟩
theorem apply_kin {o k n : Int} {fs : List FV} (h : (applyOf o k n fs).2 = 0) {g : FV} (hg : g ∈ (applyOf o k n fs).1) : Kin fs g := by
  unfold applyOf at h hg
  split at h
  · rename_i h1
    rw [if_pos h1] at hg
    rw [Bool.and_eq_true] at h1
    split at h
    · rename_i h2
      rw [if_pos h2] at hg
      unfold applyL at hg
      obtain ⟨f, hf, rfl⟩ := List.mem_map.1 hg
      have hc := chg_kin o k n f
      have hk : Kin fs f := by
        split at hf
        · exact thin_kin h1.2 hf
        · exact ⟨f, hf, rfl, rfl, rfl⟩
      obtain ⟨f', hf', a, b, c⟩ := hk
      exact ⟨f', hf', a.trans hc.1.symm, b.trans hc.2.1.symm, c.trans hc.2.2.symm⟩
    · simp at h
  · simp at h
theorem apply_list {o k n : Int} {fs : List FV} (h : (applyOf o k n fs).2 = 0) : FList (applyOf o k n fs).1 = true := by
  unfold applyOf at *
  split at h
  · rename_i h1
    rw [if_pos h1]
    split at h
    · rename_i h2
      rw [if_pos h2]
      exact h2
    · simp at h
  · simp at h
theorem apply_code {o k n : Int} {fs : List FV} (h1 : ruleOk o k n = true) (h2 : FList fs = true) : (applyOf o k n fs).2 = 0 ∨ (applyOf o k n fs).2 = 3 := by
  unfold applyOf
  rw [h1, h2]
  simp only [Bool.and_self, if_true]
  split
  · exact .inl rfl
  · exact .inr rfl
/-- A run, rule by rule. -/
theorem fold_run {rs : List Ru} (h : ∀ r ∈ rs, r.ok = true) : ∀ (fs : List FV), FList fs = true → ((rs.foldl runStep (fs, 0)).2 = 0 ∧ FList (rs.foldl runStep (fs, 0)).1 = true ∧ ∀ g ∈ (rs.foldl runStep (fs, 0)).1, Kin fs g) ∨ (rs.foldl runStep (fs, 0)).2 = 3 := by
  have hst : ∀ (rs : List Ru) (l : List FV × Int), l.2 ≠ 0 → rs.foldl runStep l = l := by
    intro rs
    induction rs with
    | nil => exact fun _ _ => rfl
    | cons r rs ih =>
      intro l hl
      rw [List.foldl_cons]
      have : runStep l r = l := by unfold runStep; rw [if_neg hl]
      rw [this]
      exact ih l hl
  induction rs with
  | nil => exact fun fs hf => .inl ⟨rfl, hf, fun g hg => ⟨g, hg, rfl, rfl, rfl⟩⟩
  | cons r rs ih =>
    intro fs hf
    rw [List.foldl_cons]
    have hr := h r (List.mem_cons_self ..)
    have e : runStep (fs, 0) r = applyOf r.1 r.2.1 r.2.2 fs := by unfold runStep; rw [if_pos rfl]
    rw [e]
    rcases apply_code hr hf with h0 | h3
    · have hl := apply_list h0
      obtain ⟨⟨a, b⟩, ha⟩ : ∃ d, applyOf r.1 r.2.1 r.2.2 fs = d := ⟨_, rfl⟩
      rw [ha] at h0 hl ⊢
      dsimp only at h0 hl
      subst h0
      rcases ih (fun q hq => h q (List.mem_cons_of_mem _ hq)) a hl with ⟨h1, h2, h4⟩ | h1
      · refine .inl ⟨h1, h2, fun g hg => (h4 g hg).trans fun g' hg' => apply_kin (o := r.1) (k := r.2.1) (n := r.2.2) (by rw [ha]) (by rw [ha]; exact hg')⟩
      · exact .inr h1
    · rw [hst rs _ (by rw [h3]; decide)]
      exact .inr h3
theorem run_facts (rs : List Ru) (fs : List FV) : ((runOf rs fs).2 = 0 ∧ rsOk rs = true ∧ FList fs = true ∧ FList (runOf rs fs).1 = true ∧ ∀ g ∈ (runOf rs fs).1, Kin fs g) ∨ ((runOf rs fs).2 = 3 ∧ rsOk rs = true ∧ FList fs = true) ∨ ((runOf rs fs).2 = 1 ∧ ¬ (rsOk rs = true ∧ FList fs = true)) := by
  unfold runOf
  split
  · rename_i h
    rw [Bool.and_eq_true] at h
    unfold runTo
    rw [List.take_length]
    rcases fold_run (ru_mem h.1).2 fs h.2 with ⟨h1, h2, h3⟩ | h1
    · exact .inl ⟨h1, h.1, h.2, h2, h3⟩
    · exact .inr (.inl ⟨h1, h.1, h.2⟩)
  · rename_i h
    rw [Bool.and_eq_true] at h
    exact .inr (.inr ⟨rfl, h⟩)
theorem mem_bare {gs gs' : List FV} (h : gs.map FV.bare = gs'.map FV.bare) {g : FV} (hg : g ∈ gs) : ∃ g' ∈ gs', g'.bare = g.bare := by
  have : g.bare ∈ gs'.map FV.bare := by rw [← h]; exact List.mem_map.2 ⟨g, hg, rfl⟩
  obtain ⟨g', h1, h2⟩ := List.mem_map.1 this
  exact ⟨g', h1, h2⟩
theorem met_of {f g g' : FV} (h : g'.bare = g.bare) : metB f g' = metB f g := by rw [← met_bare f g', h, met_bare]
theorem bare_id {f g : FV} (h : f.bare = g.bare) : f.id = g.id := by
  show f.bare.id = g.bare.id
  rw [h]
theorem proves_bare {fs gs gs' : List FV} {lim : Int} {ps : List Pt} (h : gs.map FV.bare = gs'.map FV.bare) (hp : Proves fs gs lim ps) : Proves fs gs' lim ps := by
  refine ⟨hp.lf, by rw [← FList_of h]; exact hp.lg, hp.lm, hp.ord, fun p hpm => ?_, hp.cov⟩
  obtain ⟨f, hf, g, hg, a, b, c⟩ := hp.good p hpm
  obtain ⟨g', hg', e⟩ := mem_bare h hg
  exact ⟨f, hf, g', hg', a, by rw [← b]; exact bare_id e, by rw [met_of e]; exact c⟩
theorem make_facts {fs : List FV} {rs : List Ru} {ch : List FV} {prs : List Pt} {e : Int} (h : makeOf fs rs = ((ch, prs), e)) :
    (e ≠ 0 ∧ ch = [] ∧ prs = [] ∧ ((e = 1 ∧ (FList fs = false ∨ (FList fs = true ∧ rsOk rs = false))) ∨ (e ≠ 1 ∧ FList fs = true ∧ rsOk rs = true))) ∨
    (e = 0 ∧ rsOk rs = true ∧ FList ch = true ∧ Proves fs ch (capOf rs).1 prs ∧ (∀ g ∈ ch, (g.kind = 4 ∨ g.dep < (capOf rs).1) ∧ Kin fs g)) := by
  unfold makeOf at h
  rcases run_facts rs fs with ⟨h0, h1, h2, h3, h4⟩ | ⟨h0, h1, h2⟩ | ⟨h0, h1⟩
  · rw [if_pos h0] at h
    have hcl := chart_list h3 (capOf rs).1
    have hlm := cap_lim h1
    have hask := asked_mk h2 hcl hlm
    unfold proveOf at h
    rw [if_pos hask] at h
    by_cases hn : unpS fs (chartOf (runOf rs fs).1 (capOf rs).1) (countsTo fs (capOf rs).1 fs.length) = []
    · rw [if_pos hn, if_pos rfl] at h
      injection h with h he
      injection h with h5 h6
      refine .inr ⟨he.symm, h1, by rw [← h5]; exact hcl, ?_, ?_⟩
      · rw [← h5, ← h6]
        exact prv_proves h2 hcl hlm hn
      · intro g hg
        rw [← h5] at hg
        obtain ⟨hm, hc⟩ := chart_mem hg
        refine ⟨?_, h4 g hm⟩
        unfold countB at hc
        simpa using hc
    · rw [if_neg hn, if_neg (by decide)] at h
      injection h with h he
      injection h with h5 h6
      exact .inl ⟨by omega, h5.symm, h6.symm, .inr ⟨by omega, h2, h1⟩⟩
  · rw [if_neg (by rw [h0]; decide)] at h
    injection h with h he
    injection h with h5 h6
    exact .inl ⟨by omega, h5.symm, h6.symm, .inr ⟨by omega, h2, h1⟩⟩
  · rw [if_neg (by rw [h0]; decide)] at h
    injection h with h he
    injection h with h5 h6
    refine .inl ⟨by omega, h5.symm, h6.symm, .inl ⟨by omega, ?_⟩⟩
    cases hf : FList fs with
    | false => exact .inl rfl
    | true =>
      refine .inr ⟨rfl, ?_⟩
      cases hr : rsOk rs with
      | false => rfl
      | true => exact absurd ⟨hr, hf⟩ h1
end Go.Proofs.YtdoiaagajkabcaaGreat
namespace Go.Proofs.YtdoiaagajkabcaaGreat
set_option linter.unusedVariables false
set_option linter.unusedSimpArgs false

def e1 : FV := { id := 1, kind := 1, x := 0, y := 0, rad := 5, aA := none, ac := 0, area := [], dep := 27, sym := 0, sA := none, sc := 0, secs := [] }
def e2 : FV := { id := 2, kind := 1, x := 6, y := 8, rad := 2, aA := none, ac := 0, area := [], dep := 31, sym := 0, sA := none, sc := 0, secs := [] }
def e3 : FV := { id := 3, kind := 2, x := 0, y := 0, rad := 1, aA := none, ac := 0, area := [], dep := 80, sym := 0, sA := none, sc := 0, secs := [] }
def exL : List FV := [e1, e2, e3]
def one20 : FV := { e1 with rad := 12, dep := 20 }
def one27 : FV := { e1 with rad := 12 }
theorem root100 : rootOf 100 = 10 := by
  obtain ⟨h0, _, h1, h2⟩ := root_spec 100 (by omega) (by omega)
  generalize rootOf 100 = r at *
  have a : r ≤ 10 := by
    refine Int.le_of_lt_add_one (Int.lt_of_not_ge fun h => ?_)
    have : (11 : Int) * 11 ≤ r * r := Int.mul_le_mul (by omega) (by omega) (by omega) (by omega)
    omega
  have b : 10 ≤ r := by
    refine Int.le_of_lt_add_one (Int.lt_of_not_ge fun h => ?_)
    have : (r + 1) * (r + 1) ≤ 10 * 10 := Int.mul_le_mul (by omega) (by omega) (by omega) (by omega)
    omega
  omega
theorem ex_thin (a b c : FV) (k n : Int) (d : FV) (h1 : [a, b, c].filter (isKind k) = [a, b]) (h2 : othersOf k [a, b, c] = [c]) (hab : leD a b = true) (hn : a.id ≠ b.id) (hk : keptTo n [a, b] 2 = [d]) (hdc : leI d c = true) (hn2 : d.id ≠ c.id) : thinOf k n [a, b, c] = [d, c] := by
  unfold thinOf
  have hd : discsOf k [a, b, c] = [a, b] := by
    unfold discsOf
    rw [h1]
    exact (sort_uniq sortD_id sortD_trans sortD_total (by simp [hn]) (List.Perm.refl _) (by simp [hab])).symm
  rw [hd, h2]
  show ([c] ++ keptTo n [a, b] 2).mergeSort leI = _
  rw [hk]
  exact (sort_uniq sortI_id sortI_trans sortI_total (by simp; exact fun h => hn2 h.symm) (List.Perm.swap _ _ _) (by simp [hdc])).symm
theorem ex_hi (f g : FV) (hf : f.x = 6 ∧ f.y = 8) (hg : g.x = 0 ∧ g.y = 0) : hiF f g = 10 := by
  unfold hiF distOf
  rw [hf.1, hf.2, hg.1, hg.2, show dt (6, 8) (0, 0) (0, 0) = 100 from rfl, root100]
  rfl
theorem ex_lies (f g : FV) (hf : f.x = 6 ∧ f.y = 8 ∧ f.rad = 2) (hg : g.x = 0 ∧ g.y = 0 ∧ g.rad = 5) : liesF f g = false := by
  unfold liesF
  rw [hf.1, hf.2.1, hf.2.2, hg.1, hg.2.1, hg.2.2]
  decide
theorem ex_kept (a b : FV) (ha : a.x = 0 ∧ a.y = 0 ∧ a.rad = 5) (hb : b.x = 6 ∧ b.y = 8 ∧ b.rad = 2) : keptTo 10 [a, b] 2 = [{ a with rad := 12 }] := by
  obtain ⟨i, k, x, y, r, a1, a2, a3, d, s, b1, b2, b3⟩ := a
  obtain ⟨i', k', x', y', r', a1', a2', a3', d', s', b1', b2', b3'⟩ := b
  obtain ⟨rfl, rfl, rfl⟩ := ha
  obtain ⟨rfl, rfl, rfl⟩ := hb
  rw [keptTo_succ (by simp), keptTo_succ (by simp)]
  show thinStep 10 (thinStep 10 [] ⟨i, k, 0, 0, 5, a1, a2, a3, d, s, b1, b2, b3⟩) ⟨i', k', 6, 8, 2, a1', a2', a3', d', s', b1', b2', b3'⟩ = _
  rw [show thinStep 10 [] (⟨i, k, 0, 0, 5, a1, a2, a3, d, s, b1, b2, b3⟩ : FV) = [⟨i, k, 0, 0, 5, a1, a2, a3, d, s, b1, b2, b3⟩] from rfl]
  rw [step_some (k := 0) (by simp) (by rfl) (by omega)]
  show [joinF _ _] = _
  unfold joinF
  rw [if_neg (by simp [fAt]), if_neg (by rw [ex_lies _ _ ⟨rfl, rfl, rfl⟩ ⟨rfl, rfl, rfl⟩]; simp)]
  unfold growF
  rw [ex_hi _ _ ⟨rfl, rfl⟩ ⟨rfl, rfl⟩]
  rfl
theorem ap1 : applyOf 2 1 10 exL = ([{ e1 with dep := 20 }, { e2 with dep := 30 }, e3], 0) := by kernel_rfl
theorem th2 : thinOf 1 10 [{ e1 with dep := 20 }, { e2 with dep := 30 }, e3] = [one20, e3] := ex_thin _ _ _ _ _ _ rfl rfl (by rfl) (by decide) (ex_kept _ _ ⟨rfl, rfl, rfl⟩ ⟨rfl, rfl, rfl⟩) (by rfl) (by decide)
theorem th3 : thinOf 1 10 exL = [one27, e3] := ex_thin _ _ _ _ _ _ rfl rfl (by rfl) (by decide) (ex_kept _ _ ⟨rfl, rfl, rfl⟩ ⟨rfl, rfl, rfl⟩) (by rfl) (by decide)
theorem ap2 : applyOf 3 1 10 [{ e1 with dep := 20 }, { e2 with dep := 30 }, e3] = ([one20, e3], 0) := by
  unfold applyOf applyL
  rw [if_pos (by kernel_rfl), if_pos rfl, th2, if_pos (by kernel_rfl)]
  rfl
theorem ap3 : applyOf 1 0 30 exL = (exL, 0) := by kernel_rfl
theorem ap4 : applyOf 3 1 10 exL = ([one27, e3], 0) := by
  unfold applyOf applyL
  rw [if_pos (by kernel_rfl), if_pos rfl, th3, if_pos (by kernel_rfl)]
  rfl
def ruA : List Ru := [(2, 1, 10), (3, 1, 10)]
def ruB : List Ru := [(1, 0, 30), (3, 1, 10)]
theorem rn1 : runOf ruA exL = ([one20, e3], 0) := by
  unfold runOf
  rw [if_pos (by kernel_rfl)]
  show runStep (runStep (exL, 0) (2, 1, 10)) (3, 1, 10) = _
  rw [show runStep (exL, 0) (2, 1, 10) = applyOf 2 1 10 exL from rfl, ap1]
  exact ap2
theorem rn2 : runOf ruB exL = ([one27, e3], 0) := by
  unfold runOf
  rw [if_pos (by kernel_rfl)]
  show runStep (runStep (exL, 0) (1, 0, 30)) (3, 1, 10) = _
  rw [show runStep (exL, 0) (1, 0, 30) = applyOf 1 0 30 exL from rfl, ap3]
  exact ap4
theorem x1 : makeOf exL ruA = (([one20, e3], [(1, 1), (2, 1), (3, 1)]), 0) := by
  unfold makeOf
  rw [rn1]
  kernel_rfl
theorem x2 : makeOf exL ruB = (([one27], [(1, 1)]), 0) := by
  unfold makeOf
  rw [rn2]
  kernel_rfl
theorem x3 : checkOf exL exL 100 [(1, 1), (2, 2), (3, 1)] = (true, 0) := by kernel_rfl
theorem x4 : checkOf exL exL 100 [(1, 1), (2, 2), (3, 2)] = (false, 0) := by kernel_rfl
theorem x5 : unprovedOf exL [e2] 81 = ([1, 3], 0) := by kernel_rfl
theorem x6 : unprovedOf exL [e2] 80 = ([1], 0) := by kernel_rfl
theorem x7 : againOf [(1, 1), (2, 1), (3, 3)] [(1, 7)] = ([(1, 7), (2, 7)], 0) := by kernel_rfl
theorem x8 : dshownOf exL 30 (0, 0) = (27, 0) := by kernel_rfl
theorem x9 : dshownOf exL 30 (6, 8) = (30, 0) := by kernel_rfl
theorem x10 : proveOf exL [e2] 80 = ([], 19) := by kernel_rfl
end Go.Proofs.YtdoiaagajkabcaaGreat
