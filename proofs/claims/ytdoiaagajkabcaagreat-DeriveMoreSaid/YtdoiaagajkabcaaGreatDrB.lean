/- What rules make of a list, and what Make makes, in plain words. -/
import Derived.Test.YtdoiaagajkabcaaGreatDrA
set_option linter.unusedSimpArgs false
set_option linter.unusedVariables false
namespace Go.Proofs.YtdoiaagajkabcaaGreat
open Go.RowKit Go.Sort
theorem list_iff {fs : List FV} : FList fs = true ↔ (fs.Pairwise fun f g => f.id < g.id) ∧ (∀ f ∈ fs, FValid f = true) ∧ fs.length ≤ 300 := by
 constructor
 ·intro h
  refine ⟨?_, list_valid h, list_len h⟩
  rw [List.pairwise_iff_getElem]
  intro i j hi hj hij
  have a := fAt_get hi
  have b := fAt_get hj
  rw [List.getElem?_eq_getElem hi] at a
  rw [List.getElem?_eq_getElem hj] at b
  injection a with a
  injection b with b
  rw [a, b]
  exact list_asc h i j hij hj
 ·rintro ⟨h1, h2, h3⟩
  unfold FList
  rw [decide_eq_true h3, Bool.and_true]
  unfold upTo
  rw [List.all_eq_true]
  intro k hk
  rw [List.mem_range] at hk
  have hv := h2 _ (fAt_mem hk)
  unfold upOk
  rw [hv, Bool.true_and, decide_eq_true_eq]
  unfold lastId
  by_cases h0 : k = 0
  ·rw [if_pos h0]
   unfold FValid baseOk at hv
   rw [Bool.and_eq_true, decide_eq_true_eq] at hv
   omega
  ·rw [if_neg h0]
   rw [List.pairwise_iff_getElem] at h1
   have := h1 (k - 1) k (by omega) hk (by omega)
   have a := fAt_get hk
   have b := fAt_get (fs := fs) (k := k - 1) (by omega)
   rw [List.getElem?_eq_getElem hk] at a
   rw [List.getElem?_eq_getElem (by omega)] at b
   injection a with a
   injection b with b
   rw [a, b] at this
   exact this
theorem list_sub {fs gs : List FV} (h : FList fs = true) (hs : gs.Sublist fs) : FList gs = true := by
 rw [list_iff] at *
 exact ⟨h.1.sublist hs, fun f hf => h.2.1 f (hs.subset hf), Nat.le_trans hs.length_le h.2.2⟩
theorem chart_list {fs : List FV} (h : FList fs = true) (n : Int) : FList (chartOf fs n) = true := by
 rw [list_iff]
 refine ⟨?_, fun f hf => list_valid h f (chart_mem hf).1, Nat.le_trans (chart_len fs n) (list_len h)⟩
 unfold chartOf cntL
 rw [List.pairwise_map]
 refine List.Pairwise.imp_of_mem (R := fun i j => i < j) ?_ ?_
 ·intro i j hi hj hij
  exact list_asc h i j hij (mem_counts.1 hj).1
 ·unfold countsTo
  exact List.pairwise_lt_range.filter _
theorem chart_in {fs : List FV} {n : Int} {f : FV} (hf : f ∈ fs) (hc : countB f n = true) : f ∈ chartOf fs n := by
 obtain ⟨k, hk, rfl⟩ := fAt_of_mem hf
 unfold chartOf cntL
 exact List.mem_map.2 ⟨k, mem_counts.2 ⟨hk, hc⟩, rfl⟩
theorem ru_mem {rs : List Ru} (h : rsOk rs = true) : rs.length ≤ 40 ∧ ∀ r ∈ rs, r.ok = true := by
 unfold rsOk okTo at h
 rw [Bool.and_eq_true, decide_eq_true_eq, List.all_eq_true] at h
 refine ⟨h.1, fun r hr => ?_⟩
 obtain ⟨k, hk, e⟩ := List.getElem_of_mem hr
 have a := ruAt_get hk
 rw [List.getElem?_eq_getElem hk, e] at a
 injection a with a
 rw [a]
 exact h.2 k (List.mem_range.2 hk)
theorem cap_bd {rs : List Ru} (h : ∀ r ∈ rs, r.ok = true) (m : Int) (hm : 1 ≤ m ∧ m ≤ 100000) : 1 ≤ rs.foldl capStep m ∧ rs.foldl capStep m ≤ 100000 := by
 induction rs generalizing m with
 | nil => exact hm
 | cons r rs ih =>
  rw [List.foldl_cons]
  refine ih (fun q hq => h q (List.mem_cons_of_mem _ hq)) _ ?_
  have hr := h r (List.mem_cons_self ..)
  unfold capStep
  split
  ·rename_i h1
   unfold Ru.ok ruleOk at hr
   rw [h1] at hr
   simp [opLeast, opMost] at hr
   omega
  ·exact hm
theorem cap_lim {rs : List Ru} (h : rsOk rs = true) : limOk (capOf rs).1 = true := by
 unfold capOf
 rw [if_pos h]
 unfold capTo limOk
 rw [List.take_length, decide_eq_true_eq]
 exact cap_bd (ru_mem h).2 _ (by omega)
/-- What a rule keeps of a feature. -/
def Kin (fs : List FV) (g : FV) : Prop := ∃ f ∈ fs, f.id = g.id ∧ f.kind = g.kind ∧ f.sym = g.sym
theorem Kin.trans {fs gs : List FV} {g : FV} (h : Kin gs g) (k : ∀ g ∈ gs, Kin fs g) : Kin fs g := by
 obtain ⟨f, hf, a, b, c⟩ := h
 obtain ⟨f', hf', a', b', c'⟩ := k f hf
 exact ⟨f', hf', a'.trans a, b'.trans b, c'.trans c⟩
theorem chg_kin (o k n : Int) (f : FV) : (chg o k n f).id = f.id ∧ (chg o k n f).kind = f.kind ∧ (chg o k n f).sym = f.sym := by
 unfold chg changeF
 split
 ·split
  ·exact ⟨rfl, rfl, rfl⟩
  ·split
   ·exact ⟨rfl, rfl, rfl⟩
   ·split <;> exact ⟨rfl, rfl, rfl⟩
 ·exact ⟨rfl, rfl, rfl⟩
theorem thin_kin {k n : Int} {fs : List FV} (hv : FList fs = true) {g : FV} (h : g ∈ thinOf k n fs) : Kin fs g := by
 unfold thinOf at h
 have h := (List.mergeSort_perm _ _).mem_iff.1 h
 rcases List.mem_append.1 h with h | h
 ·unfold othersOf at h
  exact ⟨g, (List.mem_filter.1 h).1, rfl, rfl, rfl⟩
 ·have hd : ∀ f, f ∈ discsOf k fs → f ∈ fs := fun f hf => (List.mem_filter.1 ((discs_perm k fs).mem_iff.1 hf)).1
  have hk := kept_all (n := n) (ds := discsOf k fs) (fun f hf => valid_rad (list_valid hv f (hd f hf))) _ (Nat.le_refl _) g h
  obtain ⟨f, hf, e⟩ := hk.src
  refine ⟨f, hd f hf, ?_⟩
  rw [e]
  exact ⟨rfl, rfl, rfl⟩
theorem apply_kin {o k n : Int} {fs : List FV} (h : (applyOf o k n fs).2 = 0) {g : FV} (hg : g ∈ (applyOf o k n fs).1) : Kin fs g := by
 unfold applyOf at h hg
 split at h
 ·rename_i h1
  rw [if_pos h1] at hg
  rw [Bool.and_eq_true] at h1
  split at h
  ·rename_i h2
   rw [if_pos h2] at hg
   unfold applyL at hg
   obtain ⟨f, hf, rfl⟩ := List.mem_map.1 hg
   have hc := chg_kin o k n f
   have hk : Kin fs f := by
    split at hf
    ·exact thin_kin h1.2 hf
    ·exact ⟨f, hf, rfl, rfl, rfl⟩
   obtain ⟨f', hf', a, b, c⟩ := hk
   exact ⟨f', hf', a.trans hc.1.symm, b.trans hc.2.1.symm, c.trans hc.2.2.symm⟩
  ·simp at h
 ·simp at h
theorem apply_list {o k n : Int} {fs : List FV} (h : (applyOf o k n fs).2 = 0) : FList (applyOf o k n fs).1 = true := by
 unfold applyOf at *
 split at h
 ·rename_i h1
  rw [if_pos h1]
  split at h
  ·rename_i h2
   rw [if_pos h2]
   exact h2
  ·simp at h
 ·simp at h
theorem apply_code {o k n : Int} {fs : List FV} (h1 : ruleOk o k n = true) (h2 : FList fs = true) : (applyOf o k n fs).2 = 0 ∨ (applyOf o k n fs).2 = 3 := by
 unfold applyOf
 rw [h1, h2]
 simp only [Bool.and_self, if_true]
 split
 ·exact .inl rfl
 ·exact .inr rfl
/-- A run, rule by rule. -/
theorem fold_run {rs : List Ru} (h : ∀ r ∈ rs, r.ok = true) : ∀ (fs : List FV), FList fs = true → ((rs.foldl runStep (fs, 0)).2 = 0 ∧ FList (rs.foldl runStep (fs, 0)).1 = true ∧ ∀ g ∈ (rs.foldl runStep (fs, 0)).1, Kin fs g) ∨ (rs.foldl runStep (fs, 0)).2 = 3 := by
 have hst : ∀ (rs : List Ru) (l : List FV × Int), l.2 ≠ 0 → rs.foldl runStep l = l := by
  intro rs
  induction rs with
  | nil => exact fun _ _ => rfl
  | cons r rs ih =>
   intro l hl
   rw [List.foldl_cons]
   have : runStep l r = l := by unfold runStep; rw [if_neg hl]
   rw [this]
   exact ih l hl
 induction rs with
 | nil => exact fun fs hf => .inl ⟨rfl, hf, fun g hg => ⟨g, hg, rfl, rfl, rfl⟩⟩
 | cons r rs ih =>
  intro fs hf
  rw [List.foldl_cons]
  have hr := h r (List.mem_cons_self ..)
  have e : runStep (fs, 0) r = applyOf r.1 r.2.1 r.2.2 fs := by unfold runStep; rw [if_pos rfl]
  rw [e]
  rcases apply_code hr hf with h0 | h3
  ·have hl := apply_list h0
   obtain ⟨⟨a, b⟩, ha⟩ : ∃ d, applyOf r.1 r.2.1 r.2.2 fs = d := ⟨_, rfl⟩
   rw [ha] at h0 hl ⊢
   dsimp only at h0 hl
   subst h0
   rcases ih (fun q hq => h q (List.mem_cons_of_mem _ hq)) a hl with ⟨h1, h2, h4⟩ | h1
   ·refine .inl ⟨h1, h2, fun g hg => (h4 g hg).trans fun g' hg' => apply_kin (o := r.1) (k := r.2.1) (n := r.2.2) (by rw [ha]) (by rw [ha]; exact hg')⟩
   ·exact .inr h1
  ·rw [hst rs _ (by rw [h3]; decide)]
   exact .inr h3
theorem run_facts (rs : List Ru) (fs : List FV) : ((runOf rs fs).2 = 0 ∧ rsOk rs = true ∧ FList fs = true ∧ FList (runOf rs fs).1 = true ∧ ∀ g ∈ (runOf rs fs).1, Kin fs g) ∨ ((runOf rs fs).2 = 3 ∧ rsOk rs = true ∧ FList fs = true) ∨ ((runOf rs fs).2 = 1 ∧ ¬ (rsOk rs = true ∧ FList fs = true)) := by
 unfold runOf
 split
 ·rename_i h
  rw [Bool.and_eq_true] at h
  unfold runTo
  rw [List.take_length]
  rcases fold_run (ru_mem h.1).2 fs h.2 with ⟨h1, h2, h3⟩ | h1
  ·exact .inl ⟨h1, h.1, h.2, h2, h3⟩
  ·exact .inr (.inl ⟨h1, h.1, h.2⟩)
 ·rename_i h
  rw [Bool.and_eq_true] at h
  exact .inr (.inr ⟨rfl, h⟩)
theorem mem_bare {gs gs' : List FV} (h : gs.map FV.bare = gs'.map FV.bare) {g : FV} (hg : g ∈ gs) : ∃ g' ∈ gs', g'.bare = g.bare := by
 have : g.bare ∈ gs'.map FV.bare := by rw [← h]; exact List.mem_map.2 ⟨g, hg, rfl⟩
 obtain ⟨g', h1, h2⟩ := List.mem_map.1 this
 exact ⟨g', h1, h2⟩
theorem met_of {f g g' : FV} (h : g'.bare = g.bare) : metB f g' = metB f g := by rw [← met_bare f g', h, met_bare]
theorem bare_id {f g : FV} (h : f.bare = g.bare) : f.id = g.id := by
 show f.bare.id = g.bare.id
 rw [h]
theorem proves_bare {fs gs gs' : List FV} {lim : Int} {ps : List Pt} (h : gs.map FV.bare = gs'.map FV.bare) (hp : Proves fs gs lim ps) : Proves fs gs' lim ps := by
 refine ⟨hp.lf, by rw [← FList_of h]; exact hp.lg, hp.lm, hp.ord, fun p hpm => ?_, hp.cov⟩
 obtain ⟨f, hf, g, hg, a, b, c⟩ := hp.good p hpm
 obtain ⟨g', hg', e⟩ := mem_bare h hg
 exact ⟨f, hf, g', hg', a, by rw [← b]; exact bare_id e, by rw [met_of e]; exact c⟩
theorem make_facts {fs : List FV} {rs : List Ru} {ch : List FV} {prs : List Pt} {e : Int} (h : makeOf fs rs = ((ch, prs), e)) :
  (e ≠ 0 ∧ ch = [] ∧ prs = [] ∧ ((e = 1 ∧ (FList fs = false ∨ (FList fs = true ∧ rsOk rs = false))) ∨ (e ≠ 1 ∧ FList fs = true ∧ rsOk rs = true))) ∨
  (e = 0 ∧ rsOk rs = true ∧ FList ch = true ∧ Proves fs ch (capOf rs).1 prs ∧ (∀ g ∈ ch, (g.kind = 4 ∨ g.dep < (capOf rs).1) ∧ Kin fs g)) := by
 unfold makeOf at h
 rcases run_facts rs fs with ⟨h0, h1, h2, h3, h4⟩ | ⟨h0, h1, h2⟩ | ⟨h0, h1⟩
 ·rw [if_pos h0] at h
  have hcl := chart_list h3 (capOf rs).1
  have hlm := cap_lim h1
  have hask := asked_mk h2 hcl hlm
  unfold proveOf at h
  rw [if_pos hask] at h
  by_cases hn : unpS fs (chartOf (runOf rs fs).1 (capOf rs).1) (countsTo fs (capOf rs).1 fs.length) = []
  ·rw [if_pos hn, if_pos rfl] at h
   injection h with h he
   injection h with h5 h6
   refine .inr ⟨he.symm, h1, by rw [← h5]; exact hcl, ?_, ?_⟩
   ·rw [← h5, ← h6]
    exact prv_proves h2 hcl hlm hn
   ·intro g hg
    rw [← h5] at hg
    obtain ⟨hm, hc⟩ := chart_mem hg
    refine ⟨?_, h4 g hm⟩
    unfold countB at hc
    simpa using hc
  ·rw [if_neg hn, if_neg (by decide)] at h
   injection h with h he
   injection h with h5 h6
   exact .inl ⟨by omega, h5.symm, h6.symm, .inr ⟨by omega, h2, h1⟩⟩
 ·rw [if_neg (by rw [h0]; decide)] at h
  injection h with h he
  injection h with h5 h6
  exact .inl ⟨by omega, h5.symm, h6.symm, .inr ⟨by omega, h2, h1⟩⟩
 ·rw [if_neg (by rw [h0]; decide)] at h
  injection h with h he
  injection h with h5 h6
  refine .inl ⟨by omega, h5.symm, h6.symm, .inl ⟨by omega, ?_⟩⟩
  cases hf : FList fs with
  | false => exact .inl rfl
  | true =>
   refine .inr ⟨rfl, ?_⟩
   cases hr : rsOk rs with
   | false => rfl
   | true => exact absurd ⟨hr, hf⟩ h1
end Go.Proofs.YtdoiaagajkabcaaGreat
