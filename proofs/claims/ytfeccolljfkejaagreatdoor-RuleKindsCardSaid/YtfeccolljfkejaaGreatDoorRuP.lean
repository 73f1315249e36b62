/- What rules make of a list, in plain words. -/
import Derived.Test.YtfeccolljfkejaaGreatDoorRuI
import Derived.Test.YtfeccolljfkejaaGreatDoorRuD
set_option linter.unusedSimpArgs false
set_option linter.unusedVariables false
namespace Go.Proofs.YtfeccolljfkejaaGreatDoor
open Go.RowKit Go.Sort
theorem list_ids {fs : List FV} (h : FList fs = true) {k : Nat} (hk : k < fs.length) : 1 ≤ (fAt fs k).id ∧ (fAt fs k).id ≤ 100000 := by
 have := list_valid h _ (fAt_mem hk)
 unfold FValid baseOk at this
 rw [Bool.and_eq_true, decide_eq_true_eq] at this
 exact this.1.1
theorem fAt_of_mem {fs : List FV} {f : FV} (h : f ∈ fs) : ∃ k, k < fs.length ∧ fAt fs k = f := by
 obtain ⟨k, hk, e⟩ := List.getElem_of_mem h
 refine ⟨k, hk, ?_⟩
 have a := fAt_get hk
 rw [List.getElem?_eq_getElem hk, e] at a
 injection a with a
 exact a.symm
theorem list_uniq {fs : List FV} (h : FList fs = true) {f g : FV} (hf : f ∈ fs) (hg : g ∈ fs) (e : f.id = g.id) : f = g := by
 obtain ⟨i, hi, rfl⟩ := fAt_of_mem hf
 obtain ⟨j, hj, rfl⟩ := fAt_of_mem hg
 have h1 := list_asc h i j
 have h2 := list_asc h j i
 by_cases hij : i = j
 ·rw [hij]
 ·by_cases hlt : i < j
  ·have := h1 hlt hj; omega
  ·have := h2 (by omega) hi; omega
theorem list_id {fs : List FV} (h : FList fs = true) {f : FV} (hf : f ∈ fs) : 1 ≤ f.id ∧ f.id ≤ 100000 := by
 obtain ⟨i, hi, rfl⟩ := fAt_of_mem hf
 exact list_ids h hi
theorem list_iff {fs : List FV} : FList fs = true ↔ (fs.Pairwise fun f g => f.id < g.id) ∧ (∀ f ∈ fs, FValid f = true) ∧ fs.length ≤ 300 := by
 constructor
 ·intro h
  refine ⟨?_, list_valid h, list_len h⟩
  rw [List.pairwise_iff_getElem]
  intro i j hi hj hij
  have a := fAt_get hi
  have b := fAt_get hj
  rw [List.getElem?_eq_getElem hi] at a
  rw [List.getElem?_eq_getElem hj] at b
  injection a with a
  injection b with b
  rw [a, b]
  exact list_asc h i j hij hj
 ·rintro ⟨h1, h2, h3⟩
  unfold FList
  rw [decide_eq_true h3, Bool.and_true]
  unfold upTo
  rw [List.all_eq_true]
  intro k hk
  rw [List.mem_range] at hk
  have hv := h2 _ (fAt_mem hk)
  unfold upOk
  rw [hv, Bool.true_and, decide_eq_true_eq]
  unfold lastId
  by_cases h0 : k = 0
  ·rw [if_pos h0]
   unfold FValid baseOk at hv
   rw [Bool.and_eq_true, decide_eq_true_eq] at hv
   omega
  ·rw [if_neg h0]
   rw [List.pairwise_iff_getElem] at h1
   have := h1 (k - 1) k (by omega) hk (by omega)
   have a := fAt_get hk
   have b := fAt_get (fs := fs) (k := k - 1) (by omega)
   rw [List.getElem?_eq_getElem hk] at a
   rw [List.getElem?_eq_getElem (by omega)] at b
   injection a with a
   injection b with b
   rw [a, b] at this
   exact this
theorem list_sub {fs gs : List FV} (h : FList fs = true) (hs : gs.Sublist fs) : FList gs = true := by
 rw [list_iff] at *
 exact ⟨h.1.sublist hs, fun f hf => h.2.1 f (hs.subset hf), Nat.le_trans hs.length_le h.2.2⟩
theorem ru_mem {rs : List Ru} (h : rsOk rs = true) : rs.length ≤ 40 ∧ ∀ r ∈ rs, r.ok = true := by
 unfold rsOk okTo at h
 rw [Bool.and_eq_true, decide_eq_true_eq, List.all_eq_true] at h
 refine ⟨h.1, fun r hr => ?_⟩
 obtain ⟨k, hk, e⟩ := List.getElem_of_mem hr
 have a := ruAt_get hk
 rw [List.getElem?_eq_getElem hk, e] at a
 injection a with a
 rw [a]
 exact h.2 k (List.mem_range.2 hk)
theorem cap_bd {rs : List Ru} (h : ∀ r ∈ rs, r.ok = true) (m : Int) (hm : 1 ≤ m ∧ m ≤ 100000) : 1 ≤ rs.foldl capStep m ∧ rs.foldl capStep m ≤ 100000 := by
 induction rs generalizing m with
 | nil => exact hm
 | cons r rs ih =>
  rw [List.foldl_cons]
  refine ih (fun q hq => h q (List.mem_cons_of_mem _ hq)) _ ?_
  have hr := h r (List.mem_cons_self ..)
  unfold capStep
  split
  ·rename_i h1
   unfold Ru.ok ruleOk at hr
   rw [h1] at hr
   simp [opLeast, opMost] at hr
   omega
  ·exact hm
/-- What a rule keeps of a feature. -/
def Kin (fs : List FV) (g : FV) : Prop := ∃ f ∈ fs, f.id = g.id ∧ f.kind = g.kind ∧ f.sym = g.sym
theorem Kin.trans {fs gs : List FV} {g : FV} (h : Kin gs g) (k : ∀ g ∈ gs, Kin fs g) : Kin fs g := by
 obtain ⟨f, hf, a, b, c⟩ := h
 obtain ⟨f', hf', a', b', c'⟩ := k f hf
 exact ⟨f', hf', a'.trans a, b'.trans b, c'.trans c⟩
theorem chg_kin (o k n : Int) (f : FV) : (chg o k n f).id = f.id ∧ (chg o k n f).kind = f.kind ∧ (chg o k n f).sym = f.sym := by
 unfold chg changeF
 split
 ·split
  ·exact ⟨rfl, rfl, rfl⟩
  ·split
   ·exact ⟨rfl, rfl, rfl⟩
   ·split <;> exact ⟨rfl, rfl, rfl⟩
 ·exact ⟨rfl, rfl, rfl⟩
theorem thin_kin {k n : Int} {fs : List FV} (hv : FList fs = true) {g : FV} (h : g ∈ thinOf k n fs) : Kin fs g := by
 unfold thinOf at h
 have h := (List.mergeSort_perm _ _).mem_iff.1 h
 rcases List.mem_append.1 h with h | h
 ·unfold othersOf at h
  exact ⟨g, (List.mem_filter.1 h).1, rfl, rfl, rfl⟩
 ·have hd : ∀ f, f ∈ discsOf k fs → f ∈ fs := fun f hf => (List.mem_filter.1 ((discs_perm k fs).mem_iff.1 hf)).1
  have hk := kept_all (n := n) (ds := discsOf k fs) (fun f hf => valid_rad (list_valid hv f (hd f hf))) _ (Nat.le_refl _) g h
  obtain ⟨f, hf, e⟩ := hk.src
  refine ⟨f, hd f hf, ?_⟩
  rw [e]
  exact ⟨rfl, rfl, rfl⟩
theorem apply_kin {o k n : Int} {fs : List FV} (h : (applyOf o k n fs).2 = 0) {g : FV} (hg : g ∈ (applyOf o k n fs).1) : Kin fs g := by
 unfold applyOf at h hg
 split at h
 ·rename_i h1
  rw [if_pos h1] at hg
  rw [Bool.and_eq_true] at h1
  split at h
  ·rename_i h2
   rw [if_pos h2] at hg
   unfold applyL at hg
   obtain ⟨f, hf, rfl⟩ := List.mem_map.1 hg
   have hc := chg_kin o k n f
   have hk : Kin fs f := by
    split at hf
    ·exact thin_kin h1.2 hf
    ·exact ⟨f, hf, rfl, rfl, rfl⟩
   obtain ⟨f', hf', a, b, c⟩ := hk
   exact ⟨f', hf', a.trans hc.1.symm, b.trans hc.2.1.symm, c.trans hc.2.2.symm⟩
  ·simp at h
 ·simp at h
theorem apply_list {o k n : Int} {fs : List FV} (h : (applyOf o k n fs).2 = 0) : FList (applyOf o k n fs).1 = true := by
 unfold applyOf at *
 split at h
 ·rename_i h1
  rw [if_pos h1]
  split at h
  ·rename_i h2
   rw [if_pos h2]
   exact h2
  ·simp at h
 ·simp at h
theorem apply_code {o k n : Int} {fs : List FV} (h1 : ruleOk o k n = true) (h2 : FList fs = true) : (applyOf o k n fs).2 = 0 ∨ (applyOf o k n fs).2 = 3 := by
 unfold applyOf
 rw [h1, h2]
 simp only [Bool.and_self, if_true]
 split
 ·exact .inl rfl
 ·exact .inr rfl
/-- A run, rule by rule. -/
theorem fold_run {rs : List Ru} (h : ∀ r ∈ rs, r.ok = true) : ∀ (fs : List FV), FList fs = true → ((rs.foldl runStep (fs, 0)).2 = 0 ∧ FList (rs.foldl runStep (fs, 0)).1 = true ∧ ∀ g ∈ (rs.foldl runStep (fs, 0)).1, Kin fs g) ∨ (rs.foldl runStep (fs, 0)).2 = 3 := by
 have hst : ∀ (rs : List Ru) (l : List FV × Int), l.2 ≠ 0 → rs.foldl runStep l = l := by
  intro rs
  induction rs with
  | nil => exact fun _ _ => rfl
  | cons r rs ih =>
   intro l hl
   rw [List.foldl_cons]
   have : runStep l r = l := by unfold runStep; rw [if_neg hl]
   rw [this]
   exact ih l hl
 induction rs with
 | nil => exact fun fs hf => .inl ⟨rfl, hf, fun g hg => ⟨g, hg, rfl, rfl, rfl⟩⟩
 | cons r rs ih =>
  intro fs hf
  rw [List.foldl_cons]
  have hr := h r (List.mem_cons_self ..)
  have e : runStep (fs, 0) r = applyOf r.1 r.2.1 r.2.2 fs := by unfold runStep; rw [if_pos rfl]
  rw [e]
  rcases apply_code hr hf with h0 | h3
  ·have hl := apply_list h0
   obtain ⟨⟨a, b⟩, ha⟩ : ∃ d, applyOf r.1 r.2.1 r.2.2 fs = d := ⟨_, rfl⟩
   rw [ha] at h0 hl ⊢
   dsimp only at h0 hl
   subst h0
   rcases ih (fun q hq => h q (List.mem_cons_of_mem _ hq)) a hl with ⟨h1, h2, h4⟩ | h1
   ·refine .inl ⟨h1, h2, fun g hg => (h4 g hg).trans fun g' hg' => apply_kin (o := r.1) (k := r.2.1) (n := r.2.2) (by rw [ha]) (by rw [ha]; exact hg')⟩
   ·exact .inr h1
  ·rw [hst rs _ (by rw [h3]; decide)]
   exact .inr h3
theorem run_facts (rs : List Ru) (fs : List FV) : ((runOf rs fs).2 = 0 ∧ rsOk rs = true ∧ FList fs = true ∧ FList (runOf rs fs).1 = true ∧ ∀ g ∈ (runOf rs fs).1, Kin fs g) ∨ ((runOf rs fs).2 = 3 ∧ rsOk rs = true ∧ FList fs = true) ∨ ((runOf rs fs).2 = 1 ∧ ¬ (rsOk rs = true ∧ FList fs = true)) := by
 unfold runOf
 split
 ·rename_i h
  rw [Bool.and_eq_true] at h
  unfold runTo
  rw [List.take_length]
  rcases fold_run (ru_mem h.1).2 fs h.2 with ⟨h1, h2, h3⟩ | h1
  ·exact .inl ⟨h1, h.1, h.2, h2, h3⟩
  ·exact .inr (.inl ⟨h1, h.1, h.2⟩)
 ·rename_i h
  rw [Bool.and_eq_true] at h
  exact .inr (.inr ⟨rfl, h⟩)
theorem mem_bare {gs gs' : List FV} (h : gs.map FV.bare = gs'.map FV.bare) {g : FV} (hg : g ∈ gs) : ∃ g' ∈ gs', g'.bare = g.bare := by
 have : g.bare ∈ gs'.map FV.bare := by rw [← h]; exact List.mem_map.2 ⟨g, hg, rfl⟩
 obtain ⟨g', h1, h2⟩ := List.mem_map.1 this
 exact ⟨g', h1, h2⟩
theorem met_bare (f g : FV) : metB f g.bare = metB f g := rfl
theorem met_bare1 (f g : FV) : metB f.bare g = metB f g := rfl
theorem run_ok {rs : List Ru} {fs : List FV} (h : (runOf rs fs).2 = 0) : rsOk rs = true ∧ FList fs = true := by
 unfold runOf at h
 cases hc : rsOk rs && FList fs with
 | true => simpa using hc
 | false => rw [hc] at h; simp at h
theorem run_le {rs : List Ru} {fs : List FV} : (runOf rs fs).1.length ≤ 300 := by
 unfold runOf
 split
 ·rename_i h
  simp at h
  exact run_len (list_len h.2) _ (Nat.le_refl _)
 ·simp
theorem met_of {f g g' : FV} (h : g'.bare = g.bare) : metB f g' = metB f g := by rw [← met_bare f g', h, met_bare]
theorem bare_id {f g : FV} (h : f.bare = g.bare) : f.id = g.id := by
 show f.bare.id = g.bare.id
 rw [h]
theorem chg_dep {o k n : Int} (ho : ruleOk o k n = true) (f : FV) : (chg o k n f).dep ≤ f.dep := by
 unfold ruleOk at ho
 rw [Bool.and_eq_true, Bool.and_eq_true, decide_eq_true_eq, decide_eq_true_eq] at ho
 obtain ⟨h1, h2, h4⟩ := ho
 unfold chg
 by_cases hk : f.kind = k
 ·rw [if_pos hk]
  have hcase : o = 1 ∨ o = 2 ∨ o = 3 ∨ o = 4 ∨ o = 5 := by omega
  rcases hcase with rfl | rfl | rfl | rfl | rfl
  ·exact Int.le_refl _
  ·have hn : 1 ≤ n := by simp [opLeast] at h4; omega
   show f.dep - f.dep % n ≤ f.dep
   have := Int.emod_nonneg f.dep (show n ≠ 0 by omega)
   omega
  ·exact Int.le_refl _
  ·exact Int.le_refl _
  ·exact Int.le_refl _
 ·rw [if_neg hk]
  exact Int.le_refl _
/-- No deeper than something that was there. -/
def Shal (fs : List FV) (g : FV) : Prop := ∃ f ∈ fs, g.dep ≤ f.dep
theorem thin_shal {k n : Int} {fs : List FV} (hv : FList fs = true) {g : FV} (h : g ∈ thinOf k n fs) : Shal fs g := by
 unfold thinOf at h
 have h := (List.mergeSort_perm _ _).mem_iff.1 h
 rcases List.mem_append.1 h with h | h
 ·unfold othersOf at h
  exact ⟨g, (List.mem_filter.1 h).1, Int.le_refl _⟩
 ·have hd : ∀ f, f ∈ discsOf k fs → f ∈ fs := fun f hf => (List.mem_filter.1 ((discs_perm k fs).mem_iff.1 hf)).1
  have hk := kept_all (n := n) (ds := discsOf k fs) (fun f hf => valid_rad (list_valid hv f (hd f hf))) _ (Nat.le_refl _) g h
  obtain ⟨f, hf, e⟩ := hk.src
  refine ⟨f, hd f hf, ?_⟩
  rw [e]
  exact Int.le_refl _
theorem apply_shal {o k n : Int} {fs : List FV} (h : (applyOf o k n fs).2 = 0) {g : FV} (hg : g ∈ (applyOf o k n fs).1) : Shal fs g := by
 unfold applyOf at h hg
 split at h
 ·rename_i h1
  rw [if_pos h1] at hg
  rw [Bool.and_eq_true] at h1
  split at h
  ·rename_i h2
   rw [if_pos h2] at hg
   unfold applyL at hg
   obtain ⟨f, hf, rfl⟩ := List.mem_map.1 hg
   have hc := chg_dep h1.1 f
   have hk : Shal fs f := by
    split at hf
    ·exact thin_shal h1.2 hf
    ·exact ⟨f, hf, Int.le_refl _⟩
   obtain ⟨f', hf', a⟩ := hk
   exact ⟨f', hf', Int.le_trans hc a⟩
  ·simp at h
 ·simp at h
theorem fold_stop {rs : List Ru} : ∀ (l : List FV × Int), l.2 ≠ 0 → rs.foldl runStep l = l := by
 induction rs with
 | nil => exact fun _ _ => rfl
 | cons r rs ih =>
  intro l hl
  rw [List.foldl_cons]
  have : runStep l r = l := by unfold runStep; rw [if_neg hl]
  rw [this]
  exact ih l hl
theorem fold_shal {rs : List Ru} : ∀ (fs : List FV), (rs.foldl runStep (fs, 0)).2 = 0 → ∀ g ∈ (rs.foldl runStep (fs, 0)).1, Shal fs g := by
 induction rs with
 | nil => exact fun fs _ f hf => ⟨f, hf, Int.le_refl _⟩
 | cons r rs ih =>
  intro fs h0 g hg
  rw [List.foldl_cons] at h0 hg
  have e : runStep (fs, 0) r = applyOf r.1 r.2.1 r.2.2 fs := by unfold runStep; rw [if_pos rfl]
  rw [e] at h0 hg
  by_cases ha : (applyOf r.1 r.2.1 r.2.2 fs).2 = 0
  ·obtain ⟨⟨a, b⟩, hab⟩ : ∃ d, applyOf r.1 r.2.1 r.2.2 fs = d := ⟨_, rfl⟩
   have hs := fun g hg => apply_shal (o := r.1) (k := r.2.1) (n := r.2.2) (fs := fs) (g := g) ha hg
   rw [hab] at h0 hg ha hs
   dsimp only at ha hs
   subst ha
   obtain ⟨f, hf, h1⟩ := ih a h0 g hg
   obtain ⟨f', hf', h2⟩ := hs f hf
   exact ⟨f', hf', Int.le_trans h1 h2⟩
  ·rw [fold_stop _ ha] at h0
   exact absurd h0 ha
theorem run_shal {rs : List Ru} {fs : List FV} (h0 : (runOf rs fs).2 = 0) {g : FV} (hg : g ∈ (runOf rs fs).1) : Shal fs g := by
 obtain ⟨h1, h2⟩ := run_ok h0
 unfold runOf runTo at *
 rw [if_pos (by rw [h1, h2]; rfl)] at h0 hg
 rw [List.take_length] at h0 hg
 exact fold_shal fs h0 g hg
theorem rs_mk {rs : List Ru} (h : rs.length ≤ 40) (h2 : ∀ r ∈ rs, r.ok = true) : rsOk rs = true := by
 unfold rsOk okTo
 rw [Bool.and_eq_true, decide_eq_true_eq, List.all_eq_true]
 refine ⟨h, fun k hk => h2 _ ?_⟩
 exact List.mem_of_getElem? (ruAt_get (List.mem_range.1 hk))
theorem rs_app {a b : List Ru} (hl : a.length + b.length ≤ 40) : rsOk (a ++ b) = (rsOk a && rsOk b) := by
 rw [Bool.eq_iff_iff, Bool.and_eq_true]
 constructor
 ·intro h
  obtain ⟨h1, h2⟩ := ru_mem h
  exact ⟨rs_mk (by omega) fun r hr => h2 r (List.mem_append_left _ hr), rs_mk (by omega) fun r hr => h2 r (List.mem_append_right _ hr)⟩
 ·rintro ⟨h1, h2⟩
  refine rs_mk (by rw [List.length_append]; exact hl) fun r hr => ?_
  rcases List.mem_append.1 hr with hr | hr
  ·exact (ru_mem h1).2 r hr
  ·exact (ru_mem h2).2 r hr
theorem fold_nocap {rs : List Ru} (h : ∀ r ∈ rs, r.1 ≠ 1) (m : Int) : rs.foldl capStep m = m := by
 induction rs with
 | nil => rfl
 | cons r rs ih =>
  rw [List.foldl_cons]
  have : capStep m r = m := by unfold capStep; rw [if_neg (h r (List.mem_cons_self ..))]
  rw [this]
  exact ih fun q hq => h q (List.mem_cons_of_mem _ hq)
theorem cap_nocap {rs : List Ru} (h1 : rsOk rs = true) (h : ∀ r ∈ rs, r.1 ≠ 1) : (capOf rs).1 = 100000 := by
 unfold capOf capTo
 rw [if_pos h1, List.take_length]
 exact fold_nocap h _
theorem cap_app {a b : List Ru} (h1 : rsOk (a ++ b) = true) (h2 : rsOk b = true) (h : ∀ r ∈ a, r.1 ≠ 1) : capOf (a ++ b) = capOf b := by
 unfold capOf capTo
 rw [if_pos h1, if_pos h2, List.take_length, List.take_length, List.foldl_append, fold_nocap h]
theorem run_app {a b : List Ru} {fs : List FV} (h : rsOk (a ++ b) = true) (ha : rsOk a = true) (hb : rsOk b = true) (h0 : (runOf a fs).2 = 0) : runOf (a ++ b) fs = runOf b (runOf a fs).1 := by
 obtain ⟨h1, h2⟩ := run_ok h0
 have hf : FList (runOf a fs).1 = true := by
  rcases run_facts a fs with ⟨_, _, _, h3, _⟩ | ⟨h3, _⟩ | ⟨h3, _⟩
  ·exact h3
  ·rw [h0] at h3; exact absurd h3 (by decide)
  ·rw [h0] at h3; exact absurd h3 (by decide)
 have e1 : runOf a fs = a.foldl runStep (fs, 0) := by
  unfold runOf runTo
  rw [if_pos (by rw [ha, h2]; rfl), List.take_length]
 have e2 : runOf b (runOf a fs).1 = b.foldl runStep ((runOf a fs).1, 0) := by
  show (if (rsOk b && FList (runOf a fs).1) = true then runTo b (runOf a fs).1 b.length else ([], 1)) = _
  unfold runTo
  rw [if_pos (by rw [hb, hf]; rfl), List.take_length]
 rw [e2]
 unfold runOf runTo
 rw [if_pos (by rw [h, h2]; rfl), if_pos (by rw [ha, h2]; rfl), List.take_length, List.take_length, List.foldl_append, ← e1]
 obtain ⟨⟨x, y⟩, hxy⟩ : ∃ d, runOf a fs = d := ⟨_, rfl⟩
 rw [hxy] at h0 ⊢
 dsimp only at h0
 rw [h0]
theorem run_app3 {a b : List Ru} {fs : List FV} (h : rsOk (a ++ b) = true) (ha : rsOk a = true) (hf : FList fs = true) (h0 : (runOf a fs).2 ≠ 0) : runOf (a ++ b) fs = runOf a fs := by
 have e1 : runOf a fs = a.foldl runStep (fs, 0) := by
  unfold runOf runTo
  rw [if_pos (by rw [ha, hf]; rfl), List.take_length]
 rw [e1] at h0 ⊢
 unfold runOf runTo
 rw [if_pos (by rw [h, hf]; rfl), List.take_length, List.foldl_append, fold_stop _ h0]
theorem step_of {l m : List FV × Int} (r : Ru) (h : l.1.map FV.bare = m.1.map FV.bare) (h2 : l.2 = m.2) : (runStep l r).1.map FV.bare = (runStep m r).1.map FV.bare ∧ (runStep l r).2 = (runStep m r).2 := by
 unfold runStep
 rw [h2]
 split
 ·exact apply_of h
 ·exact ⟨h, h2⟩
theorem fold_of {rs : List Ru} : ∀ {l m : List FV × Int}, l.1.map FV.bare = m.1.map FV.bare → l.2 = m.2 → (rs.foldl runStep l).1.map FV.bare = (rs.foldl runStep m).1.map FV.bare ∧ (rs.foldl runStep l).2 = (rs.foldl runStep m).2 := by
 induction rs with
 | nil => exact fun h h2 => ⟨h, h2⟩
 | cons r rs ih =>
  intro l m h h2
  rw [List.foldl_cons, List.foldl_cons]
  obtain ⟨h3, h4⟩ := step_of r h h2
  exact ih h3 h4
theorem run_of {rs : List Ru} {fs gs : List FV} (h : fs.map FV.bare = gs.map FV.bare) : (runOf rs fs).1.map FV.bare = (runOf rs gs).1.map FV.bare ∧ (runOf rs fs).2 = (runOf rs gs).2 := by
 unfold runOf
 rw [FList_of h]
 split
 ·exact fold_of h rfl
 ·exact ⟨rfl, rfl⟩
end Go.Proofs.YtfeccolljfkejaaGreatDoor
