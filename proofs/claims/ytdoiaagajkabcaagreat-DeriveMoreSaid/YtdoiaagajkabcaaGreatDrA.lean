/- What proofs prove, in plain words. What rules make of a list, and what Make makes, in plain words. The chapter's examples, by computing. -/
import Derived.Test.YtdoiaagajkabcaaGreatDeG
set_option linter.unusedSimpArgs false
set_option linter.unusedVariables false
namespace Go.Proofs.YtdoiaagajkabcaaGreat
open Go.RowKit Go.Sort
theorem fAt_of_mem {fs : List FV} {f : FV} (h : f ∈ fs) : ∃ k, k < fs.length ∧ fAt fs k = f := by
 obtain ⟨k, hk, e⟩ := List.getElem_of_mem h
 refine ⟨k, hk, ?_⟩
 have a := fAt_get hk
 rw [List.getElem?_eq_getElem hk, e] at a
 injection a with a
 exact a.symm
theorem list_uniq {fs : List FV} (h : FList fs = true) {f g : FV} (hf : f ∈ fs) (hg : g ∈ fs) (e : f.id = g.id) : f = g := by
 obtain ⟨i, hi, rfl⟩ := fAt_of_mem hf
 obtain ⟨j, hj, rfl⟩ := fAt_of_mem hg
 have h1 := list_asc h i j
 have h2 := list_asc h j i
 by_cases hij : i = j
 ·rw [hij]
 ·by_cases hlt : i < j
  ·have := h1 hlt hj; omega
  ·have := h2 (by omega) hi; omega
theorem list_id {fs : List FV} (h : FList fs = true) {f : FV} (hf : f ∈ fs) : 1 ≤ f.id ∧ f.id ≤ 100000 := by
 obtain ⟨i, hi, rfl⟩ := fAt_of_mem hf
 exact list_ids h hi
theorem findF_some {fs : List FV} {x : Int} {f : FV} (h : findF fs x = some f) : f ∈ fs ∧ f.id = x := by
 refine ⟨findF_mem h, ?_⟩
 have := List.find?_some h
 simpa using this
theorem find_id {fs : List FV} (h : FList fs = true) {f : FV} (hf : f ∈ fs) : findF fs f.id = some f := by
 cases hc : findF fs f.id with
 | none =>
  unfold findF at hc
  rw [List.find?_eq_none] at hc
  have := hc f hf
  simp at this
 | some g =>
  obtain ⟨h1, h2⟩ := findF_some hc
  rw [list_uniq h h1 hf h2]
theorem by_at {f : FV} {gs : List FV} (h : byOf f gs ≠ 0) : ∃ g, g ∈ gs ∧ metB f g = true ∧ g.id = byOf f gs := by
 unfold byOf at *
 cases hc : gs.find? (metB f) with
 | none => rw [hc] at h; exact absurd rfl h
 | some g => exact ⟨g, List.mem_of_find?_eq_some hc, List.find?_some hc, rfl⟩
theorem by_pos {f : FV} {gs : List FV} (hv : FList gs = true) {g : FV} (hg : g ∈ gs) (hm : metB f g = true) : byOf f gs ≠ 0 := by
 unfold byOf
 cases hc : gs.find? (metB f) with
 | none =>
  rw [List.find?_eq_none] at hc
  exact absurd hm (hc g hg)
 | some g' =>
  have := list_id hv (List.mem_of_find?_eq_some hc)
  show g'.id ≠ 0
  omega
theorem mem_counts {fs : List FV} {lim : Int} {i : Nat} : i ∈ countsTo fs lim fs.length ↔ i < fs.length ∧ countB (fAt fs i) lim = true := by
 unfold countsTo
 rw [List.mem_filter, List.mem_range]
theorem cor_mem' {ps : List Pt} {p : Pt} (h : p ∈ ps) : ∃ k, k < ps.length ∧ cor ps k = p := by
 obtain ⟨k, hk, e⟩ := List.getElem_of_mem h
 refine ⟨k, hk, ?_⟩
 have a := cor_get hk
 rw [List.getElem?_eq_getElem hk, e] at a
 injection a with a
 exact a.symm
/-- Proofs in order, in plain words. -/
theorem ord_of {ps : List Pt} (h1 : ps.Pairwise fun p q => p.1 < q.1) (h2 : ∀ p ∈ ps, 1 ≤ p.1 ∧ p.1 ≤ 100000 ∧ 1 ≤ p.2 ∧ p.2 ≤ 100000) : orderedOf ps = true := by
 unfold orderedOf proofsTo
 rw [List.all_eq_true]
 intro k hk
 rw [List.mem_range] at hk
 have hp := h2 _ (List.mem_of_getElem? (cor_get hk))
 unfold proofOk
 rw [decide_eq_true_eq]
 refine ⟨?_, hp.2.1, hp.2.2.1, hp.2.2.2⟩
 unfold lastFrom
 by_cases h0 : k = 0
 ·rw [if_pos h0]; omega
 ·rw [if_neg h0]
  rw [List.pairwise_iff_getElem] at h1
  have := h1 (k - 1) k (by omega) hk (by omega)
  have a := cor_get hk
  have b := cor_get (ps := ps) (k := k - 1) (by omega)
  rw [List.getElem?_eq_getElem hk] at a
  rw [List.getElem?_eq_getElem (by omega)] at b
  injection a with a
  injection b with b
  rw [a, b] at this
  exact this
theorem ord_pw {ps : List Pt} (h : orderedOf ps = true) : (ps.Pairwise fun p q => p.1 < q.1) ∧ ∀ p ∈ ps, 1 ≤ p.1 ∧ p.1 ≤ 100000 ∧ 1 ≤ p.2 ∧ p.2 ≤ 100000 := by
 constructor
 ·rw [List.pairwise_iff_getElem]
  intro i j hi hj hij
  have a := cor_get hi
  have b := cor_get hj
  rw [List.getElem?_eq_getElem hi] at a
  rw [List.getElem?_eq_getElem hj] at b
  injection a with a
  injection b with b
  rw [a, b]
  exact ord_asc h i j hij hj
 ·intro p hp
  obtain ⟨k, hk, rfl⟩ := cor_mem' hp
  have h1 := ord_at h hk
  have h2 := ord_pos h hk
  omega
structure Proves (fs gs : List FV) (lim : Int) (ps : List Pt) : Prop where
 lf : FList fs = true
 lg : FList gs = true
 lm : limOk lim = true
 ord : orderedOf ps = true
 good : ∀ p ∈ ps, ∃ f ∈ fs, ∃ g ∈ gs, f.id = p.1 ∧ g.id = p.2 ∧ metB f g = true
 cov : ∀ f ∈ fs, countB f lim = true → ∃ p ∈ ps, p.1 = f.id
theorem good_iff {fs gs : List FV} (hf : FList fs = true) (hg : FList gs = true) {p : Pt} : goodP fs gs p = true ↔ ∃ f ∈ fs, ∃ g ∈ gs, f.id = p.1 ∧ g.id = p.2 ∧ metB f g = true := by
 constructor
 ·intro h
  unfold goodP at h
  cases h1 : findF fs p.1 with
  | none => rw [h1] at h; cases h
  | some f =>
   cases h2 : findF gs p.2 with
   | none => rw [h1, h2] at h; cases h
   | some g =>
    rw [h1, h2] at h
    obtain ⟨a, b⟩ := findF_some h1
    obtain ⟨c, d⟩ := findF_some h2
    exact ⟨f, a, g, c, b, d, h⟩
 ·rintro ⟨f, a, g, c, b, d, h⟩
  unfold goodP
  rw [← b, ← d, find_id hf a, find_id hg c]
  exact h
theorem cover_iff {fs : List FV} {ps : List Pt} {lim : Int} : coverB fs ps (countsTo fs lim fs.length) = true ↔ ∀ f ∈ fs, countB f lim = true → ∃ p ∈ ps, p.1 = f.id := by
 unfold coverB provedB
 rw [List.all_eq_true]
 constructor
 ·intro h f hf hc
  obtain ⟨k, hk, rfl⟩ := fAt_of_mem hf
  have := h k (mem_counts.2 ⟨hk, hc⟩)
  rw [List.any_eq_true] at this
  obtain ⟨p, hp, e⟩ := this
  exact ⟨p, hp, by simpa using e⟩
 ·intro h i hi
  obtain ⟨hk, hc⟩ := mem_counts.1 hi
  obtain ⟨p, hp, e⟩ := h _ (fAt_mem hk) hc
  rw [List.any_eq_true]
  exact ⟨p, hp, by simpa using e⟩
theorem asked_mk {fs gs : List FV} {lim : Int} (h1 : FList fs = true) (h2 : FList gs = true) (h3 : limOk lim = true) : askedOf fs gs lim = true := by
 unfold askedOf
 rw [h1, h2, h3]
 rfl
theorem check_iff {fs gs : List FV} {lim : Int} {ps : List Pt} : (checkOf fs gs lim ps).1 = true ↔ Proves fs gs lim ps := by
 unfold checkOf
 constructor
 ·intro h
  by_cases ha : askedOf fs gs lim = true
  ·rw [if_pos ha] at h
   obtain ⟨h1, h2, h3⟩ := asked_split ha
   simp only [Bool.and_eq_true] at h
   obtain ⟨ho, hg, hc⟩ := h
   rw [List.all_eq_true] at hg
   exact ⟨h1, h2, h3, ho, fun p hp => (good_iff h1 h2).1 (hg p hp), cover_iff.1 hc⟩
  ·rw [if_neg ha] at h
   cases h
 ·rintro ⟨h1, h2, h3, ho, hg, hc⟩
  rw [if_pos (asked_mk h1 h2 h3)]
  simp only [Bool.and_eq_true]
  exact ⟨ho, List.all_eq_true.2 fun p hp => (good_iff h1 h2).2 (hg p hp), cover_iff.2 hc⟩
theorem check_code {fs gs : List FV} {lim : Int} {ps : List Pt} : ((checkOf fs gs lim ps).2 = 0 ∧ askedOf fs gs lim = true) ∨ (checkOf fs gs lim ps = (false, 1) ∧ askedOf fs gs lim = false) := by
 unfold checkOf
 by_cases ha : askedOf fs gs lim = true
 ·rw [if_pos ha]
  exact .inl ⟨rfl, ha⟩
 ·rw [if_neg ha]
  exact .inr ⟨rfl, by simpa using ha⟩
theorem unp_nil {fs gs : List FV} {lim : Int} (hg : FList gs = true) : unpS fs gs (countsTo fs lim fs.length) = [] ↔ ∀ f ∈ fs, countB f lim = true → ∃ g ∈ gs, metB f g = true := by
 unfold unpS
 rw [List.map_eq_nil_iff, List.filter_eq_nil_iff]
 constructor
 ·intro h f hf hc
  obtain ⟨k, hk, rfl⟩ := fAt_of_mem hf
  have := h k (mem_counts.2 ⟨hk, hc⟩)
  obtain ⟨g, h1, h2, _⟩ := by_at (f := fAt fs k) (gs := gs) (by simpa using this)
  exact ⟨g, h1, h2⟩
 ·intro h i hi
  obtain ⟨hk, hc⟩ := mem_counts.1 hi
  obtain ⟨g, h1, h2⟩ := h _ (fAt_mem hk) hc
  have := by_pos hg h1 h2
  simpa using this
/-- What Prove makes proves. -/
theorem prv_proves {fs gs : List FV} {lim : Int} (hf : FList fs = true) (hg : FList gs = true) (hl : limOk lim = true) (h : unpS fs gs (countsTo fs lim fs.length) = []) : Proves fs gs lim (prvS fs gs (countsTo fs lim fs.length)) := by
 have hb : ∀ i, i ∈ countsTo fs lim fs.length → ∃ g, g ∈ gs ∧ metB (fAt fs i) g = true ∧ g.id = byOf (fAt fs i) gs := by
  intro i hi
  obtain ⟨hk, hc⟩ := mem_counts.1 hi
  obtain ⟨g, h1, h2⟩ := (unp_nil hg).1 h _ (fAt_mem hk) hc
  exact by_at (by_pos hg h1 h2)
 refine ⟨hf, hg, hl, ord_of ?_ ?_, ?_, ?_⟩
 ·unfold prvS
  rw [List.pairwise_map]
  refine List.Pairwise.imp_of_mem (R := fun i j => i < j) ?_ ?_
  ·intro i j hi hj hij
   exact list_asc hf i j hij (mem_counts.1 hj).1
  ·unfold countsTo
   exact List.pairwise_lt_range.filter _
 ·intro p hp
  unfold prvS at hp
  obtain ⟨i, hi, rfl⟩ := List.mem_map.1 hp
  obtain ⟨g, h1, _, h3⟩ := hb i hi
  have := list_ids hf (mem_counts.1 hi).1
  have := list_id hg h1
  dsimp only
  omega
 ·intro p hp
  unfold prvS at hp
  obtain ⟨i, hi, rfl⟩ := List.mem_map.1 hp
  obtain ⟨g, h1, h2, h3⟩ := hb i hi
  exact ⟨_, fAt_mem (mem_counts.1 hi).1, g, h1, rfl, h3, h2⟩
 ·intro f hm hc
  obtain ⟨k, hk, rfl⟩ := fAt_of_mem hm
  refine ⟨((fAt fs k).id, byOf (fAt fs k) gs), List.mem_map.2 ⟨k, mem_counts.2 ⟨hk, hc⟩, rfl⟩, rfl⟩
/-- If something is unproved, no proofs prove. -/
theorem unp_no {fs gs : List FV} {lim : Int} {ps : List Pt} (h : Proves fs gs lim ps) : unpS fs gs (countsTo fs lim fs.length) = [] := by
 rw [unp_nil h.lg]
 intro f hf hc
 obtain ⟨p, hp, e⟩ := h.cov f hf hc
 obtain ⟨f', h1, g, h2, h3, _, h5⟩ := h.good p hp
 obtain rfl := list_uniq h.lf h1 hf (by rw [h3, e])
 exact ⟨g, h2, h5⟩
theorem prov_facts {fs gs : List FV} {lim : Int} {ps own : List Pt} {l : List Int} {e f g h : Int} {x y : Bool} (h1 : unprovedOf fs gs lim = (l, e)) (h2 : proveOf fs gs lim = (own, f)) (h3 : checkOf fs gs lim ps = (x, g)) (h4 : checkOf fs gs lim own = (y, h)) :
  (e = 1 ∧ l = [] ∧ f = 1 ∧ own = [] ∧ g = 1) ∨ (e = 0 ∧ 0 < l.length ∧ f = 19 ∧ g = 0 ∧ x = false) ∨ (e = 0 ∧ l = [] ∧ f = 0 ∧ g = 0 ∧ h = 0 ∧ y = true) := by
 by_cases ha : askedOf fs gs lim = true
 ·obtain ⟨v1, v2, v3⟩ := asked_split ha
  have c1 := check_code (fs := fs) (gs := gs) (lim := lim) (ps := ps)
  have c2 := check_code (fs := fs) (gs := gs) (lim := lim) (ps := own)
  rw [h3] at c1
  rw [h4] at c2
  rw [ha] at c1 c2
  simp at c1 c2
  unfold unprovedOf at h1
  unfold proveOf at h2
  rw [if_pos ha] at h1 h2
  injection h1 with h1 he
  by_cases hn : unpS fs gs (countsTo fs lim fs.length) = []
  ·rw [if_pos hn] at h2
   injection h2 with h2 hf
   have hp := prv_proves v1 v2 v3 hn
   rw [h2, ← check_iff, h4] at hp
   exact .inr (.inr ⟨he.symm, by rw [← h1, hn], hf.symm, c1, c2, hp⟩)
  ·rw [if_neg hn] at h2
   injection h2 with h2 hf
   refine .inr (.inl ⟨he.symm, ?_, hf.symm, c1, ?_⟩)
   ·rw [← h1]
    exact List.length_pos_iff.2 hn
   ·cases hx : x with
    | false => rfl
    | true =>
     have : (checkOf fs gs lim ps).1 = true := by rw [h3]; exact hx
     exact absurd (unp_no (check_iff.1 this)) hn
 ·unfold unprovedOf at h1
  unfold proveOf at h2
  unfold checkOf at h3
  rw [if_neg ha] at h1 h2 h3
  injection h1 with h1 he
  injection h2 with h2 hf
  injection h3 with h3 hg
  exact .inl ⟨he.symm, h1.symm, hf.symm, h2.symm, hg.symm⟩
end Go.Proofs.YtdoiaagajkabcaaGreat
namespace Go.Proofs.YtdoiaagajkabcaaGreat
def e1 : FV := { id := 1, kind := 1, x := 0, y := 0, rad := 5, aA := none, ac := 0, area := [], dep := 27, sym := 0, sA := none, sc := 0, secs := [] }
def e2 : FV := { id := 2, kind := 1, x := 6, y := 8, rad := 2, aA := none, ac := 0, area := [], dep := 31, sym := 0, sA := none, sc := 0, secs := [] }
def e3 : FV := { id := 3, kind := 2, x := 0, y := 0, rad := 1, aA := none, ac := 0, area := [], dep := 80, sym := 0, sA := none, sc := 0, secs := [] }
def exL : List FV := [e1, e2, e3]
def one20 : FV := { e1 with rad := 12, dep := 20 }
def one27 : FV := { e1 with rad := 12 }
theorem root100 : rootOf 100 = 10 := by
 obtain ⟨h0, _, h1, h2⟩ := root_spec 100 (by omega) (by omega)
 generalize rootOf 100 = r at *
 have a : r ≤ 10 := by
  refine Int.le_of_lt_add_one (Int.lt_of_not_ge fun h => ?_)
  have : (11 : Int) * 11 ≤ r * r := Int.mul_le_mul (by omega) (by omega) (by omega) (by omega)
  omega
 have b : 10 ≤ r := by
  refine Int.le_of_lt_add_one (Int.lt_of_not_ge fun h => ?_)
  have : (r + 1) * (r + 1) ≤ 10 * 10 := Int.mul_le_mul (by omega) (by omega) (by omega) (by omega)
  omega
 omega
theorem ex_thin (a b c : FV) (k n : Int) (d : FV) (h1 : [a, b, c].filter (isKind k) = [a, b]) (h2 : othersOf k [a, b, c] = [c]) (hab : leD a b = true) (hn : a.id ≠ b.id) (hk : keptTo n [a, b] 2 = [d]) (hdc : leI d c = true) (hn2 : d.id ≠ c.id) : thinOf k n [a, b, c] = [d, c] := by
 unfold thinOf
 have hd : discsOf k [a, b, c] = [a, b] := by
  unfold discsOf
  rw [h1]
  exact (sort_uniq sortD_id sortD_trans sortD_total (by simp [hn]) (List.Perm.refl _) (by simp [hab])).symm
 rw [hd, h2]
 show ([c] ++ keptTo n [a, b] 2).mergeSort leI = _
 rw [hk]
 exact (sort_uniq sortI_id sortI_trans sortI_total (by simp; exact fun h => hn2 h.symm) (List.Perm.swap _ _ _) (by simp [hdc])).symm
theorem ex_hi (f g : FV) (hf : f.x = 6 ∧ f.y = 8) (hg : g.x = 0 ∧ g.y = 0) : hiF f g = 10 := by
 unfold hiF distOf
 rw [hf.1, hf.2, hg.1, hg.2, show dt (6, 8) (0, 0) (0, 0) = 100 from rfl, root100]
 rfl
theorem ex_lies (f g : FV) (hf : f.x = 6 ∧ f.y = 8 ∧ f.rad = 2) (hg : g.x = 0 ∧ g.y = 0 ∧ g.rad = 5) : liesF f g = false := by
 unfold liesF
 rw [hf.1, hf.2.1, hf.2.2, hg.1, hg.2.1, hg.2.2]
 decide
theorem ex_kept (a b : FV) (ha : a.x = 0 ∧ a.y = 0 ∧ a.rad = 5) (hb : b.x = 6 ∧ b.y = 8 ∧ b.rad = 2) : keptTo 10 [a, b] 2 = [{ a with rad := 12 }] := by
 obtain ⟨i, k, x, y, r, a1, a2, a3, d, s, b1, b2, b3⟩ := a
 obtain ⟨i', k', x', y', r', a1', a2', a3', d', s', b1', b2', b3'⟩ := b
 obtain ⟨rfl, rfl, rfl⟩ := ha
 obtain ⟨rfl, rfl, rfl⟩ := hb
 rw [keptTo_succ (by simp), keptTo_succ (by simp)]
 show thinStep 10 (thinStep 10 [] ⟨i, k, 0, 0, 5, a1, a2, a3, d, s, b1, b2, b3⟩) ⟨i', k', 6, 8, 2, a1', a2', a3', d', s', b1', b2', b3'⟩ = _
 rw [show thinStep 10 [] (⟨i, k, 0, 0, 5, a1, a2, a3, d, s, b1, b2, b3⟩ : FV) = [⟨i, k, 0, 0, 5, a1, a2, a3, d, s, b1, b2, b3⟩] from rfl]
 rw [step_some (k := 0) (by simp) (by rfl) (by omega)]
 show [joinF _ _] = _
 unfold joinF
 rw [if_neg (by simp [fAt]), if_neg (by rw [ex_lies _ _ ⟨rfl, rfl, rfl⟩ ⟨rfl, rfl, rfl⟩]; simp)]
 unfold growF
 rw [ex_hi _ _ ⟨rfl, rfl⟩ ⟨rfl, rfl⟩]
 rfl
theorem ap1 : applyOf 2 1 10 exL = ([{ e1 with dep := 20 }, { e2 with dep := 30 }, e3], 0) := by kernel_rfl
theorem th2 : thinOf 1 10 [{ e1 with dep := 20 }, { e2 with dep := 30 }, e3] = [one20, e3] := ex_thin _ _ _ _ _ _ rfl rfl (by rfl) (by decide) (ex_kept _ _ ⟨rfl, rfl, rfl⟩ ⟨rfl, rfl, rfl⟩) (by rfl) (by decide)
theorem th3 : thinOf 1 10 exL = [one27, e3] := ex_thin _ _ _ _ _ _ rfl rfl (by rfl) (by decide) (ex_kept _ _ ⟨rfl, rfl, rfl⟩ ⟨rfl, rfl, rfl⟩) (by rfl) (by decide)
theorem ap2 : applyOf 3 1 10 [{ e1 with dep := 20 }, { e2 with dep := 30 }, e3] = ([one20, e3], 0) := by
 unfold applyOf applyL
 rw [if_pos (by kernel_rfl), if_pos rfl, th2, if_pos (by kernel_rfl)]
 rfl
theorem ap3 : applyOf 1 0 30 exL = (exL, 0) := by kernel_rfl
theorem ap4 : applyOf 3 1 10 exL = ([one27, e3], 0) := by
 unfold applyOf applyL
 rw [if_pos (by kernel_rfl), if_pos rfl, th3, if_pos (by kernel_rfl)]
 rfl
def ruA : List Ru := [(2, 1, 10), (3, 1, 10)]
def ruB : List Ru := [(1, 0, 30), (3, 1, 10)]
theorem rn1 : runOf ruA exL = ([one20, e3], 0) := by
 unfold runOf
 rw [if_pos (by kernel_rfl)]
 show runStep (runStep (exL, 0) (2, 1, 10)) (3, 1, 10) = _
 rw [show runStep (exL, 0) (2, 1, 10) = applyOf 2 1 10 exL from rfl, ap1]
 exact ap2
theorem rn2 : runOf ruB exL = ([one27, e3], 0) := by
 unfold runOf
 rw [if_pos (by kernel_rfl)]
 show runStep (runStep (exL, 0) (1, 0, 30)) (3, 1, 10) = _
 rw [show runStep (exL, 0) (1, 0, 30) = applyOf 1 0 30 exL from rfl, ap3]
 exact ap4
theorem x1 : makeOf exL ruA = (([one20, e3], [(1, 1), (2, 1), (3, 1)]), 0) := by
 unfold makeOf
 rw [rn1]
 kernel_rfl
theorem x2 : makeOf exL ruB = (([one27], [(1, 1)]), 0) := by
 unfold makeOf
 rw [rn2]
 kernel_rfl
theorem x3 : checkOf exL exL 100 [(1, 1), (2, 2), (3, 1)] = (true, 0) := by kernel_rfl
theorem x4 : checkOf exL exL 100 [(1, 1), (2, 2), (3, 2)] = (false, 0) := by kernel_rfl
theorem x5 : unprovedOf exL [e2] 81 = ([1, 3], 0) := by kernel_rfl
theorem x6 : unprovedOf exL [e2] 80 = ([1], 0) := by kernel_rfl
theorem x7 : againOf [(1, 1), (2, 1), (3, 3)] [(1, 7)] = ([(1, 7), (2, 7)], 0) := by kernel_rfl
theorem x8 : dshownOf exL 30 (0, 0) = (27, 0) := by kernel_rfl
theorem x9 : dshownOf exL 30 (6, 8) = (30, 0) := by kernel_rfl
theorem x10 : proveOf exL [e2] 80 = ([], 19) := by kernel_rfl
end Go.Proofs.YtdoiaagajkabcaaGreat
