/- What a rule makes of a list stands for it, in plain words. The law DeriveSteps in plain words: what Make hands back is what a run hands back; runs, one behind the other. -/
import Derived.Test.YtdoiaagajkabcaaGreatGeT
import Derived.Test.YtdoiaagajkabcaaGreatBoQ
import Derived.Test.YtdoiaagajkabcaaGreatDrB
set_option linter.unusedSimpArgs false
set_option linter.unusedVariables false
namespace Go.Proofs.YtdoiaagajkabcaaGreat
/-- One disc has another one, at every scale. -/
def InD (f g : FV) : Prop := ∀ d z, 0 < d → Dsk (f.x, f.y) f.rad d z → Dsk (g.x, g.y) g.rad d z
theorem InD.refl (f : FV) : InD f f := fun _ _ _ h => h
theorem InD.trans {f g h : FV} (h1 : InD f g) (h2 : InD g h) : InD f h := fun d z hd hz => h2 d z hd (h1 d z hd hz)
theorem ok_dt {a b : Pt} (ha : a.ok = true) (hb : b.ok = true) : dt a b b < 70368744177664 := by
 have := dt_bd ha hb hb
 omega
theorem hi_sq {f g : FV} (hf : plOk f.x f.y = true) (hg : plOk g.x g.y = true) : 0 ≤ hiF f g ∧ sqd (g.x, g.y) (f.x, f.y) ≤ hiF f g * hiF f g := by
 have ho1 : Pt.ok (f.x, f.y) = true := hf
 have ho2 : Pt.ok (g.x, g.y) = true := hg
 have hnn := dt_nn (f.x, f.y) (g.x, g.y)
 obtain ⟨h1, _, h2, h3⟩ := root_spec (dt (f.x, f.y) (g.x, g.y) (g.x, g.y)) hnn (ok_dt ho1 ho2)
 rw [← dt_sqd]
 unfold hiF distOf
 rw [if_pos (by rw [ho1, ho2]; rfl)]
 by_cases e : (f.x, f.y) = (g.x, g.y)
 ·rw [if_pos e]
  have : dt (f.x, f.y) (g.x, g.y) (g.x, g.y) = 0 := by
   rw [e]
   unfold dt
   grind
  rw [this]
  simp
 ·rw [if_neg e]
  by_cases e2 : rootOf (dt (f.x, f.y) (g.x, g.y) (g.x, g.y)) * rootOf (dt (f.x, f.y) (g.x, g.y) (g.x, g.y)) = dt (f.x, f.y) (g.x, g.y) (g.x, g.y)
  ·rw [if_pos e2]
   exact ⟨h1, by rw [e2]; exact Int.le_refl _⟩
  ·rw [if_neg e2]
   exact ⟨by dsimp only; omega, by dsimp only; omega⟩
/-- What is joined to a kept disc lies in it. -/
theorem join_in {f g : FV} (hf : plOk f.x f.y = true) (hg : plOk g.x g.y = true) (rf : 0 ≤ f.rad ∧ f.rad ≤ 100000) (rg : 0 ≤ g.rad) (hl : ¬ 100000 < g.rad) : InD f (joinF f g) ∧ InD g (joinF f g) := by
 unfold joinF
 rw [if_neg hl]
 obtain ⟨h0, h1⟩ := hi_sq hf hg
 by_cases hli : liesF f g = true
 ·rw [if_pos hli]
  refine ⟨fun d z hd hz => ?_, InD.refl g⟩
  unfold liesF liesOf at hli
  split at hli
  ·unfold liesB at hli
   dsimp only at hli
   rw [Bool.and_eq_true, decide_eq_true_eq, decide_eq_true_eq, dt_sqd] at hli
   exact dsk_dsk hd rf.1 hli.1 hli.2 hz
  ·cases hli
 ·rw [if_neg hli]
  have hle : g.rad ≤ hiF f g + f.rad := by
   rcases Int.lt_or_le (hiF f g + f.rad) g.rad with hlt | hle
   ·exfalso
    apply hli
    unfold liesF liesOf
    rw [if_pos (by rw [rad_ok rf, rad_ok ⟨rg, by omega⟩, show Pt.ok (f.x, f.y) = true from hf, show Pt.ok (g.x, g.y) = true from hg]; rfl)]
    unfold liesB
    dsimp only
    rw [Bool.and_eq_true, decide_eq_true_eq, decide_eq_true_eq, dt_sqd]
    refine ⟨by omega, ?_⟩
    have := sq_le (x := hiF f g) (y := g.rad - f.rad) (by omega)
    omega
   ·exact hle
  unfold growF
  constructor
  ·intro d z hd hz
   refine dsk_dsk hd rf.1 (by show f.rad ≤ hiF f g + f.rad; omega) ?_ hz
   show sqd (g.x, g.y) (f.x, f.y) ≤ (hiF f g + f.rad - f.rad) * (hiF f g + f.rad - f.rad)
   rw [show hiF f g + f.rad - f.rad = hiF f g by omega]
   exact h1
  ·intro d z hd hz
   refine dsk_dsk hd rg hle ?_ hz
   show sqd (g.x, g.y) (g.x, g.y) ≤ (hiF f g + f.rad - g.rad) * (hiF f g + f.rad - g.rad)
   have e : sqd (g.x, g.y) (g.x, g.y) = 0 := by unfold sqd; grind
   rw [e]
   exact sq_nonneg _
theorem join_dep (f g : FV) : (joinF f g).dep = g.dep ∧ joinF f g = { g with rad := (joinF f g).rad } := by
 unfold joinF growF
 split
 ·exact ⟨rfl, rfl⟩
 ·split <;> exact ⟨rfl, rfl⟩
theorem join_big {f g : FV} (h : 100000 < g.rad) : joinF f g = g := by unfold joinF; rw [if_pos h]
/-- How far the thinning has come: what is kept, and in which kept disc each one lies. -/
structure ThinInv (ds kept : List FV) (m : Nat) : Prop where
 src : ∀ g ∈ kept, ∃ j, j < m ∧ g = { fAt ds j with rad := g.rad } ∧ 0 ≤ g.rad
 has : ∀ j, j < m → ∃ g ∈ kept, g.dep ≤ (fAt ds j).dep ∧ (100000 < g.rad ∨ InD (fAt ds j) g)
theorem fAt_set' {fs : List FV} {i : Nat} {f : FV} (h : i < fs.length) : fAt (fs.set i f) i = f := by
 unfold fAt
 rw [List.getD_eq_getElem?_getD, List.getElem?_set_self h]
 rfl
theorem mem_set_or {kept : List FV} {q : Nat} {g x : FV} (h : g ∈ kept) (hq : q < kept.length) : g ∈ kept.set q x ∨ (g = fAt kept q ∧ x ∈ kept.set q x) := by
 obtain ⟨i, hi, rfl⟩ := fAt_of_mem h
 by_cases e : i = q
 ·subst e
  refine .inr ⟨rfl, ?_⟩
  exact List.mem_set hq x
 ·refine .inl ?_
  refine List.mem_of_getElem? (i := i) ?_
  rw [List.getElem?_set_ne (by omega)]
  exact fAt_get hi
theorem thin_inv {n : Int} {ds : List FV} (hv : ∀ f ∈ ds, plOk f.x f.y = true ∧ 0 ≤ f.rad ∧ f.rad ≤ 100000) (hs : ∀ i j, i ≤ j → j < ds.length → (fAt ds i).dep ≤ (fAt ds j).dep) : ∀ m, m ≤ ds.length → ThinInv ds (keptTo n ds m) m
 | 0, _ => ⟨fun g hg => (by cases hg), fun j hj => by omega⟩
 | m + 1, hm => by
  have I := thin_inv (n := n) hv hs m (by omega)
  have hf := hv _ (fAt_mem (show m < ds.length by omega))
  rw [keptTo_succ (by omega)]
  generalize keptTo n ds m = kept at *
  cases hidx : kept.findIdx? (nearF n (fAt ds m)) with
  | none =>
   have e : thinStep n kept (fAt ds m) = kept ++ [fAt ds m] := by unfold thinStep; rw [hidx]
   rw [e]
   refine ⟨fun g hg => ?_, fun j hj => ?_⟩
   ·rcases List.mem_append.1 hg with h | h
    ·obtain ⟨j, h1, h2⟩ := I.src g h
     exact ⟨j, by omega, h2⟩
    ·obtain rfl := List.mem_singleton.1 h
     exact ⟨m, by omega, rfl, hf.2.1⟩
   ·by_cases ej : j = m
    ·subst ej
     exact ⟨fAt ds j, by simp, Int.le_refl _, .inr (InD.refl _)⟩
    ·obtain ⟨g, h1, h2⟩ := I.has j (by omega)
     exact ⟨g, List.mem_append_left _ h1, h2⟩
  | some q =>
   have hq : q < kept.length := by
    have := List.findIdx?_eq_some_iff_getElem.1 hidx
    exact this.1
   have e : thinStep n kept (fAt ds m) = kept.set q (joinF (fAt ds m) (fAt kept q)) := by unfold thinStep; rw [hidx]
   rw [e]
   obtain ⟨j0, hj0, e0, r0⟩ := I.src _ (fAt_mem hq)
   obtain ⟨jd, jr⟩ := join_dep (fAt ds m) (fAt kept q)
   have hg0 : plOk (fAt kept q).x (fAt kept q).y = true := by
    rw [e0]
    exact (hv _ (fAt_mem (show j0 < ds.length by omega))).1
   have hd0 : (fAt kept q).dep ≤ (fAt ds m).dep := by
    have : (fAt kept q).dep = (fAt ds j0).dep := by rw [e0]
    rw [this]
    exact hs j0 m (by omega) (by omega)
   have hnew : joinF (fAt ds m) (fAt kept q) ∈ kept.set q (joinF (fAt ds m) (fAt kept q)) := List.mem_set hq _
   have hr0 : 0 ≤ (joinF (fAt ds m) (fAt kept q)).rad := by
    unfold joinF growF
    split
    ·exact r0
    ·split
     ·exact r0
     ·have := (hi_bd (fAt ds m) (fAt kept q)).1
      show 0 ≤ hiF (fAt ds m) (fAt kept q) + (fAt ds m).rad
      omega
   refine ⟨fun g hg => ?_, fun j hj => ?_⟩
   ·rcases List.mem_or_eq_of_mem_set hg with h | h
    ·obtain ⟨j, h1, h2⟩ := I.src g h
     exact ⟨j, by omega, h2⟩
    ·subst h
     refine ⟨j0, by omega, ?_, hr0⟩
     rw [jr, e0]
   ·by_cases ej : j = m
    ·subst ej
     refine ⟨_, hnew, by rw [jd]; exact hd0, ?_⟩
     by_cases hbig : 100000 < (fAt kept q).rad
     ·rw [join_big hbig]
      exact .inl hbig
     ·exact .inr (join_in hf.1 hg0 hf.2 r0 hbig).1
    ·obtain ⟨g, h1, h2, h3⟩ := I.has j (by omega)
     rcases mem_set_or (x := joinF (fAt ds m) (fAt kept q)) h1 hq with h | ⟨h, _⟩
     ·exact ⟨g, h, h2, h3⟩
     ·subst h
      refine ⟨_, hnew, by rw [jd]; exact h2, ?_⟩
      by_cases hbig : 100000 < (fAt kept q).rad
      ·rw [join_big hbig]
       exact .inl hbig
      ·rcases h3 with h3 | h3
       ·exact absurd h3 hbig
       ·exact .inr (h3.trans (join_in hf.1 hg0 hf.2 r0 hbig).2)
theorem discs_sorted (k : Int) (fs : List FV) : ∀ i j, i ≤ j → j < (discsOf k fs).length → (fAt (discsOf k fs) i).dep ≤ (fAt (discsOf k fs) j).dep := by
 intro i j hij hj
 by_cases e : i = j
 ·rw [e]; exact Int.le_refl _
 ·have hp : (discsOf k fs).Pairwise fun a b => leD a b = true := by
   unfold discsOf
   refine List.pairwise_mergeSort (fun a b c => sortD_trans a b c) (fun a b => ?_) _
   rcases sortD_total a b with h | h <;> simp [h]
  rw [List.pairwise_iff_getElem] at hp
  have := hp i j (by omega) hj (by omega)
  have a := fAt_get (show i < (discsOf k fs).length by omega)
  have b := fAt_get hj
  rw [List.getElem?_eq_getElem (by omega)] at a
  rw [List.getElem?_eq_getElem hj] at b
  injection a with a
  injection b with b
  rw [a, b, leD_iff] at this
  omega
theorem disc_cov_in {f g : FV} (kf : f.kind = 1 ∨ f.kind = 2 ∨ f.kind = 5) (kg : g.kind = f.kind) (h : InD f g) : ∀ d z, 0 < d → Cov f d z → Cov g d z := by
 intro d z hd hz
 unfold Cov at *
 rw [if_neg (by omega), if_neg (by omega)] at hz
 rw [if_neg (by omega), if_neg (by omega)]
 exact h d z hd hz
theorem thin_stands {k n : Int} {fs : List FV} (hk : k = 1 ∨ k = 2 ∨ k = 5) (hv : FList fs = true) (ho : FList (thinOf k n fs) = true) {f : FV} (hf : f ∈ fs) : ∃ g ∈ thinOf k n fs, metB f g = true ∧ g.kind = f.kind := by
 have vf := list_valid hv f hf
 have hin : ∀ g, g ∈ othersOf k fs ∨ g ∈ keptTo n (discsOf k fs) (discsOf k fs).length → g ∈ thinOf k n fs := fun g hg => by
  unfold thinOf
  exact (List.mergeSort_perm _ _).mem_iff.2 (List.mem_append.2 hg)
 by_cases hfk : f.kind = k
 ·have hd : ∀ g, g ∈ discsOf k fs → g ∈ fs ∧ g.kind = k := fun g hg => by
   have := List.mem_filter.1 ((discs_perm k fs).mem_iff.1 hg)
   exact ⟨this.1, by simpa [isKind] using this.2⟩
  have hfd : f ∈ discsOf k fs := (discs_perm k fs).mem_iff.2 (List.mem_filter.2 ⟨hf, by simp [isKind, hfk]⟩)
  have I := thin_inv (n := n) (ds := discsOf k fs) (fun g hg => by
   obtain ⟨g1, g2⟩ := hd g hg
   have vg := list_valid hv g g1
   refine ⟨?_, (valid_rng vg).2.2⟩
   rcases valid_cases vg with ⟨a, _⟩ | ⟨a, _⟩ | ⟨_, a, _⟩
   ·omega
   ·omega
   ·exact a) (discs_sorted k fs) _ (Nat.le_refl _)
  obtain ⟨j, hj, rfl⟩ := fAt_of_mem hfd
  obtain ⟨g, hg, h1, h2⟩ := I.has j hj
  have hgo := hin g (.inr hg)
  have vg := list_valid ho g hgo
  obtain ⟨j', hj', e, _⟩ := I.src g hg
  have hgk : g.kind = k := by rw [e]; exact (hd _ (fAt_mem hj')).2
  refine ⟨g, hgo, ?_, by rw [hgk, hfk]⟩
  rw [met_iff (by omega)]
  refine ⟨vf, vg, by omega, h1, ?_⟩
  rcases h2 with h2 | h2
  ·have := (valid_rng vg).2.2; omega
  ·exact disc_cov_in (by omega) (by omega) h2
 ·refine ⟨f, hin f (.inl ?_), met_refl vf, rfl⟩
  unfold othersOf
  exact List.mem_filter.2 ⟨hf, by simp [isKind, hfk]⟩
theorem chg_stands {o k n : Int} (ho : ruleOk o k n = true) (h3 : o ≠ 3) {f : FV} (vf : FValid f = true) (vg : FValid (chg o k n f) = true) : metB f (chg o k n f) = true ∧ (chg o k n f).kind = f.kind := by
 refine ⟨?_, (chg_kin o k n f).2.1⟩
 unfold chg at *
 by_cases hk : f.kind = k
 ·rw [if_pos hk] at vg ⊢
  unfold ruleOk at ho
  rw [Bool.and_eq_true, Bool.and_eq_true, decide_eq_true_eq, decide_eq_true_eq] at ho
  obtain ⟨h1, h2, h4⟩ := ho
  have hcase : o = 1 ∨ o = 2 ∨ o = 4 ∨ o = 5 := by omega
  rcases hcase with rfl | rfl | rfl | rfl
  ·exact met_refl vf
  ·have hk2 : k = 1 ∨ k = 2 ∨ k = 3 ∨ k = 5 := by simpa [opKinds] using h2
   have hn : 1 ≤ n := by simp [opLeast] at h4; omega
   rw [met_iff (by omega)]
   refine ⟨vf, vg, ?_, ?_, fun d z _ h => h⟩
   ·show f.kind ≠ 4
    omega
   ·show f.dep - f.dep % n ≤ f.dep
    have := Int.emod_nonneg f.dep (show n ≠ 0 by omega)
    omega
  ·have hk2 : k = 1 ∨ k = 2 ∨ k = 5 := by simpa [opKinds] using h2
   have rf := (valid_rng vf).2.2
   rw [met_iff (by omega)]
   refine ⟨vf, vg, ?_, Int.le_refl _, disc_cov_in (by omega) rfl fun d z hd hz => ?_⟩
   ·show f.kind ≠ 4
    omega
   ·unfold Dsk at *
    show sqd (sc d (f.x, f.y)) z ≤ (d * max f.rad n) * (d * max f.rad n)
    have h5 : d * f.rad ≤ d * max f.rad n := Int.mul_le_mul_of_nonneg_left (by omega) (by omega)
    have h6 : 0 ≤ d * f.rad := Int.mul_nonneg (by omega) rf.1
    have := sq_le (x := d * f.rad) (y := d * max f.rad n) (by omega)
    omega
  ·have hk2 : k = 3 ∨ k = 6 := by simpa [opKinds] using h2
   have pf : PValid f.area = true := by
    rcases valid_cases vf with ⟨a, _⟩ | ⟨_, a⟩ | ⟨a, _⟩
    ·omega
    ·exact a
    ·omega
   have hbx : boxOf f.area = (boxC f.area, 0) := by unfold boxOf; rw [if_pos pf]
   have ear : (changeF 5 n f).area = rectC (boxC f.area) := by
    show (rectOf (boxOf f.area).1).1 = _
    rw [hbx, rectOf_box pf]
   have ekd : (changeF 5 n f).kind = f.kind := rfl
   have pg : PValid (changeF 5 n f).area = true := by
    rcases valid_cases vg with ⟨a, _⟩ | ⟨_, a⟩ | ⟨a, _⟩
    ·omega
    ·exact a
    ·omega
   rw [met_iff (by omega)]
   refine ⟨vf, vg, by omega, Int.le_refl _, fun d z hd hz => ?_⟩
   unfold Cov at *
   rw [if_neg (by omega), if_pos (by omega)] at hz
   rw [if_neg (by omega), if_pos (by omega)]
   rw [ear] at pg ⊢
   exact (holds_sub (pv_poly pg) (pv_poly pf)).1 (rect_holds pf) d hd z hz
 ·rw [if_neg hk]
  exact met_refl vf
/-- What a rule makes stands for what was there. -/
theorem apply_stands {o k n : Int} {fs : List FV} (h0 : (applyOf o k n fs).2 = 0) {f : FV} (hf : f ∈ fs) : ∃ g ∈ (applyOf o k n fs).1, metB f g = true ∧ g.kind = f.kind := by
 have hl := apply_list h0
 unfold applyOf at *
 split at h0
 ·rename_i h1
  rw [if_pos h1] at hl ⊢
  rw [Bool.and_eq_true] at h1
  split at h0
  ·rename_i h2
   rw [if_pos h2] at hl ⊢
   dsimp only at hl ⊢
   unfold applyL at *
   by_cases h3 : o = 3
   ·rw [if_pos h3] at hl h2 ⊢
    have e := chg_none (o := o) (k := k) (n := n) (.inr h3) (thinOf k n fs)
    rw [e] at hl ⊢
    have hk : k = 1 ∨ k = 2 ∨ k = 5 := by
     have := h1.1
     rw [h3] at this
     unfold ruleOk at this
     rw [Bool.and_eq_true, Bool.and_eq_true] at this
     simpa [opKinds] using this.2.1
    exact thin_stands hk h1.2 hl hf
   ·rw [if_neg h3] at hl h2 ⊢
    have hm : chg o k n f ∈ fs.map (chg o k n) := List.mem_map.2 ⟨f, hf, rfl⟩
    exact ⟨_, hm, chg_stands h1.1 h3 (list_valid h1.2 f hf) (list_valid hl _ hm)⟩
  ·simp at h0
 ·simp at h0
theorem fold_stands {rs : List Ru} (h : ∀ r ∈ rs, r.ok = true) : ∀ (fs : List FV), FList fs = true → (rs.foldl runStep (fs, 0)).2 = 0 → ∀ f ∈ fs, ∃ g ∈ (rs.foldl runStep (fs, 0)).1, metB f g = true ∧ g.kind = f.kind := by
 induction rs with
 | nil => exact fun fs hv _ f hf => ⟨f, hf, met_refl (list_valid hv f hf), rfl⟩
 | cons r rs ih =>
  intro fs hv h0 f hf
  rw [List.foldl_cons] at h0 ⊢
  have e : runStep (fs, 0) r = applyOf r.1 r.2.1 r.2.2 fs := by unfold runStep; rw [if_pos rfl]
  rw [e] at h0 ⊢
  have ha : (applyOf r.1 r.2.1 r.2.2 fs).2 = 0 := by
   rcases apply_code (h r (List.mem_cons_self ..)) hv with h1 | h1
   ·exact h1
   ·exfalso
    have : ∀ (rs : List Ru) (l : List FV × Int), l.2 ≠ 0 → (rs.foldl runStep l).2 ≠ 0 := by
     intro rs
     induction rs with
     | nil => exact fun l hl => hl
     | cons r rs ih =>
      intro l hl
      rw [List.foldl_cons]
      refine ih _ ?_
      unfold runStep
      rw [if_neg hl]
      exact hl
    exact this rs _ (by rw [h1]; decide) h0
  obtain ⟨g, hg, m1, k1⟩ := apply_stands ha hf
  have hl := apply_list ha
  obtain ⟨⟨a, b⟩, hab⟩ : ∃ d, applyOf r.1 r.2.1 r.2.2 fs = d := ⟨_, rfl⟩
  rw [hab] at h0 hg hl ha ⊢
  dsimp only at ha hg hl
  subst ha
  obtain ⟨g', hg', m2, k2⟩ := ih (fun q hq => h q (List.mem_cons_of_mem _ hq)) a hl h0 g hg
  exact ⟨g', hg', met_trans m1 m2, by rw [k2, k1]⟩
theorem run_stands {rs : List Ru} {fs : List FV} (h0 : (runOf rs fs).2 = 0) {f : FV} (hf : f ∈ fs) : ∃ g ∈ (runOf rs fs).1, metB f g = true ∧ g.kind = f.kind := by
 obtain ⟨h1, h2⟩ := run_ok h0
 unfold runOf runTo at *
 rw [if_pos (by rw [h1, h2]; rfl)] at h0 ⊢
 rw [List.take_length] at h0 ⊢
 exact fold_stands (ru_mem h1).2 fs h2 h0 f hf
end Go.Proofs.YtdoiaagajkabcaaGreat
namespace Go.Proofs.YtdoiaagajkabcaaGreat
theorem met_cnt {f g : FV} {n : Int} (h : metB f g = true) (hc : countB f n = true) : countB g n = true := by
 unfold countB at *
 rw [Bool.or_eq_true, decide_eq_true_eq, decide_eq_true_eq] at *
 by_cases hf : f.kind = 4
 ·rw [met_light hf] at h
  exact .inl h.2.2.1
 ·rw [met_iff hf] at h
  have := h.2.2.2.1
  exact .inr (by omega)
theorem make_run (fs : List FV) (rs : List Ru) : (makeOf fs rs).2 = (runOf rs fs).2 ∧ (makeOf fs rs).1.1 = if (runOf rs fs).2 = 0 then chartOf (runOf rs fs).1 (capOf rs).1 else [] := by
 rcases run_facts rs fs with ⟨h0, h1, h2, h3, h4⟩ | ⟨h0, h1, h2⟩ | ⟨h0, h1⟩
 ·have hcl := chart_list h3 (capOf rs).1
  have hlm := cap_lim h1
  have hask := asked_mk h2 hcl hlm
  have hu : unpS fs (chartOf (runOf rs fs).1 (capOf rs).1) (countsTo fs (capOf rs).1 fs.length) = [] := by
   rw [unp_nil hcl]
   intro f hf hc
   obtain ⟨g, hg, m1, _⟩ := run_stands h0 hf
   exact ⟨g, chart_in hg (met_cnt m1 hc), m1⟩
  have hp : (proveOf fs (chartOf (runOf rs fs).1 (capOf rs).1) (capOf rs).1).2 = 0 := by
   unfold proveOf
   rw [if_pos hask, if_pos hu]
  unfold makeOf
  rw [if_pos h0, if_pos hp, if_pos h0, h0]
  exact ⟨rfl, rfl⟩
 ·have hne : (runOf rs fs).2 ≠ 0 := by rw [h0]; decide
  unfold makeOf
  rw [if_neg hne, if_neg hne]
  exact ⟨rfl, rfl⟩
 ·have hne : (runOf rs fs).2 ≠ 0 := by rw [h0]; decide
  unfold makeOf
  rw [if_neg hne, if_neg hne]
  exact ⟨rfl, rfl⟩
theorem chg_dep {o k n : Int} (ho : ruleOk o k n = true) (f : FV) : (chg o k n f).dep ≤ f.dep := by
 unfold ruleOk at ho
 rw [Bool.and_eq_true, Bool.and_eq_true, decide_eq_true_eq, decide_eq_true_eq] at ho
 obtain ⟨h1, h2, h4⟩ := ho
 unfold chg
 by_cases hk : f.kind = k
 ·rw [if_pos hk]
  have hcase : o = 1 ∨ o = 2 ∨ o = 3 ∨ o = 4 ∨ o = 5 := by omega
  rcases hcase with rfl | rfl | rfl | rfl | rfl
  ·exact Int.le_refl _
  ·have hn : 1 ≤ n := by simp [opLeast] at h4; omega
   show f.dep - f.dep % n ≤ f.dep
   have := Int.emod_nonneg f.dep (show n ≠ 0 by omega)
   omega
  ·exact Int.le_refl _
  ·exact Int.le_refl _
  ·exact Int.le_refl _
 ·rw [if_neg hk]
  exact Int.le_refl _
/-- No deeper than something that was there. -/
def Shal (fs : List FV) (g : FV) : Prop := ∃ f ∈ fs, g.dep ≤ f.dep
theorem thin_shal {k n : Int} {fs : List FV} (hv : FList fs = true) {g : FV} (h : g ∈ thinOf k n fs) : Shal fs g := by
 unfold thinOf at h
 have h := (List.mergeSort_perm _ _).mem_iff.1 h
 rcases List.mem_append.1 h with h | h
 ·unfold othersOf at h
  exact ⟨g, (List.mem_filter.1 h).1, Int.le_refl _⟩
 ·have hd : ∀ f, f ∈ discsOf k fs → f ∈ fs := fun f hf => (List.mem_filter.1 ((discs_perm k fs).mem_iff.1 hf)).1
  have hk := kept_all (n := n) (ds := discsOf k fs) (fun f hf => valid_rad (list_valid hv f (hd f hf))) _ (Nat.le_refl _) g h
  obtain ⟨f, hf, e⟩ := hk.src
  refine ⟨f, hd f hf, ?_⟩
  rw [e]
  exact Int.le_refl _
theorem apply_shal {o k n : Int} {fs : List FV} (h : (applyOf o k n fs).2 = 0) {g : FV} (hg : g ∈ (applyOf o k n fs).1) : Shal fs g := by
 unfold applyOf at h hg
 split at h
 ·rename_i h1
  rw [if_pos h1] at hg
  rw [Bool.and_eq_true] at h1
  split at h
  ·rename_i h2
   rw [if_pos h2] at hg
   unfold applyL at hg
   obtain ⟨f, hf, rfl⟩ := List.mem_map.1 hg
   have hc := chg_dep h1.1 f
   have hk : Shal fs f := by
    split at hf
    ·exact thin_shal h1.2 hf
    ·exact ⟨f, hf, Int.le_refl _⟩
   obtain ⟨f', hf', a⟩ := hk
   exact ⟨f', hf', Int.le_trans hc a⟩
  ·simp at h
 ·simp at h
theorem fold_stop {rs : List Ru} : ∀ (l : List FV × Int), l.2 ≠ 0 → rs.foldl runStep l = l := by
 induction rs with
 | nil => exact fun _ _ => rfl
 | cons r rs ih =>
  intro l hl
  rw [List.foldl_cons]
  have : runStep l r = l := by unfold runStep; rw [if_neg hl]
  rw [this]
  exact ih l hl
theorem fold_shal {rs : List Ru} : ∀ (fs : List FV), (rs.foldl runStep (fs, 0)).2 = 0 → ∀ g ∈ (rs.foldl runStep (fs, 0)).1, Shal fs g := by
 induction rs with
 | nil => exact fun fs _ f hf => ⟨f, hf, Int.le_refl _⟩
 | cons r rs ih =>
  intro fs h0 g hg
  rw [List.foldl_cons] at h0 hg
  have e : runStep (fs, 0) r = applyOf r.1 r.2.1 r.2.2 fs := by unfold runStep; rw [if_pos rfl]
  rw [e] at h0 hg
  by_cases ha : (applyOf r.1 r.2.1 r.2.2 fs).2 = 0
  ·obtain ⟨⟨a, b⟩, hab⟩ : ∃ d, applyOf r.1 r.2.1 r.2.2 fs = d := ⟨_, rfl⟩
   have hs := fun g hg => apply_shal (o := r.1) (k := r.2.1) (n := r.2.2) (fs := fs) (g := g) ha hg
   rw [hab] at h0 hg ha hs
   dsimp only at ha hs
   subst ha
   obtain ⟨f, hf, h1⟩ := ih a h0 g hg
   obtain ⟨f', hf', h2⟩ := hs f hf
   exact ⟨f', hf', Int.le_trans h1 h2⟩
  ·rw [fold_stop _ ha] at h0
   exact absurd h0 ha
theorem run_shal {rs : List Ru} {fs : List FV} (h0 : (runOf rs fs).2 = 0) {g : FV} (hg : g ∈ (runOf rs fs).1) : Shal fs g := by
 obtain ⟨h1, h2⟩ := run_ok h0
 unfold runOf runTo at *
 rw [if_pos (by rw [h1, h2]; rfl)] at h0 hg
 rw [List.take_length] at h0 hg
 exact fold_shal fs h0 g hg
/-- A chart below 100000 of a list that is nowhere as deep is the list. -/
theorem chart_whole {fs : List FV} (h : ∀ f ∈ fs, f.dep < 100000) : chartOf fs 100000 = fs := by
 have h1 : countsTo fs 100000 fs.length = List.range fs.length := by
  unfold countsTo
  rw [List.filter_eq_self]
  intro i hi
  unfold countB
  have := h _ (fAt_mem (List.mem_range.1 hi))
  simp [this]
 unfold chartOf cntL
 rw [h1]
 apply List.ext_getElem?
 intro i
 rw [List.getElem?_map]
 by_cases hi : i < fs.length
 ·rw [List.getElem?_range hi, fAt_get hi]
  rfl
 ·rw [List.getElem?_eq_none (by simpa using hi), List.getElem?_eq_none (by omega)]
  rfl
theorem rs_mk {rs : List Ru} (h : rs.length ≤ 40) (h2 : ∀ r ∈ rs, r.ok = true) : rsOk rs = true := by
 unfold rsOk okTo
 rw [Bool.and_eq_true, decide_eq_true_eq, List.all_eq_true]
 refine ⟨h, fun k hk => h2 _ ?_⟩
 exact List.mem_of_getElem? (ruAt_get (List.mem_range.1 hk))
theorem rs_app {a b : List Ru} (hl : a.length + b.length ≤ 40) : rsOk (a ++ b) = (rsOk a && rsOk b) := by
 rw [Bool.eq_iff_iff, Bool.and_eq_true]
 constructor
 ·intro h
  obtain ⟨h1, h2⟩ := ru_mem h
  exact ⟨rs_mk (by omega) fun r hr => h2 r (List.mem_append_left _ hr), rs_mk (by omega) fun r hr => h2 r (List.mem_append_right _ hr)⟩
 ·rintro ⟨h1, h2⟩
  refine rs_mk (by rw [List.length_append]; exact hl) fun r hr => ?_
  rcases List.mem_append.1 hr with hr | hr
  ·exact (ru_mem h1).2 r hr
  ·exact (ru_mem h2).2 r hr
theorem fold_nocap {rs : List Ru} (h : ∀ r ∈ rs, r.1 ≠ 1) (m : Int) : rs.foldl capStep m = m := by
 induction rs with
 | nil => rfl
 | cons r rs ih =>
  rw [List.foldl_cons]
  have : capStep m r = m := by unfold capStep; rw [if_neg (h r (List.mem_cons_self ..))]
  rw [this]
  exact ih fun q hq => h q (List.mem_cons_of_mem _ hq)
theorem cap_nocap {rs : List Ru} (h1 : rsOk rs = true) (h : ∀ r ∈ rs, r.1 ≠ 1) : (capOf rs).1 = 100000 := by
 unfold capOf capTo
 rw [if_pos h1, List.take_length]
 exact fold_nocap h _
theorem cap_app {a b : List Ru} (h1 : rsOk (a ++ b) = true) (h2 : rsOk b = true) (h : ∀ r ∈ a, r.1 ≠ 1) : capOf (a ++ b) = capOf b := by
 unfold capOf capTo
 rw [if_pos h1, if_pos h2, List.take_length, List.take_length, List.foldl_append, fold_nocap h]
theorem run_app {a b : List Ru} {fs : List FV} (h : rsOk (a ++ b) = true) (ha : rsOk a = true) (hb : rsOk b = true) (h0 : (runOf a fs).2 = 0) : runOf (a ++ b) fs = runOf b (runOf a fs).1 := by
 obtain ⟨h1, h2⟩ := run_ok h0
 have hf : FList (runOf a fs).1 = true := by
  rcases run_facts a fs with ⟨_, _, _, h3, _⟩ | ⟨h3, _⟩ | ⟨h3, _⟩
  ·exact h3
  ·rw [h0] at h3; exact absurd h3 (by decide)
  ·rw [h0] at h3; exact absurd h3 (by decide)
 have e1 : runOf a fs = a.foldl runStep (fs, 0) := by
  unfold runOf runTo
  rw [if_pos (by rw [ha, h2]; rfl), List.take_length]
 have e2 : runOf b (runOf a fs).1 = b.foldl runStep ((runOf a fs).1, 0) := by
  show (if (rsOk b && FList (runOf a fs).1) = true then runTo b (runOf a fs).1 b.length else ([], 1)) = _
  unfold runTo
  rw [if_pos (by rw [hb, hf]; rfl), List.take_length]
 rw [e2]
 unfold runOf runTo
 rw [if_pos (by rw [h, h2]; rfl), if_pos (by rw [ha, h2]; rfl), List.take_length, List.take_length, List.foldl_append, ← e1]
 obtain ⟨⟨x, y⟩, hxy⟩ : ∃ d, runOf a fs = d := ⟨_, rfl⟩
 rw [hxy] at h0 ⊢
 dsimp only at h0
 rw [h0]
theorem run_app3 {a b : List Ru} {fs : List FV} (h : rsOk (a ++ b) = true) (ha : rsOk a = true) (hf : FList fs = true) (h0 : (runOf a fs).2 ≠ 0) : runOf (a ++ b) fs = runOf a fs := by
 have e1 : runOf a fs = a.foldl runStep (fs, 0) := by
  unfold runOf runTo
  rw [if_pos (by rw [ha, hf]; rfl), List.take_length]
 rw [e1] at h0 ⊢
 unfold runOf runTo
 rw [if_pos (by rw [h, hf]; rfl), List.take_length, List.foldl_append, fold_stop _ h0]
theorem step_of {l m : List FV × Int} (r : Ru) (h : l.1.map FV.bare = m.1.map FV.bare) (h2 : l.2 = m.2) : (runStep l r).1.map FV.bare = (runStep m r).1.map FV.bare ∧ (runStep l r).2 = (runStep m r).2 := by
 unfold runStep
 rw [h2]
 split
 ·exact apply_of h
 ·exact ⟨h, h2⟩
theorem fold_of {rs : List Ru} : ∀ {l m : List FV × Int}, l.1.map FV.bare = m.1.map FV.bare → l.2 = m.2 → (rs.foldl runStep l).1.map FV.bare = (rs.foldl runStep m).1.map FV.bare ∧ (rs.foldl runStep l).2 = (rs.foldl runStep m).2 := by
 induction rs with
 | nil => exact fun h h2 => ⟨h, h2⟩
 | cons r rs ih =>
  intro l m h h2
  rw [List.foldl_cons, List.foldl_cons]
  obtain ⟨h3, h4⟩ := step_of r h h2
  exact ih h3 h4
theorem run_of {rs : List Ru} {fs gs : List FV} (h : fs.map FV.bare = gs.map FV.bare) : (runOf rs fs).1.map FV.bare = (runOf rs gs).1.map FV.bare ∧ (runOf rs fs).2 = (runOf rs gs).2 := by
 unfold runOf
 rw [FList_of h]
 split
 ·exact fold_of h rfl
 ·exact ⟨rfl, rfl⟩
theorem make_of {rs : List Ru} {fs gs : List FV} (h : fs.map FV.bare = gs.map FV.bare) : (makeOf fs rs).1.1.map FV.bare = (makeOf gs rs).1.1.map FV.bare ∧ (makeOf fs rs).2 = (makeOf gs rs).2 := by
 obtain ⟨a1, a2⟩ := make_run fs rs
 obtain ⟨b1, b2⟩ := make_run gs rs
 obtain ⟨h1, h2⟩ := run_of (rs := rs) h
 rw [a1, b1, a2, b2, h2]
 refine ⟨?_, rfl⟩
 split
 ·exact chart_bare h1 _
 ·rfl
/-- The law, in plain words. -/
theorem steps_facts {fs : List FV} {a b : List Ru} (hl : a.length ≤ 12 ∧ b.length ≤ 12) (hd : ∀ f ∈ fs, f.dep < 100000) (hc : ∀ r ∈ a, r.1 ≠ 1) :
  ((makeOf fs a).2 ≠ 0 ∧ ((makeOf fs (a ++ b)).2 = (makeOf fs a).2 ∨ ((makeOf fs (a ++ b)).2 ≠ (makeOf fs a).2 ∧ (makeOf fs a).2 = 3 ∧ (makeOf fs (a ++ b)).2 = 1))) ∨
  ((makeOf fs a).2 = 0 ∧ ∀ gs : List FV, gs.map FV.bare = (makeOf fs a).1.1.map FV.bare → (makeOf gs b).2 = (makeOf fs (a ++ b)).2 ∧ (makeOf gs b).1.1.map FV.bare = (makeOf fs (a ++ b)).1.1.map FV.bare) := by
 obtain ⟨a1, a2⟩ := make_run fs a
 obtain ⟨c1, c2⟩ := make_run fs (a ++ b)
 have happ := rs_app (a := a) (b := b) (by omega)
 rcases run_facts a fs with ⟨h0, h1, h2, h3, h4⟩ | ⟨h0, h1, h2⟩ | ⟨h0, h1⟩
 ·refine .inr ⟨by rw [a1, h0], fun gs hg => ?_⟩
  have hch : (makeOf fs a).1.1 = (runOf a fs).1 := by
   rw [a2, if_pos h0, cap_nocap h1 hc]
   refine chart_whole fun g hg => ?_
   obtain ⟨f, hf, h5⟩ := run_shal h0 hg
   have := hd f hf
   omega
  rw [hch] at hg
  obtain ⟨g1, g2⟩ := make_of (rs := b) hg
  rw [g1, g2]
  obtain ⟨d1, d2⟩ := make_run (runOf a fs).1 b
  rw [c1, c2, d1, d2]
  cases hb : rsOk b with
  | false =>
   have e1 : (runOf b (runOf a fs).1).2 = 1 := by unfold runOf; rw [hb]; rfl
   have e2 : (runOf (a ++ b) fs).2 = 1 := by unfold runOf; rw [happ, h1, hb]; rfl
   rw [e1, e2]
   exact ⟨rfl, rfl⟩
  | true =>
   have hab : rsOk (a ++ b) = true := by rw [happ, h1, hb]; rfl
   rw [run_app hab h1 hb h0, cap_app hab hb hc]
   exact ⟨rfl, rfl⟩
 ·have hne : (runOf a fs).2 ≠ 0 := by rw [h0]; decide
  refine .inl ⟨by rw [a1]; exact hne, ?_⟩
  cases hb : rsOk b with
  | false =>
   have e2 : (runOf (a ++ b) fs).2 = 1 := by unfold runOf; rw [happ, h1, hb]; rfl
   exact .inr ⟨by rw [c1, a1, e2, h0]; decide, by rw [a1, h0], by rw [c1, e2]⟩
  | true =>
   have hab : rsOk (a ++ b) = true := by rw [happ, h1, hb]; rfl
   exact .inl (by rw [c1, a1, run_app3 hab h1 h2 hne])
 ·refine .inl ⟨by rw [a1, h0]; decide, .inl ?_⟩
  rw [c1, a1, h0]
  have : (rsOk (a ++ b) && FList fs) = false := by
   rw [happ]
   cases x : rsOk a
   ·rfl
   ·cases y : FList fs
    ·simp
    ·exact absurd ⟨x, y⟩ h1
  show (runOf (a ++ b) fs).2 = 1
  unfold runOf
  rw [this]
  rfl
end Go.Proofs.YtdoiaagajkabcaaGreat
