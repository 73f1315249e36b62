/- What a rule makes of a list stands for it, in plain words. The law DeriveSteps in plain words: what Make hands back is what a run hands back; runs, one behind the other. -/
import Derived.Test.YtfeccolljfkejaaGreatDoorGeT
import Derived.Test.YtfeccolljfkejaaGreatDoorBoQ
import Derived.Test.YtfeccolljfkejaaGreatDoorRuP
set_option linter.unusedSimpArgs false
set_option linter.unusedVariables false
namespace Go.Proofs.YtfeccolljfkejaaGreatDoor
/-- One disc has another one, at every scale. -/
def InD (f g : FV) : Prop := ∀ d z, 0 < d → Dsk (f.x, f.y) f.rad d z → Dsk (g.x, g.y) g.rad d z
theorem InD.refl (f : FV) : InD f f := fun _ _ _ h => h
theorem InD.trans {f g h : FV} (h1 : InD f g) (h2 : InD g h) : InD f h := fun d z hd hz => h2 d z hd (h1 d z hd hz)
theorem ok_dt {a b : Pt} (ha : a.ok = true) (hb : b.ok = true) : dt a b b < 70368744177664 := by
 have := dt_bd ha hb hb
 omega
theorem hi_sq {f g : FV} (hf : plOk f.x f.y = true) (hg : plOk g.x g.y = true) : 0 ≤ hiF f g ∧ sqd (g.x, g.y) (f.x, f.y) ≤ hiF f g * hiF f g := by
 have ho1 : Pt.ok (f.x, f.y) = true := hf
 have ho2 : Pt.ok (g.x, g.y) = true := hg
 have hnn := dt_nn (f.x, f.y) (g.x, g.y)
 obtain ⟨h1, _, h2, h3⟩ := root_spec (dt (f.x, f.y) (g.x, g.y) (g.x, g.y)) hnn (ok_dt ho1 ho2)
 rw [← dt_sqd]
 unfold hiF distOf
 rw [if_pos (by rw [ho1, ho2]; rfl)]
 by_cases e : (f.x, f.y) = (g.x, g.y)
 ·rw [if_pos e]
  have : dt (f.x, f.y) (g.x, g.y) (g.x, g.y) = 0 := by
   rw [e]
   unfold dt
   grind
  rw [this]
  simp
 ·rw [if_neg e]
  by_cases e2 : rootOf (dt (f.x, f.y) (g.x, g.y) (g.x, g.y)) * rootOf (dt (f.x, f.y) (g.x, g.y) (g.x, g.y)) = dt (f.x, f.y) (g.x, g.y) (g.x, g.y)
  ·rw [if_pos e2]
   exact ⟨h1, by rw [e2]; exact Int.le_refl _⟩
  ·rw [if_neg e2]
   exact ⟨by dsimp only; omega, by dsimp only; omega⟩
/-- What is joined to a kept disc lies in it. -/
theorem join_in {f g : FV} (hf : plOk f.x f.y = true) (hg : plOk g.x g.y = true) (rf : 0 ≤ f.rad ∧ f.rad ≤ 100000) (rg : 0 ≤ g.rad) (hl : ¬ 100000 < g.rad) : InD f (joinF f g) ∧ InD g (joinF f g) := by
 unfold joinF
 rw [if_neg hl]
 obtain ⟨h0, h1⟩ := hi_sq hf hg
 by_cases hli : liesF f g = true
 ·rw [if_pos hli]
  refine ⟨fun d z hd hz => ?_, InD.refl g⟩
  unfold liesF liesOf at hli
  split at hli
  ·unfold liesB at hli
   dsimp only at hli
   rw [Bool.and_eq_true, decide_eq_true_eq, decide_eq_true_eq, dt_sqd] at hli
   exact dsk_dsk hd rf.1 hli.1 hli.2 hz
  ·cases hli
 ·rw [if_neg hli]
  have hle : g.rad ≤ hiF f g + f.rad := by
   rcases Int.lt_or_le (hiF f g + f.rad) g.rad with hlt | hle
   ·exfalso
    apply hli
    unfold liesF liesOf
    rw [if_pos (by rw [rad_ok rf, rad_ok ⟨rg, by omega⟩, show Pt.ok (f.x, f.y) = true from hf, show Pt.ok (g.x, g.y) = true from hg]; rfl)]
    unfold liesB
    dsimp only
    rw [Bool.and_eq_true, decide_eq_true_eq, decide_eq_true_eq, dt_sqd]
    refine ⟨by omega, ?_⟩
    have := sq_le (x := hiF f g) (y := g.rad - f.rad) (by omega)
    omega
   ·exact hle
  unfold growF
  constructor
  ·intro d z hd hz
   refine dsk_dsk hd rf.1 (by show f.rad ≤ hiF f g + f.rad; omega) ?_ hz
   show sqd (g.x, g.y) (f.x, f.y) ≤ (hiF f g + f.rad - f.rad) * (hiF f g + f.rad - f.rad)
   rw [show hiF f g + f.rad - f.rad = hiF f g by omega]
   exact h1
  ·intro d z hd hz
   refine dsk_dsk hd rg hle ?_ hz
   show sqd (g.x, g.y) (g.x, g.y) ≤ (hiF f g + f.rad - g.rad) * (hiF f g + f.rad - g.rad)
   have e : sqd (g.x, g.y) (g.x, g.y) = 0 := by unfold sqd; grind
   rw [e]
   exact sq_nonneg _
theorem join_dep (f g : FV) : (joinF f g).dep = g.dep ∧ joinF f g = { g with rad := (joinF f g).rad } := by
 unfold joinF growF
 split
 ·exact ⟨rfl, rfl⟩
 ·split <;> exact ⟨rfl, rfl⟩
theorem join_big {f g : FV} (h : 100000 < g.rad) : joinF f g = g := by unfold joinF; rw [if_pos h]
/-- How far the thinning has come: what is kept, and in which kept disc each one lies. -/
structure ThinInv (ds kept : List FV) (m : Nat) : Prop where
 src : ∀ g ∈ kept, ∃ j, j < m ∧ g = { fAt ds j with rad := g.rad } ∧ 0 ≤ g.rad
 has : ∀ j, j < m → ∃ g ∈ kept, g.dep ≤ (fAt ds j).dep ∧ (100000 < g.rad ∨ InD (fAt ds j) g)
theorem fAt_set' {fs : List FV} {i : Nat} {f : FV} (h : i < fs.length) : fAt (fs.set i f) i = f := by
 unfold fAt
 rw [List.getD_eq_getElem?_getD, List.getElem?_set_self h]
 rfl
theorem mem_set_or {kept : List FV} {q : Nat} {g x : FV} (h : g ∈ kept) (hq : q < kept.length) : g ∈ kept.set q x ∨ (g = fAt kept q ∧ x ∈ kept.set q x) := by
 obtain ⟨i, hi, rfl⟩ := fAt_of_mem h
 by_cases e : i = q
 ·subst e
  refine .inr ⟨rfl, ?_⟩
  exact List.mem_set hq x
 ·refine .inl ?_
  refine List.mem_of_getElem? (i := i) ?_
  rw [List.getElem?_set_ne (by omega)]
  exact fAt_get hi
theorem thin_inv {n : Int} {ds : List FV} (hv : ∀ f ∈ ds, plOk f.x f.y = true ∧ 0 ≤ f.rad ∧ f.rad ≤ 100000) (hs : ∀ i j, i ≤ j → j < ds.length → (fAt ds i).dep ≤ (fAt ds j).dep) : ∀ m, m ≤ ds.length → ThinInv ds (keptTo n ds m) m
 | 0, _ => ⟨fun g hg => (by cases hg), fun j hj => by omega⟩
 | m + 1, hm => by
  have I := thin_inv (n := n) hv hs m (by omega)
  have hf := hv _ (fAt_mem (show m < ds.length by omega))
  rw [keptTo_succ (by omega)]
  generalize keptTo n ds m = kept at *
  cases hidx : kept.findIdx? (nearF n (fAt ds m)) with
  | none =>
   have e : thinStep n kept (fAt ds m) = kept ++ [fAt ds m] := by unfold thinStep; rw [hidx]
   rw [e]
   refine ⟨fun g hg => ?_, fun j hj => ?_⟩
   ·rcases List.mem_append.1 hg with h | h
    ·obtain ⟨j, h1, h2⟩ := I.src g h
     exact ⟨j, by omega, h2⟩
    ·obtain rfl := List.mem_singleton.1 h
     exact ⟨m, by omega, rfl, hf.2.1⟩
   ·by_cases ej : j = m
    ·subst ej
     exact ⟨fAt ds j, by simp, Int.le_refl _, .inr (InD.refl _)⟩
    ·obtain ⟨g, h1, h2⟩ := I.has j (by omega)
     exact ⟨g, List.mem_append_left _ h1, h2⟩
  | some q =>
   have hq : q < kept.length := by
    have := List.findIdx?_eq_some_iff_getElem.1 hidx
    exact this.1
   have e : thinStep n kept (fAt ds m) = kept.set q (joinF (fAt ds m) (fAt kept q)) := by unfold thinStep; rw [hidx]
   rw [e]
   obtain ⟨j0, hj0, e0, r0⟩ := I.src _ (fAt_mem hq)
   obtain ⟨jd, jr⟩ := join_dep (fAt ds m) (fAt kept q)
   have hg0 : plOk (fAt kept q).x (fAt kept q).y = true := by
    rw [e0]
    exact (hv _ (fAt_mem (show j0 < ds.length by omega))).1
   have hd0 : (fAt kept q).dep ≤ (fAt ds m).dep := by
    have : (fAt kept q).dep = (fAt ds j0).dep := by rw [e0]
    rw [this]
    exact hs j0 m (by omega) (by omega)
   have hnew : joinF (fAt ds m) (fAt kept q) ∈ kept.set q (joinF (fAt ds m) (fAt kept q)) := List.mem_set hq _
   have hr0 : 0 ≤ (joinF (fAt ds m) (fAt kept q)).rad := by
    unfold joinF growF
    split
    ·exact r0
    ·split
     ·exact r0
     ·have := (hi_bd (fAt ds m) (fAt kept q)).1
      show 0 ≤ hiF (fAt ds m) (fAt kept q) + (fAt ds m).rad
      omega
   refine ⟨fun g hg => ?_, fun j hj => ?_⟩
   ·rcases List.mem_or_eq_of_mem_set hg with h | h
    ·obtain ⟨j, h1, h2⟩ := I.src g h
     exact ⟨j, by omega, h2⟩
    ·subst h
     refine ⟨j0, by omega, ?_, hr0⟩
     rw [jr, e0]
   ·by_cases ej : j = m
    ·subst ej
     refine ⟨_, hnew, by rw [jd]; exact hd0, ?_⟩
     by_cases hbig : 100000 < (fAt kept q).rad
     ·rw [join_big hbig]
      exact .inl hbig
     ·exact .inr (join_in hf.1 hg0 hf.2 r0 hbig).1
    ·obtain ⟨g, h1, h2, h3⟩ := I.has j (by omega)
     rcases mem_set_or (x := joinF (fAt ds m) (fAt kept q)) h1 hq with h | ⟨h, _⟩
     ·exact ⟨g, h, h2, h3⟩
     ·subst h
      refine ⟨_, hnew, by rw [jd]; exact h2, ?_⟩
      by_cases hbig : 100000 < (fAt kept q).rad
      ·rw [join_big hbig]
       exact .inl hbig
      ·rcases h3 with h3 | h3
       ·exact absurd h3 hbig
       ·exact .inr (h3.trans (join_in hf.1 hg0 hf.2 r0 hbig).2)
theorem discs_sorted (k : Int) (fs : List FV) : ∀ i j, i ≤ j → j < (discsOf k fs).length → (fAt (discsOf k fs) i).dep ≤ (fAt (discsOf k fs) j).dep := by
 intro i j hij hj
 by_cases e : i = j
 ·rw [e]; exact Int.le_refl _
 ·have hp : (discsOf k fs).Pairwise fun a b => leD a b = true := by
   unfold discsOf
   refine List.pairwise_mergeSort (fun a b c => sortD_trans a b c) (fun a b => ?_) _
   rcases sortD_total a b with h | h <;> simp [h]
  rw [List.pairwise_iff_getElem] at hp
  have := hp i j (by omega) hj (by omega)
  have a := fAt_get (show i < (discsOf k fs).length by omega)
  have b := fAt_get hj
  rw [List.getElem?_eq_getElem (by omega)] at a
  rw [List.getElem?_eq_getElem hj] at b
  injection a with a
  injection b with b
  rw [a, b, leD_iff] at this
  omega
theorem disc_cov_in {f g : FV} (kf : f.kind = 1 ∨ f.kind = 2 ∨ f.kind = 5) (kg : g.kind = f.kind) (h : InD f g) : ∀ d z, 0 < d → Cov f d z → Cov g d z := by
 intro d z hd hz
 unfold Cov at *
 rw [if_neg (by omega), if_neg (by omega)] at hz
 rw [if_neg (by omega), if_neg (by omega)]
 exact h d z hd hz
theorem thin_stands {k n : Int} {fs : List FV} (hk : k = 1 ∨ k = 2 ∨ k = 5) (hv : FList fs = true) (ho : FList (thinOf k n fs) = true) {f : FV} (hf : f ∈ fs) : ∃ g ∈ thinOf k n fs, metB f g = true ∧ g.kind = f.kind := by
 have vf := list_valid hv f hf
 have hin : ∀ g, g ∈ othersOf k fs ∨ g ∈ keptTo n (discsOf k fs) (discsOf k fs).length → g ∈ thinOf k n fs := fun g hg => by
  unfold thinOf
  exact (List.mergeSort_perm _ _).mem_iff.2 (List.mem_append.2 hg)
 by_cases hfk : f.kind = k
 ·have hd : ∀ g, g ∈ discsOf k fs → g ∈ fs ∧ g.kind = k := fun g hg => by
   have := List.mem_filter.1 ((discs_perm k fs).mem_iff.1 hg)
   exact ⟨this.1, by simpa [isKind] using this.2⟩
  have hfd : f ∈ discsOf k fs := (discs_perm k fs).mem_iff.2 (List.mem_filter.2 ⟨hf, by simp [isKind, hfk]⟩)
  have I := thin_inv (n := n) (ds := discsOf k fs) (fun g hg => by
   obtain ⟨g1, g2⟩ := hd g hg
   have vg := list_valid hv g g1
   refine ⟨?_, (valid_rng vg).2.2⟩
   rcases valid_cases vg with ⟨a, _⟩ | ⟨a, _⟩ | ⟨_, a, _⟩
   ·omega
   ·omega
   ·exact a) (discs_sorted k fs) _ (Nat.le_refl _)
  obtain ⟨j, hj, rfl⟩ := fAt_of_mem hfd
  obtain ⟨g, hg, h1, h2⟩ := I.has j hj
  have hgo := hin g (.inr hg)
  have vg := list_valid ho g hgo
  obtain ⟨j', hj', e, _⟩ := I.src g hg
  have hgk : g.kind = k := by rw [e]; exact (hd _ (fAt_mem hj')).2
  refine ⟨g, hgo, ?_, by rw [hgk, hfk]⟩
  rw [met_iff (by omega)]
  refine ⟨vf, vg, by omega, h1, ?_⟩
  rcases h2 with h2 | h2
  ·have := (valid_rng vg).2.2; omega
  ·exact disc_cov_in (by omega) (by omega) h2
 ·refine ⟨f, hin f (.inl ?_), met_refl vf, rfl⟩
  unfold othersOf
  exact List.mem_filter.2 ⟨hf, by simp [isKind, hfk]⟩
theorem chg_stands {o k n : Int} (ho : ruleOk o k n = true) (h3 : o ≠ 3) {f : FV} (vf : FValid f = true) (vg : FValid (chg o k n f) = true) : metB f (chg o k n f) = true ∧ (chg o k n f).kind = f.kind := by
 refine ⟨?_, (chg_kin o k n f).2.1⟩
 unfold chg at *
 by_cases hk : f.kind = k
 ·rw [if_pos hk] at vg ⊢
  unfold ruleOk at ho
  rw [Bool.and_eq_true, Bool.and_eq_true, decide_eq_true_eq, decide_eq_true_eq] at ho
  obtain ⟨h1, h2, h4⟩ := ho
  have hcase : o = 1 ∨ o = 2 ∨ o = 4 ∨ o = 5 := by omega
  rcases hcase with rfl | rfl | rfl | rfl
  ·exact met_refl vf
  ·have hk2 : k = 1 ∨ k = 2 ∨ k = 3 ∨ k = 5 := by simpa [opKinds] using h2
   have hn : 1 ≤ n := by simp [opLeast] at h4; omega
   rw [met_iff (by omega)]
   refine ⟨vf, vg, ?_, ?_, fun d z _ h => h⟩
   ·show f.kind ≠ 4
    omega
   ·show f.dep - f.dep % n ≤ f.dep
    have := Int.emod_nonneg f.dep (show n ≠ 0 by omega)
    omega
  ·have hk2 : k = 1 ∨ k = 2 ∨ k = 5 := by simpa [opKinds] using h2
   have rf := (valid_rng vf).2.2
   rw [met_iff (by omega)]
   refine ⟨vf, vg, ?_, Int.le_refl _, disc_cov_in (by omega) rfl fun d z hd hz => ?_⟩
   ·show f.kind ≠ 4
    omega
   ·unfold Dsk at *
    show sqd (sc d (f.x, f.y)) z ≤ (d * max f.rad n) * (d * max f.rad n)
    have h5 : d * f.rad ≤ d * max f.rad n := Int.mul_le_mul_of_nonneg_left (by omega) (by omega)
    have h6 : 0 ≤ d * f.rad := Int.mul_nonneg (by omega) rf.1
    have := sq_le (x := d * f.rad) (y := d * max f.rad n) (by omega)
    omega
  ·have hk2 : k = 3 ∨ k = 6 := by simpa [opKinds] using h2
   have pf : PValid f.area = true := by
    rcases valid_cases vf with ⟨a, _⟩ | ⟨_, a⟩ | ⟨a, _⟩
    ·omega
    ·exact a
    ·omega
   have hbx : boxOf f.area = (boxC f.area, 0) := by unfold boxOf; rw [if_pos pf]
   have ear : (changeF 5 n f).area = rectC (boxC f.area) := by
    show (rectOf (boxOf f.area).1).1 = _
    rw [hbx, rectOf_box pf]
   have ekd : (changeF 5 n f).kind = f.kind := rfl
   have pg : PValid (changeF 5 n f).area = true := by
    rcases valid_cases vg with ⟨a, _⟩ | ⟨_, a⟩ | ⟨a, _⟩
    ·omega
    ·exact a
    ·omega
   rw [met_iff (by omega)]
   refine ⟨vf, vg, by omega, Int.le_refl _, fun d z hd hz => ?_⟩
   unfold Cov at *
   rw [if_neg (by omega), if_pos (by omega)] at hz
   rw [if_neg (by omega), if_pos (by omega)]
   rw [ear] at pg ⊢
   exact (holds_sub (pv_poly pg) (pv_poly pf)).1 (rect_holds pf) d hd z hz
 ·rw [if_neg hk]
  exact met_refl vf
/-- What a rule makes stands for what was there. -/
theorem apply_stands {o k n : Int} {fs : List FV} (h0 : (applyOf o k n fs).2 = 0) {f : FV} (hf : f ∈ fs) : ∃ g ∈ (applyOf o k n fs).1, metB f g = true ∧ g.kind = f.kind := by
 have hl := apply_list h0
 unfold applyOf at *
 split at h0
 ·rename_i h1
  rw [if_pos h1] at hl ⊢
  rw [Bool.and_eq_true] at h1
  split at h0
  ·rename_i h2
   rw [if_pos h2] at hl ⊢
   dsimp only at hl ⊢
   unfold applyL at *
   by_cases h3 : o = 3
   ·rw [if_pos h3] at hl h2 ⊢
    have e := chg_none (o := o) (k := k) (n := n) (.inr h3) (thinOf k n fs)
    rw [e] at hl ⊢
    have hk : k = 1 ∨ k = 2 ∨ k = 5 := by
     have := h1.1
     rw [h3] at this
     unfold ruleOk at this
     rw [Bool.and_eq_true, Bool.and_eq_true] at this
     simpa [opKinds] using this.2.1
    exact thin_stands hk h1.2 hl hf
   ·rw [if_neg h3] at hl h2 ⊢
    have hm : chg o k n f ∈ fs.map (chg o k n) := List.mem_map.2 ⟨f, hf, rfl⟩
    exact ⟨_, hm, chg_stands h1.1 h3 (list_valid h1.2 f hf) (list_valid hl _ hm)⟩
  ·simp at h0
 ·simp at h0
theorem fold_stands {rs : List Ru} (h : ∀ r ∈ rs, r.ok = true) : ∀ (fs : List FV), FList fs = true → (rs.foldl runStep (fs, 0)).2 = 0 → ∀ f ∈ fs, ∃ g ∈ (rs.foldl runStep (fs, 0)).1, metB f g = true ∧ g.kind = f.kind := by
 induction rs with
 | nil => exact fun fs hv _ f hf => ⟨f, hf, met_refl (list_valid hv f hf), rfl⟩
 | cons r rs ih =>
  intro fs hv h0 f hf
  rw [List.foldl_cons] at h0 ⊢
  have e : runStep (fs, 0) r = applyOf r.1 r.2.1 r.2.2 fs := by unfold runStep; rw [if_pos rfl]
  rw [e] at h0 ⊢
  have ha : (applyOf r.1 r.2.1 r.2.2 fs).2 = 0 := by
   rcases apply_code (h r (List.mem_cons_self ..)) hv with h1 | h1
   ·exact h1
   ·exfalso
    have : ∀ (rs : List Ru) (l : List FV × Int), l.2 ≠ 0 → (rs.foldl runStep l).2 ≠ 0 := by
     intro rs
     induction rs with
     | nil => exact fun l hl => hl
     | cons r rs ih =>
      intro l hl
      rw [List.foldl_cons]
      refine ih _ ?_
      unfold runStep
      rw [if_neg hl]
      exact hl
    exact this rs _ (by rw [h1]; decide) h0
  obtain ⟨g, hg, m1, k1⟩ := apply_stands ha hf
  have hl := apply_list ha
  obtain ⟨⟨a, b⟩, hab⟩ : ∃ d, applyOf r.1 r.2.1 r.2.2 fs = d := ⟨_, rfl⟩
  rw [hab] at h0 hg hl ha ⊢
  dsimp only at ha hg hl
  subst ha
  obtain ⟨g', hg', m2, k2⟩ := ih (fun q hq => h q (List.mem_cons_of_mem _ hq)) a hl h0 g hg
  exact ⟨g', hg', met_trans m1 m2, by rw [k2, k1]⟩
theorem run_stands {rs : List Ru} {fs : List FV} (h0 : (runOf rs fs).2 = 0) {f : FV} (hf : f ∈ fs) : ∃ g ∈ (runOf rs fs).1, metB f g = true ∧ g.kind = f.kind := by
 obtain ⟨h1, h2⟩ := run_ok h0
 unfold runOf runTo at *
 rw [if_pos (by rw [h1, h2]; rfl)] at h0 ⊢
 rw [List.take_length] at h0 ⊢
 exact fold_stands (ru_mem h1).2 fs h2 h0 f hf
end Go.Proofs.YtfeccolljfkejaaGreatDoor
namespace Go.Proofs.YtfeccolljfkejaaGreatDoor
end Go.Proofs.YtfeccolljfkejaaGreatDoor
