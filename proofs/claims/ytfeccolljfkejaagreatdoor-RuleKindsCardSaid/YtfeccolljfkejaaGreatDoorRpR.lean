/- A rule that is applied once more changes nothing; what RuleThin leaves (plain). -/
import Derived.Test.YtfeccolljfkejaaGreatDoorRuP
import Derived.Test.YtfeccolljfkejaaGreatDoorBoQ
set_option linter.unusedSimpArgs false
set_option linter.unusedVariables false
namespace Go.Proofs.YtfeccolljfkejaaGreatDoor
open Go.RowKit Go.Sort
theorem rect_boxQ {b : B4} (hx : b.1.1 < b.1.2) (hy : b.2.1 < b.2.2) (hok : okB b = true) : boxOf (rectC b) = (b, 0) := by
 unfold boxOf
 rw [rect_valid hx hy hok, if_pos rfl]
 congr 1
 refine box_uniq (show 0 < 4 by omega) ?_ ⟨0, show 0 < 4 by omega, ?_⟩ ⟨1, show 1 < 4 by omega, ?_⟩ ⟨0, show 0 < 4 by omega, ?_⟩ ⟨2, show 2 < 4 by omega, ?_⟩
 ·refine rect_cases ?_ ?_ ?_ ?_
  ·rw [rc0]; unfold inB; dsimp only; omega
  ·rw [rc1]; unfold inB; dsimp only; omega
  ·rw [rc2]; unfold inB; dsimp only; omega
  ·rw [rc3]; unfold inB; dsimp only; omega
 ·rw [rc0]
 ·rw [rc1]
 ·rw [rc0]
 ·rw [rc2]
theorem rect_again {a : List Pt} (h : PValid a = true) : rectOf (boxOf (rectOf (boxOf a).1).1).1 = rectOf (boxOf a).1 := by
 have e1 : boxOf a = (boxC a, 0) := by unfold boxOf; rw [if_pos h]
 obtain ⟨w1, w2⟩ := box_wide h
 have e2 : rectOf (boxC a) = (rectC (boxC a), 0) := rectOf_box h
 rw [e1]
 show rectOf (boxOf (rectOf (boxC a)).1).1 = rectOf (boxC a)
 rw [e2]
 show rectOf (boxOf (rectC (boxC a))).1 = (rectC (boxC a), 0)
 rw [rect_boxQ w1 w2 (box_okB h)]
 exact e2
theorem area_valQ {f : FV} (h : FValid f = true) (hk : f.kind = 3 ∨ f.kind = 6) : PValid f.area = true := by
 unfold FValid at h
 rw [Bool.and_eq_true] at h
 have h := h.2
 have c1 : ¬ isDisc f.kind = true := by unfold isDisc; rw [decide_eq_true_eq]; omega
 rw [if_neg c1] at h
 by_cases c3 : f.kind = 3
 ·rw [if_pos c3] at h
  unfold areaOk at h
  rw [Bool.and_eq_true] at h
  exact h.1
 ·have c6 : f.kind = 6 := by omega
  rw [if_neg c3, if_pos c6] at h
  unfold areaOk at h
  rw [Bool.and_eq_true, Bool.and_eq_true] at h
  exact h.2.1
theorem disc_plQ {f : FV} (h : FValid f = true) (hk : f.kind = 1 ∨ f.kind = 2 ∨ f.kind = 5) : plOk f.x f.y = true := by
 unfold FValid at h
 rw [Bool.and_eq_true] at h
 have h := h.2
 rw [if_pos (show isDisc f.kind = true by unfold isDisc; rw [decide_eq_true_eq]; exact hk)] at h
 unfold discOk at h
 rw [Bool.and_eq_true] at h
 exact h.1
theorem rk_kind {o k n : Int} (h : ruleOk o k n = true) : (opKinds o).contains k = true ∧ (opLeast o ≤ n ∧ n ≤ opMost o) := by
 unfold ruleOk at h
 rw [Bool.and_eq_true, Bool.and_eq_true, decide_eq_true_eq, decide_eq_true_eq] at h
 exact h.2
theorem chg_again {o k n : Int} (ho : ruleOk o k n = true) {f : FV} (vf : FValid f = true) : chg o k n (chg o k n f) = chg o k n f := by
 unfold chg
 by_cases hk : f.kind = k
 ·rw [if_pos hk]
  have hk2 : (changeF o n f).kind = k := by unfold changeF; split <;> (try split) <;> (try split) <;> exact hk
  rw [if_pos hk2]
  unfold changeF
  by_cases h2 : o = 2
  ·rw [if_pos h2, if_pos h2]
   have e : (f.dep - f.dep % n) % n = 0 := by
    have : f.dep - f.dep % n = n * (f.dep / n) := by rw [Int.emod_def]; omega
    rw [this]
    exact Int.mul_emod_right n _
   show ({ f with dep := f.dep - f.dep % n - (f.dep - f.dep % n) % n } : FV) = { f with dep := f.dep - f.dep % n }
   rw [e, Int.sub_zero]
  ·rw [if_neg h2, if_neg h2]
   by_cases h4 : o = 4
   ·rw [if_pos h4, if_pos h4]
    show ({ f with rad := max (max f.rad n) n } : FV) = { f with rad := max f.rad n }
    rw [show max (max f.rad n) n = max f.rad n by omega]
   ·rw [if_neg h4, if_neg h4]
    by_cases h5 : o = 5
    ·rw [if_pos h5, if_pos h5]
     have hc := (rk_kind ho).1
     rw [h5] at hc
     have hk5 : f.kind = 3 ∨ f.kind = 6 := by
      rw [hk]
      simpa [opKinds] using hc
     have := congrArg Prod.fst (rect_again (area_valQ vf hk5))
     show ({ f with area := (rectOf (boxOf (rectOf (boxOf f.area).1).1).1).1, aA := none, ac := 0 } : FV) = { f with area := (rectOf (boxOf f.area).1).1, aA := none, ac := 0 }
     rw [this]
    ·rw [if_neg h5, if_neg h5]
 ·rw [if_neg hk, if_neg hk]
/-- What RuleThin never changes of a feature. -/
def ky (f : FV) : Int × Int × Int × Int × Int := (f.id, f.kind, f.x, f.y, f.dep)
def nearKy (n : Int) (a b : Int × Int × Int × Int × Int) : Bool := (nearOf (a.2.2.1, a.2.2.2.1) (b.2.2.1, b.2.2.2.1) (b.2.2.1, b.2.2.2.1) n).1
theorem near_ky (n : Int) (f g : FV) : nearF n f g = nearKy n (ky f) (ky g) := rfl
theorem ky_join (f g : FV) : ky (joinF f g) = ky g := by
 unfold joinF
 split
 ·rfl
 ·split <;> rfl
theorem set_same {α : Type} : ∀ (l : List α) (k : Nat) (h : k < l.length), l.set k l[k] = l
 | [], _, h => by simp at h
 | a :: l, 0, _ => rfl
 | a :: l, k + 1, h => by
  rw [List.set_cons_succ]
  congr 1
  exact set_same l k (by simpa using h)
theorem map_set_ky {kept : List FV} {k : Nat} {x : FV} (hk : k < kept.length) (hx : ky x = ky (fAt kept k)) : (kept.set k x).map ky = kept.map ky := by
 rw [List.map_set, hx]
 have e : (kept.map ky)[k]'(by simpa using hk) = ky (fAt kept k) := by
  rw [List.getElem_map]
  have := fAt_get hk
  rw [List.getElem?_eq_getElem hk] at this
  injection this with this
  rw [this]
 rw [← e]
 exact set_same _ k _
theorem take_next {l : List FV} {m : Nat} (h : m < l.length) : l.take (m + 1) = l.take m ++ [fAt l m] := by
 rw [List.take_add_one, fAt_get h]
 rfl
theorem kept_ky (n : Int) (ds : List FV) : ∀ m, m ≤ ds.length → ((keptTo n ds m).map ky).Sublist ((ds.take m).map ky)
 | 0, _ => by simp [keptTo]
 | m + 1, h => by
  have ih := kept_ky n ds m (by omega)
  rw [keptTo_succ (by omega), take_next (by omega), List.map_append]
  unfold thinStep
  split
  ·rw [List.map_append]
   exact ih.append (List.Sublist.refl _)
  ·rename_i k hk
   rw [map_set_ky (List.findIdx?_eq_some_iff_getElem.1 hk).1 (ky_join _ _)]
   exact ih.trans (List.sublist_append_left _ _)
theorem kept_near (n : Int) (ds : List FV) : ∀ m, m ≤ ds.length → ((keptTo n ds m).map ky).Pairwise fun a b => nearKy n b a = false
 | 0, _ => by simp [keptTo]
 | m + 1, h => by
  have ih := kept_near n ds m (by omega)
  rw [keptTo_succ (by omega)]
  unfold thinStep
  split
  ·rename_i hk
   rw [List.map_append, List.pairwise_append]
   refine ⟨ih, by simp, fun a ha b hb => ?_⟩
   obtain ⟨g, hg, rfl⟩ := List.mem_map.1 ha
   simp at hb
   subst hb
   have := List.findIdx?_eq_none_iff.1 hk g hg
   rw [← near_ky]
   simpa using this
  ·rename_i k hk
   rw [map_set_ky (List.findIdx?_eq_some_iff_getElem.1 hk).1 (ky_join _ _)]
   exact ih
theorem kept_self {n : Int} {K : List FV} (h : (K.map ky).Pairwise fun a b => nearKy n b a = false) : ∀ m, m ≤ K.length → keptTo n K m = K.take m
 | 0, _ => by simp [keptTo]
 | m + 1, hm => by
  rw [keptTo_succ (by omega), kept_self h m (by omega), take_next (by omega)]
  unfold thinStep
  have e : (K.take m).findIdx? (nearF n (fAt K m)) = none := by
   rw [List.findIdx?_eq_none_iff]
   intro g hg
   have hs : ((K.take (m + 1)).map ky).Pairwise fun a b => nearKy n b a = false := h.sublist ((List.take_sublist _ _).map ky)
   rw [take_next (by omega), List.map_append, List.pairwise_append] at hs
   have := hs.2.2 (ky g) (List.mem_map.2 ⟨g, hg, rfl⟩) (ky (fAt K m)) (by simp)
   rw [near_ky]
   simpa using this
  rw [e]
def leKy (a b : Int × Int × Int × Int × Int) : Bool := decide ((if sg (a.2.2.2.2 - b.2.2.2.2) = 0 then sg (a.1 - b.1) else sg (a.2.2.2.2 - b.2.2.2.2)) ≤ 0)
theorem le_ky (f g : FV) : leD f g = leKy (ky f) (ky g) := rfl
/-- RuleThin's kept ones: of its kind, in order, with ids of the list's. -/
theorem kept_facts (k n : Int) (fs : List FV) : (∀ g ∈ keptTo n (discsOf k fs) (discsOf k fs).length, ∃ f ∈ fs, f.kind = k ∧ ky g = ky f) ∧ ((keptTo n (discsOf k fs) (discsOf k fs).length).Pairwise fun a b => leD a b = true) ∧ ((keptTo n (discsOf k fs) (discsOf k fs).length).map ky).Pairwise fun a b => nearKy n b a = false := by
 have hs := kept_ky n (discsOf k fs) (discsOf k fs).length (Nat.le_refl _)
 rw [List.take_length] at hs
 refine ⟨fun g hg => ?_, ?_, kept_near n _ _ (Nat.le_refl _)⟩
 ·have := hs.subset (List.mem_map.2 ⟨g, hg, rfl⟩)
  obtain ⟨f, hf, e⟩ := List.mem_map.1 this
  have hf2 := (List.mergeSort_perm _ _).mem_iff.1 hf
  obtain ⟨h1, h2⟩ := List.mem_filter.1 hf2
  exact ⟨f, h1, by simpa [isKind] using h2, e.symm⟩
 ·have hp : (discsOf k fs).Pairwise fun a b => leD a b = true := by
   unfold discsOf
   refine List.pairwise_mergeSort (fun a b c => sortD_trans a b c) (fun a b => ?_) _
   rcases sortD_total a b with h | h <;> simp [h]
  have hp2 : ((discsOf k fs).map ky).Pairwise fun a b => leKy a b = true := by
   rw [List.pairwise_map]
   exact hp
  have := hp2.sublist hs
  rw [List.pairwise_map] at this
  exact this
theorem thin_again {k n : Int} {fs : List FV} (ho : FList (thinOf k n fs) = true) : thinOf k n (thinOf k n fs) = thinOf k n fs := by
 obtain ⟨f1, f2, f3⟩ := kept_facts k n fs
 have hperm : (thinOf k n fs).Perm (othersOf k fs ++ keptTo n (discsOf k fs) (discsOf k fs).length) := List.mergeSort_perm _ _
 generalize keptTo n (discsOf k fs) (discsOf k fs).length = K at *
 obtain ⟨l1, _, _⟩ := list_iff.1 ho
 generalize thinOf k n fs = out at *
 have idn : (out.map FV.id).Nodup := by
  rw [List.Nodup, List.pairwise_map]
  exact l1.imp fun h e => by omega
 have kK : ∀ g ∈ K, isKind k g = true := fun g hg => by
  obtain ⟨f, _, h1, h2⟩ := f1 g hg
  have : g.kind = f.kind := congrArg (fun x => x.2.1) h2
  unfold isKind
  rw [this, h1]
  simp
 have kO : ∀ g ∈ othersOf k fs, isKind k g = false := fun g hg => by
  have := (List.mem_filter.1 hg).2
  simpa using this
 have p1 : (out.filter (isKind k)).Perm K := by
  have := hperm.filter (isKind k)
  have g1 : (othersOf k fs).filter (isKind k) = [] := List.filter_eq_nil_iff.2 (fun g hg => by rw [kO g hg]; simp)
  have g2 : K.filter (isKind k) = K := List.filter_eq_self.2 kK
  rw [List.filter_append, g1, g2, List.nil_append] at this
  exact this
 have p2 : (othersOf k out).Perm (othersOf k fs) := by
  have := hperm.filter (fun f => !isKind k f)
  have g1 : (othersOf k fs).filter (fun f => !isKind k f) = othersOf k fs := List.filter_eq_self.2 (fun g hg => by rw [kO g hg]; rfl)
  have g2 : K.filter (fun f => !isKind k f) = [] := List.filter_eq_nil_iff.2 (fun g hg => by rw [kK g hg]; simp)
  rw [List.filter_append, g1, g2, List.append_nil] at this
  exact this
 have d1 : discsOf k out = K := by
  unfold discsOf
  refine (sort_uniq sortD_id sortD_trans sortD_total ?_ p1.symm f2).symm
  exact idn.sublist ((List.filter_sublist).map FV.id)
 have hp : out.Perm (othersOf k out ++ K) := hperm.trans (p2.symm.append_right K)
 conv => lhs; unfold thinOf
 rw [d1, kept_self f3 K.length (Nat.le_refl _), List.take_length]
 refine (sort_uniq sortI_id sortI_trans sortI_total ?_ hp ?_).symm
 ·exact (hp.map FV.id).nodup_iff.1 idn
 ·exact l1.imp fun h => by rw [leI_iff]; omega
/-- The law RuleAgain in plain words: once more changes nothing. -/
theorem again {o k n : Int} {fs : List FV} (h0 : (applyOf o k n fs).2 = 0) : applyOf o k n (applyOf o k n fs).1 = ((applyOf o k n fs).1, 0) ∧ (o ≠ 3 → (applyOf o k n fs).1.length = fs.length) ∧ (o = 3 → (applyOf o k n fs).1 = thinOf k n fs) ∧ ruleOk o k n = true ∧ FList fs = true ∧ FList (applyOf o k n fs).1 = true := by
 unfold applyOf at h0
 split at h0
 ·rename_i h1
  split at h0
  ·rename_i h2
   rw [Bool.and_eq_true] at h1
   have e0 : applyOf o k n fs = (applyL o k n fs, 0) := by
    unfold applyOf
    rw [if_pos (by rw [h1.1, h1.2]; rfl), if_pos h2]
   rw [e0]
   have e1 : applyL o k n (applyL o k n fs) = applyL o k n fs := by
    by_cases h3 : o = 3
    ·have ea : ∀ l, applyL o k n l = thinOf k n l := fun l => by
      unfold applyL
      rw [if_pos h3]
      exact chg_none (.inr h3) _
     rw [ea] at h2
     rw [ea fs, ea, thin_again h2]
    ·have ea : ∀ l, applyL o k n l = l.map (chg o k n) := fun l => by
      unfold applyL
      rw [if_neg h3]
     rw [ea fs, ea, List.map_map]
     refine List.map_congr_left fun f hf => ?_
     exact chg_again h1.1 (list_valid h1.2 f hf)
   refine ⟨?_, fun h3 => ?_, fun h3 => ?_, h1.1, h1.2, h2⟩
   ·show applyOf o k n (applyL o k n fs) = (applyL o k n fs, 0)
    unfold applyOf
    rw [if_pos (by rw [h1.1, h2]; rfl), e1, if_pos h2]
   ·show (applyL o k n fs).length = fs.length
    unfold applyL
    rw [if_neg h3, List.length_map]
   ·show applyL o k n fs = thinOf k n fs
    unfold applyL
    rw [if_pos h3]
    exact chg_none (.inr h3) _
  ·exact absurd h0 (by decide)
 ·exact absurd h0 (by decide)
theorem near_ofQ {p a : Pt} {r : Int} (h : (p.1 - a.1) * (p.1 - a.1) + (p.2 - a.2) * (p.2 - a.2) ≤ r * r) : nearB p a a r = true := by
 unfold nearB sqr
 rw [decide_eq_true_eq]
 have e : dt a a p = 0 := by unfold dt; grind
 rw [if_pos (by omega)]
 have e2 : dt a p p = (p.1 - a.1) * (p.1 - a.1) + (p.2 - a.2) * (p.2 - a.2) := by unfold dt; rfl
 rw [e2]
 dsimp only
 omega
theorem pw_all {α : Type} {R : α → α → Prop} (hsym : ∀ a b, R a b → R b a) : ∀ {l : List α}, l.Pairwise R → ∀ a ∈ l, ∀ b ∈ l, a = b ∨ R a b
 | [], _, a, ha, _, _ => by cases ha
 | x :: l, h, a, ha, b, hb => by
  rw [List.pairwise_cons] at h
  rcases List.mem_cons.1 ha with e1 | ha2
  ·rcases List.mem_cons.1 hb with e2 | hb2
   ·exact .inl (e1.trans e2.symm)
   ·exact .inr (by rw [e1]; exact h.1 b hb2)
  ·rcases List.mem_cons.1 hb with e2 | hb2
   ·exact .inr (by rw [e2]; exact hsym _ _ (h.1 a ha2))
   ·exact pw_all hsym h.2 a ha2 b hb2
/-- RuleThin leaves no two features of its kind near each other. -/
theorem thin_far {k n : Int} {fs : List FV} (hu : ruleOk 3 k n = true) (hl : FList fs = true) (ho : FList (thinOf k n fs) = true) {g h : FV} (hg : g ∈ thinOf k n fs) (hh : h ∈ thinOf k n fs) (kg : g.kind = k) (kh : h.kind = k) (hne : g.id ≠ h.id) : n * n < (g.x - h.x) * (g.x - h.x) + (g.y - h.y) * (g.y - h.y) := by
 obtain ⟨f1, _, f3⟩ := kept_facts k n fs
 have hperm : (thinOf k n fs).Perm (othersOf k fs ++ keptTo n (discsOf k fs) (discsOf k fs).length) := List.mergeSort_perm _ _
 generalize keptTo n (discsOf k fs) (discsOf k fs).length = K at *
 have inK : ∀ g, g ∈ thinOf k n fs → g.kind = k → g ∈ K := fun g hg kg => by
  rcases List.mem_append.1 (hperm.mem_iff.1 hg) with h | h
  ·have := (List.mem_filter.1 h).2
   simp [isKind, kg] at this
  ·exact h
 have hc := (rk_kind hu)
 have hk3 : k = 1 ∨ k = 2 ∨ k = 5 := by simpa [opKinds] using hc.1
 have hn : 0 ≤ n ∧ n ≤ 100000 := by simpa [opLeast, opMost] using hc.2
 have hok : ∀ g ∈ K, plOk g.x g.y = true := fun g hg => by
  obtain ⟨f, hf, e1, e2⟩ := f1 g hg
  have ex : g.x = f.x := congrArg (fun x => x.2.2.1) e2
  have ey : g.y = f.y := congrArg (fun x => x.2.2.2.1) e2
  rw [ex, ey]
  exact disc_plQ (list_valid hl f hf) (by rw [e1]; exact hk3)
 have hR : K.Pairwise fun a b => a.id = b.id ∨ n * n < (a.x - b.x) * (a.x - b.x) + (a.y - b.y) * (a.y - b.y) := by
  rw [List.pairwise_map] at f3
  rw [List.pairwise_iff_forall_sublist] at f3 ⊢
  intro a b hs
  have hnear := f3 hs
  have ha : a ∈ K := hs.subset (by simp)
  have hb : b ∈ K := hs.subset (by simp)
  refine .inr (Int.lt_of_not_ge fun hle => ?_)
  have : nearB (b.x, b.y) (a.x, a.y) (a.x, a.y) n = true := near_ofQ (by
   show (b.x - a.x) * (b.x - a.x) + (b.y - a.y) * (b.y - a.y) ≤ n * n
   have e : (b.x - a.x) * (b.x - a.x) + (b.y - a.y) * (b.y - a.y) = (a.x - b.x) * (a.x - b.x) + (a.y - b.y) * (a.y - b.y) := by grind
   rw [e]
   exact hle)
  have h2 : nearKy n (ky b) (ky a) = true := by
   show (nearOf (b.x, b.y) (a.x, a.y) (a.x, a.y) n).1 = true
   unfold nearOf
   have o1 : (Pt.ok (b.x, b.y)) = true := hok b hb
   have o2 : (Pt.ok (a.x, a.y)) = true := hok a ha
   rw [o1, o2, show distB n = true by unfold distB; rw [decide_eq_true_eq]; omega]
   exact this
  rw [h2] at hnear
  cases hnear
 rcases pw_all (fun a b h => by
  rcases h with h | h
  ·exact .inl h.symm
  ·refine .inr ?_
   have e : (b.x - a.x) * (b.x - a.x) + (b.y - a.y) * (b.y - a.y) = (a.x - b.x) * (a.x - b.x) + (a.y - b.y) * (a.y - b.y) := by grind
   rw [e]
   exact h) hR g (inK g hg kg) h (inK h hh kh) with e | e | e
 ·exact absurd (congrArg FV.id e) hne
 ·exact absurd e hne
 ·exact e
end Go.Proofs.YtfeccolljfkejaaGreatDoor
