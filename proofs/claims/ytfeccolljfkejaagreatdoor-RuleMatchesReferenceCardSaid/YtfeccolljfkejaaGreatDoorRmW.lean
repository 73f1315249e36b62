import Derived.Test.YtfeccolljfkejaaGreatDoorRmK
import Derived.Test.YtfeccolljfkejaaGreatDoorRuI
import Derived.Test.YtfeccolljfkejaaGreatDoorRmL
import Derived.Test.YtfeccolljfkejaaGreatDoorRmY
import Derived.Test.YtfeccolljfkejaaGreatDoorSaL
/- The reference's Apply and package rule's hand back the same: in plain words. -/
set_option linter.unusedSimpArgs false
set_option linter.unusedVariables false
namespace Go.Proofs.YtfeccolljfkejaaGreatDoor
open Go.RowKit Go.Sort
attribute [local go_sem] Steady steadyUpon
attribute [local go_sem ↓] hs_dr lt_add_r lt_add_r2 lt_add_r3 lt_add_r4 lt_add_r5 lt_add_r6
attribute [local go_sem] cell?_gd frozen?_gd setCell_gd size_grow tape_grow cell?_grow' frozen?_grow' setCell_grow' grow_grow grow_dr grow_drew dr_dr dr_drew drew_dr dr_alloc dr_setCell dr_cell dr_frozen dr_tape dr_drawn
theorem get_fA {l : List FV} {m : Nat} (h : m < l.length) : l[m] = fAt l m := by
 have a := fAt_get h
 rw [List.getElem?_eq_getElem h] at a
 injection a
theorem fA_left {a b : List FV} {i : Nat} (h : i < a.length) : fAt (a ++ b) i = fAt a i := by
 unfold fAt
 rw [List.getD_eq_getElem?_getD, List.getD_eq_getElem?_getD, List.getElem?_append_left h]
theorem fA_last (a : List FV) (x : FV) : fAt (a ++ [x]) a.length = x := by
 unfold fAt
 rw [List.getD_eq_getElem?_getD, List.getElem?_append_right (Nat.le_refl _)]
 simp
theorem fA_set {a : List FV} {k : Nat} (x : FV) (h : k < a.length) (i : Nat) : fAt (a.set k x) i = if i = k then x else fAt a i := by
 unfold fAt
 rw [List.getD_eq_getElem?_getD, List.getD_eq_getElem?_getD, List.getElem?_set]
 by_cases e : k = i
 ·subst e
  simp [h]
 ·rw [if_neg e, if_neg (fun h => e h.symm)]
/-! The order by depth. -/
theorem sh_le {f g : FV} (h : shB f g = true) : leD f g = true := by
 unfold shB at h
 rw [decide_eq_true_eq] at h
 rw [leD_iff]
 omega
theorem sh_not {f g : FV} (h : shB f g = false) : leD g f = true := by
 unfold shB at h
 rw [decide_eq_false_iff_not] at h
 rw [leD_iff]
 omega
theorem dw_le {x : FV} : ∀ {l : List FV}, (l.Pairwise fun a b => leD a b = true) → ∀ b, b ∈ l.dropWhile (fun y => shB y x) → leD x b = true
 | [], _, b, hb => by simp at hb
 | a :: l, hs, b, hb => by
  rw [List.pairwise_cons] at hs
  by_cases h : shB a x = true
  ·rw [List.dropWhile_cons_of_pos (p := fun y => shB y x) h] at hb
   exact dw_le hs.2 b hb
  ·have h' : shB a x = false := by simpa using h
   rw [List.dropWhile_cons_of_neg (p := fun y => shB y x) h] at hb
   rcases List.mem_cons.1 hb with rfl | hb
   ·exact sh_not h'
   ·exact sortD_trans _ _ _ (sh_not h') (hs.1 b hb)
theorem tw_sh {x : FV} : ∀ {l : List FV}, ∀ b, b ∈ l.takeWhile (fun y => shB y x) → shB b x = true
 | [], b, hb => by simp at hb
 | a :: l, b, hb => by
  by_cases h : shB a x = true
  ·rw [List.takeWhile_cons_of_pos (p := fun y => shB y x) h] at hb
   rcases List.mem_cons.1 hb with rfl | hb
   ·exact h
   ·exact tw_sh b hb
  ·rw [List.takeWhile_cons_of_neg (p := fun y => shB y x) h] at hb
   cases hb
theorem insD_perm (x : FV) (l : List FV) : (insD x l).Perm (x :: l) := by
 unfold insD
 have e := List.takeWhile_append_dropWhile (p := fun y => shB y x) (l := l)
 refine List.perm_middle.trans ?_
 rw [e]
theorem insD_sorted {x : FV} {l : List FV} (h : l.Pairwise fun a b => leD a b = true) : (insD x l).Pairwise fun a b => leD a b = true := by
 unfold insD
 rw [List.pairwise_append, List.pairwise_cons]
 refine ⟨h.sublist (List.takeWhile_sublist _), ⟨dw_le h, h.sublist (List.dropWhile_sublist _)⟩, fun a ha b hb => ?_⟩
 have hax := sh_le (tw_sh a ha)
 rcases List.mem_cons.1 hb with rfl | hb
 ·exact hax
 ·exact sortD_trans _ _ _ hax (dw_le h b hb)
theorem foldD_facts : ∀ (fs l : List FV), (l.Pairwise fun a b => leD a b = true) → ((fs.foldl (fun l x => insD x l) l).Perm (fs ++ l) ∧ (fs.foldl (fun l x => insD x l) l).Pairwise fun a b => leD a b = true)
 | [], l, h => ⟨List.Perm.refl _, h⟩
 | a :: fs, l, h => by
  obtain ⟨h1, h2⟩ := foldD_facts fs (insD a l) (insD_sorted h)
  refine ⟨h1.trans ?_, h2⟩
  exact ((insD_perm a l).append_left fs).trans List.perm_middle
theorem byD_discs {k : Int} {fs : List FV} (h : (fs.map FV.id).Nodup) : byD (fs.filter (isKind k)) = discsOf k fs := by
 obtain ⟨h1, h2⟩ := foldD_facts (fs.filter (isKind k)) [] List.Pairwise.nil
 rw [List.append_nil] at h1
 exact sort_uniq sortD_id sortD_trans sortD_total (h.sublist ((List.filter_sublist).map FV.id)) h1 h2
/-! What is kept: the same, or too wide on both sides. -/
def Sim (a b : FV) : Prop := a = b ∨ (100000 < a.rad ∧ 100000 < b.rad ∧ b = { a with rad := b.rad })
def SimL (a b : List FV) : Prop := a.length = b.length ∧ ∀ i, i < a.length → Sim (fAt a i) (fAt b i)
theorem near_eq {n : Int} {f g : FV} (hn : 0 ≤ n ∧ n ≤ 100000) (hf : plOk f.x f.y = true) (hg : plOk g.x g.y = true) : nearF n f g = rnearF n f g := by
 unfold nearF rnearF nearOf
 rw [if_pos (by rw [show Pt.ok (f.x, f.y) = true from hf, show Pt.ok (g.x, g.y) = true from hg, show distB n = true by unfold distB; rw [decide_eq_true_eq]; omega]; rfl)]
 unfold nearB sqr
 have e : dt (g.x, g.y) (g.x, g.y) (f.x, f.y) = 0 := by unfold dt; simp
 rw [e, if_pos (Int.le_refl 0)]
 dsimp only
 rw [Int.mul_one, Int.mul_one]
theorem lies_eq {f g : FV} (hf : plOk f.x f.y = true) (hg : plOk g.x g.y = true) (rf : 0 ≤ f.rad ∧ f.rad ≤ 3000000) (rg : 0 ≤ g.rad ∧ g.rad ≤ 3000000) : liesF f g = rliesF f g := by
 unfold liesF rliesF liesOf
 rw [if_pos (by rw [show Pt.ok (f.x, f.y) = true from hf, show Pt.ok (g.x, g.y) = true from hg, show distB f.rad = true by unfold distB; rw [decide_eq_true_eq]; omega, show distB g.rad = true by unfold distB; rw [decide_eq_true_eq]; omega]; rfl)]
theorem rhi_sq {f g : FV} (hf : plOk f.x f.y = true) (hg : plOk g.x g.y = true) : dt (f.x, f.y) (g.x, g.y) (g.x, g.y) ≤ rhiF f g * rhiF f g := by
 have hd := dt_bd (a := (f.x, f.y)) (b := (g.x, g.y)) (c := (g.x, g.y)) hf hg hg
 have h0 := dt_nn (f.x, f.y) (g.x, g.y)
 unfold rhiF
 rw [dist_ok (p := (f.x, f.y)) (q := (g.x, g.y)) hf hg]
 obtain ⟨h1, _, h3, h4⟩ := root_spec _ h0 (by omega)
 dsimp only
 split <;> omega
theorem wide_on {f g : FV} (hf : plOk f.x f.y = true ∧ 0 ≤ f.rad ∧ f.rad ≤ 100000) (hg : RKept g) (hw : 100000 < g.rad) : 100000 < (rjoinF f g).rad ∧ rjoinF f g = { g with rad := (rjoinF f g).rad } := by
 unfold rjoinF
 by_cases h : rliesF f g = true
 ·rw [if_pos h]
  exact ⟨hw, rfl⟩
 ·rw [if_neg h]
  refine ⟨?_, rfl⟩
  show 100000 < rhiF f g + f.rad
  refine Int.lt_of_not_ge fun hle => h ?_
  have h0 := (rhi_bd hf.1 hg.1).1
  have hs := rhi_sq hf.1 hg.1
  have hm := Int.mul_le_mul (show rhiF f g ≤ g.rad - f.rad by omega) (show rhiF f g ≤ g.rad - f.rad by omega) h0 (by omega)
  unfold rliesF liesB
  rw [Bool.and_eq_true, decide_eq_true_eq, decide_eq_true_eq]
  exact ⟨by omega, by omega⟩
theorem sim_join {f a b : FV} (hf : plOk f.x f.y = true ∧ 0 ≤ f.rad ∧ f.rad ≤ 100000) (hb : RKept b) (h : Sim a b) : Sim (joinF f a) (rjoinF f b) := by
 rcases h with rfl | ⟨h1, h2, h3⟩
 ·by_cases hw : 100000 < a.rad
  ·obtain ⟨w1, w2⟩ := wide_on hf hb hw
   refine .inr ?_
   unfold joinF
   rw [if_pos hw]
   exact ⟨hw, w1, w2⟩
  ·refine .inl ?_
   unfold joinF rjoinF growF
   rw [if_neg hw, lies_eq hf.1 hb.1 (by omega) hb.2]
   rfl
 ·obtain ⟨w1, w2⟩ := wide_on hf hb h2
  refine .inr ?_
  unfold joinF
  rw [if_pos h1]
  refine ⟨h1, w1, ?_⟩
  rw [w2, h3]
theorem sim_pl {a b : FV} (h : Sim a b) : a.x = b.x ∧ a.y = b.y := by
 rcases h with rfl | ⟨_, _, h⟩
 ·exact ⟨rfl, rfl⟩
 ·rw [h]
  exact ⟨rfl, rfl⟩
theorem sim_step {n : Int} {K R : List FV} {f : FV} (hn : 0 ≤ n ∧ n ≤ 100000) (hf : plOk f.x f.y = true ∧ 0 ≤ f.rad ∧ f.rad ≤ 100000) (hR : ∀ g ∈ R, RKept g) (h : SimL K R) : SimL (thinStep n K f) (rkStep n R f) := by
 obtain ⟨hl, hs⟩ := h
 have hnr : ∀ m, m < R.length → nearF n f (fAt K m) = rnearF n f (fAt R m) := fun m hm => by
  have hk := hR _ (fAt_mem hm)
  obtain ⟨ex, ey⟩ := sim_pl (hs m (by omega))
  rw [← near_eq hn hf.1 hk.1]
  unfold nearF
  rw [ex, ey]
 cases hi : R.findIdx? (rnearF n f) with
 | none =>
  have hno : ∀ m, m < R.length → rnearF n f (fAt R m) = false := fun m hm => List.findIdx?_eq_none_iff.1 hi _ (fAt_mem hm)
  rw [rstep_none hno, step_none (fun m hm => by rw [hnr m (by omega)]; exact hno m (by omega))]
  refine ⟨by rw [List.length_append, List.length_append, hl], fun i hi => ?_⟩
  rw [List.length_append, List.length_singleton] at hi
  by_cases e : i < K.length
  ·rw [fA_left e, fA_left (by omega)]
   exact hs i e
  ·obtain rfl : i = K.length := by omega
   rw [fA_last, hl, fA_last]
   exact .inl rfl
 | some k =>
  obtain ⟨hk, h1, h2⟩ := List.findIdx?_eq_some_iff_getElem.1 hi
  rw [get_fA] at h1
  have h2' : ∀ j, j < k → rnearF n f (fAt R j) = false := fun j hj => by
   have := h2 j hj
   rw [get_fA] at this
   simpa using this
  rw [rstep_some hk h1 h2', step_some (show k < K.length by omega) (by rw [hnr k hk]; exact h1) (fun m hm => by rw [hnr m (by omega)]; exact h2' m hm)]
  refine ⟨by rw [List.length_set, List.length_set, hl], fun i hi => ?_⟩
  rw [List.length_set] at hi
  rw [fA_set _ (by omega), fA_set _ hk]
  by_cases e : i = k
  ·rw [if_pos e, if_pos e]
   exact sim_join hf (hR _ (fAt_mem hk)) (hs k (by omega))
  ·rw [if_neg e, if_neg e]
   exact hs i hi
theorem sim_all {n : Int} {ds : List FV} (hn : 0 ≤ n ∧ n ≤ 100000) (hd : ∀ f, f ∈ ds → plOk f.x f.y = true ∧ 0 ≤ f.rad ∧ f.rad ≤ 100000) : ∀ m, m ≤ ds.length → SimL (keptTo n ds m) (rkTo n ds m)
 | 0, _ => by
  refine ⟨rfl, fun i hi => ?_⟩
  simp [keptTo] at hi
 | m + 1, h => by
  rw [keptTo_succ (by omega), rkTo_succ (by omega)]
  exact sim_step hn (hd _ (fAt_mem (by omega))) (rk_all hd m (by omega)) (sim_all hn hd m (by omega))
/-! The lists. -/
theorem strict_uniq : ∀ {a b : List FV}, (a.Pairwise fun x y => x.id < y.id) → (b.Pairwise fun x y => x.id < y.id) → (∀ x, x ∈ a ↔ x ∈ b) → a = b
 | [], [], _, _, _ => rfl
 | [], y :: b, _, _, h => by
  have := (h y).2 (by simp)
  cases this
 | x :: a, [], _, _, h => by
  have := (h x).1 (by simp)
  cases this
 | x :: a, y :: b, h1, h2, h => by
  rw [List.pairwise_cons] at h1 h2
  have e : x = y := by
   rcases List.mem_cons.1 ((h x).1 (by simp)) with e | e
   ·exact e
   ·have l1 := h2.1 x e
    rcases List.mem_cons.1 ((h y).2 (by simp)) with e2 | e2
    ·exact e2.symm
    ·have := h1.1 y e2
     omega
  subst e
  rw [strict_uniq h1.2 h2.2 fun z => ?_]
  constructor
  ·intro hz
   rcases List.mem_cons.1 ((h z).1 (List.mem_cons_of_mem _ hz)) with e | e
   ·subst e
    have := h1.1 z hz
    omega
   ·exact e
  ·intro hz
   rcases List.mem_cons.1 ((h z).2 (List.mem_cons_of_mem _ hz)) with e | e
   ·subst e
    have := h2.1 z hz
    omega
   ·exact e
theorem chg3 (k n : Int) (f : FV) : chg 3 k n f = f := by
 unfold chg
 split
 ·unfold changeF
  rw [if_neg (by decide), if_neg (by decide), if_neg (by decide)]
 ·rfl
theorem rk_from {k n : Int} {fs : List FV} {g : FV} (hg : g ∈ rkOf k n fs) : ∃ f ∈ fs, f.kind = k ∧ g = { f with rad := g.rad } := by
 obtain ⟨f, hf, e⟩ := rk_src _ (Nat.le_refl _) g hg
 obtain ⟨h1, h2⟩ := List.mem_filter.1 (byD_mem f hf)
 exact ⟨f, h1, by simpa [isKind] using h2, e⟩
theorem rap_mem {k n : Int} {fs : List FV} {x : FV} : x ∈ rapplyL 3 k n fs ↔ x ∈ othersOf k fs ∨ x ∈ rkOf k n fs := by
 unfold rapplyL rkeptL othersOf
 rw [if_pos rfl, List.mem_flatMap, List.mem_filter]
 unfold rpart
 constructor
 ·rintro ⟨f, hf, hx⟩
  rcases List.mem_append.1 hx with hx | hx
  ·by_cases hk : f.kind = k
   ·rw [if_neg (by simp [hk])] at hx
    cases hx
   ·rw [if_pos (Or.inr hk), List.mem_singleton, chg3] at hx
    subst hx
    exact .inl ⟨hf, by simp [isKind, hk]⟩
  ·exact .inr (List.mem_filter.1 hx).1
 ·rintro (⟨hf, hk⟩ | hx)
  ·have hk' : ¬ x.kind = k := by simpa [isKind] using hk
   exact ⟨x, hf, List.mem_append.2 (.inl (by rw [if_pos (Or.inr hk'), chg3]; simp))⟩
  ·obtain ⟨f, hf, _, e⟩ := rk_from hx
   exact ⟨f, hf, List.mem_append.2 (.inr (List.mem_filter.2 ⟨hx, by rw [e]; simp⟩))⟩
theorem rpart_id {k n : Int} {fs : List FV} {f x : FV} (hx : x ∈ rpart 3 k n (rkOf k n fs) f) : x.id = f.id := by
 unfold rpart at hx
 rcases List.mem_append.1 hx with hx | hx
 ·by_cases hk : f.kind = k
  ·rw [if_neg (by simp [hk])] at hx
   cases hx
  ·rw [if_pos (Or.inr hk), List.mem_singleton, chg3] at hx
   rw [hx]
 ·simpa using (List.mem_filter.1 hx).2
theorem rap_strict {k n : Int} {fs : List FV} (hv : FList fs = true) (hR : ((rkOf k n fs).map FV.id).Nodup) : (rapplyL 3 k n fs).Pairwise fun x y => x.id < y.id := by
 have hs : fs.Pairwise fun x y => x.id < y.id := by
  rw [List.pairwise_iff_getElem]
  intro i j hi hj hij
  rw [get_fA, get_fA]
  exact list_asc hv i j hij hj
 unfold rapplyL rkeptL
 rw [if_pos rfl, List.pairwise_flatMap]
 refine ⟨fun f hf => ?_, hs.imp fun {a b} hab x hx y hy => by rw [rpart_id hx, rpart_id hy]; exact hab⟩
 unfold rpart
 by_cases hk : f.kind = k
 ·rw [if_neg (by simp [hk]), List.nil_append]
  have h1 : (rkOf k n fs).Pairwise fun x y => x.id ≠ y.id := by
   rw [List.Nodup, List.pairwise_map] at hR
   exact hR
  refine (h1.sublist List.filter_sublist).imp_of_mem fun {a b} ha hb hne => ?_
  have e1 : a.id = f.id := by simpa using (List.mem_filter.1 ha).2
  have e2 : b.id = f.id := by simpa using (List.mem_filter.1 hb).2
  exact absurd (e1.trans e2.symm) hne
 ·have e : (rkOf k n fs).filter (fun g => g.id == f.id) = [] := List.filter_eq_nil_iff.2 fun g hg he => by
   obtain ⟨f2, hf2, hk2, e⟩ := rk_from hg
   have e1 : g.id = f.id := by simpa using he
   have e2 : g.id = f2.id := by rw [e]
   have := id_inj (list_nodup hv) f2 hf2 f hf (e2.symm.trans e1)
   rw [this] at hk2
   exact hk hk2
  rw [if_pos (Or.inr hk), e]
  simp
theorem thin_strict {k n : Int} {fs : List FV} (hn : (fs.map FV.id).Nodup) : (thinOf k n fs).Pairwise fun x y => x.id < y.id := by
 have h1 : (thinOf k n fs).Pairwise fun a b => leI a b = true := by
  unfold thinOf
  refine List.pairwise_mergeSort (fun a b c => sortI_trans a b c) (fun a b => ?_) _
  rcases sortI_total a b with h | h <;> simp [h]
 have hp : (thinOf k n fs).Perm (othersOf k fs ++ keptTo n (discsOf k fs) (discsOf k fs).length) := List.mergeSort_perm _ _
 have h2 : (thinOf k n fs).Pairwise fun x y => x.id ≠ y.id := by
  have := (hp.map FV.id).nodup_iff.2 (thin_ids hn)
  rw [List.Nodup, List.pairwise_map] at this
  exact this
 refine (h1.and h2).imp fun {a b} h => ?_
 have := (leI_iff a b).1 h.1
 have := h.2
 omega
theorem thin_same {k n : Int} {fs : List FV} (hu : ruleOk 3 k n = true) (hv : FList fs = true) : rapplyL 3 k n fs = applyL 3 k n fs ∨ (FList (rapplyL 3 k n fs) = false ∧ FList (applyL 3 k n fs) = false) := by
 have hn := list_nodup hv
 have hap : applyL 3 k n fs = thinOf k n fs := by
  unfold applyL
  rw [if_pos rfl, chg_none (.inr rfl)]
 have hbd := byD_discs (k := k) hn
 have hnn := (rok_partsG hu).2.1
 have hd : ∀ f, f ∈ discsOf k fs → plOk f.x f.y = true ∧ 0 ≤ f.rad ∧ f.rad ≤ 100000 := fun f hf => by
  have hf2 := (List.mem_filter.1 ((discs_perm k fs).mem_iff.1 hf)).1
  have hv2 := list_valid hv f hf2
  exact ⟨valid_pl hv2, valid_rad hv2⟩
 have hsim := sim_all hnn hd _ (Nat.le_refl _)
 have hrk : rkOf k n fs = rkTo n (discsOf k fs) (discsOf k fs).length := by
  unfold rkOf
  rw [hbd]
 have hp : (thinOf k n fs).Perm (othersOf k fs ++ keptTo n (discsOf k fs) (discsOf k fs).length) := List.mergeSort_perm _ _
 have hki := kept_ids (n := n) (ds := discsOf k fs) _ (Nat.le_refl _)
 rw [List.take_length] at hki
 have hdn : ((discsOf k fs).map FV.id).Nodup := ((discs_perm k fs).map FV.id).nodup_iff.2 (hn.sublist ((List.filter_sublist).map FV.id))
 have hkn := hdn.sublist hki
 rw [hap]
 by_cases hall : ∀ i, i < (keptTo n (discsOf k fs) (discsOf k fs).length).length → fAt (keptTo n (discsOf k fs) (discsOf k fs).length) i = fAt (rkTo n (discsOf k fs) (discsOf k fs).length) i
 ·have e : keptTo n (discsOf k fs) (discsOf k fs).length = rkOf k n fs := by
   rw [hrk]
   refine List.ext_getElem hsim.1 fun i h1 h2 => ?_
   rw [get_fA, get_fA]
   exact hall i h1
  refine .inl (strict_uniq (rap_strict hv (by rw [← e]; exact hkn)) (thin_strict hn) fun x => ?_)
  rw [rap_mem, hp.mem_iff, List.mem_append, e]
 ·obtain ⟨i, hi⟩ := Classical.not_forall.1 hall
  obtain ⟨hil, hne⟩ := Classical.not_imp.1 hi
  rcases hsim.2 i hil with e | ⟨w1, w2, _⟩
  ·exact absurd e hne
  ·refine .inr ⟨?_, ?_⟩
   ·refine Bool.eq_false_iff.2 fun ht => ?_
    have hm : fAt (rkTo n (discsOf k fs) (discsOf k fs).length) i ∈ rapplyL 3 k n fs := rap_mem.2 (.inr (by rw [hrk]; exact fAt_mem (by rw [← hsim.1]; exact hil)))
    have := (valid_rad (list_valid ht _ hm)).2
    omega
   ·refine Bool.eq_false_iff.2 fun ht => ?_
    have hm : fAt (keptTo n (discsOf k fs) (discsOf k fs).length) i ∈ thinOf k n fs := hp.mem_iff.2 (List.mem_append.2 (.inr (fAt_mem hil)))
    have := (valid_rad (list_valid ht _ hm)).2
    omega
/-- Both hand back the same. -/
theorem rapp_eq (o k n : Int) (fs : List FV) : rapplyOf o k n fs = applyOf o k n fs := by
 unfold rapplyOf applyOf
 by_cases h : (ruleOk o k n && FList fs) = true
 ·rw [if_pos h, if_pos h]
  obtain ⟨hu, hv⟩ : ruleOk o k n = true ∧ FList fs = true := by simpa using h
  by_cases h3 : o = 3
  ·subst h3
   rcases thin_same hu hv with e | ⟨e1, e2⟩
   ·rw [e]
   ·rw [e1, e2]
    rfl
  ·have e : rapplyL o k n fs = applyL o k n fs := by
    unfold rapplyL rkeptL applyL
    rw [if_neg h3, if_neg h3, show rpart o k n [] = fun f => [chg o k n f] by funext f; unfold rpart; rw [if_pos (Or.inl h3)]; rfl]
    have all : ∀ l : List FV, l.flatMap (fun f => [chg o k n f]) = l.map (chg o k n) := fun l => by
     induction l with
     | nil => rfl
     | cons a l ih => rw [List.flatMap_cons, List.map_cons, ih]; rfl
    exact all fs
   rw [e]
 ·rw [if_neg h, if_neg h]
end Go.Proofs.YtfeccolljfkejaaGreatDoor

/- The reference implementation of package rule: Run, walked. -/
set_option linter.unusedSimpArgs false
set_option linter.unusedVariables false
set_option maxHeartbeats 8000000
set_option maxRecDepth 100000
namespace Go.Proofs.YtfeccolljfkejaaGreatDoor
open Go.RowKit Go.Sort
attribute [local go_sem] Steady steadyUpon
attribute [local go_sem ↓] hs_dr lt_add_r lt_add_r2 lt_add_r3 lt_add_r4 lt_add_r5 lt_add_r6
attribute [local go_sem] cell?_gd frozen?_gd setCell_gd size_grow tape_grow cell?_grow' frozen?_grow' setCell_grow' grow_grow grow_dr grow_drew dr_dr dr_drew drew_dr dr_alloc dr_setCell dr_cell dr_frozen dr_tape dr_drawn
attribute [local irreducible] wpSteady
theorem rApply_w (o k n : Int) (fs : List FV) (A : Option Addr) (c : Nat) (w : World) (hr : FRd w w.heap.size A fs) (hc : fs.length ≤ 100000000000000) :
  Calls Tryz.prog 25 #[ruV o k n, .slice A fs.length c] w (FeatR w (applyOf o k n fs)) := by
 rw [← rapp_eq]
 exact rApply_v o k n fs A c w hr hc
theorem take_nx {fs : List FV} {q : Nat} (h : q < fs.length) : fs.take (q + 1) = fs.take q ++ [fAt fs q] := by
 rw [List.take_add_one, fAt_get h]
 rfl
theorem rRun_v (rs : List Ru) (fs : List FV) (Ar A : Option Addr) (cr c : Nat) (w : World) (hrr : Rd w w.heap.size 3 Ar (rs.map encR)) (hr : FRd w w.heap.size A fs) (hcr : rs.length ≤ 100000000000000) (hc : fs.length ≤ 100000000000000) :
  Calls Tryz.prog 27 #[.slice Ar rs.length cr, .slice A fs.length c] w (FeatR w (runOf rs fs)) := by
 have hm := hmix
 obtain ⟨u, hu⟩ : ∃ u, rsOk rs = u := ⟨_, rfl⟩
 obtain ⟨v, hv⟩ : ∃ u, FList fs = u := ⟨_, rfl⟩
 have k1 := hide (fun W (hg : Grew w W) => rValid_v rs Ar cr u W (hrr.up hg) hcr hu)
 have k2 := hide (fun W (hg : Grew w W) => v7List_v fs A c v W (hr.up hg) hc hv)
 have hro : runOf rs fs = if (u && v) = true then runTo rs fs rs.length else ([], 1) := by
  unfold runOf
  rw [hu, hv]
 rw [hro]
 have HR := hide hr
 have HRR := hide hrr
 have hcase : u = false ∨ (u = true ∧ v = false) ∨ (u = true ∧ v = true) := by cases u <;> cases v <;> simp
 rcases hcase with rfl | ⟨rfl, rfl⟩ | ⟨rfl, rfl⟩
 ·rw [if_neg (by simp)]
  clear hu hv hr hrr hro
  go_enter Tryz.func27, Tryz.ntmps27
  go_wp2_with (first | (go_at_call 21; with_reducible refine crv (k1.out _ gw) fun _ _ => ?_; dsimp only) | (go_at_call 53; with_reducible refine crv (k2.out _ gw) fun _ _ => ?_; dsimp only))
  go_ret2
  exact ⟨none, 0, [], rfl, rfl, FRd.nil _ _ _, gw⟩
 ·rw [if_neg (by simp)]
  clear hu hv hr hrr hro
  go_enter Tryz.func27, Tryz.ntmps27
  go_wp2_with (first | (go_at_call 21; with_reducible refine crv (k1.out _ gw) fun _ _ => ?_; dsimp only) | (go_at_call 53; with_reducible refine crv (k2.out _ gw) fun _ _ => ?_; dsimp only))
  go_ret2
  exact ⟨none, 0, [], rfl, rfl, FRd.nil _ _ _, gw⟩
 ·rw [if_pos (by rfl)]
  have hlen := list_len hv
  have hrl := fun k hk => run_len (rs := rs) hlen k hk
  have HRL := hide hrl
  obtain ⟨i0, hi, hz0, hz1, hz2⟩ := fInfo_parts feInf
  clear hu hv hr hrr hro hrl
  go_enter Tryz.func27, Tryz.ntmps27
  go_wp2_with (first | (go_at_call 21; with_reducible refine crv (k1.out _ gw) fun _ _ => ?_; dsimp only) | (go_at_call 53; with_reducible refine crv (k2.out _ gw) fun _ _ => ?_; dsimp only))
  refine wp_name ?_
  intro W0 hW
  have HG0 : Hid (Grew w W0) := hide (by rw [← hW]; exact gw)
  clear hW k1 k2
  go_loopw [8, 9] (fun v i wr => ∃ q : Nat, q ≤ fs.length ∧ i = .int .i64 q ∧ Grew W0 wr ∧ wr.ownsRow W0.heap.size 47 9 v (fs.take q).length ((fs.take q).flatMap FV.cells)) (fun _ i _ => fs.length - (intOf i).toNat)
  case atStart => exact ⟨0, by omega, rfl, Grew.refl _, World.ownsRow_nil _ _ _ _⟩
  case round =>
   obtain ⟨q, hq, rfl, hg, hown⟩ := hrel
   have HG := hide hg
   by_cases hlt : q < fs.length
   ·obtain ⟨b1, off1, hA1, hb1, fx⟩ := rowAt (HR.out.row.up (HG0.out.trans hg)) hlt
    have hix1 := idx_run (cap := c) Tryz.underlying37 Tryz.sizeOf47 hA1.out hlt
    have htk := take_nx hlt
    have htl : (fs.take q).length ≤ 300 := by rw [List.length_take]; omega
    obtain ⟨x, hx⟩ : ∃ x, fAt fs q = x := ⟨_, rfl⟩
    obtain ⟨L, hL⟩ : ∃ L, fs.take q = L := ⟨_, rfl⟩
    rw [hx] at fx htk
    rw [hL] at hown htk htl
    obtain ⟨Av, cv, rfl, _⟩ := fown_slice hown
    obtain ⟨c0, c1', c2, c3, c4, c5, c6, c7, c8⟩ := fx
    have HO := hide hown
    have HTK := hide htk
    clear hA1 hx hL hown htk hg
    go_wp2_with (at_builtin; refine AppG3.stop ?_)
    refine AppG3.go ?_
    refine wpList_append_any _ rfl (.tmp 29) (.tmp 34) _ rfl W0.heap.size 47 i0 _ 9 104 Tryz.underlying37 hi hz0 hz1 hz2 rfl (by omega) _ L.length (L.flatMap FV.cells) rfl (fown_grew HO.out gw) _ (some ⟨_, 0, none⟩) 1 1 ([x].flatMap FV.cells) rfl ((Rd.lit1 _ x _ (by first | rfl | simp [hs_dr])).reads fv_len (by omega)) (fv_one _) (by simp only [maxLen]; omega) (by omega) (by have := HG.out.below.size; (try simp [hs_dr]); omega) ?_
    intro v' w1 hown1 hg1 _
    have HG2 : Hid (Grew W0 w1) := hide (ggrown (HG.out.trans gw) (fown_grew HO.out gw) (Nat.le_refl _) hg1)
    have HO1 := hide hown1
    clear hown1 hg1
    go_wp2_with fail
    go_roundw
    case rel => exact ⟨q + 1, by omega, by go_num, HG2.out.trans gw, by rw [HTK.out, List.length_append, List.flatMap_append]; exact fown_grew HO1.out gw⟩
    case measure => simp [intOf]; omega
   ·obtain rfl : q = fs.length := by omega
    rw [List.take_length] at hown
    obtain ⟨A1, c1, rfl, hc1, hrd1⟩ := Rd.of_own fv_len hown rfl
    obtain ⟨W1, hW1⟩ : ∃ W, W = wr := ⟨wr, rfl⟩
    subst hW1
    have HG1 : Hid (Grew w W1) := hide (HG0.out.trans hg)
    have HF1 : Hid (FRd W1 W1.heap.size A1 fs) := hide ⟨hrd1, fun f hf => (HR.out.each f hf).up HG1.out⟩
    clear hown hg hrd1 HG
    go_wp2_with fail
    go_loopw [8, 10] (fun ov i wr => ∃ (k : Nat) (cur : List FV) (A' : Option Addr) (c' : Nat), k ≤ rs.length ∧ i = .int .i64 k ∧ ov = .slice A' cur.length c' ∧ Grew W1 wr ∧ Hid (FRd wr wr.heap.size A' cur) ∧ Hid (cur.map FV.bare = (runTo rs fs k).1.map FV.bare) ∧ Hid ((runTo rs fs k).2 = 0)) (fun _ i _ => rs.length - (intOf i).toNat)
    case atStart => exact ⟨0, fs, A1, c1, by omega, rfl, rfl, gw, hide (HF1.out.up gw), hide rfl, hide rfl⟩
    case round =>
     obtain ⟨k, cur, A', c', hk, rfl, rfl, hg, HF, HB, HE⟩ := hrel
     have HG := hide hg
     have hcl := len_of HB.out
     have hrk := HRL.out k hk
     rw [← hcl] at hrk
     clear hcl
     by_cases hlt : k < rs.length
     ·obtain ⟨b, off, hA, hb, h0, h1, h2⟩ := ruCells (HRR.out.up (HG1.out.trans hg)) hlt
      have hix := idx_run (cap := cr) Tryz.underlying22 Tryz.sizeOf36 hA.out hlt
      have hst := runTo_succ (fs := fs) hlt
      unfold runStep at hst
      rw [if_pos HE.out] at hst
      obtain ⟨x, hx⟩ : ∃ x, ruAt rs k = x := ⟨_, rfl⟩
      rw [hx] at h0 h1 h2 hst
      clear hx hA hg
      obtain ⟨x1, x2, x3⟩ := x
      dsimp only at h0 h1 h2 hst
      have hap := apply_of (o := x1) (k := x2) (n := x3) HB.out
      rw [← hst] at hap
      have ka := hide (fun W (hg : Grew wr W) => rApply_w x1 x2 x3 cur A' c' W (HF.out.up hg) (by omega))
      have her := fun h => apply_err (o := x1) (k := x2) (n := x3) (fs := cur) h
      generalize applyOf x1 x2 x3 cur = ap at *
      obtain ⟨al, ae⟩ := ap
      dsimp only at hap ka her
      have HAP := hide hap
      have HER := hide her
      clear hst hap her
      go_wp2_with fail
      refine (ka.out _ gw).mono ?_
      rintro e W2 ⟨A2, c2, cur2, rfl, hba, hrd2, hg2⟩
      have HG2 : Hid (Grew wr W2) := hide (Grew.trans gw hg2)
      have HF2 := hide hrd2
      have HBA := hide (hba.trans HAP.out.1)
      clear hrd2 hg2 hba ka
      dsimp only
      by_cases hae : ae = 0
      ·subst hae
       go_wp2_with fail
       go_roundw
       case rel => exact ⟨k + 1, cur2, A2, c2, by omega, by go_num, rfl, HG.out.trans (HG2.out.trans gw), hide (HF2.out.up gw), HBA, hide HAP.out.2.symm⟩
       case measure => simp [intOf]; omega
      ·have hne : (ae != 0) = true := by simpa using hae
       have hres : runTo rs fs rs.length = ([], ae) := by
        have h3 : (runTo rs fs (k + 1)).2 ≠ 0 := by rw [← HAP.out.2]; exact hae
        rw [run_stop h3 rs.length (by omega) (Nat.le_refl _)]
        have h4 := HAP.out.1
        rw [HER.out hae] at h4
        have h5 : (runTo rs fs (k + 1)).1 = [] := by simpa using h4.symm
        exact Prod.ext h5 HAP.out.2.symm
       have HRES := hide hres
       clear hres
       go_wp2_with fail
       go_ret2
       rw [HRES.out]
       exact ⟨none, 0, [], rfl, rfl, FRd.nil _ _ _, HG1.out.trans (HG.out.trans (HG2.out.trans gw))⟩
     ·obtain rfl : k = rs.length := by omega
      go_wp2_with fail
      go_ret2
      exact ⟨A', c', cur, by rw [HE.out]; rfl, HB.out, HF.out.up gw, HG1.out.trans (HG.out.trans gw)⟩
end Go.Proofs.YtfeccolljfkejaaGreatDoor

/- The law RuleMatchesReference, walked. -/
set_option linter.unusedSimpArgs false
set_option linter.unusedVariables false
set_option maxHeartbeats 32000000
set_option maxRecDepth 100000
namespace Go.Proofs.YtfeccolljfkejaaGreatDoor
open Go.RowKit Go.Sort
attribute [local go_sem] Steady steadyUpon
attribute [local go_sem ↓] hs_dr lt_add_r lt_add_r2 lt_add_r3 lt_add_r4 lt_add_r5 lt_add_r6
attribute [local go_sem] cell?_gd frozen?_gd setCell_gd size_grow tape_grow cell?_grow' frozen?_grow' setCell_grow' grow_grow grow_dr grow_drew dr_dr dr_drew drew_dr dr_alloc dr_setCell dr_cell dr_frozen dr_tape dr_drawn
attribute [local irreducible] wpSteady
/-- What the row lists stays while the world grows. -/
theorem laid_gm {w : World} (hl : KwAt w w.heap.size ∧ TabP w) : ∀ W, Grew w W → KwAt W w.heap.size ∧ w.heap.size ≤ W.heap.size ∧ TabP W :=
 fun W hg => ⟨hl.1.keep (old_cell_lt hg (Nat.le_refl _)), hg.below.size, hl.2.up hg⟩
theorem parse_gm {w : World} (hl : KwAt w w.heap.size ∧ TabP w) (s : ByteArray) {l : List Ru} {a e : Int} (h : parseOf s = (l, a, e)) (X : World) (hg : Grew w X) : Calls Tryz.prog 14 #[.string s] X (ParQ l a e X) := by
 have k := parse_v s w.heap.size X (laid_gm hl X hg).1 (laid_gm hl X hg).2.1
 unfold ParR at k
 rw [h] at k
 exact k
theorem print_gm {w : World} (hl : KwAt w w.heap.size ∧ TabP w) (rs : List Ru) (A : Option Addr) (c : Nat) {t : ByteArray} {e : Int} (h : printOf rs = (t, e)) (X : World) (hg : Grew w X) (hr : Rd X X.heap.size 3 A (rs.map encR)) (hc : rs.length ≤ 100000000000000) : Calls Tryz.prog 13 #[.slice A rs.length c] X (Ret X (.tuple #[.string t, .int .i64 e])) := by
 have k := print_v rs A c w.heap.size X hr hc (laid_gm hl X hg).1 (laid_gm hl X hg).2.1 (laid_gm hl X hg).2.2
 rw [h] at k
 exact k
theorem app_le3 (o k n : Int) (fs : List FV) : (applyOf o k n fs).1.length ≤ 300 := by
 unfold applyOf
 split
 ·split
  ·rename_i h1
   exact list_len h1
  ·simp
 ·simp
theorem run_le3 (rs : List Ru) (fs : List FV) : (runOf rs fs).1.length ≤ 300 := by
 unfold runOf
 split
 ·rename_i h
  rw [Bool.and_eq_true] at h
  exact run_len (list_len h.2) _ (Nat.le_refl _)
 ·simp
theorem ruleMatches_row (s : ByteArray) (rs : List Ru) (Ar : Option Addr) (cr : Nat) (o k n : Int) (fs : List FV) (A : Option Addr) (c : Nat) (w : World) (_hs : s.size ≤ maxLen) (hrr : Rd w w.heap.size 3 Ar (rs.map encR)) (hcr : rs.length ≤ 100000000000000) (hr : FRd w w.heap.size A fs) (hc : fs.length ≤ 100000000000000) (hl : KwAt w w.heap.size ∧ TabP w) :
  Calls Tryz.prog 8 #[.string s, .slice Ar rs.length cr, ruV o k n, .slice A fs.length c] w (Ret w (.bool true)) := by
 have hm := hmix
 have HL := hide hl
 have HH := hide (head_g hl.1 (Nat.le_refl _) hl.2)
 have HRR := hide hrr
 have HR := hide hr
 obtain ⟨u, hu⟩ : ∃ u, rsOk rs = u := ⟨_, rfl⟩
 obtain ⟨⟨l, pa, pe⟩, hps⟩ : ∃ x, parseOf s = x := ⟨_, rfl⟩
 obtain ⟨⟨t, te⟩, hpr⟩ : ∃ x, printOf rs = x := ⟨_, rfl⟩
 obtain ⟨⟨cn, ce⟩, hcp⟩ : ∃ x, capOf rs = x := ⟨_, rfl⟩
 have hll : l.length ≤ 40 := by have := parse_le (s := s); rw [hps] at this; exact this
 have kv := hide (fun W (hg : Grew w W) => RuValid_v rs Ar cr u W (hrr.up hg) hcr hu)
 have kw := hide (fun W (hg : Grew w W) => rValid_v rs Ar cr u W (hrr.up hg) hcr hu)
 have kp := hide (fun W (hg : Grew w W) => print_gm hl rs Ar cr hpr W hg (hrr.up hg) hcr)
 have kq := hide (fun W (hg : Grew w W) => rPrint_v rs Ar cr t te W (hrr.up hg) hcr (laid_gm hl W hg).2.2 hpr)
 have kc := hide (fun W (hg : Grew w W) => RuCap_v rs Ar cr _ W (hrr.up hg) hcr hcp)
 have kd := hide (fun W (hg : Grew w W) => rCap_v rs Ar cr _ W (hrr.up hg) hcr hcp)
 have ka := hide (fun W (hg : Grew w W) => Apply_v o k n fs A c W (hr.up hg) hc)
 have kb := hide (fun W (hg : Grew w W) => rApply_w o k n fs A c W (hr.up hg) hc)
 have kr := hide (fun W (hg : Grew w W) => Run_v rs fs Ar A cr c W (hrr.up hg) (hr.up hg) hcr hc)
 have kt := hide (fun W (hg : Grew w W) => rRun_v rs fs Ar A cr c W (hrr.up hg) (hr.up hg) hcr hc)
 have hal := app_le3 o k n fs
 have hrl := run_le3 rs fs
 generalize applyOf o k n fs = ap at *
 generalize runOf rs fs = rn at *
 obtain ⟨al, ae⟩ := ap
 obtain ⟨rl, re⟩ := rn
 dsimp only at hal hrl
 have HPS := hide hps
 have HAL := hide hal
 have HRL := hide hrl
 obtain ⟨f, hf⟩ : ∃ f, decide (rs.length ≤ 10 ∧ fs.length ≤ 16) = f := ⟨_, rfl⟩
 have kf := hide (fun W => few_v Ar A rs.length fs.length cr c f W hf)
 have hcase : (f = false ∧ rs.length ≤ 40) ∨ (f = true ∧ 1000 < s.size ∧ s.size ≤ 8000) ∨ (f = false ∧ ¬ rs.length ≤ 40 ∧ 1000 < s.size ∧ s.size ≤ 8000) ∨ (f = false ∧ ¬ rs.length ≤ 40 ∧ ¬ 1000 < s.size ∧ 16 < fs.length) ∨ (f = false ∧ ¬ rs.length ≤ 40 ∧ 8000 < s.size ∧ 16 < fs.length) ∨ (f = true ∧ ¬ 1000 < s.size ∧ ¬ 16 < fs.length) ∨ (f = true ∧ 8000 < s.size ∧ ¬ 16 < fs.length) ∨ (f = false ∧ ¬ rs.length ≤ 40 ∧ ¬ 1000 < s.size ∧ ¬ 16 < fs.length) ∨ (f = false ∧ ¬ rs.length ≤ 40 ∧ 8000 < s.size ∧ ¬ 16 < fs.length) := by
  cases f
  ·rw [decide_eq_false_iff_not] at hf
   simp only [true_and, false_and, reduceCtorEq, false_or, or_false]
   omega
  ·rw [decide_eq_true_eq] at hf
   simp only [true_and, false_and, reduceCtorEq, false_or, or_false]
   omega
 clear hl hrr hr hu hps hpr hcp hf hal hrl
 rcases hcase with ⟨rfl, h1⟩ | ⟨rfl, h1, h2⟩ | ⟨rfl, h0, h1, h2⟩ | ⟨rfl, h0, h1, h2⟩ | ⟨rfl, h0, h1, h2⟩ | ⟨rfl, h1, h2⟩ | ⟨rfl, h1, h2⟩ | ⟨rfl, h0, h1, h2⟩ | ⟨rfl, h0, h1, h2⟩
 ·have e1 : (rs.length : Int) ≤ 40 := by omega
  clear kv kw kp kq kc kd ka kb kr kt
  go_enter Tryz.func8, Tryz.ntmps8
  go_wp2_with (first | (go_at_call 12; with_reducible refine crv (HH.out _ gw) fun _ _ => ?_; dsimp only) | (go_at_call 16; with_reducible refine crv (kf.out _) fun _ _ => ?_; dsimp only))
  go_ret
  exact Ret.mk' rfl gw
 ·have e1 : (1000 : Int) < (s.size : Int) := by omega
  have e2 : (s.size : Int) ≤ 8000 := by omega
  clear kv kw kp kq kc kd ka kb kr kt
  go_enter Tryz.func8, Tryz.ntmps8
  go_wp2_with (first | (go_at_call 12; with_reducible refine crv (HH.out _ gw) fun _ _ => ?_; dsimp only) | (go_at_call 16; with_reducible refine crv (kf.out _) fun _ _ => ?_; dsimp only))
  go_ret
  exact Ret.mk' rfl gw
 ·have e0 : ¬ (rs.length : Int) ≤ 40 := by omega
  have e1 : (1000 : Int) < (s.size : Int) := by omega
  have e2 : (s.size : Int) ≤ 8000 := by omega
  clear kv kw kp kq kc kd ka kb kr kt
  go_enter Tryz.func8, Tryz.ntmps8
  go_wp2_with (first | (go_at_call 12; with_reducible refine crv (HH.out _ gw) fun _ _ => ?_; dsimp only) | (go_at_call 16; with_reducible refine crv (kf.out _) fun _ _ => ?_; dsimp only))
  go_ret
  exact Ret.mk' rfl gw
 ·have e0 : ¬ (rs.length : Int) ≤ 40 := by omega
  have e1 : ¬ (1000 : Int) < (s.size : Int) := by omega
  have e2 : (16 : Int) < (fs.length : Int) := by omega
  clear kv kw kp kq kc kd ka kb kr kt
  go_enter Tryz.func8, Tryz.ntmps8
  go_wp2_with (first | (go_at_call 12; with_reducible refine crv (HH.out _ gw) fun _ _ => ?_; dsimp only) | (go_at_call 16; with_reducible refine crv (kf.out _) fun _ _ => ?_; dsimp only))
  go_ret
  exact Ret.mk' rfl gw
 ·have e0 : ¬ (rs.length : Int) ≤ 40 := by omega
  have e1 : (1000 : Int) < (s.size : Int) := by omega
  have e3 : ¬ (s.size : Int) ≤ 8000 := by omega
  have e2 : (16 : Int) < (fs.length : Int) := by omega
  clear kv kw kp kq kc kd ka kb kr kt
  go_enter Tryz.func8, Tryz.ntmps8
  go_wp2_with (first | (go_at_call 12; with_reducible refine crv (HH.out _ gw) fun _ _ => ?_; dsimp only) | (go_at_call 16; with_reducible refine crv (kf.out _) fun _ _ => ?_; dsimp only))
  go_ret
  exact Ret.mk' rfl gw
 ·have e1 : ¬ (1000 : Int) < (s.size : Int) := by omega
  have e2 : ¬ (16 : Int) < (fs.length : Int) := by omega
  try clear h0
  clear h1 h2
  go_enter Tryz.func8, Tryz.ntmps8
  go_wp2_with (first | (go_at_call 12; with_reducible refine crv (HH.out _ gw) fun _ _ => ?_; dsimp only) | (go_at_call 16; with_reducible refine crv (kf.out _) fun _ _ => ?_; dsimp only) | (go_at_call 20; with_reducible refine crv (kv.out _ gw) fun _ _ => ?_; dsimp only) | (go_at_call 21; with_reducible refine crv (kw.out _ gw) fun _ _ => ?_; dsimp only))
  refine calls_name ?_
  intro X1 hX
  have HX1 : Hid (Grew w X1) := hide (by rw [← hX]; exact gw)
  have HB1 : Hid (RuBox X1 w.heap.size o k n) := hide (by rw [← hX]; exact (RuBox.new w o k n).up gw)
  clear hX kv kw HH kf
  refine (parse_gm HL.out s HPS.out X1 HX1.out).mono ?_
  rintro e W1 ⟨A1, c1, rfl, hrx, hg⟩
  have HG1 := hide (HX1.out.trans hg)
  have HB2 := hide (HB1.out.up hg)
  have HP1 := hide hrx
  clear hg hrx HX1 HB1
  dsimp only
  go_wp2_with fail
  refine calls_name ?_
  intro X2 hX
  have hgx : Grew W1 X2 := by rw [← hX]; exact gw
  have HX2 := hide (HG1.out.trans hgx)
  have HB3 := hide (HB2.out.up hgx)
  have HP2 := hide (HP1.out.up hgx)
  clear hX hgx HG1 HB2 HP1
  refine (rParse_v s l pa pe X2 HPS.out).mono ?_
  rintro e W2 ⟨A2, c2, rfl, hrx, hg⟩
  have HG2 := hide (HX2.out.trans hg)
  have HB4 := hide (HB3.out.up hg)
  have HP3 := hide (HP2.out.up hg)
  have HQ3 := hide hrx
  clear hg hrx HX2 HB3 HP2
  dsimp only
  go_wp2_with fail
  refine calls_name ?_
  intro X3 hX
  have hgx : Grew W2 X3 := by rw [← hX]; exact gw
  have HX3 := hide (HG2.out.trans hgx)
  have HB5 := hide (HB4.out.up hgx)
  have HP4 := hide (HP3.out.up hgx)
  have HQ4 := hide (HQ3.out.up hgx)
  clear hX hgx HG2 HB4 HP3 HQ3
  refine (ruSame_t l _ _ _ _ X3 HP4.out HQ4.out (by omega)).mono ?_
  rintro e W3 ⟨rfl, hg⟩
  have HG3 := hide (HX3.out.trans hg)
  have HB6 := hide (HB5.out.up hg)
  clear hg HX3 HB5 HP4 HQ4
  dsimp only
  obtain ⟨⟨r0, r1, r2⟩, rl⟩ := HB6.out
  go_wp2_with (first | (go_at_call 13; with_reducible refine crv (kp.out _ (HG3.out.trans gw)) fun _ _ => ?_; dsimp only) | (go_at_call 23; with_reducible refine crv (kq.out _ (HG3.out.trans gw)) fun _ _ => ?_; dsimp only) | (go_at_call 19; with_reducible refine crv (kc.out _ (HG3.out.trans gw)) fun _ _ => ?_; dsimp only) | (go_at_call 24; with_reducible refine crv (kd.out _ (HG3.out.trans gw)) fun _ _ => ?_; dsimp only))
  refine calls_name ?_
  intro X4 hX
  have hgx : Grew W3 X4 := by rw [← hX]; exact gw
  have HX4 := hide (HG3.out.trans hgx)
  have HB7 := hide (HB6.out.up hgx)
  clear hX hgx r0 r1 r2 rl kp kq kc kd HG3 HB6
  refine (ka.out X4 HX4.out).mono ?_
  rintro e W4 ⟨A4, c4, f4, rfl, hb, hrd, hg⟩
  have HG4 := hide (HX4.out.trans hg)
  have HB8 := hide (HB7.out.up hg)
  have HF4 := hide hrd
  have HE4 := hide hb
  clear hg hrd hb HX4 HB7
  dsimp only
  obtain ⟨⟨r0, r1, r2⟩, rl⟩ := HB8.out
  go_wp2_with fail
  refine calls_name ?_
  intro X5 hX
  have hgx : Grew W4 X5 := by rw [← hX]; exact gw
  have HX5 := hide (HG4.out.trans hgx)
  have HF5 := hide (HF4.out.up hgx)
  clear hX hgx r0 r1 r2 rl HG4 HF4 HB8
  refine (kb.out X5 HX5.out).mono ?_
  rintro e W5 ⟨A5, c5, f5, rfl, hb, hrd, hg⟩
  have HG5 := hide (HX5.out.trans hg)
  have HF6 := hide (HF5.out.up hg)
  have HH6 := hide hrd
  have HE5 := hide (HE4.out.trans hb.symm)
  have hf4 : f4.length ≤ 300 := by rw [len_of HE4.out]; exact HAL.out
  clear hg hrd hb HX5 HF5
  dsimp only
  go_wp2_with fail
  refine calls_name ?_
  intro X6 hX
  have hgx : Grew W5 X6 := by rw [← hX]; exact gw
  have HX6 := hide (HG5.out.trans hgx)
  have HF7 := hide (HF6.out.up hgx)
  have HH7 := hide (HH6.out.up hgx)
  clear hX hgx HG5 HF6 HH6
  refine (liSame_t f4 f5 _ _ _ _ _ X6 rfl HF7.out HH7.out HE5.out (by omega)).mono ?_
  rintro e W6 ⟨rfl, hg⟩
  have HG6 := hide (HX6.out.trans hg)
  clear hg HX6 HF7 HH7 HE4 HE5 hf4
  dsimp only
  go_wp2_with fail
  refine calls_name ?_
  intro X7 hX
  have hgx : Grew W6 X7 := by rw [← hX]; exact gw
  have HX7 := hide (HG6.out.trans hgx)
  clear hX hgx HG6
  refine (kr.out X7 HX7.out).mono ?_
  rintro e W7 ⟨A7, c7, f7, rfl, hb, hrd, hg⟩
  have HG7 := hide (HX7.out.trans hg)
  have HF8 := hide hrd
  have HE8 := hide hb
  clear hg hrd hb HX7
  dsimp only
  go_wp2_with fail
  refine calls_name ?_
  intro X8 hX
  have hgx : Grew W7 X8 := by rw [← hX]; exact gw
  have HX8 := hide (HG7.out.trans hgx)
  have HF9 := hide (HF8.out.up hgx)
  clear hX hgx HG7 HF8
  refine (kt.out X8 HX8.out).mono ?_
  rintro e W8 ⟨A8, c8, f8, rfl, hb, hrd, hg⟩
  have HG8 := hide (HX8.out.trans hg)
  have HFA := hide (HF9.out.up hg)
  have HHA := hide hrd
  have HEA := hide (HE8.out.trans hb.symm)
  have hf7 : f7.length ≤ 300 := by rw [len_of HE8.out]; exact HRL.out
  clear hg hrd hb HX8 HF9
  dsimp only
  go_wp2_with fail
  refine calls_name ?_
  intro X9 hX
  have hgx : Grew W8 X9 := by rw [← hX]; exact gw
  have HX9 := hide (HG8.out.trans hgx)
  have HFB := hide (HFA.out.up hgx)
  have HHB := hide (HHA.out.up hgx)
  clear hX hgx HG8 HFA HHA
  refine (liSame_t f7 f8 _ _ _ _ _ X9 rfl HFB.out HHB.out HEA.out (by omega)).mono ?_
  rintro e W9 ⟨rfl, hg⟩
  have HG9 := hide (HX9.out.trans hg)
  clear hg HX9 HFB HHB HE8 HEA hf7
  dsimp only
  go_wp2_with fail
  go_ret
  exact Ret.mk' rfl (HG9.out.trans gw)
 ·have e1 : (1000 : Int) < (s.size : Int) := by omega
  have e3 : ¬ (s.size : Int) ≤ 8000 := by omega
  have e2 : ¬ (16 : Int) < (fs.length : Int) := by omega
  try clear h0
  clear h1 h2
  go_enter Tryz.func8, Tryz.ntmps8
  go_wp2_with (first | (go_at_call 12; with_reducible refine crv (HH.out _ gw) fun _ _ => ?_; dsimp only) | (go_at_call 16; with_reducible refine crv (kf.out _) fun _ _ => ?_; dsimp only) | (go_at_call 20; with_reducible refine crv (kv.out _ gw) fun _ _ => ?_; dsimp only) | (go_at_call 21; with_reducible refine crv (kw.out _ gw) fun _ _ => ?_; dsimp only))
  refine calls_name ?_
  intro X1 hX
  have HX1 : Hid (Grew w X1) := hide (by rw [← hX]; exact gw)
  have HB1 : Hid (RuBox X1 w.heap.size o k n) := hide (by rw [← hX]; exact (RuBox.new w o k n).up gw)
  clear hX kv kw HH kf
  refine (parse_gm HL.out s HPS.out X1 HX1.out).mono ?_
  rintro e W1 ⟨A1, c1, rfl, hrx, hg⟩
  have HG1 := hide (HX1.out.trans hg)
  have HB2 := hide (HB1.out.up hg)
  have HP1 := hide hrx
  clear hg hrx HX1 HB1
  dsimp only
  go_wp2_with fail
  refine calls_name ?_
  intro X2 hX
  have hgx : Grew W1 X2 := by rw [← hX]; exact gw
  have HX2 := hide (HG1.out.trans hgx)
  have HB3 := hide (HB2.out.up hgx)
  have HP2 := hide (HP1.out.up hgx)
  clear hX hgx HG1 HB2 HP1
  refine (rParse_v s l pa pe X2 HPS.out).mono ?_
  rintro e W2 ⟨A2, c2, rfl, hrx, hg⟩
  have HG2 := hide (HX2.out.trans hg)
  have HB4 := hide (HB3.out.up hg)
  have HP3 := hide (HP2.out.up hg)
  have HQ3 := hide hrx
  clear hg hrx HX2 HB3 HP2
  dsimp only
  go_wp2_with fail
  refine calls_name ?_
  intro X3 hX
  have hgx : Grew W2 X3 := by rw [← hX]; exact gw
  have HX3 := hide (HG2.out.trans hgx)
  have HB5 := hide (HB4.out.up hgx)
  have HP4 := hide (HP3.out.up hgx)
  have HQ4 := hide (HQ3.out.up hgx)
  clear hX hgx HG2 HB4 HP3 HQ3
  refine (ruSame_t l _ _ _ _ X3 HP4.out HQ4.out (by omega)).mono ?_
  rintro e W3 ⟨rfl, hg⟩
  have HG3 := hide (HX3.out.trans hg)
  have HB6 := hide (HB5.out.up hg)
  clear hg HX3 HB5 HP4 HQ4
  dsimp only
  obtain ⟨⟨r0, r1, r2⟩, rl⟩ := HB6.out
  go_wp2_with (first | (go_at_call 13; with_reducible refine crv (kp.out _ (HG3.out.trans gw)) fun _ _ => ?_; dsimp only) | (go_at_call 23; with_reducible refine crv (kq.out _ (HG3.out.trans gw)) fun _ _ => ?_; dsimp only) | (go_at_call 19; with_reducible refine crv (kc.out _ (HG3.out.trans gw)) fun _ _ => ?_; dsimp only) | (go_at_call 24; with_reducible refine crv (kd.out _ (HG3.out.trans gw)) fun _ _ => ?_; dsimp only))
  refine calls_name ?_
  intro X4 hX
  have hgx : Grew W3 X4 := by rw [← hX]; exact gw
  have HX4 := hide (HG3.out.trans hgx)
  have HB7 := hide (HB6.out.up hgx)
  clear hX hgx r0 r1 r2 rl kp kq kc kd HG3 HB6
  refine (ka.out X4 HX4.out).mono ?_
  rintro e W4 ⟨A4, c4, f4, rfl, hb, hrd, hg⟩
  have HG4 := hide (HX4.out.trans hg)
  have HB8 := hide (HB7.out.up hg)
  have HF4 := hide hrd
  have HE4 := hide hb
  clear hg hrd hb HX4 HB7
  dsimp only
  obtain ⟨⟨r0, r1, r2⟩, rl⟩ := HB8.out
  go_wp2_with fail
  refine calls_name ?_
  intro X5 hX
  have hgx : Grew W4 X5 := by rw [← hX]; exact gw
  have HX5 := hide (HG4.out.trans hgx)
  have HF5 := hide (HF4.out.up hgx)
  clear hX hgx r0 r1 r2 rl HG4 HF4 HB8
  refine (kb.out X5 HX5.out).mono ?_
  rintro e W5 ⟨A5, c5, f5, rfl, hb, hrd, hg⟩
  have HG5 := hide (HX5.out.trans hg)
  have HF6 := hide (HF5.out.up hg)
  have HH6 := hide hrd
  have HE5 := hide (HE4.out.trans hb.symm)
  have hf4 : f4.length ≤ 300 := by rw [len_of HE4.out]; exact HAL.out
  clear hg hrd hb HX5 HF5
  dsimp only
  go_wp2_with fail
  refine calls_name ?_
  intro X6 hX
  have hgx : Grew W5 X6 := by rw [← hX]; exact gw
  have HX6 := hide (HG5.out.trans hgx)
  have HF7 := hide (HF6.out.up hgx)
  have HH7 := hide (HH6.out.up hgx)
  clear hX hgx HG5 HF6 HH6
  refine (liSame_t f4 f5 _ _ _ _ _ X6 rfl HF7.out HH7.out HE5.out (by omega)).mono ?_
  rintro e W6 ⟨rfl, hg⟩
  have HG6 := hide (HX6.out.trans hg)
  clear hg HX6 HF7 HH7 HE4 HE5 hf4
  dsimp only
  go_wp2_with fail
  refine calls_name ?_
  intro X7 hX
  have hgx : Grew W6 X7 := by rw [← hX]; exact gw
  have HX7 := hide (HG6.out.trans hgx)
  clear hX hgx HG6
  refine (kr.out X7 HX7.out).mono ?_
  rintro e W7 ⟨A7, c7, f7, rfl, hb, hrd, hg⟩
  have HG7 := hide (HX7.out.trans hg)
  have HF8 := hide hrd
  have HE8 := hide hb
  clear hg hrd hb HX7
  dsimp only
  go_wp2_with fail
  refine calls_name ?_
  intro X8 hX
  have hgx : Grew W7 X8 := by rw [← hX]; exact gw
  have HX8 := hide (HG7.out.trans hgx)
  have HF9 := hide (HF8.out.up hgx)
  clear hX hgx HG7 HF8
  refine (kt.out X8 HX8.out).mono ?_
  rintro e W8 ⟨A8, c8, f8, rfl, hb, hrd, hg⟩
  have HG8 := hide (HX8.out.trans hg)
  have HFA := hide (HF9.out.up hg)
  have HHA := hide hrd
  have HEA := hide (HE8.out.trans hb.symm)
  have hf7 : f7.length ≤ 300 := by rw [len_of HE8.out]; exact HRL.out
  clear hg hrd hb HX8 HF9
  dsimp only
  go_wp2_with fail
  refine calls_name ?_
  intro X9 hX
  have hgx : Grew W8 X9 := by rw [← hX]; exact gw
  have HX9 := hide (HG8.out.trans hgx)
  have HFB := hide (HFA.out.up hgx)
  have HHB := hide (HHA.out.up hgx)
  clear hX hgx HG8 HFA HHA
  refine (liSame_t f7 f8 _ _ _ _ _ X9 rfl HFB.out HHB.out HEA.out (by omega)).mono ?_
  rintro e W9 ⟨rfl, hg⟩
  have HG9 := hide (HX9.out.trans hg)
  clear hg HX9 HFB HHB HE8 HEA hf7
  dsimp only
  go_wp2_with fail
  go_ret
  exact Ret.mk' rfl (HG9.out.trans gw)
 ·have e0 : ¬ (rs.length : Int) ≤ 40 := by omega
  have e1 : ¬ (1000 : Int) < (s.size : Int) := by omega
  have e2 : ¬ (16 : Int) < (fs.length : Int) := by omega
  try clear h0
  clear h1 h2
  go_enter Tryz.func8, Tryz.ntmps8
  go_wp2_with (first | (go_at_call 12; with_reducible refine crv (HH.out _ gw) fun _ _ => ?_; dsimp only) | (go_at_call 16; with_reducible refine crv (kf.out _) fun _ _ => ?_; dsimp only) | (go_at_call 20; with_reducible refine crv (kv.out _ gw) fun _ _ => ?_; dsimp only) | (go_at_call 21; with_reducible refine crv (kw.out _ gw) fun _ _ => ?_; dsimp only))
  refine calls_name ?_
  intro X1 hX
  have HX1 : Hid (Grew w X1) := hide (by rw [← hX]; exact gw)
  have HB1 : Hid (RuBox X1 w.heap.size o k n) := hide (by rw [← hX]; exact (RuBox.new w o k n).up gw)
  clear hX kv kw HH kf
  refine (parse_gm HL.out s HPS.out X1 HX1.out).mono ?_
  rintro e W1 ⟨A1, c1, rfl, hrx, hg⟩
  have HG1 := hide (HX1.out.trans hg)
  have HB2 := hide (HB1.out.up hg)
  have HP1 := hide hrx
  clear hg hrx HX1 HB1
  dsimp only
  go_wp2_with fail
  refine calls_name ?_
  intro X2 hX
  have hgx : Grew W1 X2 := by rw [← hX]; exact gw
  have HX2 := hide (HG1.out.trans hgx)
  have HB3 := hide (HB2.out.up hgx)
  have HP2 := hide (HP1.out.up hgx)
  clear hX hgx HG1 HB2 HP1
  refine (rParse_v s l pa pe X2 HPS.out).mono ?_
  rintro e W2 ⟨A2, c2, rfl, hrx, hg⟩
  have HG2 := hide (HX2.out.trans hg)
  have HB4 := hide (HB3.out.up hg)
  have HP3 := hide (HP2.out.up hg)
  have HQ3 := hide hrx
  clear hg hrx HX2 HB3 HP2
  dsimp only
  go_wp2_with fail
  refine calls_name ?_
  intro X3 hX
  have hgx : Grew W2 X3 := by rw [← hX]; exact gw
  have HX3 := hide (HG2.out.trans hgx)
  have HB5 := hide (HB4.out.up hgx)
  have HP4 := hide (HP3.out.up hgx)
  have HQ4 := hide (HQ3.out.up hgx)
  clear hX hgx HG2 HB4 HP3 HQ3
  refine (ruSame_t l _ _ _ _ X3 HP4.out HQ4.out (by omega)).mono ?_
  rintro e W3 ⟨rfl, hg⟩
  have HG3 := hide (HX3.out.trans hg)
  have HB6 := hide (HB5.out.up hg)
  clear hg HX3 HB5 HP4 HQ4
  dsimp only
  obtain ⟨⟨r0, r1, r2⟩, rl⟩ := HB6.out
  go_wp2_with (first | (go_at_call 13; with_reducible refine crv (kp.out _ (HG3.out.trans gw)) fun _ _ => ?_; dsimp only) | (go_at_call 23; with_reducible refine crv (kq.out _ (HG3.out.trans gw)) fun _ _ => ?_; dsimp only) | (go_at_call 19; with_reducible refine crv (kc.out _ (HG3.out.trans gw)) fun _ _ => ?_; dsimp only) | (go_at_call 24; with_reducible refine crv (kd.out _ (HG3.out.trans gw)) fun _ _ => ?_; dsimp only))
  refine calls_name ?_
  intro X4 hX
  have hgx : Grew W3 X4 := by rw [← hX]; exact gw
  have HX4 := hide (HG3.out.trans hgx)
  have HB7 := hide (HB6.out.up hgx)
  clear hX hgx r0 r1 r2 rl kp kq kc kd HG3 HB6
  refine (ka.out X4 HX4.out).mono ?_
  rintro e W4 ⟨A4, c4, f4, rfl, hb, hrd, hg⟩
  have HG4 := hide (HX4.out.trans hg)
  have HB8 := hide (HB7.out.up hg)
  have HF4 := hide hrd
  have HE4 := hide hb
  clear hg hrd hb HX4 HB7
  dsimp only
  obtain ⟨⟨r0, r1, r2⟩, rl⟩ := HB8.out
  go_wp2_with fail
  refine calls_name ?_
  intro X5 hX
  have hgx : Grew W4 X5 := by rw [← hX]; exact gw
  have HX5 := hide (HG4.out.trans hgx)
  have HF5 := hide (HF4.out.up hgx)
  clear hX hgx r0 r1 r2 rl HG4 HF4 HB8
  refine (kb.out X5 HX5.out).mono ?_
  rintro e W5 ⟨A5, c5, f5, rfl, hb, hrd, hg⟩
  have HG5 := hide (HX5.out.trans hg)
  have HF6 := hide (HF5.out.up hg)
  have HH6 := hide hrd
  have HE5 := hide (HE4.out.trans hb.symm)
  have hf4 : f4.length ≤ 300 := by rw [len_of HE4.out]; exact HAL.out
  clear hg hrd hb HX5 HF5
  dsimp only
  go_wp2_with fail
  refine calls_name ?_
  intro X6 hX
  have hgx : Grew W5 X6 := by rw [← hX]; exact gw
  have HX6 := hide (HG5.out.trans hgx)
  have HF7 := hide (HF6.out.up hgx)
  have HH7 := hide (HH6.out.up hgx)
  clear hX hgx HG5 HF6 HH6
  refine (liSame_t f4 f5 _ _ _ _ _ X6 rfl HF7.out HH7.out HE5.out (by omega)).mono ?_
  rintro e W6 ⟨rfl, hg⟩
  have HG6 := hide (HX6.out.trans hg)
  clear hg HX6 HF7 HH7 HE4 HE5 hf4
  dsimp only
  go_wp2_with fail
  refine calls_name ?_
  intro X7 hX
  have hgx : Grew W6 X7 := by rw [← hX]; exact gw
  have HX7 := hide (HG6.out.trans hgx)
  clear hX hgx HG6
  refine (kr.out X7 HX7.out).mono ?_
  rintro e W7 ⟨A7, c7, f7, rfl, hb, hrd, hg⟩
  have HG7 := hide (HX7.out.trans hg)
  have HF8 := hide hrd
  have HE8 := hide hb
  clear hg hrd hb HX7
  dsimp only
  go_wp2_with fail
  refine calls_name ?_
  intro X8 hX
  have hgx : Grew W7 X8 := by rw [← hX]; exact gw
  have HX8 := hide (HG7.out.trans hgx)
  have HF9 := hide (HF8.out.up hgx)
  clear hX hgx HG7 HF8
  refine (kt.out X8 HX8.out).mono ?_
  rintro e W8 ⟨A8, c8, f8, rfl, hb, hrd, hg⟩
  have HG8 := hide (HX8.out.trans hg)
  have HFA := hide (HF9.out.up hg)
  have HHA := hide hrd
  have HEA := hide (HE8.out.trans hb.symm)
  have hf7 : f7.length ≤ 300 := by rw [len_of HE8.out]; exact HRL.out
  clear hg hrd hb HX8 HF9
  dsimp only
  go_wp2_with fail
  refine calls_name ?_
  intro X9 hX
  have hgx : Grew W8 X9 := by rw [← hX]; exact gw
  have HX9 := hide (HG8.out.trans hgx)
  have HFB := hide (HFA.out.up hgx)
  have HHB := hide (HHA.out.up hgx)
  clear hX hgx HG8 HFA HHA
  refine (liSame_t f7 f8 _ _ _ _ _ X9 rfl HFB.out HHB.out HEA.out (by omega)).mono ?_
  rintro e W9 ⟨rfl, hg⟩
  have HG9 := hide (HX9.out.trans hg)
  clear hg HX9 HFB HHB HE8 HEA hf7
  dsimp only
  go_wp2_with fail
  go_ret
  exact Ret.mk' rfl (HG9.out.trans gw)
 ·have e0 : ¬ (rs.length : Int) ≤ 40 := by omega
  have e1 : (1000 : Int) < (s.size : Int) := by omega
  have e3 : ¬ (s.size : Int) ≤ 8000 := by omega
  have e2 : ¬ (16 : Int) < (fs.length : Int) := by omega
  try clear h0
  clear h1 h2
  go_enter Tryz.func8, Tryz.ntmps8
  go_wp2_with (first | (go_at_call 12; with_reducible refine crv (HH.out _ gw) fun _ _ => ?_; dsimp only) | (go_at_call 16; with_reducible refine crv (kf.out _) fun _ _ => ?_; dsimp only) | (go_at_call 20; with_reducible refine crv (kv.out _ gw) fun _ _ => ?_; dsimp only) | (go_at_call 21; with_reducible refine crv (kw.out _ gw) fun _ _ => ?_; dsimp only))
  refine calls_name ?_
  intro X1 hX
  have HX1 : Hid (Grew w X1) := hide (by rw [← hX]; exact gw)
  have HB1 : Hid (RuBox X1 w.heap.size o k n) := hide (by rw [← hX]; exact (RuBox.new w o k n).up gw)
  clear hX kv kw HH kf
  refine (parse_gm HL.out s HPS.out X1 HX1.out).mono ?_
  rintro e W1 ⟨A1, c1, rfl, hrx, hg⟩
  have HG1 := hide (HX1.out.trans hg)
  have HB2 := hide (HB1.out.up hg)
  have HP1 := hide hrx
  clear hg hrx HX1 HB1
  dsimp only
  go_wp2_with fail
  refine calls_name ?_
  intro X2 hX
  have hgx : Grew W1 X2 := by rw [← hX]; exact gw
  have HX2 := hide (HG1.out.trans hgx)
  have HB3 := hide (HB2.out.up hgx)
  have HP2 := hide (HP1.out.up hgx)
  clear hX hgx HG1 HB2 HP1
  refine (rParse_v s l pa pe X2 HPS.out).mono ?_
  rintro e W2 ⟨A2, c2, rfl, hrx, hg⟩
  have HG2 := hide (HX2.out.trans hg)
  have HB4 := hide (HB3.out.up hg)
  have HP3 := hide (HP2.out.up hg)
  have HQ3 := hide hrx
  clear hg hrx HX2 HB3 HP2
  dsimp only
  go_wp2_with fail
  refine calls_name ?_
  intro X3 hX
  have hgx : Grew W2 X3 := by rw [← hX]; exact gw
  have HX3 := hide (HG2.out.trans hgx)
  have HB5 := hide (HB4.out.up hgx)
  have HP4 := hide (HP3.out.up hgx)
  have HQ4 := hide (HQ3.out.up hgx)
  clear hX hgx HG2 HB4 HP3 HQ3
  refine (ruSame_t l _ _ _ _ X3 HP4.out HQ4.out (by omega)).mono ?_
  rintro e W3 ⟨rfl, hg⟩
  have HG3 := hide (HX3.out.trans hg)
  have HB6 := hide (HB5.out.up hg)
  clear hg HX3 HB5 HP4 HQ4
  dsimp only
  obtain ⟨⟨r0, r1, r2⟩, rl⟩ := HB6.out
  go_wp2_with (first | (go_at_call 13; with_reducible refine crv (kp.out _ (HG3.out.trans gw)) fun _ _ => ?_; dsimp only) | (go_at_call 23; with_reducible refine crv (kq.out _ (HG3.out.trans gw)) fun _ _ => ?_; dsimp only) | (go_at_call 19; with_reducible refine crv (kc.out _ (HG3.out.trans gw)) fun _ _ => ?_; dsimp only) | (go_at_call 24; with_reducible refine crv (kd.out _ (HG3.out.trans gw)) fun _ _ => ?_; dsimp only))
  refine calls_name ?_
  intro X4 hX
  have hgx : Grew W3 X4 := by rw [← hX]; exact gw
  have HX4 := hide (HG3.out.trans hgx)
  have HB7 := hide (HB6.out.up hgx)
  clear hX hgx r0 r1 r2 rl kp kq kc kd HG3 HB6
  refine (ka.out X4 HX4.out).mono ?_
  rintro e W4 ⟨A4, c4, f4, rfl, hb, hrd, hg⟩
  have HG4 := hide (HX4.out.trans hg)
  have HB8 := hide (HB7.out.up hg)
  have HF4 := hide hrd
  have HE4 := hide hb
  clear hg hrd hb HX4 HB7
  dsimp only
  obtain ⟨⟨r0, r1, r2⟩, rl⟩ := HB8.out
  go_wp2_with fail
  refine calls_name ?_
  intro X5 hX
  have hgx : Grew W4 X5 := by rw [← hX]; exact gw
  have HX5 := hide (HG4.out.trans hgx)
  have HF5 := hide (HF4.out.up hgx)
  clear hX hgx r0 r1 r2 rl HG4 HF4 HB8
  refine (kb.out X5 HX5.out).mono ?_
  rintro e W5 ⟨A5, c5, f5, rfl, hb, hrd, hg⟩
  have HG5 := hide (HX5.out.trans hg)
  have HF6 := hide (HF5.out.up hg)
  have HH6 := hide hrd
  have HE5 := hide (HE4.out.trans hb.symm)
  have hf4 : f4.length ≤ 300 := by rw [len_of HE4.out]; exact HAL.out
  clear hg hrd hb HX5 HF5
  dsimp only
  go_wp2_with fail
  refine calls_name ?_
  intro X6 hX
  have hgx : Grew W5 X6 := by rw [← hX]; exact gw
  have HX6 := hide (HG5.out.trans hgx)
  have HF7 := hide (HF6.out.up hgx)
  have HH7 := hide (HH6.out.up hgx)
  clear hX hgx HG5 HF6 HH6
  refine (liSame_t f4 f5 _ _ _ _ _ X6 rfl HF7.out HH7.out HE5.out (by omega)).mono ?_
  rintro e W6 ⟨rfl, hg⟩
  have HG6 := hide (HX6.out.trans hg)
  clear hg HX6 HF7 HH7 HE4 HE5 hf4
  dsimp only
  go_wp2_with fail
  refine calls_name ?_
  intro X7 hX
  have hgx : Grew W6 X7 := by rw [← hX]; exact gw
  have HX7 := hide (HG6.out.trans hgx)
  clear hX hgx HG6
  refine (kr.out X7 HX7.out).mono ?_
  rintro e W7 ⟨A7, c7, f7, rfl, hb, hrd, hg⟩
  have HG7 := hide (HX7.out.trans hg)
  have HF8 := hide hrd
  have HE8 := hide hb
  clear hg hrd hb HX7
  dsimp only
  go_wp2_with fail
  refine calls_name ?_
  intro X8 hX
  have hgx : Grew W7 X8 := by rw [← hX]; exact gw
  have HX8 := hide (HG7.out.trans hgx)
  have HF9 := hide (HF8.out.up hgx)
  clear hX hgx HG7 HF8
  refine (kt.out X8 HX8.out).mono ?_
  rintro e W8 ⟨A8, c8, f8, rfl, hb, hrd, hg⟩
  have HG8 := hide (HX8.out.trans hg)
  have HFA := hide (HF9.out.up hg)
  have HHA := hide hrd
  have HEA := hide (HE8.out.trans hb.symm)
  have hf7 : f7.length ≤ 300 := by rw [len_of HE8.out]; exact HRL.out
  clear hg hrd hb HX8 HF9
  dsimp only
  go_wp2_with fail
  refine calls_name ?_
  intro X9 hX
  have hgx : Grew W8 X9 := by rw [← hX]; exact gw
  have HX9 := hide (HG8.out.trans hgx)
  have HFB := hide (HFA.out.up hgx)
  have HHB := hide (HHA.out.up hgx)
  clear hX hgx HG8 HFA HHA
  refine (liSame_t f7 f8 _ _ _ _ _ X9 rfl HFB.out HHB.out HEA.out (by omega)).mono ?_
  rintro e W9 ⟨rfl, hg⟩
  have HG9 := hide (HX9.out.trans hg)
  clear hg HX9 HFB HHB HE8 HEA hf7
  dsimp only
  go_wp2_with fail
  go_ret
  exact Ret.mk' rfl (HG9.out.trans gw)
end Go.Proofs.YtfeccolljfkejaaGreatDoor

