/- What the reference's list in order and its halves of a hull are, in plain words: the same places, the same corners. -/
import Derived.Test.YtndkfpmklmcjjaaGreatPou
import Derived.Test.YtndkfpmklmcjjaaGreatRfB
set_option linter.unusedSimpArgs false
set_option linter.unusedVariables false
namespace Go.Proofs.YtndkfpmklmcjjaaGreat
open Go.RowKit Go.Sort Go.Lib
def lsP (a b : Pt) : Prop := a.1 < b.1 ∨ (a.1 = b.1 ∧ a.2 < b.2)
theorem lsP.trans {a b c : Pt} (h : lsP a b) (k : lsP b c) : lsP a c := by unfold lsP at *; omega
theorem lsP.irr {a : Pt} (h : lsP a a) : False := by unfold lsP at h; omega
theorem leQ_ls {u v : Pt} (h : leQ u v = true) (hne : u ≠ v) : lsP u v := by
 rw [leQ_iff] at h
 unfold lsP
 rcases h with h | ⟨h1, h2⟩
 ·exact .inl h
 ·have : u.2 ≠ v.2 := fun e => hne (Prod.ext h1 e)
  omega
theorem cmp_inv (l : List Pt) (hs : l.Pairwise fun a b => leQ a b = true) : ∀ m, m ≤ l.length → (compactUpTo l.toArray m).Pairwise lsP ∧ (∀ j, j < m → cor l j ∈ compactUpTo l.toArray m) ∧ (0 < m → ∀ x, x ∈ compactUpTo l.toArray m → x = cor l (m - 1) ∨ lsP x (cor l (m - 1)))
 | 0, _ => ⟨by simp [compactUpTo], fun j hj => by omega, fun h => by omega⟩
 | m + 1, hm => by
  obtain ⟨h1, h2, h3⟩ := cmp_inv l hs m (by omega)
  have gm : l.toArray[m]! = cor l m := by
   have a := cor_get (ps := l) (k := m) (by omega)
   have b := bangQ_get (l := l) (j := m) (by omega)
   rw [a] at b
   injection b with b
   exact b.symm
  rw [compactUpTo_succ, gm, Nat.add_sub_cancel]
  by_cases hk : keeps l.toArray m = true
  ·rw [if_pos hk]
   have hlt : 0 < m → lsP (cor l (m - 1)) (cor l m) := by
    intro h0
    refine leQ_ls ?_ ?_
    ·have := List.pairwise_iff_getElem.1 hs (m - 1) m (by omega) (by omega) (by omega)
     have a := cor_get (ps := l) (k := m) (by omega)
     have b := cor_get (ps := l) (k := m - 1) (by omega)
     rw [List.getElem?_eq_getElem (by omega)] at a b
     injection a with a
     injection b with b
     rw [← a, ← b]
     exact this
    ·intro e
     unfold keeps at hk
     rw [decide_eq_true_eq] at hk
     rcases hk with hk | hk
     ·omega
     ·refine hk ?_
      rw [gm, ← e]
      have a := cor_get (ps := l) (k := m - 1) (by omega)
      have b := bangQ_get (l := l) (j := m - 1) (by omega)
      rw [a] at b
      injection b
   have hx : ∀ x, x ∈ compactUpTo l.toArray m → lsP x (cor l m) := by
    intro x hx
    have h0 : 0 < m := by
     rcases Nat.eq_zero_or_pos m with z | z
     ·subst z
      simp [compactUpTo] at hx
     ·exact z
    rcases h3 h0 x hx with e | e
    ·rw [e]
     exact hlt h0
    ·exact e.trans (hlt h0)
   refine ⟨List.pairwise_append.2 ⟨h1, by simp, fun a ha b hb => by rw [List.mem_singleton.1 hb]; exact hx a ha⟩, fun j hj => ?_, fun _ x hxx => ?_⟩
   ·by_cases c : j = m
    ·rw [c]
     simp
    ·exact List.mem_append_left _ (h2 j (by omega))
   ·rcases List.mem_append.1 hxx with c | c
    ·exact .inr (hx x c)
    ·exact .inl (List.mem_singleton.1 c)
  ·rw [if_neg hk, List.append_nil]
   unfold keeps at hk
   rw [decide_eq_true_eq, not_or, ne_eq, Decidable.not_not] at hk
   have e : cor l m = cor l (m - 1) := by
    rw [← gm, hk.2]
    have a := cor_get (ps := l) (k := m - 1) (by omega)
    have b := bangQ_get (l := l) (j := m - 1) (by omega)
    rw [a] at b
    injection b with b
    exact b.symm
   refine ⟨h1, fun j hj => ?_, fun _ x hx => ?_⟩
   ·by_cases c : j = m
    ·rw [c, e]
     exact h2 (m - 1) (by omega)
    ·exact h2 j (by omega)
   ·rw [e]
    exact h3 (by omega) x hx
theorem plc_inv (ps : List Pt) : (placesOf ps).Pairwise lsP ∧ ∀ x, x ∈ placesOf ps ↔ x ∈ ps := by
 have hs : (sortQ ps).Pairwise fun a b => leQ a b = true := List.pairwise_mergeSort (le := leQ) (fun a b c h1 h2 => leQ_trans h1 h2) (fun a b => by rcases leQ_total a b with h | h <;> rw [h] <;> simp) ps
 obtain ⟨h1, h2, _⟩ := cmp_inv (sortQ ps) hs _ (Nat.le_refl _)
 refine ⟨h1, fun x => ⟨fun h => sortQ_mem.1 (compQ_mem h), fun h => ?_⟩⟩
 obtain ⟨j, hj, e⟩ := List.getElem_of_mem (sortQ_mem.2 h)
 have := h2 j hj
 have a := cor_get (ps := sortQ ps) (k := j) hj
 rw [List.getElem?_eq_getElem hj, e] at a
 injection a with a
 rw [a]
 exact this
def lessB (p q : Pt) : Bool := decide (ord p q < 0)
theorem lessB_iff {p q : Pt} : lessB p q = true ↔ lsP p q := by
 unfold lessB
 rw [decide_eq_true_eq]
 exact ord_neg
theorem lsP_tri {p q : Pt} (h : lessB p q = false) (hne : p ≠ q) : lsP q p := by
 have h1 : ¬ lsP p q := fun e => by rw [lessB_iff.2 e] at h; cases h
 unfold lsP at *
 by_cases e1 : p.1 = q.1
 ·by_cases e2 : p.2 = q.2
  ·exact absurd (Prod.ext e1 e2) hne
  ·omega
 ·omega
/-- A place put into a list in order. -/
def insR (out : List Pt) (q : Pt) : List Pt := out.takeWhile (fun p => lessB p q) ++ q :: (out.dropWhile (fun p => lessB p q)).filter (fun p => !decide (p = q))
def sortR (L : List Pt) : List Pt := L.foldl insR []
theorem sortR_snoc (L : List Pt) (q : Pt) : sortR (L ++ [q]) = insR (sortR L) q := by unfold sortR; rw [List.foldl_append]; rfl
theorem insR_cons_lt {p q : Pt} {l : List Pt} (h : lessB p q = true) : insR (p :: l) q = p :: insR l q := by
 unfold insR
 rw [List.takeWhile_cons, List.dropWhile_cons, if_pos h, if_pos h]
 rfl
theorem insR_cons_ge {p q : Pt} {l : List Pt} (h : lessB p q = false) : insR (p :: l) q = q :: (p :: l).filter (fun p => !decide (p = q)) := by
 unfold insR
 rw [List.takeWhile_cons, List.dropWhile_cons, if_neg (by rw [h]; simp), if_neg (by rw [h]; simp)]
 rfl
theorem insR_inv : ∀ (out : List Pt) (q : Pt), out.Pairwise lsP → (insR out q).Pairwise lsP ∧ ∀ x, x ∈ insR out q ↔ x ∈ out ∨ x = q
 | [], q, _ => by
  unfold insR
  simp
 | p :: l, q, h => by
  obtain ⟨h1, h2⟩ := List.pairwise_cons.1 h
  cases hc : lessB p q
  ·rw [insR_cons_ge hc]
   have hq : ∀ x, x ∈ (p :: l).filter (fun p => !decide (p = q)) → lsP q x := fun x hx => by
    obtain ⟨hm, hne⟩ := List.mem_filter.1 hx
    have hne' : x ≠ q := by simpa using hne
    rcases List.mem_cons.1 hm with e | e
    ·rw [e] at hne' ⊢
     exact lsP_tri hc hne'
    ·have hp := h1 x e
     by_cases ep : p = q
     ·rw [← ep]; exact hp
     ·exact (lsP_tri hc ep).trans hp
   refine ⟨List.pairwise_cons.2 ⟨hq, h.sublist List.filter_sublist⟩, fun x => ?_⟩
   rw [List.mem_cons, List.mem_filter]
   constructor
   ·rintro (e | ⟨e, _⟩)
    ·exact .inr e
    ·exact .inl e
   ·rintro (e | e)
    ·by_cases ex : x = q
     ·exact .inl ex
     ·exact .inr ⟨e, by simpa using ex⟩
    ·exact .inl e
  ·rw [insR_cons_lt hc]
   obtain ⟨i1, i2⟩ := insR_inv l q h2
   refine ⟨List.pairwise_cons.2 ⟨fun x hx => ?_, i1⟩, fun x => ?_⟩
   ·rcases (i2 x).1 hx with e | e
    ·exact h1 x e
    ·rw [e]; exact lessB_iff.1 hc
   ·rw [List.mem_cons, i2, List.mem_cons]
    constructor
    ·rintro (e | e | e)
     ·exact .inl (.inl e)
     ·exact .inl (.inr e)
     ·exact .inr e
    ·rintro ((e | e) | e)
     ·exact .inl e
     ·exact .inr (.inl e)
     ·exact .inr (.inr e)
theorem foldR_inv : ∀ (L M : List Pt), M.Pairwise lsP → (L.foldl insR M).Pairwise lsP ∧ ∀ x, x ∈ L.foldl insR M ↔ x ∈ M ∨ x ∈ L
 | [], M, h => ⟨h, fun x => by simp⟩
 | q :: L, M, h => by
  obtain ⟨i1, i2⟩ := insR_inv M q h
  obtain ⟨j1, j2⟩ := foldR_inv L (insR M q) i1
  refine ⟨j1, fun x => ?_⟩
  rw [List.foldl_cons, j2, i2, List.mem_cons]
  constructor
  ·rintro ((e | e) | e)
   ·exact .inl e
   ·exact .inr (.inl e)
   ·exact .inr (.inr e)
  ·rintro (e | e | e)
   ·exact .inl (.inl e)
   ·exact .inl (.inr e)
   ·exact .inr e
theorem asc_ext : ∀ (l m : List Pt), l.Pairwise lsP → m.Pairwise lsP → (∀ x, x ∈ l ↔ x ∈ m) → l = m
 | [], [], _, _, _ => rfl
 | [], b :: m, _, _, h => by have := (h b).2 (by simp); simp at this
 | a :: l, [], _, _, h => by have := (h a).1 (by simp); simp at this
 | a :: l, b :: m, hl, hm, h => by
  obtain ⟨l1, l2⟩ := List.pairwise_cons.1 hl
  obtain ⟨m1, m2⟩ := List.pairwise_cons.1 hm
  have e : a = b := by
   rcases List.mem_cons.1 ((h a).1 (by simp)) with e | e
   ·exact e
   ·rcases List.mem_cons.1 ((h b).2 (by simp)) with e' | e'
    ·exact e'.symm
    ·exact ((m1 a e).trans (l1 b e')).irr.elim
  subst e
  refine congrArg (a :: ·) (asc_ext l m l2 m2 fun x => ?_)
  constructor
  ·intro hx
   rcases List.mem_cons.1 ((h x).1 (List.mem_cons_of_mem _ hx)) with e | e
   ·rw [e] at hx; exact (l1 a hx).irr.elim
   ·exact e
  ·intro hx
   rcases List.mem_cons.1 ((h x).2 (List.mem_cons_of_mem _ hx)) with e | e
   ·rw [e] at hx; exact (m1 a hx).irr.elim
   ·exact e
theorem sortR_places (ps : List Pt) : sortR ps = placesOf ps := by
 obtain ⟨h1, h2⟩ := foldR_inv ps [] List.Pairwise.nil
 obtain ⟨k1, k2⟩ := plc_inv ps
 refine asc_ext _ _ h1 k1 fun x => ?_
 rw [k2]
 refine (h2 x).trans ?_
 simp
theorem sortR_len : ∀ (L M : List Pt), (L.foldl insR M).length ≤ M.length + L.length
 | [], M => Nat.le_refl _
 | q :: L, M => by
  have h1 := sortR_len L (insR M q)
  have h2 : (insR M q).length ≤ M.length + 1 := by
   unfold insR
   have e : M.takeWhile (fun p => lessB p q) ++ M.dropWhile (fun p => lessB p q) = M := List.takeWhile_append_dropWhile
   have e2 := congrArg List.length e
   have e3 := List.length_filter_le (fun p => !decide (p = q)) (M.dropWhile (fun p => lessB p q))
   rw [List.length_append] at e2
   rw [List.length_append, List.length_cons]
   omega
  rw [List.foldl_cons, List.length_cons]
  omega
/-- Where the reference's first loop ends. -/
theorem ins_at : ∀ (out : List Pt) (q : Pt) (k : Nat), k ≤ out.length → (out.take k).all (fun p => lessB p q) = true → (∀ y, out[k]? = some y → lessB y q = false) → insR out q = out.take k ++ q :: (out.drop k).filter (fun p => !decide (p = q))
 | [], q, k, hk, _, _ => by
  obtain rfl : k = 0 := by simpa using hk
  rfl
 | p :: l, q, 0, _, _, h => by
  have := h p rfl
  rw [insR_cons_ge this]
  rfl
 | p :: l, q, k + 1, hk, ha, h => by
  rw [List.take_succ_cons, List.all_cons, Bool.and_eq_true] at ha
  rw [insR_cons_lt ha.1, ins_at l q k (by simpa using hk) ha.2 (fun y hy => h y (by simpa using hy))]
  rfl
def midR (out : List Pt) (q : Pt) (k j : Nat) : List Pt := out.take k ++ q :: ((out.take j).drop k).filter (fun p => !decide (p = q))
theorem mid_start (out : List Pt) (q : Pt) (k : Nat) : midR out q k k = out.take k ++ [q] := by
 unfold midR
 rw [List.drop_eq_nil_of_le (by rw [List.length_take]; omega)]
 rfl
theorem midR_step {out : List Pt} {q y : Pt} {k j : Nat} (hk : k ≤ j) (hy : out[j]? = some y) : midR out q k (j + 1) = if y = q then midR out q k j else midR out q k j ++ [y] := by
 have hj : j < out.length := (List.getElem?_eq_some_iff.1 hy).1
 unfold midR
 rw [List.take_add_one, hy, Option.toList_some, List.drop_append_of_le_length (by rw [List.length_take]; omega), List.filter_append]
 by_cases e : y = q
 ·rw [if_pos e, List.filter_cons_of_neg (by simp [e])]
  simp
 ·rw [if_neg e, List.filter_cons_of_pos (by simp [e])]
  simp
theorem mid_end (out : List Pt) (q : Pt) (k : Nat) : midR out q k out.length = out.take k ++ q :: (out.drop k).filter (fun p => !decide (p = q)) := by
 unfold midR
 rw [List.take_length]
theorem mid_len (out : List Pt) (q : Pt) {k j : Nat} (hk : k ≤ j) : (midR out q k j).length ≤ j + 1 := by
 unfold midR
 have := List.length_filter_le (fun p => !decide (p = q)) ((out.take j).drop k)
 rw [List.length_append, List.length_cons, List.length_take]
 rw [List.length_drop, List.length_take] at this
 omega
theorem popK_pos {out : List Pt} {q : Pt} : ∀ k, 1 ≤ k → 1 ≤ popK out q k
 | 0, h => by omega
 | 1, _ => Nat.le_refl _
 | k + 2, _ => by
  unfold popK
  split
  ·exact popK_pos (k + 1) (by omega)
  ·omega
/-- A half begins at the first place, ends at the last one; of two places or more it has two or more. -/
theorem push_head {a q : Pt} {M : List Pt} : ∃ N, pushQ (a :: M) q = a :: N ∧ N ≠ [] := by
 unfold pushQ
 obtain ⟨m, hm⟩ : ∃ m, popK (a :: M) q (a :: M).length = m + 1 := ⟨popK (a :: M) q (a :: M).length - 1, by have := popK_pos (out := a :: M) (q := q) (a :: M).length (by simp); omega⟩
 rw [hm, List.take_succ_cons]
 exact ⟨M.take m ++ [q], rfl, by simp⟩
theorem fold_head : ∀ (L : List Pt) (a : Pt) (M : List Pt), ∃ N, L.foldl pushQ (a :: M) = a :: N ∧ (M ≠ [] ∨ L ≠ [] → N ≠ [])
 | [], a, M => ⟨M, rfl, fun h => h.resolve_right (by simp)⟩
 | q :: L, a, M => by
  obtain ⟨N, e, hn⟩ := push_head (a := a) (q := q) (M := M)
  obtain ⟨N', e', hn'⟩ := fold_head L a N
  refine ⟨N', ?_, fun _ => hn' (.inl hn)⟩
  rw [List.foldl_cons, e, e']
theorem half_head {a : Pt} {L : List Pt} : ∃ N, halfL (a :: L) = a :: N ∧ (L ≠ [] → N ≠ []) := by
 obtain ⟨N, e, hn⟩ := fold_head L a []
 refine ⟨N, ?_, fun h => hn (.inr h)⟩
 unfold halfL
 rw [List.foldl_cons]
 exact e
theorem half_last (L : List Pt) (z : Pt) : ∃ X, halfL (L ++ [z]) = X ++ [z] := ⟨_, by rw [halfL_snoc]; rfl⟩
/-- What the reference puts together: the lower half, and the upper one without its ends. -/
def refC (pl : List Pt) : List Pt := halfL pl ++ ((halfL pl.reverse).take ((halfL pl.reverse).length - 1)).drop 1
theorem refC_eq {pl : List Pt} (h : pl ≠ []) : (refC pl = cutL (halfL pl) ++ cutL (halfL pl.reverse)) ∨ ((refC pl).length < 3 ∧ (cutL (halfL pl) ++ cutL (halfL pl.reverse)).length < 3) := by
 obtain ⟨M, z, rfl⟩ : ∃ M z, pl = M ++ [z] := ⟨pl.dropLast, pl.getLast h, (List.dropLast_concat_getLast h).symm⟩
 obtain ⟨X, hX⟩ := half_last M z
 have hrev : (M ++ [z]).reverse = z :: M.reverse := by simp
 obtain ⟨Y, hY, hn⟩ := half_head (a := z) (L := M.reverse)
 unfold refC cutL
 rw [hrev, hY, hX]
 cases hM : M with
 | nil =>
  right
  have : halfL ([] ++ [z]) = [z] := rfl
  rw [hM, this] at hX
  have hX0 : X = [] := by
   have := congrArg List.length hX
   simp at this
   exact this
  have : halfL [z] = [z] := rfl
  rw [hM] at hY
  have hY0 : Y = [] := by
   have e : halfL (z :: ([] : List Pt).reverse) = [z] := rfl
   rw [e] at hY
   injection hY with _ hY
   exact hY.symm
  rw [hX0, hY0]
  simp
 | cons b M' =>
  left
  have hYn : Y ≠ [] := hn (by rw [hM]; simp)
  obtain ⟨Y', y, rfl⟩ : ∃ Y' y, Y = Y' ++ [y] := ⟨Y.dropLast, Y.getLast hYn, (List.dropLast_concat_getLast hYn).symm⟩
  have e1 : (X ++ [z]).take ((X ++ [z]).length - 1) = X := by simp
  have e2 : (z :: (Y' ++ [y])).take ((z :: (Y' ++ [y])).length - 1) = z :: Y' := by simp
  rw [e1, e2]
  simp
/-- What the reference hands back is what the program hands back. -/
theorem hull_ref {ps : List Pt} (h : ps.length ≠ 0 ∧ ps.length ≤ 200 ∧ ps.all Pt.ok = true) : hullOf ps = if (refC (placesOf ps)).length < 3 then ([], 4) else if 24 < (refC (placesOf ps)).length then ([], 2) else (refC (placesOf ps), 0) := by
 unfold hullOf
 rw [if_pos h]
 have hne : placesOf ps ≠ [] := by
  intro e
  have := (plc_inv ps).2
  rw [e] at this
  cases ps with
  | nil => simp at h
  | cons p l => have := (this p).2 (by simp); simp at this
 show (if (hullC ps).length < 3 then (([], 4) : List Pt × Int) else if 24 < (hullC ps).length then ([], 2) else (hullC ps, 0)) = _
 have e : hullC ps = cutL (halfL (placesOf ps)) ++ cutL (halfL (placesOf ps).reverse) := rfl
 rcases refC_eq hne with h1 | ⟨h1, h2⟩
 ·rw [h1, e]
 ·rw [e, if_pos h2, if_pos h1]
end Go.Proofs.YtndkfpmklmcjjaaGreat
