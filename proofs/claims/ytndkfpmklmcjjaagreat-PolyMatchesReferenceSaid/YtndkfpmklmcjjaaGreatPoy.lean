/- The examples of the chapter, by computing. -/
import Derived.Test.YtndkfpmklmcjjaaGreatPov
import Derived.Test.YtndkfpmklmcjjaaGreatPou
import Derived.Test.YtndkfpmklmcjjaaGreatPol
set_option linter.unusedSimpArgs false
set_option linter.unusedVariables false
namespace Go.Proofs.YtndkfpmklmcjjaaGreat
def bentL : List Pt := [(0, 0), (4, 0), (4, 2), (2, 2), (2, 4), (0, 4)]
theorem x1 : inOf bentL (1, 3) = (1, 0) := by decide +kernel
theorem x2 : inOf bentL (2, 3) = (0, 0) := by decide +kernel
theorem x3 : inOf bentL (3, 3) = (-1, 0) := by decide +kernel
theorem x4 : areaOf bentL = (24, 0) := by decide +kernel
theorem x5 : pholdsOf bentL [(0, 0), (4, 0), (0, 4)] = (true, 0) := by decide +kernel
theorem x6 : pholdsOf bentL [(0, 0), (4, 0), (1, 4)] = (false, 0) := by decide +kernel
theorem x7 : discOf bentL (1, 1) 1 = (1, 0) := by decide +kernel
theorem x8 : discOf bentL (1, 1) 2 = (0, 0) := by decide +kernel
theorem x9 : discOf bentL (4, 4) 1 = (-1, 0) := by decide +kernel
theorem x10 : discOf bentL (4, 4) 2 = (0, 0) := by decide +kernel
theorem x12 : boxOf bentL = (((0, 4), (0, 4)), 0) := by decide +kernel
theorem x13 : rectOf ((0, 4), (0, 4)) = ([(0, 0), (4, 0), (4, 4), (0, 4)], 0) := by decide +kernel
theorem x15 : PValid bentL = true := by decide +kernel
theorem x16 : PValid [(4, 0), (4, 2), (2, 2), (2, 4), (0, 4)] = false := by decide +kernel
theorem sortQ_eq {l m : List Pt} (hp : m.Perm l) (hs : m.Pairwise fun a b => leQ a b = true) : sortQ l = m := by
 unfold sortQ
 refine List.Perm.eq_of_pairwise (le := fun a b => leQ a b = true) (fun a b _ _ => leQ_anti) ?_ hs ((List.mergeSort_perm _ _).trans hp.symm)
 exact List.pairwise_mergeSort (le := leQ) (fun a b c h1 h2 => leQ_trans h1 h2) (fun a b => by rcases leQ_total a b with h | h <;> rw [h] <;> simp) l
def hullQ (ps m : List Pt) : List Pt × Int :=
 if ps.length ≠ 0 ∧ ps.length ≤ 200 ∧ ps.all Pt.ok = true then (if (cutL (halfL (compQ m)) ++ cutL (halfL (compQ m).reverse)).length < 3 then ([], 4) else if 24 < (cutL (halfL (compQ m)) ++ cutL (halfL (compQ m).reverse)).length then ([], 2) else (cutL (halfL (compQ m)) ++ cutL (halfL (compQ m).reverse), 0)) else ([], 1)
theorem hullOf_eq {ps m : List Pt} (h : sortQ ps = m) : hullOf ps = hullQ ps m := by
 subst h
 rfl
theorem x11 : hullOf bentL = ([(0, 0), (4, 0), (4, 2), (2, 4), (0, 4)], 0) := by
 rw [hullOf_eq (sortQ_eq (m := [(0, 0), (0, 4), (2, 2), (2, 4), (4, 0), (4, 2)]) (by decide) (by decide))]
 decide +kernel
theorem x14 : hullOf [(0, 0), (1, 1), (3, 3)] = ([], 4) := by
 rw [hullOf_eq (sortQ_eq (m := [(0, 0), (1, 1), (3, 3)]) (by decide) (by decide))]
 decide +kernel
end Go.Proofs.YtndkfpmklmcjjaaGreat
