/- slices.SortFunc of places by their order. -/
import Derived.Test.YtndkfpmklmcjjaaGreatPoq
import Derived.Test.YtndkfpmklmcjjaaGreatKitM
import Derived.Test.YtndkfpmklmcjjaaGreatPop
import Derived.Sort.LotA
set_option linter.unusedSimpArgs false
set_option linter.unusedVariables false
namespace Go.Proofs.YtndkfpmklmcjjaaGreat
open Go.RowKit Go.Sort Go.Lib Go.Shelf
theorem ord_swap (u v : Pt) : ord v u = - ord u v := by
 unfold ord
 rcases sg_cases (u.1 - v.1) with ⟨h, e⟩ | ⟨h, e⟩ | ⟨h, e⟩ <;> rcases sg_cases (v.1 - u.1) with ⟨h', e'⟩ | ⟨h', e'⟩ | ⟨h', e'⟩ <;> rcases sg_cases (u.2 - v.2) with ⟨k, f⟩ | ⟨k, f⟩ | ⟨k, f⟩ <;> rcases sg_cases (v.2 - u.2) with ⟨k', f'⟩ | ⟨k', f'⟩ | ⟨k', f'⟩ <;> simp [e, e', f, f'] <;> omega
theorem ord_le (u v : Pt) : ord u v ≤ 0 ↔ (u.1 < v.1 ∨ (u.1 = v.1 ∧ u.2 ≤ v.2)) := by
 unfold ord
 rcases sg_cases (u.1 - v.1) with ⟨h, e⟩ | ⟨h, e⟩ | ⟨h, e⟩ <;> rcases sg_cases (u.2 - v.2) with ⟨k, f⟩ | ⟨k, f⟩ | ⟨k, f⟩ <;> simp [e, f] <;> omega
def leQ (u v : Pt) : Bool := decide (ord u v ≤ 0)
theorem leQ_iff (u v : Pt) : leQ u v = true ↔ (u.1 < v.1 ∨ (u.1 = v.1 ∧ u.2 ≤ v.2)) := by rw [leQ, decide_eq_true_eq, ord_le]
theorem leQ_trans {u v w : Pt} (h1 : leQ u v = true) (h2 : leQ v w = true) : leQ u w = true := by
 rw [leQ_iff] at *
 omega
theorem leQ_total (u v : Pt) : leQ u v = true ∨ leQ v u = true := by
 rw [leQ_iff, leQ_iff]
 omega
theorem leQ_anti {u v : Pt} (h1 : leQ u v = true) (h2 : leQ v u = true) : u = v := by
 rw [leQ_iff] at *
 exact Prod.ext (by omega) (by omega)
theorem ltQ (u v : Pt) : ltOf ord u v = !leQ v u := by
 rw [Bool.eq_iff_iff]
 simp [ltOf, leQ, ord_swap u v]
theorem swoQ : SWO (ltOf ord) where
 irrefl x := by
  rw [ltQ]
  rcases leQ_total x x with h | h <;> simp [h]
 trans x y z h1 h2 := by
  rw [ltQ] at *
  cases h : leQ z x
  ·rfl
  ·exfalso
   simp at h1 h2
   rcases leQ_total x y with h3 | h3
   ·have := leQ_trans h h3
    rw [this] at h2; cases h2
   ·rw [h3] at h1; cases h1
 ntrans x y z h1 h2 := by
  rw [ltQ] at *
  simp at *
  exact leQ_trans h2 h1
theorem totQ (x y : Pt) (h1 : ltOf ord x y = false) (h2 : ltOf ord y x = false) : x = y := by
 rw [ltQ] at h1 h2
 simp at h1 h2
 exact leQ_anti h2 h1
def sortQ (l : List Pt) : List Pt := l.mergeSort leQ
theorem cmpLaysQ (blk off size : Nat) (w : World) : CmpLays Tryz.prog 28 #[] encD 2 ord blk off size w :=
 fun m os dk _ x y => (M.order_any x y _).mono fun e w' ⟨he, ⟨p, hp⟩⟩ => ⟨he, p.n, p.os, hp⟩
theorem sortWorldQ_grownBy {α : Type} [Inhabited α] (enc : α → List Value) (k : Nat) (w : World) (blk off n : Nat) (d : Array α) (os : Array Obj) : w.grownBy (sortWorldK enc k w blk off n d os) (some blk) := by
 refine ⟨rfl, rfl, rfl, size_sortWorldK_c enc k w blk off n d os, fun j hj hne => ?_⟩
 unfold sortWorldK
 rw [heap_grow_old _ _ (by rw [size_putRowK]; exact hj)]
 simp only [putRowK, putRow, mapBlock, Array.getElem?_modify]
 rw [if_neg (fun e => hne (by rw [e]))]
 rfl
theorem sortQ_any (blk off cap : Nat) (l : List Pt) (w : World) (hH : HoldsK encD 2 w blk off l.toArray) (hblk : blk < w.heap.size) (hsz : l.length < 4611686018427387904) :
  Calls Tryz.prog 53 #[.slice (some ⟨blk, off, none⟩) l.length cap, .func (.func 28) #[] #[]] w fun e w' => e = .returned (.tuple #[]) ∧ w.grownBy w' (some blk) ∧ HoldsK encD 2 w' blk off (sortQ l).toArray := by
 have eg : ∀ args w, (callFunc 28 args).run Tryz.prog w = .ok (.enter 28 args) w := enters_of Tryz.func28 (by kernel_rfl) rfl
 have hcon := AnyQ.slices_SortFunc Tryz.sortPt 2 Tryz.isAgg24 Tryz.sizeOf24 encD (fun _ => rfl) (fun x v hv => by simp [encD] at hv; rcases hv with rfl | rfl <;> rfl) ord swoQ 28 #[] blk off cap l.toArray w eg (cmpLaysQ blk off _ w) hH hblk (by simpa using hsz)
 change Calls Tryz.prog 53 _ _ _ at hcon
 refine hcon.mono ?_
 rintro e w' ⟨rfl, d', n, os, hp, hs, rfl⟩
 refine ⟨rfl, ?_, ?_⟩
 ·exact sortWorldQ_grownBy encD 2 w blk off n d' os
 ·have e := sorted_unique_holds swoQ totQ l.toArray d' hp hs
  have e2 : (fun x y => !ltOf ord y x) = leQ := by
   funext x y
   rw [ltQ, Bool.not_not]
  rw [e2] at e
  have e3 : d' = (sortQ l).toArray := by
   unfold sortQ
   rw [← e]
  rw [← e3]
  exact holdsK_sortWorldK_c encD 2 w blk off l.toArray d' n os hH hblk hp.1
end Go.Proofs.YtndkfpmklmcjjaaGreat
