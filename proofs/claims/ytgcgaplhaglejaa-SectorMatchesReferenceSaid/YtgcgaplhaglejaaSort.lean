/- slices.SortFunc of the shortest directions by their angles. -/
import Derived.Test.YtgcgaplhaglejaaLay
import Derived.Test.YtgcgaplhaglejaaCmp
import Derived.Test.YtgcgaplhaglejaaPrim
import Derived.Sort.LotA
namespace Go.Proofs.Ytgcgaplhaglejaa
set_option linter.unusedVariables false
set_option linter.unusedSimpArgs false
open Go.RowKit Go.Sort Go.Lib Go.Shelf

def encP (v : Prim) : List Value := [.int .i64 v.1.1, .int .i64 v.1.2]
def cfP (u v : Prim) : Int := cmpw u.1.1 u.1.2 v.1.1 v.1.2
def leP (u v : Prim) : Bool := decide (cfP u v ≤ 0)
theorem prim_dir (v : Prim) : dirOk v.1.1 v.1.2 = true := by
  have := v.2
  simp only [prim, Bool.and_eq_true] at this
  exact this.1
theorem cfP_swap (u v : Prim) : cfP v u = - cfP u v := cmpw_swap ..
theorem leP_trans {u v w : Prim} (h1 : leP u v = true) (h2 : leP v w = true) : leP u w = true := by
  simp only [leP, decide_eq_true_eq] at *
  exact cmpw_trans (dir_ne (prim_dir u)) (dir_ne (prim_dir v)) (dir_ne (prim_dir w)) h1 h2
theorem leP_total (u v : Prim) : leP u v = true ∨ leP v u = true := by
  simp only [leP, decide_eq_true_eq, cfP_swap u v]
  omega
theorem leP_anti {u v : Prim} (h1 : leP u v = true) (h2 : leP v u = true) : u = v := by
  simp only [leP, decide_eq_true_eq, cfP_swap u v] at *
  exact Subtype.ext (prim_eq u.2 v.2 (by unfold cfP at *; omega))
theorem ltP (u v : Prim) : ltOf cfP u v = !leP v u := by
  rw [Bool.eq_iff_iff]
  simp [ltOf, leP, cfP_swap u v]
theorem swoP : SWO (ltOf cfP) where
  irrefl x := by
    rw [ltP]
    rcases leP_total x x with h | h <;> simp [h]
  trans x y z h1 h2 := by
    rw [ltP] at *
    cases h : leP z x
    · rfl
    · exfalso
      simp at h1 h2
      rcases leP_total x y with h3 | h3
      · have := leP_trans h h3
        rw [this] at h2; cases h2
      · rw [h3] at h1; cases h1
  ntrans x y z h1 h2 := by
    rw [ltP] at *
    simp at *
    exact leP_trans h2 h1
theorem totP (x y : Prim) (h1 : ltOf cfP x y = false) (h2 : ltOf cfP y x = false) : x = y := by
  rw [ltP] at h1 h2
  simp at h1 h2
  exact leP_anti h2 h1
def sortP (l : List Prim) : List Prim := l.mergeSort leP

theorem cmpLaysP (blk off size : Nat) (w : World) : CmpLays Try.prog 43 #[] encP 2 cfP blk off size w :=
  fun m os dk _ x y => by
    have hx := dir_bd (prim_dir x)
    have hy := dir_bd (prim_dir y)
    exact compare_m x.1.1 x.1.2 y.1.1 y.1.2 _ hx.1 hx.2 hy.1 hy.2

theorem sortWorldK_grownBy {α : Type} [Inhabited α] (enc : α → List Value) (k : Nat) (w : World) (blk off n : Nat) (d : Array α) (os : Array Obj) : w.grownBy (sortWorldK enc k w blk off n d os) (some blk) := by
  refine ⟨rfl, rfl, rfl, size_sortWorldK_c enc k w blk off n d os, fun j hj hne => ?_⟩
  unfold sortWorldK
  rw [heap_grow_old _ _ (by rw [size_putRowK]; exact hj)]
  simp only [putRowK, putRow, mapBlock, Array.getElem?_modify]
  rw [if_neg (fun e => hne (by rw [e]))]
  rfl

theorem sort_any (blk off cap : Nat) (l : List Prim) (w : World) (hH : HoldsK encP 2 w blk off l.toArray) (hblk : blk < w.heap.size) (hsz : l.length < 4611686018427387904) :
    Calls Try.prog 42 #[.slice (some ⟨blk, off, none⟩) l.length cap, .func (.func 43) #[] #[]] w fun e w' => e = .returned (.tuple #[]) ∧ w.grownBy w' (some blk) ∧ HoldsK encP 2 w' blk off (sortP l).toArray := by
  have eg : ∀ args w, (callFunc 43 args).run Try.prog w = .ok (.enter 43 args) w := enters_of Try.func43 (by kernel_rfl) rfl
  have hcon := AnyQ.slices_SortFunc Try.sortWay 2 Try.isAgg55 Try.sizeOf55 encP (fun _ => rfl) (fun x v hv => by simp [encP] at hv; rcases hv with rfl | rfl <;> rfl) cfP swoP 43 #[] blk off cap l.toArray w eg (cmpLaysP blk off _ w) hH hblk (by simpa using hsz)
  change Calls Try.prog 42 _ _ _ at hcon
  refine hcon.mono ?_
  rintro e w' ⟨rfl, d', n, os, hp, hs, rfl⟩
  refine ⟨rfl, ?_, ?_⟩
  · exact sortWorldK_grownBy encP 2 w blk off n d' os
  · have e := sorted_unique_holds swoP totP l.toArray d' hp hs
    have e2 : (fun x y => !ltOf cfP y x) = leP := by
      funext x y
      rw [ltP, Bool.not_not]
    rw [e2] at e
    have e3 : d' = (sortP l).toArray := by
      unfold sortP
      rw [← e]
    rw [← e3]
    exact holdsK_sortWorldK_c encP 2 w blk off l.toArray d' n os hH hblk hp.1
end Go.Proofs.Ytgcgaplhaglejaa
