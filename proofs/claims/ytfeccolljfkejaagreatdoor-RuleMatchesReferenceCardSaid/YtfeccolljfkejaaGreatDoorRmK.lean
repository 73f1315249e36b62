/- The reference implementation of package rule: Apply. -/
import Derived.Test.YtfeccolljfkejaaGreatDoorRmG
import Derived.Test.YtfeccolljfkejaaGreatDoorRmJ
import Derived.Test.YtfeccolljfkejaaGreatDoorRfX
import Derived.Test.YtfeccolljfkejaaGreatDoorRuH4
set_option linter.unusedSimpArgs false
set_option linter.unusedVariables false
namespace Go.Proofs.YtfeccolljfkejaaGreatDoor
open Go.RowKit Go.Sort
attribute [local go_sem] Steady steadyUpon
attribute [local go_sem ↓] hs_dr lt_add_r lt_add_r2 lt_add_r3 lt_add_r4 lt_add_r5 lt_add_r6
attribute [local go_sem] cell?_gd frozen?_gd setCell_gd size_grow tape_grow cell?_grow' frozen?_grow' setCell_grow' grow_grow grow_dr grow_drew dr_dr dr_drew drew_dr dr_alloc dr_setCell dr_cell dr_frozen dr_tape dr_drawn
attribute [local irreducible] wpSteady
/-- What the reference puts in a feature's place. -/
def rpart (o k n : Int) (kept : List FV) (f : FV) : List FV := (if o ≠ 3 ∨ f.kind ≠ k then [chg o k n f] else []) ++ kept.filter (fun g => g.id == f.id)
def rappTo (o k n : Int) (kept fs : List FV) (i : Nat) : List FV := (fs.take i).flatMap (rpart o k n kept)
def rkeptL (o k n : Int) (fs : List FV) : List FV := if o = 3 then rkOf k n fs else []
def rapplyL (o k n : Int) (fs : List FV) : List FV := fs.flatMap (rpart o k n (rkeptL o k n fs))
def rapplyOf (o k n : Int) (fs : List FV) : List FV × Int := if (ruleOk o k n && FList fs) = true then (if FList (rapplyL o k n fs) = true then (rapplyL o k n fs, 0) else ([], 3)) else ([], 1)
theorem rapp_succ {o k n : Int} {kept fs : List FV} {i : Nat} (h : i < fs.length) : rappTo o k n kept fs (i + 1) = rappTo o k n kept fs i ++ rpart o k n kept (fAt fs i) := by
 unfold rappTo
 rw [List.take_add_one, fAt_get h, List.flatMap_append]
 simp
theorem rpart_len (o k n : Int) (kept : List FV) (f : FV) : (rpart o k n kept f).length ≤ 1 + kept.length := by
 unfold rpart
 rw [List.length_append]
 have := List.length_filter_le (fun g : FV => g.id == f.id) kept
 split <;> simp <;> omega
theorem rapp_len (o k n : Int) (kept fs : List FV) : ∀ i, (rappTo o k n kept fs i).length ≤ i * (1 + kept.length)
 | 0 => by simp [rappTo]
 | i + 1 => by
  have ih := rapp_len o k n kept fs i
  by_cases h : i < fs.length
  ·rw [rapp_succ h, List.length_append, Nat.succ_mul]
   have := rpart_len o k n kept (fAt fs i)
   omega
  ·have e : rappTo o k n kept fs (i + 1) = rappTo o k n kept fs i := by
    unfold rappTo
    rw [List.take_of_length_le (by omega), List.take_of_length_le (by omega)]
   rw [e, Nat.succ_mul]
   omega
/-- The lists of features can be read, whatever happens in a row of their own. -/
def AllS (W : World) (r : Option Nat) (L : List FV) : Prop := ∀ f, f ∈ L → ∀ W2, W.grownBy W2 r → f.rd W2 W2.heap.size
theorem AllS.grew {W W' : World} {r : Option Nat} {L : List FV} (h : AllS W r L) (g : Grew W W') : AllS W' r L := fun f hf W2 k => h f hf W2 (gb_trans (g.grownBy _) k)
theorem AllS.app {W W' : World} {r r' : Option Nat} {L : List FV} (h : AllS W r L) (g : W.grownBy W' r) (hr : r' = r ∨ r' = some W.heap.size) : AllS W' r' L := fun f hf W2 k => by
 rcases hr with rfl | rfl
 ·exact h f hf W2 (gb_trans g k)
 ·refine h f hf W2 ⟨k.os.trans g.os, k.tape.trans g.tape, k.output.trans g.output, Nat.le_trans g.size k.size, fun b hb hne => (k.block b (Nat.lt_of_lt_of_le hb g.size) (fun e => by injection e with e; omega)).trans (g.block b hb hne)⟩
theorem AllS.add {W : World} {r : Option Nat} {L M : List FV} (h : AllS W r L) (k : AllS W r M) : AllS W r (L ++ M) := fun f hf => (List.mem_append.1 hf).elim (h f) (k f)
theorem AllS.nil (W : World) (r : Option Nat) : AllS W r [] := fun f hf => by cases hf
theorem AllS.of {W W' : World} {r : Option Nat} {f : FV} (h : f.rd W W.heap.size) (g : Grew W W') (hr : ∀ b, r = some b → W.heap.size ≤ b) : AllS W' r [f] := fun x hx W2 k => by
 rw [List.mem_singleton.1 hx]
 have hb : Below W.heap.size W W2 := g.below.grown k g.below.size hr
 exact ⟨(h.area.below hb).mono hb.size, (h.secs.below hb).mono hb.size, h.la, h.ls, h.lc⟩
theorem rk_src {ds : List FV} {n : Int} : ∀ m, m ≤ ds.length → ∀ g, g ∈ rkTo n ds m → ∃ f ∈ ds, g = { f with rad := g.rad }
 | 0, _ => fun g hg => by simp [rkTo] at hg
 | m + 1, h => by
  have ih := rk_src (ds := ds) (n := n) m (by omega)
  rw [rkTo_succ (by omega)]
  intro g hg
  unfold rkStep at hg
  split at hg
  ·rcases List.mem_append.1 hg with hg | hg
   ·exact ih g hg
   ·rw [List.mem_singleton.1 hg]
    exact ⟨_, fAt_mem (by omega), rfl⟩
  ·rename_i k hk
   rcases List.mem_or_eq_of_mem_set hg with hg | hg
   ·exact ih g hg
   ·obtain ⟨f, hf, e⟩ := ih _ (fAt_mem (List.findIdx?_eq_some_iff_getElem.1 hk).1)
    rw [hg]
    unfold rjoinF
    split
    ·exact ⟨f, hf, e⟩
    ·exact ⟨f, hf, by rw [e]⟩
theorem rkOf_src {k n : Int} {fs : List FV} : ∀ g, g ∈ rkOf k n fs → ∃ f ∈ fs, g = { f with rad := g.rad } := fun g hg => by
 obtain ⟨f, hf, e⟩ := rk_src _ (Nat.le_refl _) g hg
 exact ⟨f, (List.mem_filter.1 (byD_mem f hf)).1, e⟩
theorem rkOf_len (k n : Int) (fs : List FV) : (rkOf k n fs).length ≤ fs.length := by
 have h1 := rk_len (n := n) (ds := byD (fs.filter (isKind k))) _ (Nat.le_refl _)
 have h2 := byD_len (fs.filter (isKind k))
 have h3 := List.length_filter_le (isKind k) fs
 unfold rkOf
 omega
/-- What Apply's loops hold. -/
structure RA (w0 W : World) (v : Value) (l : List FV) : Prop where
 ex : ∃ L : List FV, W.ownsRow w0.heap.size 47 9 v L.length (L.flatMap FV.cells) ∧ L.map FV.bare = l.map FV.bare ∧ AllS W v.ownBlock L
 g : Grew w0 W
theorem RA.up {w0 W W' : World} {v : Value} {l : List FV} (h : RA w0 W v l) (g : Grew W W') : RA w0 W' v l := by
 obtain ⟨⟨L, h1, h2, h3⟩, h4⟩ := h
 exact ⟨⟨L, fown_grew h1 g, h2, h3.grew g⟩, h4.trans g⟩
theorem RA.slice {w0 W : World} {v : Value} {l : List FV} (h : RA w0 W v l) : ∃ A c, v = .slice A l.length c := by
 obtain ⟨⟨L, h1, h2, _⟩, _⟩ := h
 obtain ⟨A, c, rfl, _⟩ := fown_slice h1
 exact ⟨A, c, by rw [len_of h2]⟩
theorem RA.app {w0 W W' : World} {v v' : Value} {l : List FV} {L : List FV} {f' t : FV} (h1 : W.ownsRow w0.heap.size 47 9 v L.length (L.flatMap FV.cells)) (h2 : L.map FV.bare = l.map FV.bare) (h3 : AllS W v.ownBlock L) (h4 : Grew w0 W)
  (hf : AllS W v.ownBlock [f']) (hb : f'.bare = t.bare) (ho : W'.ownsRow w0.heap.size 47 9 v' (L.length + 1) (L.flatMap FV.cells ++ [f'].flatMap FV.cells)) (hg : W.grownBy W' v.ownBlock) (hr : v'.ownBlock = v.ownBlock ∨ v'.ownBlock = some W.heap.size) : RA w0 W' v' (l ++ [t]) := by
 refine ⟨⟨L ++ [f'], by rw [List.length_append, List.flatMap_append]; exact ho, by rw [List.map_append, List.map_append, h2]; simp [hb], (h3.add hf).app hg hr⟩, ggrown h4 h1 (Nat.le_refl _) hg⟩
end Go.Proofs.YtfeccolljfkejaaGreatDoor
