/- What a round of a loop over a function leaves as it was; blocks that lie. -/
import Derived.Test.YtpfpamopmncifaaGreatProg
import Derived.Test.YtpfpamopmncifaaGreatRegIn
import Derived.Test.YtpfpamopmncifaaGreatApp
import Derived.RangeFuncNested
import Derived.RangeFuncBound
set_option linter.unusedSimpArgs false
set_option linter.unusedVariables false
namespace Go.Proofs.YtpfpamopmncifaaGreat
open Go.RowKit Go.Sort
attribute [local go_sem] Steady steadyUpon
attribute [local go_sem ↓] hs_dr lt_add_r lt_add_r2 lt_add_r3 lt_add_r4 lt_add_r5 lt_add_r6
attribute [local go_sem] cell?_gd frozen?_gd setCell_gd size_grow tape_grow cell?_grow' frozen?_grow' setCell_grow' grow_grow grow_dr grow_drew dr_dr dr_drew drew_dr dr_alloc dr_setCell dr_cell dr_frozen dr_tape dr_drawn
/-- What a round of a loop over a function leaves as it was: every block of cells but those that the body may write (M). -/
def KpM (M : Nat → TypeId → Prop) (W W' : World) : Prop := ∀ b cs T fr, ¬ M b T → W.heap[b]? = some (.cells cs T fr) → W'.heap[b]? = some (.cells cs T fr)
theorem KpM.trans {M : Nat → TypeId → Prop} {A B C : World} (h : KpM M A B) (k : KpM M B C) : KpM M A C := fun b cs T fr hM hb => k b cs T fr hM (h b cs T fr hM hb)
theorem KpM.bk {M : Nat → TypeId → Prop} {w : World} (W : World) (l : Nat) (o o' : Obj) (_ : w.heap.size ≤ l) (h : W.heap[l]? = some o) (ho : o.isCells = false) (_ : o.isWalk = false) : KpM M W (W.putObj l o') := by
 intro b cs T fr _ hb
 have hne : b ≠ l := by
  rintro rfl
  rw [hb] at h
  injection h with h
  rw [← h] at ho
  simp [Obj.isCells] at ho
 rw [World.putObj_heap_other (fun e => hne (by omega))]
 exact hb
theorem KpM.grew {M : Nat → TypeId → Prop} {W W' : World} (h : Grew W W') : KpM M W W' := fun b cs T fr _ hb => by
 rw [h.below.block b (blk_lt hb)]
 exact hb
theorem KpM.set {M : Nat → TypeId → Prop} (W : World) (b i : Nat) (v : Value) (h : ∀ T, M b T) : KpM M W (W.setCell ⟨b, i, none⟩ v) := fun k cs T fr hM hb => by
 by_cases e : k = b
 ·subst e; exact absurd (h T) hM
 ·rw [heap_setCell_other W ⟨b, i, none⟩ k v (fun h => e h)]
  exact hb
theorem Grew.grownBy {w w' : World} (h : Grew w w') (row : Option Nat) : w.grownBy w' row := by
 have hb := h.below
 exact ⟨hb.os, hb.tape, hb.output, hb.size, fun k hk _ => hb.block k hk⟩
/-- The blocks from n0 on are these. -/
def Bx (W : World) (n0 : Nat) (os : List Obj) : Prop := ∀ i o, os[i]? = some o → W.heap[n0 + i]? = some o
theorem Bx.own {β : Type} {B n0 : Nat} {os : List Obj} (h : n0 + os.length ≤ B) : OwnFrom B (fun (_ : β) W => Bx W n0 os) := by
 intro s W W' row hs hg hr i o ho
 have hi := (List.getElem?_eq_some_iff.1 ho).1
 have h0 := hs i o ho
 rw [hg.block (n0 + i) (blk_lt h0) (fun e => by have := (hr _ e.symm).1; omega)]
 exact h0
theorem Bx.grew {W W' : World} {n0 : Nat} {os : List Obj} (h : Bx W n0 os) (hg : Grew W W') : Bx W' n0 os := fun i o ho => (hg.below.block _ (blk_lt (h i o ho))).trans (h i o ho)
theorem ownFrom_pure {β : Type} {B : Nat} (p : β → Prop) : OwnFrom B (fun (s : β) (_ : World) => p s) := fun _ _ _ _ h _ _ => h
theorem cells_own {X Y : World} {row : Option Nat} {B : Nat} {cs : Array Value} {T : TypeId} {fr : Nat × Nat} (h : X.heap[B]? = some (.cells cs T fr)) (hg : X.grownBy Y row) (hr : ∀ r, row = some r → ∃ o : Obj, X.heap[r]? = some o ∧ o.isCells = false) : Y.heap[B]? = some (.cells cs T fr) :=
 (grownBy_keeps_cells hg hr h rfl).trans h
theorem asg1 (T : Array Value) (k : Nat) (v : Value) : ((#[k] : Array Tmp).zip #[v]).foldl (fun t (p, v) => t.setIfInBounds p v) T = T.setIfInBounds k v := by simp
theorem asg2 (T : Array Value) (k l : Nat) (v u : Value) : ((#[k, l] : Array Tmp).zip #[v, u]).foldl (fun t (p, v) => t.setIfInBounds p v) T = (T.setIfInBounds k v).setIfInBounds l u := by simp
theorem putObj_cell {W : World} {D b i : Nat} {o : Obj} (h : b ≠ D) : (W.putObj D o).cell? ⟨b, i, none⟩ = W.cell? ⟨b, i, none⟩ := World.cell?_of_block (World.putObj_heap_other h)
theorem wpIn_name {F : Fence} {n : Nat} {P : Program} {c : Code} {Q : Exit → Act → World → Prop} {a : Act} {w : World} (h : ∀ a0 W0, a = a0 → w = W0 → c.wpIn F n P Q a0 W0) : c.wpIn F n P Q a w := h _ _ rfl rfl
theorem Bx.box {W : World} {n0 : Nat} {os : List Obj} (h : Bx W n0 os) (i : Nat) {v : Value} {T : TypeId} (ho : os[i]? = some (.cells #[v] T (0, 0))) : Boxed W (n0 + i) T v := h i _ ho
theorem Bx.allocs : ∀ (os : List Obj) (w : World), Bx (os.foldl World.alloc w) w.heap.size os ∧ Grew w (os.foldl World.alloc w)
 | [], w => ⟨fun i o h => by simp at h, Grew.refl _⟩
 | o :: os, w => by
  obtain ⟨h1, h2⟩ := Bx.allocs os (w.alloc o)
  refine ⟨fun i x hx => ?_, Grew.trans (Grew.alloc (Grew.refl _) o) h2⟩
  cases i with
  | zero =>
   injection hx with hx
   subst hx
   exact (h2.below.block w.heap.size (by simp)).trans (heap_alloc_new w o)
  | succ i =>
   have := h1 i x hx
   rw [World.size_alloc'] at this
   rw [show w.heap.size + (i + 1) = w.heap.size + 1 + i by omega]
   exact this
theorem Grew.keepsFrom {W W' : World} (h : Grew W W') (B : Nat) : KeepsFrom B W W' := KeepsFrom.of_grownBy (h.grownBy none) (fun _ e => by cases e)
theorem KeepsFrom.setCell (B : Nat) (W : World) (a : Addr) (v : Value) : KeepsFrom B W (W.setCell a v) := (KeepsOthers.setCell W a v).from B
theorem gb_refl (W : World) (row : Option Nat) : W.grownBy W row := ⟨rfl, rfl, rfl, Nat.le_refl _, fun _ _ _ => rfl⟩
theorem gb_grew {W V V' : World} {row : Option Nat} (h : W.grownBy V row) (g : Grew V V') : W.grownBy V' row :=
 ⟨(g.below.os).trans h.os, g.below.tape.trans h.tape, g.below.output.trans h.output, Nat.le_trans h.size g.below.size, fun k hk hne => (g.below.block k (Nat.lt_of_lt_of_le hk h.size)).trans (h.block k hk hne)⟩
theorem gb_grow {W V : World} {row : Option Nat} (h : W.grownBy V row) (n : Nat) (os : Array Obj) : W.grownBy (Sort.grow (dr V n) os) row := gb_grew h (Grew.mk V n os)
theorem gb_alloc {W V : World} {row : Option Nat} (h : W.grownBy V row) (o : Obj) : W.grownBy (V.alloc o) row := gb_grew h (Grew.alloc (Grew.refl _) o)
theorem gb_new {W V : World} {row : Option Nat} {k : Nat} (h : W.grownBy V row) (hk : W.heap.size ≤ k) (i : Nat) (v : Value) : W.grownBy (V.setCell ⟨k, i, none⟩ v) row :=
 ⟨h.os, h.tape, h.output, by simpa using h.size, fun j hj hne => (heap_setCell_other V ⟨k, i, none⟩ j v (fun e => by dsimp only at e; omega)).trans (h.block j hj hne)⟩
theorem gb_row {W V : World} {b : Nat} (h : W.grownBy V (some b)) (i : Nat) (v : Value) : W.grownBy (V.setCell ⟨b, i, none⟩ v) (some b) :=
 ⟨h.os, h.tape, h.output, by simpa using h.size, fun j hj hne => (heap_setCell_other V ⟨b, i, none⟩ j v (fun e => hne (by dsimp only at e; rw [e]))).trans (h.block j hj hne)⟩
theorem gb_below {w W V : World} {b : Nat} (h : W.grownBy V (some b)) (hw : Below w.heap.size w W) (hb : w.heap.size ≤ b) : Below w.heap.size w V := hw.grown h hw.size fun q hq => by injection hq with hq; omega
theorem gb_below0 {w W V : World} (h : W.grownBy V none) (hw : Below w.heap.size w W) : Below w.heap.size w V := hw.grown h hw.size fun q hq => by cases hq
theorem gbw {W V : World} {row : Option Nat} (h : W.grownBy V row := by repeat (with_reducible first | assumption | exact Hid.out (by assumption) | exact gb_refl _ _ | refine gb_grow ?_ _ _ | refine gb_row ?_ _ _ | (refine gb_new ?_ (Hid.out (by assumption)) _ _) | refine gb_alloc ?_ _ | (refine gb_grew ?_ (Hid.out (by assumption))))) : W.grownBy V row := h
theorem gb_keeps {W V : World} {b B : Nat} (h : W.grownBy V (some b)) (ho : ∃ o, W.heap[b]? = some o ∧ o.isCells = true) : KeepsFrom B W V :=
 ⟨h.size, fun k o hk h0 hc => (h.block k (blk_lt h0) (fun e => by
  obtain ⟨o', h1, h2⟩ := ho
  injection e with e
  subst e
  rw [h0] at h1
  injection h1 with h1
  rw [h1, h2] at hc
  cases hc)).trans h0⟩
theorem gb_kpm {M : Nat → TypeId → Prop} {W V : World} {b : Nat} (h : W.grownBy V (some b)) (hM : ∀ T, M b T) : KpM M W V := fun k cs T fr hk h0 => (h.block k (blk_lt h0) (fun e => by
  injection e with e
  subst e
  exact hk (hM T))).trans h0
theorem gb_bx {W V : World} {b n0 : Nat} {os : List Obj} (h : W.grownBy V (some b)) (hb : Bx W n0 os) (hne : b < n0 ∨ n0 + os.length ≤ b) : Bx V n0 os := fun i o ho => (h.block _ (blk_lt (hb i o ho)) (fun e => by
  injection e with e
  have := (List.getElem?_eq_some_iff.1 ho).1
  omega)).trans (hb i o ho)
theorem bxd_grow {V : World} {b : Nat} {T : TypeId} {v : Value} (h : Boxed V b T v) (n : Nat) (os : Array Obj) : Boxed (Sort.grow (dr V n) os) b T v := ((Grew.mk V n os).below.block _ (blk_lt h)).trans h
theorem bxd_grew {V V' : World} {b : Nat} {T : TypeId} {v : Value} (h : Boxed V b T v) (g : Grew V V') : Boxed V' b T v := (g.below.block _ (blk_lt h)).trans h
theorem bxd_new {V : World} {b k i : Nat} {T : TypeId} {v u : Value} (h : Boxed V b T v) (hne : b ≠ k) : Boxed (V.setCell ⟨k, i, none⟩ u) b T v := (heap_setCell_other V ⟨k, i, none⟩ b u hne).trans h
end Go.Proofs.YtpfpamopmncifaaGreat
