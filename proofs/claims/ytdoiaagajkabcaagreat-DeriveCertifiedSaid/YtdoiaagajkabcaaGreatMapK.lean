/- Maps with integer keys that a call makes: the map as a function from keys to values. -/
import Derived.Test.YtdoiaagajkabcaaGreatApp
import Derived.Test.YtdoiaagajkabcaaGreatProg
import Derived.Maps.OwnIn
namespace Go.Proofs.YtdoiaagajkabcaaGreat
set_option linter.unusedVariables false
set_option linter.unusedSimpArgs false
open Go.RowKit Go.Sort
open Go.Maps (Keyed)

def heldR (v : Value) : Option (DataW Value × List MemPlace) := some (.held v, [])
theorem ikeyed : Keyed Tryz.prog 3 := Maps.int_keyed Tryz.underlying3
/-- Block b is a map of at most n entries that is m. -/
def MapIs (w : World) (b n : Nat) (m : Int → Option Value) : Prop := ∃ D, w.ownsMap Tryz.prog 3 heldR b n D ∧ Maps.IsMap D ∧ ∀ x, (Lit.int .i64 x).wf = true → Maps.has D (.int .i64 x) = (m x).isSome ∧ ∀ z, D.atKey (.int .i64 x) z = match m x with | some v => .held v | none => z
theorem MapIs.made (w : World) : MapIs (w.alloc (.map #[] 0)) w.heap.size 0 (fun _ => none) :=
  ⟨_, World.ownsMap_made w Tryz.prog 3 heldR, Maps.isMap_empty, fun _ _ => ⟨rfl, fun _ => rfl⟩⟩
theorem MapIs.lt {w : World} {b n : Nat} {m : Int → Option Value} (h : MapIs w b n m) : b < w.heap.size := let ⟨_, h, _⟩ := h; h.lt
theorem MapIs.kept {w w' : World} {b n : Nat} {m : Int → Option Value} {row : Option Nat} (h : MapIs w b n m) (hg : w.grownBy w' row) (hne : some b ≠ row) : MapIs w' b n m :=
  let ⟨D, h1, h2⟩ := h; ⟨D, h1.kept hg hne, h2⟩
theorem MapIs.block {w w' : World} {b n : Nat} {m : Int → Option Value} (h : MapIs w b n m) (hb : w'.heap[b]? = w.heap[b]?) : MapIs w' b n m := by
  obtain ⟨D, ⟨es, clock, h0, h1⟩, h2⟩ := h
  exact ⟨D, ⟨es, clock, hb.trans h0, h1⟩, h2⟩
theorem MapIs.up {w w' : World} {b n : Nat} {m : Int → Option Value} (h : MapIs w b n m) (hg : Grew w w') : MapIs w' b n m := h.block (hg.below.block b h.lt)
theorem ikey (x : Int) (h : (Lit.int .i64 x).wf = true) : keyOf Tryz.prog 3 (.int .i64 x) = some (.int .i64 x) := Maps.keyOf_int_mk Tryz.underlying3 h
theorem held_val {D : DataW Value} {x : Int} {m : Int → Option Value} {v z : Value} {ps : List MemPlace} (h : ∀ z, D.atKey (.int .i64 x) z = match m x with | some v => .held v | none => z) (hv : heldR v = some (D.atKey (.int .i64 x) (.held z), ps)) : v = (m x).getD z := by
  rw [h] at hv
  unfold heldR at hv
  cases hm : m x with
  | none => rw [hm] at hv; injection hv with hv; injection hv with hv _; injection hv
  | some u => rw [hm] at hv; injection hv with hv; injection hv with hv _; injection hv
theorem MapIs.look {w : World} {b n : Nat} {m : Int → Option Value} (h : MapIs w b n m) {t e : TypeId} (ht : Tryz.prog.underlying t = some (.map 3 e)) {z : Value} (hz : (zeroValue e).run Tryz.prog w = .ok z w) {x : Int} (hx : (Lit.int .i64 x).wf = true) :
    (Instr.lookup t (.map (some b)) (.int .i64 x) true).run Tryz.prog w = .ok (.tuple #[(m x).getD z, .bool (m x).isSome]) w := by
  obtain ⟨D, h1, _, h3⟩ := h
  obtain ⟨v, ps, hrun, hv⟩ := h1.look_ok ikeyed ht hz (zd := .held z) (zp := []) rfl (ikey x hx)
  rw [hrun, (h3 x hx).1, held_val (h3 x hx).2 hv]
theorem MapIs.look1 {w : World} {b n : Nat} {m : Int → Option Value} (h : MapIs w b n m) {t e : TypeId} (ht : Tryz.prog.underlying t = some (.map 3 e)) {z : Value} (hz : (zeroValue e).run Tryz.prog w = .ok z w) {x : Int} (hx : (Lit.int .i64 x).wf = true) :
    (Instr.lookup t (.map (some b)) (.int .i64 x) false).run Tryz.prog w = .ok ((m x).getD z) w := by
  obtain ⟨D, h1, _, h3⟩ := h
  obtain ⟨v, ps, hrun, hv⟩ := h1.lookup ikeyed ht hz (zd := .held z) (zp := []) rfl (ikey x hx)
  rw [hrun, held_val (h3 x hx).2 hv]
def updM (m : Int → Option Value) (k : Int) (v : Value) : Int → Option Value := fun x => if x = k then some v else m x
theorem MapIs.of_put {w : World} {b n : Nat} {m : Int → Option Value} {D : DataW Value} {k : Int} {v : Value} (hk : (Lit.int .i64 k).wf = true) (h1 : w.ownsMap Tryz.prog 3 heldR b n (D.put (.int .i64 k) (.held v))) (h2 : Maps.IsMap D) (h3 : ∀ x, (Lit.int .i64 x).wf = true → Maps.has D (.int .i64 x) = (m x).isSome ∧ ∀ z, D.atKey (.int .i64 x) z = match m x with | some v => .held v | none => z) : MapIs w b n (updM m k v) := by
  have hkl : WideAt.IsKeyLit (.int .i64 k) := by simp [WideAt.IsKeyLit]
  refine ⟨_, h1, h2.put _ _, fun x hx => ?_⟩
  unfold updM
  by_cases e : x = k
  · subst e
    rw [if_pos rfl]
    exact ⟨Maps.has_put_same h2 hkl _, fun z => Maps.atKey_put_same h2 hkl _ z⟩
  · rw [if_neg e]
    have hne : Lit.int .i64 x ≠ .int .i64 k := fun h => e (by injection h)
    exact ⟨(Maps.has_put_other hne _).trans (h3 x hx).1, fun z => (Maps.atKey_put_other hne _ z).trans ((h3 x hx).2 z)⟩
theorem wf64 {x : Int} (h : -9223372036854775808 ≤ x ∧ x ≤ 9223372036854775807) : (Lit.int .i64 x).wf = true := WalkArith.wf_i64 (by omega)

section
variable {w : World} {ops : Array Oper} {rest : List Oper} {o : Oper} {a : Act} {Q : Exit → Act → World → Prop} {b n : Nat} {mp : Int → Option Value}
theorem wpList_look (hg : o.guard = none) (m x : Operand) (t : TypeId) (hop : o.op = Op.lookup t m x true) (e : TypeId) (ht : Tryz.prog.underlying t = some (.map 3 e)) {z : Value} (hz : (zeroValue e).run Tryz.prog w = .ok z w)
    (hm : a.eval m = .map (some b)) (h : MapIs w b n mp) (k : Int) (hx : a.eval x = .int .i64 k) (hk : (Lit.int .i64 k).wf = true) (hK : wpList Tryz.prog ops Q rest (a.put o.dst (.tuple #[(mp k).getD z, .bool (mp k).isSome])) w) : wpList Tryz.prog ops Q (o :: rest) a w := by
  obtain ⟨D, h1, _, h3⟩ := h
  refine wpList_lookup_own_ok w hg m x t hop 3 e ikeyed ht heldR hz (.held z) [] rfl b n D hm h1 _ _ hx (ikey k hk) fun v ps hv => ?_
  rw [(h3 k hk).1, held_val (h3 k hk).2 hv]
  exact hK
theorem wpList_store (hg : o.guard = none) (m x v : Operand) (t : TypeId) (hop : o.op = Op.mapUpdate t m x v) (e : TypeId) (ht : Tryz.prog.underlying t = some (.map 3 e))
    (hm : a.eval m = .map (some b)) (h : MapIs w b n mp) (hn : n < maxLen) (k : Int) (u : Value) (hx : a.eval x = .int .i64 k) (hv : a.eval v = u) (hk : (Lit.int .i64 k).wf = true)
    (hK : ∀ w', MapIs w' b (n + 1) (updM mp k u) → w.grownBy w' (some b) → wpList Tryz.prog ops Q rest (a.put o.dst undef) w') : wpList Tryz.prog ops Q (o :: rest) a w := by
  obtain ⟨D, h1, h2, h3⟩ := h
  exact wpList_mapUpdate_own w hg m x v t hop 3 e ikeyed ht heldR b n D hm h1 hn _ _ _ hx hv (ikey k hk) (.held u) [] rfl fun w' h4 h5 => hK w' (MapIs.of_put hk h4 h2 h3) h5
variable {F : Fence} {nF : Nat}
theorem wpListIn_look (hg : o.guard = none) (m x : Operand) (t : TypeId) (hop : o.op = Op.lookup t m x true) (e : TypeId) (ht : Tryz.prog.underlying t = some (.map 3 e)) {z : Value} (hz : (zeroValue e).run Tryz.prog w = .ok z w)
    (hm : a.eval m = .map (some b)) (h : MapIs w b n mp) (k : Int) (hx : a.eval x = .int .i64 k) (hk : (Lit.int .i64 k).wf = true) (hK : wpListIn F nF Tryz.prog ops Q rest (a.put o.dst (.tuple #[(mp k).getD z, .bool (mp k).isSome])) w) : wpListIn F nF Tryz.prog ops Q (o :: rest) a w := by
  obtain ⟨D, h1, _, h3⟩ := h
  refine wpListIn_lookup_own_ok w hg m x t hop 3 e ikeyed ht heldR hz (.held z) [] rfl b n D hm h1 _ _ hx (ikey k hk) fun v ps hv => ?_
  rw [(h3 k hk).1, held_val (h3 k hk).2 hv]
  exact hK
theorem wpListIn_store (hg : o.guard = none) (m x v : Operand) (t : TypeId) (hop : o.op = Op.mapUpdate t m x v) (e : TypeId) (ht : Tryz.prog.underlying t = some (.map 3 e))
    (hm : a.eval m = .map (some b)) (h : MapIs w b n mp) (hn : n < maxLen) (k : Int) (u : Value) (hx : a.eval x = .int .i64 k) (hv : a.eval v = u) (hk : (Lit.int .i64 k).wf = true)
    (hK : ∀ w', MapIs w' b (n + 1) (updM mp k u) → w.grownBy w' (some b) → wpListIn F nF Tryz.prog ops Q rest (a.put o.dst undef) w') : wpListIn F nF Tryz.prog ops Q (o :: rest) a w := by
  obtain ⟨D, h1, h2, h3⟩ := h
  exact wpListIn_mapUpdate_own w hg m x v t hop 3 e ikeyed ht heldR b n D hm h1 hn _ _ _ hx hv (ikey k hk) (.held u) [] rfl fun w' h4 h5 => hK w' (MapIs.of_put hk h4 h2 h3) h5
end
end Go.Proofs.YtdoiaagajkabcaaGreat
