/- Package sector: Normal. -/
import Derived.Test.YtgcgaplhaglejaaComp
import Derived.Test.YtgcgaplhaglejaaOwn
namespace Go.Proofs.Ytgcgaplhaglejaa
set_option linter.unusedVariables false
set_option linter.unusedSimpArgs false
open Go.RowKit Go.Sort Go.Lib
attribute [local go_sem] Steady steadyUpon
attribute [local go_sem ↓] hs_dr lt_add_r lt_add_r2 lt_add_r3 lt_add_r4 lt_add_r5 lt_add_r6
attribute [local go_sem] cell?_gd frozen?_gd setCell_gd size_grow tape_grow cell?_grow' frozen?_grow' setCell_grow' grow_grow grow_dr grow_drew dr_dr dr_drew drew_dr dr_alloc dr_setCell dr_cell dr_frozen dr_tape dr_drawn
attribute [local go_sem] Oper.semAt_some

def shortP (x y : Int) : Prim := if h : prim (shortOf x y) = true then ⟨shortOf x y, h⟩ else default
theorem shortP_val {x y : Int} (h : dirOk x y = true) : (shortP x y).1 = shortOf x y := by
  unfold shortP
  rw [dif_pos (short_prim h)]
/-- All turns of a light, shortest, sorted, each once. -/
def allP (ss : List Sec) : List Prim := compP (sortP ((turnsOf ss).map fun v => shortP v.1 v.2))
def shP (ss : List Sec) (v : Prim) : Int × Int := showAt ss v.1.1 v.1.2
def keptOf (g : Prim → Int × Int) : Int × Int → List Prim → List Prim
  | _, [] => []
  | last, v :: vs => if g v = last then keptOf g (g v) vs else v :: keptOf g (g v) vs
def lastOf (g : Prim → Int × Int) : Int × Int → List Prim → Int × Int
  | last, [] => last
  | _, v :: vs => lastOf g (g v) vs
theorem keptOf_snoc (g : Prim → Int × Int) (v : Prim) : ∀ (l : List Prim) (last : Int × Int), keptOf g last (l ++ [v]) = keptOf g last l ++ (if g v = lastOf g last l then [] else [v])
  | [], last => by by_cases h : g v = last <;> simp [keptOf, lastOf, h]
  | u :: l, last => by
    have ih := keptOf_snoc g v l (g u)
    by_cases h1 : g u = last
    · subst h1
      by_cases h2 : g v = lastOf g (g u) l <;> simp [keptOf, lastOf, ih, h2]
    · by_cases h2 : g v = lastOf g (g u) l <;> simp [keptOf, lastOf, ih, h1, h2]
theorem lastOf_snoc (g : Prim → Int × Int) (v : Prim) : ∀ (l : List Prim) (last : Int × Int), lastOf g last (l ++ [v]) = g v
  | [], last => rfl
  | u :: l, last => by
    rw [List.cons_append, lastOf, lastOf_snoc g v l]
theorem lastOf_all (g : Prim → Int × Int) (y : Prim) : ∀ (l : List Prim) (last : Int × Int), l[l.length - 1]? = some y → lastOf g last l = g y
  | [], _, h => by simp at h
  | [v], _, h => by simp at h; subst h; rfl
  | v :: u :: l, last, h => by
    rw [lastOf]
    exact lastOf_all g y (u :: l) (g v) (by simpa using h)
theorem keptOf_len (g : Prim → Int × Int) : ∀ (l : List Prim) (last : Int × Int), (keptOf g last l).length ≤ l.length
  | [], _ => Nat.le_refl _
  | v :: l, last => by
    unfold keptOf
    have := keptOf_len g l (g v)
    split <;> simp <;> omega
theorem cells_new (W : World) (cs : Array Value) (T : TypeId) (j : Nat) (u : Value) (h : cs[j]? = some u) : (W.alloc (.cells cs T (0, 0))).cell? ⟨W.heap.size, j, none⟩ = some u := (blk_cell (heap_alloc_new W _) j).trans h
theorem set2_heap {W : World} {b : Nat} {x y v u : Value} {T : TypeId} {fr : Nat × Nat} (h : W.heap[b]? = some (.cells #[x, y] T fr)) : ((W.setCell ⟨b, 0, none⟩ v).setCell ⟨b, 1, none⟩ u).heap[b]? = some (.cells #[v, u] T fr) := by
  have h1 := blk_lt h
  simp [World.setCell, Array.getElem?_modify, h]
def outOf (g : Prim → Int × Int) (ks : List Prim) (k : Nat) : List Sec :=
  (List.range k).flatMap fun i => if g ks[i]! ≠ (0, 0) then [⟨(ks[i]!).1.1, (ks[i]!).1.2, (ks[(i + 1) % ks.length]!).1.1, (ks[(i + 1) % ks.length]!).1.2, (g ks[i]!).1, (g ks[i]!).2⟩] else []
def normList (ss : List Sec) : List Sec :=
  if ss = [] then [] else
  let all := allP ss
  let last := shP ss all[all.length - 1]!
  let ks := keptOf (shP ss) last all
  if ks = [] then [⟨1, 0, 1, 0, last.1, last.2⟩] else outOf (shP ss) ks ks.length
def normalOf (ss : List Sec) : List Sec × Int := if LValid ss = true then (normList ss, 0) else ([], 1)

def NormRet (w : World) (r : List Sec × Int) (e : Ending) (w' : World) : Prop :=
  ∃ A c, e = .returned (.tuple #[.slice A r.1.length c, .int .i64 r.2]) ∧ Grew w w' ∧ r.1.length ≤ c ∧ Rd w' w'.heap.size 6 A (r.1.map Sec.cells)

set_option maxHeartbeats 800000 in
theorem Normal_no (ss : List Sec) (A : Option Addr) (c : Nat) (w : World) (hr : Rd w w.heap.size 6 A (ss.map Sec.cells)) (hl : ss.length ≤ c) (hc : ss.length ≤ 100000000000000) (h : LValid ss = false) :
    Calls Try.prog 22 #[.slice A ss.length c] w (NormRet w ([], 1)) := by
  have hm := hmix
  go_enter Try.func22, Try.ntmps22
  go_wp2_with (go_at_call 12; refine (Valid_any ss A c _ (hr.up (by repeat (with_reducible first | exact Grew.refl _ | assumption | refine Grew.alloc ?_ _ | refine Grew.grow ?_ _ | refine Grew.dr ?_ _ | refine Grew.drewN ?_ _ | refine Grew.drew ?_ | refine Grew.trans ?_ (Hid.out (by assumption))))) hl hc).mono ?_; rintro e w' ⟨rfl, ⟨_, _⟩, rfl⟩; dsimp only; rw [h])
  go_ret2
  exact ⟨none, 0, rfl, (by repeat (with_reducible first | exact Grew.refl _ | assumption | refine Grew.alloc ?_ _ | refine Grew.grow ?_ _ | refine Grew.dr ?_ _ | refine Grew.drewN ?_ _ | refine Grew.drew ?_ | refine Grew.trans ?_ (Hid.out (by assumption)))), Nat.le_refl _, .inl rfl⟩
theorem LValid_nil : LValid [] = true := by decide
set_option maxHeartbeats 800000 in
theorem Normal_nil (A : Option Addr) (c : Nat) (w : World) :
    Calls Try.prog 22 #[.slice A 0 c] w (NormRet w ([], 0)) := by
  have hm := hmix
  go_enter Try.func22, Try.ntmps22
  go_wp2_with (go_at_call 12; refine (Valid_any [] A c _ (Rd.nil _ _ _ _) (Nat.zero_le _) (Nat.zero_le _)).mono ?_; rintro e w' ⟨rfl, ⟨_, _⟩, rfl⟩; dsimp only; rw [LValid_nil])
  go_ret2
  exact ⟨none, 0, rfl, (by repeat (with_reducible first | exact Grew.refl _ | assumption | refine Grew.alloc ?_ _ | refine Grew.grow ?_ _ | refine Grew.dr ?_ _ | refine Grew.drewN ?_ _ | refine Grew.drew ?_ | refine Grew.trans ?_ (Hid.out (by assumption)))), Nat.le_refl _, .inl rfl⟩

theorem wayInfo : (Try.prog.info? 55).map (fun i => (i.zero, i.size, i.bytes)) = some (some (.agg #[.int .i64 0, .int .i64 0]), 2, 16) := by kernel_rfl

theorem own_holds {W : World} {base g cap : Nat} {L : List Prim} (h : W.ownsRow base 55 2 (.slice (some ⟨g, 0, none⟩) L.length cap) L.length (L.flatMap encP)) : HoldsK encP 2 W g 0 L.toArray := by
  intro t ht
  have ht' : t < L.length * 2 := by simpa using ht
  rw [get_flatK _ _ _ _ (by simpa using ht'), Nat.zero_add]
  refine ⟨?_, h.frozenAt t⟩
  rw [h.cellAt t ht']
  have hk : t / 2 < L.length := by omega
  have := (flatMap_get encP 2 (fun _ => rfl) L (t / 2) (t % 2) (encP L[t / 2])[t % 2]! (by omega)).2 ⟨L[t / 2], List.getElem?_eq_getElem hk, by
    have : t % 2 < (encP L[t / 2]).length := by show t % 2 < 2; omega
    simp [this]⟩
  rw [show t / 2 * 2 + t % 2 = t by omega] at this
  rw [this, get_bang hk]
  rfl
def CellsP (W : World) (g : Nat) (l : List Prim) : Prop := ∀ k y, l[k]? = some y → W.cell? ⟨g, k * 2, none⟩ = some (.int .i64 y.1.1) ∧ W.cell? ⟨g, k * 2 + 1, none⟩ = some (.int .i64 y.1.2)
theorem CellsP.of_rd {W : World} {B g : Nat} {l : List Prim} (h : Rd W B 2 (some ⟨g, 0, none⟩) (l.map encP)) : CellsP W g l := fun k y hy => by
  obtain ⟨b, off, hA, _, hc⟩ := h.at_ (k := k) (x := encP y) (by simp [hy])
  injection hA with hA
  injection hA with h1 h2
  subst h1 h2
  have e0 := hc 0 _ rfl
  have e1 := hc 1 _ rfl
  simp only [Nat.zero_add, Nat.add_zero] at e0 e1
  exact ⟨e0, e1⟩
theorem CellsP.to {W W' : World} {g : Nat} {l : List Prim} (h : CellsP W g l) (hb : W'.heap[g]? = W.heap[g]?) : CellsP W' g l := fun k y hy => by
  rw [World.cell?_of_block (a := ⟨g, k * 2, none⟩) hb, World.cell?_of_block (a := ⟨g, k * 2 + 1, none⟩) hb]
  exact h k y hy
theorem comp_len (l : List Prim) : (compP l).length ≤ l.length := by
  unfold compP compactUpTo
  rw [List.length_map]
  have := List.length_filter_le (keeps l.toArray) (List.range l.length)
  simpa using this
theorem comp_pos {l : List Prim} (h : 0 < l.length) : 0 < (compP l).length := by
  unfold compP compactUpTo
  rw [List.length_map]
  refine List.length_pos_of_mem (a := 0) (List.mem_filter.2 ⟨List.mem_range.2 h, keeps_lt_one _ 0 (by omega)⟩)
theorem gb_own {Wc X w3 : World} {row : Option Nat} {e : TypeId} {size : Nat} {v : Value} {n : Nat} {xs : List Value} (h : Wc.grownBy X row) (hown : X.ownsRow Wc.heap.size e size v n xs) (hg : X.grownBy w3 v.ownBlock) : Wc.grownBy w3 row :=
  ⟨by rw [hg.os, h.os], by rw [hg.tape, h.tape], by rw [hg.output, h.output], Nat.le_trans h.size hg.size, fun k hk hne => (hg.block k (Nat.lt_of_lt_of_le hk h.size) (fun e => by have := (hown.lt k e.symm).1; omega)).trans (h.block k hk hne)⟩
theorem normList_eq {ss : List Sec} {al ks : List Prim} {y : Prim} (h : ss ≠ []) (hal : allP ss = al) (hy : al[al.length - 1]? = some y) (hks : keptOf (shP ss) (shP ss y) al = ks) :
    normList ss = if ks = [] then [⟨1, 0, 1, 0, (shP ss y).1, (shP ss y).2⟩] else outOf (shP ss) ks ks.length := by
  have e : al[al.length - 1]! = y := by rw [getElem!_def, hy]
  unfold normList
  rw [if_neg h]
  simp only [hal, e, hks]
theorem own_cells {W : World} {base g cap n : Nat} {L : List Prim} (h : W.ownsRow base 55 2 (.slice (some ⟨g, 0, none⟩) n cap) n (L.flatMap encP)) (hn : n = L.length) : CellsP W g L := fun k y hy => by
  subst hn
  have hk := (List.getElem?_eq_some_iff.1 hy).1
  constructor
  · rw [h.cellAt (k * 2) (by omega)]
    exact (flatMap_get encP 2 (fun _ => rfl) L k 0 _ (by omega)).2 ⟨y, hy, rfl⟩
  · rw [h.cellAt (k * 2 + 1) (by omega)]
    exact (flatMap_get encP 2 (fun _ => rfl) L k 1 _ (by omega)).2 ⟨y, hy, rfl⟩
def outAt (g : Prim → Int × Int) (ks : List Prim) (i : Nat) : List Sec := if g ks[i]! ≠ (0, 0) then [⟨(ks[i]!).1.1, (ks[i]!).1.2, (ks[(i + 1) % ks.length]!).1.1, (ks[(i + 1) % ks.length]!).1.2, (g ks[i]!).1, (g ks[i]!).2⟩] else []
theorem outOf_succ (g : Prim → Int × Int) (ks : List Prim) (k : Nat) : outOf g ks (k + 1) = outOf g ks k ++ outAt g ks k := by
  unfold outOf outAt
  rw [List.range_succ, List.flatMap_append, List.flatMap_singleton]
theorem outOf_len (g : Prim → Int × Int) (ks : List Prim) : ∀ k, (outOf g ks k).length ≤ k
  | 0 => by simp [outOf]
  | k + 1 => by
    rw [outOf_succ, List.length_append]
    have := outOf_len g ks k
    unfold outAt
    split <;> simp <;> omega
/-- A mark at which the walk stands still. -/
def AppG (p : Prop) : Prop := p
theorem AppG.stop {p : Prop} (h : AppG p) : p := h
theorem AppG.go {p : Prop} (h : p) : AppG p := h
theorem own_other {X w3 : World} {base : Nat} {e : TypeId} {size : Nat} {v : Value} {n : Nat} {xs : List Value} {b : Nat} {cs : Array Value} {T : TypeId} {fr : Nat × Nat} (hown : X.ownsRow base e size v n xs) (hg : X.grownBy w3 v.ownBlock) (hT : T ≠ e) (hb : X.heap[b]? = some (.cells cs T fr)) : w3.heap[b]? = some (.cells cs T fr) := by
  rw [hg.block b (blk_lt hb) ?_]
  · exact hb
  · intro e2
    rcases hown.2 with ⟨rfl, _⟩ | ⟨g, cap, cur, rfl, _, hgb, _⟩
    · simp [Value.ownBlock] at e2
    · obtain rfl : b = g := by simpa [Value.ownBlock] using e2
      rw [hb] at hgb
      injection hgb with hgb
      injection hgb with _ h
      exact hT h
/-- Behind 'out = append(out, ..)': the box, the row, and what lay. -/
theorem boxed_appended {W w1 : World} {n₀ B : Nat} {t e : TypeId} {size : Nat} {v v' : Value} {k m : Nat} {xs ys : List Value}
    (hv : Boxed W B t v) (hte : t ≠ e) (hrow : W.ownsRow n₀ e size v k xs) (hB : n₀ ≤ B) (hown' : w1.ownsRow n₀ e size v' m ys) (hgrow : W.grownBy w1 v.ownBlock) :
    Boxed w1 B t v ∧ Boxed (w1.setCell ⟨B, 0, none⟩ v') B t v' ∧ (w1.setCell ⟨B, 0, none⟩ v').ownsRow n₀ e size v' m ys ∧ KeepsOthers W (w1.setCell ⟨B, 0, none⟩ v') ∧ Below n₀ W (w1.setCell ⟨B, 0, none⟩ v') ∧
    ∀ b cs T fr, b ≠ B → T ≠ e → W.heap[b]? = some (.cells cs T fr) → (w1.setCell ⟨B, 0, none⟩ v').heap[b]? = some (.cells cs T fr) := by
  have hv1 : Boxed w1 B t v := hv.kept hgrow (hv.not_row hte hrow)
  have hcell : ∀ j o, v.ownBlock = some j → W.heap[j]? = some o → ∃ cs, o = .cells cs e (0, 0) := by
    intro j o ej hj
    rcases hrow.2 with ⟨rfl, _⟩ | ⟨g, cap, cur, rfl, _, hgb, _⟩
    · simp [Value.ownBlock] at ej
    · obtain rfl : g = j := by simpa [Value.ownBlock] using ej
      rw [hgb] at hj
      injection hj with hj
      exact ⟨cur, hj.symm⟩
  refine ⟨hv1, hv1.set v', hown'.kept (grownBy_setCell' w1 B v') (.inr (hv1.not_row hte hown').symm), ?_, ?_, ?_⟩
  · refine (KeepsOthers.of_grownBy hgrow fun j o ej hj => ?_).trans (KeepsOthers.setCell _ _ _)
    obtain ⟨cs, rfl⟩ := hcell j o ej hj
    rfl
  · refine ((Below.refl n₀ W).grown hgrow (Nat.le_trans hB (Nat.le_of_lt hv.lt)) fun j ej => ?_).setCell (p := ⟨B, 0, none⟩) hB v'
    exact (hrow.lt j ej).1
  · intro b cs T fr hbB hT hb
    rw [Below.heap_setCell w1 ⟨B, 0, none⟩ v' b hbB, hgrow.block b (blk_lt hb) ?_]
    · exact hb
    · intro e2
      obtain ⟨cs', h⟩ := hcell b _ e2.symm hb
      injection h with _ h
      exact hT h

set_option maxRecDepth 100000 in
set_option maxHeartbeats 4000000 in
theorem Normal_yes (ss : List Sec) (A : Option Addr) (c : Nat) (w : World) (hr : Rd w w.heap.size 6 A (ss.map Sec.cells)) (hl : ss.length ≤ c) (h1 : LValid ss = true) (h0 : 0 < ss.length) :
    Calls Try.prog 22 #[.slice A ss.length c] w (NormRet w (normList ss, 0)) := by
  have hm := hmix
  have HR := hide hr
  clear hr
  obtain ⟨hok, hl1⟩ := LV_ok h1
  have HO := hide hok
  clear hok
  refine (callsIn_wide (n := 9)).1 ?_
  refine callsIn_of_wp_marks Try.func22 rfl trivial ?_ rfl
  simp only [Try.ntmps22, List.size_toArray, List.length_cons, List.length_nil, Nat.reduceAdd, Nat.reduceSub, Array.replicate_succ, Array.replicate_zero, List.push_toArray, List.append_toArray, List.nil_append, List.cons_append]
  gi_wp2_with fail
  refine ⟨trivial, ?_⟩
  refine (callsIn_wide.2 (Valid_any ss A c _ (HR.out.up (by repeat (with_reducible first | exact Grew.refl _ | assumption | refine Grew.alloc ?_ _ | refine Grew.grow ?_ _ | refine Grew.dr ?_ _ | refine Grew.drewN ?_ _ | refine Grew.drew ?_ | refine Grew.trans ?_ (Hid.out (by assumption))))) hl (by omega))).mono ?_
  rintro e W1 ⟨rfl, hw1⟩
  rw [h1]
  have HW1 := hide hw1
  clear hw1
  dsimp only
  have hlz : ¬ ss.length = 0 := by omega
  gi_wp2_with fail
  refine ⟨trivial, ?_⟩
  refine (callsIn_wide.2 (turns_any _ _ _ _)).mono ?_
  rintro e w' ⟨rfl, rfl⟩
  dsimp only
  gi_wp2_with fail
  obtain ⟨i0, hi0, hz0, hz1, hz2⟩ := info_parts wayInfo
  refine wpIn_name ?_
  intro a0 W0 ha hW
  have hg0 : Grew W1 W0 := by rw [← hW]; exact (by repeat (with_reducible first | exact Grew.refl _ | assumption | refine Grew.alloc ?_ _ | refine Grew.grow ?_ _ | refine Grew.dr ?_ _ | refine Grew.drewN ?_ _ | refine Grew.drew ?_ | refine Grew.trans ?_ (Hid.out (by assumption))))
  have hg1 : Grew w W0 := HW1.out.trans hg0
  have hz : W0.heap.size = W1.heap.size + 3 := by rw [← hW]; simp
  have hkA : Boxed W0 W1.heap.size 66 (.slice none 0 0) := by
    rw [← hW]
    exact (heap_alloc_old _ _ (by simp; omega)).trans ((heap_alloc_old _ _ (by simp)).trans (heap_alloc_new _ _))
  have hk0 : W0.heap[W1.heap.size + 1]? = some (.cells #[.slice A ss.length c] 22 (0, 0)) := by
    rw [← hW]
    have := heap_alloc_new (W1.alloc (.cells #[.slice none 0 0] 66)) (.cells #[.slice A ss.length c] 22 (0, 0))
    rw [World.size_alloc'] at this
    exact (heap_alloc_old _ _ (by simp)).trans this
  have hk1 : W0.heap[W1.heap.size + 2]? = some (.cells #[.slice (some ⟨W1.heap.size + 1, 0, none⟩) 1 1] 76 (0, 0)) := by
    have := heap_alloc_new ((W1.alloc (.cells #[.slice none 0 0] 66)).alloc (.cells #[.slice A ss.length c] 22 (0, 0))) (.cells #[.slice (some ⟨W1.heap.size + 1, 0, none⟩) 1 1] 76 (0, 0))
    rw [World.size_alloc', World.size_alloc'] at this
    rw [← hW]
    exact this
  clear hW
  have hLL : ([⟨A, c, ss⟩] : List SL).flatMap SL.ss = ss := by simp
  have hw1z : w.heap.size ≤ W1.heap.size := HW1.out.below.size
  refine wpIn_rangeFunc_ownH (n := 9) rfl (by omega) (gf := 52) (lb := #[.pointer (some ⟨W1.heap.size + 2, 0, none⟩)]) (by rw [← ha]; simp [Act.eval]) trivial (enters_of Try.func52 (by kernel_rfl) rfl)
    (turns1_stops 8 (fun b T => b = W1.heap.size ∨ T = 55) [⟨A, c, ss⟩] (some ⟨W1.heap.size + 1, 0, none⟩) 1 (W1.heap.size + 2) W0 (fun b T hb => hb.elim (fun h => .inl (by omega)) (fun h => .inr (by rw [h]; decide))) hk1
      (.inr ⟨_, _, rfl, by omega, fun k x hx j v hv => by
        rw [blk_cell hk0]
        match k, hx with
        | 0, hx => injection hx with hx; subst hx; match j, hv with | 0, hv => exact hv⟩)
      (by intro x hx; simp at hx; subst hx; exact HR.out.up hg1) (by simp) (by intro x hx; simp at hx; subst hx; simp; omega) (by rw [hLL]; exact HO.out))
    (fun h k => h.trans k) KpM.bk (Below.refl _ _) (fun _ => rfl)
    (fun pre W => Below W1.heap.size W1 W ∧ ∃ v, Boxed W W1.heap.size 66 v ∧ W.ownsRow W1.heap.size 55 2 v pre.length ((pre.map fun v => shortP v.1.1 v.1.2).flatMap encP) ∧ True)
    (fun _ _ _ => False)
    (OwnFrom.and (ownFrom_below (Nat.le_refl _) (by omega)) (Own.from (holdsRow_own _ _ _ _ _ List.length (fun pre => (pre.map fun v : Dir => shortP v.1.1 v.1.2).flatMap encP) (fun _ _ => True)) _))
    (fun _ _ _ _ _ h _ _ => h)
    ⟨hg0.below, _, hkA, World.ownsRow_nil _ _ _ _, trivial⟩
    (fun x a' W => ∃ B, W1.heap.size < B ∧ W.heap[B]? = some (.cells #[.int .i64 x.1.1, .int .i64 x.1.2] 55 (0, 0)) ∧ a' = { tmps := (a0.tmps.setIfInBounds 25 (pt x.1.1 x.1.2)).setIfInBounds 5 (.pointer (some ⟨B, 0, none⟩)), defers := [] })
    (fun x a' => by
      rintro s X Y row ⟨B, h0, h1, h2⟩ hg hr
      exact ⟨B, h0, cells_own h1 hg (fun r e => (hr r e).2), h2⟩)
    ?assign ?body ?done ?stop
  case assign =>
    rintro l pre x W K ⟨hB, v, hb, hown, _⟩ hK
    rw [show x.enc = #[pt x.1.1 x.1.2] from rfl, asg1]
    subst ha
    simp only [List.setIfInBounds_toArray, List.set_cons_succ, List.set_cons_zero] at hK ⊢
    have hKK := hide hK
    clear hK
    gi_wp2_with fail
    exact hKK.out _ _ ((KeepsOthers.alloc _ _).from _) (KpM.grew (Grew.alloc (Grew.refl _) _)) ⟨hB.alloc hB.size _, v, hb.alloc _, hown.alloc _, trivial⟩ ⟨W.heap.size, hb.lt, heap_alloc_new _ _, rfl⟩
  case body =>
    rintro l pre x a' W hl _ ⟨hB, v, hbox, hown, _⟩ ⟨B, hBB, hx, rfl⟩ hlt
    subst ha
    have c0 : W.cell? ⟨W1.heap.size, 0, none⟩ = _ := hbox.cell
    have c3 : W.cell? ⟨B, 0, none⟩ = some _ := blk_cell hx 0
    have c4 : W.cell? ⟨B, 1, none⟩ = some _ := blk_cell hx 1
    have hBl := blk_lt hx
    have hAl := hbox.lt
    have HB := hide hB
    have HX := hide hbox
    have HN := hide hown
    clear hB hbox hown hx
    obtain ⟨⟨vx, vy⟩, hv⟩ := x
    dsimp only at c3 c4
    simp only [List.setIfInBounds_toArray, List.set_cons_succ, List.set_cons_zero]
    gi_wp2_with fail
    refine wpIn_region_qas 4 [] [⟨3, 29, 1, 55, fun a => (a.eval (Operand.tmp 28)).cells⟩] hm (by kernel_rfl) (by kernel_rfl) (by simp only [List.take, List.filter, isQ]; rfl) (by simp only [List.drop]; rfl) ZOk.nil (by simp) ?_
    repeat (refine wpSteady_step (fun K hK => ?_); go_simp; first | (refine hK _ ?_; clear hK K) | (apply Exists.intro; refine ⟨fun _ => ?_, hK _ ?_⟩; (go_at_call 41; exact short_any vx vy _ hv); clear hK K))
    refine wpSteady_nil ?_
    refine ⟨StOk.nil, (LyOk.cons (by rfl) (fun W => by first | (go_simp; done) | rfl) LyOk.nil), ?_⟩
    rintro psq qsq Wq HWq HFq HBq
    obtain ⟨b0, _, rfl, hq0, gb0, rfl⟩ := HBq
    simp [Act.eval, Value.cells] at gb0
    have gbl0 := blk_lt gb0
    obtain rfl : psq = [] := HFq
    simp only [putAll, putB, Act.put, List.setIfInBounds_toArray, List.set_cons_succ, List.set_cons_zero]
    have oc := old_cell HWq
    have of := old_frozen HWq
    have ol := old_lt HWq
    replace HWq := hide HWq
    have hb1 : Boxed Wq W1.heap.size 66 v := HX.out.kept (HWq.out.grownBy none) (by simp)
    have hn1 := own_grew HN.out HWq.out
    have HB1 := hide hb1
    have HN1 := hide hn1
    refine wpListIn_append_own Wq rfl (.tmp 26) (.tmp 29) 66 rfl W1.heap.size 55 i0 _ 2 16 Try.underlying66 hi0 hz0 hz1 hz2 (by rfl) (by omega) v pre.length _ (by rfl) hn1 ⟨b0, 0, none⟩ 1 1 (encP (shortP vx vy)) (by rfl) (by rfl)
      (fun j u hu => by
        rw [add_at, Nat.zero_add, blk_cell gb0]
        rw [show encP (shortP vx vy) = [.int .i64 (shortOf vx vy).1, .int .i64 (shortOf vx vy).2] by unfold encP; rw [shortP_val hv]] at hu
        match j, hu with
        | 0, hu => exact hu
        | 1, hu => exact hu)
      (fun u hu => by simp [encP] at hu; rcases hu with rfl | rfl <;> rfl) (by unfold maxLen; simp at hlt; omega) (by simp at hlt; omega) (by have := HWq.out.below.size; omega) ?_
    intro v' w' hown' hgrow _
    obtain ⟨gv, capv, rfl⟩ := ownsRow_succ hown'
    obtain ⟨q1, q2, q3, q4, q5, q6⟩ := boxed_appended HB1.out (by decide) HN1.out (Nat.le_refl _) hown' hgrow
    have d0 := q1.cell
    have d1 := q1.frozen
    have Q2 := hide q2
    have Q3 := hide q3
    have Q4 := hide q4
    have Q5 := hide q5
    have Q6 := hide q6
    clear q1 q2 q3 q4 q5 q6 hown' hgrow hb1 hn1
    gi_wp2_with fail
    refine ⟨(HWq.out.keepsFrom _).trans (Q4.out.from _), (KpM.grew HWq.out).trans (fun b cs T fr hM hb => Q6.out b cs T fr (fun h => hM (.inl h)) (fun h => hM (.inr h)) hb), HB.out.trans ((HWq.out.below.mono (by omega)).trans Q5.out), _, Q2.out, ?_, trivial⟩
    rw [List.map_append, List.flatMap_append, List.length_append]
    simpa using Q3.out
  case done =>
    subst ha
    rintro D xs W hD hS ⟨hB, v, hbox, hown, _⟩ hK
    rw [hLL] at hS
    have hmap : (xs.map fun v : Dir => shortP v.1.1 v.1.2) = (turnsOf ss).map fun v => shortP v.1 v.2 := by
      rw [← hS, List.map_map]
      rfl
    have hlen : xs.length = 2 * ss.length := by
      have := congrArg List.length hS
      rwa [List.length_map, turns_len] at this
    rw [hmap] at hown
    have hL : ((turnsOf ss).map fun v => shortP v.1 v.2).length = 2 * ss.length := by rw [List.length_map, turns_len]
    obtain ⟨L, hLe⟩ : ∃ L, ((turnsOf ss).map fun v => shortP v.1 v.2) = L := ⟨_, rfl⟩
    rw [hlen, ← hL] at hown
    rw [hLe] at hL hown
    have hall : allP ss = compP (sortP L) := by unfold allP; rw [hLe]
    obtain ⟨n, hn⟩ : ∃ n, L.length = n + 1 := ⟨L.length - 1, by omega⟩
    obtain ⟨g, cap, rfl⟩ : ∃ g cap, v = .slice (some ⟨g, 0, none⟩) L.length cap := by
      rw [hn] at hown ⊢
      exact ownsRow_succ hown
    have hcap : L.length ≤ cap ∧ g ≠ W1.heap.size := by
      refine ⟨?_, fun e => (hbox.not_row (by decide) hown) (by simp [Value.ownBlock, e])⟩
      rcases hown.2 with ⟨h, _⟩ | ⟨g', cap', cur, h, _, _, h5, _⟩
      · cases h
      · injection h with _ _ h
        omega
    have hgl := (hown.lt g rfl).2
    have hgb := (hown.lt g rfl).1
    have hH := own_holds hown
    have c0 := hbox.cell
    have HH := hide hH
    have HX := hide hbox
    have HB := hide hB
    have HK := hide hK
    have HALL := hide hall
    have HL := hide hL
    clear hH hbox hB hown hmap hLe hS hall hK hL hn
    gi_wp2_with fail
    refine ⟨trivial, ?_⟩
    refine (callsIn_wide.2 (sort_any g 0 cap L W HH.out hgl (by have := HL.out; omega))).mono ?_
    rintro e W2 ⟨rfl, hg2, hH2⟩
    have hx2 : Boxed W2 W1.heap.size 66 _ := HX.out.kept hg2 (by simp; omega)
    have HX2 := hide hx2
    have HG2 := hide hg2
    have c0 := hx2.cell
    have hgl2 : g < W2.heap.size := Nat.lt_of_lt_of_le hgl hg2.size
    have hSl : (sortP L).length = L.length := by unfold sortP; rw [List.length_mergeSort]
    have hrow2 : RowP W2 g 0 (sortP L).toArray := RowP.of hH2
    have HR2 := hide hrow2
    have hcap2 : (sortP L).length ≤ cap := by omega
    rw [← hSl] at c0
    have HSL := hide hSl
    clear hx2 hg2 hH2 hrow2 hSl
    dsimp only
    gi_wp2_with fail
    refine ⟨trivial, ?_⟩
    refine (callsIn_wide.2 (compact_any (sortP L) g 0 cap W2 HR2.out hgl2 hcap2 (by have := HSL.out; have := HL.out; omega))).mono ?_
    rintro e W3 ⟨rfl, hg3, hrd3⟩
    rw [← HALL.out] at hrd3 ⊢
    have hx3 : Boxed W3 W1.heap.size 66 _ := HX2.out.kept hg3 (by simp; omega)
    have c3 := hx3.cell
    have f3 := hx3.frozen
    have hgw : g < W3.heap.size := Nat.lt_of_lt_of_le hgl2 hg3.size
    have hcp := CellsP.of_rd hrd3
    have hpos : 0 < (allP ss).length := by
      rw [HALL.out]
      exact comp_pos (by have := HSL.out; have := HL.out; omega)
    have hB3 : Below W1.heap.size W1 W3 := ((HB.out.grown HG2.out (by have := HB.out.size; omega) (fun j e => by cases e; exact hgb)).grown hg3 (by have := HB.out.size; have := HG2.out.size; omega) (fun j e => by cases e; exact hgb))
    have hK3 : W3.heap[D]? = some (.deferred (some [])) := by
      have hDg : some D ≠ some g := by
        intro e
        injection e with e
        have h1 := HH.out 0 (by simp; have := HL.out; omega)
        have h2 := HK.out
        rw [e] at h2
        have h3 := h1.1
        rw [World.cell?, h2] at h3
        simp at h3
      have h1 := HG2.out.block D (blk_lt HK.out) hDg
      have h2 := hg3.block D (by rw [← Nat.not_le]; intro h; have := blk_lt (h1.trans HK.out); omega) hDg
      rw [h2, h1]
      exact HK.out
    have hle : (allP ss).length ≤ 24 := by
      rw [HALL.out]
      have := comp_len (sortP L)
      have := HSL.out
      have := HL.out
      omega
    obtain ⟨al, hal⟩ : ∃ al, allP ss = al := ⟨_, rfl⟩
    rw [hal] at hcp hpos hle ⊢
    have HAL := hide hal
    obtain ⟨W4, hW4⟩ : ∃ W4, W3.setCell ⟨W1.heap.size, 0, none⟩ (.slice (some ⟨g, 0, none⟩) al.length cap) = W4 := ⟨_, rfl⟩
    have hx4 : Boxed W4 W1.heap.size 66 (.slice (some ⟨g, 0, none⟩) al.length cap) := by rw [← hW4]; exact hx3.set _
    have hg4 : W4.heap[g]? = W3.heap[g]? := by rw [← hW4]; exact Below.heap_setCell W3 _ _ g hcap.2
    have hK4 : W4.heap[D]? = some (.deferred (some [])) := by rw [← hW4]; exact (KeepsOthers.setCell _ _ _).same D _ hK3 rfl
    have hB4 : Below W1.heap.size W1 W4 := by rw [← hW4]; exact hB3.setCell (p := ⟨W1.heap.size, 0, none⟩) (Nat.le_refl _) _
    have hcp4 := hcp.to hg4
    have hw4 : Grew w W4 := Grew.of_below (HW1.out.below.trans (hB4.mono hw1z))
    have hgw4 : g < W4.heap.size := by rw [← hW4]; simpa using hgw
    obtain ⟨y, hy⟩ : ∃ y, al[al.length - 1]? = some y := ⟨_, List.getElem?_eq_getElem (by omega)⟩
    obtain ⟨y0, y1⟩ := hcp _ _ hy
    obtain ⟨z0, z1⟩ := hcp4 _ _ hy
    rw [← hW4] at z0 z1
    have HY := hide hy
    clear hy
    have hix := idx_run (cap := cap) (k := al.length - 1) (len := al.length) Try.underlying66 Try.sizeOf55 (A := some ⟨g, 0, none⟩) rfl (by omega)
    simp only [Nat.zero_add] at hix
    rw [show ((al.length - 1 : Nat) : Int) = (al.length : Int) - 1 by omega] at hix
    have hyb := dir_bd (prim_dir y)
    have HX4 := hide hx4
    have HK4 := hide hK4
    have HB4 := hide hB4
    have HC4 := hide hcp4
    have HW4 := hide hw4
    have HE4 := hide hW4
    clear hx3 hg4 hK3 hB3 hcp hrd3 hal hg3 hx4 hK4 hB4 hcp4 hw4 hW4 HK HH HB HX HX2 HG2 HR2 hgl hgl2
    dsimp only
    gi_wp2_with fail
    rw [HE4.out]
    refine ⟨trivial, ?_⟩
    refine (callsIn_wide.2 (shown_any ss A c _ _ W4 (HR.out.up HW4.out) hl (by omega) HO.out hyb.1 hyb.2)).mono ?_
    rintro e W5 ⟨rfl, hg5⟩
    have hx5 : Boxed W5 W1.heap.size 66 _ := HX4.out.kept (hg5.grownBy none) (by simp)
    have c5 := hx5.cell
    have hgs5 := hg5.below.size
    have hcp5 := HC4.out.to (hg5.heap hgw4)
    have hgw5 : g < W5.heap.size := by omega
    have hK5 := (hg5.heap (blk_lt HK4.out)).trans HK4.out
    have hw5 : Grew w W5 := HW4.out.trans hg5
    have hB5 : Below W1.heap.size W1 W5 := HB4.out.trans (hg5.below.mono HB4.out.size)
    have HC5 := hide hcp5
    have HK5 := hide hK5
    have HW5 := hide hw5
    have HB5 := hide hB5
    have h15 := hx5.lt
    clear hcp5 hK5 hw5 hB5 hx5 hg5 y0 y1 z0 z1 hix HX4 HC4 HK4 HB4 HW4 HE4 hyb hgw4 hgs5 hgw
    dsimp only
    gi_wp2_with fail
    refine wpIn_name ?_
    intro a0 Wc ha hWc
    rw [show ((ss.length : Int) == 0) = false by rw [beq_eq_false_iff_ne]; omega] at ha
    simp only [World.size_alloc'] at ha
    subst ha
    have hxL : Wc.heap[W5.heap.size]? = some (.cells #[.int .i64 (shP ss y).1, .int .i64 (shP ss y).2] 58 (0, 0)) := by rw [← hWc]; exact heap_alloc_new _ _
    have hzc : Wc.heap.size = W5.heap.size + 1 := by rw [← hWc]; simp
    have hgc : Grew W5 Wc := by rw [← hWc]; exact (by repeat (with_reducible first | exact Grew.refl _ | assumption | refine Grew.alloc ?_ _ | refine Grew.grow ?_ _ | refine Grew.dr ?_ _ | refine Grew.drewN ?_ _ | refine Grew.drew ?_ | refine Grew.trans ?_ (Hid.out (by assumption))))
    have hcpc := HC5.out.to (hgc.heap hgw5)
    have hKc := (hgc.heap (blk_lt HK5.out)).trans HK5.out
    have hKl := blk_lt HK5.out
    have hBc : Below W1.heap.size W1 Wc := HB5.out.trans (hgc.below.mono HB5.out.size)
    have hwc : Below w.heap.size w Wc := (HW5.out.trans hgc).below
    have HWC := hide hwc
    have HCC := hide hcpc
    have HKC := hide hKc
    have HBC := hide hBc
    have HXL := hide hxL
    clear hWc hcpc hKc hBc hgc hwc HK5 HB5 HC5 c5 hxL
    gi_loopw [6, 45] (fun v i wr => ∃ k : Nat, k ≤ al.length ∧ i = .int .i64 k ∧ Wc.grownBy wr (some W5.heap.size) ∧ wr.heap[W5.heap.size]? = some (.cells #[.int .i64 (lastOf (shP ss) (shP ss y) (al.take k)).1, .int .i64 (lastOf (shP ss) (shP ss y) (al.take k)).2] 58 (0, 0)) ∧
      wr.ownsRow Wc.heap.size 55 2 v (keptOf (shP ss) (shP ss y) (al.take k)).length ((keptOf (shP ss) (shP ss y) (al.take k)).flatMap encP)) (fun _ i _ => al.length - (intOf i).toNat)
    case atStart => exact ⟨0, Nat.zero_le _, rfl, (Grew.refl Wc).grownBy _, HXL.out, World.ownsRow_nil _ _ _ _⟩
    case round =>
      obtain ⟨k, hk, rfl, hgr, hlb, hown⟩ := hrel
      have hcr := HCC.out.to (hgr.block g (by omega) (by simp; omega))
      have hwr : Grew w wr := Grew.of_below (HWC.out.grown hgr (by omega) (fun j e => by cases e; have := HW5.out.below.size; omega))
      have hwW5 := HW5.out.below.size
      by_cases hlt : k < al.length
      · obtain ⟨u, hu⟩ : ∃ u, al[k]? = some u := ⟨_, List.getElem?_eq_getElem hlt⟩
        obtain ⟨u0, u1⟩ := hcr k u hu
        have hub := dir_bd (prim_dir u)
        have hix := idx_run (cap := cap) (k := k) (len := al.length) Try.underlying66 Try.sizeOf55 (A := some ⟨g, 0, none⟩) rfl hlt
        simp only [Nat.zero_add] at hix
        have htk : al.take (k + 1) = al.take k ++ [u] := by rw [List.take_add_one, hu]; rfl
        have hkl := keptOf_len (shP ss) (al.take k) (shP ss y)
        rw [List.length_take] at hkl
        generalize hkk : keptOf (shP ss) (shP ss y) (al.take k) = kk at *
        have HKK := hide hkk
        clear hkk
        generalize hlo : lastOf (shP ss) (shP ss y) (al.take k) = lo at *
        have b0 : wr.cell? ⟨W5.heap.size, 0, none⟩ = some _ := blk_cell hlb 0
        have b1 : wr.cell? ⟨W5.heap.size, 1, none⟩ = some _ := blk_cell hlb 1
        have bl := blk_lt hlb
        have bf := blk_frozen hlb 0
        have bf1 := blk_frozen hlb 1
        have HTK := hide htk
        have HLO := hide hlo
        have HOW := hide hown
        have HGR := hide hgr
        have HWR := hide hwr
        have HLB := hide hlb
        clear hu htk hown hgr hwr hcr hlo hlb
        gi_wp2_with fail
        refine ⟨trivial, ?_⟩
        refine (callsIn_wide.2 (shown_any ss A c _ _ _ (HR.out.up (HWR.out.trans (by repeat (with_reducible first | exact Grew.refl _ | assumption | refine Grew.alloc ?_ _ | refine Grew.grow ?_ _ | refine Grew.dr ?_ _ | refine Grew.drewN ?_ _ | refine Grew.drew ?_ | refine Grew.trans ?_ (Hid.out (by assumption)))))) hl (by omega) HO.out hub.1 hub.2)).mono ?_
        rintro e w' ⟨rfl, ⟨n5, os5⟩, rfl⟩
        rw [show showAt ss u.1.1 u.1.2 = shP ss u from rfl]
        generalize hsu : shP ss u = su at *
        have HSU := hide hsu
        clear hsu
        dsimp only
        have hl1 : lastOf (shP ss) (shP ss y) (al.take (k + 1)) = su := by rw [HTK.out, lastOf_snoc]; exact HSU.out
        have hk1 : keptOf (shP ss) (shP ss y) (al.take (k + 1)) = kk ++ (if su = lo then [] else [u]) := by rw [HTK.out, keptOf_snoc, HKK.out, HLO.out, HSU.out]
        have HL1 := hide hl1
        have HK1 := hide hk1
        clear hl1 hk1
        obtain ⟨s1, s2⟩ := su
        obtain ⟨l1, l2⟩ := lo
        dsimp only at b0 b1 HLB ⊢
        by_cases e1 : s1 = l1 ∧ s2 = l2
        · obtain ⟨rfl, rfl⟩ := e1
          gi_wp2_with fail
          go_roundw
          case rel =>
            refine ⟨k + 1, by omega, by go_num, gb_grew (gb_set (gb_set HGR.out)) (by repeat (with_reducible first | exact Grew.refl _ | assumption | refine Grew.alloc ?_ _ | refine Grew.grow ?_ _ | refine Grew.dr ?_ _ | refine Grew.drewN ?_ _ | refine Grew.drew ?_ | refine Grew.trans ?_ (Hid.out (by assumption)))) (by intro r e; cases e; omega), ?_, ?_⟩
            · rw [HL1.out]
              exact (Grew.heap (w := (wr.setCell ⟨W5.heap.size, 0, none⟩ (.int .i64 s1)).setCell ⟨W5.heap.size, 1, none⟩ (.int .i64 s2)) (by repeat (with_reducible first | exact Grew.refl _ | assumption | refine Grew.alloc ?_ _ | refine Grew.grow ?_ _ | refine Grew.dr ?_ _ | refine Grew.drewN ?_ _ | refine Grew.drew ?_ | refine Grew.trans ?_ (Hid.out (by assumption)))) (by simpa using bl)).trans (set2_heap HLB.out)
            · rw [HK1.out, if_pos rfl, List.append_nil]
              exact own_grew (w := (wr.setCell ⟨W5.heap.size, 0, none⟩ (.int .i64 s1)).setCell ⟨W5.heap.size, 1, none⟩ (.int .i64 s2)) (ownsRow_setCell_below (ownsRow_setCell_below HOW.out (by simp; omega) _) (by simp; omega) _) (by repeat (with_reducible first | exact Grew.refl _ | assumption | refine Grew.alloc ?_ _ | refine Grew.grow ?_ _ | refine Grew.dr ?_ _ | refine Grew.drewN ?_ _ | refine Grew.drew ?_ | refine Grew.trans ?_ (Hid.out (by assumption))))
          case measure => simp [intOf]; omega
        · have hso : ¬ ((s1, s2) : Int × Int) = (l1, l2) := fun e => e1 (by injection e with h1 h2; exact ⟨h1, h2⟩)
          have HSO := hide hso
          have e2 : s1 ≠ l1 ∨ (s1 = l1 ∧ s2 ≠ l2) := by
            rcases Decidable.em (s1 = l1) with h | h
            · exact .inr ⟨h, fun h' => e1 ⟨h, h'⟩⟩
            · exact .inl h
          clear hso e1
          rcases e2 with e1 | ⟨rfl, e2⟩
          all_goals
            gi_wp2_with (gi_at_builtin; refine wpListIn_append_own _ rfl (.tmp 55) (.tmp 57) 66 rfl Wc.heap.size 55 i0 _ 2 16 Try.underlying66 hi0 hz0 hz1 hz2 (by rfl) (by omega) _ kk.length _ (by rfl) (own_grew HOW.out (by repeat (with_reducible first | exact Grew.refl _ | assumption | refine Grew.alloc ?_ _ | refine Grew.grow ?_ _ | refine Grew.dr ?_ _ | refine Grew.drewN ?_ _ | refine Grew.drew ?_ | refine Grew.trans ?_ (Hid.out (by assumption))))) ⟨_, 0, none⟩ 1 1 (encP u) (by rfl) (by rfl) (by intro j x hx; rw [add_at]; simp only [Nat.zero_add]; match j, hx with | 0, hx => (injection hx with hx; subst hx; go_simp) | 1, hx => (injection hx with hx; subst hx; go_simp)) (fun x hx => by simp [encP] at hx; rcases hx with rfl | rfl <;> rfl) (by unfold maxLen; omega) (by omega) (Nat.le_trans HGR.out.size (Grew.below (by repeat (with_reducible first | exact Grew.refl _ | assumption | refine Grew.alloc ?_ _ | refine Grew.grow ?_ _ | refine Grew.dr ?_ _ | refine Grew.drewN ?_ _ | refine Grew.drew ?_ | refine Grew.trans ?_ (Hid.out (by assumption))))).size) ?_; refine AppG.stop ?_)
            refine AppG.go ?_
            intro v' w3 hown' hgrow _
            obtain ⟨gv, capv, rfl⟩ := ownsRow_succ hown'
            have k10 := own_other (b := wr.heap.size + 1 + os5.size) (T := 58) (cs := #[.int .i64 s1, .int .i64 s2]) (fr := (0, 0)) (own_grew HOW.out (by repeat (with_reducible first | exact Grew.refl _ | assumption | refine Grew.alloc ?_ _ | refine Grew.grow ?_ _ | refine Grew.dr ?_ _ | refine Grew.drewN ?_ _ | refine Grew.drew ?_ | refine Grew.trans ?_ (Hid.out (by assumption))))) hgrow (by decide) (by
              have e : (grow (dr (wr.alloc (.cells #[.int .i64 u.1.1, .int .i64 u.1.2] 55)) n5) os5).heap.size = wr.heap.size + 1 + os5.size := by simp [size_grow, hs_dr]
              rw [← e]
              exact (heap_alloc_old _ _ (by simp)).trans (heap_alloc_new _ _))
            have kL := own_other (own_grew HOW.out (by repeat (with_reducible first | exact Grew.refl _ | assumption | refine Grew.alloc ?_ _ | refine Grew.grow ?_ _ | refine Grew.dr ?_ _ | refine Grew.drewN ?_ _ | refine Grew.drew ?_ | refine Grew.trans ?_ (Hid.out (by assumption))))) hgrow (by decide) ((Grew.heap (by repeat (with_reducible first | exact Grew.refl _ | assumption | refine Grew.alloc ?_ _ | refine Grew.grow ?_ _ | refine Grew.dr ?_ _ | refine Grew.drewN ?_ _ | refine Grew.drew ?_ | refine Grew.trans ?_ (Hid.out (by assumption)))) bl).trans HLB.out)
            have t0 : w3.cell? ⟨wr.heap.size + 1 + os5.size, 0, none⟩ = some _ := blk_cell k10 0
            have t1 : w3.cell? ⟨wr.heap.size + 1 + os5.size, 1, none⟩ = some _ := blk_cell k10 1
            have l0 : w3.cell? ⟨W5.heap.size, 0, none⟩ = some _ := blk_cell kL 0
            have l1' : w3.cell? ⟨W5.heap.size, 1, none⟩ = some _ := blk_cell kL 1
            have lf0 := blk_frozen kL 0
            have lf1 := blk_frozen kL 1
            have hg3 : Wc.grownBy w3 (some W5.heap.size) := gb_own (gb_grew HGR.out (by repeat (with_reducible first | exact Grew.refl _ | assumption | refine Grew.alloc ?_ _ | refine Grew.grow ?_ _ | refine Grew.dr ?_ _ | refine Grew.drewN ?_ _ | refine Grew.drew ?_ | refine Grew.trans ?_ (Hid.out (by assumption)))) (by intro r e; cases e; omega)) (own_grew HOW.out (by repeat (with_reducible first | exact Grew.refl _ | assumption | refine Grew.alloc ?_ _ | refine Grew.grow ?_ _ | refine Grew.dr ?_ _ | refine Grew.drewN ?_ _ | refine Grew.drew ?_ | refine Grew.trans ?_ (Hid.out (by assumption))))) hgrow
            have HG3 := hide hg3
            have HO3 := hide hown'
            have HKL := hide kL
            clear hg3 hown' kL k10 hgrow b0 b1 bf bf1
            gi_wp2_with fail
            go_roundw
            case rel =>
              refine ⟨k + 1, by omega, by go_num, gb_set (gb_set HG3.out), ?_, ?_⟩
              · rw [HL1.out]
                exact set2_heap HKL.out
              · rw [HK1.out, if_neg HSO.out, List.flatMap_append, List.length_append, hzc]
                simpa using ownsRow_setCell_below (ownsRow_setCell_below HO3.out (a := ⟨W5.heap.size, 0, none⟩) (by simp) (.int .i64 s1)) (a := ⟨W5.heap.size, 1, none⟩) (by simp) (.int .i64 s2)
            case measure => simp [intOf]; omega
      · obtain rfl : k = al.length := by omega
        rw [List.take_length, lastOf_all _ y al _ HY.out] at hlb
        rw [List.take_length] at hown
        obtain ⟨A6, c6, rfl, hc6⟩ := own_slice hown
        obtain ⟨ks, hks⟩ : ∃ ks, keptOf (shP ss) (shP ss y) al = ks := ⟨_, rfl⟩
        have hkl := keptOf_len (shP ss) al (shP ss y)
        rw [hks] at hown hkl hc6 ⊢
        obtain ⟨⟨l1, l2⟩, hsy⟩ : ∃ q, shP ss y = q := ⟨_, rfl⟩
        rw [hsy] at hlb
        have b0 : wr.cell? ⟨W5.heap.size, 0, none⟩ = some _ := blk_cell hlb 0
        have b1 : wr.cell? ⟨W5.heap.size, 1, none⟩ = some _ := blk_cell hlb 1
        have bl := blk_lt hlb
        have hKr : wr.heap[D]? = some (.deferred (some [])) := (hgr.block D (by omega) (by intro e; injection e with e; omega)).trans HKC.out
        have HKR := hide hKr
        have HKS := hide hks
        have HSY := hide hsy
        have HOW := hide hown
        have HGR := hide hgr
        have HWR := hide hwr
        clear hKr hks hown hgr hwr hcr hlb hsy
        by_cases hk0 : ks.length = 0
        · have hkn := List.length_eq_zero_iff.1 hk0
          have HKN := hide hkn
          rw [hkn, List.length_nil]
          clear hkn hk0
          gi_wp2_with fail
          have hK9 := (Grew.heap (w := wr) (w' := (wr.alloc (.cells #[.int .i64 1, .int .i64 0] 24)).alloc (.cells #[.int .i64 1, .int .i64 0, .int .i64 1, .int .i64 0, .int .i64 l1, .int .i64 l2] 26)) (by repeat (with_reducible first | exact Grew.refl _ | assumption | refine Grew.alloc ?_ _ | refine Grew.grow ?_ _ | refine Grew.dr ?_ _ | refine Grew.drewN ?_ _ | refine Grew.drew ?_ | refine Grew.trans ?_ (Hid.out (by assumption)))) (blk_lt HKR.out)).trans HKR.out
          refine ⟨by simp, .inl ⟨_, _, rfl, run_takeDeferred hK9, ?_⟩⟩
          have hnl : normList ss = [⟨1, 0, 1, 0, l1, l2⟩] := by
            rw [normList_eq (by intro e; rw [e] at h0; simp at h0) HAL.out HY.out HKS.out, if_pos HKN.out, HSY.out]
          have hown := World.ownsRow_lit (base := 0) (e := 26) (size := 6) (wr.alloc (.cells #[.int .i64 1, .int .i64 0] 24)) #[.int .i64 1, .int .i64 0, .int .i64 1, .int .i64 0, .int .i64 l1, .int .i64 l2] 1 (Nat.zero_le _) (by unfold maxLen; omega) rfl
          rw [World.size_alloc'] at hown
          have hown2 : World.ownsRow (((wr.alloc (.cells #[.int .i64 1, .int .i64 0] 24)).alloc (.cells #[.int .i64 1, .int .i64 0, .int .i64 1, .int .i64 0, .int .i64 l1, .int .i64 l2] 26)).putObj D (.deferred none)) 0 26 6 (.slice (some ⟨wr.heap.size + 1, 0, none⟩) 1 1) 1 ([(⟨1, 0, 1, 0, l1, l2⟩ : Sec)].flatMap Sec.cells) := ownsRow_putObj hown (.deferred none) hK9 rfl
          obtain ⟨A', c', hv, _, hrd⟩ := Rd.of_own (f := Sec.cells) sec_len hown2 rfl
          injection hv with hv _ hv2
          subst hv hv2
          rw [hnl]
          refine ⟨.tuple #[.slice (some ⟨wr.heap.size + 1, 0, none⟩) 1 1, .int .i64 0], by simp [results, Try.results22, go_sem], ⟨_, _, rfl, ?_, Nat.le_refl _, ?_⟩⟩
          · exact Grew.of_below ((Grew.trans HWR.out (by repeat (with_reducible first | exact Grew.refl _ | assumption | refine Grew.alloc ?_ _ | refine Grew.grow ?_ _ | refine Grew.dr ?_ _ | refine Grew.drewN ?_ _ | refine Grew.drew ?_ | refine Grew.trans ?_ (Hid.out (by assumption))))).below.trans (belowK_b (w := w) (Nat.le_refl _) _ D _ (.deferred none) (by have := hg1.below.size; omega) hK9 rfl rfl))
          · exact hrd
        · obtain ⟨m, hm1⟩ : ∃ m, ks.length = m + 1 := ⟨ks.length - 1, by omega⟩
          obtain ⟨g2, hA6⟩ : ∃ g2, A6 = some ⟨g2, 0, none⟩ := by
            have h9 := HOW.out
            rw [hm1] at h9
            obtain ⟨g2, cap2, h9⟩ := ownsRow_succ h9
            injection h9 with h9
            exact ⟨g2, h9⟩
          subst hA6
          have hg2l := (HOW.out.lt g2 rfl).2
          have hcell := own_cells HOW.out rfl
          have HCE := hide hcell
          obtain ⟨i1, hi1, hy0, hy1, hy2⟩ := info_parts secInfo
          clear hcell hm1
          gi_wp2_with fail
          refine wpIn_name ?_
          intro a1 W6 ha1 hW6
          have hkb : ((ks.length : Int) == 0) = false := by rw [beq_eq_false_iff_ne]; omega
          try rw [hkb] at ha1
          subst wr
          subst ha1
          gi_loopw [12, 75] (fun v i wi => ∃ k : Nat, k ≤ ks.length ∧ i = .int .i64 k ∧ W6.grownBy wi none ∧ wi.ownsRow W6.heap.size 26 6 v (outOf (shP ss) ks k).length ((outOf (shP ss) ks k).flatMap Sec.cells)) (fun _ i _ => ks.length - (intOf i).toNat)
          case atStart => exact ⟨0, Nat.zero_le _, rfl, (Grew.refl _).grownBy _, World.ownsRow_nil _ _ _ _⟩
          case round =>
            obtain ⟨k, hk, rfl, hgr, hown⟩ := hrel
            have hcr := HCE.out.to (hgr.block g2 hg2l (by simp))
            have hwr : Grew w wr := HWR.out.trans (Grew.of_below ((Below.refl W6.heap.size W6).grown hgr (Nat.le_refl _) (fun j e => by cases e)))
            by_cases hlt : k < ks.length
            · obtain ⟨u, hu⟩ : ∃ u, ks[k]? = some u := ⟨_, List.getElem?_eq_getElem hlt⟩
              have hml : (k + 1) % ks.length < ks.length := Nat.mod_lt _ (by omega)
              obtain ⟨nx, hnx⟩ : ∃ nx, ks[(k + 1) % ks.length]? = some nx := ⟨_, List.getElem?_eq_getElem hml⟩
              obtain ⟨u0, u1⟩ := hcr k u hu
              obtain ⟨x0, x1⟩ := hcr _ nx hnx
              have hub := dir_bd (prim_dir u)
              have hix := idx_run (cap := c6) (k := k) (len := ks.length) Try.underlying66 Try.sizeOf55 (A := some ⟨g2, 0, none⟩) rfl hlt
              have hixn := idx_run (cap := c6) (k := (k + 1) % ks.length) (len := ks.length) Try.underlying66 Try.sizeOf55 (A := some ⟨g2, 0, none⟩) rfl hml
              simp only [Nat.zero_add] at hix hixn
              have hat : outAt (shP ss) ks k = if shP ss u ≠ (0, 0) then [⟨u.1.1, u.1.2, nx.1.1, nx.1.2, (shP ss u).1, (shP ss u).2⟩] else [] := by
                unfold outAt
                rw [getElem!_def ks k, hu, getElem!_def ks, hnx]
              have hol := outOf_len (shP ss) ks k
              obtain ⟨olst, hol2⟩ : ∃ olst, outOf (shP ss) ks k = olst := ⟨_, rfl⟩
              rw [hol2] at hol hown
              have HOL := hide hol2
              have HAT := hide hat
              have HOW2 := hide hown
              have HGR2 := hide hgr
              have HWR2 := hide hwr
              have hwl : g2 < wr.heap.size := Nat.lt_of_lt_of_le hg2l hgr.size
              clear hu hnx hat hol2 hown hgr hwr hcr
              gi_wp2_with fail
              refine ⟨trivial, ?_⟩
              refine (callsIn_wide.2 (shown_any ss A c _ _ _ (HR.out.up (HWR2.out.trans (by repeat (with_reducible first | exact Grew.refl _ | assumption | refine Grew.alloc ?_ _ | refine Grew.grow ?_ _ | refine Grew.dr ?_ _ | refine Grew.drewN ?_ _ | refine Grew.drew ?_ | refine Grew.trans ?_ (Hid.out (by assumption)))))) hl (by omega) HO.out hub.1 hub.2)).mono ?_
              rintro e w' ⟨rfl, ⟨n7, os7⟩, rfl⟩
              rw [show showAt ss u.1.1 u.1.2 = shP ss u from rfl]
              obtain ⟨⟨s1, s2⟩, hsu⟩ : ∃ su, shP ss u = su := ⟨_, rfl⟩
              rw [hsu]
              have HSU := hide hsu
              clear hsu
              dsimp only
              by_cases e1 : s1 = 0 ∧ s2 = 0
              · obtain ⟨rfl, rfl⟩ := e1
                gi_wp2_with fail
                go_roundw
                case rel => exact ⟨k + 1, by omega, by go_num, gb_grew HGR2.out (by repeat (with_reducible first | exact Grew.refl _ | assumption | refine Grew.alloc ?_ _ | refine Grew.grow ?_ _ | refine Grew.dr ?_ _ | refine Grew.drewN ?_ _ | refine Grew.drew ?_ | refine Grew.trans ?_ (Hid.out (by assumption)))) (by intro r e; cases e), by rw [outOf_succ, HOL.out, HAT.out, HSU.out, if_neg (by simp), List.append_nil]; exact own_grew HOW2.out (by repeat (with_reducible first | exact Grew.refl _ | assumption | refine Grew.alloc ?_ _ | refine Grew.grow ?_ _ | refine Grew.dr ?_ _ | refine Grew.drewN ?_ _ | refine Grew.drew ?_ | refine Grew.trans ?_ (Hid.out (by assumption))))⟩
                case measure => simp [intOf]; omega
              · have e2 : s1 ≠ 0 ∨ (s1 = 0 ∧ s2 ≠ 0) := by
                  rcases Decidable.em (s1 = 0) with h | h
                  · exact .inr ⟨h, fun h' => e1 ⟨h, h'⟩⟩
                  · exact .inl h
                have hne : ¬ ((s1, s2) : Int × Int) = (0, 0) := fun e => e1 (by injection e with h1 h2; exact ⟨h1, h2⟩)
                have HNE := hide hne
                clear e1 hne
                have ec : ((((k + 1) % ks.length : Nat)) : Int) = ((k : Int) + 1) % (ks.length : Int) := by rw [Int.natCast_emod]; rfl
                have er : Int.tmod ((k : Int) + 1) (ks.length : Int) = ((k : Int) + 1) % (ks.length : Int) := rfl
                have ew : IntKind.i64.wrap ((k : Int) + 1) = (k : Int) + 1 := by unfold IntKind.wrap; simp [IntKind.bits, IntKind.signed]; omega
                have ew2 : IntKind.i64.wrap (((k : Int) + 1) % (ks.length : Int)) = ((k : Int) + 1) % (ks.length : Int) := by rw [← ec]; unfold IntKind.wrap; simp only [IntKind.bits, IntKind.signed]; simp; omega
                rw [ec] at hixn
                have hne0 : ¬ (ks.length : Int) = 0 := by omega
                have hne1 : ¬ ks = [] := by intro e; rw [e] at hlt; simp at hlt
                rcases e2 with e1 | ⟨rfl, e2⟩
                all_goals
                  gi_wp2_with fail
                  refine wpW_region_qas 16 [] [⟨15, 101, 1, 26, fun a => (a.eval (Operand.tmp 100)).cells⟩] hm (by kernel_rfl) (by kernel_rfl) (by simp only [List.take, List.filter, isQ]; rfl) (by simp only [List.drop]; rfl) ZOk.nil (by simp) ?_
                  repeat (refine wpSteady_step (fun K hK => ?_); go_simp; first | (refine hK _ ?_; clear hK K) | (apply Exists.intro; refine ⟨fun _ => ?_, hK _ ?_⟩; (fail); clear hK K))
                  refine wpSteady_nil ?_
                  refine ⟨StOk.nil, (LyOk.cons (by rfl) (fun W => by first | (go_simp; done) | rfl) LyOk.nil), ?_⟩
                  rintro psq qsq Wq HWq HFq HBq
                  obtain ⟨b0, _, rfl, hq0, gb0, rfl⟩ := HBq
                  simp [Act.eval, Value.cells] at gb0
                  have gbl0 := blk_lt gb0
                  obtain rfl : psq = [] := HFq
                  simp only [putAll, putB, Act.put, List.setIfInBounds_toArray, List.set_cons_succ, List.set_cons_zero]
                  have oc := old_cell HWq
                  have of := old_frozen HWq
                  have ol := old_lt HWq
                  replace HWq := hide HWq
                  refine wpListIn_append_own Wq rfl (.tmp 86) (.tmp 101) 22 rfl W6.heap.size 26 i1 _ 6 48 Try.underlying22 hi1 hy0 hy1 hy2 (by rfl) (by omega) _ olst.length _ (by rfl) (own_grew HOW2.out (Grew.trans (by repeat (with_reducible first | exact Grew.refl _ | assumption | refine Grew.alloc ?_ _ | refine Grew.grow ?_ _ | refine Grew.dr ?_ _ | refine Grew.drewN ?_ _ | refine Grew.drew ?_ | refine Grew.trans ?_ (Hid.out (by assumption)))) HWq.out)) ⟨b0, 0, none⟩ 1 1 ((⟨u.1.1, u.1.2, nx.1.1, nx.1.2, _, _⟩ : Sec).cells) (by rfl) (by rfl)
                    (fun j x hx => by rw [add_at, Nat.zero_add, blk_cell gb0]; simpa [Sec.cells] using hx) (fun x hx => by simp [Sec.cells] at hx; rcases hx with rfl | rfl | rfl | rfl | rfl | rfl <;> rfl) (by unfold maxLen; omega) (by omega) (Nat.le_trans HGR2.out.size (Grew.below (Grew.trans (by repeat (with_reducible first | exact Grew.refl _ | assumption | refine Grew.alloc ?_ _ | refine Grew.grow ?_ _ | refine Grew.dr ?_ _ | refine Grew.drewN ?_ _ | refine Grew.drew ?_ | refine Grew.trans ?_ (Hid.out (by assumption)))) HWq.out)).size) ?_
                  intro v' w3 hown' hgrow _
                  have hg3 : W6.grownBy w3 none := gb_own (gb_grew HGR2.out (Grew.trans (by repeat (with_reducible first | exact Grew.refl _ | assumption | refine Grew.alloc ?_ _ | refine Grew.grow ?_ _ | refine Grew.dr ?_ _ | refine Grew.drewN ?_ _ | refine Grew.drew ?_ | refine Grew.trans ?_ (Hid.out (by assumption)))) HWq.out) (by intro r e; cases e)) (own_grew HOW2.out (Grew.trans (by repeat (with_reducible first | exact Grew.refl _ | assumption | refine Grew.alloc ?_ _ | refine Grew.grow ?_ _ | refine Grew.dr ?_ _ | refine Grew.drewN ?_ _ | refine Grew.drew ?_ | refine Grew.trans ?_ (Hid.out (by assumption)))) HWq.out)) hgrow
                  have HG3 := hide hg3
                  have HO3 := hide hown'
                  clear hg3 hown' hgrow
                  gi_wp2_with fail
                  go_roundw
                  case rel =>
                    refine ⟨k + 1, by omega, by go_num, HG3.out, ?_⟩
                    rw [outOf_succ, HOL.out, HAT.out, HSU.out, if_pos HNE.out, List.flatMap_append, List.length_append]
                    simpa [Sec.cells] using HO3.out
                  case measure => simp [intOf]; omega
            · obtain rfl : k = ks.length := by omega
              obtain ⟨A12, c12, rfl, hc12⟩ := own_slice hown
              have hK9 : wr.heap[D]? = some (.deferred (some [])) := (hgr.block D (blk_lt HKR.out) (by simp)).trans HKR.out
              have hnl : normList ss = outOf (shP ss) ks ks.length := by
                rw [normList_eq (by intro e; rw [e] at h0; simp at h0) HAL.out HY.out HKS.out, if_neg (by intro e; rw [e] at hk0; simp at hk0)]
              have HNL := hide hnl
              have HK9 := hide hK9
              have HOW2 := hide hown
              have HWR2 := hide hwr
              clear hnl hK9 hown hwr hgr hcr
              gi_wp2_with fail
              refine ⟨by simp, .inl ⟨_, _, rfl, run_takeDeferred HK9.out, ?_⟩⟩
              obtain ⟨A', c', hv, hn', hrd⟩ := Rd.of_own (f := Sec.cells) sec_len (ownsRow_putObj HOW2.out (.deferred none) HK9.out rfl) rfl
              injection hv with hv _ hv2
              subst hv hv2
              rw [HNL.out]
              refine ⟨.tuple #[.slice A12 (outOf (shP ss) ks ks.length).length c12, .int .i64 0], by simp [results, Try.results22, go_sem], ⟨_, _, rfl, ?_, hn', hrd⟩⟩
              exact Grew.of_below (HWR2.out.below.trans (belowK_b (w := w) (Nat.le_refl _) _ D _ (.deferred none) (by have := hg1.below.size; omega) HK9.out rfl rfl))
  case stop => exact fun _ _ _ _ _ _ h _ => h.elim

theorem Normal_any (ss : List Sec) (A : Option Addr) (c : Nat) (w : World) (hr : Rd w w.heap.size 6 A (ss.map Sec.cells)) (hl : ss.length ≤ c) (hc : ss.length ≤ 100000000000000) :
    Calls Try.prog 22 #[.slice A ss.length c] w (NormRet w (normalOf ss)) := by
  unfold normalOf
  cases h : LValid ss
  · exact Normal_no ss A c w hr hl hc h
  · rcases Nat.eq_zero_or_pos ss.length with h0 | h0
    · obtain rfl := List.length_eq_zero_iff.1 h0
      rw [if_pos rfl]
      exact Normal_nil A c w
    · rw [if_pos rfl]
      exact Normal_yes ss A c w hr hl h h0
end Go.Proofs.Ytgcgaplhaglejaa
