/- Maps with integer keys that a call makes: the map as a function from keys to values. Package derive: the iterator over the features that count. -/
import Derived.Test.YtdoiaagajkabcaaGreatApp
import Derived.Test.YtdoiaagajkabcaaGreatProg
import Derived.Maps.OwnIn
import Derived.Test.YtdoiaagajkabcaaGreatRuI
import Derived.Test.YtdoiaagajkabcaaGreatPoa
set_option linter.unusedSimpArgs false
set_option linter.unusedVariables false
set_option maxHeartbeats 4000000
set_option maxRecDepth 100000
namespace Go.Proofs.YtdoiaagajkabcaaGreat
open Go.RowKit Go.Sort
open Go.Maps (Keyed)
def heldR (v : Value) : Option (DataW Value × List MemPlace) := some (.held v, [])
theorem ikeyed : Keyed Tryz.prog 3 := Maps.int_keyed Tryz.underlying3
/-- Block b is a map of at most n entries that is m. -/
def MapIs (w : World) (b n : Nat) (m : Int → Option Value) : Prop := ∃ D, w.ownsMap Tryz.prog 3 heldR b n D ∧ Maps.IsMap D ∧ ∀ x, (Lit.int .i64 x).wf = true → Maps.has D (.int .i64 x) = (m x).isSome ∧ ∀ z, D.atKey (.int .i64 x) z = match m x with | some v => .held v | none => z
theorem MapIs.made (w : World) : MapIs (w.alloc (.map #[] 0)) w.heap.size 0 (fun _ => none) :=
 ⟨_, World.ownsMap_made w Tryz.prog 3 heldR, Maps.isMap_empty, fun _ _ => ⟨rfl, fun _ => rfl⟩⟩
theorem MapIs.lt {w : World} {b n : Nat} {m : Int → Option Value} (h : MapIs w b n m) : b < w.heap.size := let ⟨_, h, _⟩ := h; h.lt
theorem MapIs.kept {w w' : World} {b n : Nat} {m : Int → Option Value} {row : Option Nat} (h : MapIs w b n m) (hg : w.grownBy w' row) (hne : some b ≠ row) : MapIs w' b n m :=
 let ⟨D, h1, h2⟩ := h; ⟨D, h1.kept hg hne, h2⟩
theorem MapIs.block {w w' : World} {b n : Nat} {m : Int → Option Value} (h : MapIs w b n m) (hb : w'.heap[b]? = w.heap[b]?) : MapIs w' b n m := by
 obtain ⟨D, ⟨es, clock, h0, h1⟩, h2⟩ := h
 exact ⟨D, ⟨es, clock, hb.trans h0, h1⟩, h2⟩
theorem MapIs.up {w w' : World} {b n : Nat} {m : Int → Option Value} (h : MapIs w b n m) (hg : Grew w w') : MapIs w' b n m := h.block (hg.below.block b h.lt)
theorem ikey (x : Int) (h : (Lit.int .i64 x).wf = true) : keyOf Tryz.prog 3 (.int .i64 x) = some (.int .i64 x) := Maps.keyOf_int_mk Tryz.underlying3 h
theorem held_val {D : DataW Value} {x : Int} {m : Int → Option Value} {v z : Value} {ps : List MemPlace} (h : ∀ z, D.atKey (.int .i64 x) z = match m x with | some v => .held v | none => z) (hv : heldR v = some (D.atKey (.int .i64 x) (.held z), ps)) : v = (m x).getD z := by
 rw [h] at hv
 unfold heldR at hv
 cases hm : m x with
 | none => rw [hm] at hv; injection hv with hv; injection hv with hv _; injection hv
 | some u => rw [hm] at hv; injection hv with hv; injection hv with hv _; injection hv
theorem MapIs.look {w : World} {b n : Nat} {m : Int → Option Value} (h : MapIs w b n m) {t e : TypeId} (ht : Tryz.prog.underlying t = some (.map 3 e)) {z : Value} (hz : (zeroValue e).run Tryz.prog w = .ok z w) {x : Int} (hx : (Lit.int .i64 x).wf = true) :
  (Instr.lookup t (.map (some b)) (.int .i64 x) true).run Tryz.prog w = .ok (.tuple #[(m x).getD z, .bool (m x).isSome]) w := by
 obtain ⟨D, h1, _, h3⟩ := h
 obtain ⟨v, ps, hrun, hv⟩ := h1.look_ok ikeyed ht hz (zd := .held z) (zp := []) rfl (ikey x hx)
 rw [hrun, (h3 x hx).1, held_val (h3 x hx).2 hv]
theorem MapIs.look1 {w : World} {b n : Nat} {m : Int → Option Value} (h : MapIs w b n m) {t e : TypeId} (ht : Tryz.prog.underlying t = some (.map 3 e)) {z : Value} (hz : (zeroValue e).run Tryz.prog w = .ok z w) {x : Int} (hx : (Lit.int .i64 x).wf = true) :
  (Instr.lookup t (.map (some b)) (.int .i64 x) false).run Tryz.prog w = .ok ((m x).getD z) w := by
 obtain ⟨D, h1, _, h3⟩ := h
 obtain ⟨v, ps, hrun, hv⟩ := h1.lookup ikeyed ht hz (zd := .held z) (zp := []) rfl (ikey x hx)
 rw [hrun, held_val (h3 x hx).2 hv]
def updM (m : Int → Option Value) (k : Int) (v : Value) : Int → Option Value := fun x => if x = k then some v else m x
theorem MapIs.of_put {w : World} {b n : Nat} {m : Int → Option Value} {D : DataW Value} {k : Int} {v : Value} (hk : (Lit.int .i64 k).wf = true) (h1 : w.ownsMap Tryz.prog 3 heldR b n (D.put (.int .i64 k) (.held v))) (h2 : Maps.IsMap D) (h3 : ∀ x, (Lit.int .i64 x).wf = true → Maps.has D (.int .i64 x) = (m x).isSome ∧ ∀ z, D.atKey (.int .i64 x) z = match m x with | some v => .held v | none => z) : MapIs w b n (updM m k v) := by
 have hkl : WideAt.IsKeyLit (.int .i64 k) := by simp [WideAt.IsKeyLit]
 refine ⟨_, h1, h2.put _ _, fun x hx => ?_⟩
 unfold updM
 by_cases e : x = k
 ·subst e
  rw [if_pos rfl]
  exact ⟨Maps.has_put_same h2 hkl _, fun z => Maps.atKey_put_same h2 hkl _ z⟩
 ·rw [if_neg e]
  have hne : Lit.int .i64 x ≠ .int .i64 k := fun h => e (by injection h)
  exact ⟨(Maps.has_put_other hne _).trans (h3 x hx).1, fun z => (Maps.atKey_put_other hne _ z).trans ((h3 x hx).2 z)⟩
theorem wf64 {x : Int} (h : -9223372036854775808 ≤ x ∧ x ≤ 9223372036854775807) : (Lit.int .i64 x).wf = true := WalkArith.wf_i64 (by omega)
section
variable {w : World} {ops : Array Oper} {rest : List Oper} {o : Oper} {a : Act} {Q : Exit → Act → World → Prop} {b n : Nat} {mp : Int → Option Value}
theorem wpList_look (hg : o.guard = none) (m x : Operand) (t : TypeId) (hop : o.op = Op.lookup t m x true) (e : TypeId) (ht : Tryz.prog.underlying t = some (.map 3 e)) {z : Value} (hz : (zeroValue e).run Tryz.prog w = .ok z w)
  (hm : a.eval m = .map (some b)) (h : MapIs w b n mp) (k : Int) (hx : a.eval x = .int .i64 k) (hk : (Lit.int .i64 k).wf = true) (hK : wpList Tryz.prog ops Q rest (a.put o.dst (.tuple #[(mp k).getD z, .bool (mp k).isSome])) w) : wpList Tryz.prog ops Q (o :: rest) a w := by
 obtain ⟨D, h1, _, h3⟩ := h
 refine wpList_lookup_own_ok w hg m x t hop 3 e ikeyed ht heldR hz (.held z) [] rfl b n D hm h1 _ _ hx (ikey k hk) fun v ps hv => ?_
 rw [(h3 k hk).1, held_val (h3 k hk).2 hv]
 exact hK
theorem wpList_store (hg : o.guard = none) (m x v : Operand) (t : TypeId) (hop : o.op = Op.mapUpdate t m x v) (e : TypeId) (ht : Tryz.prog.underlying t = some (.map 3 e))
  (hm : a.eval m = .map (some b)) (h : MapIs w b n mp) (hn : n < maxLen) (k : Int) (u : Value) (hx : a.eval x = .int .i64 k) (hv : a.eval v = u) (hk : (Lit.int .i64 k).wf = true)
  (hK : ∀ w', MapIs w' b (n + 1) (updM mp k u) → w.grownBy w' (some b) → wpList Tryz.prog ops Q rest (a.put o.dst undef) w') : wpList Tryz.prog ops Q (o :: rest) a w := by
 obtain ⟨D, h1, h2, h3⟩ := h
 exact wpList_mapUpdate_own w hg m x v t hop 3 e ikeyed ht heldR b n D hm h1 hn _ _ _ hx hv (ikey k hk) (.held u) [] rfl fun w' h4 h5 => hK w' (MapIs.of_put hk h4 h2 h3) h5
variable {F : Fence} {nF : Nat}
theorem wpListIn_look (hg : o.guard = none) (m x : Operand) (t : TypeId) (hop : o.op = Op.lookup t m x true) (e : TypeId) (ht : Tryz.prog.underlying t = some (.map 3 e)) {z : Value} (hz : (zeroValue e).run Tryz.prog w = .ok z w)
  (hm : a.eval m = .map (some b)) (h : MapIs w b n mp) (k : Int) (hx : a.eval x = .int .i64 k) (hk : (Lit.int .i64 k).wf = true) (hK : wpListIn F nF Tryz.prog ops Q rest (a.put o.dst (.tuple #[(mp k).getD z, .bool (mp k).isSome])) w) : wpListIn F nF Tryz.prog ops Q (o :: rest) a w := by
 obtain ⟨D, h1, _, h3⟩ := h
 refine wpListIn_lookup_own_ok w hg m x t hop 3 e ikeyed ht heldR hz (.held z) [] rfl b n D hm h1 _ _ hx (ikey k hk) fun v ps hv => ?_
 rw [(h3 k hk).1, held_val (h3 k hk).2 hv]
 exact hK
theorem wpListIn_store (hg : o.guard = none) (m x v : Operand) (t : TypeId) (hop : o.op = Op.mapUpdate t m x v) (e : TypeId) (ht : Tryz.prog.underlying t = some (.map 3 e))
  (hm : a.eval m = .map (some b)) (h : MapIs w b n mp) (hn : n < maxLen) (k : Int) (u : Value) (hx : a.eval x = .int .i64 k) (hv : a.eval v = u) (hk : (Lit.int .i64 k).wf = true)
  (hK : ∀ w', MapIs w' b (n + 1) (updM mp k u) → w.grownBy w' (some b) → wpListIn F nF Tryz.prog ops Q rest (a.put o.dst undef) w') : wpListIn F nF Tryz.prog ops Q (o :: rest) a w := by
 obtain ⟨D, h1, h2, h3⟩ := h
 exact wpListIn_mapUpdate_own w hg m x v t hop 3 e ikeyed ht heldR b n D hm h1 hn _ _ _ hx hv (ikey k hk) (.held u) [] rfl fun w' h4 h5 => hK w' (MapIs.of_put hk h4 h2 h3) h5
end
end Go.Proofs.YtdoiaagajkabcaaGreat
namespace Go.Proofs.YtdoiaagajkabcaaGreat
open Go.RowKit Go.Sort Go.Lib
attribute [local go_sem] Steady steadyUpon
attribute [local go_sem ↓] hs_dr lt_add_r lt_add_r2 lt_add_r3 lt_add_r4 lt_add_r5 lt_add_r6
attribute [local go_sem] cell?_gd frozen?_gd setCell_gd size_grow tape_grow cell?_grow' frozen?_grow' setCell_grow' grow_grow grow_dr grow_drew dr_dr dr_drew drew_dr dr_alloc dr_setCell dr_cell dr_frozen dr_tape dr_drawn
attribute [local irreducible] wpSteady
/-- A feature that counts is named by its index. -/
abbrev CI (fs : List FV) (lim : Int) : Type := { i : Fin fs.length // countB (fAt fs i.1) lim = true }
def ciN {fs : List FV} {lim : Int} (x : CI fs lim) : Nat := x.1.1
def encC (fs : List FV) (lim : Int) (x : CI fs lim) : Array Value := #[(fAt fs (ciN x)).val]
def countsTo (fs : List FV) (lim : Int) (k : Nat) : List Nat := (List.range k).filter fun i => countB (fAt fs i) lim
theorem countsTo_yes {fs : List FV} {lim : Int} {k : Nat} (h : countB (fAt fs k) lim = true) : countsTo fs lim (k + 1) = countsTo fs lim k ++ [k] := by
 unfold countsTo
 rw [List.range_succ, List.filter_append]
 simp [h]
theorem countsTo_no {fs : List FV} {lim : Int} {k : Nat} (h : countB (fAt fs k) lim = false) : countsTo fs lim (k + 1) = countsTo fs lim k := by
 unfold countsTo
 rw [List.range_succ, List.filter_append]
 simp [h]
theorem countsTo_len (fs : List FV) (lim : Int) (k : Nat) : (countsTo fs lim k).length ≤ k := by
 have := List.length_filter_le (fun i => countB (fAt fs i) lim) (List.range k)
 rw [List.length_range] at this
 exact this
theorem dall_any (A : Option Addr) (n c : Nat) (lim : Int) (w : World) :
  Calls Tryz.prog 37 #[.agg #[.slice A n c, .int .i64 lim]] w fun e w' => e = .returned (.func (.func 65) #[] #[.pointer (some ⟨w.heap.size, 0, none⟩)]) ∧ w.alloc (.cells #[.slice A n c, .int .i64 lim] 73 (0, 0)) = w' := by
 go_enter Tryz.func37, Tryz.ntmps37
 go_wp2
 go_ret
 exact ⟨rfl, rfl⟩
theorem dall_stops (n K : Nat) (M : Nat → TypeId → Prop) (fs : List FV) (A : Option Addr) (c B : Nat) (lim : Int) (w : World) (hM1 : ∀ b T, M b T → K ≤ b) (hM2 : ∀ T, ¬ M B T) (hM3 : ∀ b, w.heap.size ≤ b → ¬ M b 52) (hB : w.heap[B]? = some (.cells #[.slice A fs.length c, .int .i64 lim] 73 (0, 0)))
  (hr : Rd w K 9 A (fs.map FV.cells)) (hK : K ≤ w.heap.size) (hl : fs.length ≤ 1000000) :
  SeqStopsK Fence.wide n Tryz.prog 65 #[.pointer (some ⟨B, 0, none⟩)] (encC fs lim) (KpM M) (fun xs => xs.map ciN = countsTo fs lim fs.length) (fun pre => ∃ k, k ≤ fs.length ∧ pre.map ciN = countsTo fs lim k) fs.length w := by
 intro l J Jx W hW hJ hJx hY h0
 have hm := hmix
 have HR := hide ((hr.below (hW.mono hK)))
 have hBW : W.heap[B]? = some _ := (hW.block B (blk_lt hB)).trans hB
 have c0 : W.cell? ⟨B, 0, none⟩ = some (.slice A fs.length c) := by rw [blk_cell hBW]; rfl
 have c1 : W.cell? ⟨B, 1, none⟩ = some (.int .i64 lim) := by rw [blk_cell hBW]; rfl
 have hMK : Hid (∀ b T, b < K → ¬ M b T) := hide (fun b T hb h => by have := hM1 b T h; omega)
 have hMB : Hid (∀ T, ¬ M B T) := hide hM2
 have hMW : Hid (∀ b, w.heap.size ≤ b → ¬ M b 52) := hide hM3
 have hKW : K ≤ W.heap.size := Nat.le_trans hK hW.size
 have hwW := hW.size
 have HJ := hide hJ
 have HJx := hide hJx
 have HY := hide hY
 have H0 := hide h0
 clear hr hM1 hM2 hM3 hJ hJx hY h0 hW hB hBW
 refine callsIn_of_wp Tryz.func65 rfl trivial ?_ rfl
 simp only [Tryz.ntmps65, List.size_toArray, List.length_cons, List.length_nil, Nat.reduceAdd, Nat.reduceSub, Array.replicate_succ, Array.replicate_zero, List.push_toArray, List.append_toArray, List.nil_append, List.cons_append]
 gi_wp2_with fail
 gi_loopw [8] (fun i wr => ∃ (k : Nat) (pre : List (CI fs lim)), k ≤ fs.length ∧ i = .int .i64 k ∧ pre.map ciN = countsTo fs lim k ∧ J pre wr ∧ Rd wr K 9 A (fs.map FV.cells) ∧ wr.cell? ⟨B, 0, none⟩ = some (.slice A fs.length c) ∧ wr.cell? ⟨B, 1, none⟩ = some (.int .i64 lim) ∧ W.heap.size ≤ wr.heap.size) (fun i _ => fs.length - (intOf i).toNat)
 case atStart => exact ⟨0, [], by omega, rfl, rfl, H0.out, HR.out, c0, c1, Nat.le_refl _⟩
 case round =>
  obtain ⟨k, pre, hk, rfl, hpre, hJ, hrd, hcB, hcB2, hsz⟩ := hrel
  have hplen : pre.length ≤ k := by have := congrArg List.length hpre; have := countsTo_len fs lim k; simp only [List.length_map] at *; omega
  have HPRE := hide hpre
  clear c0 c1 hpre
  by_cases hlt : k < fs.length
  ·obtain ⟨b, off, hA, hb, fc⟩ := rowAt hrd hlt
   have hix := idx_run (cap := c) Tryz.underlying22 Tryz.sizeOf52 hA.out hlt
   have hbw : b < wr.heap.size := by omega
   have hBw : B < wr.heap.size := cell_lt hcB
   obtain ⟨u, hu⟩ : ∃ u, countB (fAt fs k) lim = u := ⟨_, rfl⟩
   have HU := hide hu
   obtain ⟨f, hf⟩ : ∃ f, fAt fs k = f := ⟨_, rfl⟩
   have HFK := hide hf
   rw [hf] at fc hu
   have kc := hide (fun W' => counts_v A fs.length c lim f u W' hu)
   obtain ⟨d0, d1, d2, d3, d4, d5, d6, d7, d8⟩ := fc
   have HRD := hide hrd
   have HPL := hide hplen
   have HJk := hide hJ
   have HcB := hide hcB
   have HcB2 := hide hcB2
   clear hrd hJ hplen hf hu hA
   gi_wp2_with fail
   refine ⟨trivial, (fun h => by cases h), ?_⟩
   refine (callsIn_wide.2 (kc.out _)).mono ?_
   rintro e w' ⟨rfl, ⟨n1, os1⟩, rfl⟩
   dsimp only
   have hg5 : Grew wr (grow (dr (wr.alloc (.cells #[.int .i64 f.id, .int .i64 f.kind, .int .i64 f.x, .int .i64 f.y, .int .i64 f.rad, .slice f.aA f.area.length f.ac, .int .i64 f.dep, .int .i64 f.sym, .slice f.sA f.secs.length f.sc] 52)) n1) os1) := gw
   cases u
   ·have HET : Hid (pre.map ciN = countsTo fs lim (k + 1)) := hide (by rw [HPRE.out, countsTo_no HU.out])
    have hJ5 := HJ.out _ _ _ none HJk.out (hg5.grownBy none) (fun r hr => by cases hr)
    have HJ5 := hide hJ5
    have HG5 := hide hg5
    clear hJ5 hg5
    gi_wp2_with fail
    refine ⟨(fun _ h => by cases h), ?_⟩
    gi_wp2_with fail
    go_roundw
    case rel => exact ⟨k + 1, pre, by omega, by go_num, HET.out, HJ5.out, HRD.out.grew HG5.out (by omega), (HG5.out.below.cell (p := ⟨B, 0, none⟩) hBw).trans HcB.out, (HG5.out.below.cell (p := ⟨B, 1, none⟩) hBw).trans HcB2.out, by have := HG5.out.below.size; omega⟩
    case measure => simp [intOf]; omega
   ·have hk0 := HU.out
    have HET : Hid ((pre ++ [(⟨⟨k, hlt⟩, hk0⟩ : CI fs lim)]).map ciN = countsTo fs lim (k + 1)) := hide (by rw [List.map_append, HPRE.out, countsTo_yes hk0]; rfl)
    have henc : encC fs lim ⟨⟨k, hlt⟩, hk0⟩ = #[f.val] := by
     show #[(fAt fs k).val] = #[f.val]
     rw [HFK.out]
    have hJ5 := HJ.out _ _ _ none HJk.out (hg5.grownBy none) (fun r hr => by cases hr)
    obtain ⟨fn1, tm1, as1, bo1, hy1, hR1⟩ := HY.out _ ⟨⟨k, hlt⟩, hk0⟩ _ hJ5 (by have := HPL.out; omega)
    rw [henc] at hy1
    have HR1 := hide hR1
    have HR5 := hide (HRD.out.grew hg5 (by omega))
    have HC5 := hide ((hg5.below.cell (p := ⟨B, 0, none⟩) hBw).trans HcB.out)
    have HC6 := hide ((hg5.below.cell (p := ⟨B, 1, none⟩) hBw).trans HcB2.out)
    have hbx : (grow (dr (wr.alloc (.cells #[.int .i64 f.id, .int .i64 f.kind, .int .i64 f.x, .int .i64 f.y, .int .i64 f.rad, .slice f.aA f.area.length f.ac, .int .i64 f.dep, .int .i64 f.sym, .slice f.sA f.secs.length f.sc] 52)) n1) os1).heap[wr.heap.size]? = some (.cells #[.int .i64 f.id, .int .i64 f.kind, .int .i64 f.x, .int .i64 f.y, .int .i64 f.rad, .slice f.aA f.area.length f.ac, .int .i64 f.dep, .int .i64 f.sym, .slice f.sA f.secs.length f.sc] 52 (0, 0)) := (heap_grow_old _ _ (by simp [hs_dr])).trans (heap_alloc_at _ _ _ rfl)
    have HBX := hide hbx
    clear hbx
    clear hR1 hg5 hJ5 henc
    gi_wp2_with fail
    refine ⟨(fun h => by cases h), ?_⟩
    refine HR1.out.mono ?_
    rintro e W3 (⟨rfl, hJ3, hk3⟩ | ⟨rfl, hJx3⟩)
    ·have hrd3 := HR5.out.kpm hk3 hMK.out
     have hc3 := hk3.cell hMB.out HC5.out
     have hc4 := hk3.cell hMB.out HC6.out
     have HJ3 := hide hJ3
     have HC3 := hide hc3
     have HC4 := hide hc4
     have HRD3 := hide hrd3
     have hb3 := blk_lt (hk3 _ _ _ _ (hMW.out _ (by omega)) HBX.out)
     have hB3 := cell_lt hc3
     clear hc3 hc4 hrd3 hk3 hy1 d0 d1 d2 d3 d4 d5 d6 d7 d8
     clear hJ3
     dsimp only
     gi_wp2_with fail
     go_roundw
     case rel => exact ⟨k + 1, _, by omega, by go_num, HET.out, HJ3.out, HRD3.out, HC3.out, HC4.out, by omega⟩
     case measure => simp [intOf]; omega
    ·have HX := hide hJx3
     clear hJx3 hy1
     dsimp only
     gi_wp2_with fail
     refine bodyPost_ret (results_none rfl _ _ _) rfl ?_
     exact ⟨⟨_, rfl⟩, .inr ⟨_, ⟨k + 1, by omega, HET.out⟩, HX.out⟩⟩
  ·obtain rfl : k = fs.length := by omega
   gi_wp2
   go_end0
   exact ⟨⟨_, rfl⟩, .inl ⟨_, HPRE.out, hJ⟩⟩
end Go.Proofs.YtdoiaagajkabcaaGreat
