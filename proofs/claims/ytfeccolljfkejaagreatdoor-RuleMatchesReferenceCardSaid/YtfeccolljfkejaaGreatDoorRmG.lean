/- The reference implementation of package rule: change, shoaler. -/
import Derived.Test.YtfeccolljfkejaaGreatDoorCvX
import Derived.Test.YtfeccolljfkejaaGreatDoorRuY
set_option linter.unusedSimpArgs false
set_option linter.unusedVariables false
set_option maxHeartbeats 16000000
set_option maxRecDepth 100000
namespace Go.Proofs.YtfeccolljfkejaaGreatDoor
open Go.RowKit Go.Sort
attribute [local go_sem] Steady steadyUpon
attribute [local go_sem ↓] hs_dr lt_add_r lt_add_r2 lt_add_r3 lt_add_r4 lt_add_r5 lt_add_r6
attribute [local go_sem] cell?_gd frozen?_gd setCell_gd size_grow tape_grow cell?_grow' frozen?_grow' setCell_grow' grow_grow grow_dr grow_drew dr_dr dr_drew drew_dr dr_alloc dr_setCell dr_cell dr_frozen dr_tape dr_drawn
attribute [local irreducible] wpSteady
abbrev set9 (W : World) (Z : Nat) (v0 v1 v2 v3 v4 v5 v6 v7 v8 : Value) : World := ((((((((W.setCell ⟨Z, 0, none⟩ v0).setCell ⟨Z, 1, none⟩ v1).setCell ⟨Z, 2, none⟩ v2).setCell ⟨Z, 3, none⟩ v3).setCell ⟨Z, 4, none⟩ v4).setCell ⟨Z, 5, none⟩ v5).setCell ⟨Z, 6, none⟩ v6).setCell ⟨Z, 7, none⟩ v7).setCell ⟨Z, 8, none⟩ v8
theorem set9_at {W : World} {Z : Nat} {a0 a1 a2 a3 a4 a5 a6 a7 a8 v0 v1 v2 v3 v4 v5 v6 v7 v8 : Value} {T : TypeId} (h : W.heap[Z]? = some (.cells #[a0, a1, a2, a3, a4, a5, a6, a7, a8] T (0, 0))) : (set9 W Z v0 v1 v2 v3 v4 v5 v6 v7 v8).heap[Z]? = some (.cells #[v0, v1, v2, v3, v4, v5, v6, v7, v8] T (0, 0)) := by
 have h0 := heap_setCell_same _ Z 0 _ _ v0 h
 have h1 := heap_setCell_same _ Z 1 _ _ v1 h0
 have h2 := heap_setCell_same _ Z 2 _ _ v2 h1
 have h3 := heap_setCell_same _ Z 3 _ _ v3 h2
 have h4 := heap_setCell_same _ Z 4 _ _ v4 h3
 have h5 := heap_setCell_same _ Z 5 _ _ v5 h4
 have h6 := heap_setCell_same _ Z 6 _ _ v6 h5
 have h7 := heap_setCell_same _ Z 7 _ _ v7 h6
 have h8 := heap_setCell_same _ Z 8 _ _ v8 h7
 simpa using h8
theorem set9_grew {w W : World} {Z : Nat} {v0 v1 v2 v3 v4 v5 v6 v7 v8 : Value} (h : Below w.heap.size w W) (hZ : w.heap.size ≤ Z) : Grew w (set9 W Z v0 v1 v2 v3 v4 v5 v6 v7 v8) :=
 Grew.of_below (((((((((h.setCell (p := ⟨Z, 0, none⟩) hZ _).setCell (p := ⟨Z, 1, none⟩) hZ _).setCell (p := ⟨Z, 2, none⟩) hZ _).setCell (p := ⟨Z, 3, none⟩) hZ _).setCell (p := ⟨Z, 4, none⟩) hZ _).setCell (p := ⟨Z, 5, none⟩) hZ _).setCell (p := ⟨Z, 6, none⟩) hZ _).setCell (p := ⟨Z, 7, none⟩) hZ _).setCell (p := ⟨Z, 8, none⟩) hZ _)
theorem own_set9 {W : World} {Z base n m : Nat} {e : TypeId} {v : Value} {xs : List Value} {v0 v1 v2 v3 v4 v5 v6 v7 v8 : Value} (h : W.ownsRow base e m v n xs) (hZ : Z < base) : (set9 W Z v0 v1 v2 v3 v4 v5 v6 v7 v8).ownsRow base e m v n xs :=
 ownsRow_setCell_below (ownsRow_setCell_below (ownsRow_setCell_below (ownsRow_setCell_below (ownsRow_setCell_below (ownsRow_setCell_below (ownsRow_setCell_below (ownsRow_setCell_below (ownsRow_setCell_below h hZ _) hZ _) hZ _) hZ _) hZ _) hZ _) hZ _) hZ _) hZ _
/-- What the reference's change hands back. -/
def ChgQ (w : World) (f t : FV) (e : Ending) (w' : World) : Prop := ∃ f' : FV, e = .returned f'.val ∧ f'.bare = t.bare ∧ f'.rd w' w'.heap.size ∧ Grew w w' ∧ ∀ g W2, g < w.heap.size → FSt w g f → w'.grownBy W2 (some g) → f'.rd W2 W2.heap.size
abbrev fcl (f : FV) : Obj := .cells #[.int .i64 f.id, .int .i64 f.kind, .int .i64 f.x, .int .i64 f.y, .int .i64 f.rad, .slice f.aA f.area.length f.ac, .int .i64 f.dep, .int .i64 f.sym, .slice f.sA f.secs.length f.sc] 47 (0, 0)
/-- The feature's block and the result's while a feature is changed. -/
structure CHB (w W : World) (f : FV) : Prop where
 g : Below w.heap.size w W
 x : W.heap[w.heap.size + 1]? = some (fcl f)
 z : W.heap[w.heap.size + 1 + 1]? = some (.cells #[.int .i64 0, .int .i64 0, .int .i64 0, .int .i64 0, .int .i64 0, .slice none 0 0, .int .i64 0, .int .i64 0, .slice none 0 0] 47 (0, 0))
theorem CHB.up {w W W' : World} {f : FV} (h : CHB w W f) (g : Grew W W') : CHB w W' f :=
 ⟨h.g.trans (g.below.mono h.g.size), (g.heap (blk_lt h.x)).trans h.x, (g.heap (blk_lt h.z)).trans h.z⟩
abbrev fst9 (W : World) (Z : Nat) (f : FV) : World := set9 W Z (.int .i64 f.id) (.int .i64 f.kind) (.int .i64 f.x) (.int .i64 f.y) (.int .i64 f.rad) (.slice f.aA f.area.length f.ac) (.int .i64 f.dep) (.int .i64 f.sym) (.slice f.sA f.secs.length f.sc)
theorem chg_end {w W W' : World} {f f0 t : FV} {fn : Func} {a : Act} (h : CHB w W f) (hres : fn.results = #[.cell 4 47]) (hp : a.tmps.getD 4 undef = .pointer (some ⟨w.heap.size + 1 + 1, 0, none⟩)) (hd : a.defers = [])
  (g : Grew (fst9 W (w.heap.size + 1 + 1) f) W') (hb : f.bare = t.bare) (hr : f.rd (fst9 W (w.heap.size + 1 + 1) f) (fst9 W (w.heap.size + 1 + 1) f).heap.size)
  (hS : ∀ g W2, g < w.heap.size → FSt w g f0 → (fst9 W (w.heap.size + 1 + 1) f).grownBy W2 (some g) → f.rd W2 W2.heap.size) : bodyPost Tryz.prog fn (ChgQ w f0 t) .ret a W' := by
 have h9 := set9_at (v0 := .int .i64 f.id) (v1 := .int .i64 f.kind) (v2 := .int .i64 f.x) (v3 := .int .i64 f.y) (v4 := .int .i64 f.rad) (v5 := .slice f.aA f.area.length f.ac) (v6 := .int .i64 f.dep) (v7 := .int .i64 f.sym) (v8 := .slice f.sA f.secs.length f.sc) h.z
 have h10 := (g.heap (blk_lt h9)).trans h9
 have hg : Grew w W' := (set9_grew h.g (by omega)).trans g
 exact bodyPost_ret (results_cell_row hres _ _ (w.heap.size + 1 + 1) _ _ _ _ hp h10 Tryz.underlying47 rfl (by kernel_rfl)) hd ⟨f, rfl, hb, hr.up g, hg, fun g0 W2 h1 h2 h3 => hS g0 W2 h1 h2 (gb_trans (g.grownBy _) h3)⟩
theorem rok_partsG {o k n : Int} (h : ruleOk o k n = true) : (1 ≤ o ∧ o ≤ 5) ∧ (0 ≤ n ∧ n ≤ 100000) ∧ (o = 2 → 1 ≤ n) := by
 unfold ruleOk at h
 rw [Bool.and_eq_true, Bool.and_eq_true, decide_eq_true_eq, decide_eq_true_eq] at h
 obtain ⟨h1, h2, h3⟩ := h
 have hc : o = 1 ∨ o = 2 ∨ o = 3 ∨ o = 4 ∨ o = 5 := by omega
 rcases hc with rfl | rfl | rfl | rfl | rfl <;> simp [opKinds, opLeast, opMost] at h2 h3 <;> omega
theorem calls_nm {P : Program} {f : FuncId} {args : Array Value} {w : World} {post : Ending → World → Prop} (h : ∀ X, w = X → Calls P f args X post) : Calls P f args w post := h _ rfl
theorem fmod_nn {d n : Int} (hd : 0 ≤ d ∧ d ≤ 100000) (hn : 1 ≤ n) : d.tmod n = d % n ∧ 0 ≤ d % n ∧ d % n < n :=
 ⟨Int.tmod_eq_emod_of_nonneg hd.1, Int.emod_nonneg _ (by omega), Int.emod_lt_of_pos _ (by omega)⟩
theorem CHB.new (w : World) (o k n : Int) (f : FV) : CHB w (((w.alloc (.cells #[.int .i64 o, .int .i64 k, .int .i64 n] 36)).alloc (fcl f)).alloc (.cells #[.int .i64 0, .int .i64 0, .int .i64 0, .int .i64 0, .int .i64 0, .slice none 0 0, .int .i64 0, .int .i64 0, .slice none 0 0] 47)) f := by
 refine ⟨(((Grew.refl w).alloc _).alloc _ |>.alloc _).below, ?_, ?_⟩
 ·exact ((Grew.refl _).alloc _ |>.heap (by simp)).trans (by have := heap_alloc_new (w.alloc (.cells #[.int .i64 o, .int .i64 k, .int .i64 n] 36)) (fcl f); simpa using this)
 ·have := heap_alloc_new (((w.alloc (.cells #[.int .i64 o, .int .i64 k, .int .i64 n] 36)).alloc (fcl f))) (.cells #[.int .i64 0, .int .i64 0, .int .i64 0, .int .i64 0, .int .i64 0, .slice none 0 0, .int .i64 0, .int .i64 0, .slice none 0 0] 47 (0, 0))
  simpa using this
theorem CHB.set {w W W' : World} {f f' : FV} (h : CHB w W f) (i : Nat) (v : Value) (hx : (#[.int .i64 f.id, .int .i64 f.kind, .int .i64 f.x, .int .i64 f.y, .int .i64 f.rad, .slice f.aA f.area.length f.ac, .int .i64 f.dep, .int .i64 f.sym, .slice f.sA f.secs.length f.sc] : Array Value).setIfInBounds i v = #[.int .i64 f'.id, .int .i64 f'.kind, .int .i64 f'.x, .int .i64 f'.y, .int .i64 f'.rad, .slice f'.aA f'.area.length f'.ac, .int .i64 f'.dep, .int .i64 f'.sym, .slice f'.sA f'.secs.length f'.sc]) (g : Grew (W.setCell ⟨w.heap.size + 1, i, none⟩ v) W') : CHB w W' f' := by
 have h1 : CHB w (W.setCell ⟨w.heap.size + 1, i, none⟩ v) f' := by
  refine ⟨h.g.setCell (p := ⟨w.heap.size + 1, i, none⟩) (by show w.heap.size ≤ w.heap.size + 1; omega) _, ?_, (heap_setCell_other W ⟨w.heap.size + 1, i, none⟩ (w.heap.size + 1 + 1) v (by show w.heap.size + 1 + 1 ≠ w.heap.size + 1; omega)).trans h.z⟩
  have := heap_setCell_same W (w.heap.size + 1) i _ _ v h.x
  rw [hx] at this
  exact this
 exact h1.up g
theorem rchange_v (o k n : Int) (f : FV) (w : World) (hr : f.rd w w.heap.size) (ho : ruleOk o k n = true) (hd : 0 ≤ f.dep ∧ f.dep ≤ 100000) :
  Calls Tryz.prog 55 #[ruV o k n, f.val] w (ChgQ w f (chg o k n f)) := by
 have hm := hmix
 have HR := hide hr
 have hrp := rok_partsG ho
 have HF := hide (show chg o k n f = chg o k n f from rfl)
 obtain ⟨id, kind, x, y, rad, aA, ac, area, dep, sym, sA, sc, secs⟩ := f
 dsimp only at hd
 clear hr ho HF
 go_enter Tryz.func55, Tryz.ntmps55
 by_cases hk : kind = k
 ·subst hk
  have hc := op_cases o
  rcases hc with rfl | rfl | rfl | rfl | rfl | hno
  ·go_upto_region 11 with fail
   refine wp_name ?_
   intro W1 hW
   have HC : Hid (CHB w W1 ⟨id, kind, x, y, rad, aA, ac, area, dep, sym, sA, sc, secs⟩) := hide (by rw [← hW]; exact CHB.new w 1 kind n ⟨id, kind, x, y, rad, aA, ac, area, dep, sym, sA, sc, secs⟩)
   clear hW
   have x0 := blk_cell HC.out.x 0
   have x1 := blk_cell HC.out.x 1
   have x2 := blk_cell HC.out.x 2
   have x3 := blk_cell HC.out.x 3
   have x4 := blk_cell HC.out.x 4
   have x5 := blk_cell HC.out.x 5
   have x6 := blk_cell HC.out.x 6
   have x7 := blk_cell HC.out.x 7
   have x8 := blk_cell HC.out.x 8
   have xl := blk_lt HC.out.x
   have z0 := blk_cell HC.out.z 0
   have z1 := blk_cell HC.out.z 1
   have z2 := blk_cell HC.out.z 2
   have z3 := blk_cell HC.out.z 3
   have z4 := blk_cell HC.out.z 4
   have z5 := blk_cell HC.out.z 5
   have z6 := blk_cell HC.out.z 6
   have z7 := blk_cell HC.out.z 7
   have z8 := blk_cell HC.out.z 8
   have zf : ∀ i, W1.frozen? ⟨w.heap.size + 1 + 1, i, none⟩ = false := fun i => blk_frozen HC.out.z i
   have zl := blk_lt HC.out.z
   go_wp2_with fail
   refine chg_end HC.out rfl rfl rfl (by first | with_reducible exact Grew.refl _ | exact gw) ?_ ?_ ?_
   ·unfold chg
    first
     | (rw [if_neg HK.out]; done)
     | (rw [if_pos rfl]; rfl)
     | (rw [if_pos rfl]; unfold changeF; first | (rw [if_pos rfl, HM.out]; done) | (rw [if_neg (by decide), if_pos rfl]; done) | (rw [if_neg (by decide), if_neg (by decide), if_neg (by decide)]; done))
   ·have h := HR.out.up (show Grew w (fst9 W1 (w.heap.size + 1 + 1) ⟨id, kind, x, y, rad, aA, ac, area, dep, sym, sA, sc, secs⟩) from set9_grew HC.out.g (by omega))
    exact ⟨h.area, h.secs, h.la, h.ls, h.lc⟩
   ·intro g W3 hgl hst hgb
    have h := hst W3 (gb_trans ((show Grew w (fst9 W1 (w.heap.size + 1 + 1) ⟨id, kind, x, y, rad, aA, ac, area, dep, sym, sA, sc, secs⟩) from set9_grew HC.out.g (by omega)).grownBy _) hgb)
    exact ⟨h.area, h.secs, h.la, h.ls, h.lc⟩
  ·have hfm := fmod_nn hd (hrp.2.2 rfl)
   obtain ⟨m, hm2⟩ : ∃ m, dep % n = m := ⟨_, rfl⟩
   have HM := hide hm2
   rw [hm2] at hfm
   obtain ⟨htm, hm0, hm1⟩ := hfm
   have hn1 := hrp.2.2 rfl
   have hn0 : ¬ n = 0 := by omega
   have hw : IntKind.i64.wrap (dep - m) = dep - m := by unfold IntKind.wrap; simp [IntKind.bits, IntKind.signed]; omega
   clear hm2
   go_wp2_with fail
   refine wp_region_qas 9 [] [] hm (h := ?_)
   repeat (refine wpSteady_step (fun K hK => ?_); go_simp; refine hK _ ?_; clear hK K)
   refine rq0 fun nq osq => ?_
   try simp only [Act.put, setA]
   try dsimp only
   go_upto_region 11 with fail
   refine wp_name ?_
   intro W1 hW
   have HC : Hid (CHB w W1 ⟨id, kind, x, y, rad, aA, ac, area, (dep - m), sym, sA, sc, secs⟩) := hide (by rw [← hW]; exact (CHB.new w 2 kind n ⟨id, kind, x, y, rad, aA, ac, area, dep - m, sym, sA, sc, secs⟩).up gw)
   clear hW
   have x0 := blk_cell HC.out.x 0
   have x1 := blk_cell HC.out.x 1
   have x2 := blk_cell HC.out.x 2
   have x3 := blk_cell HC.out.x 3
   have x4 := blk_cell HC.out.x 4
   have x5 := blk_cell HC.out.x 5
   have x6 := blk_cell HC.out.x 6
   have x7 := blk_cell HC.out.x 7
   have x8 := blk_cell HC.out.x 8
   have xl := blk_lt HC.out.x
   have z0 := blk_cell HC.out.z 0
   have z1 := blk_cell HC.out.z 1
   have z2 := blk_cell HC.out.z 2
   have z3 := blk_cell HC.out.z 3
   have z4 := blk_cell HC.out.z 4
   have z5 := blk_cell HC.out.z 5
   have z6 := blk_cell HC.out.z 6
   have z7 := blk_cell HC.out.z 7
   have z8 := blk_cell HC.out.z 8
   have zf : ∀ i, W1.frozen? ⟨w.heap.size + 1 + 1, i, none⟩ = false := fun i => blk_frozen HC.out.z i
   have zl := blk_lt HC.out.z
   go_wp2_with fail
   refine chg_end HC.out rfl rfl rfl (by first | with_reducible exact Grew.refl _ | exact gw) ?_ ?_ ?_
   ·unfold chg
    first
     | (rw [if_neg HK.out]; done)
     | (rw [if_pos rfl]; rfl)
     | (rw [if_pos rfl]; unfold changeF; first | (rw [if_pos rfl, HM.out]; done) | (rw [if_neg (by decide), if_pos rfl]; done) | (rw [if_neg (by decide), if_neg (by decide), if_neg (by decide)]; done))
   ·have h := HR.out.up (show Grew w (fst9 W1 (w.heap.size + 1 + 1) ⟨id, kind, x, y, rad, aA, ac, area, (dep - m), sym, sA, sc, secs⟩) from set9_grew HC.out.g (by omega))
    exact ⟨h.area, h.secs, h.la, h.ls, h.lc⟩
   ·intro g W3 hgl hst hgb
    have h := hst W3 (gb_trans ((show Grew w (fst9 W1 (w.heap.size + 1 + 1) ⟨id, kind, x, y, rad, aA, ac, area, (dep - m), sym, sA, sc, secs⟩) from set9_grew HC.out.g (by omega)).grownBy _) hgb)
    exact ⟨h.area, h.secs, h.la, h.ls, h.lc⟩
  ·go_upto_region 11 with fail
   refine wp_name ?_
   intro W1 hW
   have HC : Hid (CHB w W1 ⟨id, kind, x, y, rad, aA, ac, area, dep, sym, sA, sc, secs⟩) := hide (by rw [← hW]; exact CHB.new w 3 kind n ⟨id, kind, x, y, rad, aA, ac, area, dep, sym, sA, sc, secs⟩)
   clear hW
   have x0 := blk_cell HC.out.x 0
   have x1 := blk_cell HC.out.x 1
   have x2 := blk_cell HC.out.x 2
   have x3 := blk_cell HC.out.x 3
   have x4 := blk_cell HC.out.x 4
   have x5 := blk_cell HC.out.x 5
   have x6 := blk_cell HC.out.x 6
   have x7 := blk_cell HC.out.x 7
   have x8 := blk_cell HC.out.x 8
   have xl := blk_lt HC.out.x
   have z0 := blk_cell HC.out.z 0
   have z1 := blk_cell HC.out.z 1
   have z2 := blk_cell HC.out.z 2
   have z3 := blk_cell HC.out.z 3
   have z4 := blk_cell HC.out.z 4
   have z5 := blk_cell HC.out.z 5
   have z6 := blk_cell HC.out.z 6
   have z7 := blk_cell HC.out.z 7
   have z8 := blk_cell HC.out.z 8
   have zf : ∀ i, W1.frozen? ⟨w.heap.size + 1 + 1, i, none⟩ = false := fun i => blk_frozen HC.out.z i
   have zl := blk_lt HC.out.z
   go_wp2_with fail
   refine chg_end HC.out rfl rfl rfl (by first | with_reducible exact Grew.refl _ | exact gw) ?_ ?_ ?_
   ·unfold chg
    first
     | (rw [if_neg HK.out]; done)
     | (rw [if_pos rfl]; rfl)
     | (rw [if_pos rfl]; unfold changeF; first | (rw [if_pos rfl, HM.out]; done) | (rw [if_neg (by decide), if_pos rfl]; done) | (rw [if_neg (by decide), if_neg (by decide), if_neg (by decide)]; done))
   ·have h := HR.out.up (show Grew w (fst9 W1 (w.heap.size + 1 + 1) ⟨id, kind, x, y, rad, aA, ac, area, dep, sym, sA, sc, secs⟩) from set9_grew HC.out.g (by omega))
    exact ⟨h.area, h.secs, h.la, h.ls, h.lc⟩
   ·intro g W3 hgl hst hgb
    have h := hst W3 (gb_trans ((show Grew w (fst9 W1 (w.heap.size + 1 + 1) ⟨id, kind, x, y, rad, aA, ac, area, dep, sym, sA, sc, secs⟩) from set9_grew HC.out.g (by omega)).grownBy _) hgb)
    exact ⟨h.area, h.secs, h.la, h.ls, h.lc⟩
  ·go_upto_region 11 with fail
   refine wp_name ?_
   intro W1 hW
   have HC : Hid (CHB w W1 ⟨id, kind, x, y, (max rad n), aA, ac, area, dep, sym, sA, sc, secs⟩) := hide (by rw [← hW]; exact CHB.new w 4 kind n ⟨id, kind, x, y, max rad n, aA, ac, area, dep, sym, sA, sc, secs⟩)
   clear hW
   have x0 := blk_cell HC.out.x 0
   have x1 := blk_cell HC.out.x 1
   have x2 := blk_cell HC.out.x 2
   have x3 := blk_cell HC.out.x 3
   have x4 := blk_cell HC.out.x 4
   have x5 := blk_cell HC.out.x 5
   have x6 := blk_cell HC.out.x 6
   have x7 := blk_cell HC.out.x 7
   have x8 := blk_cell HC.out.x 8
   have xl := blk_lt HC.out.x
   have z0 := blk_cell HC.out.z 0
   have z1 := blk_cell HC.out.z 1
   have z2 := blk_cell HC.out.z 2
   have z3 := blk_cell HC.out.z 3
   have z4 := blk_cell HC.out.z 4
   have z5 := blk_cell HC.out.z 5
   have z6 := blk_cell HC.out.z 6
   have z7 := blk_cell HC.out.z 7
   have z8 := blk_cell HC.out.z 8
   have zf : ∀ i, W1.frozen? ⟨w.heap.size + 1 + 1, i, none⟩ = false := fun i => blk_frozen HC.out.z i
   have zl := blk_lt HC.out.z
   go_wp2_with fail
   refine chg_end HC.out rfl rfl rfl (by first | with_reducible exact Grew.refl _ | exact gw) ?_ ?_ ?_
   ·unfold chg
    first
     | (rw [if_neg HK.out]; done)
     | (rw [if_pos rfl]; rfl)
     | (rw [if_pos rfl]; unfold changeF; first | (rw [if_pos rfl, HM.out]; done) | (rw [if_neg (by decide), if_pos rfl]; done) | (rw [if_neg (by decide), if_neg (by decide), if_neg (by decide)]; done))
   ·have h := HR.out.up (show Grew w (fst9 W1 (w.heap.size + 1 + 1) ⟨id, kind, x, y, (max rad n), aA, ac, area, dep, sym, sA, sc, secs⟩) from set9_grew HC.out.g (by omega))
    exact ⟨h.area, h.secs, h.la, h.ls, h.lc⟩
   ·intro g W3 hgl hst hgb
    have h := hst W3 (gb_trans ((show Grew w (fst9 W1 (w.heap.size + 1 + 1) ⟨id, kind, x, y, (max rad n), aA, ac, area, dep, sym, sA, sc, secs⟩) from set9_grew HC.out.g (by omega)).grownBy _) hgb)
    exact ⟨h.area, h.secs, h.la, h.ls, h.lc⟩
  ·have kb := hide (fun W (hg : Grew w W) => p3Box_v area aA ac (boxOf area) W ((HR.out.up hg).area) HR.out.la rfl)
   have kr := hide (fun W => p3Rect_v (boxOf area).1 W)
   have HCH : Hid (∀ A c, ({ id := id, kind := kind, x := x, y := y, rad := rad, aA := A, ac := c, area := (rectOf (boxOf area).1).1, dep := dep, sym := sym, sA := sA, sc := sc, secs := secs } : FV).bare = (chg 5 kind n ⟨id, kind, x, y, rad, aA, ac, area, dep, sym, sA, sc, secs⟩).bare) := hide (fun A c => by
    unfold chg
    rw [if_pos rfl]
    unfold changeF
    rw [if_neg (by decide), if_neg (by decide), if_pos rfl]
    rfl)
   have hrl := rect_len (boxOf area).1
   generalize boxOf area = bx at *
   go_wp2_with (go_at_call 100; with_reducible refine crv (kb.out _ gw) fun _ _ => ?_; dsimp only)
   refine calls_nm ?_
   intro X hX
   have HC0 : Hid (CHB w X ⟨id, kind, x, y, rad, aA, ac, area, dep, sym, sA, sc, secs⟩) := hide (by rw [← hX]; exact (CHB.new w 5 kind n ⟨id, kind, x, y, rad, aA, ac, area, dep, sym, sA, sc, secs⟩).up gw)
   clear hX kb
   refine (kr.out X).mono ?_
   rintro e W1 ⟨v, rfl, hown, hg1⟩
   have HC : Hid (CHB w W1 ⟨id, kind, x, y, rad, aA, ac, area, dep, sym, sA, sc, secs⟩) := hide (HC0.out.up hg1)
   have hX3 : w.heap.size + 1 + 1 < X.heap.size := blk_lt HC0.out.z
   obtain ⟨A', c', rfl, hc', hrd'⟩ := Rd.of_own encD_len hown rfl
   have HO := hide hown
   clear hown hg1 hrd' kr
   dsimp only
   generalize (rectOf bx.1).2 = er at *
   generalize (rectOf bx.1).1 = rs at *
   have x0 := blk_cell HC.out.x 0
   have x1 := blk_cell HC.out.x 1
   have x2 := blk_cell HC.out.x 2
   have x3 := blk_cell HC.out.x 3
   have x4 := blk_cell HC.out.x 4
   have x5 := blk_cell HC.out.x 5
   have x6 := blk_cell HC.out.x 6
   have x7 := blk_cell HC.out.x 7
   have x8 := blk_cell HC.out.x 8
   have xl := blk_lt HC.out.x
   have z0 := blk_cell HC.out.z 0
   have z1 := blk_cell HC.out.z 1
   have z2 := blk_cell HC.out.z 2
   have z3 := blk_cell HC.out.z 3
   have z4 := blk_cell HC.out.z 4
   have z5 := blk_cell HC.out.z 5
   have z6 := blk_cell HC.out.z 6
   have z7 := blk_cell HC.out.z 7
   have z8 := blk_cell HC.out.z 8
   have zf : ∀ i, W1.frozen? ⟨w.heap.size + 1 + 1, i, none⟩ = false := fun i => blk_frozen HC.out.z i
   have zl := blk_lt HC.out.z
   have xf : W1.frozen? ⟨w.heap.size + 1, 5, none⟩ = false := blk_frozen HC.out.x 5
   go_upto_region 11 with fail
   refine wp_name ?_
   intro W2 hW
   have HC2 : Hid (CHB w W2 ⟨id, kind, x, y, rad, A', c', rs, dep, sym, sA, sc, secs⟩) := hide (by rw [← hW]; exact CHB.set HC.out 5 (.slice A' rs.length c') rfl (by first | with_reducible exact Grew.refl _ | exact gw))
   have HO2 : Hid (W2.ownsRow X.heap.size 43 2 (.slice A' rs.length c') rs.length (rs.flatMap encD)) := hide (by rw [← hW]; first | with_reducible exact ownsRow_setCell_below HO.out (by show w.heap.size + 1 < _; omega) _ | exact fown_grew (ownsRow_setCell_below HO.out (by show w.heap.size + 1 < _; omega) _) gw)
   clear hW x0 x1 x2 x3 x4 x5 x6 x7 x8 xl z0 z1 z2 z3 z4 z5 z6 z7 z8 zf zl xf HO HC HC0
   have HC := HC2
   obtain ⟨W1, hW1⟩ : ∃ W, W = W2 := ⟨_, rfl⟩
   subst hW1
   have x0 := blk_cell HC.out.x 0
   have x1 := blk_cell HC.out.x 1
   have x2 := blk_cell HC.out.x 2
   have x3 := blk_cell HC.out.x 3
   have x4 := blk_cell HC.out.x 4
   have x5 := blk_cell HC.out.x 5
   have x6 := blk_cell HC.out.x 6
   have x7 := blk_cell HC.out.x 7
   have x8 := blk_cell HC.out.x 8
   have xl := blk_lt HC.out.x
   have z0 := blk_cell HC.out.z 0
   have z1 := blk_cell HC.out.z 1
   have z2 := blk_cell HC.out.z 2
   have z3 := blk_cell HC.out.z 3
   have z4 := blk_cell HC.out.z 4
   have z5 := blk_cell HC.out.z 5
   have z6 := blk_cell HC.out.z 6
   have z7 := blk_cell HC.out.z 7
   have z8 := blk_cell HC.out.z 8
   have zf : ∀ i, W1.frozen? ⟨w.heap.size + 1 + 1, i, none⟩ = false := fun i => blk_frozen HC.out.z i
   have zl := blk_lt HC.out.z
   go_wp2_with fail
   refine chg_end HC.out rfl rfl rfl (by first | with_reducible exact Grew.refl _ | exact gw) (HCH.out A' c') ?_ ?_
   ·have h := HR.out.up (show Grew w (fst9 W1 (w.heap.size + 1 + 1) ⟨id, kind, x, y, rad, A', c', rs, dep, sym, sA, sc, secs⟩) from set9_grew HC.out.g (by omega))
    obtain ⟨A2, c2, he, _, hr2⟩ := Rd.of_own (f := encD) encD_len (own_set9 HO2.out hX3) rfl
    have hA : A' = A2 := by injection he
    rw [← hA] at hr2
    exact ⟨hr2, h.secs, by show rs.length ≤ _; omega, h.ls, h.lc⟩
   ·intro g W3 hgl hst hgb
    have h := hst W3 (gb_trans ((show Grew w (fst9 W1 (w.heap.size + 1 + 1) ⟨id, kind, x, y, rad, A', c', rs, dep, sym, sA, sc, secs⟩) from set9_grew HC.out.g (by omega)).grownBy _) hgb)
    have ho := own_set9 (v0 := .int .i64 id) (v1 := .int .i64 kind) (v2 := .int .i64 x) (v3 := .int .i64 y) (v4 := .int .i64 rad) (v5 := .slice A' rs.length c') (v6 := .int .i64 dep) (v7 := .int .i64 sym) (v8 := .slice sA secs.length sc) HO2.out hX3
    have hk := ho.kept hgb (.inr (by
     intro e
     have := ho.lt g e
     omega))
    obtain ⟨A2, c2, he, _, hr2⟩ := Rd.of_own (f := encD) encD_len hk rfl
    have hA : A' = A2 := by injection he
    rw [← hA] at hr2
    exact ⟨hr2, h.secs, by show rs.length ≤ _; omega, h.ls, h.lc⟩
  ·exfalso
   have := hrp.1
   omega
 ·have hk1 : (kind != k) = true := by simpa using hk
  have hk2 : (kind == k) = false := by simpa using hk
  have HK := hide hk
  clear hk
  go_upto_region 2 with fail
  refine wp_name ?_
  intro W1 hW
  have HC : Hid (CHB w W1 ⟨id, kind, x, y, rad, aA, ac, area, dep, sym, sA, sc, secs⟩) := hide (by rw [← hW]; exact CHB.new w o k n ⟨id, kind, x, y, rad, aA, ac, area, dep, sym, sA, sc, secs⟩)
  clear hW
  have x0 := blk_cell HC.out.x 0
  have x1 := blk_cell HC.out.x 1
  have x2 := blk_cell HC.out.x 2
  have x3 := blk_cell HC.out.x 3
  have x4 := blk_cell HC.out.x 4
  have x5 := blk_cell HC.out.x 5
  have x6 := blk_cell HC.out.x 6
  have x7 := blk_cell HC.out.x 7
  have x8 := blk_cell HC.out.x 8
  have xl := blk_lt HC.out.x
  have z0 := blk_cell HC.out.z 0
  have z1 := blk_cell HC.out.z 1
  have z2 := blk_cell HC.out.z 2
  have z3 := blk_cell HC.out.z 3
  have z4 := blk_cell HC.out.z 4
  have z5 := blk_cell HC.out.z 5
  have z6 := blk_cell HC.out.z 6
  have z7 := blk_cell HC.out.z 7
  have z8 := blk_cell HC.out.z 8
  have zf : ∀ i, W1.frozen? ⟨w.heap.size + 1 + 1, i, none⟩ = false := fun i => blk_frozen HC.out.z i
  have zl := blk_lt HC.out.z
  go_wp2_with fail
  refine chg_end HC.out rfl rfl rfl (by first | with_reducible exact Grew.refl _ | exact gw) ?_ ?_ ?_
  ·unfold chg
   first
    | (rw [if_neg HK.out]; done)
    | (rw [if_pos rfl]; rfl)
    | (rw [if_pos rfl]; unfold changeF; first | (rw [if_pos rfl, HM.out]; done) | (rw [if_neg (by decide), if_pos rfl]; done) | (rw [if_neg (by decide), if_neg (by decide), if_neg (by decide)]; done))
  ·have h := HR.out.up (show Grew w (fst9 W1 (w.heap.size + 1 + 1) ⟨id, kind, x, y, rad, aA, ac, area, dep, sym, sA, sc, secs⟩) from set9_grew HC.out.g (by omega))
   exact ⟨h.area, h.secs, h.la, h.ls, h.lc⟩
  ·intro g W3 hgl hst hgb
   have h := hst W3 (gb_trans ((show Grew w (fst9 W1 (w.heap.size + 1 + 1) ⟨id, kind, x, y, rad, aA, ac, area, dep, sym, sA, sc, secs⟩) from set9_grew HC.out.g (by omega)).grownBy _) hgb)
   exact ⟨h.area, h.secs, h.la, h.ls, h.lc⟩
end Go.Proofs.YtfeccolljfkejaaGreatDoor
