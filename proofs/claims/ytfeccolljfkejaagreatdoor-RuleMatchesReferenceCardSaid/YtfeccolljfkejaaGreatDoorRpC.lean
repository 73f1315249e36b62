/- Package rule's reader: a rule. -/
import Derived.Test.YtfeccolljfkejaaGreatDoorRpN
import Derived.Deep.CutRange
import Derived.Deep.DeepCutAuto
set_option linter.unusedSimpArgs false
set_option linter.unusedVariables false
set_option maxHeartbeats 8000000
set_option maxRecDepth 100000
namespace Go.Proofs.YtfeccolljfkejaaGreatDoor
open Go.RowKit Go.Sort
attribute [local go_sem] Steady steadyUpon
attribute [local go_sem ↓] hs_dr lt_add_r lt_add_r2 lt_add_r3 lt_add_r4 lt_add_r5 lt_add_r6
attribute [local go_sem] cell?_gd frozen?_gd setCell_gd size_grow tape_grow cell?_grow' frozen?_grow' setCell_grow' grow_grow grow_dr grow_drew dr_dr dr_drew drew_dr dr_alloc dr_setCell dr_cell dr_frozen dr_tape dr_drawn
attribute [local irreducible] wpSteady
theorem run_store_nilF (P : Program) (w : World) (a : Addr) (m : Mode) : (store a .nilFunc m).run P w = stored P w a .nilFunc m := run_store P w a _ m rfl
attribute [local go_sem] run_store_func' run_store_nilF
theorem FormsAt.row5 {W : World} {g b1 b2 b3 b4 b5 : Nat} (h : FormsAt W g b1 b2 b3 b4 b5) {k : Nat} (hk : k < 6) : ∃ (A : Option Addr) (m : Nat) (lo hi : Int) (fv : Value), W.cell? ⟨g, k * 5, none⟩ = some (.string (opA k)) ∧ W.cell? ⟨g, k * 5 + 1, none⟩ = some (.slice A m m) ∧ W.cell? ⟨g, k * 5 + 2, none⟩ = some (.int .i64 lo) ∧ W.cell? ⟨g, k * 5 + 3, none⟩ = some (.int .i64 hi) ∧ W.cell? ⟨g, k * 5 + 4, none⟩ = some fv ∧ (fv = .nilFunc ∨ ∃ q, fv = .func (.func q) #[] #[]) := by
 have hc : k = 0 ∨ k = 1 ∨ k = 2 ∨ k = 3 ∨ k = 4 ∨ k = 5 := by omega
 rcases hc with rfl | rfl | rfl | rfl | rfl | rfl
 ·exact ⟨_, _, _, _, _, blk_cell h.row 0, blk_cell h.row 1, blk_cell h.row 2, blk_cell h.row 3, blk_cell h.row 4, .inl rfl⟩
 ·exact ⟨_, _, _, _, _, blk_cell h.row 5, blk_cell h.row 6, blk_cell h.row 7, blk_cell h.row 8, blk_cell h.row 9, .inl rfl⟩
 ·exact ⟨_, _, _, _, _, blk_cell h.row 10, blk_cell h.row 11, blk_cell h.row 12, blk_cell h.row 13, blk_cell h.row 14, .inr ⟨_, rfl⟩⟩
 ·exact ⟨_, _, _, _, _, blk_cell h.row 15, blk_cell h.row 16, blk_cell h.row 17, blk_cell h.row 18, blk_cell h.row 19, .inl rfl⟩
 ·exact ⟨_, _, _, _, _, blk_cell h.row 20, blk_cell h.row 21, blk_cell h.row 22, blk_cell h.row 23, blk_cell h.row 24, .inr ⟨_, rfl⟩⟩
 ·exact ⟨_, _, _, _, _, blk_cell h.row 25, blk_cell h.row 26, blk_cell h.row 27, blk_cell h.row 28, blk_cell h.row 29, .inr ⟨_, rfl⟩⟩
theorem srInf : (Tryz.prog.info? 9).map (fun i => (i.zero, i.size, i.bytes)) = some (some (.string ⟨#[]⟩), 1, 16) := by kernel_rfl
theorem srInfo_parts : ∃ i, Tryz.prog.info? 9 = some i ∧ i.zero = some (.string ⟨#[]⟩) ∧ i.size = 1 ∧ i.bytes = 16 := by
 have h := srInf
 cases hi : Tryz.prog.info? 9 with
 | none => rw [hi] at h; simp at h
 | some i =>
  rw [hi] at h
  simp at h
  exact ⟨i, rfl, h.1, h.2.1, h.2.2⟩
theorem encS_len (x : ByteArray) : (encS x).length = 1 := rfl
theorem sr_one (ss : List ByteArray) : ∀ u ∈ ss.flatMap encS, u.oneCell' = true := by
 intro u hu
 obtain ⟨s, _, hs⟩ := List.mem_flatMap.1 hu
 simp [encS] at hs
 subst hs
 rfl
theorem Rd.litS (w : World) (x : ByteArray) (b : Nat) (T : TypeId) (hb : b = w.heap.size) : Rd (w.alloc (.cells #[.string x] T)) (w.heap.size + 1) 1 (some ⟨b, 0, none⟩) ([x].map encS) := by
 subst hb
 refine .inr ⟨w.heap.size, 0, rfl, by omega, fun k y hk j v hv => ?_⟩
 cases k with
 | succ k => simp at hk
 | zero =>
  simp at hk
  subst hk
  cases j with
  | succ j => simp [encS] at hv
  | zero =>
   simp [encS] at hv
   subst hv
   exact blk_cell (heap_alloc_new w _) 0
theorem word_ok {ls : List ByteArray} {s : ByteArray} {i k a : Nat} (hi : i ≤ s.size) (h : wordAt ls s i = .ok (k, a)) : k < ls.length ∧ a = endOf isBl s i ∧ a ≤ s.size ∧ ls.getD k ⟨#[]⟩ = s.extract a (endOf (inR 97 122) s a) ∧ a < endOf (inR 97 122) s a ∧ (ls.getD k ⟨#[]⟩).size = endOf (inR 97 122) s a - a ∧ a + (ls.getD k ⟨#[]⟩).size ≤ s.size := by
 unfold wordAt at h
 have h0 := endOf_le (p := isBl) hi
 split at h
 ·cases h
 ·rename_i hne
  split at h
  ·cases h
  ·rename_i hneg
   injection h with h
   injection h with h1 h2
   subst h2
   have h3 := endOf_ge (inR 97 122) s (endOf isBl s i)
   have h4 := endOf_le (p := inR 97 122) h0
   obtain ⟨x, hx⟩ : ∃ x, s.extract (endOf isBl s i) (endOf (inR 97 122) s (endOf isBl s i)) = x := ⟨_, rfl⟩
   rw [hx] at h1 hneg
   have hsz : x.size = endOf (inR 97 122) s (endOf isBl s i) - endOf isBl s i := by
    rw [← hx, ByteArray.size_extract]
    omega
   have hk : ls[k]? = some x := by
    unfold wIdx at h1 hneg
    cases hf : ls.findIdx? (strB x) with
    | none => rw [hf] at hneg; simp at hneg
    | some m =>
     rw [hf] at h1
     simp at h1
     subst h1
     obtain ⟨g1, g2, _⟩ := List.findIdx?_eq_some_iff_getElem.1 hf
     rw [List.getElem?_eq_getElem g1, ← strB_iff.1 g2]
   have hg : ls.getD k ⟨#[]⟩ = x := by rw [List.getD_eq_getElem?_getD, hk]; rfl
   rw [hg, hx]
   exact ⟨(List.getElem?_eq_some_iff.1 hk).1, rfl, h0, rfl, by omega, hsz, by omega⟩
theorem op_ok {s : ByteArray} {i q a : Nat} (hi : i ≤ s.size) (h : wordAt opW s i = .ok (q, a)) : (1 ≤ q ∧ q ≤ 5) ∧ a ≤ s.size ∧ a + (opA q).size ≤ s.size := by
 obtain ⟨h1, _, h2, _, h3, h4, h5⟩ := word_ok hi h
 have h6 : q < 6 := h1
 refine ⟨⟨?_, by omega⟩, h2, h5⟩
 cases q with
 | zero =>
  have : (opW.getD 0 ⟨#[]⟩).size = 0 := rfl
  omega
 | succ q => omega
theorem kd_ok {s : ByteArray} {i k a : Nat} (hi : i ≤ s.size) (h : wordAt kdW s i = .ok (k, a)) : k < 7 ∧ a ≤ s.size ∧ a + (kdA k).size ≤ s.size := by
 obtain ⟨h1, _, h2, _, _, _, h5⟩ := word_ok hi h
 exact ⟨h1, h2, h5⟩
theorem Rd.gb1 {w w' : World} {m R : Nat} {A : Option Addr} {xs : List (List Value)} (h : Rd w w.heap.size m A xs) (hA : ∀ b off, A = some ⟨b, off, none⟩ → b ≠ R) (g : w.grownBy w' (some R)) : Rd w' w'.heap.size m A xs := by
 rcases h with h | ⟨b, o, rfl, hlt, hc⟩
 ·exact .inl h
 ·exact Rd.blk1 (.inr ⟨b, o, rfl, hlt, hc⟩) (g.block b hlt (fun e => hA b o rfl (Option.some.inj e))) g.size
theorem old_cell_lt {w w' : World} {B : Nat} (h : Grew w w') (hB : B ≤ w.heap.size) : ∀ b i, b < B → w'.cell? ⟨b, i, none⟩ = w.cell? ⟨b, i, none⟩ := fun b i hb => old_cell h b i (by omega)
/-- Five cells stored in a block. -/
abbrev st5 (W : World) (F : Nat) (v0 v1 v2 v3 v4 : Value) : World := ((((W.setCell ⟨F, 0, none⟩ v0).setCell ⟨F, 1, none⟩ v1).setCell ⟨F, 2, none⟩ v2).setCell ⟨F, 3, none⟩ v3).setCell ⟨F, 4, none⟩ v4
theorem st5_at {W : World} {F : Nat} {a0 a1 a2 a3 a4 v0 v1 v2 v3 v4 : Value} {T : TypeId} (h : W.heap[F]? = some (.cells #[a0, a1, a2, a3, a4] T (0, 0))) : (st5 W F v0 v1 v2 v3 v4).heap[F]? = some (.cells #[v0, v1, v2, v3, v4] T (0, 0)) := by
 have h1 := heap_setCell_same _ F 0 _ _ v0 h
 have h2 := heap_setCell_same _ F 1 _ _ v1 h1
 have h3 := heap_setCell_same _ F 2 _ _ v2 h2
 have h4 := heap_setCell_same _ F 3 _ _ v3 h3
 have h5 := heap_setCell_same _ F 4 _ _ v4 h4
 simpa using h5
theorem st5_other {W : World} {F k : Nat} {v0 v1 v2 v3 v4 : Value} (h : k ≠ F) : (st5 W F v0 v1 v2 v3 v4).heap[k]? = W.heap[k]? := by
 rw [heap_setCell_other _ ⟨F, 4, none⟩ k v4 h, heap_setCell_other _ ⟨F, 3, none⟩ k v3 h, heap_setCell_other _ ⟨F, 2, none⟩ k v2 h, heap_setCell_other _ ⟨F, 1, none⟩ k v1 h, heap_setCell_other _ ⟨F, 0, none⟩ k v0 h]
theorem st5_grew {W W' : World} {F : Nat} {v0 v1 v2 v3 v4 : Value} (h : Grew W W') (hF : W.heap.size ≤ F) : Grew W (st5 W' F v0 v1 v2 v3 v4) := by
 have hb := h.below
 refine Grew.of_below ⟨hb.os, hb.tape, hb.output, by simpa using hb.size, fun k hk => ?_⟩
 rw [st5_other (by omega)]
 exact hb.block k hk
theorem fa_new {w W : World} {B R X0 X b : Nat} {s : ByteArray} {a q k n : Int} {cs : Array Value} {ks : List Int} (h : RS w W B R X0 X s a q k n) (hcs : W.heap[b]? = some (.cells cs 3 (0, 0))) (hkd : Rd W W.heap.size 1 (some ⟨b, 0, none⟩) (ks.map encN)) (wd : ByteArray) (lo hi : Int) (fv : Value) :
  FA (W.alloc (.cells #[.string wd, .slice (some ⟨b, 0, none⟩) ks.length ks.length, .int .i64 lo, .int .i64 hi, fv] 74)) R X W.heap.size b wd lo hi fv ks := by
 refine ⟨heap_alloc_new _ _, hkd.up (Grew.alloc (Grew.refl W) _), ?_, ?_, ?_, ?_, by have := blk_lt hcs; simp; omega⟩
 ·have := blk_lt h.rd; omega
 ·have := blk_lt h.x; omega
 ·intro e
  subst e
  have := hcs.symm.trans h.rd
  simp at this
 ·intro e
  subst e
  have := hcs.symm.trans h.x
  simp at this
theorem fa_old {w W : World} {B R X0 X F b : Nat} {s : ByteArray} {a q k n : Int} {cs : Array Value} {ks : List Int} {a0 a1 a2 a3 a4 : Value} (h : RS w W B R X0 X s a q k n) (hF : W.heap[F]? = some (.cells #[a0, a1, a2, a3, a4] 74 (0, 0))) (hcs : W.heap[b]? = some (.cells cs 3 (0, 0))) (hkd : Rd W W.heap.size 1 (some ⟨b, 0, none⟩) (ks.map encN)) (wd : ByteArray) (lo hi : Int) (fv : Value) :
  FA (st5 W F (.string wd) (.slice (some ⟨b, 0, none⟩) ks.length ks.length) (.int .i64 lo) (.int .i64 hi) fv) R X F b wd lo hi fv ks := by
 have hbF : b ≠ F := by
  intro e
  subst e
  have := hcs.symm.trans hF
  simp at this
 refine ⟨st5_at hF, hkd.blk1 (st5_other hbF) (by simp), ?_, ?_, ?_, ?_, by have := blk_lt hcs; simpa using this⟩
 ·intro e
  subst e
  have := hF.symm.trans h.rd
  simp at this
 ·intro e
  subst e
  have := hF.symm.trans h.x
  simp at this
 ·intro e
  subst e
  have := hcs.symm.trans h.rd
  simp at this
 ·intro e
  subst e
  have := hcs.symm.trans h.x
  simp at this
theorem FormsAt.form {W : World} {g b1 b2 b3 b4 b5 : Nat} (h : FormsAt W g b1 b2 b3 b4 b5) {q : Nat} (hq : 1 ≤ q ∧ q ≤ 5) : ∃ (fv : Value) (b : Nat), (W.cell? ⟨g, q * 5, none⟩ = some (.string (opA q)) ∧ W.cell? ⟨g, q * 5 + 1, none⟩ = some (.slice (some ⟨b, 0, none⟩) (opKinds (q : Int)).length (opKinds (q : Int)).length) ∧ W.cell? ⟨g, q * 5 + 2, none⟩ = some (.int .i64 (opLeast (q : Int))) ∧ W.cell? ⟨g, q * 5 + 3, none⟩ = some (.int .i64 (opMost (q : Int))) ∧ W.cell? ⟨g, q * 5 + 4, none⟩ = some fv) ∧ (fv = .nilFunc ∨ ∃ q, fv = .func (.func q) #[] #[]) ∧ (∃ cs, W.heap[b]? = some (.cells cs 3 (0, 0))) ∧ Rd W W.heap.size 1 (some ⟨b, 0, none⟩) ((opKinds (q : Int)).map encN) := by
 rcases five hq with rfl | rfl | rfl | rfl | rfl
 ·exact ⟨_, b1, ⟨blk_cell h.row 5, blk_cell h.row 6, blk_cell h.row 7, blk_cell h.row 8, blk_cell h.row 9⟩, .inl rfl, ⟨_, h.k1⟩, rdN [0] h.k1 rfl⟩
 ·exact ⟨_, b2, ⟨blk_cell h.row 10, blk_cell h.row 11, blk_cell h.row 12, blk_cell h.row 13, blk_cell h.row 14⟩, .inr ⟨_, rfl⟩, ⟨_, h.k2⟩, rdN [1, 2, 3, 5] h.k2 rfl⟩
 ·exact ⟨_, b3, ⟨blk_cell h.row 15, blk_cell h.row 16, blk_cell h.row 17, blk_cell h.row 18, blk_cell h.row 19⟩, .inl rfl, ⟨_, h.k3⟩, rdN [1, 2, 5] h.k3 rfl⟩
 ·exact ⟨_, b4, ⟨blk_cell h.row 20, blk_cell h.row 21, blk_cell h.row 22, blk_cell h.row 23, blk_cell h.row 24⟩, .inr ⟨_, rfl⟩, ⟨_, h.k4⟩, rdN [1, 2, 5] h.k4 rfl⟩
 ·exact ⟨_, b5, ⟨blk_cell h.row 25, blk_cell h.row 26, blk_cell h.row 27, blk_cell h.row 28, blk_cell h.row 29⟩, .inr ⟨_, rfl⟩, ⟨_, h.k5⟩, rdN [3, 6] h.k5 rfl⟩
theorem RW.cast {R e : Nat} {s : ByteArray} {w w' : World} (h : RW R s ((e : Int) + 1) w w') : RW R s ((e + 1 : Nat) : Int) w w' := by simpa using h
theorem rule_end {w W W' : World} {B R X0 X : Nat} {s : ByteArray} {e q k n : Int} {v0 v1 v2 : Value} {fn : Func} {R' : Ending → World → Prop} {a : Act} (h : RS w W B R X0 X s e q k n) (hres : fn.results = #[.cell 2 36]) (hp : a.tmps.getD 2 undef = .pointer (some ⟨X0, 0, none⟩)) (hd : a.defers = []) (g : Grew (((W.setCell ⟨X0, 0, none⟩ v0).setCell ⟨X0, 1, none⟩ v1).setCell ⟨X0, 2, none⟩ v2) W') (hR : R' (.returned (.agg #[v0, v1, v2])) W') : bodyPost Tryz.prog fn R' .ret a W' := by
 have h1 := heap_setCell_same _ X0 0 _ _ v0 h.z
 have h2 := heap_setCell_same _ X0 1 _ _ v1 h1
 have h3 := heap_setCell_same _ X0 2 _ _ v2 h2
 have h4 := (g.heap (blk_lt h3)).trans h3
 have h5 : W'.heap[X0]? = some (.cells #[v0, v1, v2] 36 (0, 0)) := by rw [h4]; simp
 exact bodyPost_ret (results_cell_row hres _ _ X0 _ _ _ _ hp h5 Tryz.underlying36 rfl (by kernel_rfl)) hd hR
theorem rule_v (s : ByteArray) (R i : Nat) (w : World) (h : w.heap[R]? = some (rcl s (i : Int))) (hi : i ≤ s.size) (hs : s.size ≤ 100000000000000) (B : Nat) (hkw : KwAt w B) (hBR : B ≤ R) :
  Calls Tryz.prog 41 #[.pointer (some ⟨R, 0, none⟩)] w (RuleR s R i w) := by
 have hm := hmix
 have H := hide h
 have HKW := hide hkw
 have hRl := blk_lt h
 obtain ⟨rr, hrr⟩ : ∃ rr, ruleAt s i = rr := ⟨_, rfl⟩
 unfold RuleR
 rw [hrr]
 unfold ruleAt at hrr
 obtain ⟨wa, hwa⟩ : ∃ wa, wordAt opW s i = wa := ⟨_, rfl⟩
 rw [hwa] at hrr
 have HRR := hide hrr
 have HWA := hide hwa
 obtain ⟨i0, hi0, hz0, hz1, hz2⟩ := srInfo_parts
 clear h hkw hrr hwa
 go_enter Tryz.func41, Tryz.ntmps41
 go_wp2_with fail
 refine (forms_v _).mono ?_
 rintro e w1 ⟨g, b1, b2, b3, b4, b5, rfl, hF, hgr⟩
 have HF := hide hF
 have HG1 : Hid (Grew (w.alloc (.cells #[.int .i64 0, .int .i64 0, .int .i64 0] 36)) w1) := hide hgr
 clear hF hgr
 dsimp only
 go_wp2_with fail
 go_loopw [3, 12] (fun v i wr => ∃ k : Nat, k ≤ 6 ∧ i = .int .i64 k ∧ Grew w1 wr ∧ wr.ownsRow w1.heap.size 9 1 v k ((opW.take k).flatMap encS)) (fun _ i _ => 6 - (intOf i).toNat)
 case atStart => exact ⟨0, by omega, rfl, gw, World.ownsRow_nil _ _ _ _⟩
 case round =>
  obtain ⟨k, hk, rfl, hg, hown⟩ := hrel
  have HG := hide hg
  have HO := hide hown
  clear hg hown
  by_cases hlt : k < 6
  ·obtain ⟨A5, m5, lo5, hi5, fv, c0, c1, c2, c3, c4, hfv⟩ := (HF.out.up HG.out).row5 hlt
   have cl := blk_lt (HF.out.up HG.out).row
   have hix := idx_run (cap := 6) (len := 6) (A := some ⟨g, 0, none⟩) (b := g) (off := 0) Tryz.underlying75 Tryz.sizeOf74 rfl hlt
   simp only [Nat.zero_add] at hix
   have hst : (opW.take (k + 1)).flatMap encS = (opW.take k).flatMap encS ++ [opA k].flatMap encS := by
    rw [List.take_add_one, opA_get hlt, List.flatMap_append]
    rfl
   have HST := hide hst
   clear hst
   rcases hfv with rfl | ⟨q, rfl⟩
   all_goals
    go_wp2_with (at_builtin; refine AppG3.stop ?_)
    refine AppG3.go ?_
    refine wpList_append_any _ rfl (.tmp 16) (.tmp 19) _ rfl w1.heap.size 9 i0 _ 1 16 Tryz.underlying77 hi0 hz0 hz1 hz2 rfl (by omega) _ k ((opW.take k).flatMap encS) rfl (fown_grew HO.out gw) _ (some ⟨_, 0, none⟩) 1 1 ([opA k].flatMap encS) rfl ((Rd.litS _ (opA k) _ _ (by simp [hs_dr])).reads encS_len (by omega)) (sr_one _) (by simp only [maxLen]; omega) (by omega) (by have := HG.out.below.size; simp [hs_dr]; omega) ?_
    intro v' w2 hown1 hg1 _
    have HO1 := hide hown1
    have HG1' : Hid (Grew w1 w2) := hide (ggrown (HG.out.trans gw) (fown_grew HO.out gw) (Nat.le_refl _) hg1)
    clear hown1 hg1
    go_wp2_with fail
    go_roundw
    case rel => exact ⟨k + 1, by omega, by go_num, HG1'.out, by rw [HST.out]; exact HO1.out⟩
    case measure => simp [intOf]; omega
  ·obtain rfl : k = 6 := by omega
   obtain ⟨A2, c2, rfl, _, hrd2⟩ := Rd.of_own (f := encS) (xs := opW) encS_len HO.out rfl
   have hA2 : ∀ b off, A2 = some ⟨b, off, none⟩ → b ≠ R := fun b off e => by
    have h1 := (HO.out.lt b (by rw [e]; rfl)).1
    have h2 := HG1.out.below.size
    simp at h2
    omega
   have hgw : Grew w wr := (Grew.alloc (Grew.refl w) _).trans (HG1.out.trans HG.out)
   have hz : wr.heap[w.heap.size]? = some (.cells #[.int .i64 0, .int .i64 0, .int .i64 0] 36 (0, 0)) := (HG.out.heap (blk_lt ((HG1.out.heap (by simp)).trans (heap_alloc_new w _)))).trans ((HG1.out.heap (by simp)).trans (heap_alloc_new w _))
   have hR0 : wr.heap[R]? = some (rcl s (i : Int)) := (hgw.heap hRl).trans H.out
   have kw := hide (fun W (hg : Grew wr W) => word_v opW A2 c2 s R i W ((hg.heap (blk_lt hR0)).trans hR0) hi hs (fun w' hw' => Rd.gb1 (hrd2.up hg) hA2 hw') (by decide))
   have HGW := hide hgw
   have HZ := hide hz
   have hkw2 : KwAt wr B := HKW.out.keep (old_cell_lt hgw (by omega))
   have HKW2 := hide hkw2
   clear hrd2 hA2 hgw hz hR0 HO HG HF HG1 hkw2 HKW hlt
   go_wp2_with fail
   refine (kw.out _ gw).mono ?_
   unfold WordR
   rw [HWA.out]
   cases wa with
   | error pe =>
    obtain ⟨p, e⟩ := pe
    obtain rfl := HRR.out
    rintro en w3 ⟨rfl, hgb⟩
    have HGB := hide hgb
    clear hgb kw
    dsimp only
    go_wp2_with fail
    exact ⟨rfl, rfl, gb_tr (HGW.out.grownBy _) HGB.out⟩
   | ok qa =>
    obtain ⟨q, a⟩ := qa
    rintro en w3 ⟨rfl, hrw⟩
    have hop := op_ok hi HWA.out
    have HRW := hide hrw
    have HOP := hide hop
    clear hrw kw hop
    dsimp only
    have HX : Hid (RS w (w3.alloc (.cells #[.int .i64 (q : Int), .int .i64 0, .int .i64 0] 36)) B R w.heap.size w3.heap.size s (a : Int) (q : Int) 0 0) := hide ⟨(Grew.heap (Grew.alloc (Grew.refl _) _) (blk_lt HRW.out.at_)).trans HRW.out.at_, heap_alloc_new _ _, (Grew.heap (Grew.alloc (Grew.refl _) _) (blk_lt (HRW.out.old (by omega) HZ.out))).trans (HRW.out.old (by omega) HZ.out), (HKW2.out.gb HRW.out.gb hBR (by have := HGW.out.below.size; omega)).keep (old_cell_lt (Grew.alloc (Grew.refl _) _) (by have := blk_lt HRW.out.at_; omega)), gb_tr (HGW.out.grownBy _) (HRW.out.grew (Grew.alloc (Grew.refl _) _)).gb, hBR, hRl, by have := blk_lt (HRW.out.old (by omega) HZ.out); omega, Nat.le_refl _⟩
    go_upto_region 8 with fail
    go_cut [7] (fun t7 wc => ∃ F b fv, t7 = .pointer (some ⟨F, 0, none⟩) ∧ RS w wc B R w.heap.size w3.heap.size s (a : Int) (q : Int) 0 0 ∧ FA wc R w3.heap.size F b (opA q) (opLeast (q : Int)) (opMost (q : Int)) fv (opKinds (q : Int)))
    case first =>
     refine wp_name ?_
     intro W4 hW
     rw [hW] at HX
     clear hW
     refine wp_region_held_drew (S := (fun w' => w'.cell? ⟨w3.heap.size, 0, none⟩ = some (.int .i64 (q : Int)))) hm ?_ (fun hHeld => ?_)
     ·exact blk_cell ((HX.out.grew gw).x) 0
     refine tk 1 ?_
     refine tk 2 ?_
     try simp only [Act.put, setA, getA]
     refine wpAnyH_ready (rs := [0, 5]) (by kernel_rfl) (by simp) ?_
     refine AllReadyH.cons (o := _) rfl (fun K hK => ?_) (AllReadyH.cons (o := _) rfl (fun K hK => ?_) AllReadyH.nil)
     ·-- the call of forms first
      go_simp
      go_at_call 35
      refine (forms_v _).mono ?_
      rintro e Wn ⟨g', b1', b2', b3', b4', b5', rfl, hF, hgr⟩
      have HGn := hide hgr
      obtain ⟨fv, b, ⟨c0, c1, c2, c3, c4⟩, hfv, ⟨cs, hcs⟩, hkd⟩ := hF.form HOP.out.1
      have cl := blk_lt hF.row
      have HKD := hide hkd
      have HCS := hide hcs
      have hix := idx_run (cap := 6) (len := 6) (k := q) (A := some ⟨g', 0, none⟩) (b := g') (off := 0) Tryz.underlying75 Tryz.sizeOf74 rfl (by have := HOP.out.1.2; omega)
      simp only [Nat.zero_add] at hix
      clear hF hgr hkd hcs
      dsimp only
      refine hK.out _ _ ?_ (fun hHeld => ?_)
      ·first | exact hHeld | exact blk_cell ((HX.out.grew gw).x) 0
      clear hK K
      try simp only [Act.put, setA, getA]
      refine tk 3 ?_
      try simp only [Act.put, setA, getA]
      refine wpAnyH_ready (rs := [4, 5]) (by kernel_rfl) (by simp) ?_
      refine AllReadyH.cons (o := _) rfl (fun K hK => ?_) (AllReadyH.cons (o := _) rfl (fun K hK => ?_) AllReadyH.nil)
      ·
       go_simp
       refine hK.out _ _ ?_ (fun hHeld => ?_)
       ·first | exact hHeld | exact blk_cell ((HX.out.grew gw).x) 0
       clear hK K
       try simp only [Act.put, setA, getA]
       refine wpAnyH_ready (rs := [5]) (by kernel_rfl) (by simp) ?_
       refine AllReadyH.cons (o := _) rfl (fun K hK => ?_) AllReadyH.nil
       go_simp
       refine hK.out _ _ ?_ (fun hHeld => ?_)
       ·first | exact hHeld | exact blk_cell ((HX.out.grew gw).x) 0
       clear hK K
       try simp only [Act.put, setA, getA]
       rcases hfv with rfl | ⟨q', rfl⟩
       all_goals
        refine wpAnyH_ready (rs := [6]) (by kernel_rfl) (by simp) ?_
        refine AllReadyH.cons (o := _) rfl (fun K hK => ?_) AllReadyH.nil
        go_simp
        refine hK.out _ _ ?_ (fun hHeld => ?_)
        ·first | exact hHeld | exact blk_cell ((HX.out.grew gw).x) 0
        clear hK K
        try simp only [Act.put, setA, getA]
        refine wpAnyH_done (by kernel_rfl) ?_ _
        go_wp2_with fail
        go_meet
        exact ⟨_, _, _, rfl, HX.out.grew gw, fa_new (HX.out.grew gw) HCS.out HKD.out _ _ _ _⟩
      ·
       go_simp
       refine hK.out _ _ ?_ (fun hHeld => ?_)
       ·first | exact hHeld | exact blk_cell ((HX.out.grew gw).x) 0
       clear hK K
       try simp only [Act.put, setA, getA]
       refine wpAnyH_ready (rs := [4]) (by kernel_rfl) (by simp) ?_
       refine AllReadyH.cons (o := _) rfl (fun K hK => ?_) AllReadyH.nil
       go_simp
       refine hK.out _ _ ?_ (fun hHeld => ?_)
       ·first | exact hHeld | exact blk_cell ((HX.out.grew gw).x) 0
       clear hK K
       try simp only [Act.put, setA, getA]
       rcases hfv with rfl | ⟨q', rfl⟩
       all_goals
        refine wpAnyH_ready (rs := [6]) (by kernel_rfl) (by simp) ?_
        refine AllReadyH.cons (o := _) rfl (fun K hK => ?_) AllReadyH.nil
        go_simp
        refine hK.out _ _ ?_ (fun hHeld => ?_)
        ·first | exact hHeld | exact blk_cell ((HX.out.grew gw).x) 0
        clear hK K
        try simp only [Act.put, setA, getA]
        refine wpAnyH_done (by kernel_rfl) ?_ _
        go_wp2_with fail
        go_meet
        exact ⟨_, _, _, rfl, HX.out.grew gw, fa_new (HX.out.grew gw) HCS.out HKD.out _ _ _ _⟩
     ·
      go_simp
      refine hK.out _ _ ?_ (fun hHeld => ?_)
      ·first | exact hHeld | exact blk_cell ((HX.out.grew gw).x) 0
      clear hK K
      try simp only [Act.put, setA, getA]
      refine wpAnyH_ready (rs := [0]) (by kernel_rfl) (by simp) ?_
      refine AllReadyH.cons (o := _) rfl (fun K hK => ?_) AllReadyH.nil
      go_simp
      go_at_call 35
      refine (forms_v _).mono ?_
      rintro e Wn ⟨g', b1', b2', b3', b4', b5', rfl, hF, hgr⟩
      have HGn := hide hgr
      obtain ⟨fv, b, ⟨c0, c1, c2, c3, c4⟩, hfv, ⟨cs, hcs⟩, hkd⟩ := hF.form HOP.out.1
      have cl := blk_lt hF.row
      have HKD := hide hkd
      have HCS := hide hcs
      have hix := idx_run (cap := 6) (len := 6) (k := q) (A := some ⟨g', 0, none⟩) (b := g') (off := 0) Tryz.underlying75 Tryz.sizeOf74 rfl (by have := HOP.out.1.2; omega)
      simp only [Nat.zero_add] at hix
      clear hF hgr hkd hcs
      dsimp only
      have hF0 : Wn.heap[W4.heap.size]? = some (.cells #[.string ⟨#[]⟩, .slice none 0 0, .int .i64 0, .int .i64 0, .nilFunc] 74 (0, 0)) := (HGn.heap (by simp)).trans (heap_alloc_new W4.drew (.cells #[.string ⟨#[]⟩, .slice none 0 0, .int .i64 0, .int .i64 0, .nilFunc] 74))
      have HF0 := hide hF0
      have cF0 := blk_lt hF0
      have cd0 : Wn.cell? ⟨W4.heap.size, 0, none⟩ = some _ := blk_cell hF0 0
      have cd1 : Wn.cell? ⟨W4.heap.size, 1, none⟩ = some _ := blk_cell hF0 1
      have cd2 : Wn.cell? ⟨W4.heap.size, 2, none⟩ = some _ := blk_cell hF0 2
      have cd3 : Wn.cell? ⟨W4.heap.size, 3, none⟩ = some _ := blk_cell hF0 3
      have cd4 : Wn.cell? ⟨W4.heap.size, 4, none⟩ = some _ := blk_cell hF0 4
      have cG0 : Wn.frozen? ⟨W4.heap.size, 0, none⟩ = false := blk_frozen hF0 0
      have cG1 : Wn.frozen? ⟨W4.heap.size, 1, none⟩ = false := blk_frozen hF0 1
      have cG2 : Wn.frozen? ⟨W4.heap.size, 2, none⟩ = false := blk_frozen hF0 2
      have cG3 : Wn.frozen? ⟨W4.heap.size, 3, none⟩ = false := blk_frozen hF0 3
      have cG4 : Wn.frozen? ⟨W4.heap.size, 4, none⟩ = false := blk_frozen hF0 4
      clear hF0
      refine hK.out _ _ ?_ (fun hHeld => ?_)
      ·first | exact hHeld | exact blk_cell ((HX.out.grew gw).x) 0
      clear hK K
      try simp only [Act.put, setA, getA]
      refine tk 3 ?_
      try simp only [Act.put, setA, getA]
      refine wpAnyH_ready (rs := [4]) (by kernel_rfl) (by simp) ?_
      refine AllReadyH.cons (o := _) rfl (fun K hK => ?_) AllReadyH.nil
      go_simp
      refine hK.out _ _ ?_ (fun hHeld => ?_)
      ·first | exact hHeld | exact blk_cell ((HX.out.grew gw).x) 0
      clear hK K
      try simp only [Act.put, setA, getA]
      rcases hfv with rfl | ⟨q', rfl⟩
      all_goals
       refine wpAnyH_ready (rs := [6]) (by kernel_rfl) (by simp) ?_
       refine AllReadyH.cons (o := _) rfl (fun K hK => ?_) AllReadyH.nil
       go_simp
       refine hK.out _ _ ?_ (fun hHeld => ?_)
       ·exact (World.cell?_of_block (a := ⟨w3.heap.size, 0, none⟩) (st5_other (by have := blk_lt HX.out.x; show w3.heap.size ≠ W4.heap.size; omega))).trans hHeld
       clear hK K
       try simp only [Act.put, setA, getA]
       refine wpAnyH_done (by kernel_rfl) ?_ _
       go_wp2_with fail
       go_meet
       exact ⟨_, _, _, rfl, HX.out.grew (st5_grew (Grew.trans gw HGn) (Nat.le_refl _)), fa_old (HX.out.grew (Grew.trans gw HGn)) HF0.out HCS.out HKD.out _ _ _ _⟩
    case rest =>
     obtain ⟨F, b, fv, rfl, hS5, hA5⟩ := hcut
     have S5 := hide hS5
     have A5 := hide hA5
     obtain ⟨⟨hq1, hq5⟩, has, hsum⟩ := HOP.out
     have FR : ¬ F = R := hA5.fR
     have FX : ¬ F = w3.heap.size := hA5.fX
     have RF : ¬ R = F := fun e => hA5.fR e.symm
     have XF : ¬ w3.heap.size = F := fun e => hA5.fX e.symm
     have XR : ¬ w3.heap.size = R := by have := hS5.l0; have := hS5.lx; omega
     have RX : ¬ R = w3.heap.size := by have := hS5.l0; have := hS5.lx; omega
     have ZR : ¬ w.heap.size = R := by have := hS5.l0; omega
     have RZ : ¬ R = w.heap.size := by have := hS5.l0; omega
     have ZX : ¬ w.heap.size = w3.heap.size := by have := hS5.lx; omega
     have XZ : ¬ w3.heap.size = w.heap.size := by have := hS5.lx; omega
     clear hS5 hA5 HGW HZ HKW2 HRW HX
     have r1 : wc.cell? ⟨R, 1, none⟩ = some (.int .i64 (a : Int)) := blk_cell S5.out.rd 1
     have rl := blk_lt S5.out.rd
     have rf := blk_frozen S5.out.rd 1
     have f0 : wc.cell? ⟨F, 0, none⟩ = some _ := blk_cell A5.out.f 0
     have fl := blk_lt A5.out.f
     go_wp2_with fail
     refine wp_region_qas 10 [] [] hm (h := ?_)
     repeat (refine wpSteady_step (fun K hK => ?_); go_simp; refine hK _ ?_; clear hK K)
     refine rq0 fun nq osq => ?_
     try simp only [Act.put, setA]
     try dsimp only
     go_upto_region 10 with fail
     refine wp_name ?_
     intro W6 hW
     obtain ⟨a1, ha1⟩ : ∃ a1, a + (opA q).size = a1 := ⟨_, rfl⟩
     have hyy : (a : Int) + ((opA q).size : Int) = (a1 : Int) := by omega
     have S6 : Hid (RS w W6 B R w.heap.size w3.heap.size s (a1 : Int) (q : Int) 0 0) := hide (by rw [← hW, ← hyy]; exact S5.out.setR _ gw)
     have A6 : Hid (FA W6 R w3.heap.size F b (opA q) (opLeast (q : Int)) (opMost (q : Int)) fv (opKinds (q : Int))) := hide (by rw [← hW]; exact A5.out.set 1 _ _ (.inl rfl) gw)
     have hrr := HRR.out
     rw [ha1] at hsum
     clear hW hyy S5 A5 HRR HOP r1 rl rf f0 fl
     have x0 : W6.cell? ⟨w3.heap.size, 0, none⟩ = some _ := blk_cell S6.out.x 0
     by_cases h1 : q = 1
     ·
      subst h1
      rw [if_pos rfl, ha1] at hrr
      clear ha1
      have HR1 := hide hrr
      clear hrr
      go_upto_region 15 with fail
      have ks := hide (fun W' (hg : Grew W6 W') => skip_v s R a1 W' ((hg.heap (blk_lt S6.out.rd)).trans S6.out.rd) (by omega) hs)
      go_wp2_with fail
      refine (ks.out _ gw).mono ?_
      rintro en wS ⟨rfl, hrw⟩
      have SS := hide ((S6.out.grew gw).rw hrw)
      have AS := hide ((A6.out.grew gw).rw hrw)
      clear ks hrw
      dsimp only
      obtain ⟨m, hme⟩ : ∃ m, endOf isBl s a1 = m := ⟨_, rfl⟩
      have hms : m ≤ s.size := by rw [← hme]; exact endOf_le (by omega)
      have hr := HR1.out
      unfold restAt at hr
      rw [hme] at hr SS ⊢
      have x0 : wS.cell? ⟨w3.heap.size, 0, none⟩ = some _ := blk_cell SS.out.x 0
      clear hme
      rw [if_neg (by decide)] at hr
      have x2 : wS.cell? ⟨w3.heap.size, 2, none⟩ = some _ := blk_cell SS.out.x 2
      have xl := blk_lt SS.out.x
      have xf2 := blk_frozen SS.out.x 2
      have f0 : wS.cell? ⟨F, 0, none⟩ = some _ := blk_cell AS.out.f 0
      have f1 : wS.cell? ⟨F, 1, none⟩ = some _ := blk_cell AS.out.f 1
      have f2 : wS.cell? ⟨F, 2, none⟩ = some _ := blk_cell AS.out.f 2
      have f3 : wS.cell? ⟨F, 3, none⟩ = some _ := blk_cell AS.out.f 3
      have f4 : wS.cell? ⟨F, 4, none⟩ = some _ := blk_cell AS.out.f 4
      have fl := blk_lt AS.out.f
      have r1 : wS.cell? ⟨R, 1, none⟩ = some (.int .i64 (m : Int)) := blk_cell SS.out.rd 1
      have rl := blk_lt SS.out.rd
      have rf := blk_frozen SS.out.rd 1
      obtain ⟨x, hx⟩ : ∃ x, s.extract m (endOf (inR 48 57) s m) = x := ⟨_, rfl⟩
      have hdx := ext_digs s m
      have hle2 := endOf_le (p := inR 48 57) hms
      have hge2 := endOf_ge (inR 48 57) s m
      have hxs : x.size = endOf (inR 48 57) s m - m := by rw [← hx, ByteArray.size_extract]; omega
      have kn := hide (fun W' (hg : Grew wS W') => number_v s R m x W' ((hg.heap (blk_lt SS.out.rd)).trans SS.out.rd) hms hs hx)
      unfold numAt at hr
      rw [hx] at hr hdx
      obtain ⟨y, hy⟩ : ∃ y, endOf (inR 48 57) s m = y := ⟨_, rfl⟩
      rw [hy] at hr hle2 hge2 hxs
      have HYY : Hid ((m : Int) + (x.size : Int) = (y : Int)) := hide (by omega)
      have kst := hide (fun (c : Int) W' (hg : Grew wS W') => stop_v s R (m : Int) c W' ((hg.heap (blk_lt SS.out.rd)).trans SS.out.rd))
      clear hx hy hxs
      cases hnb : numB x
      ·
       rw [hnb] at kn hr
       rw [if_neg (by decide)] at hr
       subst hr
       clear hdx hnb
       go_wp2_with (go_at_call 69; with_reducible refine crv (kn.out _ gw) fun _ _ => ?_; dsimp only)
       refine ((hide (kst.out 10)).out _ gw).mono ?_
       rintro en wE ⟨rfl, hg⟩
       have HGE := hide hg
       clear hg
       dsimp only
       go_wp2_with fail
       exact ⟨rfl, rfl, ((SS.out.grew gw).grew HGE.out).gb⟩
      ·
       have kat := hide (fun W' => atoi_v x hdx hnb W')
       rw [hnb] at kn hr
       rw [if_pos rfl] at hr
       obtain ⟨n, hn⟩ : ∃ n, numV x = n := ⟨_, rfl⟩
       rw [hn] at hr kat
       clear hdx hnb hn
       by_cases hin : opLeast ((1 : Nat) : Int) ≤ n ∧ n ≤ opMost ((1 : Nat) : Int)
       ·
        rw [if_pos hin] at hr
        dsimp only at hr
        have kh := hide (fun (w' : Value) A' m' c' (f' : Value) W' => fhas_v w' A' m' c' (opLeast ((1 : Nat) : Int)) (opMost ((1 : Nat) : Int)) f' n true W' (decide_eq_true hin))
        clear hin
        have hxb : x.size ≤ s.size := by have := HYY.out; omega
        go_upto_region 24 with (first | (go_at_call 69; with_reducible refine crv (kn.out _ gw) fun _ _ => ?_; dsimp only) | (go_at_call 74; with_reducible refine crv (kat.out _) fun _ _ => ?_; dsimp only) | (go_at_call 75; with_reducible refine crv (kh.out _ _ _ _ _ _) fun _ _ => ?_; dsimp only))
        refine wp_name ?_
        intro wU hW
        have SU : Hid (RS w wU B R w.heap.size w3.heap.size s (y : Int) ((1 : Nat) : Int) (0 : Int) n) := hide (by rw [← hW, ← HYY.out]; exact (SS.out.setX 2 _ rfl gw).setR _ gw)
        have AU : Hid (FA wU R w3.heap.size F b (opA (1 : Nat)) (opLeast ((1 : Nat) : Int)) (opMost ((1 : Nat) : Int)) fv (opKinds ((1 : Nat) : Int))) := hide (by rw [← hW]; exact (AS.out.set 2 _ _ (.inr rfl) gw).set 1 _ _ (.inl rfl) gw)
        clear hW HYY kn kat kh kst x0 x2 xl xf2 f0 f1 f2 f3 f4 fl r1 rl rf
        have HTT := hide hr
        clear hr
        have kt := hide (fun W' (hg : Grew wU W') => skip_v s R y W' ((hg.heap (blk_lt SU.out.rd)).trans SU.out.rd) (by omega) hs)
        refine wp_region_any hm ?_
        refine wpAny_ready (rs := [0]) (by kernel_rfl) (by simp) ?_
        refine AllReady.cons (o := _) rfl (fun K hK => ?_) AllReady.nil
        go_simp
        refine hK _ _ ?_
        clear hK K
        try simp only [Act.put, setA, getA]
        refine wpAny_ready (rs := [1]) (by kernel_rfl) (by simp) ?_
        refine AllReady.cons (o := _) rfl (fun K hK => ?_) AllReady.nil
        go_simp
        go_at_call 39
        refine (kt.out _ gw).mono ?_
        rintro en wT ⟨rfl, hrw⟩
        have ST := hide ((SU.out.grew gw).rw hrw)
        have AT := hide ((AU.out.grew gw).rw hrw)
        dsimp only
        refine hK _ _ ?_
        clear hK K hrw kt
        obtain ⟨e, he⟩ : ∃ e, endOf isBl s y = e := ⟨_, rfl⟩
        have hes : e ≤ s.size := by rw [← he]; exact endOf_le (by omega)
        have ht := HTT.out
        unfold tailAt at ht
        rw [he] at ht ST ⊢
        have r0 : wT.cell? ⟨R, 0, none⟩ = some (.string s) := blk_cell ST.out.rd 0
        have r1 : wT.cell? ⟨R, 1, none⟩ = some (.int .i64 (e : Int)) := blk_cell ST.out.rd 1
        have rl := blk_lt ST.out.rd
        have rf := blk_frozen ST.out.rd 1
        have x0 : wT.cell? ⟨w3.heap.size, 0, none⟩ = some _ := blk_cell ST.out.x 0
        have x1 : wT.cell? ⟨w3.heap.size, 1, none⟩ = some _ := blk_cell ST.out.x 1
        have x2 : wT.cell? ⟨w3.heap.size, 2, none⟩ = some _ := blk_cell ST.out.x 2
        have xl := blk_lt ST.out.x
        have z0 : wT.cell? ⟨w.heap.size, 0, none⟩ = some _ := blk_cell ST.out.z 0
        have z1 : wT.cell? ⟨w.heap.size, 1, none⟩ = some _ := blk_cell ST.out.z 1
        have z2 : wT.cell? ⟨w.heap.size, 2, none⟩ = some _ := blk_cell ST.out.z 2
        have zl := blk_lt ST.out.z
        have zf0 := blk_frozen ST.out.z 0
        have zf1 := blk_frozen ST.out.z 1
        have zf2 := blk_frozen ST.out.z 2
        have kx := hide (fun W' (hg : Grew wT W') => stop_v s R (e : Int) 10 W' ((hg.heap (blk_lt ST.out.rd)).trans ST.out.rd))
        try simp only [Act.put, setA, getA]
        refine wpAny_of_held (S := fun w' => w'.cell? ⟨R, 0, none⟩ = some (.string s) ∧ w'.cell? ⟨R, 1, none⟩ = some (.int .i64 (e : Int))) _ _ _ _ ?_
        have hHeld : wT.cell? ⟨R, 0, none⟩ = some (.string s) ∧ wT.cell? ⟨R, 1, none⟩ = some (.int .i64 (e : Int)) := ⟨r0, r1⟩
        by_cases hlt : e < s.size
        ·
         have hd : decide (e < s.size) = true := decide_eq_true hlt
         have hix := str_idx Tryz.underlying9 s e hlt
         by_cases h59 : bAt s e = 59
         ·
          rw [if_pos ⟨hlt, h59⟩] at ht
          subst ht
          rw [h59] at hix
          rw [hd]
          clear h59 he
          refine tk 2 ?_
          try simp only [Act.put, setA, getA]
          refine tk 3 ?_
          try simp only [Act.put, setA, getA]
          refine tk 4 ?_
          try simp only [Act.put, setA, getA]
          refine tk 5 ?_
          try simp only [Act.put, setA, getA]
          refine tk 6 ?_
          try simp only [Act.put, setA, getA]
          refine tk 7 ?_
          try simp only [Act.put, setA, getA]
          refine tk 8 ?_
          try simp only [Act.put, setA, getA]
          refine tk 9 ?_
          try simp only [Act.put, setA, getA]
          refine tk 10 ?_
          try simp only [Act.put, setA, getA]
          refine tk 11 ?_
          try simp only [Act.put, setA, getA]
          refine tk 12 ?_
          try simp only [Act.put, setA, getA]
          refine tk 13 ?_
          try simp only [Act.put, setA, getA]
          refine tk 14 ?_
          try simp only [Act.put, setA, getA]
          refine wpAnyH_done (by kernel_rfl) ?_ _
          go_wp2_with fail
          try simp only [Exit.inBlock, Exit.then]
          exact rule_end (ST.out.setR _ (Grew.refl _)) rfl rfl rfl gw ⟨rfl, RW.cast ((ST.out.setR _ (Grew.refl _)).fin gw)⟩
         ·
          rw [if_neg (fun h => h59 h.2)] at ht
          subst ht
          have n59 : (bAt s e != 59) = true := by simpa using h59
          rw [hd]
          clear he hlt hes
          refine tk 2 ?_
          try simp only [Act.put, setA, getA]
          refine tk 3 ?_
          try simp only [Act.put, setA, getA]
          refine tk 4 ?_
          try simp only [Act.put, setA, getA]
          refine tk 5 ?_
          try simp only [Act.put, setA, getA]
          refine tk 6 ?_
          try simp only [Act.put, setA, getA]
          refine tk 7 ?_
          try simp only [Act.put, setA, getA]
          refine tk 8 ?_
          try simp only [Act.put, setA, getA]
          refine tk 9 ?_
          try simp only [Act.put, setA, getA]
          refine tk 10 ?_
          try simp only [Act.put, setA, getA]
          refine tk 11 ?_
          try simp only [Act.put, setA, getA]
          refine tk 12 ?_
          try simp only [Act.put, setA, getA]
          refine tk 13 ?_
          try simp only [Act.put, setA, getA]
          refine tk 14 ?_
          try simp only [Act.put, setA, getA]
          refine wpAnyH_done (by kernel_rfl) ?_ _
          go_wp2_with fail
          refine (kx.out _ gw).mono ?_
          rintro en wE ⟨rfl, hg⟩
          have HGE := hide hg
          clear hg
          dsimp only
          go_wp2_with fail
          exact ⟨rfl, rfl, ((ST.out.grew gw).grew HGE.out).gb⟩
        ·
         rw [if_neg (fun h => hlt h.1)] at ht
         subst ht
         have hd : decide (e < s.size) = false := decide_eq_false hlt
         rw [hd]
         clear he hes
         refine tk 2 ?_
         try simp only [Act.put, setA, getA]
         refine tk 3 ?_
         try simp only [Act.put, setA, getA]
         refine ts 4 ?_
         try simp only [Act.put, setA, getA]
         refine ts 5 ?_
         try simp only [Act.put, setA, getA]
         refine ts 6 ?_
         try simp only [Act.put, setA, getA]
         refine ts 7 ?_
         try simp only [Act.put, setA, getA]
         refine ts 8 ?_
         try simp only [Act.put, setA, getA]
         refine ts 9 ?_
         try simp only [Act.put, setA, getA]
         refine ts 10 ?_
         try simp only [Act.put, setA, getA]
         refine ts 11 ?_
         try simp only [Act.put, setA, getA]
         refine ts 12 ?_
         try simp only [Act.put, setA, getA]
         refine ts 13 ?_
         try simp only [Act.put, setA, getA]
         refine tk 14 ?_
         try simp only [Act.put, setA, getA]
         refine wpAnyH_done (by kernel_rfl) ?_ _
         go_wp2_with fail
         refine (kx.out _ gw).mono ?_
         rintro en wE ⟨rfl, hg⟩
         have HGE := hide hg
         clear hg
         dsimp only
         go_wp2_with fail
         exact ⟨rfl, rfl, ((ST.out.grew gw).grew HGE.out).gb⟩
       ·
        rw [if_neg hin] at hr
        subst hr
        have kh := hide (fun (w' : Value) A' m' c' (f' : Value) W' => fhas_v w' A' m' c' (opLeast ((1 : Nat) : Int)) (opMost ((1 : Nat) : Int)) f' n false W' (decide_eq_false hin))
        clear hin
        have kst2 := hide (fun W' (hg : Grew (wS.setCell ⟨w3.heap.size, 2, none⟩ (.int .i64 n)) W') => stop_v s R (m : Int) 3 W' (SS.out.setX 2 _ rfl hg).rd)
        go_wp2_with (first | (go_at_call 69; with_reducible refine crv (kn.out _ gw) fun _ _ => ?_; dsimp only) | (go_at_call 74; with_reducible refine crv (kat.out _) fun _ _ => ?_; dsimp only) | (go_at_call 75; with_reducible refine crv (kh.out _ _ _ _ _ _) fun _ _ => ?_; dsimp only))
        refine (kst2.out _ gw).mono ?_
        rintro en wE ⟨rfl, hg⟩
        have HGE := hide hg
        clear hg
        dsimp only
        go_wp2_with fail
        exact ⟨rfl, rfl, ((SS.out.setX 2 _ rfl gw).grew HGE.out).gb⟩
     ·
      rw [if_neg h1, ha1] at hrr
      clear ha1
      have h1b : ((q : Int) != 1) = true := by simp; omega
      have h1c : ¬ ((q : Int) = 1) := by omega
      obtain ⟨A7, c7, hkc, hB0, hkr⟩ := S6.out.kw
      have hk0 : 0 < W6.heap.size := by have := blk_lt S6.out.rd; have := S6.out.lb; omega
      have kK : Hid (∀ W', Grew W6 W' → Calls Tryz.prog 72 #[.pointer (some ⟨R, 0, none⟩), .slice A7 7 c7] W' (WordR kdW s R a1 W')) := hide (fun W' hg => word_v kdW A7 c7 s R a1 W' ((hg.heap (blk_lt S6.out.rd)).trans S6.out.rd) hsum hs (fun w' hw' => ((hkr.keep (old_cell_lt hg (by have := blk_lt S6.out.rd; have := S6.out.lb; omega))).keep (fun b' i' hb' => World.cell?_of_block (a := ⟨b', i', none⟩) (hw'.block b' (by have := blk_lt S6.out.rd; have := S6.out.lb; have := hg.below.size; omega) (fun e => by injection e with e; have := S6.out.lb; omega)))).mono (by have := blk_lt S6.out.rd; have := S6.out.lb; have := hg.below.size; have := hw'.size; omega)) (by decide))
      obtain ⟨ka, hka⟩ : ∃ ka, wordAt kdW s a1 = ka := ⟨_, rfl⟩
      unfold kindAt at hrr
      rw [hka] at hrr
      have HKA := hide hka
      have HRR2 := hide hrr
      clear hka hrr h1 hkr
      go_wp2_with fail
      refine (kK.out _ gw).mono ?_
      unfold WordR
      rw [HKA.out]
      cases ka with
      | error pe =>
       obtain ⟨p, e⟩ := pe
       obtain rfl := HRR2.out
       rintro en w7 ⟨rfl, hgb⟩
       have HGB := hide hgb
       clear hgb kK
       dsimp only
       go_wp2_with fail
       exact ⟨rfl, rfl, gb_tr (S6.out.grew gw).gb HGB.out⟩
      | ok kb =>
       obtain ⟨k, d⟩ := kb
       rintro en w7 ⟨rfl, hrw⟩
       obtain ⟨hk7, hds, hdsum⟩ := kd_ok hsum HKA.out
       have S7 := hide ((S6.out.grew gw).rw hrw)
       have A7' := hide ((A6.out.grew gw).rw hrw)
       clear hrw kK hkc hk0 x0
       dsimp only
       have x1 : w7.cell? ⟨w3.heap.size, 1, none⟩ = some _ := blk_cell S7.out.x 1
       have xl := blk_lt S7.out.x
       have xf1 := blk_frozen S7.out.x 1
       have f0 : w7.cell? ⟨F, 0, none⟩ = some _ := blk_cell A7'.out.f 0
       have f1 : w7.cell? ⟨F, 1, none⟩ = some _ := blk_cell A7'.out.f 1
       have f2 : w7.cell? ⟨F, 2, none⟩ = some _ := blk_cell A7'.out.f 2
       have f3 : w7.cell? ⟨F, 3, none⟩ = some _ := blk_cell A7'.out.f 3
       have f4 : w7.cell? ⟨F, 4, none⟩ = some _ := blk_cell A7'.out.f 4
       have fl := blk_lt A7'.out.f
       have r1 : w7.cell? ⟨R, 1, none⟩ = some (.int .i64 (d : Int)) := blk_cell S7.out.rd 1
       have rl := blk_lt S7.out.rd
       have rf := blk_frozen S7.out.rd 1
       have hrr := HRR2.out
       try dsimp only at hrr
       have kC : Hid (∀ (r : Bool), (opKinds (q : Int)).contains (k : Int) = r → ∀ (s' : Value) (f' : Value) W', Grew (w7.setCell ⟨w3.heap.size, 1, none⟩ (.int .i64 (k : Int))) W' → Calls Tryz.prog 73 #[.agg #[s', .slice (some ⟨b, 0, none⟩) (opKinds (q : Int)).length (opKinds (q : Int)).length, .int .i64 (opLeast (q : Int)), .int .i64 (opMost (q : Int)), f'], .int .i64 (k : Int)] W' (Ret W' (.bool r))) := hide (fun r hr s' f' W' hg => can_v s' (opKinds (q : Int)) _ _ _ _ f' _ r W' (A7'.out.set 1 _ _ (.inr rfl) hg).kd (by have := kinds_len (q := q) ⟨hq1, hq5⟩; omega) hr)
       cases hcan : (opKinds (q : Int)).contains (k : Int)
       ·
        rw [hcan, if_neg (by decide)] at hrr
        subst hrr
        have kC0 := hide (kC.out false hcan)
        have kst2 := hide (fun W' (hg : Grew (w7.setCell ⟨w3.heap.size, 1, none⟩ (.int .i64 (k : Int))) W') => stop_v s R (d : Int) 12 W' (S7.out.setX 1 _ rfl hg).rd)
        clear hcan kC
        go_wp2_with (go_at_call 73; with_reducible refine crv (kC0.out _ _ _ gw) fun _ _ => ?_; dsimp only)
        refine (kst2.out _ gw).mono ?_
        rintro en wE ⟨rfl, hg⟩
        have HGE := hide hg
        clear hg
        dsimp only
        go_wp2_with fail
        exact ⟨rfl, rfl, ((S7.out.setX 1 _ rfl gw).grew HGE.out).gb⟩
       ·
        rw [hcan, if_pos rfl] at hrr
        try dsimp only at hrr
        have kC1 := hide (kC.out true hcan)
        clear hcan kC
        obtain ⟨A8, c8, hkc, hB0', hkr⟩ := S7.out.kw
        obtain ⟨b8, o8, hA8, hb8, hw8⟩ := hkr.at_ (k := k) (x := encS (kdA k)) (by rw [List.getElem?_map, kdA_get hk7]; rfl)
        have hw := hw8 0 _ rfl
        simp only [Nat.mul_one, Nat.add_zero] at hw
        have hix := idx_run (cap := c8) (len := 7) (k := k) Tryz.underlying77 Tryz.sizeOf9 hA8 hk7
        rw [Nat.mul_one] at hix
        have n1 : ¬ (0 : Nat) = w3.heap.size := by have := S7.out.lb; have := S7.out.l0; have := S7.out.lx; omega
        have n2 : ¬ b8 = w3.heap.size := by have := S7.out.lb; have := S7.out.l0; have := S7.out.lx; omega
        have n3 : ¬ w3.heap.size = 0 := fun e => n1 e.symm
        have n4 : ¬ w3.heap.size = b8 := fun e => n2 e.symm
        have l8 : b8 < w7.heap.size := by have := blk_lt S7.out.rd; have := S7.out.lb; omega
        have l0 : 0 < w7.heap.size := by omega
        clear hA8 hw8 hkr
        go_upto_region 14 with (go_at_call 73; with_reducible refine crv (kC1.out _ _ _ gw) fun _ _ => ?_; dsimp only)
        refine wp_region_qas 13 [] [] hm (h := ?_)
        repeat (refine wpSteady_step (fun K hK => ?_); go_simp; refine hK _ ?_; clear hK K)
        refine rq0 fun nq osq => ?_
        try simp only [Act.put, setA]
        try dsimp only
        go_upto_region 15 with fail
        refine wp_name ?_
        intro W9 hW
        obtain ⟨j, hj⟩ : ∃ j, d + (kdA k).size = j := ⟨_, rfl⟩
        have hyy : (d : Int) + ((kdA k).size : Int) = (j : Int) := by omega
        have S9 : Hid (RS w W9 B R w.heap.size w3.heap.size s (j : Int) (q : Int) (k : Int) 0) := hide (by rw [← hW, ← hyy]; exact (S7.out.setX 1 _ rfl gw).setR _ gw)
        have A9 : Hid (FA W9 R w3.heap.size F b (opA q) (opLeast (q : Int)) (opMost (q : Int)) fv (opKinds (q : Int))) := hide (by rw [← hW]; exact (A7'.out.set 1 _ _ (.inr rfl) gw).set 1 _ _ (.inl rfl) gw)
        rw [hj] at hrr hdsum
        have HR9 := hide hrr
        clear hrr hW hyy hj hix hw hkc l8 l0 n1 n2 n3 n4 x1 xl xf1 f0 f1 f2 f3 f4 fl r1 rl rf
        have ks := hide (fun W' (hg : Grew W9 W') => skip_v s R j W' ((hg.heap (blk_lt S9.out.rd)).trans S9.out.rd) (by omega) hs)
        go_wp2_with fail
        refine (ks.out _ gw).mono ?_
        rintro en wS ⟨rfl, hrw⟩
        have SS := hide ((S9.out.grew gw).rw hrw)
        have AS := hide ((A9.out.grew gw).rw hrw)
        clear ks hrw
        dsimp only
        obtain ⟨m, hme⟩ : ∃ m, endOf isBl s j = m := ⟨_, rfl⟩
        have hms : m ≤ s.size := by rw [← hme]; exact endOf_le (by omega)
        have hr := HR9.out
        unfold restAt at hr
        rw [hme] at hr SS ⊢
        have x0 : wS.cell? ⟨w3.heap.size, 0, none⟩ = some _ := blk_cell SS.out.x 0
        clear hme
        by_cases h5 : q = 5
        ·
         subst h5
         rw [if_pos rfl] at hr
         have HTT := hide hr
         clear hr
         go_upto_region 24 with fail
         have kt := hide (fun W' (hg : Grew wS W') => skip_v s R m W' ((hg.heap (blk_lt SS.out.rd)).trans SS.out.rd) (by omega) hs)
         refine wp_region_any hm ?_
         refine wpAny_ready (rs := [0]) (by kernel_rfl) (by simp) ?_
         refine AllReady.cons (o := _) rfl (fun K hK => ?_) AllReady.nil
         go_simp
         refine hK _ _ ?_
         clear hK K
         try simp only [Act.put, setA, getA]
         refine wpAny_ready (rs := [1]) (by kernel_rfl) (by simp) ?_
         refine AllReady.cons (o := _) rfl (fun K hK => ?_) AllReady.nil
         go_simp
         go_at_call 39
         refine (kt.out _ gw).mono ?_
         rintro en wT ⟨rfl, hrw⟩
         have ST := hide ((SS.out.grew gw).rw hrw)
         have AT := hide ((AS.out.grew gw).rw hrw)
         dsimp only
         refine hK _ _ ?_
         clear hK K hrw kt
         obtain ⟨e, he⟩ : ∃ e, endOf isBl s m = e := ⟨_, rfl⟩
         have hes : e ≤ s.size := by rw [← he]; exact endOf_le (by omega)
         have ht := HTT.out
         unfold tailAt at ht
         rw [he] at ht ST ⊢
         have r0 : wT.cell? ⟨R, 0, none⟩ = some (.string s) := blk_cell ST.out.rd 0
         have r1 : wT.cell? ⟨R, 1, none⟩ = some (.int .i64 (e : Int)) := blk_cell ST.out.rd 1
         have rl := blk_lt ST.out.rd
         have rf := blk_frozen ST.out.rd 1
         have x0 : wT.cell? ⟨w3.heap.size, 0, none⟩ = some _ := blk_cell ST.out.x 0
         have x1 : wT.cell? ⟨w3.heap.size, 1, none⟩ = some _ := blk_cell ST.out.x 1
         have x2 : wT.cell? ⟨w3.heap.size, 2, none⟩ = some _ := blk_cell ST.out.x 2
         have xl := blk_lt ST.out.x
         have z0 : wT.cell? ⟨w.heap.size, 0, none⟩ = some _ := blk_cell ST.out.z 0
         have z1 : wT.cell? ⟨w.heap.size, 1, none⟩ = some _ := blk_cell ST.out.z 1
         have z2 : wT.cell? ⟨w.heap.size, 2, none⟩ = some _ := blk_cell ST.out.z 2
         have zl := blk_lt ST.out.z
         have zf0 := blk_frozen ST.out.z 0
         have zf1 := blk_frozen ST.out.z 1
         have zf2 := blk_frozen ST.out.z 2
         have kx := hide (fun W' (hg : Grew wT W') => stop_v s R (e : Int) 10 W' ((hg.heap (blk_lt ST.out.rd)).trans ST.out.rd))
         try simp only [Act.put, setA, getA]
         refine wpAny_of_held (S := fun w' => w'.cell? ⟨R, 0, none⟩ = some (.string s) ∧ w'.cell? ⟨R, 1, none⟩ = some (.int .i64 (e : Int))) _ _ _ _ ?_
         have hHeld : wT.cell? ⟨R, 0, none⟩ = some (.string s) ∧ wT.cell? ⟨R, 1, none⟩ = some (.int .i64 (e : Int)) := ⟨r0, r1⟩
         by_cases hlt : e < s.size
         ·
          have hd : decide (e < s.size) = true := decide_eq_true hlt
          have hix := str_idx Tryz.underlying9 s e hlt
          by_cases h59 : bAt s e = 59
          ·
           rw [if_pos ⟨hlt, h59⟩] at ht
           subst ht
           rw [h59] at hix
           rw [hd]
           clear h59 he
           refine tk 2 ?_
           try simp only [Act.put, setA, getA]
           refine tk 3 ?_
           try simp only [Act.put, setA, getA]
           refine tk 4 ?_
           try simp only [Act.put, setA, getA]
           refine tk 5 ?_
           try simp only [Act.put, setA, getA]
           refine tk 6 ?_
           try simp only [Act.put, setA, getA]
           refine tk 7 ?_
           try simp only [Act.put, setA, getA]
           refine tk 8 ?_
           try simp only [Act.put, setA, getA]
           refine tk 9 ?_
           try simp only [Act.put, setA, getA]
           refine tk 10 ?_
           try simp only [Act.put, setA, getA]
           refine tk 11 ?_
           try simp only [Act.put, setA, getA]
           refine tk 12 ?_
           try simp only [Act.put, setA, getA]
           refine tk 13 ?_
           try simp only [Act.put, setA, getA]
           refine tk 14 ?_
           try simp only [Act.put, setA, getA]
           refine wpAnyH_done (by kernel_rfl) ?_ _
           go_wp2_with fail
           try simp only [Exit.inBlock, Exit.then]
           exact rule_end (ST.out.setR _ (Grew.refl _)) rfl rfl rfl gw ⟨rfl, RW.cast ((ST.out.setR _ (Grew.refl _)).fin gw)⟩
          ·
           rw [if_neg (fun h => h59 h.2)] at ht
           subst ht
           have n59 : (bAt s e != 59) = true := by simpa using h59
           rw [hd]
           clear he hlt hes
           refine tk 2 ?_
           try simp only [Act.put, setA, getA]
           refine tk 3 ?_
           try simp only [Act.put, setA, getA]
           refine tk 4 ?_
           try simp only [Act.put, setA, getA]
           refine tk 5 ?_
           try simp only [Act.put, setA, getA]
           refine tk 6 ?_
           try simp only [Act.put, setA, getA]
           refine tk 7 ?_
           try simp only [Act.put, setA, getA]
           refine tk 8 ?_
           try simp only [Act.put, setA, getA]
           refine tk 9 ?_
           try simp only [Act.put, setA, getA]
           refine tk 10 ?_
           try simp only [Act.put, setA, getA]
           refine tk 11 ?_
           try simp only [Act.put, setA, getA]
           refine tk 12 ?_
           try simp only [Act.put, setA, getA]
           refine tk 13 ?_
           try simp only [Act.put, setA, getA]
           refine tk 14 ?_
           try simp only [Act.put, setA, getA]
           refine wpAnyH_done (by kernel_rfl) ?_ _
           go_wp2_with fail
           refine (kx.out _ gw).mono ?_
           rintro en wE ⟨rfl, hg⟩
           have HGE := hide hg
           clear hg
           dsimp only
           go_wp2_with fail
           exact ⟨rfl, rfl, ((ST.out.grew gw).grew HGE.out).gb⟩
         ·
          rw [if_neg (fun h => hlt h.1)] at ht
          subst ht
          have hd : decide (e < s.size) = false := decide_eq_false hlt
          rw [hd]
          clear he hes
          refine tk 2 ?_
          try simp only [Act.put, setA, getA]
          refine tk 3 ?_
          try simp only [Act.put, setA, getA]
          refine ts 4 ?_
          try simp only [Act.put, setA, getA]
          refine ts 5 ?_
          try simp only [Act.put, setA, getA]
          refine ts 6 ?_
          try simp only [Act.put, setA, getA]
          refine ts 7 ?_
          try simp only [Act.put, setA, getA]
          refine ts 8 ?_
          try simp only [Act.put, setA, getA]
          refine ts 9 ?_
          try simp only [Act.put, setA, getA]
          refine ts 10 ?_
          try simp only [Act.put, setA, getA]
          refine ts 11 ?_
          try simp only [Act.put, setA, getA]
          refine ts 12 ?_
          try simp only [Act.put, setA, getA]
          refine ts 13 ?_
          try simp only [Act.put, setA, getA]
          refine tk 14 ?_
          try simp only [Act.put, setA, getA]
          refine wpAnyH_done (by kernel_rfl) ?_ _
          go_wp2_with fail
          refine (kx.out _ gw).mono ?_
          rintro en wE ⟨rfl, hg⟩
          have HGE := hide hg
          clear hg
          dsimp only
          go_wp2_with fail
          exact ⟨rfl, rfl, ((ST.out.grew gw).grew HGE.out).gb⟩
        ·
         rw [if_neg h5] at hr
         have h5b : ((q : Int) != 5) = true := by simp; omega
         have h5c : ¬ ((q : Int) = 5) := by omega
         clear h5
         have x2 : wS.cell? ⟨w3.heap.size, 2, none⟩ = some _ := blk_cell SS.out.x 2
         have xl := blk_lt SS.out.x
         have xf2 := blk_frozen SS.out.x 2
         have f0 : wS.cell? ⟨F, 0, none⟩ = some _ := blk_cell AS.out.f 0
         have f1 : wS.cell? ⟨F, 1, none⟩ = some _ := blk_cell AS.out.f 1
         have f2 : wS.cell? ⟨F, 2, none⟩ = some _ := blk_cell AS.out.f 2
         have f3 : wS.cell? ⟨F, 3, none⟩ = some _ := blk_cell AS.out.f 3
         have f4 : wS.cell? ⟨F, 4, none⟩ = some _ := blk_cell AS.out.f 4
         have fl := blk_lt AS.out.f
         have r1 : wS.cell? ⟨R, 1, none⟩ = some (.int .i64 (m : Int)) := blk_cell SS.out.rd 1
         have rl := blk_lt SS.out.rd
         have rf := blk_frozen SS.out.rd 1
         obtain ⟨x, hx⟩ : ∃ x, s.extract m (endOf (inR 48 57) s m) = x := ⟨_, rfl⟩
         have hdx := ext_digs s m
         have hle2 := endOf_le (p := inR 48 57) hms
         have hge2 := endOf_ge (inR 48 57) s m
         have hxs : x.size = endOf (inR 48 57) s m - m := by rw [← hx, ByteArray.size_extract]; omega
         have kn := hide (fun W' (hg : Grew wS W') => number_v s R m x W' ((hg.heap (blk_lt SS.out.rd)).trans SS.out.rd) hms hs hx)
         unfold numAt at hr
         rw [hx] at hr hdx
         obtain ⟨y, hy⟩ : ∃ y, endOf (inR 48 57) s m = y := ⟨_, rfl⟩
         rw [hy] at hr hle2 hge2 hxs
         have HYY : Hid ((m : Int) + (x.size : Int) = (y : Int)) := hide (by omega)
         have kst := hide (fun (c : Int) W' (hg : Grew wS W') => stop_v s R (m : Int) c W' ((hg.heap (blk_lt SS.out.rd)).trans SS.out.rd))
         clear hx hy hxs
         cases hnb : numB x
         ·
          rw [hnb] at kn hr
          rw [if_neg (by decide)] at hr
          subst hr
          clear hdx hnb
          go_wp2_with (go_at_call 69; with_reducible refine crv (kn.out _ gw) fun _ _ => ?_; dsimp only)
          refine ((hide (kst.out 10)).out _ gw).mono ?_
          rintro en wE ⟨rfl, hg⟩
          have HGE := hide hg
          clear hg
          dsimp only
          go_wp2_with fail
          exact ⟨rfl, rfl, ((SS.out.grew gw).grew HGE.out).gb⟩
         ·
          have kat := hide (fun W' => atoi_v x hdx hnb W')
          rw [hnb] at kn hr
          rw [if_pos rfl] at hr
          obtain ⟨n, hn⟩ : ∃ n, numV x = n := ⟨_, rfl⟩
          rw [hn] at hr kat
          clear hdx hnb hn
          by_cases hin : opLeast (q : Int) ≤ n ∧ n ≤ opMost (q : Int)
          ·
           rw [if_pos hin] at hr
           dsimp only at hr
           have kh := hide (fun (w' : Value) A' m' c' (f' : Value) W' => fhas_v w' A' m' c' (opLeast (q : Int)) (opMost (q : Int)) f' n true W' (decide_eq_true hin))
           clear hin
           have hxb : x.size ≤ s.size := by have := HYY.out; omega
           go_upto_region 24 with (first | (go_at_call 69; with_reducible refine crv (kn.out _ gw) fun _ _ => ?_; dsimp only) | (go_at_call 74; with_reducible refine crv (kat.out _) fun _ _ => ?_; dsimp only) | (go_at_call 75; with_reducible refine crv (kh.out _ _ _ _ _ _) fun _ _ => ?_; dsimp only))
           refine wp_name ?_
           intro wU hW
           have SU : Hid (RS w wU B R w.heap.size w3.heap.size s (y : Int) (q : Int) (k : Int) n) := hide (by rw [← hW, ← HYY.out]; exact (SS.out.setX 2 _ rfl gw).setR _ gw)
           have AU : Hid (FA wU R w3.heap.size F b (opA q) (opLeast (q : Int)) (opMost (q : Int)) fv (opKinds (q : Int))) := hide (by rw [← hW]; exact (AS.out.set 2 _ _ (.inr rfl) gw).set 1 _ _ (.inl rfl) gw)
           clear hW HYY kn kat kh kst x0 x2 xl xf2 f0 f1 f2 f3 f4 fl r1 rl rf
           have HTT := hide hr
           clear hr
           have kt := hide (fun W' (hg : Grew wU W') => skip_v s R y W' ((hg.heap (blk_lt SU.out.rd)).trans SU.out.rd) (by omega) hs)
           refine wp_region_any hm ?_
           refine wpAny_ready (rs := [0]) (by kernel_rfl) (by simp) ?_
           refine AllReady.cons (o := _) rfl (fun K hK => ?_) AllReady.nil
           go_simp
           refine hK _ _ ?_
           clear hK K
           try simp only [Act.put, setA, getA]
           refine wpAny_ready (rs := [1]) (by kernel_rfl) (by simp) ?_
           refine AllReady.cons (o := _) rfl (fun K hK => ?_) AllReady.nil
           go_simp
           go_at_call 39
           refine (kt.out _ gw).mono ?_
           rintro en wT ⟨rfl, hrw⟩
           have ST := hide ((SU.out.grew gw).rw hrw)
           have AT := hide ((AU.out.grew gw).rw hrw)
           dsimp only
           refine hK _ _ ?_
           clear hK K hrw kt
           obtain ⟨e, he⟩ : ∃ e, endOf isBl s y = e := ⟨_, rfl⟩
           have hes : e ≤ s.size := by rw [← he]; exact endOf_le (by omega)
           have ht := HTT.out
           unfold tailAt at ht
           rw [he] at ht ST ⊢
           have r0 : wT.cell? ⟨R, 0, none⟩ = some (.string s) := blk_cell ST.out.rd 0
           have r1 : wT.cell? ⟨R, 1, none⟩ = some (.int .i64 (e : Int)) := blk_cell ST.out.rd 1
           have rl := blk_lt ST.out.rd
           have rf := blk_frozen ST.out.rd 1
           have x0 : wT.cell? ⟨w3.heap.size, 0, none⟩ = some _ := blk_cell ST.out.x 0
           have x1 : wT.cell? ⟨w3.heap.size, 1, none⟩ = some _ := blk_cell ST.out.x 1
           have x2 : wT.cell? ⟨w3.heap.size, 2, none⟩ = some _ := blk_cell ST.out.x 2
           have xl := blk_lt ST.out.x
           have z0 : wT.cell? ⟨w.heap.size, 0, none⟩ = some _ := blk_cell ST.out.z 0
           have z1 : wT.cell? ⟨w.heap.size, 1, none⟩ = some _ := blk_cell ST.out.z 1
           have z2 : wT.cell? ⟨w.heap.size, 2, none⟩ = some _ := blk_cell ST.out.z 2
           have zl := blk_lt ST.out.z
           have zf0 := blk_frozen ST.out.z 0
           have zf1 := blk_frozen ST.out.z 1
           have zf2 := blk_frozen ST.out.z 2
           have kx := hide (fun W' (hg : Grew wT W') => stop_v s R (e : Int) 10 W' ((hg.heap (blk_lt ST.out.rd)).trans ST.out.rd))
           try simp only [Act.put, setA, getA]
           refine wpAny_of_held (S := fun w' => w'.cell? ⟨R, 0, none⟩ = some (.string s) ∧ w'.cell? ⟨R, 1, none⟩ = some (.int .i64 (e : Int))) _ _ _ _ ?_
           have hHeld : wT.cell? ⟨R, 0, none⟩ = some (.string s) ∧ wT.cell? ⟨R, 1, none⟩ = some (.int .i64 (e : Int)) := ⟨r0, r1⟩
           by_cases hlt : e < s.size
           ·
            have hd : decide (e < s.size) = true := decide_eq_true hlt
            have hix := str_idx Tryz.underlying9 s e hlt
            by_cases h59 : bAt s e = 59
            ·
             rw [if_pos ⟨hlt, h59⟩] at ht
             subst ht
             rw [h59] at hix
             rw [hd]
             clear h59 he
             refine tk 2 ?_
             try simp only [Act.put, setA, getA]
             refine tk 3 ?_
             try simp only [Act.put, setA, getA]
             refine tk 4 ?_
             try simp only [Act.put, setA, getA]
             refine tk 5 ?_
             try simp only [Act.put, setA, getA]
             refine tk 6 ?_
             try simp only [Act.put, setA, getA]
             refine tk 7 ?_
             try simp only [Act.put, setA, getA]
             refine tk 8 ?_
             try simp only [Act.put, setA, getA]
             refine tk 9 ?_
             try simp only [Act.put, setA, getA]
             refine tk 10 ?_
             try simp only [Act.put, setA, getA]
             refine tk 11 ?_
             try simp only [Act.put, setA, getA]
             refine tk 12 ?_
             try simp only [Act.put, setA, getA]
             refine tk 13 ?_
             try simp only [Act.put, setA, getA]
             refine tk 14 ?_
             try simp only [Act.put, setA, getA]
             refine wpAnyH_done (by kernel_rfl) ?_ _
             go_wp2_with fail
             try simp only [Exit.inBlock, Exit.then]
             exact rule_end (ST.out.setR _ (Grew.refl _)) rfl rfl rfl gw ⟨rfl, RW.cast ((ST.out.setR _ (Grew.refl _)).fin gw)⟩
            ·
             rw [if_neg (fun h => h59 h.2)] at ht
             subst ht
             have n59 : (bAt s e != 59) = true := by simpa using h59
             rw [hd]
             clear he hlt hes
             refine tk 2 ?_
             try simp only [Act.put, setA, getA]
             refine tk 3 ?_
             try simp only [Act.put, setA, getA]
             refine tk 4 ?_
             try simp only [Act.put, setA, getA]
             refine tk 5 ?_
             try simp only [Act.put, setA, getA]
             refine tk 6 ?_
             try simp only [Act.put, setA, getA]
             refine tk 7 ?_
             try simp only [Act.put, setA, getA]
             refine tk 8 ?_
             try simp only [Act.put, setA, getA]
             refine tk 9 ?_
             try simp only [Act.put, setA, getA]
             refine tk 10 ?_
             try simp only [Act.put, setA, getA]
             refine tk 11 ?_
             try simp only [Act.put, setA, getA]
             refine tk 12 ?_
             try simp only [Act.put, setA, getA]
             refine tk 13 ?_
             try simp only [Act.put, setA, getA]
             refine tk 14 ?_
             try simp only [Act.put, setA, getA]
             refine wpAnyH_done (by kernel_rfl) ?_ _
             go_wp2_with fail
             refine (kx.out _ gw).mono ?_
             rintro en wE ⟨rfl, hg⟩
             have HGE := hide hg
             clear hg
             dsimp only
             go_wp2_with fail
             exact ⟨rfl, rfl, ((ST.out.grew gw).grew HGE.out).gb⟩
           ·
            rw [if_neg (fun h => hlt h.1)] at ht
            subst ht
            have hd : decide (e < s.size) = false := decide_eq_false hlt
            rw [hd]
            clear he hes
            refine tk 2 ?_
            try simp only [Act.put, setA, getA]
            refine tk 3 ?_
            try simp only [Act.put, setA, getA]
            refine ts 4 ?_
            try simp only [Act.put, setA, getA]
            refine ts 5 ?_
            try simp only [Act.put, setA, getA]
            refine ts 6 ?_
            try simp only [Act.put, setA, getA]
            refine ts 7 ?_
            try simp only [Act.put, setA, getA]
            refine ts 8 ?_
            try simp only [Act.put, setA, getA]
            refine ts 9 ?_
            try simp only [Act.put, setA, getA]
            refine ts 10 ?_
            try simp only [Act.put, setA, getA]
            refine ts 11 ?_
            try simp only [Act.put, setA, getA]
            refine ts 12 ?_
            try simp only [Act.put, setA, getA]
            refine ts 13 ?_
            try simp only [Act.put, setA, getA]
            refine tk 14 ?_
            try simp only [Act.put, setA, getA]
            refine wpAnyH_done (by kernel_rfl) ?_ _
            go_wp2_with fail
            refine (kx.out _ gw).mono ?_
            rintro en wE ⟨rfl, hg⟩
            have HGE := hide hg
            clear hg
            dsimp only
            go_wp2_with fail
            exact ⟨rfl, rfl, ((ST.out.grew gw).grew HGE.out).gb⟩
          ·
           rw [if_neg hin] at hr
           subst hr
           have kh := hide (fun (w' : Value) A' m' c' (f' : Value) W' => fhas_v w' A' m' c' (opLeast (q : Int)) (opMost (q : Int)) f' n false W' (decide_eq_false hin))
           clear hin
           have kst2 := hide (fun W' (hg : Grew (wS.setCell ⟨w3.heap.size, 2, none⟩ (.int .i64 n)) W') => stop_v s R (m : Int) 3 W' (SS.out.setX 2 _ rfl hg).rd)
           go_wp2_with (first | (go_at_call 69; with_reducible refine crv (kn.out _ gw) fun _ _ => ?_; dsimp only) | (go_at_call 74; with_reducible refine crv (kat.out _) fun _ _ => ?_; dsimp only) | (go_at_call 75; with_reducible refine crv (kh.out _ _ _ _ _ _) fun _ _ => ?_; dsimp only))
           refine (kst2.out _ gw).mono ?_
           rintro en wE ⟨rfl, hg⟩
           have HGE := hide hg
           clear hg
           dsimp only
           go_wp2_with fail
           exact ⟨rfl, rfl, ((SS.out.setX 2 _ rfl gw).grew HGE.out).gb⟩
end Go.Proofs.YtfeccolljfkejaaGreatDoor
