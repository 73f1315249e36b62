/- Package rule's Parse, walked: it hands back what the plain words say. Conditions: the words of the kinds are laid; the source is not longer than memory. -/
import Derived.Defers
import Derived.Recover
import Derived.Test.YtfeccolljfkejaaGreatDoorRpC
import Derived.Test.YtfeccolljfkejaaGreatDoorRpD
set_option linter.unusedSimpArgs false
set_option linter.unusedVariables false
set_option maxHeartbeats 8000000
set_option maxRecDepth 100000
namespace Go.Proofs.YtfeccolljfkejaaGreatDoor
open Go.RowKit Go.Sort
attribute [local go_sem] Steady steadyUpon
attribute [local go_sem ↓] hs_dr lt_add_r lt_add_r2 lt_add_r3 lt_add_r4 lt_add_r5 lt_add_r6
attribute [local go_sem] cell?_gd frozen?_gd setCell_gd size_grow tape_grow cell?_grow' frozen?_grow' setCell_grow' grow_grow grow_dr grow_drew dr_dr dr_drew drew_dr dr_alloc dr_setCell dr_cell dr_frozen dr_tape dr_drawn
attribute [local irreducible] wpSteady
theorem ruInf : (Tryz.prog.info? 36).map (fun i => (i.zero, i.size, i.bytes)) = some (some (.agg #[.int .i64 0, .int .i64 0, .int .i64 0]), 3, 24) := by kernel_rfl
theorem ruInfo_parts : ∃ i, Tryz.prog.info? 36 = some i ∧ i.zero = some (.agg #[.int .i64 0, .int .i64 0, .int .i64 0]) ∧ i.size = 3 ∧ i.bytes = 24 := by
 have h := ruInf
 cases hi : Tryz.prog.info? 36 with
 | none => rw [hi] at h; simp at h
 | some i =>
  rw [hi] at h
  simp at h
  exact ⟨i, rfl, h.1, h.2.1, h.2.2⟩
theorem ru_one (ss : List Ru) : ∀ u ∈ ss.flatMap encR, u.oneCell' = true := by
 intro u hu
 obtain ⟨s, _, hs⟩ := List.mem_flatMap.1 hu
 simp [encR] at hs
 rcases hs with rfl | rfl | rfl <;> rfl
theorem Rd.litR (w : World) (o k n : Int) (b : Nat) (T : TypeId) (hb : b = w.heap.size) : Rd (w.alloc (.cells #[.int .i64 o, .int .i64 k, .int .i64 n] T)) (w.heap.size + 1) 3 (some ⟨b, 0, none⟩) ([(o, k, n)].map encR) := by
 subst hb
 refine .inr ⟨w.heap.size, 0, rfl, by omega, fun q y hq j v hv => ?_⟩
 cases q with
 | succ q => simp at hq
 | zero =>
  simp at hq
  subst hq
  match j, hv with
  | 0, hv => (simp [encR] at hv; subst hv; exact blk_cell (heap_alloc_new w _) 0)
  | 1, hv => (simp [encR] at hv; subst hv; exact blk_cell (heap_alloc_new w _) 1)
  | 2, hv => (simp [encR] at hv; subst hv; exact blk_cell (heap_alloc_new w _) 2)
  | j + 3, hv => simp [encR] at hv
theorem own_far {W W' : World} {base e m n : Nat} {v : Value} {xs : List Value} (h : W.ownsRow base e m v n xs) (hk : ∀ k, base ≤ k → W'.heap[k]? = W.heap[k]?) : W'.ownsRow base e m v n xs :=
 ⟨h.1, h.2.imp id fun ⟨g, cap, cur, h1, h2, h3, h4⟩ => ⟨g, cap, cur, h1, h2, (hk g h2).trans h3, h4⟩⟩
theorem gb_below3 {w w' : World} {g B : Nat} (h : w.grownBy w' (some g)) (hB : B ≤ w.heap.size) (hg : B ≤ g) : Below B w w' :=
 ⟨h.os, h.tape, h.output, by have := h.size; omega, fun k hk => h.block k (by omega) (by intro e; injection e with e; omega)⟩
/-- What Parse hands back. -/
def ParR (s : ByteArray) (w : World) (en : Ending) (w' : World) : Prop := ∃ A c, en = .returned (.tuple #[.slice A (parseOf s).1.length c, .int .i64 (parseOf s).2.1, .int .i64 (parseOf s).2.2]) ∧ Rd w' w'.heap.size 3 A ((parseOf s).1.map encR) ∧ Grew w w'
/-- Parse's three results, in blocks of its own. -/
structure PB (w W : World) (v : Value) (a e : Int) : Prop where
 o : W.heap[w.heap.size]? = some (.cells #[v] 22 (0, 0))
 a : W.heap[w.heap.size + 1]? = some (.cells #[.int .i64 a] 3 (0, 0))
 e : W.heap[w.heap.size + 1 + 1]? = some (.cells #[.int .i64 e] 24 (0, 0))
 g : Grew w W
abbrev put3 (w W : World) (v : Value) (a e : Int) : World := (((W.setCell ⟨w.heap.size, 0, none⟩ v).setCell ⟨w.heap.size + 1, 0, none⟩ (.int .i64 a)).setCell ⟨w.heap.size + 1 + 1, 0, none⟩ (.int .i64 e))
section
variable {w W W' : World} {v v' : Value} {a a' e e' : Int}
theorem PB.up (h : PB w W v a e) (g : Grew W W') : PB w W' v a e :=
 ⟨(g.heap (blk_lt h.o)).trans h.o, (g.heap (blk_lt h.a)).trans h.a, (g.heap (blk_lt h.e)).trans h.e, h.g.trans g⟩
theorem put3_far {k : Nat} (h1 : k ≠ w.heap.size) (h2 : k ≠ w.heap.size + 1) (h3 : k ≠ w.heap.size + 1 + 1) : (put3 w W v' a' e').heap[k]? = W.heap[k]? := by
 rw [heap_setCell_other _ ⟨w.heap.size + 1 + 1, 0, none⟩ k _ h3, heap_setCell_other _ ⟨w.heap.size + 1, 0, none⟩ k _ h2, heap_setCell_other _ ⟨w.heap.size, 0, none⟩ k _ h1]
theorem PB.put (h : PB w W v a e) : PB w (put3 w W v' a' e') v' a' e' := by
 refine ⟨?_, ?_, ?_, ?_⟩
 ·rw [heap_setCell_other _ ⟨w.heap.size + 1 + 1, 0, none⟩ w.heap.size _ (by simp; omega), heap_setCell_other _ ⟨w.heap.size + 1, 0, none⟩ w.heap.size _ (by simp), heap_setCell_same _ w.heap.size 0 _ _ _ h.o]
  simp
 ·rw [heap_setCell_other _ ⟨w.heap.size + 1 + 1, 0, none⟩ (w.heap.size + 1) _ (by simp), heap_setCell_same _ (w.heap.size + 1) 0 _ _ _ ((heap_setCell_other _ ⟨w.heap.size, 0, none⟩ (w.heap.size + 1) _ (by simp)).trans h.a)]
  simp
 ·rw [heap_setCell_same _ (w.heap.size + 1 + 1) 0 _ _ _ ((heap_setCell_other _ ⟨w.heap.size + 1, 0, none⟩ (w.heap.size + 1 + 1) _ (by simp)).trans ((heap_setCell_other _ ⟨w.heap.size, 0, none⟩ (w.heap.size + 1 + 1) _ (by simp; omega)).trans h.e))]
  simp
 ·refine Grew.of_below ⟨h.g.below.os, h.g.below.tape, h.g.below.output, by simpa using h.g.below.size, fun k hk => ?_⟩
  rw [put3_far (by omega) (by omega) (by omega)]
  exact h.g.below.block k hk
end
/-- What is at hand in a round of Parse. -/
structure PS (w W : World) (R : Nat) (s : ByteArray) (i : Nat) (out : List Ru) (v : Value) : Prop extends PB w W v 0 0 where
 rd : W.heap[R]? = some (rcl s (i : Int))
 own : W.ownsRow (R + 1) 36 3 v out.length (out.flatMap encR)
 lr : w.heap.size + 3 ≤ R
section
variable {w W W' : World} {s : ByteArray} {R i j : Nat} {out : List Ru} {v v' : Value}
theorem PS.up (h : PS w W R s i out v) (g : Grew W W') : PS w W' R s i out v :=
 { h.toPB.up g with rd := (g.heap (blk_lt h.rd)).trans h.rd, own := fown_grew h.own g, lr := h.lr }
theorem PS.rw (h : PS w W R s i out v) (r : RW R s (j : Int) W W') : PS w W' R s j out v :=
 have l := h.lr
 ⟨⟨r.old (by omega) h.o, r.old (by omega) h.a, r.old (by omega) h.e, Grew.of_below (h.g.below.trans (gb_below3 r.gb h.g.below.size (by omega)))⟩, r.at_, h.own.kept r.gb (.inr fun e => by have := (h.own.lt _ e).1; omega), l⟩
theorem PB.gb {a e : Int} (h : PB w W v a e) (g : W.grownBy W' (some R)) (l : w.heap.size + 3 ≤ R) : PB w W' v a e :=
 have k : ∀ b, b < w.heap.size + 3 → b < W.heap.size → W'.heap[b]? = W.heap[b]? := fun b h1 h2 => g.block b h2 (fun e => by injection e with e; omega)
 ⟨(k _ (by omega) (blk_lt h.o)).trans h.o, (k _ (by omega) (blk_lt h.a)).trans h.a, (k _ (by omega) (blk_lt h.e)).trans h.e, Grew.of_below (h.g.below.trans (gb_below3 g h.g.below.size (by omega)))⟩
theorem PS.app (h : PS w W R s i out v) {r : Ru} {n : Nat} {xs : List Value} (hown : W'.ownsRow (R + 1) 36 3 v' n xs) (hn : n = (out ++ [r]).length) (hxs : xs = (out ++ [r]).flatMap encR) (hg : W.grownBy W' v.ownBlock) : PS w (W'.setCell ⟨w.heap.size, 0, none⟩ v') R s i (out ++ [r]) v' := by
 have l := h.lr
 have hne : ∀ k, k < R + 1 → some k ≠ v.ownBlock := fun k hk e => by
  have := (h.own.lt k e.symm).1
  omega
 have hk : ∀ k, k < W.heap.size → k < R + 1 → W'.heap[k]? = W.heap[k]? := fun k h1 h2 => hg.block k h1 (hne k h2)
 subst hn hxs
 refine ⟨⟨?_, ?_, ?_, ?_⟩, ?_, ?_, l⟩
 ·have := heap_setCell_same W' w.heap.size 0 _ _ v' ((hk _ (blk_lt h.o) (by omega)).trans h.o)
  simpa using this
 ·exact (heap_setCell_other W' ⟨w.heap.size, 0, none⟩ (w.heap.size + 1) v' (by simp)).trans ((hk _ (blk_lt h.a) (by omega)).trans h.a)
 ·exact (heap_setCell_other W' ⟨w.heap.size, 0, none⟩ (w.heap.size + 1 + 1) v' (by simp; omega)).trans ((hk _ (blk_lt h.e) (by omega)).trans h.e)
 ·exact Grew.of_below ((h.g.below.grown hg h.g.below.size (fun k e => by have := (h.own.lt k e).1; omega)).setCell (p := ⟨w.heap.size, 0, none⟩) (Nat.le_refl _) v')
 ·exact (heap_setCell_other W' ⟨w.heap.size, 0, none⟩ R v' (by simp; omega)).trans ((hk _ (blk_lt h.rd) (by omega)).trans h.rd)
 ·exact own_far hown fun k hk => heap_setCell_other W' ⟨w.heap.size, 0, none⟩ k v' (by simp; omega)
end
theorem par_end {s : ByteArray} {w W : World} {tmps : Array Value} {B : Nat} {out : List Ru} {v : Value} {a e : Int} (h2 : tmps.getD 2 undef = .pointer (some ⟨w.heap.size, 0, none⟩)) (h3 : tmps.getD 3 undef = .pointer (some ⟨w.heap.size + 1, 0, none⟩)) (h4 : tmps.getD 4 undef = .pointer (some ⟨w.heap.size + 1 + 1, 0, none⟩)) (h : PB w W v a e) (hown : W.ownsRow B 36 3 v out.length (out.flatMap encR)) (hp : parseOf s = (out, a, e)) : Leaves Tryz.prog Tryz.f14 tmps (ParR s w) [] .returning W := by
 obtain ⟨Ar, c, rfl, _, hrd⟩ := Rd.of_own (f := encR) (xs := out) encR_len hown rfl
 have c0 : W.cell? ⟨w.heap.size, 0, none⟩ = some _ := blk_cell h.o 0
 have c1 : W.cell? ⟨w.heap.size + 1, 0, none⟩ = some _ := blk_cell h.a 0
 have c2 : W.cell? ⟨w.heap.size + 1 + 1, 0, none⟩ = some _ := blk_cell h.e 0
 refine ⟨.tuple #[.slice Ar out.length c, .int .i64 a, .int .i64 e], ?_, Ar, c, ?_, ?_, h.g⟩
 ·clear hown hrd hp h
  simp only [Array.getD_eq_getD_getElem?] at h2 h3 h4
  simp [results, Tryz.results14, h2, h3, h4, asAddr, go_sem, c0, c1, c2]
 ·rw [hp]
 ·rw [hp]; exact hrd
theorem par_idle {s : ByteArray} {w W : World} {tmps : Array Value} {B : Nat} {out : List Ru} {v : Value} {a e : Int} (h2 : tmps.getD 2 undef = .pointer (some ⟨w.heap.size, 0, none⟩)) (h3 : tmps.getD 3 undef = .pointer (some ⟨w.heap.size + 1, 0, none⟩)) (h4 : tmps.getD 4 undef = .pointer (some ⟨w.heap.size + 1 + 1, 0, none⟩)) (h : PB w W v a e) (hown : W.ownsRow B 36 3 v out.length (out.flatMap encR)) (hp : parseOf s = (out, a, e)) : Leaves Tryz.prog Tryz.f14 tmps (ParR s w) [{ target := .fn (.func 38) #[.pointer (some ⟨w.heap.size, 0, none⟩), .pointer (some ⟨w.heap.size + 1, 0, none⟩), .pointer (some ⟨w.heap.size + 1 + 1, 0, none⟩)], args := #[] }] .returning W := by
 refine leaves_cons (f := 38) (args := #[.pointer (some ⟨w.heap.size, 0, none⟩), .pointer (some ⟨w.heap.size + 1, 0, none⟩), .pointer (some ⟨w.heap.size + 1 + 1, 0, none⟩)]) (by simp) (by simp [go_sem]) ?_
 refine (catch_idle _ _ _ _).mono ?_
 rintro en u' w'' ⟨rfl, rfl, rfl⟩
 exact par_end h2 h3 h4 h hown hp
theorem par_pan {s : ByteArray} {w W : World} {tmps : Array Value} {v : Value} {a e a0 e0 : Int} (h2 : tmps.getD 2 undef = .pointer (some ⟨w.heap.size, 0, none⟩)) (h3 : tmps.getD 3 undef = .pointer (some ⟨w.heap.size + 1, 0, none⟩)) (h4 : tmps.getD 4 undef = .pointer (some ⟨w.heap.size + 1 + 1, 0, none⟩)) (h : PB w W v a0 e0) (hp : parseOf s = ([], a, e)) : Leaves Tryz.prog Tryz.f14 tmps (ParR s w) [{ target := .fn (.func 38) #[.pointer (some ⟨w.heap.size, 0, none⟩), .pointer (some ⟨w.heap.size + 1, 0, none⟩), .pointer (some ⟨w.heap.size + 1 + 1, 0, none⟩)], args := #[] }] (.panicking [{ v := .iface 81 (.agg #[.int .i64 a, .int .i64 e]), recovered := false }]) W := by
 refine leaves_cons (f := 38) (args := #[.pointer (some ⟨w.heap.size, 0, none⟩), .pointer (some ⟨w.heap.size + 1, 0, none⟩), .pointer (some ⟨w.heap.size + 1 + 1, 0, none⟩)]) (by simp) (by simp [go_sem]) ?_
 refine (catch_pan w.heap.size (w.heap.size + 1) (w.heap.size + 1 + 1) a e [] _ _ _ W h.o h.a h.e (by omega) (by omega) (by omega)).mono ?_
 rintro en u' w'' ⟨rfl, rfl, hC⟩
 show Leaves _ _ _ _ [] .returning _
 exact par_end h2 h3 h4 ⟨hC.o, hC.a, hC.e, Grew.of_below (h.g.below.trans ⟨hC.os, hC.tape, hC.output, hC.size, fun k hk => hC.old k (by have := h.g.below.size; omega) (by omega) (by omega) (by omega)⟩)⟩ (out := []) (B := 0) (World.ownsRow_nil _ _ _ _) hp
theorem parse_v (s : ByteArray) (B : Nat) (w : World) (hkw : KwAt w B) (hB : B ≤ w.heap.size) :
  Calls Tryz.prog 14 #[.string s] w (ParR s w) := by
 have hm := hmix
 have HK := hide hkw
 have hmf : ∀ (fn : Fn) (first cap : Array Value) (w : World), (Instr.makeFunc fn first cap).run Tryz.prog w = .ok (.func fn first cap) w := fun _ _ _ _ => rfl
 obtain ⟨i0, hi0, hz0, hz1, hz2⟩ := ruInfo_parts
 clear hkw
 go_enter_defers Tryz.func14, Tryz.ntmps14
 go_upto_region 2 with fail
 refine wp_name ?_
 intro W0 hW
 have HPB : Hid (PB w W0 (.slice none 0 0) 0 0) := hide (by
  rw [← hW]
  exact ⟨((Grew.refl _).alloc _ |>.alloc _ |>.heap (by simp)).trans (heap_alloc_new w _), ((Grew.refl _).alloc _ |>.heap (by simp)).trans (by have := heap_alloc_new (w.alloc (.cells #[.slice none 0 0] 22)) (.cells #[.int .i64 0] 3); simpa using this), by have := heap_alloc_new ((w.alloc (.cells #[.slice none 0 0] 22)).alloc (.cells #[.int .i64 0] 3)) (.cells #[.int .i64 0] 24); simpa using this, gw⟩)
 have HWS : Hid (W0.heap.size = w.heap.size + 3) := hide (by rw [← hW]; simp)
 clear hW
 have o0 : W0.cell? ⟨w.heap.size, 0, none⟩ = some _ := blk_cell HPB.out.o 0
 have a0 : W0.cell? ⟨w.heap.size + 1, 0, none⟩ = some _ := blk_cell HPB.out.a 0
 have e0 : W0.cell? ⟨w.heap.size + 1 + 1, 0, none⟩ = some _ := blk_cell HPB.out.e 0
 have ol := blk_lt HPB.out.o
 have al := blk_lt HPB.out.a
 have el := blk_lt HPB.out.e
 have of := blk_frozen HPB.out.o 0
 have af := blk_frozen HPB.out.a 0
 have ef := blk_frozen HPB.out.e 0
 by_cases h8 : 8000 < s.size
 ·have h8' : (8000 : Int) < (s.size : Int) := by omega
  have hp : parseOf s = ([], 0, 2) := by unfold parseOf; rw [if_pos h8]
  have HP := hide hp
  clear hp h8
  go_wp2_with fail
  exact par_idle rfl rfl rfl (HPB.out.put (v' := .slice none 0 0) (a' := 0) (e' := 2)) (out := []) (B := 0) (World.ownsRow_nil _ _ _ _) HP.out
 ·have h8' : ¬ (8000 : Int) < (s.size : Int) := by omega
  have hs : s.size ≤ 100000000000000 := by omega
  have hp : parseGo (s.size + 1) s 0 [] = parseOf s := by unfold parseOf; rw [if_neg h8]
  have HP0 := hide hp
  have hlR : w.heap.size + 3 ≤ W0.heap.size := by have := HWS.out; omega
  have HLR := hide hlR
  clear hp h8 hlR
  go_wp2_with fail
  go_loopw [] (fun wr => ∃ (f i : Nat) (out : List Ru) (v : Value), i ≤ s.size ∧ s.size - i < f ∧ out.length ≤ 40 ∧ AppG (parseGo f s i out = parseOf s ∧ PS w wr W0.heap.size s i out v)) (fun wr => s.size - posR wr W0.heap.size)
  case atStart => exact ⟨s.size + 1, 0, [], .slice none 0 0, by omega, by omega, by simp, show _ ∧ _ from ⟨HP0.out, HPB.out.up gw, heap_alloc_new _ _, World.ownsRow_nil _ _ _ _, HLR.out⟩⟩
  case round =>
   obtain ⟨f, i, out, v, hi, hf, ho, hrel⟩ := hrel
   obtain ⟨hpar, hps⟩ := hrel.stop
   obtain ⟨Av, cv, rfl, _⟩ := fown_slice hps.own
   have HP := hide hpar
   have HS := hide hps
   have ks := hide (fun W (hg : Grew wr W) => skip_v s W0.heap.size i W ((hg.heap (blk_lt hps.rd)).trans hps.rd) hi hs)
   clear hpar hps hrel o0 a0 e0 ol al el of af ef HP0
   go_wp2_with fail
   refine (ks.out _ gw).mono ?_
   rintro en w1 ⟨rfl, hrw⟩
   obtain ⟨a, ha⟩ : ∃ a, endOf isBl s i = a := ⟨_, rfl⟩
   have hia : i ≤ a := by rw [← ha]; exact endOf_ge _ _ _
   have has : a ≤ s.size := by rw [← ha]; exact endOf_le hi
   rw [ha] at hrw ⊢
   have hps1 : PS w w1 W0.heap.size s a out (.slice Av out.length cv) := HS.out.rw hrw
   have HA := hide ha
   have H1 := hide hps1
   have o0 : w1.cell? ⟨w.heap.size, 0, none⟩ = some _ := blk_cell hps1.o 0
   have a0 : w1.cell? ⟨w.heap.size + 1, 0, none⟩ = some _ := blk_cell hps1.a 0
   have e0 : w1.cell? ⟨w.heap.size + 1 + 1, 0, none⟩ = some _ := blk_cell hps1.e 0
   have ol := blk_lt hps1.o
   have al := blk_lt hps1.a
   have el := blk_lt hps1.e
   have of := blk_frozen hps1.o 0
   have af := blk_frozen hps1.a 0
   have ef := blk_frozen hps1.e 0
   clear ks ha hrw hps1
   obtain ⟨f, rfl⟩ : ∃ g, f = g + 1 := ⟨f - 1, by omega⟩
   have hpar := HP.out
   unfold parseGo at hpar
   rw [HA.out] at hpar
   by_cases hlt : a < s.size
   ·rw [decide_eq_true hlt]
    rw [if_pos hlt] at hpar
    by_cases h40 : out.length = 40
    ·rw [if_pos h40] at hpar
     have h40' : (out.length : Int) = 40 := by omega
     have HPF := hide hpar.symm
     have kf := hide (fun W (hg : Grew w1 W) => full_v s W0.heap.size a W ((hg.heap (blk_lt H1.out.rd)).trans H1.out.rd) hlt hs)
     clear hpar a0 e0 al el af ef
     dsimp only
     go_wp2_with fail
     refine (kf.out _ gw).mono ?_
     rintro en w2 ⟨rfl, hg⟩
     have HG2 := hide hg
     clear hg kf
     dsimp only
     go_wp2_with fail
     exact par_pan rfl rfl rfl (H1.out.toPB.up (Grew.trans gw HG2.out)) HPF.out
    ·rw [if_neg h40] at hpar
     have h40' : ¬ (out.length : Int) = 40 := by omega
     have h40b : ((out.length : Int) == 40) = false := by simpa using h40'
     have kr := hide (fun W (hg : Grew w1 W) => rule_v s W0.heap.size a W ((hg.heap (blk_lt H1.out.rd)).trans H1.out.rd) has hs B (HK.out.keep (old_cell_lt (H1.out.g.trans hg) hB)) (by have := HLR.out; omega))
     have HPF := hide hpar
     clear hpar a0 e0 al el af ef
     dsimp only
     go_upto_region 8 with fail
     obtain ⟨rr, hrr⟩ : ∃ rr, ruleAt s a = rr := ⟨_, rfl⟩
     have HRR := hide hrr
     have hpar := HPF.out
     rw [hrr] at hpar
     unfold RuleR at kr
     rw [hrr] at kr
     clear hrr HPF
     refine wp_region_any hm ?_
     cases rr with
     | error pe =>
      obtain ⟨p, e⟩ := pe
      have HPF := hide hpar.symm
      clear hpar
      refine wpAny_ready (rs := [0, 1]) (by kernel_rfl) (by simp) ?_
      refine AllReady.cons (o := _) rfl (fun K hK => ?_) (AllReady.cons (o := _) rfl (fun K hK => ?_) AllReady.nil)
      ·
       go_simp
       refine hK _ _ ?_
       clear hK K
       try simp only [Act.put, setA, getA]
       refine wpAny_ready (rs := [1]) (by kernel_rfl) (by simp) ?_
       refine AllReady.cons (o := _) rfl (fun K hK => ?_) AllReady.nil
       go_simp
       refine hK _ _ ?_
       clear hK K
       try simp only [Act.put, setA, getA]
       refine wpAny_ready (rs := [2]) (by kernel_rfl) (by simp) ?_
       refine AllReady.cons (o := _) rfl (fun K hK => ?_) AllReady.nil
       go_simp
       go_at_call 41
       refine (kr.out _ gw).mono ?_
       rintro en w2 ⟨rfl, hgb⟩
       have HGB := hide hgb
       clear hgb kr
       dsimp only
       go_wp2_with fail
       exact par_pan rfl rfl rfl ((H1.out.toPB.up gw).gb HGB.out HLR.out) HPF.out
      ·
       go_simp
       refine hK _ _ ?_
       clear hK K
       try simp only [Act.put, setA, getA]
       refine wpAny_ready (rs := [0, 2]) (by kernel_rfl) (by simp) ?_
       refine AllReady.cons (o := _) rfl (fun K hK => ?_) (AllReady.cons (o := _) rfl (fun K hK => ?_) AllReady.nil)
       ·
        go_simp
        refine hK _ _ ?_
        clear hK K
        try simp only [Act.put, setA, getA]
        refine wpAny_ready (rs := [2]) (by kernel_rfl) (by simp) ?_
        refine AllReady.cons (o := _) rfl (fun K hK => ?_) AllReady.nil
        go_simp
        go_at_call 41
        refine (kr.out _ gw).mono ?_
        rintro en w2 ⟨rfl, hgb⟩
        have HGB := hide hgb
        clear hgb kr
        dsimp only
        go_wp2_with fail
        exact par_pan rfl rfl rfl ((H1.out.toPB.up gw).gb HGB.out HLR.out) HPF.out
       ·
        go_simp
        go_at_call 41
        refine (kr.out _ gw).mono ?_
        rintro en w2 ⟨rfl, hgb⟩
        have HGB := hide hgb
        clear hgb kr
        dsimp only
        go_wp2_with fail
        exact par_pan rfl rfl rfl ((H1.out.toPB.up gw).gb HGB.out HLR.out) HPF.out
     | ok rb =>
      obtain ⟨⟨ro, rk, rn⟩, b⟩ := rb
      have hbp := rule_prog HRR.out
      have HPF := hide hpar
      clear hpar HRR
      refine wpAny_ready (rs := [0, 1]) (by kernel_rfl) (by simp) ?_
      refine AllReady.cons (o := _) rfl (fun K hK => ?_) (AllReady.cons (o := _) rfl (fun K hK => ?_) AllReady.nil)
      ·
       go_simp
       refine hK _ _ ?_
       clear hK K
       try simp only [Act.put, setA, getA]
       refine wpAny_ready (rs := [1]) (by kernel_rfl) (by simp) ?_
       refine AllReady.cons (o := _) rfl (fun K hK => ?_) AllReady.nil
       go_simp
       refine hK _ _ ?_
       clear hK K
       try simp only [Act.put, setA, getA]
       refine wpAny_ready (rs := [2]) (by kernel_rfl) (by simp) ?_
       refine AllReady.cons (o := _) rfl (fun K hK => ?_) AllReady.nil
       go_simp
       go_at_call 41
       refine (kr.out _ gw).mono ?_
       rintro en w2 ⟨rfl, hrw⟩
       have hps2 : PS w w2 W0.heap.size s b out (.slice Av out.length cv) := (H1.out.up gw).rw hrw
       have H2 := hide hps2
       have p0 : w2.cell? ⟨w.heap.size, 0, none⟩ = some _ := blk_cell hps2.o 0
       have pl := blk_lt hps2.o
       have pf := blk_frozen hps2.o 0
       clear kr hrw hps2
       dsimp only
       refine hK _ _ ?_
       clear hK K
       try simp only [Act.put, setA, getA]
       refine wpAny_ready (rs := [3]) (by kernel_rfl) (by simp) ?_
       refine AllReady.cons (o := _) rfl (fun K hK => ?_) AllReady.nil
       go_simp
       refine hK _ _ ?_
       clear hK K
       try simp only [Act.put, setA, getA]
       refine wpAny_ready (rs := [4]) (by kernel_rfl) (by simp) ?_
       refine AllReady.cons (o := _) rfl (fun K hK => ?_) AllReady.nil
       have HW4 := hide (H2.out.up (W' := w2.alloc (.cells #[.int .i64 ro, .int .i64 rk, .int .i64 rn] 36)) gw)
       refine step_append_any _ rfl (.tmp 20) (.tmp 23) _ rfl (W0.heap.size + 1) 36 i0 _ 3 24 Tryz.underlying22 hi0 hz0 hz1 hz2 rfl (by omega) _ out.length (out.flatMap encR) rfl HW4.out.own _ (some ⟨_, 0, none⟩) 1 1 ([(ro, rk, rn)].flatMap encR) rfl ((Rd.litR _ ro rk rn _ _ (by simp)).reads encR_len (by omega)) (ru_one _) (by simp only [maxLen]; omega) (by omega) (by have := blk_lt HW4.out.rd; omega) ?_
       intro v' w4 hown1 hg1 _
       obtain ⟨Av', cv', rfl, _⟩ := fown_slice hown1
       have HAP := hide (HW4.out.app (r := (ro, rk, rn)) hown1 (by simp) (by simp) hg1)
       have hb4 : w4.heap[w.heap.size]? = some _ := (hg1.block _ (blk_lt HW4.out.o) (fun e => by have := (HW4.out.own.lt _ e.symm).1; have := HLR.out; omega)).trans HW4.out.o
       have q0 : w4.cell? ⟨w.heap.size, 0, none⟩ = some _ := blk_cell hb4 0
       have qf := blk_frozen hb4 0
       have ql := blk_lt hb4
       clear hown1 hg1 hb4
       refine hK _ _ ?_
       clear hK K
       try simp only [Act.put, setA, getA]
       refine wpAny_ready (rs := [5]) (by kernel_rfl) (by simp) ?_
       refine AllReady.cons (o := _) rfl (fun K hK => ?_) AllReady.nil
       go_simp
       refine hK _ _ ?_
       clear hK K
       try simp only [Act.put, setA, getA]
       refine wpAny_done (by kernel_rfl) ?_ _
       go_wp2_with fail
       go_roundw
       case rel => exact ⟨f, b, out ++ [(ro, rk, rn)], _, by omega, by omega, by simp; omega, show _ ∧ _ from ⟨HPF.out, HAP.out⟩⟩
       case measure => rw [posR_at HS.out.rd, posR_at HAP.out.rd]; omega
      ·
       go_simp
       refine hK _ _ ?_
       clear hK K
       try simp only [Act.put, setA, getA]
       refine wpAny_ready (rs := [0, 2]) (by kernel_rfl) (by simp) ?_
       refine AllReady.cons (o := _) rfl (fun K hK => ?_) (AllReady.cons (o := _) rfl (fun K hK => ?_) AllReady.nil)
       ·
        go_simp
        refine hK _ _ ?_
        clear hK K
        try simp only [Act.put, setA, getA]
        refine wpAny_ready (rs := [2]) (by kernel_rfl) (by simp) ?_
        refine AllReady.cons (o := _) rfl (fun K hK => ?_) AllReady.nil
        go_simp
        go_at_call 41
        refine (kr.out _ gw).mono ?_
        rintro en w2 ⟨rfl, hrw⟩
        have hps2 : PS w w2 W0.heap.size s b out (.slice Av out.length cv) := (H1.out.up gw).rw hrw
        have H2 := hide hps2
        have p0 : w2.cell? ⟨w.heap.size, 0, none⟩ = some _ := blk_cell hps2.o 0
        have pl := blk_lt hps2.o
        have pf := blk_frozen hps2.o 0
        clear kr hrw hps2
        dsimp only
        refine hK _ _ ?_
        clear hK K
        try simp only [Act.put, setA, getA]
        refine wpAny_ready (rs := [3]) (by kernel_rfl) (by simp) ?_
        refine AllReady.cons (o := _) rfl (fun K hK => ?_) AllReady.nil
        go_simp
        refine hK _ _ ?_
        clear hK K
        try simp only [Act.put, setA, getA]
        refine wpAny_ready (rs := [4]) (by kernel_rfl) (by simp) ?_
        refine AllReady.cons (o := _) rfl (fun K hK => ?_) AllReady.nil
        have HW4 := hide (H2.out.up (W' := w2.alloc (.cells #[.int .i64 ro, .int .i64 rk, .int .i64 rn] 36)) gw)
        refine step_append_any _ rfl (.tmp 20) (.tmp 23) _ rfl (W0.heap.size + 1) 36 i0 _ 3 24 Tryz.underlying22 hi0 hz0 hz1 hz2 rfl (by omega) _ out.length (out.flatMap encR) rfl HW4.out.own _ (some ⟨_, 0, none⟩) 1 1 ([(ro, rk, rn)].flatMap encR) rfl ((Rd.litR _ ro rk rn _ _ (by simp)).reads encR_len (by omega)) (ru_one _) (by simp only [maxLen]; omega) (by omega) (by have := blk_lt HW4.out.rd; omega) ?_
        intro v' w4 hown1 hg1 _
        obtain ⟨Av', cv', rfl, _⟩ := fown_slice hown1
        have HAP := hide (HW4.out.app (r := (ro, rk, rn)) hown1 (by simp) (by simp) hg1)
        have hb4 : w4.heap[w.heap.size]? = some _ := (hg1.block _ (blk_lt HW4.out.o) (fun e => by have := (HW4.out.own.lt _ e.symm).1; have := HLR.out; omega)).trans HW4.out.o
        have q0 : w4.cell? ⟨w.heap.size, 0, none⟩ = some _ := blk_cell hb4 0
        have qf := blk_frozen hb4 0
        have ql := blk_lt hb4
        clear hown1 hg1 hb4
        refine hK _ _ ?_
        clear hK K
        try simp only [Act.put, setA, getA]
        refine wpAny_ready (rs := [5]) (by kernel_rfl) (by simp) ?_
        refine AllReady.cons (o := _) rfl (fun K hK => ?_) AllReady.nil
        go_simp
        refine hK _ _ ?_
        clear hK K
        try simp only [Act.put, setA, getA]
        refine wpAny_done (by kernel_rfl) ?_ _
        go_wp2_with fail
        go_roundw
        case rel => exact ⟨f, b, out ++ [(ro, rk, rn)], _, by omega, by omega, by simp; omega, show _ ∧ _ from ⟨HPF.out, HAP.out⟩⟩
        case measure => rw [posR_at HS.out.rd, posR_at HAP.out.rd]; omega
       ·
        go_simp
        go_at_call 41
        refine (kr.out _ gw).mono ?_
        rintro en w2 ⟨rfl, hrw⟩
        have hps2 : PS w w2 W0.heap.size s b out (.slice Av out.length cv) := (H1.out.up gw).rw hrw
        have H2 := hide hps2
        have p0 : w2.cell? ⟨w.heap.size, 0, none⟩ = some _ := blk_cell hps2.o 0
        have pl := blk_lt hps2.o
        have pf := blk_frozen hps2.o 0
        clear kr hrw hps2
        dsimp only
        refine hK _ _ ?_
        clear hK K
        try simp only [Act.put, setA, getA]
        refine wpAny_ready (rs := [0, 3]) (by kernel_rfl) (by simp) ?_
        refine AllReady.cons (o := _) rfl (fun K hK => ?_) (AllReady.cons (o := _) rfl (fun K hK => ?_) AllReady.nil)
        ·
         go_simp
         refine hK _ _ ?_
         clear hK K
         try simp only [Act.put, setA, getA]
         refine wpAny_ready (rs := [3]) (by kernel_rfl) (by simp) ?_
         refine AllReady.cons (o := _) rfl (fun K hK => ?_) AllReady.nil
         go_simp
         refine hK _ _ ?_
         clear hK K
         try simp only [Act.put, setA, getA]
         refine wpAny_ready (rs := [4]) (by kernel_rfl) (by simp) ?_
         refine AllReady.cons (o := _) rfl (fun K hK => ?_) AllReady.nil
         have HW4 := hide (H2.out.up (W' := w2.alloc (.cells #[.int .i64 ro, .int .i64 rk, .int .i64 rn] 36)) gw)
         refine step_append_any _ rfl (.tmp 20) (.tmp 23) _ rfl (W0.heap.size + 1) 36 i0 _ 3 24 Tryz.underlying22 hi0 hz0 hz1 hz2 rfl (by omega) _ out.length (out.flatMap encR) rfl HW4.out.own _ (some ⟨_, 0, none⟩) 1 1 ([(ro, rk, rn)].flatMap encR) rfl ((Rd.litR _ ro rk rn _ _ (by simp)).reads encR_len (by omega)) (ru_one _) (by simp only [maxLen]; omega) (by omega) (by have := blk_lt HW4.out.rd; omega) ?_
         intro v' w4 hown1 hg1 _
         obtain ⟨Av', cv', rfl, _⟩ := fown_slice hown1
         have HAP := hide (HW4.out.app (r := (ro, rk, rn)) hown1 (by simp) (by simp) hg1)
         have hb4 : w4.heap[w.heap.size]? = some _ := (hg1.block _ (blk_lt HW4.out.o) (fun e => by have := (HW4.out.own.lt _ e.symm).1; have := HLR.out; omega)).trans HW4.out.o
         have q0 : w4.cell? ⟨w.heap.size, 0, none⟩ = some _ := blk_cell hb4 0
         have qf := blk_frozen hb4 0
         have ql := blk_lt hb4
         clear hown1 hg1 hb4
         refine hK _ _ ?_
         clear hK K
         try simp only [Act.put, setA, getA]
         refine wpAny_ready (rs := [5]) (by kernel_rfl) (by simp) ?_
         refine AllReady.cons (o := _) rfl (fun K hK => ?_) AllReady.nil
         go_simp
         refine hK _ _ ?_
         clear hK K
         try simp only [Act.put, setA, getA]
         refine wpAny_done (by kernel_rfl) ?_ _
         go_wp2_with fail
         go_roundw
         case rel => exact ⟨f, b, out ++ [(ro, rk, rn)], _, by omega, by omega, by simp; omega, show _ ∧ _ from ⟨HPF.out, HAP.out⟩⟩
         case measure => rw [posR_at HS.out.rd, posR_at HAP.out.rd]; omega
        ·
         go_simp
         refine hK _ _ ?_
         clear hK K
         try simp only [Act.put, setA, getA]
         refine wpAny_ready (rs := [0]) (by kernel_rfl) (by simp) ?_
         refine AllReady.cons (o := _) rfl (fun K hK => ?_) AllReady.nil
         go_simp
         refine hK _ _ ?_
         clear hK K
         try simp only [Act.put, setA, getA]
         refine wpAny_ready (rs := [4]) (by kernel_rfl) (by simp) ?_
         refine AllReady.cons (o := _) rfl (fun K hK => ?_) AllReady.nil
         have HW4 := hide (H2.out.up (W' := w2.alloc (.cells #[.int .i64 ro, .int .i64 rk, .int .i64 rn] 36)) gw)
         refine step_append_any _ rfl (.tmp 20) (.tmp 23) _ rfl (W0.heap.size + 1) 36 i0 _ 3 24 Tryz.underlying22 hi0 hz0 hz1 hz2 rfl (by omega) _ out.length (out.flatMap encR) rfl HW4.out.own _ (some ⟨_, 0, none⟩) 1 1 ([(ro, rk, rn)].flatMap encR) rfl ((Rd.litR _ ro rk rn _ _ (by simp)).reads encR_len (by omega)) (ru_one _) (by simp only [maxLen]; omega) (by omega) (by have := blk_lt HW4.out.rd; omega) ?_
         intro v' w4 hown1 hg1 _
         obtain ⟨Av', cv', rfl, _⟩ := fown_slice hown1
         have HAP := hide (HW4.out.app (r := (ro, rk, rn)) hown1 (by simp) (by simp) hg1)
         have hb4 : w4.heap[w.heap.size]? = some _ := (hg1.block _ (blk_lt HW4.out.o) (fun e => by have := (HW4.out.own.lt _ e.symm).1; have := HLR.out; omega)).trans HW4.out.o
         have q0 : w4.cell? ⟨w.heap.size, 0, none⟩ = some _ := blk_cell hb4 0
         have qf := blk_frozen hb4 0
         have ql := blk_lt hb4
         clear hown1 hg1 hb4
         refine hK _ _ ?_
         clear hK K
         try simp only [Act.put, setA, getA]
         refine wpAny_ready (rs := [5]) (by kernel_rfl) (by simp) ?_
         refine AllReady.cons (o := _) rfl (fun K hK => ?_) AllReady.nil
         go_simp
         refine hK _ _ ?_
         clear hK K
         try simp only [Act.put, setA, getA]
         refine wpAny_done (by kernel_rfl) ?_ _
         go_wp2_with fail
         go_roundw
         case rel => exact ⟨f, b, out ++ [(ro, rk, rn)], _, by omega, by omega, by simp; omega, show _ ∧ _ from ⟨HPF.out, HAP.out⟩⟩
         case measure => rw [posR_at HS.out.rd, posR_at HAP.out.rd]; omega
   ·rw [decide_eq_false hlt]
    rw [if_neg hlt] at hpar
    have HPF := hide hpar.symm
    clear hpar
    dsimp only
    go_wp2_with fail
    exact par_idle rfl rfl rfl (H1.out.toPB.put (v' := .slice Av out.length cv) (a' := 0) (e' := 0)) (own_far H1.out.own fun k hk => put3_far (by have := HLR.out; omega) (by have := HLR.out; omega) (by have := HLR.out; omega)) HPF.out
end Go.Proofs.YtfeccolljfkejaaGreatDoor
