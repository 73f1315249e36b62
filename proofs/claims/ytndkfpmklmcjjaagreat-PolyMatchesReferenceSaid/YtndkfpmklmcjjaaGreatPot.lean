/- slices.Grow and slices.Concat at places; slices.Clone. -/
import Derived.Test.YtndkfpmklmcjjaaGreatPos
import Derived.Lib.AppendZerosOnto
set_option linter.unusedSimpArgs false
set_option linter.unusedVariables false
set_option maxHeartbeats 1600000
set_option maxRecDepth 100000
namespace Go.Proofs.YtndkfpmklmcjjaaGreat
open Go.RowKit Go.Sort
attribute [local go_sem] Steady steadyUpon
attribute [local go_sem ↓] hs_dr lt_add_r lt_add_r2 lt_add_r3 lt_add_r4 lt_add_r5 lt_add_r6
attribute [local go_sem] cell?_gd frozen?_gd setCell_gd size_grow tape_grow cell?_grow' frozen?_grow' setCell_grow' grow_grow grow_dr grow_drew dr_dr dr_drew drew_dr dr_alloc dr_setCell dr_cell dr_frozen dr_tape dr_drawn
attribute [local irreducible] wpSteady
theorem GrowQ_any (n : Nat) (w : World) (hn : n ≤ 1000000) :
  Calls Tryz.prog 95 #[.slice none 0 0, .int .i64 n] w fun e w' => ∃ v, e = .returned v ∧ w'.ownsRow w.heap.size 24 2 v 0 [] ∧ Grew w w' := by
 have hm := hmix
 obtain ⟨i0, hi, hz0, hz1, hz2⟩ := info_parts ptInf
 by_cases h0 : n = 0
 ·subst h0
  go_enter Tryz.func95, Tryz.ntmps95
  go_wp2
  go_ret
  exact ⟨_, rfl, World.ownsRow_nil _ _ _ _, gw⟩
 ·have hb1 : n * i0.bytes ≤ 281474976710656 := by rw [hz2]; omega
  have hb2 : Builtin.nextslicecap (0 + n) 0 * i0.bytes ≤ 281474976710656 := by
   rw [hz2]
   have : Builtin.nextslicecap (0 + n) 0 = n := by simp [Builtin.nextslicecap]; omega
   rw [this]
   omega
  obtain ⟨cur, hcur⟩ : ∃ cur, cur = (([] : List Value).toArray ++ Builtin.zeroCells (Value.agg #[.int .i64 0, .int .i64 0]).cells n ++ Builtin.zeroCells (Value.agg #[.int .i64 0, .int .i64 0]).cells (grownCap w n 0 24 - n)) := ⟨_, rfl⟩
  have hge := grownCap_ge w n 0 24
  have hle := grownCap_le_maxLen w n 0 24 (by unfold maxLen; omega)
  have hrz : ∀ ty, (Builtin.append_ #[22, 3] ty #[.slice none 0 0, .int .i64 (n : Int)]).run Tryz.prog w =
    .ok (.slice (some ⟨w.heap.size, 0, none⟩) n (grownCap w n 0 24)) (w.drew.alloc (.cells cur 24)) := fun ty => by
   have h := Lib.run_append_grow_zeros w 22 3 ty 24 i0 _ .i64 .i64 Tryz.underlying22 Tryz.underlying3 hi hz0 none 0 0 [] (by exact run_firstCells_none w.drew i0.size 0 0 0) n (by omega) (by omega) (by omega) (by omega) hb1 hb2
   rw [Nat.zero_add] at h
   rw [hcur]
   exact h
  have hcs : cur.size = grownCap w n 0 24 * 2 := by
   rw [hcur]
   simp only [Array.size_append, Builtin.zeroCells, Array.size_map, Array.size_range, Value.cells, List.size_toArray, List.length_nil, List.length_cons, Nat.reduceAdd]
   omega
  clear hcur hb1 hb2
  obtain ⟨G, hG⟩ : ∃ G, G = grownCap w n 0 24 := ⟨_, rfl⟩
  rw [← hG] at hge hle hcs hrz
  clear hG
  have h1 : 0 < n := by omega
  unfold maxLen at hle
  have HC := hide hcs
  clear hcs
  go_enter Tryz.func95, Tryz.ntmps95
  go_wp2_with (at_builtin; refine Lib.wpList_append_run _ rfl _ _ _ _ rfl _ _ rfl rfl _ _ (hrz _) ?_)
  go_ret
  refine ⟨_, rfl, ?_, gw⟩
  have := World.ownsRow_made (base := w.heap.size) (e := 24) (size := 2) w.drew cur G (Nat.le_refl _) (by unfold maxLen; omega) HC.out
  exact this
/-- A slice value of sectors, as it stands in a slice of slices. -/
structure PL where
 A : Option Addr
 c : Nat
 ss : List Pt
def PL.val (x : PL) : Value := .slice x.A x.ss.length x.c
def preQ (LL : List PL) (k : Nat) : List Pt := (LL.take k).flatMap PL.ss
theorem preQ_step {LL : List PL} {k : Nat} {x : PL} (h : LL[k]? = some x) : preQ LL (k + 1) = preQ LL k ++ x.ss := by
 unfold preQ
 rw [List.take_add_one, h]
 simp
theorem preQ_len {LL : List PL} (h : ∀ x ∈ LL, x.ss.length ≤ 1000) : ∀ k, (preQ LL k).length ≤ 1000 * k
 | 0 => by simp [preQ]
 | k + 1 => by
  have ih := preQ_len h k
  cases hx : LL[k]? with
  | none =>
   unfold preQ at ih ⊢
   rw [List.take_add_one, hx]
   simp
   simp at ih
   omega
  | some x =>
   rw [preQ_step hx, List.length_append]
   have := h x (List.mem_of_getElem? hx)
   omega
theorem preQ_all (LL : List PL) : preQ LL LL.length = LL.flatMap PL.ss := by unfold preQ; rw [List.take_length]
theorem enc_one (ss : List Pt) : ∀ u ∈ ss.flatMap encD, u.oneCell' = true := by
 intro u hu
 obtain ⟨s, _, hs⟩ := List.mem_flatMap.1 hu
 simp [encD] at hs
 rcases hs with rfl | rfl <;> rfl
theorem ConcatQ_any (LL : List PL) (O : Option Addr) (c : Nat) (w : World) (hr : Rd w w.heap.size 1 O (LL.map fun x => [x.val])) (hin : ∀ x ∈ LL, Rd w w.heap.size 2 x.A (x.ss.map encD)) (hl : LL.length ≤ 10) (hs : ∀ x ∈ LL, x.ss.length ≤ 1000) :
  Calls Tryz.prog 58 #[.slice O LL.length c] w fun e w' => ∃ v, e = .returned v ∧ w'.ownsRow w.heap.size 24 2 v (LL.flatMap PL.ss).length ((LL.flatMap PL.ss).flatMap encD) ∧ Grew w w' := by
 have hm := hmix
 obtain ⟨i0, hi, hz0, hz1, hz2⟩ := info_parts ptInf
 have HI := hide hin
 have HS := hide hs
 clear hin hs
 go_enter Tryz.func58, Tryz.ntmps58
 go_wp2_with fail
 go_loopw [3, 11] (fun sz i wr => ∃ k : Nat, k ≤ LL.length ∧ i = .int .i64 k ∧ sz = .int .i64 ((preQ LL k).length : Nat) ∧ Grew w wr) (fun _ i _ => LL.length - (intOf i).toNat)
 case atStart => exact ⟨0, by omega, rfl, rfl, Grew.refl _⟩
 case round =>
  obtain ⟨k, hk, rfl, rfl, hg⟩ := hrel
  have HW := hide hg
  clear hg
  have hpl := preQ_len HS.out k
  by_cases hlt : k < LL.length
  ·obtain ⟨x, hx⟩ : ∃ x, LL[k]? = some x := ⟨_, List.getElem?_eq_getElem hlt⟩
   obtain ⟨b, off, hA, hb, hc⟩ := (hr.up HW.out).at_ (k := k) (x := [x.val]) (by simp [hx])
   replace hA := hide hA
   have c0 := hc 0 x.val rfl
   simp only [Nat.mul_one, Nat.add_zero, PL.val] at c0
   clear hc
   have hxs := HS.out x (List.mem_of_getElem? hx)
   have hst := preQ_step hx
   have HX := hide hx
   clear hx
   have HST := hide hst
   clear hst
   have hix := idx_run (cap := c) Tryz.underlying98 Tryz.sizeOf22 hA.out hlt
   simp only [Nat.mul_one] at hix
   go_wp2_with fail
   go_roundw
   case rel => exact ⟨k + 1, by omega, by go_num, by rw [HST.out]; simp, HW.out⟩
   case measure => simp [intOf]; omega
  ·obtain rfl : k = LL.length := by omega
   go_wp2_with (go_at_call 95; refine (GrowQ_any _ _ (by omega)).mono ?_; rintro e w1 ⟨v0, rfl, hown, hg1⟩; dsimp only)
   have hbase : w.heap.size ≤ wr.heap.size := HW.out.below.size
   have hown0 : w1.ownsRow w.heap.size 24 2 v0 0 [] := by
    refine ⟨hown.1, hown.2.imp id fun ⟨g, cap, cur, h1, h2, h3⟩ => ⟨g, cap, cur, h1, Nat.le_trans hbase h2, h3⟩⟩
   have HO := hide hown0
   have hb1 := (HW.out.trans hg1).below
   have HB := hide hb1
   clear hown hown0 hg1 hb1
   clear HW hpl
   go_loopw [6, 27] (fun v i wq => ∃ k : Nat, k ≤ LL.length ∧ i = .int .i64 k ∧ wq.ownsRow w.heap.size 24 2 v (preQ LL k).length ((preQ LL k).flatMap encD) ∧ Below w.heap.size w wq) (fun _ i _ => LL.length - (intOf i).toNat)
   case atStart => exact ⟨0, by omega, rfl, HO.out, HB.out⟩
   case round =>
    obtain ⟨k, hk, rfl, hown, hbel⟩ := hrel
    have HW := hide (Grew.of_below hbel)
    have hpl := preQ_len HS.out k
    have hsz := hbel.size
    have HBel := hide hbel
    clear hbel
    by_cases hlt : k < LL.length
    ·obtain ⟨x, hx⟩ : ∃ x, LL[k]? = some x := ⟨_, List.getElem?_eq_getElem hlt⟩
     obtain ⟨b, off, hA, hb, hc⟩ := (hr.up HW.out).at_ (k := k) (x := [x.val]) (by simp [hx])
     replace hA := hide hA
     have c0 := hc 0 x.val rfl
     simp only [Nat.mul_one, Nat.add_zero, PL.val] at c0
     clear hc
     have hxs := HS.out x (List.mem_of_getElem? hx)
     have hrx := ((HI.out x (List.mem_of_getElem? hx)).up HW.out).reads encD_len (by omega)
     have hst := preQ_step hx
     have HX := hide hx
     clear hx
     have HST := hide hst
     clear hst
     have HR := hide hrx
     clear hrx
     have HOW := hide hown
     clear hown
     have hix := idx_run (cap := c) Tryz.underlying98 Tryz.sizeOf22 hA.out hlt
     simp only [Nat.mul_one] at hix
     go_wp2_with (at_builtin; refine wpList_append_any _ rfl (.tmp 31) (.tmp 32) _ rfl w.heap.size 24 i0 _ 2 16 Tryz.underlying22 hi hz0 hz1 hz2 rfl (by omega) _ (preQ LL k).length ((preQ LL k).flatMap encD) rfl HOW.out wr.heap.size x.A x.ss.length x.c (x.ss.flatMap encD) rfl HR.out (enc_one _) (by simp only [maxLen]; omega) (by omega) hsz ?_; intro v' w1 hown1 hg1 hat1)
     have hbw := HBel.out.grown hg1 hsz (fun q hq => (HOW.out.lt q hq).1)
     have HBW := hide hbw
     have HO1 := hide hown1
     clear hbw hown1 hg1 hat1
     go_wp2_with fail
     go_roundw
     case rel => exact ⟨k + 1, by omega, by go_num, by rw [HST.out, List.length_append, List.flatMap_append]; exact HO1.out, HBW.out⟩
     case measure => simp [intOf]; omega
    ·obtain rfl : k = LL.length := by omega
     go_wp2_with fail
     go_ret
     rw [preQ_all] at hown
     exact ⟨_, rfl, hown, HW.out⟩
/-- The clone of a slice that is not empty. -/
theorem CloneQ_any (ps : List Pt) (A : Option Addr) (c : Nat) (w : World) (hr : Rd w w.heap.size 2 A (ps.map encD)) (h0 : 0 < ps.length) (hl : ps.length ≤ 1000) :
  Calls Tryz.prog 52 #[.slice A ps.length c] w fun e w' => ∃ g cap, e = .returned (.slice (some ⟨g, 0, none⟩) ps.length cap) ∧ w'.ownsRow w.heap.size 24 2 (.slice (some ⟨g, 0, none⟩) ps.length cap) ps.length (ps.flatMap encD) ∧ Grew w w' := by
 have hm := hmix
 obtain ⟨i0, hi, hz0, hz1, hz2⟩ := info_parts ptInf
 have hrx := hr.reads encD_len (by omega)
 obtain ⟨b, off, hA, hb, _⟩ := ptAt hr (cor_get h0)
 obtain rfl := hA.out
 have hnil : ∀ W, (binOp .eql 22 (.slice (some ⟨b, off, none⟩) ps.length c) (.slice none 0 0)).run Tryz.prog W = .ok (.bool false) W := fun W => by rw [Lib.run_eql_slice_nil (P := Tryz.prog) W 22 _ _ _ _ _ _ Tryz.underlying22]; rfl
 have HR := hide hrx
 clear hrx hr hA
 go_enter Tryz.func52, Tryz.ntmps52
 go_wp2_with (at_builtin; refine AppG2.stop ?_)
 refine AppG2.go ?_
 have hlit := World.ownsRow_lit (base := w.heap.size) (e := 24) (size := 2) w #[] 0 (Nat.le_refl _) (by unfold maxLen; omega) rfl
 refine wpList_append_any _ rfl (.tmp 5) (.tmp 6) _ rfl w.heap.size 24 i0 _ 2 16 Tryz.underlying22 hi hz0 hz1 hz2 rfl (by omega) _ 0 [] rfl hlit w.heap.size (some ⟨b, off, none⟩) ps.length c (ps.flatMap encD) rfl (HR.out.alloc (Nat.le_refl _) _) (enc_one _) (by simp only [maxLen]; omega) (by omega) (by simp) ?_
 intro v' w1 hown1 hg1 _
 rw [Nat.zero_add, List.nil_append] at hown1
 obtain ⟨n, hn⟩ : ∃ n, ps.length = n + 1 := ⟨ps.length - 1, by omega⟩
 obtain ⟨g, cap, rfl⟩ : ∃ g cap, v' = .slice (some ⟨g, 0, none⟩) ps.length cap := by
  rw [hn] at hown1 ⊢
  exact ownsRow_succ hown1
 have hb0 : Below w.heap.size w (w.alloc (.cells #[] 24)) := (Grew.alloc (Grew.refl w) _).below
 have hb1 : Below w.heap.size w w1 := hb0.grown hg1 hb0.size fun q hq => (hlit.lt q hq).1
 have HO := hide hown1
 have HB := hide hb1
 clear hlit hown1 hg1 hb0 hb1 hn
 go_wp2_with fail
 go_ret
 exact ⟨g, cap, rfl, HO.out, Grew.of_below HB.out⟩
end Go.Proofs.YtndkfpmklmcjjaaGreat
