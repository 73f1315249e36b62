/- Package rule's reader: stop, skip, run, number; what its block holds. No condition but that a source is not longer than memory. -/
import Derived.WalkLawsBesides
import Derived.Laws.Strings2
import Derived.Test.YtfeccolljfkejaaGreatDoorReg
import Derived.Test.YtfeccolljfkejaaGreatDoorApp
import Derived.Test.YtfeccolljfkejaaGreatDoorPoa
set_option linter.unusedSimpArgs false
set_option linter.unusedVariables false
set_option maxHeartbeats 4000000
set_option maxRecDepth 100000
namespace Go.Proofs.YtfeccolljfkejaaGreatDoor
open Go.RowKit Go.Sort
attribute [local go_sem] Steady steadyUpon
attribute [local go_sem ↓] hs_dr lt_add_r lt_add_r2 lt_add_r3 lt_add_r4 lt_add_r5 lt_add_r6
attribute [local go_sem] cell?_gd frozen?_gd setCell_gd size_grow tape_grow cell?_grow' frozen?_grow' setCell_grow' grow_grow grow_dr grow_drew dr_dr dr_drew drew_dr dr_alloc dr_setCell dr_cell dr_frozen dr_tape dr_drawn
attribute [local irreducible] wpSteady
/-- A byte of a string. -/
def bAt (s : ByteArray) (j : Nat) : Int := ((s.data.toList.getD j 0).toNat : Int)
theorem bAt_bd (s : ByteArray) (j : Nat) : 0 ≤ bAt s j ∧ bAt s j ≤ 255 := by
 unfold bAt
 have := (s.data.toList.getD j 0).toNat_lt
 omega
theorem ba_len (s : ByteArray) : s.data.toList.length = s.size := by rw [Array.length_toList]; rfl
theorem ba_get (s : ByteArray) (j : Nat) (hj : j < s.size) : s[j] = s.data.toList.getD j 0 := by
 have h1 : j < s.data.toList.length := by rw [ba_len]; exact hj
 rw [List.getD_eq_getElem?_getD, List.getElem?_eq_getElem h1]
 rfl
theorem str_idx {P : Program} {t : TypeId} (ht : P.underlying t = some .string) (s : ByteArray) (j : Nat) (hj : j < s.size) : ∀ w, (Instr.index t (.string s) (.int .i64 (j : Int))).run P w = .ok (.int .u8 (bAt s j)) w := by
 intro w
 rw [run_index_string w t s .i64 (j : Int) ht, dif_pos ⟨by omega, by omega⟩]
 unfold bAt
 rw [← ba_get s j hj]
 rfl
theorem str_slice {P : Program} {t : TypeId} (ht : P.underlying t = some .string) (s : ByteArray) (i j : Nat) (hij : i ≤ j) (hj : j ≤ s.size) : ∀ w, (Instr.slice t (.string s) (some (.int .i64 (i : Int))) (some (.int .i64 (j : Int))) none).run P w = .ok (.string (s.extract i j)) w := fun w => by
 have := run_slice_string (P := P) w t s .i64 .i64 (i : Int) (j : Int) ht (by omega) (by omega) (by omega)
 simpa using this
/-- The end of what is like p, from i on. -/
def endOf (p : Int → Bool) (s : ByteArray) (i : Nat) : Nat := i + ((s.data.toList.drop i).takeWhile fun b => p (b.toNat : Int)).length
theorem drop_at {s : ByteArray} {i : Nat} (hi : i < s.size) : s.data.toList.drop i = (s.data.toList.getD i 0) :: s.data.toList.drop (i + 1) := by
 have h1 : i < s.data.toList.length := by rw [ba_len]; exact hi
 rw [List.drop_eq_getElem_cons h1, List.getD_eq_getElem?_getD, List.getElem?_eq_getElem h1]
 rfl
theorem endOf_stop {p : Int → Bool} {s : ByteArray} {i : Nat} (h : i < s.size → p (bAt s i) = false) : endOf p s i = i := by
 unfold endOf
 by_cases hi : i < s.size
 ·have h1 := h hi
  unfold bAt at h1
  rw [drop_at hi, List.takeWhile_cons, h1]
  rfl
 ·rw [List.drop_eq_nil_of_le (by rw [ba_len]; omega)]
  rfl
theorem endOf_step {p : Int → Bool} {s : ByteArray} {i : Nat} (hi : i < s.size) (h : p (bAt s i) = true) : endOf p s i = endOf p s (i + 1) := by
 unfold endOf
 unfold bAt at h
 rw [drop_at hi, List.takeWhile_cons, h, if_pos rfl, List.length_cons]
 omega
theorem endOf_ge (p : Int → Bool) (s : ByteArray) (i : Nat) : i ≤ endOf p s i := by unfold endOf; omega
theorem endOf_le {p : Int → Bool} {s : ByteArray} {i : Nat} (h : i ≤ s.size) : endOf p s i ≤ s.size := by
 unfold endOf
 have := (List.takeWhile_prefix (fun b : UInt8 => p (b.toNat : Int)) (l := s.data.toList.drop i)).length_le
 rw [List.length_drop, ba_len] at this
 omega
theorem ret_str {a b : ByteArray} (h : a = b) : Value.string a = .string b := by rw [h]
def isBl (b : Int) : Bool := decide (b = 32 ∨ b = 10)
def inR (lo hi b : Int) : Bool := decide (lo ≤ b ∧ b ≤ hi)
/-- What is a number's text. -/
def numB (x : ByteArray) : Bool := decide (1 ≤ x.size ∧ x.size ≤ 7 ∧ (x.size = 1 ∨ bAt x 0 ≠ 48))
/-- A reader's block. -/
abbrev rcl (s : ByteArray) (i : Int) : Obj := .cells #[.string s, .int .i64 i] 84 (0, 0)
/-- The world behind a call that moves the reader to j, and does nothing else to what was there. -/
structure RW (R : Nat) (s : ByteArray) (j : Int) (w w' : World) : Prop where
 gb : w.grownBy w' (some R)
 at_ : w'.heap[R]? = some (rcl s j)
section
variable {R : Nat} {s : ByteArray} {i j : Int} {w w' w'' : World}
theorem RW.of (h : w.heap[R]? = some (rcl s j)) (g : Grew w w') : RW R s j w w' := ⟨g.grownBy _, (g.heap (blk_lt h)).trans h⟩
theorem RW.trans (h : RW R s i w w') (k : RW R s j w' w'') : RW R s j w w'' :=
 ⟨⟨k.gb.os.trans h.gb.os, k.gb.tape.trans h.gb.tape, k.gb.output.trans h.gb.output, Nat.le_trans h.gb.size k.gb.size, fun b hb hne => (k.gb.block b (Nat.lt_of_lt_of_le hb h.gb.size) hne).trans (h.gb.block b hb hne)⟩, k.at_⟩
theorem RW.grew (h : RW R s j w w') (g : Grew w' w'') : RW R s j w w'' := h.trans (RW.of h.at_ g)
theorem RW.set0 (h : w.heap[R]? = some (rcl s i)) (j : Int) : RW R s j w (w.setCell ⟨R, 1, none⟩ (.int .i64 j)) :=
 ⟨⟨rfl, rfl, rfl, by simp, fun b hb hne => Below.heap_setCell w ⟨R, 1, none⟩ _ b (fun e => hne (by rw [e]))⟩, by
  have := heap_setCell_same w R 1 _ _ (.int .i64 j) h
  simpa using this⟩
theorem RW.set (h : w.heap[R]? = some (rcl s i)) (g : Grew (w.setCell ⟨R, 1, none⟩ (.int .i64 j)) w') : RW R s j w w' := (RW.set0 h j).grew g
theorem RW.old (h : RW R s j w w') {b : Nat} {o : Obj} (hne : b ≠ R) (hb : w.heap[b]? = some o) : w'.heap[b]? = some o :=
 (h.gb.block b (blk_lt hb) (fun e => hne (Option.some.inj e))).trans hb
end
/-- Where the reader is. -/
def posR (w : World) (R : Nat) : Nat := match w.cell? ⟨R, 1, none⟩ with
 | some (.int _ n) => n.toNat
 | _ => 0
theorem posR_at {w : World} {R : Nat} {s : ByteArray} {j : Nat} (h : w.heap[R]? = some (rcl s j)) : posR w R = j := by
 unfold posR
 rw [show w.cell? ⟨R, 1, none⟩ = some (.int .i64 (j : Int)) from blk_cell h 1]
 simp
theorem RW.inc {R j : Nat} {s : ByteArray} {w w' : World} (h : w.heap[R]? = some (rcl s (j : Int))) (g : Grew (w.setCell ⟨R, 1, none⟩ (.int .i64 ((j : Int) + 1))) w') : RW R s ((j + 1 : Nat) : Int) w w' := by
 have := RW.set h g
 simpa using this
theorem posR_inc {R j : Nat} {s : ByteArray} {w w' : World} (h : w.heap[R]? = some (rcl s (j : Int))) (g : Grew (w.setCell ⟨R, 1, none⟩ (.int .i64 ((j : Int) + 1))) w') : posR w' R = j + 1 := posR_at (RW.inc h g).at_
def StopR (i e : Int) (w : World) (en : Ending) (w' : World) : Prop := en = .panicked [{ v := .iface 81 (.agg #[.int .i64 i, .int .i64 e]), recovered := false }] ∧ Grew w w'
theorem stop_v (s : ByteArray) (R : Nat) (i e : Int) (w : World) (h : w.heap[R]? = some (rcl s i)) :
  Calls Tryz.prog 71 #[.pointer (some ⟨R, 0, none⟩), .int .i64 e] w (StopR i e w) := by
 have hm := hmix
 have c0 : w.cell? ⟨R, 0, none⟩ = _ := blk_cell h 0
 have c1 : w.cell? ⟨R, 1, none⟩ = _ := blk_cell h 1
 have cl := blk_lt h
 clear h
 go_enter Tryz.func71, Tryz.ntmps71
 go_wp2_with fail
 exact ⟨rfl, rfl, gw⟩
theorem skip_v (s : ByteArray) (R i : Nat) (w : World) (h : w.heap[R]? = some (rcl s (i : Int))) (hi : i ≤ s.size) (hs : s.size ≤ 100000000000000) :
  Calls Tryz.prog 39 #[.pointer (some ⟨R, 0, none⟩)] w fun e w' => e = .returned (.bool (decide (endOf isBl s i < s.size))) ∧ RW R s (endOf isBl s i : Nat) w w' := by
 have hm := hmix
 have H := hide h
 clear h
 go_enter Tryz.func39, Tryz.ntmps39
 go_wp2_with fail
 go_loopw [] (fun wr => ∃ j : Nat, i ≤ j ∧ j ≤ s.size ∧ AppG (endOf isBl s i = endOf isBl s j ∧ RW R s (j : Int) w wr)) (fun wr => s.size - posR wr R)
 case atStart => exact ⟨i, by omega, hi, rfl, RW.of H.out gw⟩
 case round =>
  obtain ⟨j, hij, hj, hrel⟩ := hrel
  obtain ⟨he, hrw⟩ := hrel.stop
  have HE := hide he
  have HR := hide hrw
  have c0 : wr.cell? ⟨R, 0, none⟩ = _ := blk_cell hrw.at_ 0
  have c1 : wr.cell? ⟨R, 1, none⟩ = _ := blk_cell hrw.at_ 1
  have cl := blk_lt hrw.at_
  have cf := blk_frozen hrw.at_ 1
  clear he hrw
  by_cases hlt : j < s.size
  ·have hix := str_idx Tryz.underlying9 s j hlt
   have h1 : (j : Int) < (s.size : Int) := by omega
   have h1d : decide ((j : Int) < (s.size : Int)) = true := decide_eq_true h1
   have hstep := endOf_step (p := isBl) hlt
   have hstop : ¬ (bAt s j = 32 ∨ bAt s j = 10) → endOf isBl s j = j := fun hn => endOf_stop fun _ => decide_eq_false hn
   have HST := hide hstep
   have HSP := hide hstop
   clear hstep hstop
   by_cases h32 : bAt s j = 32
   ·have hp : isBl (bAt s j) = true := by unfold isBl; rw [h32]; rfl
    rw [h32] at hix
    have HP := hide hp
    clear h32 hp
    go_wp2_with fail
    refine wp_region_qas 34 [] [] hm (h := ?_)
    repeat (refine wpSteady_step (fun K hK => ?_); go_simp; refine hK _ ?_; clear hK K)
    refine rq0 fun nq osq => ?_
    try simp only [Act.put, setA]
    try dsimp only
    go_wp2_with fail
    go_roundw
    case rel => exact ⟨j + 1, by omega, by omega, show _ ∧ _ from ⟨by rw [HE.out]; exact HST.out HP.out, HR.out.trans (RW.inc HR.out.at_ gw)⟩⟩
    case measure => rw [posR_at HR.out.at_, posR_inc HR.out.at_ (Grew.mk _ nq osq)]; omega
   ·by_cases h10 : bAt s j = 10
    ·have hp : isBl (bAt s j) = true := by unfold isBl; rw [h10]; rfl
     rw [h10] at hix
     have HP := hide hp
     clear h32 h10 hp
     go_wp2_with fail
     refine wp_region_qas 34 [] [] hm (h := ?_)
     repeat (refine wpSteady_step (fun K hK => ?_); go_simp; refine hK _ ?_; clear hK K)
     refine rq0 fun nq osq => ?_
     try simp only [Act.put, setA]
     try dsimp only
     go_wp2_with fail
     go_roundw
     case rel => exact ⟨j + 1, by omega, by omega, show _ ∧ _ from ⟨by rw [HE.out]; exact HST.out HP.out, HR.out.trans (RW.inc HR.out.at_ gw)⟩⟩
     case measure => rw [posR_at HR.out.at_, posR_inc HR.out.at_ (Grew.mk _ nq osq)]; omega
    ·have hend := HSP.out (by omega)
     have HEND := hide hend
     have n32 : (bAt s j == 32) = false := by simpa using h32
     have n10 : (bAt s j == 10) = false := by simpa using h10
     clear hend
     go_wp2_with fail
     refine wp_region_qas 34 [] [] hm (h := ?_)
     repeat (refine wpSteady_step (fun K hK => ?_); go_simp; refine hK _ ?_; clear hK K)
     refine rq0 fun nq osq => ?_
     try simp only [Act.put, setA]
     try dsimp only
     go_wp2_with fail
     refine wp_region_qas 11 [] [] hm (h := ?_)
     repeat (refine wpSteady_step (fun K hK => ?_); go_simp; refine hK _ ?_; clear hK K)
     refine rq0 fun nqz osqz => ?_
     try simp only [Act.put, setA]
     try dsimp only
     go_wp2_with fail
     go_ret
     refine ⟨congrArg Ending.returned (ret_bool ?_), ?_⟩
     ·rw [HE.out, HEND.out, decide_eq_true hlt]
     ·rw [HE.out, HEND.out]; exact HR.out.grew gw
  ·obtain rfl : j = s.size := by omega
   have hend : endOf isBl s s.size = s.size := endOf_stop fun h => by omega
   have h1 : ¬ (s.size : Int) < (s.size : Int) := by omega
   have HEND := hide hend
   clear hend
   go_wp2_with fail
   refine wp_region_qas 34 [] [] hm (h := ?_)
   repeat (refine wpSteady_step (fun K hK => ?_); go_simp; refine hK _ ?_; clear hK K)
   refine rq0 fun nq osq => ?_
   try simp only [Act.put, setA]
   try dsimp only
   go_wp2_with fail
   refine wp_region_qas 11 [] [] hm (h := ?_)
   repeat (refine wpSteady_step (fun K hK => ?_); go_simp; refine hK _ ?_; clear hK K)
   refine rq0 fun nqz osqz => ?_
   try simp only [Act.put, setA]
   try dsimp only
   go_wp2_with fail
   go_ret
   refine ⟨congrArg Ending.returned (ret_bool ?_), ?_⟩
   ·rw [HE.out, HEND.out, decide_eq_false hlt]
   ·rw [HE.out, HEND.out]; exact HR.out.grew gw
theorem run_v (s : ByteArray) (R i : Nat) (lo hi : Int) (w : World) (h : w.heap[R]? = some (rcl s (i : Int))) (hi' : i ≤ s.size) (hs : s.size ≤ 100000000000000) :
  Calls Tryz.prog 70 #[.pointer (some ⟨R, 0, none⟩), .int .u8 lo, .int .u8 hi] w (Ret w (.string (s.extract i (endOf (inR lo hi) s i)))) := by
 have hm := hmix
 have H := hide h
 have c0 : w.cell? ⟨R, 0, none⟩ = _ := blk_cell h 0
 have c1 : w.cell? ⟨R, 1, none⟩ = _ := blk_cell h 1
 have cl := blk_lt h
 clear h
 go_enter Tryz.func70, Tryz.ntmps70
 go_wp2_with fail
 go_loopw [7] (fun u wr => ∃ j : Nat, u = .int .i64 j ∧ i ≤ j ∧ j ≤ s.size ∧ Grew w wr ∧ AppG (endOf (inR lo hi) s i = endOf (inR lo hi) s j)) (fun u _ => s.size - (intOf u).toNat)
 case atStart => exact ⟨i, rfl, by omega, hi', gw, rfl⟩
 case round =>
  obtain ⟨j, rfl, hij, hj, hg, hrel⟩ := hrel
  have HE := hide hrel.stop
  have HG := hide hg
  have d0 : wr.cell? ⟨R, 0, none⟩ = _ := blk_cell ((hg.heap (blk_lt H.out)).trans H.out) 0
  have d1 : wr.cell? ⟨R, 1, none⟩ = _ := blk_cell ((hg.heap (blk_lt H.out)).trans H.out) 1
  have dl := blk_lt ((hg.heap (blk_lt H.out)).trans H.out)
  have hsl := str_slice Tryz.underlying9 s i j hij hj
  clear hg hrel c0 c1 cl
  have hcase : (j < s.size ∧ inR lo hi (bAt s j) = true) ∨ (j < s.size ∧ bAt s j < lo) ∨ (j < s.size ∧ lo ≤ bAt s j ∧ hi < bAt s j) ∨ ¬ j < s.size := by
   unfold inR
   rw [decide_eq_true_eq]
   omega
  rcases hcase with ⟨hlt, hp⟩ | ⟨hlt, hp⟩ | ⟨hlt, hq, hp⟩ | hlt
  ·have hix := str_idx Tryz.underlying9 s j hlt
   have HST := hide (endOf_step (p := inR lo hi) hlt hp)
   unfold inR at hp
   rw [decide_eq_true_eq] at hp
   obtain ⟨p1, p2⟩ := hp
   have q1 : decide (lo ≤ bAt s j) = true := decide_eq_true p1
   have q2 : decide (bAt s j ≤ hi) = true := decide_eq_true p2
   have h1 : (j : Int) < (s.size : Int) := by omega
   go_wp2_with fail
   go_roundw
   case rel => exact ⟨j + 1, by go_num, by omega, by omega, HG.out.trans gw, show _ = _ by rw [HE.out]; exact HST.out⟩
   case measure => simp [intOf]; omega
  ·have hix := str_idx Tryz.underlying9 s j hlt
   have HEND : Hid (endOf (inR lo hi) s j = j) := hide (endOf_stop fun _ => decide_eq_false (by omega))
   have q1 : decide (lo ≤ bAt s j) = false := decide_eq_false (by omega)
   have q0 : ¬ lo ≤ bAt s j := by omega
   have h1 : (j : Int) < (s.size : Int) := by omega
   go_wp2_with fail
   refine wp_region_qas 11 [] [] hm (h := ?_)
   repeat (refine wpSteady_step (fun K hK => ?_); go_simp; refine hK _ ?_; clear hK K)
   refine rq0 fun nq osq => ?_
   try simp only [Act.put, setA]
   try dsimp only
   go_wp2_with fail
   go_ret
   exact Ret.mk' (ret_str (by rw [HE.out, HEND.out])) (HG.out.trans gw)
  ·have hix := str_idx Tryz.underlying9 s j hlt
   have HEND : Hid (endOf (inR lo hi) s j = j) := hide (endOf_stop fun _ => decide_eq_false (by omega))
   have q1 : decide (lo ≤ bAt s j) = true := decide_eq_true hq
   have q2 : decide (bAt s j ≤ hi) = false := decide_eq_false (by omega)
   have q0 : ¬ bAt s j ≤ hi := by omega
   have h1 : (j : Int) < (s.size : Int) := by omega
   go_wp2_with fail
   refine wp_region_qas 11 [] [] hm (h := ?_)
   repeat (refine wpSteady_step (fun K hK => ?_); go_simp; refine hK _ ?_; clear hK K)
   refine rq0 fun nq osq => ?_
   try simp only [Act.put, setA]
   try dsimp only
   go_wp2_with fail
   go_ret
   exact Ret.mk' (ret_str (by rw [HE.out, HEND.out])) (HG.out.trans gw)
  ·obtain rfl : j = s.size := by omega
   have HEND : Hid (endOf (inR lo hi) s s.size = s.size) := hide (endOf_stop fun h => by omega)
   have h1 : ¬ (s.size : Int) < (s.size : Int) := by omega
   go_wp2_with fail
   refine wp_region_qas 11 [] [] hm (h := ?_)
   repeat (refine wpSteady_step (fun K hK => ?_); go_simp; refine hK _ ?_; clear hK K)
   refine rq0 fun nq osq => ?_
   try simp only [Act.put, setA]
   try dsimp only
   go_wp2_with fail
   go_ret
   exact Ret.mk' (ret_str (by rw [HE.out, HEND.out])) (HG.out.trans gw)
theorem ba_nil {x : ByteArray} (h : x.size = 0) : x = ⟨#[]⟩ := by
 obtain ⟨d⟩ := x
 have : d = #[] := Array.eq_empty_of_size_eq_zero h
 rw [this]
theorem number_v (s : ByteArray) (R i : Nat) (x : ByteArray) (w : World) (h : w.heap[R]? = some (rcl s (i : Int))) (hi' : i ≤ s.size) (hs : s.size ≤ 100000000000000) (hx : s.extract i (endOf (inR 48 57) s i) = x) :
  Calls Tryz.prog 69 #[.pointer (some ⟨R, 0, none⟩)] w (Ret w (.tuple #[.string x, .bool (numB x)])) := by
 have hm := hmix
 have k1 := hide (fun W (hg : Grew w W) => run_v s R i 48 57 W ((hg.heap (blk_lt h)).trans h) hi' hs)
 rw [hx] at k1
 clear h hx
 obtain ⟨r, hr⟩ : ∃ r, numB x = r := ⟨_, rfl⟩
 rw [hr]
 unfold numB at hr
 by_cases h0 : x.size = 0
 ·obtain rfl := ba_nil h0
  obtain rfl : false = r := by rw [← hr]; rfl
  clear hr h0
  go_enter Tryz.func69, Tryz.ntmps69
  go_wp2_with (go_at_call 70; with_reducible refine crv (k1.out _ gw) fun _ _ => ?_; dsimp only)
  refine wp_region_qas 20 [] [] hm (h := ?_)
  repeat (refine wpSteady_step (fun K hK => ?_); go_simp; refine hK _ ?_; clear hK K)
  refine rq0 fun nq osq => ?_
  try simp only [Act.put, setA]
  try dsimp only
  go_wp2_with fail
  go_ret2
  exact Ret.mk' rfl gw
 ·have e1 : ¬ x.toList = [] := by
   rw [ByteArray.toList_eq]
   intro h
   apply h0
   rw [← ba_len, h]
   rfl
  have e2 : (x.toList == []) = false := by simpa using e1
  have e3 : x.toList.isEmpty = false := by simpa using e1
  by_cases h7 : x.size ≤ 7
  ·have g7 : (x.size : Int) ≤ 7 := by omega
   by_cases hone : x.size = 1
   ·obtain rfl : true = r := by rw [← hr]; simp [hone]
    have g1 : (x.size : Int) = 1 := by omega
    clear hr h0 h7 hone
    go_enter Tryz.func69, Tryz.ntmps69
    go_wp2_with (go_at_call 70; with_reducible refine crv (k1.out _ gw) fun _ _ => ?_; dsimp only)
    refine wp_region_qas 20 [] [] hm (h := ?_)
    repeat (refine wpSteady_step (fun K hK => ?_); go_simp; refine hK _ ?_; clear hK K)
    refine rq0 fun nq osq => ?_
    try simp only [Act.put, setA]
    try dsimp only
    go_wp2_with fail
    go_ret2
    exact Ret.mk' rfl gw
   ·have g1 : ¬ (x.size : Int) = 1 := by omega
    have g2 : ((x.size : Int) == 1) = false := by simpa using g1
    have hix : ∀ w, (Instr.index 9 (.string x) (.int .i64 0)).run Tryz.prog w = .ok (.int .u8 (bAt x 0)) w := str_idx Tryz.underlying9 x 0 (by omega)
    by_cases h48 : bAt x 0 = 48
    ·obtain rfl : false = r := by rw [← hr]; simp [hone, h48]
     rw [h48] at hix
     clear hr h0 h7 hone h48
     go_enter Tryz.func69, Tryz.ntmps69
     go_wp2_with (go_at_call 70; with_reducible refine crv (k1.out _ gw) fun _ _ => ?_; dsimp only)
     refine wp_region_qas 20 [] [] hm (h := ?_)
     repeat (refine wpSteady_step (fun K hK => ?_); go_simp; refine hK _ ?_; clear hK K)
     refine rq0 fun nq osq => ?_
     try simp only [Act.put, setA]
     try dsimp only
     go_wp2_with fail
     go_ret2
     exact Ret.mk' rfl gw
    ·obtain rfl : true = r := by
      rw [← hr]
      simp [h48, h7]
      omega
     have h48b : (bAt x 0 == 48) = false := by simpa using h48
     clear hr h0 h7 hone
     go_enter Tryz.func69, Tryz.ntmps69
     go_wp2_with (go_at_call 70; with_reducible refine crv (k1.out _ gw) fun _ _ => ?_; dsimp only)
     refine wp_region_qas 20 [] [] hm (h := ?_)
     repeat (refine wpSteady_step (fun K hK => ?_); go_simp; refine hK _ ?_; clear hK K)
     refine rq0 fun nq osq => ?_
     try simp only [Act.put, setA]
     try dsimp only
     go_wp2_with fail
     go_ret2
     exact Ret.mk' (ret_tup2 rfl (ret_bool (by simpa using h48))) gw
  ·obtain rfl : false = r := by rw [← hr]; simp [h7]
   have g7 : ¬ (x.size : Int) ≤ 7 := by omega
   have g7d : decide ((x.size : Int) ≤ 7) = false := decide_eq_false g7
   clear hr h0 h7
   go_enter Tryz.func69, Tryz.ntmps69
   go_wp2_with (go_at_call 70; with_reducible refine crv (k1.out _ gw) fun _ _ => ?_; dsimp only)
   refine wp_region_qas 20 [] [] hm (h := ?_)
   repeat (refine wpSteady_step (fun K hK => ?_); go_simp; refine hK _ ?_; clear hK K)
   refine rq0 fun nq osq => ?_
   try simp only [Act.put, setA]
   try dsimp only
   go_wp2_with fail
   go_ret2
   exact Ret.mk' rfl gw
end Go.Proofs.YtfeccolljfkejaaGreatDoor
