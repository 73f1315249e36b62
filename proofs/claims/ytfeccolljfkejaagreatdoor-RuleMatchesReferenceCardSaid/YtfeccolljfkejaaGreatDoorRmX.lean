import Derived.Test.YtfeccolljfkejaaGreatDoorRpD
import Derived.Test.YtfeccolljfkejaaGreatDoorRpC
/- The reference implementation of package rule: skip, letters, digits, index, ops, kinds, number. -/
set_option linter.unusedSimpArgs false
set_option linter.unusedVariables false
set_option maxHeartbeats 4000000
set_option maxRecDepth 100000
namespace Go.Proofs.YtfeccolljfkejaaGreatDoor
open Go.RowKit Go.Sort
attribute [local go_sem] Steady steadyUpon
attribute [local go_sem ↓] hs_dr lt_add_r lt_add_r2 lt_add_r3 lt_add_r4 lt_add_r5 lt_add_r6
attribute [local go_sem] cell?_gd frozen?_gd setCell_gd size_grow tape_grow cell?_grow' frozen?_grow' setCell_grow' grow_grow grow_dr grow_drew dr_dr dr_drew drew_dr dr_alloc dr_setCell dr_cell dr_frozen dr_tape dr_drawn
attribute [local irreducible] wpSteady
theorem rskip_v (s : ByteArray) (i a : Nat) (w : World) (hi : i ≤ s.size) (hs : s.size ≤ 100000000000000) (h : endOf isBl s i = a) :
  Calls Tryz.prog 48 #[.string s, .int .i64 (i : Int)] w (Ret w (.int .i64 (a : Int))) := by
 have hm := hmix
 have HH := hide h
 clear h
 go_enter Tryz.func48, Tryz.ntmps48
 go_wp2_with fail
 go_loopw [1] (fun k wr => ∃ j : Nat, i ≤ j ∧ j ≤ s.size ∧ k = .int .i64 (j : Int) ∧ AppG (endOf isBl s i = endOf isBl s j) ∧ Grew w wr) (fun k _ => s.size - (intOf k).toNat)
 case atStart => exact ⟨i, by omega, hi, rfl, rfl, gw⟩
 case round =>
  obtain ⟨j, hij, hj, rfl, he, hg⟩ := hrel
  have HE := hide he.stop
  have HG := hide hg
  clear he hg
  by_cases hlt : j < s.size
  ·have hix := str_idx Tryz.underlying9 s j hlt
   have h1 : (j : Int) < (s.size : Int) := by omega
   have h1d : decide ((j : Int) < (s.size : Int)) = true := decide_eq_true h1
   have hstep := endOf_step (p := isBl) hlt
   have hstop : ¬ (bAt s j = 32 ∨ bAt s j = 10) → endOf isBl s j = j := fun hn => endOf_stop fun _ => decide_eq_false hn
   have HST := hide hstep
   have HSP := hide hstop
   clear hstep hstop
   by_cases h32 : bAt s j = 32
   ·have hp : isBl (bAt s j) = true := by unfold isBl; rw [h32]; rfl
    rw [h32] at hix
    have HP := hide hp
    clear h32 hp
    go_wp2_with fail
    go_roundw
    case rel => exact ⟨j + 1, by omega, by omega, by go_num, show _ = _ from (by rw [HE.out]; exact HST.out HP.out), HG.out.trans gw⟩
    case measure => simp [intOf]; omega
   ·by_cases h10 : bAt s j = 10
    ·have hp : isBl (bAt s j) = true := by unfold isBl; rw [h10]; rfl
     rw [h10] at hix
     have HP := hide hp
     clear h32 h10 hp
     go_wp2_with fail
     go_roundw
     case rel => exact ⟨j + 1, by omega, by omega, by go_num, show _ = _ from (by rw [HE.out]; exact HST.out HP.out), HG.out.trans gw⟩
     case measure => simp [intOf]; omega
    ·have hend := HSP.out (by omega)
     have HEND := hide hend
     have e1 : (bAt s j == 32) = false := by simpa using h32
     have e2 : (bAt s j == 10) = false := by simpa using h10
     clear hend
     go_wp2_with fail
     go_ret
     exact Ret.mk' (ret_int (by rw [← HH.out, HE.out, HEND.out])) (HG.out.trans gw)
  ·obtain rfl : j = s.size := by omega
   have hend : endOf isBl s s.size = s.size := endOf_stop fun h => absurd h (Nat.lt_irrefl _)
   have HEND := hide hend
   clear hend
   go_wp2_with fail
   go_ret
   exact Ret.mk' (ret_int (by rw [← HH.out, HE.out, HEND.out])) (HG.out.trans gw)
theorem rletters_v (s : ByteArray) (i a : Nat) (w : World) (hi : i ≤ s.size) (hs : s.size ≤ 100000000000000) (h : endOf (inR 97 122) s i = a) :
  Calls Tryz.prog 93 #[.string s, .int .i64 (i : Int)] w (Ret w (.int .i64 (a : Int))) := by
 have hm := hmix
 have HH := hide h
 clear h
 go_enter Tryz.func93, Tryz.ntmps93
 go_wp2_with fail
 go_loopw [1] (fun k wr => ∃ j : Nat, i ≤ j ∧ j ≤ s.size ∧ k = .int .i64 (j : Int) ∧ AppG (endOf (inR 97 122) s i = endOf (inR 97 122) s j) ∧ Grew w wr) (fun k _ => s.size - (intOf k).toNat)
 case atStart => exact ⟨i, by omega, hi, rfl, rfl, gw⟩
 case round =>
  obtain ⟨j, hij, hj, rfl, he, hg⟩ := hrel
  have HE := hide he.stop
  have HG := hide hg
  clear he hg
  by_cases hlt : j < s.size
  ·have hix := str_idx Tryz.underlying9 s j hlt
   have h1 : (j : Int) < (s.size : Int) := by omega
   have h1d : decide ((j : Int) < (s.size : Int)) = true := decide_eq_true h1
   have HST := hide (endOf_step (p := inR 97 122) hlt)
   have HSP : Hid (inR 97 122 (bAt s j) = false → endOf (inR 97 122) s j = j) := hide fun hn => endOf_stop fun _ => hn
   obtain ⟨b, hb⟩ : ∃ b, bAt s j = b := ⟨_, rfl⟩
   rw [hb] at hix HST HSP
   clear hb
   by_cases h97 : 97 ≤ b
   ·have d1 : decide ((97 : Int) ≤ b) = true := decide_eq_true h97
    by_cases h122 : b ≤ 122
    ·have d2 : decide (b ≤ (122 : Int)) = true := decide_eq_true h122
     have HP : Hid (inR 97 122 b = true) := hide (decide_eq_true ⟨h97, h122⟩)
     go_wp2_with fail
     go_roundw
     case rel => exact ⟨j + 1, by omega, by omega, by go_num, show _ = _ from (by rw [HE.out]; exact HST.out HP.out), HG.out.trans gw⟩
     case measure => simp [intOf]; omega
    ·have d2 : decide (b ≤ (122 : Int)) = false := decide_eq_false h122
     have HEND := hide (HSP.out (decide_eq_false fun h => h122 h.2))
     go_wp2_with fail
     go_ret
     exact Ret.mk' (ret_int (by rw [← HH.out, HE.out, HEND.out])) (HG.out.trans gw)
   ·have d1 : decide ((97 : Int) ≤ b) = false := decide_eq_false h97
    have HEND := hide (HSP.out (decide_eq_false fun h => h97 h.1))
    go_wp2_with fail
    go_ret
    exact Ret.mk' (ret_int (by rw [← HH.out, HE.out, HEND.out])) (HG.out.trans gw)
  ·obtain rfl : j = s.size := by omega
   have hend : endOf (inR 97 122) s s.size = s.size := endOf_stop fun h => absurd h (Nat.lt_irrefl _)
   have HEND := hide hend
   clear hend
   go_wp2_with fail
   go_ret
   exact Ret.mk' (ret_int (by rw [← HH.out, HE.out, HEND.out])) (HG.out.trans gw)
theorem rdigits_v (s : ByteArray) (i a : Nat) (w : World) (hi : i ≤ s.size) (hs : s.size ≤ 100000000000000) (h : endOf (inR 48 57) s i = a) :
  Calls Tryz.prog 125 #[.string s, .int .i64 (i : Int)] w (Ret w (.int .i64 (a : Int))) := by
 have hm := hmix
 have HH := hide h
 clear h
 go_enter Tryz.func125, Tryz.ntmps125
 go_wp2_with fail
 go_loopw [1] (fun k wr => ∃ j : Nat, i ≤ j ∧ j ≤ s.size ∧ k = .int .i64 (j : Int) ∧ AppG (endOf (inR 48 57) s i = endOf (inR 48 57) s j) ∧ Grew w wr) (fun k _ => s.size - (intOf k).toNat)
 case atStart => exact ⟨i, by omega, hi, rfl, rfl, gw⟩
 case round =>
  obtain ⟨j, hij, hj, rfl, he, hg⟩ := hrel
  have HE := hide he.stop
  have HG := hide hg
  clear he hg
  by_cases hlt : j < s.size
  ·have hix := str_idx Tryz.underlying9 s j hlt
   have h1 : (j : Int) < (s.size : Int) := by omega
   have h1d : decide ((j : Int) < (s.size : Int)) = true := decide_eq_true h1
   have HST := hide (endOf_step (p := inR 48 57) hlt)
   have HSP : Hid (inR 48 57 (bAt s j) = false → endOf (inR 48 57) s j = j) := hide fun hn => endOf_stop fun _ => hn
   obtain ⟨b, hb⟩ : ∃ b, bAt s j = b := ⟨_, rfl⟩
   rw [hb] at hix HST HSP
   clear hb
   by_cases h97 : 48 ≤ b
   ·have d1 : decide ((48 : Int) ≤ b) = true := decide_eq_true h97
    by_cases h122 : b ≤ 57
    ·have d2 : decide (b ≤ (57 : Int)) = true := decide_eq_true h122
     have HP : Hid (inR 48 57 b = true) := hide (decide_eq_true ⟨h97, h122⟩)
     go_wp2_with fail
     go_roundw
     case rel => exact ⟨j + 1, by omega, by omega, by go_num, show _ = _ from (by rw [HE.out]; exact HST.out HP.out), HG.out.trans gw⟩
     case measure => simp [intOf]; omega
    ·have d2 : decide (b ≤ (57 : Int)) = false := decide_eq_false h122
     have HEND := hide (HSP.out (decide_eq_false fun h => h122 h.2))
     go_wp2_with fail
     go_ret
     exact Ret.mk' (ret_int (by rw [← HH.out, HE.out, HEND.out])) (HG.out.trans gw)
   ·have d1 : decide ((48 : Int) ≤ b) = false := decide_eq_false h97
    have HEND := hide (HSP.out (decide_eq_false fun h => h97 h.1))
    go_wp2_with fail
    go_ret
    exact Ret.mk' (ret_int (by rw [← HH.out, HE.out, HEND.out])) (HG.out.trans gw)
  ·obtain rfl : j = s.size := by omega
   have hend : endOf (inR 48 57) s s.size = s.size := endOf_stop fun h => absurd h (Nat.lt_irrefl _)
   have HEND := hide hend
   clear hend
   go_wp2_with fail
   go_ret
   exact Ret.mk' (ret_int (by rw [← HH.out, HE.out, HEND.out])) (HG.out.trans gw)
end Go.Proofs.YtfeccolljfkejaaGreatDoor

/- The reference implementation of package rule: index, ops, kinds, number, over. -/
set_option linter.unusedSimpArgs false
set_option linter.unusedVariables false
set_option maxHeartbeats 4000000
set_option maxRecDepth 100000
namespace Go.Proofs.YtfeccolljfkejaaGreatDoor
open Go.RowKit Go.Sort
attribute [local go_sem] Steady steadyUpon
attribute [local go_sem ↓] hs_dr lt_add_r lt_add_r2 lt_add_r3 lt_add_r4 lt_add_r5 lt_add_r6
attribute [local go_sem] cell?_gd frozen?_gd setCell_gd size_grow tape_grow cell?_grow' frozen?_grow' setCell_grow' grow_grow grow_dr grow_drew dr_dr dr_drew drew_dr dr_alloc dr_setCell dr_cell dr_frozen dr_tape dr_drawn
attribute [local irreducible] wpSteady
theorem strB_sym (x y : ByteArray) : strB x y = strB y x := by
 unfold strB
 rw [Bool.eq_iff_iff, beq_iff_eq, beq_iff_eq]
 exact ⟨Eq.symm, Eq.symm⟩
theorem rindex_v (ls : List ByteArray) (A : Option Addr) (c : Nat) (x : ByteArray) (r : Int) (w : World) (hr : Rd w w.heap.size 1 A (ls.map encS)) (hc : 1 ≤ ls.length ∧ ls.length ≤ 1000) (h0 : ∀ z, ls[0]? = some z → strB x z = false) (h : (if wIdx ls x < 0 then 0 else wIdx ls x) = r) :
  Calls Tryz.prog 94 #[.slice A ls.length c, .string x] w (Ret w (.int .i64 r)) := by
 have hm := hmix
 have HR := hide hr
 have HH := hide h
 have H0 := hide h0
 clear hr h h0
 go_enter Tryz.func94, Tryz.ntmps94
 go_wp2_with fail
 go_loopw [5] (fun i wr => ∃ k : Nat, 1 ≤ k ∧ k ≤ ls.length ∧ i = .int .i64 k ∧ Grew w wr ∧ AppG (∀ j z, j < k → ls[j]? = some z → strB x z = false)) (fun i _ => ls.length - (intOf i).toNat)
 case atStart => exact ⟨1, by omega, by omega, rfl, gw, show ∀ j z, j < 1 → ls[j]? = some z → strB x z = false from fun j z hj hz => by
  obtain rfl : j = 0 := by omega
  exact H0.out z hz⟩
 case round =>
  obtain ⟨k, hk1, hk, rfl, hg, hall⟩ := hrel
  have HG := hide hg
  have HA := hide hall.stop
  clear hg hall
  by_cases hlt : k < ls.length
  ·obtain ⟨y, hy⟩ : ∃ y, ls[k]? = some y := ⟨_, List.getElem?_eq_getElem hlt⟩
   obtain ⟨b, off, hA, hb, g0⟩ := strCell (HR.out.up HG.out) hy
   have hix := idx_run (cap := c) Tryz.underlying77 Tryz.sizeOf9 hA.out hlt
   rw [Nat.mul_one] at hix
   have HY := hide hy
   clear hy hA
   cases hs : strB x y
   ·have e1 := strB_to ((strB_sym y x).trans hs)
    have e2 : ¬ y.toList = x.toList := by simpa using e1
    have HS := hide hs
    clear hs
    go_wp2_with fail
    go_roundw
    case rel => exact ⟨k + 1, by omega, by omega, by go_num, HG.out.trans gw, show ∀ j z, j < k + 1 → ls[j]? = some z → strB x z = false from (fun j z hj hz => by
     by_cases e : j = k
     ·subst e
      rw [HY.out] at hz
      injection hz with hz
      rw [← hz]
      exact HS.out
     ·exact HA.out j z (by omega) hz)⟩
    case measure => simp [intOf]; omega
   ·have hw := wIdx_at HY.out hs HA.out
    obtain rfl := strB_iff.1 hs
    have hrr : r = (k : Int) := by
     have := HH.out
     rw [hw, if_neg (by omega)] at this
     exact this.symm
    have HW := hide hrr
    clear hs hw hrr
    go_wp2_with fail
    go_ret
    exact Ret.mk' (ret_int HW.out.symm) (HG.out.trans gw)
  ·obtain rfl : k = ls.length := by omega
   have hrr : r = 0 := by
    have := HH.out
    rw [wIdx_no HA.out, if_pos (by omega)] at this
    exact this.symm
   have HW := hide hrr
   clear hrr
   go_wp2_with fail
   go_ret
   exact Ret.mk' (ret_int HW.out.symm) (HG.out.trans gw)
/-- A new row of words. -/
def OwnS (ls : List ByteArray) (w : World) (e : Ending) (w' : World) : Prop := ∃ A c, e = .returned (.slice A ls.length c) ∧ Rd w' w'.heap.size 1 A (ls.map encS) ∧ Grew w w'
theorem rd_lit {w : World} {b : Nat} {T : TypeId} (ls : List ByteArray) (cs : Array Value) (hb : w.heap[b]? = some (.cells cs T (0, 0))) (hc : cs.toList = ls.map Value.string) : Rd w w.heap.size 1 (some ⟨b, 0, none⟩) (ls.map encS) := by
 refine .inr ⟨b, 0, rfl, blk_lt hb, fun k x hx j v hv => ?_⟩
 rw [List.getElem?_map] at hx
 obtain ⟨y, hy, rfl⟩ := Option.map_eq_some_iff.1 hx
 have hj : j = 0 := by
  have := (List.getElem?_eq_some_iff.1 hv).1
  simp [encS] at this
  exact this
 subst hj
 simp [encS] at hv
 subst hv
 rw [blk_cell hb, show 0 + k * 1 + 0 = k by omega, ← Array.getElem?_toList, hc, List.getElem?_map, hy]
 rfl
theorem rops_v (w : World) : Calls Tryz.prog 51 #[] w (OwnS opW w) := by
 go_enter Tryz.func51, Tryz.ntmps51
 go_wp2_with fail
 go_ret
 exact ⟨_, _, rfl, rd_lit opW _ (heap_alloc_new _ _) rfl, gw⟩
theorem rkinds_v (w : World) : Calls Tryz.prog 52 #[] w (OwnS kdW w) := by
 go_enter Tryz.func52, Tryz.ntmps52
 go_wp2_with fail
 go_ret
 exact ⟨_, _, rfl, rd_lit kdW _ (heap_alloc_new _ _) rfl, gw⟩
/-- A number, digit by digit. -/
def numTo (l : List UInt8) : Int := l.foldl (fun n b => 10 * n + ((b.toNat : Int) - 48)) 0
theorem decFrom_fold : ∀ (l : List UInt8) (acc n : Nat), Lib.decFrom acc l = some n → (n : Int) = l.foldl (fun n b => 10 * n + ((b.toNat : Int) - 48)) (acc : Int)
 | [], acc, n, h => by
  simp only [Lib.decFrom, Option.some.injEq] at h
  rw [h]
  rfl
 | b :: r, acc, n, h => by
  unfold Lib.decFrom at h
  cases hd : Lib.digitVal b with
  | none => rw [hd] at h; cases h
  | some d =>
   rw [hd] at h
   have := decFrom_fold r _ n h
   rw [this, List.foldl_cons]
   congr 1
   unfold Lib.digitVal at hd
   split at hd
   ·injection hd with hd
    omega
   ·cases hd
theorem numV_to {x : ByteArray} (hd : digs x.data.toList = true) (hne : x.data.toList ≠ []) : numV x = numTo x.data.toList := by
 generalize hl : x.data.toList = l at *
 cases l with
 | nil => exact absurd rfl hne
 | cons b r =>
  have h1 : 48 ≤ b.toNat ∧ b.toNat ≤ 57 := by
   have := hd
   unfold digs at this
   rw [List.all_cons, Bool.and_eq_true] at this
   have := this.1
   unfold inR at this
   rw [decide_eq_true_eq] at this
   omega
  have n1 : (b == 45) = false := by
   rw [beq_eq_false_iff_ne]
   intro e
   rw [e] at h1
   exact absurd h1.1 (by decide)
  have n2 : (b == 43) = false := by
   rw [beq_eq_false_iff_ne]
   intro e
   rw [e] at h1
   exact absurd h1.1 (by decide)
  obtain ⟨n, hn⟩ := decFrom_digs (b :: r) 0 hd
  have e : Lib.atoi (b :: r) = some (n : Int) := by
   simp only [Lib.atoi, n1, n2, Bool.false_eq_true, if_false]
   unfold Lib.decNat
   simp [hn]
  unfold numV
  rw [hl, e]
  exact decFrom_fold _ 0 n hn
theorem numTo_snoc (l : List UInt8) (b : UInt8) : numTo (l ++ [b]) = 10 * numTo l + ((b.toNat : Int) - 48) := by unfold numTo; rw [List.foldl_append]; rfl
theorem numTo_bd : ∀ (n : Nat) (l : List UInt8), l.length = n → n ≤ 7 → digs l = true → 0 ≤ numTo l ∧ numTo l < 10 ^ n
 | 0, l, hl, _, _ => by
  obtain rfl := List.eq_nil_of_length_eq_zero hl
  exact ⟨Int.le_refl _, by decide⟩
 | n + 1, l, hl, h7, hd => by
  obtain ⟨m, b, rfl⟩ : ∃ m b, l = m ++ [b] := ⟨l.dropLast, l.getLast (by intro e; rw [e] at hl; simp at hl), (List.dropLast_concat_getLast _).symm⟩
  unfold digs at hd
  rw [List.all_append, Bool.and_eq_true] at hd
  have h1 : 48 ≤ (b.toNat : Int) ∧ (b.toNat : Int) ≤ 57 := by
   have := hd.2
   simp only [List.all_cons, List.all_nil, Bool.and_true] at this
   unfold inR at this
   rw [decide_eq_true_eq] at this
   exact this
  have := numTo_bd n m (by simpa using hl) (by omega) hd.1
  rw [numTo_snoc]
  have e : (10 : Int) ^ (n + 1) = 10 * 10 ^ n := by rw [Int.pow_succ]; omega
  rw [e]
  omega
theorem ext_snoc {s : ByteArray} {i j : Nat} (hij : i ≤ j) (hj : j < s.size) : ∃ b : UInt8, bAt s j = (b.toNat : Int) ∧ (s.extract i (j + 1)).data.toList = (s.extract i j).data.toList ++ [b] := by
 refine ⟨s.data.toList.getD j 0, rfl, ?_⟩
 rw [ext_list, ext_list, show j + 1 - i = (j - i) + 1 by omega, List.take_add_one, List.getElem?_drop, show i + (j - i) = j by omega]
 have hl : j < s.data.toList.length := by rw [ba_len]; exact hj
 rw [List.getD_eq_getElem?_getD, List.getElem?_eq_getElem hl]
 rfl
theorem ext_pre {s : ByteArray} {i j e : Nat} (hj : j ≤ e) (h : digs (s.extract i e).data.toList = true) : digs (s.extract i j).data.toList = true := by
 unfold digs at h ⊢
 rw [ext_list] at h ⊢
 rw [List.all_eq_true] at h ⊢
 intro x hx
 exact h x (List.take_subset_take_left _ (by omega) hx)
theorem ext_size {s : ByteArray} {i e : Nat} (he : e ≤ s.size) : (s.extract i e).size = e - i := by
 rw [ByteArray.size_extract]
 omega
theorem bAt_ext {s : ByteArray} {i e : Nat} (h : i < e) : bAt (s.extract i e) 0 = bAt s i := by
 unfold bAt
 rw [ext_list, List.getD_eq_getElem?_getD, List.getD_eq_getElem?_getD, List.getElem?_take, if_pos (by omega), List.getElem?_drop, Nat.add_zero]
theorem dig_at {s : ByteArray} {i j : Nat} (hij : i ≤ j) (hj : j < endOf (inR 48 57) s i) (he : endOf (inR 48 57) s i ≤ s.size) : 48 ≤ bAt s j ∧ bAt s j ≤ 57 := by
 have hd := ext_digs s i
 obtain ⟨b, hb, hx⟩ := ext_snoc (s := s) (i := i) (j := j) hij (by omega)
 have := ext_pre (s := s) (i := i) (j := j + 1) (by omega) hd
 rw [hx] at this
 unfold digs at this
 rw [List.all_append, Bool.and_eq_true] at this
 have := this.2
 simp only [List.all_cons, List.all_nil, Bool.and_true] at this
 unfold inR at this
 rw [decide_eq_true_eq] at this
 rw [hb]
 exact this
theorem rnumber_v (s : ByteArray) (i e : Nat) (o : Bool) (n : Int) (w : World) (hi : i ≤ s.size) (hs : s.size ≤ 100000000000000) (he : endOf (inR 48 57) s i = e) (ho : numB (s.extract i e) = o) (hn : o = true → numV (s.extract i e) = n) (hn0 : o = false → n = 0) :
  Calls Tryz.prog 92 #[.string s, .int .i64 (i : Int)] w (Ret w (.tuple #[.int .i64 n, .int .i64 ((if o = true then e else i : Nat) : Int), .bool o])) := by
 have hm := hmix
 have hge : i ≤ e := by rw [← he]; exact endOf_ge _ _ _
 have hle : e ≤ s.size := by rw [← he]; exact endOf_le hi
 have kd := hide (fun W => rdigits_v s i e W hi hs he)
 have HE := hide he
 have hds := ext_digs s i
 rw [he] at hds
 have HDS := hide hds
 unfold numB at ho
 rw [ext_size hle] at ho
 clear he hds
 have hcase : e = i ∨ (i < e ∧ 7 < e - i) ∨ (i < e ∧ e - i ≤ 7 ∧ bAt s i = 48 ∧ 1 < e - i) ∨ (i < e ∧ e - i ≤ 7 ∧ bAt s i = 48 ∧ e - i = 1) ∨ (i < e ∧ e - i ≤ 7 ∧ bAt s i ≠ 48) := by omega
 rcases hcase with hc | ⟨hc, hc2⟩ | hgood
 ·subst hc
  obtain rfl : o = false := by rw [← ho, decide_eq_false_iff_not]; omega
  obtain rfl := hn0 rfl
  clear ho
  go_enter Tryz.func92, Tryz.ntmps92
  go_wp2_with (go_at_call 125; with_reducible refine crv (kd.out _) fun _ _ => ?_; dsimp only)
  go_ret3
  exact Ret.mk' rfl gw
 ·obtain rfl : o = false := by rw [← ho, decide_eq_false_iff_not]; omega
  obtain rfl := hn0 rfl
  have n1 : ((e : Int) == (i : Int)) = false := by simp; omega
  have n2 : ¬ (e : Int) = (i : Int) := by omega
  have n3 : (7 : Int) < (e : Int) - (i : Int) := by omega
  have n4 := decide_eq_true n3
  clear ho
  go_enter Tryz.func92, Tryz.ntmps92
  go_wp2_with (go_at_call 125; with_reducible refine crv (kd.out _) fun _ _ => ?_; dsimp only)
  go_ret3
  exact Ret.mk' rfl gw
 ·have hc : i < e := by omega
  have n1 : ((e : Int) == (i : Int)) = false := by simp; omega
  have n2 : ¬ (e : Int) = (i : Int) := by omega
  have n3 : ¬ (7 : Int) < (e : Int) - (i : Int) := by omega
  have n4 := decide_eq_false n3
  have hix := str_idx Tryz.underlying9 s i (by omega)
  rw [bAt_ext hc] at ho
  rcases hgood with ⟨_, h7, h48, h1⟩ | hgood
  ·obtain rfl : o = false := by rw [← ho, decide_eq_false_iff_not]; omega
   obtain rfl := hn0 rfl
   rw [h48] at hix
   have n5 : (1 : Int) < (e : Int) - (i : Int) := by omega
   have n6 := decide_eq_true n5
   clear ho h48
   go_enter Tryz.func92, Tryz.ntmps92
   go_wp2_with (go_at_call 125; with_reducible refine crv (kd.out _) fun _ _ => ?_; dsimp only)
   go_ret3
   exact Ret.mk' rfl gw
  ·obtain rfl : o = true := by rw [← ho, decide_eq_true_eq]; omega
   have hne : (s.extract i e).data.toList ≠ [] := fun e0 => by
    have := ba_len (s.extract i e)
    rw [e0, ext_size hle] at this
    simp at this
    omega
   have hnv := hn rfl
   rw [numV_to HDS.out hne] at hnv
   have HNV := hide hnv
   have hc48 : (bAt s i = 48 ∧ e - i = 1) ∨ ¬ bAt s i = 48 := by omega
   have h7 : e - i ≤ 7 := by omega
   clear ho hn hn0 hnv hne hgood
   obtain ⟨b0, hb0⟩ : ∃ b, bAt s i = b := ⟨_, rfl⟩
   rw [hb0] at hix hc48
   clear hb0
   go_enter Tryz.func92, Tryz.ntmps92
   rcases hc48 with ⟨rfl, h1⟩ | h48
   ·have n5 : ¬ (1 : Int) < (e : Int) - (i : Int) := by omega
    have n6 := decide_eq_false n5
    go_wp2_with (go_at_call 125; with_reducible refine crv (kd.out _) fun _ _ => ?_; dsimp only)
    clear n1 n2 n3 n4 n5 hix
    go_loopw [8, 9] (fun a k wr => ∃ j : Nat, i ≤ j ∧ j ≤ e ∧ k = .int .i64 (j : Int) ∧ a = .int .i64 (numTo (s.extract i j).data.toList) ∧ Grew w wr) (fun _ k _ => e - (intOf k).toNat)
    case atStart => exact ⟨i, by omega, by omega, rfl, by rw [show numTo (s.extract i i).data.toList = 0 by rw [ext_list, Nat.sub_self]; rfl], gw⟩
    case round =>
     obtain ⟨j, hij, hje, rfl, rfl, hg⟩ := hrel
     have HG := hide hg
     clear hg
     by_cases hlt : j < e
     ·obtain ⟨b, hb, hx⟩ := ext_snoc (s := s) (i := i) (j := j) hij (by omega)
      have hdg := dig_at (s := s) (i := i) (j := j) hij (by rw [HE.out]; exact hlt) (by rw [HE.out]; exact hle)
      have hbd := numTo_bd (j - i) (s.extract i j).data.toList (by rw [ba_len, ext_size (by omega)]) (by omega) (ext_pre (by omega) HDS.out)
      have hp : (10 : Int) ^ (j - i) ≤ 1000000 := by
       have h6 : j - i = 0 ∨ j - i = 1 ∨ j - i = 2 ∨ j - i = 3 ∨ j - i = 4 ∨ j - i = 5 ∨ j - i = 6 := by omega
       rcases h6 with h | h | h | h | h | h | h <;> rw [h] <;> decide
      have hst : numTo (s.extract i (j + 1)).data.toList = 10 * numTo (s.extract i j).data.toList + (bAt s j - 48) := by rw [hx, numTo_snoc, hb]
      have hix := str_idx Tryz.underlying9 s j (by omega)
      obtain ⟨m, hm0⟩ : ∃ m, numTo (s.extract i j).data.toList = m := ⟨_, rfl⟩
      obtain ⟨d, hd0⟩ : ∃ m, bAt s j = m := ⟨_, rfl⟩
      rw [hm0, hd0] at hst
      rw [hm0] at hbd ⊢
      rw [hd0] at hdg hix
      have hmb : 0 ≤ m ∧ m < 1000000 := by omega
      have ew1 : IntKind.u8.wrap (d - 48) = d - 48 := by unfold IntKind.wrap; simp [IntKind.bits, IntKind.signed]; omega
      have ew2 : IntKind.i64.wrap (d - 48) = d - 48 := by unfold IntKind.wrap; simp [IntKind.bits, IntKind.signed]; omega
      have ew3 : IntKind.i64.wrap (10 * m) = 10 * m := by unfold IntKind.wrap; simp [IntKind.bits, IntKind.signed]; omega
      have ew4 : IntKind.i64.wrap (10 * m + (d - 48)) = 10 * m + (d - 48) := by unfold IntKind.wrap; simp [IntKind.bits, IntKind.signed]; omega
      have HST := hide hst
      clear hb hx hm0 hd0 hst hp hbd
      go_wp2_with fail
      go_roundw
      case rel => exact ⟨j + 1, by omega, by omega, by go_num, ret_int HST.out.symm, HG.out.trans gw⟩
      case measure => simp [intOf]; omega
     ·obtain rfl : j = e := by omega
      rw [HNV.out]
      go_wp2_with fail
      go_ret3
      exact Ret.mk' rfl (HG.out.trans gw)
   ·have n5 : (b0 == 48) = false := by simpa using h48
    go_wp2_with (go_at_call 125; with_reducible refine crv (kd.out _) fun _ _ => ?_; dsimp only)
    clear n1 n2 n3 n4 n5 hix
    go_loopw [8, 9] (fun a k wr => ∃ j : Nat, i ≤ j ∧ j ≤ e ∧ k = .int .i64 (j : Int) ∧ a = .int .i64 (numTo (s.extract i j).data.toList) ∧ Grew w wr) (fun _ k _ => e - (intOf k).toNat)
    case atStart => exact ⟨i, by omega, by omega, rfl, by rw [show numTo (s.extract i i).data.toList = 0 by rw [ext_list, Nat.sub_self]; rfl], gw⟩
    case round =>
     obtain ⟨j, hij, hje, rfl, rfl, hg⟩ := hrel
     have HG := hide hg
     clear hg
     by_cases hlt : j < e
     ·obtain ⟨b, hb, hx⟩ := ext_snoc (s := s) (i := i) (j := j) hij (by omega)
      have hdg := dig_at (s := s) (i := i) (j := j) hij (by rw [HE.out]; exact hlt) (by rw [HE.out]; exact hle)
      have hbd := numTo_bd (j - i) (s.extract i j).data.toList (by rw [ba_len, ext_size (by omega)]) (by omega) (ext_pre (by omega) HDS.out)
      have hp : (10 : Int) ^ (j - i) ≤ 1000000 := by
       have h6 : j - i = 0 ∨ j - i = 1 ∨ j - i = 2 ∨ j - i = 3 ∨ j - i = 4 ∨ j - i = 5 ∨ j - i = 6 := by omega
       rcases h6 with h | h | h | h | h | h | h <;> rw [h] <;> decide
      have hst : numTo (s.extract i (j + 1)).data.toList = 10 * numTo (s.extract i j).data.toList + (bAt s j - 48) := by rw [hx, numTo_snoc, hb]
      have hix := str_idx Tryz.underlying9 s j (by omega)
      obtain ⟨m, hm0⟩ : ∃ m, numTo (s.extract i j).data.toList = m := ⟨_, rfl⟩
      obtain ⟨d, hd0⟩ : ∃ m, bAt s j = m := ⟨_, rfl⟩
      rw [hm0, hd0] at hst
      rw [hm0] at hbd ⊢
      rw [hd0] at hdg hix
      have hmb : 0 ≤ m ∧ m < 1000000 := by omega
      have ew1 : IntKind.u8.wrap (d - 48) = d - 48 := by unfold IntKind.wrap; simp [IntKind.bits, IntKind.signed]; omega
      have ew2 : IntKind.i64.wrap (d - 48) = d - 48 := by unfold IntKind.wrap; simp [IntKind.bits, IntKind.signed]; omega
      have ew3 : IntKind.i64.wrap (10 * m) = 10 * m := by unfold IntKind.wrap; simp [IntKind.bits, IntKind.signed]; omega
      have ew4 : IntKind.i64.wrap (10 * m + (d - 48)) = 10 * m + (d - 48) := by unfold IntKind.wrap; simp [IntKind.bits, IntKind.signed]; omega
      have HST := hide hst
      clear hb hx hm0 hd0 hst hp hbd
      go_wp2_with fail
      go_roundw
      case rel => exact ⟨j + 1, by omega, by omega, by go_num, ret_int HST.out.symm, HG.out.trans gw⟩
      case measure => simp [intOf]; omega
     ·obtain rfl : j = e := by omega
      rw [HNV.out]
      go_wp2_with fail
      go_ret3
      exact Ret.mk' rfl (HG.out.trans gw)
end Go.Proofs.YtfeccolljfkejaaGreatDoor

/- The reference implementation of package rule: over, rule. -/
set_option linter.unusedSimpArgs false
set_option linter.unusedVariables false
set_option maxHeartbeats 4000000
set_option maxRecDepth 100000
namespace Go.Proofs.YtfeccolljfkejaaGreatDoor
open Go.RowKit Go.Sort
attribute [local go_sem] Steady steadyUpon
attribute [local go_sem ↓] hs_dr lt_add_r lt_add_r2 lt_add_r3 lt_add_r4 lt_add_r5 lt_add_r6
attribute [local go_sem] cell?_gd frozen?_gd setCell_gd size_grow tape_grow cell?_grow' frozen?_grow' setCell_grow' grow_grow grow_dr grow_drew dr_dr dr_drew drew_dr dr_alloc dr_setCell dr_cell dr_frozen dr_tape dr_drawn
attribute [local irreducible] wpSteady
theorem rover_v (s : ByteArray) (a : Nat) (r : Int) (w : World) (hi : a < s.size) (hs : s.size ≤ 100000000000000) (h : overAt s a = r) :
  Calls Tryz.prog 49 #[.string s, .int .i64 (a : Int)] w (Ret w (.int .i64 r)) := by
 have hm := hmix
 obtain ⟨e, he⟩ : ∃ e, endOf (inR 48 57) s a = e := ⟨_, rfl⟩
 obtain ⟨o, ho⟩ : ∃ o, numB (s.extract a e) = o := ⟨_, rfl⟩
 obtain ⟨l, hl⟩ : ∃ l, endOf (inR 97 122) s a = l := ⟨_, rfl⟩
 obtain ⟨b, hb⟩ : ∃ b, bAt s a = b := ⟨_, rfl⟩
 have hla : a ≤ l := by rw [← hl]; exact endOf_ge _ _ _
 have hix := str_idx Tryz.underlying9 s a hi
 rw [hb] at hix
 have kl := hide (fun W => rletters_v s a l W (by omega) hs hl)
 obtain ⟨n, hn⟩ : ∃ n, (if o = true then numV (s.extract a e) else 0) = n := ⟨_, rfl⟩
 have kn := hide (fun W => rnumber_v s a e o n W (by omega) hs he ho (fun h => by rw [← hn, if_pos h]) (fun h => by rw [← hn, if_neg (by rw [h]; simp)]))
 unfold overAt at h
 rw [he, ho, hl, hb] at h
 generalize (if o = true then e else a) = ea at kn
 clear he ho hl hb hn
 cases o
 ·by_cases hal : l = a
  ·subst hal
   have n1 : ¬ (l : Int) < (l : Int) := by omega
   by_cases h59 : b = 59
   ·subst h59
    rw [if_pos (by simp)] at h
    subst h
    go_enter Tryz.func49, Tryz.ntmps49
    go_wp2_with (first | (go_at_call 92; with_reducible refine crv (kn.out _) fun _ _ => ?_; dsimp only) | (go_at_call 93; with_reducible refine crv (kl.out _) fun _ _ => ?_; dsimp only))
    go_ret
    exact Ret.mk' rfl gw
   ·rw [if_neg (by simp [h59])] at h
    subst h
    have n2 : (b == 59) = false := by simpa using h59
    go_enter Tryz.func49, Tryz.ntmps49
    go_wp2_with (first | (go_at_call 92; with_reducible refine crv (kn.out _) fun _ _ => ?_; dsimp only) | (go_at_call 93; with_reducible refine crv (kl.out _) fun _ _ => ?_; dsimp only))
    go_ret
    exact Ret.mk' rfl gw
  ·rw [if_pos (.inr (.inl hal))] at h
   subst h
   have n1 : (a : Int) < (l : Int) := by omega
   go_enter Tryz.func49, Tryz.ntmps49
   go_wp2_with (first | (go_at_call 92; with_reducible refine crv (kn.out _) fun _ _ => ?_; dsimp only) | (go_at_call 93; with_reducible refine crv (kl.out _) fun _ _ => ?_; dsimp only))
   go_ret
   exact Ret.mk' rfl gw
 ·rw [if_pos (.inl rfl)] at h
  subst h
  go_enter Tryz.func49, Tryz.ntmps49
  go_wp2_with (first | (go_at_call 92; with_reducible refine crv (kn.out _) fun _ _ => ?_; dsimp only) | (go_at_call 93; with_reducible refine crv (kl.out _) fun _ _ => ?_; dsimp only))
  go_ret
  exact Ret.mk' rfl gw
/-- The result's block and the rule's while a rule is read. -/
structure RB (w W : World) (q k n : Int) : Prop where
 g : Below w.heap.size w W
 z : W.heap[w.heap.size]? = some (.cells #[.int .i64 0, .int .i64 0, .int .i64 0] 36 (0, 0))
 x : W.heap[w.heap.size + 1]? = some (.cells #[.int .i64 q, .int .i64 k, .int .i64 n] 36 (0, 0))
theorem RB.up {w W W' : World} {q k n : Int} (h : RB w W q k n) (g : Grew W W') : RB w W' q k n :=
 ⟨h.g.trans (g.below.mono h.g.size), (g.heap (blk_lt h.z)).trans h.z, (g.heap (blk_lt h.x)).trans h.x⟩
theorem RB.set {w W W' : World} {q k n q' k' n' : Int} (h : RB w W q k n) (i : Nat) (v : Value) (hx : (#[.int .i64 q, .int .i64 k, .int .i64 n] : Array Value).setIfInBounds i v = #[.int .i64 q', .int .i64 k', .int .i64 n']) (g : Grew (W.setCell ⟨w.heap.size + 1, i, none⟩ v) W') : RB w W' q' k' n' := by
 have h1 : RB w (W.setCell ⟨w.heap.size + 1, i, none⟩ v) q' k' n' := by
  refine ⟨h.g.setCell (p := ⟨w.heap.size + 1, i, none⟩) (by show w.heap.size ≤ w.heap.size + 1; omega) _, (heap_setCell_other W ⟨w.heap.size + 1, i, none⟩ w.heap.size v (by show w.heap.size ≠ w.heap.size + 1; omega)).trans h.z, ?_⟩
  have := heap_setCell_same W (w.heap.size + 1) i _ _ v h.x
  rw [hx] at this
  exact this
 exact h1.up g
theorem set1_3 {W : World} {b : Nat} {x0 x1 x2 v0 : Value} {T : TypeId} {fr : Nat × Nat} (h : W.heap[b]? = some (.cells #[x0, x1, x2] T fr)) : (W.setCell ⟨b, 0, none⟩ v0).heap[b]? = some (.cells #[v0, x1, x2] T fr) := by
 have h1 := blk_lt h
 simp [World.setCell, Array.getElem?_modify, h]
theorem set2_3 {W : World} {b : Nat} {x0 x1 x2 v0 v1 : Value} {T : TypeId} {fr : Nat × Nat} (h : W.heap[b]? = some (.cells #[x0, x1, x2] T fr)) : ((W.setCell ⟨b, 0, none⟩ v0).setCell ⟨b, 1, none⟩ v1).heap[b]? = some (.cells #[v0, v1, x2] T fr) := by
 have h1 := blk_lt h
 simp [World.setCell, Array.getElem?_modify, h]
theorem set3_3 {W : World} {b : Nat} {x0 x1 x2 v0 v1 v2 : Value} {T : TypeId} {fr : Nat × Nat} (h : W.heap[b]? = some (.cells #[x0, x1, x2] T fr)) : (((W.setCell ⟨b, 0, none⟩ v0).setCell ⟨b, 1, none⟩ v1).setCell ⟨b, 2, none⟩ v2).heap[b]? = some (.cells #[v0, v1, v2] T fr) := by
 have h1 := blk_lt h
 simp [World.setCell, Array.getElem?_modify, h]
theorem RB.fin {w W : World} {q k n : Int} (h : RB w W q k n) (v0 v1 v2 : Value) : Grew w (((W.setCell ⟨w.heap.size, 0, none⟩ v0).setCell ⟨w.heap.size, 1, none⟩ v1).setCell ⟨w.heap.size, 2, none⟩ v2) :=
 Grew.of_below (((h.g.setCell (p := ⟨w.heap.size, 0, none⟩) (Nat.le_refl _) _).setCell (p := ⟨w.heap.size, 1, none⟩) (Nat.le_refl _) _).setCell (p := ⟨w.heap.size, 2, none⟩) (Nat.le_refl _) _)
/-- What the reference makes of a rule's text: a rule and where it ends, or an error and where (the rule is then of no account). -/
def RulR (s : ByteArray) (a : Nat) (w : World) (en : Ending) (w' : World) : Prop := match ruleAt s a with
 | .error (p, e) => ∃ o k n : Int, en = .returned (.tuple #[ruV o k n, .int .i64 (p : Int), .int .i64 e]) ∧ Grew w w'
 | .ok ((o, k, n), b) => en = .returned (.tuple #[ruV o k n, .int .i64 (b : Int), .int .i64 0]) ∧ Grew w w'
theorem end_idem (s : ByteArray) (i : Nat) : endOf isBl s (endOf isBl s i) = endOf isBl s i := by
 refine endOf_stop fun h => ?_
 unfold endOf bAt at *
 rw [List.getD_eq_getElem?_getD]
 have hd := List.takeWhile_append_dropWhile (p := fun b : UInt8 => isBl (b.toNat : Int)) (l := s.data.toList.drop i)
 have e : s.data.toList[i + ((s.data.toList.drop i).takeWhile fun b => isBl (b.toNat : Int)).length]? = ((s.data.toList.drop i).dropWhile fun b => isBl (b.toNat : Int))[0]? := by
  rw [← List.getElem?_drop, ← hd, List.getElem?_append_right (by rw [hd]; exact Nat.le_refl _), hd, Nat.sub_self]
 rw [e]
 cases hw : (s.data.toList.drop i).dropWhile fun b => isBl (b.toNat : Int) with
 | nil =>
  exfalso
  have hl := congrArg List.length hd
  rw [hw, List.append_nil, List.length_drop, ba_len] at hl
  omega
 | cons c r =>
  have := List.head?_dropWhile_not (p := fun b : UInt8 => isBl (b.toNat : Int)) (l := s.data.toList.drop i)
  rw [hw] at this
  simpa using this
end Go.Proofs.YtfeccolljfkejaaGreatDoor

