/- Package rule's reader: words out of a list. -/
import Derived.Test.YtfeccolljfkejaaGreatDoorRpA
set_option linter.unusedSimpArgs false
set_option linter.unusedVariables false
set_option maxHeartbeats 1600000
set_option maxRecDepth 100000
namespace Go.Proofs.YtfeccolljfkejaaGreatDoor
open Go.RowKit Go.Sort
attribute [local go_sem] Steady steadyUpon
attribute [local go_sem ↓] hs_dr lt_add_r lt_add_r2 lt_add_r3 lt_add_r4 lt_add_r5 lt_add_r6
attribute [local go_sem] cell?_gd frozen?_gd setCell_gd size_grow tape_grow cell?_grow' frozen?_grow' setCell_grow' grow_grow grow_dr grow_drew dr_dr dr_drew drew_dr dr_alloc dr_setCell dr_cell dr_frozen dr_tape dr_drawn
attribute [local irreducible] wpSteady
def encS (x : ByteArray) : List Value := [.string x]
theorem strCell {w : World} {B : Nat} {A : Option Addr} {ls : List ByteArray} {k : Nat} {x : ByteArray} (h : Rd w B 1 A (ls.map encS)) (hx : ls[k]? = some x) :
  ∃ b off, Hid (A = some ⟨b, off, none⟩) ∧ b < B ∧ w.cell? ⟨b, off + k, none⟩ = some (.string x) := by
 obtain ⟨b, off, hA, hb, hc⟩ := h.at_ (k := k) (x := encS x) (by simp [hx])
 have := hc 0 _ rfl
 simp only [Nat.mul_one, Nat.add_zero] at this
 exact ⟨b, off, hA, hb, this⟩
/-- Two strings alike. -/
def strB (x y : ByteArray) : Bool := x.data.toList == y.data.toList
theorem strB_iff {x y : ByteArray} : strB x y = true ↔ x = y := by
 unfold strB
 rw [beq_iff_eq]
 constructor
 ·intro h
  obtain ⟨a⟩ := x
  obtain ⟨b⟩ := y
  have : a = b := Array.toList_inj.1 h
  rw [this]
 ·intro h; rw [h]
theorem strB_to {x y : ByteArray} {r : Bool} (h : strB x y = r) : (x.toList == y.toList) = r := by
 rw [ByteArray.toList_eq, ByteArray.toList_eq]
 exact h
/-- The place of a word in a list, or -1. -/
def wIdx (ls : List ByteArray) (x : ByteArray) : Int := match ls.findIdx? (strB x) with
 | some k => (k : Int)
 | none => -1
theorem wIdx_at {ls : List ByteArray} {x y : ByteArray} {k : Nat} (hk : ls[k]? = some y) (hy : strB x y = true) (h : ∀ j z, j < k → ls[j]? = some z → strB x z = false) : wIdx ls x = (k : Int) := by
 have : ls.findIdx? (strB x) = some k := by
  rw [List.findIdx?_eq_some_iff_getElem]
  obtain ⟨h1, h2⟩ := List.getElem?_eq_some_iff.1 hk
  refine ⟨h1, by rw [h2]; exact hy, fun j hj => ?_⟩
  rw [h j _ hj (List.getElem?_eq_getElem (by omega))]
  decide
 unfold wIdx
 rw [this]
theorem wIdx_no {ls : List ByteArray} {x : ByteArray} (h : ∀ j z, j < ls.length → ls[j]? = some z → strB x z = false) : wIdx ls x = -1 := by
 have : ls.findIdx? (strB x) = none := by
  rw [List.findIdx?_eq_none_iff]
  intro z hz
  obtain ⟨j, hj, e⟩ := List.getElem_of_mem hz
  exact h j z hj (by rw [List.getElem?_eq_getElem hj, e])
 unfold wIdx
 rw [this]
theorem wIdx_lt (ls : List ByteArray) (x : ByteArray) : wIdx ls x < ls.length ∧ -1 ≤ wIdx ls x := by
 unfold wIdx
 cases h : ls.findIdx? (strB x) with
 | none => simp; omega
 | some k =>
  obtain ⟨h1, _⟩ := List.findIdx?_eq_some_iff_getElem.1 h
  simp
  omega
theorem idxStr_v (ls : List ByteArray) (A : Option Addr) (c : Nat) (x : ByteArray) (w : World) (hr : Rd w w.heap.size 1 A (ls.map encS)) (hc : ls.length ≤ 100000000000000) :
  Calls Tryz.prog 112 #[.slice A ls.length c, .string x] w (Ret w (.int .i64 (wIdx ls x))) := by
 have hm := hmix
 have HR := hide hr
 clear hr
 go_enter Tryz.func112, Tryz.ntmps112
 go_wp2_with fail
 go_loopw [8] (fun i wr => ∃ k : Nat, k ≤ ls.length ∧ i = .int .i64 k ∧ Grew w wr ∧ AppG (∀ j z, j < k → ls[j]? = some z → strB x z = false)) (fun i _ => ls.length - (intOf i).toNat)
 case atStart => exact ⟨0, by omega, rfl, gw, show ∀ j z, j < 0 → ls[j]? = some z → strB x z = false from fun j z hj => by omega⟩
 case round =>
  obtain ⟨k, hk, rfl, hg, hall⟩ := hrel
  have HG := hide hg
  have HA := hide hall.stop
  clear hg hall
  by_cases hlt : k < ls.length
  ·obtain ⟨y, hy⟩ : ∃ y, ls[k]? = some y := ⟨_, List.getElem?_eq_getElem hlt⟩
   obtain ⟨b, off, hA, hb, h0⟩ := strCell (HR.out.up HG.out) hy
   have hix := idx_run (cap := c) Tryz.underlying77 Tryz.sizeOf9 hA.out hlt
   rw [Nat.mul_one] at hix
   have HY := hide hy
   clear hy hA
   cases hs : strB x y
   ·have e1 := strB_to hs
    have e2 : ¬ x.toList = y.toList := by simpa using e1
    have HS := hide hs
    clear hs
    go_wp2_with fail
    go_roundw
    case rel => exact ⟨k + 1, by omega, by go_num, HG.out.trans gw, show ∀ j z, j < k + 1 → ls[j]? = some z → strB x z = false from (fun j z hj hz => by
     by_cases e : j = k
     ·subst e
      rw [HY.out] at hz
      injection hz with hz
      rw [← hz]
      exact HS.out
     ·exact HA.out j z (by omega) hz)⟩
    case measure => simp [intOf]; omega
   ·have hw := wIdx_at HY.out hs HA.out
    obtain rfl := strB_iff.1 hs
    have HW := hide hw
    clear hs hw
    go_wp2_with fail
    go_ret
    exact Ret.mk' (ret_int HW.out.symm) (HG.out.trans gw)
  ·obtain rfl : k = ls.length := by omega
   have HW := hide (wIdx_no HA.out)
   go_wp2_with fail
   go_ret
   exact Ret.mk' (ret_int HW.out.symm) (HG.out.trans gw)
/-- What a word is: its place in the list and where it begins, or an error and where. -/
def wordAt (ls : List ByteArray) (s : ByteArray) (i : Nat) : Except (Nat × Int) (Nat × Nat) :=
 if endOf (inR 97 122) s (endOf isBl s i) = endOf isBl s i then .error (endOf isBl s i, 10)
 else if wIdx ls (s.extract (endOf isBl s i) (endOf (inR 97 122) s (endOf isBl s i))) < 0 then .error (endOf isBl s i, 11)
 else .ok ((wIdx ls (s.extract (endOf isBl s i) (endOf (inR 97 122) s (endOf isBl s i)))).toNat, endOf isBl s i)
/-- A panic with an error at a place; but for the reader's block all is as it was. -/
def PanR (R : Nat) (i : Nat) (e : Int) (w : World) (en : Ending) (w' : World) : Prop := en = .panicked [{ v := .iface 81 (.agg #[.int .i64 (i : Int), .int .i64 e]), recovered := false }] ∧ w.grownBy w' (some R)
theorem PanR.of {R i : Nat} {s : ByteArray} {e : Int} {w w1 w' : World} {en : Ending} (h : RW R s (i : Int) w w1) (k : StopR i e w1 en w') : PanR R i e w en w' := ⟨k.1, (h.grew k.2).gb⟩
def WordR (ls : List ByteArray) (s : ByteArray) (R i : Nat) (w : World) (en : Ending) (w' : World) : Prop := match wordAt ls s i with
 | .error (p, e) => PanR R p e w en w'
 | .ok (k, a) => en = .returned (.int .i64 (k : Int)) ∧ RW R s (a : Int) w w'
theorem word_v (ls : List ByteArray) (A : Option Addr) (c : Nat) (s : ByteArray) (R i : Nat) (w : World) (h : w.heap[R]? = some (rcl s (i : Int))) (hi : i ≤ s.size) (hs : s.size ≤ 100000000000000)
  (hrd : ∀ w', w.grownBy w' (some R) → Rd w' w'.heap.size 1 A (ls.map encS)) (hc : ls.length ≤ 1000) :
  Calls Tryz.prog 72 #[.pointer (some ⟨R, 0, none⟩), .slice A ls.length c] w (WordR ls s R i w) := by
 have hm := hmix
 have k1 := hide (fun W (hg : Grew w W) => skip_v s R i W ((hg.heap (blk_lt h)).trans h) hi hs)
 have hle := endOf_le (p := isBl) hi
 have H := hide h
 have HD := hide hrd
 obtain ⟨r, hr⟩ : ∃ r, wordAt ls s i = r := ⟨_, rfl⟩
 unfold WordR
 rw [hr]
 unfold wordAt at hr
 generalize endOf isBl s i = a at *
 have hwl := wIdx_lt ls (s.extract a (endOf (inR 97 122) s a))
 obtain ⟨x, hx⟩ : ∃ x, s.extract a (endOf (inR 97 122) s a) = x := ⟨_, rfl⟩
 rw [hx] at hr hwl
 clear h hrd
 by_cases he : endOf (inR 97 122) s a = a
 ·rw [if_pos he] at hr
  subst hr
  have hx0 : x = ⟨#[]⟩ := ba_nil (by rw [← hx, he]; simp)
  subst hx0
  have HX := hide hx
  clear he hx hwl
  go_enter Tryz.func72, Tryz.ntmps72
  go_wp2_with fail
  refine (k1.out _ gw).mono ?_
  rintro e w1 ⟨rfl, hrw⟩
  have k2 := hide (fun W (hg : Grew w1 W) => run_v s R a 97 122 W ((hg.heap (blk_lt hrw.at_)).trans hrw.at_) hle hs)
  rw [HX.out] at k2
  have k3 := hide (fun W (hg : Grew w1 W) => stop_v s R (a : Int) 10 W ((hg.heap (blk_lt hrw.at_)).trans hrw.at_))
  have HRW := hide hrw
  clear k1 hrw
  dsimp only
  go_wp2_with (go_at_call 70; with_reducible refine crv (k2.out _ gw) fun _ _ => ?_; dsimp only)
  refine (k3.out _ gw).mono ?_
  rintro e w2 ⟨rfl, hg⟩
  have HG2 : Hid (Grew w1 w2) := hide (Grew.trans gw hg)
  clear hg k2 k3
  dsimp only
  go_wp2_with fail
  exact ⟨rfl, rfl, (HRW.out.grew HG2.out).gb⟩
 ·rw [if_neg he] at hr
  have hsz : ¬ x.size = 0 := by
   rw [← hx, ByteArray.size_extract]
   have := endOf_ge (inR 97 122) s a
   have := endOf_le (p := inR 97 122) hle
   omega
  have e1 : ¬ x.toList = [] := by
   rw [ByteArray.toList_eq]
   intro h
   apply hsz
   rw [← ba_len, h]
   rfl
  have e2 : (x.toList == []) = false := by simpa using e1
  have HX := hide hx
  clear he hx hsz
  by_cases hneg : wIdx ls x < 0
  ·rw [if_pos hneg] at hr
   subst hr
   have hm1 : wIdx ls x = -1 := by omega
   clear hneg hwl
   go_enter Tryz.func72, Tryz.ntmps72
   go_wp2_with fail
   refine (k1.out _ gw).mono ?_
   rintro e w1 ⟨rfl, hrw⟩
   have k2 := hide (fun W (hg : Grew w1 W) => run_v s R a 97 122 W ((hg.heap (blk_lt hrw.at_)).trans hrw.at_) hle hs)
   rw [HX.out] at k2
   have k3 := hide (fun W (hg : Grew w1 W) => stop_v s R (a : Int) 11 W ((hg.heap (blk_lt hrw.at_)).trans hrw.at_))
   have k4 := hide (fun W (hg : Grew w1 W) => idxStr_v ls A c x W (HD.out W (hrw.grew hg).gb) (by omega))
   rw [hm1] at k4
   have HRW := hide hrw
   clear k1 hrw hm1
   dsimp only
   go_wp2_with (first | (go_at_call 70; with_reducible refine crv (k2.out _ gw) fun _ _ => ?_; dsimp only) | (go_at_call 112; with_reducible refine crv (k4.out _ gw) fun _ _ => ?_; dsimp only))
   refine (k3.out _ gw).mono ?_
   rintro e w2 ⟨rfl, hg⟩
   have HG2 : Hid (Grew w1 w2) := hide (Grew.trans gw hg)
   clear hg k2 k3 k4
   dsimp only
   go_wp2_with fail
   exact ⟨rfl, rfl, (HRW.out.grew HG2.out).gb⟩
  ·rw [if_neg hneg] at hr
   subst hr
   obtain ⟨k, hk⟩ : ∃ k : Nat, wIdx ls x = (k : Int) := ⟨(wIdx ls x).toNat, by omega⟩
   rw [hk]
   have hk0 : ¬ (k : Int) < 0 := by omega
   clear hneg hwl
   go_enter Tryz.func72, Tryz.ntmps72
   go_wp2_with fail
   refine (k1.out _ gw).mono ?_
   rintro e w1 ⟨rfl, hrw⟩
   have k2 := hide (fun W (hg : Grew w1 W) => run_v s R a 97 122 W ((hg.heap (blk_lt hrw.at_)).trans hrw.at_) hle hs)
   rw [HX.out] at k2
   have k4 := hide (fun W (hg : Grew w1 W) => idxStr_v ls A c x W (HD.out W (hrw.grew hg).gb) (by omega))
   rw [hk] at k4
   have HRW := hide hrw
   clear k1 hrw hk
   dsimp only
   go_wp2_with (first | (go_at_call 70; with_reducible refine crv (k2.out _ gw) fun _ _ => ?_; dsimp only) | (go_at_call 112; with_reducible refine crv (k4.out _ gw) fun _ _ => ?_; dsimp only))
   go_ret
   exact ⟨congrArg Ending.returned (ret_int (by simp)), HRW.out.grew gw⟩
end Go.Proofs.YtfeccolljfkejaaGreatDoor
