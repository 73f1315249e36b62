/- The contracts of the program's functions on directions and sectors (package sector) that have no loop. Conditions: coordinates in range where products are formed. The contracts of package sector's functions on lists of sectors. More contracts of package sector: what a light shows in a direction; Color; Seen. The contracts of slices.Grow and slices.Concat at sectors, and of package sector's iterator over the turns. -/
import Derived.Test.YtfeccolljfkejaaGreatDoorPla
import Derived.Test.YtfeccolljfkejaaGreatDoorApp
import Derived.Lib.AppendZerosOnto
set_option linter.unusedSimpArgs false
set_option linter.unusedVariables false
set_option maxHeartbeats 1600000
set_option maxRecDepth 100000
namespace Go.Proofs.YtfeccolljfkejaaGreatDoor
open Go.RowKit Go.Sort
attribute [local go_sem] Steady steadyUpon
attribute [local go_sem ↓] hs_dr lt_add_r lt_add_r2 lt_add_r3 lt_add_r4 lt_add_r5 lt_add_r6
attribute [local go_sem] cell?_gd frozen?_gd setCell_gd size_grow tape_grow cell?_grow' frozen?_grow' setCell_grow' grow_grow grow_dr grow_drew dr_dr dr_drew drew_dr dr_alloc dr_setCell dr_cell dr_frozen dr_tape dr_drawn
abbrev sec (a b c d e f : Int) : Value := .agg #[.int .i64 a, .int .i64 b, .int .i64 c, .int .i64 d, .int .i64 e, .int .i64 f]
theorem cross_any (a b c d : Int) (w : World) (ha : -4000000 ≤ a ∧ a ≤ 4000000) (hb : -4000000 ≤ b ∧ b ≤ 4000000) (hc : -4000000 ≤ c ∧ c ≤ 4000000) (hd : -4000000 ≤ d ∧ d ≤ 4000000) :
  Calls Tryz.prog 215 #[pt a b, pt c d] w (Ret w (.int .i64 (a * d - b * c))) := by
 have h1 : -16000000000000 ≤ a * d ∧ a * d ≤ 16000000000000 := mul_bd 4000000 4000000 ha hd
 have h2 : -16000000000000 ≤ b * c ∧ b * c ≤ 16000000000000 := mul_bd 4000000 4000000 hb hc
 go_enter Tryz.func215, Tryz.ntmps215
 go_wp2
 go_ret
 exact Ret.mk' rfl gw
def upper (a b : Int) : Bool := decide (0 < b) || (b == 0 && decide (0 < a))
theorem upper_any (a b : Int) (w : World) :
  Calls Tryz.prog 214 #[pt a b] w (Ret w (.bool (upper a b))) := by
 go_enter Tryz.func214, Tryz.ntmps214
 go_wp2
 all_goals go_ret
 all_goals refine Ret.mk' (ret_bool ?_) gw
 all_goals simp [upper, *]
 all_goals omega
def dirOk (a b : Int) : Bool := decide ((a ≠ 0 ∨ b ≠ 0) ∧ (-1000000 ≤ a ∧ a ≤ 1000000) ∧ (-1000000 ≤ b ∧ b ≤ 1000000))
theorem ok_any (a b : Int) (w : World) :
  Calls Tryz.prog 184 #[pt a b] w (Ret w (.bool (dirOk a b))) := by
 go_enter Tryz.func184, Tryz.ntmps184
 go_wp2
 all_goals go_ret
 all_goals refine Ret.mk' (ret_bool ?_) gw
 all_goals (rw [Bool.eq_iff_iff]; simp [dirOk]; omega)
def crs (a b c d : Int) : Int := a * d - b * c
def cmpw (a b c d : Int) : Int := if upper a b != upper c d then (if upper a b then -1 else 1) else if 0 < crs a b c d then -1 else if crs a b c d < 0 then 1 else 0
theorem cw1 {a b c d : Int} (h1 : (!upper a b == upper c d) = true) (h2 : upper a b = true) : -1 = cmpw a b c d := by
 unfold cmpw; cases h3 : upper a b <;> cases h4 : upper c d <;> simp_all
theorem cw2 {a b c d : Int} (h1 : (!upper a b == upper c d) = true) (h2 : upper a b = false) : 1 = cmpw a b c d := by
 unfold cmpw; cases h3 : upper a b <;> cases h4 : upper c d <;> simp_all
theorem cw3 {a b c d : Int} (h1 : (!upper a b == upper c d) = false) (h2 : b * c < a * d) : -1 = cmpw a b c d := by
 unfold cmpw crs; rw [if_neg (by cases h3 : upper a b <;> cases h4 : upper c d <;> simp_all), if_pos (by omega)]
theorem cw4 {a b c d : Int} (h1 : (!upper a b == upper c d) = false) (h2 : a * d - b * c < 0) : 1 = cmpw a b c d := by
 unfold cmpw crs; rw [if_neg (by cases h3 : upper a b <;> cases h4 : upper c d <;> simp_all), if_neg (by omega), if_pos (by omega)]
theorem cw5 {a b c d : Int} (h1 : (!upper a b == upper c d) = false) (h2 : a * d ≤ b * c) (h3 : 0 ≤ a * d - b * c) : 0 = cmpw a b c d := by
 unfold cmpw crs; rw [if_neg (by cases h3 : upper a b <;> cases h4 : upper c d <;> simp_all), if_neg (by omega), if_neg (by omega)]
theorem compare_any (a b c d : Int) (w : World) (ha : -4000000 ≤ a ∧ a ≤ 4000000) (hb : -4000000 ≤ b ∧ b ≤ 4000000) (hc : -4000000 ≤ c ∧ c ≤ 4000000) (hd : -4000000 ≤ d ∧ d ≤ 4000000) :
  Calls Tryz.prog 185 #[pt a b, pt c d] w (Ret w (.int .i64 (cmpw a b c d))) := by
 have hm := hmix
 go_enter Tryz.func185, Tryz.ntmps185
 go_wp2_with fail
 refine wp_region_qas 6 [] [] hm (h := ?_)
 repeat (refine wpSteady_step (fun K hK => ?_); go_simp; first | (refine hK _ ?_; clear hK K) | (apply Exists.intro; refine ⟨fun _ => ?_, hK _ ?_⟩; (go_at_call 214; exact upper_any _ _ _); clear hK K))
 refine rq0 fun nq osq => ?_
 try simp only [Act.put, setA]
 try dsimp only
 go_wp2_with (first | (go_at_call 214; refine crv (upper_any _ _ _) fun _ _ => ?_; dsimp only) | (go_at_call 215; refine crv (cross_any _ _ _ _ _ ha hb hc hd) fun _ _ => ?_; dsimp only))
 all_goals go_ret
 all_goals refine Ret.mk' (ret_int ?_) gw
 all_goals (first | exact cw1 ‹_› ‹_› | exact cw2 ‹_› ‹_› | exact cw3 ‹_› ‹_› | exact cw4 ‹_› ‹_› | exact cw5 ‹_› ‹_› ‹_›)
def secOk (a b c d e f : Int) : Bool := dirOk a b && dirOk c d && decide (1 ≤ e ∧ e ≤ 3) && decide (1 ≤ f ∧ f ≤ 3000000)
theorem valid1_any (a b c d e f : Int) (w : World) :
  Calls Tryz.prog 142 #[sec a b c d e f] w (Ret w (.bool (secOk a b c d e f))) := by
 have hm := hmix
 go_enter Tryz.func142, Tryz.ntmps142
 go_wp2_with (go_at_call 184; refine crv (ok_any _ _ _) fun _ _ => ?_; dsimp only)
 all_goals go_ret
 all_goals refine Ret.mk' (ret_bool ?_) gw
 all_goals (first | (simp [secOk, *]; done) | (simp [secOk, *]; omega))
def hasw (a b c d x y : Int) : Bool :=
 if cmpw a b c d == -1 then (decide (cmpw a b x y ≤ 0) && !decide (cmpw c d x y ≤ 0)) else if cmpw a b c d == 1 then (decide (cmpw a b x y ≤ 0) || !decide (cmpw c d x y ≤ 0)) else true
theorem has_any (a b c d e f x y : Int) (w : World) (ha : -4000000 ≤ a ∧ a ≤ 4000000) (hb : -4000000 ≤ b ∧ b ≤ 4000000) (hc : -4000000 ≤ c ∧ c ≤ 4000000) (hd : -4000000 ≤ d ∧ d ≤ 4000000)
  (hx : -4000000 ≤ x ∧ x ≤ 4000000) (hy : -4000000 ≤ y ∧ y ≤ 4000000) :
  Calls Tryz.prog 143 #[sec a b c d e f, pt x y] w (Ret w (.bool (hasw a b c d x y))) := by
 have hm := hmix
 go_enter Tryz.func143, Tryz.ntmps143
 go_wp2_with fail
 refine wp_region_qas 8 [⟨4, 6, 5, 172, .agg #[.int .i64 0, .int .i64 0]⟩, ⟨5, 7, 6, 172, .agg #[.int .i64 0, .int .i64 0]⟩] [] hm (hZ := (ZOk.cons Tryz.zeroValue172 Tryz.sizeOf172 (ZOk.cons Tryz.zeroValue172 Tryz.sizeOf172 ZOk.nil))) (h := ?_)
 repeat (refine wpSteady_step (fun K hK => ?_); go_simp; refine hK _ ?_; clear hK K)
 refine wpSteady_nil ?_
 refine ⟨(StOk.cons (by rfl) (by simp [stOpnd, Act.eval, Value.cells, Value.oneCell']) (StOk.cons (by rfl) (by simp [stOpnd, Act.eval, Value.cells, Value.oneCell']) StOk.nil)), LyOk.nil, ?_⟩
 rintro psq qsq Wq HWq HFq HBq
 obtain rfl : qsq = [] := HBq
 obtain ⟨p0, _, rfl, hp0, hb0, hn0, p1, _, rfl, hp1, hb1, hn1, rfl⟩ := HFq
 simp only [putAll, putB, Act.put, setA]
 simp [stOpnd, Act.eval, Value.cells] at hb0
 have gc0_0 : Wq.cell? ⟨p0, 0, none⟩ = some _ := blk_cell hb0 0
 have gc0_1 : Wq.cell? ⟨p0, 1, none⟩ = some _ := blk_cell hb0 1
 have gf0 := blk_frozen hb0
 have gl0 := blk_lt hb0
 simp [stOpnd, Act.eval, Value.cells] at hb1
 have gc1_0 : Wq.cell? ⟨p1, 0, none⟩ = some _ := blk_cell hb1 0
 have gc1_1 : Wq.cell? ⟨p1, 1, none⟩ = some _ := blk_cell hb1 1
 have gf1 := blk_frozen hb1
 have gl1 := blk_lt hb1
 have gn : p0 ≠ p1 := by simpa using hn0
 have gm : p1 ≠ p0 := fun e => gn e.symm
 have gp0 := hide hp0
 have gp1 := hide hp1
 clear hb0 hn0 hp0 hb1 hn1 hp1
 have oc := old_cell HWq
 have of := old_frozen HWq
 have ol := old_lt HWq
 replace HWq := hide HWq
 go_wp2_with fail
 refine wp_region_qas 10 [] [] hm (h := ?_)
 repeat (refine wpSteady_step (fun K hK => ?_); go_simp; first | (refine hK _ ?_; clear hK K) | (apply Exists.intro; refine ⟨fun _ => ?_, hK _ ?_⟩; (go_at_call 185; exact compare_any _ _ _ _ _ (by assumption) (by assumption) (by assumption) (by assumption)); clear hK K))
 refine rq0 fun nqa osqa => ?_
 try simp only [Act.put, setA]
 try dsimp only
 go_wp2_with (go_at_call 185; refine crv (compare_any _ _ _ _ _ ha hb hc hd) fun _ _ => ?_; dsimp only)
 all_goals go_ret
 all_goals refine Ret.mk' (ret_bool ?_) gw
 all_goals (simp only [hasw, *]; simp; try omega)
end Go.Proofs.YtfeccolljfkejaaGreatDoor
namespace Go.Proofs.YtfeccolljfkejaaGreatDoor
open Go.RowKit Go.Sort
attribute [local go_sem] Steady steadyUpon
attribute [local go_sem ↓] hs_dr lt_add_r lt_add_r2 lt_add_r3 lt_add_r4 lt_add_r5 lt_add_r6
attribute [local go_sem] cell?_gd frozen?_gd setCell_gd size_grow tape_grow cell?_grow' frozen?_grow' setCell_grow' grow_grow grow_dr grow_drew dr_dr dr_drew drew_dr dr_alloc dr_setCell dr_cell dr_frozen dr_tape dr_drawn
structure Sec where
 fx : Int
 fy : Int
 tx : Int
 ty : Int
 col : Int
 rng : Int
 deriving DecidableEq, Inhabited
namespace Sec
def val (s : Sec) : Value := sec s.fx s.fy s.tx s.ty s.col s.rng
def cells (s : Sec) : List Value := [.int .i64 s.fx, .int .i64 s.fy, .int .i64 s.tx, .int .i64 s.ty, .int .i64 s.col, .int .i64 s.rng]
def ok (s : Sec) : Bool := secOk s.fx s.fy s.tx s.ty s.col s.rng
def has (s : Sec) (x y : Int) : Bool := hasw s.fx s.fy s.tx s.ty x y
end Sec
def clash (s t : Sec) : Bool := s.has t.fx t.fy || t.has s.fx s.fy
/-- The list is good up to k; element k against those before j. -/
def GoodTo (ss : List Sec) (k : Nat) : Prop := ∀ i s, i < k → ss[i]? = some s → s.ok = true ∧ ∀ j t, j < i → ss[j]? = some t → clash s t = false
def GoodAt (ss : List Sec) (s : Sec) (j : Nat) : Prop := ∀ i t, i < j → ss[i]? = some t → clash s t = false
def LV (ss : List Sec) : Prop := GoodTo ss ss.length ∧ ss.length ≤ 12
def LValid (ss : List Sec) : Bool := decide ((∀ i < ss.length, (ss.getD i default).ok = true ∧ ∀ j < i, clash (ss.getD i default) (ss.getD j default) = false) ∧ ss.length ≤ 12)
theorem getD_of {α : Type} {l : List α} {i : Nat} {s d : α} (h : l[i]? = some s) : l.getD i d = s := by simp [h]
theorem LValid_iff {ss : List Sec} : LValid ss = true ↔ LV ss := by
 unfold LValid LV GoodTo
 rw [decide_eq_true_eq]
 constructor
 ·rintro ⟨h, h12⟩
  refine ⟨fun i s hi hs => ?_, h12⟩
  obtain ⟨h1, h2⟩ := h i hi
  rw [getD_of hs] at h1 h2
  exact ⟨h1, fun j t hj ht => by have := h2 j hj; rwa [getD_of ht] at this⟩
 ·rintro ⟨h, h12⟩
  refine ⟨fun i hi => ?_, h12⟩
  have hs : ss[i]? = some ss[i] := List.getElem?_eq_getElem hi
  obtain ⟨h1, h2⟩ := h i _ hi hs
  rw [getD_of hs]
  refine ⟨h1, fun j hj => ?_⟩
  have ht : ss[j]? = some ss[j] := List.getElem?_eq_getElem (by omega)
  rw [getD_of ht]
  exact h2 j _ hj ht
theorem LValid_not {ss : List Sec} (h : ¬ LV ss) : false = LValid ss := by
 cases hc : LValid ss with
 | false => rfl
 | true => exact (h (LValid_iff.1 hc)).elim
theorem secAt {w : World} {B : Nat} {A : Option Addr} {ss : List Sec} {k : Nat} {s : Sec} (h : Rd w B 6 A (ss.map Sec.cells)) (hk : ss[k]? = some s) :
  ∃ b off, Hid (A = some ⟨b, off, none⟩) ∧ b < B ∧ w.cell? ⟨b, off + k * 6, none⟩ = some (.int .i64 s.fx) ∧ w.cell? ⟨b, off + k * 6 + 1, none⟩ = some (.int .i64 s.fy) ∧
   w.cell? ⟨b, off + k * 6 + 2, none⟩ = some (.int .i64 s.tx) ∧ w.cell? ⟨b, off + k * 6 + 3, none⟩ = some (.int .i64 s.ty) ∧ w.cell? ⟨b, off + k * 6 + 4, none⟩ = some (.int .i64 s.col) ∧ w.cell? ⟨b, off + k * 6 + 5, none⟩ = some (.int .i64 s.rng) := by
 obtain ⟨b, off, hA, hb, hc⟩ := h.at_ (k := k) (x := s.cells) (by simp [hk])
 exact ⟨b, off, hA, hb, hc 0 _ rfl, hc 1 _ rfl, hc 2 _ rfl, hc 3 _ rfl, hc 4 _ rfl, hc 5 _ rfl⟩
theorem sok_bd {s : Sec} (h : s.ok = true) : (-4000000 ≤ s.fx ∧ s.fx ≤ 4000000) ∧ (-4000000 ≤ s.fy ∧ s.fy ≤ 4000000) ∧ (-4000000 ≤ s.tx ∧ s.tx ≤ 4000000) ∧ (-4000000 ≤ s.ty ∧ s.ty ≤ 4000000) := by
 simp [Sec.ok, secOk, dirOk] at h
 omega
theorem good_step {ss : List Sec} {k : Nat} {s : Sec} (h : GoodTo ss k) (hs : ss[k]? = some s) (ho : s.ok = true) (ha : GoodAt ss s k) : GoodTo ss (k + 1) := by
 intro i t hi ht
 by_cases hik : i = k
 ·subst hik
  rw [hs] at ht
  injection ht with ht
  subst ht
  exact ⟨ho, ha⟩
 ·exact h i t (by omega) ht
theorem goodAt_step {ss : List Sec} {s t : Sec} {j : Nat} (h : GoodAt ss s j) (ht : ss[j]? = some t) (hc : clash s t = false) : GoodAt ss s (j + 1) := by
 intro i u hi hu
 by_cases hij : i = j
 ·subst hij
  rw [ht] at hu
  injection hu with hu
  subst hu
  exact hc
 ·exact h i u (by omega) hu
theorem lv_no1 {ss : List Sec} {k : Nat} {s : Sec} (hs : ss[k]? = some s) (ho : ¬ s.ok = true) : false = LValid ss := by
 refine LValid_not fun h => ?_
 exact ho (h.1 k s (List.getElem?_eq_some_iff.1 hs).1 hs).1
theorem lv_no2 {ss : List Sec} {k j : Nat} {s t : Sec} (hs : ss[k]? = some s) (ht : ss[j]? = some t) (hj : j < k) (ho : clash s t = true) : false = LValid ss := by
 refine LValid_not fun h => ?_
 have := (h.1 k s (List.getElem?_eq_some_iff.1 hs).1 hs).2 j t hj ht
 rw [ho] at this
 cases this
def SecBox (w : World) (b : Nat) (s : Sec) : Prop :=
 w.cell? ⟨b, 0, none⟩ = some (.int .i64 s.fx) ∧ w.cell? ⟨b, 1, none⟩ = some (.int .i64 s.fy) ∧ w.cell? ⟨b, 2, none⟩ = some (.int .i64 s.tx) ∧
 w.cell? ⟨b, 3, none⟩ = some (.int .i64 s.ty) ∧ w.cell? ⟨b, 4, none⟩ = some (.int .i64 s.col) ∧ w.cell? ⟨b, 5, none⟩ = some (.int .i64 s.rng) ∧ b < w.heap.size
theorem SecBox.grew {w w' : World} {b : Nat} {s : Sec} (h : SecBox w b s) (hg : Grew w w') : SecBox w' b s := by
 obtain ⟨h0, h1, h2, h3, h4, h5, h6⟩ := h
 have hb := hg.below
 exact ⟨(hb.cell h6).trans h0, (hb.cell h6).trans h1, (hb.cell h6).trans h2, (hb.cell h6).trans h3, (hb.cell h6).trans h4, (hb.cell h6).trans h5, Nat.lt_of_lt_of_le h6 hb.size⟩
theorem SecBox.new (w : World) (s : Sec) : SecBox (w.alloc (.cells #[.int .i64 s.fx, .int .i64 s.fy, .int .i64 s.tx, .int .i64 s.ty, .int .i64 s.col, .int .i64 s.rng] 100)) w.heap.size s := by
 refine ⟨?_, ?_, ?_, ?_, ?_, ?_, by simp⟩ <;> rw [World.cell?_alloc_at _ _ _ _ rfl] <;> rfl
theorem clash_of1 {s t : Sec} (h : hasw s.fx s.fy s.tx s.ty t.fx t.fy = true) : clash s t = true := by unfold clash Sec.has; rw [h]; rfl
theorem clash_of2 {s t : Sec} (h : hasw t.fx t.fy t.tx t.ty s.fx s.fy = true) : clash s t = true := by unfold clash Sec.has; rw [h, Bool.or_true]
theorem clash_not {s t : Sec} (h : hasw s.fx s.fy s.tx s.ty t.fx t.fy = false) (k : hasw t.fx t.fy t.tx t.ty s.fx s.fy = false) : clash s t = false := by unfold clash Sec.has; rw [h, k]; rfl
theorem Valid_any (ss : List Sec) (A : Option Addr) (c : Nat) (w : World) (hr : Rd w w.heap.size 6 A (ss.map Sec.cells)) (hl : ss.length ≤ c) (hc : ss.length ≤ 100000000000000) :
  Calls Tryz.prog 106 #[.slice A ss.length c] w (Ret w (.bool (LValid ss))) := by
 have hm := hmix
 go_enter Tryz.func106, Tryz.ntmps106
 go_wp2_with fail
 go_loopw [9] (fun i wr => ∃ k : Nat, k ≤ ss.length ∧ i = .int .i64 k ∧ Grew w wr ∧ GoodTo ss k) (fun i _ => ss.length - (intOf i).toNat)
 case atStart => exact ⟨0, by omega, rfl, Grew.refl _, fun i _ hi => by omega⟩
 case round =>
  obtain ⟨k, hk, rfl, hg, hgood⟩ := hrel
  have HG := hide hgood
  clear hgood
  have HW := hide hg
  clear hg
  by_cases hlt : k < ss.length
  ·obtain ⟨s, hs⟩ : ∃ s, ss[k]? = some s := ⟨_, List.getElem?_eq_getElem hlt⟩
   obtain ⟨b, off, hA, hb, h0, h1, h2, h3, h4, h5⟩ := secAt (hr.up HW.out) hs
   have HS := hide hs
   clear hs
   have hix := idx_run (cap := c) Tryz.underlying45 Tryz.sizeOf100 hA.out hlt
   by_cases hok : secOk s.fx s.fy s.tx s.ty s.col s.rng = true
   ·have hbd := sok_bd hok
    go_wp2_with (go_at_call 142; refine crv (valid1_any _ _ _ _ _ _ _) fun _ _ => ?_; dsimp only)
    clear h0 h1 h2 h3 h4 h5 hix
    have HO := hide hok
    clear hok
    go_loopw [21] (fun i wi => ∃ j : Nat, j ≤ k ∧ i = .int .i64 j ∧ Grew wr wi ∧ SecBox wi wr.heap.size s ∧ GoodAt ss s j) (fun i _ => k - (intOf i).toNat)
    case atStart => exact ⟨0, by omega, rfl, gw, (SecBox.new _ s).grew gw, fun i _ hi => by omega⟩
    case round =>
     obtain ⟨j, hj, rfl, hg, ⟨h0, h1, h2, h3, h4, h5, h6⟩, hgood⟩ := hrel
     have HG2 := hide hgood
     clear hgood
     have HW2 := hide hg
     clear hg
     by_cases hjt : j < k
     ·obtain ⟨t, ht⟩ : ∃ t, ss[j]? = some t := ⟨_, List.getElem?_eq_getElem (by omega)⟩
      obtain ⟨b', off', hA', hb', g0, g1, g2, g3, g4, g5⟩ := secAt ((hr.up HW.out).up HW2.out) ht
      have hix2 := idx_run (cap := c) Tryz.underlying45 Tryz.sizeOf100 hA'.out hjt
      have tbd := sok_bd (HG.out j t hjt ht).1
      have HT := hide ht
      clear ht
      cases hc1 : hasw s.fx s.fy s.tx s.ty t.fx t.fy
      ·cases hc2 : hasw t.fx t.fy t.tx t.ty s.fx s.fy
       ·go_wp2_with (go_at_call 143; refine crv (has_any _ _ _ _ _ _ _ _ _ (by omega) (by omega) (by omega) (by omega) (by omega) (by omega)) fun _ _ => ?_; dsimp only)
        go_roundw
        case rel => exact ⟨j + 1, by omega, by go_num, HW2.out.trans gw, SecBox.grew ⟨h0, h1, h2, h3, h4, h5, h6⟩ gw, goodAt_step HG2.out HT.out (clash_not hc1 hc2)⟩
        case measure => simp [intOf]; omega
       ·go_wp2_with (go_at_call 143; refine crv (has_any _ _ _ _ _ _ _ _ _ (by omega) (by omega) (by omega) (by omega) (by omega) (by omega)) fun _ _ => ?_; dsimp only)
        go_ret
        exact Ret.mk' (ret_bool (lv_no2 HS.out HT.out hjt (clash_of2 hc2))) ((HW.out.trans HW2.out).trans gw)
      ·go_wp2_with (go_at_call 143; refine crv (has_any _ _ _ _ _ _ _ _ _ (by omega) (by omega) (by omega) (by omega) (by omega) (by omega)) fun _ _ => ?_; dsimp only)
       go_ret
       exact Ret.mk' (ret_bool (lv_no2 HS.out HT.out hjt (clash_of1 hc1))) ((HW.out.trans HW2.out).trans gw)
     ·obtain rfl : j = k := by omega
      go_wp2_with fail
      go_roundw
      case rel => exact ⟨j + 1, by omega, by go_num, HW.out.trans HW2.out, good_step HG.out HS.out HO.out HG2.out⟩
      case measure => simp [intOf]; omega
   ·go_wp2_with (go_at_call 142; refine crv (valid1_any _ _ _ _ _ _ _) fun _ _ => ?_; dsimp only)
    go_ret
    exact Ret.mk' (ret_bool (lv_no1 HS.out hok)) (HW.out.trans gw)
  ·go_wp2_with fail
   go_ret
   obtain rfl : k = ss.length := by omega
   refine Ret.mk' (ret_bool ?_) HW.out
   rw [Bool.eq_iff_iff, LValid_iff]
   simp
   exact ⟨fun h => ⟨HG.out, by omega⟩, fun h => by have := h.2; omega⟩
end Go.Proofs.YtfeccolljfkejaaGreatDoor
namespace Go.Proofs.YtfeccolljfkejaaGreatDoor
open Go.RowKit Go.Sort
attribute [local go_sem] Steady steadyUpon
attribute [local go_sem ↓] hs_dr lt_add_r lt_add_r2 lt_add_r3 lt_add_r4 lt_add_r5 lt_add_r6
attribute [local go_sem] cell?_gd frozen?_gd setCell_gd size_grow tape_grow cell?_grow' frozen?_grow' setCell_grow' grow_grow grow_dr grow_drew dr_dr dr_drew drew_dr dr_alloc dr_setCell dr_cell dr_frozen dr_tape dr_drawn
end Go.Proofs.YtfeccolljfkejaaGreatDoor
namespace Go.Proofs.YtfeccolljfkejaaGreatDoor
open Go.RowKit Go.Sort
attribute [local go_sem] Steady steadyUpon
attribute [local go_sem ↓] hs_dr lt_add_r lt_add_r2 lt_add_r3 lt_add_r4 lt_add_r5 lt_add_r6
attribute [local go_sem] cell?_gd frozen?_gd setCell_gd size_grow tape_grow cell?_grow' frozen?_grow' setCell_grow' grow_grow grow_dr grow_drew dr_dr dr_drew drew_dr dr_alloc dr_setCell dr_cell dr_frozen dr_tape dr_drawn
/-- A slice value of sectors, as it stands in a slice of slices. -/
structure SL where
 A : Option Addr
 c : Nat
 ss : List Sec
def SL.val (x : SL) : Value := .slice x.A x.ss.length x.c
end Go.Proofs.YtfeccolljfkejaaGreatDoor
