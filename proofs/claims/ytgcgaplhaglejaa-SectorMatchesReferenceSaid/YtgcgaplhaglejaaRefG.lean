/- The reference implementation: Holds, Safer, Seen, short; they compute what the program computes. -/
import Derived.Test.YtgcgaplhaglejaaRefF
import Derived.Test.YtgcgaplhaglejaaSaferL
namespace Go.Proofs.Ytgcgaplhaglejaa
set_option linter.unusedVariables false
set_option linter.unusedSimpArgs false
open Go.RowKit Go.Sort
attribute [local go_sem] Steady steadyUpon
attribute [local go_sem ↓] hs_dr lt_add_r lt_add_r2 lt_add_r3 lt_add_r4 lt_add_r5 lt_add_r6
attribute [local go_sem] cell?_gd frozen?_gd setCell_gd size_grow tape_grow cell?_grow' frozen?_grow' setCell_grow' grow_grow grow_dr grow_drew dr_dr dr_drew drew_dr dr_alloc dr_setCell dr_cell dr_frozen dr_tape dr_drawn
attribute [local irreducible] wpSteady

theorem holdsAt_or {sa sb : List Sec} {x y c r d s col : Int} (hcr : shA sa (x, y) = (c, r)) (hds : shA sb (x, y) = (d, s)) :
    ((c == col) = false ∧ holdsAt sa sb col (x, y) = true) ∨ (c = col ∧ (d == col) = false ∧ holdsAt sa sb col (x, y) = false) ∨ (c = col ∧ d = col ∧ decide (s < r) = true ∧ holdsAt sa sb col (x, y) = false) ∨ (c = col ∧ d = col ∧ decide (s < r) = false ∧ holdsAt sa sb col (x, y) = true) := by
  rw [holdsAt_def, hcr, hds]
  by_cases h1 : c = col
  · by_cases h2 : d = col
    · by_cases h3 : s < r <;> simp [h1, h2, h3]
    · simp [h1, h2]
  · simp [h1]
def HoldT (sa sb : List Sec) (col : Int) (tl : List (Int × Int)) (k : Nat) : Prop := ∀ (j : Nat) (t : Int × Int), j < k → tl[j]? = some t → holdsAt sa sb col t = true

set_option maxRecDepth 100000 in
set_option maxHeartbeats 4000000 in
theorem rHolds_no (sa sb : List Sec) (A A' : Option Addr) (c c' : Nat) (col : Int) (w : World) (hra : Rd w w.heap.size 6 A (sa.map Sec.cells)) (hrb : Rd w w.heap.size 6 A' (sb.map Sec.cells)) (hla : sa.length ≤ c) (hlb : sb.length ≤ c') (hc : sa.length ≤ 100000000000000) (hc' : sb.length ≤ 100000000000000)
    (h : (LValid sa && LValid sb && colOk col) = false) :
    Calls Try.prog 19 #[.slice A sa.length c, .slice A' sb.length c', .int .i64 col] w (Ret w (.tuple #[.bool false, .int .i64 1])) := by
  have hm := hmix
  obtain ⟨va, hva⟩ : ∃ v, LValid sa = v := ⟨_, rfl⟩
  obtain ⟨vb, hvb⟩ : ∃ v, LValid sb = v := ⟨_, rfl⟩
  rw [hva, hvb] at h
  have k1 := hide (fun W (hg : Grew w W) => rValid_v sa A c va W (hra.up hg) hla hc hva)
  have k2 := hide (fun W (hg : Grew w W) => rValid_v sb A' c' vb W (hrb.up hg) hlb hc' hvb)
  clear hva hvb
  have hcase : va = false ∨ (va = true ∧ vb = false) ∨ (va = true ∧ vb = true ∧ decide (col < 1) = true) ∨ (va = true ∧ vb = true ∧ decide (col < 1) = false ∧ decide (3 < col) = true) := by
    cases va
    · exact .inl rfl
    · cases vb
      · exact .inr (.inl ⟨rfl, rfl⟩)
      · simp [colOk] at h
        by_cases h1 : col < 1
        · exact .inr (.inr (.inl ⟨rfl, rfl, by simpa using h1⟩))
        · exact .inr (.inr (.inr ⟨rfl, rfl, by simpa using h1, by simp; omega⟩))
  clear h
  rcases hcase with rfl | ⟨rfl, rfl⟩ | ⟨rfl, rfl, h5⟩ | ⟨rfl, rfl, h5, h6⟩
  all_goals
    go_enter Try.func19, Try.ntmps19
    go_wp2_with (first | (go_at_call 13; (with_reducible refine (k1.out _ (by repeat (with_reducible first | exact Grew.refl _ | assumption | refine Grew.alloc ?_ _ | refine Grew.grow ?_ _ | refine Grew.dr ?_ _ | refine Grew.drewN ?_ _ | refine Grew.drew ?_ | refine Grew.trans ?_ (Hid.out (by assumption))))).mono ?_); rintro e w' ⟨rfl, ⟨_, _⟩, rfl⟩; dsimp only) | (go_at_call 13; (with_reducible refine (k2.out _ (by repeat (with_reducible first | exact Grew.refl _ | assumption | refine Grew.alloc ?_ _ | refine Grew.grow ?_ _ | refine Grew.dr ?_ _ | refine Grew.drewN ?_ _ | refine Grew.drew ?_ | refine Grew.trans ?_ (Hid.out (by assumption))))).mono ?_); rintro e w' ⟨rfl, ⟨_, _⟩, rfl⟩; dsimp only))
    go_ret2
    exact Ret.mk' rfl (by repeat (with_reducible first | exact Grew.refl _ | assumption | refine Grew.alloc ?_ _ | refine Grew.grow ?_ _ | refine Grew.dr ?_ _ | refine Grew.drewN ?_ _ | refine Grew.drew ?_ | refine Grew.trans ?_ (Hid.out (by assumption))))

set_option maxRecDepth 100000 in
set_option maxHeartbeats 4000000 in
theorem rHolds_yes (sa sb : List Sec) (A A' : Option Addr) (c c' : Nat) (col : Int) (w : World) (hra : Rd w w.heap.size 6 A (sa.map Sec.cells)) (hrb : Rd w w.heap.size 6 A' (sb.map Sec.cells)) (hla : sa.length ≤ c) (hlb : sb.length ≤ c') (hc : sa.length ≤ 100000000000000) (hc' : sb.length ≤ 100000000000000)
    (va : LValid sa = true) (vb : LValid sb = true) (h3 : 1 ≤ col ∧ col ≤ 3) :
    Calls Try.prog 19 #[.slice A sa.length c, .slice A' sb.length c', .int .i64 col] w (Ret w (.tuple #[.bool ((turnsOf (sa ++ sb)).all (holdsAt sa sb col)), .int .i64 0])) := by
  have hm := hmix
  have la := (LV_ok va).2
  have lb := (LV_ok vb).2
  obtain ⟨r, hr⟩ : ∃ r, (turnsOf (sa ++ sb)).all (holdsAt sa sb col) = r := ⟨_, rfl⟩
  rw [hr]
  have k1 := hide (fun W (hg : Grew w W) => rValid_v sa A c true W (hra.up hg) hla hc va)
  have k2 := hide (fun W (hg : Grew w W) => rValid_v sb A' c' true W (hrb.up hg) hlb hc' vb)
  have k3 := hide (fun W (hg : Grew w W) => rTurns_any sa sb A A' c c' W (hra.up hg) (hrb.up hg) (by omega) (by omega))
  have HOA := hide (LV_ok va).1
  have HOB := hide (LV_ok vb).1
  have htl := turns_len (sa ++ sb)
  rw [List.length_append] at htl
  obtain ⟨tl, htl2⟩ : ∃ tl, turnsOf (sa ++ sb) = tl := ⟨_, rfl⟩
  have L4 := hide (saf_l4 htl2 va vb)
  rw [htl2] at k3 htl hr
  have HR := hide hr
  have htl3 : tl.length ≤ 48 := by omega
  have h5 : decide (col < 1) = false := by simp; omega
  have h6 : decide (3 < col) = false := by simp; omega
  clear htl2 htl hr va vb
  go_enter Try.func19, Try.ntmps19
  go_wp2_with (first | (go_at_call 13; (with_reducible refine (k1.out _ (by repeat (with_reducible first | exact Grew.refl _ | assumption | refine Grew.alloc ?_ _ | refine Grew.grow ?_ _ | refine Grew.dr ?_ _ | refine Grew.drewN ?_ _ | refine Grew.drew ?_ | refine Grew.trans ?_ (Hid.out (by assumption))))).mono ?_); rintro e w' ⟨rfl, ⟨_, _⟩, rfl⟩; dsimp only) | (go_at_call 13; (with_reducible refine (k2.out _ (by repeat (with_reducible first | exact Grew.refl _ | assumption | refine Grew.alloc ?_ _ | refine Grew.grow ?_ _ | refine Grew.dr ?_ _ | refine Grew.drewN ?_ _ | refine Grew.drew ?_ | refine Grew.trans ?_ (Hid.out (by assumption))))).mono ?_); rintro e w' ⟨rfl, ⟨_, _⟩, rfl⟩; dsimp only))
  refine (k3.out _ (by repeat (with_reducible first | exact Grew.refl _ | assumption | refine Grew.alloc ?_ _ | refine Grew.grow ?_ _ | refine Grew.dr ?_ _ | refine Grew.drewN ?_ _ | refine Grew.drew ?_ | refine Grew.trans ?_ (Hid.out (by assumption))))).mono ?_
  rintro e W2 ⟨v, rfl, hown, hg⟩
  have HG2 : Hid (Grew w W2) := hide (Grew.trans (by repeat (with_reducible first | exact Grew.refl _ | assumption | refine Grew.alloc ?_ _ | refine Grew.grow ?_ _ | refine Grew.dr ?_ _ | refine Grew.drewN ?_ _ | refine Grew.drew ?_ | refine Grew.trans ?_ (Hid.out (by assumption)))) hg)
  obtain ⟨A11, c11, rfl, hc11, hrd⟩ := Rd.of_own (f := encD) encD_len hown rfl
  have HRD := hide hrd
  clear hown hg hrd
  go_wp2_with fail
  go_loopw [11] (fun i wr => ∃ (k : Nat), k ≤ tl.length ∧ i = .int .i64 k ∧ Grew W2 wr ∧ HoldT sa sb col tl k) (fun i _ => tl.length - (intOf i).toNat)
  case atStart => exact ⟨0, by omega, rfl, (by repeat (with_reducible first | exact Grew.refl _ | assumption | refine Grew.alloc ?_ _ | refine Grew.grow ?_ _ | refine Grew.dr ?_ _ | refine Grew.drewN ?_ _ | refine Grew.drew ?_ | refine Grew.trans ?_ (Hid.out (by assumption)))), fun j t hj => by omega⟩
  case round =>
    obtain ⟨k, hk, rfl, hg, ht⟩ := hrel
    have HG := hide hg
    have HT := hide ht
    clear hg ht
    by_cases hlt : k < tl.length
    · obtain ⟨⟨x, y⟩, hxy⟩ : ∃ t, tl[k]? = some t := ⟨_, List.getElem?_eq_getElem hlt⟩
      obtain ⟨b, off, hA, hb, hcell⟩ := (HRD.out.up HG.out).at_ (k := k) (x := encD (x, y)) (by rw [List.getElem?_map, hxy]; rfl)
      have h0 := hcell 0 _ rfl
      have h1 := hcell 1 _ rfl
      simp only [Nat.add_zero] at h0
      have HA := hide hA
      have hix := idx_run (cap := c11) Try.underlying48 Try.sizeOf24 hA hlt
      have hd := L4.out k (x, y) hxy
      have HXY := hide hxy
      clear hcell hA hxy
      obtain ⟨⟨c1, r1⟩, hcr⟩ : ∃ q, shA sa (x, y) = q := ⟨_, rfl⟩
      obtain ⟨⟨d1, s1⟩, hds⟩ : ∃ q, shA sb (x, y) = q := ⟨_, rfl⟩
      have hbd := dir_bd hd
      have k5 := hide (fun W (hg : Grew w W) => rAt_v sa A c x y (c1, r1) W (hra.up hg) hla hc HOA.out hbd.1 hbd.2 (nz_dir hd) hcr)
      have k6 := hide (fun W (hg : Grew w W) => rAt_v sb A' c' x y (d1, s1) W (hrb.up hg) hlb hc' HOB.out hbd.1 hbd.2 (nz_dir hd) hds)
      have hcase := holdsAt_or (col := col) hcr hds
      clear hd hcr hds hbd
      rcases hcase with ⟨e1, hh⟩ | ⟨rfl, e2, hh⟩ | ⟨rfl, rfl, e3, hh⟩ | ⟨rfl, rfl, e3, hh⟩
      all_goals
        have HH := hide hh
        clear hh
        try have e2' : (d1 != c1) = true := by simpa using e2
        go_wp2_with (first | (go_at_call 39; (with_reducible refine (k5.out _ (HG2.out.trans (HG.out.trans (by repeat (with_reducible first | exact Grew.refl _ | assumption | refine Grew.alloc ?_ _ | refine Grew.grow ?_ _ | refine Grew.dr ?_ _ | refine Grew.drewN ?_ _ | refine Grew.drew ?_ | refine Grew.trans ?_ (Hid.out (by assumption))))))).mono ?_); rintro e w' ⟨rfl, ⟨_, _⟩, rfl⟩; dsimp only) | (go_at_call 39; (with_reducible refine (k6.out _ (HG2.out.trans (HG.out.trans (by repeat (with_reducible first | exact Grew.refl _ | assumption | refine Grew.alloc ?_ _ | refine Grew.grow ?_ _ | refine Grew.dr ?_ _ | refine Grew.drewN ?_ _ | refine Grew.drew ?_ | refine Grew.trans ?_ (Hid.out (by assumption))))))).mono ?_); rintro e w' ⟨rfl, ⟨_, _⟩, rfl⟩; dsimp only))
        first
          | (go_roundw
             case rel =>
               refine ⟨k + 1, by omega, by go_num, HG.out.trans (by repeat (with_reducible first | exact Grew.refl _ | assumption | refine Grew.alloc ?_ _ | refine Grew.grow ?_ _ | refine Grew.dr ?_ _ | refine Grew.drewN ?_ _ | refine Grew.drew ?_ | refine Grew.trans ?_ (Hid.out (by assumption)))), fun j t hj ht => ?_⟩
               by_cases hjk : j = k
               · rw [hjk, HXY.out] at ht
                 injection ht with ht
                 rw [← ht]
                 exact HH.out
               · exact HT.out j t (by omega) ht
             case measure => simp [intOf]; omega)
          | (go_ret2
             have hf : tl.all (holdsAt sa sb _) = false := List.all_eq_false.2 ⟨_, List.mem_of_getElem? HXY.out, by rw [HH.out]; simp⟩
             obtain rfl : r = false := by rw [← HR.out, hf]
             exact Ret.mk' rfl (HG2.out.trans (HG.out.trans (by repeat (with_reducible first | exact Grew.refl _ | assumption | refine Grew.alloc ?_ _ | refine Grew.grow ?_ _ | refine Grew.dr ?_ _ | refine Grew.drewN ?_ _ | refine Grew.drew ?_ | refine Grew.trans ?_ (Hid.out (by assumption)))))))
    · obtain rfl : k = tl.length := by omega
      go_wp2_with fail
      go_ret2
      have hf : tl.all (holdsAt sa sb col) = true := List.all_eq_true.2 fun t ht => by
        obtain ⟨j, hj, rfl⟩ := List.getElem_of_mem ht
        exact HT.out j _ hj (List.getElem?_eq_getElem hj)
      obtain rfl : r = true := by rw [← HR.out, hf]
      exact Ret.mk' rfl (HG2.out.trans HG.out)

theorem rHolds_any (sa sb : List Sec) (A A' : Option Addr) (c c' : Nat) (col : Int) (w : World) (hra : Rd w w.heap.size 6 A (sa.map Sec.cells)) (hrb : Rd w w.heap.size 6 A' (sb.map Sec.cells)) (hla : sa.length ≤ c) (hlb : sb.length ≤ c') (hc : sa.length ≤ 100000000000000) (hc' : sb.length ≤ 100000000000000) :
    Calls Try.prog 19 #[.slice A sa.length c, .slice A' sb.length c', .int .i64 col] w (Ret w (.tuple #[.bool (holdsOf sa sb col).1, .int .i64 (holdsOf sa sb col).2])) := by
  unfold holdsOf
  cases h : LValid sa && LValid sb && colOk col
  · exact rHolds_no sa sb A A' c c' col w hra hrb hla hlb hc hc' h
  · rw [Bool.and_eq_true, Bool.and_eq_true] at h
    exact rHolds_yes sa sb A A' c c' col w hra hrb hla hlb hc hc' h.1.1 h.1.2 (by simpa [colOk] using h.2)

set_option maxHeartbeats 1600000 in
theorem rSafer_any (sa sb : List Sec) (A A' : Option Addr) (c c' : Nat) (w : World) (hra : Rd w w.heap.size 6 A (sa.map Sec.cells)) (hrb : Rd w w.heap.size 6 A' (sb.map Sec.cells)) (hla : sa.length ≤ c) (hlb : sb.length ≤ c') (hc : sa.length ≤ 100000000000000) (hc' : sb.length ≤ 100000000000000) :
    Calls Try.prog 21 #[.slice A sa.length c, .slice A' sb.length c'] w (Ret w (.tuple #[.bool (saferOf sa sb).1, .int .i64 (saferOf sa sb).2])) := by
  have hm := hmix
  unfold saferOf
  rcases holdsOf_err sb sa 1 with ⟨h, _⟩ | h
  · cases h2 : (holdsOf sb sa 1).1
    all_goals
      rw [h]
      go_enter Try.func21, Try.ntmps21
      go_wp2_with (go_at_call 19; refine (rHolds_any sb sa A' A c' c 1 _ (hrb.up (by repeat (with_reducible first | exact Grew.refl _ | assumption | refine Grew.alloc ?_ _ | refine Grew.grow ?_ _ | refine Grew.dr ?_ _ | refine Grew.drewN ?_ _ | refine Grew.drew ?_ | refine Grew.trans ?_ (Hid.out (by assumption))))) (hra.up (by repeat (with_reducible first | exact Grew.refl _ | assumption | refine Grew.alloc ?_ _ | refine Grew.grow ?_ _ | refine Grew.dr ?_ _ | refine Grew.drewN ?_ _ | refine Grew.drew ?_ | refine Grew.trans ?_ (Hid.out (by assumption))))) hlb hla hc' hc).mono ?_; rintro e w' ⟨rfl, ⟨_, _⟩, rfl⟩; dsimp only; rw [h, h2])
      first | go_ret2 | (refine bodyPost_ret (v := _) (by simp [results, Try.results21, go_sem]; rfl) rfl ?_)
      exact Ret.mk' (by simp) (by repeat (with_reducible first | exact Grew.refl _ | assumption | refine Grew.alloc ?_ _ | refine Grew.grow ?_ _ | refine Grew.dr ?_ _ | refine Grew.drewN ?_ _ | refine Grew.drew ?_ | refine Grew.trans ?_ (Hid.out (by assumption))))
  · rw [h]
    go_enter Try.func21, Try.ntmps21
    go_wp2_with (go_at_call 19; refine (rHolds_any sb sa A' A c' c 1 _ (hrb.up (by repeat (with_reducible first | exact Grew.refl _ | assumption | refine Grew.alloc ?_ _ | refine Grew.grow ?_ _ | refine Grew.dr ?_ _ | refine Grew.drewN ?_ _ | refine Grew.drew ?_ | refine Grew.trans ?_ (Hid.out (by assumption))))) (hra.up (by repeat (with_reducible first | exact Grew.refl _ | assumption | refine Grew.alloc ?_ _ | refine Grew.grow ?_ _ | refine Grew.dr ?_ _ | refine Grew.drewN ?_ _ | refine Grew.drew ?_ | refine Grew.trans ?_ (Hid.out (by assumption))))) hlb hla hc' hc).mono ?_; rintro e w' ⟨rfl, ⟨_, _⟩, rfl⟩; dsimp only; rw [h])
    first | go_ret2 | (refine bodyPost_ret (v := _) (by simp [results, Try.results21, go_sem]; rfl) rfl ?_)
    exact Ret.mk' (by simp) (by repeat (with_reducible first | exact Grew.refl _ | assumption | refine Grew.alloc ?_ _ | refine Grew.grow ?_ _ | refine Grew.dr ?_ _ | refine Grew.drewN ?_ _ | refine Grew.drew ?_ | refine Grew.trans ?_ (Hid.out (by assumption))))

theorem r01Valid_v (a b : Int) (r : Bool) (w : World) (h : plOk a b = r) : Calls Try.prog 47 #[pt a b] w (Ret w (.bool r)) := by
  have := r01Valid_any a b w
  rwa [h] at this
set_option maxRecDepth 100000 in
set_option maxHeartbeats 4000000 in
theorem rSeen_any (ss : List Sec) (A : Option Addr) (c : Nat) (ax ay px py : Int) (w : World) (hr : Rd w w.heap.size 6 A (ss.map Sec.cells)) (hl : ss.length ≤ c) (hc : ss.length ≤ 100000000000000) :
    Calls Try.prog 26 #[.slice A ss.length c, pt ax ay, pt px py] w (Ret w (.tuple #[.int .i64 (seenOf ss ax ay px py).1, .int .i64 (seenOf ss ax ay px py).2])) := by
  have hm := hmix
  obtain ⟨v1, h1⟩ : ∃ v, LValid ss = v := ⟨_, rfl⟩
  obtain ⟨v2, h2⟩ : ∃ v, plOk ax ay = v := ⟨_, rfl⟩
  obtain ⟨v3, h3⟩ : ∃ v, plOk px py = v := ⟨_, rfl⟩
  have k1 := hide (fun W (hg : Grew w W) => rValid_v ss A c v1 W (hr.up hg) hl hc h1)
  have k2 := hide (fun W => r01Valid_v ax ay v2 W h2)
  have k3 := hide (fun W => r01Valid_v px py v3 W h3)
  by_cases hv : (v1 && v2 && v3) = true
  · rw [Bool.and_eq_true, Bool.and_eq_true] at hv
    obtain ⟨⟨rfl, rfl⟩, rfl⟩ := hv
    have hok := (LV_ok h1).1
    have ha := pl_bd h2
    have hp := pl_bd h3
    by_cases he : ax = px ∧ ay = py
    · have hfin : seenOf ss ax ay px py = (0, 4) := by unfold seenOf; rw [h1, h2, h3]; simp [he]
      rw [hfin]
      clear hfin h1 h2 h3 hok
      obtain ⟨rfl, rfl⟩ := he
      go_enter Try.func26, Try.ntmps26
      go_wp2_with (first | (go_at_call 13; (with_reducible refine (k1.out _ (by repeat (with_reducible first | exact Grew.refl _ | assumption | refine Grew.alloc ?_ _ | refine Grew.grow ?_ _ | refine Grew.dr ?_ _ | refine Grew.drewN ?_ _ | refine Grew.drew ?_ | refine Grew.trans ?_ (Hid.out (by assumption))))).mono ?_); rintro e w' ⟨rfl, ⟨_, _⟩, rfl⟩; dsimp only) | (go_at_call 47; (with_reducible refine (k2.out _).mono ?_); rintro e w' ⟨rfl, ⟨_, _⟩, rfl⟩; dsimp only))
      go_ret2
      exact Ret.mk' rfl (by repeat (with_reducible first | exact Grew.refl _ | assumption | refine Grew.alloc ?_ _ | refine Grew.grow ?_ _ | refine Grew.dr ?_ _ | refine Grew.drewN ?_ _ | refine Grew.drew ?_ | refine Grew.trans ?_ (Hid.out (by assumption))))
    · obtain ⟨⟨q, r⟩, hq⟩ : ∃ q, shA ss (px - ax, py - ay) = q := ⟨_, rfl⟩
      have hbd := showAt_bd hok (px - ax) (py - ay)
      have hq' : showAt ss (px - ax) (py - ay) = (q, r) := hq
      rw [hq'] at hbd
      have q1 := mul_bd (a := px - ax) (b := px - ax) 2000000 2000000 (by omega) (by omega)
      have q2 := mul_bd (a := py - ay) (b := py - ay) 2000000 2000000 (by omega) (by omega)
      have q3 := mul_bd (a := r) (b := r) 3000000 3000000 (by simp at hbd; omega) (by simp at hbd; omega)
      simp only [Nat.reduceMul, Int.reduceNeg, Int.cast_ofNat_Int] at q1 q2 q3
      have hfin : seenOf ss ax ay px py = if r * r < (px - ax) * (px - ax) + (py - ay) * (py - ay) then (0, 0) else (q, 0) := by
        unfold seenOf; rw [h1, h2, h3, hq']; simp [he]
      rw [hfin]
      have hb2 : (0 : Int) ≤ r ∧ r ≤ 3000000 := hbd
      have hnz : NZ (px - ax, py - ay) := by unfold NZ; simp; omega
      have k4 := hide (fun W (hg : Grew w W) => rAt_v ss A c (px - ax) (py - ay) (q, r) W (hr.up hg) hl hc hok (by omega) (by omega) hnz hq)
      clear hfin h1 h2 h3 hok hq hq' hbd hnz
      have hne : ax ≠ px ∨ (ax = px ∧ ay ≠ py) := by
        rcases Decidable.em (ax = px) with h | h
        · exact .inr ⟨h, fun h' => he ⟨h, h'⟩⟩
        · exact .inl h
      clear he
      obtain ⟨lt, hlt⟩ : ∃ lt, decide (r * r < (px - ax) * (px - ax) + (py - ay) * (py - ay)) = lt := ⟨_, rfl⟩
      obtain ⟨f, hf⟩ : ∃ f : Int × Int, (if r * r < (px - ax) * (px - ax) + (py - ay) * (py - ay) then ((0 : Int), (0 : Int)) else (q, 0)) = f := ⟨_, rfl⟩
      rw [hf]
      have hfe : f = if lt = true then (0, 0) else (q, 0) := by rw [← hf, ← hlt]; simp
      clear hf
      rcases hne with hne | ⟨rfl, hne⟩
      all_goals try simp only [Int.sub_self, Int.mul_zero, Int.zero_add] at k4 hlt q1 q2
      all_goals cases lt
      all_goals
        simp only [Bool.false_eq_true, if_false, if_true] at hfe
        subst hfe
        go_enter Try.func26, Try.ntmps26
        go_wp2_with (first | (go_at_call 13; (with_reducible refine (k1.out _ (by repeat (with_reducible first | exact Grew.refl _ | assumption | refine Grew.alloc ?_ _ | refine Grew.grow ?_ _ | refine Grew.dr ?_ _ | refine Grew.drewN ?_ _ | refine Grew.drew ?_ | refine Grew.trans ?_ (Hid.out (by assumption))))).mono ?_); rintro e w' ⟨rfl, ⟨_, _⟩, rfl⟩; dsimp only) | (go_at_call 47; (with_reducible refine (k2.out _).mono ?_); rintro e w' ⟨rfl, ⟨_, _⟩, rfl⟩; dsimp only) | (go_at_call 47; (with_reducible refine (k3.out _).mono ?_); rintro e w' ⟨rfl, ⟨_, _⟩, rfl⟩; dsimp only) | (go_at_call 39; (with_reducible refine (k4.out _ (by repeat (with_reducible first | exact Grew.refl _ | assumption | refine Grew.alloc ?_ _ | refine Grew.grow ?_ _ | refine Grew.dr ?_ _ | refine Grew.drewN ?_ _ | refine Grew.drew ?_ | refine Grew.trans ?_ (Hid.out (by assumption))))).mono ?_); rintro e w' ⟨rfl, ⟨_, _⟩, rfl⟩; dsimp only))
        all_goals go_ret2
        all_goals exact Ret.mk' rfl (by repeat (with_reducible first | exact Grew.refl _ | assumption | refine Grew.alloc ?_ _ | refine Grew.grow ?_ _ | refine Grew.dr ?_ _ | refine Grew.drewN ?_ _ | refine Grew.drew ?_ | refine Grew.trans ?_ (Hid.out (by assumption))))
  · have hfin : seenOf ss ax ay px py = (0, 1) := by unfold seenOf; rw [h1, h2, h3]; simp only [Bool.not_eq_true] at hv; rw [hv]; simp
    rw [hfin]
    clear hfin h1 h2 h3
    have hcase : v1 = false ∨ (v1 = true ∧ v2 = false) ∨ (v1 = true ∧ v2 = true ∧ v3 = false) := by
      cases v1
      · exact .inl rfl
      · cases v2
        · exact .inr (.inl ⟨rfl, rfl⟩)
        · cases v3
          · exact .inr (.inr ⟨rfl, rfl, rfl⟩)
          · simp at hv
    clear hv
    rcases hcase with rfl | ⟨rfl, rfl⟩ | ⟨rfl, rfl, rfl⟩
    all_goals
      go_enter Try.func26, Try.ntmps26
      go_wp2_with (first | (go_at_call 13; (with_reducible refine (k1.out _ (by repeat (with_reducible first | exact Grew.refl _ | assumption | refine Grew.alloc ?_ _ | refine Grew.grow ?_ _ | refine Grew.dr ?_ _ | refine Grew.drewN ?_ _ | refine Grew.drew ?_ | refine Grew.trans ?_ (Hid.out (by assumption))))).mono ?_); rintro e w' ⟨rfl, ⟨_, _⟩, rfl⟩; dsimp only) | (go_at_call 47; (with_reducible refine (k2.out _).mono ?_); rintro e w' ⟨rfl, ⟨_, _⟩, rfl⟩; dsimp only) | (go_at_call 47; (with_reducible refine (k3.out _).mono ?_); rintro e w' ⟨rfl, ⟨_, _⟩, rfl⟩; dsimp only))
      all_goals go_ret2
      all_goals exact Ret.mk' rfl (by repeat (with_reducible first | exact Grew.refl _ | assumption | refine Grew.alloc ?_ _ | refine Grew.grow ?_ _ | refine Grew.dr ?_ _ | refine Grew.drewN ?_ _ | refine Grew.drew ?_ | refine Grew.trans ?_ (Hid.out (by assumption))))
end Go.Proofs.Ytgcgaplhaglejaa
