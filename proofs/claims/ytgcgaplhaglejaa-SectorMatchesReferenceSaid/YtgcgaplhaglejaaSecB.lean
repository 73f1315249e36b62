/- The contracts of package sector's functions on lists of sectors. -/
import Derived.Test.YtgcgaplhaglejaaSecA
namespace Go.Proofs.Ytgcgaplhaglejaa
set_option linter.unusedVariables false
set_option linter.unusedSimpArgs false
open Go.RowKit Go.Sort
attribute [local go_sem] Steady steadyUpon
attribute [local go_sem ↓] hs_dr lt_add_r lt_add_r2 lt_add_r3 lt_add_r4 lt_add_r5 lt_add_r6
attribute [local go_sem] cell?_gd frozen?_gd setCell_gd size_grow tape_grow cell?_grow' frozen?_grow' setCell_grow' grow_grow grow_dr grow_drew dr_dr dr_drew drew_dr dr_alloc dr_setCell dr_cell dr_frozen dr_tape dr_drawn

structure Sec where
  fx : Int
  fy : Int
  tx : Int
  ty : Int
  col : Int
  rng : Int
  deriving DecidableEq, Inhabited
namespace Sec
def val (s : Sec) : Value := sec s.fx s.fy s.tx s.ty s.col s.rng
def cells (s : Sec) : List Value := [.int .i64 s.fx, .int .i64 s.fy, .int .i64 s.tx, .int .i64 s.ty, .int .i64 s.col, .int .i64 s.rng]
def ok (s : Sec) : Bool := secOk s.fx s.fy s.tx s.ty s.col s.rng
def has (s : Sec) (x y : Int) : Bool := hasw s.fx s.fy s.tx s.ty x y
end Sec
def clash (s t : Sec) : Bool := s.has t.fx t.fy || t.has s.fx s.fy

/-- The list is good up to k; element k against those before j. -/
def GoodTo (ss : List Sec) (k : Nat) : Prop := ∀ i s, i < k → ss[i]? = some s → s.ok = true ∧ ∀ j t, j < i → ss[j]? = some t → clash s t = false
def GoodAt (ss : List Sec) (s : Sec) (j : Nat) : Prop := ∀ i t, i < j → ss[i]? = some t → clash s t = false
def LV (ss : List Sec) : Prop := GoodTo ss ss.length ∧ ss.length ≤ 12
def LValid (ss : List Sec) : Bool := decide ((∀ i < ss.length, (ss.getD i default).ok = true ∧ ∀ j < i, clash (ss.getD i default) (ss.getD j default) = false) ∧ ss.length ≤ 12)
theorem getD_of {α : Type} {l : List α} {i : Nat} {s d : α} (h : l[i]? = some s) : l.getD i d = s := by simp [h]
theorem LValid_iff {ss : List Sec} : LValid ss = true ↔ LV ss := by
  unfold LValid LV GoodTo
  rw [decide_eq_true_eq]
  constructor
  · rintro ⟨h, h12⟩
    refine ⟨fun i s hi hs => ?_, h12⟩
    obtain ⟨h1, h2⟩ := h i hi
    rw [getD_of hs] at h1 h2
    exact ⟨h1, fun j t hj ht => by have := h2 j hj; rwa [getD_of ht] at this⟩
  · rintro ⟨h, h12⟩
    refine ⟨fun i hi => ?_, h12⟩
    have hs : ss[i]? = some ss[i] := List.getElem?_eq_getElem hi
    obtain ⟨h1, h2⟩ := h i _ hi hs
    rw [getD_of hs]
    refine ⟨h1, fun j hj => ?_⟩
    have ht : ss[j]? = some ss[j] := List.getElem?_eq_getElem (by omega)
    rw [getD_of ht]
    exact h2 j _ hj ht
theorem LValid_not {ss : List Sec} (h : ¬ LV ss) : false = LValid ss := by
  cases hc : LValid ss with
  | false => rfl
  | true => exact (h (LValid_iff.1 hc)).elim

theorem secAt {w : World} {B : Nat} {A : Option Addr} {ss : List Sec} {k : Nat} {s : Sec} (h : Rd w B 6 A (ss.map Sec.cells)) (hk : ss[k]? = some s) :
    ∃ b off, Hid (A = some ⟨b, off, none⟩) ∧ b < B ∧ w.cell? ⟨b, off + k * 6, none⟩ = some (.int .i64 s.fx) ∧ w.cell? ⟨b, off + k * 6 + 1, none⟩ = some (.int .i64 s.fy) ∧
      w.cell? ⟨b, off + k * 6 + 2, none⟩ = some (.int .i64 s.tx) ∧ w.cell? ⟨b, off + k * 6 + 3, none⟩ = some (.int .i64 s.ty) ∧ w.cell? ⟨b, off + k * 6 + 4, none⟩ = some (.int .i64 s.col) ∧ w.cell? ⟨b, off + k * 6 + 5, none⟩ = some (.int .i64 s.rng) := by
  obtain ⟨b, off, hA, hb, hc⟩ := h.at_ (k := k) (x := s.cells) (by simp [hk])
  exact ⟨b, off, hA, hb, hc 0 _ rfl, hc 1 _ rfl, hc 2 _ rfl, hc 3 _ rfl, hc 4 _ rfl, hc 5 _ rfl⟩

theorem ok_bd {s : Sec} (h : s.ok = true) : (-4000000 ≤ s.fx ∧ s.fx ≤ 4000000) ∧ (-4000000 ≤ s.fy ∧ s.fy ≤ 4000000) ∧ (-4000000 ≤ s.tx ∧ s.tx ≤ 4000000) ∧ (-4000000 ≤ s.ty ∧ s.ty ≤ 4000000) := by
  simp [Sec.ok, secOk, dirOk] at h
  omega

theorem dir_bd {x y : Int} (h : dirOk x y = true) : (-4000000 ≤ x ∧ x ≤ 4000000) ∧ (-4000000 ≤ y ∧ y ≤ 4000000) := by
  simp [dirOk] at h
  omega

theorem good_step {ss : List Sec} {k : Nat} {s : Sec} (h : GoodTo ss k) (hs : ss[k]? = some s) (ho : s.ok = true) (ha : GoodAt ss s k) : GoodTo ss (k + 1) := by
  intro i t hi ht
  by_cases hik : i = k
  · subst hik
    rw [hs] at ht
    injection ht with ht
    subst ht
    exact ⟨ho, ha⟩
  · exact h i t (by omega) ht
theorem goodAt_step {ss : List Sec} {s t : Sec} {j : Nat} (h : GoodAt ss s j) (ht : ss[j]? = some t) (hc : clash s t = false) : GoodAt ss s (j + 1) := by
  intro i u hi hu
  by_cases hij : i = j
  · subst hij
    rw [ht] at hu
    injection hu with hu
    subst hu
    exact hc
  · exact h i u (by omega) hu
theorem lv_no1 {ss : List Sec} {k : Nat} {s : Sec} (hs : ss[k]? = some s) (ho : ¬ s.ok = true) : false = LValid ss := by
  refine LValid_not fun h => ?_
  exact ho (h.1 k s (List.getElem?_eq_some_iff.1 hs).1 hs).1
theorem lv_no2 {ss : List Sec} {k j : Nat} {s t : Sec} (hs : ss[k]? = some s) (ht : ss[j]? = some t) (hj : j < k) (ho : clash s t = true) : false = LValid ss := by
  refine LValid_not fun h => ?_
  have := (h.1 k s (List.getElem?_eq_some_iff.1 hs).1 hs).2 j t hj ht
  rw [ho] at this
  cases this

def SecBox (w : World) (b : Nat) (s : Sec) : Prop :=
  w.cell? ⟨b, 0, none⟩ = some (.int .i64 s.fx) ∧ w.cell? ⟨b, 1, none⟩ = some (.int .i64 s.fy) ∧ w.cell? ⟨b, 2, none⟩ = some (.int .i64 s.tx) ∧
  w.cell? ⟨b, 3, none⟩ = some (.int .i64 s.ty) ∧ w.cell? ⟨b, 4, none⟩ = some (.int .i64 s.col) ∧ w.cell? ⟨b, 5, none⟩ = some (.int .i64 s.rng) ∧ b < w.heap.size

theorem SecBox.grew {w w' : World} {b : Nat} {s : Sec} (h : SecBox w b s) (hg : Grew w w') : SecBox w' b s := by
  obtain ⟨h0, h1, h2, h3, h4, h5, h6⟩ := h
  have hb := hg.below
  exact ⟨(hb.cell h6).trans h0, (hb.cell h6).trans h1, (hb.cell h6).trans h2, (hb.cell h6).trans h3, (hb.cell h6).trans h4, (hb.cell h6).trans h5, Nat.lt_of_lt_of_le h6 hb.size⟩
theorem SecBox.new (w : World) (s : Sec) : SecBox (w.alloc (.cells #[.int .i64 s.fx, .int .i64 s.fy, .int .i64 s.tx, .int .i64 s.ty, .int .i64 s.col, .int .i64 s.rng] 26)) w.heap.size s := by
  refine ⟨?_, ?_, ?_, ?_, ?_, ?_, by simp⟩ <;> rw [World.cell?_alloc_at _ _ _ _ rfl] <;> rfl

theorem clash_of1 {s t : Sec} (h : hasw s.fx s.fy s.tx s.ty t.fx t.fy = true) : clash s t = true := by unfold clash Sec.has; rw [h]; rfl
theorem clash_of2 {s t : Sec} (h : hasw t.fx t.fy t.tx t.ty s.fx s.fy = true) : clash s t = true := by unfold clash Sec.has; rw [h, Bool.or_true]
theorem clash_not {s t : Sec} (h : hasw s.fx s.fy s.tx s.ty t.fx t.fy = false) (k : hasw t.fx t.fy t.tx t.ty s.fx s.fy = false) : clash s t = false := by unfold clash Sec.has; rw [h, k]; rfl

set_option maxHeartbeats 1600000 in
theorem Valid_any (ss : List Sec) (A : Option Addr) (c : Nat) (w : World) (hr : Rd w w.heap.size 6 A (ss.map Sec.cells)) (hl : ss.length ≤ c) (hc : ss.length ≤ 100000000000000) :
    Calls Try.prog 12 #[.slice A ss.length c] w (Ret w (.bool (LValid ss))) := by
  have hm := hmix
  go_enter Try.func12, Try.ntmps12
  go_wp2_with fail
  go_loopw [9] (fun i wr => ∃ k : Nat, k ≤ ss.length ∧ i = .int .i64 k ∧ Grew w wr ∧ GoodTo ss k) (fun i _ => ss.length - (intOf i).toNat)
  case atStart => exact ⟨0, by omega, rfl, Grew.refl _, fun i _ hi => by omega⟩
  case round =>
    obtain ⟨k, hk, rfl, hg, hgood⟩ := hrel
    have HG := hide hgood
    clear hgood
    have HW := hide hg
    clear hg
    by_cases hlt : k < ss.length
    · obtain ⟨s, hs⟩ : ∃ s, ss[k]? = some s := ⟨_, List.getElem?_eq_getElem hlt⟩
      obtain ⟨b, off, hA, hb, h0, h1, h2, h3, h4, h5⟩ := secAt (hr.up HW.out) hs
      have HS := hide hs
      clear hs
      have hix := idx_run (cap := c) Try.underlying22 Try.sizeOf26 hA.out hlt
      by_cases hok : secOk s.fx s.fy s.tx s.ty s.col s.rng = true
      · have hbd := ok_bd hok
        go_wp2_with (go_at_call 32; refine (valid1_any _ _ _ _ _ _ _).mono ?_; rintro e w' ⟨rfl, ⟨_, _⟩, rfl⟩; dsimp only)
        clear h0 h1 h2 h3 h4 h5 hix
        have HO := hide hok
        clear hok
        go_loopw [21] (fun i wi => ∃ j : Nat, j ≤ k ∧ i = .int .i64 j ∧ Grew wr wi ∧ SecBox wi wr.heap.size s ∧ GoodAt ss s j) (fun i _ => k - (intOf i).toNat)
        case atStart => exact ⟨0, by omega, rfl, (by repeat (with_reducible first | exact Grew.refl _ | assumption | refine Grew.alloc ?_ _ | refine Grew.grow ?_ _ | refine Grew.dr ?_ _ | refine Grew.drewN ?_ _ | refine Grew.drew ?_ | refine Grew.trans ?_ (Hid.out (by assumption)))), (SecBox.new _ s).grew (by repeat (with_reducible first | exact Grew.refl _ | assumption | refine Grew.alloc ?_ _ | refine Grew.grow ?_ _ | refine Grew.dr ?_ _ | refine Grew.drewN ?_ _ | refine Grew.drew ?_ | refine Grew.trans ?_ (Hid.out (by assumption)))), fun i _ hi => by omega⟩
        case round =>
          obtain ⟨j, hj, rfl, hg, ⟨h0, h1, h2, h3, h4, h5, h6⟩, hgood⟩ := hrel
          have HG2 := hide hgood
          clear hgood
          have HW2 := hide hg
          clear hg
          by_cases hjt : j < k
          · obtain ⟨t, ht⟩ : ∃ t, ss[j]? = some t := ⟨_, List.getElem?_eq_getElem (by omega)⟩
            obtain ⟨b', off', hA', hb', g0, g1, g2, g3, g4, g5⟩ := secAt ((hr.up HW.out).up HW2.out) ht
            have hix2 := idx_run (cap := c) Try.underlying22 Try.sizeOf26 hA'.out hjt
            have tbd := ok_bd (HG.out j t hjt ht).1
            have HT := hide ht
            clear ht
            cases hc1 : hasw s.fx s.fy s.tx s.ty t.fx t.fy
            · cases hc2 : hasw t.fx t.fy t.tx t.ty s.fx s.fy
              · go_wp2_with (go_at_call 33; refine (has_any _ _ _ _ _ _ _ _ _ (by omega) (by omega) (by omega) (by omega) (by omega) (by omega)).mono ?_; rintro e w' ⟨rfl, ⟨_, _⟩, rfl⟩; dsimp only)
                go_roundw
                case rel => exact ⟨j + 1, by omega, by go_num, HW2.out.trans (by repeat (with_reducible first | exact Grew.refl _ | assumption | refine Grew.alloc ?_ _ | refine Grew.grow ?_ _ | refine Grew.dr ?_ _ | refine Grew.drewN ?_ _ | refine Grew.drew ?_ | refine Grew.trans ?_ (Hid.out (by assumption)))), SecBox.grew ⟨h0, h1, h2, h3, h4, h5, h6⟩ (by repeat (with_reducible first | exact Grew.refl _ | assumption | refine Grew.alloc ?_ _ | refine Grew.grow ?_ _ | refine Grew.dr ?_ _ | refine Grew.drewN ?_ _ | refine Grew.drew ?_ | refine Grew.trans ?_ (Hid.out (by assumption)))), goodAt_step HG2.out HT.out (clash_not hc1 hc2)⟩
                case measure => simp [intOf]; omega
              · go_wp2_with (go_at_call 33; refine (has_any _ _ _ _ _ _ _ _ _ (by omega) (by omega) (by omega) (by omega) (by omega) (by omega)).mono ?_; rintro e w' ⟨rfl, ⟨_, _⟩, rfl⟩; dsimp only)
                go_ret
                exact Ret.mk' (ret_bool (lv_no2 HS.out HT.out hjt (clash_of2 hc2))) ((HW.out.trans HW2.out).trans (by repeat (with_reducible first | exact Grew.refl _ | assumption | refine Grew.alloc ?_ _ | refine Grew.grow ?_ _ | refine Grew.dr ?_ _ | refine Grew.drewN ?_ _ | refine Grew.drew ?_ | refine Grew.trans ?_ (Hid.out (by assumption)))))
            · go_wp2_with (go_at_call 33; refine (has_any _ _ _ _ _ _ _ _ _ (by omega) (by omega) (by omega) (by omega) (by omega) (by omega)).mono ?_; rintro e w' ⟨rfl, ⟨_, _⟩, rfl⟩; dsimp only)
              go_ret
              exact Ret.mk' (ret_bool (lv_no2 HS.out HT.out hjt (clash_of1 hc1))) ((HW.out.trans HW2.out).trans (by repeat (with_reducible first | exact Grew.refl _ | assumption | refine Grew.alloc ?_ _ | refine Grew.grow ?_ _ | refine Grew.dr ?_ _ | refine Grew.drewN ?_ _ | refine Grew.drew ?_ | refine Grew.trans ?_ (Hid.out (by assumption)))))
          · obtain rfl : j = k := by omega
            go_wp2_with fail
            go_roundw
            case rel => exact ⟨j + 1, by omega, by go_num, HW.out.trans HW2.out, good_step HG.out HS.out HO.out HG2.out⟩
            case measure => simp [intOf]; omega
      · go_wp2_with (go_at_call 32; refine (valid1_any _ _ _ _ _ _ _).mono ?_; rintro e w' ⟨rfl, ⟨_, _⟩, rfl⟩; dsimp only)
        go_ret
        exact Ret.mk' (ret_bool (lv_no1 HS.out hok)) (HW.out.trans (by repeat (with_reducible first | exact Grew.refl _ | assumption | refine Grew.alloc ?_ _ | refine Grew.grow ?_ _ | refine Grew.dr ?_ _ | refine Grew.drewN ?_ _ | refine Grew.drew ?_ | refine Grew.trans ?_ (Hid.out (by assumption)))))
    · go_wp2_with fail
      go_ret
      obtain rfl : k = ss.length := by omega
      refine Ret.mk' (ret_bool ?_) HW.out
      rw [Bool.eq_iff_iff, LValid_iff]
      simp
      exact ⟨fun h => ⟨HG.out, by omega⟩, fun h => by have := h.2; omega⟩

set_option maxHeartbeats 800000 in
theorem In_any (s : Sec) (x y : Int) (w : World) :
    Calls Try.prog 14 #[s.val, pt x y] w (Ret w (.tuple #[.bool (s.ok && dirOk x y && s.has x y), .int .i64 (if (s.ok && dirOk x y) = true then 0 else 1)])) := by
  have hm := hmix
  unfold Sec.val
  go_enter Try.func14, Try.ntmps14
  cases h1 : s.ok
  · have h1' : secOk s.fx s.fy s.tx s.ty s.col s.rng = false := h1
    go_wp2_with (go_at_call 32; refine (valid1_any _ _ _ _ _ _ _).mono ?_; rintro e w' ⟨rfl, ⟨_, _⟩, rfl⟩; dsimp only)
    go_ret2
    exact Ret.mk' (by simp) (by repeat (with_reducible first | exact Grew.refl _ | assumption | refine Grew.alloc ?_ _ | refine Grew.grow ?_ _ | refine Grew.dr ?_ _ | refine Grew.drewN ?_ _ | refine Grew.drew ?_ | refine Grew.trans ?_ (Hid.out (by assumption))))
  · have h1' : secOk s.fx s.fy s.tx s.ty s.col s.rng = true := h1
    have hbd := ok_bd h1
    cases h2 : dirOk x y
    · go_wp2_with (first | (go_at_call 32; refine (valid1_any _ _ _ _ _ _ _).mono ?_; rintro e w' ⟨rfl, ⟨_, _⟩, rfl⟩; dsimp only) | (go_at_call 36; refine (ok_any _ _ _).mono ?_; rintro e w' ⟨rfl, ⟨_, _⟩, rfl⟩; dsimp only))
      go_ret2
      exact Ret.mk' (by simp) (by repeat (with_reducible first | exact Grew.refl _ | assumption | refine Grew.alloc ?_ _ | refine Grew.grow ?_ _ | refine Grew.dr ?_ _ | refine Grew.drewN ?_ _ | refine Grew.drew ?_ | refine Grew.trans ?_ (Hid.out (by assumption))))
    · have hxy := dir_bd h2
      go_wp2_with (first | (go_at_call 32; refine (valid1_any _ _ _ _ _ _ _).mono ?_; rintro e w' ⟨rfl, ⟨_, _⟩, rfl⟩; dsimp only) | (go_at_call 36; refine (ok_any _ _ _).mono ?_; rintro e w' ⟨rfl, ⟨_, _⟩, rfl⟩; dsimp only) | (go_at_call 33; refine (has_any _ _ _ _ _ _ _ _ _ (by omega) (by omega) (by omega) (by omega) (by omega) (by omega)).mono ?_; rintro e w' ⟨rfl, ⟨_, _⟩, rfl⟩; dsimp only))
      go_ret2
      exact Ret.mk' (by simp [Sec.has]) (by repeat (with_reducible first | exact Grew.refl _ | assumption | refine Grew.alloc ?_ _ | refine Grew.grow ?_ _ | refine Grew.dr ?_ _ | refine Grew.drewN ?_ _ | refine Grew.drew ?_ | refine Grew.trans ?_ (Hid.out (by assumption))))

set_option maxHeartbeats 400000 in
theorem shown1_any (s : Sec) (x y : Int) (B : Nat) (w : World) (hs : s.ok = true) (hx : -4000000 ≤ x ∧ x ≤ 4000000) (hy : -4000000 ≤ y ∧ y ≤ 4000000) (c0 : w.cell? ⟨B, 0, none⟩ = some (.int .i64 x)) (c1 : w.cell? ⟨B, 1, none⟩ = some (.int .i64 y)) (hB : B < w.heap.size) :
    Calls Try.prog 51 #[s.val, .pointer (some ⟨B, 0, none⟩)] w (Ret w (.bool (s.has x y))) := by
  have hm := hmix
  have hbd := ok_bd hs
  unfold Sec.val
  go_enter Try.func51, Try.ntmps51
  go_wp2_with (go_at_call 33; refine (has_any _ _ _ _ _ _ _ _ _ (by omega) (by omega) (by omega) (by omega) (by omega) (by omega)).mono ?_; rintro e w' ⟨rfl, ⟨_, _⟩, rfl⟩; dsimp only)
  go_ret
  exact Ret.mk' rfl (by repeat (with_reducible first | exact Grew.refl _ | assumption | refine Grew.alloc ?_ _ | refine Grew.grow ?_ _ | refine Grew.dr ?_ _ | refine Grew.drewN ?_ _ | refine Grew.drew ?_ | refine Grew.trans ?_ (Hid.out (by assumption))))

/-- The index of the first element with p; -1. -/
def idxOf {α : Type} (p : α → Bool) : List α → Int
  | [] => -1
  | a :: l => if p a then 0 else if idxOf p l = -1 then -1 else idxOf p l + 1
theorem idxOf_at {α : Type} {p : α → Bool} : ∀ {l : List α} {k : Nat} {a : α}, l[k]? = some a → p a = true → (∀ (j : Nat) (b : α), j < k → l[j]? = some b → p b = false) → idxOf p l = k
  | [], k, a, h, _, _ => by simp at h
  | b :: l, 0, a, h, hp, _ => by
    simp at h
    subst h
    simp [idxOf, hp]
  | b :: l, k + 1, a, h, hp, hn => by
    have h0 : p b = false := hn 0 b (by omega) rfl
    have ih := idxOf_at (l := l) (k := k) (by simpa using h) hp fun j c hj hc => hn (j + 1) c (by omega) (by simpa using hc)
    unfold idxOf
    rw [h0, ih]
    have : ¬ ((k : Int) = -1) := by omega
    simp [this]
theorem idxOf_none {α : Type} {p : α → Bool} : ∀ {l : List α}, (∀ (j : Nat) (b : α), l[j]? = some b → p b = false) → idxOf p l = -1
  | [], _ => rfl
  | b :: l, hn => by
    have h0 : p b = false := hn 0 b rfl
    have ih := idxOf_none (l := l) (p := p) fun (j : Nat) c hc => hn (j + 1) c (by simpa using hc)
    unfold idxOf
    rw [h0, ih]
    simp

def NoneTo (ss : List Sec) (x y : Int) (k : Nat) : Prop := ∀ j b, j < k → ss[j]? = some b → b.has x y = false
theorem none_step {ss : List Sec} {x y : Int} {k : Nat} {s : Sec} (h : NoneTo ss x y k) (hs : ss[k]? = some s) (hn : s.has x y = false) : NoneTo ss x y (k + 1) := by
  intro j b hj hb
  by_cases hjk : j = k
  · subst hjk
    rw [hs] at hb
    injection hb with hb
    subst hb
    exact hn
  · exact h j b (by omega) hb

set_option maxHeartbeats 800000 in
theorem IndexFunc_any (ss : List Sec) (A : Option Addr) (c : Nat) (x y : Int) (B : Nat) (w : World) (hr : Rd w w.heap.size 6 A (ss.map Sec.cells)) (hl : ss.length ≤ c) (hc : ss.length ≤ 100000000000000) (hok : ∀ s ∈ ss, s.ok = true)
    (hx : -4000000 ≤ x ∧ x ≤ 4000000) (hy : -4000000 ≤ y ∧ y ≤ 4000000) (c0 : w.cell? ⟨B, 0, none⟩ = some (.int .i64 x)) (c1 : w.cell? ⟨B, 1, none⟩ = some (.int .i64 y)) (hB : B < w.heap.size) :
    Calls Try.prog 50 #[.slice A ss.length c, .func (.func 51) #[] #[.pointer (some ⟨B, 0, none⟩)]] w (Ret w (.int .i64 (idxOf (fun s : Sec => s.has x y) ss))) := by
  have hm := hmix
  go_enter Try.func50, Try.ntmps50
  go_wp2_with fail
  go_loopw [8] (fun i wr => ∃ k : Nat, k ≤ ss.length ∧ i = .int .i64 k ∧ Grew w wr ∧ NoneTo ss x y k) (fun i _ => ss.length - (intOf i).toNat)
  case atStart => exact ⟨0, by omega, rfl, Grew.refl _, fun i _ hi => by omega⟩
  case round =>
    obtain ⟨k, hk, rfl, hg, hgood⟩ := hrel
    have HG := hide hgood
    clear hgood
    have HW := hide hg
    clear hg
    by_cases hlt : k < ss.length
    · obtain ⟨s, hs⟩ : ∃ s, ss[k]? = some s := ⟨_, List.getElem?_eq_getElem hlt⟩
      obtain ⟨b, off, hA, hb, h0, h1, h2, h3, h4, h5⟩ := secAt (hr.up HW.out) hs
      have hsok := hok s (List.mem_of_getElem? hs)
      have HS := hide hs
      clear hs
      have hix := idx_run (cap := c) Try.underlying22 Try.sizeOf26 hA.out hlt
      have e0 := (old_cell HW.out _ _ hB).trans c0
      have e1 := (old_cell HW.out _ _ hB).trans c1
      have hB' := Nat.lt_of_lt_of_le hB HW.out.below.size
      cases hh : s.has x y
      · go_wp2_with (go_at_call 51; refine (shown1_any s x y B _ hsok hx hy (by assumption) (by assumption) (by assumption)).mono ?_; rintro e w' ⟨rfl, ⟨_, _⟩, rfl⟩; dsimp only; rw [hh])
        go_roundw
        case rel => exact ⟨k + 1, by omega, by go_num, HW.out.trans (by repeat (with_reducible first | exact Grew.refl _ | assumption | refine Grew.alloc ?_ _ | refine Grew.grow ?_ _ | refine Grew.dr ?_ _ | refine Grew.drewN ?_ _ | refine Grew.drew ?_ | refine Grew.trans ?_ (Hid.out (by assumption)))), none_step HG.out HS.out hh⟩
        case measure => simp [intOf]; omega
      · go_wp2_with (go_at_call 51; refine (shown1_any s x y B _ hsok hx hy (by assumption) (by assumption) (by assumption)).mono ?_; rintro e w' ⟨rfl, ⟨_, _⟩, rfl⟩; dsimp only; rw [hh])
        go_ret
        exact Ret.mk' (ret_int (idxOf_at HS.out hh HG.out).symm) (HW.out.trans (by repeat (with_reducible first | exact Grew.refl _ | assumption | refine Grew.alloc ?_ _ | refine Grew.grow ?_ _ | refine Grew.dr ?_ _ | refine Grew.drewN ?_ _ | refine Grew.drew ?_ | refine Grew.trans ?_ (Hid.out (by assumption)))))
    · go_wp2_with fail
      go_ret
      obtain rfl : k = ss.length := by omega
      exact Ret.mk' (ret_int (idxOf_none fun j b hj => HG.out j b (List.getElem?_eq_some_iff.1 hj).1 hj).symm) HW.out
end Go.Proofs.Ytgcgaplhaglejaa
