/- More contracts of package sector: what a light shows in a direction; Color; Seen. -/
import Derived.Test.YtgcgaplhaglejaaSecB
namespace Go.Proofs.Ytgcgaplhaglejaa
set_option linter.unusedVariables false
set_option linter.unusedSimpArgs false
open Go.RowKit Go.Sort
attribute [local go_sem] Steady steadyUpon
attribute [local go_sem ↓] hs_dr lt_add_r lt_add_r2 lt_add_r3 lt_add_r4 lt_add_r5 lt_add_r6
attribute [local go_sem] cell?_gd frozen?_gd setCell_gd size_grow tape_grow cell?_grow' frozen?_grow' setCell_grow' grow_grow grow_dr grow_drew dr_dr dr_drew drew_dr dr_alloc dr_setCell dr_cell dr_frozen dr_tape dr_drawn

theorem idxOf_cases {α : Type} (p : α → Bool) : ∀ (l : List α), (idxOf p l = -1 ∧ l.find? p = none) ∨ ∃ (k : Nat) (a : α), l[k]? = some a ∧ idxOf p l = k ∧ l.find? p = some a
  | [] => .inl ⟨rfl, rfl⟩
  | b :: l => by
    cases hp : p b
    · rcases idxOf_cases p l with ⟨h1, h2⟩ | ⟨k, a, h1, h2, h3⟩
      · exact .inl ⟨by simp [idxOf, hp, h1], by simp [hp, h2]⟩
      · refine .inr ⟨k + 1, a, by simpa using h1, ?_, by simp [hp, h3]⟩
        have : ¬ ((k : Int) = -1) := by omega
        simp [idxOf, hp, h2, this]
    · exact .inr ⟨0, b, rfl, by simp [idxOf, hp], by simp [hp]⟩

def showAt (ss : List Sec) (x y : Int) : Int × Int := match ss.find? (fun s => s.has x y) with | some s => (s.col, s.rng) | none => (0, 0)

set_option maxHeartbeats 800000 in
theorem shown_any (ss : List Sec) (A : Option Addr) (c : Nat) (x y : Int) (w : World) (hr : Rd w w.heap.size 6 A (ss.map Sec.cells)) (hl : ss.length ≤ c) (hc : ss.length ≤ 100000000000000) (hok : ∀ s ∈ ss, s.ok = true)
    (hx : -4000000 ≤ x ∧ x ≤ 4000000) (hy : -4000000 ≤ y ∧ y ≤ 4000000) :
    Calls Try.prog 38 #[.slice A ss.length c, pt x y] w (Ret w (pt (showAt ss x y).1 (showAt ss x y).2)) := by
  have hm := hmix
  rcases idxOf_cases (fun s : Sec => s.has x y) ss with ⟨h1, h2⟩ | ⟨k, s, h1, h2, h3⟩
  · have HF := hide h2
    clear h2
    go_enter Try.func38, Try.ntmps38
    go_wp2_with (go_at_call 50; refine (IndexFunc_any ss A c x y w.heap.size _ (hr.up (by repeat (with_reducible first | exact Grew.refl _ | assumption | refine Grew.alloc ?_ _ | refine Grew.grow ?_ _ | refine Grew.dr ?_ _ | refine Grew.drewN ?_ _ | refine Grew.drew ?_ | refine Grew.trans ?_ (Hid.out (by assumption))))) hl hc hok hx hy (by go_simp) (by go_simp) (by first | omega | (simp; done) | (simp; omega))).mono ?_; rintro e w' ⟨rfl, ⟨_, _⟩, rfl⟩; dsimp only; rw [h1])
    refine bodyPost_ret (v := pt 0 0) (by simp [results, Try.results38, go_sem]) rfl ?_
    exact Ret.mk' (by simp [showAt, HF.out]) (by repeat (with_reducible first | exact Grew.refl _ | assumption | refine Grew.alloc ?_ _ | refine Grew.grow ?_ _ | refine Grew.dr ?_ _ | refine Grew.drewN ?_ _ | refine Grew.drew ?_ | refine Grew.trans ?_ (Hid.out (by assumption))))
  · have HF := hide h3
    clear h3
    have hkl : k < ss.length := (List.getElem?_eq_some_iff.1 h1).1
    have HS := hide h1
    clear h1
    obtain ⟨b, off, hA, hb, c0, c1, c2, c3, c4, c5⟩ := secAt hr HS.out
    have hix := idx_run (cap := c) Try.underlying22 Try.sizeOf26 hA.out hkl
    go_enter Try.func38, Try.ntmps38
    go_wp2_with (go_at_call 50; refine (IndexFunc_any ss A c x y w.heap.size _ (hr.up (by repeat (with_reducible first | exact Grew.refl _ | assumption | refine Grew.alloc ?_ _ | refine Grew.grow ?_ _ | refine Grew.dr ?_ _ | refine Grew.drewN ?_ _ | refine Grew.drew ?_ | refine Grew.trans ?_ (Hid.out (by assumption))))) hl hc hok hx hy (by go_simp) (by go_simp) (by first | omega | (simp; done) | (simp; omega))).mono ?_; rintro e w' ⟨rfl, ⟨_, _⟩, rfl⟩; dsimp only; rw [h2])
    refine wp_region_qas 11 [] [] hm (by kernel_rfl) (by simp only [List.take, List.filter, isQ]; rfl) (by simp only [List.drop]; rfl) ZOk.nil (by simp) ?_
    repeat (refine wpSteady_step (fun K hK => ?_); go_simp; first | (refine hK _ ?_; clear hK K) | (apply Exists.intro; refine ⟨fun _ => ?_, hK _ ?_⟩; (fail); clear hK K))
    refine wpSteady_nil ?_
    refine ⟨StOk.nil, LyOk.nil, ?_⟩
    rintro psq qsq Wq HWq HFq HBq
    obtain rfl : qsq = [] := HBq
    obtain rfl : psq = [] := HFq
    obtain ⟨⟨nq, osq⟩, rfl⟩ := HWq
    simp only [putAll, putB, Act.put, List.setIfInBounds_toArray, List.set_cons_succ, List.set_cons_zero]
    try dsimp only
    go_wp2
    refine bodyPost_ret (v := pt s.col s.rng) (by simp [results, Try.results38, go_sem]) rfl ?_
    exact Ret.mk' (by simp [showAt, HF.out]) (by repeat (with_reducible first | exact Grew.refl _ | assumption | refine Grew.alloc ?_ _ | refine Grew.grow ?_ _ | refine Grew.dr ?_ _ | refine Grew.drewN ?_ _ | refine Grew.drew ?_ | refine Grew.trans ?_ (Hid.out (by assumption))))

theorem LV_ok {ss : List Sec} (h : LValid ss = true) : (∀ s ∈ ss, s.ok = true) ∧ ss.length ≤ 12 := by
  have h := LValid_iff.1 h
  refine ⟨fun s hs => ?_, h.2⟩
  obtain ⟨k, hk, rfl⟩ := List.getElem_of_mem hs
  exact (h.1 k _ hk (List.getElem?_eq_getElem hk)).1

def colorOf (ss : List Sec) (x y : Int) : Int × Int × Int := if (LValid ss && dirOk x y) = true then ((showAt ss x y).1, (showAt ss x y).2, 0) else (0, 0, 1)

set_option maxHeartbeats 800000 in
theorem Color_any (ss : List Sec) (A : Option Addr) (c : Nat) (x y : Int) (w : World) (hr : Rd w w.heap.size 6 A (ss.map Sec.cells)) (hl : ss.length ≤ c) (hc : ss.length ≤ 100000000000000) :
    Calls Try.prog 16 #[.slice A ss.length c, pt x y] w (Ret w (.tuple #[.int .i64 (colorOf ss x y).1, .int .i64 (colorOf ss x y).2.1, .int .i64 (colorOf ss x y).2.2])) := by
  have hm := hmix
  cases h1 : LValid ss
  · go_enter Try.func16, Try.ntmps16
    go_wp2_with (go_at_call 12; refine (Valid_any ss A c _ (hr.up (by repeat (with_reducible first | exact Grew.refl _ | assumption | refine Grew.alloc ?_ _ | refine Grew.grow ?_ _ | refine Grew.dr ?_ _ | refine Grew.drewN ?_ _ | refine Grew.drew ?_ | refine Grew.trans ?_ (Hid.out (by assumption))))) hl hc).mono ?_; rintro e w' ⟨rfl, ⟨_, _⟩, rfl⟩; dsimp only; rw [h1])
    go_ret3
    exact Ret.mk' (by simp [colorOf, h1]) (by repeat (with_reducible first | exact Grew.refl _ | assumption | refine Grew.alloc ?_ _ | refine Grew.grow ?_ _ | refine Grew.dr ?_ _ | refine Grew.drewN ?_ _ | refine Grew.drew ?_ | refine Grew.trans ?_ (Hid.out (by assumption))))
  · obtain ⟨hok, h12⟩ := LV_ok h1
    have HO := hide hok
    clear hok
    cases h2 : dirOk x y
    · go_enter Try.func16, Try.ntmps16
      go_wp2_with (first | (go_at_call 12; refine (Valid_any ss A c _ (hr.up (by repeat (with_reducible first | exact Grew.refl _ | assumption | refine Grew.alloc ?_ _ | refine Grew.grow ?_ _ | refine Grew.dr ?_ _ | refine Grew.drewN ?_ _ | refine Grew.drew ?_ | refine Grew.trans ?_ (Hid.out (by assumption))))) hl hc).mono ?_; rintro e w' ⟨rfl, ⟨_, _⟩, rfl⟩; dsimp only; rw [h1]) | (go_at_call 36; refine (ok_any _ _ _).mono ?_; rintro e w' ⟨rfl, ⟨_, _⟩, rfl⟩; dsimp only; rw [h2]))
      go_ret3
      exact Ret.mk' (by simp [colorOf, h1, h2]) (by repeat (with_reducible first | exact Grew.refl _ | assumption | refine Grew.alloc ?_ _ | refine Grew.grow ?_ _ | refine Grew.dr ?_ _ | refine Grew.drewN ?_ _ | refine Grew.drew ?_ | refine Grew.trans ?_ (Hid.out (by assumption))))
    · have hxy := dir_bd h2
      go_enter Try.func16, Try.ntmps16
      go_wp2_with (first | (go_at_call 12; refine (Valid_any ss A c _ (hr.up (by repeat (with_reducible first | exact Grew.refl _ | assumption | refine Grew.alloc ?_ _ | refine Grew.grow ?_ _ | refine Grew.dr ?_ _ | refine Grew.drewN ?_ _ | refine Grew.drew ?_ | refine Grew.trans ?_ (Hid.out (by assumption))))) hl hc).mono ?_; rintro e w' ⟨rfl, ⟨_, _⟩, rfl⟩; dsimp only; rw [h1]) | (go_at_call 36; refine (ok_any _ _ _).mono ?_; rintro e w' ⟨rfl, ⟨_, _⟩, rfl⟩; dsimp only; rw [h2]) | (go_at_call 38; refine (shown_any ss A c x y _ (hr.up (by repeat (with_reducible first | exact Grew.refl _ | assumption | refine Grew.alloc ?_ _ | refine Grew.grow ?_ _ | refine Grew.dr ?_ _ | refine Grew.drewN ?_ _ | refine Grew.drew ?_ | refine Grew.trans ?_ (Hid.out (by assumption))))) hl hc HO.out hxy.1 hxy.2).mono ?_; rintro e w' ⟨rfl, ⟨_, _⟩, rfl⟩; dsimp only))
      refine wp_region_qas 7 [] [] hm (by kernel_rfl) (by simp only [List.take, List.filter, isQ]; rfl) (by simp only [List.drop]; rfl) ZOk.nil (by simp) ?_
      repeat (refine wpSteady_step (fun K hK => ?_); go_simp; first | (refine hK _ ?_; clear hK K) | (apply Exists.intro; refine ⟨fun _ => ?_, hK _ ?_⟩; (fail); clear hK K))
      refine wpSteady_nil ?_
      refine ⟨StOk.nil, LyOk.nil, ?_⟩
      rintro psq qsq Wq HWq HFq HBq
      obtain rfl : qsq = [] := HBq
      obtain rfl : psq = [] := HFq
      obtain ⟨⟨nq, osq⟩, rfl⟩ := HWq
      simp only [putAll, putB, Act.put, List.setIfInBounds_toArray, List.set_cons_succ, List.set_cons_zero]
      try dsimp only
      go_wp2
      go_ret3
      exact Ret.mk' (by simp [colorOf, h1, h2]) (by repeat (with_reducible first | exact Grew.refl _ | assumption | refine Grew.alloc ?_ _ | refine Grew.grow ?_ _ | refine Grew.dr ?_ _ | refine Grew.drewN ?_ _ | refine Grew.drew ?_ | refine Grew.trans ?_ (Hid.out (by assumption))))

def plOk (x y : Int) : Bool := decide ((-1000000 ≤ x ∧ x ≤ 1000000) ∧ (-1000000 ≤ y ∧ y ≤ 1000000))
set_option maxHeartbeats 400000 in
theorem planeValid_any (a b : Int) (w : World) :
    Calls Try.prog 46 #[pt a b] w (Ret w (.bool (plOk a b))) := by
  go_enter Try.func46, Try.ntmps46
  go_wp2
  all_goals go_ret
  all_goals refine Ret.mk' (ret_bool ?_) (by repeat (with_reducible first | exact Grew.refl _ | assumption | refine Grew.alloc ?_ _ | refine Grew.grow ?_ _ | refine Grew.dr ?_ _ | refine Grew.drewN ?_ _ | refine Grew.drew ?_ | refine Grew.trans ?_ (Hid.out (by assumption))))
  all_goals (rw [Bool.eq_iff_iff]; simp [plOk]; omega)
theorem pl_bd {x y : Int} (h : plOk x y = true) : (-1000000 ≤ x ∧ x ≤ 1000000) ∧ (-1000000 ≤ y ∧ y ≤ 1000000) := by
  simpa [plOk] using h

def seenOf (ss : List Sec) (ax ay px py : Int) : Int × Int :=
  if (LValid ss && plOk ax ay && plOk px py) = true then
    (if ax = px ∧ ay = py then (0, 4) else
     if (showAt ss (px - ax) (py - ay)).2 * (showAt ss (px - ax) (py - ay)).2 < (px - ax) * (px - ax) + (py - ay) * (py - ay) then (0, 0) else ((showAt ss (px - ax) (py - ay)).1, 0))
  else (0, 1)

theorem showAt_bd {ss : List Sec} (h : ∀ s ∈ ss, s.ok = true) (x y : Int) : 0 ≤ (showAt ss x y).2 ∧ (showAt ss x y).2 ≤ 3000000 := by
  unfold showAt
  cases hf : ss.find? fun s => s.has x y with
  | none => simp
  | some s =>
    have := h s (List.mem_of_find?_eq_some hf)
    simp [Sec.ok, secOk] at this
    simp
    omega

set_option maxHeartbeats 1600000 in
theorem Seen_any (ss : List Sec) (A : Option Addr) (c : Nat) (ax ay px py : Int) (w : World) (hr : Rd w w.heap.size 6 A (ss.map Sec.cells)) (hl : ss.length ≤ c) (hc : ss.length ≤ 100000000000000) :
    Calls Try.prog 25 #[.slice A ss.length c, pt ax ay, pt px py] w (Ret w (.tuple #[.int .i64 (seenOf ss ax ay px py).1, .int .i64 (seenOf ss ax ay px py).2])) := by
  have hm := hmix
  cases h1 : LValid ss
  · go_enter Try.func25, Try.ntmps25
    go_wp2_with (go_at_call 12; refine (Valid_any ss A c _ (hr.up (by repeat (with_reducible first | exact Grew.refl _ | assumption | refine Grew.alloc ?_ _ | refine Grew.grow ?_ _ | refine Grew.dr ?_ _ | refine Grew.drewN ?_ _ | refine Grew.drew ?_ | refine Grew.trans ?_ (Hid.out (by assumption))))) hl hc).mono ?_; rintro e w' ⟨rfl, ⟨_, _⟩, rfl⟩; dsimp only; rw [h1])
    go_ret2
    exact Ret.mk' (by simp [seenOf, h1]) (by repeat (with_reducible first | exact Grew.refl _ | assumption | refine Grew.alloc ?_ _ | refine Grew.grow ?_ _ | refine Grew.dr ?_ _ | refine Grew.drewN ?_ _ | refine Grew.drew ?_ | refine Grew.trans ?_ (Hid.out (by assumption))))
  · obtain ⟨hok, h12⟩ := LV_ok h1
    have HO := hide hok
    clear hok
    cases h2 : plOk ax ay
    · go_enter Try.func25, Try.ntmps25
      go_wp2_with (first | (go_at_call 12; refine (Valid_any ss A c _ (hr.up (by repeat (with_reducible first | exact Grew.refl _ | assumption | refine Grew.alloc ?_ _ | refine Grew.grow ?_ _ | refine Grew.dr ?_ _ | refine Grew.drewN ?_ _ | refine Grew.drew ?_ | refine Grew.trans ?_ (Hid.out (by assumption))))) hl hc).mono ?_; rintro e w' ⟨rfl, ⟨_, _⟩, rfl⟩; dsimp only; rw [h1]) | (go_at_call 46; refine (planeValid_any ax ay _).mono ?_; rintro e w' ⟨rfl, ⟨_, _⟩, rfl⟩; dsimp only; rw [h2]))
      go_ret2
      exact Ret.mk' (by simp [seenOf, h1, h2]) (by repeat (with_reducible first | exact Grew.refl _ | assumption | refine Grew.alloc ?_ _ | refine Grew.grow ?_ _ | refine Grew.dr ?_ _ | refine Grew.drewN ?_ _ | refine Grew.drew ?_ | refine Grew.trans ?_ (Hid.out (by assumption))))
    · cases h3 : plOk px py
      · go_enter Try.func25, Try.ntmps25
        go_wp2_with (first | (go_at_call 12; refine (Valid_any ss A c _ (hr.up (by repeat (with_reducible first | exact Grew.refl _ | assumption | refine Grew.alloc ?_ _ | refine Grew.grow ?_ _ | refine Grew.dr ?_ _ | refine Grew.drewN ?_ _ | refine Grew.drew ?_ | refine Grew.trans ?_ (Hid.out (by assumption))))) hl hc).mono ?_; rintro e w' ⟨rfl, ⟨_, _⟩, rfl⟩; dsimp only; rw [h1]) | (go_at_call 46; refine (planeValid_any _ _ _).mono ?_; rintro e w' ⟨rfl, ⟨_, _⟩, rfl⟩; dsimp only; first | rw [h2] | rw [h3]))
        go_ret2
        exact Ret.mk' (by simp [seenOf, h1, h2, h3]) (by repeat (with_reducible first | exact Grew.refl _ | assumption | refine Grew.alloc ?_ _ | refine Grew.grow ?_ _ | refine Grew.dr ?_ _ | refine Grew.drewN ?_ _ | refine Grew.drew ?_ | refine Grew.trans ?_ (Hid.out (by assumption))))
      · have ha := pl_bd h2
        have hp := pl_bd h3
        by_cases he : ax = px ∧ ay = py
        · obtain ⟨rfl, rfl⟩ := he
          go_enter Try.func25, Try.ntmps25
          go_wp2_with (first | (go_at_call 12; refine (Valid_any ss A c _ (hr.up (by repeat (with_reducible first | exact Grew.refl _ | assumption | refine Grew.alloc ?_ _ | refine Grew.grow ?_ _ | refine Grew.dr ?_ _ | refine Grew.drewN ?_ _ | refine Grew.drew ?_ | refine Grew.trans ?_ (Hid.out (by assumption))))) hl hc).mono ?_; rintro e w' ⟨rfl, ⟨_, _⟩, rfl⟩; dsimp only; rw [h1]) | (go_at_call 46; refine (planeValid_any _ _ _).mono ?_; rintro e w' ⟨rfl, ⟨_, _⟩, rfl⟩; dsimp only; rw [h2]))
          go_ret2
          exact Ret.mk' (by simp [seenOf, h1, h2]) (by repeat (with_reducible first | exact Grew.refl _ | assumption | refine Grew.alloc ?_ _ | refine Grew.grow ?_ _ | refine Grew.dr ?_ _ | refine Grew.drewN ?_ _ | refine Grew.drew ?_ | refine Grew.trans ?_ (Hid.out (by assumption))))
        · by_cases hx : ax = px
          · subst hx
            have hay : ¬ ay = py := by omega
            have hbd := showAt_bd HO.out 0 (py - ay)
            have q2 := mul_bd (a := py - ay) (b := py - ay) 2000000 2000000 (by omega) (by omega)
            have q3 := mul_bd (a := (showAt ss 0 (py - ay)).2) (b := (showAt ss 0 (py - ay)).2) 3000000 3000000 (by omega) (by omega)
            simp only [Nat.reduceMul, Int.reduceNeg, Int.cast_ofNat_Int] at q2 q3
            have hfin : seenOf ss ax ay ax py = if (showAt ss 0 (py - ay)).2 * (showAt ss 0 (py - ay)).2 < (py - ay) * (py - ay) then (0, 0) else ((showAt ss 0 (py - ay)).1, 0) := by
              simp [seenOf, h1, h2, h3, hay]
            have HFin := hide hfin
            clear hfin he
            go_enter Try.func25, Try.ntmps25
            go_wp2_with (first | (go_at_call 12; refine (Valid_any ss A c _ (hr.up (by repeat (with_reducible first | exact Grew.refl _ | assumption | refine Grew.alloc ?_ _ | refine Grew.grow ?_ _ | refine Grew.dr ?_ _ | refine Grew.drewN ?_ _ | refine Grew.drew ?_ | refine Grew.trans ?_ (Hid.out (by assumption))))) hl hc).mono ?_; rintro e w' ⟨rfl, ⟨_, _⟩, rfl⟩; dsimp only; rw [h1]) | (go_at_call 46; refine (planeValid_any _ _ _).mono ?_; rintro e w' ⟨rfl, ⟨_, _⟩, rfl⟩; dsimp only; first | rw [h2] | rw [h3]) | (go_at_call 38; refine (shown_any ss A c _ _ _ (hr.up (by repeat (with_reducible first | exact Grew.refl _ | assumption | refine Grew.alloc ?_ _ | refine Grew.grow ?_ _ | refine Grew.dr ?_ _ | refine Grew.drewN ?_ _ | refine Grew.drew ?_ | refine Grew.trans ?_ (Hid.out (by assumption))))) hl hc HO.out (by omega) (by omega)).mono ?_; rintro e w' ⟨rfl, ⟨_, _⟩, rfl⟩; dsimp only))
            · go_ret2
              exact Ret.mk' (by rw [HFin.out, if_pos (by omega)]; rfl) (by repeat (with_reducible first | exact Grew.refl _ | assumption | refine Grew.alloc ?_ _ | refine Grew.grow ?_ _ | refine Grew.dr ?_ _ | refine Grew.drewN ?_ _ | refine Grew.drew ?_ | refine Grew.trans ?_ (Hid.out (by assumption))))
            · go_ret2
              exact Ret.mk' (by rw [HFin.out, if_neg (by omega)]; rfl) (by repeat (with_reducible first | exact Grew.refl _ | assumption | refine Grew.alloc ?_ _ | refine Grew.grow ?_ _ | refine Grew.dr ?_ _ | refine Grew.drewN ?_ _ | refine Grew.drew ?_ | refine Grew.trans ?_ (Hid.out (by assumption))))
          · have hbd := showAt_bd HO.out (px - ax) (py - ay)
            have q1 := mul_bd (a := px - ax) (b := px - ax) 2000000 2000000 (by omega) (by omega)
            have q2 := mul_bd (a := py - ay) (b := py - ay) 2000000 2000000 (by omega) (by omega)
            have q3 := mul_bd (a := (showAt ss (px - ax) (py - ay)).2) (b := (showAt ss (px - ax) (py - ay)).2) 3000000 3000000 (by omega) (by omega)
            simp only [Nat.reduceMul, Int.reduceNeg, Int.cast_ofNat_Int] at q1 q2 q3
            have hfin : seenOf ss ax ay px py = if (showAt ss (px - ax) (py - ay)).2 * (showAt ss (px - ax) (py - ay)).2 < (px - ax) * (px - ax) + (py - ay) * (py - ay) then (0, 0) else ((showAt ss (px - ax) (py - ay)).1, 0) := by
              simp [seenOf, h1, h2, h3, hx]
            have HFin := hide hfin
            clear hfin he
            go_enter Try.func25, Try.ntmps25
            go_wp2_with (first | (go_at_call 12; refine (Valid_any ss A c _ (hr.up (by repeat (with_reducible first | exact Grew.refl _ | assumption | refine Grew.alloc ?_ _ | refine Grew.grow ?_ _ | refine Grew.dr ?_ _ | refine Grew.drewN ?_ _ | refine Grew.drew ?_ | refine Grew.trans ?_ (Hid.out (by assumption))))) hl hc).mono ?_; rintro e w' ⟨rfl, ⟨_, _⟩, rfl⟩; dsimp only; rw [h1]) | (go_at_call 46; refine (planeValid_any _ _ _).mono ?_; rintro e w' ⟨rfl, ⟨_, _⟩, rfl⟩; dsimp only; first | rw [h2] | rw [h3]) | (go_at_call 38; refine (shown_any ss A c _ _ _ (hr.up (by repeat (with_reducible first | exact Grew.refl _ | assumption | refine Grew.alloc ?_ _ | refine Grew.grow ?_ _ | refine Grew.dr ?_ _ | refine Grew.drewN ?_ _ | refine Grew.drew ?_ | refine Grew.trans ?_ (Hid.out (by assumption))))) hl hc HO.out (by omega) (by omega)).mono ?_; rintro e w' ⟨rfl, ⟨_, _⟩, rfl⟩; dsimp only))
            · go_ret2
              exact Ret.mk' (by rw [HFin.out, if_pos (by omega)]; rfl) (by repeat (with_reducible first | exact Grew.refl _ | assumption | refine Grew.alloc ?_ _ | refine Grew.grow ?_ _ | refine Grew.dr ?_ _ | refine Grew.drewN ?_ _ | refine Grew.drew ?_ | refine Grew.trans ?_ (Hid.out (by assumption))))
            · go_ret2
              exact Ret.mk' (by rw [HFin.out, if_neg (by omega)]; rfl) (by repeat (with_reducible first | exact Grew.refl _ | assumption | refine Grew.alloc ?_ _ | refine Grew.grow ?_ _ | refine Grew.dr ?_ _ | refine Grew.drewN ?_ _ | refine Grew.drew ?_ | refine Grew.trans ?_ (Hid.out (by assumption))))
end Go.Proofs.Ytgcgaplhaglejaa
