/- Package span: what package poly and its laws need of it. -/
import Derived.Test.YtdmlnmcaihodaaaPla
namespace Go.Proofs.Ytdmlnmcaihodaaa
set_option linter.unusedVariables false
set_option linter.unusedSimpArgs false
open Go.RowKit Go.Sort
attribute [local go_sem] Steady steadyUpon
attribute [local go_sem ↓] hs_dr lt_add_r lt_add_r2 lt_add_r3 lt_add_r4 lt_add_r5 lt_add_r6
attribute [local go_sem] cell?_gd frozen?_gd setCell_gd size_grow tape_grow cell?_grow' frozen?_grow' setCell_grow' grow_grow grow_dr grow_drew dr_dr dr_drew drew_dr dr_alloc dr_setCell dr_cell dr_frozen dr_tape dr_drawn
attribute [local irreducible] wpSteady

/-- A span is a pair of integers; a box is a pair of spans. -/
abbrev B4 := (Int × Int) × (Int × Int)
abbrev bxv (b : B4) : Value := .agg #[.int .i64 b.1.1, .int .i64 b.1.2, .int .i64 b.2.1, .int .i64 b.2.2]
def vS (s : Int × Int) : Bool := decide (-1000000000000 ≤ s.1 ∧ s.1 ≤ s.2 ∧ s.2 ≤ 1000000000000)
set_option maxHeartbeats 1600000 in
theorem spanValid_v (a b : Int) (r : Bool) (w : World) (h : vS (a, b) = r) :
    Calls Try.prog 103 #[pt a b] w (Ret w (.bool r)) := by
  have hm := hmix
  have hcase : (r = false ∧ ¬ -1000000000000 ≤ a) ∨ (r = false ∧ -1000000000000 ≤ a ∧ ¬ a ≤ b) ∨ (-1000000000000 ≤ a ∧ a ≤ b ∧ r = decide (b ≤ 1000000000000)) := by
    rw [← h]
    unfold vS
    by_cases h1 : -1000000000000 ≤ a
    · by_cases h2 : a ≤ b
      · exact .inr (.inr ⟨h1, h2, by simp [h1, h2]⟩)
      · exact .inr (.inl ⟨by simp [h2], h1, h2⟩)
    · exact .inl ⟨by simp; omega, h1⟩
  clear h
  rcases hcase with ⟨rfl, h1⟩ | ⟨rfl, h1, h2⟩ | ⟨h1, h2, rfl⟩
  all_goals
    go_enter Try.func103, Try.ntmps103
    go_wp2_with fail
    go_ret
    exact Ret.mk' (by simp) (by repeat (with_reducible first | exact Grew.refl _ | assumption | refine Grew.alloc ?_ _ | refine Grew.grow ?_ _ | refine Grew.dr ?_ _ | refine Grew.drewN ?_ _ | refine Grew.drew ?_ | refine Grew.trans ?_ (Hid.out (by assumption))))
set_option maxHeartbeats 1600000 in
theorem ends_any (a b : Int) (w : World) :
    Calls Try.prog 104 #[.int .i64 a, .int .i64 b] w (Ret w (.tuple #[.int .i64 (min a b), .int .i64 (max a b)])) := by
  have hm := hmix
  go_enter Try.func104, Try.ntmps104
  go_wp2_with fail
  all_goals go_ret2
  all_goals exact Ret.mk' (by simp; omega) (by repeat (with_reducible first | exact Grew.refl _ | assumption | refine Grew.alloc ?_ _ | refine Grew.grow ?_ _ | refine Grew.dr ?_ _ | refine Grew.drewN ?_ _ | refine Grew.drew ?_ | refine Grew.trans ?_ (Hid.out (by assumption))))
def joinS (s t : Int × Int) : (Int × Int) × Int := if (vS s && vS t) = true then ((min s.1 t.1, max s.2 t.2), 0) else ((0, 0), 1)
set_option maxHeartbeats 1600000 in
theorem Join_any (s t : Int × Int) (w : World) :
    Calls Try.prog 96 #[pt s.1 s.2, pt t.1 t.2] w (Ret w (.tuple #[pt (joinS s t).1.1 (joinS s t).1.2, .int .i64 (joinS s t).2])) := by
  have hm := hmix
  unfold joinS
  obtain ⟨u, hu⟩ : ∃ u, vS s = u := ⟨_, rfl⟩
  obtain ⟨v, hv⟩ : ∃ u, vS t = u := ⟨_, rfl⟩
  rw [hu, hv]
  have k1 := hide (fun W => spanValid_v s.1 s.2 u W hu)
  have k2 := hide (fun W => spanValid_v t.1 t.2 v W hv)
  have k3 := hide (fun W => ends_any s.1 t.1 W)
  have k4 := hide (fun W => ends_any s.2 t.2 W)
  obtain ⟨s1, s2⟩ := s
  obtain ⟨t1, t2⟩ := t
  dsimp only at *
  generalize min s1 t1 = m1 at *
  generalize max s1 t1 = m2 at *
  generalize min s2 t2 = m3 at *
  generalize max s2 t2 = m4 at *
  clear hu hv
  cases u
  · simp only [Bool.false_and, Bool.false_eq_true, if_false]
    go_enter Try.func96, Try.ntmps96
    go_wp2_with (go_at_call 103; (with_reducible refine (k1.out _).mono ?_); rintro e w' ⟨rfl, ⟨_, _⟩, rfl⟩; dsimp only)
    refine bodyPost_ret (v := .tuple #[pt 0 0, .int .i64 1]) (by simp [results, Try.results96, go_sem]) rfl ?_
    exact Ret.mk' rfl (by repeat (with_reducible first | exact Grew.refl _ | assumption | refine Grew.alloc ?_ _ | refine Grew.grow ?_ _ | refine Grew.dr ?_ _ | refine Grew.drewN ?_ _ | refine Grew.drew ?_ | refine Grew.trans ?_ (Hid.out (by assumption))))
  · cases v
    · simp only [Bool.true_and, Bool.false_eq_true, if_false]
      go_enter Try.func96, Try.ntmps96
      go_wp2_with ((go_at_call 103; first | with_reducible refine (k1.out _).mono ?_ | with_reducible refine (k2.out _).mono ?_); rintro e w' ⟨rfl, ⟨_, _⟩, rfl⟩; dsimp only)
      refine bodyPost_ret (v := .tuple #[pt 0 0, .int .i64 1]) (by simp [results, Try.results96, go_sem]) rfl ?_
      exact Ret.mk' rfl (by repeat (with_reducible first | exact Grew.refl _ | assumption | refine Grew.alloc ?_ _ | refine Grew.grow ?_ _ | refine Grew.dr ?_ _ | refine Grew.drewN ?_ _ | refine Grew.drew ?_ | refine Grew.trans ?_ (Hid.out (by assumption))))
    · simp only [Bool.true_and, if_true]
      go_enter Try.func96, Try.ntmps96
      go_wp2_with (first | ((go_at_call 103; first | with_reducible refine (k1.out _).mono ?_ | with_reducible refine (k2.out _).mono ?_); rintro e w' ⟨rfl, ⟨_, _⟩, rfl⟩; dsimp only) | ((go_at_call 104; first | with_reducible refine (k3.out _).mono ?_ | with_reducible refine (k4.out _).mono ?_); rintro e w' ⟨rfl, ⟨_, _⟩, rfl⟩; dsimp only))
      refine bodyPost_ret (v := .tuple #[pt m1 m4, .int .i64 0]) (by simp [results, Try.results96, go_sem]) rfl ?_
      exact Ret.mk' rfl (by repeat (with_reducible first | exact Grew.refl _ | assumption | refine Grew.alloc ?_ _ | refine Grew.grow ?_ _ | refine Grew.dr ?_ _ | refine Grew.drewN ?_ _ | refine Grew.drew ?_ | refine Grew.trans ?_ (Hid.out (by assumption))))
def withinS (s t : Int × Int) : Bool × Int := ((joinS s t).2 == 0 && ((joinS s t).1.1 == t.1 && (joinS s t).1.2 == t.2), (joinS s t).2)
set_option maxHeartbeats 1600000 in
theorem Within_any (s t : Int × Int) (w : World) :
    Calls Try.prog 79 #[pt s.1 s.2, pt t.1 t.2] w (Ret w (.tuple #[.bool (withinS s t).1, .int .i64 (withinS s t).2])) := by
  have hm := hmix
  have k1 := hide (fun W => Join_any s t W)
  unfold withinS
  obtain ⟨⟨⟨j1, j2⟩, e⟩, hj⟩ : ∃ j, joinS s t = j := ⟨_, rfl⟩
  rw [hj] at k1 ⊢
  obtain ⟨s1, s2⟩ := s
  obtain ⟨t1, t2⟩ := t
  dsimp only at *
  clear hj
  by_cases he : e = 0
  · subst he
    go_enter Try.func79, Try.ntmps79
    go_wp2_with (go_at_call 96; (with_reducible refine (k1.out _).mono ?_); rintro e w' ⟨rfl, ⟨_, _⟩, rfl⟩; dsimp only)
    all_goals go_ret2
    all_goals exact Ret.mk' (by simp [*]) (by repeat (with_reducible first | exact Grew.refl _ | assumption | refine Grew.alloc ?_ _ | refine Grew.grow ?_ _ | refine Grew.dr ?_ _ | refine Grew.drewN ?_ _ | refine Grew.drew ?_ | refine Grew.trans ?_ (Hid.out (by assumption))))
  · have he' : ¬ (e == 0) = true := by simpa using he
    go_enter Try.func79, Try.ntmps79
    go_wp2_with (go_at_call 96; (with_reducible refine (k1.out _).mono ?_); rintro e w' ⟨rfl, ⟨_, _⟩, rfl⟩; dsimp only)
    all_goals go_ret2
    all_goals exact Ret.mk' (by simp [*]) (by repeat (with_reducible first | exact Grew.refl _ | assumption | refine Grew.alloc ?_ _ | refine Grew.grow ?_ _ | refine Grew.dr ?_ _ | refine Grew.drewN ?_ _ | refine Grew.drew ?_ | refine Grew.trans ?_ (Hid.out (by assumption))))
def vBox (b : B4) : Bool := (withinS b.1 (-1000000, 1000000)).2 == 0 && ((withinS b.2 (-1000000, 1000000)).2 == 0 && ((withinS b.1 (-1000000, 1000000)).1 && (withinS b.2 (-1000000, 1000000)).1))
set_option maxHeartbeats 1600000 in
theorem ValidBox_v (b : B4) (r : Bool) (w : World) (h : vBox b = r) :
    Calls Try.prog 58 #[bxv b] w (Ret w (.bool r)) := by
  have hm := hmix
  have k1 := hide (fun W => Within_any b.1 (-1000000, 1000000) W)
  have k2 := hide (fun W => Within_any b.2 (-1000000, 1000000) W)
  unfold vBox at h
  obtain ⟨⟨x, e⟩, hx⟩ : ∃ j, withinS b.1 (-1000000, 1000000) = j := ⟨_, rfl⟩
  obtain ⟨⟨y, f⟩, hy⟩ : ∃ j, withinS b.2 (-1000000, 1000000) = j := ⟨_, rfl⟩
  rw [hx] at k1 h
  rw [hy] at k2 h
  obtain ⟨⟨b1, b2⟩, ⟨b3, b4⟩⟩ := b
  dsimp only at *
  have hcase : (e ≠ 0 ∧ r = false) ∨ (e = 0 ∧ f ≠ 0 ∧ r = false) ∨ (e = 0 ∧ f = 0 ∧ x = false ∧ r = false) ∨ (e = 0 ∧ f = 0 ∧ x = true ∧ r = y) := by
    subst h
    by_cases h1 : e = 0
    · by_cases h2 : f = 0
      · cases x
        · exact .inr (.inr (.inl ⟨h1, h2, rfl, by simp⟩))
        · exact .inr (.inr (.inr ⟨h1, h2, rfl, by simp [h1, h2]⟩))
      · exact .inr (.inl ⟨h1, h2, by simp [h2]⟩)
    · exact .inl ⟨h1, by simp [h1]⟩
  clear h hx hy
  rcases hcase with ⟨h1, rfl⟩ | ⟨rfl, h2, rfl⟩ | ⟨rfl, rfl, rfl, rfl⟩ | ⟨rfl, rfl, rfl, rfl⟩
  · have h1' : ¬ (e == 0) = true := by simpa using h1
    go_enter Try.func58, Try.ntmps58
    go_wp2_with ((go_at_call 79; first | with_reducible refine (k1.out _).mono ?_ | with_reducible refine (k2.out _).mono ?_); rintro e w' ⟨rfl, ⟨_, _⟩, rfl⟩; dsimp only)
    go_ret
    exact Ret.mk' (by simp) (by repeat (with_reducible first | exact Grew.refl _ | assumption | refine Grew.alloc ?_ _ | refine Grew.grow ?_ _ | refine Grew.dr ?_ _ | refine Grew.drewN ?_ _ | refine Grew.drew ?_ | refine Grew.trans ?_ (Hid.out (by assumption))))
  · have h2' : ¬ (f == 0) = true := by simpa using h2
    go_enter Try.func58, Try.ntmps58
    go_wp2_with ((go_at_call 79; first | with_reducible refine (k1.out _).mono ?_ | with_reducible refine (k2.out _).mono ?_); rintro e w' ⟨rfl, ⟨_, _⟩, rfl⟩; dsimp only)
    go_ret
    exact Ret.mk' (by simp) (by repeat (with_reducible first | exact Grew.refl _ | assumption | refine Grew.alloc ?_ _ | refine Grew.grow ?_ _ | refine Grew.dr ?_ _ | refine Grew.drewN ?_ _ | refine Grew.drew ?_ | refine Grew.trans ?_ (Hid.out (by assumption))))
  · go_enter Try.func58, Try.ntmps58
    go_wp2_with ((go_at_call 79; first | with_reducible refine (k1.out _).mono ?_ | with_reducible refine (k2.out _).mono ?_); rintro e w' ⟨rfl, ⟨_, _⟩, rfl⟩; dsimp only)
    go_ret
    exact Ret.mk' (by simp) (by repeat (with_reducible first | exact Grew.refl _ | assumption | refine Grew.alloc ?_ _ | refine Grew.grow ?_ _ | refine Grew.dr ?_ _ | refine Grew.drewN ?_ _ | refine Grew.drew ?_ | refine Grew.trans ?_ (Hid.out (by assumption))))
  · go_enter Try.func58, Try.ntmps58
    go_wp2_with ((go_at_call 79; first | with_reducible refine (k1.out _).mono ?_ | with_reducible refine (k2.out _).mono ?_); rintro e w' ⟨rfl, ⟨_, _⟩, rfl⟩; dsimp only)
    go_ret
    exact Ret.mk' (by simp) (by repeat (with_reducible first | exact Grew.refl _ | assumption | refine Grew.alloc ?_ _ | refine Grew.grow ?_ _ | refine Grew.dr ?_ _ | refine Grew.drewN ?_ _ | refine Grew.drew ?_ | refine Grew.trans ?_ (Hid.out (by assumption))))
def okB (b : B4) : Bool := decide ((-1000000 ≤ b.1.1 ∧ b.1.1 ≤ b.1.2 ∧ b.1.2 ≤ 1000000) ∧ (-1000000 ≤ b.2.1 ∧ b.2.1 ≤ b.2.2 ∧ b.2.2 ≤ 1000000))
theorem withinS_all (s : Int × Int) : ((withinS s (-1000000, 1000000)).2 = 0 ∧ (withinS s (-1000000, 1000000)).1 = true) ↔ (-1000000 ≤ s.1 ∧ s.1 ≤ s.2 ∧ s.2 ≤ 1000000) := by
  unfold withinS joinS
  by_cases h : vS s = true
  · have h9 : vS (-1000000, 1000000) = true := by decide
    rw [h, h9]
    simp [vS] at h ⊢
    omega
  · rw [Bool.not_eq_true] at h
    rw [h]
    simp [vS] at h ⊢
    omega
theorem vBox_ok (b : B4) : vBox b = okB b := by
  rw [Bool.eq_iff_iff]
  unfold vBox okB
  rw [decide_eq_true_eq, ← withinS_all b.1, ← withinS_all b.2]
  simp only [Bool.and_eq_true, beq_iff_eq]
  constructor
  · exact fun ⟨a, b, c, d⟩ => ⟨⟨a, c⟩, b, d⟩
  · exact fun ⟨⟨a, c⟩, b, d⟩ => ⟨a, b, c, d⟩
def joinB (a b : B4) : B4 := ((min a.1.1 b.1.1, max a.1.2 b.1.2), (min a.2.1 b.2.1, max a.2.2 b.2.2))
def joinBox (a b : B4) : B4 × Int := if (okB a && okB b) = true then (joinB a b, 0) else (((0, 0), (0, 0)), 1)
theorem ValidBox_ok (b : B4) (r : Bool) (w : World) (h : okB b = r) :
    Calls Try.prog 58 #[bxv b] w (Ret w (.bool r)) := ValidBox_v b r w (by rw [vBox_ok, h])
theorem joinS_ok {a b : Int × Int} (ha : -1000000 ≤ a.1 ∧ a.1 ≤ a.2 ∧ a.2 ≤ 1000000) (hb : -1000000 ≤ b.1 ∧ b.1 ≤ b.2 ∧ b.2 ≤ 1000000) : joinS a b = ((min a.1 b.1, max a.2 b.2), 0) := by
  unfold joinS
  rw [if_pos]
  simp [vS]
  omega
theorem Join_ok (s t : Int × Int) (w : World) (ha : -1000000 ≤ s.1 ∧ s.1 ≤ s.2 ∧ s.2 ≤ 1000000) (hb : -1000000 ≤ t.1 ∧ t.1 ≤ t.2 ∧ t.2 ≤ 1000000) :
    Calls Try.prog 96 #[pt s.1 s.2, pt t.1 t.2] w (Ret w (.tuple #[pt (min s.1 t.1) (max s.2 t.2), .int .i64 0])) := by
  have := Join_any s t w
  rwa [joinS_ok ha hb] at this
set_option maxRecDepth 100000 in
set_option maxHeartbeats 4000000 in
theorem boxes_any (a b : B4) (w : World) :
    Calls Try.prog 97 #[bxv a, bxv b, .func (.func 96) #[] #[]] w (Ret w (.tuple #[bxv (joinBox a b).1, .int .i64 (joinBox a b).2])) := by
  have hm := hmix
  unfold joinBox
  obtain ⟨u, hu⟩ : ∃ u, okB a = u := ⟨_, rfl⟩
  obtain ⟨v, hv⟩ : ∃ u, okB b = u := ⟨_, rfl⟩
  rw [hu, hv]
  have k1 := hide (fun W => ValidBox_ok a u W hu)
  have k2 := hide (fun W => ValidBox_ok b v W hv)
  cases u
  · obtain ⟨⟨a1, a2⟩, ⟨a3, a4⟩⟩ := a
    obtain ⟨⟨b1, b2⟩, ⟨b3, b4⟩⟩ := b
    clear hu hv
    simp only [Bool.false_and, Bool.false_eq_true, if_false]
    go_enter Try.func97, Try.ntmps97
    go_wp2_with (go_at_call 58; (with_reducible refine (k1.out _).mono ?_); rintro e w' ⟨rfl, ⟨_, _⟩, rfl⟩; dsimp only)
    refine bodyPost_ret (v := .tuple #[bxv ((0, 0), (0, 0)), .int .i64 1]) (by simp [results, Try.results97, go_sem]) rfl ?_
    exact Ret.mk' rfl (by repeat (with_reducible first | exact Grew.refl _ | assumption | refine Grew.alloc ?_ _ | refine Grew.grow ?_ _ | refine Grew.dr ?_ _ | refine Grew.drewN ?_ _ | refine Grew.drew ?_ | refine Grew.trans ?_ (Hid.out (by assumption))))
  · cases v
    · obtain ⟨⟨a1, a2⟩, ⟨a3, a4⟩⟩ := a
      obtain ⟨⟨b1, b2⟩, ⟨b3, b4⟩⟩ := b
      clear hu hv
      simp only [Bool.true_and, Bool.false_eq_true, if_false]
      go_enter Try.func97, Try.ntmps97
      go_wp2_with ((go_at_call 58; first | with_reducible refine (k1.out _).mono ?_ | with_reducible refine (k2.out _).mono ?_); rintro e w' ⟨rfl, ⟨_, _⟩, rfl⟩; dsimp only)
      refine bodyPost_ret (v := .tuple #[bxv ((0, 0), (0, 0)), .int .i64 1]) (by simp [results, Try.results97, go_sem]) rfl ?_
      exact Ret.mk' rfl (by repeat (with_reducible first | exact Grew.refl _ | assumption | refine Grew.alloc ?_ _ | refine Grew.grow ?_ _ | refine Grew.dr ?_ _ | refine Grew.drewN ?_ _ | refine Grew.drew ?_ | refine Grew.trans ?_ (Hid.out (by assumption))))
    · have ha := hu
      have hb := hv
      simp only [okB, decide_eq_true_eq] at ha hb
      have k3 := hide (fun W => Join_ok a.1 b.1 W ha.1 hb.1)
      have k4 := hide (fun W => Join_ok a.2 b.2 W ha.2 hb.2)
      clear ha hb hu hv
      unfold joinB
      obtain ⟨⟨a1, a2⟩, ⟨a3, a4⟩⟩ := a
      obtain ⟨⟨b1, b2⟩, ⟨b3, b4⟩⟩ := b
      dsimp only at *
      generalize min a1 b1 = m1 at *
      generalize max a2 b2 = m2 at *
      generalize min a3 b3 = m3 at *
      generalize max a4 b4 = m4 at *
      simp only [Bool.true_and, if_true]
      go_enter Try.func97, Try.ntmps97
      go_wp2_with (first | ((go_at_call 58; first | with_reducible refine (k1.out _).mono ?_ | with_reducible refine (k2.out _).mono ?_); rintro e w' ⟨rfl, ⟨_, _⟩, rfl⟩; dsimp only) | ((go_at_call 96; first | with_reducible refine (k3.out _).mono ?_ | with_reducible refine (k4.out _).mono ?_); rintro e w' ⟨rfl, ⟨_, _⟩, rfl⟩; dsimp only))
      refine bodyPost_ret (v := .tuple #[bxv ((m1, m2), (m3, m4)), .int .i64 0]) (by simp [results, Try.results97, go_sem]) rfl ?_
      exact Ret.mk' rfl (by repeat (with_reducible first | exact Grew.refl _ | assumption | refine Grew.alloc ?_ _ | refine Grew.grow ?_ _ | refine Grew.dr ?_ _ | refine Grew.drewN ?_ _ | refine Grew.drew ?_ | refine Grew.trans ?_ (Hid.out (by assumption))))
set_option maxHeartbeats 1600000 in
theorem JoinBox_any (a b : B4) (w : World) :
    Calls Try.prog 80 #[bxv a, bxv b] w (Ret w (.tuple #[bxv (joinBox a b).1, .int .i64 (joinBox a b).2])) := by
  have k1 := hide (fun W => boxes_any a b W)
  obtain ⟨⟨⟨⟨j1, j2⟩, ⟨j3, j4⟩⟩, e⟩, hj⟩ : ∃ j, joinBox a b = j := ⟨_, rfl⟩
  rw [hj] at k1 ⊢
  obtain ⟨⟨a1, a2⟩, ⟨a3, a4⟩⟩ := a
  obtain ⟨⟨b1, b2⟩, ⟨b3, b4⟩⟩ := b
  clear hj
  go_enter Try.func80, Try.ntmps80
  go_wp2_with (go_at_call 97; (with_reducible refine (k1.out _).mono ?_); rintro e w' ⟨rfl, ⟨_, _⟩, rfl⟩; dsimp only)
  refine bodyPost_ret (v := .tuple #[bxv ((j1, j2), (j3, j4)), .int .i64 e]) (by simp [results, Try.results80, go_sem]) rfl ?_
  exact Ret.mk' rfl (by repeat (with_reducible first | exact Grew.refl _ | assumption | refine Grew.alloc ?_ _ | refine Grew.grow ?_ _ | refine Grew.dr ?_ _ | refine Grew.drewN ?_ _ | refine Grew.drew ?_ | refine Grew.trans ?_ (Hid.out (by assumption))))
def withinBox (a b : B4) : Bool × Int := if (okB a && okB b) = true then (decide (joinB a b = b), 0) else (false, 1)
set_option maxHeartbeats 1600000 in
theorem WithinBox_any (a b : B4) (w : World) :
    Calls Try.prog 59 #[bxv a, bxv b] w (Ret w (.tuple #[.bool (withinBox a b).1, .int .i64 (withinBox a b).2])) := by
  have hm := hmix
  have k1 := hide (fun W => JoinBox_any a b W)
  unfold withinBox
  unfold joinBox at k1
  obtain ⟨u, hu⟩ : ∃ u, (okB a && okB b) = u := ⟨_, rfl⟩
  rw [hu] at k1 ⊢
  cases u
  · simp only [Bool.false_eq_true, if_false] at k1 ⊢
    clear hu
    obtain ⟨⟨a1, a2⟩, ⟨a3, a4⟩⟩ := a
    obtain ⟨⟨b1, b2⟩, ⟨b3, b4⟩⟩ := b
    go_enter Try.func59, Try.ntmps59
    go_wp2_with (go_at_call 80; (with_reducible refine (k1.out _).mono ?_); rintro e w' ⟨rfl, ⟨_, _⟩, rfl⟩; dsimp only)
    go_ret2
    exact Ret.mk' rfl (by repeat (with_reducible first | exact Grew.refl _ | assumption | refine Grew.alloc ?_ _ | refine Grew.grow ?_ _ | refine Grew.dr ?_ _ | refine Grew.drewN ?_ _ | refine Grew.drew ?_ | refine Grew.trans ?_ (Hid.out (by assumption))))
  · simp only [if_true] at k1 ⊢
    clear hu
    obtain ⟨⟨⟨j1, j2⟩, ⟨j3, j4⟩⟩, hj⟩ : ∃ j, joinB a b = j := ⟨_, rfl⟩
    rw [hj] at k1 ⊢
    obtain ⟨⟨a1, a2⟩, ⟨a3, a4⟩⟩ := a
    obtain ⟨⟨b1, b2⟩, ⟨b3, b4⟩⟩ := b
    clear hj
    obtain ⟨r, hr⟩ : ∃ r, decide ((((j1, j2), (j3, j4)) : B4) = ((b1, b2), (b3, b4))) = r := ⟨_, rfl⟩
    rw [hr]
    have hcase : (j1 = b1 ∧ j2 = b2 ∧ j3 = b3 ∧ j4 = b4 ∧ r = true) ∨ (j1 = b1 ∧ j2 = b2 ∧ j3 = b3 ∧ j4 ≠ b4 ∧ r = false) ∨ (j1 = b1 ∧ j2 = b2 ∧ j3 ≠ b3 ∧ r = false) ∨ (j1 = b1 ∧ j2 ≠ b2 ∧ r = false) ∨ (j1 ≠ b1 ∧ r = false) := by
      rw [← hr]
      simp only [Prod.mk.injEq, decide_eq_true_eq, decide_eq_false_iff_not]
      omega
    clear hr
    rcases hcase with ⟨rfl, rfl, rfl, rfl, rfl⟩ | ⟨rfl, rfl, rfl, h1, rfl⟩ | ⟨rfl, rfl, h1, rfl⟩ | ⟨rfl, h1, rfl⟩ | ⟨h1, rfl⟩
    all_goals
      go_enter Try.func59, Try.ntmps59
      go_wp2_with (go_at_call 80; (with_reducible refine (k1.out _).mono ?_); rintro e w' ⟨rfl, ⟨_, _⟩, rfl⟩; dsimp only)
      go_ret2
      exact Ret.mk' rfl (by repeat (with_reducible first | exact Grew.refl _ | assumption | refine Grew.alloc ?_ _ | refine Grew.grow ?_ _ | refine Grew.dr ?_ _ | refine Grew.drewN ?_ _ | refine Grew.drew ?_ | refine Grew.trans ?_ (Hid.out (by assumption))))
def inBox (p : Pt) (b : B4) : Bool × Int := withinBox ((p.1, p.1), (p.2, p.2)) b
set_option maxHeartbeats 1600000 in
theorem InBox_any (p : Pt) (b : B4) (w : World) :
    Calls Try.prog 25 #[pt p.1 p.2, bxv b] w (Ret w (.tuple #[.bool (inBox p b).1, .int .i64 (inBox p b).2])) := by
  have k1 := hide (fun W => WithinBox_any ((p.1, p.1), (p.2, p.2)) b W)
  obtain ⟨⟨r, e⟩, hj⟩ : ∃ j, inBox p b = j := ⟨_, rfl⟩
  rw [show withinBox ((p.1, p.1), (p.2, p.2)) b = inBox p b from rfl] at k1
  rw [hj] at k1 ⊢
  obtain ⟨p1, p2⟩ := p
  obtain ⟨⟨b1, b2⟩, ⟨b3, b4⟩⟩ := b
  clear hj
  go_enter Try.func25, Try.ntmps25
  go_wp2_with (go_at_call 59; (with_reducible refine (k1.out _).mono ?_); rintro e w' ⟨rfl, ⟨_, _⟩, rfl⟩; dsimp only)
  go_ret2
  exact Ret.mk' rfl (by repeat (with_reducible first | exact Grew.refl _ | assumption | refine Grew.alloc ?_ _ | refine Grew.grow ?_ _ | refine Grew.dr ?_ _ | refine Grew.drewN ?_ _ | refine Grew.drew ?_ | refine Grew.trans ?_ (Hid.out (by assumption))))
end Go.Proofs.Ytdmlnmcaihodaaa
