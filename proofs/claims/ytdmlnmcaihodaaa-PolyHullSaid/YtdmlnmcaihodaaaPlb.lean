/- Package plane: places on segments, segments that meet, distances. -/
import Derived.Test.YtdmlnmcaihodaaaPla
import Derived.Shelf.Bits.Mul64
namespace Go.Proofs.Ytdmlnmcaihodaaa
set_option linter.unusedVariables false
set_option linter.unusedSimpArgs false
open Go.RowKit Go.Sort
attribute [local go_sem] Steady steadyUpon
attribute [local go_sem ↓] hs_dr lt_add_r lt_add_r2 lt_add_r3 lt_add_r4 lt_add_r5 lt_add_r6
attribute [local go_sem] cell?_gd frozen?_gd setCell_gd size_grow tape_grow cell?_grow' frozen?_grow' setCell_grow' grow_grow grow_dr grow_drew dr_dr dr_drew drew_dr dr_alloc dr_setCell dr_cell dr_frozen dr_tape dr_drawn
attribute [local irreducible] wpSteady

theorem plTurn_v (a b c : Pt) (t : Int) (w : World) (ha : a.ok = true) (hb : b.ok = true) (hc : c.ok = true) (h : tn a b c = t) :
    Calls Try.prog 61 #[pt a.1 a.2, pt b.1 b.2, pt c.1 c.2] w (Ret w (.int .i64 t)) := by
  have := plTurn_any a b c w ha hb hc
  rwa [h] at this
theorem tn_bd (a b c : Pt) : -1 ≤ tn a b c ∧ tn a b c ≤ 1 := by
  rcases sg_cases (cr a b c) with ⟨_, e⟩ | ⟨_, e⟩ | ⟨_, e⟩ <;> unfold tn <;> rw [e] <;> omega
/-- On a segment. -/
def onB (p a b : Pt) : Bool := decide (tn a b p = 0 ∧ (min a.1 b.1 ≤ p.1 ∧ p.1 ≤ max a.1 b.1) ∧ (min a.2 b.2 ≤ p.2 ∧ p.2 ≤ max a.2 b.2))
set_option maxHeartbeats 1600000 in
theorem plOn_any (p a b : Pt) (w : World) (hp : p.ok = true) (ha : a.ok = true) (hb : b.ok = true) :
    Calls Try.prog 31 #[p.v, a.v, b.v] w (Ret w (.bool (onB p a b))) := by
  have hm := hmix
  obtain ⟨t, ht⟩ : ∃ t, tn a b p = t := ⟨_, rfl⟩
  have k1 := hide (fun W => plTurn_v a b p t W ha hb hp ht)
  unfold onB
  rw [ht]
  obtain ⟨p1, p2⟩ := p
  obtain ⟨a1, a2⟩ := a
  obtain ⟨b1, b2⟩ := b
  clear ht hp ha hb
  by_cases h0 : t = 0
  · subst h0
    go_enter Try.func31, Try.ntmps31
    go_wp2_with (go_at_call 61; (with_reducible refine (k1.out _).mono ?_); rintro e w' ⟨rfl, ⟨_, _⟩, rfl⟩; dsimp only)
    all_goals go_ret
    all_goals refine Ret.mk' (ret_bool ?_) (by repeat (with_reducible first | exact Grew.refl _ | assumption | refine Grew.alloc ?_ _ | refine Grew.grow ?_ _ | refine Grew.dr ?_ _ | refine Grew.drewN ?_ _ | refine Grew.drew ?_ | refine Grew.trans ?_ (Hid.out (by assumption))))
    all_goals (rw [Bool.eq_iff_iff]; simp; omega)
  · have h1 : (t == 0) = false := by simpa using h0
    go_enter Try.func31, Try.ntmps31
    go_wp2_with (go_at_call 61; (with_reducible refine (k1.out _).mono ?_); rintro e w' ⟨rfl, ⟨_, _⟩, rfl⟩; dsimp only)
    go_ret
    exact Ret.mk' (ret_bool (by simp [h0])) (by repeat (with_reducible first | exact Grew.refl _ | assumption | refine Grew.alloc ?_ _ | refine Grew.grow ?_ _ | refine Grew.dr ?_ _ | refine Grew.drewN ?_ _ | refine Grew.drew ?_ | refine Grew.trans ?_ (Hid.out (by assumption))))
theorem plOn_v (p a b : Pt) (r : Bool) (w : World) (hp : p.ok = true) (ha : a.ok = true) (hb : b.ok = true) (h : onB p a b = r) :
    Calls Try.prog 31 #[pt p.1 p.2, pt a.1 a.2, pt b.1 b.2] w (Ret w (.bool r)) := by
  have := plOn_any p a b w hp ha hb
  rwa [h] at this

/-- Two segments cross in points that are not ends; they meet. -/
def cutB (a b c d : Pt) : Bool := decide (tn a b c * tn a b d < 0) && decide (tn c d a * tn c d b < 0)
def meetB (a b c d : Pt) : Bool := cutB a b c d || (onB a c d || (onB b c d || (onB c a b || onB d a b)))
theorem mul_sg {s t : Int} (hs : -1 ≤ s ∧ s ≤ 1) (ht : -1 ≤ t ∧ t ≤ 1) : -1 ≤ s * t ∧ s * t ≤ 1 := mul_bd 1 1 hs ht
set_option maxRecDepth 10000 in
set_option maxHeartbeats 4000000 in
theorem plMeet_any (a b c d : Pt) (w : World) (ha : a.ok = true) (hb : b.ok = true) (hc : c.ok = true) (hd : d.ok = true) :
    Calls Try.prog 32 #[a.v, b.v, c.v, d.v] w (Ret w (.bool (meetB a b c d))) := by
  have hm := hmix
  obtain ⟨t1, h1⟩ : ∃ t, tn a b c = t := ⟨_, rfl⟩
  obtain ⟨t2, h2⟩ : ∃ t, tn a b d = t := ⟨_, rfl⟩
  obtain ⟨t3, h3⟩ : ∃ t, tn c d a = t := ⟨_, rfl⟩
  obtain ⟨t4, h4⟩ : ∃ t, tn c d b = t := ⟨_, rfl⟩
  obtain ⟨o1, g1⟩ : ∃ o, onB a c d = o := ⟨_, rfl⟩
  obtain ⟨o2, g2⟩ : ∃ o, onB b c d = o := ⟨_, rfl⟩
  obtain ⟨o3, g3⟩ : ∃ o, onB c a b = o := ⟨_, rfl⟩
  obtain ⟨o4, g4⟩ : ∃ o, onB d a b = o := ⟨_, rfl⟩
  have k1 := hide (fun W => plTurn_v a b c t1 W ha hb hc h1)
  have k2 := hide (fun W => plTurn_v a b d t2 W ha hb hd h2)
  have k3 := hide (fun W => plTurn_v c d a t3 W hc hd ha h3)
  have k4 := hide (fun W => plTurn_v c d b t4 W hc hd hb h4)
  have l1 := hide (fun W => plOn_v a c d o1 W ha hc hd g1)
  have l2 := hide (fun W => plOn_v b c d o2 W hb hc hd g2)
  have l3 := hide (fun W => plOn_v c a b o3 W hc ha hb g3)
  have l4 := hide (fun W => plOn_v d a b o4 W hd ha hb g4)
  have b12 := mul_sg (h1 ▸ tn_bd a b c) (h2 ▸ tn_bd a b d)
  have b34 := mul_sg (h3 ▸ tn_bd c d a) (h4 ▸ tn_bd c d b)
  have e12 : IntKind.i64.wrap (t1 * t2) = t1 * t2 := by unfold IntKind.wrap; simp [IntKind.bits, IntKind.signed]; omega
  have e34 : IntKind.i64.wrap (t3 * t4) = t3 * t4 := by unfold IntKind.wrap; simp [IntKind.bits, IntKind.signed]; omega
  unfold meetB cutB
  rw [h1, h2, h3, h4, g1, g2, g3, g4]
  obtain ⟨a1, a2⟩ := a
  obtain ⟨b1, b2⟩ := b
  obtain ⟨c1, c2⟩ := c
  obtain ⟨d1, d2⟩ := d
  clear h1 h2 h3 h4 g1 g2 g3 g4 ha hb hc hd
  have hcase : (decide (t1 * t2 < 0) = true ∧ decide (t3 * t4 < 0) = true) ∨ (decide (t1 * t2 < 0) = true ∧ decide (t3 * t4 < 0) = false) ∨ decide (t1 * t2 < 0) = false := by
    cases h1 : decide (t1 * t2 < 0) <;> cases h2 : decide (t3 * t4 < 0) <;> simp
  rcases hcase with ⟨h1, h2⟩ | ⟨h1, h2⟩ | h1
  · rw [h1, h2]
    simp only [Bool.and_self, Bool.true_or]
    go_enter Try.func32, Try.ntmps32
    go_wp2_with fail
    refine wp_region_qas 22 [] [] hm (by kernel_rfl) (by simp only [List.take, List.filter, isQ]; rfl) (by simp only [List.drop]; rfl) ZOk.nil (by simp) ?_
    repeat (refine wpSteady_step (fun K hK => ?_); go_simp; first | (refine hK _ ?_; clear hK K) | (apply Exists.intro; refine ⟨fun _ => ?_, hK _ ?_⟩; (go_at_call 61; first | with_reducible exact k1.out _ | with_reducible exact k2.out _ | with_reducible exact k3.out _ | with_reducible exact k4.out _); clear hK K))
    refine wpSteady_nil ?_
    refine ⟨StOk.nil, LyOk.nil, ?_⟩
    rintro psq qsq Wq HWq HFq HBq
    obtain rfl : qsq = [] := HBq
    obtain rfl : psq = [] := HFq
    obtain ⟨⟨nq, osq⟩, rfl⟩ := HWq
    simp only [putAll, putB, Act.put, List.setIfInBounds_toArray, List.set_cons_succ, List.set_cons_zero]
    try dsimp only
    go_wp2
    go_ret
    exact Ret.mk' rfl (by repeat (with_reducible first | exact Grew.refl _ | assumption | refine Grew.alloc ?_ _ | refine Grew.grow ?_ _ | refine Grew.dr ?_ _ | refine Grew.drewN ?_ _ | refine Grew.drew ?_ | refine Grew.trans ?_ (Hid.out (by assumption))))
  all_goals
    rw [h1]
    try rw [h2]
    simp only [Bool.and_false, Bool.false_and, Bool.false_or]
    have hoc : o1 = true ∨ (o1 = false ∧ o2 = true) ∨ (o1 = false ∧ o2 = false ∧ o3 = true) ∨ (o1 = false ∧ o2 = false ∧ o3 = false) := by
      cases o1 <;> cases o2 <;> cases o3 <;> simp
    rcases hoc with rfl | ⟨rfl, rfl⟩ | ⟨rfl, rfl, rfl⟩ | ⟨rfl, rfl, rfl⟩
    all_goals
      simp only [Bool.false_or, Bool.true_or]
      go_enter Try.func32, Try.ntmps32
      go_wp2_with fail
      refine wp_region_qas 22 [] [] hm (by kernel_rfl) (by simp only [List.take, List.filter, isQ]; rfl) (by simp only [List.drop]; rfl) ZOk.nil (by simp) ?_
      repeat (refine wpSteady_step (fun K hK => ?_); go_simp; first | (refine hK _ ?_; clear hK K) | (apply Exists.intro; refine ⟨fun _ => ?_, hK _ ?_⟩; (go_at_call 61; first | with_reducible exact k1.out _ | with_reducible exact k2.out _ | with_reducible exact k3.out _ | with_reducible exact k4.out _); clear hK K))
      refine wpSteady_nil ?_
      refine ⟨StOk.nil, LyOk.nil, ?_⟩
      rintro psq qsq Wq HWq HFq HBq
      obtain rfl : qsq = [] := HBq
      obtain rfl : psq = [] := HFq
      obtain ⟨⟨nq, osq⟩, rfl⟩ := HWq
      simp only [putAll, putB, Act.put, List.setIfInBounds_toArray, List.set_cons_succ, List.set_cons_zero]
      try dsimp only
      go_wp2_with (first | (go_at_call 31; (with_reducible refine (l1.out _).mono ?_); rintro e w' ⟨rfl, ⟨_, _⟩, rfl⟩; dsimp only) | (go_at_call 31; (with_reducible refine (l2.out _).mono ?_); rintro e w' ⟨rfl, ⟨_, _⟩, rfl⟩; dsimp only) | (go_at_call 31; (with_reducible refine (l3.out _).mono ?_); rintro e w' ⟨rfl, ⟨_, _⟩, rfl⟩; dsimp only) | (go_at_call 31; (with_reducible refine (l4.out _).mono ?_); rintro e w' ⟨rfl, ⟨_, _⟩, rfl⟩; dsimp only))
      go_ret
      exact Ret.mk' rfl (by repeat (with_reducible first | exact Grew.refl _ | assumption | refine Grew.alloc ?_ _ | refine Grew.grow ?_ _ | refine Grew.dr ?_ _ | refine Grew.drewN ?_ _ | refine Grew.drew ?_ | refine Grew.trans ?_ (Hid.out (by assumption))))
theorem plMeet_v (a b c d : Pt) (r : Bool) (w : World) (ha : a.ok = true) (hb : b.ok = true) (hc : c.ok = true) (hd : d.ok = true) (h : meetB a b c d = r) :
    Calls Try.prog 32 #[pt a.1 a.2, pt b.1 b.2, pt c.1 c.2, pt d.1 d.2] w (Ret w (.bool r)) := by
  have := plMeet_any a b c d w ha hb hc hd
  rwa [h] at this

set_option maxHeartbeats 1000000 in
theorem Mul64_any (x y : Nat) (hx : x < 18446744073709551616) (hy : y < 18446744073709551616) (w : World) :
    Calls Try.prog 84 #[.int .u64 x, .int .u64 y] w (Ret w (.tuple #[.int .u64 ((x * y / 18446744073709551616 : Nat) : Int), .int .u64 ((x * y % 18446744073709551616 : Nat) : Int)])) := by
  obtain ⟨bd, bt, bw, hhi⟩ := Lib.mul64_hi x y hx hy
  have ba := Lib.half_mul_le (a := x / 4294967296) (b := y / 4294967296) (by omega) (by omega)
  have bb := Lib.half_mul_le (a := x / 4294967296) (b := y % 4294967296) (by omega) (by omega)
  have bc := Lib.half_mul_le (a := x % 4294967296) (b := y / 4294967296) (by omega) (by omega)
  have ba' : x / 4294967296 * (y / 4294967296) < 18446744073709551616 := by omega
  have bb' : x / 4294967296 * (y % 4294967296) < 18446744073709551616 := by omega
  have bc' : x % 4294967296 * (y / 4294967296) < 18446744073709551616 := by omega
  have bh1 : x / 4294967296 * (y / 4294967296) + (x / 4294967296 * (y % 4294967296) + x % 4294967296 * (y % 4294967296) / 4294967296) / 4294967296 < 18446744073709551616 := by omega
  have bh : x / 4294967296 * (y / 4294967296) + (x / 4294967296 * (y % 4294967296) + x % 4294967296 * (y % 4294967296) / 4294967296) / 4294967296 + ((x / 4294967296 * (y % 4294967296) + x % 4294967296 * (y % 4294967296) / 4294967296) % 4294967296 + x % 4294967296 * (y / 4294967296)) / 4294967296 < 18446744073709551616 := by omega
  go_enter Try.func84, Try.ntmps84
  go_wp2
  simp only [Mul64.maskN x hx, Mul64.maskN y hy, Mul64.divN, Mul64.mulN, Mul64.addN, Mul64.wrapN _ bd, Mul64.wrapN _ bb', Mul64.wrapN _ bt, Mul64.maskN _ bt, Mul64.wrapN _ bc', Mul64.wrapN _ bw, Mul64.wrapN _ ba', Mul64.wrapN _ bh1, Mul64.wrapN _ bh, Mul64.wrapM (x * y)]
  rw [hhi]
  go_ret2
  exact Ret.mk' rfl (by repeat (with_reducible first | exact Grew.refl _ | assumption | refine Grew.alloc ?_ _ | refine Grew.grow ?_ _ | refine Grew.dr ?_ _ | refine Grew.drewN ?_ _ | refine Grew.drew ?_ | refine Grew.trans ?_ (Hid.out (by assumption))))

theorem most_iff (X Y : Nat) (hX : X < 340282366920938463463374607431768211456) (hY : Y < 340282366920938463463374607431768211456) : X ≤ Y ↔ (X / 18446744073709551616 < Y / 18446744073709551616 ∨ (X / 18446744073709551616 = Y / 18446744073709551616 ∧ X % 18446744073709551616 ≤ Y % 18446744073709551616)) := by omega
set_option maxHeartbeats 1600000 in
theorem most_any (a b c d : Nat) (w : World) (ha : a < 9223372036854775808) (hb : b < 9223372036854775808) (hc : c < 9223372036854775808) (hd : d < 9223372036854775808) :
    Calls Try.prog 64 #[.int .i64 a, .int .i64 b, .int .i64 c, .int .i64 d] w (Ret w (.bool (decide (a * b ≤ c * d)))) := by
  have hm := hmix
  have k1 := hide (fun W => Mul64_any a b (by omega) (by omega) W)
  have k2 := hide (fun W => Mul64_any c d (by omega) (by omega) W)
  have hX : a * b < 340282366920938463463374607431768211456 := Nat.lt_of_le_of_lt (Nat.mul_le_mul (Nat.le_of_lt ha) (Nat.le_of_lt hb)) (by omega)
  have hY : c * d < 340282366920938463463374607431768211456 := Nat.lt_of_le_of_lt (Nat.mul_le_mul (Nat.le_of_lt hc) (Nat.le_of_lt hd)) (by omega)
  obtain ⟨r, hr⟩ : ∃ r, decide (a * b ≤ c * d) = r := ⟨_, rfl⟩
  rw [hr]
  have hi := most_iff _ _ hX hY
  obtain ⟨h, hh⟩ : ∃ h, a * b / 18446744073709551616 = h := ⟨_, rfl⟩
  obtain ⟨l, hl⟩ : ∃ h, a * b % 18446744073709551616 = h := ⟨_, rfl⟩
  obtain ⟨i, hi'⟩ : ∃ h, c * d / 18446744073709551616 = h := ⟨_, rfl⟩
  obtain ⟨m, hm'⟩ : ∃ h, c * d % 18446744073709551616 = h := ⟨_, rfl⟩
  rw [hh, hl] at k1
  rw [hi', hm'] at k2
  rw [hh, hl, hi', hm'] at hi
  have hc1 : (decide (h < i) = true ∧ r = true) ∨ (decide (h < i) = false ∧ ((h : Int) == (i : Int)) = false ∧ r = false) ∨ (h = i ∧ decide (l ≤ m) = r) := by
    rw [← hr]
    by_cases h1 : h < i
    · exact .inl ⟨by simpa using h1, by simpa using hi.2 (.inl h1)⟩
    · by_cases h2 : h = i
      · refine .inr (.inr ⟨h2, ?_⟩)
        rw [Bool.eq_iff_iff, decide_eq_true_eq, decide_eq_true_eq, hi]
        omega
      · exact .inr (.inl ⟨by simpa using h1, by rw [beq_eq_false_iff_ne]; omega, by simp only [decide_eq_false_iff_not]; omega⟩)
  have u1 : IntKind.u64.wrap (a : Int) = a := by rw [IntKind.wrap_u64]; omega
  have u2 : IntKind.u64.wrap (b : Int) = b := by rw [IntKind.wrap_u64]; omega
  have u3 : IntKind.u64.wrap (c : Int) = c := by rw [IntKind.wrap_u64]; omega
  have u4 : IntKind.u64.wrap (d : Int) = d := by rw [IntKind.wrap_u64]; omega
  clear hX hY hr hi hh hl hi' hm' ha hb hc hd
  rcases hc1 with ⟨e1, rfl⟩ | ⟨e1, e2, rfl⟩ | ⟨rfl, e1⟩
  all_goals
    go_enter Try.func64, Try.ntmps64
    go_wp2_with (first | (go_at_call 84; (with_reducible refine (k1.out _).mono ?_); rintro e w' ⟨rfl, ⟨_, _⟩, rfl⟩; dsimp only) | (go_at_call 84; (with_reducible refine (k2.out _).mono ?_); rintro e w' ⟨rfl, ⟨_, _⟩, rfl⟩; dsimp only))
    go_ret
    exact Ret.mk' (ret_bool (by simp [*])) (by repeat (with_reducible first | exact Grew.refl _ | assumption | refine Grew.alloc ?_ _ | refine Grew.grow ?_ _ | refine Grew.dr ?_ _ | refine Grew.drewN ?_ _ | refine Grew.drew ?_ | refine Grew.trans ?_ (Hid.out (by assumption))))
end Go.Proofs.Ytdmlnmcaihodaaa
