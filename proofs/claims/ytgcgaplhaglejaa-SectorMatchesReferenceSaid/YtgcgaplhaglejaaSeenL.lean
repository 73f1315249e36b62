/- SectorSeen: the plain law and the walk. -/
import Derived.Test.YtgcgaplhaglejaaHoldsL
namespace Go.Proofs.Ytgcgaplhaglejaa
set_option linter.unusedVariables false
set_option linter.unusedSimpArgs false
open Go.RowKit Go.Sort
attribute [local go_sem] Steady steadyUpon
attribute [local go_sem ↓] hs_dr lt_add_r lt_add_r2 lt_add_r3 lt_add_r4 lt_add_r5 lt_add_r6
attribute [local go_sem] cell?_gd frozen?_gd setCell_gd size_grow tape_grow cell?_grow' frozen?_grow' setCell_grow' grow_grow grow_dr grow_drew dr_dr dr_drew drew_dr dr_alloc dr_setCell dr_cell dr_frozen dr_tape dr_drawn

theorem hs_scale {k : Int} (hk : 0 < k) (s : Sec) (x y : Int) : hs s (k * x, k * y) = hs s (x, y) := by
  show hasw _ _ _ _ _ _ = hasw _ _ _ _ _ _
  dsimp only
  unfold hasw
  rw [cmpw_scale_r hk, cmpw_scale_r hk]
theorem shA_scale {k : Int} (hk : 0 < k) (ss : List Sec) (x y : Int) : shA ss (k * x, k * y) = shA ss (x, y) := shA_congr fun s _ => hs_scale hk s x y
theorem shA_bd {ss : List Sec} (h : LValid ss = true) (v : Int × Int) : 0 ≤ (shA ss v).2 ∧ (shA ss v).2 ≤ 3000000 := showAt_bd (LV_ok h).1 _ _
theorem Seen_w (ss : List Sec) (A : Option Addr) (c : Nat) (ax ay px py : Int) (r : Int × Int) (w : World) (hr : Rd w w.heap.size 6 A (ss.map Sec.cells)) (hl : ss.length ≤ c) (hc : ss.length ≤ 100000000000000) (h : seenOf ss ax ay px py = r) :
    Calls Try.prog 25 #[.slice A ss.length c, pt ax ay, pt px py] w (Ret w (.tuple #[.int .i64 r.1, .int .i64 r.2])) := by
  have := Seen_any ss A c ax ay px py w hr hl hc
  rwa [h] at this
/-- What is seen along a direction. -/
def seenV (ss : List Sec) (x y : Int) : Int := if (shA ss (x, y)).2 * (shA ss (x, y)).2 < x * x + y * y then 0 else (shA ss (x, y)).1
theorem seenOf_ok {ss : List Sec} {ax ay px py : Int} (h : LValid ss = true) (h1 : plOk ax ay = true) (h2 : plOk px py = true) (h3 : ¬ (ax = px ∧ ay = py)) : seenOf ss ax ay px py = (seenV ss (px - ax) (py - ay), 0) := by
  unfold seenOf seenV
  rw [if_pos (by rw [h, h1, h2]; rfl), if_neg h3]
  show (if (shA ss (px - ax, py - ay)).2 * (shA ss (px - ax, py - ay)).2 < _ then ((0 : Int), (0 : Int)) else ((shA ss (px - ax, py - ay)).1, 0)) = _
  by_cases hc : (shA ss (px - ax, py - ay)).2 * (shA ss (px - ax, py - ay)).2 < (px - ax) * (px - ax) + (py - ay) * (py - ay)
  · rw [if_pos hc, if_pos hc]
  · rw [if_neg hc, if_neg hc]
theorem seenOf_err {ss : List Sec} {ax ay px py : Int} (h : (seenOf ss ax ay px py).2 ≠ 0) : (seenOf ss ax ay px py).1 = 0 := by
  unfold seenOf at h ⊢
  split
  · split
    · rfl
    · rename_i h1 h2
      rw [if_pos h1, if_neg h2] at h
      split at h <;> exact (h rfl).elim
  · rfl
theorem seenOf_in {ss : List Sec} {ax ay px py : Int} (h : (seenOf ss ax ay px py).2 = 0) : LValid ss = true ∧ plOk ax ay = true ∧ plOk px py = true ∧ ¬ (ax = px ∧ ay = py) := by
  unfold seenOf at h
  split at h
  · rename_i h1
    split at h
    · cases h
    · rename_i h2
      rw [Bool.and_eq_true, Bool.and_eq_true] at h1
      exact ⟨h1.1.1, h1.1.2, h1.2, h2⟩
  · cases h
theorem seenV_far {ss : List Sec} {x y : Int} (h : seenV ss (2 * x) (2 * y) ≠ 0) : seenV ss (2 * x) (2 * y) = seenV ss x y := by
  have e := shA_scale (k := 2) (by decide) ss x y
  unfold seenV at h ⊢
  rw [e] at h ⊢
  have e1 : 2 * x * (2 * x) = 4 * (x * x) := by rw [Int.mul_assoc, Int.mul_left_comm x 2 x, ← Int.mul_assoc]; rfl
  have e2 : 2 * y * (2 * y) = 4 * (y * y) := by rw [Int.mul_assoc, Int.mul_left_comm y 2 y, ← Int.mul_assoc]; rfl
  have g1 : 0 ≤ x * x := by rw [← Int.natAbs_mul_self' x]; exact Int.natCast_nonneg _ 
  have g2 : 0 ≤ y * y := by rw [← Int.natAbs_mul_self' y]; exact Int.natCast_nonneg _
  rw [e1, e2] at h ⊢
  split at h
  · exact (h rfl).elim
  · rename_i h1
    rw [if_neg h1, if_neg (by omega)]

set_option maxRecDepth 100000 in
set_option maxHeartbeats 4000000 in
theorem seenL_early (ss : List Sec) (A : Option Addr) (c : Nat) (p1 p2 q1 q2 b1 b2 : Int) (w : World) (hr : Rd w w.heap.size 6 A (ss.map Sec.cells)) (hl : ss.length ≤ c) (hc : ss.length ≤ 100000000000000)
    (h : ¬ ((seenOf ss p1 p2 q1 q2).2 = 0 ∧ withinB p1 p2 100000 = true ∧ withinB q1 q2 100000 = true)) :
    Calls Try.prog 10 #[.slice A ss.length c, pt p1 p2, pt q1 q2, pt b1 b2] w (Ret w (.bool true)) := by
  have hm := hmix
  obtain ⟨⟨r, e⟩, hre⟩ : ∃ re, seenOf ss p1 p2 q1 q2 = re := ⟨_, rfl⟩
  have k1 := hide (fun W (hg : Grew w W) => Seen_w ss A c p1 p2 q1 q2 _ W (hr.up hg) hl hc hre)
  have herr := @seenOf_err ss p1 p2 q1 q2
  rw [hre] at h herr
  dsimp only at h herr
  clear hre
  by_cases he : e = 0
  · subst he
    clear herr
    cases ha : withinB p1 p2 100000
    · have HA := hide ha
      clear h ha
      go_enter Try.func10, Try.ntmps10
      go_wp2_with (first | (go_at_call 11; (with_reducible refine (head_any _).mono ?_); rintro e w' ⟨rfl, ⟨_, _⟩, rfl⟩; dsimp only) | (go_at_call 25; (with_reducible refine (k1.out _ (by repeat (with_reducible first | exact Grew.refl _ | assumption | refine Grew.alloc ?_ _ | refine Grew.grow ?_ _ | refine Grew.dr ?_ _ | refine Grew.drewN ?_ _ | refine Grew.drew ?_ | refine Grew.trans ?_ (Hid.out (by assumption))))).mono ?_); rintro e w' ⟨rfl, ⟨_, _⟩, rfl⟩; dsimp only) | (go_at_call 28; (with_reducible refine (within_any _ _ 100000 _ (by omega)).mono ?_); rintro e w' ⟨rfl, ⟨_, _⟩, rfl⟩; dsimp only; rw [HA.out]))
      go_ret
      exact Ret.mk' rfl (by repeat (with_reducible first | exact Grew.refl _ | assumption | refine Grew.alloc ?_ _ | refine Grew.grow ?_ _ | refine Grew.dr ?_ _ | refine Grew.drewN ?_ _ | refine Grew.drew ?_ | refine Grew.trans ?_ (Hid.out (by assumption))))
    · cases hb : withinB q1 q2 100000
      · have HA := hide ha
        have HB := hide hb
        clear h ha hb
        go_enter Try.func10, Try.ntmps10
        go_wp2_with (first | (go_at_call 11; (with_reducible refine (head_any _).mono ?_); rintro e w' ⟨rfl, ⟨_, _⟩, rfl⟩; dsimp only) | (go_at_call 25; (with_reducible refine (k1.out _ (by repeat (with_reducible first | exact Grew.refl _ | assumption | refine Grew.alloc ?_ _ | refine Grew.grow ?_ _ | refine Grew.dr ?_ _ | refine Grew.drewN ?_ _ | refine Grew.drew ?_ | refine Grew.trans ?_ (Hid.out (by assumption))))).mono ?_); rintro e w' ⟨rfl, ⟨_, _⟩, rfl⟩; dsimp only) | (go_at_call 28; (with_reducible refine (within_any _ _ 100000 _ (by omega)).mono ?_); rintro e w' ⟨rfl, ⟨_, _⟩, rfl⟩; dsimp only; first | rw [HA.out] | rw [HB.out]))
        go_ret
        exact Ret.mk' rfl (by repeat (with_reducible first | exact Grew.refl _ | assumption | refine Grew.alloc ?_ _ | refine Grew.grow ?_ _ | refine Grew.dr ?_ _ | refine Grew.drewN ?_ _ | refine Grew.drew ?_ | refine Grew.trans ?_ (Hid.out (by assumption))))
      · exact (h ⟨rfl, ha, hb⟩).elim
  · obtain rfl := herr he
    clear h herr
    have he' : (e == 0) = false := by simpa using he
    go_enter Try.func10, Try.ntmps10
    go_wp2_with (first | (go_at_call 11; (with_reducible refine (head_any _).mono ?_); rintro e w' ⟨rfl, ⟨_, _⟩, rfl⟩; dsimp only) | (go_at_call 25; (with_reducible refine (k1.out _ (by repeat (with_reducible first | exact Grew.refl _ | assumption | refine Grew.alloc ?_ _ | refine Grew.grow ?_ _ | refine Grew.dr ?_ _ | refine Grew.drewN ?_ _ | refine Grew.drew ?_ | refine Grew.trans ?_ (Hid.out (by assumption))))).mono ?_); rintro e w' ⟨rfl, ⟨_, _⟩, rfl⟩; dsimp only))
    go_ret
    exact Ret.mk' rfl (by repeat (with_reducible first | exact Grew.refl _ | assumption | refine Grew.alloc ?_ _ | refine Grew.grow ?_ _ | refine Grew.dr ?_ _ | refine Grew.drewN ?_ _ | refine Grew.drew ?_ | refine Grew.trans ?_ (Hid.out (by assumption))))

theorem bd_of {a b : Int} {n : Int} (h : withinB a b n = true) : -n ≤ a ∧ a ≤ n ∧ -n ≤ b ∧ b ≤ n := by simpa [withinB] using h
theorem sub_ne {p1 p2 q1 q2 : Int} (h : ¬ (p1 = q1 ∧ p2 = q2)) : (q1 - p1 ≠ 0 ∨ q2 - p2 ≠ 0) := by omega

set_option maxRecDepth 100000 in
set_option maxHeartbeats 8000000 in
theorem seenL_late (ss : List Sec) (A : Option Addr) (c : Nat) (p1 p2 q1 q2 b1 b2 : Int) (w : World) (hr : Rd w w.heap.size 6 A (ss.map Sec.cells)) (hl : ss.length ≤ c) (hc : ss.length ≤ 100000000000000)
    (h1 : (seenOf ss p1 p2 q1 q2).2 = 0) (h2 : withinB p1 p2 100000 = true) (h3 : withinB q1 q2 100000 = true) :
    Calls Try.prog 10 #[.slice A ss.length c, pt p1 p2, pt q1 q2, pt b1 b2] w (Ret w (.bool true)) := by
  have hm := hmix
  obtain ⟨hv, hp, hq, hne⟩ := seenOf_in h1
  have bp := bd_of h2
  have bq := bd_of h3
  obtain ⟨x, hx⟩ : ∃ x, q1 - p1 = x := ⟨_, rfl⟩
  obtain ⟨y, hy⟩ : ∃ y, q2 - p2 = y := ⟨_, rfl⟩
  have hnz := sub_ne hne
  rw [hx, hy] at hnz
  have hdir : dirOk x y = true := by simp [dirOk]; omega
  obtain ⟨⟨d, r⟩, hdr⟩ : ∃ dr, shA ss (x, y) = dr := ⟨_, rfl⟩
  have hrb := shA_bd hv (x, y)
  rw [hdr] at hrb
  dsimp only at hrb
  obtain ⟨s, hs⟩ : ∃ s, seenV ss x y = s := ⟨_, rfl⟩
  obtain ⟨t, ht⟩ : ∃ t, seenV ss (2 * x) (2 * y) = t := ⟨_, rfl⟩
  have hsd : s = if r * r < x * x + y * y then 0 else d := by rw [← hs]; unfold seenV; rw [hdr]
  have hts : t = 0 ∨ t = s := by
    rcases Decidable.em (t = 0) with h | h
    · exact .inl h
    · rw [← ht] at h
      exact .inr (by rw [← ht, seenV_far h, hs])
  have k1 := hide (fun W (hg : Grew w W) => Seen_w ss A c p1 p2 q1 q2 (s, 0) W (hr.up hg) hl hc (by rw [seenOf_ok hv hp hq hne, hx, hy, hs]))
  have k2 := hide (fun W (hg : Grew w W) => Color_w ss A c x y (d, r, 0) W (hr.up hg) hl hc (by rw [color_ok hv hdir, hdr]))
  have k3 := hide (fun W (hg : Grew w W) => Seen_w ss A c p1 p2 (p1 + 2 * x) (p2 + 2 * y) (t, 0) W (hr.up hg) hl hc (by
    rw [seenOf_ok hv hp (by simp [plOk]; omega) (by omega), show p1 + 2 * x - p1 = 2 * x by omega, show p2 + 2 * y - p2 = 2 * y by omega, ht]))
  have k4 := hide (fun (hb : withinB b1 b2 100000 = true) W (hg : Grew w W) => Seen_w ss A c (p1 + b1) (p2 + b2) (q1 + b1) (q2 + b2) (s, 0) W (hr.up hg) hl hc (by
    have bb := bd_of hb
    rw [seenOf_ok hv (by simp [plOk]; omega) (by simp [plOk]; omega) (by omega), show q1 + b1 - (p1 + b1) = x by omega, show q2 + b2 - (p2 + b2) = y by omega, hs]))
  have HA := hide h2
  have HB := hide h3
  have q1' := mul_bd (a := x) (b := x) 200000 200000 (by omega) (by omega)
  have q2' := mul_bd (a := y) (b := y) 200000 200000 (by omega) (by omega)
  have q3' := mul_bd (a := r) (b := r) 3000000 3000000 (by omega) (by omega)
  simp only [Nat.reduceMul, Int.reduceNeg, Int.cast_ofNat_Int] at q1' q2' q3'
  have bx : -200000 ≤ x ∧ x ≤ 200000 := by omega
  have by' : -200000 ≤ y ∧ y ≤ 200000 := by omega
  have w1 : IntKind.i64.wrap (2 * x) = 2 * x := by unfold IntKind.wrap; simp [IntKind.bits, IntKind.signed]; omega
  have w2 : IntKind.i64.wrap (2 * y) = 2 * y := by unfold IntKind.wrap; simp [IntKind.bits, IntKind.signed]; omega
  have w3 : IntKind.i64.wrap (p1 + 2 * x) = p1 + 2 * x := by unfold IntKind.wrap; simp [IntKind.bits, IntKind.signed]; omega
  have w4 : IntKind.i64.wrap (p2 + 2 * y) = p2 + 2 * y := by unfold IntKind.wrap; simp [IntKind.bits, IntKind.signed]; omega
  clear h1 h2 h3 hne hnz hdir hdr hs ht hp hq hv
  have hcase : (decide (r * r < x * x + y * y) = true ∧ s = 0 ∧ t = 0 ∧ d = 0) ∨ (decide (r * r < x * x + y * y) = true ∧ s = 0 ∧ t = 0 ∧ (d == 0) = false) ∨ (decide (r * r < x * x + y * y) = false ∧ s = 0 ∧ t = 0 ∧ d = 0) ∨ (decide (r * r < x * x + y * y) = false ∧ s = d ∧ t = 0 ∧ (d == 0) = false) ∨ (decide (r * r < x * x + y * y) = false ∧ s = d ∧ t = d ∧ (d == 0) = false) := by
    by_cases hf : r * r < x * x + y * y
    · rw [if_pos hf] at hsd
      by_cases hd : d = 0
      · exact .inl ⟨by simpa using hf, hsd, by omega, hd⟩
      · exact .inr (.inl ⟨by simpa using hf, hsd, by omega, by simpa using hd⟩)
    · rw [if_neg hf] at hsd
      refine .inr (.inr ?_)
      by_cases hd : d = 0
      · exact .inl ⟨by simpa using hf, by omega, by omega, hd⟩
      · refine .inr ?_
        rcases hts with h | h
        · exact .inl ⟨by simpa using hf, hsd, h, by simpa using hd⟩
        · exact .inr ⟨by simpa using hf, hsd, by omega, by simpa using hd⟩
  clear hsd hts
  cases hb : withinB b1 b2 100000
  · have HC := hide hb
    clear hb
    rcases hcase with ⟨hf, rfl, rfl, rfl⟩ | ⟨hf, rfl, rfl, hd⟩ | ⟨hf, rfl, rfl, rfl⟩ | ⟨hf, rfl, rfl, hd⟩ | ⟨hf, rfl, rfl, hd⟩
    all_goals
      go_enter Try.func10, Try.ntmps10
      go_wp2_with (first | (go_at_call 11; (with_reducible refine (head_any _).mono ?_); rintro e w' ⟨rfl, ⟨_, _⟩, rfl⟩; dsimp only) | (go_at_call 29; (with_reducible refine (at_any _ _ _).mono ?_); rintro e w' ⟨rfl, ⟨_, _⟩, rfl⟩; dsimp only) | (go_at_call 25; (with_reducible refine (k1.out _ (by repeat (with_reducible first | exact Grew.refl _ | assumption | refine Grew.alloc ?_ _ | refine Grew.grow ?_ _ | refine Grew.dr ?_ _ | refine Grew.drewN ?_ _ | refine Grew.drew ?_ | refine Grew.trans ?_ (Hid.out (by assumption))))).mono ?_); rintro e w' ⟨rfl, ⟨_, _⟩, rfl⟩; dsimp only) | (go_at_call 16; (with_reducible refine (k2.out _ (by repeat (with_reducible first | exact Grew.refl _ | assumption | refine Grew.alloc ?_ _ | refine Grew.grow ?_ _ | refine Grew.dr ?_ _ | refine Grew.drewN ?_ _ | refine Grew.drew ?_ | refine Grew.trans ?_ (Hid.out (by assumption))))).mono ?_); rintro e w' ⟨rfl, ⟨_, _⟩, rfl⟩; dsimp only) | (go_at_call 28; (with_reducible refine (within_any _ _ 100000 _ (by omega)).mono ?_); rintro e w' ⟨rfl, ⟨_, _⟩, rfl⟩; dsimp only; first | rw [HA.out] | rw [HB.out] | rw [HC.out]))
      refine wp_region_qas 21 [] [] hm (by kernel_rfl) (by simp only [List.take, List.filter, isQ]; rfl) (by simp only [List.drop]; rfl) ZOk.nil (by simp) ?_
      repeat (refine wpSteady_step (fun K hK => ?_); go_simp; first | (refine hK _ ?_; clear hK K) | (apply Exists.intro; refine ⟨fun _ => ?_, hK _ ?_⟩; (first | (go_at_call 29; with_reducible exact at_any _ _ _) | (go_at_call 25; with_reducible exact k3.out _ (by repeat (with_reducible first | exact Grew.refl _ | assumption | refine Grew.alloc ?_ _ | refine Grew.grow ?_ _ | refine Grew.dr ?_ _ | refine Grew.drewN ?_ _ | refine Grew.drew ?_ | refine Grew.trans ?_ (Hid.out (by assumption)))))); clear hK K))
      refine wpSteady_nil ?_
      refine ⟨StOk.nil, LyOk.nil, ?_⟩
      rintro psq qsq Wq HWq HFq HBq
      obtain rfl : qsq = [] := HBq
      obtain rfl : psq = [] := HFq
      obtain ⟨⟨nq, osq⟩, rfl⟩ := HWq
      simp only [putAll, putB, Act.put, List.setIfInBounds_toArray, List.set_cons_succ, List.set_cons_zero]
      try dsimp only
      go_wp2_with (go_at_call 28; (with_reducible refine (within_any _ _ 100000 _ (by omega)).mono ?_); rintro e w' ⟨rfl, ⟨_, _⟩, rfl⟩; dsimp only; first | rw [HA.out] | rw [HB.out] | rw [HC.out])
      go_ret
      exact Ret.mk' (ret_bool (by simp [*])) (by repeat (with_reducible first | exact Grew.refl _ | assumption | refine Grew.alloc ?_ _ | refine Grew.grow ?_ _ | refine Grew.dr ?_ _ | refine Grew.drewN ?_ _ | refine Grew.drew ?_ | refine Grew.trans ?_ (Hid.out (by assumption))))
  · have bb := bd_of hb
    have k5 := hide (k4.out hb)
    have HC := hide hb
    have v1 : IntKind.i64.wrap (p1 + b1) = p1 + b1 := by unfold IntKind.wrap; simp [IntKind.bits, IntKind.signed]; omega
    have v2 : IntKind.i64.wrap (p2 + b2) = p2 + b2 := by unfold IntKind.wrap; simp [IntKind.bits, IntKind.signed]; omega
    have v3 : IntKind.i64.wrap (q1 + b1) = q1 + b1 := by unfold IntKind.wrap; simp [IntKind.bits, IntKind.signed]; omega
    have v4 : IntKind.i64.wrap (q2 + b2) = q2 + b2 := by unfold IntKind.wrap; simp [IntKind.bits, IntKind.signed]; omega
    clear hb k4
    rcases hcase with ⟨hf, rfl, rfl, rfl⟩ | ⟨hf, rfl, rfl, hd⟩ | ⟨hf, rfl, rfl, rfl⟩ | ⟨hf, rfl, rfl, hd⟩ | ⟨hf, rfl, rfl, hd⟩
    all_goals
      go_enter Try.func10, Try.ntmps10
      go_wp2_with (first | (go_at_call 11; (with_reducible refine (head_any _).mono ?_); rintro e w' ⟨rfl, ⟨_, _⟩, rfl⟩; dsimp only) | (go_at_call 29; (with_reducible refine (at_any _ _ _).mono ?_); rintro e w' ⟨rfl, ⟨_, _⟩, rfl⟩; dsimp only) | (go_at_call 25; (with_reducible refine (k1.out _ (by repeat (with_reducible first | exact Grew.refl _ | assumption | refine Grew.alloc ?_ _ | refine Grew.grow ?_ _ | refine Grew.dr ?_ _ | refine Grew.drewN ?_ _ | refine Grew.drew ?_ | refine Grew.trans ?_ (Hid.out (by assumption))))).mono ?_); rintro e w' ⟨rfl, ⟨_, _⟩, rfl⟩; dsimp only) | (go_at_call 16; (with_reducible refine (k2.out _ (by repeat (with_reducible first | exact Grew.refl _ | assumption | refine Grew.alloc ?_ _ | refine Grew.grow ?_ _ | refine Grew.dr ?_ _ | refine Grew.drewN ?_ _ | refine Grew.drew ?_ | refine Grew.trans ?_ (Hid.out (by assumption))))).mono ?_); rintro e w' ⟨rfl, ⟨_, _⟩, rfl⟩; dsimp only) | (go_at_call 28; (with_reducible refine (within_any _ _ 100000 _ (by omega)).mono ?_); rintro e w' ⟨rfl, ⟨_, _⟩, rfl⟩; dsimp only; first | rw [HA.out] | rw [HB.out] | rw [HC.out]))
      refine wp_region_qas 21 [] [] hm (by kernel_rfl) (by simp only [List.take, List.filter, isQ]; rfl) (by simp only [List.drop]; rfl) ZOk.nil (by simp) ?_
      repeat (refine wpSteady_step (fun K hK => ?_); go_simp; first | (refine hK _ ?_; clear hK K) | (apply Exists.intro; refine ⟨fun _ => ?_, hK _ ?_⟩; (first | (go_at_call 29; with_reducible exact at_any _ _ _) | (go_at_call 25; with_reducible exact k3.out _ (by repeat (with_reducible first | exact Grew.refl _ | assumption | refine Grew.alloc ?_ _ | refine Grew.grow ?_ _ | refine Grew.dr ?_ _ | refine Grew.drewN ?_ _ | refine Grew.drew ?_ | refine Grew.trans ?_ (Hid.out (by assumption)))))); clear hK K))
      refine wpSteady_nil ?_
      refine ⟨StOk.nil, LyOk.nil, ?_⟩
      rintro psq qsq Wq HWq HFq HBq
      obtain rfl : qsq = [] := HBq
      obtain rfl : psq = [] := HFq
      obtain ⟨⟨nq, osq⟩, rfl⟩ := HWq
      simp only [putAll, putB, Act.put, List.setIfInBounds_toArray, List.set_cons_succ, List.set_cons_zero]
      try dsimp only
      go_wp2_with (go_at_call 28; (with_reducible refine (within_any _ _ 100000 _ (by omega)).mono ?_); rintro e w' ⟨rfl, ⟨_, _⟩, rfl⟩; dsimp only; first | rw [HA.out] | rw [HB.out] | rw [HC.out])
      refine wp_region_qas 29 [] [] hm (by kernel_rfl) (by simp only [List.take, List.filter, isQ]; rfl) (by simp only [List.drop]; rfl) ZOk.nil (by simp) ?_
      repeat (refine wpSteady_step (fun K hK => ?_); go_simp; first | (refine hK _ ?_; clear hK K) | (apply Exists.intro; refine ⟨fun _ => ?_, hK _ ?_⟩; (first | (go_at_call 29; with_reducible exact at_any _ _ _) | (go_at_call 25; with_reducible exact k5.out _ (by repeat (with_reducible first | exact Grew.refl _ | assumption | refine Grew.alloc ?_ _ | refine Grew.grow ?_ _ | refine Grew.dr ?_ _ | refine Grew.drewN ?_ _ | refine Grew.drew ?_ | refine Grew.trans ?_ (Hid.out (by assumption)))))); clear hK K))
      refine wpSteady_nil ?_
      refine ⟨StOk.nil, LyOk.nil, ?_⟩
      rintro psq qsq Wqz HWqz HFq HBq
      obtain rfl : qsq = [] := HBq
      obtain rfl : psq = [] := HFq
      obtain ⟨⟨nqz, osqz⟩, rfl⟩ := HWqz
      simp only [putAll, putB, Act.put, List.setIfInBounds_toArray, List.set_cons_succ, List.set_cons_zero]
      try dsimp only
      go_wp2_with fail
      go_ret
      exact Ret.mk' (ret_bool (by simp [*])) (by repeat (with_reducible first | exact Grew.refl _ | assumption | refine Grew.alloc ?_ _ | refine Grew.grow ?_ _ | refine Grew.dr ?_ _ | refine Grew.drewN ?_ _ | refine Grew.drew ?_ | refine Grew.trans ?_ (Hid.out (by assumption))))
theorem seenL_any (ss : List Sec) (A : Option Addr) (c : Nat) (p1 p2 q1 q2 b1 b2 : Int) (w : World) (hr : Rd w w.heap.size 6 A (ss.map Sec.cells)) (hl : ss.length ≤ c) (hc : ss.length ≤ 100000000000000) :
    Calls Try.prog 10 #[.slice A ss.length c, pt p1 p2, pt q1 q2, pt b1 b2] w (Ret w (.bool true)) := by
  by_cases h : (seenOf ss p1 p2 q1 q2).2 = 0 ∧ withinB p1 p2 100000 = true ∧ withinB q1 q2 100000 = true
  · exact seenL_late ss A c p1 p2 q1 q2 b1 b2 w hr hl hc h.1 h.2.1 h.2.2
  · exact seenL_early ss A c p1 p2 q1 q2 b1 b2 w hr hl hc h
end Go.Proofs.Ytgcgaplhaglejaa
