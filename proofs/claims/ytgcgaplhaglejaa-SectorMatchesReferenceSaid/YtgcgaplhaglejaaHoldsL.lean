/- SectorHolds: the plain law and the walk. -/
import Derived.Test.YtgcgaplhaglejaaTurning
import Derived.Test.YtgcgaplhaglejaaPlainA
namespace Go.Proofs.Ytgcgaplhaglejaa
set_option linter.unusedVariables false
set_option linter.unusedSimpArgs false
open Go.RowKit Go.Sort
attribute [local go_sem] Steady steadyUpon
attribute [local go_sem ↓] hs_dr lt_add_r lt_add_r2 lt_add_r3 lt_add_r4 lt_add_r5 lt_add_r6
attribute [local go_sem] cell?_gd frozen?_gd setCell_gd size_grow tape_grow cell?_grow' frozen?_grow' setCell_grow' grow_grow grow_dr grow_drew dr_dr dr_drew drew_dr dr_alloc dr_setCell dr_cell dr_frozen dr_tape dr_drawn

theorem LV_nzs {ss : List Sec} (h : LValid ss = true) : NZs ss := nzs_of (LV_ok h).1
theorem holdsOf_ok {sa sb : List Sec} {col : Int} (h : (LValid sa && LValid sb && colOk col) = true) : holdsOf sa sb col = ((turnsOf (sa ++ sb)).all (holdsAt sa sb col), 0) := by unfold holdsOf; rw [if_pos h]
theorem holdsOf_no {sa sb : List Sec} {col : Int} (h : (LValid sa && LValid sb && colOk col) = false) : holdsOf sa sb col = (false, 1) := by unfold holdsOf; rw [if_neg (by rw [h]; simp)]
theorem colOk_le {col : Int} (h : colOk col = true) : 1 ≤ col := by simp [colOk] at h; omega
theorem holds_self {sa : List Sec} {col : Int} (h : LValid sa = true) (hc : colOk col = true) : holdsOf sa sa col = (true, 0) := by
  rw [holdsOf_ok (by rw [h, hc]; rfl), (holds_iff (LV_nzs h) (LV_nzs h) (colOk_le hc)).2 fun v _ => holdsAt_iff.2 fun h => ⟨h, Int.le_refl _⟩]
theorem holds_trans {sa sb sc : List Sec} {col : Int} (ha : LValid sa = true) (hb : LValid sb = true) (hd : LValid sc = true) (hc : colOk col = true) (h1 : (holdsOf sa sb col).1 = true) (h2 : (holdsOf sb sc col).1 = true) : (holdsOf sa sc col).1 = true := by
  rw [holdsOf_ok (by rw [ha, hb, hc]; rfl)] at h1
  rw [holdsOf_ok (by rw [hb, hd, hc]; rfl)] at h2
  rw [holdsOf_ok (by rw [ha, hd, hc]; rfl)]
  have k1 := (holds_iff (LV_nzs ha) (LV_nzs hb) (colOk_le hc)).1 h1
  have k2 := (holds_iff (LV_nzs hb) (LV_nzs hd) (colOk_le hc)).1 h2
  refine (holds_iff (LV_nzs ha) (LV_nzs hd) (colOk_le hc)).2 fun v hv => holdsAt_iff.2 fun h => ?_
  obtain ⟨a1, a2⟩ := holdsAt_iff.1 (k1 v hv) h
  obtain ⟨b1, b2⟩ := holdsAt_iff.1 (k2 v hv) a1
  exact ⟨b1, by omega⟩
theorem Holds_v (sa sb : List Sec) (A A' : Option Addr) (c c' : Nat) (col : Int) (r : Bool × Int) (w : World) (hra : Rd w w.heap.size 6 A (sa.map Sec.cells)) (hrb : Rd w w.heap.size 6 A' (sb.map Sec.cells)) (hla : sa.length ≤ c) (hlb : sb.length ≤ c') (hc : sa.length ≤ 100000000000000) (hc' : sb.length ≤ 100000000000000) (h : holdsOf sa sb col = r) :
    Calls Try.prog 18 #[.slice A sa.length c, .slice A' sb.length c', .int .i64 col] w (Ret w (.tuple #[.bool r.1, .int .i64 r.2])) := by
  have := Holds_any sa sb A A' c c' col w hra hrb hla hlb hc hc'
  rwa [h] at this
theorem Color_w (ss : List Sec) (A : Option Addr) (c : Nat) (x y : Int) (r : Int × Int × Int) (w : World) (hr : Rd w w.heap.size 6 A (ss.map Sec.cells)) (hl : ss.length ≤ c) (hc : ss.length ≤ 100000000000000) (h : colorOf ss x y = r) :
    Calls Try.prog 16 #[.slice A ss.length c, pt x y] w (Ret w (.tuple #[.int .i64 r.1, .int .i64 r.2.1, .int .i64 r.2.2])) := by
  have := Color_any ss A c x y w hr hl hc
  rwa [h] at this
theorem color_ok {ss : List Sec} {x y : Int} (h : LValid ss = true) (h2 : dirOk x y = true) : colorOf ss x y = ((shA ss (x, y)).1, (shA ss (x, y)).2, 0) := by unfold colorOf; rw [if_pos (by rw [h, h2]; rfl)]; rfl
theorem color_no {ss : List Sec} {x y : Int} (h : (LValid ss && dirOk x y) = false) : colorOf ss x y = (0, 0, 1) := by unfold colorOf; rw [if_neg (by rw [h]; simp)]

set_option maxRecDepth 100000 in
set_option maxHeartbeats 2000000 in
theorem holdsL_no (sa sb sc : List Sec) (A B C : Option Addr) (ca cb cc : Nat) (col v1 v2 : Int) (w : World) (hra : Rd w w.heap.size 6 A (sa.map Sec.cells)) (hla : sa.length ≤ ca) (hca : sa.length ≤ 100000000000000)
    (hrb : Rd w w.heap.size 6 B (sb.map Sec.cells)) (hlb : sb.length ≤ cb) (hcb : sb.length ≤ 100000000000000) (hrc : Rd w w.heap.size 6 C (sc.map Sec.cells)) (hlc : sc.length ≤ cc) (hcc : sc.length ≤ 100000000000000)
    (h : (LValid sa && LValid sb && colOk col) = false) :
    Calls Try.prog 6 #[.slice A sa.length ca, .slice B sb.length cb, .slice C sc.length cc, .int .i64 col, pt v1 v2] w (Ret w (.bool true)) := by
  have hm := hmix
  have q1 := hide (fun W (hg : Grew w W) => Holds_v sa sb A B ca cb col _ W (hra.up hg) (hrb.up hg) hla hlb hca hcb (holdsOf_no h))
  obtain ⟨y, hy⟩ : ∃ y, holdsOf sb sc col = y := ⟨_, rfl⟩
  obtain ⟨z, hz⟩ : ∃ z, holdsOf sa sc col = z := ⟨_, rfl⟩
  have q2 := hide (fun W (hg : Grew w W) => Holds_v sb sc B C cb cc col _ W (hrb.up hg) (hrc.up hg) hlb hlc hcb hcc hy)
  have q3 := hide (fun W (hg : Grew w W) => Holds_v sa sc A C ca cc col _ W (hra.up hg) (hrc.up hg) hla hlc hca hcc hz)
  clear h hy hz
  go_enter Try.func6, Try.ntmps6
  go_wp2_with (first | (go_at_call 11; (with_reducible refine (head_any _).mono ?_); rintro e w' ⟨rfl, ⟨_, _⟩, rfl⟩; dsimp only) | (go_at_call 18; (with_reducible refine (q1.out _ (by repeat (with_reducible first | exact Grew.refl _ | assumption | refine Grew.alloc ?_ _ | refine Grew.grow ?_ _ | refine Grew.dr ?_ _ | refine Grew.drewN ?_ _ | refine Grew.drew ?_ | refine Grew.trans ?_ (Hid.out (by assumption))))).mono ?_); rintro e w' ⟨rfl, ⟨_, _⟩, rfl⟩; dsimp only) | (go_at_call 18; (with_reducible refine (q2.out _ (by repeat (with_reducible first | exact Grew.refl _ | assumption | refine Grew.alloc ?_ _ | refine Grew.grow ?_ _ | refine Grew.dr ?_ _ | refine Grew.drewN ?_ _ | refine Grew.drew ?_ | refine Grew.trans ?_ (Hid.out (by assumption))))).mono ?_); rintro e w' ⟨rfl, ⟨_, _⟩, rfl⟩; dsimp only) | (go_at_call 18; (with_reducible refine (q3.out _ (by repeat (with_reducible first | exact Grew.refl _ | assumption | refine Grew.alloc ?_ _ | refine Grew.grow ?_ _ | refine Grew.dr ?_ _ | refine Grew.drewN ?_ _ | refine Grew.drew ?_ | refine Grew.trans ?_ (Hid.out (by assumption))))).mono ?_); rintro e w' ⟨rfl, ⟨_, _⟩, rfl⟩; dsimp only))
  go_ret
  exact Ret.mk' rfl (by repeat (with_reducible first | exact Grew.refl _ | assumption | refine Grew.alloc ?_ _ | refine Grew.grow ?_ _ | refine Grew.dr ?_ _ | refine Grew.drewN ?_ _ | refine Grew.drew ?_ | refine Grew.trans ?_ (Hid.out (by assumption))))

set_option maxRecDepth 100000 in
set_option maxHeartbeats 8000000 in
theorem holdsL_yes (sa sb sc : List Sec) (A B C : Option Addr) (ca cb cc : Nat) (col v1 v2 : Int) (w : World) (hra : Rd w w.heap.size 6 A (sa.map Sec.cells)) (hla : sa.length ≤ ca) (hca : sa.length ≤ 100000000000000)
    (hrb : Rd w w.heap.size 6 B (sb.map Sec.cells)) (hlb : sb.length ≤ cb) (hcb : sb.length ≤ 100000000000000) (hrc : Rd w w.heap.size 6 C (sc.map Sec.cells)) (hlc : sc.length ≤ cc) (hcc : sc.length ≤ 100000000000000)
    (h : (LValid sa && LValid sb && colOk col) = true) :
    Calls Try.prog 6 #[.slice A sa.length ca, .slice B sb.length cb, .slice C sc.length cc, .int .i64 col, pt v1 v2] w (Ret w (.bool true)) := by
  have hm := hmix
  have hd := h
  rw [Bool.and_eq_true, Bool.and_eq_true] at hd
  obtain ⟨⟨va, vb⟩, vcol⟩ := hd
  obtain ⟨x, hx⟩ : ∃ x, (holdsOf sa sb col).1 = x := ⟨_, rfl⟩
  have hx2 : holdsOf sa sb col = (x, 0) := by rw [← hx, holdsOf_ok h]
  have q1 := hide (fun W (hg : Grew w W) => Holds_v sa sb A B ca cb col _ W (hra.up hg) (hrb.up hg) hla hlb hca hcb hx2)
  have q4 := hide (fun W (hg : Grew w W) => Holds_v sa sa A A ca ca col _ W (hra.up hg) (hra.up hg) hla hla hca hca (holds_self va vcol))
  obtain ⟨y, z, e, hy, hz, hxyz⟩ : ∃ (y z : Bool) (e : Int), holdsOf sb sc col = (y, e) ∧ holdsOf sa sc col = (z, e) ∧ ((e = 1) ∨ (e = 0 ∧ (x = false ∨ y = false ∨ z = true))) := by
    cases vc : LValid sc
    · exact ⟨false, false, 1, holdsOf_no (by rw [vc]; simp), holdsOf_no (by rw [vc]; simp), .inl rfl⟩
    · refine ⟨(holdsOf sb sc col).1, (holdsOf sa sc col).1, 0, by rw [holdsOf_ok (by rw [vb, vc, vcol]; rfl)], by rw [holdsOf_ok (by rw [va, vc, vcol]; rfl)], .inr ⟨rfl, ?_⟩⟩
      cases hx3 : x
      · exact .inl rfl
      · cases hy3 : (holdsOf sb sc col).1
        · exact .inr (.inl rfl)
        · exact .inr (.inr (holds_trans va vb vc vcol (hx.trans hx3) hy3))
  have q2 := hide (fun W (hg : Grew w W) => Holds_v sb sc B C cb cc col _ W (hrb.up hg) (hrc.up hg) hlb hlc hcb hcc hy)
  have q3 := hide (fun W (hg : Grew w W) => Holds_v sa sc A C ca cc col _ W (hra.up hg) (hrc.up hg) hla hlc hca hcc hz)
  clear hy hz
  obtain ⟨i, j, l, m, k, hi, hl, hfin⟩ : ∃ (i j l m k : Int), colorOf sa v1 v2 = (i, j, k) ∧ colorOf sb v1 v2 = (l, m, k) ∧ ((k = 1) ∨ (k = 0 ∧ (x = false ∨ i ≠ col ∨ (i = col ∧ l = col ∧ j ≤ m)))) := by
    cases hv : dirOk v1 v2
    · exact ⟨0, 0, 0, 0, 1, color_no (by rw [hv]; simp), color_no (by rw [hv]; simp), .inl rfl⟩
    · refine ⟨_, _, _, _, 0, color_ok va hv, color_ok vb hv, .inr ⟨rfl, ?_⟩⟩
      cases hx3 : x
      · exact .inl rfl
      · refine .inr ?_
        have hh := hx.trans hx3
        rw [holdsOf_ok h] at hh
        have := holdsAt_iff.1 ((holds_iff (LV_nzs va) (LV_nzs vb) (colOk_le vcol)).1 hh (v1, v2) (nz_dir hv))
        by_cases hic : (shA sa (v1, v2)).1 = col
        · exact .inr ⟨hic, this hic⟩
        · exact .inl hic
  have q5 := hide (fun W (hg : Grew w W) => Color_w sa A ca v1 v2 _ W (hra.up hg) hla hca hi)
  have q6 := hide (fun W (hg : Grew w W) => Color_w sb B cb v1 v2 _ W (hrb.up hg) hlb hcb hl)
  clear hi hl hx hx2 h va vb vcol
  rcases hxyz with rfl | ⟨rfl, hxyz⟩ <;> rcases hfin with rfl | ⟨rfl, hfin⟩
  · go_enter Try.func6, Try.ntmps6
    go_wp2_with (first | (go_at_call 11; (with_reducible refine (head_any _).mono ?_); rintro e w' ⟨rfl, ⟨_, _⟩, rfl⟩; dsimp only) | (go_at_call 18; (with_reducible refine (q1.out _ (by repeat (with_reducible first | exact Grew.refl _ | assumption | refine Grew.alloc ?_ _ | refine Grew.grow ?_ _ | refine Grew.dr ?_ _ | refine Grew.drewN ?_ _ | refine Grew.drew ?_ | refine Grew.trans ?_ (Hid.out (by assumption))))).mono ?_); rintro e w' ⟨rfl, ⟨_, _⟩, rfl⟩; dsimp only) | (go_at_call 18; (with_reducible refine (q2.out _ (by repeat (with_reducible first | exact Grew.refl _ | assumption | refine Grew.alloc ?_ _ | refine Grew.grow ?_ _ | refine Grew.dr ?_ _ | refine Grew.drewN ?_ _ | refine Grew.drew ?_ | refine Grew.trans ?_ (Hid.out (by assumption))))).mono ?_); rintro e w' ⟨rfl, ⟨_, _⟩, rfl⟩; dsimp only) | (go_at_call 18; (with_reducible refine (q3.out _ (by repeat (with_reducible first | exact Grew.refl _ | assumption | refine Grew.alloc ?_ _ | refine Grew.grow ?_ _ | refine Grew.dr ?_ _ | refine Grew.drewN ?_ _ | refine Grew.drew ?_ | refine Grew.trans ?_ (Hid.out (by assumption))))).mono ?_); rintro e w' ⟨rfl, ⟨_, _⟩, rfl⟩; dsimp only) | (go_at_call 18; (with_reducible refine (q4.out _ (by repeat (with_reducible first | exact Grew.refl _ | assumption | refine Grew.alloc ?_ _ | refine Grew.grow ?_ _ | refine Grew.dr ?_ _ | refine Grew.drewN ?_ _ | refine Grew.drew ?_ | refine Grew.trans ?_ (Hid.out (by assumption))))).mono ?_); rintro e w' ⟨rfl, ⟨_, _⟩, rfl⟩; dsimp only) | (go_at_call 16; (with_reducible refine (q5.out _ (by repeat (with_reducible first | exact Grew.refl _ | assumption | refine Grew.alloc ?_ _ | refine Grew.grow ?_ _ | refine Grew.dr ?_ _ | refine Grew.drewN ?_ _ | refine Grew.drew ?_ | refine Grew.trans ?_ (Hid.out (by assumption))))).mono ?_); rintro e w' ⟨rfl, ⟨_, _⟩, rfl⟩; dsimp only) | (go_at_call 16; (with_reducible refine (q6.out _ (by repeat (with_reducible first | exact Grew.refl _ | assumption | refine Grew.alloc ?_ _ | refine Grew.grow ?_ _ | refine Grew.dr ?_ _ | refine Grew.drewN ?_ _ | refine Grew.drew ?_ | refine Grew.trans ?_ (Hid.out (by assumption))))).mono ?_); rintro e w' ⟨rfl, ⟨_, _⟩, rfl⟩; dsimp only))
    go_ret
    exact Ret.mk' rfl (by repeat (with_reducible first | exact Grew.refl _ | assumption | refine Grew.alloc ?_ _ | refine Grew.grow ?_ _ | refine Grew.dr ?_ _ | refine Grew.drewN ?_ _ | refine Grew.drew ?_ | refine Grew.trans ?_ (Hid.out (by assumption))))
  · rcases hfin with rfl | hfin | ⟨rfl, rfl, hfin⟩
    · go_enter Try.func6, Try.ntmps6
      go_wp2_with (first | (go_at_call 11; (with_reducible refine (head_any _).mono ?_); rintro e w' ⟨rfl, ⟨_, _⟩, rfl⟩; dsimp only) | (go_at_call 18; (with_reducible refine (q1.out _ (by repeat (with_reducible first | exact Grew.refl _ | assumption | refine Grew.alloc ?_ _ | refine Grew.grow ?_ _ | refine Grew.dr ?_ _ | refine Grew.drewN ?_ _ | refine Grew.drew ?_ | refine Grew.trans ?_ (Hid.out (by assumption))))).mono ?_); rintro e w' ⟨rfl, ⟨_, _⟩, rfl⟩; dsimp only) | (go_at_call 18; (with_reducible refine (q2.out _ (by repeat (with_reducible first | exact Grew.refl _ | assumption | refine Grew.alloc ?_ _ | refine Grew.grow ?_ _ | refine Grew.dr ?_ _ | refine Grew.drewN ?_ _ | refine Grew.drew ?_ | refine Grew.trans ?_ (Hid.out (by assumption))))).mono ?_); rintro e w' ⟨rfl, ⟨_, _⟩, rfl⟩; dsimp only) | (go_at_call 18; (with_reducible refine (q3.out _ (by repeat (with_reducible first | exact Grew.refl _ | assumption | refine Grew.alloc ?_ _ | refine Grew.grow ?_ _ | refine Grew.dr ?_ _ | refine Grew.drewN ?_ _ | refine Grew.drew ?_ | refine Grew.trans ?_ (Hid.out (by assumption))))).mono ?_); rintro e w' ⟨rfl, ⟨_, _⟩, rfl⟩; dsimp only) | (go_at_call 18; (with_reducible refine (q4.out _ (by repeat (with_reducible first | exact Grew.refl _ | assumption | refine Grew.alloc ?_ _ | refine Grew.grow ?_ _ | refine Grew.dr ?_ _ | refine Grew.drewN ?_ _ | refine Grew.drew ?_ | refine Grew.trans ?_ (Hid.out (by assumption))))).mono ?_); rintro e w' ⟨rfl, ⟨_, _⟩, rfl⟩; dsimp only) | (go_at_call 16; (with_reducible refine (q5.out _ (by repeat (with_reducible first | exact Grew.refl _ | assumption | refine Grew.alloc ?_ _ | refine Grew.grow ?_ _ | refine Grew.dr ?_ _ | refine Grew.drewN ?_ _ | refine Grew.drew ?_ | refine Grew.trans ?_ (Hid.out (by assumption))))).mono ?_); rintro e w' ⟨rfl, ⟨_, _⟩, rfl⟩; dsimp only) | (go_at_call 16; (with_reducible refine (q6.out _ (by repeat (with_reducible first | exact Grew.refl _ | assumption | refine Grew.alloc ?_ _ | refine Grew.grow ?_ _ | refine Grew.dr ?_ _ | refine Grew.drewN ?_ _ | refine Grew.drew ?_ | refine Grew.trans ?_ (Hid.out (by assumption))))).mono ?_); rintro e w' ⟨rfl, ⟨_, _⟩, rfl⟩; dsimp only))
      go_ret
      exact Ret.mk' rfl (by repeat (with_reducible first | exact Grew.refl _ | assumption | refine Grew.alloc ?_ _ | refine Grew.grow ?_ _ | refine Grew.dr ?_ _ | refine Grew.drewN ?_ _ | refine Grew.drew ?_ | refine Grew.trans ?_ (Hid.out (by assumption))))
    · have hne : (i == col) = false := by simpa using hfin
      go_enter Try.func6, Try.ntmps6
      go_wp2_with (first | (go_at_call 11; (with_reducible refine (head_any _).mono ?_); rintro e w' ⟨rfl, ⟨_, _⟩, rfl⟩; dsimp only) | (go_at_call 18; (with_reducible refine (q1.out _ (by repeat (with_reducible first | exact Grew.refl _ | assumption | refine Grew.alloc ?_ _ | refine Grew.grow ?_ _ | refine Grew.dr ?_ _ | refine Grew.drewN ?_ _ | refine Grew.drew ?_ | refine Grew.trans ?_ (Hid.out (by assumption))))).mono ?_); rintro e w' ⟨rfl, ⟨_, _⟩, rfl⟩; dsimp only) | (go_at_call 18; (with_reducible refine (q2.out _ (by repeat (with_reducible first | exact Grew.refl _ | assumption | refine Grew.alloc ?_ _ | refine Grew.grow ?_ _ | refine Grew.dr ?_ _ | refine Grew.drewN ?_ _ | refine Grew.drew ?_ | refine Grew.trans ?_ (Hid.out (by assumption))))).mono ?_); rintro e w' ⟨rfl, ⟨_, _⟩, rfl⟩; dsimp only) | (go_at_call 18; (with_reducible refine (q3.out _ (by repeat (with_reducible first | exact Grew.refl _ | assumption | refine Grew.alloc ?_ _ | refine Grew.grow ?_ _ | refine Grew.dr ?_ _ | refine Grew.drewN ?_ _ | refine Grew.drew ?_ | refine Grew.trans ?_ (Hid.out (by assumption))))).mono ?_); rintro e w' ⟨rfl, ⟨_, _⟩, rfl⟩; dsimp only) | (go_at_call 18; (with_reducible refine (q4.out _ (by repeat (with_reducible first | exact Grew.refl _ | assumption | refine Grew.alloc ?_ _ | refine Grew.grow ?_ _ | refine Grew.dr ?_ _ | refine Grew.drewN ?_ _ | refine Grew.drew ?_ | refine Grew.trans ?_ (Hid.out (by assumption))))).mono ?_); rintro e w' ⟨rfl, ⟨_, _⟩, rfl⟩; dsimp only) | (go_at_call 16; (with_reducible refine (q5.out _ (by repeat (with_reducible first | exact Grew.refl _ | assumption | refine Grew.alloc ?_ _ | refine Grew.grow ?_ _ | refine Grew.dr ?_ _ | refine Grew.drewN ?_ _ | refine Grew.drew ?_ | refine Grew.trans ?_ (Hid.out (by assumption))))).mono ?_); rintro e w' ⟨rfl, ⟨_, _⟩, rfl⟩; dsimp only) | (go_at_call 16; (with_reducible refine (q6.out _ (by repeat (with_reducible first | exact Grew.refl _ | assumption | refine Grew.alloc ?_ _ | refine Grew.grow ?_ _ | refine Grew.dr ?_ _ | refine Grew.drewN ?_ _ | refine Grew.drew ?_ | refine Grew.trans ?_ (Hid.out (by assumption))))).mono ?_); rintro e w' ⟨rfl, ⟨_, _⟩, rfl⟩; dsimp only))
      all_goals go_ret
      all_goals exact Ret.mk' (ret_bool (by simp [*])) (by repeat (with_reducible first | exact Grew.refl _ | assumption | refine Grew.alloc ?_ _ | refine Grew.grow ?_ _ | refine Grew.dr ?_ _ | refine Grew.drewN ?_ _ | refine Grew.drew ?_ | refine Grew.trans ?_ (Hid.out (by assumption))))
    · go_enter Try.func6, Try.ntmps6
      go_wp2_with (first | (go_at_call 11; (with_reducible refine (head_any _).mono ?_); rintro e w' ⟨rfl, ⟨_, _⟩, rfl⟩; dsimp only) | (go_at_call 18; (with_reducible refine (q1.out _ (by repeat (with_reducible first | exact Grew.refl _ | assumption | refine Grew.alloc ?_ _ | refine Grew.grow ?_ _ | refine Grew.dr ?_ _ | refine Grew.drewN ?_ _ | refine Grew.drew ?_ | refine Grew.trans ?_ (Hid.out (by assumption))))).mono ?_); rintro e w' ⟨rfl, ⟨_, _⟩, rfl⟩; dsimp only) | (go_at_call 18; (with_reducible refine (q2.out _ (by repeat (with_reducible first | exact Grew.refl _ | assumption | refine Grew.alloc ?_ _ | refine Grew.grow ?_ _ | refine Grew.dr ?_ _ | refine Grew.drewN ?_ _ | refine Grew.drew ?_ | refine Grew.trans ?_ (Hid.out (by assumption))))).mono ?_); rintro e w' ⟨rfl, ⟨_, _⟩, rfl⟩; dsimp only) | (go_at_call 18; (with_reducible refine (q3.out _ (by repeat (with_reducible first | exact Grew.refl _ | assumption | refine Grew.alloc ?_ _ | refine Grew.grow ?_ _ | refine Grew.dr ?_ _ | refine Grew.drewN ?_ _ | refine Grew.drew ?_ | refine Grew.trans ?_ (Hid.out (by assumption))))).mono ?_); rintro e w' ⟨rfl, ⟨_, _⟩, rfl⟩; dsimp only) | (go_at_call 18; (with_reducible refine (q4.out _ (by repeat (with_reducible first | exact Grew.refl _ | assumption | refine Grew.alloc ?_ _ | refine Grew.grow ?_ _ | refine Grew.dr ?_ _ | refine Grew.drewN ?_ _ | refine Grew.drew ?_ | refine Grew.trans ?_ (Hid.out (by assumption))))).mono ?_); rintro e w' ⟨rfl, ⟨_, _⟩, rfl⟩; dsimp only) | (go_at_call 16; (with_reducible refine (q5.out _ (by repeat (with_reducible first | exact Grew.refl _ | assumption | refine Grew.alloc ?_ _ | refine Grew.grow ?_ _ | refine Grew.dr ?_ _ | refine Grew.drewN ?_ _ | refine Grew.drew ?_ | refine Grew.trans ?_ (Hid.out (by assumption))))).mono ?_); rintro e w' ⟨rfl, ⟨_, _⟩, rfl⟩; dsimp only) | (go_at_call 16; (with_reducible refine (q6.out _ (by repeat (with_reducible first | exact Grew.refl _ | assumption | refine Grew.alloc ?_ _ | refine Grew.grow ?_ _ | refine Grew.dr ?_ _ | refine Grew.drewN ?_ _ | refine Grew.drew ?_ | refine Grew.trans ?_ (Hid.out (by assumption))))).mono ?_); rintro e w' ⟨rfl, ⟨_, _⟩, rfl⟩; dsimp only))
      all_goals go_ret
      all_goals exact Ret.mk' (ret_bool (by simp [*])) (by repeat (with_reducible first | exact Grew.refl _ | assumption | refine Grew.alloc ?_ _ | refine Grew.grow ?_ _ | refine Grew.dr ?_ _ | refine Grew.drewN ?_ _ | refine Grew.drew ?_ | refine Grew.trans ?_ (Hid.out (by assumption))))
  · rcases hxyz with rfl | rfl | rfl
    all_goals
      go_enter Try.func6, Try.ntmps6
      go_wp2_with (first | (go_at_call 11; (with_reducible refine (head_any _).mono ?_); rintro e w' ⟨rfl, ⟨_, _⟩, rfl⟩; dsimp only) | (go_at_call 18; (with_reducible refine (q1.out _ (by repeat (with_reducible first | exact Grew.refl _ | assumption | refine Grew.alloc ?_ _ | refine Grew.grow ?_ _ | refine Grew.dr ?_ _ | refine Grew.drewN ?_ _ | refine Grew.drew ?_ | refine Grew.trans ?_ (Hid.out (by assumption))))).mono ?_); rintro e w' ⟨rfl, ⟨_, _⟩, rfl⟩; dsimp only) | (go_at_call 18; (with_reducible refine (q2.out _ (by repeat (with_reducible first | exact Grew.refl _ | assumption | refine Grew.alloc ?_ _ | refine Grew.grow ?_ _ | refine Grew.dr ?_ _ | refine Grew.drewN ?_ _ | refine Grew.drew ?_ | refine Grew.trans ?_ (Hid.out (by assumption))))).mono ?_); rintro e w' ⟨rfl, ⟨_, _⟩, rfl⟩; dsimp only) | (go_at_call 18; (with_reducible refine (q3.out _ (by repeat (with_reducible first | exact Grew.refl _ | assumption | refine Grew.alloc ?_ _ | refine Grew.grow ?_ _ | refine Grew.dr ?_ _ | refine Grew.drewN ?_ _ | refine Grew.drew ?_ | refine Grew.trans ?_ (Hid.out (by assumption))))).mono ?_); rintro e w' ⟨rfl, ⟨_, _⟩, rfl⟩; dsimp only) | (go_at_call 18; (with_reducible refine (q4.out _ (by repeat (with_reducible first | exact Grew.refl _ | assumption | refine Grew.alloc ?_ _ | refine Grew.grow ?_ _ | refine Grew.dr ?_ _ | refine Grew.drewN ?_ _ | refine Grew.drew ?_ | refine Grew.trans ?_ (Hid.out (by assumption))))).mono ?_); rintro e w' ⟨rfl, ⟨_, _⟩, rfl⟩; dsimp only) | (go_at_call 16; (with_reducible refine (q5.out _ (by repeat (with_reducible first | exact Grew.refl _ | assumption | refine Grew.alloc ?_ _ | refine Grew.grow ?_ _ | refine Grew.dr ?_ _ | refine Grew.drewN ?_ _ | refine Grew.drew ?_ | refine Grew.trans ?_ (Hid.out (by assumption))))).mono ?_); rintro e w' ⟨rfl, ⟨_, _⟩, rfl⟩; dsimp only) | (go_at_call 16; (with_reducible refine (q6.out _ (by repeat (with_reducible first | exact Grew.refl _ | assumption | refine Grew.alloc ?_ _ | refine Grew.grow ?_ _ | refine Grew.dr ?_ _ | refine Grew.drewN ?_ _ | refine Grew.drew ?_ | refine Grew.trans ?_ (Hid.out (by assumption))))).mono ?_); rintro e w' ⟨rfl, ⟨_, _⟩, rfl⟩; dsimp only))
      all_goals go_ret
      all_goals exact Ret.mk' (ret_bool (by simp [*])) (by repeat (with_reducible first | exact Grew.refl _ | assumption | refine Grew.alloc ?_ _ | refine Grew.grow ?_ _ | refine Grew.dr ?_ _ | refine Grew.drewN ?_ _ | refine Grew.drew ?_ | refine Grew.trans ?_ (Hid.out (by assumption))))
  · have hff : x = false ∨ (x = true ∧ i ≠ col) ∨ (x = true ∧ i = col ∧ l = col ∧ j ≤ m) := by
      cases x
      · exact .inl rfl
      · rcases hfin with h | h | h
        · cases h
        · exact .inr (.inl ⟨rfl, h⟩)
        · exact .inr (.inr ⟨rfl, h⟩)
    clear hfin
    rcases hff with rfl | ⟨rfl, hfin⟩ | ⟨rfl, rfl, rfl, hfin⟩
    · clear hxyz
      go_enter Try.func6, Try.ntmps6
      go_wp2_with (first | (go_at_call 11; (with_reducible refine (head_any _).mono ?_); rintro e w' ⟨rfl, ⟨_, _⟩, rfl⟩; dsimp only) | (go_at_call 18; (with_reducible refine (q1.out _ (by repeat (with_reducible first | exact Grew.refl _ | assumption | refine Grew.alloc ?_ _ | refine Grew.grow ?_ _ | refine Grew.dr ?_ _ | refine Grew.drewN ?_ _ | refine Grew.drew ?_ | refine Grew.trans ?_ (Hid.out (by assumption))))).mono ?_); rintro e w' ⟨rfl, ⟨_, _⟩, rfl⟩; dsimp only) | (go_at_call 18; (with_reducible refine (q2.out _ (by repeat (with_reducible first | exact Grew.refl _ | assumption | refine Grew.alloc ?_ _ | refine Grew.grow ?_ _ | refine Grew.dr ?_ _ | refine Grew.drewN ?_ _ | refine Grew.drew ?_ | refine Grew.trans ?_ (Hid.out (by assumption))))).mono ?_); rintro e w' ⟨rfl, ⟨_, _⟩, rfl⟩; dsimp only) | (go_at_call 18; (with_reducible refine (q3.out _ (by repeat (with_reducible first | exact Grew.refl _ | assumption | refine Grew.alloc ?_ _ | refine Grew.grow ?_ _ | refine Grew.dr ?_ _ | refine Grew.drewN ?_ _ | refine Grew.drew ?_ | refine Grew.trans ?_ (Hid.out (by assumption))))).mono ?_); rintro e w' ⟨rfl, ⟨_, _⟩, rfl⟩; dsimp only) | (go_at_call 18; (with_reducible refine (q4.out _ (by repeat (with_reducible first | exact Grew.refl _ | assumption | refine Grew.alloc ?_ _ | refine Grew.grow ?_ _ | refine Grew.dr ?_ _ | refine Grew.drewN ?_ _ | refine Grew.drew ?_ | refine Grew.trans ?_ (Hid.out (by assumption))))).mono ?_); rintro e w' ⟨rfl, ⟨_, _⟩, rfl⟩; dsimp only) | (go_at_call 16; (with_reducible refine (q5.out _ (by repeat (with_reducible first | exact Grew.refl _ | assumption | refine Grew.alloc ?_ _ | refine Grew.grow ?_ _ | refine Grew.dr ?_ _ | refine Grew.drewN ?_ _ | refine Grew.drew ?_ | refine Grew.trans ?_ (Hid.out (by assumption))))).mono ?_); rintro e w' ⟨rfl, ⟨_, _⟩, rfl⟩; dsimp only) | (go_at_call 16; (with_reducible refine (q6.out _ (by repeat (with_reducible first | exact Grew.refl _ | assumption | refine Grew.alloc ?_ _ | refine Grew.grow ?_ _ | refine Grew.dr ?_ _ | refine Grew.drewN ?_ _ | refine Grew.drew ?_ | refine Grew.trans ?_ (Hid.out (by assumption))))).mono ?_); rintro e w' ⟨rfl, ⟨_, _⟩, rfl⟩; dsimp only))
      all_goals go_ret
      all_goals exact Ret.mk' rfl (by repeat (with_reducible first | exact Grew.refl _ | assumption | refine Grew.alloc ?_ _ | refine Grew.grow ?_ _ | refine Grew.dr ?_ _ | refine Grew.drewN ?_ _ | refine Grew.drew ?_ | refine Grew.trans ?_ (Hid.out (by assumption))))
    · have hne : (i == col) = false := by simpa using hfin
      rcases hxyz with h | rfl | rfl
      · cases h
      all_goals
        go_enter Try.func6, Try.ntmps6
        go_wp2_with (first | (go_at_call 11; (with_reducible refine (head_any _).mono ?_); rintro e w' ⟨rfl, ⟨_, _⟩, rfl⟩; dsimp only) | (go_at_call 18; (with_reducible refine (q1.out _ (by repeat (with_reducible first | exact Grew.refl _ | assumption | refine Grew.alloc ?_ _ | refine Grew.grow ?_ _ | refine Grew.dr ?_ _ | refine Grew.drewN ?_ _ | refine Grew.drew ?_ | refine Grew.trans ?_ (Hid.out (by assumption))))).mono ?_); rintro e w' ⟨rfl, ⟨_, _⟩, rfl⟩; dsimp only) | (go_at_call 18; (with_reducible refine (q2.out _ (by repeat (with_reducible first | exact Grew.refl _ | assumption | refine Grew.alloc ?_ _ | refine Grew.grow ?_ _ | refine Grew.dr ?_ _ | refine Grew.drewN ?_ _ | refine Grew.drew ?_ | refine Grew.trans ?_ (Hid.out (by assumption))))).mono ?_); rintro e w' ⟨rfl, ⟨_, _⟩, rfl⟩; dsimp only) | (go_at_call 18; (with_reducible refine (q3.out _ (by repeat (with_reducible first | exact Grew.refl _ | assumption | refine Grew.alloc ?_ _ | refine Grew.grow ?_ _ | refine Grew.dr ?_ _ | refine Grew.drewN ?_ _ | refine Grew.drew ?_ | refine Grew.trans ?_ (Hid.out (by assumption))))).mono ?_); rintro e w' ⟨rfl, ⟨_, _⟩, rfl⟩; dsimp only) | (go_at_call 18; (with_reducible refine (q4.out _ (by repeat (with_reducible first | exact Grew.refl _ | assumption | refine Grew.alloc ?_ _ | refine Grew.grow ?_ _ | refine Grew.dr ?_ _ | refine Grew.drewN ?_ _ | refine Grew.drew ?_ | refine Grew.trans ?_ (Hid.out (by assumption))))).mono ?_); rintro e w' ⟨rfl, ⟨_, _⟩, rfl⟩; dsimp only) | (go_at_call 16; (with_reducible refine (q5.out _ (by repeat (with_reducible first | exact Grew.refl _ | assumption | refine Grew.alloc ?_ _ | refine Grew.grow ?_ _ | refine Grew.dr ?_ _ | refine Grew.drewN ?_ _ | refine Grew.drew ?_ | refine Grew.trans ?_ (Hid.out (by assumption))))).mono ?_); rintro e w' ⟨rfl, ⟨_, _⟩, rfl⟩; dsimp only) | (go_at_call 16; (with_reducible refine (q6.out _ (by repeat (with_reducible first | exact Grew.refl _ | assumption | refine Grew.alloc ?_ _ | refine Grew.grow ?_ _ | refine Grew.dr ?_ _ | refine Grew.drewN ?_ _ | refine Grew.drew ?_ | refine Grew.trans ?_ (Hid.out (by assumption))))).mono ?_); rintro e w' ⟨rfl, ⟨_, _⟩, rfl⟩; dsimp only))
        all_goals go_ret
        all_goals exact Ret.mk' (ret_bool (by simp [*])) (by repeat (with_reducible first | exact Grew.refl _ | assumption | refine Grew.alloc ?_ _ | refine Grew.grow ?_ _ | refine Grew.dr ?_ _ | refine Grew.drewN ?_ _ | refine Grew.drew ?_ | refine Grew.trans ?_ (Hid.out (by assumption))))
    · rcases hxyz with h | rfl | rfl
      · cases h
      all_goals
        go_enter Try.func6, Try.ntmps6
        go_wp2_with (first | (go_at_call 11; (with_reducible refine (head_any _).mono ?_); rintro e w' ⟨rfl, ⟨_, _⟩, rfl⟩; dsimp only) | (go_at_call 18; (with_reducible refine (q1.out _ (by repeat (with_reducible first | exact Grew.refl _ | assumption | refine Grew.alloc ?_ _ | refine Grew.grow ?_ _ | refine Grew.dr ?_ _ | refine Grew.drewN ?_ _ | refine Grew.drew ?_ | refine Grew.trans ?_ (Hid.out (by assumption))))).mono ?_); rintro e w' ⟨rfl, ⟨_, _⟩, rfl⟩; dsimp only) | (go_at_call 18; (with_reducible refine (q2.out _ (by repeat (with_reducible first | exact Grew.refl _ | assumption | refine Grew.alloc ?_ _ | refine Grew.grow ?_ _ | refine Grew.dr ?_ _ | refine Grew.drewN ?_ _ | refine Grew.drew ?_ | refine Grew.trans ?_ (Hid.out (by assumption))))).mono ?_); rintro e w' ⟨rfl, ⟨_, _⟩, rfl⟩; dsimp only) | (go_at_call 18; (with_reducible refine (q3.out _ (by repeat (with_reducible first | exact Grew.refl _ | assumption | refine Grew.alloc ?_ _ | refine Grew.grow ?_ _ | refine Grew.dr ?_ _ | refine Grew.drewN ?_ _ | refine Grew.drew ?_ | refine Grew.trans ?_ (Hid.out (by assumption))))).mono ?_); rintro e w' ⟨rfl, ⟨_, _⟩, rfl⟩; dsimp only) | (go_at_call 18; (with_reducible refine (q4.out _ (by repeat (with_reducible first | exact Grew.refl _ | assumption | refine Grew.alloc ?_ _ | refine Grew.grow ?_ _ | refine Grew.dr ?_ _ | refine Grew.drewN ?_ _ | refine Grew.drew ?_ | refine Grew.trans ?_ (Hid.out (by assumption))))).mono ?_); rintro e w' ⟨rfl, ⟨_, _⟩, rfl⟩; dsimp only) | (go_at_call 16; (with_reducible refine (q5.out _ (by repeat (with_reducible first | exact Grew.refl _ | assumption | refine Grew.alloc ?_ _ | refine Grew.grow ?_ _ | refine Grew.dr ?_ _ | refine Grew.drewN ?_ _ | refine Grew.drew ?_ | refine Grew.trans ?_ (Hid.out (by assumption))))).mono ?_); rintro e w' ⟨rfl, ⟨_, _⟩, rfl⟩; dsimp only) | (go_at_call 16; (with_reducible refine (q6.out _ (by repeat (with_reducible first | exact Grew.refl _ | assumption | refine Grew.alloc ?_ _ | refine Grew.grow ?_ _ | refine Grew.dr ?_ _ | refine Grew.drewN ?_ _ | refine Grew.drew ?_ | refine Grew.trans ?_ (Hid.out (by assumption))))).mono ?_); rintro e w' ⟨rfl, ⟨_, _⟩, rfl⟩; dsimp only))
        all_goals go_ret
        all_goals exact Ret.mk' (ret_bool (by simp [*])) (by repeat (with_reducible first | exact Grew.refl _ | assumption | refine Grew.alloc ?_ _ | refine Grew.grow ?_ _ | refine Grew.dr ?_ _ | refine Grew.drewN ?_ _ | refine Grew.drew ?_ | refine Grew.trans ?_ (Hid.out (by assumption))))
theorem holdsL_any (sa : List Sec) (A : Option Addr) (ca : Nat) (sb : List Sec) (B : Option Addr) (cb : Nat) (sc : List Sec) (C : Option Addr) (cc : Nat) (col v1 v2 : Int) (w : World) (hra : Rd w w.heap.size 6 A (sa.map Sec.cells)) (hla : sa.length ≤ ca) (hca : sa.length ≤ 100000000000000)
    (hrb : Rd w w.heap.size 6 B (sb.map Sec.cells)) (hlb : sb.length ≤ cb) (hcb : sb.length ≤ 100000000000000) (hrc : Rd w w.heap.size 6 C (sc.map Sec.cells)) (hlc : sc.length ≤ cc) (hcc : sc.length ≤ 100000000000000) :
    Calls Try.prog 6 #[.slice A sa.length ca, .slice B sb.length cb, .slice C sc.length cc, .int .i64 col, pt v1 v2] w (Ret w (.bool true)) := by
  cases h : LValid sa && LValid sb && colOk col
  · exact holdsL_no sa sb sc A B C ca cb cc col v1 v2 w hra hla hca hrb hlb hcb hrc hlc hcc h
  · exact holdsL_yes sa sb sc A B C ca cb cc col v1 v2 w hra hla hca hrb hlb hcb hrc hlc hcc h
end Go.Proofs.Ytgcgaplhaglejaa
