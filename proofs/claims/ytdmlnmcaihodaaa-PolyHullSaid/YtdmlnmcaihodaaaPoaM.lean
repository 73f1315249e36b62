/- The order of places, with draws that only become more. Written by wip/bin/mk_kitm.py. -/
import Derived.Test.YtdmlnmcaihodaaaPoa
import Derived.Test.YtdmlnmcaihodaaaRegM
namespace Go.Proofs.Ytdmlnmcaihodaaa.M
set_option linter.unusedVariables false
set_option linter.unusedSimpArgs false
open Go.RowKit Go.Sort
attribute [local go_sem] Steady steadyUpon
attribute [local go_sem ↓] hs_dr lt_add_r lt_add_r2 lt_add_r3 lt_add_r4 lt_add_r5 lt_add_r6
attribute [local go_sem] cell?_gd frozen?_gd setCell_gd size_grow tape_grow cell?_grow' frozen?_grow' setCell_grow' grow_grow grow_dr grow_drew dr_dr dr_drew drew_dr dr_alloc dr_setCell dr_cell dr_frozen dr_tape dr_drawn
attribute [local irreducible] wpSteady

set_option maxHeartbeats 400000 in
theorem isNaN_any (x : Int) (w : World) : Calls Try.prog 78 #[.int .i64 x] w (Ret w (.bool false)) := by
  go_enter Try.func78, Try.ntmps78
  go_wp2
  go_ret
  exact Ret.mk' (by simp) (by repeat (with_reducible first | exact Grew.refl _ | assumption | refine Grew.alloc ?_ _ | refine Grew.grow ?_ _ | refine Grew.dr ?_ _ | refine Grew.drewN ?_ _ | refine Grew.drew ?_ | refine Grew.trans ?_ (Hid.out (by assumption))))
set_option maxHeartbeats 400000 in
theorem Compare_any (x y : Int) (w : World) : Calls Try.prog 57 #[.int .i64 x, .int .i64 y] w (Ret w (.int .i64 (sg (x - y)))) := by
  have hm := hmix
  rcases sg_cases (x - y) with ⟨h, e⟩ | ⟨h, e⟩ | ⟨h, e⟩
  · have h1 : decide (x < y) = true := by simp; omega
    rw [e]
    clear e
    go_enter Try.func57, Try.ntmps57
    go_wp2_with (go_at_call 78; refine (isNaN_any _ _).mono ?_; rintro e w' ⟨rfl, ⟨_, _⟩, rfl⟩; dsimp only)
    go_ret
    exact Ret.mk' rfl (by repeat (with_reducible first | exact Grew.refl _ | assumption | refine Grew.alloc ?_ _ | refine Grew.grow ?_ _ | refine Grew.dr ?_ _ | refine Grew.drewN ?_ _ | refine Grew.drew ?_ | refine Grew.trans ?_ (Hid.out (by assumption))))
  · obtain rfl : x = y := by omega
    rw [e]
    clear e
    go_enter Try.func57, Try.ntmps57
    go_wp2_with (go_at_call 78; refine (isNaN_any _ _).mono ?_; rintro e w' ⟨rfl, ⟨_, _⟩, rfl⟩; dsimp only)
    go_ret
    exact Ret.mk' rfl (by repeat (with_reducible first | exact Grew.refl _ | assumption | refine Grew.alloc ?_ _ | refine Grew.grow ?_ _ | refine Grew.dr ?_ _ | refine Grew.drewN ?_ _ | refine Grew.drew ?_ | refine Grew.trans ?_ (Hid.out (by assumption))))
  · have h1 : decide (x < y) = false := by simp; omega
    have h2 : decide (y < x) = true := by simp; omega
    rw [e]
    clear e
    go_enter Try.func57, Try.ntmps57
    go_wp2_with (go_at_call 78; refine (isNaN_any _ _).mono ?_; rintro e w' ⟨rfl, ⟨_, _⟩, rfl⟩; dsimp only)
    go_ret
    exact Ret.mk' rfl (by repeat (with_reducible first | exact Grew.refl _ | assumption | refine Grew.alloc ?_ _ | refine Grew.grow ?_ _ | refine Grew.dr ?_ _ | refine Grew.drewN ?_ _ | refine Grew.drew ?_ | refine Grew.trans ?_ (Hid.out (by assumption))))

theorem ok_bd {a : Pt} (h : a.ok = true) : (-1000000 ≤ a.1 ∧ a.1 ≤ 1000000) ∧ (-1000000 ≤ a.2 ∧ a.2 ≤ 1000000) := pl_bd h
theorem cr_bd {a b c : Pt} (ha : a.ok = true) (hb : b.ok = true) (hc : c.ok = true) : -8000000000000 ≤ cr a b c ∧ cr a b c ≤ 8000000000000 := by
  have := ok_bd ha
  have := ok_bd hb
  have := ok_bd hc
  have h1 : -4000000000000 ≤ (b.1 - a.1) * (c.2 - a.2) ∧ (b.1 - a.1) * (c.2 - a.2) ≤ 4000000000000 := mul_bd 2000000 2000000 (by omega) (by omega)
  have h2 : -4000000000000 ≤ (b.2 - a.2) * (c.1 - a.1) ∧ (b.2 - a.2) * (c.1 - a.1) ≤ 4000000000000 := mul_bd 2000000 2000000 (by omega) (by omega)
  unfold cr
  omega
theorem dt_bd {a b c : Pt} (ha : a.ok = true) (hb : b.ok = true) (hc : c.ok = true) : -8000000000000 ≤ dt a b c ∧ dt a b c ≤ 8000000000000 := by
  have := ok_bd ha
  have := ok_bd hb
  have := ok_bd hc
  have h1 : -4000000000000 ≤ (b.1 - a.1) * (c.1 - a.1) ∧ (b.1 - a.1) * (c.1 - a.1) ≤ 4000000000000 := mul_bd 2000000 2000000 (by omega) (by omega)
  have h2 : -4000000000000 ≤ (b.2 - a.2) * (c.2 - a.2) ∧ (b.2 - a.2) * (c.2 - a.2) ≤ 4000000000000 := mul_bd 2000000 2000000 (by omega) (by omega)
  unfold dt
  omega
def tn (a b c : Pt) : Int := sg (cr a b c)
set_option maxHeartbeats 1600000 in
theorem Or2_any (x y r : Int) (b : Nat) (w : World) (hr : (x ≠ 0 ∧ r = x) ∨ (x = 0 ∧ r = y)) (h0 : w.cell? ⟨b, 0, none⟩ = some (.int .i64 x)) (h1 : w.cell? ⟨b, 1, none⟩ = some (.int .i64 y)) (hb : b < w.heap.size) :
    Calls Try.prog 68 #[.slice (some ⟨b, 0, none⟩) 2 2] w (Ret w (.int .i64 r)) := by
  have hm := hmix
  have HR := hide hr
  clear hr
  have hix0 := idx_run (cap := 2) (len := 2) (k := 0) Try.underlying121 Try.sizeOf3 (rfl : some (⟨b, 0, none⟩ : Addr) = some ⟨b, 0, none⟩) (by omega)
  have hix1 := idx_run (cap := 2) (len := 2) (k := 1) Try.underlying121 Try.sizeOf3 (rfl : some (⟨b, 0, none⟩ : Addr) = some ⟨b, 0, none⟩) (by omega)
  simp only [Nat.zero_add, Nat.mul_one, Int.cast_ofNat_Int] at hix0 hix1
  go_enter Try.func68, Try.ntmps68
  go_wp2_with fail
  go_loopw [8] (fun i wr => ∃ k : Nat, k ≤ 2 ∧ i = .int .i64 k ∧ Grew w wr ∧ OrR x y k) (fun i _ => 2 - (intOf i).toNat)
  case atStart => exact ⟨0, by omega, rfl, (by repeat (with_reducible first | exact Grew.refl _ | assumption | refine Grew.alloc ?_ _ | refine Grew.grow ?_ _ | refine Grew.dr ?_ _ | refine Grew.drewN ?_ _ | refine Grew.drew ?_ | refine Grew.trans ?_ (Hid.out (by assumption)))), (fun h => absurd h (by omega)), (fun h => absurd h (by omega))⟩
  case round =>
    obtain ⟨k, hk, rfl, hg, hx, hy⟩ := hrel
    have HG := hide hg
    have g0 := (hg.below.cell (p := ⟨b, 0, none⟩) hb).trans h0
    have g1 := (hg.below.cell (p := ⟨b, 1, none⟩) hb).trans h1
    clear h0 h1 hg
    have hbr : b < wr.heap.size := Nat.lt_of_lt_of_le hb HG.out.below.size
    have hk3 : k = 0 ∨ k = 1 ∨ k = 2 := by omega
    rcases hk3 with rfl | rfl | rfl
    · clear hx hy
      by_cases hx0 : x = 0
      · subst hx0
        go_wp2_with fail
        go_roundw
        case rel => exact ⟨1, by omega, rfl, HG.out, (fun _ => rfl), (fun h => absurd h (by omega))⟩
        case measure => simp [intOf]
      · have hrx : r = x := by have := HR.out; omega
        clear HR
        subst hrx
        have hx1 : (r != 0) = true := by simpa using hx0
        go_wp2_with fail
        go_ret
        exact Ret.mk' rfl HG.out
    · obtain rfl := hx (by omega)
      clear hx hy
      have hry : r = y := by have := HR.out; omega
      clear HR
      subst hry
      by_cases hy0 : r = 0
      · subst hy0
        go_wp2_with fail
        go_roundw
        case rel => exact ⟨2, by omega, rfl, HG.out, (fun _ => rfl), (fun _ => rfl)⟩
        case measure => simp [intOf]
      · have hy1 : (r != 0) = true := by simpa using hy0
        go_wp2_with fail
        go_ret
        exact Ret.mk' rfl HG.out
    · obtain rfl := hx (by omega)
      obtain rfl := hy (by omega)
      obtain rfl : r = 0 := by have := HR.out; omega
      clear hx hy HR
      go_wp2_with fail
      go_ret
      exact Ret.mk' rfl HG.out

set_option maxHeartbeats 1600000 in
theorem order_any (a b : Pt) (w : World) :
    Calls Try.prog 41 #[pt a.1 a.2, pt b.1 b.2] w (Ret w (.int .i64 (ord a b))) := by
  have hm := hmix
  obtain ⟨r, hr⟩ : ∃ r, ord a b = r := ⟨_, rfl⟩
  rw [hr]
  have hr2 : (sg (a.1 - b.1) ≠ 0 ∧ r = sg (a.1 - b.1)) ∨ (sg (a.1 - b.1) = 0 ∧ r = sg (a.2 - b.2)) := by
    rw [← hr]
    unfold ord
    split
    · exact .inr ⟨by assumption, rfl⟩
    · exact .inl ⟨by assumption, rfl⟩
  clear hr
  have k1 := hide (fun W => Compare_any a.1 b.1 W)
  have k2 := hide (fun W => Compare_any a.2 b.2 W)
  generalize sg (a.1 - b.1) = x at *
  generalize sg (a.2 - b.2) = y at *
  have HR := hide hr2
  obtain ⟨a1, a2⟩ := a
  obtain ⟨b1, b2⟩ := b
  clear hr2
  go_enter Try.func41, Try.ntmps41
  go_wp2_with fail
  refine wp_region_qas 10 [] [] hm (by kernel_rfl) (by simp only [List.take, List.filter, isQ]; rfl) (by simp only [List.drop]; rfl) ZOk.nil (by simp) ?_
  repeat (refine wpSteady_step (fun K hK => ?_); go_simp; first | (refine hK _ ?_; clear hK K) | (apply Exists.intro; refine ⟨fun _ => ?_, hK _ ?_⟩; (go_at_call 57; first | with_reducible exact k1.out _ | with_reducible exact k2.out _); clear hK K))
  refine wpSteady_nil ?_
  refine ⟨StOk.nil, LyOk.nil, ?_⟩
  rintro psq qsq Wq HWq HFq HBq
  obtain rfl : qsq = [] := HBq
  obtain rfl : psq = [] := HFq
  obtain ⟨⟨nq, osq⟩, rfl⟩ := HWq
  simp only [putAll, putB, Act.put, List.setIfInBounds_toArray, List.set_cons_succ, List.set_cons_zero]
  try dsimp only
  go_wp2_with fail
  refine (Or2_any x y r _ _ HR.out (by go_simp) (by go_simp) (by go_simp)).mono ?_
  rintro e w' ⟨rfl, ⟨_, _⟩, rfl⟩
  dsimp only
  go_wp2_with fail
  go_ret
  exact Ret.mk' rfl (by repeat (with_reducible first | exact Grew.refl _ | assumption | refine Grew.alloc ?_ _ | refine Grew.grow ?_ _ | refine Grew.dr ?_ _ | refine Grew.drewN ?_ _ | refine Grew.drew ?_ | refine Grew.trans ?_ (Hid.out (by assumption))))
end Go.Proofs.Ytdmlnmcaihodaaa.M
