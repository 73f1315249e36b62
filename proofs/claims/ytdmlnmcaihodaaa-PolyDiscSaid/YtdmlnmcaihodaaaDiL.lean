/- The law PolyDisc, walked. -/
import Derived.Test.YtdmlnmcaihodaaaPoz
import Derived.Test.YtdmlnmcaihodaaaDiP
namespace Go.Proofs.Ytdmlnmcaihodaaa
set_option linter.unusedVariables false
set_option linter.unusedSimpArgs false
open Go.RowKit Go.Sort
attribute [local go_sem] Steady steadyUpon
attribute [local go_sem ↓] hs_dr lt_add_r lt_add_r2 lt_add_r3 lt_add_r4 lt_add_r5 lt_add_r6
attribute [local go_sem] cell?_gd frozen?_gd setCell_gd size_grow tape_grow cell?_grow' frozen?_grow' setCell_grow' grow_grow grow_dr grow_drew dr_dr dr_drew drew_dr dr_alloc dr_setCell dr_cell dr_frozen dr_tape dr_drawn
attribute [local irreducible] wpSteady

theorem nearOf_ok {p a b : Pt} {d : Int} (h : (nearOf p a b d).2 = 0) : p.ok = true ∧ nearOf p a b d = (nearB p a b d, 0) := by
  unfold nearOf at h ⊢
  split
  · rename_i h1
    simp only [Bool.and_eq_true] at h1
    exact ⟨h1.1, rfl⟩
  · rename_i h1
    rw [if_neg h1] at h
    cases h
set_option maxRecDepth 100000 in
set_option maxHeartbeats 8000000 in
theorem polyDisc_any (ps : List Pt) (A : Option Addr) (c : Nat) (a1 a2 r s b1 b2 : Int) (w : World) (hr : Rd w w.heap.size 2 A (ps.map encD)) (hc : ps.length ≤ 100000000000000) :
    Calls Try.prog 5 #[.slice A ps.length c, pt a1 a2, .int .i64 r, .int .i64 s, pt b1 b2] w (Ret w (.bool true)) := by
  have hm := hmix
  obtain ⟨⟨x, e⟩, hx⟩ : ∃ d, discOf ps (a1, a2) r = d := ⟨_, rfl⟩
  obtain ⟨⟨y, f⟩, hy⟩ : ∃ d, discOf ps (a1, a2) s = d := ⟨_, rfl⟩
  obtain ⟨⟨i, h⟩, hi⟩ : ∃ d, inOf ps (b1, b2) = d := ⟨_, rfl⟩
  have hn0 := @nearOf_ok (b1, b2) (a1, a2) (a1, a2) r
  obtain ⟨⟨n, g⟩, hn⟩ : ∃ d, nearOf (b1, b2) (a1, a2) (a1, a2) r = d := ⟨_, rfl⟩
  have k1 := hide (fun W (hg : Grew w W) => Disc_v ps A c (a1, a2) r _ W (hr.up hg) hc hx)
  have k2 := hide (fun W (hg : Grew w W) => Disc_v ps A c (a1, a2) s _ W (hr.up hg) hc hy)
  have k3 := hide (fun W => Near_any (b1, b2) (a1, a2) (a1, a2) r W)
  have k4 := hide (fun W (hg : Grew w W) => In_v ps A c (b1, b2) _ W (hr.up hg) hc hi)
  rw [hn] at k3 hn0
  have hcase : e ≠ 0 ∨ (e = 0 ∧ f ≠ 0) ∨ (e = 0 ∧ f = 0 ∧ r < s) ∨ (e = 0 ∧ f = 0 ∧ s ≤ r ∧ ((-1 ≤ x ∧ x ≤ 1) ∧ (x = 1 → y = 1) ∧ (x = -1 → y = -1)) ∧ (g ≠ 0 ∨ (g = 0 ∧ n = false) ∨ (g = 0 ∧ n = true ∧ h = 0 ∧ (x = 1 → 0 ≤ i) ∧ (x = -1 → i < 0)))) := by
    by_cases he : e = 0
    · by_cases hf : f = 0
      · by_cases hsr : r < s
        · exact .inr (.inr (.inl ⟨he, hf, hsr⟩))
        · refine .inr (.inr (.inr ⟨he, hf, by omega, ?_⟩))
          subst he hf
          unfold discOf at hx hy
          by_cases h1 : (PValid ps && (Pt.ok (a1, a2) && distB r)) = true
          · by_cases h2 : (PValid ps && (Pt.ok (a1, a2) && distB s)) = true
            · rw [if_pos h1] at hx
              rw [if_pos h2] at hy
              injection hx with hx _
              injection hy with hy _
              simp only [Bool.and_eq_true] at h1 h2
              have hd1 := dist_bd h1.2.2
              have hd2 := dist_bd h2.2.2
              have hmo := disc_mono (ps := ps) (at' := (a1, a2)) (r := r) (s := s) (by omega) (by omega)
              rw [hx, hy] at hmo
              refine ⟨hmo, ?_⟩
              by_cases hg : g = 0
              · obtain ⟨ok, hnb⟩ := hn0 hg
                injection hnb with hnb _
                cases n
                · exact .inr (.inl ⟨hg, rfl⟩)
                · have hnear := near_self hnb.symm
                  have hh := disc_has (ps := ps) (at' := (a1, a2)) (other := (b1, b2)) hnear
                  rw [hx] at hh
                  unfold inOf at hi
                  rw [ok, h1.1] at hi
                  injection hi with hi hi2
                  rw [hi] at hh
                  exact .inr (.inr ⟨hg, rfl, hi2.symm, hh⟩)
              · exact .inl hg
            · rw [if_neg h2] at hy
              cases hy
          · rw [if_neg h1] at hx
            cases hx
      · exact .inr (.inl ⟨he, hf⟩)
    · exact .inl he
  clear hx hy hi hn hn0 hr
  rcases hcase with he | ⟨rfl, hf⟩ | ⟨rfl, rfl, hlt⟩ | ⟨rfl, rfl, hle, ⟨hx, hx1, hx2⟩, hg | ⟨rfl, rfl⟩ | ⟨rfl, rfl, rfl, hi1, hi2⟩⟩
  · go_enter Try.func5, Try.ntmps5
    go_wp2_with (first | (go_at_call 10; (with_reducible refine (head_v _).mono ?_); rintro e w' ⟨rfl, ⟨_, _⟩, rfl⟩; dsimp only) | ((go_at_call 15; first | with_reducible refine (k1.out _ (by repeat (with_reducible first | exact Grew.refl _ | assumption | refine Grew.alloc ?_ _ | refine Grew.grow ?_ _ | refine Grew.dr ?_ _ | refine Grew.drewN ?_ _ | refine Grew.drew ?_ | refine Grew.trans ?_ (Hid.out (by assumption))))).mono ?_ | with_reducible refine (k2.out _ (by repeat (with_reducible first | exact Grew.refl _ | assumption | refine Grew.alloc ?_ _ | refine Grew.grow ?_ _ | refine Grew.dr ?_ _ | refine Grew.drewN ?_ _ | refine Grew.drew ?_ | refine Grew.trans ?_ (Hid.out (by assumption))))).mono ?_); rintro e w' ⟨rfl, ⟨_, _⟩, rfl⟩; dsimp only))
    go_ret
    exact Ret.mk' rfl (by repeat (with_reducible first | exact Grew.refl _ | assumption | refine Grew.alloc ?_ _ | refine Grew.grow ?_ _ | refine Grew.dr ?_ _ | refine Grew.drewN ?_ _ | refine Grew.drew ?_ | refine Grew.trans ?_ (Hid.out (by assumption))))
  · go_enter Try.func5, Try.ntmps5
    go_wp2_with (first | (go_at_call 10; (with_reducible refine (head_v _).mono ?_); rintro e w' ⟨rfl, ⟨_, _⟩, rfl⟩; dsimp only) | ((go_at_call 15; first | with_reducible refine (k1.out _ (by repeat (with_reducible first | exact Grew.refl _ | assumption | refine Grew.alloc ?_ _ | refine Grew.grow ?_ _ | refine Grew.dr ?_ _ | refine Grew.drewN ?_ _ | refine Grew.drew ?_ | refine Grew.trans ?_ (Hid.out (by assumption))))).mono ?_ | with_reducible refine (k2.out _ (by repeat (with_reducible first | exact Grew.refl _ | assumption | refine Grew.alloc ?_ _ | refine Grew.grow ?_ _ | refine Grew.dr ?_ _ | refine Grew.drewN ?_ _ | refine Grew.drew ?_ | refine Grew.trans ?_ (Hid.out (by assumption))))).mono ?_); rintro e w' ⟨rfl, ⟨_, _⟩, rfl⟩; dsimp only))
    go_ret
    exact Ret.mk' rfl (by repeat (with_reducible first | exact Grew.refl _ | assumption | refine Grew.alloc ?_ _ | refine Grew.grow ?_ _ | refine Grew.dr ?_ _ | refine Grew.drewN ?_ _ | refine Grew.drew ?_ | refine Grew.trans ?_ (Hid.out (by assumption))))
  · go_enter Try.func5, Try.ntmps5
    go_wp2_with (first | (go_at_call 10; (with_reducible refine (head_v _).mono ?_); rintro e w' ⟨rfl, ⟨_, _⟩, rfl⟩; dsimp only) | ((go_at_call 15; first | with_reducible refine (k1.out _ (by repeat (with_reducible first | exact Grew.refl _ | assumption | refine Grew.alloc ?_ _ | refine Grew.grow ?_ _ | refine Grew.dr ?_ _ | refine Grew.drewN ?_ _ | refine Grew.drew ?_ | refine Grew.trans ?_ (Hid.out (by assumption))))).mono ?_ | with_reducible refine (k2.out _ (by repeat (with_reducible first | exact Grew.refl _ | assumption | refine Grew.alloc ?_ _ | refine Grew.grow ?_ _ | refine Grew.dr ?_ _ | refine Grew.drewN ?_ _ | refine Grew.drew ?_ | refine Grew.trans ?_ (Hid.out (by assumption))))).mono ?_); rintro e w' ⟨rfl, ⟨_, _⟩, rfl⟩; dsimp only))
    go_ret
    exact Ret.mk' rfl (by repeat (with_reducible first | exact Grew.refl _ | assumption | refine Grew.alloc ?_ _ | refine Grew.grow ?_ _ | refine Grew.dr ?_ _ | refine Grew.drewN ?_ _ | refine Grew.drew ?_ | refine Grew.trans ?_ (Hid.out (by assumption))))
  · have hxx : x = -1 ∨ x = 0 ∨ x = 1 := by omega
    have hle' : ¬ r < s := by omega
    rcases hxx with rfl | rfl | rfl
    all_goals
      simp at hx1 hx2
      try subst hx1
      try subst hx2
      go_enter Try.func5, Try.ntmps5
      go_wp2_with (first | (go_at_call 10; (with_reducible refine (head_v _).mono ?_); rintro e w' ⟨rfl, ⟨_, _⟩, rfl⟩; dsimp only) | ((go_at_call 15; first | with_reducible refine (k1.out _ (by repeat (with_reducible first | exact Grew.refl _ | assumption | refine Grew.alloc ?_ _ | refine Grew.grow ?_ _ | refine Grew.dr ?_ _ | refine Grew.drewN ?_ _ | refine Grew.drew ?_ | refine Grew.trans ?_ (Hid.out (by assumption))))).mono ?_ | with_reducible refine (k2.out _ (by repeat (with_reducible first | exact Grew.refl _ | assumption | refine Grew.alloc ?_ _ | refine Grew.grow ?_ _ | refine Grew.dr ?_ _ | refine Grew.drewN ?_ _ | refine Grew.drew ?_ | refine Grew.trans ?_ (Hid.out (by assumption))))).mono ?_); rintro e w' ⟨rfl, ⟨_, _⟩, rfl⟩; dsimp only) | (go_at_call 16; (with_reducible refine (k3.out _).mono ?_); rintro e w' ⟨rfl, ⟨_, _⟩, rfl⟩; dsimp only))
      go_ret
      exact Ret.mk' rfl (by repeat (with_reducible first | exact Grew.refl _ | assumption | refine Grew.alloc ?_ _ | refine Grew.grow ?_ _ | refine Grew.dr ?_ _ | refine Grew.drewN ?_ _ | refine Grew.drew ?_ | refine Grew.trans ?_ (Hid.out (by assumption))))
  · have hxx : x = -1 ∨ x = 0 ∨ x = 1 := by omega
    have hle' : ¬ r < s := by omega
    rcases hxx with rfl | rfl | rfl
    all_goals
      simp at hx1 hx2
      try subst hx1
      try subst hx2
      go_enter Try.func5, Try.ntmps5
      go_wp2_with (first | (go_at_call 10; (with_reducible refine (head_v _).mono ?_); rintro e w' ⟨rfl, ⟨_, _⟩, rfl⟩; dsimp only) | ((go_at_call 15; first | with_reducible refine (k1.out _ (by repeat (with_reducible first | exact Grew.refl _ | assumption | refine Grew.alloc ?_ _ | refine Grew.grow ?_ _ | refine Grew.dr ?_ _ | refine Grew.drewN ?_ _ | refine Grew.drew ?_ | refine Grew.trans ?_ (Hid.out (by assumption))))).mono ?_ | with_reducible refine (k2.out _ (by repeat (with_reducible first | exact Grew.refl _ | assumption | refine Grew.alloc ?_ _ | refine Grew.grow ?_ _ | refine Grew.dr ?_ _ | refine Grew.drewN ?_ _ | refine Grew.drew ?_ | refine Grew.trans ?_ (Hid.out (by assumption))))).mono ?_); rintro e w' ⟨rfl, ⟨_, _⟩, rfl⟩; dsimp only) | (go_at_call 16; (with_reducible refine (k3.out _).mono ?_); rintro e w' ⟨rfl, ⟨_, _⟩, rfl⟩; dsimp only))
      go_ret
      exact Ret.mk' rfl (by repeat (with_reducible first | exact Grew.refl _ | assumption | refine Grew.alloc ?_ _ | refine Grew.grow ?_ _ | refine Grew.dr ?_ _ | refine Grew.drewN ?_ _ | refine Grew.drew ?_ | refine Grew.trans ?_ (Hid.out (by assumption))))
  · have hxx : x = -1 ∨ x = 0 ∨ x = 1 := by omega
    have hle' : ¬ r < s := by omega
    rcases hxx with rfl | rfl | rfl
    all_goals
      simp at hx1 hx2 hi1 hi2
      try subst hx1
      try subst hx2
      go_enter Try.func5, Try.ntmps5
      go_wp2_with (first | (go_at_call 10; (with_reducible refine (head_v _).mono ?_); rintro e w' ⟨rfl, ⟨_, _⟩, rfl⟩; dsimp only) | ((go_at_call 15; first | with_reducible refine (k1.out _ (by repeat (with_reducible first | exact Grew.refl _ | assumption | refine Grew.alloc ?_ _ | refine Grew.grow ?_ _ | refine Grew.dr ?_ _ | refine Grew.drewN ?_ _ | refine Grew.drew ?_ | refine Grew.trans ?_ (Hid.out (by assumption))))).mono ?_ | with_reducible refine (k2.out _ (by repeat (with_reducible first | exact Grew.refl _ | assumption | refine Grew.alloc ?_ _ | refine Grew.grow ?_ _ | refine Grew.dr ?_ _ | refine Grew.drewN ?_ _ | refine Grew.drew ?_ | refine Grew.trans ?_ (Hid.out (by assumption))))).mono ?_); rintro e w' ⟨rfl, ⟨_, _⟩, rfl⟩; dsimp only) | (go_at_call 16; (with_reducible refine (k3.out _).mono ?_); rintro e w' ⟨rfl, ⟨_, _⟩, rfl⟩; dsimp only) | (go_at_call 12; (with_reducible refine (k4.out _ (by repeat (with_reducible first | exact Grew.refl _ | assumption | refine Grew.alloc ?_ _ | refine Grew.grow ?_ _ | refine Grew.dr ?_ _ | refine Grew.drewN ?_ _ | refine Grew.drew ?_ | refine Grew.trans ?_ (Hid.out (by assumption))))).mono ?_); rintro e w' ⟨rfl, ⟨_, _⟩, rfl⟩; dsimp only))
      go_ret
      exact Ret.mk' (by simp [*]) (by repeat (with_reducible first | exact Grew.refl _ | assumption | refine Grew.alloc ?_ _ | refine Grew.grow ?_ _ | refine Grew.dr ?_ _ | refine Grew.drewN ?_ _ | refine Grew.drew ?_ | refine Grew.trans ?_ (Hid.out (by assumption))))
end Go.Proofs.Ytdmlnmcaihodaaa
