/- SectorMatchesReference: the walk of the law. -/
import Derived.Test.YtgcgaplhaglejaaRefJ
import Derived.Test.YtgcgaplhaglejaaNormalL
import Derived.Test.YtgcgaplhaglejaaSeenL
namespace Go.Proofs.Ytgcgaplhaglejaa
set_option linter.unusedVariables false
set_option linter.unusedSimpArgs false
open Go.RowKit Go.Sort
attribute [local go_sem] Steady steadyUpon
attribute [local go_sem ↓] hs_dr lt_add_r lt_add_r2 lt_add_r3 lt_add_r4 lt_add_r5 lt_add_r6
attribute [local go_sem] cell?_gd frozen?_gd setCell_gd size_grow tape_grow cell?_grow' frozen?_grow' setCell_grow' grow_grow grow_dr grow_drew dr_dr dr_drew drew_dr dr_alloc dr_setCell dr_cell dr_frozen dr_tape dr_drawn
attribute [local irreducible] wpSteady

theorem in_both (s : Sec) (x y : Int) : ∃ i : Bool × Int, (∀ W, Calls Try.prog 14 #[sec s.fx s.fy s.tx s.ty s.col s.rng, pt x y] W (Ret W (.tuple #[.bool i.1, .int .i64 i.2]))) ∧ ∀ W, Calls Try.prog 15 #[sec s.fx s.fy s.tx s.ty s.col s.rng, pt x y] W (Ret W (.tuple #[.bool i.1, .int .i64 i.2])) := by
  refine ⟨(s.ok && dirOk x y && s.has x y, if (s.ok && dirOk x y) = true then 0 else 1), fun W => In_any s x y W, fun W => ?_⟩
  have h := rIn_any s x y W
  have e : inR s x y = (s.ok && dirOk x y && s.has x y, if (s.ok && dirOk x y) = true then 0 else 1) := by
    unfold inR
    cases h1 : s.ok <;> cases h2 : dirOk x y <;> try rfl
    have ns := nzs_of (ss := [s]) (by simpa using h1) s (by simp)
    have e := hs_hasS ns.1 ns.2 (nz_dir h2)
    simp only [Bool.and_self, if_true, Bool.true_and]
    rw [← e]
    rfl
  rw [e] at h
  exact h
theorem rColor_w (ss : List Sec) (A : Option Addr) (c : Nat) (x y : Int) (r : Int × Int × Int) (w : World) (hr : Rd w w.heap.size 6 A (ss.map Sec.cells)) (hl : ss.length ≤ c) (hc : ss.length ≤ 100000000000000) (h : colorOf ss x y = r) :
    Calls Try.prog 17 #[.slice A ss.length c, pt x y] w (Ret w (.tuple #[.int .i64 r.1, .int .i64 r.2.1, .int .i64 r.2.2])) := by
  have := rColor_any ss A c x y w hr hl hc
  rwa [h] at this
theorem rHolds_v (sa sb : List Sec) (A A' : Option Addr) (c c' : Nat) (col : Int) (r : Bool × Int) (w : World) (hra : Rd w w.heap.size 6 A (sa.map Sec.cells)) (hrb : Rd w w.heap.size 6 A' (sb.map Sec.cells)) (hla : sa.length ≤ c) (hlb : sb.length ≤ c') (hc : sa.length ≤ 100000000000000) (hc' : sb.length ≤ 100000000000000) (h : holdsOf sa sb col = r) :
    Calls Try.prog 19 #[.slice A sa.length c, .slice A' sb.length c', .int .i64 col] w (Ret w (.tuple #[.bool r.1, .int .i64 r.2])) := by
  have := rHolds_any sa sb A A' c c' col w hra hrb hla hlb hc hc'
  rwa [h] at this
theorem rSafer_w (sa sb : List Sec) (A A' : Option Addr) (c c' : Nat) (r : Bool × Int) (w : World) (hra : Rd w w.heap.size 6 A (sa.map Sec.cells)) (hrb : Rd w w.heap.size 6 A' (sb.map Sec.cells)) (hla : sa.length ≤ c) (hlb : sb.length ≤ c') (hc : sa.length ≤ 100000000000000) (hc' : sb.length ≤ 100000000000000) (h : saferOf sa sb = r) :
    Calls Try.prog 21 #[.slice A sa.length c, .slice A' sb.length c'] w (Ret w (.tuple #[.bool r.1, .int .i64 r.2])) := by
  have := rSafer_any sa sb A A' c c' w hra hrb hla hlb hc hc'
  rwa [h] at this
theorem rSeen_w (ss : List Sec) (A : Option Addr) (c : Nat) (ax ay px py : Int) (r : Int × Int) (w : World) (hr : Rd w w.heap.size 6 A (ss.map Sec.cells)) (hl : ss.length ≤ c) (hc : ss.length ≤ 100000000000000) (h : seenOf ss ax ay px py = r) :
    Calls Try.prog 26 #[.slice A ss.length c, pt ax ay, pt px py] w (Ret w (.tuple #[.int .i64 r.1, .int .i64 r.2])) := by
  have := rSeen_any ss A c ax ay px py w hr hl hc
  rwa [h] at this
theorem rNormal_w (ss : List Sec) (A : Option Addr) (c : Nat) (r : List Sec × Int) (w : World) (hr : Rd w w.heap.size 6 A (ss.map Sec.cells)) (hl : ss.length ≤ c) (hc : ss.length ≤ 100000000000000) (h : normalOf ss = r) :
    Calls Try.prog 23 #[.slice A ss.length c] w (NormRet w r) := by
  have := rNormal_any ss A c w hr hl hc
  rwa [h] at this
theorem normal_len {ss X : List Sec} {e : Int} (h : normalOf ss = (X, e)) : X.length ≤ 100 := by
  cases hb : LValid ss
  · rw [normalOf_no hb] at h
    injection h with h1 _
    rw [← h1]
    simp
  · rw [normalOf_ok hb] at h
    injection h with h1 _
    rw [← h1]
    have := (norm_same hb).2.2
    have := (LV_ok hb).2
    omega

set_option maxRecDepth 100000 in
set_option maxHeartbeats 16000000 in
theorem matchL_any (sa : List Sec) (A : Option Addr) (ca : Nat) (sb : List Sec) (B : Option Addr) (cb : Nat) (s : Sec) (v1 v2 col p1 p2 q1 q2 : Int) (w : World) (hra : Rd w w.heap.size 6 A (sa.map Sec.cells)) (hla : sa.length ≤ ca) (hca : sa.length ≤ 100000000000000)
    (hrb : Rd w w.heap.size 6 B (sb.map Sec.cells)) (hlb : sb.length ≤ cb) (hcb : sb.length ≤ 100000000000000) :
    Calls Try.prog 3 #[.slice A sa.length ca, .slice B sb.length cb, s.val, pt v1 v2, .int .i64 col, pt p1 p2, pt q1 q2] w (Ret w (.bool true)) := by
  have hm := hmix
  obtain ⟨va, hva⟩ : ∃ v, LValid sa = v := ⟨_, rfl⟩
  obtain ⟨⟨i1, i2⟩, hin, hin'⟩ := in_both s v1 v2
  obtain ⟨⟨c1, c2, c3⟩, hco⟩ : ∃ v, colorOf sa v1 v2 = v := ⟨_, rfl⟩
  obtain ⟨⟨h1, h2⟩, hho⟩ : ∃ v, holdsOf sa sb col = v := ⟨_, rfl⟩
  obtain ⟨⟨f1, f2⟩, hsf⟩ : ∃ v, saferOf sa sb = v := ⟨_, rfl⟩
  obtain ⟨⟨X, e2⟩, hno⟩ : ∃ v, normalOf sa = v := ⟨_, rfl⟩
  obtain ⟨⟨s1, s2⟩, hse⟩ : ∃ v, seenOf sa p1 p2 q1 q2 = v := ⟨_, rfl⟩
  have hX := normal_len hno
  have k1 := hide (fun W (hg : Grew w W) => Valid_v sa A ca va W (hra.up hg) hla hca hva)
  have r1 := hide (fun W (hg : Grew w W) => rValid_v sa A ca va W (hra.up hg) hla hca hva)
  have k2 := hide hin
  have r2 := hide hin'
  have k3 := hide (fun W (hg : Grew w W) => Color_w sa A ca v1 v2 _ W (hra.up hg) hla hca hco)
  have r3 := hide (fun W (hg : Grew w W) => rColor_w sa A ca v1 v2 _ W (hra.up hg) hla hca hco)
  have k4 := hide (fun W (hg : Grew w W) => Holds_v sa sb A B ca cb col _ W (hra.up hg) (hrb.up hg) hla hlb hca hcb hho)
  have r4 := hide (fun W (hg : Grew w W) => rHolds_v sa sb A B ca cb col _ W (hra.up hg) (hrb.up hg) hla hlb hca hcb hho)
  have k5 := hide (fun W (hg : Grew w W) => Safer_w sa sb A B ca cb _ W (hra.up hg) (hrb.up hg) hla hlb hca hcb hsf)
  have r5 := hide (fun W (hg : Grew w W) => rSafer_w sa sb A B ca cb _ W (hra.up hg) (hrb.up hg) hla hlb hca hcb hsf)
  have k6 := hide (fun W (hg : Grew w W) => Normal_w sa A ca _ W (hra.up hg) hla hca hno)
  have r6 := hide (fun W (hg : Grew w W) => rNormal_w sa A ca _ W (hra.up hg) hla hca hno)
  have k7 := hide (fun W (hg : Grew w W) => Seen_w sa A ca p1 p2 q1 q2 _ W (hra.up hg) hla hca hse)
  have r7 := hide (fun W (hg : Grew w W) => rSeen_w sa A ca p1 p2 q1 q2 _ W (hra.up hg) hla hca hse)
  clear hva hin hin' hco hho hsf hno hse
  change Calls Try.prog _ #[.slice A sa.length ca, .slice B sb.length cb, sec s.fx s.fy s.tx s.ty s.col s.rng, pt v1 v2, .int .i64 col, pt p1 p2, pt q1 q2] w _
  go_enter Try.func3, Try.ntmps3
  go_wp2_with (first | (go_at_call 11; (with_reducible refine (head_any _).mono ?_); rintro e w' ⟨rfl, ⟨_, _⟩, rfl⟩; dsimp only) | (go_at_call 12; (with_reducible refine (k1.out _ (by repeat (with_reducible first | exact Grew.refl _ | assumption | refine Grew.alloc ?_ _ | refine Grew.grow ?_ _ | refine Grew.dr ?_ _ | refine Grew.drewN ?_ _ | refine Grew.drew ?_ | refine Grew.trans ?_ (Hid.out (by assumption))))).mono ?_); rintro e w' ⟨rfl, ⟨_, _⟩, rfl⟩; dsimp only) | (go_at_call 13; (with_reducible refine (r1.out _ (by repeat (with_reducible first | exact Grew.refl _ | assumption | refine Grew.alloc ?_ _ | refine Grew.grow ?_ _ | refine Grew.dr ?_ _ | refine Grew.drewN ?_ _ | refine Grew.drew ?_ | refine Grew.trans ?_ (Hid.out (by assumption))))).mono ?_); rintro e w' ⟨rfl, ⟨_, _⟩, rfl⟩; dsimp only) | (go_at_call 14; (with_reducible refine (k2.out _).mono ?_); rintro e w' ⟨rfl, ⟨_, _⟩, rfl⟩; dsimp only) | (go_at_call 15; (with_reducible refine (r2.out _).mono ?_); rintro e w' ⟨rfl, ⟨_, _⟩, rfl⟩; dsimp only) | (go_at_call 16; (with_reducible refine (k3.out _ (by repeat (with_reducible first | exact Grew.refl _ | assumption | refine Grew.alloc ?_ _ | refine Grew.grow ?_ _ | refine Grew.dr ?_ _ | refine Grew.drewN ?_ _ | refine Grew.drew ?_ | refine Grew.trans ?_ (Hid.out (by assumption))))).mono ?_); rintro e w' ⟨rfl, ⟨_, _⟩, rfl⟩; dsimp only) | (go_at_call 17; (with_reducible refine (r3.out _ (by repeat (with_reducible first | exact Grew.refl _ | assumption | refine Grew.alloc ?_ _ | refine Grew.grow ?_ _ | refine Grew.dr ?_ _ | refine Grew.drewN ?_ _ | refine Grew.drew ?_ | refine Grew.trans ?_ (Hid.out (by assumption))))).mono ?_); rintro e w' ⟨rfl, ⟨_, _⟩, rfl⟩; dsimp only) | (go_at_call 18; (with_reducible refine (k4.out _ (by repeat (with_reducible first | exact Grew.refl _ | assumption | refine Grew.alloc ?_ _ | refine Grew.grow ?_ _ | refine Grew.dr ?_ _ | refine Grew.drewN ?_ _ | refine Grew.drew ?_ | refine Grew.trans ?_ (Hid.out (by assumption))))).mono ?_); rintro e w' ⟨rfl, ⟨_, _⟩, rfl⟩; dsimp only) | (go_at_call 19; (with_reducible refine (r4.out _ (by repeat (with_reducible first | exact Grew.refl _ | assumption | refine Grew.alloc ?_ _ | refine Grew.grow ?_ _ | refine Grew.dr ?_ _ | refine Grew.drewN ?_ _ | refine Grew.drew ?_ | refine Grew.trans ?_ (Hid.out (by assumption))))).mono ?_); rintro e w' ⟨rfl, ⟨_, _⟩, rfl⟩; dsimp only) | (go_at_call 20; (with_reducible refine (k5.out _ (by repeat (with_reducible first | exact Grew.refl _ | assumption | refine Grew.alloc ?_ _ | refine Grew.grow ?_ _ | refine Grew.dr ?_ _ | refine Grew.drewN ?_ _ | refine Grew.drew ?_ | refine Grew.trans ?_ (Hid.out (by assumption))))).mono ?_); rintro e w' ⟨rfl, ⟨_, _⟩, rfl⟩; dsimp only) | (go_at_call 21; (with_reducible refine (r5.out _ (by repeat (with_reducible first | exact Grew.refl _ | assumption | refine Grew.alloc ?_ _ | refine Grew.grow ?_ _ | refine Grew.dr ?_ _ | refine Grew.drewN ?_ _ | refine Grew.drew ?_ | refine Grew.trans ?_ (Hid.out (by assumption))))).mono ?_); rintro e w' ⟨rfl, ⟨_, _⟩, rfl⟩; dsimp only))
  refine (k6.out _ (by repeat (with_reducible first | exact Grew.refl _ | assumption | refine Grew.alloc ?_ _ | refine Grew.grow ?_ _ | refine Grew.dr ?_ _ | refine Grew.drewN ?_ _ | refine Grew.drew ?_ | refine Grew.trans ?_ (Hid.out (by assumption))))).mono ?_
  rintro e W1 ⟨Ax, cx, rfl, hg1, hcx, hrx⟩
  have HG1 := hide (Grew.trans (by repeat (with_reducible first | exact Grew.refl _ | assumption | refine Grew.alloc ?_ _ | refine Grew.grow ?_ _ | refine Grew.dr ?_ _ | refine Grew.drewN ?_ _ | refine Grew.drew ?_ | refine Grew.trans ?_ (Hid.out (by assumption)))) hg1 : Grew w W1)
  have HRX := hide hrx
  have g0 : W1.cell? ⟨w.heap.size + 1 + 1, 0, none⟩ = some (.int .i64 p1) := (hg1.below.cell (p := ⟨w.heap.size + 1 + 1, 0, none⟩) (by simp [hs_dr]; omega)).trans (by go_simp)
  have g1 : W1.cell? ⟨w.heap.size + 1 + 1, 1, none⟩ = some (.int .i64 p2) := (hg1.below.cell (p := ⟨w.heap.size + 1 + 1, 1, none⟩) (by simp [hs_dr]; omega)).trans (by go_simp)
  have g2 : W1.cell? ⟨w.heap.size + 1 + 1 + 1, 0, none⟩ = some (.int .i64 q1) := (hg1.below.cell (p := ⟨w.heap.size + 1 + 1 + 1, 0, none⟩) (by simp [hs_dr]; omega)).trans (by go_simp)
  have g3 : W1.cell? ⟨w.heap.size + 1 + 1 + 1, 1, none⟩ = some (.int .i64 q2) := (hg1.below.cell (p := ⟨w.heap.size + 1 + 1 + 1, 1, none⟩) (by simp [hs_dr]; omega)).trans (by go_simp)
  have hz1 : w.heap.size + 1 + 1 + 1 < W1.heap.size := Nat.lt_of_lt_of_le (by simp [hs_dr]; omega) hg1.below.size
  clear hg1 hrx
  dsimp only at hcx ⊢
  go_wp2_with fail
  refine (r6.out _ (HG1.out.trans (by repeat (with_reducible first | exact Grew.refl _ | assumption | refine Grew.alloc ?_ _ | refine Grew.grow ?_ _ | refine Grew.dr ?_ _ | refine Grew.drewN ?_ _ | refine Grew.drew ?_ | refine Grew.trans ?_ (Hid.out (by assumption)))))).mono ?_
  rintro e W2 ⟨Ay, cy, rfl, hg2, hcy, hry⟩
  have HG12 := hide (Grew.trans (by repeat (with_reducible first | exact Grew.refl _ | assumption | refine Grew.alloc ?_ _ | refine Grew.grow ?_ _ | refine Grew.dr ?_ _ | refine Grew.drewN ?_ _ | refine Grew.drew ?_ | refine Grew.trans ?_ (Hid.out (by assumption)))) hg2 : Grew W1 W2)
  have HG2 := hide (HG1.out.trans HG12.out)
  have HRY := hide hry
  have h0 := (HG12.out.below.cell (p := ⟨w.heap.size + 1 + 1, 0, none⟩) (by dsimp only; omega)).trans g0
  have h1 := (HG12.out.below.cell (p := ⟨w.heap.size + 1 + 1, 1, none⟩) (by dsimp only; omega)).trans g1
  have h2 := (HG12.out.below.cell (p := ⟨w.heap.size + 1 + 1 + 1, 0, none⟩) (by dsimp only; omega)).trans g2
  have h3 := (HG12.out.below.cell (p := ⟨w.heap.size + 1 + 1 + 1, 1, none⟩) (by dsimp only; omega)).trans g3
  have hz2 : w.heap.size + 1 + 1 + 1 < W2.heap.size := Nat.lt_of_lt_of_le hz1 HG12.out.below.size
  have hz3 : w.heap.size + 1 + 1 < W2.heap.size := by omega
  clear hg2 hry g0 g1 g2 g3 hz1
  dsimp only at hcy ⊢
  go_wp2_with (first | (go_at_call 24; (with_reducible refine (rSame_v X X _ _ _ _ _ _ true _ ((HRX.out.up HG12.out).up (by repeat (with_reducible first | exact Grew.refl _ | assumption | refine Grew.alloc ?_ _ | refine Grew.grow ?_ _ | refine Grew.dr ?_ _ | refine Grew.drewN ?_ _ | refine Grew.drew ?_ | refine Grew.trans ?_ (Hid.out (by assumption))))) (HRY.out.up (by repeat (with_reducible first | exact Grew.refl _ | assumption | refine Grew.alloc ?_ _ | refine Grew.grow ?_ _ | refine Grew.dr ?_ _ | refine Grew.drewN ?_ _ | refine Grew.drew ?_ | refine Grew.trans ?_ (Hid.out (by assumption))))) rfl rfl (by omega) (by omega) (by simp)).mono ?_); rintro e w' ⟨rfl, ⟨_, _⟩, rfl⟩; dsimp only) | (go_at_call 25; (with_reducible refine (k7.out _ (HG2.out.trans (by repeat (with_reducible first | exact Grew.refl _ | assumption | refine Grew.alloc ?_ _ | refine Grew.grow ?_ _ | refine Grew.dr ?_ _ | refine Grew.drewN ?_ _ | refine Grew.drew ?_ | refine Grew.trans ?_ (Hid.out (by assumption)))))).mono ?_); rintro e w' ⟨rfl, ⟨_, _⟩, rfl⟩; dsimp only) | (go_at_call 26; (with_reducible refine (r7.out _ (HG2.out.trans (by repeat (with_reducible first | exact Grew.refl _ | assumption | refine Grew.alloc ?_ _ | refine Grew.grow ?_ _ | refine Grew.dr ?_ _ | refine Grew.drewN ?_ _ | refine Grew.drew ?_ | refine Grew.trans ?_ (Hid.out (by assumption)))))).mono ?_); rintro e w' ⟨rfl, ⟨_, _⟩, rfl⟩; dsimp only))
  all_goals go_ret
  all_goals exact Ret.mk' (ret_bool (by simp)) (HG2.out.trans (by repeat (with_reducible first | exact Grew.refl _ | assumption | refine Grew.alloc ?_ _ | refine Grew.grow ?_ _ | refine Grew.dr ?_ _ | refine Grew.drewN ?_ _ | refine Grew.drew ?_ | refine Grew.trans ?_ (Hid.out (by assumption)))))
end Go.Proofs.Ytgcgaplhaglejaa
