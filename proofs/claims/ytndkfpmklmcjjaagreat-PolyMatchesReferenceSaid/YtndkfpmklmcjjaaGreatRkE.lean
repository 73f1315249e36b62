/- The reference implementation of package poly: within, Holds. -/
import Derived.Test.YtndkfpmklmcjjaaGreatRkB
import Derived.Test.YtndkfpmklmcjjaaGreatRkD
import Derived.Deep.Cut
set_option linter.unusedSimpArgs false
set_option linter.unusedVariables false
set_option maxHeartbeats 16000000
set_option maxRecDepth 100000
namespace Go.Proofs.YtndkfpmklmcjjaaGreat
open Go.RowKit Go.Sort
attribute [local go_sem] Steady steadyUpon
attribute [local go_sem ↓] hs_dr lt_add_r lt_add_r2 lt_add_r3 lt_add_r4 lt_add_r5 lt_add_r6
attribute [local go_sem] cell?_gd frozen?_gd setCell_gd size_grow tape_grow cell?_grow' frozen?_grow' setCell_grow' grow_grow grow_dr grow_drew dr_dr dr_drew drew_dr dr_alloc dr_setCell dr_cell dr_frozen dr_tape dr_drawn
attribute [local irreducible] wpSteady
theorem on_flip (p a b : Pt) (h : onB p a b = true) : onB p b a = true := by
 unfold onB at h ⊢
 rw [decide_eq_true_eq] at h ⊢
 rw [tn_swap a b p]
 obtain ⟨h1, h2, h3⟩ := h
 refine ⟨by omega, ?_, ?_⟩ <;> omega
/-- From a place of a segment the way to its end goes as the segment does. -/
theorem on_dir {a b c : Pt} (h : onB c a b = true) (hb : c ≠ b) : ∃ k1 k2 : Int, 0 < k1 ∧ 0 < k2 ∧ k1 * (b.1 - a.1) = k2 * (b.1 - c.1) ∧ k1 * (b.2 - a.2) = k2 * (b.2 - c.2) := by
 unfold onB at h
 rw [decide_eq_true_eq] at h
 obtain ⟨h1, h2, h3⟩ := h
 have hc := tn_zero_cr.1 h1
 unfold cr at hc
 obtain ⟨a1, a2⟩ := a
 obtain ⟨b1, b2⟩ := b
 obtain ⟨c1, c2⟩ := c
 dsimp only at *
 have hne : ¬ (c1 = b1 ∧ c2 = b2) := fun e => hb (by rw [e.1, e.2])
 have hq : (b1 - c1) * (b2 - a2) = (b1 - a1) * (b2 - c2) := by grind
 rcases Int.lt_trichotomy a1 b1 with g | g | g
 ·have hcb : c1 ≠ b1 := fun e => by
   subst e
   have hz : (c1 - a1) * (b2 - c2) = 0 := by rw [← hq]; simp
   rcases Int.mul_eq_zero.1 hz with e | e
   ·omega
   ·exact hne ⟨rfl, by omega⟩
  exact ⟨b1 - c1, b1 - a1, by omega, by omega, by rw [Int.mul_comm], hq⟩
 ·subst g
  have hc1 : c1 = a1 := by omega
  subst hc1
  rcases Int.lt_trichotomy a2 b2 with g | g | g
  ·exact ⟨b2 - c2, b2 - a2, by omega, by omega, by simp, by rw [Int.mul_comm]⟩
  ·omega
  ·exact ⟨c2 - b2, a2 - b2, by omega, by omega, by simp, by grind⟩
 ·have hcb : c1 ≠ b1 := fun e => by
   subst e
   have hz : (c1 - a1) * (b2 - c2) = 0 := by rw [← hq]; simp
   rcases Int.mul_eq_zero.1 hz with e | e
   ·omega
   ·exact hne ⟨rfl, by omega⟩
  exact ⟨c1 - b1, a1 - b1, by omega, by omega, by grind, by grind⟩
theorem opens_on {ps : List Pt} {i : Nat} {a b : Pt} (h : onB (cor ps i) a b = true) (hb : cor ps i ≠ b) : opensR ps i (sb b a) = opensOf ps i b := by
 obtain ⟨k1, k2, p1, p2, e1, e2⟩ := on_dir h hb
 rw [← opens_ref]
 unfold opensR
 have e : (k1 * (sb b a).1, k1 * (sb b a).2) = (k2 * (sb b (cor ps i)).1, k2 * (sb b (cor ps i)).2) := Prod.ext e1 e2
 rw [← opens_scl (v := sb b a) p1, e, opens_scl p2]
/-- A block that holds a place. -/
def PB (W : World) (b : Nat) (p : Pt) : Prop := W.heap[b]? = some (.cells #[.int .i64 p.1, .int .i64 p.2] 24 (0, 0))
theorem PB.up {W W' : World} {b : Nat} {p : Pt} (h : PB W b p) (g : Grew W W') : PB W' b p := (g.heap (blk_lt h)).trans h
theorem PB.c0 {W : World} {b : Nat} {p : Pt} (h : PB W b p) : W.cell? ⟨b, 0, none⟩ = some (.int .i64 p.1) := blk_cell h 0
theorem PB.c1 {W : World} {b : Nat} {p : Pt} (h : PB W b p) : W.cell? ⟨b, 1, none⟩ = some (.int .i64 p.2) := blk_cell h 1
theorem PB.lt {W : World} {b : Nat} {p : Pt} (h : PB W b p) : b < W.heap.size := blk_lt h
theorem calls_nx {P : Program} {f : FuncId} {args : Array Value} {w : World} {post : Ending → World → Prop} (h : ∀ X, w = X → Calls P f args X post) : Calls P f args w post := h _ rfl
theorem if_two {p q : Prop} [Decidable p] [Decidable q] (h : ¬ (p ∧ q)) {α : Type} (x y : α) : (if p then (if q then x else y) else y) = y := by
 by_cases hp : p
 ·rw [if_pos hp, if_neg (fun hq => h ⟨hp, hq⟩)]
 ·rw [if_neg hp]
theorem all_no {f : Nat → Bool} {n m : Nat} (hm : m < n) (h : f m = false) : (List.range n).all f = false := by
 rw [List.all_eq_false]
 exact ⟨m, List.mem_range.2 hm, by rw [h]; simp⟩
theorem p3within_v (ps : List Pt) (A : Option Addr) (c : Nat) (a b : Pt) (r : Bool) (w : World) (hr : Rd w w.heap.size 2 A (ps.map encD)) (hv : PValid ps = true) (ha : a.ok = true) (hb : b.ok = true) (h : hasOf ps a b = r) :
  Calls Tryz.prog 45 #[.slice A ps.length c, pt a.1 a.2, pt b.1 b.2] w (Ret w (.bool r)) := by
 have hm := hmix
 have hp := pv_parts hv
 have hl : ps.length ≤ 100 := by have := hp.1; omega
 have hok : ps.all Pt.ok = true := hp.2
 have a' := ok_bd ha
 have b' := ok_bd hb
 obtain ⟨pa, hpa⟩ : ∃ z, placeOf ps a = z := ⟨_, rfl⟩
 obtain ⟨pb, hpb⟩ : ∃ z, placeOf ps b = z := ⟨_, rfl⟩
 obtain ⟨l1, hl1⟩ : ∃ z, leadsOf ps a b = z := ⟨_, rfl⟩
 obtain ⟨l2, hl2⟩ : ∃ z, leadsOf ps b a = z := ⟨_, rfl⟩
 have kp1 := hide (fun W (hg : Grew w W) => p3Place_v ps A c a pa W (hr.up hg) hv ha hpa)
 have kp2 := hide (fun W (hg : Grew w W) => p3Place_v ps A c b pb W (hr.up hg) hv hb hpb)
 have kl1 := hide (fun W (hg : Grew w W) => p3leads_v ps A c a (sb b a) l1 W (hr.up hg) hl hok ha (by unfold sb; dsimp only; omega) (by unfold sb; dsimp only; omega) ((leads_ref ps a b).trans hl1))
 have kl2 := hide (fun W (hg : Grew w W) => p3leads_v ps A c b (sb a b) l2 W (hr.up hg) hl hok hb (by unfold sb; dsimp only; omega) (by unfold sb; dsimp only; omega) ((leads_ref ps b a).trans hl2))
 have ko1 := hide (fun (k : Nat) (hk : k < ps.length) (s : Bool) (hs : opensR ps k (sb b a) = s) W (hg : Grew w W) => p3opens_v ps A c k (sb b a) s W (hr.up hg) hl hok (by unfold sb; dsimp only; omega) (by unfold sb; dsimp only; omega) hk hs)
 have ko2 := hide (fun (k : Nat) (hk : k < ps.length) (s : Bool) (hs : opensR ps k (sb a b) = s) W (hg : Grew w W) => p3opens_v ps A c k (sb a b) s W (hr.up hg) hl hok (by unfold sb; dsimp only; omega) (by unfold sb; dsimp only; omega) hk hs)
 have m1 := hide (fun W => rMinus_v a b W ha hb)
 have m2 := hide (fun W => rMinus_v b a W hb ha)
 have hfst : hasFst ps a b = (decide (0 ≤ pa) && (decide (0 ≤ pb) && (l1 && l2))) := by unfold hasFst; rw [hpa, hpb, hl1, hl2]
 unfold hasOf at h
 rw [hfst] at h
 have HR := hide hr
 have HOK := hide hok
 have HH := hide h
 have HAB := hide (And.intro ha hb)
 clear hr hv hp hok ha hb h hpa hpb hl1 hl2 hfst a' b'
 obtain ⟨a1, a2⟩ := a
 obtain ⟨b1, b2⟩ := b
 unfold sb at kl1 kl2 ko1 ko2
 dsimp only at kp1 kp2 kl1 kl2 ko1 ko2 m1 m2 ⊢
 obtain ⟨v1, hv1⟩ : ∃ z, b1 - a1 = z := ⟨_, rfl⟩
 obtain ⟨v2, hv2⟩ : ∃ z, b2 - a2 = z := ⟨_, rfl⟩
 obtain ⟨w1, hw1⟩ : ∃ z, a1 - b1 = z := ⟨_, rfl⟩
 obtain ⟨w2, hw2⟩ : ∃ z, a2 - b2 = z := ⟨_, rfl⟩
 simp only [hv1, hv2] at m1 kl1 ko1
 simp only [hw1, hw2] at m2 kl2 ko2
 have HV : Hid ((v1, v2) = sb (b1, b2) (a1, a2)) := hide (by unfold sb; rw [← hv1, ← hv2])
 have HWv : Hid ((w1, w2) = sb (a1, a2) (b1, b2)) := hide (by unfold sb; rw [← hw1, ← hw2])
 clear hv1 hv2 hw1 hw2
 go_enter Tryz.func45, Tryz.ntmps45
 go_wp2_with fail
 refine calls_nx ?_
 intro X1 hX
 have HX1 : Hid (Grew w X1) := hide (by rw [← hX]; exact gw)
 have A1 : Hid (PB X1 w.heap.size (a1, a2)) := hide (by rw [← hX]; exact (heap_alloc_old _ _ (by simp)).trans (heap_alloc_at _ _ _ (by simp)))
 have B1 : Hid (PB X1 (w.heap.size + 1) (b1, b2)) := hide (by rw [← hX]; exact heap_alloc_at _ _ _ (by simp))
 have z0 := A1.out.c0
 have z1 := A1.out.c1
 have z2 := A1.out.lt
 have z3 := B1.out.c0
 have z4 := B1.out.c1
 have z5 := B1.out.lt
 clear hX
 refine (m1.out X1).mono ?_
 rintro e W1 ⟨rfl, hg⟩
 have HW1 := hide (HX1.out.trans hg)
 have A2 := hide (A1.out.up hg)
 have B2 := hide (B1.out.up hg)
 clear hg HX1 A1 B1 z0 z1 z2 z3 z4 z5
 have z0 := A2.out.c0
 have z1 := A2.out.c1
 have z2 := A2.out.lt
 have z3 := B2.out.c0
 have z4 := B2.out.c1
 have z5 := B2.out.lt
 dsimp only at z0 z1 z3 z4 ⊢
 go_wp2_with fail
 refine calls_nx ?_
 intro X2 hX
 have hgx : Grew W1 X2 := by rw [← hX]; exact gw
 have V2 : Hid (PB X2 W1.heap.size (v1, v2)) := hide (by rw [← hX]; exact heap_alloc_at _ _ _ (by simp))
 have HX2 := hide (HW1.out.trans hgx)
 have A3 := hide (A2.out.up hgx)
 have B3 := hide (B2.out.up hgx)
 clear hX hgx A2 B2 z0 z1 z2 z3 z4 z5
 refine (m2.out X2).mono ?_
 rintro e W2 ⟨rfl, hg⟩
 have HW2 := hide (HX2.out.trans hg)
 have A4 := hide (A3.out.up hg)
 have B4 := hide (B3.out.up hg)
 have V4 := hide (V2.out.up hg)
 clear hg HX2 A3 B3 V2
 dsimp only
 go_upto_region 3 with fail
 refine wp_name ?_
 intro X3 hX
 have hgx : Grew W2 X3 := by rw [← hX]; exact gw
 have U5 : Hid (PB X3 W2.heap.size (w1, w2)) := hide (by rw [← hX]; exact heap_alloc_at _ _ _ (by simp))
 have HX3 := hide (HW2.out.trans hgx)
 have A5 := hide (A4.out.up hgx)
 have B5 := hide (B4.out.up hgx)
 have V5 := hide (V4.out.up hgx)
 clear hX hgx A4 B4 V4 HW1 HW2
 have z0 := A5.out.c0
 have z1 := A5.out.c1
 have z2 := A5.out.lt
 have z3 := B5.out.c0
 have z4 := B5.out.c1
 have z5 := B5.out.lt
 have z6 := V5.out.c0
 have z7 := V5.out.c1
 have z8 := V5.out.lt
 have y0 := U5.out.c0
 have y1 := U5.out.c1
 have y2 := U5.out.lt
 dsimp only at z0 z1 z3 z4 z6 z7 y0 y1
 have hcase : (pa < 0) ∨ (¬ pa < 0 ∧ pb < 0) ∨ (¬ pa < 0 ∧ ¬ pb < 0 ∧ l1 = false) ∨ (¬ pa < 0 ∧ ¬ pb < 0 ∧ l1 = true ∧ l2 = false) ∨ (¬ pa < 0 ∧ ¬ pb < 0 ∧ l1 = true ∧ l2 = true) := by
  cases l1 <;> cases l2 <;> simp <;> omega
 have HC := hide hcase
 clear hcase
 rcases HC.out with g | ⟨g1, g⟩ | ⟨g1, g2, rfl⟩ | ⟨g1, g2, rfl, rfl⟩ | ⟨g1, g2, rfl, rfl⟩
 ·have hz : r = false := by rw [← HH.out, decide_eq_false (by omega)]; rfl
  subst hz
  clear HH HC ko1 ko2
  go_wp2_with (first | (go_at_call 40; with_reducible refine crv (kp1.out _ (HX3.out.trans gw)) fun _ _ => ?_; dsimp only) | (go_at_call 40; with_reducible refine crv (kp2.out _ (HX3.out.trans gw)) fun _ _ => ?_; dsimp only) | (go_at_call 80; with_reducible refine crv (kl1.out _ (HX3.out.trans gw)) fun _ _ => ?_; dsimp only) | (go_at_call 80; with_reducible refine crv (kl2.out _ (HX3.out.trans gw)) fun _ _ => ?_; dsimp only))
  go_ret
  exact Ret.mk' rfl (HX3.out.trans gw)
 ·have hz : r = false := by rw [← HH.out, decide_eq_false (show ¬ 0 ≤ pb by omega)]; simp
  subst hz
  clear HH HC ko1 ko2
  go_wp2_with (first | (go_at_call 40; with_reducible refine crv (kp1.out _ (HX3.out.trans gw)) fun _ _ => ?_; dsimp only) | (go_at_call 40; with_reducible refine crv (kp2.out _ (HX3.out.trans gw)) fun _ _ => ?_; dsimp only) | (go_at_call 80; with_reducible refine crv (kl1.out _ (HX3.out.trans gw)) fun _ _ => ?_; dsimp only) | (go_at_call 80; with_reducible refine crv (kl2.out _ (HX3.out.trans gw)) fun _ _ => ?_; dsimp only))
  go_ret
  exact Ret.mk' rfl (HX3.out.trans gw)
 ·have hz : r = false := by rw [← HH.out]; simp
  subst hz
  clear HH HC ko1 ko2
  go_wp2_with (first | (go_at_call 40; with_reducible refine crv (kp1.out _ (HX3.out.trans gw)) fun _ _ => ?_; dsimp only) | (go_at_call 40; with_reducible refine crv (kp2.out _ (HX3.out.trans gw)) fun _ _ => ?_; dsimp only) | (go_at_call 80; with_reducible refine crv (kl1.out _ (HX3.out.trans gw)) fun _ _ => ?_; dsimp only) | (go_at_call 80; with_reducible refine crv (kl2.out _ (HX3.out.trans gw)) fun _ _ => ?_; dsimp only))
  go_ret
  exact Ret.mk' rfl (HX3.out.trans gw)
 ·have hz : r = false := by rw [← HH.out]; simp
  subst hz
  clear HH HC ko1 ko2
  go_wp2_with (first | (go_at_call 40; with_reducible refine crv (kp1.out _ (HX3.out.trans gw)) fun _ _ => ?_; dsimp only) | (go_at_call 40; with_reducible refine crv (kp2.out _ (HX3.out.trans gw)) fun _ _ => ?_; dsimp only) | (go_at_call 80; with_reducible refine crv (kl1.out _ (HX3.out.trans gw)) fun _ _ => ?_; dsimp only) | (go_at_call 80; with_reducible refine crv (kl2.out _ (HX3.out.trans gw)) fun _ _ => ?_; dsimp only))
  go_ret
  exact Ret.mk' rfl (HX3.out.trans gw)
 ·have hz : (List.range ps.length).all (edgeHas ps (a1, a2) (b1, b2)) = r := by rw [← HH.out, decide_eq_true (show 0 ≤ pa by omega), decide_eq_true (show 0 ≤ pb by omega)]; simp
  have HZ := hide hz
  clear hz HH HC
  go_wp2_with (first | (go_at_call 40; with_reducible refine crv (kp1.out _ (HX3.out.trans gw)) fun _ _ => ?_; dsimp only) | (go_at_call 40; with_reducible refine crv (kp2.out _ (HX3.out.trans gw)) fun _ _ => ?_; dsimp only) | (go_at_call 80; with_reducible refine crv (kl1.out _ (HX3.out.trans gw)) fun _ _ => ?_; dsimp only) | (go_at_call 80; with_reducible refine crv (kl2.out _ (HX3.out.trans gw)) fun _ _ => ?_; dsimp only))
  refine wp_name ?_
  intro W0 hW
  have hgx : Grew X3 W0 := by rw [← hW]; exact gw
  have HG0 := hide (HX3.out.trans hgx)
  have A0 := hide (A5.out.up hgx)
  have B0 := hide (B5.out.up hgx)
  have V0 := hide (V5.out.up hgx)
  have U0 := hide (U5.out.up hgx)
  clear hW hgx A5 B5 V5 U5 z0 z1 z2 z3 z4 z5 z6 z7 z8 y0 y1 y2 kp1 kp2 kl1 kl2 m1 m2 HX3 g1 g2
  go_loopw [9] (fun i wr => ∃ m : Nat, m ≤ ps.length ∧ i = .int .i64 m ∧ Grew W0 wr ∧ AppG ((List.range m).all (edgeHas ps (a1, a2) (b1, b2)) = true)) (fun i _ => ps.length - (intOf i).toNat)
  case atStart => exact ⟨0, by omega, rfl, gw, show (List.range 0).all _ = true from rfl⟩
  case round =>
   obtain ⟨m, hmm, rfl, hg, hall⟩ := hrel
   have HG := hide hg
   have HA := hide hall.stop
   have z0 := (A0.out.up hg).c0
   have z1 := (A0.out.up hg).c1
   have z2 := (A0.out.up hg).lt
   have z3 := (B0.out.up hg).c0
   have z4 := (B0.out.up hg).c1
   have z5 := (B0.out.up hg).lt
   have z6 := (V0.out.up hg).c0
   have z7 := (V0.out.up hg).c1
   have z8 := (V0.out.up hg).lt
   have y0 := (U0.out.up hg).c0
   have y1 := (U0.out.up hg).c1
   have y2 := (U0.out.up hg).lt
   dsimp only at z0 z1 z3 z4 z6 z7 y0 y1
   clear hg hall
   by_cases hlt : m < ps.length
   ·obtain ⟨p, hp⟩ : ∃ p, cor ps m = p := ⟨_, rfl⟩
    obtain ⟨n, hn⟩ : ∃ p, cor ps (m + 1) = p := ⟨_, rfl⟩
    have okp : p.ok = true := by rw [← hp]; exact cor_ok HOK.out _
    have okn : n.ok = true := by rw [← hn]; exact cor_ok HOK.out _
    have hpm := cor_get hlt
    rw [hp] at hpm
    obtain ⟨bb, off1, hA1, hb1, g0, g1⟩ := ptAt (HR.out.up (HG0.out.trans HG.out)) hpm
    have hix1 := idx_run (cap := c) Tryz.underlying22 Tryz.sizeOf24 hA1.out hlt
    have kn := hide (fun W (hg : Grew w W) => Next_v ps A c m n W (HR.out.up hg) (by omega) hlt hn)
    obtain ⟨u, hu⟩ : ∃ o, cutB (a1, a2) (b1, b2) p n = o := ⟨_, rfl⟩
    obtain ⟨o, ho⟩ : ∃ o, onB p (a1, a2) (b1, b2) = o := ⟨_, rfl⟩
    obtain ⟨s1, hs1⟩ : ∃ o, opensR ps m (v1, v2) = o := ⟨_, rfl⟩
    obtain ⟨s2, hs2⟩ : ∃ o, opensR ps m (w1, w2) = o := ⟨_, rfl⟩
    have kc := hide (fun W => p3cuts_v (a1, a2) (b1, b2) p n u W HAB.out.1 HAB.out.2 okp okn hu)
    have kl := hide (fun W => p1Lie_v p (a1, a2) (b1, b2) o W okp HAB.out.1 HAB.out.2 ho)
    have k1 := hide (ko1.out m hlt s1 hs1)
    have k2 := hide (ko2.out m hlt s2 hs2)
    have he : edgeHas ps (a1, a2) (b1, b2) m = (!u && !(decide (p ≠ (a1, a2)) && (decide (p ≠ (b1, b2)) && (o && !(opensOf ps m (a1, a2) && opensOf ps m (b1, b2)))))) := by unfold edgeHas; rw [hp, hn, hu, ho]
    have hq1 : o = true → p ≠ (b1, b2) → opensOf ps m (b1, b2) = s1 := fun e1 e2 => by
     rw [← hs1, HV.out]
     exact (opens_on (by rw [hp, ho, e1]) (by rw [hp]; exact e2)).symm
    have hq2 : o = true → p ≠ (a1, a2) → opensOf ps m (a1, a2) = s2 := fun e1 e2 => by
     rw [← hs2, HWv.out]
     exact (opens_on (on_flip _ _ _ (by rw [hp, ho, e1])) (by rw [hp]; exact e2)).symm
    have E1 := hide (fun (e : u = true) => (show r = false by rw [← HZ.out]; exact all_no hlt (by rw [he, e]; rfl)))
    have hyes : edgeHas ps (a1, a2) (b1, b2) m = true → (List.range (m + 1)).all (edgeHas ps (a1, a2) (b1, b2)) = true := fun e => range_all_succ HA.out e
    have E2 := hide (fun (e1 : u = false) (e2 : o = false) => hyes (by rw [he, e1, e2]; simp))
    have E3 := hide (fun (e1 : u = false) (e2 : p = (a1, a2)) => hyes (by rw [he, e1, e2]; simp))
    have E4 := hide (fun (e1 : u = false) (e2 : p = (b1, b2)) => hyes (by rw [he, e1, e2]; simp))
    have E5 := hide (fun (e1 : u = false) (e2 : o = true) (e3 : p ≠ (a1, a2)) (e4 : p ≠ (b1, b2)) (e5 : s1 = true) (e6 : s2 = true) => hyes (by rw [he, e1, hq1 e2 e4, hq2 e2 e3, e5, e6]; simp))
    have E6 := hide (fun (e1 : u = false) (e2 : o = true) (e3 : p ≠ (a1, a2)) (e4 : p ≠ (b1, b2)) (e5 : (s2 && s1) = false) => (show r = false by rw [← HZ.out]; exact all_no hlt (by rw [he, e1, hq1 e2 e4, hq2 e2 e3, e5, e2]; simp [e3, e4])))
    clear hyes hq1 hq2 he hs1 hs2 hu ho hpm hp hn okp okn hA1
    obtain ⟨p1, p2⟩ := p
    obtain ⟨n1, n2⟩ := n
    dsimp only at g0 g1 kn kc kl
    cases u
    ·cases o
     ·have HY := hide (E2.out rfl rfl)
      clear E1 E2 E3 E4 E5 E6
      go_wp2_with fail
      refine wp_region_qas 10 [] [] hm (h := ?_)
      repeat (refine wpSteady_step (fun K hK => ?_); go_simp; first | (refine hK _ ?_; clear hK K) | (apply Exists.intro; refine ⟨fun _ => ?_, hK _ ?_⟩; (first | (go_at_call 36; with_reducible exact kn.out _ (HG0.out.trans (HG.out.trans gw))) | (go_at_call 81; with_reducible exact kc.out _)); clear hK K))
      refine rq0 fun nq osq => ?_
      try simp only [Act.put, setA]
      try dsimp only
      go_wp2_with fail
      refine wp_region_qas 37 [] [] hm (h := ?_)
      repeat (refine wpSteady_step (fun K hK => ?_); go_simp; first | (refine hK _ ?_; clear hK K) | (apply Exists.intro; refine ⟨fun _ => ?_, hK _ ?_⟩; (first | (go_at_call 74; with_reducible exact kl.out _) | (go_at_call 82; first | with_reducible exact k1.out _ (HG0.out.trans (HG.out.trans gw)) | with_reducible exact k2.out _ (HG0.out.trans (HG.out.trans gw)))); clear hK K))
      refine rq0 fun nq osq => ?_
      try simp only [Act.put, setA]
      try dsimp only
      go_wp2_with fail
      go_roundw
      case rel => exact ⟨m + 1, by omega, by go_num, HG.out.trans gw, show (List.range (m + 1)).all (edgeHas ps _ _) = true from HY.out⟩
      case measure => simp [intOf]; omega
     ·by_cases ea : p1 = a1 ∧ p2 = a2
      ·obtain ⟨rfl, rfl⟩ := ea
       have HY := hide (E3.out rfl rfl)
       clear E1 E2 E3 E4 E5 E6
       go_wp2_with fail
       refine wp_region_qas 10 [] [] hm (h := ?_)
       repeat (refine wpSteady_step (fun K hK => ?_); go_simp; first | (refine hK _ ?_; clear hK K) | (apply Exists.intro; refine ⟨fun _ => ?_, hK _ ?_⟩; (first | (go_at_call 36; with_reducible exact kn.out _ (HG0.out.trans (HG.out.trans gw))) | (go_at_call 81; with_reducible exact kc.out _)); clear hK K))
       refine rq0 fun nq osq => ?_
       try simp only [Act.put, setA]
       try dsimp only
       go_wp2_with fail
       refine wp_region_qas 37 [] [] hm (h := ?_)
       repeat (refine wpSteady_step (fun K hK => ?_); go_simp; first | (refine hK _ ?_; clear hK K) | (apply Exists.intro; refine ⟨fun _ => ?_, hK _ ?_⟩; (first | (go_at_call 74; with_reducible exact kl.out _) | (go_at_call 82; first | with_reducible exact k1.out _ (HG0.out.trans (HG.out.trans gw)) | with_reducible exact k2.out _ (HG0.out.trans (HG.out.trans gw)))); clear hK K))
       refine rq0 fun nq osq => ?_
       try simp only [Act.put, setA]
       try dsimp only
       go_wp2_with fail
       go_roundw
       case rel => exact ⟨m + 1, by omega, by go_num, HG.out.trans gw, show (List.range (m + 1)).all (edgeHas ps _ _) = true from HY.out⟩
       case measure => simp [intOf]; omega
      ·have na : (p1, p2) ≠ (a1, a2) := fun e => ea (by simpa using e)
       have fa : ∀ {α : Type} (x y : α), (if p1 = a1 then (if p2 = a2 then x else y) else y) = y := fun x y => if_two ea x y
       clear ea
       by_cases eb : p1 = b1 ∧ p2 = b2
       ·obtain ⟨rfl, rfl⟩ := eb
        have HY := hide (E4.out rfl rfl)
        clear E1 E2 E3 E4 E5 E6 na
        go_wp2_with fail
        refine wp_region_qas 10 [] [] hm (h := ?_)
        repeat (refine wpSteady_step (fun K hK => ?_); go_simp; first | (refine hK _ ?_; clear hK K) | (apply Exists.intro; refine ⟨fun _ => ?_, hK _ ?_⟩; (first | (go_at_call 36; with_reducible exact kn.out _ (HG0.out.trans (HG.out.trans gw))) | (go_at_call 81; with_reducible exact kc.out _)); clear hK K))
        refine rq0 fun nq osq => ?_
        try simp only [Act.put, setA]
        try dsimp only
        go_wp2_with fail
        refine wp_region_qas 37 [] [] hm (h := ?_)
        repeat (refine wpSteady_step (fun K hK => ?_); go_simp; first | (refine hK _ ?_; clear hK K) | (apply Exists.intro; refine ⟨fun _ => ?_, hK _ ?_⟩; (first | (go_at_call 74; with_reducible exact kl.out _) | (go_at_call 82; first | with_reducible exact k1.out _ (HG0.out.trans (HG.out.trans gw)) | with_reducible exact k2.out _ (HG0.out.trans (HG.out.trans gw)))); clear hK K))
        refine rq0 fun nq osq => ?_
        try simp only [Act.put, setA]
        try dsimp only
        go_wp2_with fail
        go_roundw
        case rel => exact ⟨m + 1, by omega, by go_num, HG.out.trans gw, show (List.range (m + 1)).all (edgeHas ps _ _) = true from HY.out⟩
        case measure => simp [intOf]; omega
       ·have nb : (p1, p2) ≠ (b1, b2) := fun e => eb (by simpa using e)
        have fb : ∀ {α : Type} (x y : α), (if p1 = b1 then (if p2 = b2 then x else y) else y) = y := fun x y => if_two eb x y
        clear eb
        have hs : (s1 = true ∧ s2 = true) ∨ (s1 = false) ∨ (s1 = true ∧ s2 = false) := by cases s1 <;> cases s2 <;> simp
        rcases hs with ⟨rfl, rfl⟩ | rfl | ⟨rfl, rfl⟩
        ·have HY := hide (E5.out rfl rfl na nb rfl rfl)
         clear E1 E2 E3 E4 E5 E6 na nb
         go_wp2_with fail
         refine wp_region_qas 10 [] [] hm (h := ?_)
         repeat (refine wpSteady_step (fun K hK => ?_); go_simp; first | (refine hK _ ?_; clear hK K) | (apply Exists.intro; refine ⟨fun _ => ?_, hK _ ?_⟩; (first | (go_at_call 36; with_reducible exact kn.out _ (HG0.out.trans (HG.out.trans gw))) | (go_at_call 81; with_reducible exact kc.out _)); clear hK K))
         refine rq0 fun nq osq => ?_
         try simp only [Act.put, setA]
         try dsimp only
         go_wp2_with fail
         refine wp_region_qas 37 [] [] hm (h := ?_)
         repeat (refine wpSteady_step (fun K hK => ?_); go_simp; first | (refine hK _ ?_; clear hK K) | (apply Exists.intro; refine ⟨fun _ => ?_, hK _ ?_⟩; (first | (go_at_call 74; with_reducible exact kl.out _) | (go_at_call 82; first | with_reducible exact k1.out _ (HG0.out.trans (HG.out.trans gw)) | with_reducible exact k2.out _ (HG0.out.trans (HG.out.trans gw)))); clear hK K))
         refine rq0 fun nq osq => ?_
         try simp only [Act.put, setA]
         try dsimp only
         go_wp2_with fail
         go_roundw
         case rel => exact ⟨m + 1, by omega, by go_num, HG.out.trans gw, show (List.range (m + 1)).all (edgeHas ps _ _) = true from HY.out⟩
         case measure => simp [intOf]; omega
        ·have hz := E6.out rfl rfl na nb (by simp)
         subst hz
         clear E1 E2 E3 E4 E5 E6 na nb
         go_wp2_with fail
         refine wp_region_qas 10 [] [] hm (h := ?_)
         repeat (refine wpSteady_step (fun K hK => ?_); go_simp; first | (refine hK _ ?_; clear hK K) | (apply Exists.intro; refine ⟨fun _ => ?_, hK _ ?_⟩; (first | (go_at_call 36; with_reducible exact kn.out _ (HG0.out.trans (HG.out.trans gw))) | (go_at_call 81; with_reducible exact kc.out _)); clear hK K))
         refine rq0 fun nq osq => ?_
         try simp only [Act.put, setA]
         try dsimp only
         go_wp2_with fail
         refine wp_region_qas 37 [] [] hm (h := ?_)
         repeat (refine wpSteady_step (fun K hK => ?_); go_simp; first | (refine hK _ ?_; clear hK K) | (apply Exists.intro; refine ⟨fun _ => ?_, hK _ ?_⟩; (first | (go_at_call 74; with_reducible exact kl.out _) | (go_at_call 82; first | with_reducible exact k1.out _ (HG0.out.trans (HG.out.trans gw)) | with_reducible exact k2.out _ (HG0.out.trans (HG.out.trans gw)))); clear hK K))
         refine rq0 fun nq osq => ?_
         try simp only [Act.put, setA]
         try dsimp only
         go_wp2_with fail
         go_ret
         exact Ret.mk' rfl (HG0.out.trans (HG.out.trans gw))
        ·have hz := E6.out rfl rfl na nb (by simp)
         subst hz
         clear E1 E2 E3 E4 E5 E6 na nb
         go_wp2_with fail
         refine wp_region_qas 10 [] [] hm (h := ?_)
         repeat (refine wpSteady_step (fun K hK => ?_); go_simp; first | (refine hK _ ?_; clear hK K) | (apply Exists.intro; refine ⟨fun _ => ?_, hK _ ?_⟩; (first | (go_at_call 36; with_reducible exact kn.out _ (HG0.out.trans (HG.out.trans gw))) | (go_at_call 81; with_reducible exact kc.out _)); clear hK K))
         refine rq0 fun nq osq => ?_
         try simp only [Act.put, setA]
         try dsimp only
         go_wp2_with fail
         refine wp_region_qas 37 [] [] hm (h := ?_)
         repeat (refine wpSteady_step (fun K hK => ?_); go_simp; first | (refine hK _ ?_; clear hK K) | (apply Exists.intro; refine ⟨fun _ => ?_, hK _ ?_⟩; (first | (go_at_call 74; with_reducible exact kl.out _) | (go_at_call 82; first | with_reducible exact k1.out _ (HG0.out.trans (HG.out.trans gw)) | with_reducible exact k2.out _ (HG0.out.trans (HG.out.trans gw)))); clear hK K))
         refine rq0 fun nq osq => ?_
         try simp only [Act.put, setA]
         try dsimp only
         go_wp2_with fail
         go_ret
         exact Ret.mk' rfl (HG0.out.trans (HG.out.trans gw))
    ·have hz := E1.out rfl
     subst hz
     clear E1 E2 E3 E4 E5 E6
     go_wp2_with fail
     refine wp_region_qas 10 [] [] hm (h := ?_)
     repeat (refine wpSteady_step (fun K hK => ?_); go_simp; first | (refine hK _ ?_; clear hK K) | (apply Exists.intro; refine ⟨fun _ => ?_, hK _ ?_⟩; (first | (go_at_call 36; with_reducible exact kn.out _ (HG0.out.trans (HG.out.trans gw))) | (go_at_call 81; with_reducible exact kc.out _)); clear hK K))
     refine rq0 fun nq osq => ?_
     try simp only [Act.put, setA]
     try dsimp only
     go_wp2_with fail
     go_ret
     exact Ret.mk' rfl (HG0.out.trans (HG.out.trans gw))
   ·obtain rfl : m = ps.length := by omega
    obtain rfl : r = true := by rw [← HZ.out]; exact HA.out
    go_wp2_with fail
    go_ret
    exact Ret.mk' rfl (HG0.out.trans (HG.out.trans gw))
end Go.Proofs.YtndkfpmklmcjjaaGreat
