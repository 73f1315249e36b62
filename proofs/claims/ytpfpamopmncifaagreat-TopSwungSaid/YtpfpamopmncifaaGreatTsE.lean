/- Package mooring: Radius, Holds, Feature. -/
import Derived.Test.YtpfpamopmncifaaGreatTsD
set_option linter.unusedSimpArgs false
set_option linter.unusedVariables false
set_option maxHeartbeats 4000000
set_option maxRecDepth 100000
namespace Go.Proofs.YtpfpamopmncifaaGreat
open Go.RowKit Go.Sort
attribute [local go_sem] Steady steadyUpon
attribute [local go_sem ↓] hs_dr lt_add_r lt_add_r2 lt_add_r3 lt_add_r4 lt_add_r5 lt_add_r6
attribute [local go_sem] cell?_gd frozen?_gd setCell_gd size_grow tape_grow cell?_grow' frozen?_grow' setCell_grow' grow_grow grow_dr grow_drew dr_dr dr_drew drew_dr dr_alloc dr_setCell dr_cell dr_frozen dr_tape dr_drawn
attribute [local irreducible] wpSteady
/-- What Radius hands back. -/
def RadP (x y lo hi ch a b r e : Int) : Prop :=
 ((mOk x y lo hi ch && inB a b (-100000) 100000) = false ∧ r = 0 ∧ e = 1) ∨ ((mOk x y lo hi ch && inB a b (-100000) 100000) = true ∧ ch < wat hi b ∧ r = 0 ∧ e = 6) ∨
 ((mOk x y lo hi ch && inB a b (-100000) 100000) = true ∧ wat hi b ≤ ch ∧ 0 ≤ r ∧ r ≤ 100000 ∧ ch * ch - wat lo a * wat lo a ≤ 100 * (r * r) ∧ (r = 0 ∨ 100 * ((r - 1) * (r - 1)) < ch * ch - wat lo a * wat lo a) ∧ e = 0)
theorem inB_bd {lo hi a b : Int} (h : inB lo hi a b = true) : a ≤ lo ∧ lo ≤ hi ∧ hi ≤ b := by
 unfold inB spOk at h
 rw [Bool.and_eq_true, decide_eq_true_eq, decide_eq_true_eq] at h
 omega
theorem mOk_bd {x y lo hi ch : Int} (h : mOk x y lo hi ch = true) : plOk x y = true ∧ (0 ≤ lo ∧ lo ≤ hi ∧ hi ≤ 100000) ∧ 0 ≤ ch ∧ ch ≤ 1000000 := by
 unfold mOk at h
 rw [Bool.and_eq_true, Bool.and_eq_true, decide_eq_true_eq] at h
 have := inB_bd h.2.1
 exact ⟨h.1, by omega, by omega, by omega⟩
theorem wat_bd {d t : Int} (h1 : 0 ≤ d ∧ d ≤ 100000) (h2 : -100000 ≤ t ∧ t ≤ 100000) : 0 ≤ wat d t ∧ wat d t ≤ 200000 := by
 unfold wat
 omega
theorem Radius_v (x y lo hi ch a b : Int) (w : World) :
  Calls Tryz.prog 24 #[mov x y lo hi ch, spv a b] w fun e w' => ∃ r c : Int, e = .returned (.tuple #[.int .i64 r, .int .i64 c]) ∧ RadP x y lo hi ch a b r c ∧ Grew w w' := by
 have hm := hmix
 obtain ⟨u, hu⟩ : ∃ u, mOk x y lo hi ch = u := ⟨_, rfl⟩
 obtain ⟨v, hv⟩ : ∃ u, inB a b (-100000) 100000 = u := ⟨_, rfl⟩
 have k1 := hide (fun W => mValid_v x y lo hi ch u W hu)
 have k2 := hide (fun W => isHeights_v a b v W hv)
 have hcase : u = false ∨ (u = true ∧ v = false) ∨ (u = true ∧ v = true) := by cases u <;> cases v <;> simp
 have HU := hide hu
 have HV := hide hv
 clear hu hv
 rcases hcase with rfl | ⟨rfl, rfl⟩ | ⟨rfl, rfl⟩
 ·go_enter Tryz.func24, Tryz.ntmps24
  go_wp2_with (first | (go_at_call 19; with_reducible refine crv (k1.out _) fun _ _ => ?_; dsimp only) | (go_at_call 20; with_reducible refine crv (k2.out _) fun _ _ => ?_; dsimp only))
  go_ret2
  exact ⟨0, 1, rfl, .inl ⟨by rw [HU.out]; rfl, rfl, rfl⟩, gw⟩
 ·go_enter Tryz.func24, Tryz.ntmps24
  go_wp2_with (first | (go_at_call 19; with_reducible refine crv (k1.out _) fun _ _ => ?_; dsimp only) | (go_at_call 20; with_reducible refine crv (k2.out _) fun _ _ => ?_; dsimp only))
  go_ret2
  exact ⟨0, 1, rfl, .inl ⟨by rw [HV.out, Bool.and_false], rfl, rfl⟩, gw⟩
 ·have hb := mOk_bd HU.out
  have hb2 := inB_bd HV.out
  have hok : (mOk x y lo hi ch && inB a b (-100000) 100000) = true := by rw [HU.out, HV.out]; rfl
  have w1 := wat_bd (d := lo) (t := a) (by omega) (by omega)
  have w2 := wat_bd (d := hi) (t := b) (by omega) (by omega)
  have k3 := hide (fun W => in_v x y lo hi ch a b W (by omega) (by omega))
  have HOK := hide hok
  clear hok HU HV
  obtain ⟨p, hp⟩ : ∃ p, wat lo a = p := ⟨_, rfl⟩
  obtain ⟨q, hq⟩ : ∃ p, wat hi b = p := ⟨_, rfl⟩
  rw [hp, hq] at k3
  rw [hp] at w1
  rw [hq] at w2
  have HP := hide hp
  have HQ := hide hq
  clear hp hq
  by_cases hlt : ch < q
  ·go_enter Tryz.func24, Tryz.ntmps24
   go_wp2_with (first | (go_at_call 19; with_reducible refine crv (k1.out _) fun _ _ => ?_; dsimp only) | (go_at_call 20; with_reducible refine crv (k2.out _) fun _ _ => ?_; dsimp only) | (go_at_call 22; with_reducible refine crv (k3.out _) fun _ _ => ?_; dsimp only))
   go_ret2
   exact ⟨0, 6, rfl, .inr (.inl ⟨HOK.out, by rw [HQ.out]; exact hlt, rfl, rfl⟩), gw⟩
  ·go_enter Tryz.func24, Tryz.ntmps24
   go_wp2_with (first | (go_at_call 19; with_reducible refine crv (k1.out _) fun _ _ => ?_; dsimp only) | (go_at_call 20; with_reducible refine crv (k2.out _) fun _ _ => ?_; dsimp only) | (go_at_call 22; with_reducible refine crv (k3.out _) fun _ _ => ?_; dsimp only))
   refine calls_nt ?_
   intro X hX
   have HG : Hid (Grew w X) := hide (by rw [← hX]; exact gw)
   clear hX
   refine (radius_v x y lo hi ch p q X (by omega) (by omega)).mono ?_
   rintro e W1 ⟨r, rfl, r0, r1, r2, r3, hg1⟩
   have HG1 := hide (HG.out.trans hg1)
   clear hg1
   dsimp only
   go_wp2_with fail
   go_ret2
   exact ⟨r, 0, rfl, .inr (.inr ⟨HOK.out, by rw [HQ.out]; omega, r0, r1, by rw [HP.out]; exact r2, by rw [HP.out]; exact r3, rfl⟩), HG1.out.trans gw⟩
theorem mHolds_v (x y lo hi ch h : Int) (p : Pt) (r : Bool × Int) (w : World) (hh : (if (mOk x y lo hi ch && (inB h h (-100000) 100000 && p.ok)) = true then (hasM ch (wat lo h) (p.1 - x) (p.2 - y), (0 : Int)) else (false, 1)) = r) :
  Calls Tryz.prog 7 #[mov x y lo hi ch, .int .i64 h, pt p.1 p.2] w (Ret w (.tuple #[.bool r.1, .int .i64 r.2])) := by
 have hm := hmix
 obtain ⟨u, hu⟩ : ∃ u, mOk x y lo hi ch = u := ⟨_, rfl⟩
 obtain ⟨v, hv⟩ : ∃ u, inB h h (-100000) 100000 = u := ⟨_, rfl⟩
 obtain ⟨t, ht⟩ : ∃ u, p.ok = u := ⟨_, rfl⟩
 have k1 := hide (fun W => mValid_v x y lo hi ch u W hu)
 have k2 := hide (fun W => isHeights_v h h v W hv)
 have k3 := hide (fun W => planeValid_v p.1 p.2 t W ht)
 have hcase : u = false ∨ (u = true ∧ v = false) ∨ (u = true ∧ v = true ∧ t = false) ∨ (u = true ∧ v = true ∧ t = true) := by cases u <;> cases v <;> cases t <;> simp
 have hbd : u = true → v = true → t = true → (plOk x y = true ∧ (0 ≤ lo ∧ lo ≤ hi ∧ hi ≤ 100000) ∧ 0 ≤ ch ∧ ch ≤ 1000000) ∧ (-100000 ≤ h ∧ h ≤ 100000) ∧ p.ok = true := fun e1 e2 e3 => ⟨mOk_bd (hu.trans e1), by have := inB_bd (hv.trans e2); omega, ht.trans e3⟩
 rw [hu, hv, ht] at hh
 clear hu hv ht
 obtain ⟨p1, p2⟩ := p
 dsimp only at k3 hh ⊢
 rcases hcase with rfl | ⟨rfl, rfl⟩ | ⟨rfl, rfl, rfl⟩ | ⟨rfl, rfl, rfl⟩
 ·rw [if_neg (by simp)] at hh
  subst hh
  go_enter Tryz.func7, Tryz.ntmps7
  go_wp2_with (first | (go_at_call 19; with_reducible refine crv (k1.out _) fun _ _ => ?_; dsimp only) | (go_at_call 20; with_reducible refine crv (k2.out _) fun _ _ => ?_; dsimp only) | (go_at_call 21; with_reducible refine crv (k3.out _) fun _ _ => ?_; dsimp only))
  go_ret2
  exact Ret.mk' rfl gw
 ·rw [if_neg (by simp)] at hh
  subst hh
  go_enter Tryz.func7, Tryz.ntmps7
  go_wp2_with (first | (go_at_call 19; with_reducible refine crv (k1.out _) fun _ _ => ?_; dsimp only) | (go_at_call 20; with_reducible refine crv (k2.out _) fun _ _ => ?_; dsimp only) | (go_at_call 21; with_reducible refine crv (k3.out _) fun _ _ => ?_; dsimp only))
  go_ret2
  exact Ret.mk' rfl gw
 ·rw [if_neg (by simp)] at hh
  subst hh
  go_enter Tryz.func7, Tryz.ntmps7
  go_wp2_with (first | (go_at_call 19; with_reducible refine crv (k1.out _) fun _ _ => ?_; dsimp only) | (go_at_call 20; with_reducible refine crv (k2.out _) fun _ _ => ?_; dsimp only) | (go_at_call 21; with_reducible refine crv (k3.out _) fun _ _ => ?_; dsimp only))
  go_ret2
  exact Ret.mk' rfl gw
 ·rw [if_pos (by rfl)] at hh
  subst hh
  obtain ⟨⟨b1, b2, b3⟩, b4, b5⟩ := hbd rfl rfl rfl
  have p' := pl_bd b1
  have q' := ok_bd b5
  dsimp only at q'
  have w1 := wat_bd (d := lo) (t := h) (by omega) (by omega)
  have k4 := hide (fun W => in_v x y lo hi ch h h W (by omega) (by omega))
  obtain ⟨o, ho⟩ : ∃ o, hasM ch (wat lo h) (p1 - x) (p2 - y) = o := ⟨_, rfl⟩
  have k5 := hide (fun W => has_v x y lo hi ch (wat lo h) (wat hi h) (p1 - x) (p2 - y) o W (by omega) (by omega) (by omega) (by omega) ho)
  have ew1 : IntKind.i64.wrap (p1 - x) = p1 - x := by unfold IntKind.wrap; simp [IntKind.bits, IntKind.signed]; omega
  have ew2 : IntKind.i64.wrap (p2 - y) = p2 - y := by unfold IntKind.wrap; simp [IntKind.bits, IntKind.signed]; omega
  rw [ho]
  clear ho hbd b1 b5
  go_enter Tryz.func7, Tryz.ntmps7
  go_wp2_with (first | (go_at_call 19; with_reducible refine crv (k1.out _) fun _ _ => ?_; dsimp only) | (go_at_call 20; with_reducible refine crv (k2.out _) fun _ _ => ?_; dsimp only) | (go_at_call 21; with_reducible refine crv (k3.out _) fun _ _ => ?_; dsimp only))
  refine wp_region_qas 18 [] [] hm (h := ?_)
  repeat (refine wpSteady_step (fun K hK => ?_); go_simp; first | (refine hK _ ?_; clear hK K) | (apply Exists.intro; refine ⟨fun _ => ?_, hK _ ?_⟩; (first | (go_at_call 22; with_reducible exact k4.out _) | (go_at_call 23; with_reducible exact k5.out _)); clear hK K))
  refine rq0 fun nq osq => ?_
  try simp only [Act.put, setA]
  try dsimp only
  go_wp2_with fail
  go_ret2
  exact Ret.mk' rfl gw
/-- What Feature hands back: a buoy, or an error and no feature. -/
abbrev zv : Value := .agg #[.int .i64 0, .int .i64 0, .int .i64 0, .int .i64 0, .int .i64 0, .slice none 0 0, .int .i64 0, .int .i64 0, .slice none 0 0]
theorem mFeature_v (x y lo hi ch a b id sym : Int) (w : World) :
  Calls Tryz.prog 8 #[mov x y lo hi ch, spv a b, .int .i64 id, .int .i64 sym] w fun e w' => ∃ r c : Int, RadP x y lo hi ch a b r c ∧ Grew w w' ∧
   ((c ≠ 0 ∧ e = .returned (.tuple #[zv, .int .i64 c])) ∨ (c = 0 ∧ dvOk id x y r sym = false ∧ e = .returned (.tuple #[zv, .int .i64 3])) ∨ (c = 0 ∧ dvOk id x y r sym = true ∧ e = .returned (.tuple #[dv id x y r sym, .int .i64 0]))) := by
 have hm := hmix
 go_enter Tryz.func8, Tryz.ntmps8
 go_wp2_with fail
 refine (Radius_v x y lo hi ch a b _).mono ?_
 rintro e W1 ⟨r, c, rfl, hrad, ⟨n1, os1⟩, rfl⟩
 have HRAD := hide hrad
 obtain ⟨o, ho⟩ : ∃ o, dvOk id x y r sym = o := ⟨_, rfl⟩
 have k1 := hide (fun W => dValid_v id x y r sym o W ho)
 have HO := hide ho
 clear hrad ho
 dsimp only
 by_cases hc : c = 0
 ·subst hc
  cases o
  ·go_wp2_with (go_at_call 25; with_reducible refine crv (k1.out _) fun _ _ => ?_; dsimp only)
   refine bodyPost_ret (v := .tuple #[zv, .int .i64 3]) (by simp [results, Tryz.results8, go_sem]) rfl ?_
   exact ⟨r, 0, HRAD.out, gw, .inr (.inl ⟨rfl, HO.out, rfl⟩)⟩
  ·go_wp2_with (go_at_call 25; with_reducible refine crv (k1.out _) fun _ _ => ?_; dsimp only)
   refine bodyPost_ret (v := .tuple #[dv id x y r sym, .int .i64 0]) (by simp [results, Tryz.results8, go_sem]) rfl ?_
   exact ⟨r, 0, HRAD.out, gw, .inr (.inr ⟨rfl, HO.out, rfl⟩)⟩
 ·have hc2 : (c != 0) = true := by simpa using hc
  go_wp2_with fail
  refine bodyPost_ret (v := .tuple #[zv, .int .i64 c]) (by simp [results, Tryz.results8, go_sem]) rfl ?_
  exact ⟨r, c, HRAD.out, gw, .inl ⟨hc, rfl⟩⟩
end Go.Proofs.YtpfpamopmncifaaGreat
