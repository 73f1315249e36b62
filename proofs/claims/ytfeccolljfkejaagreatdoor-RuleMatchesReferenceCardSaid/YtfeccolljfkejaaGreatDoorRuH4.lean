/- Package rule: Apply with rules of one kind. Package rule: Apply with rules of one kind. -/
import Derived.Test.YtfeccolljfkejaaGreatDoorRuY
set_option linter.unusedSimpArgs false
set_option linter.unusedVariables false
set_option maxHeartbeats 8000000
set_option maxRecDepth 100000
namespace Go.Proofs.YtfeccolljfkejaaGreatDoor
open Go.RowKit Go.Sort Go.Lib
attribute [local go_sem] Steady steadyUpon
attribute [local go_sem ↓] hs_dr lt_add_r lt_add_r2 lt_add_r3 lt_add_r4 lt_add_r5 lt_add_r6
attribute [local go_sem] cell?_gd frozen?_gd setCell_gd size_grow tape_grow cell?_grow' frozen?_grow' setCell_grow' grow_grow grow_dr grow_drew dr_dr dr_drew drew_dr dr_alloc dr_setCell dr_cell dr_frozen dr_tape dr_drawn
attribute [local irreducible] wpSteady
attribute [local go_sem] fneq_nil fneq_fn
theorem Apply_4 (k n : Int) (fs : List FV) (A : Option Addr) (c : Nat) (w : World) (hr : FRd w w.heap.size A fs) (hu : ruleOk 4 k n = true) (hv : FList fs = true) :
  Calls Tryz.prog 17 #[ruV 4 k n, .slice A fs.length c] w (FeatR w (applyOf 4 k n fs)) := by
 have hm := hmix
 have hlen := list_len hv
 have k1 := hide (fun W => isRule_v 4 k n true W hu)
 have k2 := hide (fun W (hg : Grew w W) => FList_v fs A c true W (hr.up hg) (by omega) hv)
 have HR := hide hr
 have HV := hide hv
 have HU := hide hu
 clear hu hv hr
 go_enter Tryz.func17, Tryz.ntmps17
 go_wp2_with (first | (go_at_call 42; with_reducible refine crv (k1.out _) fun _ _ => ?_; dsimp only) | (go_at_call 31; with_reducible refine crv (k2.out _ gw) fun _ _ => ?_; dsimp only))
 refine (CloneF_any fs A c _ (HR.out.row.up gw) (by omega)).mono ?_
 rintro e W1 ⟨v1, rfl, hown, hg⟩
 obtain ⟨W0, hW0⟩ : ∃ X, X = w.alloc (.cells #[.int .i64 4, .int .i64 k, .int .i64 n] 36) := ⟨_, rfl⟩
 have hs0 : W0.heap.size = w.heap.size + 1 := by rw [hW0]; simp
 have HBX0 : Hid (RuBox W0 w.heap.size 4 k n) := hide (by rw [hW0]; exact RuBox.new w 4 k n)
 have HG0 : Hid (Grew w W0) := hide (by rw [hW0]; exact gw)
 have HG1 : Hid (Grew W0 W1) := hide (by rw [hW0]; exact Grew.trans gw hg)
 have HOW : Hid (W1.ownsRow W0.heap.size 47 9 v1 fs.length (fs.flatMap FV.cells)) := hide (own_mono hown (by rw [hs0]; simp [size_grow, hs_dr]; try omega))
 obtain ⟨A1, c1, rfl, hc1, hrd1⟩ := Rd.of_own fv_len hown rfl
 have hB0 := (HBX0.out.up HG1.out).1
 have hB1 := (HBX0.out.up HG1.out).2
 clear hown hg hrd1 k1 k2 hW0
 dsimp only
 go_wp2_with fail
 refine wp_name ?_
 intro W2 hW
 have HG2 : Hid (Grew W1 W2) := hide (by rw [← hW]; exact gw)
 have HBX2 := hide (HBX0.out.up (HG1.out.trans HG2.out))
 have hB2 := HBX2.out.2
 clear hW hB0 hB1
 refine wp_region_held_drew (S := (fun w' => w'.cell? ⟨w.heap.size, 0, none⟩ = some (.int .i64 4) ∧ w'.cell? ⟨w.heap.size, 1, none⟩ = some (.int .i64 k) ∧ w'.cell? ⟨w.heap.size, 2, none⟩ = some (.int .i64 n))) hm ?_ (fun hHeld => ?_)
 ·exact (RuBox.up HBX2.out gw).1
 refine tk 1 ?_
 try simp only [Act.put, setA, getA]
 refine tk 2 ?_
 try simp only [Act.put, setA, getA]
 refine wpAnyH_ready (rs := [0]) (by kernel_rfl) (by simp) ?_
 refine AllReadyH.cons (o := _) rfl (fun K hK => ?_) AllReadyH.nil
 go_simp
 (first | ((go_at_call 35); (refine (forms_v _).mono ?_); rintro e Wn ⟨g, b1, b2, b3, b4, b5, rfl, hF, hgr⟩; have HGn : Hid (Grew W2 Wn) := hide (Grew.trans gw hgr); obtain ⟨s, q0, q1, q2, q3, q4⟩ := hF.k4'; clear hF hgr q0 q1 q2 q3; dsimp only) | skip)
 refine hK.out _ _ ?_ (fun hHeld => ?_)
 ·exact (RuBox.up HBX2.out gw).1
 clear hK K
 try simp only [Act.put, setA, getA]
 refine tk 3 ?_
 try simp only [Act.put, setA, getA]
 refine tk 4 ?_
 try simp only [Act.put, setA, getA]
 refine wpAnyH_ready (rs := [5]) (by kernel_rfl) (by simp) ?_
 refine AllReadyH.cons (o := _) rfl (fun K hK => ?_) AllReadyH.nil
 go_simp
 (first | ((go_at_call 35); (refine (forms_v _).mono ?_); rintro e Wn ⟨g, b1, b2, b3, b4, b5, rfl, hF, hgr⟩; have HGn : Hid (Grew W2 Wn) := hide (Grew.trans gw hgr); obtain ⟨s, q0, q1, q2, q3, q4⟩ := hF.k4'; clear hF hgr q0 q1 q2 q3; dsimp only) | skip)
 refine hK.out _ _ ?_ (fun hHeld => ?_)
 ·exact (RuBox.up HBX2.out gw).1
 clear hK K
 try simp only [Act.put, setA, getA]
 refine tk 6 ?_
 try simp only [Act.put, setA, getA]
 refine wpAnyH_done (by kernel_rfl) ?_ _
 go_wp2_with fail
 refine wp_name ?_
 intro W4 hW
 have HG4 : Hid (Grew W0 W4) := hide (by rw [← hW]; exact HG1.out.trans (HG2.out.trans gw))
 have HO4 : Hid (W4.ownsRow W0.heap.size 47 9 (.slice A1 fs.length c1) fs.length (fs.flatMap FV.cells)) := hide (by rw [← hW]; exact fown_grew HOW.out (HG2.out.trans gw))
 obtain ⟨gk, hgk⟩ : ∃ g : Nat, ∀ b, A1 = some ⟨b, 0, none⟩ → b = g := ⟨A1.elim 0 Addr.block, fun b e => by rw [e]; rfl⟩
 have HGK := hide hgk
 have hA1 : fs.length ≠ 0 → A1 = some ⟨gk, 0, none⟩ ∧ W0.heap.size ≤ gk := fun h0 => by
  rcases HOW.out.2 with ⟨h', h1⟩ | ⟨g', cap', cur, h', hb', _⟩
  ·omega
  ·simp only [Value.slice.injEq] at h'
   have := HGK.out g' h'.1
   subst this
   exact ⟨h'.1, hb'⟩
 have HA1 := hide hA1
 clear hW q4 hgk hA1 hB2 hHeld
 go_loopw [35] (fun i wr => ∃ (m : Nat) (cur : List FV), m ≤ fs.length ∧ i = .int .i64 m ∧ cur.length = fs.length ∧ Grew W0 wr ∧ wr.ownsRow W0.heap.size 47 9 (.slice A1 fs.length c1) fs.length (cur.flatMap FV.cells) ∧ Hid (∀ j, j < fs.length → FSt wr gk (fAt cur j)) ∧ Hid (∀ j, j < fs.length → (fAt cur j).bare = (if j < m then chg 4 k n (fAt fs j) else fAt fs j).bare)) (fun i _ => fs.length - (intOf i).toNat)
 case atStart => exact ⟨0, fs, by omega, rfl, rfl, HG4.out, HO4.out, hide (fun j hj => FSt.of ((HR.out.each _ (fAt_mem hj)).grew (HG0.out.trans HG4.out) (Nat.le_refl _) HG0.out.below.size) HG4.out.below.size (HA1.out (by omega)).2), hide (fun j hj => by rw [if_neg (by omega)])⟩
 case round =>
  obtain ⟨m, cur, hmm, rfl, hcl, hg, hown, HS, HBR⟩ := hrel
  have HG := hide hg
  have HO := hide hown
  by_cases hlt : m < fs.length
  ·obtain ⟨rfl, hgk2⟩ := HA1.out (by omega)
   have hown3 := hown
   rw [← hcl] at hown3
   have HO3 := hide hown3
   obtain ⟨fc, hfz⟩ := ownAt hown3 rfl (k := m) (by omega)
   obtain ⟨lg1, lg2⟩ := hown.lt gk rfl
   have hbr := HBR.out m hlt
   rw [if_neg (by omega)] at hbr
   have HBM := hide hbr
   have hkd := bare_kind hbr
   have d1 := fc.c1
   rw [hkd] at d1
   obtain ⟨⟨r0, r1, r2⟩, lR⟩ := HBX0.out.up hg
   have hix := idx_run (cap := c1) (k := m) (len := fs.length) Tryz.underlying37 Tryz.sizeOf47 (A := some ⟨gk, 0, none⟩) rfl hlt
   rw [Nat.zero_add] at hix
   have hdp := valid_dep (list_valid HV.out _ (fAt_mem hlt))
   rw [← bare_dep hbr] at hdp
   have kc : Hid (∀ X, Grew wr X → Calls Tryz.prog 66 #[.pointer (some ⟨gk, m * 9, none⟩), .int .i64 n] X (ChgP W0 X W0.heap.size gk c1 cur m (changeF 4 n (fAt cur m)))) := hide (fun X hx => grow_v n cur W0.heap.size gk c1 m W0 X (fown_grew HO3.out hx) (by omega) (Nat.le_refl _) (HG.out.trans hx) ((HS.out m hlt).gb (hx.grownBy _)))
   clear fc hg hown hown3 hbr hdp
   by_cases hk : (fAt fs m).kind = k
   ·have HK := hide hk
    rw [hk] at d1 hkd
    clear hk hkd
    go_wp2_with fail
    refine wp_region_qas 8 [] [] hm (h := ?_)
    repeat (refine wpSteady_step (fun K hK => ?_); go_simp; refine hK _ ?_; clear hK K)
    refine rq0 fun nq osq => ?_
    try simp only [Act.put, setA]
    try dsimp only
    go_wp2_with fail
    refine wp_region_qas 6 [] [] hm (h := ?_)
    repeat (refine wpSteady_step (fun K hK => ?_); go_simp; refine hK _ ?_; clear hK K)
    refine rq0 fun nqb osqb => ?_
    try simp only [Act.put, setA]
    try dsimp only
    go_wp2_with fail
    refine (kc.out _ gw).mono ?_
    rintro e w' ⟨rfl, f', hown', hgb, hba, hst', hg'⟩
    have HO' := hide hown'
    have HST := hide hst'
    have HG' := hide hg'
    have HBA := hide hba
    have HGB : Hid (wr.grownBy w' (some gk)) := hide (gb_trans (Grew.grownBy gw _) hgb)
    clear hown' hgb hst' hg' hba
    dsimp only
    go_wp2_with fail
    go_roundw
    case rel =>
     refine ⟨m + 1, cur.set m f', by omega, by go_num, by rw [List.length_set]; exact hcl, HG'.out.trans gw, by have := fown_grew HO'.out (w' := _) gw; rw [hcl] at this; exact this, hide (fun j hj => ?_), hide (fun j hj => ?_)⟩
     ·rw [fAt_set (by omega)]
      split
      ·exact HST.out.gb (Grew.grownBy gw _)
      ·exact ((HS.out j hj).gb HGB.out).gb (Grew.grownBy gw _)
     ·rw [fAt_set (by omega)]
      split
      ·rename_i e
       subst e
       rw [HBA.out, if_pos (by omega)]
       unfold chg
       rw [if_pos HK.out]
       exact change_bare HBM.out
      ·rw [HBR.out j hj]
       by_cases h5 : j < m
       ·rw [if_pos h5, if_pos (by omega)]
       ·rw [if_neg h5, if_neg (by omega)]
    case measure => simp [intOf]; omega
   ·have HK := hide hk
    have hk2 : ((fAt fs m).kind == k) = false := by simpa using hk
    generalize (fAt fs m).kind = kd at d1 hk2 hkd hk
    go_wp2_with fail
    refine wp_region_qas 8 [] [] hm (h := ?_)
    repeat (refine wpSteady_step (fun K hK => ?_); go_simp; refine hK _ ?_; clear hK K)
    refine rq0 fun nq osq => ?_
    try simp only [Act.put, setA]
    try dsimp only
    go_wp2_with fail
    go_roundw
    case rel =>
     refine ⟨m + 1, cur, by omega, by go_num, hcl, HG.out.trans gw, fown_grew HO.out gw, hide (fun j hj => (HS.out j hj).gb (Grew.grownBy gw _)), hide (fun j hj => ?_)⟩
     rw [HBR.out j hj]
     by_cases h5 : j < m
     ·rw [if_pos h5, if_pos (by omega)]
     ·rw [if_neg h5]
      by_cases h6 : j = m
      ·subst h6
       rw [if_pos (by omega)]
       unfold chg
       rw [if_neg HK.out]
      ·rw [if_neg (by omega)]
    case measure => simp [intOf]; omega
  ·obtain rfl : m = fs.length := by omega
   have hmb : cur.map FV.bare = (applyL 4 k n fs).map FV.bare := by
    unfold applyL
    rw [if_neg (by omega), List.map_map]
    exact map_of hcl fun j hj => by
     rw [HBR.out j hj, if_pos hj]
     rfl
   have hfl := FList_of hmb
   obtain ⟨A9, c9, he9, _, hrd9⟩ := Rd.of_own fv_len hown hcl.symm
   obtain ⟨rfl, rfl⟩ : A1 = A9 ∧ c1 = c9 := by injection he9 with h1 h2 h3; exact ⟨h1, h3⟩
   have HF1 : Hid (FRd wr wr.heap.size A1 cur) := hide ⟨hrd9, fun f hf => by
    obtain ⟨j, hj, e⟩ := List.getElem_of_mem hf
    have := (HS.out j (by omega)).rd
    have a := fAt_get hj
    rw [List.getElem?_eq_getElem hj, e] at a
    injection a with a
    rw [a]
    exact this⟩
   obtain ⟨r, hr⟩ : ∃ r, FList cur = r := ⟨_, rfl⟩
   have k3 := hide (fun W (hg : Grew wr W) => FList_v cur A1 c1 r W (HF1.out.up hg) (by omega) hr)
   rw [hcl] at k3
   have hap : applyOf 4 k n fs = if r = true then (applyL 4 k n fs, 0) else ([], 3) := by
    unfold applyOf
    rw [HU.out, HV.out, if_pos (by rfl), ← hfl, hr]
   have HAP := hide hap
   have HMB := hide hmb
   clear hr hap hmb hfl hg hown hrd9 he9
   cases r
   ·go_wp2_with (go_at_call 31; with_reducible refine crv (k3.out _ gw) fun _ _ => ?_; dsimp only)
    go_ret2
    rw [HAP.out, if_neg (by simp)]
    exact ⟨none, 0, [], rfl, rfl, FRd.nil _ _ _, HG0.out.trans (HG.out.trans gw)⟩
   ·go_wp2_with (go_at_call 31; with_reducible refine crv (k3.out _ gw) fun _ _ => ?_; dsimp only)
    go_ret2
    rw [HAP.out, if_pos (by trivial)]
    exact ⟨A1, c1, cur, by rw [hcl]; rfl, HMB.out, HF1.out.up gw, HG0.out.trans (HG.out.trans gw)⟩
end Go.Proofs.YtfeccolljfkejaaGreatDoor
namespace Go.Proofs.YtfeccolljfkejaaGreatDoor
open Go.RowKit Go.Sort Go.Lib
attribute [local go_sem] Steady steadyUpon
attribute [local go_sem ↓] hs_dr lt_add_r lt_add_r2 lt_add_r3 lt_add_r4 lt_add_r5 lt_add_r6
attribute [local go_sem] cell?_gd frozen?_gd setCell_gd size_grow tape_grow cell?_grow' frozen?_grow' setCell_grow' grow_grow grow_dr grow_drew dr_dr dr_drew drew_dr dr_alloc dr_setCell dr_cell dr_frozen dr_tape dr_drawn
attribute [local irreducible] wpSteady
attribute [local go_sem] fneq_nil fneq_fn
theorem Apply_5 (k n : Int) (fs : List FV) (A : Option Addr) (c : Nat) (w : World) (hr : FRd w w.heap.size A fs) (hu : ruleOk 5 k n = true) (hv : FList fs = true) :
  Calls Tryz.prog 17 #[ruV 5 k n, .slice A fs.length c] w (FeatR w (applyOf 5 k n fs)) := by
 have hm := hmix
 have hlen := list_len hv
 have k1 := hide (fun W => isRule_v 5 k n true W hu)
 have k2 := hide (fun W (hg : Grew w W) => FList_v fs A c true W (hr.up hg) (by omega) hv)
 have HR := hide hr
 have HV := hide hv
 have HU := hide hu
 clear hu hv hr
 go_enter Tryz.func17, Tryz.ntmps17
 go_wp2_with (first | (go_at_call 42; with_reducible refine crv (k1.out _) fun _ _ => ?_; dsimp only) | (go_at_call 31; with_reducible refine crv (k2.out _ gw) fun _ _ => ?_; dsimp only))
 refine (CloneF_any fs A c _ (HR.out.row.up gw) (by omega)).mono ?_
 rintro e W1 ⟨v1, rfl, hown, hg⟩
 obtain ⟨W0, hW0⟩ : ∃ X, X = w.alloc (.cells #[.int .i64 5, .int .i64 k, .int .i64 n] 36) := ⟨_, rfl⟩
 have hs0 : W0.heap.size = w.heap.size + 1 := by rw [hW0]; simp
 have HBX0 : Hid (RuBox W0 w.heap.size 5 k n) := hide (by rw [hW0]; exact RuBox.new w 5 k n)
 have HG0 : Hid (Grew w W0) := hide (by rw [hW0]; exact gw)
 have HG1 : Hid (Grew W0 W1) := hide (by rw [hW0]; exact Grew.trans gw hg)
 have HOW : Hid (W1.ownsRow W0.heap.size 47 9 v1 fs.length (fs.flatMap FV.cells)) := hide (own_mono hown (by rw [hs0]; simp [size_grow, hs_dr]; try omega))
 obtain ⟨A1, c1, rfl, hc1, hrd1⟩ := Rd.of_own fv_len hown rfl
 have hB0 := (HBX0.out.up HG1.out).1
 have hB1 := (HBX0.out.up HG1.out).2
 clear hown hg hrd1 k1 k2 hW0
 dsimp only
 go_wp2_with fail
 refine wp_name ?_
 intro W2 hW
 have HG2 : Hid (Grew W1 W2) := hide (by rw [← hW]; exact gw)
 have HBX2 := hide (HBX0.out.up (HG1.out.trans HG2.out))
 have hB2 := HBX2.out.2
 clear hW hB0 hB1
 refine wp_region_held_drew (S := (fun w' => w'.cell? ⟨w.heap.size, 0, none⟩ = some (.int .i64 5) ∧ w'.cell? ⟨w.heap.size, 1, none⟩ = some (.int .i64 k) ∧ w'.cell? ⟨w.heap.size, 2, none⟩ = some (.int .i64 n))) hm ?_ (fun hHeld => ?_)
 ·exact (RuBox.up HBX2.out gw).1
 refine tk 1 ?_
 try simp only [Act.put, setA, getA]
 refine tk 2 ?_
 try simp only [Act.put, setA, getA]
 refine wpAnyH_ready (rs := [0]) (by kernel_rfl) (by simp) ?_
 refine AllReadyH.cons (o := _) rfl (fun K hK => ?_) AllReadyH.nil
 go_simp
 (first | ((go_at_call 35); (refine (forms_v _).mono ?_); rintro e Wn ⟨g, b1, b2, b3, b4, b5, rfl, hF, hgr⟩; have HGn : Hid (Grew W2 Wn) := hide (Grew.trans gw hgr); obtain ⟨s, q0, q1, q2, q3, q4⟩ := hF.k5'; clear hF hgr q0 q1 q2 q3; dsimp only) | skip)
 refine hK.out _ _ ?_ (fun hHeld => ?_)
 ·exact (RuBox.up HBX2.out gw).1
 clear hK K
 try simp only [Act.put, setA, getA]
 refine tk 3 ?_
 try simp only [Act.put, setA, getA]
 refine tk 4 ?_
 try simp only [Act.put, setA, getA]
 refine wpAnyH_ready (rs := [5]) (by kernel_rfl) (by simp) ?_
 refine AllReadyH.cons (o := _) rfl (fun K hK => ?_) AllReadyH.nil
 go_simp
 (first | ((go_at_call 35); (refine (forms_v _).mono ?_); rintro e Wn ⟨g, b1, b2, b3, b4, b5, rfl, hF, hgr⟩; have HGn : Hid (Grew W2 Wn) := hide (Grew.trans gw hgr); obtain ⟨s, q0, q1, q2, q3, q4⟩ := hF.k5'; clear hF hgr q0 q1 q2 q3; dsimp only) | skip)
 refine hK.out _ _ ?_ (fun hHeld => ?_)
 ·exact (RuBox.up HBX2.out gw).1
 clear hK K
 try simp only [Act.put, setA, getA]
 refine tk 6 ?_
 try simp only [Act.put, setA, getA]
 refine wpAnyH_done (by kernel_rfl) ?_ _
 go_wp2_with fail
 refine wp_name ?_
 intro W4 hW
 have HG4 : Hid (Grew W0 W4) := hide (by rw [← hW]; exact HG1.out.trans (HG2.out.trans gw))
 have HO4 : Hid (W4.ownsRow W0.heap.size 47 9 (.slice A1 fs.length c1) fs.length (fs.flatMap FV.cells)) := hide (by rw [← hW]; exact fown_grew HOW.out (HG2.out.trans gw))
 obtain ⟨gk, hgk⟩ : ∃ g : Nat, ∀ b, A1 = some ⟨b, 0, none⟩ → b = g := ⟨A1.elim 0 Addr.block, fun b e => by rw [e]; rfl⟩
 have HGK := hide hgk
 have hA1 : fs.length ≠ 0 → A1 = some ⟨gk, 0, none⟩ ∧ W0.heap.size ≤ gk := fun h0 => by
  rcases HOW.out.2 with ⟨h', h1⟩ | ⟨g', cap', cur, h', hb', _⟩
  ·omega
  ·simp only [Value.slice.injEq] at h'
   have := HGK.out g' h'.1
   subst this
   exact ⟨h'.1, hb'⟩
 have HA1 := hide hA1
 clear hW q4 hgk hA1 hB2 hHeld
 go_loopw [35] (fun i wr => ∃ (m : Nat) (cur : List FV), m ≤ fs.length ∧ i = .int .i64 m ∧ cur.length = fs.length ∧ Grew W0 wr ∧ wr.ownsRow W0.heap.size 47 9 (.slice A1 fs.length c1) fs.length (cur.flatMap FV.cells) ∧ Hid (∀ j, j < fs.length → FSt wr gk (fAt cur j)) ∧ Hid (∀ j, j < fs.length → (fAt cur j).bare = (if j < m then chg 5 k n (fAt fs j) else fAt fs j).bare)) (fun i _ => fs.length - (intOf i).toNat)
 case atStart => exact ⟨0, fs, by omega, rfl, rfl, HG4.out, HO4.out, hide (fun j hj => FSt.of ((HR.out.each _ (fAt_mem hj)).grew (HG0.out.trans HG4.out) (Nat.le_refl _) HG0.out.below.size) HG4.out.below.size (HA1.out (by omega)).2), hide (fun j hj => by rw [if_neg (by omega)])⟩
 case round =>
  obtain ⟨m, cur, hmm, rfl, hcl, hg, hown, HS, HBR⟩ := hrel
  have HG := hide hg
  have HO := hide hown
  by_cases hlt : m < fs.length
  ·obtain ⟨rfl, hgk2⟩ := HA1.out (by omega)
   have hown3 := hown
   rw [← hcl] at hown3
   have HO3 := hide hown3
   obtain ⟨fc, hfz⟩ := ownAt hown3 rfl (k := m) (by omega)
   obtain ⟨lg1, lg2⟩ := hown.lt gk rfl
   have hbr := HBR.out m hlt
   rw [if_neg (by omega)] at hbr
   have HBM := hide hbr
   have hkd := bare_kind hbr
   have d1 := fc.c1
   rw [hkd] at d1
   obtain ⟨⟨r0, r1, r2⟩, lR⟩ := HBX0.out.up hg
   have hix := idx_run (cap := c1) (k := m) (len := fs.length) Tryz.underlying37 Tryz.sizeOf47 (A := some ⟨gk, 0, none⟩) rfl hlt
   rw [Nat.zero_add] at hix
   have hdp := valid_dep (list_valid HV.out _ (fAt_mem hlt))
   rw [← bare_dep hbr] at hdp
   have kc : Hid (∀ X, Grew wr X → Calls Tryz.prog 67 #[.pointer (some ⟨gk, m * 9, none⟩), .int .i64 n] X (ChgP W0 X W0.heap.size gk c1 cur m (changeF 5 n (fAt cur m)))) := hide (fun X hx => box_v n cur W0.heap.size gk c1 m W0 X (fown_grew HO3.out hx) (by omega) (Nat.le_refl _) (HG.out.trans hx) ((HS.out m hlt).gb (hx.grownBy _)))
   clear fc hg hown hown3 hbr hdp
   by_cases hk : (fAt fs m).kind = k
   ·have HK := hide hk
    rw [hk] at d1 hkd
    clear hk hkd
    go_wp2_with fail
    refine wp_region_qas 8 [] [] hm (h := ?_)
    repeat (refine wpSteady_step (fun K hK => ?_); go_simp; refine hK _ ?_; clear hK K)
    refine rq0 fun nq osq => ?_
    try simp only [Act.put, setA]
    try dsimp only
    go_wp2_with fail
    refine wp_region_qas 6 [] [] hm (h := ?_)
    repeat (refine wpSteady_step (fun K hK => ?_); go_simp; refine hK _ ?_; clear hK K)
    refine rq0 fun nqb osqb => ?_
    try simp only [Act.put, setA]
    try dsimp only
    go_wp2_with fail
    refine (kc.out _ gw).mono ?_
    rintro e w' ⟨rfl, f', hown', hgb, hba, hst', hg'⟩
    have HO' := hide hown'
    have HST := hide hst'
    have HG' := hide hg'
    have HBA := hide hba
    have HGB : Hid (wr.grownBy w' (some gk)) := hide (gb_trans (Grew.grownBy gw _) hgb)
    clear hown' hgb hst' hg' hba
    dsimp only
    go_wp2_with fail
    go_roundw
    case rel =>
     refine ⟨m + 1, cur.set m f', by omega, by go_num, by rw [List.length_set]; exact hcl, HG'.out.trans gw, by have := fown_grew HO'.out (w' := _) gw; rw [hcl] at this; exact this, hide (fun j hj => ?_), hide (fun j hj => ?_)⟩
     ·rw [fAt_set (by omega)]
      split
      ·exact HST.out.gb (Grew.grownBy gw _)
      ·exact ((HS.out j hj).gb HGB.out).gb (Grew.grownBy gw _)
     ·rw [fAt_set (by omega)]
      split
      ·rename_i e
       subst e
       rw [HBA.out, if_pos (by omega)]
       unfold chg
       rw [if_pos HK.out]
       exact change_bare HBM.out
      ·rw [HBR.out j hj]
       by_cases h5 : j < m
       ·rw [if_pos h5, if_pos (by omega)]
       ·rw [if_neg h5, if_neg (by omega)]
    case measure => simp [intOf]; omega
   ·have HK := hide hk
    have hk2 : ((fAt fs m).kind == k) = false := by simpa using hk
    generalize (fAt fs m).kind = kd at d1 hk2 hkd hk
    go_wp2_with fail
    refine wp_region_qas 8 [] [] hm (h := ?_)
    repeat (refine wpSteady_step (fun K hK => ?_); go_simp; refine hK _ ?_; clear hK K)
    refine rq0 fun nq osq => ?_
    try simp only [Act.put, setA]
    try dsimp only
    go_wp2_with fail
    go_roundw
    case rel =>
     refine ⟨m + 1, cur, by omega, by go_num, hcl, HG.out.trans gw, fown_grew HO.out gw, hide (fun j hj => (HS.out j hj).gb (Grew.grownBy gw _)), hide (fun j hj => ?_)⟩
     rw [HBR.out j hj]
     by_cases h5 : j < m
     ·rw [if_pos h5, if_pos (by omega)]
     ·rw [if_neg h5]
      by_cases h6 : j = m
      ·subst h6
       rw [if_pos (by omega)]
       unfold chg
       rw [if_neg HK.out]
      ·rw [if_neg (by omega)]
    case measure => simp [intOf]; omega
  ·obtain rfl : m = fs.length := by omega
   have hmb : cur.map FV.bare = (applyL 5 k n fs).map FV.bare := by
    unfold applyL
    rw [if_neg (by omega), List.map_map]
    exact map_of hcl fun j hj => by
     rw [HBR.out j hj, if_pos hj]
     rfl
   have hfl := FList_of hmb
   obtain ⟨A9, c9, he9, _, hrd9⟩ := Rd.of_own fv_len hown hcl.symm
   obtain ⟨rfl, rfl⟩ : A1 = A9 ∧ c1 = c9 := by injection he9 with h1 h2 h3; exact ⟨h1, h3⟩
   have HF1 : Hid (FRd wr wr.heap.size A1 cur) := hide ⟨hrd9, fun f hf => by
    obtain ⟨j, hj, e⟩ := List.getElem_of_mem hf
    have := (HS.out j (by omega)).rd
    have a := fAt_get hj
    rw [List.getElem?_eq_getElem hj, e] at a
    injection a with a
    rw [a]
    exact this⟩
   obtain ⟨r, hr⟩ : ∃ r, FList cur = r := ⟨_, rfl⟩
   have k3 := hide (fun W (hg : Grew wr W) => FList_v cur A1 c1 r W (HF1.out.up hg) (by omega) hr)
   rw [hcl] at k3
   have hap : applyOf 5 k n fs = if r = true then (applyL 5 k n fs, 0) else ([], 3) := by
    unfold applyOf
    rw [HU.out, HV.out, if_pos (by rfl), ← hfl, hr]
   have HAP := hide hap
   have HMB := hide hmb
   clear hr hap hmb hfl hg hown hrd9 he9
   cases r
   ·go_wp2_with (go_at_call 31; with_reducible refine crv (k3.out _ gw) fun _ _ => ?_; dsimp only)
    go_ret2
    rw [HAP.out, if_neg (by simp)]
    exact ⟨none, 0, [], rfl, rfl, FRd.nil _ _ _, HG0.out.trans (HG.out.trans gw)⟩
   ·go_wp2_with (go_at_call 31; with_reducible refine crv (k3.out _ gw) fun _ _ => ?_; dsimp only)
    go_ret2
    rw [HAP.out, if_pos (by trivial)]
    exact ⟨A1, c1, cur, by rw [hcl]; rfl, HMB.out, HF1.out.up gw, HG0.out.trans (HG.out.trans gw)⟩
end Go.Proofs.YtfeccolljfkejaaGreatDoor
