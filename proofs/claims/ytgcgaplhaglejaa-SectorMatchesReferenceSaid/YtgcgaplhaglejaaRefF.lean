/- The reference implementation: Valid, Color, Holds, Safer, short, Seen; they compute what the program computes. -/
import Derived.Test.YtgcgaplhaglejaaRefC
import Derived.Test.YtgcgaplhaglejaaRefE
import Derived.Test.YtgcgaplhaglejaaPlainC
namespace Go.Proofs.Ytgcgaplhaglejaa
set_option linter.unusedVariables false
set_option linter.unusedSimpArgs false
open Go.RowKit Go.Sort
attribute [local go_sem] Steady steadyUpon
attribute [local go_sem ↓] hs_dr lt_add_r lt_add_r2 lt_add_r3 lt_add_r4 lt_add_r5 lt_add_r6
attribute [local go_sem] cell?_gd frozen?_gd setCell_gd size_grow tape_grow cell?_grow' frozen?_grow' setCell_grow' grow_grow grow_dr grow_drew dr_dr dr_drew drew_dr dr_alloc dr_setCell dr_cell dr_frozen dr_tape dr_drawn
attribute [local irreducible] wpSteady

theorem atR_eq {ss : List Sec} (hok : ∀ s ∈ ss, s.ok = true) {x y : Int} (hv : NZ (x, y)) : atR ss x y = shA ss (x, y) := by
  have hn := nzs_of hok
  unfold atR
  rw [shA_def, find_congr (p := hasS x y) (q := fun s => hs s (x, y)) fun s hs' => (hs_hasS (hn s hs').1 (hn s hs').2 hv).symm]
  rfl
theorem rhas_v {a b c d x y : Int} (r : Bool) (w : World) (h : hasR a b c d x y = r) (ha : -4000000 ≤ a ∧ a ≤ 4000000) (hb : -4000000 ≤ b ∧ b ≤ 4000000) (hc : -4000000 ≤ c ∧ c ≤ 4000000) (hd : -4000000 ≤ d ∧ d ≤ 4000000)
    (hx : -4000000 ≤ x ∧ x ≤ 4000000) (hy : -4000000 ≤ y ∧ y ≤ 4000000) :
    Calls Try.prog 35 #[pt a b, pt c d, pt x y] w (Ret w (.bool r)) := by
  have := rhas_any a b c d x y w ha hb hc hd hx hy
  rwa [h] at this
theorem clash_R {s t : Sec} (hs' : s.ok = true) (ht : t.ok = true) : (hasR s.fx s.fy s.tx s.ty t.fx t.fy || hasR t.fx t.fy t.tx t.ty s.fx s.fy) = clash s t := by
  have ns := nzs_of (ss := [s]) (by simpa using hs') s (by simp)
  have nt := nzs_of (ss := [t]) (by simpa using ht) t (by simp)
  have e1 := hs_hasS ns.1 ns.2 nt.1
  have e2 := hs_hasS nt.1 nt.2 ns.1
  show _ = (hs s t.fr || hs t s.fr)
  rw [e1, e2]
  rfl

set_option maxRecDepth 100000 in
set_option maxHeartbeats 4000000 in
theorem rValid_any (ss : List Sec) (A : Option Addr) (c : Nat) (w : World) (hr : Rd w w.heap.size 6 A (ss.map Sec.cells)) (hl : ss.length ≤ c) (hc : ss.length ≤ 100000000000000) :
    Calls Try.prog 13 #[.slice A ss.length c] w (Ret w (.bool (LValid ss))) := by
  have hm := hmix
  by_cases h12 : 12 < ss.length
  · go_enter Try.func13, Try.ntmps13
    go_wp2_with fail
    go_ret
    exact Ret.mk' (ret_bool (LValid_not fun h => by have := h.2; omega)) (by repeat (with_reducible first | exact Grew.refl _ | assumption | refine Grew.alloc ?_ _ | refine Grew.grow ?_ _ | refine Grew.dr ?_ _ | refine Grew.drewN ?_ _ | refine Grew.drew ?_ | refine Grew.trans ?_ (Hid.out (by assumption))))
  · go_enter Try.func13, Try.ntmps13
    go_wp2_with fail
    go_loopw [3] (fun i wr => ∃ k : Nat, k ≤ ss.length ∧ i = .int .i64 k ∧ Grew w wr ∧ GoodTo ss k) (fun i _ => ss.length - (intOf i).toNat)
    case atStart => exact ⟨0, by omega, rfl, (by repeat (with_reducible first | exact Grew.refl _ | assumption | refine Grew.alloc ?_ _ | refine Grew.grow ?_ _ | refine Grew.dr ?_ _ | refine Grew.drewN ?_ _ | refine Grew.drew ?_ | refine Grew.trans ?_ (Hid.out (by assumption)))), fun i _ hi => by omega⟩
    case round =>
      obtain ⟨k, hk, rfl, hg, hgood⟩ := hrel
      have HG := hide hgood
      clear hgood
      have HW := hide hg
      clear hg
      by_cases hlt : k < ss.length
      · obtain ⟨s, hs'⟩ : ∃ s, ss[k]? = some s := ⟨_, List.getElem?_eq_getElem hlt⟩
        obtain ⟨b, off, hA, hb, h0, h1, h2, h3, h4, h5⟩ := secAt (hr.up HW.out) hs'
        have HS := hide hs'
        clear hs'
        have hix := idx_run (cap := c) Try.underlying22 Try.sizeOf26 hA.out hlt
        cases hok : Sec.ok s
        · have k1 := hide (show ∀ W, Calls Try.prog 34 #[sec s.fx s.fy s.tx s.ty s.col s.rng] W (Ret W (.bool false)) from fun W => by have := rvalid_any s.fx s.fy s.tx s.ty s.col s.rng W; rwa [show secOk s.fx s.fy s.tx s.ty s.col s.rng = false from hok] at this)
          have HO := hide hok
          clear hok
          go_wp2_with (go_at_call 34; (with_reducible refine (k1.out _).mono ?_); rintro e w' ⟨rfl, ⟨_, _⟩, rfl⟩; dsimp only)
          go_ret
          exact Ret.mk' (ret_bool (lv_no1 HS.out (by rw [HO.out]; simp))) (HW.out.trans (by repeat (with_reducible first | exact Grew.refl _ | assumption | refine Grew.alloc ?_ _ | refine Grew.grow ?_ _ | refine Grew.dr ?_ _ | refine Grew.drewN ?_ _ | refine Grew.drew ?_ | refine Grew.trans ?_ (Hid.out (by assumption)))))
        · have k1 := hide (show ∀ W, Calls Try.prog 34 #[sec s.fx s.fy s.tx s.ty s.col s.rng] W (Ret W (.bool true)) from fun W => by have := rvalid_any s.fx s.fy s.tx s.ty s.col s.rng W; rwa [show secOk s.fx s.fy s.tx s.ty s.col s.rng = true from hok] at this)
          have hbd := ok_bd hok
          have HO := hide hok
          clear hok
          go_wp2_with (go_at_call 34; (with_reducible refine (k1.out _).mono ?_); rintro e w' ⟨rfl, ⟨_, _⟩, rfl⟩; dsimp only)
          clear h0 h1 h2 h3 h4 h5 hix
          go_loopw [5] (fun i wi => ∃ j : Nat, j ≤ k ∧ i = .int .i64 j ∧ Grew wr wi ∧ GoodAt ss s j) (fun i _ => k - (intOf i).toNat)
          case atStart => exact ⟨0, by omega, rfl, (by repeat (with_reducible first | exact Grew.refl _ | assumption | refine Grew.alloc ?_ _ | refine Grew.grow ?_ _ | refine Grew.dr ?_ _ | refine Grew.drewN ?_ _ | refine Grew.drew ?_ | refine Grew.trans ?_ (Hid.out (by assumption)))), fun i _ hi => by omega⟩
          case round =>
            obtain ⟨j, hj, rfl, hg, hgood⟩ := hrel
            have HG2 := hide hgood
            clear hgood
            have HW2 := hide hg
            clear hg
            by_cases hjt : j < k
            · obtain ⟨t, ht⟩ : ∃ t, ss[j]? = some t := ⟨_, List.getElem?_eq_getElem (by omega)⟩
              have hjl : j < ss.length := by omega
              obtain ⟨b, off, hA, hb, h0, h1, h2, h3, h4, h5⟩ := secAt ((hr.up HW.out).up HW2.out) HS.out
              obtain ⟨b', off', hA', hb', g0, g1, g2, g3, g4, g5⟩ := secAt ((hr.up HW.out).up HW2.out) ht
              have hix := idx_run (cap := c) Try.underlying22 Try.sizeOf26 hA.out hlt
              have hix2 := idx_run (cap := c) Try.underlying22 Try.sizeOf26 hA'.out hjl
              have tok := (HG.out j t hjt ht).1
              have tbd := ok_bd tok
              have HT := hide ht
              have hcl := clash_R HO.out tok
              clear ht tok
              cases hc1 : hasR s.fx s.fy s.tx s.ty t.fx t.fy
              · cases hc2 : hasR t.fx t.fy t.tx t.ty s.fx s.fy
                · have q1 := hide (fun W => rhas_v false W hc1 hbd.1 hbd.2.1 hbd.2.2.1 hbd.2.2.2 tbd.1 tbd.2.1)
                  have q2 := hide (fun W => rhas_v false W hc2 tbd.1 tbd.2.1 tbd.2.2.1 tbd.2.2.2 hbd.1 hbd.2.1)
                  rw [hc1, hc2] at hcl
                  have HCL := hide hcl
                  clear hcl hc1 hc2
                  go_wp2_with fail
                  refine wp_region_qas 34 [] [] hm (by kernel_rfl) (by simp only [List.take, List.filter, isQ]; rfl) (by simp only [List.drop]; rfl) ZOk.nil (by simp) ?_
                  repeat (refine wpSteady_step (fun K hK => ?_); go_simp; first | (refine hK _ ?_; clear hK K) | (apply Exists.intro; refine ⟨fun _ => ?_, hK _ ?_⟩; (go_at_call 35; first | with_reducible exact q1.out _ | with_reducible exact q2.out _); clear hK K))
                  refine wpSteady_nil ?_
                  refine ⟨StOk.nil, LyOk.nil, ?_⟩
                  rintro psq qsq Wq HWq HFq HBq
                  obtain rfl : qsq = [] := HBq
                  obtain rfl : psq = [] := HFq
                  obtain ⟨⟨nq, osq⟩, rfl⟩ := HWq
                  simp only [putAll, putB, Act.put, List.setIfInBounds_toArray, List.set_cons_succ, List.set_cons_zero]
                  try dsimp only
                  go_wp2_with fail
                  go_roundw
                  case rel => exact ⟨j + 1, by omega, by go_num, HW2.out.trans (by repeat (with_reducible first | exact Grew.refl _ | assumption | refine Grew.alloc ?_ _ | refine Grew.grow ?_ _ | refine Grew.dr ?_ _ | refine Grew.drewN ?_ _ | refine Grew.drew ?_ | refine Grew.trans ?_ (Hid.out (by assumption)))), goodAt_step HG2.out HT.out HCL.out.symm⟩
                  case measure => simp [intOf]; omega
                · have q1 := hide (fun W => rhas_v false W hc1 hbd.1 hbd.2.1 hbd.2.2.1 hbd.2.2.2 tbd.1 tbd.2.1)
                  have q2 := hide (fun W => rhas_v true W hc2 tbd.1 tbd.2.1 tbd.2.2.1 tbd.2.2.2 hbd.1 hbd.2.1)
                  rw [hc1, hc2] at hcl
                  have HCL := hide hcl
                  clear hcl hc1 hc2
                  go_wp2_with fail
                  refine wp_region_qas 34 [] [] hm (by kernel_rfl) (by simp only [List.take, List.filter, isQ]; rfl) (by simp only [List.drop]; rfl) ZOk.nil (by simp) ?_
                  repeat (refine wpSteady_step (fun K hK => ?_); go_simp; first | (refine hK _ ?_; clear hK K) | (apply Exists.intro; refine ⟨fun _ => ?_, hK _ ?_⟩; (go_at_call 35; first | with_reducible exact q1.out _ | with_reducible exact q2.out _); clear hK K))
                  refine wpSteady_nil ?_
                  refine ⟨StOk.nil, LyOk.nil, ?_⟩
                  rintro psq qsq Wq HWq HFq HBq
                  obtain rfl : qsq = [] := HBq
                  obtain rfl : psq = [] := HFq
                  obtain ⟨⟨nq, osq⟩, rfl⟩ := HWq
                  simp only [putAll, putB, Act.put, List.setIfInBounds_toArray, List.set_cons_succ, List.set_cons_zero]
                  try dsimp only
                  go_wp2_with fail
                  go_ret
                  exact Ret.mk' (ret_bool (lv_no2 HS.out HT.out hjt HCL.out.symm)) ((HW.out.trans HW2.out).trans (by repeat (with_reducible first | exact Grew.refl _ | assumption | refine Grew.alloc ?_ _ | refine Grew.grow ?_ _ | refine Grew.dr ?_ _ | refine Grew.drewN ?_ _ | refine Grew.drew ?_ | refine Grew.trans ?_ (Hid.out (by assumption)))))
              · have q1 := hide (fun W => rhas_v true W hc1 hbd.1 hbd.2.1 hbd.2.2.1 hbd.2.2.2 tbd.1 tbd.2.1)
                rw [hc1] at hcl
                have HCL := hide hcl
                clear hcl hc1
                go_wp2_with fail
                refine wp_region_qas 34 [] [] hm (by kernel_rfl) (by simp only [List.take, List.filter, isQ]; rfl) (by simp only [List.drop]; rfl) ZOk.nil (by simp) ?_
                repeat (refine wpSteady_step (fun K hK => ?_); go_simp; first | (refine hK _ ?_; clear hK K) | (apply Exists.intro; refine ⟨fun _ => ?_, hK _ ?_⟩; (go_at_call 35; with_reducible exact q1.out _); clear hK K))
                refine wpSteady_nil ?_
                refine ⟨StOk.nil, LyOk.nil, ?_⟩
                rintro psq qsq Wq HWq HFq HBq
                obtain rfl : qsq = [] := HBq
                obtain rfl : psq = [] := HFq
                obtain ⟨⟨nq, osq⟩, rfl⟩ := HWq
                simp only [putAll, putB, Act.put, List.setIfInBounds_toArray, List.set_cons_succ, List.set_cons_zero]
                try dsimp only
                go_wp2_with fail
                go_ret
                exact Ret.mk' (ret_bool (lv_no2 HS.out HT.out hjt HCL.out.symm)) ((HW.out.trans HW2.out).trans (by repeat (with_reducible first | exact Grew.refl _ | assumption | refine Grew.alloc ?_ _ | refine Grew.grow ?_ _ | refine Grew.dr ?_ _ | refine Grew.drewN ?_ _ | refine Grew.drew ?_ | refine Grew.trans ?_ (Hid.out (by assumption)))))
            · obtain rfl : j = k := by omega
              go_wp2_with fail
              go_roundw
              case rel => exact ⟨j + 1, by omega, by go_num, HW.out.trans HW2.out, good_step HG.out HS.out HO.out HG2.out⟩
              case measure => simp [intOf]; omega
      · obtain rfl : k = ss.length := by omega
        go_wp2_with fail
        go_ret
        refine Ret.mk' (ret_bool ?_) HW.out
        symm
        rw [LValid_iff]
        exact ⟨HG.out, by omega⟩

theorem rValid_v (ss : List Sec) (A : Option Addr) (c : Nat) (r : Bool) (w : World) (hr : Rd w w.heap.size 6 A (ss.map Sec.cells)) (hl : ss.length ≤ c) (hc : ss.length ≤ 100000000000000) (h : LValid ss = r) :
    Calls Try.prog 13 #[.slice A ss.length c] w (Ret w (.bool r)) := by
  have := rValid_any ss A c w hr hl hc
  rwa [h] at this
theorem rDirection_v (a b : Int) (r : Bool) (w : World) (h : dirOk a b = r) : Calls Try.prog 37 #[pt a b] w (Ret w (.bool r)) := by
  have := rDirection_any a b w
  rwa [h] at this
theorem rAt_v (ss : List Sec) (A : Option Addr) (c : Nat) (x y : Int) (q : Int × Int) (w : World) (hr : Rd w w.heap.size 6 A (ss.map Sec.cells)) (hl : ss.length ≤ c) (hc : ss.length ≤ 100000000000000) (hok : ∀ s ∈ ss, s.ok = true)
    (hx : -4000000 ≤ x ∧ x ≤ 4000000) (hy : -4000000 ≤ y ∧ y ≤ 4000000) (hn : NZ (x, y)) (h : shA ss (x, y) = q) :
    Calls Try.prog 39 #[.slice A ss.length c, pt x y] w (Ret w (pt q.1 q.2)) := by
  have := rAt_any ss A c x y w hr hl hc hok hx hy
  rwa [atR_eq hok hn, h] at this
set_option maxRecDepth 100000 in
set_option maxHeartbeats 4000000 in
theorem rColor_any (ss : List Sec) (A : Option Addr) (c : Nat) (x y : Int) (w : World) (hr : Rd w w.heap.size 6 A (ss.map Sec.cells)) (hl : ss.length ≤ c) (hc : ss.length ≤ 100000000000000) :
    Calls Try.prog 17 #[.slice A ss.length c, pt x y] w (Ret w (.tuple #[.int .i64 (colorOf ss x y).1, .int .i64 (colorOf ss x y).2.1, .int .i64 (colorOf ss x y).2.2])) := by
  have hm := hmix
  cases h1 : LValid ss
  · have e : colorOf ss x y = (0, 0, 1) := by unfold colorOf; rw [if_neg (by rw [h1]; simp)]
    rw [e]
    obtain ⟨d, hd⟩ : ∃ d, dirOk x y = d := ⟨_, rfl⟩
    have k1 := hide (fun W (hg : Grew w W) => rValid_v ss A c false W (hr.up hg) hl hc h1)
    have k2 := hide (fun W => rDirection_v x y d W hd)
    clear h1 e hd
    go_enter Try.func17, Try.ntmps17
    go_wp2_with (first | (go_at_call 13; (with_reducible refine (k1.out _ (by repeat (with_reducible first | exact Grew.refl _ | assumption | refine Grew.alloc ?_ _ | refine Grew.grow ?_ _ | refine Grew.dr ?_ _ | refine Grew.drewN ?_ _ | refine Grew.drew ?_ | refine Grew.trans ?_ (Hid.out (by assumption))))).mono ?_); rintro e w' ⟨rfl, ⟨_, _⟩, rfl⟩; dsimp only) | (go_at_call 37; (with_reducible refine (k2.out _).mono ?_); rintro e w' ⟨rfl, ⟨_, _⟩, rfl⟩; dsimp only))
    all_goals go_ret3
    all_goals exact Ret.mk' rfl (by repeat (with_reducible first | exact Grew.refl _ | assumption | refine Grew.alloc ?_ _ | refine Grew.grow ?_ _ | refine Grew.dr ?_ _ | refine Grew.drewN ?_ _ | refine Grew.drew ?_ | refine Grew.trans ?_ (Hid.out (by assumption))))
  · cases h2 : dirOk x y
    · have e : colorOf ss x y = (0, 0, 1) := by unfold colorOf; rw [if_neg (by rw [h2]; simp)]
      rw [e]
      have k1 := hide (fun W (hg : Grew w W) => rValid_v ss A c true W (hr.up hg) hl hc h1)
      have k2 := hide (fun W => rDirection_v x y false W h2)
      clear h1 h2 e
      go_enter Try.func17, Try.ntmps17
      go_wp2_with (first | (go_at_call 13; (with_reducible refine (k1.out _ (by repeat (with_reducible first | exact Grew.refl _ | assumption | refine Grew.alloc ?_ _ | refine Grew.grow ?_ _ | refine Grew.dr ?_ _ | refine Grew.drewN ?_ _ | refine Grew.drew ?_ | refine Grew.trans ?_ (Hid.out (by assumption))))).mono ?_); rintro e w' ⟨rfl, ⟨_, _⟩, rfl⟩; dsimp only) | (go_at_call 37; (with_reducible refine (k2.out _).mono ?_); rintro e w' ⟨rfl, ⟨_, _⟩, rfl⟩; dsimp only))
      all_goals go_ret3
      all_goals exact Ret.mk' rfl (by repeat (with_reducible first | exact Grew.refl _ | assumption | refine Grew.alloc ?_ _ | refine Grew.grow ?_ _ | refine Grew.dr ?_ _ | refine Grew.drewN ?_ _ | refine Grew.drew ?_ | refine Grew.trans ?_ (Hid.out (by assumption))))
    · obtain ⟨⟨q, r⟩, hq⟩ : ∃ q, shA ss (x, y) = q := ⟨_, rfl⟩
      have e : colorOf ss x y = (q, r, 0) := by unfold colorOf; rw [if_pos (by rw [h1, h2]; rfl)]; show ((shA ss (x, y)).1, (shA ss (x, y)).2, (0 : Int)) = _; rw [hq]
      rw [e]
      have hxy := dir_bd h2
      have k1 := hide (fun W (hg : Grew w W) => rValid_v ss A c true W (hr.up hg) hl hc h1)
      have k2 := hide (fun W => rDirection_v x y true W h2)
      have k3 := hide (fun W (hg : Grew w W) => rAt_v ss A c x y (q, r) W (hr.up hg) hl hc (LV_ok h1).1 hxy.1 hxy.2 (nz_dir h2) hq)
      clear h1 h2 e hq
      go_enter Try.func17, Try.ntmps17
      go_wp2_with (first | (go_at_call 13; (with_reducible refine (k1.out _ (by repeat (with_reducible first | exact Grew.refl _ | assumption | refine Grew.alloc ?_ _ | refine Grew.grow ?_ _ | refine Grew.dr ?_ _ | refine Grew.drewN ?_ _ | refine Grew.drew ?_ | refine Grew.trans ?_ (Hid.out (by assumption))))).mono ?_); rintro e w' ⟨rfl, ⟨_, _⟩, rfl⟩; dsimp only) | (go_at_call 37; (with_reducible refine (k2.out _).mono ?_); rintro e w' ⟨rfl, ⟨_, _⟩, rfl⟩; dsimp only) | (go_at_call 39; (with_reducible refine (k3.out _ (by repeat (with_reducible first | exact Grew.refl _ | assumption | refine Grew.alloc ?_ _ | refine Grew.grow ?_ _ | refine Grew.dr ?_ _ | refine Grew.drewN ?_ _ | refine Grew.drew ?_ | refine Grew.trans ?_ (Hid.out (by assumption))))).mono ?_); rintro e w' ⟨rfl, ⟨_, _⟩, rfl⟩; dsimp only))
      refine wp_region_qas 7 [] [] hm (by kernel_rfl) (by simp only [List.take, List.filter, isQ]; rfl) (by simp only [List.drop]; rfl) ZOk.nil (by simp) ?_
      repeat (refine wpSteady_step (fun K hK => ?_); go_simp; first | (refine hK _ ?_; clear hK K) | (apply Exists.intro; refine ⟨fun _ => ?_, hK _ ?_⟩; (fail); clear hK K))
      refine wpSteady_nil ?_
      refine ⟨StOk.nil, LyOk.nil, ?_⟩
      rintro psq qsq Wq HWq HFq HBq
      obtain rfl : qsq = [] := HBq
      obtain rfl : psq = [] := HFq
      obtain ⟨⟨nq, osq⟩, rfl⟩ := HWq
      simp only [putAll, putB, Act.put, List.setIfInBounds_toArray, List.set_cons_succ, List.set_cons_zero]
      try dsimp only
      go_wp2
      go_ret3
      exact Ret.mk' rfl (by repeat (with_reducible first | exact Grew.refl _ | assumption | refine Grew.alloc ?_ _ | refine Grew.grow ?_ _ | refine Grew.dr ?_ _ | refine Grew.drewN ?_ _ | refine Grew.drew ?_ | refine Grew.trans ?_ (Hid.out (by assumption))))
end Go.Proofs.Ytgcgaplhaglejaa
