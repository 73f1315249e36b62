/- SectorOneColor: the walk. -/
import Derived.Test.YtgcgaplhaglejaaPlainB
import Derived.Test.YtgcgaplhaglejaaRegE
import Derived.Test.YtgcgaplhaglejaaOwn
namespace Go.Proofs.Ytgcgaplhaglejaa
set_option linter.unusedVariables false
set_option linter.unusedSimpArgs false
open Go.RowKit Go.Sort
attribute [local go_sem] Steady steadyUpon
attribute [local go_sem ↓] hs_dr lt_add_r lt_add_r2 lt_add_r3 lt_add_r4 lt_add_r5 lt_add_r6
attribute [local go_sem] cell?_gd frozen?_gd setCell_gd size_grow tape_grow cell?_grow' frozen?_grow' setCell_grow' grow_grow grow_dr grow_drew dr_dr dr_drew drew_dr dr_alloc dr_setCell dr_cell dr_frozen dr_tape dr_drawn
attribute [local go_sem] E.effUpon

set_option maxRecDepth 100000 in
set_option maxHeartbeats 4000000 in
theorem oneColor_no (ss : List Sec) (A : Option Addr) (c : Nat) (v1 v2 by0 : Int) (w : World) (hr : Rd w w.heap.size 6 A (ss.map Sec.cells)) (hl : ss.length ≤ c) (hc : ss.length ≤ 100000000000000) (h : (LValid ss && dirOk v1 v2) = false) :
    Calls Try.prog 5 #[.slice A ss.length c, pt v1 v2, .int .u8 by0] w (Ret w (.bool true)) := by
  have hm := hmix
  have k1 := hide (fun W (hg : Grew w W) => Color_w ss A c v1 v2 _ W (hr.up hg) hl hc (color_no h))
  clear h
  go_enter Try.func5, Try.ntmps5
  go_wp2_with (first | (go_at_call 11; (with_reducible refine (head_any _).mono ?_); rintro e w' ⟨rfl, ⟨_, _⟩, rfl⟩; dsimp only) | (go_at_call 16; (with_reducible refine (k1.out _ (by repeat (with_reducible first | exact Grew.refl _ | assumption | refine Grew.alloc ?_ _ | refine Grew.grow ?_ _ | refine Grew.dr ?_ _ | refine Grew.drewN ?_ _ | refine Grew.drew ?_ | refine Grew.trans ?_ (Hid.out (by assumption))))).mono ?_); rintro e w' ⟨rfl, ⟨_, _⟩, rfl⟩; dsimp only))
  go_ret
  exact Ret.mk' rfl (by repeat (with_reducible first | exact Grew.refl _ | assumption | refine Grew.alloc ?_ _ | refine Grew.grow ?_ _ | refine Grew.dr ?_ _ | refine Grew.drewN ?_ _ | refine Grew.drew ?_ | refine Grew.trans ?_ (Hid.out (by assumption))))

theorem flat_drop (ss : List Sec) (q : Nat) : (ss.flatMap Sec.cells).drop (q * 6) = (ss.drop q).flatMap Sec.cells := by
  induction ss generalizing q with
  | nil => simp
  | cons s ss ih =>
    cases q with
    | zero => simp
    | succ q =>
      rw [List.flatMap_cons, List.drop_succ_cons, ← ih q, show (q + 1) * 6 = s.cells.length + q * 6 by rw [sec_len]; omega, List.drop_append]
      simp
def OneN (ss : List Sec) (v : Int × Int) (k : Nat) (n : Int) : Prop := (n = 0 ∧ ∀ (j : Nat) (s : Sec), j < k → ss[j]? = some s → hs s v = false) ∨ (n = 1 ∧ ∃ (j : Nat) (s : Sec), j < k ∧ ss[j]? = some s ∧ hs s v = true)
set_option maxRecDepth 100000 in
set_option maxHeartbeats 8000000 in
theorem oneColor_yes (ss : List Sec) (A : Option Addr) (c : Nat) (v1 v2 by0 : Int) (w : World) (hr : Rd w w.heap.size 6 A (ss.map Sec.cells)) (hl : ss.length ≤ c) (hc : ss.length ≤ 100000000000000) (hby : 0 ≤ by0 ∧ by0 ≤ 255) (h1 : LValid ss = true) (h2 : dirOk v1 v2 = true) :
    Calls Try.prog 5 #[.slice A ss.length c, pt v1 v2, .int .u8 by0] w (Ret w (.bool true)) := by
  have hm := hmix
  have hnz : NZ (v1, v2) := nz_dir h2
  obtain ⟨hok, h12⟩ := LV_ok h1
  obtain ⟨i0, hi0, hz0, hz1, hz2⟩ := info_parts secInfo
  have HOK := hide hok
  obtain ⟨⟨cc, rr⟩, hcr⟩ : ∃ q, shA ss (v1, v2) = q := ⟨_, rfl⟩
  have k1 := hide (fun W (hg : Grew w W) => Color_w ss A c v1 v2 (cc, rr, 0) W (hr.up hg) hl hc (by rw [color_ok h1 h2, hcr]))
  have H1 := hide h1
  have H2 := hide h2
  have HCR := hide hcr
  have HNZ := hide hnz
  clear hok h1 h2 hcr hnz
  go_enter Try.func5, Try.ntmps5
  go_wp2_with (first | (go_at_call 11; (with_reducible refine (head_any _).mono ?_); rintro e w' ⟨rfl, ⟨_, _⟩, rfl⟩; dsimp only) | (go_at_call 16; (with_reducible refine (k1.out _ (by repeat (with_reducible first | exact Grew.refl _ | assumption | refine Grew.alloc ?_ _ | refine Grew.grow ?_ _ | refine Grew.dr ?_ _ | refine Grew.drewN ?_ _ | refine Grew.drew ?_ | refine Grew.trans ?_ (Hid.out (by assumption))))).mono ?_); rintro e w' ⟨rfl, ⟨_, _⟩, rfl⟩; dsimp only))
  refine wp_name ?_
  intro W0 hW
  have HG0 : Hid (Grew w W0) := hide (by rw [← hW]; exact (by repeat (with_reducible first | exact Grew.refl _ | assumption | refine Grew.alloc ?_ _ | refine Grew.grow ?_ _ | refine Grew.dr ?_ _ | refine Grew.drewN ?_ _ | refine Grew.drew ?_ | refine Grew.trans ?_ (Hid.out (by assumption)))))
  have hkv : W0.heap[w.heap.size]? = some (.cells #[.int .i64 v1, .int .i64 v2] 24 (0, 0)) := by rw [← hW]; exact heap_alloc_gd _ _ _ _ _ rfl
  have HKV := hide hkv
  clear hW hkv
  go_loopw [7, 11, 12] (fun up nn i wr => ∃ (k : Nat) (n : Int), k ≤ ss.length ∧ i = .int .i64 k ∧ up = .bool true ∧ nn = .int .i64 n ∧ Grew W0 wr ∧ OneN ss (v1, v2) k n) (fun _ _ i _ => ss.length - (intOf i).toNat)
  case atStart => exact ⟨0, 0, by omega, rfl, rfl, rfl, Grew.refl _, .inl ⟨rfl, fun j s hj => by omega⟩⟩
  case round =>
    obtain ⟨k, n, hk, rfl, rfl, rfl, hg, hn⟩ := hrel
    have HG := hide hg
    have HN := hide hn
    have hkv := (HG.out.heap (blk_lt HKV.out)).trans HKV.out
    have g0 : wr.cell? ⟨w.heap.size, 0, none⟩ = _ := blk_cell hkv 0
    have g1 : wr.cell? ⟨w.heap.size, 1, none⟩ = _ := blk_cell hkv 1
    have gl := blk_lt hkv
    clear hg hn hkv
    by_cases hlt : k < ss.length
    · obtain ⟨s, hs'⟩ : ∃ s, ss[k]? = some s := ⟨_, List.getElem?_eq_getElem hlt⟩
      obtain ⟨b, off, hA, hb, h0, h1, h2, h3, h4, h5⟩ := secAt (hr.up (HG0.out.trans HG.out)) hs'
      have hix := idx_run (cap := c) Try.underlying22 Try.sizeOf26 hA.out hlt
      have HS := hide hs'
      have hso := HOK.out s (List.mem_of_getElem? hs')
      clear hs'
      cases hh : hs s (v1, v2)
      · have k2 := hide (show ∀ W, Calls Try.prog 14 #[sec s.fx s.fy s.tx s.ty s.col s.rng, pt v1 v2] W (Ret W (.tuple #[.bool false, .int .i64 0])) from fun W => In_v _ _ _ _ _ _ _ _ _ W (by rw [show Sec.ok ⟨s.fx, s.fy, s.tx, s.ty, s.col, s.rng⟩ = true from hso, H2.out]; rfl) hh)
        have HH := hide hh
        clear hh hso
        go_wp2_with fail
        refine wp_region_qas 11 [] [] hm (by kernel_rfl) (by simp only [List.take, List.filter, isQ]; rfl) (by simp only [List.drop]; rfl) ZOk.nil (by simp) ?_
        repeat (refine wpSteady_step (fun K hK => ?_); go_simp; first | (refine hK _ ?_; clear hK K) | (apply Exists.intro; refine ⟨fun _ => ?_, hK _ ?_⟩; (go_at_call 14; with_reducible exact k2.out _); clear hK K))
        refine wpSteady_nil ?_
        refine ⟨StOk.nil, LyOk.nil, ?_⟩
        rintro psq qsq Wq HWq HFq HBq
        obtain rfl : qsq = [] := HBq
        obtain rfl : psq = [] := HFq
        obtain ⟨⟨nq, osq⟩, rfl⟩ := HWq
        simp only [putAll, putB, Act.put, List.setIfInBounds_toArray, List.set_cons_succ, List.set_cons_zero]
        try dsimp only
        go_wp2_with fail
        go_roundw
        case rel =>
          refine ⟨k + 1, n, by omega, by go_num, rfl, rfl, HG.out.trans (by repeat (with_reducible first | exact Grew.refl _ | assumption | refine Grew.alloc ?_ _ | refine Grew.grow ?_ _ | refine Grew.dr ?_ _ | refine Grew.drewN ?_ _ | refine Grew.drew ?_ | refine Grew.trans ?_ (Hid.out (by assumption)))), ?_⟩
          rcases HN.out with ⟨e, h9⟩ | ⟨e, j, t, hj, ht, hh⟩
          · refine .inl ⟨e, fun j t hj ht => ?_⟩
            by_cases hjk : j = k
            · subst hjk
              rw [HS.out] at ht
              injection ht with ht
              rw [← ht]
              exact HH.out
            · exact h9 j t (by omega) ht
          · exact .inr ⟨e, j, t, by omega, ht, hh⟩
        case measure => simp [intOf]; omega
      · have k2 := hide (show ∀ W, Calls Try.prog 14 #[sec s.fx s.fy s.tx s.ty s.col s.rng, pt v1 v2] W (Ret W (.tuple #[.bool true, .int .i64 0])) from fun W => In_v _ _ _ _ _ _ _ _ _ W (by rw [show Sec.ok ⟨s.fx, s.fy, s.tx, s.ty, s.col, s.rng⟩ = true from hso, H2.out]; rfl) hh)
        obtain ⟨e1, e2⟩ := shA_at H1.out HNZ.out HS.out hh
        rw [HCR.out] at e1
        injection e1 with e1 e1'
        have hn0 : n = 0 := by
          rcases HN.out with ⟨e, _⟩ | ⟨_, j, t, hj, ht, hh'⟩
          · exact e
          · have := e2 j t ht hh'
            omega
        subst hn0
        have HH := hide hh
        clear hh hso e2
        subst e1
        subst e1'
        go_wp2_with fail
        refine wp_region_qas 11 [] [] hm (by kernel_rfl) (by simp only [List.take, List.filter, isQ]; rfl) (by simp only [List.drop]; rfl) ZOk.nil (by simp) ?_
        repeat (refine wpSteady_step (fun K hK => ?_); go_simp; first | (refine hK _ ?_; clear hK K) | (apply Exists.intro; refine ⟨fun _ => ?_, hK _ ?_⟩; (go_at_call 14; with_reducible exact k2.out _); clear hK K))
        refine wpSteady_nil ?_
        refine ⟨StOk.nil, LyOk.nil, ?_⟩
        rintro psq qsq Wq HWq HFq HBq
        obtain rfl : qsq = [] := HBq
        obtain rfl : psq = [] := HFq
        obtain ⟨⟨nq, osq⟩, rfl⟩ := HWq
        simp only [putAll, putB, Act.put, List.setIfInBounds_toArray, List.set_cons_succ, List.set_cons_zero]
        try dsimp only
        go_wp2_with fail
        go_roundw
        case rel => exact ⟨k + 1, 1, by omega, by go_num, rfl, rfl, HG.out.trans (by repeat (with_reducible first | exact Grew.refl _ | assumption | refine Grew.alloc ?_ _ | refine Grew.grow ?_ _ | refine Grew.dr ?_ _ | refine Grew.drewN ?_ _ | refine Grew.drew ?_ | refine Grew.trans ?_ (Hid.out (by assumption)))), .inr ⟨rfl, k, s, by omega, HS.out, HH.out⟩⟩
        case measure => simp [intOf]; omega
    · obtain rfl : k = ss.length := by omega
      have hn2 : (n = 0 ∧ cc = 0 ∧ rr = 0) ∨ n = 1 := by
        rcases HN.out with ⟨e, h9⟩ | ⟨e, _⟩
        · refine .inl ⟨e, ?_⟩
          have := shA_none (ss := ss) (v := (v1, v2)) fun s hs' => by
            obtain ⟨j, hj⟩ := List.getElem?_of_mem hs'
            exact h9 j s (List.getElem?_eq_some_iff.1 hj).1 hj
          rw [HCR.out] at this
          injection this with a1 a2
          exact ⟨a1, a2⟩
        · exact .inr e
      clear HN
      rcases Nat.eq_zero_or_pos ss.length with h0 | h0
      · have hz : ((ss.length : Nat) : Int) = 0 := by omega
        rcases hn2 with ⟨rfl, rfl, rfl⟩ | rfl
        all_goals
          go_wp2_with fail
          all_goals go_ret
          all_goals exact Ret.mk' (ret_bool (by simp [*])) (HG0.out.trans (HG.out.trans (by repeat (with_reducible first | exact Grew.refl _ | assumption | refine Grew.alloc ?_ _ | refine Grew.grow ?_ _ | refine Grew.dr ?_ _ | refine Grew.drewN ?_ _ | refine Grew.drew ?_ | refine Grew.trans ?_ (Hid.out (by assumption))))))
      · obtain ⟨b, off, hA, hb, _⟩ := secAt (k := 0) (s := ss[0]) hr (List.getElem?_eq_getElem h0)
        have hA' := hA.out
        clear hA
        subst hA'
        obtain ⟨q, hq⟩ : ∃ q : Nat, q = by0.toNat % ss.length := ⟨_, rfl⟩
        have hql : q < ss.length := by rw [hq]; exact Nat.mod_lt _ h0
        have hqe : by0 % (ss.length : Int) = (q : Int) := by
          have : by0 = ((by0.toNat : Nat) : Int) := by omega
          rw [hq, Int.natCast_emod, ← this]
        have hqw : IntKind.i64.wrap (by0 % (ss.length : Int)) = (q : Int) := by rw [hqe]; unfold IntKind.wrap; simp [IntKind.bits, IntKind.signed]; omega
        clear hq
        have hne0 : ¬ (ss.length : Int) = 0 := by omega
        have hne1 : ¬ ss = [] := by intro e; rw [e] at h0; simp at h0
        have hcq : ¬ c = q := by omega
        have hqle : q ≤ ss.length := by omega
        have hqc : q ≤ c := by omega
        have hc0 : ¬ c = 0 := by omega
        rcases hn2 with ⟨rfl, rfl, rfl⟩ | rfl
        all_goals
          go_wp2_with fail
          refine wp_name ?_
          intro W1 hW
          have hg1 : Grew W0 W1 := by rw [← hW]; exact HG.out.trans (by repeat (with_reducible first | exact Grew.refl _ | assumption | refine Grew.alloc ?_ _ | refine Grew.grow ?_ _ | refine Grew.dr ?_ _ | refine Grew.drewN ?_ _ | refine Grew.drew ?_ | refine Grew.trans ?_ (Hid.out (by assumption))))
          have hkv1 := (hg1.heap (blk_lt HKV.out)).trans HKV.out
          have g0 : W1.cell? ⟨w.heap.size, 0, none⟩ = _ := blk_cell hkv1 0
          have g1 : W1.cell? ⟨w.heap.size, 1, none⟩ = _ := blk_cell hkv1 1
          have gl := blk_lt hkv1
          have HG1 := hide hg1
          clear hW hg1 hkv1
          refine E.wp_region_eff 11 [false, true, true, true, false, true, true, true, false, true] [0, 4, 8] hm (by kernel_rfl) (by simp only [E.pick, List.take, List.length_cons, List.length_nil, Nat.reduceAdd]; rfl) (by rfl) (by simp only [List.drop, List.take, List.length_cons, List.length_nil, Nat.reduceAdd, Nat.reduceSub]; rfl) (by simp only [List.drop]; rfl) ?_
          repeat (refine wpSteady_step (fun K hK => ?_); go_simp; first | (refine hK _ ?_; clear hK K) | (apply Exists.intro; refine ⟨fun _ => ?_, hK _ ?_⟩; (fail); clear hK K))
          refine wpSteady_nil ?_
          refine E.wpE_ready [0] (by simp) (by kernel_rfl) ?_
          intro e he o ho W2 hg2
          obtain rfl := List.mem_singleton.1 he
          have HG2 := hide hg2
          clear hg2 he
          simp at ho
          subst ho
          go_simp
          refine ⟨(Below.refl _ _).alloc HG2.out.below.size _, ?_⟩
          refine E.wpE_ready [4] (by simp) (by kernel_rfl) ?_
          intro e he o ho W3 hg3
          obtain rfl := List.mem_singleton.1 he
          have HG3 := hide hg3
          clear hg3 he
          simp at ho
          subst ho
          have hr0 := (hr.up (HG0.out.trans (HG1.out.trans (HG2.out.trans (Grew.trans (by repeat (with_reducible first | exact Grew.refl _ | assumption | refine Grew.alloc ?_ _ | refine Grew.grow ?_ _ | refine Grew.dr ?_ _ | refine Grew.drewN ?_ _ | refine Grew.drew ?_ | refine Grew.trans ?_ (Hid.out (by assumption)))) HG3.out))))).reads sec_len (by omega)
          refine E.effUpon_append (.tmp 95) (.tmp 98) 22 rfl W1.heap.size 26 i0 _ 6 48 Try.underlying22 hi0 hz0 hz1 hz2 (by rfl) (by omega) _ 0 [] (by rfl) (own_grew (World.ownsRow_lit (base := W1.heap.size) (e := 26) (size := 6) W2 #[] 0 HG2.out.below.size (by unfold maxLen; omega) rfl) HG3.out) W3.heap.size (some ⟨b, off + q * 6, none⟩) (ss.length - q) (c - q) ((ss.drop q).flatMap Sec.cells) (by rfl) (by
            have := hr0.cut (k := q) (cap := c) (by omega) hl
            rw [if_neg hcq, flat_drop] at this
            simpa [add_at] using this) (sec_one _) (by unfold maxLen; omega) (by omega) (HG2.out.trans (Grew.trans (by repeat (with_reducible first | exact Grew.refl _ | assumption | refine Grew.alloc ?_ _ | refine Grew.grow ?_ _ | refine Grew.dr ?_ _ | refine Grew.drewN ?_ _ | refine Grew.drew ?_ | refine Grew.trans ?_ (Hid.out (by assumption)))) HG3.out)).below.size (Nat.le_refl _) ?_
          intro u1 W4 hown4 hb4
          have HB4 := hide hb4
          have HO4 := hide hown4
          clear hr0 hb4 hown4
          refine E.wpE_ready [8] (by simp) (by kernel_rfl) ?_
          intro e he o ho W5 hg5
          obtain rfl := List.mem_singleton.1 he
          have HG5 := hide hg5
          clear hg5 he
          simp at ho
          subst ho
          have hg13 : Grew W1 W3 := (Grew.drew (Grew.refl W1)).trans (HG2.out.trans (Grew.trans (by repeat (with_reducible first | exact Grew.refl _ | assumption | refine Grew.alloc ?_ _ | refine Grew.grow ?_ _ | refine Grew.dr ?_ _ | refine Grew.drewN ?_ _ | refine Grew.drew ?_ | refine Grew.trans ?_ (Hid.out (by assumption)))) HG3.out))
          have hg15 : Grew W1 W5 := (Grew.of_below (hg13.below.trans HB4.out)).trans HG5.out
          have hgw5 : Grew w W5 := HG0.out.trans (HG1.out.trans hg15)
          have hr1 := ((hr.take q).up hgw5)
          rw [← List.map_take] at hr1
          have hr2 := hr1.reads sec_len (by omega)
          rw [List.length_take, Nat.min_eq_left hqle] at hr2
          refine E.effUpon_append (.tmp 99) (.tmp 102) 22 rfl W1.heap.size 26 i0 _ 6 48 Try.underlying22 hi0 hz0 hz1 hz2 (by rfl) (by omega) u1 _ _ (by rfl) (own_grew HO4.out HG5.out) W5.heap.size (some ⟨b, off, none⟩) q c ((ss.take q).flatMap Sec.cells) (by rfl) hr2 (sec_one _) (by unfold maxLen; omega) (by omega) hg15.below.size (Nat.le_refl _) ?_
          intro u2 W6 hown6 hb6
          have hown6' : W6.ownsRow W1.heap.size 26 6 u2 ss.length ((ss.drop q ++ ss.take q).flatMap Sec.cells) := by
            rw [List.flatMap_append]
            have e : 0 + (ss.length - q) + q = ss.length := by omega
            rw [e] at hown6
            simpa using hown6
          have hlen : ss.length = (ss.drop q ++ ss.take q).length := by simp; omega
          obtain ⟨A6, c6, rfl, hc6, hrd⟩ := Rd.of_own (f := Sec.cells) sec_len hown6' hlen
          have hgw6 : Grew w W6 := HG0.out.trans (HG1.out.trans (Grew.of_below (hg15.below.trans hb6)))
          have HRD := hide hrd
          have HGW := hide hgw6
          have hv6 := ((Grew.of_below (hg15.below.trans hb6)).heap gl).trans ((HG1.out.heap (blk_lt HKV.out)).trans HKV.out)
          have f0 : W6.cell? ⟨w.heap.size, 0, none⟩ = _ := blk_cell hv6 0
          have f1 : W6.cell? ⟨w.heap.size, 1, none⟩ = _ := blk_cell hv6 1
          have hperm := turn_perm ss q
          have k2 := hide (fun W (hg : Grew W6 W) => Color_v (ss.drop q ++ ss.take q) ss.length (some ⟨b, off, none⟩) c v1 v2 (0, 0) W)
          clear k2
          have hcol : colorOf (ss.drop q ++ ss.take q) v1 v2 = ((shA ss (v1, v2)).1, (shA ss (v1, v2)).2, 0) := by rw [color_ok (LValid_perm hperm H1.out) H2.out, ← shA_perm hperm H1.out HNZ.out]
          rw [HCR.out] at hcol
          have k3 := hide (fun W (hg : Grew W6 W) => Color_v (ss.drop q ++ ss.take q) ss.length A6 c6 v1 v2 _ W (HRD.out.up hg) hlen.symm hc6 hc hcol)
          clear hr1 hr2 hg13 hg15 hgw5 hown6 hown6' hb6 hrd hgw6 hv6 hlen hperm hcol
          refine E.wpE_nil fun W7 hg7 => ?_
          have HG7 := hide hg7
          clear hg7
          go_wp2_with (go_at_call 16; (with_reducible refine (k3.out _ (HG7.out.trans (by repeat (with_reducible first | exact Grew.refl _ | assumption | refine Grew.alloc ?_ _ | refine Grew.grow ?_ _ | refine Grew.dr ?_ _ | refine Grew.drewN ?_ _ | refine Grew.drew ?_ | refine Grew.trans ?_ (Hid.out (by assumption)))))).mono ?_); rintro e w' ⟨rfl, ⟨_, _⟩, rfl⟩; dsimp only)
          refine L.q2_normal ?_
          repeat (refine wpSteady_step (fun K hK => ?_); go_simp; first | (refine hK _ ?_; clear hK K) | (apply Exists.intro; refine ⟨fun _ => ?_, hK _ ?_⟩; (fail); clear hK K))
          refine wpSteady_nil ?_
          intro W8 hW3b
          have HG8 := hide hW3b
          clear hW3b
          go_wp2_with fail
          go_ret
          exact Ret.mk' (ret_bool (by simp)) (HGW.out.trans (HG7.out.trans (Grew.trans (by repeat (with_reducible first | exact Grew.refl _ | assumption | refine Grew.alloc ?_ _ | refine Grew.grow ?_ _ | refine Grew.dr ?_ _ | refine Grew.drewN ?_ _ | refine Grew.drew ?_ | refine Grew.trans ?_ (Hid.out (by assumption)))) HG8.out)))
theorem oneColor_any (ss : List Sec) (A : Option Addr) (c : Nat) (v1 v2 by0 : Int) (w : World) (hr : Rd w w.heap.size 6 A (ss.map Sec.cells)) (hl : ss.length ≤ c) (hc : ss.length ≤ 100000000000000) (hby : (Lit.int .u8 by0).wf = true) :
    Calls Try.prog 5 #[.slice A ss.length c, pt v1 v2, .int .u8 by0] w (Ret w (.bool true)) := by
  have hb : 0 ≤ by0 ∧ by0 ≤ 255 := by
    have h1 : IntKind.u8.min = 0 := rfl
    have h2 : IntKind.u8.max = 255 := rfl
    simp only [Lit.wf, Bool.and_eq_true, decide_eq_true_eq] at hby
    omega
  cases h1 : LValid ss
  · exact oneColor_no ss A c v1 v2 by0 w hr hl hc (by rw [h1]; rfl)
  · cases h2 : dirOk v1 v2
    · exact oneColor_no ss A c v1 v2 by0 w hr hl hc (by rw [h2]; simp)
    · exact oneColor_yes ss A c v1 v2 by0 w hr hl hc hb h1 h2
end Go.Proofs.Ytgcgaplhaglejaa
