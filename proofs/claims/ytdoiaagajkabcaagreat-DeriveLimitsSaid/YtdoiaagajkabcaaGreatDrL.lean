/- The law DeriveLimits, walked. -/
import Derived.Test.YtdoiaagajkabcaaGreatDrP
namespace Go.Proofs.YtdoiaagajkabcaaGreat
set_option linter.unusedVariables false
set_option linter.unusedSimpArgs false
open Go.RowKit Go.Sort
attribute [local go_sem] Steady steadyUpon
attribute [local go_sem ↓] hs_dr lt_add_r lt_add_r2 lt_add_r3 lt_add_r4 lt_add_r5 lt_add_r6
attribute [local go_sem] cell?_gd frozen?_gd setCell_gd size_grow tape_grow cell?_grow' frozen?_grow' setCell_grow' grow_grow grow_dr grow_drew dr_dr dr_drew drew_dr dr_alloc dr_setCell dr_cell dr_frozen dr_tape dr_drawn
attribute [local irreducible] wpSteady

theorem hasN_succ {l : List Int} {k : Nat} {x n : Int} (h : l[k]? = some x) : decide (n ∈ l.take (k + 1)) = (decide (n ∈ l.take k) || (x == n)) := by
  rw [Bool.eq_iff_iff, List.take_add_one, h]
  simp
  exact ⟨fun h => h.imp id fun e => e.symm, fun h => h.imp id fun e => e.symm⟩
set_option maxRecDepth 100000 in
set_option maxHeartbeats 8000000 in
theorem deriveLimits_row (fs : List FV) (A : Option Addr) (c : Nat) (gs : List FV) (A' : Option Addr) (c' : Nat) (lim less : Int) (ps : List Pt) (Ap : Option Addr) (cp : Nat) (w : World) (hr : FRd w w.heap.size A fs) (hc : fs.length ≤ 100000000000000) (hr' : FRd w w.heap.size A' gs) (hc' : gs.length ≤ 100000000000000) (hrp : Rd w w.heap.size 2 Ap (ps.map encD)) (hcp : ps.length ≤ 100000000000000) :
    Calls Tryz.prog 9 #[.slice A fs.length c, .slice A' gs.length c', .int .i64 lim, .int .i64 less, .slice Ap ps.length cp] w (Ret w (.bool true)) := by
  have hm := hmix
  obtain ⟨fw, hfw⟩ : ∃ r, decide (fs.length ≤ 12 ∧ gs.length ≤ 12 ∧ 0 ≤ 12) = r := ⟨_, rfl⟩
  have kf := hide (fun W => few_v A A' none fs.length gs.length c c' 0 0 fw W hfw)
  cases fw
  · clear hr hr' hrp
    go_enter Tryz.func9, Tryz.ntmps9
    go_wp2_with (first | (go_at_call 11; (with_reducible refine (head_v _).mono ?_); rintro e w' ⟨rfl, ⟨_, _⟩, rfl⟩; dsimp only) | (go_at_call 12; (with_reducible refine (kf.out _).mono ?_); rintro e w' ⟨rfl, ⟨_, _⟩, rfl⟩; dsimp only))
    go_ret
    exact Ret.mk' rfl gw
  · simp at hfw
    by_cases hle : less ≤ lim
    · obtain ⟨⟨x, e⟩, h1⟩ : ∃ d, checkOf fs gs lim ps = d := ⟨_, rfl⟩
      obtain ⟨⟨y, f⟩, h2⟩ : ∃ d, checkOf fs gs less ps = d := ⟨_, rfl⟩
      obtain ⟨⟨l, g⟩, h3⟩ : ∃ d, unprovedOf fs gs lim = d := ⟨_, rfl⟩
      obtain ⟨⟨m, h⟩, h4⟩ : ∃ d, unprovedOf fs gs less = d := ⟨_, rfl⟩
      have hcase := limits_facts hle h1 h2 h3 h4
      have hnl : ¬ lim < less := by omega
      have k1 := hide (fun W (hg : Grew w W) => Check_v fs gs ps A A' Ap c c' cp lim W (hr.up hg) (hr'.up hg) (hrp.up hg) hc hc' hcp)
      have k2 := hide (fun W (hg : Grew w W) => Check_v fs gs ps A A' Ap c c' cp less W (hr.up hg) (hr'.up hg) (hrp.up hg) hc hc' hcp)
      have k3 := hide (fun W (hg : Grew w W) => Unproved_v fs gs A A' c c' lim W (hr.up hg) (hr'.up hg) (by omega) (by omega))
      have k4 := hide (fun W (hg : Grew w W) => Unproved_v fs gs A A' c c' less W (hr.up hg) (hr'.up hg) (by omega) (by omega))
      rw [h1] at k1
      rw [h2] at k2
      rw [h3] at k3
      rw [h4] at k4
      dsimp only at k1 k2 k3 k4
      have hll : l.length ≤ 12 := by
        unfold unprovedOf at h3
        split at h3
        · injection h3 with h3 _
          rw [← h3]
          exact Nat.le_trans (unpS_len _ _ _) (Nat.le_trans (countsTo_len _ _ _) hfw.1)
        · injection h3 with h3 _
          rw [← h3]; simp
      have hml : m.length ≤ 12 := by
        unfold unprovedOf at h4
        split at h4
        · injection h4 with h4 _
          rw [← h4]
          exact Nat.le_trans (unpS_len _ _ _) (Nat.le_trans (countsTo_len _ _ _) hfw.1)
        · injection h4 with h4 _
          rw [← h4]; simp
      clear hr hr' hrp h1 h2 h3 h4 hle
      go_enter Tryz.func9, Tryz.ntmps9
      go_wp2_with (first | (go_at_call 11; (with_reducible refine (head_v _).mono ?_); rintro e w' ⟨rfl, ⟨_, _⟩, rfl⟩; dsimp only) | (go_at_call 12; (with_reducible refine (kf.out _).mono ?_); rintro e w' ⟨rfl, ⟨_, _⟩, rfl⟩; dsimp only))
      refine (k1.out _ gw).mono ?_
      rintro e1 W1 ⟨rfl, hg⟩
      have HG1 : Hid (Grew w W1) := hide (Grew.trans gw hg)
      clear hg k1
      dsimp only
      go_wp2_with fail
      refine (k2.out _ (HG1.out.trans gw)).mono ?_
      rintro e1 W2 ⟨rfl, hg⟩
      have HG2 : Hid (Grew w W2) := hide (HG1.out.trans (Grew.trans gw hg))
      clear hg k2 HG1
      dsimp only
      go_wp2_with fail
      refine (k3.out _ (HG2.out.trans gw)).mono ?_
      rintro e1 W3 ⟨A3, c3, rfl, hrd, hg⟩
      have HG3 : Hid (Grew w W3) := hide (HG2.out.trans (Grew.trans gw hg))
      have HL3 := hide hrd
      clear hg hrd k3 HG2
      dsimp only
      go_wp2_with fail
      refine (k4.out _ (HG3.out.trans gw)).mono ?_
      rintro e1 W4 ⟨A4, c4, rfl, hrd, hg⟩
      have HG34 : Hid (Grew W3 W4) := hide (Grew.trans gw hg)
      have HG4 : Hid (Grew w W4) := hide (HG3.out.trans HG34.out)
      have HL4 := hide (HL3.out.up HG34.out)
      have HM4 := hide hrd
      clear hg hrd k4 HG3 HL3 HG34
      dsimp only
      rcases hcase with (⟨he, rfl⟩ | ⟨rfl, hf, rfl⟩) | ⟨rfl, rfl, rfl, rfl, hxy, hmem⟩
      · have hne : (e != 0) = true := by simpa using he
        go_wp2_with fail
        go_ret
        exact Ret.mk' rfl (HG4.out.trans gw)
      · have hne : (f != 0) = true := by simpa using hf
        cases x
        · go_wp2_with fail
          go_ret
          exact Ret.mk' rfl (HG4.out.trans gw)
        · go_wp2_with fail
          go_ret
          exact Ret.mk' rfl (HG4.out.trans gw)
      · have HMEM := hide hmem
        clear hmem
        rcases hxy with rfl | ⟨rfl, rfl⟩
        all_goals
          go_wp2_with fail
          go_loopw [11, 20] (fun up i wr => ∃ k : Nat, k ≤ m.length ∧ i = .int .i64 k ∧ up = .bool true ∧ Grew W4 wr) (fun _ i _ => m.length - (intOf i).toNat)
          case atStart => exact ⟨0, by omega, rfl, rfl, gw⟩
          case round =>
            obtain ⟨k, hk, rfl, rfl, hg⟩ := hrel
            have HGk := hide hg
            clear hg
            by_cases hlt : k < m.length
            · obtain ⟨n, hn⟩ : ∃ n, m[k]? = some n := ⟨_, List.getElem?_eq_getElem hlt⟩
              have hin := HMEM.out n (List.mem_of_getElem? hn)
              have HN := hide hn
              have HIN := hide hin
              clear hn hin
              go_wp2_with fail
              obtain ⟨Wz, hz⟩ : ∃ z, z = wr := ⟨wr, rfl⟩
              subst hz
              go_loopw [21, 22] (fun hs j wq => ∃ q : Nat, q ≤ l.length ∧ j = .int .i64 q ∧ hs = .bool (decide (n ∈ l.take q)) ∧ Grew Wz wq) (fun _ j _ => l.length - (intOf j).toNat)
              case atStart => exact ⟨0, by omega, rfl, by simp, gw⟩
              case round =>
                obtain ⟨q, hq, rfl, rfl, hg⟩ := hrel
                have HGq := hide hg
                clear hg
                by_cases hlt2 : q < l.length
                · obtain ⟨z, hz⟩ : ∃ z, l[q]? = some z := ⟨_, List.getElem?_eq_getElem hlt2⟩
                  have hst := hasN_succ (n := n) hz
                  obtain ⟨b, off, hA, hb, g0⟩ := intAt (HL4.out.up (HGk.out.trans HGq.out)) hz
                  obtain ⟨b', off', hA', hb', g1⟩ := intAt (HM4.out.up (HGk.out.trans HGq.out)) HN.out
                  have hix := idx_run (cap := c3) Tryz.underlying36 Tryz.sizeOf3 hA.out hlt2
                  have hix2 := idx_run (cap := c4) Tryz.underlying36 Tryz.sizeOf3 hA'.out hlt
                  rw [Nat.mul_one] at hix hix2
                  obtain ⟨o, ho⟩ : ∃ o, decide (n ∈ l.take q) = o := ⟨_, rfl⟩
                  rw [ho] at hst ⊢
                  have HST := hide hst
                  clear hst hz hA hA' ho
                  cases o
                  · go_wp2_with fail
                    refine wp_region_qas 13 [] [] hm (by kernel_rfl) (by simp only [List.take, List.filter, isQ]; rfl) (by simp only [List.drop]; rfl) ZOk.nil (by simp) ?_
                    repeat (refine wpSteady_step (fun K hK => ?_); go_simp; first | (refine hK _ ?_; clear hK K) | (apply Exists.intro; refine ⟨fun _ => ?_, hK _ ?_⟩; (fail); clear hK K))
                    refine wpSteady_nil ?_
                    refine ⟨StOk.nil, LyOk.nil, ?_⟩
                    rintro psq qsq Wq HWq HFq HBq
                    obtain rfl : qsq = [] := HBq
                    obtain rfl : psq = [] := HFq
                    obtain ⟨⟨nq, osq⟩, rfl⟩ := HWq
                    simp only [putAll, putB, Act.put, List.setIfInBounds_toArray, List.set_cons_succ, List.set_cons_zero]
                    try dsimp only
                    go_wp2_with fail
                    go_roundw
                    case rel => exact ⟨q + 1, by omega, by go_num, by rw [HST.out]; rfl, HGq.out.trans gw⟩
                    case measure => simp [intOf]; omega
                  · go_wp2_with fail
                    refine wp_region_qas 13 [] [] hm (by kernel_rfl) (by simp only [List.take, List.filter, isQ]; rfl) (by simp only [List.drop]; rfl) ZOk.nil (by simp) ?_
                    repeat (refine wpSteady_step (fun K hK => ?_); go_simp; first | (refine hK _ ?_; clear hK K) | (apply Exists.intro; refine ⟨fun _ => ?_, hK _ ?_⟩; (fail); clear hK K))
                    refine wpSteady_nil ?_
                    refine ⟨StOk.nil, LyOk.nil, ?_⟩
                    rintro psq qsq Wq HWq HFq HBq
                    obtain rfl : qsq = [] := HBq
                    obtain rfl : psq = [] := HFq
                    obtain ⟨⟨nq, osq⟩, rfl⟩ := HWq
                    simp only [putAll, putB, Act.put, List.setIfInBounds_toArray, List.set_cons_succ, List.set_cons_zero]
                    try dsimp only
                    go_wp2_with fail
                    go_roundw
                    case rel => exact ⟨q + 1, by omega, by go_num, by rw [HST.out]; rfl, HGq.out.trans gw⟩
                    case measure => simp [intOf]; omega
                · obtain rfl : q = l.length := by omega
                  have hdt : decide (n ∈ l.take l.length) = true := by rw [List.take_length]; exact decide_eq_true HIN.out
                  rw [hdt]
                  clear hdt
                  go_wp2_with fail
                  go_roundw
                  case rel => exact ⟨k + 1, by omega, by go_num, rfl, HGk.out.trans (HGq.out.trans gw)⟩
                  case measure => simp [intOf]; omega
            · obtain rfl : k = m.length := by omega
              go_wp2_with fail
              go_ret
              exact Ret.mk' rfl (HG4.out.trans (HGk.out.trans gw))
    · have hnl : lim < less := by omega
      clear hr hr' hrp hle
      go_enter Tryz.func9, Tryz.ntmps9
      go_wp2_with (first | (go_at_call 11; (with_reducible refine (head_v _).mono ?_); rintro e w' ⟨rfl, ⟨_, _⟩, rfl⟩; dsimp only) | (go_at_call 12; (with_reducible refine (kf.out _).mono ?_); rintro e w' ⟨rfl, ⟨_, _⟩, rfl⟩; dsimp only))
      go_ret
      exact Ret.mk' rfl gw
end Go.Proofs.YtdoiaagajkabcaaGreat
