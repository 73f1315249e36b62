/- The law DeriveCertified, walked. -/
import Derived.Test.YtdoiaagajkabcaaGreatDrA
import Derived.Test.YtdoiaagajkabcaaGreatDrP
import Derived.Test.YtdoiaagajkabcaaGreatRuD
namespace Go.Proofs.YtdoiaagajkabcaaGreat
set_option linter.unusedVariables false
set_option linter.unusedSimpArgs false
open Go.RowKit Go.Sort
attribute [local go_sem] Steady steadyUpon
attribute [local go_sem ↓] hs_dr lt_add_r lt_add_r2 lt_add_r3 lt_add_r4 lt_add_r5 lt_add_r6
attribute [local go_sem] cell?_gd frozen?_gd setCell_gd size_grow tape_grow cell?_grow' frozen?_grow' setCell_grow' grow_grow grow_dr grow_drew dr_dr dr_drew drew_dr dr_alloc dr_setCell dr_cell dr_frozen dr_tape dr_drawn
attribute [local irreducible] wpSteady

set_option maxRecDepth 100000 in
set_option maxHeartbeats 4000000 in
theorem rFind_v (fs : List FV) (A : Option Addr) (c : Nat) (x : Int) (w : World) (hr : Rd w w.heap.size 9 A (fs.map FV.cells)) (hc : fs.length ≤ 100000000000000) (hx : ∃ f ∈ fs, f.id = x) :
    Calls Tryz.prog 31 #[.slice A fs.length c, .int .i64 x] w fun e w' => ∃ k : Nat, e = .returned (.int .i64 k) ∧ Grew w w' := by
  have hm := hmix
  have HR := hide hr
  have HX := hide hx
  clear hr hx
  go_enter Tryz.func31, Tryz.ntmps31
  go_wp2_with fail
  go_loopw [5] (fun i wr => ∃ k : Nat, k ≤ fs.length ∧ i = .int .i64 k ∧ Grew w wr ∧ AppG (∀ j, j < k → (fAt fs j).id ≠ x)) (fun i _ => fs.length - (intOf i).toNat)
  case atStart => exact ⟨0, by omega, rfl, gw, fun j hj => by omega⟩
  case round =>
    obtain ⟨k, hk, rfl, hg, hall⟩ := hrel
    have HG := hide hg
    have HA := hide hall.stop
    clear hg hall
    by_cases hlt : k < fs.length
    · obtain ⟨b, off, hA, hb, fc⟩ := rowAt (HR.out.up HG.out) hlt
      have hix := idx_run (cap := c) Tryz.underlying22 Tryz.sizeOf52 hA.out hlt
      have c0 := fc.c0
      clear fc hA
      by_cases he : (fAt fs k).id = x
      · rw [he] at c0
        go_wp2_with fail
        go_ret
        exact ⟨k, rfl, HG.out.trans gw⟩
      · have he2 : ((fAt fs k).id == x) = false := by simpa using he
        have HE := hide he
        clear he
        go_wp2_with fail
        go_roundw
        case rel => exact ⟨k + 1, by omega, by go_num, HG.out.trans gw, show ∀ j, j < k + 1 → (fAt fs j).id ≠ x from (fun j hj => by
          by_cases e : j = k
          · rw [e]; exact HE.out
          · exact HA.out j (by omega))⟩
        case measure => simp [intOf]; omega
    · exfalso
      obtain rfl : k = fs.length := by omega
      obtain ⟨f, hf, e⟩ := HX.out
      obtain ⟨j, hj, rfl⟩ := fAt_of_mem hf
      exact HA.out j hj e
set_option maxRecDepth 100000 in
set_option maxHeartbeats 8000000 in
theorem deriveCertified_row (fs : List FV) (A : Option Addr) (c : Nat) (rs : List Ru) (Ar : Option Addr) (cr : Nat) (w : World) (hr : FRd w w.heap.size A fs) (hc : fs.length ≤ 100000000000000) (hrr : Rd w w.heap.size 3 Ar (rs.map encR)) (hcr : rs.length ≤ 100000000000000) :
    Calls Tryz.prog 4 #[.slice A fs.length c, .slice Ar rs.length cr] w (Ret w (.bool true)) := by
  have hm := hmix
  obtain ⟨fw, hfw⟩ : ∃ r, decide (fs.length ≤ 12 ∧ 0 ≤ 12 ∧ rs.length ≤ 12) = r := ⟨_, rfl⟩
  have kf := hide (fun W => few_v A none Ar fs.length 0 c 0 rs.length cr fw W hfw)
  cases fw
  · clear hr hrr
    go_enter Tryz.func4, Tryz.ntmps4
    go_wp2_with (first | (go_at_call 11; (with_reducible refine (head_v _).mono ?_); rintro e w' ⟨rfl, ⟨_, _⟩, rfl⟩; dsimp only) | (go_at_call 12; (with_reducible refine (kf.out _).mono ?_); rintro e w' ⟨rfl, ⟨_, _⟩, rfl⟩; dsimp only))
    go_ret
    exact Ret.mk' rfl gw
  · simp at hfw
    obtain ⟨⟨⟨ch, prs⟩, e⟩, h1⟩ : ∃ d, makeOf fs rs = d := ⟨_, rfl⟩
    obtain ⟨u, hu⟩ : ∃ u, FList fs = u := ⟨_, rfl⟩
    obtain ⟨v, hv⟩ : ∃ u, rsOk rs = u := ⟨_, rfl⟩
    obtain ⟨⟨lim, e2⟩, hcap⟩ : ∃ d, capOf rs = d := ⟨_, rfl⟩
    have k1 := hide (fun W (hg : Grew w W) => Make_v fs rs A Ar c cr W (hr.up hg) (hrr.up hg) (by omega) (by omega))
    have k2 := hide (fun W (hg : Grew w W) => FList_v fs A c u W (hr.up hg) hc hu)
    have k3 := hide (fun W (hg : Grew w W) => rValid_v rs Ar cr v W (hrr.up hg) hcr hv)
    have k4 := hide (fun W (hg : Grew w W) => rCap_v rs Ar cr _ W (hrr.up hg) hcr hcap)
    have hcase := make_facts h1
    rw [h1] at k1
    have hc2 : rsOk rs = true → e2 = 0 := fun h => by
      unfold capOf at hcap
      rw [if_pos h] at hcap
      injection hcap with _ h2
      exact h2.symm
    rw [hu, hv, hcap] at hcase
    rw [hv] at hc2
    dsimp only at hcase k4
    have HR := hide hr
    clear hr hrr h1 hu hv hcap
    go_enter Tryz.func4, Tryz.ntmps4
    go_wp2_with (first | (go_at_call 11; (with_reducible refine (head_v _).mono ?_); rintro e w' ⟨rfl, ⟨_, _⟩, rfl⟩; dsimp only) | (go_at_call 12; (with_reducible refine (kf.out _).mono ?_); rintro e w' ⟨rfl, ⟨_, _⟩, rfl⟩; dsimp only))
    refine (k1.out _ gw).mono ?_
    rintro ee W1 ⟨A1, c1, fs', B1, d1, rfl, hb, hrd, hpr, hg⟩
    have HG1 : Hid (Grew w W1) := hide (Grew.trans gw hg)
    have HC1 := hide hrd
    have HP1 := hide hpr
    have HB := hide hb
    clear hg hrd hpr hb k1
    dsimp only at HB HP1 ⊢
    rcases hcase with ⟨he, rfl, rfl, hcode⟩ | ⟨rfl, rfl, hlc, hp, hch⟩
    · have hne : (e != 0) = true := by simpa using he
      obtain rfl : fs' = [] := by have := len_of HB.out; simpa using this
      clear HC1 HP1 HB hc2
      rcases hcode with ⟨rfl, rfl | ⟨rfl, rfl⟩⟩ | ⟨he1, rfl, rfl⟩
      · go_wp2_with (first | (go_at_call 28; (with_reducible refine (k2.out _ (HG1.out.trans gw)).mono ?_); rintro e w' ⟨rfl, ⟨_, _⟩, rfl⟩; dsimp only) | (go_at_call 29; (with_reducible refine (k3.out _ (HG1.out.trans gw)).mono ?_); rintro e w' ⟨rfl, ⟨_, _⟩, rfl⟩; dsimp only))
        go_ret
        exact Ret.mk' rfl (HG1.out.trans gw)
      · go_wp2_with (first | (go_at_call 28; (with_reducible refine (k2.out _ (HG1.out.trans gw)).mono ?_); rintro e w' ⟨rfl, ⟨_, _⟩, rfl⟩; dsimp only) | (go_at_call 29; (with_reducible refine (k3.out _ (HG1.out.trans gw)).mono ?_); rintro e w' ⟨rfl, ⟨_, _⟩, rfl⟩; dsimp only))
        go_ret
        exact Ret.mk' rfl (HG1.out.trans gw)
      · have he2 : (e == 1) = false := by simpa using he1
        go_wp2_with (first | (go_at_call 28; (with_reducible refine (k2.out _ (HG1.out.trans gw)).mono ?_); rintro e w' ⟨rfl, ⟨_, _⟩, rfl⟩; dsimp only) | (go_at_call 29; (with_reducible refine (k3.out _ (HG1.out.trans gw)).mono ?_); rintro e w' ⟨rfl, ⟨_, _⟩, rfl⟩; dsimp only))
        go_ret
        exact Ret.mk' rfl (HG1.out.trans gw)
    · obtain rfl : e2 = 0 := hc2 rfl
      have hps := proves_bare HB.out.symm hp
      have hck := check_iff.2 hps
      have hck0 : (checkOf fs fs' lim prs).2 = 0 := by
        rcases check_code (fs := fs) (gs := fs') (lim := lim) (ps := prs) with ⟨h, _⟩ | ⟨h, _⟩
        · exact h
        · rw [h] at hck; cases hck
      have hfl : FList fs' = true := hps.lg
      have hlen' := list_len hfl
      have hlp := ord_len hps.ord
      have k5 := hide (fun W (hg : Grew W1 W) => Check_v fs fs' prs A A1 B1 c c1 d1 lim W (HR.out.up (HG1.out.trans hg)) (HC1.out.up hg) (HP1.out.up hg) hc (by omega) (by omega))
      have k6 := hide (fun W (hg : Grew W1 W) => FList_v fs' A1 c1 true W (HC1.out.up hg) (by omega) hfl)
      obtain ⟨ck, hckk⟩ : ∃ d, checkOf fs fs' lim prs = d := ⟨_, rfl⟩
      rw [hckk] at k5 hck hck0
      obtain ⟨ck1, ck2⟩ := ck
      dsimp only at k5 hck hck0
      subst hck hck0
      have hkey : ∀ g ∈ fs', (g.kind = 4 ∨ (g.kind ≠ 4 ∧ g.dep < lim)) ∧ ∃ f ∈ fs, f.id = g.id := by
        intro g hg
        obtain ⟨g', hg', eb⟩ := mem_bare HB.out hg
        obtain ⟨h7, f, hf, h8, _⟩ := hch g' hg'
        have ek : g'.kind = g.kind := by show g'.bare.kind = g.bare.kind; rw [eb]
        have ed : g'.dep = g.dep := by show g'.bare.dep = g.bare.dep; rw [eb]
        refine ⟨?_, f, hf, by rw [h8]; exact bare_id eb⟩
        rw [ek, ed] at h7
        by_cases h4 : g.kind = 4
        · exact .inl h4
        · exact .inr ⟨h4, h7.resolve_left h4⟩
      have HKEY := hide hkey
      have kfi := hide (fun W (hg : Grew w W) (x : Int) (hx : ∃ f ∈ fs, f.id = x) => rFind_v fs A c x W (HR.out.up hg).row hc hx)
      clear hp hlc hch hps hckk hkey hfl hc2
      go_wp2_with (go_at_call 30; (with_reducible refine (k4.out _ (HG1.out.trans gw)).mono ?_); rintro e w' ⟨rfl, ⟨_, _⟩, rfl⟩; dsimp only)
      refine (k5.out _ gw).mono ?_
      rintro ee W2 ⟨rfl, hg⟩
      have HG2 : Hid (Grew W1 W2) := hide (Grew.trans gw hg)
      clear hg k5
      dsimp only
      go_wp2_with (go_at_call 28; (with_reducible refine (k6.out _ (HG2.out.trans gw)).mono ?_); rintro e w' ⟨rfl, ⟨_, _⟩, rfl⟩; dsimp only)
      refine wp_name ?_
      intro W3 hW
      have HG3 : Hid (Grew W1 W3) := hide (by rw [← hW]; exact HG2.out.trans gw)
      have HGw := hide (HG1.out.trans HG3.out)
      clear hW HG2 k6
      go_loopw [5, 13] (fun up i wr => ∃ k : Nat, k ≤ fs'.length ∧ i = .int .i64 k ∧ up = .bool true ∧ Grew W3 wr) (fun _ i _ => fs'.length - (intOf i).toNat)
      case atStart => exact ⟨0, by omega, rfl, rfl, gw⟩
      case round =>
        obtain ⟨k, hk, rfl, rfl, hg⟩ := hrel
        have HG := hide hg
        clear hg
        by_cases hlt : k < fs'.length
        · obtain ⟨b, off, hA, hb, fc⟩ := rowAt (HC1.out.up (HG3.out.trans HG.out)).row hlt
          have hix := idx_run (cap := c1) Tryz.underlying22 Tryz.sizeOf52 hA.out hlt
          obtain ⟨h4, hex⟩ := HKEY.out _ (fAt_mem hlt)
          have kx := hide (fun W (hg : Grew w W) => kfi.out W hg _ hex)
          have c0 := fc.c0
          have c1' := fc.c1
          have c6 := fc.c6
          generalize fAt fs' k = f at *
          clear fc hA hex
          rcases h4 with h4 | ⟨h4, hd⟩
          · rw [h4] at c1'
            go_wp2_with fail
            refine (kx.out _ (HGw.out.trans (HG.out.trans gw))).mono ?_
            rintro ee W4 ⟨q, rfl, ⟨⟨_, _⟩, rfl⟩⟩
            have hq0 : (0 : Int) ≤ (q : Int) := by omega
            dsimp only
            go_wp2_with fail
            go_roundw
            case rel => exact ⟨k + 1, by omega, by go_num, by simp, HG.out.trans gw⟩
            case measure => simp [intOf]; omega
          · have h42 : (f.kind == 4) = false := by simpa using h4
            go_wp2_with fail
            refine (kx.out _ (HGw.out.trans (HG.out.trans gw))).mono ?_
            rintro ee W4 ⟨q, rfl, ⟨⟨_, _⟩, rfl⟩⟩
            have hq0 : (0 : Int) ≤ (q : Int) := by omega
            dsimp only
            go_wp2_with fail
            go_roundw
            case rel => exact ⟨k + 1, by omega, by go_num, by simp, HG.out.trans gw⟩
            case measure => simp [intOf]; omega
        · obtain rfl : k = fs'.length := by omega
          go_wp2_with fail
          go_ret
          exact Ret.mk' rfl (HGw.out.trans (HG.out.trans gw))
end Go.Proofs.YtdoiaagajkabcaaGreat
