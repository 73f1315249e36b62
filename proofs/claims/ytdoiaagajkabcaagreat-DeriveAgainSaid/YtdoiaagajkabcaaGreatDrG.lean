/- The law DeriveAgain: plain, and walked. -/
import Derived.Test.YtdoiaagajkabcaaGreatGeT
import Derived.Test.YtdoiaagajkabcaaGreatDrP
namespace Go.Proofs.YtdoiaagajkabcaaGreat
set_option linter.unusedVariables false
set_option linter.unusedSimpArgs false
open Go.RowKit Go.Sort
attribute [local go_sem] Steady steadyUpon
attribute [local go_sem ↓] hs_dr lt_add_r lt_add_r2 lt_add_r3 lt_add_r4 lt_add_r5 lt_add_r6
attribute [local go_sem] cell?_gd frozen?_gd setCell_gd size_grow tape_grow cell?_grow' frozen?_grow' setCell_grow' grow_grow grow_dr grow_drew dr_dr dr_drew drew_dr dr_alloc dr_setCell dr_cell dr_frozen dr_tape dr_drawn
attribute [local irreducible] wpSteady

theorem met_count {f g : FV} {n : Int} (h : metB f g = true) (hc : countB f n = true) : countB g n = true := by
  unfold countB at *
  rw [Bool.or_eq_true, decide_eq_true_eq, decide_eq_true_eq] at *
  by_cases hf : f.kind = 4
  · rw [met_light hf] at h
    exact .inl h.2.2.1
  · rw [met_iff hf] at h
    have := h.2.2.2.1
    exact .inr (by omega)
theorem again_mem {ps ms : List Pt} {x : Pt} (h : x ∈ againTo ps ms ps.length) : ∃ p ∈ ps, ∃ q ∈ ms, q.1 = p.2 ∧ x = (p.1, q.2) := by
  unfold againTo at h
  rw [List.take_length] at h
  obtain ⟨p, hp, e⟩ := List.mem_filterMap.1 h
  unfold againP at e
  cases hf : ms.find? (fun q => decide (q.1 = p.2)) with
  | none => rw [hf] at e; cases e
  | some q =>
    rw [hf] at e
    injection e with e
    exact ⟨p, hp, q, List.mem_of_find?_eq_some hf, by simpa using List.find?_some hf, e.symm⟩
theorem again_proves {fs gs os : List FV} {lim less : Int} {ps ms : List Pt} (h1 : Proves fs gs lim ps) (h2 : Proves gs os less ms) (hle : less ≤ lim) : Proves fs os less (againTo ps ms ps.length) := by
  have o1 := ord_pw h1.ord
  have o2 := ord_pw h2.ord
  refine ⟨h1.lf, h2.lg, h2.lm, ord_of ?_ ?_, ?_, ?_⟩
  · unfold againTo
    rw [List.take_length]
    refine List.Pairwise.filterMap (R := fun p q : Pt => p.1 < q.1) (againP ms) ?_ o1.1
    intro a a' haa b hb b' hb'
    unfold againP at hb hb'
    cases hf : ms.find? (fun q => decide (q.1 = a.2)) with
    | none => rw [hf] at hb; cases hb
    | some q =>
      cases hf' : ms.find? (fun q => decide (q.1 = a'.2)) with
      | none => rw [hf'] at hb'; cases hb'
      | some q' =>
        rw [hf] at hb
        rw [hf'] at hb'
        injection hb with hb
        injection hb' with hb'
        rw [← hb, ← hb']
        exact haa
  · intro x hx
    obtain ⟨p, hp, q, hq, _, rfl⟩ := again_mem hx
    have a := o1.2 p hp
    have b := o2.2 q hq
    dsimp only
    omega
  · intro x hx
    obtain ⟨p, hp, q, hq, e, rfl⟩ := again_mem hx
    obtain ⟨f, hf, g, hg, a1, a2, a3⟩ := h1.good p hp
    obtain ⟨g', hg', o, ho, b1, b2, b3⟩ := h2.good q hq
    obtain rfl := list_uniq h1.lg hg hg' (by rw [a2, b1, e])
    exact ⟨f, hf, o, ho, a1, b2, met_trans a3 b3⟩
  · intro f hf hc
    obtain ⟨p, hp, e⟩ := h1.cov f hf (by
      unfold countB at *
      simp at *
      omega)
    obtain ⟨f', hf', g, hg, a1, a2, a3⟩ := h1.good p hp
    obtain rfl := list_uniq h1.lf hf' hf (by rw [a1, e])
    obtain ⟨q, hq, e2⟩ := h2.cov g hg (met_count a3 hc)
    have hsome : (ms.find? (fun q => decide (q.1 = p.2))).isSome = true := by
      rw [List.find?_isSome]
      exact ⟨q, hq, by rw [e2, a2]; simp⟩
    obtain ⟨q', hq'⟩ := Option.isSome_iff_exists.1 hsome
    refine ⟨(p.1, q'.2), ?_, e⟩
    unfold againTo
    rw [List.take_length]
    refine List.mem_filterMap.2 ⟨p, hp, ?_⟩
    unfold againP
    rw [hq']
    rfl
theorem again_facts {fs gs os : List FV} {lim less : Int} {ps ms all : List Pt} {x y z : Bool} {e f g h : Int} (h1 : checkOf fs gs lim ps = (x, e)) (h2 : checkOf gs os less ms = (y, f)) (h3 : againOf ps ms = (all, g)) (h4 : checkOf fs os less all = (z, h)) :
    e ≠ 0 ∨ (e = 0 ∧ f ≠ 0) ∨ (e = 0 ∧ f = 0 ∧ x = false) ∨ (e = 0 ∧ f = 0 ∧ x = true ∧ y = false) ∨ (e = 0 ∧ f = 0 ∧ x = true ∧ y = true ∧ g = 0 ∧ h = 0 ∧ all.length ≤ 100000 ∧ (lim < less ∨ (¬ lim < less ∧ z = true))) := by
  by_cases he : e = 0
  · by_cases hf : f = 0
    · cases x
      · exact .inr (.inr (.inl ⟨he, hf, rfl⟩))
      · cases y
        · exact .inr (.inr (.inr (.inl ⟨he, hf, rfl, rfl⟩)))
        · have p1 : Proves fs gs lim ps := check_iff.1 (by rw [h1])
          have p2 : Proves gs os less ms := check_iff.1 (by rw [h2])
          unfold againOf at h3
          rw [if_pos (by rw [p1.ord, p2.ord]; rfl)] at h3
          injection h3 with h3 hg
          have hh : h = 0 := by
            rcases check_code (fs := fs) (gs := os) (lim := less) (ps := all) with ⟨c, _⟩ | ⟨_, c⟩
            · rw [h4] at c; exact c
            · rw [asked_mk p1.lf p2.lg p2.lm] at c; cases c
          have hal : all.length ≤ 100000 := by
            rw [← h3]
            have := againTo_len ps ms ps.length
            have := ord_len p1.ord
            omega
          refine .inr (.inr (.inr (.inr ⟨he, hf, rfl, rfl, hg.symm, hh, hal, ?_⟩)))
          by_cases hl : lim < less
          · exact .inl hl
          · refine .inr ⟨hl, ?_⟩
            have p3 := again_proves p1 p2 (by omega)
            rw [h3, ← check_iff, h4] at p3
            exact p3
    · exact .inr (.inl ⟨he, hf⟩)
  · exact .inl he
set_option maxRecDepth 100000 in
set_option maxHeartbeats 8000000 in
theorem deriveAgain_row (fs : List FV) (A : Option Addr) (c : Nat) (gs : List FV) (A' : Option Addr) (c' : Nat) (lim : Int) (ps : List Pt) (Ap : Option Addr) (cp : Nat) (os : List FV) (Ao : Option Addr) (co : Nat) (less : Int) (ms : List Pt) (Am : Option Addr) (cm : Nat) (w : World) (hr : FRd w w.heap.size A fs) (hc : fs.length ≤ 100000000000000) (hr' : FRd w w.heap.size A' gs) (hc' : gs.length ≤ 100000000000000) (hrp : Rd w w.heap.size 2 Ap (ps.map encD)) (hcp : ps.length ≤ 100000000000000) (hro : FRd w w.heap.size Ao os) (hco : os.length ≤ 100000000000000) (hrm : Rd w w.heap.size 2 Am (ms.map encD)) (hcm : ms.length ≤ 100000000000000) :
    Calls Tryz.prog 7 #[.slice A fs.length c, .slice A' gs.length c', .int .i64 lim, .slice Ap ps.length cp, .slice Ao os.length co, .int .i64 less, .slice Am ms.length cm] w (Ret w (.bool true)) := by
  have hm := hmix
  obtain ⟨fw, hfw⟩ : ∃ r, decide (fs.length ≤ 12 ∧ gs.length ≤ 12 ∧ 0 ≤ 12) = r := ⟨_, rfl⟩
  have kf := hide (fun W => few_v A A' none fs.length gs.length c c' 0 0 fw W hfw)
  cases fw
  · clear hr hr' hrp hro hrm
    go_enter Tryz.func7, Tryz.ntmps7
    go_wp2_with (first | (go_at_call 11; (with_reducible refine (head_v _).mono ?_); rintro e w' ⟨rfl, ⟨_, _⟩, rfl⟩; dsimp only) | (go_at_call 12; (with_reducible refine (kf.out _).mono ?_); rintro e w' ⟨rfl, ⟨_, _⟩, rfl⟩; dsimp only))
    go_ret
    exact Ret.mk' rfl gw
  · simp at hfw
    by_cases h12 : os.length ≤ 12
    · have g12 : ¬ (12 : Int) < (os.length : Int) := by omega
      obtain ⟨⟨x, e⟩, h1⟩ : ∃ d, checkOf fs gs lim ps = d := ⟨_, rfl⟩
      obtain ⟨⟨y, f⟩, h2⟩ : ∃ d, checkOf gs os less ms = d := ⟨_, rfl⟩
      obtain ⟨⟨all, g⟩, h3⟩ : ∃ d, againOf ps ms = d := ⟨_, rfl⟩
      obtain ⟨⟨z, h⟩, h4⟩ : ∃ d, checkOf fs os less all = d := ⟨_, rfl⟩
      have hcase := again_facts h1 h2 h3 h4
      have k1 := hide (fun W (hg : Grew w W) => Check_v fs gs ps A A' Ap c c' cp lim W (hr.up hg) (hr'.up hg) (hrp.up hg) hc hc' hcp)
      have k2 := hide (fun W (hg : Grew w W) => Check_v gs os ms A' Ao Am c' co cm less W (hr'.up hg) (hro.up hg) (hrm.up hg) hc' hco hcm)
      have k3 := hide (fun W (hg : Grew w W) => Again_v ps ms Ap Am cp cm W (hrp.up hg) (hrm.up hg) hcp hcm)
      have k4 : Hid (∀ W A'' c'', Grew w W → Rd W W.heap.size 2 A'' (all.map encD) → all.length ≤ 100000 → Calls Tryz.prog 17 #[.slice A fs.length c, .slice Ao os.length co, .int .i64 less, .slice A'' all.length c''] W (Ret W (.tuple #[.bool (checkOf fs os less all).1, .int .i64 (checkOf fs os less all).2]))) := hide (fun W A'' c'' hg hra hal => Check_v fs os all A Ao A'' c co c'' less W (hr.up hg) (hro.up hg) hra hc hco (by omega))
      rw [h1] at k1
      rw [h2] at k2
      rw [h3] at k3
      rw [h4] at k4
      dsimp only at k1 k2 k3 k4
      clear hr hr' hrp hro hrm h1 h2 h3 h4 h12
      go_enter Tryz.func7, Tryz.ntmps7
      go_wp2_with (first | (go_at_call 11; (with_reducible refine (head_v _).mono ?_); rintro e w' ⟨rfl, ⟨_, _⟩, rfl⟩; dsimp only) | (go_at_call 12; (with_reducible refine (kf.out _).mono ?_); rintro e w' ⟨rfl, ⟨_, _⟩, rfl⟩; dsimp only))
      refine (k1.out _ gw).mono ?_
      rintro e1 W1 ⟨rfl, hg⟩
      have HG1 : Hid (Grew w W1) := hide (Grew.trans gw hg)
      clear hg k1
      dsimp only
      go_wp2_with fail
      refine (k2.out _ (HG1.out.trans gw)).mono ?_
      rintro e1 W2 ⟨rfl, hg⟩
      have HG2 : Hid (Grew w W2) := hide (HG1.out.trans (Grew.trans gw hg))
      clear hg k2 HG1
      dsimp only
      go_wp2_with fail
      refine (k3.out _ (HG2.out.trans gw)).mono ?_
      rintro e1 W3 ⟨A3, c3, rfl, hrd, hg⟩
      have HG3 : Hid (Grew w W3) := hide (HG2.out.trans (Grew.trans gw hg))
      have HA := hide hrd
      clear hg hrd k3 HG2
      dsimp only
      rcases hcase with he | ⟨rfl, hf⟩ | ⟨rfl, rfl, rfl⟩ | ⟨rfl, rfl, rfl, rfl⟩ | ⟨rfl, rfl, rfl, rfl, rfl, rfl, hal, hz⟩
      · have hne : (e != 0) = true := by simpa using he
        go_wp2_with fail
        go_ret
        exact Ret.mk' rfl (HG3.out.trans gw)
      · have hne : (f != 0) = true := by simpa using hf
        go_wp2_with fail
        go_ret
        exact Ret.mk' rfl (HG3.out.trans gw)
      · go_wp2_with fail
        go_ret
        exact Ret.mk' rfl (HG3.out.trans gw)
      · go_wp2_with fail
        go_ret
        exact Ret.mk' rfl (HG3.out.trans gw)
      · go_wp2_with fail
        refine (k4.out _ _ _ (HG3.out.trans gw) (HA.out.up gw) hal).mono ?_
        rintro e1 W4 ⟨rfl, hg⟩
        have HG4 : Hid (Grew w W4) := hide (HG3.out.trans (Grew.trans gw hg))
        clear hg k4
        dsimp only
        rcases hz with hl | ⟨hl, rfl⟩
        · go_wp2_with fail
          go_ret
          exact Ret.mk' rfl (HG4.out.trans gw)
        · have hl2 : decide (lim < less) = false := decide_eq_false (by omega)
          go_wp2_with fail
          go_ret
          exact Ret.mk' rfl (HG4.out.trans gw)
    · have g12 : (12 : Int) < (os.length : Int) := by omega
      clear hr hr' hrp hro hrm h12
      go_enter Tryz.func7, Tryz.ntmps7
      go_wp2_with (first | (go_at_call 11; (with_reducible refine (head_v _).mono ?_); rintro e w' ⟨rfl, ⟨_, _⟩, rfl⟩; dsimp only) | (go_at_call 12; (with_reducible refine (kf.out _).mono ?_); rintro e w' ⟨rfl, ⟨_, _⟩, rfl⟩; dsimp only))
      go_ret
      exact Ret.mk' rfl gw
end Go.Proofs.YtdoiaagajkabcaaGreat
