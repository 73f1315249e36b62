/- The law RuleCaps: plain, and walked. Condition: the lists of rules are not longer than 1048576 each. -/
import Derived.Test.YtfeccolljfkejaaGreatDoorRpI
import Derived.Test.YtfeccolljfkejaaGreatDoorRuP
set_option linter.unusedSimpArgs false
set_option linter.unusedVariables false
set_option maxHeartbeats 8000000
set_option maxRecDepth 100000
namespace Go.Proofs.YtfeccolljfkejaaGreatDoor
open Go.RowKit Go.Sort
attribute [local go_sem] Steady steadyUpon
attribute [local go_sem ↓] hs_dr lt_add_r lt_add_r2 lt_add_r3 lt_add_r4 lt_add_r5 lt_add_r6
attribute [local go_sem] cell?_gd frozen?_gd setCell_gd size_grow tape_grow cell?_grow' frozen?_grow' setCell_grow' grow_grow grow_dr grow_drew dr_dr dr_drew drew_dr dr_alloc dr_setCell dr_cell dr_frozen dr_tape dr_drawn
attribute [local irreducible] wpSteady
theorem capF : ∀ (l : List Ru) (m : Int), m ≤ 100000 → l.foldl capStep m = min m (l.foldl capStep 100000)
 | [], m, h => by simp; omega
 | r :: l, m, h => by
  rw [List.foldl_cons, List.foldl_cons]
  have h1 : capStep m r = min m (capStep 100000 r) := by unfold capStep; split <;> omega
  have h2 : capStep 100000 r ≤ 100000 := by unfold capStep; split <;> omega
  have h3 : capStep m r ≤ 100000 := by omega
  rw [capF l _ h3, capF l _ h2, h1]
  omega
/-- The cap of two lists put together. -/
theorem cap_two {a b : List Ru} {x y : Int} (ha : capOf a = (x, 0)) (hb : capOf b = (y, 0)) : (a.length + b.length ≤ 40 ∧ capOf (a ++ b) = (min x y, 0)) ∨ (40 < a.length + b.length ∧ capOf (a ++ b) = (0, 1)) := by
 have one : ∀ {l : List Ru} {z : Int}, capOf l = (z, 0) → rsOk l = true ∧ l.foldl capStep 100000 = z := fun {l z} h => by
  unfold capOf at h
  cases hu : rsOk l with
  | true =>
   rw [hu] at h
   simp [capTo] at h
   exact ⟨rfl, h⟩
  | false => rw [hu] at h; simp at h
 obtain ⟨a1, a2⟩ := one ha
 obtain ⟨b1, b2⟩ := one hb
 by_cases hl : a.length + b.length ≤ 40
 ·refine .inl ⟨hl, ?_⟩
  unfold capOf
  rw [rs_app hl, a1, b1]
  simp only [Bool.and_self, if_true, capTo, List.take_length, List.foldl_append]
  rw [capF b _ (by rw [a2, ← a2]; have := capF a 100000 (by omega); omega), a2, b2]
 ·refine .inr ⟨by omega, ?_⟩
  have : rsOk (a ++ b) = false := by
   unfold rsOk
   rw [decide_eq_false (by rw [List.length_append]; exact hl)]
   rfl
  unfold capOf
  rw [this]
  rfl
theorem cap_code (l : List Ru) : (capOf l).2 = 0 ∨ (capOf l).2 = 1 := by
 unfold capOf
 split
 ·exact .inl rfl
 ·exact .inr rfl
theorem cap_apply (n : Int) (fs : List FV) : applyOf 1 0 n fs = (fs, 0) ∨ applyOf 1 0 n fs = ([], 1) := by
 have e : applyL 1 0 n fs = fs := by
  unfold applyL
  rw [if_neg (by decide)]
  have : ∀ f : FV, chg 1 0 n f = f := fun f => by
   unfold chg changeF
   split <;> rfl
  rw [List.map_congr_left (fun f _ => this f)]
  exact List.map_id fs
 unfold applyOf
 by_cases h : (ruleOk 1 0 n && FList fs) = true
 ·rw [if_pos h, e]
  rw [Bool.and_eq_true] at h
  rw [if_pos h.2]
  exact .inl rfl
 ·rw [if_neg h]
  exact .inr rfl
theorem ruleCaps_row (a : List Ru) (Aa : Option Addr) (ca : Nat) (b : List Ru) (Ab : Option Addr) (cb : Nat) (n : Int) (fs : List FV) (A : Option Addr) (c : Nat) (w : World) (hra : Rd w w.heap.size 3 Aa (a.map encR)) (hca : a.length ≤ 100000000000000) (hrb : Rd w w.heap.size 3 Ab (b.map encR)) (hcb : b.length ≤ 100000000000000) (hr : FRd w w.heap.size A fs) (hc : fs.length ≤ 100000000000000) (hbd : a.length ≤ 1048576 ∧ b.length ≤ 1048576) (hl : KwAt w w.heap.size ∧ TabP w) :
  Calls Tryz.prog 7 #[.slice Aa a.length ca, .slice Ab b.length cb, .int .i64 n, .slice A fs.length c] w (Ret w (.bool true)) := by
 have hm := hmix
 obtain ⟨hbd1, hbd2⟩ := hbd
 have HH := hide (head_g hl.1 (Nat.le_refl _) hl.2)
 obtain ⟨fw, hfw⟩ : ∃ r, decide ((0 : Nat) ≤ 10 ∧ fs.length ≤ 16) = r := ⟨_, rfl⟩
 have kf := hide (fun W => few_v none A 0 fs.length 0 c fw W hfw)
 clear hfw
 cases fw
 ·clear hra hrb hr
  go_enter Tryz.func7, Tryz.ntmps7
  go_wp2_with (first | (go_at_call 12; with_reducible refine crv (HH.out _ gw) fun _ _ => ?_; dsimp only) | (go_at_call 16; with_reducible refine crv (kf.out _) fun _ _ => ?_; dsimp only))
  go_ret
  exact Ret.mk' rfl gw
 ·obtain ⟨⟨x, e⟩, hx⟩ : ∃ z, capOf a = z := ⟨_, rfl⟩
  obtain ⟨⟨y, f⟩, hy⟩ : ∃ z, capOf b = z := ⟨_, rfl⟩
  obtain ⟨⟨z, g⟩, hz⟩ : ∃ z, capOf (a ++ b) = z := ⟨_, rfl⟩
  have k1 := hide (fun W (hg : Grew w W) => RuCap_v a Aa ca (x, e) W (hra.up hg) hca hx)
  have k2 := hide (fun W (hg : Grew w W) => RuCap_v b Ab cb (y, f) W (hrb.up hg) hcb hy)
  have he := cap_code a
  have hf := cap_code b
  have h2 := @cap_two a b x y
  rw [hx] at he
  rw [hy] at hf
  rw [hx, hy, hz] at h2
  have H2 := hide h2
  have HE := hide he
  have HF := hide hf
  have HZ := hide hz
  have HRA := hide hra
  have HRB := hide hrb
  have HR := hide hr
  have HCA := hide hbd1
  have HCB := hide hbd2
  obtain ⟨i0, hi0, hz0, hz1, hz2⟩ := ruInfo_parts
  clear hra hrb hr hx hy hz h2 he hf hbd1 hbd2
  go_enter Tryz.func7, Tryz.ntmps7
  go_upto_region 6 with (first | (go_at_call 12; with_reducible refine crv (HH.out _ gw) fun _ _ => ?_; dsimp only) | (go_at_call 16; with_reducible refine crv (kf.out _) fun _ _ => ?_; dsimp only) | (go_at_call 19; with_reducible refine crv (k1.out _ gw) fun _ _ => ?_; dsimp only) | (go_at_call 19; with_reducible refine crv (k2.out _ gw) fun _ _ => ?_; dsimp only))
  refine wp_name ?_
  intro W0 hW
  have HG0 : Hid (Grew w W0) := hide (by rw [← hW]; exact gw)
  clear hW k1 k2 kf HH
  go_wp2_with (at_builtin; refine AppG3.stop ?_)
  refine AppG3.go ?_
  have o0 := World.ownsRow_made (base := W0.heap.size) (e := 36) (size := 3) W0 #[] 0 (Nat.le_refl _) (by omega) rfl
  refine wpList_append_any _ rfl (.tmp 34) (.tmp 35) _ rfl W0.heap.size 36 i0 _ 3 24 Tryz.underlying22 hi0 hz0 hz1 hz2 rfl (by omega) _ 0 [] rfl o0 _ Aa a.length ca (a.flatMap encR) rfl ((HRA.out.up (HG0.out.trans gw)).reads encR_len (by omega)) (ru_one a) (by have := HCA.out; simp only [maxLen]; omega) (by have := HCA.out; omega) (by simp) ?_
  intro v1 w1 hown1 hg1 _
  rw [Nat.zero_add, List.nil_append] at hown1
  have HG1 : Hid (Grew W0 w1) := hide (ggrown gw o0 (Nat.le_refl _) hg1)
  have HO1 := hide hown1
  obtain ⟨A1, c1, rfl, _⟩ := fown_slice hown1
  clear hown1 hg1 o0
  go_wp2_with (at_builtin; refine AppG3.stop ?_)
  refine AppG3.go ?_
  refine wpList_append_any _ rfl (.tmp 36) (.tmp 37) _ rfl W0.heap.size 36 i0 _ 3 24 Tryz.underlying22 hi0 hz0 hz1 hz2 rfl (by omega) (.slice A1 a.length c1) a.length (a.flatMap encR) rfl HO1.out _ Ab b.length cb (b.flatMap encR) rfl ((HRB.out.up (HG0.out.trans HG1.out)).reads encR_len (by omega)) (ru_one b) (by have := HCA.out; have := HCB.out; simp only [maxLen]; omega) (by have := HCA.out; have := HCB.out; omega) HG1.out.below.size ?_
  intro v2 w2 hown2 hg2 _
  have HG2 : Hid (Grew W0 w2) := hide (ggrown HG1.out HO1.out (Nat.le_refl _) hg2)
  have hlen : a.length + b.length = (a ++ b).length := by simp
  rw [hlen, ← List.flatMap_append] at hown2
  obtain ⟨A2, c2, rfl, _, hrd⟩ := Rd.of_own (f := encR) (xs := a ++ b) encR_len hown2 rfl
  have k3 := hide (fun W (hg : Grew w2 W) => by
   have q := RuCap_v (a ++ b) A2 c2 (z, g) W (hrd.up hg) (by have := HCA.out; have := HCB.out; rw [List.length_append]; omega) HZ.out
   rw [List.length_append] at q
   exact q)
  have HGw : Hid (Grew w w2) := hide (HG0.out.trans HG2.out)
  clear hown2 hg2 hrd hlen HO1 HG1
  have kap := hide (fun W (hg : Grew w W) => Apply_v 1 0 n fs A c W (HR.out.up hg) hc)
  rcases HE.out with he | he
  ·rcases HF.out with hf | hf
   ·try dsimp only at he hf
    subst he hf
    have hcase := H2.out rfl rfl
    clear HE HF H2
    have hmin : (x ≤ y ∧ min x y = x) ∨ (y < x ∧ min x y = y) := by omega
    rcases hcase with ⟨hl40, hzz⟩ | ⟨hl40, hzz⟩
    ·injection hzz with hzz hgg
     subst hgg
     rcases hmin with ⟨hxy, hmn⟩ | ⟨hxy, hmn⟩
     all_goals
      rw [hmn] at hzz
      subst hzz
      go_wp2_with (go_at_call 19; with_reducible refine crv (k3.out _ gw) fun _ _ => ?_; dsimp only)
      all_goals
       refine calls_name ?_
       intro X hX
       have HX : Hid (Grew w X) := hide (by rw [← hX]; exact HGw.out.trans gw)
       clear hX
       refine (kap.out X HX.out).mono ?_
       rintro en W5 ⟨A5, c5, fs5, rfl, hb5, hrd5, hg5⟩
       have HG5 := hide (HX.out.trans hg5)
       have HB5 := hide hb5
       have HR5 := hide hrd5
       clear hb5 hrd5 hg5 HX kap
       rcases cap_apply n fs with hap | hap
       all_goals
        rw [hap] at HB5 ⊢
        try dsimp only at HB5 ⊢
       ·go_wp2_with fail
        refine calls_name ?_
        intro X hX
        have HX : Hid (Grew W5 X) := hide (by rw [← hX]; exact gw)
        clear hX
        refine (liSame_t fs5 fs fs.length _ _ _ _ X rfl (HR5.out.up HX.out) (HR.out.up (HG5.out.trans HX.out)) HB5.out (by rw [len_of HB5.out]; exact hc)).mono ?_
        rintro en W6 ⟨rfl, hg6⟩
        have HG6 := hide (HG5.out.trans (HX.out.trans hg6))
        clear hg6
        dsimp only
        go_wp2_with fail
        go_ret
        exact Ret.mk' rfl (HG6.out.trans gw)
       ·go_wp2_with fail
        go_ret
        exact Ret.mk' rfl (HG5.out.trans gw)
    ·injection hzz with hzz hgg
     subst hgg
     have h40 : (40 : Int) < (a.length : Int) + (b.length : Int) := by omega
     rcases hmin with ⟨hxy, hmn⟩ | ⟨hxy, hmn⟩
     all_goals
      go_wp2_with (go_at_call 19; with_reducible refine crv (k3.out _ gw) fun _ _ => ?_; dsimp only)
      all_goals
       refine calls_name ?_
       intro X hX
       have HX : Hid (Grew w X) := hide (by rw [← hX]; exact HGw.out.trans gw)
       clear hX
       refine (kap.out X HX.out).mono ?_
       rintro en W5 ⟨A5, c5, fs5, rfl, hb5, hrd5, hg5⟩
       have HG5 := hide (HX.out.trans hg5)
       have HB5 := hide hb5
       have HR5 := hide hrd5
       clear hb5 hrd5 hg5 HX kap
       rcases cap_apply n fs with hap | hap
       all_goals
        rw [hap] at HB5 ⊢
        try dsimp only at HB5 ⊢
       ·go_wp2_with fail
        refine calls_name ?_
        intro X hX
        have HX : Hid (Grew W5 X) := hide (by rw [← hX]; exact gw)
        clear hX
        refine (liSame_t fs5 fs fs.length _ _ _ _ X rfl (HR5.out.up HX.out) (HR.out.up (HG5.out.trans HX.out)) HB5.out (by rw [len_of HB5.out]; exact hc)).mono ?_
        rintro en W6 ⟨rfl, hg6⟩
        have HG6 := hide (HG5.out.trans (HX.out.trans hg6))
        clear hg6
        dsimp only
        go_wp2_with fail
        go_ret
        exact Ret.mk' rfl (HG6.out.trans gw)
       ·go_wp2_with fail
        go_ret
        exact Ret.mk' rfl (HG5.out.trans gw)
   ·try dsimp only at he hf
    subst he hf
    go_wp2_with (go_at_call 19; with_reducible refine crv (k3.out _ gw) fun _ _ => ?_; dsimp only)
    go_ret
    exact Ret.mk' rfl (HGw.out.trans gw)
  ·try dsimp only at he
   subst he
   go_wp2_with (go_at_call 19; with_reducible refine crv (k3.out _ gw) fun _ _ => ?_; dsimp only)
   go_ret
   exact Ret.mk' rfl (HGw.out.trans gw)
end Go.Proofs.YtfeccolljfkejaaGreatDoor
