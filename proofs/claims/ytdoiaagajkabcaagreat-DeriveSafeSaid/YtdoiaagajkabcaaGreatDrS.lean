import Derived.Test.YtdoiaagajkabcaaGreatGeT
import Derived.Test.YtdoiaagajkabcaaGreatDrP
namespace Go.Proofs.YtdoiaagajkabcaaGreat
set_option linter.unusedVariables false
set_option linter.unusedSimpArgs false
open Go.RowKit Go.Sort
attribute [local go_sem] Steady steadyUpon
attribute [local go_sem ↓] hs_dr lt_add_r lt_add_r2 lt_add_r3 lt_add_r4 lt_add_r5 lt_add_r6
attribute [local go_sem] cell?_gd frozen?_gd setCell_gd size_grow tape_grow cell?_grow' frozen?_grow' setCell_grow' grow_grow grow_dr grow_drew dr_dr dr_drew drew_dr dr_alloc dr_setCell dr_cell dr_frozen dr_tape dr_drawn
attribute [local irreducible] wpSteady

theorem fold_le (p : Pt) : ∀ (fs : List FV) (m : Int), fs.foldl (shownStep p) m ≤ m ∧ ∀ f ∈ fs, shCovers f p = true → fs.foldl (shownStep p) m ≤ f.dep
  | [], m => ⟨Int.le_refl _, fun f hf => by cases hf⟩
  | f :: fs, m => by
    rw [List.foldl_cons]
    obtain ⟨h1, h2⟩ := fold_le p fs (shownStep p m f)
    have hs : shownStep p m f ≤ m ∧ (shCovers f p = true → shownStep p m f ≤ f.dep) := by
      unfold shownStep
      split
      · rename_i h
        simp at h
        exact ⟨by omega, fun _ => Int.le_refl _⟩
      · rename_i h
        simp at h
        refine ⟨Int.le_refl _, fun hc => ?_⟩
        by_cases hd : f.dep < m
        · have := h hd; rw [hc] at this; cases this
        · omega
    refine ⟨by omega, fun g hg hc => ?_⟩
    rcases List.mem_cons.1 hg with rfl | hg
    · have := hs.2 hc; omega
    · exact h2 g hg hc
theorem fold_at (p : Pt) : ∀ (fs : List FV) (m : Int), fs.foldl (shownStep p) m = m ∨ ∃ f ∈ fs, shCovers f p = true ∧ f.dep = fs.foldl (shownStep p) m
  | [], m => .inl rfl
  | f :: fs, m => by
    rw [List.foldl_cons]
    rcases fold_at p fs (shownStep p m f) with h | ⟨g, hg, h⟩
    · unfold shownStep at h
      split at h
      · rename_i hc
        simp at hc
        refine .inr ⟨f, List.mem_cons_self .., hc.2, ?_⟩
        unfold shownStep
        rw [if_pos (by simp [hc])]
        exact h.symm
      · rename_i hc
        refine .inl ?_
        unfold shownStep
        rw [if_neg hc]
        exact h
    · exact .inr ⟨g, List.mem_cons_of_mem _ hg, h⟩
theorem shown_proves {fs gs : List FV} {lim : Int} {ps : List Pt} {p : Pt} (h : Proves fs gs lim ps) (hp : p.ok = true) : min (shownTo gs p gs.length) lim ≤ min (shownTo fs p fs.length) lim ∧ 0 ≤ min (shownTo gs p gs.length) lim ∧ min (shownTo fs p fs.length) lim ≤ lim := by
  have hl := h.lm
  unfold limOk at hl
  rw [decide_eq_true_eq] at hl
  unfold shownTo
  rw [List.take_length, List.take_length]
  have hg0 : 0 ≤ gs.foldl (shownStep p) 100000 := by
    rcases fold_at p gs 100000 with e | ⟨g, hg, _, e⟩
    · rw [e]; omega
    · rw [← e]; exact (valid_rng (list_valid h.lg g hg)).2.1.1
  refine ⟨?_, by omega, by omega⟩
  rcases fold_at p fs 100000 with e | ⟨f, hf, hc, e⟩
  · rw [e]
    have := (fold_le p gs 100000).1
    omega
  · rw [← e]
    by_cases hd : f.dep < lim
    · obtain ⟨q, hq, e1⟩ := h.cov f hf (by unfold countB; simp [hd])
      obtain ⟨f', hf', g, hg, a1, a2, a3⟩ := h.good q hq
      obtain rfl := list_uniq h.lf hf' hf (by rw [a1, e1])
      obtain ⟨c1, c2⟩ := met_cov a3 hp hc
      have := (fold_le p gs 100000).2 g hg c1
      omega
    · omega
theorem light_proves {fs gs : List FV} {lim : Int} {ps : List Pt} (h : Proves fs gs lim ps) {f : FV} (hf : f ∈ fs) (h4 : f.kind = 4) : ∃ g ∈ gs, standL f g = true := by
  obtain ⟨q, hq, e1⟩ := h.cov f hf (by unfold countB; simp [h4])
  obtain ⟨f', hf', g, hg, a1, a2, a3⟩ := h.good q hq
  obtain rfl := list_uniq h.lf hf' hf (by rw [a1, e1])
  rw [met_parts] at a3
  unfold standB at a3
  rw [if_pos h4] at a3
  exact ⟨g, hg, a3.2.2⟩
theorem safe_facts {fs gs : List FV} {lim : Int} {ps : List Pt} {p : Pt} {x : Bool} {e a f b g : Int} (h1 : checkOf fs gs lim ps = (x, e)) (h2 : dshownOf fs lim p = (a, f)) (h3 : dshownOf gs lim p = (b, g)) :
    e ≠ 0 ∨ (e = 0 ∧ x = false) ∨ (e = 0 ∧ x = true ∧ f = 1 ∧ g = 1) ∨ (e = 0 ∧ x = true ∧ f = 0 ∧ g = 0 ∧ b ≤ a ∧ 0 ≤ b ∧ a ≤ lim ∧ fs.length ≤ 300 ∧ gs.length ≤ 300 ∧ ∀ f ∈ fs, f.kind = 4 → ∃ g ∈ gs, standL f g = true) := by
  by_cases he : e = 0
  · cases x
    · exact .inr (.inl ⟨he, rfl⟩)
    · have pr : Proves fs gs lim ps := check_iff.1 (by rw [h1])
      unfold dshownOf at h2 h3
      rw [pr.lf, pr.lm] at h2
      rw [pr.lg, pr.lm] at h3
      by_cases hp : p.ok = true
      · rw [hp, if_pos (by rfl)] at h2 h3
        injection h2 with h2 hf
        injection h3 with h3 hg
        obtain ⟨s1, s2, s3⟩ := shown_proves pr hp
        exact .inr (.inr (.inr ⟨he, rfl, hf.symm, hg.symm, by omega, by omega, by omega, list_len pr.lf, list_len pr.lg, fun f hf h4 => light_proves pr hf h4⟩))
      · rw [if_neg (by simpa using hp)] at h2 h3
        injection h2 with h2 hf
        injection h3 with h3 hg
        exact .inr (.inr (.inl ⟨he, rfl, hf.symm, hg.symm⟩))
  · exact .inl he
def anyL (f : FV) (gs : List FV) (k : Nat) : Bool := (List.range k).any fun j => standL f (fAt gs j)
theorem anyL_succ (f : FV) (gs : List FV) (k : Nat) : anyL f gs (k + 1) = (anyL f gs k || standL f (fAt gs k)) := by
  unfold anyL
  rw [List.range_succ, List.any_append]
  simp
theorem anyL_end {f : FV} {gs : List FV} (h : ∃ g ∈ gs, standL f g = true) : anyL f gs gs.length = true := by
  obtain ⟨g, hg, hs⟩ := h
  obtain ⟨k, hk, rfl⟩ := fAt_of_mem hg
  unfold anyL
  rw [List.any_eq_true]
  exact ⟨k, List.mem_range.2 hk, hs⟩
set_option maxRecDepth 100000 in
set_option maxHeartbeats 16000000 in
theorem deriveSafe_row (fs : List FV) (A : Option Addr) (c : Nat) (gs : List FV) (A' : Option Addr) (c' : Nat) (lim : Int) (ps : List Pt) (Ap : Option Addr) (cp : Nat) (p1 p2 : Int) (w : World) (hr : FRd w w.heap.size A fs) (hc : fs.length ≤ 100000000000000) (hr' : FRd w w.heap.size A' gs) (hc' : gs.length ≤ 100000000000000) (hrp : Rd w w.heap.size 2 Ap (ps.map encD)) (hcp : ps.length ≤ 100000000000000) :
    Calls Tryz.prog 5 #[.slice A fs.length c, .slice A' gs.length c', .int .i64 lim, .slice Ap ps.length cp, pt p1 p2] w (Ret w (.bool true)) := by
  have hm := hmix
  obtain ⟨fw, hfw⟩ : ∃ r, decide (fs.length ≤ 12 ∧ gs.length ≤ 12 ∧ 0 ≤ 12) = r := ⟨_, rfl⟩
  have kf := hide (fun W => few_v A A' none fs.length gs.length c c' 0 0 fw W hfw)
  cases fw
  · clear hr hr' hrp
    go_enter Tryz.func5, Tryz.ntmps5
    go_wp2_with (first | (go_at_call 11; (with_reducible refine (head_v _).mono ?_); rintro e w' ⟨rfl, ⟨_, _⟩, rfl⟩; dsimp only) | (go_at_call 12; (with_reducible refine (kf.out _).mono ?_); rintro e w' ⟨rfl, ⟨_, _⟩, rfl⟩; dsimp only))
    go_ret
    exact Ret.mk' rfl gw
  simp at hfw
  obtain ⟨⟨x, e⟩, h1⟩ : ∃ d, checkOf fs gs lim ps = d := ⟨_, rfl⟩
  obtain ⟨⟨a, f⟩, h2⟩ : ∃ d, dshownOf fs lim (p1, p2) = d := ⟨_, rfl⟩
  obtain ⟨⟨b, g⟩, h3⟩ : ∃ d, dshownOf gs lim (p1, p2) = d := ⟨_, rfl⟩
  have hcase := safe_facts h1 h2 h3
  have k1 := hide (fun W (hg : Grew w W) => Check_v fs gs ps A A' Ap c c' cp lim W (hr.up hg) (hr'.up hg) (hrp.up hg) hc hc' hcp)
  have k2 := hide (fun W (hg : Grew w W) => DShown_v fs A c lim (p1, p2) _ W (hr.up hg) hc h2)
  have k3 := hide (fun W (hg : Grew w W) => DShown_v gs A' c' lim (p1, p2) _ W (hr'.up hg) hc' h3)
  rw [h1] at k1
  dsimp only at k1 k2 k3
  have HR := hide hr
  have HR' := hide hr'
  clear hr hr' hrp h1 h2 h3
  go_enter Tryz.func5, Tryz.ntmps5
  go_wp2_with (first | (go_at_call 11; (with_reducible refine (head_v _).mono ?_); rintro e w' ⟨rfl, ⟨_, _⟩, rfl⟩; dsimp only) | (go_at_call 12; (with_reducible refine (kf.out _).mono ?_); rintro e w' ⟨rfl, ⟨_, _⟩, rfl⟩; dsimp only))
  refine calls_name ?_
  intro W0 hW
  have HG0 : Hid (Grew w W0) := hide (by rw [← hW]; exact gw)
  have HB : Hid (W0.heap[w.heap.size]? = some (.cells #[.int .i64 p1, .int .i64 p2] 26 (0, 0))) := hide (by rw [← hW]; first | exact heap_alloc_new _ _ | exact (gw (a := w.alloc _)).below.block _ (by simp) |>.trans (heap_alloc_new _ _))
  clear hW
  refine (k1.out _ HG0.out).mono ?_
  rintro e1 W1 ⟨rfl, hg⟩
  have HG1 : Hid (Grew w W1) := hide (HG0.out.trans hg)
  have hb1 : W1.heap[w.heap.size]? = _ := (hg.below.block _ (blk_lt HB.out)).trans HB.out
  have b0 : W1.cell? ⟨w.heap.size, 0, none⟩ = _ := blk_cell hb1 0
  have b1 : W1.cell? ⟨w.heap.size, 1, none⟩ = _ := blk_cell hb1 1
  have bl := blk_lt hb1
  have HB1 := hide hb1
  clear hg k1 hb1
  dsimp only
  go_wp2_with fail
  refine (k2.out _ (HG1.out.trans gw)).mono ?_
  rintro e1 W2 ⟨rfl, hg⟩
  have hg12 : Grew W1 W2 := Grew.trans gw hg
  have HG2 : Hid (Grew w W2) := hide (HG1.out.trans hg12)
  have hb2 : W2.heap[w.heap.size]? = _ := (hg12.below.block _ (blk_lt HB1.out)).trans HB1.out
  clear b0 b1 bl
  have b0 : W2.cell? ⟨w.heap.size, 0, none⟩ = _ := blk_cell hb2 0
  have b1 : W2.cell? ⟨w.heap.size, 1, none⟩ = _ := blk_cell hb2 1
  have bl := blk_lt hb2
  clear hg hg12 k2 hb2
  dsimp only
  go_wp2_with fail
  refine (k3.out _ (HG2.out.trans gw)).mono ?_
  rintro e1 W3 ⟨rfl, hg⟩
  have HG3 : Hid (Grew w W3) := hide (HG2.out.trans (Grew.trans gw hg))
  clear hg k3 b0 b1 bl HB HB1 HG1 HG2 HG0
  dsimp only
  rcases hcase with he | ⟨rfl, rfl⟩ | ⟨rfl, rfl, rfl, rfl⟩ | ⟨rfl, rfl, rfl, rfl, hba, hb0, hal, hl1, hl2, hlight⟩
  · have hne : (e != 0) = true := by simpa using he
    go_wp2_with fail
    go_ret
    exact Ret.mk' rfl (HG3.out.trans gw)
  · go_wp2_with fail
    go_ret
    exact Ret.mk' rfl (HG3.out.trans gw)
  · go_wp2_with fail
    go_ret
    exact Ret.mk' rfl (HG3.out.trans gw)
  have HLI := hide hlight
  clear hlight
  have i1 : decide (b ≤ a) = true := decide_eq_true hba
  have i2 : decide (0 ≤ b) = true := decide_eq_true hb0
  have i3 : decide (a ≤ lim) = true := decide_eq_true hal
  go_wp2_with fail
  go_loopw [11, 18] (fun up i wr => ∃ k : Nat, k ≤ fs.length ∧ i = .int .i64 k ∧ up = .bool true ∧ Grew W3 wr) (fun _ i _ => fs.length - (intOf i).toNat)
  case atStart => exact ⟨0, by omega, rfl, by simp [i1, i2, i3], gw⟩
  case round =>
    obtain ⟨k, hk, rfl, rfl, hg⟩ := hrel
    have HGk := hide hg
    clear hg
    by_cases hlt : k < fs.length
    · obtain ⟨bb, off, hA, hb, fc⟩ := rowAt (HR.out.up (HG3.out.trans HGk.out)).row hlt
      have hix := idx_run (cap := c) Tryz.underlying22 Tryz.sizeOf52 hA.out hlt
      have hli := HLI.out _ (fAt_mem hlt)
      obtain ⟨F, hF⟩ : ∃ F, fAt fs k = F := ⟨_, rfl⟩
      have HFF := hide hF
      rw [hF] at fc hli
      have d1 := fc.c1
      clear hA fc
      by_cases h4 : F.kind = 4
      · have hend := anyL_end (hli h4)
        have HEND := hide hend
        have h42 : (F.kind != 4) = false := by simpa using h4
        clear hli hend hF
        go_wp2_with fail
        obtain ⟨Wz, hz⟩ : ∃ z, z = wr := ⟨wr, rfl⟩
        subst hz
        go_loopw [19, 20] (fun hs j wq => ∃ q : Nat, q ≤ gs.length ∧ j = .int .i64 q ∧ hs = .bool (anyL F gs q) ∧ Grew Wz wq) (fun _ j _ => gs.length - (intOf j).toNat)
        case atStart => exact ⟨0, by omega, rfl, rfl, gw⟩
        case round =>
          obtain ⟨q, hq, rfl, rfl, hg⟩ := hrel
          have HGq := hide hg
          clear hg d1 hix
          by_cases hlt2 : q < gs.length
          · obtain ⟨bb, off, hA, hb, fc⟩ := rowAt (HR.out.up (HG3.out.trans (HGk.out.trans HGq.out))).row hlt
            obtain ⟨bb', off', hA', hb', fc'⟩ := rowAt (HR'.out.up (HG3.out.trans (HGk.out.trans HGq.out))).row hlt2
            have hix := idx_run (cap := c) Tryz.underlying22 Tryz.sizeOf52 hA.out hlt
            have hix2 := idx_run (cap := c') Tryz.underlying22 Tryz.sizeOf52 hA'.out hlt2
            have hrf := HR.out.each _ (fAt_mem hlt)
            have hrg := HR'.out.each _ (fAt_mem hlt2)
            have hst := anyL_succ F gs q
            rw [HFF.out] at fc hrf
            generalize fAt gs q = G at *
            obtain ⟨o, ho⟩ : ∃ o, anyL F gs q = o := ⟨_, rfl⟩
            rw [ho] at hst ⊢
            obtain ⟨⟨sf, se⟩, hsf⟩ : ∃ d, saferOf F.secs G.secs = d := ⟨_, rfl⟩
            have ks := hide (fun W (hg : Grew w W) => Safer_v F.secs G.secs F.sA G.sA F.sc G.sc _ W (hrf.secs.up hg) (hrg.secs.up hg) hrf.lc hrg.lc hrf.ls hrg.ls hsf)
            unfold standL at hst
            rw [hsf] at hst
            have HST := hide hst
            obtain ⟨c0, c1, c2, c3, c4, c5, c6, c7, c8⟩ := fc
            obtain ⟨e0, e1, e2, e3, e4, e5, e6, e7, e8⟩ := fc'
            clear hst hA hA' ho hsf hrf hrg
            by_cases g4 : G.kind = 4
            · have g42 : (G.kind == 4) = true := by simpa using g4
              have hxy : (G.x = F.x ∧ G.y = F.y) ∨ G.x ≠ F.x ∨ (G.x = F.x ∧ G.y ≠ F.y) := by omega
              rcases hxy with ⟨hx, hy⟩ | hxy
              · rw [hx] at e2
                rw [hy] at e3
                have hres : anyL F gs (q + 1) = (o || (se == 0 && !sf)) := by rw [HST.out, decide_eq_true g4, decide_eq_true (⟨hx, hy⟩ : G.x = F.x ∧ G.y = F.y)]; simp
                have HRES := hide hres
                clear hres hx hy HST g4
                have hse : se = 0 ∨ (se == 0) = false := by by_cases h : se = 0 <;> simp [h]
                cases o
                · rcases hse with rfl | hse
                  all_goals
                    go_wp2_with fail
                    refine wp_region_qas 19 [] [] hm (by kernel_rfl) (by simp only [List.take, List.filter, isQ]; rfl) (by simp only [List.drop]; rfl) ZOk.nil (by simp) ?_
                    repeat (refine wpSteady_step (fun K hK => ?_); go_simp; first | (refine hK _ ?_; clear hK K) | (apply Exists.intro; refine ⟨fun _ => ?_, hK _ ?_⟩; (fail); clear hK K))
                    refine wpSteady_nil ?_
                    refine ⟨StOk.nil, LyOk.nil, ?_⟩
                    rintro psq qsq Wq HWq HFq HBq
                    obtain rfl : qsq = [] := HBq
                    obtain rfl : psq = [] := HFq
                    obtain ⟨⟨nq, osq⟩, rfl⟩ := HWq
                    simp only [putAll, putB, Act.put, List.setIfInBounds_toArray, List.set_cons_succ, List.set_cons_zero]
                    try dsimp only
                    go_wp2_with fail
                    refine wp_region_qas 16 [] [] hm (by kernel_rfl) (by simp only [List.take, List.filter, isQ]; rfl) (by simp only [List.drop]; rfl) ZOk.nil (by simp) ?_
                    repeat (refine wpSteady_step (fun K hK => ?_); go_simp; first | (refine hK _ ?_; clear hK K) | (apply Exists.intro; refine ⟨fun _ => ?_, hK _ ?_⟩; (go_at_call 32; with_reducible exact ks.out _ (HG3.out.trans (HGk.out.trans (HGq.out.trans gw)))); clear hK K))
                    refine wpSteady_nil ?_
                    refine ⟨StOk.nil, LyOk.nil, ?_⟩
                    rintro psq qsq Wqz HWqz HFq HBq
                    obtain rfl : qsq = [] := HBq
                    obtain rfl : psq = [] := HFq
                    obtain ⟨⟨nqz, osqz⟩, rfl⟩ := HWqz
                    simp only [putAll, putB, Act.put, List.setIfInBounds_toArray, List.set_cons_succ, List.set_cons_zero]
                    try dsimp only
                    go_wp2_with fail
                    go_roundw
                    case rel => exact ⟨q + 1, by omega, by go_num, by rw [HRES.out]; (try rw [hse]); simp, HGq.out.trans gw⟩
                    case measure => simp [intOf]; omega
                · go_wp2_with fail
                  refine wp_region_qas 19 [] [] hm (by kernel_rfl) (by simp only [List.take, List.filter, isQ]; rfl) (by simp only [List.drop]; rfl) ZOk.nil (by simp) ?_
                  repeat (refine wpSteady_step (fun K hK => ?_); go_simp; first | (refine hK _ ?_; clear hK K) | (apply Exists.intro; refine ⟨fun _ => ?_, hK _ ?_⟩; (fail); clear hK K))
                  refine wpSteady_nil ?_
                  refine ⟨StOk.nil, LyOk.nil, ?_⟩
                  rintro psq qsq Wq HWq HFq HBq
                  obtain rfl : qsq = [] := HBq
                  obtain rfl : psq = [] := HFq
                  obtain ⟨⟨nq, osq⟩, rfl⟩ := HWq
                  simp only [putAll, putB, Act.put, List.setIfInBounds_toArray, List.set_cons_succ, List.set_cons_zero]
                  try dsimp only
                  go_wp2_with fail
                  refine wp_region_qas 16 [] [] hm (by kernel_rfl) (by simp only [List.take, List.filter, isQ]; rfl) (by simp only [List.drop]; rfl) ZOk.nil (by simp) ?_
                  repeat (refine wpSteady_step (fun K hK => ?_); go_simp; first | (refine hK _ ?_; clear hK K) | (apply Exists.intro; refine ⟨fun _ => ?_, hK _ ?_⟩; (go_at_call 32; with_reducible exact ks.out _ (HG3.out.trans (HGk.out.trans (HGq.out.trans gw)))); clear hK K))
                  refine wpSteady_nil ?_
                  refine ⟨StOk.nil, LyOk.nil, ?_⟩
                  rintro psq qsq Wqz HWqz HFq HBq
                  obtain rfl : qsq = [] := HBq
                  obtain rfl : psq = [] := HFq
                  obtain ⟨⟨nqz, osqz⟩, rfl⟩ := HWqz
                  simp only [putAll, putB, Act.put, List.setIfInBounds_toArray, List.set_cons_succ, List.set_cons_zero]
                  try dsimp only
                  go_wp2_with fail
                  go_roundw
                  case rel => exact ⟨q + 1, by omega, by go_num, by rw [HRES.out]; rfl, HGq.out.trans gw⟩
                  case measure => simp [intOf]; omega
              · have hres : anyL F gs (q + 1) = o := by
                  rw [HST.out, decide_eq_false (show ¬ (G.x = F.x ∧ G.y = F.y) by omega)]
                  simp
                have HRES := hide hres
                clear hres HST g4
                rcases hxy with hx | ⟨hx, hy⟩
                · have hx2 : (G.x == F.x) = false := by simpa using hx
                  go_wp2_with fail
                  refine wp_region_qas 19 [] [] hm (by kernel_rfl) (by simp only [List.take, List.filter, isQ]; rfl) (by simp only [List.drop]; rfl) ZOk.nil (by simp) ?_
                  repeat (refine wpSteady_step (fun K hK => ?_); go_simp; first | (refine hK _ ?_; clear hK K) | (apply Exists.intro; refine ⟨fun _ => ?_, hK _ ?_⟩; (fail); clear hK K))
                  refine wpSteady_nil ?_
                  refine ⟨StOk.nil, LyOk.nil, ?_⟩
                  rintro psq qsq Wq HWq HFq HBq
                  obtain rfl : qsq = [] := HBq
                  obtain rfl : psq = [] := HFq
                  obtain ⟨⟨nq, osq⟩, rfl⟩ := HWq
                  simp only [putAll, putB, Act.put, List.setIfInBounds_toArray, List.set_cons_succ, List.set_cons_zero]
                  try dsimp only
                  go_wp2_with fail
                  go_roundw
                  case rel => exact ⟨q + 1, by omega, by go_num, by rw [HRES.out], HGq.out.trans gw⟩
                  case measure => simp [intOf]; omega
                · rw [hx] at e2
                  have hy2 : (G.y == F.y) = false := by simpa using hy
                  clear hx
                  go_wp2_with fail
                  refine wp_region_qas 19 [] [] hm (by kernel_rfl) (by simp only [List.take, List.filter, isQ]; rfl) (by simp only [List.drop]; rfl) ZOk.nil (by simp) ?_
                  repeat (refine wpSteady_step (fun K hK => ?_); go_simp; first | (refine hK _ ?_; clear hK K) | (apply Exists.intro; refine ⟨fun _ => ?_, hK _ ?_⟩; (fail); clear hK K))
                  refine wpSteady_nil ?_
                  refine ⟨StOk.nil, LyOk.nil, ?_⟩
                  rintro psq qsq Wq HWq HFq HBq
                  obtain rfl : qsq = [] := HBq
                  obtain rfl : psq = [] := HFq
                  obtain ⟨⟨nq, osq⟩, rfl⟩ := HWq
                  simp only [putAll, putB, Act.put, List.setIfInBounds_toArray, List.set_cons_succ, List.set_cons_zero]
                  try dsimp only
                  go_wp2_with fail
                  go_roundw
                  case rel => exact ⟨q + 1, by omega, by go_num, by rw [HRES.out], HGq.out.trans gw⟩
                  case measure => simp [intOf]; omega
            · have g42 : (G.kind == 4) = false := by simpa using g4
              have hres : anyL F gs (q + 1) = o := by
                rw [HST.out, decide_eq_false g4]
                simp
              have HRES := hide hres
              clear hres HST
              go_wp2_with fail
              refine wp_region_qas 19 [] [] hm (by kernel_rfl) (by simp only [List.take, List.filter, isQ]; rfl) (by simp only [List.drop]; rfl) ZOk.nil (by simp) ?_
              repeat (refine wpSteady_step (fun K hK => ?_); go_simp; first | (refine hK _ ?_; clear hK K) | (apply Exists.intro; refine ⟨fun _ => ?_, hK _ ?_⟩; (fail); clear hK K))
              refine wpSteady_nil ?_
              refine ⟨StOk.nil, LyOk.nil, ?_⟩
              rintro psq qsq Wq HWq HFq HBq
              obtain rfl : qsq = [] := HBq
              obtain rfl : psq = [] := HFq
              obtain ⟨⟨nq, osq⟩, rfl⟩ := HWq
              simp only [putAll, putB, Act.put, List.setIfInBounds_toArray, List.set_cons_succ, List.set_cons_zero]
              try dsimp only
              go_wp2_with fail
              go_roundw
              case rel => exact ⟨q + 1, by omega, by go_num, by rw [HRES.out], HGq.out.trans gw⟩
              case measure => simp [intOf]; omega
          · obtain rfl : q = gs.length := by omega
            rw [HEND.out]
            go_wp2_with fail
            go_roundw
            case rel => exact ⟨k + 1, by omega, by go_num, rfl, HGk.out.trans (HGq.out.trans gw)⟩
            case measure => simp [intOf]; omega
      · have h42 : (F.kind != 4) = true := by simpa using h4
        clear hli hF
        go_wp2_with fail
        go_roundw
        case rel => exact ⟨k + 1, by omega, by go_num, rfl, HGk.out.trans gw⟩
        case measure => simp [intOf]; omega
    · obtain rfl : k = fs.length := by omega
      go_wp2_with fail
      go_ret
      exact Ret.mk' rfl (HG3.out.trans (HGk.out.trans gw))
end Go.Proofs.YtdoiaagajkabcaaGreat
