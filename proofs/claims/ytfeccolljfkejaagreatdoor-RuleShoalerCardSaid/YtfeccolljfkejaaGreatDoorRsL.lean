/- The law RuleShoaler: plain, and walked. -/
import Derived.Test.YtfeccolljfkejaaGreatDoorRpI
import Derived.Test.YtfeccolljfkejaaGreatDoorRuS
import Derived.Test.YtfeccolljfkejaaGreatDoorGeT
set_option linter.unusedSimpArgs false
set_option linter.unusedVariables false
set_option maxHeartbeats 8000000
set_option maxRecDepth 100000
namespace Go.Proofs.YtfeccolljfkejaaGreatDoor
open Go.RowKit Go.Sort
attribute [local go_sem] Steady steadyUpon
attribute [local go_sem ↓] hs_dr lt_add_r lt_add_r2 lt_add_r3 lt_add_r4 lt_add_r5 lt_add_r6
attribute [local go_sem] cell?_gd frozen?_gd setCell_gd size_grow tape_grow cell?_grow' frozen?_grow' setCell_grow' grow_grow grow_dr grow_drew dr_dr dr_drew drew_dr dr_alloc dr_setCell dr_cell dr_frozen dr_tape dr_drawn
attribute [local irreducible] wpSteady
theorem fold_le (p : Pt) : ∀ (fs : List FV) (m : Int), fs.foldl (shownStep p) m ≤ m ∧ ∀ f ∈ fs, shCovers f p = true → fs.foldl (shownStep p) m ≤ f.dep
 | [], m => ⟨Int.le_refl _, fun f hf => by cases hf⟩
 | f :: fs, m => by
  rw [List.foldl_cons]
  obtain ⟨h1, h2⟩ := fold_le p fs (shownStep p m f)
  have hs : shownStep p m f ≤ m ∧ (shCovers f p = true → shownStep p m f ≤ f.dep) := by
   unfold shownStep
   split
   ·rename_i h
    simp at h
    exact ⟨by omega, fun _ => Int.le_refl _⟩
   ·rename_i h
    simp at h
    refine ⟨Int.le_refl _, fun hc => ?_⟩
    by_cases hd : f.dep < m
    ·have := h hd; rw [hc] at this; cases this
    ·omega
  refine ⟨by omega, fun g hg hc => ?_⟩
  rcases List.mem_cons.1 hg with rfl | hg
  ·have := hs.2 hc; omega
  ·exact h2 g hg hc
theorem fold_at (p : Pt) : ∀ (fs : List FV) (m : Int), fs.foldl (shownStep p) m = m ∨ ∃ f ∈ fs, shCovers f p = true ∧ f.dep = fs.foldl (shownStep p) m
 | [], m => .inl rfl
 | f :: fs, m => by
  rw [List.foldl_cons]
  rcases fold_at p fs (shownStep p m f) with h | ⟨g, hg, h⟩
  ·unfold shownStep at h
   split at h
   ·rename_i hc
    simp at hc
    refine .inr ⟨f, List.mem_cons_self .., hc.2, ?_⟩
    unfold shownStep
    rw [if_pos (by simp [hc])]
    exact h.symm
   ·rename_i hc
    refine .inl ?_
    unfold shownStep
    rw [if_neg hc]
    exact h
  ·exact .inr ⟨g, List.mem_cons_of_mem _ hg, h⟩
theorem shown_of {fs gs : List FV} (p : Pt) (h : fs.map FV.bare = gs.map FV.bare) : shownOf fs p = shownOf gs p := by
 have one : ∀ l : List FV, shownTo l p l.length = (l.map FV.bare).foldl (shownStep p) 100000 := fun l => by
  unfold shownTo
  rw [List.take_length, List.foldl_map]
  rfl
 unfold shownOf
 rw [FList_of h, one fs, one gs, h]
theorem shoal {rs : List Ru} {fs : List FV} {p : Pt} (h0 : (runOf rs fs).2 = 0) (h1 : (shownOf fs p).2 = 0) : (shownOf (runOf rs fs).1 p).2 = 0 ∧ (shownOf (runOf rs fs).1 p).1 ≤ (shownOf fs p).1 := by
 have hv : (FList fs && p.ok) = true := by
  unfold shownOf at h1
  cases hc : (FList fs && p.ok) with
  | true => rfl
  | false => rw [hc] at h1; simp at h1
 have hv2 := hv
 rw [Bool.and_eq_true] at hv
 have hL : FList (runOf rs fs).1 = true := by
  rcases run_facts rs fs with ⟨_, _, _, h, _⟩ | ⟨h, _⟩ | ⟨h, _⟩
  ·exact h
  ·omega
  ·omega
 have hst := fun f (hf : f ∈ fs) => run_stands h0 hf
 generalize (runOf rs fs).1 = gs at *
 unfold shownOf
 rw [if_pos hv2, if_pos (by rw [hL, hv.2]; rfl)]
 refine ⟨rfl, ?_⟩
 show shownTo gs p gs.length ≤ shownTo fs p fs.length
 unfold shownTo
 rw [List.take_length, List.take_length]
 rcases fold_at p fs 100000 with e | ⟨f, hf, hc, e⟩
 ·rw [e]; exact (fold_le p gs 100000).1
 ·rw [← e]
  obtain ⟨g, hg, hm, _⟩ := hst f hf
  obtain ⟨c1, c2⟩ := met_cov hm hv.2 hc
  exact Int.le_trans ((fold_le p gs 100000).2 g hg c1) c2
theorem ruleShoaler_row (rs : List Ru) (Ar : Option Addr) (cr : Nat) (fs : List FV) (A : Option Addr) (c : Nat) (a b : Int) (w : World) (hrr : Rd w w.heap.size 3 Ar (rs.map encR)) (hcr : rs.length ≤ 100000000000000) (hr : FRd w w.heap.size A fs) (hc : fs.length ≤ 100000000000000) (hl : KwAt w w.heap.size ∧ TabP w) :
  Calls Tryz.prog 10 #[.slice Ar rs.length cr, .slice A fs.length c, pt a b] w (Ret w (.bool true)) := by
 have hm := hmix
 have HH := hide (head_g hl.1 (Nat.le_refl _) hl.2)
 obtain ⟨fw, hfw⟩ : ∃ r, decide (rs.length ≤ 10 ∧ fs.length ≤ 16) = r := ⟨_, rfl⟩
 have kf := hide (fun W => few_v Ar A rs.length fs.length cr c fw W hfw)
 cases fw
 ·clear hrr hr
  go_enter Tryz.func10, Tryz.ntmps10
  go_wp2_with (first | (go_at_call 12; with_reducible refine crv (HH.out _ gw) fun _ _ => ?_; dsimp only) | (go_at_call 16; with_reducible refine crv (kf.out _) fun _ _ => ?_; dsimp only))
  go_ret
  exact Ret.mk' rfl gw
 ·simp at hfw
  have HR := hide hr
  have kr := hide (fun W (hg : Grew w W) => Run_v rs fs Ar A cr c W (hrr.up hg) (hr.up hg) hcr hc)
  obtain ⟨⟨va, ea⟩, hsa⟩ : ∃ x, shownOf fs (a, b) = x := ⟨_, rfl⟩
  have ks := hide (fun W (hg : Grew w W) => Shown_v fs A c (a, b) (va, ea) W (hr.up hg) hc hsa)
  have hpl := fun h0 h1 => shoal (rs := rs) (fs := fs) (p := (a, b)) h0 h1
  rw [hsa] at hpl
  have HP := hide hpl
  clear hpl hsa hrr hr
  go_enter Tryz.func10, Tryz.ntmps10
  go_upto_region 1 with fail
  refine wp_name ?_
  intro W0 hW
  have HB0 : Hid (W0.heap[w.heap.size]? = some (.cells #[.int .i64 a, .int .i64 b] 43 (0, 0))) := hide (by rw [← hW]; exact heap_alloc_new _ _)
  have HG0 : Hid (Grew w W0) := hide (by rw [← hW]; exact gw)
  clear hW
  go_wp2_with (first | (go_at_call 12; with_reducible refine crv (HH.out _ (HG0.out.trans gw)) fun _ _ => ?_; dsimp only) | (go_at_call 16; with_reducible refine crv (kf.out _) fun _ _ => ?_; dsimp only))
  refine (kr.out _ (HG0.out.trans gw)).mono ?_
  rintro e W1 ⟨A', c', fs', rfl, hb, hrd, hg⟩
  have hg1 : Grew W0 W1 := Grew.trans gw hg
  have HG1 := hide hg1
  have hbk : W1.heap[w.heap.size]? = _ := (hg1.heap (blk_lt HB0.out)).trans HB0.out
  have b0 : W1.cell? ⟨w.heap.size, 0, none⟩ = some _ := blk_cell hbk 0
  have b1 : W1.cell? ⟨w.heap.size, 1, none⟩ = some _ := blk_cell hbk 1
  have bl := blk_lt hbk
  obtain ⟨⟨vb, eb⟩, hsb⟩ : ∃ x, shownOf fs' (a, b) = x := ⟨_, rfl⟩
  have hlen : fs'.length ≤ 300 := by rw [len_of hb]; exact run_le
  have ks2 := hide (fun W (hg : Grew W1 W) => Shown_v fs' A' c' (a, b) (vb, eb) W (hrd.up hg) (by omega) hsb)
  have hpl := HP.out
  rw [← shown_of (a, b) hb, hsb] at hpl
  obtain ⟨cd, hcd⟩ : ∃ x, (runOf rs fs).2 = x := ⟨_, rfl⟩
  rw [hcd] at hpl ⊢
  clear hb hrd hg hg1 hbk hcd hsb kr HH kf HP hlen
  by_cases h0 : cd = 0
  ·by_cases h1 : ea = 0
   ·obtain ⟨h2, h3⟩ := hpl h0 h1
    dsimp only at h2 h3
    subst h0 h1 h2
    have h4 : decide (vb ≤ va) = true := decide_eq_true h3
    clear hpl
    dsimp only
    go_wp2_with (first | (go_at_call 30; with_reducible refine crv (ks.out _ (HG0.out.trans (HG1.out.trans gw))) fun _ _ => ?_; dsimp only) | (go_at_call 30; with_reducible refine crv (ks2.out _ gw) fun _ _ => ?_; dsimp only))
    go_ret
    exact Ret.mk' rfl (HG0.out.trans (HG1.out.trans gw))
   ·have h1b : (ea != 0) = true := by simpa using h1
    have h1c : (ea == 0) = false := by simpa using h1
    subst h0
    clear hpl
    dsimp only
    go_wp2_with (first | (go_at_call 30; with_reducible refine crv (ks.out _ (HG0.out.trans (HG1.out.trans gw))) fun _ _ => ?_; dsimp only) | (go_at_call 30; with_reducible refine crv (ks2.out _ gw) fun _ _ => ?_; dsimp only))
    go_ret
    exact Ret.mk' rfl (HG0.out.trans (HG1.out.trans gw))
  ·have h0b : (cd != 0) = true := by simpa using h0
   have h0c : (cd == 0) = false := by simpa using h0
   clear hpl
   dsimp only
   go_wp2_with (first | (go_at_call 30; with_reducible refine crv (ks.out _ (HG0.out.trans (HG1.out.trans gw))) fun _ _ => ?_; dsimp only) | (go_at_call 30; with_reducible refine crv (ks2.out _ gw) fun _ _ => ?_; dsimp only))
   go_ret
   exact Ret.mk' rfl (HG0.out.trans (HG1.out.trans gw))
end Go.Proofs.YtfeccolljfkejaaGreatDoor
