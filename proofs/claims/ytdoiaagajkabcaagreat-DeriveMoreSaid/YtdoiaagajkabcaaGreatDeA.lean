/- Package derive: limits, what counts, proofs in order, what stands for a feature. -/
import Derived.Test.YtdoiaagajkabcaaGreatFeD
set_option linter.unusedSimpArgs false
set_option linter.unusedVariables false
set_option maxHeartbeats 4000000
set_option maxRecDepth 100000
namespace Go.Proofs.YtdoiaagajkabcaaGreat
open Go.RowKit Go.Sort
attribute [local go_sem] Steady steadyUpon
attribute [local go_sem ↓] hs_dr lt_add_r lt_add_r2 lt_add_r3 lt_add_r4 lt_add_r5 lt_add_r6
attribute [local go_sem] cell?_gd frozen?_gd setCell_gd size_grow tape_grow cell?_grow' frozen?_grow' setCell_grow' grow_grow grow_dr grow_drew dr_dr dr_drew drew_dr dr_alloc dr_setCell dr_cell dr_frozen dr_tape dr_drawn
attribute [local irreducible] wpSteady
def limOk (n : Int) : Bool := decide (1 ≤ n ∧ n ≤ 100000)
theorem limited_v (n : Int) (r : Bool) (w : World) (h : limOk n = r) : Calls Tryz.prog 51 #[.int .i64 n] w (Ret w (.bool r)) := by
 subst h
 go_enter Tryz.func51, Tryz.ntmps51
 go_wp2
 all_goals go_ret
 all_goals refine Ret.mk' (ret_bool ?_) gw
 all_goals (rw [Bool.eq_iff_iff]; simp [limOk]; try omega)
def askedOf (fs gs : List FV) (n : Int) : Bool := FList fs && (FList gs && limOk n)
theorem asked_v (fs gs : List FV) (A A' : Option Addr) (c c' : Nat) (n : Int) (r : Bool) (w : World) (hr : FRd w w.heap.size A fs) (hr' : FRd w w.heap.size A' gs) (hc : fs.length ≤ 100000000000000) (hc' : gs.length ≤ 100000000000000) (h : askedOf fs gs n = r) :
  Calls Tryz.prog 41 #[.slice A fs.length c, .slice A' gs.length c', .int .i64 n] w (Ret w (.bool r)) := by
 have hm := hmix
 obtain ⟨u, hu⟩ : ∃ u, FList fs = u := ⟨_, rfl⟩
 obtain ⟨v, hv⟩ : ∃ u, FList gs = u := ⟨_, rfl⟩
 obtain ⟨l, hl⟩ : ∃ u, limOk n = u := ⟨_, rfl⟩
 have k1 := hide (fun W (hg : Grew w W) => FList_v fs A c u W (hr.up hg) hc hu)
 have k2 := hide (fun W (hg : Grew w W) => FList_v gs A' c' v W (hr'.up hg) hc' hv)
 have k3 := hide (fun W => limited_v n l W hl)
 unfold askedOf at h
 rw [hu, hv, hl] at h
 clear hu hv hl hr hr'
 have hcase : (u = false ∧ r = false) ∨ (u = true ∧ v = false ∧ r = false) ∨ (u = true ∧ v = true ∧ l = r) := by
  rw [← h]
  cases u <;> cases v <;> simp
 clear h
 rcases hcase with ⟨rfl, rfl⟩ | ⟨rfl, rfl, rfl⟩ | ⟨rfl, rfl, rfl⟩
 all_goals
  go_enter Tryz.func41, Tryz.ntmps41
  go_wp2_with (first | ((go_at_call 28; first | with_reducible refine (k1.out _ gw).mono ?_ | with_reducible refine (k2.out _ gw).mono ?_); rintro e w' ⟨rfl, ⟨_, _⟩, rfl⟩; dsimp only) | (go_at_call 51; with_reducible refine crv (k3.out _) fun _ _ => ?_; dsimp only))
  go_ret
  exact Ret.mk' rfl gw
def countB (f : FV) (n : Int) : Bool := decide (f.kind = 4) || decide (f.dep < n)
theorem counts_v (A : Option Addr) (m c : Nat) (n : Int) (f : FV) (r : Bool) (w : World) (h : countB f n = r) :
  Calls Tryz.prog 66 #[.agg #[.slice A m c, .int .i64 n], f.val] w (Ret w (.bool r)) := by
 unfold countB at h
 obtain ⟨id, kind, x, y, rad, aA, ac, area, dep, sym, sA, sc, secs⟩ := f
 unfold FV.val
 dsimp only at *
 generalize area.length = na at *
 generalize secs.length = ns at *
 by_cases h4 : kind = 4
 ·subst h4
  obtain rfl : r = true := by rw [← h]; rfl
  clear h
  go_enter Tryz.func66, Tryz.ntmps66
  go_wp2_with fail
  go_ret
  exact Ret.mk' rfl gw
 ·rw [decide_eq_false h4, Bool.false_or] at h
  subst h
  have h5 : (kind == 4) = false := by simpa using h4
  go_enter Tryz.func66, Tryz.ntmps66
  go_wp2_with fail
  go_ret
  first | exact Ret.mk' rfl gw | exact Ret.mk' (by simp [h4]) gw
/-- Proofs in order: each is a pair, From and By. -/
def lastFrom (ps : List Pt) (k : Nat) : Int := if k = 0 then 0 else (cor ps (k - 1)).1
def proofOk (ps : List Pt) (k : Nat) : Bool := decide (lastFrom ps k < (cor ps k).1 ∧ (cor ps k).1 ≤ 100000 ∧ 1 ≤ (cor ps k).2 ∧ (cor ps k).2 ≤ 100000)
def proofsTo (ps : List Pt) (k : Nat) : Bool := (List.range k).all (proofOk ps)
def orderedOf (ps : List Pt) : Bool := proofsTo ps ps.length
theorem proofsTo_succ {ps : List Pt} {k : Nat} (h : proofsTo ps k = true) : proofsTo ps (k + 1) = proofOk ps k := by
 unfold proofsTo at h ⊢
 rw [List.range_succ, List.all_append, h]
 simp
theorem proofsTo_no {ps : List Pt} {k n : Nat} (hk : k < n) (h : proofOk ps k = false) : proofsTo ps n = false := by
 unfold proofsTo
 rw [List.all_eq_false]
 exact ⟨k, List.mem_range.2 hk, by rw [h]; simp⟩
theorem ordered_v (ps : List Pt) (A : Option Addr) (c : Nat) (r : Bool) (w : World) (hr : Rd w w.heap.size 2 A (ps.map encD)) (hc : ps.length ≤ 100000000000000) (h : orderedOf ps = r) :
  Calls Tryz.prog 42 #[.slice A ps.length c] w (Ret w (.bool r)) := by
 have hm := hmix
 have HH := hide h
 have HR := hide hr
 clear h hr
 go_enter Tryz.func42, Tryz.ntmps42
 go_wp2_with fail
 go_loopw [3, 8] (fun l i wr => ∃ k : Nat, k ≤ ps.length ∧ i = .int .i64 k ∧ l = .int .i64 (lastFrom ps k) ∧ Grew w wr ∧ AppG (proofsTo ps k = true)) (fun _ i _ => ps.length - (intOf i).toNat)
 case atStart => exact ⟨0, by omega, rfl, rfl, gw, rfl⟩
 case round =>
  obtain ⟨k, hk, rfl, rfl, hg, hall⟩ := hrel
  have HG := hide hg
  have HA := hide hall.stop
  clear hg hall
  by_cases hlt : k < ps.length
  ·obtain ⟨b, off, hA, hb, c0, c1⟩ := ptAt (HR.out.up HG.out) (cor_get hlt)
   have hix := idx_run (cap := c) Tryz.underlying24 Tryz.sizeOf64 hA.out hlt
   have hst := proofsTo_succ HA.out
   unfold proofOk at hst
   have hlid : lastFrom ps (k + 1) = (cor ps k).1 := by unfold lastFrom; rw [if_neg (by omega), Nat.add_sub_cancel]
   obtain ⟨l, hl⟩ : ∃ l, lastFrom ps k = l := ⟨_, rfl⟩
   have hno : ¬ (l < (cor ps k).1 ∧ (cor ps k).1 ≤ 100000 ∧ 1 ≤ (cor ps k).2 ∧ (cor ps k).2 ≤ 100000) → r = false := fun e => by
    rw [← HH.out]
    exact proofsTo_no hlt (by unfold proofOk; rw [hl]; exact decide_eq_false e)
   rw [hl] at hst ⊢
   clear hl hA
   generalize cor ps k = p at *
   obtain ⟨p1, p2⟩ := p
   dsimp only at *
   have HST := hide hst
   have HLID := hide hlid
   clear hst hlid
   have hcase : (l < p1 ∧ p1 ≤ 100000 ∧ 1 ≤ p2 ∧ p2 ≤ 100000) ∨ p1 ≤ l ∨ (¬ p1 ≤ l ∧ 100000 < p1) ∨ (¬ p1 ≤ l ∧ ¬ 100000 < p1 ∧ p2 < 1) ∨ (¬ p1 ≤ l ∧ ¬ 100000 < p1 ∧ ¬ p2 < 1 ∧ 100000 < p2) := by omega
   rcases hcase with ⟨h1, h2, h3, h4⟩ | h1 | ⟨h1, h2⟩ | ⟨h1, h2, h3⟩ | ⟨h1, h2, h3, h4⟩
   ·have n1 : ¬ p1 ≤ l := by omega
    have n2 : ¬ 100000 < p1 := by omega
    have n3 : ¬ p2 < 1 := by omega
    have n4 : ¬ 100000 < p2 := by omega
    clear hno
    go_wp2_with fail
    go_roundw
    case rel => exact ⟨k + 1, by omega, by go_num, by rw [HLID.out], HG.out.trans gw, show proofsTo ps (k + 1) = true from (by rw [HST.out, decide_eq_true (show l < p1 ∧ p1 ≤ 100000 ∧ 1 ≤ p2 ∧ p2 ≤ 100000 from ⟨h1, h2, h3, h4⟩)])⟩
    case measure => simp [intOf]; omega
   all_goals
    have HNO := hide (hno (by omega))
    clear hno
    go_wp2_with fail
    go_ret
    exact Ret.mk' (by rw [HNO.out]; rfl) (HG.out.trans gw)
  ·obtain rfl : k = ps.length := by omega
   obtain rfl : r = true := by rw [← HH.out]; exact HA.out
   go_wp2_with fail
   go_ret
   exact Ret.mk' rfl HG.out
/-- What a need is met by. -/
def metB (f g : FV) : Bool := (standsOf f g).2 == 0 && (standsOf f g).1
theorem met_v (f g : FV) (r : Bool) (w : World) (hf : f.rd w w.heap.size) (hg : g.rd w w.heap.size) (h : metB f g = r) :
  Calls Tryz.prog 44 #[f.val, g.val] w (Ret w (.bool r)) := by
 have hm := hmix
 unfold metB at h
 obtain ⟨⟨n, e⟩, hn⟩ : ∃ u, standsOf f g = u := ⟨_, rfl⟩
 have k1 := hide (fun W (hgr : Grew w W) => Stands_v f g (n, e) W (hf.up hgr) (hg.up hgr) hn)
 rw [hn] at h
 dsimp only at h k1
 clear hn hf hg
 have hcase : e = 0 ∨ (e == 0) = false := by by_cases h : e = 0 <;> simp [h]
 rcases hcase with rfl | h1
 ·obtain rfl : n = r := by rw [← h]; simp
  clear h
  go_enter Tryz.func44, Tryz.ntmps44
  go_wp2_with (go_at_call 70; with_reducible refine crv (k1.out _ gw) fun _ _ => ?_; dsimp only)
  go_ret
  exact Ret.mk' rfl gw
 ·rw [h1] at h
  subst h
  go_enter Tryz.func44, Tryz.ntmps44
  go_wp2_with (go_at_call 70; with_reducible refine crv (k1.out _ gw) fun _ _ => ?_; dsimp only)
  go_ret
  exact Ret.mk' (by rfl) gw
/-- The ID of the first feature of a chart that stands for f. -/
def byOf (f : FV) (gs : List FV) : Int := match gs.find? (metB f) with | some g => g.id | none => 0
def FIdx (f : FV) (gs : List FV) (e : Ending) : Prop := (e = .returned (.int .i64 (-1)) ∧ ∀ g, g ∈ gs → metB f g = false) ∨ (∃ k : Nat, k < gs.length ∧ e = .returned (.int .i64 k) ∧ metB f (fAt gs k) = true ∧ ∀ j, j < k → metB f (fAt gs j) = false)
theorem idxMet_v (f : FV) (gs : List FV) (A : Option Addr) (c : Nat) (w : World) (hf : f.rd w w.heap.size) (hr : FRd w w.heap.size A gs) (hc : gs.length ≤ 100000000000000) :
  Calls Tryz.prog 73 #[.slice A gs.length c, .func (.func 44) #[f.val] #[]] w fun e w' => FIdx f gs e ∧ Grew w w' := by
 have hm := hmix
 have HR := hide hr
 have HF := hide hf
 clear hr hf
 go_enter Tryz.func73, Tryz.ntmps73
 go_wp2_with fail
 go_loopw [8] (fun i wr => ∃ k : Nat, k ≤ gs.length ∧ i = .int .i64 k ∧ Grew w wr ∧ AppG (∀ j, j < k → metB f (fAt gs j) = false)) (fun i _ => gs.length - (intOf i).toNat)
 case atStart => exact ⟨0, by omega, rfl, gw, fun j hj => by omega⟩
 case round =>
  obtain ⟨k, hk, rfl, hg, hall⟩ := hrel
  have HG := hide hg
  have HA := hide hall.stop
  clear hg hall
  by_cases hlt : k < gs.length
  ·obtain ⟨b, off, hA, hb, fc⟩ := featAt (HR.out.up HG.out) hlt
   have hgr := HR.out.each _ (fAt_mem hlt)
   have hix := idx_run (cap := c) Tryz.underlying22 Tryz.sizeOf52 hA.out hlt
   obtain ⟨o, ho⟩ : ∃ o, metB f (fAt gs k) = o := ⟨_, rfl⟩
   have k1 := hide (fun W (hg : Grew w W) => met_v f (fAt gs k) o W (HF.out.up hg) (hgr.up hg) ho)
   have HO := hide ho
   obtain ⟨c0, c1, c2, c3, c4, c5, c6, c7, c8⟩ := fc
   have HID : Hid (∃ g, fAt gs k = g) := hide ⟨_, rfl⟩
   clear ho hA hgr
   cases o
   ·go_wp2_with (go_at_call 44; with_reducible refine crv (k1.out _ (HG.out.trans gw)) fun _ _ => ?_; dsimp only)
    go_roundw
    case rel => exact ⟨k + 1, by omega, by go_num, HG.out.trans gw, show ∀ j, j < k + 1 → metB f (fAt gs j) = false from (fun j hj => by
     by_cases e : j = k
     ·rw [e]; exact HO.out
     ·exact HA.out j (by omega))⟩
    case measure => simp [intOf]; omega
   ·go_wp2_with (go_at_call 44; with_reducible refine crv (k1.out _ (HG.out.trans gw)) fun _ _ => ?_; dsimp only)
    go_ret
    exact ⟨.inr ⟨k, by omega, rfl, HO.out, HA.out⟩, HG.out.trans gw⟩
  ·obtain rfl : k = gs.length := by omega
   go_wp2_with fail
   go_ret
   refine ⟨.inl ⟨rfl, fun g hg => ?_⟩, HG.out⟩
   obtain ⟨j, hj, e⟩ := List.getElem_of_mem hg
   have := HA.out j hj
   have a := fAt_get hj
   rw [List.getElem?_eq_getElem hj, e] at a
   injection a with a
   rw [a]
   exact this
theorem byOf_none {f : FV} {gs : List FV} (h : ∀ g, g ∈ gs → metB f g = false) : byOf f gs = 0 := by
 unfold byOf
 rw [List.find?_eq_none.2 (fun g hg => by rw [h g hg]; simp)]
theorem find_at {f : FV} : ∀ {gs : List FV} {k : Nat}, k < gs.length → metB f (fAt gs k) = true → (∀ j, j < k → metB f (fAt gs j) = false) → gs.find? (metB f) = some (fAt gs k)
 | [], k, h, _, _ => by simp at h
 | g :: gs, 0, _, h1, _ => by
  have e : fAt (g :: gs) 0 = g := rfl
  rw [e] at h1 ⊢
  rw [List.find?_cons, h1]
 | g :: gs, k + 1, h, h1, h2 => by
  have e : ∀ j, fAt (g :: gs) (j + 1) = fAt gs j := fun j => by unfold fAt; rw [List.getD_cons_succ]
  have h0 : metB f g = false := h2 0 (by omega)
  rw [e] at h1 ⊢
  rw [List.find?_cons, h0]
  exact find_at (by simpa using h) h1 (fun j hj => by rw [← e]; exact h2 (j + 1) (by omega))
theorem by_v (f : FV) (gs : List FV) (A : Option Addr) (c : Nat) (r : Int) (w : World) (hf : f.rd w w.heap.size) (hr : FRd w w.heap.size A gs) (hc : gs.length ≤ 100000000000000) (h : byOf f gs = r) :
  Calls Tryz.prog 49 #[f.val, .slice A gs.length c] w (Ret w (.int .i64 r)) := by
 have hm := hmix
 have k1 := hide (fun W (hg : Grew w W) => idxMet_v f gs A c W (hf.up hg) (hr.up hg) hc)
 have HR := hide hr
 have HH := hide h
 clear hf hr h
 go_enter Tryz.func49, Tryz.ntmps49
 go_wp2_with fail
 refine (k1.out _ gw).mono ?_
 rintro e w' ⟨h, ⟨⟨n1, os1⟩, rfl⟩⟩
 rcases h with ⟨rfl, hn⟩ | ⟨k, hk, rfl, h1, h2⟩
 ·obtain rfl : r = 0 := by rw [← HH.out]; exact byOf_none hn
  clear hn
  dsimp only
  go_wp2_with fail
  go_ret
  exact Ret.mk' rfl gw
 ·have hid : (fAt gs k).id = r := by
   rw [← HH.out]
   unfold byOf
   rw [find_at hk h1 h2]
  obtain ⟨b, off, hA, hb, fc⟩ := featAt HR.out hk
  have hix := idx_run (cap := c) Tryz.underlying22 Tryz.sizeOf52 hA.out hk
  have c0 := fc.c0
  rw [hid] at c0
  have hk0 : 0 ≤ (k : Int) := by omega
  clear h1 h2 hid fc hA
  dsimp only
  go_wp2_with fail
  go_ret
  exact Ret.mk' rfl gw
/-- What a chart shows at a place, below a limit. -/
def dshownOf (fs : List FV) (n : Int) (p : Pt) : Int × Int := if (FList fs && (limOk n && p.ok)) = true then (min (shownTo fs p fs.length) n, 0) else (0, 1)
theorem DShown_v (fs : List FV) (A : Option Addr) (c : Nat) (n : Int) (p : Pt) (r : Int × Int) (w : World) (hr : FRd w w.heap.size A fs) (hc : fs.length ≤ 100000000000000) (h : dshownOf fs n p = r) :
  Calls Tryz.prog 26 #[.slice A fs.length c, .int .i64 n, pt p.1 p.2] w (Ret w (.tuple #[.int .i64 r.1, .int .i64 r.2])) := by
 have hm := hmix
 obtain ⟨u, hu⟩ : ∃ u, FList fs = u := ⟨_, rfl⟩
 obtain ⟨l, hl⟩ : ∃ u, limOk n = u := ⟨_, rfl⟩
 obtain ⟨v, hv⟩ : ∃ u, p.ok = u := ⟨_, rfl⟩
 have k1 := hide (fun W (hg : Grew w W) => FList_v fs A c u W (hr.up hg) hc hu)
 have k2 := hide (fun W => planeValid_v p.1 p.2 v W hv)
 have k3 := hide (fun W => limited_v n l W hl)
 have k4 := hide (fun W (hg : Grew w W) => Shown_v fs A c p _ W (hr.up hg) hc rfl)
 unfold shownOf at k4
 unfold dshownOf at h
 rw [hu, hv] at k4
 rw [hu, hv, hl] at h
 clear hu hv hl hr
 generalize shownTo fs p fs.length = m at *
 obtain ⟨p1, p2⟩ := p
 dsimp only at *
 have hcase : u = false ∨ (u = true ∧ l = false) ∨ (u = true ∧ l = true ∧ v = false) ∨ (u = true ∧ l = true ∧ v = true) := by cases u <;> cases l <;> cases v <;> simp
 rcases hcase with rfl | ⟨rfl, rfl⟩ | ⟨rfl, rfl, rfl⟩ | ⟨rfl, rfl, rfl⟩
 ·rw [if_neg (by simp)] at h
  subst h
  go_enter Tryz.func26, Tryz.ntmps26
  go_wp2_with (first | (go_at_call 28; with_reducible refine crv (k1.out _ gw) fun _ _ => ?_; dsimp only) | (go_at_call 52; with_reducible refine crv (k2.out _) fun _ _ => ?_; dsimp only) | (go_at_call 51; with_reducible refine crv (k3.out _) fun _ _ => ?_; dsimp only))
  go_ret2
  exact Ret.mk' rfl gw
 ·rw [if_neg (by simp)] at h
  subst h
  go_enter Tryz.func26, Tryz.ntmps26
  go_wp2_with (first | (go_at_call 28; with_reducible refine crv (k1.out _ gw) fun _ _ => ?_; dsimp only) | (go_at_call 52; with_reducible refine crv (k2.out _) fun _ _ => ?_; dsimp only) | (go_at_call 51; with_reducible refine crv (k3.out _) fun _ _ => ?_; dsimp only))
  go_ret2
  exact Ret.mk' rfl gw
 ·rw [if_neg (by simp)] at h
  subst h
  go_enter Tryz.func26, Tryz.ntmps26
  go_wp2_with (first | (go_at_call 28; with_reducible refine crv (k1.out _ gw) fun _ _ => ?_; dsimp only) | (go_at_call 52; with_reducible refine crv (k2.out _) fun _ _ => ?_; dsimp only) | (go_at_call 51; with_reducible refine crv (k3.out _) fun _ _ => ?_; dsimp only))
  go_ret2
  exact Ret.mk' rfl gw
 ·rw [if_pos (by rfl)] at h
  subst h
  rw [if_pos (by rfl)] at k4
  dsimp only at k4
  go_enter Tryz.func26, Tryz.ntmps26
  go_wp2_with (first | (go_at_call 28; with_reducible refine crv (k1.out _ gw) fun _ _ => ?_; dsimp only) | (go_at_call 52; with_reducible refine crv (k2.out _) fun _ _ => ?_; dsimp only) | (go_at_call 51; with_reducible refine crv (k3.out _) fun _ _ => ?_; dsimp only) | (go_at_call 53; with_reducible refine crv (k4.out _ gw) fun _ _ => ?_; dsimp only))
  all_goals go_ret2
  all_goals exact Ret.mk' (ret_tup2 (ret_int (by omega)) rfl) gw
end Go.Proofs.YtdoiaagajkabcaaGreat
