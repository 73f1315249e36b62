/- Package rule: what Apply hands back, in plain words; a wrong call. Package rule: Apply with rules of one kind. -/
import Derived.Test.YtdoiaagajkabcaaGreatRuG
set_option linter.unusedSimpArgs false
set_option linter.unusedVariables false
set_option maxHeartbeats 8000000
set_option maxRecDepth 100000
namespace Go.Proofs.YtdoiaagajkabcaaGreat
open Go.RowKit Go.Sort Go.Lib
attribute [local go_sem] Steady steadyUpon
attribute [local go_sem ↓] hs_dr lt_add_r lt_add_r2 lt_add_r3 lt_add_r4 lt_add_r5 lt_add_r6
attribute [local go_sem] cell?_gd frozen?_gd setCell_gd size_grow tape_grow cell?_grow' frozen?_grow' setCell_grow' grow_grow grow_dr grow_drew dr_dr dr_drew drew_dr dr_alloc dr_setCell dr_cell dr_frozen dr_tape dr_drawn
attribute [local irreducible] wpSteady
def chg (o k n : Int) (f : FV) : FV := if f.kind = k then changeF o n f else f
def applyL (o k n : Int) (fs : List FV) : List FV := (if o = 3 then thinOf k n fs else fs).map (chg o k n)
def applyOf (o k n : Int) (fs : List FV) : List FV × Int := if (ruleOk o k n && FList fs) = true then (if FList (applyL o k n fs) = true then (applyL o k n fs, 0) else ([], 3)) else ([], 1)
theorem chg_none {o k n : Int} (h : o = 1 ∨ o = 3) (fs : List FV) : fs.map (chg o k n) = fs := by
 have : chg o k n = id := by
  funext f
  unfold chg changeF
  rw [if_neg (show ¬ o = 2 by omega), if_neg (show ¬ o = 4 by omega), if_neg (show ¬ o = 5 by omega)]
  split <;> rfl
 rw [this, List.map_id]
theorem FValid_bare (f : FV) : FValid f.bare = FValid f := rfl
theorem fAt_map {fs : List FV} {k : Nat} (h : k < fs.length) (g : FV → FV) : fAt (fs.map g) k = g (fAt fs k) := by
 have := fAt_get h
 unfold fAt
 rw [List.getD_eq_getElem?_getD, List.getElem?_map, this]
 rfl
theorem upTo_bare (fs : List FV) : ∀ k, k ≤ fs.length → upTo (fs.map FV.bare) k = upTo fs k
 | 0, _ => rfl
 | k + 1, h => by
  have ih := upTo_bare fs k (by omega)
  unfold upTo at ih ⊢
  rw [List.range_succ, List.all_append, List.all_append, ih]
  congr 1
  simp only [List.all_cons, List.all_nil, Bool.and_true]
  unfold upOk lastId
  rw [fAt_map (by omega)]
  by_cases h0 : k = 0
  ·subst h0
   rfl
  ·rw [if_neg h0, if_neg h0, fAt_map (by omega)]
   rfl
theorem FList_bare (fs : List FV) : FList (fs.map FV.bare) = FList fs := by
 unfold FList
 rw [List.length_map, upTo_bare fs _ (Nat.le_refl _)]
theorem FList_of {fs gs : List FV} (h : fs.map FV.bare = gs.map FV.bare) : FList fs = FList gs := by rw [← FList_bare fs, h, FList_bare gs]
theorem len_of {fs gs : List FV} (h : fs.map FV.bare = gs.map FV.bare) : fs.length = gs.length := by simpa using congrArg List.length h
/-- What a function hands back that makes lists of features. -/
def FeatR (w : World) (r : List FV × Int) (e : Ending) (w' : World) : Prop := ∃ A' c' fs', e = .returned (.tuple #[.slice A' fs'.length c', .int .i64 r.2]) ∧ fs'.map FV.bare = r.1.map FV.bare ∧ FRd w' w'.heap.size A' fs' ∧ Grew w w'
theorem Apply_bad (o k n : Int) (fs : List FV) (A : Option Addr) (c : Nat) (w : World) (hr : FRd w w.heap.size A fs) (hc : fs.length ≤ 100000000000000) (h : ¬ (ruleOk o k n && FList fs) = true) :
  Calls Tryz.prog 63 #[ruV o k n, .slice A fs.length c] w (FeatR w ([], 1)) := by
 have hm := hmix
 obtain ⟨u, hu⟩ : ∃ u, ruleOk o k n = u := ⟨_, rfl⟩
 obtain ⟨v, hv⟩ : ∃ u, FList fs = u := ⟨_, rfl⟩
 have k1 := hide (fun W => isRule_v o k n u W hu)
 have k2 := hide (fun W (hg : Grew w W) => FList_v fs A c v W (hr.up hg) hc hv)
 rw [hu, hv] at h
 clear hu hv hr
 have hcase : u = false ∨ (u = true ∧ v = false) := by cases u <;> cases v <;> simp at h ⊢
 rcases hcase with rfl | ⟨rfl, rfl⟩
 all_goals
  clear h
  go_enter Tryz.func63, Tryz.ntmps63
  go_wp2_with (first | (go_at_call 85; with_reducible refine crv (k1.out _) fun _ _ => ?_; dsimp only) | (go_at_call 28; with_reducible refine crv (k2.out _ gw) fun _ _ => ?_; dsimp only))
  go_ret2
  exact ⟨none, 0, [], rfl, rfl, FRd.nil _ _ _, gw⟩
theorem fneq_nil (W : World) : (binOp .neq 119 .nilFunc .nilFunc).run Tryz.prog W = .ok (.bool false) W := by kernel_rfl
theorem fneq_fn (n : Nat) (W : World) : (binOp .neq 119 (.func (.func n) #[] #[]) .nilFunc).run Tryz.prog W = .ok (.bool true) W := by kernel_rfl
theorem change_bare {o n : Int} {f g : FV} (h : f.bare = g.bare) : (changeF o n f).bare = (changeF o n g).bare := by
 have e : ∀ f : FV, (changeF o n f).bare = (changeF o n f.bare).bare := fun f => by
  unfold changeF
  split
  ·rfl
  ·split
   ·rfl
   ·split <;> rfl
 rw [e f, h, ← e g]
theorem bare_kind {f g : FV} (h : f.bare = g.bare) : f.kind = g.kind := by
 have := congrArg FV.kind h
 exact this
theorem bare_dep {f g : FV} (h : f.bare = g.bare) : f.dep = g.dep := by
 have := congrArg FV.dep h
 exact this
theorem valid_dep {f : FV} (h : FValid f = true) : 0 ≤ f.dep ∧ f.dep ≤ 100000 := by
 unfold FValid baseOk at h
 rw [Bool.and_eq_true, decide_eq_true_eq] at h
 exact h.1.2.2.1
theorem fAt_set {fs : List FV} {i j : Nat} {f : FV} (h : i < fs.length) : fAt (fs.set i f) j = if j = i then f else fAt fs j := by
 unfold fAt
 rw [List.getD_eq_getElem?_getD, List.getD_eq_getElem?_getD]
 by_cases e : j = i
 ·subst e
  rw [List.getElem?_set_self h, if_pos rfl]
  rfl
 ·rw [List.getElem?_set_ne (fun x => e x.symm), if_neg e]
theorem map_of {fs gs : List FV} {g h : FV → FV} (hl : fs.length = gs.length) (hp : ∀ j, j < gs.length → g (fAt fs j) = h (fAt gs j)) : fs.map g = gs.map h := by
 apply List.ext_getElem?
 intro j
 rw [List.getElem?_map, List.getElem?_map]
 by_cases hj : j < gs.length
 ·rw [fAt_get hj, fAt_get (by omega)]
  exact congrArg some (hp j hj)
 ·rw [List.getElem?_eq_none (by omega), List.getElem?_eq_none (by omega)]
  rfl
end Go.Proofs.YtdoiaagajkabcaaGreat
namespace Go.Proofs.YtdoiaagajkabcaaGreat
open Go.RowKit Go.Sort Go.Lib
attribute [local go_sem] Steady steadyUpon
attribute [local go_sem ↓] hs_dr lt_add_r lt_add_r2 lt_add_r3 lt_add_r4 lt_add_r5 lt_add_r6
attribute [local go_sem] cell?_gd frozen?_gd setCell_gd size_grow tape_grow cell?_grow' frozen?_grow' setCell_grow' grow_grow grow_dr grow_drew dr_dr dr_drew drew_dr dr_alloc dr_setCell dr_cell dr_frozen dr_tape dr_drawn
attribute [local irreducible] wpSteady
attribute [local go_sem] fneq_nil fneq_fn
theorem Apply_1 (k n : Int) (fs : List FV) (A : Option Addr) (c : Nat) (w : World) (hr : FRd w w.heap.size A fs) (hu : ruleOk 1 k n = true) (hv : FList fs = true) :
  Calls Tryz.prog 63 #[ruV 1 k n, .slice A fs.length c] w (FeatR w (applyOf 1 k n fs)) := by
 have hm := hmix
 have hlen := list_len hv
 have k1 := hide (fun W => isRule_v 1 k n true W hu)
 have k2 := hide (fun W (hg : Grew w W) => FList_v fs A c true W (hr.up hg) (by omega) hv)
 have HR := hide hr
 have HV := hide hv
 have HU := hide hu
 clear hu hv hr
 go_enter Tryz.func63, Tryz.ntmps63
 go_wp2_with (first | (go_at_call 85; with_reducible refine crv (k1.out _) fun _ _ => ?_; dsimp only) | (go_at_call 28; with_reducible refine crv (k2.out _ gw) fun _ _ => ?_; dsimp only))
 refine (CloneF_any fs A c _ (HR.out.row.up gw) (by omega)).mono ?_
 rintro e W1 ⟨v1, rfl, hown, hg⟩
 have HBX : Hid (RuBox W1 w.heap.size 1 k n) := hide (RuBox.up (RuBox.new w 1 k n) (Grew.trans gw hg))
 have HG1 : Hid (Grew w W1) := hide (Grew.trans gw hg)
 obtain ⟨A1, c1, rfl, hc1, hrd1⟩ := Rd.of_own fv_len hown rfl
 have HO1 := hide hown
 have HRD1 := hide hrd1
 have hB1 := HBX.out.2
 have hB0 := HBX.out.1
 clear hown hg hrd1 k1 k2
 dsimp only
 go_wp2_with fail
 refine wp_name ?_
 intro W2 hW
 have HG2 : Hid (Grew W1 W2) := hide (by rw [← hW]; exact gw)
 have HBX2 := hide (HBX.out.up (HG2.out))
 have hB2 := HBX2.out.2
 clear hW hB0 hB1
 refine wp_region_held_drew (S := (fun w' => w'.cell? ⟨w.heap.size, 0, none⟩ = some (.int .i64 1) ∧ w'.cell? ⟨w.heap.size, 1, none⟩ = some (.int .i64 k) ∧ w'.cell? ⟨w.heap.size, 2, none⟩ = some (.int .i64 n))) hm ?_ (fun hHeld => ?_)
 ·exact (RuBox.up HBX2.out gw).1
 refine tk 1 ?_
 try simp only [Act.put, setA, getA]
 refine tk 2 ?_
 try simp only [Act.put, setA, getA]
 refine wpAnyH_ready (rs := [0]) (by kernel_rfl) (by simp) ?_
 refine AllReadyH.cons (o := _) rfl (fun K hK => ?_) AllReadyH.nil
 go_simp
 (first | ((go_at_call 88); (refine (forms_v _).mono ?_); rintro e Wn ⟨g, b1, b2, b3, b4, b5, rfl, hF, hgr⟩; have HGn : Hid (Grew W2 Wn) := hide (Grew.trans gw hgr); obtain ⟨s, q0, q1, q2, q3, q4⟩ := hF.k1'; clear hF hgr q0 q1 q2 q3; dsimp only) | skip)
 refine hK.out _ _ ?_ (fun hHeld => ?_)
 ·exact (RuBox.up HBX2.out gw).1
 clear hK K
 try simp only [Act.put, setA, getA]
 refine tk 3 ?_
 try simp only [Act.put, setA, getA]
 refine tk 4 ?_
 try simp only [Act.put, setA, getA]
 refine wpAnyH_ready (rs := [5]) (by kernel_rfl) (by simp) ?_
 refine AllReadyH.cons (o := _) rfl (fun K hK => ?_) AllReadyH.nil
 go_simp
 (first | ((go_at_call 88); (refine (forms_v _).mono ?_); rintro e Wn ⟨g, b1, b2, b3, b4, b5, rfl, hF, hgr⟩; have HGn : Hid (Grew W2 Wn) := hide (Grew.trans gw hgr); obtain ⟨s, q0, q1, q2, q3, q4⟩ := hF.k1'; clear hF hgr q0 q1 q2 q3; dsimp only) | skip)
 refine hK.out _ _ ?_ (fun hHeld => ?_)
 ·exact (RuBox.up HBX2.out gw).1
 clear hK K
 try simp only [Act.put, setA, getA]
 refine tk 6 ?_
 try simp only [Act.put, setA, getA]
 refine wpAnyH_done (by kernel_rfl) ?_ _
 have HF1 := hide (⟨HRD1.out.up HG2.out, fun f hf => (HR.out.each f hf).up (HG1.out.trans HG2.out)⟩ : FRd W2 W2.heap.size A1 fs)
 have HGG := hide (HG1.out.trans HG2.out)
 go_wp2_with fail
 obtain ⟨r, hr⟩ : ∃ r, FList fs = r := ⟨_, rfl⟩
 have k3 := hide (fun W (hg : Grew W2 W) => FList_v fs A1 c1 r W (HF1.out.up hg) (by omega) hr)
 have hap : applyOf 1 k n fs = if r = true then (fs, 0) else ([], 3) := by
  unfold applyOf
  rw [HU.out, HV.out, if_pos (by rfl)]
  have e : applyL 1 k n fs = fs := by
   unfold applyL
   rw [chg_none (by omega)]
   rfl
  rw [e, hr]
 have HAP := hide hap
 clear hr hap
 cases r
 ·go_wp2_with (go_at_call 28; with_reducible refine crv (k3.out _ gw) fun _ _ => ?_; dsimp only)
  go_ret2
  rw [HAP.out, if_neg (by simp)]
  exact ⟨none, 0, [], rfl, rfl, FRd.nil _ _ _, HGG.out.trans gw⟩
 ·go_wp2_with (go_at_call 28; with_reducible refine crv (k3.out _ gw) fun _ _ => ?_; dsimp only)
  go_ret2
  rw [HAP.out, if_pos (by trivial)]
  exact ⟨A1, c1, fs, rfl, rfl, HF1.out.up gw, HGG.out.trans gw⟩
end Go.Proofs.YtdoiaagajkabcaaGreat
