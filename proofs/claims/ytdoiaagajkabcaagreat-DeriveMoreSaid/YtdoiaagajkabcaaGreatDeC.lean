/- Package derive: index, Again. -/
import Derived.Test.YtdoiaagajkabcaaGreatDeB
set_option linter.unusedSimpArgs false
set_option linter.unusedVariables false
set_option maxHeartbeats 8000000
set_option maxRecDepth 100000
namespace Go.Proofs.YtdoiaagajkabcaaGreat
open Go.RowKit Go.Sort Go.Lib
attribute [local go_sem] Steady steadyUpon
attribute [local go_sem ↓] hs_dr lt_add_r lt_add_r2 lt_add_r3 lt_add_r4 lt_add_r5 lt_add_r6
attribute [local go_sem] cell?_gd frozen?_gd setCell_gd size_grow tape_grow cell?_grow' frozen?_grow' setCell_grow' grow_grow grow_dr grow_drew dr_dr dr_drew drew_dr dr_alloc dr_setCell dr_cell dr_frozen dr_tape dr_drawn
attribute [local irreducible] wpSteady
/-- A list by its IDs. -/
def idxM (fs : List FV) (x : Int) : Option Value := (fs.find? fun f => decide (f.id = x)).map FV.val
theorem idxM_nil : idxM [] = fun _ => none := rfl
theorem idxM_succ {fs : List FV} {k : Nat} (hk : k < fs.length) (hd : ∀ j, j < k → (fAt fs j).id ≠ (fAt fs k).id) : idxM (fs.take (k + 1)) = updM (idxM (fs.take k)) (fAt fs k).id (fAt fs k).val := by
 funext x
 unfold idxM updM
 rw [List.take_add_one, fAt_get hk]
 simp only [Option.toList]
 rw [List.find?_append]
 by_cases e : x = (fAt fs k).id
 ·subst e
  rw [if_pos rfl]
  have h0 : (fs.take k).find? (fun f => decide (f.id = (fAt fs k).id)) = none := by
   rw [List.find?_eq_none]
   intro f hf
   obtain ⟨j, hj, he⟩ := List.getElem_of_mem hf
   rw [List.length_take] at hj
   have := hd j (by omega)
   have a := fAt_get (fs := fs) (k := j) (by omega)
   rw [List.getElem?_eq_getElem (by omega)] at a
   injection a with a
   rw [List.getElem_take, a] at he
   rw [← he]
   simpa using this
  rw [h0]
  simp
 ·rw [if_neg e]
  cases h : (fs.take k).find? (fun f => decide (f.id = x)) with
  | some f => rfl
  | none =>
   have : ¬ (fAt fs k).id = x := fun h => e h.symm
   simp [this]
theorem list_ids {fs : List FV} (h : FList fs = true) {k : Nat} (hk : k < fs.length) : 1 ≤ (fAt fs k).id ∧ (fAt fs k).id ≤ 100000 := by
 have := list_valid h _ (fAt_mem hk)
 unfold FValid baseOk at this
 rw [Bool.and_eq_true, decide_eq_true_eq] at this
 exact this.1.1
def IndexP (w : World) (fs : List FV) (e : Ending) (w' : World) : Prop := ∃ b, e = .returned (.map (some b)) ∧ w.heap.size ≤ b ∧ MapIs w' b fs.length (idxM fs) ∧ Grew w w'
theorem index_v (fs : List FV) (A : Option Addr) (c : Nat) (w : World) (hr : FRd w w.heap.size A fs) (hv : FList fs = true) :
  Calls Tryz.prog 43 #[.slice A fs.length c] w (IndexP w fs) := by
 have hm := hmix
 have hmm := @run_makeMap Tryz.prog
 have hlen := list_len hv
 have HR := hide hr.row
 have HA := hide (list_asc hv)
 have HI := hide (fun k hk => list_ids hv (k := k) hk)
 clear hr hv
 go_enter Tryz.func43, Tryz.ntmps43
 go_wp2_with fail
 go_loopw [9] (fun i wr => ∃ k : Nat, k ≤ fs.length ∧ i = .int .i64 k ∧ Grew w wr ∧ MapIs wr w.heap.size k (idxM (fs.take k))) (fun i _ => fs.length - (intOf i).toNat)
 case atStart => exact ⟨0, by omega, rfl, gw, MapIs.made w⟩
 case round =>
  obtain ⟨k, hk, rfl, hg, hmp⟩ := hrel
  have HG := hide hg
  have HM := hide hmp
  clear hg hmp hmm
  by_cases hlt : k < fs.length
  ·obtain ⟨b, off, hA, hb, fc⟩ := rowAt (HR.out.up HG.out) hlt
   have hix := idx_run (cap := c) Tryz.underlying22 Tryz.sizeOf52 hA.out hlt
   have hst := idxM_succ hlt (fun j hj => by have := HA.out j k hj hlt; omega)
   have hid := HI.out k hlt
   obtain ⟨f, hf⟩ : ∃ f, fAt fs k = f := ⟨_, rfl⟩
   rw [hf] at fc hst hid
   have HST := hide hst
   have hwf : (Lit.int .i64 f.id).wf = true := wf64 (by omega)
   obtain ⟨c0, c1, c2, c3, c4, c5, c6, c7, c8⟩ := fc
   clear hA hst hf
   go_wp2_with (at_mapUpdate; refine wpList_store rfl (.tmp 13) (.tmp 15) (.tmp 16) 79 rfl 52 Tryz.underlying79 rfl (HM.out.up gw) (by unfold maxLen; omega) _ _ rfl rfl hwf ?_; intro w1 hm1 hg1)
   have HG1 : Hid (Grew w w1) := hide (Grew.of_below ((HG.out.trans gw).below.grown hg1 (HG.out.trans gw).below.size (fun q hq => by injection hq with hq; omega)))
   have HM1 : Hid (MapIs w1 w.heap.size (k + 1) (idxM (fs.take (k + 1)))) := hide (by rw [HST.out]; exact hm1)
   clear hm1 hg1
   go_wp2_with fail
   go_roundw
   case rel => exact ⟨k + 1, by omega, by go_num, HG1.out, HM1.out⟩
   case measure => simp [intOf]; omega
  ·obtain rfl : k = fs.length := by omega
   rw [List.take_length] at HM
   go_wp2_with fail
   go_ret
   exact ⟨_, rfl, Nat.le_refl _, HM.out, HG.out⟩
/-- Proofs by what they are from. -/
def nextM (ms : List Pt) (x : Int) : Option Value := (ms.find? fun q => decide (q.1 = x)).map fun q => .int .i64 q.2
theorem nextM_succ {ms : List Pt} {k : Nat} (hk : k < ms.length) (hd : ∀ j, j < k → (cor ms j).1 ≠ (cor ms k).1) : nextM (ms.take (k + 1)) = updM (nextM (ms.take k)) (cor ms k).1 (.int .i64 (cor ms k).2) := by
 funext x
 unfold nextM updM
 rw [List.take_add_one, cor_get hk]
 simp only [Option.toList]
 rw [List.find?_append]
 by_cases e : x = (cor ms k).1
 ·subst e
  rw [if_pos rfl]
  have h0 : (ms.take k).find? (fun q => decide (q.1 = (cor ms k).1)) = none := by
   rw [List.find?_eq_none]
   intro f hf
   obtain ⟨j, hj, he⟩ := List.getElem_of_mem hf
   rw [List.length_take] at hj
   have := hd j (by omega)
   have a := cor_get (ps := ms) (k := j) (by omega)
   rw [List.getElem?_eq_getElem (by omega)] at a
   injection a with a
   rw [List.getElem_take, a] at he
   rw [← he]
   simpa using this
  rw [h0]
  simp
 ·rw [if_neg e]
  cases h : (ms.take k).find? (fun q => decide (q.1 = x)) with
  | some f => rfl
  | none =>
   have : ¬ (cor ms k).1 = x := fun h => e h.symm
   simp [this]
theorem ord_at {ps : List Pt} (h : orderedOf ps = true) {k : Nat} (hk : k < ps.length) : lastFrom ps k < (cor ps k).1 ∧ (cor ps k).1 ≤ 100000 ∧ 1 ≤ (cor ps k).2 ∧ (cor ps k).2 ≤ 100000 := by
 unfold orderedOf proofsTo at h
 rw [List.all_eq_true] at h
 have := h k (List.mem_range.2 hk)
 unfold proofOk at this
 rw [decide_eq_true_eq] at this
 exact this
theorem ord_asc {ps : List Pt} (h : orderedOf ps = true) : ∀ i j, i < j → j < ps.length → (cor ps i).1 < (cor ps j).1 := by
 have hs : ∀ k, k + 1 < ps.length → (cor ps k).1 < (cor ps (k + 1)).1 := fun k hk => by
  have := (ord_at h (k := k + 1) hk).1
  unfold lastFrom at this
  rw [if_neg (by omega), Nat.add_sub_cancel] at this
  exact this
 intro i j hij
 induction j with
 | zero => omega
 | succ j ih =>
  intro hj
  by_cases e : i = j
  ·subst e; exact hs i hj
  ·exact Int.lt_trans (ih (by omega) (by omega)) (hs j hj)
theorem ord_pos {ps : List Pt} (h : orderedOf ps = true) {k : Nat} (hk : k < ps.length) : 1 ≤ (cor ps k).1 := by
 by_cases h0 : k = 0
 ·subst h0
  have := (ord_at h hk).1
  unfold lastFrom at this
  rw [if_pos rfl] at this
  omega
 ·have h1 := (ord_at h (k := 0) (by omega)).1
  unfold lastFrom at h1
  rw [if_pos rfl] at h1
  have := ord_asc h 0 k (by omega) hk
  omega
theorem ord_len {ps : List Pt} (h : orderedOf ps = true) : ps.length ≤ 100000 := by
 have hk : ∀ k, k < ps.length → (k : Int) + 1 ≤ (cor ps k).1 := by
  intro k
  induction k with
  | zero => intro hk; have := ord_pos h hk; omega
  | succ k ih => intro hk; have := ih (by omega); have := ord_asc h k (k + 1) (by omega) hk; omega
 by_cases h0 : ps.length = 0
 ·omega
 ·have h1 := hk (ps.length - 1) (by omega)
  have h2 := ord_at h (k := ps.length - 1) (by omega)
  omega
def againP (ms : List Pt) (p : Pt) : Option Pt := (ms.find? fun q => decide (q.1 = p.2)).map fun q => (p.1, q.2)
def againTo (ps ms : List Pt) (k : Nat) : List Pt := (ps.take k).filterMap (againP ms)
def againOf (ps ms : List Pt) : List Pt × Int := if (orderedOf ps && orderedOf ms) = true then (againTo ps ms ps.length, 0) else ([], 1)
theorem againTo_succ {ps ms : List Pt} {k : Nat} (h : k < ps.length) : againTo ps ms (k + 1) = match againP ms (cor ps k) with | some q => againTo ps ms k ++ [q] | none => againTo ps ms k := by
 unfold againTo
 rw [List.take_add_one, cor_get h, List.filterMap_append]
 cases h : againP ms (cor ps k) <;> simp [h]
theorem againTo_len (ps ms : List Pt) (k : Nat) : (againTo ps ms k).length ≤ k := by
 unfold againTo
 refine Nat.le_trans (List.length_filterMap_le _ _) ?_
 rw [List.length_take]
 omega
/-- What a function hands back that makes lists of proofs. -/
def ProofR (w : World) (r : List Pt × Int) (e : Ending) (w' : World) : Prop := ∃ A' c', e = .returned (.tuple #[.slice A' r.1.length c', .int .i64 r.2]) ∧ Rd w' w'.heap.size 2 A' (r.1.map encD) ∧ Grew w w'
theorem prInf : (Tryz.prog.info? 64).map (fun i => (i.zero, i.size, i.bytes)) = some (some (.agg #[.int .i64 0, .int .i64 0]), 2, 16) := by kernel_rfl
theorem prInfo_parts : ∃ i, Tryz.prog.info? 64 = some i ∧ i.zero = some (.agg #[.int .i64 0, .int .i64 0]) ∧ i.size = 2 ∧ i.bytes = 16 := by
 have h := prInf
 cases hi : Tryz.prog.info? 64 with
 | none => rw [hi] at h; simp at h
 | some i =>
  rw [hi] at h
  simp at h
  exact ⟨i, rfl, h.1, h.2.1, h.2.2⟩
theorem pr_one (ss : List Pt) : ∀ u ∈ ss.flatMap encD, u.oneCell' = true := by
 intro u hu
 obtain ⟨s, _, hs⟩ := List.mem_flatMap.1 hu
 simp [encD] at hs
 rcases hs with rfl | rfl <;> rfl
theorem Rd.litP (w : World) (x y : Int) (b : Nat) (T : TypeId) (hb : b = w.heap.size) : Rd (w.alloc (.cells #[.int .i64 x, .int .i64 y] T)) (w.heap.size + 1) 2 (some ⟨b, 0, none⟩) ([(x, y)].map encD) := by
 have := Rd.blkP (W := w.alloc (.cells #[.int .i64 x, .int .i64 y] T)) [(x, y)] (heap_alloc_at _ _ b hb) rfl
 rwa [World.size_alloc'] at this
theorem Again_v (ps ms : List Pt) (A A' : Option Addr) (c c' : Nat) (w : World) (hr : Rd w w.heap.size 2 A (ps.map encD)) (hr' : Rd w w.heap.size 2 A' (ms.map encD)) (hc : ps.length ≤ 100000000000000) (hc' : ms.length ≤ 100000000000000) :
  Calls Tryz.prog 24 #[.slice A ps.length c, .slice A' ms.length c'] w (ProofR w (againOf ps ms)) := by
 have hm := hmix
 have hmm := @run_makeMap Tryz.prog
 obtain ⟨u, hu⟩ : ∃ u, orderedOf ps = u := ⟨_, rfl⟩
 obtain ⟨v, hv⟩ : ∃ u, orderedOf ms = u := ⟨_, rfl⟩
 have k1 := hide (fun W (hg : Grew w W) => ordered_v ps A c u W (hr.up hg) (by omega) hu)
 have k2 := hide (fun W (hg : Grew w W) => ordered_v ms A' c' v W (hr'.up hg) (by omega) hv)
 have hao : againOf ps ms = if (u && v) = true then (againTo ps ms ps.length, 0) else ([], 1) := by
  unfold againOf
  rw [hu, hv]
 rw [hao]
 have HR := hide hr
 have HR' := hide hr'
 have hcase : u = false ∨ (u = true ∧ v = false) ∨ (u = true ∧ v = true) := by cases u <;> cases v <;> simp
 rcases hcase with rfl | ⟨rfl, rfl⟩ | ⟨rfl, rfl⟩
 ·rw [if_neg (by simp)]
  clear hu hv hr hr' hao hmm
  go_enter Tryz.func24, Tryz.ntmps24
  go_wp2_with (first | ((go_at_call 42; first | with_reducible refine (k1.out _ gw).mono ?_ | with_reducible refine (k2.out _ gw).mono ?_); rintro e w' ⟨rfl, ⟨_, _⟩, rfl⟩; dsimp only))
  go_ret2
  exact ⟨none, 0, rfl, Rd.nil _ _ _ _, gw⟩
 ·rw [if_neg (by simp)]
  clear hu hv hr hr' hao hmm
  go_enter Tryz.func24, Tryz.ntmps24
  go_wp2_with (first | ((go_at_call 42; first | with_reducible refine (k1.out _ gw).mono ?_ | with_reducible refine (k2.out _ gw).mono ?_); rintro e w' ⟨rfl, ⟨_, _⟩, rfl⟩; dsimp only))
  go_ret2
  exact ⟨none, 0, rfl, Rd.nil _ _ _ _, gw⟩
 ·rw [if_pos (by rfl)]
  obtain ⟨i0, hi, hz0, hz1, hz2⟩ := prInfo_parts
  have HU := hide hu
  have HV := hide hv
  have hpl := ord_len hu
  have hml := ord_len hv
  clear hu hv hr hr' hao
  go_enter Tryz.func24, Tryz.ntmps24
  go_wp2_with fail
  refine (k1.out _ gw).mono ?_
  rintro e w1 ⟨rfl, hg1⟩
  have HG1 : Hid (Grew w w1) := hide (Grew.trans gw hg1)
  clear hg1
  dsimp only
  go_wp2_with fail
  refine (k2.out _ (HG1.out.trans gw)).mono ?_
  rintro e w2 ⟨rfl, hg2⟩
  have HG2 : Hid (Grew w w2) := hide (HG1.out.trans (Grew.trans gw hg2))
  clear hg2 k1 k2
  dsimp only
  go_wp2_with fail
  go_loopw [25] (fun i wr => ∃ k : Nat, k ≤ ms.length ∧ i = .int .i64 k ∧ Grew w2 wr ∧ MapIs wr w2.heap.size k (nextM (ms.take k))) (fun i _ => ms.length - (intOf i).toNat)
  case atStart => exact ⟨0, by omega, rfl, gw, MapIs.made w2⟩
  case round =>
   obtain ⟨k, hk, rfl, hg, hmp⟩ := hrel
   have HG := hide hg
   have HM := hide hmp
   clear hg hmp hmm
   by_cases hlt : k < ms.length
   ·obtain ⟨b, off, hA, hb, h0, h1⟩ := ptAt (HR'.out.up (HG2.out.trans HG.out)) (cor_get hlt)
    have hix := idx_run (cap := c') Tryz.underlying24 Tryz.sizeOf64 hA.out hlt
    have hst := nextM_succ hlt (fun j hj => by have := ord_asc HV.out j k hj hlt; omega)
    have hid := ord_at HV.out hlt
    have hid2 := ord_pos HV.out hlt
    obtain ⟨q, hq⟩ : ∃ q, cor ms k = q := ⟨_, rfl⟩
    rw [hq] at h0 h1 hst hid hid2
    have HST := hide hst
    have hwf : (Lit.int .i64 q.1).wf = true := wf64 (by omega)
    obtain ⟨q1, q2⟩ := q
    dsimp only at h0 h1 hwf
    clear hA hst hq hid hid2
    go_wp2_with (at_mapUpdate; refine wpList_store rfl (.tmp 29) (.tmp 31) (.tmp 33) 88 rfl 3 Tryz.underlying88 rfl (HM.out.up gw) (by unfold maxLen; omega) _ _ rfl rfl hwf ?_; intro w3 hm3 hg3)
    have HG3 : Hid (Grew w2 w3) := hide (Grew.of_below ((HG.out.trans gw).below.grown hg3 (HG.out.trans gw).below.size (fun q hq => by injection hq with hq; omega)))
    have HM3 : Hid (MapIs w3 w2.heap.size (k + 1) (nextM (ms.take (k + 1)))) := hide (by rw [HST.out]; exact hm3)
    clear hm3 hg3
    go_wp2_with fail
    go_roundw
    case rel => exact ⟨k + 1, by omega, by go_num, HG3.out, HM3.out⟩
    case measure => simp [intOf]; omega
   ·obtain rfl : k = ms.length := by omega
    rw [List.take_length] at HM
    have HW3 := hide (HG2.out.trans HG.out)
    go_wp2_with fail
    obtain ⟨Wz, rfl⟩ : ∃ z, z = wr := ⟨wr, rfl⟩
    go_loopw [9, 37] (fun ov i wq => ∃ k : Nat, k ≤ ps.length ∧ i = .int .i64 k ∧ Grew Wz wq ∧ wq.ownsRow Wz.heap.size 64 2 ov (againTo ps ms k).length ((againTo ps ms k).flatMap encD)) (fun _ i _ => ps.length - (intOf i).toNat)
    case atStart => exact ⟨0, by omega, rfl, gw, World.ownsRow_nil _ _ _ _⟩
    case round =>
     obtain ⟨k, hk, rfl, hg, hown⟩ := hrel
     have HQ := hide hg
     have HO := hide hown
     have hal := againTo_len ps ms k
     clear hg hown
     by_cases hlt : k < ps.length
     ·obtain ⟨b, off, hA, hb, h0, h1⟩ := ptAt (HR.out.up (HW3.out.trans HQ.out)) (cor_get hlt)
      have hix := idx_run (cap := c) Tryz.underlying24 Tryz.sizeOf64 hA.out hlt
      have hst := againTo_succ (ms := ms) hlt
      have hid := ord_at HU.out hlt
      obtain ⟨p, hp⟩ : ∃ p, cor ps k = p := ⟨_, rfl⟩
      rw [hp] at h0 h1 hst hid
      have hwf : (Lit.int .i64 p.2).wf = true := wf64 (by omega)
      have hcase : (nextM ms p.2 = none ∧ againTo ps ms (k + 1) = againTo ps ms k) ∨ ∃ t, nextM ms p.2 = some (.int .i64 t) ∧ againTo ps ms (k + 1) = againTo ps ms k ++ [(p.1, t)] := by
       unfold againP at hst
       unfold nextM
       cases hf : ms.find? (fun q => decide (q.1 = p.2)) with
       | none => rw [hf] at hst; exact .inl ⟨rfl, hst⟩
       | some q => rw [hf] at hst; exact .inr ⟨q.2, rfl, hst⟩
      obtain ⟨p1, p2⟩ := p
      dsimp only at h0 h1 hwf hcase
      obtain ⟨L, hL⟩ : ∃ L, againTo ps ms k = L := ⟨_, rfl⟩
      rw [hL] at hal HO hcase
      clear hA hst hp hid hL
      rcases hcase with ⟨hn, hst⟩ | ⟨t, hn, hst⟩
      ·have HN := hide hn
       have HST := hide hst
       clear hn hst
       go_wp2_with (at_lookup; refine wpList_look rfl (.tmp 42) (.tmp 44) 88 rfl 3 Tryz.underlying88 (Tryz.zeroValue3 _) rfl (HM.out.up (HQ.out.trans gw)) _ rfl hwf ?_; rw [HN.out]; simp only [Option.getD_none, Option.isSome_none])
       go_wp2_with fail
       go_roundw
       case rel => exact ⟨k + 1, by omega, by go_num, HQ.out.trans gw, by rw [HST.out]; exact fown_grew HO.out gw⟩
       case measure => simp [intOf]; omega
      ·have HN := hide hn
       have HST := hide hst
       clear hn hst
       go_wp2_with (first | (at_lookup; refine wpList_look rfl (.tmp 42) (.tmp 44) 88 rfl 3 Tryz.underlying88 (Tryz.zeroValue3 _) rfl (HM.out.up (HQ.out.trans gw)) _ rfl hwf ?_; rw [HN.out]; simp only [Option.getD_some, Option.isSome_some]) | (at_builtin; refine AppG3.stop ?_))
       refine AppG3.go ?_
       refine wpList_append_any _ rfl (.tmp 49) (.tmp 54) _ rfl Wz.heap.size 64 i0 _ 2 16 Tryz.underlying24 hi hz0 hz1 hz2 rfl (by omega) _ L.length (L.flatMap encD) rfl (fown_grew HO.out gw) _ (some ⟨_, 0, none⟩) 1 1 ([(p1, t)].flatMap encD) rfl ((Rd.litP _ p1 t _ _ (by simp [hs_dr])).reads encD_len (by omega)) (pr_one _) (by simp only [maxLen]; omega) (by omega) (by have := HQ.out.below.size; simp [hs_dr]; omega) ?_
       intro v' w1' hown1 hg1 _
       have HO1 := hide hown1
       have HG1' : Hid (Grew Wz w1') := hide (ggrown (HQ.out.trans gw) (fown_grew HO.out gw) (Nat.le_refl _) hg1)
       clear hown1 hg1
       go_wp2_with fail
       go_roundw
       case rel => exact ⟨k + 1, by omega, by go_num, HG1'.out, by rw [HST.out, List.length_append, List.flatMap_append]; exact HO1.out⟩
       case measure => simp [intOf]; omega
     ·obtain rfl : k = ps.length := by omega
      obtain ⟨Av, cv, rfl, _, hrd⟩ := Rd.of_own (f := encD) encD_len HO.out rfl
      have HRD := hide hrd
      clear hrd
      go_wp2_with fail
      go_ret2
      exact ⟨Av, cv, rfl, HRD.out.up gw, HW3.out.trans (HQ.out.trans gw)⟩
end Go.Proofs.YtdoiaagajkabcaaGreat
