/- Package feature: lists of features; Shown. -/
import Derived.Test.YtfeccolljfkejaaGreatDoorFeC
set_option linter.unusedSimpArgs false
set_option linter.unusedVariables false
set_option maxHeartbeats 8000000
set_option maxRecDepth 100000
namespace Go.Proofs.YtfeccolljfkejaaGreatDoor
open Go.RowKit Go.Sort
attribute [local go_sem] Steady steadyUpon
attribute [local go_sem ↓] hs_dr lt_add_r lt_add_r2 lt_add_r3 lt_add_r4 lt_add_r5 lt_add_r6
attribute [local go_sem] cell?_gd frozen?_gd setCell_gd size_grow tape_grow cell?_grow' frozen?_grow' setCell_grow' grow_grow grow_dr grow_drew dr_dr dr_drew drew_dr dr_alloc dr_setCell dr_cell dr_frozen dr_tape dr_drawn
attribute [local irreducible] wpSteady
attribute [local go_sem] mh_disc nh_disc mc_disc nc_disc mh_area nh_area mc_area nc_area mh_light nh_light mc_light nc_light
instance : Inhabited FV := ⟨⟨0, 0, 0, 0, 0, none, 0, [], 0, 0, none, 0, []⟩⟩
/-- A slice of features that reads as fs. -/
structure FRd (w : World) (B : Nat) (A : Option Addr) (fs : List FV) : Prop where
 row : Rd w B 9 A (fs.map FV.cells)
 each : ∀ f, f ∈ fs → f.rd w B
theorem FRd.up {w w' : World} {A : Option Addr} {fs : List FV} (h : FRd w w.heap.size A fs) (hg : Grew w w') : FRd w' w'.heap.size A fs := ⟨h.row.up hg, fun f hf => (h.each f hf).up hg⟩
theorem FRd.nil (w : World) (B : Nat) (A : Option Addr) : FRd w B A [] := ⟨Rd.nil _ _ _ _, fun f h => by cases h⟩
def fAt (fs : List FV) (k : Nat) : FV := fs.getD k default
theorem fAt_get {fs : List FV} {k : Nat} (h : k < fs.length) : fs[k]? = some (fAt fs k) := by
 unfold fAt
 rw [List.getD_eq_getElem?_getD, List.getElem?_eq_getElem h]
 rfl
theorem fAt_mem {fs : List FV} {k : Nat} (h : k < fs.length) : fAt fs k ∈ fs := List.mem_of_getElem? (fAt_get h)
/-- A feature's cells, and where they lie. -/
structure FAt (w : World) (b o : Nat) (f : FV) : Prop where
 c0 : w.cell? ⟨b, o, none⟩ = some (.int .i64 f.id)
 c1 : w.cell? ⟨b, o + 1, none⟩ = some (.int .i64 f.kind)
 c2 : w.cell? ⟨b, o + 2, none⟩ = some (.int .i64 f.x)
 c3 : w.cell? ⟨b, o + 3, none⟩ = some (.int .i64 f.y)
 c4 : w.cell? ⟨b, o + 4, none⟩ = some (.int .i64 f.rad)
 c5 : w.cell? ⟨b, o + 5, none⟩ = some (.slice f.aA f.area.length f.ac)
 c6 : w.cell? ⟨b, o + 6, none⟩ = some (.int .i64 f.dep)
 c7 : w.cell? ⟨b, o + 7, none⟩ = some (.int .i64 f.sym)
 c8 : w.cell? ⟨b, o + 8, none⟩ = some (.slice f.sA f.secs.length f.sc)
theorem featAt {w : World} {B : Nat} {A : Option Addr} {fs : List FV} {k : Nat} (h : FRd w B A fs) (hk : k < fs.length) :
  ∃ b off, Hid (A = some ⟨b, off, none⟩) ∧ b < B ∧ FAt w b (off + k * 9) (fAt fs k) := by
 obtain ⟨b, off, hA, hb, hc⟩ := h.row.at_ (k := k) (x := (fAt fs k).cells) (by simp [fAt_get hk])
 exact ⟨b, off, hA, hb, hc 0 _ rfl, hc 1 _ rfl, hc 2 _ rfl, hc 3 _ rfl, hc 4 _ rfl, hc 5 _ rfl, hc 6 _ rfl, hc 7 _ rfl, hc 8 _ rfl⟩
def lastId (fs : List FV) (k : Nat) : Int := if k = 0 then 0 else (fAt fs (k - 1)).id
def upOk (fs : List FV) (k : Nat) : Bool := FValid (fAt fs k) && decide (lastId fs k < (fAt fs k).id)
def upTo (fs : List FV) (k : Nat) : Bool := (List.range k).all (upOk fs)
def FList (fs : List FV) : Bool := upTo fs fs.length && decide (fs.length ≤ 300)
theorem upTo_succ {fs : List FV} {k : Nat} (h : upTo fs k = true) : upTo fs (k + 1) = upOk fs k := by
 unfold upTo at h ⊢
 rw [List.range_succ, List.all_append, h]
 simp
theorem upTo_no {fs : List FV} {k n : Nat} (hk : k < n) (h : upOk fs k = false) : upTo fs n = false := by
 unfold upTo
 rw [List.all_eq_false]
 exact ⟨k, List.mem_range.2 hk, by rw [h]; simp⟩
theorem FList_v (fs : List FV) (A : Option Addr) (c : Nat) (r : Bool) (w : World) (hr : FRd w w.heap.size A fs) (hc : fs.length ≤ 100000000000000) (h : FList fs = r) :
  Calls Tryz.prog 31 #[.slice A fs.length c] w (Ret w (.bool r)) := by
 have hm := hmix
 have HH := hide h
 have HR := hide hr
 clear h hr
 go_enter Tryz.func31, Tryz.ntmps31
 go_wp2_with fail
 go_loopw [3, 8] (fun l i wr => ∃ k : Nat, k ≤ fs.length ∧ i = .int .i64 k ∧ l = .int .i64 (lastId fs k) ∧ Grew w wr ∧ AppG (upTo fs k = true)) (fun _ i _ => fs.length - (intOf i).toNat)
 case atStart => exact ⟨0, by omega, rfl, rfl, gw, rfl⟩
 case round =>
  obtain ⟨k, hk, rfl, rfl, hg, hall⟩ := hrel
  have HG := hide hg
  have HA := hide hall.stop
  clear hg hall
  by_cases hlt : k < fs.length
  ·obtain ⟨b, off, hA, hb, fc⟩ := featAt (HR.out.up HG.out) hlt
   have hfr := HR.out.each _ (fAt_mem hlt)
   have hix := idx_run (cap := c) Tryz.underlying37 Tryz.sizeOf47 hA.out hlt
   have hst := upTo_succ HA.out
   unfold upOk at hst
   have hlid : lastId fs (k + 1) = (fAt fs k).id := by unfold lastId; rw [if_neg (by omega), Nat.add_sub_cancel]
   obtain ⟨v, hv⟩ : ∃ v, FValid (fAt fs k) = v := ⟨_, rfl⟩
   rw [hv] at hst
   have k1 := hide (fun W (hg : Grew w W) => FValid_v (fAt fs k) v W (hfr.up hg) hv)
   obtain ⟨l, hl⟩ : ∃ l, lastId fs k = l := ⟨_, rfl⟩
   rw [hl] at hst ⊢
   have hno : (v && decide (l < (fAt fs k).id)) = false → r = false := fun e => by
    rw [← HH.out]
    unfold FList
    rw [upTo_no hlt (by unfold upOk; rw [hv, hl]; exact e)]
    rfl
   obtain ⟨c0, c1, c2, c3, c4, c5, c6, c7, c8⟩ := fc
   clear hl hv hA hfr
   generalize fAt fs k = f at *
   obtain ⟨id, kind, x, y, rad, aA, ac, area, dep, sym, sA, sc, secs⟩ := f
   unfold FV.val at k1
   dsimp only at *
   generalize area.length = na at *
   generalize secs.length = ns at *
   have HST := hide hst
   have HLID := hide hlid
   clear hst hlid
   cases v
   ·have HNO := hide (hno (by simp))
    clear hno
    go_wp2_with (go_at_call 62; with_reducible refine crv (k1.out _ (HG.out.trans gw)) fun _ _ => ?_; dsimp only)
    go_ret
    exact Ret.mk' (by rw [HNO.out]; rfl) (HG.out.trans gw)
   ·by_cases hid : l < id
    ·have hid2 : ¬ id ≤ l := by omega
     clear hno
     go_wp2_with (go_at_call 62; with_reducible refine crv (k1.out _ (HG.out.trans gw)) fun _ _ => ?_; dsimp only)
     go_roundw
     case rel => exact ⟨k + 1, by omega, by go_num, by rw [HLID.out], HG.out.trans gw, show upTo fs (k + 1) = true from (by rw [HST.out]; simp [hid])⟩
     case measure => simp [intOf]; omega
    ·have hid2 : id ≤ l := by omega
     have HNO := hide (hno (by simp [hid]))
     clear hno
     go_wp2_with (go_at_call 62; with_reducible refine crv (k1.out _ (HG.out.trans gw)) fun _ _ => ?_; dsimp only)
     go_ret
     exact Ret.mk' (by rw [HNO.out]; rfl) (HG.out.trans gw)
  ·obtain rfl : k = fs.length := by omega
   have e : r = decide (fs.length ≤ 300) := by
    rw [← HH.out]
    unfold FList
    rw [HA.out]
    rfl
   have HE := hide e
   clear e
   go_wp2_with fail
   go_ret
   exact Ret.mk' (by rw [HE.out]; exact ret_bool (by rw [Bool.eq_iff_iff]; simp; try omega)) HG.out
/-- What covers a place; the least depth there. -/
def shCovers (f : FV) (p : Pt) : Bool := if f.kind = 4 then false else if f.kind = 3 ∨ f.kind = 6 then coverA f.area p else coverD f.x f.y f.rad p
def shownStep (p : Pt) (l : Int) (f : FV) : Int := if (decide (f.dep < l) && shCovers f p) = true then f.dep else l
def shownTo (fs : List FV) (p : Pt) (k : Nat) : Int := (fs.take k).foldl (shownStep p) 100000
def shownOf (fs : List FV) (p : Pt) : Int × Int := if (FList fs && p.ok) = true then (shownTo fs p fs.length, 0) else (0, 1)
theorem shownTo_succ {fs : List FV} {p : Pt} {k : Nat} (h : k < fs.length) : shownTo fs p (k + 1) = shownStep p (shownTo fs p k) (fAt fs k) := by
 unfold shownTo
 rw [List.take_add_one, fAt_get h, List.foldl_append]
 rfl
theorem Shown_v (fs : List FV) (A : Option Addr) (c : Nat) (p : Pt) (r : Int × Int) (w : World) (hr : FRd w w.heap.size A fs) (hc : fs.length ≤ 100000000000000) (h : shownOf fs p = r) :
  Calls Tryz.prog 30 #[.slice A fs.length c, pt p.1 p.2] w (Ret w (.tuple #[.int .i64 r.1, .int .i64 r.2])) := by
 have hm := hmix
 obtain ⟨u, hu⟩ : ∃ u, FList fs = u := ⟨_, rfl⟩
 obtain ⟨v, hv⟩ : ∃ u, p.ok = u := ⟨_, rfl⟩
 have k1 := hide (fun W (hg : Grew w W) => FList_v fs A c u W (hr.up hg) hc hu)
 have k2 := hide (fun W => planeValid_v p.1 p.2 v W hv)
 unfold shownOf at h
 rw [hu, hv] at h
 have HR := hide hr
 clear hu hv hr
 obtain ⟨p1, p2⟩ := p
 dsimp only at *
 have hcase : u = false ∨ (u = true ∧ v = false) ∨ (u = true ∧ v = true) := by cases u <;> cases v <;> simp
 rcases hcase with rfl | ⟨rfl, rfl⟩ | ⟨rfl, rfl⟩
 ·rw [if_neg (by simp)] at h
  subst h
  go_enter Tryz.func30, Tryz.ntmps30
  go_wp2_with (first | (go_at_call 31; with_reducible refine crv (k1.out _ gw) fun _ _ => ?_; dsimp only) | (go_at_call 60; with_reducible refine crv (k2.out _) fun _ _ => ?_; dsimp only))
  go_ret2
  exact Ret.mk' rfl gw
 ·rw [if_neg (by simp)] at h
  subst h
  go_enter Tryz.func30, Tryz.ntmps30
  go_wp2_with (first | (go_at_call 31; with_reducible refine crv (k1.out _ gw) fun _ _ => ?_; dsimp only) | (go_at_call 60; with_reducible refine crv (k2.out _) fun _ _ => ?_; dsimp only))
  go_ret2
  exact Ret.mk' rfl gw
 ·rw [if_pos (by rfl)] at h
  subst h
  go_enter Tryz.func30, Tryz.ntmps30
  go_wp2_with (first | (go_at_call 31; with_reducible refine crv (k1.out _ gw) fun _ _ => ?_; dsimp only) | (go_at_call 60; with_reducible refine crv (k2.out _) fun _ _ => ?_; dsimp only))
  refine wp_name ?_
  intro W0 hW
  have hg0 : Grew w W0 := by rw [← hW]; exact gw
  have hbp : W0.heap[w.heap.size]? = some (.cells #[.int .i64 p1, .int .i64 p2] 43 (0, 0)) := by
   rw [← hW]
   exact (Grew.heap (w := w.alloc (.cells #[.int .i64 p1, .int .i64 p2] 43)) gw (by simp)).trans (heap_alloc_new _ _)
  have HG0 := hide hg0
  have HBP := hide hbp
  clear hW hg0 hbp k1 k2
  go_loopw [6, 19] (fun l i wr => ∃ k : Nat, k ≤ fs.length ∧ i = .int .i64 k ∧ l = .int .i64 (shownTo fs (p1, p2) k) ∧ Grew W0 wr) (fun _ i _ => fs.length - (intOf i).toNat)
  case atStart => exact ⟨0, by omega, rfl, rfl, Grew.refl _⟩
  case round =>
   obtain ⟨k, hk, rfl, rfl, hg⟩ := hrel
   have HG := hide hg
   have bp := (hg.heap (blk_lt HBP.out)).trans HBP.out
   have d0 := blk_cell bp 0
   have d1 := blk_cell bp 1
   have lp := blk_lt bp
   clear hg bp
   by_cases hlt : k < fs.length
   ·obtain ⟨b, off, hA, hb, fc⟩ := featAt (HR.out.up (HG0.out.trans HG.out)) hlt
    have hfr := (HR.out.up (HG0.out.trans HG.out)).each _ (fAt_mem hlt)
    have hix := idx_run (cap := c) Tryz.underlying37 Tryz.sizeOf47 hA.out hlt
    have hst := shownTo_succ (p := (p1, p2)) hlt
    unfold shownStep at hst
    obtain ⟨l, hl⟩ : ∃ l, shownTo fs (p1, p2) k = l := ⟨_, rfl⟩
    rw [hl] at hst ⊢
    obtain ⟨o, ho⟩ : ∃ o, shCovers (fAt fs k) (p1, p2) = o := ⟨_, rfl⟩
    rw [ho] at hst
    have ksh : Hid ((∃ x y, (fAt fs k).sh = .iface 140 (.agg #[.int .i64 x, .int .i64 y]) ∧ ∀ W, Grew wr W → Calls Tryz.prog 245 #[.agg #[.int .i64 x, .int .i64 y], pt p1 p2] W (Ret W (.bool o))) ∨ ((fAt fs k).sh = .iface 141 (.slice (fAt fs k).aA (fAt fs k).area.length (fAt fs k).ac) ∧ ∀ W, Grew wr W → Calls Tryz.prog 249 #[.slice (fAt fs k).aA (fAt fs k).area.length (fAt fs k).ac, pt p1 p2] W (Ret W (.bool o))) ∨ (∃ x y r, (fAt fs k).sh = .iface 143 (.agg #[.int .i64 x, .int .i64 y, .int .i64 r]) ∧ ∀ W, Grew wr W → Calls Tryz.prog 264 #[.agg #[.int .i64 x, .int .i64 y, .int .i64 r], pt p1 p2] W (Ret W (.bool o)))) := hide (by
     unfold shCovers at ho
     by_cases h4 : (fAt fs k).kind = 4
     ·rw [if_pos h4] at ho
      exact .inl ⟨_, _, sh_light h4, fun W _ => by rw [← ho]; exact lightCovers_v _ _ (p1, p2) W⟩
     ·rw [if_neg h4] at ho
      by_cases h3 : (fAt fs k).kind = 3 ∨ (fAt fs k).kind = 6
      ·rw [if_pos h3] at ho
       exact .inr (.inl ⟨sh_area h3, fun W hg => areaCovers_v _ _ _ (p1, p2) _ W (hfr.up hg).area hfr.la ho⟩)
      ·rw [if_neg h3] at ho
       exact .inr (.inr ⟨_, _, _, sh_disc h4 h3, fun W _ => discCovers_v _ _ _ (p1, p2) _ W ho⟩))
    have kof : Hid (∀ v W, (fAt fs k).sh = v → Calls Tryz.prog 61 #[(fAt fs k).val] W (Ret W v)) := hide (fun v W e => of_v _ v W e)
    obtain ⟨c0, c1, c2, c3, c4, c5, c6, c7, c8⟩ := fc
    clear hl ho hA hfr
    generalize fAt fs k = f at *
    obtain ⟨id, kind, x, y, rad, aA, ac, area, dep, sym, sA, sc, secs⟩ := f
    generalize FV.sh _ = S at *
    unfold FV.val at kof
    dsimp only at *
    generalize area.length = na at *
    generalize secs.length = ns at *
    have HST := hide hst
    clear hst
    by_cases hd : dep < l
    ·rcases ksh.out with ⟨x', y', rfl, kc⟩ | ⟨rfl, kc⟩ | ⟨x', y', r', rfl, kc⟩
     ·have KC := hide kc
      have ko := hide (fun W => kof.out _ W rfl)
      clear kc kof ksh
      cases o
      all_goals
       go_wp2_with fail
       refine wp_region_qas 10 [] [] hm (h := ?_)
       repeat (refine wpSteady_step (fun K hK => ?_); go_simp; first | (refine hK _ ?_; clear hK K) | (apply Exists.intro; refine ⟨fun _ => ?_, hK _ ?_⟩; (first | (go_at_call 61; with_reducible exact ko.out _) | (go_at_call 245; with_reducible exact KC.out _ gw)); clear hK K))
       refine rq0 fun nq osq => ?_
       try simp only [Act.put, setA]
       try dsimp only
       go_wp2_with fail
       go_roundw
       case rel => exact ⟨k + 1, by omega, by go_num, by rw [HST.out]; simp [hd], HG.out.trans gw⟩
       case measure => simp [intOf]; omega
     ·have KC := hide kc
      have ko := hide (fun W => kof.out _ W rfl)
      clear kc kof ksh
      cases o
      all_goals
       go_wp2_with fail
       refine wp_region_qas 10 [] [] hm (h := ?_)
       repeat (refine wpSteady_step (fun K hK => ?_); go_simp; first | (refine hK _ ?_; clear hK K) | (apply Exists.intro; refine ⟨fun _ => ?_, hK _ ?_⟩; (first | (go_at_call 61; with_reducible exact ko.out _) | (go_at_call 249; with_reducible exact KC.out _ gw)); clear hK K))
       refine rq0 fun nq osq => ?_
       try simp only [Act.put, setA]
       try dsimp only
       go_wp2_with fail
       go_roundw
       case rel => exact ⟨k + 1, by omega, by go_num, by rw [HST.out]; simp [hd], HG.out.trans gw⟩
       case measure => simp [intOf]; omega
     ·have KC := hide kc
      have ko := hide (fun W => kof.out _ W rfl)
      clear kc kof ksh
      cases o
      all_goals
       go_wp2_with fail
       refine wp_region_qas 10 [] [] hm (h := ?_)
       repeat (refine wpSteady_step (fun K hK => ?_); go_simp; first | (refine hK _ ?_; clear hK K) | (apply Exists.intro; refine ⟨fun _ => ?_, hK _ ?_⟩; (first | (go_at_call 61; with_reducible exact ko.out _) | (go_at_call 264; with_reducible exact KC.out _ gw)); clear hK K))
       refine rq0 fun nq osq => ?_
       try simp only [Act.put, setA]
       try dsimp only
       go_wp2_with fail
       go_roundw
       case rel => exact ⟨k + 1, by omega, by go_num, by rw [HST.out]; simp [hd], HG.out.trans gw⟩
       case measure => simp [intOf]; omega
    ·have hd2 : decide (dep < l) = false := decide_eq_false hd
     clear kof ksh
     go_wp2_with fail
     refine wp_region_qas 10 [] [] hm (h := ?_)
     repeat (refine wpSteady_step (fun K hK => ?_); go_simp; refine hK _ ?_; clear hK K)
     refine rq0 fun nq osq => ?_
     try simp only [Act.put, setA]
     try dsimp only
     go_wp2_with fail
     go_roundw
     case rel => exact ⟨k + 1, by omega, by go_num, by rw [HST.out, hd2]; simp, HG.out.trans gw⟩
     case measure => simp [intOf]; omega
   ·obtain rfl : k = fs.length := by omega
    go_wp2_with fail
    go_ret2
    exact Ret.mk' rfl (HG0.out.trans HG.out)
end Go.Proofs.YtfeccolljfkejaaGreatDoor
