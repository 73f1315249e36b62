/- Package derive: Check. -/
import Derived.Test.YtdoiaagajkabcaaGreatDeE
set_option linter.unusedSimpArgs false
set_option linter.unusedVariables false
set_option maxHeartbeats 8000000
set_option maxRecDepth 100000
namespace Go.Proofs.YtdoiaagajkabcaaGreat
open Go.RowKit Go.Sort Go.Lib
attribute [local go_sem] Steady steadyUpon
attribute [local go_sem ↓] hs_dr lt_add_r lt_add_r2 lt_add_r3 lt_add_r4 lt_add_r5 lt_add_r6
attribute [local go_sem] cell?_gd frozen?_gd setCell_gd size_grow tape_grow cell?_grow' frozen?_grow' setCell_grow' grow_grow grow_dr grow_drew dr_dr dr_drew drew_dr dr_alloc dr_setCell dr_cell dr_frozen dr_tape dr_drawn
attribute [local irreducible] wpSteady
attribute [local go_sem] Oper.semAt_some
def findF (fs : List FV) (x : Int) : Option FV := fs.find? fun f => decide (f.id = x)
def goodP (fs gs : List FV) (p : Pt) : Bool := match findF fs p.1, findF gs p.2 with | some f, some g => metB f g | _, _ => false
def goodTo (fs gs : List FV) (ps : List Pt) (k : Nat) : Bool := (ps.take k).all (goodP fs gs)
def provedB (ps : List Pt) (x : Int) : Bool := ps.any fun p => decide (p.1 = x)
def coverB (fs : List FV) (ps : List Pt) (is : List Nat) : Bool := is.all fun i => provedB ps (fAt fs i).id
def checkOf (fs gs : List FV) (lim : Int) (ps : List Pt) : Bool × Int := if askedOf fs gs lim = true then (orderedOf ps && (ps.all (goodP fs gs) && coverB fs ps (countsTo fs lim fs.length)), 0) else (false, 1)
def provedM (ps : List Pt) (x : Int) : Option Value := if provedB ps x = true then some (.bool true) else none
theorem provedM_succ {ps : List Pt} {k : Nat} (h : k < ps.length) : provedM (ps.take (k + 1)) = updM (provedM (ps.take k)) (cor ps k).1 (.bool true) := by
 funext x
 unfold provedM updM provedB
 rw [List.take_add_one, cor_get h, List.any_append]
 by_cases e : x = (cor ps k).1
 ·subst e
  simp
 ·have : ¬ (cor ps k).1 = x := fun h => e h.symm
  rw [if_neg e]
  have h2 : decide ((cor ps k).1 = x) = false := decide_eq_false this
  simp only [Option.toList, List.any_cons, List.any_nil, h2, Bool.or_false]
theorem goodTo_succ {fs gs : List FV} {ps : List Pt} {k : Nat} (h : k < ps.length) (hk : goodTo fs gs ps k = true) : goodTo fs gs ps (k + 1) = goodP fs gs (cor ps k) := by
 unfold goodTo at *
 rw [List.take_add_one, cor_get h, List.all_append, hk]
 simp
theorem good_no {fs gs : List FV} {ps : List Pt} {k : Nat} (h : k < ps.length) (hp : goodP fs gs (cor ps k) = false) : ps.all (goodP fs gs) = false := by
 rw [List.all_eq_false]
 exact ⟨cor ps k, List.mem_of_getElem? (cor_get h), by rw [hp]; simp⟩
theorem findF_mem {fs : List FV} {x : Int} {f : FV} (h : findF fs x = some f) : f ∈ fs := List.mem_of_find?_eq_some h
theorem idxM_find (fs : List FV) (x : Int) : idxM fs x = (findF fs x).map FV.val := rfl
def zF : FV := { id := 0, kind := 0, x := 0, y := 0, rad := 0, aA := none, ac := 0, area := [], dep := 0, sym := 0, sA := none, sc := 0, secs := [] }
theorem look_case (fs : List FV) (x : Int) : ∃ f u, Hid ((idxM fs x).getD (.agg #[.int .i64 0, .int .i64 0, .int .i64 0, .int .i64 0, .int .i64 0, .slice none 0 0, .int .i64 0, .int .i64 0, .slice none 0 0]) = f.val ∧ (idxM fs x).isSome = u) ∧ ((u = false ∧ findF fs x = none) ∨ (u = true ∧ findF fs x = some f)) := by
 cases h : findF fs x with
 | none => exact ⟨zF, false, hide (by rw [idxM_find, h]; exact ⟨rfl, rfl⟩), .inl ⟨rfl, rfl⟩⟩
 | some f => exact ⟨f, true, hide (by rw [idxM_find, h]; exact ⟨rfl, rfl⟩), .inr ⟨rfl, rfl⟩⟩
theorem bpm_name {F : Fence} {n : Nat} {P : Program} {fn : Func} {R : Ending → World → Prop} {e : Exit} {a : Act} {w : World} (h : ∀ W0, w = W0 → bodyPostM F n P fn R e a W0) : bodyPostM F n P fn R e a w := h _ rfl
theorem two_set {wr : World} {b : Nat} {T T' : TypeId} {v v' u u' : Value} (h0 : Boxed wr b T v) (h1 : Boxed wr (b + 1) T' v') : Boxed ((wr.setCell ⟨b, 0, none⟩ u).setCell ⟨b + 1, 0, none⟩ u') b T u ∧ Boxed ((wr.setCell ⟨b, 0, none⟩ u).setCell ⟨b + 1, 0, none⟩ u') (b + 1) T' u' := ⟨(h0.set _).other (by simp) _, (h1.other (by simp) _).set _⟩
theorem two_below {w wr : World} {u u' : Value} (h : Grew w wr) : Below w.heap.size w ((wr.setCell ⟨w.heap.size, 0, none⟩ u).setCell ⟨w.heap.size + 1, 0, none⟩ u') := (h.below.setCell (p := ⟨w.heap.size, 0, none⟩) (by simp) _).setCell (p := ⟨w.heap.size + 1, 0, none⟩) (by simp) _
theorem MapIs.own {β : Type} {B mb n : Nat} {m : Int → Option Value} (h : mb < B) : OwnFrom B (fun (_ : β) W => MapIs W mb n m) := by
 intro s W W' row hs hg hr
 exact hs.block (hg.block mb hs.lt (fun e => by have := (hr _ e.symm).1; omega))
theorem Check_v (fs gs : List FV) (ps : List Pt) (A A' Ap : Option Addr) (c c' cp : Nat) (lim : Int) (w : World) (hr : FRd w w.heap.size A fs) (hr' : FRd w w.heap.size A' gs) (hrp : Rd w w.heap.size 2 Ap (ps.map encD)) (hc : fs.length ≤ 100000000000000) (hc' : gs.length ≤ 100000000000000) (hcp : ps.length ≤ 100000000000000) :
  Calls Tryz.prog 17 #[.slice A fs.length c, .slice A' gs.length c', .int .i64 lim, .slice Ap ps.length cp] w (Ret w (.tuple #[.bool (checkOf fs gs lim ps).1, .int .i64 (checkOf fs gs lim ps).2])) := by
 have hm := hmix
 have hmm := @run_makeMap Tryz.prog
 obtain ⟨u, hu⟩ : ∃ u, askedOf fs gs lim = u := ⟨_, rfl⟩
 obtain ⟨v, hv⟩ : ∃ u, orderedOf ps = u := ⟨_, rfl⟩
 have k1 := hide (fun W (hg : Grew w W) => asked_v fs gs A A' c c' lim u W (hr.up hg) (hr'.up hg) (by omega) (by omega) hu)
 have k2 := hide (fun W (hg : Grew w W) => ordered_v ps Ap cp v W (hrp.up hg) (by omega) hv)
 obtain ⟨res, hres⟩ : ∃ r, checkOf fs gs lim ps = r := ⟨_, rfl⟩
 rw [hres]
 unfold checkOf at hres
 rw [hu, hv] at hres
 have hcase : u = false ∨ (u = true ∧ v = false) ∨ (u = true ∧ v = true) := by cases u <;> cases v <;> simp
 rcases hcase with rfl | ⟨rfl, rfl⟩ | ⟨rfl, rfl⟩
 ·rw [if_neg (by simp)] at hres
  subst hres
  clear hu hv hr hr' hrp hmm
  go_enter Tryz.func17, Tryz.ntmps17
  go_wp2_with (first | (go_at_call 41; with_reducible refine crv (k1.out _ gw) fun _ _ => ?_; dsimp only) | (go_at_call 42; with_reducible refine crv (k2.out _ gw) fun _ _ => ?_; dsimp only))
  refine bodyPost_ret (v := .tuple #[.bool false, .int .i64 1]) (by simp [results, Tryz.results17, go_sem]) rfl ?_
  exact Ret.mk' rfl gw
 ·rw [if_pos rfl, Bool.false_and] at hres
  subst hres
  clear hu hv hr hr' hrp hmm
  go_enter Tryz.func17, Tryz.ntmps17
  go_wp2_with (first | (go_at_call 41; with_reducible refine crv (k1.out _ gw) fun _ _ => ?_; dsimp only) | (go_at_call 42; with_reducible refine crv (k2.out _ gw) fun _ _ => ?_; dsimp only))
  refine bodyPost_ret (v := .tuple #[.bool false, .int .i64 0]) (by simp [results, Tryz.results17, go_sem]) rfl ?_
  exact Ret.mk' rfl gw
 ·rw [if_pos rfl, Bool.true_and] at hres
  obtain ⟨hl, hl', _⟩ := asked_split hu
  have hlen := list_len hl
  have hlen' := list_len hl'
  have HR := hide hr
  have HR' := hide hr'
  have HRP := hide hrp
  have HV := hide hv
  have hpl := ord_len hv
  have HL := hide hl
  have HRES := hide hres
  have ki := hide (fun W (hg : Grew w W) => index_v fs A c W (hr.up hg) hl)
  have ki' := hide (fun W (hg : Grew w W) => index_v gs A' c' W (hr'.up hg) hl')
  clear hu hv hr hr' hrp hl hl' hres
  refine (callsIn_wide (n := 9)).1 ?_
  refine callsIn_of_wp_marks Tryz.func17 rfl trivial ?_ rfl
  simp only [Tryz.ntmps17, List.size_toArray, List.length_cons, List.length_nil, Nat.reduceAdd, Nat.reduceSub, Array.replicate_succ, Array.replicate_zero, List.push_toArray, List.append_toArray, List.nil_append, List.cons_append]
  gi_wp2_with fail
  refine ⟨trivial, ?_⟩
  refine (callsIn_wide.2 (k1.out _ gw)).mono ?_
  rintro e w1 ⟨rfl, hg1⟩
  have hb1 : Bx w1 w.heap.size [.cells #[.bool false] 4 (0, 0), .cells #[.int .i64 0] 29 (0, 0)] := by refine (Bx.allocs _ w).1.grew ?_; simp only [List.foldl]; exact Grew.trans gw hg1
  have Hb1 := hide hb1
  have HG1 : Hid (Grew w w1) := hide (Grew.trans gw hg1)
  clear hb1 hg1 k1
  dsimp only
  gi_wp2_with fail
  refine ⟨trivial, ?_⟩
  refine (callsIn_wide.2 (k2.out _ (HG1.out.trans gw))).mono ?_
  rintro e w2 ⟨rfl, hg2⟩
  have HG2 : Hid (Grew w1 w2) := hide (Grew.trans gw hg2)
  clear hg2 k2
  dsimp only
  gi_wp2_with fail
  refine ⟨trivial, ?_⟩
  refine (callsIn_wide.2 (ki.out _ (HG1.out.trans (HG2.out.trans gw)))).mono ?_
  rintro e w3 ⟨b1, rfl, lb1, hmp1, hg3⟩
  have HG3 : Hid (Grew w2 w3) := hide (Grew.trans gw hg3)
  have HM1 := hide hmp1
  have hs1 := HG1.out.below.size
  have hs2 := HG2.out.below.size
  have hlb1 : w.heap.size + 2 ≤ b1 := by
   have h1 := blk_lt (Hb1.out 1 _ rfl)
   have h2 : w2.heap.size ≤ b1 := by simpa [hs_dr] using lb1
   omega
  clear hg3 hmp1 lb1 ki
  dsimp only
  gi_wp2_with fail
  refine ⟨trivial, ?_⟩
  refine (callsIn_wide.2 (ki'.out _ (HG1.out.trans (HG2.out.trans (HG3.out.trans gw))))).mono ?_
  rintro e w4 ⟨b2, rfl, lb2, hmp2, hg4⟩
  have HG4 : Hid (Grew w3 w4) := hide (Grew.trans gw hg4)
  have HM2 := hide hmp2
  have hs3 := HG3.out.below.size
  have hlb2 : w.heap.size + 2 ≤ b2 := by
   have h1 := blk_lt (Hb1.out 1 _ rfl)
   have h2 : w3.heap.size ≤ b2 := by simpa [hs_dr] using lb2
   omega
  clear hg4 hmp2 lb2 ki'
  dsimp only
  gi_wp2_with fail
  refine wpIn_name ?_
  intro a0 Wn ha hW
  have HGn : Hid (Grew w4 Wn) := hide (by rw [← hW]; exact gw)
  have HMn : Hid (MapIs Wn w4.heap.size 0 (provedM (ps.take 0))) := hide (by rw [← hW]; exact (MapIs.made w4).up gw)
  have HYn : Hid (Boxed Wn (w4.heap.size + 1) 81 (.map (some w4.heap.size))) := hide (by rw [← hW]; exact heap_alloc_at _ _ _ (by simp))
  have hsn : Wn.heap.size = w4.heap.size + 2 := by rw [← hW]; simp
  have HW4 : Hid (Grew w w4) := hide (HG1.out.trans (HG2.out.trans (HG3.out.trans HG4.out)))
  have HB4 : Hid (Bx w4 w.heap.size [.cells #[.bool false] 4 (0, 0), .cells #[.int .i64 0] 29 (0, 0)]) := hide (Hb1.out.grew (HG2.out.trans (HG3.out.trans HG4.out)))
  have HM1' : Hid (MapIs w4 b1 fs.length (idxM fs)) := hide (HM1.out.up HG4.out)
  have hs4 := HG4.out.below.size
  have hb12 : w.heap.size + 2 ≤ w4.heap.size := by have := HM1'.out.lt; omega
  clear hW HM1 hs1 hs2 hs3 HG1 HG2 HG3 HG4 Hb1 hmm
  subst ha
  gi_loopw [35] (fun i wr => ∃ k : Nat, k ≤ ps.length ∧ i = .int .i64 k ∧ AppG (goodTo fs gs ps k = true) ∧ Grew w4 wr ∧ MapIs wr w4.heap.size k (provedM (ps.take k)) ∧ Boxed wr (w4.heap.size + 1) 81 (.map (some w4.heap.size))) (fun i _ => ps.length - (intOf i).toNat)
  case atStart => exact ⟨0, by omega, rfl, rfl, HGn.out, HMn.out, HYn.out⟩
  case round =>
   obtain ⟨k, hk, rfl, hall, hg, hmp, hbx⟩ := hrel
   have HA := hide hall.stop
   have HG := hide hg
   have HM := hide hmp
   have HY := hide hbx
   have HWr : Hid (Grew w wr) := hide (HW4.out.trans hg)
   have b0 : Boxed wr w.heap.size 4 (.bool false) := bxd_grew (HB4.out.box 0 rfl) hg
   have b1' : Boxed wr (w.heap.size + 1) 29 (.int .i64 0) := bxd_grew (HB4.out.box 1 rfl) hg
   have c0 := b0.cell
   have f0 := b0.frozen
   have c1 := b1'.cell
   have f1 := b1'.frozen
   have l0 := b0.lt
   have l1 := b1'.lt
   have lY := hbx.lt
   have lY0 : w4.heap.size < wr.heap.size := by omega
   have HB0 := hide b0
   have HB1 := hide b1'
   clear hall hg hmp hbx b0 b1'
   by_cases hlt : k < ps.length
   ·obtain ⟨b, off, hA, hb, h0, h1⟩ := ptAt (HRP.out.up HWr.out) (cor_get hlt)
    have hix := idx_run (cap := cp) Tryz.underlying24 Tryz.sizeOf64 hA.out hlt
    have hgs := goodTo_succ hlt HA.out
    have hps := provedM_succ hlt
    have hod := ord_at HV.out hlt
    have hpos := ord_pos HV.out hlt
    have hno : goodP fs gs (cor ps k) = false → res = (false, 0) := fun e => by
     rw [← HRES.out, good_no hlt e]
     rfl
    obtain ⟨p, hp⟩ : ∃ p, cor ps k = p := ⟨_, rfl⟩
    rw [hp] at h0 h1 hgs hps hod hpos hno
    obtain ⟨p1, p2⟩ := p
    dsimp only at h0 h1 hps hod hpos
    have hwf1 : (Lit.int .i64 p1).wf = true := wf64 (by omega)
    have hwf2 : (Lit.int .i64 p2).wf = true := wf64 (by omega)
    obtain ⟨f, u, HL1, hfu⟩ : ∃ f u, Hid ((idxM fs p1).getD (.agg #[.int .i64 0, .int .i64 0, .int .i64 0, .int .i64 0, .int .i64 0, .slice none 0 0, .int .i64 0, .int .i64 0, .slice none 0 0]) = f.val ∧ (idxM fs p1).isSome = u) ∧ ((u = false ∧ findF fs p1 = none) ∨ (u = true ∧ findF fs p1 = some f)) := look_case fs p1
    obtain ⟨g, v, HL2, hgv⟩ : ∃ f u, Hid ((idxM gs p2).getD (.agg #[.int .i64 0, .int .i64 0, .int .i64 0, .int .i64 0, .int .i64 0, .slice none 0 0, .int .i64 0, .int .i64 0, .slice none 0 0]) = f.val ∧ (idxM gs p2).isSome = u) ∧ ((u = false ∧ findF gs p2 = none) ∨ (u = true ∧ findF gs p2 = some f)) := look_case gs p2
    have HPS := hide hps
    have HGS := hide hgs
    clear hA hps hgs hp hod hpos
    have hcase : (u = false ∧ res = (false, 0)) ∨ (u = true ∧ v = false ∧ res = (false, 0)) ∨ (u = true ∧ v = true ∧ findF fs p1 = some f ∧ findF gs p2 = some g) := by
     rcases hfu with ⟨rfl, e⟩ | ⟨rfl, e⟩
     ·exact .inl ⟨rfl, hno (by unfold goodP; rw [e])⟩
     ·rcases hgv with ⟨rfl, e'⟩ | ⟨rfl, e'⟩
      ·exact .inr (.inl ⟨rfl, rfl, hno (by unfold goodP; rw [e, e'])⟩)
      ·exact .inr (.inr ⟨rfl, rfl, e, e'⟩)
    clear hfu hgv
    rcases hcase with ⟨rfl, hr⟩ | ⟨rfl, rfl, hr⟩ | ⟨rfl, rfl, hf, hg⟩
    ·subst hr
     clear hno
     gi_wp2_with (first | (gi_at_lookup; (refine wpListIn_look rfl (.tmp 40) (.tmp 42) 79 rfl 52 Tryz.underlying79 (Tryz.zeroValue52 _) rfl ((HM1'.out.up HG.out).up gw) _ rfl hwf1 ?_; rw [HL1.out.1, HL1.out.2])) | (gi_at_lookup; refine wpListIn_look rfl (.tmp 47) (.tmp 49) 79 rfl 52 Tryz.underlying79 (Tryz.zeroValue52 _) rfl ((HM2.out.up HG.out).up gw) _ rfl hwf2 ?_; rw [HL2.out.1, HL2.out.2]))
     refine ⟨trivial, ?_⟩
     gi_wp2_with fail
     refine bpm_name ?_
     intro W0 hW
     have hg9 : Grew ((wr.setCell ⟨w.heap.size, 0, none⟩ (.bool false)).setCell ⟨w.heap.size + 1, 0, none⟩ (.int .i64 0)) W0 := by rw [← hW]; exact gw
     obtain ⟨hx, hy⟩ := two_set (u := .bool false) (u' := .int .i64 0) HB0.out HB1.out
     have e3 := (bxd_grew hx hg9).cell
     have e4 := (bxd_grew hy hg9).cell
     have hb9 := two_below (u := .bool false) (u' := .int .i64 0) HWr.out
     clear hW
     refine ⟨.tuple #[.bool false, .int .i64 0], by simp [results, Tryz.results17, go_sem, e3, e4], ?_⟩
     exact Ret.mk' rfl (Grew.of_below (hb9.trans (hg9.below.mono hb9.size)))
    ·subst hr
     clear hno
     gi_wp2_with (first | (gi_at_lookup; (refine wpListIn_look rfl (.tmp 40) (.tmp 42) 79 rfl 52 Tryz.underlying79 (Tryz.zeroValue52 _) rfl ((HM1'.out.up HG.out).up gw) _ rfl hwf1 ?_; rw [HL1.out.1, HL1.out.2])) | (gi_at_lookup; refine wpListIn_look rfl (.tmp 47) (.tmp 49) 79 rfl 52 Tryz.underlying79 (Tryz.zeroValue52 _) rfl ((HM2.out.up HG.out).up gw) _ rfl hwf2 ?_; rw [HL2.out.1, HL2.out.2]))
     refine ⟨trivial, ?_⟩
     gi_wp2_with fail
     refine bpm_name ?_
     intro W0 hW
     have hg9 : Grew ((wr.setCell ⟨w.heap.size, 0, none⟩ (.bool false)).setCell ⟨w.heap.size + 1, 0, none⟩ (.int .i64 0)) W0 := by rw [← hW]; exact gw
     obtain ⟨hx, hy⟩ := two_set (u := .bool false) (u' := .int .i64 0) HB0.out HB1.out
     have e3 := (bxd_grew hx hg9).cell
     have e4 := (bxd_grew hy hg9).cell
     have hb9 := two_below (u := .bool false) (u' := .int .i64 0) HWr.out
     clear hW
     refine ⟨.tuple #[.bool false, .int .i64 0], by simp [results, Tryz.results17, go_sem, e3, e4], ?_⟩
     exact Ret.mk' rfl (Grew.of_below (hb9.trans (hg9.below.mono hb9.size)))
    ·have hfm := findF_mem hf
     have hgm := findF_mem hg
     obtain ⟨o, ho⟩ : ∃ o, metB f g = o := ⟨_, rfl⟩
     have km := hide (fun W (hg : Grew w W) => met_v f g o W ((HR.out.each _ hfm).up hg) ((HR'.out.each _ hgm).up hg) ho)
     have hgp : goodP fs gs (p1, p2) = o := by
      unfold goodP
      rw [hf, hg]
      exact ho
     have HGP := hide hgp
     have HNO := hide hno
     have c5 := HY.out.cell
     clear hf hg hfm hgm ho hgp hno
     cases o
     ·have hr := HNO.out HGP.out
      subst hr
      gi_wp2_with (first | (gi_at_lookup; (refine wpListIn_look rfl (.tmp 40) (.tmp 42) 79 rfl 52 Tryz.underlying79 (Tryz.zeroValue52 _) rfl ((HM1'.out.up HG.out).up gw) _ rfl hwf1 ?_; rw [HL1.out.1, HL1.out.2])) | (gi_at_lookup; refine wpListIn_look rfl (.tmp 47) (.tmp 49) 79 rfl 52 Tryz.underlying79 (Tryz.zeroValue52 _) rfl ((HM2.out.up HG.out).up gw) _ rfl hwf2 ?_; rw [HL2.out.1, HL2.out.2]))
      refine ⟨trivial, ?_⟩
      refine (callsIn_wide.2 (km.out _ (HWr.out.trans gw))).mono ?_
      rintro e w' ⟨rfl, ⟨n5, os5⟩, rfl⟩
      dsimp only
      gi_wp2_with fail
      refine bpm_name ?_
      intro W0 hW
      have hg9 : Grew ((wr.setCell ⟨w.heap.size, 0, none⟩ (.bool false)).setCell ⟨w.heap.size + 1, 0, none⟩ (.int .i64 0)) W0 := by rw [← hW]; exact gw
      obtain ⟨hx, hy⟩ := two_set (u := .bool false) (u' := .int .i64 0) HB0.out HB1.out
      have e3 := (bxd_grew hx hg9).cell
      have e4 := (bxd_grew hy hg9).cell
      have hb9 := two_below (u := .bool false) (u' := .int .i64 0) HWr.out
      clear hW
      refine ⟨.tuple #[.bool false, .int .i64 0], by simp [results, Tryz.results17, go_sem, e3, e4], ?_⟩
      exact Ret.mk' rfl (Grew.of_below (hb9.trans (hg9.below.mono hb9.size)))
     ·gi_wp2_with (first | (gi_at_lookup; (refine wpListIn_look rfl (.tmp 40) (.tmp 42) 79 rfl 52 Tryz.underlying79 (Tryz.zeroValue52 _) rfl ((HM1'.out.up HG.out).up gw) _ rfl hwf1 ?_; rw [HL1.out.1, HL1.out.2])) | (gi_at_lookup; refine wpListIn_look rfl (.tmp 47) (.tmp 49) 79 rfl 52 Tryz.underlying79 (Tryz.zeroValue52 _) rfl ((HM2.out.up HG.out).up gw) _ rfl hwf2 ?_; rw [HL2.out.1, HL2.out.2]))
      refine ⟨trivial, ?_⟩
      refine (callsIn_wide.2 (km.out _ (HWr.out.trans gw))).mono ?_
      rintro e w' ⟨rfl, ⟨n5, os5⟩, rfl⟩
      dsimp only
      gi_wp2_with (gi_at_mapUpdate; refine AppG3.stop ?_)
      refine AppG3.go ?_
      refine wpListIn_store (by rfl) (.tmp 66) (.tmp 68) (.const (.bool true)) 81 (by rfl) 4 Tryz.underlying81 (by rfl) (HM.out.up gw) (by unfold maxLen; omega) p1 (.bool true) (by rfl) (by rfl) hwf1 ?_
      intro w5 hm5 hg5
      have HG5 : Hid (Grew w4 w5) := hide (Grew.of_below ((HG.out.trans gw).below.grown hg5 (HG.out.trans gw).below.size (fun q hq => by injection hq with hq; omega)))
      have HM5 : Hid (MapIs w5 w4.heap.size (k + 1) (provedM (ps.take (k + 1)))) := hide (by rw [HPS.out]; exact hm5)
      have HY5 : Hid (Boxed w5 (w4.heap.size + 1) 81 (.map (some w4.heap.size))) := hide ((hg5.block _ (blk_lt (bxd_grew HY.out gw)) (fun e => by injection e with e; omega)).trans (bxd_grew HY.out gw))
      clear hm5 hg5
      gi_wp2_with fail
      go_roundw
      case rel => exact ⟨k + 1, by omega, by go_num, show goodTo fs gs ps (k + 1) = true from HGS.out.trans HGP.out, HG5.out, HM5.out, HY5.out⟩
      case measure => simp [intOf]; omega
   ·obtain rfl : k = ps.length := by omega
    have hall : ps.all (goodP fs gs) = true := by
     have := HA.out
     unfold goodTo at this
     rwa [List.take_length] at this
    have hrr : (coverB fs ps (countsTo fs lim fs.length), (0 : Int)) = res := by rw [← HRES.out, hall, Bool.true_and]
    have HRR := hide hrr
    rw [List.take_length] at HM
    clear hall hrr HRES HM1' HM2 HGn HMn HYn hsn
    gi_wp2_with fail
    refine ⟨trivial, ?_⟩
    refine (callsIn_wide.2 (dall_any _ _ _ _ _)).mono ?_
    rintro e w'' ⟨rfl, rfl⟩
    dsimp only
    gi_wp2_with fail
    refine wpIn_name ?_
    intro a0 W0 ha hW
    have hg40 : Grew wr W0 := by rw [← hW]; exact gw
    have hg0 : Grew w W0 := HWr.out.trans hg40
    have hb0 : Bx W0 w.heap.size [.cells #[.bool false] 4 (0, 0), .cells #[.int .i64 0] 29 (0, 0)] := HB4.out.grew (HG.out.trans hg40)
    have hyb : Bx W0 (w4.heap.size + 1) [.cells #[.map (some w4.heap.size)] 81 (0, 0)] := fun i o ho => by
     cases i with
     | zero => injection ho with ho; rw [← ho]; exact bxd_grew HY.out hg40
     | succ i => simp at ho
    have hmp0 : MapIs W0 w4.heap.size ps.length (provedM ps) := HM.out.up hg40
    have hk0 : W0.heap[wr.heap.size]? = some (.cells #[.slice A fs.length c, .int .i64 lim] 73 (0, 0)) := by rw [← hW]; exact heap_alloc_at _ _ _ (by simp)
    have hszW : wr.heap.size < W0.heap.size := blk_lt hk0
    clear hW hg40 c0 f0 c1 f1
    obtain ⟨Z, hZ⟩ : ∃ Z, wr.heap.size = Z := ⟨_, rfl⟩
    rw [hZ] at hk0 hszW
    have ha2 : a0.eval (.tmp 73) = .func (.func 65) #[] #[.pointer (some ⟨Z, 0, none⟩)] := by rw [← ha, ← hZ]; simp [Act.eval]
    refine wpIn_rangeFunc_ownH (n := 9) rfl (by omega) (gf := 65) (lb := #[.pointer (some ⟨Z, 0, none⟩)]) ha2 trivial (enters_of Tryz.func65 (by kernel_rfl) rfl)
     (dall_stops 8 w.heap.size (fun _ _ => False) fs A c Z lim W0 (fun b T hb => hb.elim) (fun T hb => hb) (fun b hb hM => hM) hk0 (HR.out.row.grew hg0 (Nat.le_refl _)) (by omega) (by omega))
     (fun h k => h.trans k) KpM.bk (Below.refl _ _) (fun _ => rfl)
     (fun pre W => (((Below w.heap.size w W ∧ Bx W w.heap.size _) ∧ Bx W (w4.heap.size + 1) _) ∧ MapIs W w4.heap.size ps.length (provedM ps)) ∧ ∀ i ∈ pre, provedB ps (fAt fs (ciN i)).id = true)
     (fun e pre W => ((Below w.heap.size w W ∧ Boxed W w.heap.size 4 (.bool false)) ∧ Boxed W (w.heap.size + 1) 29 (.int .i64 0)) ∧ (e = .ret ∧ coverB fs ps (countsTo fs lim fs.length) = false))
     (OwnFrom.and (OwnFrom.and (OwnFrom.and (OwnFrom.and (ownFrom_below (Nat.le_refl _) hg0.below.size) (Bx.own (by simp; omega))) (Bx.own (by simp; omega))) (MapIs.own (by omega))) (ownFrom_pure _))
     (fun q => OwnFrom.and (OwnFrom.and (OwnFrom.and (ownFrom_below (Nat.le_refl _) hg0.below.size) (fun s X Y row h1 hg hr => Own.from (boxed_own (β := Unit) _ _ (fun _ => _)) _ () X Y row h1 hg hr)) (fun s X Y row h1 hg hr => Own.from (boxed_own (β := Unit) _ _ (fun _ => _)) _ () X Y row h1 hg hr)) (ownFrom_pure _))
     ⟨⟨⟨⟨hg0.below, hb0⟩, hyb⟩, hmp0⟩, fun i hi => by cases hi⟩
     (fun x a' W => ∃ B, W.heap[B]? = some (.cells #[.int .i64 (fAt fs (ciN x)).id, .int .i64 (fAt fs (ciN x)).kind, .int .i64 (fAt fs (ciN x)).x, .int .i64 (fAt fs (ciN x)).y, .int .i64 (fAt fs (ciN x)).rad, .slice (fAt fs (ciN x)).aA (fAt fs (ciN x)).area.length (fAt fs (ciN x)).ac, .int .i64 (fAt fs (ciN x)).dep, .int .i64 (fAt fs (ciN x)).sym, .slice (fAt fs (ciN x)).sA (fAt fs (ciN x)).secs.length (fAt fs (ciN x)).sc] 52 (0, 0)) ∧ a' = { tmps := (a0.tmps.setIfInBounds 74 (fAt fs (ciN x)).val).setIfInBounds 19 (.pointer (some ⟨B, 0, none⟩)), defers := [] })
     (fun x a' => by
      rintro s X Y row ⟨B, h1, h2⟩ hg hr
      exact ⟨B, cells_own h1 hg (fun r e => (hr r e).2), h2⟩)
     ?assign ?body ?done ?stop
    case assign =>
     rintro l pre x W K ⟨⟨⟨⟨hB, hb⟩, hd⟩, hmp⟩, hp⟩ hK
     rw [show encC fs lim x = #[(fAt fs (ciN x)).val] from rfl, asg1]
     subst ha
     simp only [List.setIfInBounds_toArray, List.set_cons_succ, List.set_cons_zero] at hK ⊢
     have hKK := hide hK
     clear hK
     gi_wp2_with fail
     have hgg : Grew W (W.alloc (.cells #[.int .i64 (fAt fs (ciN x)).id, .int .i64 (fAt fs (ciN x)).kind, .int .i64 (fAt fs (ciN x)).x, .int .i64 (fAt fs (ciN x)).y, .int .i64 (fAt fs (ciN x)).rad, .slice (fAt fs (ciN x)).aA (fAt fs (ciN x)).area.length (fAt fs (ciN x)).ac, .int .i64 (fAt fs (ciN x)).dep, .int .i64 (fAt fs (ciN x)).sym, .slice (fAt fs (ciN x)).sA (fAt fs (ciN x)).secs.length (fAt fs (ciN x)).sc] 52)) := gw
     exact hKK.out _ _ (hgg.keepsFrom _) (KpM.grew hgg) ⟨⟨⟨⟨hB.trans (hgg.below.mono hB.size), hb.grew hgg⟩, hd.grew hgg⟩, hmp.up hgg⟩, hp⟩ ⟨W.heap.size, heap_alloc_new _ _, rfl⟩
    case body =>
     rintro l pre x a' W hl2 _ ⟨⟨⟨⟨hB, hb⟩, hd⟩, hmp⟩, hp⟩ ⟨B, hx, rfl⟩ hlt
     subst ha
     have hid := list_ids HL.out (k := ciN x) x.1.2
     have hwf : (Lit.int .i64 (fAt fs (ciN x)).id).wf = true := wf64 (by omega)
     obtain ⟨o, ho⟩ : ∃ o, provedB ps (fAt fs (ciN x)).id = o := ⟨_, rfl⟩
     have hlk : (Instr.lookup 81 (.map (some w4.heap.size)) (.int .i64 (fAt fs (ciN x)).id) false).run Tryz.prog W = .ok (.bool o) W := by
      have h1 := MapIs.look1 hmp Tryz.underlying81 (Tryz.zeroValue4 W) hwf
      rw [h1]
      unfold provedM
      rw [ho]
      cases o <;> rfl
     have hnext : o = true → ∀ i ∈ pre ++ [x], provedB ps (fAt fs (ciN i)).id = true := fun h0 i hi => by
      rcases List.mem_append.1 hi with h | h
      ·exact hp i h
      ·obtain rfl := List.mem_singleton.1 h
       rw [ho]; exact h0
     have hstop : o = false → coverB fs ps (countsTo fs lim fs.length) = false := fun h0 => by
      unfold coverB
      rw [List.all_eq_false]
      exact ⟨ciN x, List.mem_filter.2 ⟨List.mem_range.2 x.1.2, x.2⟩, by rw [ho, h0]; simp⟩
     have HNEXT := hide hnext
     have HSTOP := hide hstop
     clear hnext hstop hp ho hid hwf
     obtain ⟨f, hf⟩ : ∃ f, fAt fs (ciN x) = f := ⟨_, rfl⟩
     rw [hf] at hx hlk
     simp only [hf]
     have c0 : W.cell? ⟨w.heap.size, 0, none⟩ = _ := (hb.box 0 rfl).cell
     have f0 : W.frozen? ⟨w.heap.size, 0, none⟩ = _ := (hb.box 0 rfl).frozen
     have c1 : W.cell? ⟨w.heap.size + 1, 0, none⟩ = _ := (hb.box 1 rfl).cell
     have f1 : W.frozen? ⟨w.heap.size + 1, 0, none⟩ = _ := (hb.box 1 rfl).frozen
     have c5 : W.cell? ⟨w4.heap.size + 1, 0, none⟩ = _ := (hd.box 0 rfl).cell
     have d0 : W.cell? ⟨B, 0, none⟩ = some _ := blk_cell hx 0
     have lB := blk_lt hx
     have l0 := (hb.box 0 rfl).lt
     have l1 := (hb.box 1 rfl).lt
     have l5 := (hd.box 0 rfl).lt
     have HB := hide hB
     have Hb := hide hb
     have Hd := hide hd
     have HMP := hide hmp
     clear hB hb hd hmp hx hf hlt
     try dsimp only
     simp only [List.setIfInBounds_toArray, List.set_cons_succ, List.set_cons_zero]
     cases o
     ·have HS2 := hide (HSTOP.out rfl)
      clear HNEXT HSTOP
      gi_wp2_with fail
      have hx1 : Boxed W w.heap.size 4 (.bool false) := Hb.out.box 0 rfl
      have hx2 : Boxed W (w.heap.size + 1) 29 (.int .i64 0) := Hb.out.box 1 rfl
      obtain ⟨y1, y2⟩ := two_set (u := .bool false) (u' := .int .i64 0) hx1 hx2
      exact ⟨(KeepsFrom.setCell _ _ _ _).trans (KeepsFrom.setCell _ _ _ _), ⟨⟨(HB.out.setCell (p := ⟨w.heap.size, 0, none⟩) (by simp) _).setCell (p := ⟨w.heap.size + 1, 0, none⟩) (by simp) _, y1⟩, y2⟩, rfl, HS2.out⟩
     ·have HN2 := hide (HNEXT.out rfl)
      clear HNEXT HSTOP
      gi_wp2_with fail
      have hgg : Grew W W := Grew.refl _
      exact ⟨hgg.keepsFrom _, KpM.grew hgg, ⟨⟨⟨⟨HB.out, Hb.out⟩, Hd.out⟩, HMP.out⟩, HN2.out⟩⟩
    case done =>
     subst ha
     rintro D xs W hD hS ⟨⟨⟨⟨hB, hb⟩, hd⟩, hmp⟩, hp⟩ hK
     have hcov : coverB fs ps (countsTo fs lim fs.length) = true := by
      unfold coverB
      rw [List.all_eq_true]
      intro i hi
      rw [← hS] at hi
      obtain ⟨j, hj, rfl⟩ := List.mem_map.1 hi
      exact hp j hj
     have hrr := HRR.out
     rw [hcov] at hrr
     subst hrr
     have b1' : Boxed W w.heap.size 4 (.bool false) := hb.box 0 rfl
     have b2' : Boxed W (w.heap.size + 1) 29 (.int .i64 0) := hb.box 1 rfl
     have c1 := b1'.cell
     have f1 := b1'.frozen
     have c2 := b2'.cell
     have f2 := b2'.frozen
     have l1 := b1'.lt
     have l2 := b2'.lt
     have HB := hide hB
     have HX1 := hide b1'
     have HX2 := hide b2'
     clear hB hb hd hmp hS hp hcov b1' b2' HRR
     gi_wp2_with fail
     have hK2 := (KeepsOthers.setCell (W.setCell ⟨w.heap.size, 0, none⟩ (.bool true)) ⟨w.heap.size + 1, 0, none⟩ (.int .i64 0)).same D _ ((KeepsOthers.setCell W ⟨w.heap.size, 0, none⟩ (.bool true)).same D _ hK rfl) rfl
     refine ⟨by simp, .inl ⟨_, _, rfl, run_takeDeferred hK2, ?_⟩⟩
     have hb5 := ((HB.out.setCell (p := ⟨w.heap.size, 0, none⟩) (by simp) (.bool true)).setCell (p := ⟨w.heap.size + 1, 0, none⟩) (by simp) (.int .i64 0)).trans (belowK_b (w := w) (Nat.le_refl _) _ D _ (.deferred none) (by omega) hK2 rfl rfl)
     obtain ⟨y1, y2⟩ := two_set (u := .bool true) (u' := .int .i64 0) HX1.out HX2.out
     have e3 := (putObj_cell (W := (W.setCell ⟨w.heap.size, 0, none⟩ (.bool true)).setCell ⟨w.heap.size + 1, 0, none⟩ (.int .i64 0)) (D := D) (i := 0) (o := .deferred none) (b := w.heap.size) (by omega)).trans y1.cell
     have e4 := (putObj_cell (W := (W.setCell ⟨w.heap.size, 0, none⟩ (.bool true)).setCell ⟨w.heap.size + 1, 0, none⟩ (.int .i64 0)) (D := D) (i := 0) (o := .deferred none) (b := w.heap.size + 1) (by omega)).trans y2.cell
     refine ⟨.tuple #[.bool true, .int .i64 0], by simp [results, Tryz.results17, go_sem, e3, e4], ?_⟩
     exact Ret.mk' rfl (Grew.of_below hb5)
    case stop =>
     subst ha
     rintro D e pre W hD ⟨k, hk, hr⟩ ⟨⟨⟨hB, hb1⟩, hb2⟩, rfl, hun⟩ hK
     have hrr := HRR.out
     rw [hun] at hrr
     subst hrr
     have c1 := hb1.cell
     have c2 := hb2.cell
     have HB := hide hB
     clear hB hb1 hb2 hr hk HRR hun
     gi_wp2_with fail
     refine ⟨by simp, .inl ⟨_, _, rfl, run_takeDeferred hK, ?_⟩⟩
     have hb5 := HB.out.trans (belowK_b (w := w) (Nat.le_refl _) _ D _ (.deferred none) (by omega) hK rfl rfl)
     have e3 := (putObj_cell (W := W) (D := D) (i := 0) (o := .deferred none) (b := w.heap.size) (by omega)).trans c1
     have e4 := (putObj_cell (W := W) (D := D) (i := 0) (o := .deferred none) (b := w.heap.size + 1) (by omega)).trans c2
     refine ⟨.tuple #[.bool false, .int .i64 0], by simp [results, Tryz.results17, go_sem, e3, e4], ?_⟩
     exact Ret.mk' rfl (Grew.of_below hb5)
end Go.Proofs.YtdoiaagajkabcaaGreat
