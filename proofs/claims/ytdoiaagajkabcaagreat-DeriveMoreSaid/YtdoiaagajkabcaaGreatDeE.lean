/- Package derive: Prove. -/
import Derived.Test.YtdoiaagajkabcaaGreatDeD
set_option linter.unusedSimpArgs false
set_option linter.unusedVariables false
set_option maxHeartbeats 8000000
set_option maxRecDepth 100000
namespace Go.Proofs.YtdoiaagajkabcaaGreat
open Go.RowKit Go.Sort Go.Lib
attribute [local go_sem] Steady steadyUpon
attribute [local go_sem ↓] hs_dr lt_add_r lt_add_r2 lt_add_r3 lt_add_r4 lt_add_r5 lt_add_r6
attribute [local go_sem] cell?_gd frozen?_gd setCell_gd size_grow tape_grow cell?_grow' frozen?_grow' setCell_grow' grow_grow grow_dr grow_drew dr_dr dr_drew drew_dr dr_alloc dr_setCell dr_cell dr_frozen dr_tape dr_drawn
attribute [local irreducible] wpSteady
attribute [local go_sem] Oper.semAt_some
/-- What stands for each. -/
def prvS (fs gs : List FV) (is : List Nat) : List Pt := is.map fun i => ((fAt fs i).id, byOf (fAt fs i) gs)
def proveOf (fs gs : List FV) (lim : Int) : List Pt × Int := if askedOf fs gs lim = true then (if unpS fs gs (countsTo fs lim fs.length) = [] then (prvS fs gs (countsTo fs lim fs.length), 0) else ([], 19)) else ([], 1)
theorem prvS_snoc (fs gs : List FV) (is : List Nat) (i : Nat) : prvS fs gs (is ++ [i]) = prvS fs gs is ++ [((fAt fs i).id, byOf (fAt fs i) gs)] := by
 unfold prvS
 rw [List.map_append]
 rfl
theorem unp_some {fs gs : List FV} {lim : Int} (x : CI fs lim) (h : byOf (fAt fs (ciN x)) gs = 0) : unpS fs gs (countsTo fs lim fs.length) ≠ [] := by
 intro e
 have h1 : ciN x ∈ countsTo fs lim fs.length := List.mem_filter.2 ⟨List.mem_range.2 x.1.2, x.2⟩
 unfold unpS at e
 rw [List.map_eq_nil_iff, List.filter_eq_nil_iff] at e
 exact e _ h1 (by simpa using h)
theorem unp_none {fs gs : List FV} {is : List Nat} (h : ∀ i, i ∈ is → byOf (fAt fs i) gs ≠ 0) : unpS fs gs is = [] := by
 unfold unpS
 rw [List.map_eq_nil_iff, List.filter_eq_nil_iff]
 intro i hi
 simpa using h i hi
theorem Prove_v (fs gs : List FV) (A A' : Option Addr) (c c' : Nat) (lim : Int) (w : World) (hr : FRd w w.heap.size A fs) (hr' : FRd w w.heap.size A' gs) (hc : fs.length ≤ 100000000000) (hc' : gs.length ≤ 100000000000) :
  Calls Tryz.prog 22 #[.slice A fs.length c, .slice A' gs.length c', .int .i64 lim] w (ProofR w (proveOf fs gs lim)) := by
 have hm := hmix
 obtain ⟨i0, hi0, hz0, hz1, hz2⟩ := prInfo_parts
 obtain ⟨u, hu⟩ : ∃ u, askedOf fs gs lim = u := ⟨_, rfl⟩
 have k1 := hide (fun W (hg : Grew w W) => asked_v fs gs A A' c c' lim u W (hr.up hg) (hr'.up hg) (by omega) (by omega) hu)
 have hre : proveOf fs gs lim = if u = true then (if unpS fs gs (countsTo fs lim fs.length) = [] then (prvS fs gs (countsTo fs lim fs.length), 0) else ([], 19)) else ([], 1) := by
  unfold proveOf
  rw [hu]
 rw [hre]
 cases u
 ·rw [if_neg (by simp)]
  clear hu hr hr' hre
  go_enter Tryz.func22, Tryz.ntmps22
  go_wp2_with (go_at_call 41; with_reducible refine crv (k1.out _ gw) fun _ _ => ?_; dsimp only)
  refine bodyPost_ret (v := .tuple #[.slice none 0 0, .int .i64 1]) (by simp [results, Tryz.results22, go_sem]) rfl ?_
  exact ⟨none, 0, rfl, Rd.nil _ _ _ _, gw⟩
 ·rw [if_pos rfl]
  obtain ⟨res, hres⟩ : ∃ r, (if unpS fs gs (countsTo fs lim fs.length) = [] then (prvS fs gs (countsTo fs lim fs.length), (0 : Int)) else ([], 19)) = r := ⟨_, rfl⟩
  rw [hres]
  have HRES := hide hres
  obtain ⟨hv, hv', hl⟩ := asked_split hu
  have hlen := list_len hv
  have HR := hide hr
  have HR' := hide hr'
  clear hu hr hr' hre hv hv' hl hres
  refine (callsIn_wide (n := 9)).1 ?_
  refine callsIn_of_wp_marks Tryz.func22 rfl trivial ?_ rfl
  simp only [Tryz.ntmps22, List.size_toArray, List.length_cons, List.length_nil, Nat.reduceAdd, Nat.reduceSub, Array.replicate_succ, Array.replicate_zero, List.push_toArray, List.append_toArray, List.nil_append, List.cons_append]
  gi_wp2_with fail
  refine ⟨trivial, ?_⟩
  refine (callsIn_wide.2 (k1.out _ gw)).mono ?_
  rintro e w' ⟨rfl, hg1⟩
  obtain ⟨bx, hbx⟩ : ∃ bx : List Obj, bx = [.cells #[.slice A' gs.length c'] 22 (0, 0), .cells #[.slice none 0 0] 24 (0, 0), .cells #[.int .i64 0] 29 (0, 0)] := ⟨_, rfl⟩
  have hb1 : Bx w' w.heap.size bx := by rw [hbx]; refine (Bx.allocs _ w).1.grew ?_; simp only [List.foldl]; exact Grew.trans gw hg1
  have hw1 : Grew w w' := Grew.trans gw hg1
  have hz1' : w.heap.size + 3 ≤ w'.heap.size := by
   have := hb1 2 _ (by rw [hbx]; rfl)
   have := blk_lt this
   omega
  clear hg1
  subst hbx
  have Hb1 := hide hb1
  have Hw1 := hide hw1
  clear hb1 hw1 k1
  dsimp only
  gi_wp2_with fail
  refine ⟨trivial, ?_⟩
  refine (callsIn_wide.2 (dall_any _ _ _ _ _)).mono ?_
  rintro e w'' ⟨rfl, rfl⟩
  dsimp only
  gi_wp2_with fail
  refine wpIn_name ?_
  intro a0 W0 ha hW
  have hg01 : Grew w' W0 := by rw [← hW]; exact gw
  have hg0 : Grew w W0 := Hw1.out.trans hg01
  have hb0 := Hb1.out.grew hg01
  have hn0 : Boxed W0 w'.heap.size 24 (.slice none 0 0) := by rw [← hW]; exact (heap_alloc_old _ _ (by simp)).trans (heap_alloc_new _ _)
  have hk0 : W0.heap[w'.heap.size + 1]? = some (.cells #[.slice A fs.length c, .int .i64 lim] 73 (0, 0)) := by rw [← hW]; exact heap_alloc_at _ _ _ (by simp)
  have hsz : W0.heap.size = w'.heap.size + 2 := by rw [← hW]; simp
  clear hW hg01
  obtain ⟨Z, hZ⟩ : ∃ Z, w'.heap.size = Z := ⟨_, rfl⟩
  rw [hZ] at hn0 hk0 hsz hz1'
  have hdb : Bx W0 (Z + 1) [.cells #[.slice A fs.length c, .int .i64 lim] 73 (0, 0)] := fun i o ho => by
   cases i with
   | zero => injection ho with ho; rw [← ho]; exact hk0
   | succ i => simp at ho
  have ha2 : a0.eval (.tmp 19) = .func (.func 65) #[] #[.pointer (some ⟨Z + 1, 0, none⟩)] := by rw [← ha, ← hZ]; simp [Act.eval]
  refine wpIn_rangeFunc_ownH (n := 9) rfl (by omega) (gf := 65) (lb := #[.pointer (some ⟨Z + 1, 0, none⟩)]) ha2 trivial (enters_of Tryz.func65 (by kernel_rfl) rfl)
   (dall_stops 8 w.heap.size (MBox Z (Z + 2) 64) fs A c (Z + 1) lim W0 (fun b T hb => by rcases hb with rfl | ⟨h, _⟩ <;> omega) (fun T hb => by rcases hb with h | ⟨h, _⟩ <;> omega) (fun b hb hM => hM.elim (fun h => by omega) (fun h => absurd h.2 (by decide))) hk0 (HR.out.row.grew hg0 (Nat.le_refl _)) (by omega) (by omega))
   (fun h k => h.trans k) KpM.bk (Below.refl _ _) (fun _ => rfl)
   (fun pre W => (((Below w.heap.size w W ∧ Bx W w.heap.size _) ∧ Bx W (Z + 1) _) ∧ (∀ i ∈ pre, byOf (fAt fs (ciN i)) gs ≠ 0)) ∧ ∃ v, Boxed W Z 24 v ∧ W.ownsRow (Z + 2) 64 2 v (prvS fs gs (pre.map ciN)).length ((prvS fs gs (pre.map ciN)).flatMap encD) ∧ True)
   (fun e pre W => ((Below w.heap.size w W ∧ Boxed W (w.heap.size + 1) 24 (.slice none 0 0)) ∧ Boxed W (w.heap.size + 2) 29 (.int .i64 19)) ∧ (e = .ret ∧ unpS fs gs (countsTo fs lim fs.length) ≠ []))
   (OwnFrom.and (OwnFrom.and (OwnFrom.and (OwnFrom.and (ownFrom_below (Nat.le_refl _) hg0.below.size) (Bx.own (by simp; omega))) (Bx.own (by simp; omega))) (ownFrom_pure _)) (Own.from (holdsRow_own _ _ _ _ _ (fun pre : List (CI fs lim) => (prvS fs gs (pre.map ciN)).length) (fun pre : List (CI fs lim) => (prvS fs gs (pre.map ciN)).flatMap encD) (fun _ _ => True)) _))
   (fun q => OwnFrom.and (OwnFrom.and (OwnFrom.and (ownFrom_below (Nat.le_refl _) hg0.below.size) (fun s X Y row h1 hg hr => Own.from (boxed_own (β := Unit) _ _ (fun _ => _)) _ () X Y row h1 hg hr)) (fun s X Y row h1 hg hr => Own.from (boxed_own (β := Unit) _ _ (fun _ => _)) _ () X Y row h1 hg hr)) (ownFrom_pure _))
   ⟨⟨⟨⟨hg0.below, hb0⟩, hdb⟩, fun i hi => by cases hi⟩, _, hn0, World.ownsRow_nil _ _ _ _, trivial⟩
   (fun x a' W => ∃ B, W.heap[B]? = some (.cells #[.int .i64 (fAt fs (ciN x)).id, .int .i64 (fAt fs (ciN x)).kind, .int .i64 (fAt fs (ciN x)).x, .int .i64 (fAt fs (ciN x)).y, .int .i64 (fAt fs (ciN x)).rad, .slice (fAt fs (ciN x)).aA (fAt fs (ciN x)).area.length (fAt fs (ciN x)).ac, .int .i64 (fAt fs (ciN x)).dep, .int .i64 (fAt fs (ciN x)).sym, .slice (fAt fs (ciN x)).sA (fAt fs (ciN x)).secs.length (fAt fs (ciN x)).sc] 52 (0, 0)) ∧ B ≠ Z ∧ a' = { tmps := (a0.tmps.setIfInBounds 20 (fAt fs (ciN x)).val).setIfInBounds 9 (.pointer (some ⟨B, 0, none⟩)), defers := [] })
   (fun x a' => by
    rintro s X Y row ⟨B, h1, h2⟩ hg hr
    exact ⟨B, cells_own h1 hg (fun r e => (hr r e).2), h2⟩)
   ?assign ?body ?done ?stop
  case assign =>
   rintro l pre x W K ⟨⟨⟨⟨hB, hb⟩, hd⟩, hp⟩, v, hn, hown, _⟩ hK
   rw [show encC fs lim x = #[(fAt fs (ciN x)).val] from rfl, asg1]
   subst ha
   simp only [List.setIfInBounds_toArray, List.set_cons_succ, List.set_cons_zero] at hK ⊢
   have hKK := hide hK
   have hbl := hn.lt
   clear hK
   gi_wp2_with fail
   exact hKK.out _ _ ((KeepsOthers.alloc _ _).from _) (KpM.grew (Grew.alloc (Grew.refl _) _)) ⟨⟨⟨⟨hB.alloc hB.size _, hb.grew (Grew.alloc (Grew.refl _) _)⟩, hd.grew (Grew.alloc (Grew.refl _) _)⟩, hp⟩, v, hn.alloc _, hown.alloc _, trivial⟩ ⟨W.heap.size, heap_alloc_new _ _, by omega, rfl⟩
  case body =>
   rintro l pre x a' W hl2 _ ⟨⟨⟨⟨hB, hb⟩, hd⟩, hp⟩, v, hn, hown, _⟩ ⟨B, hx, hBne, rfl⟩ hlt
   subst ha
   have hfm : fAt fs (ciN x) ∈ fs := fAt_mem x.1.2
   have hsn := prvS_snoc fs gs (pre.map ciN) (ciN x)
   rw [show (pre.map ciN) ++ [ciN x] = (pre ++ [x]).map ciN by simp] at hsn
   have hol : (prvS fs gs (pre.map ciN)).length ≤ pre.length := by unfold prvS; simp
   have hpl : pre.length < 300 := by omega
   obtain ⟨out, hout⟩ : ∃ o, prvS fs gs (pre.map ciN) = o := ⟨_, rfl⟩
   rw [hout] at hown hol hsn
   have hfr := HR.out.each _ hfm
   obtain ⟨r, hrb⟩ : ∃ r, byOf (fAt fs (ciN x)) gs = r := ⟨_, rfl⟩
   rw [hrb] at hsn
   have hnext : r ≠ 0 → ∀ i ∈ pre ++ [x], byOf (fAt fs (ciN i)) gs ≠ 0 := fun hr0 i hi => by
    rcases List.mem_append.1 hi with h | h
    ·exact hp i h
    ·obtain rfl := List.mem_singleton.1 h
     rw [hrb]; exact hr0
   have hstop : r = 0 → unpS fs gs (countsTo fs lim fs.length) ≠ [] := fun hr0 => unp_some x (by rw [hrb, hr0])
   have HNEXT := hide hnext
   have HSTOP := hide hstop
   clear hnext hstop hp
   have hw2 := Grew.of_below hB
   have kb := hide (fun W' (hg : Grew W W') => by_v (fAt fs (ciN x)) gs A' c' r W' (hfr.up (hw2.trans hg)) (HR'.out.up (hw2.trans hg)) (by omega) hrb)
   obtain ⟨f, hf⟩ : ∃ f, fAt fs (ciN x) = f := ⟨_, rfl⟩
   rw [hf] at hsn hx kb
   simp only [hf]
   obtain ⟨Av, cv, rfl, hcv, hrd⟩ := Rd.of_own (f := encD) encD_len hown rfl
   have c0 : W.cell? ⟨Z, 0, none⟩ = _ := hn.cell
   have f0 : W.frozen? ⟨Z, 0, none⟩ = _ := hn.frozen
   have c1 : W.cell? ⟨w.heap.size, 0, none⟩ = some (.slice A' gs.length c') := (hb.box 0 rfl).cell
   have c2 : W.cell? ⟨w.heap.size + 1, 0, none⟩ = _ := (hb.box 1 rfl).cell
   have f2 : W.frozen? ⟨w.heap.size + 1, 0, none⟩ = _ := (hb.box 1 rfl).frozen
   have c3 : W.cell? ⟨w.heap.size + 2, 0, none⟩ = _ := (hb.box 2 rfl).cell
   have f3 : W.frozen? ⟨w.heap.size + 2, 0, none⟩ = _ := (hb.box 2 rfl).frozen
   have d0 : W.cell? ⟨B, 0, none⟩ = some _ := blk_cell hx 0
   have d1 : W.cell? ⟨B, 1, none⟩ = some _ := blk_cell hx 1
   have d2 : W.cell? ⟨B, 2, none⟩ = some _ := blk_cell hx 2
   have d3 : W.cell? ⟨B, 3, none⟩ = some _ := blk_cell hx 3
   have d4 : W.cell? ⟨B, 4, none⟩ = some _ := blk_cell hx 4
   have d5 : W.cell? ⟨B, 5, none⟩ = some _ := blk_cell hx 5
   have d6 : W.cell? ⟨B, 6, none⟩ = some _ := blk_cell hx 6
   have d7 : W.cell? ⟨B, 7, none⟩ = some _ := blk_cell hx 7
   have d8 : W.cell? ⟨B, 8, none⟩ = some _ := blk_cell hx 8
   have lB := blk_lt hx
   have lZ := hn.lt
   have lD : Z + 1 < W.heap.size := blk_lt (hd 0 _ rfl)
   have l0 : w.heap.size < W.heap.size := by omega
   have l1 : w.heap.size + 1 < W.heap.size := by omega
   have l2 : w.heap.size + 2 < W.heap.size := by omega
   have HB := hide hB
   have Hb := hide hb
   have Hd := hide hd
   have Hn := hide hn
   have HX := hide hx
   have HN := hide hown
   have HSN := hide hsn
   clear hB hb hd hn hown hx hsn hout hrd hw2 hfr hrb hfm hf hlt
   try dsimp only
   simp only [List.setIfInBounds_toArray, List.set_cons_succ, List.set_cons_zero]
   gi_wp2_with fail
   refine wpIn_region_qas 8 [⟨6, 7, 10, 64, .agg #[.int .i64 0, .int .i64 0]⟩] [] hm (hZ := (ZOk.cons Tryz.zeroValue64 Tryz.sizeOf64 ZOk.nil)) (h := ?_)
   repeat (refine wpSteady_step (fun K hK => ?_); go_simp; first | (refine hK _ ?_; clear hK K) | (apply Exists.intro; refine ⟨fun _ => ?_, hK _ ?_⟩; (go_at_call 49; with_reducible exact kb.out _ gw); clear hK K))
   refine wpSteady_nil ?_
   refine ⟨(StOk.cons (by rfl) (by simp [stOpnd, Act.eval, Value.cells, Value.oneCell']) StOk.nil), LyOk.nil, ?_⟩
   rintro psq qsq Wq HWq HFq HBq
   obtain rfl : qsq = [] := HBq
   obtain ⟨p0, _, rfl, hp0, hb0, hn0, rfl⟩ := HFq
   simp only [putAll, putB, Act.put, setA]
   simp [stOpnd, Act.eval, Value.cells] at hb0
   have gc0_0 : Wq.cell? ⟨p0, 0, none⟩ = some _ := blk_cell hb0 0
   have gc0_1 : Wq.cell? ⟨p0, 1, none⟩ = some _ := blk_cell hb0 1
   have gf0 := blk_frozen hb0
   have gl0 := blk_lt hb0
   have gp0 := hide hp0
   clear hb0 hn0 hp0
   have oc := old_cell HWq
   have of := old_frozen HWq
   have ol := old_lt HWq
   replace HWq := hide HWq
   clear d0 d1 d2 d3 d4 d5 d6 d7 d8
   by_cases hr0 : r = 0
   ·subst hr0
    have HS2 := hide (HSTOP.out rfl)
    clear HNEXT HSTOP HSN
    gi_wp2_with fail
    have hx1 : Boxed Wq (w.heap.size + 1) _ _ := bxd_grew (Hb.out.box 1 rfl) HWq.out
    have hx2 : Boxed Wq (w.heap.size + 2) _ _ := bxd_grew (Hb.out.box 2 rfl) HWq.out
    have hbq : Below w.heap.size w Wq := HB.out.trans (HWq.out.below.mono HB.out.size)
    exact ⟨(HWq.out.keepsFrom _).trans ((KeepsFrom.setCell _ _ _ _).trans (KeepsFrom.setCell _ _ _ _)), ⟨⟨(hbq.setCell (p := ⟨w.heap.size + 1, 0, none⟩) (by simp) _).setCell (p := ⟨w.heap.size + 2, 0, none⟩) (by simp) _, (hx1.set _).other (by simp) _⟩, (hx2.other (by simp) _).set _⟩, rfl, HS2.out⟩
   ·have hne : (r == 0) = false := by simpa using hr0
    have HN2 := hide (HNEXT.out hr0)
    clear HNEXT HSTOP
    have hpq := gp0.out
    gi_wp2_with (gi_at_builtin; refine AppG3.stop ?_)
    refine AppG3.go ?_
    refine wpListIn_append_own _ rfl (.tmp 30) (.tmp 32) 24 rfl (Z + 2) 64 i0 _ 2 16 Tryz.underlying24 hi0 hz0 hz1 hz2 (by rfl) (by omega) _ out.length _ (by rfl) (fown_grew HN.out (Grew.trans HWq.out gw)) ⟨_, 0, none⟩ 1 1 (encD (f.id, r)) (by rfl) (by rfl) (by intro j x hx; rw [add_at]; simp only [Nat.zero_add]; match j, hx with | 0, hx => (injection hx with hx; subst hx; go_simp) | 1, hx => (injection hx with hx; subst hx; go_simp)) (fun x hx => by simp [encD] at hx; rcases hx with rfl | rfl <;> rfl) (by unfold maxLen; omega) (by omega) (by have := HWq.out.below.size; simp; omega) ?_
    intro v' w3 hown' hgrow _
    obtain ⟨gv, capv, rfl⟩ := ownsRow_succ hown'
    have hgX : Grew W (Wq.alloc (.cells #[.int .i64 f.id, .int .i64 r] 64)) := HWq.out.trans gw
    obtain ⟨z1, z2, z3, z4, z5, z6⟩ := fboxed_app (n₁ := w.heap.size) (bxd_grew Hn.out hgX) (by decide) (fown_grew HN.out hgX) (by omega) (by omega) hown' hgrow
    have y1 := z1.cell
    have y2 := z1.frozen
    have Z2 := hide z2
    have Z3 := hide z3
    have Z4 := hide z4
    have Z5 := hide z5
    have Z6 := hide z6
    have HGX := hide hgX
    clear z1 z2 z3 z4 z5 z6 hown' hgrow hgX c0 f0 c1 c2 f2 c3 f3 oc of ol gc0_0 gc0_1 gf0 gl0
    gi_wp2_with fail
    refine ⟨(HGX.out.keepsFrom _).trans (Z4.out.from _), (KpM.grew HGX.out).trans (fun b cs T fr hM hb => Z6.out b cs T fr (fun h => hM (.inl h)) (fun h => hM (.inr h)) hb), ⟨⟨⟨⟨(HB.out.trans (HGX.out.below.mono HB.out.size)).trans Z5.out, ?_⟩, ?_⟩, HN2.out⟩, _, Z2.out, ?_, trivial⟩⟩
    ·intro i o ho
     match i, ho with
     | 0, ho => injection ho with ho; rw [← ho]; exact Z6.out _ _ _ _ (by omega) (by omega) ((Hb.out.grew HGX.out) 0 _ rfl)
     | 1, ho => injection ho with ho; rw [← ho]; exact Z6.out _ _ _ _ (by omega) (by omega) ((Hb.out.grew HGX.out) 1 _ rfl)
     | 2, ho => injection ho with ho; rw [← ho]; exact Z6.out _ _ _ _ (by omega) (by omega) ((Hb.out.grew HGX.out) 2 _ rfl)
    ·intro i o ho
     match i, ho with
     | 0, ho => injection ho with ho; rw [← ho]; exact Z6.out _ _ _ _ (by omega) (by omega) ((Hd.out.grew HGX.out) 0 _ rfl)
    ·rw [HSN.out, List.flatMap_append, List.length_append]
     simpa using Z3.out
  case done =>
   subst ha
   rintro D xs W hD hS ⟨⟨⟨⟨hB, hb⟩, hd⟩, hp⟩, v, hn, hown, _⟩ hK
   have hun : unpS fs gs (countsTo fs lim fs.length) = [] := unp_none fun i hi => by
    rw [← hS] at hi
    obtain ⟨j, hj, rfl⟩ := List.mem_map.1 hi
    exact hp j hj
   have hrr := HRES.out
   rw [if_pos hun] at hrr
   subst hrr
   rw [hS] at hown
   have c0 : W.cell? ⟨Z, 0, none⟩ = _ := hn.cell
   have b1 : Boxed W (w.heap.size + 1) _ _ := hb.box 1 rfl
   have c1 := b1.cell
   have f1 := b1.frozen
   have b2 : Boxed W (w.heap.size + 2) _ _ := hb.box 2 rfl
   have c2 := b2.cell
   have f2 := b2.frozen
   have l1 := b1.lt
   have l2 := b2.lt
   obtain ⟨Av, cv, rfl, _, hrd⟩ := Rd.of_own (f := encD) encD_len hown rfl
   have hne1 := (b1.not_row (by decide) hown).symm
   have hne2 := (b2.not_row (by decide) hown).symm
   have HB := hide hB
   have HN := hide hown
   have lZ := hn.lt
   have HNE1 := hide hne1
   have HNE2 := hide hne2
   clear hB hb hd hn hS hown hp hun hrd b1 b2 hne1 hne2 HRES
   gi_wp2_with fail
   have hK2 := (KeepsOthers.setCell (W.setCell ⟨w.heap.size + 1, 0, none⟩ (.slice Av (prvS fs gs (countsTo fs lim fs.length)).length cv)) ⟨w.heap.size + 2, 0, none⟩ (.int .i64 0)).same D _ ((KeepsOthers.setCell W ⟨w.heap.size + 1, 0, none⟩ (.slice Av (prvS fs gs (countsTo fs lim fs.length)).length cv)).same D _ hK rfl) rfl
   refine ⟨by simp, .inl ⟨_, _, rfl, run_takeDeferred hK2, ?_⟩⟩
   have hb5 := ((HB.out.setCell (p := ⟨w.heap.size + 1, 0, none⟩) (by simp) (.slice Av (prvS fs gs (countsTo fs lim fs.length)).length cv)).setCell (p := ⟨w.heap.size + 2, 0, none⟩) (by simp) (.int .i64 0)).trans (belowK_b (w := w) (Nat.le_refl _) _ D _ (.deferred none) (by omega) hK2 rfl rfl)
   have e3 : (((W.setCell ⟨w.heap.size + 1, 0, none⟩ (.slice Av (prvS fs gs (countsTo fs lim fs.length)).length cv)).setCell ⟨w.heap.size + 2, 0, none⟩ (.int .i64 0)).putObj D (.deferred none)).cell? ⟨w.heap.size + 1, 0, none⟩ = some (.slice Av (prvS fs gs (countsTo fs lim fs.length)).length cv) := by
    rw [putObj_cell (by omega)]
    go_simp
   have e4 : (((W.setCell ⟨w.heap.size + 1, 0, none⟩ (.slice Av (prvS fs gs (countsTo fs lim fs.length)).length cv)).setCell ⟨w.heap.size + 2, 0, none⟩ (.int .i64 0)).putObj D (.deferred none)).cell? ⟨w.heap.size + 2, 0, none⟩ = some (.int .i64 0) := by
    rw [putObj_cell (by omega)]
    go_simp
   have ho5 := ownsRow_putObj ((HN.out.kept (grownBy_setCell' W (w.heap.size + 1) (.slice Av (prvS fs gs (countsTo fs lim fs.length)).length cv)) (.inr HNE1.out)).kept (grownBy_setCell' _ (w.heap.size + 2) (.int .i64 0)) (.inr HNE2.out)) (.deferred none) hK2 rfl
   obtain ⟨Av2, cv2, he2, _, hrd2⟩ := Rd.of_own (f := encD) encD_len ho5 rfl
   obtain rfl : Av = Av2 := by injection he2
   refine ⟨.tuple #[.slice Av _ cv, .int .i64 0], by simp [results, Tryz.results22, go_sem, e3, e4]; rfl, ?_⟩
   exact ⟨Av, cv, rfl, hrd2, Grew.of_below hb5⟩
  case stop =>
   subst ha
   rintro D e pre W hD ⟨k, hk, hr⟩ ⟨⟨⟨hB, hb1⟩, hb2⟩, rfl, hun⟩ hK
   have hrr := HRES.out
   rw [if_neg hun] at hrr
   subst hrr
   have c1 := hb1.cell
   have c2 := hb2.cell
   have HB := hide hB
   clear hB hb1 hb2 hr hk HRES hun
   gi_wp2_with fail
   refine ⟨by simp, .inl ⟨_, _, rfl, run_takeDeferred hK, ?_⟩⟩
   have hb5 := HB.out.trans (belowK_b (w := w) (Nat.le_refl _) _ D _ (.deferred none) (by omega) hK rfl rfl)
   have e3 := (putObj_cell (W := W) (D := D) (i := 0) (o := .deferred none) (b := w.heap.size + 1) (by omega)).trans c1
   have e4 := (putObj_cell (W := W) (D := D) (i := 0) (o := .deferred none) (b := w.heap.size + 2) (by omega)).trans c2
   refine ⟨.tuple #[.slice none 0 0, .int .i64 19], by simp [results, Tryz.results22, go_sem, e3, e4], ?_⟩
   exact ⟨none, 0, rfl, Rd.nil _ _ _ _, Grew.of_below hb5⟩
end Go.Proofs.YtdoiaagajkabcaaGreat
