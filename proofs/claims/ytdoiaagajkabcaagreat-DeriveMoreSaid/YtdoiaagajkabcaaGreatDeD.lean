/- Package derive: Unproved. -/
import Derived.Test.YtdoiaagajkabcaaGreatDeC
set_option linter.unusedSimpArgs false
set_option linter.unusedVariables false
set_option maxHeartbeats 8000000
set_option maxRecDepth 100000
namespace Go.Proofs.YtdoiaagajkabcaaGreat
open Go.RowKit Go.Sort Go.Lib
attribute [local go_sem] Steady steadyUpon
attribute [local go_sem ↓] hs_dr lt_add_r lt_add_r2 lt_add_r3 lt_add_r4 lt_add_r5 lt_add_r6
attribute [local go_sem] cell?_gd frozen?_gd setCell_gd size_grow tape_grow cell?_grow' frozen?_grow' setCell_grow' grow_grow grow_dr grow_drew dr_dr dr_drew drew_dr dr_alloc dr_setCell dr_cell dr_frozen dr_tape dr_drawn
attribute [local irreducible] wpSteady
attribute [local go_sem] Oper.semAt_some
/-- Behind 'out = append(out, ..)': the box, the row, and what lay. -/
theorem fboxed_app {W w1 : World} {n₀ n₁ B : Nat} {t e : TypeId} {size : Nat} {v v' : Value} {k m : Nat} {xs ys : List Value}
  (hv : Boxed W B t v) (hte : t ≠ e) (hrow : W.ownsRow n₀ e size v k xs) (hB : n₁ ≤ B) (h01 : n₁ ≤ n₀) (hown' : w1.ownsRow n₀ e size v' m ys) (hgrow : W.grownBy w1 v.ownBlock) :
  Boxed w1 B t v ∧ Boxed (w1.setCell ⟨B, 0, none⟩ v') B t v' ∧ (w1.setCell ⟨B, 0, none⟩ v').ownsRow n₀ e size v' m ys ∧ KeepsOthers W (w1.setCell ⟨B, 0, none⟩ v') ∧ Below n₁ W (w1.setCell ⟨B, 0, none⟩ v') ∧
  ∀ b cs T fr, b ≠ B → ¬ (n₀ ≤ b ∧ T = e) → W.heap[b]? = some (.cells cs T fr) → (w1.setCell ⟨B, 0, none⟩ v').heap[b]? = some (.cells cs T fr) := by
 have hv1 : Boxed w1 B t v := hv.kept hgrow (hv.not_row hte hrow)
 have hcell : ∀ j o, v.ownBlock = some j → W.heap[j]? = some o → ∃ cs, o = .cells cs e (0, 0) := by
  intro j o ej hj
  rcases hrow.2 with ⟨rfl, _⟩ | ⟨g, cap, cur, rfl, _, hgb, _⟩
  ·simp [Value.ownBlock] at ej
  ·obtain rfl : g = j := by simpa [Value.ownBlock] using ej
   rw [hgb] at hj
   injection hj with hj
   exact ⟨cur, hj.symm⟩
 refine ⟨hv1, hv1.set v', hown'.kept (grownBy_setCell' w1 B v') (.inr (hv1.not_row hte hown').symm), ?_, ?_, ?_⟩
 ·refine (KeepsOthers.of_grownBy hgrow fun j o ej hj => ?_).trans (KeepsOthers.setCell _ _ _)
  obtain ⟨cs, rfl⟩ := hcell j o ej hj
  rfl
 ·refine ((Below.refl n₁ W).grown hgrow (Nat.le_trans hB (Nat.le_of_lt hv.lt)) fun j ej => ?_).setCell (p := ⟨B, 0, none⟩) hB v'
  exact Nat.le_trans h01 (hrow.lt j ej).1
 ·intro b cs T fr hbB hT hb
  rw [Below.heap_setCell w1 ⟨B, 0, none⟩ v' b hbB, hgrow.block b (blk_lt hb) ?_]
  ·exact hb
  ·intro e2
   refine hT ⟨(hrow.lt b e2.symm).1, ?_⟩
   obtain ⟨cs', h⟩ := hcell b _ e2.symm hb
   injection h
theorem inInf : (Tryz.prog.info? 3).map (fun i => (i.zero, i.size, i.bytes)) = some (some (.int .i64 0), 1, 8) := by kernel_rfl
theorem inInfo_parts : ∃ i, Tryz.prog.info? 3 = some i ∧ i.zero = some (.int .i64 0) ∧ i.size = 1 ∧ i.bytes = 8 := by
 have h := inInf
 cases hi : Tryz.prog.info? 3 with
 | none => rw [hi] at h; simp at h
 | some i =>
  rw [hi] at h
  simp at h
  exact ⟨i, rfl, h.1, h.2.1, h.2.2⟩
theorem encN_len (n : Int) : (encN n).length = 1 := rfl
/-- The IDs of those for which nothing stands. -/
def unpS (fs gs : List FV) (is : List Nat) : List Int := (is.filter fun i => decide (byOf (fAt fs i) gs = 0)).map fun i => (fAt fs i).id
def unprovedOf (fs gs : List FV) (lim : Int) : List Int × Int := if askedOf fs gs lim = true then (unpS fs gs (countsTo fs lim fs.length), 0) else ([], 1)
def IntsR (w : World) (r : List Int × Int) (e : Ending) (w' : World) : Prop := ∃ A' c', e = .returned (.tuple #[.slice A' r.1.length c', .int .i64 r.2]) ∧ Rd w' w'.heap.size 1 A' (r.1.map encN) ∧ Grew w w'
theorem unpS_snoc (fs gs : List FV) (is : List Nat) (i : Nat) : unpS fs gs (is ++ [i]) = if byOf (fAt fs i) gs = 0 then unpS fs gs is ++ [(fAt fs i).id] else unpS fs gs is := by
 unfold unpS
 rw [List.filter_append]
 by_cases h : byOf (fAt fs i) gs = 0
 ·rw [if_pos h]
  simp [h]
 ·rw [if_neg h]
  simp [h]
theorem unpS_len (fs gs : List FV) (is : List Nat) : (unpS fs gs is).length ≤ is.length := by
 unfold unpS
 rw [List.length_map]
 exact List.length_filter_le _ _
/-- Which blocks a round may write: the box, and rows that are newer. -/
def MBox (Z R : Nat) (U : TypeId) (b : Nat) (T : TypeId) : Prop := b = Z ∨ (R ≤ b ∧ T = U)
theorem asked_split {fs gs : List FV} {lim : Int} (h : askedOf fs gs lim = true) : FList fs = true ∧ FList gs = true ∧ limOk lim = true := by
 unfold askedOf at h
 simpa using h
theorem Bx.setf {W : World} {n0 b i : Nat} {v : Value} {os : List Obj} (h : Bx W n0 os) (hb : b < n0 ∨ n0 + os.length ≤ b) : Bx (W.setCell ⟨b, i, none⟩ v) n0 os := fun j o ho => (heap_setCell_other W ⟨b, i, none⟩ (n0 + j) v (fun e => by
  have := (List.getElem?_eq_some_iff.1 ho).1
  dsimp only at e
  omega)).trans (h j o ho)
theorem Unproved_v (fs gs : List FV) (A A' : Option Addr) (c c' : Nat) (lim : Int) (w : World) (hr : FRd w w.heap.size A fs) (hr' : FRd w w.heap.size A' gs) (hc : fs.length ≤ 100000000000) (hc' : gs.length ≤ 100000000000) :
  Calls Tryz.prog 19 #[.slice A fs.length c, .slice A' gs.length c', .int .i64 lim] w (IntsR w (unprovedOf fs gs lim)) := by
 have hm := hmix
 obtain ⟨i0, hi0, hz0, hz1, hz2⟩ := inInfo_parts
 obtain ⟨u, hu⟩ : ∃ u, askedOf fs gs lim = u := ⟨_, rfl⟩
 have k1 := hide (fun W (hg : Grew w W) => asked_v fs gs A A' c c' lim u W (hr.up hg) (hr'.up hg) (by omega) (by omega) hu)
 have hre : unprovedOf fs gs lim = if u = true then (unpS fs gs (countsTo fs lim fs.length), 0) else ([], 1) := by
  unfold unprovedOf
  rw [hu]
 rw [hre]
 cases u
 ·rw [if_neg (by simp)]
  clear hu hr hr' hre
  go_enter Tryz.func19, Tryz.ntmps19
  go_wp2_with (go_at_call 41; with_reducible refine crv (k1.out _ gw) fun _ _ => ?_; dsimp only)
  go_ret2
  exact ⟨none, 0, rfl, Rd.nil _ _ _ _, gw⟩
 ·rw [if_pos rfl]
  obtain ⟨hv, hv', hl⟩ := asked_split hu
  have hlen := list_len hv
  have HR := hide hr
  have HR' := hide hr'
  clear hu hr hr' hre hv hv' hl
  refine (callsIn_wide (n := 9)).1 ?_
  refine callsIn_of_wp_marks Tryz.func19 rfl trivial ?_ rfl
  simp only [Tryz.ntmps19, List.size_toArray, List.length_cons, List.length_nil, Nat.reduceAdd, Nat.reduceSub, Array.replicate_succ, Array.replicate_zero, List.push_toArray, List.append_toArray, List.nil_append, List.cons_append]
  gi_wp2_with fail
  refine ⟨trivial, ?_⟩
  refine (callsIn_wide.2 (k1.out _ gw)).mono ?_
  rintro e w' ⟨rfl, hg1⟩
  obtain ⟨bx, hbx⟩ : ∃ bx : List Obj, bx = [.cells #[.slice A' gs.length c'] 22 (0, 0)] := ⟨_, rfl⟩
  have hb1 : Bx w' w.heap.size bx := by rw [hbx]; refine (Bx.allocs _ w).1.grew ?_; simp only [List.foldl]; exact Grew.trans gw hg1
  have hw1 : Grew w w' := Grew.trans gw hg1
  have hz1' : w.heap.size + 1 ≤ w'.heap.size := by
   have := hb1 0 _ (by rw [hbx]; rfl)
   have := blk_lt this
   omega
  clear hg1
  subst hbx
  have Hb1 := hide hb1
  have Hw1 := hide hw1
  clear hb1 hw1 k1
  dsimp only
  gi_wp2_with fail
  refine ⟨trivial, ?_⟩
  refine (callsIn_wide.2 (dall_any _ _ _ _ _)).mono ?_
  rintro e w'' ⟨rfl, rfl⟩
  dsimp only
  gi_wp2_with fail
  refine wpIn_name ?_
  intro a0 W0 ha hW
  have hg01 : Grew w' W0 := by rw [← hW]; exact gw
  have hg0 : Grew w W0 := Hw1.out.trans hg01
  have hb0 := Hb1.out.grew hg01
  have hn0 : Boxed W0 w'.heap.size 36 (.slice none 0 0) := by rw [← hW]; exact (heap_alloc_old _ _ (by simp)).trans (heap_alloc_new _ _)
  have hk0 : W0.heap[w'.heap.size + 1]? = some (.cells #[.slice A fs.length c, .int .i64 lim] 73 (0, 0)) := by rw [← hW]; exact heap_alloc_at _ _ _ (by simp)
  have hsz : W0.heap.size = w'.heap.size + 2 := by rw [← hW]; simp
  clear hW hg01
  obtain ⟨Z, hZ⟩ : ∃ Z, w'.heap.size = Z := ⟨_, rfl⟩
  rw [hZ] at hn0 hk0 hsz hz1'
  have hdb : Bx W0 (Z + 1) [.cells #[.slice A fs.length c, .int .i64 lim] 73 (0, 0)] := fun i o ho => by
   cases i with
   | zero => injection ho with ho; rw [← ho]; exact hk0
   | succ i => simp at ho
  have ha2 : a0.eval (.tmp 18) = .func (.func 65) #[] #[.pointer (some ⟨Z + 1, 0, none⟩)] := by rw [← ha, ← hZ]; simp [Act.eval]
  refine wpIn_rangeFunc_ownH (n := 9) rfl (by omega) (gf := 65) (lb := #[.pointer (some ⟨Z + 1, 0, none⟩)]) ha2 trivial (enters_of Tryz.func65 (by kernel_rfl) rfl)
   (dall_stops 8 w.heap.size (MBox Z (Z + 2) 3) fs A c (Z + 1) lim W0 (fun b T hb => by rcases hb with rfl | ⟨h, _⟩ <;> omega) (fun T hb => by rcases hb with h | ⟨h, _⟩ <;> omega) (fun b hb hM => hM.elim (fun h => by omega) (fun h => absurd h.2 (by decide))) hk0 (HR.out.row.grew hg0 (Nat.le_refl _)) (by omega) (by omega))
   (fun h k => h.trans k) KpM.bk (Below.refl _ _) (fun _ => rfl)
   (fun pre W => ((Below w.heap.size w W ∧ Bx W w.heap.size _) ∧ Bx W (Z + 1) _) ∧ ∃ v, Boxed W Z 36 v ∧ W.ownsRow (Z + 2) 3 1 v (unpS fs gs (pre.map ciN)).length ((unpS fs gs (pre.map ciN)).flatMap encN) ∧ True)
   (fun _ _ _ => False)
   (OwnFrom.and (OwnFrom.and (OwnFrom.and (ownFrom_below (Nat.le_refl _) hg0.below.size) (Bx.own (by simp; omega))) (Bx.own (by simp; omega))) (Own.from (holdsRow_own _ _ _ _ _ (fun pre : List (CI fs lim) => (unpS fs gs (pre.map ciN)).length) (fun pre : List (CI fs lim) => (unpS fs gs (pre.map ciN)).flatMap encN) (fun _ _ => True)) _))
   (fun q => ownFrom_pure _)
   ⟨⟨⟨hg0.below, hb0⟩, hdb⟩, _, hn0, World.ownsRow_nil _ _ _ _, trivial⟩
   (fun x a' W => ∃ B, W.heap[B]? = some (.cells #[.int .i64 (fAt fs (ciN x)).id, .int .i64 (fAt fs (ciN x)).kind, .int .i64 (fAt fs (ciN x)).x, .int .i64 (fAt fs (ciN x)).y, .int .i64 (fAt fs (ciN x)).rad, .slice (fAt fs (ciN x)).aA (fAt fs (ciN x)).area.length (fAt fs (ciN x)).ac, .int .i64 (fAt fs (ciN x)).dep, .int .i64 (fAt fs (ciN x)).sym, .slice (fAt fs (ciN x)).sA (fAt fs (ciN x)).secs.length (fAt fs (ciN x)).sc] 52 (0, 0)) ∧ B ≠ Z ∧ a' = { tmps := (a0.tmps.setIfInBounds 19 (fAt fs (ciN x)).val).setIfInBounds 9 (.pointer (some ⟨B, 0, none⟩)), defers := [] })
   (fun x a' => by
    rintro s X Y row ⟨B, h1, h2⟩ hg hr
    exact ⟨B, cells_own h1 hg (fun r e => (hr r e).2), h2⟩)
   ?assign ?body ?done ?stop
  case assign =>
   rintro l pre x W K ⟨⟨⟨hB, hb⟩, hd⟩, v, hn, hown, _⟩ hK
   rw [show encC fs lim x = #[(fAt fs (ciN x)).val] from rfl, asg1]
   subst ha
   simp only [List.setIfInBounds_toArray, List.set_cons_succ, List.set_cons_zero] at hK ⊢
   have hKK := hide hK
   have hbl := hn.lt
   clear hK
   gi_wp2_with fail
   exact hKK.out _ _ ((KeepsOthers.alloc _ _).from _) (KpM.grew (Grew.alloc (Grew.refl _) _)) ⟨⟨⟨hB.alloc hB.size _, hb.grew (Grew.alloc (Grew.refl _) _)⟩, hd.grew (Grew.alloc (Grew.refl _) _)⟩, v, hn.alloc _, hown.alloc _, trivial⟩ ⟨W.heap.size, heap_alloc_new _ _, by omega, rfl⟩
  case body =>
   rintro l pre x a' W hl2 _ ⟨⟨⟨hB, hb⟩, hd⟩, v, hn, hown, _⟩ ⟨B, hx, hBne, rfl⟩ hlt
   subst ha
   have hfm : fAt fs (ciN x) ∈ fs := fAt_mem x.1.2
   have hsn := unpS_snoc fs gs (pre.map ciN) (ciN x)
   rw [show (pre.map ciN) ++ [ciN x] = (pre ++ [x]).map ciN by simp] at hsn
   have hol := unpS_len fs gs (pre.map ciN)
   rw [List.length_map] at hol
   have hpl : pre.length < 300 := by omega
   obtain ⟨out, hout⟩ : ∃ o, unpS fs gs (pre.map ciN) = o := ⟨_, rfl⟩
   rw [hout] at hown hol hsn
   have hfr := HR.out.each _ hfm
   obtain ⟨r, hrb⟩ : ∃ r, byOf (fAt fs (ciN x)) gs = r := ⟨_, rfl⟩
   rw [hrb] at hsn
   have hw2 := Grew.of_below hB
   have kb := hide (fun W' (hg : Grew W W') => by_v (fAt fs (ciN x)) gs A' c' r W' (hfr.up (hw2.trans hg)) (HR'.out.up (hw2.trans hg)) (by omega) hrb)
   obtain ⟨f, hf⟩ : ∃ f, fAt fs (ciN x) = f := ⟨_, rfl⟩
   rw [hf] at hsn hx kb
   simp only [hf]
   obtain ⟨Av, cv, rfl, hcv, hrd⟩ := Rd.of_own (f := encN) encN_len hown rfl
   have c0 : W.cell? ⟨Z, 0, none⟩ = _ := hn.cell
   have f0 : W.frozen? ⟨Z, 0, none⟩ = _ := hn.frozen
   have c1 : W.cell? ⟨w.heap.size, 0, none⟩ = some (.slice A' gs.length c') := (hb.box 0 rfl).cell
   have d0 : W.cell? ⟨B, 0, none⟩ = some _ := blk_cell hx 0
   have d1 : W.cell? ⟨B, 1, none⟩ = some _ := blk_cell hx 1
   have d2 : W.cell? ⟨B, 2, none⟩ = some _ := blk_cell hx 2
   have d3 : W.cell? ⟨B, 3, none⟩ = some _ := blk_cell hx 3
   have d4 : W.cell? ⟨B, 4, none⟩ = some _ := blk_cell hx 4
   have d5 : W.cell? ⟨B, 5, none⟩ = some _ := blk_cell hx 5
   have d6 : W.cell? ⟨B, 6, none⟩ = some _ := blk_cell hx 6
   have d7 : W.cell? ⟨B, 7, none⟩ = some _ := blk_cell hx 7
   have d8 : W.cell? ⟨B, 8, none⟩ = some _ := blk_cell hx 8
   have lB := blk_lt hx
   have lZ := hn.lt
   have lD : Z + 1 < W.heap.size := blk_lt (hd 0 _ rfl)
   have l0 : w.heap.size < W.heap.size := by omega
   have HB := hide hB
   have Hb := hide hb
   have Hd := hide hd
   have Hn := hide hn
   have HX := hide hx
   have HN := hide hown
   have HSN := hide hsn
   clear hB hb hd hn hown hx hsn hout hrd hw2 hfr hrb hfm hf hlt
   try dsimp only
   simp only [List.setIfInBounds_toArray, List.set_cons_succ, List.set_cons_zero]
   gi_wp2_with fail
   refine ⟨trivial, ?_⟩
   refine (CallsIn.inRound l (callsIn_wide.2 (kb.out _ gw))).mono ?_
   rintro e w9 ⟨rfl, ⟨n5, os5⟩, rfl⟩
   dsimp only
   by_cases hr0 : r = 0
   ·subst hr0
    have HS2 := hide HSN.out
    rw [if_pos rfl] at HS2
    gi_wp2_with (gi_at_builtin; refine AppG3.stop ?_)
    refine AppG3.go ?_
    refine wpListIn_append_own _ rfl (.tmp 24) (.tmp 27) 36 rfl (Z + 2) 3 i0 _ 1 8 Tryz.underlying36 hi0 hz0 hz1 hz2 (by rfl) (by omega) _ out.length _ (by rfl) (fown_grew HN.out gw) ⟨_, 0, none⟩ 1 1 (encN f.id) (by rfl) (by rfl) (by intro j x hx; rw [add_at]; simp only [Nat.zero_add]; match j, hx with | 0, hx => (injection hx with hx; subst hx; go_simp)) (fun x hx => by simp [encN] at hx; subst hx; rfl) (by unfold maxLen; omega) (by omega) (by simp [hs_dr]; omega) ?_
    intro v' w3 hown' hgrow _
    obtain ⟨gv, capv, rfl⟩ := ownsRow_succ hown'
    have hgX : Grew W ((grow (dr W n5) os5).alloc (.cells #[.int .i64 f.id] 3)) := gw
    obtain ⟨z1, z2, z3, z4, z5, z6⟩ := fboxed_app (n₁ := w.heap.size) (bxd_grew Hn.out hgX) (by decide) (fown_grew HN.out hgX) (by omega) (by omega) hown' hgrow
    have y1 := z1.cell
    have y2 := z1.frozen
    have Z2 := hide z2
    have Z3 := hide z3
    have Z4 := hide z4
    have Z5 := hide z5
    have Z6 := hide z6
    have HGX := hide hgX
    clear z1 z2 z3 z4 z5 z6 hown' hgrow hgX c0 f0 c1 d0 d1 d2 d3 d4 d5 d6 d7 d8
    gi_wp2_with fail
    refine ⟨(HGX.out.keepsFrom _).trans (Z4.out.from _), (KpM.grew HGX.out).trans (fun b cs T fr hM hb => Z6.out b cs T fr (fun h => hM (.inl h)) (fun h => hM (.inr h)) hb), ⟨⟨⟨(HB.out.trans (HGX.out.below.mono HB.out.size)).trans Z5.out, ?_⟩, ?_⟩, _, Z2.out, ?_, trivial⟩⟩
    ·intro i o ho
     match i, ho with
     | 0, ho => injection ho with ho; rw [← ho]; exact Z6.out _ _ _ _ (by omega) (by omega) ((Hb.out.grew HGX.out) 0 _ rfl)
    ·intro i o ho
     match i, ho with
     | 0, ho => injection ho with ho; rw [← ho]; exact Z6.out _ _ _ _ (by omega) (by omega) ((Hd.out.grew HGX.out) 0 _ rfl)
    ·rw [HS2.out, List.flatMap_append, List.length_append]
     simpa using Z3.out
   ·have HS2 := hide HSN.out
    rw [if_neg hr0] at HS2
    clear HSN
    gi_wp2_with fail
    have hgg : Grew W (grow (dr W n5) os5) := gw
    exact ⟨hgg.keepsFrom _, KpM.grew hgg, ⟨⟨⟨HB.out.trans (hgg.below.mono HB.out.size), Hb.out.grew hgg⟩, Hd.out.grew hgg⟩, _, bxd_grew Hn.out hgg, by rw [HS2.out]; exact fown_grew HN.out hgg, trivial⟩⟩
  case done =>
   subst ha
   rintro D xs W hD hS ⟨⟨⟨hB, hb⟩, hd⟩, v, hn, hown, _⟩ hK
   rw [hS] at hown
   have c0 : W.cell? ⟨Z, 0, none⟩ = _ := hn.cell
   have HB := hide hB
   have HN := hide hown
   have lZ := hn.lt
   clear hB hb hd hn hS hown
   gi_wp2_with fail
   refine ⟨by simp, .inl ⟨_, _, rfl, run_takeDeferred hK, ?_⟩⟩
   have hb5 := HB.out.trans (belowK_b (w := w) (Nat.le_refl _) _ D _ (.deferred none) (by omega) hK rfl rfl)
   obtain ⟨Av, cv, rfl, _, hrd⟩ := Rd.of_own (f := encN) encN_len (ownsRow_putObj HN.out (.deferred none) hK rfl) rfl
   refine ⟨.tuple #[.slice Av _ cv, .int .i64 0], by simp [results, Tryz.results19, go_sem]; rfl, ?_⟩
   exact ⟨Av, cv, rfl, hrd, Grew.of_below hb5⟩
  case stop => exact fun _ _ _ _ _ _ h _ => h.elim
end Go.Proofs.YtdoiaagajkabcaaGreat
