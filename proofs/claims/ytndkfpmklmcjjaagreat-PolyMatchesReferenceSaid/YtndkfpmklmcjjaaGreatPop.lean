/- Package poly: half. -/
import Derived.Test.YtndkfpmklmcjjaaGreatPoo
set_option linter.unusedSimpArgs false
set_option linter.unusedVariables false
set_option maxHeartbeats 8000000
set_option maxRecDepth 100000
namespace Go.Proofs.YtndkfpmklmcjjaaGreat
open Go.RowKit Go.Sort
attribute [local go_sem] Steady steadyUpon
attribute [local go_sem ↓] hs_dr lt_add_r lt_add_r2 lt_add_r3 lt_add_r4 lt_add_r5 lt_add_r6
attribute [local go_sem] cell?_gd frozen?_gd setCell_gd size_grow tape_grow cell?_grow' frozen?_grow' setCell_grow' grow_grow grow_dr grow_drew dr_dr dr_drew drew_dr dr_alloc dr_setCell dr_cell dr_frozen dr_tape dr_drawn
attribute [local irreducible] wpSteady
attribute [local go_sem] Oper.semAt_some
theorem ptInf : (Tryz.prog.info? 24).map (fun i => (i.zero, i.size, i.bytes)) = some (some (.agg #[.int .i64 0, .int .i64 0]), 2, 16) := by kernel_rfl
theorem ow_grew {w w' : World} {base : Nat} {e : TypeId} {size : Nat} {v : Value} {n : Nat} {xs : List Value} (h : w.ownsRow base e size v n xs) (hg : Grew w w') : w'.ownsRow base e size v n xs :=
 h.kept (hg.grownBy none) (Decidable.em _)
theorem ow_slice {X : World} {base : Nat} {e : TypeId} {size : Nat} {v : Value} {n : Nat} {xs : List Value} (h : X.ownsRow base e size v n xs) : ∃ A c, v = .slice A n c ∧ n ≤ c := by
 rcases h.2 with ⟨rfl, rfl⟩ | ⟨g, cap, cur, rfl, _, _, hn, _⟩
 ·exact ⟨none, 0, rfl, Nat.le_refl _⟩
 ·exact ⟨_, _, rfl, hn⟩
/-- The first elements of a row. -/
theorem ow_take {X : World} {base : Nat} {e : TypeId} {size : Nat} {A : Option Addr} {c : Nat} {n k : Nat} {xs : List Value} (h : X.ownsRow base e size (.slice A n c) n xs) (hk : k ≤ n) : X.ownsRow base e size (.slice A k c) k (xs.take (k * size)) := by
 have hm : k * size ≤ n * size := Nat.mul_le_mul_right _ hk
 refine ⟨by rw [List.length_take, h.1]; omega, ?_⟩
 rcases h.2 with ⟨hv, rfl⟩ | ⟨g, cap, cur, hv, hb, hg, hn, hm2, hcs, ht⟩
 ·injection hv with h1 h2 h3
  subst h1 h3
  exact .inl ⟨by rw [show k = 0 by omega], by omega⟩
 ·injection hv with h1 h2 h3
  subst h1 h3
  exact .inr ⟨g, c, cur, rfl, hb, hg, by omega, hm2, hcs, by rw [← ht, List.take_take, Nat.min_eq_left hm]⟩
theorem flat_take {α : Type} {f : α → List Value} {m : Nat} (hf : ∀ a, (f a).length = m) : ∀ (xs : List α) (k : Nat), (xs.flatMap f).take (k * m) = (xs.take k).flatMap f
 | [], k => by simp
 | x :: xs, 0 => by simp
 | x :: xs, k + 1 => by
  rw [List.take_succ_cons, List.flatMap_cons, List.flatMap_cons, List.take_append, hf, ← flat_take hf xs k, show (k + 1) * m - m = k * m by rw [Nat.succ_mul]; omega]
  rw [List.take_of_length_le (by rw [hf, Nat.succ_mul]; omega)]
/-- Behind 'out = append(out, ..)': the box, the row, and what lay. -/
theorem boxed_app {W w1 : World} {n₀ B : Nat} {t e : TypeId} {size : Nat} {v v' : Value} {k m : Nat} {xs ys : List Value}
  (hv : Boxed W B t v) (hte : t ≠ e) (hrow : W.ownsRow n₀ e size v k xs) (hB : n₀ ≤ B) (hown' : w1.ownsRow n₀ e size v' m ys) (hgrow : W.grownBy w1 v.ownBlock) :
  Boxed w1 B t v ∧ Boxed (w1.setCell ⟨B, 0, none⟩ v') B t v' ∧ (w1.setCell ⟨B, 0, none⟩ v').ownsRow n₀ e size v' m ys ∧ KeepsOthers W (w1.setCell ⟨B, 0, none⟩ v') ∧ Below n₀ W (w1.setCell ⟨B, 0, none⟩ v') ∧
  ∀ b cs T fr, b ≠ B → ¬ (n₀ ≤ b ∧ T = e) → W.heap[b]? = some (.cells cs T fr) → (w1.setCell ⟨B, 0, none⟩ v').heap[b]? = some (.cells cs T fr) := by
 have hv1 : Boxed w1 B t v := hv.kept hgrow (hv.not_row hte hrow)
 have hcell : ∀ j o, v.ownBlock = some j → W.heap[j]? = some o → ∃ cs, o = .cells cs e (0, 0) := by
  intro j o ej hj
  rcases hrow.2 with ⟨rfl, _⟩ | ⟨g, cap, cur, rfl, _, hgb, _⟩
  ·simp [Value.ownBlock] at ej
  ·obtain rfl : g = j := by simpa [Value.ownBlock] using ej
   rw [hgb] at hj
   injection hj with hj
   exact ⟨cur, hj.symm⟩
 refine ⟨hv1, hv1.set v', hown'.kept (grownBy_setCell' w1 B v') (.inr (hv1.not_row hte hown').symm), ?_, ?_, ?_⟩
 ·refine (KeepsOthers.of_grownBy hgrow fun j o ej hj => ?_).trans (KeepsOthers.setCell _ _ _)
  obtain ⟨cs, rfl⟩ := hcell j o ej hj
  rfl
 ·refine ((Below.refl n₀ W).grown hgrow (Nat.le_trans hB (Nat.le_of_lt hv.lt)) fun j ej => ?_).setCell (p := ⟨B, 0, none⟩) hB v'
  exact (hrow.lt j ej).1
 ·intro b cs T fr hbB hT hb
  rw [Below.heap_setCell w1 ⟨B, 0, none⟩ v' b hbB, hgrow.block b (blk_lt hb) ?_]
  ·exact hb
  ·intro e2
   refine hT ⟨(hrow.lt b e2.symm).1, ?_⟩
   obtain ⟨cs', h⟩ := hcell b _ e2.symm hb
   injection h
def AppG2 (p : Prop) : Prop := p
theorem AppG2.stop {p : Prop} (h : AppG2 p) : p := h
theorem AppG2.go {p : Prop} (h : p) : AppG2 p := h
/-- How many places are left when q comes. -/
def popK (out : List Pt) (q : Pt) : Nat → Nat
 | 0 => 0
 | 1 => 1
 | k + 2 => if tn (cor out k) (cor out (k + 1)) q ≤ 0 then popK out q (k + 1) else k + 2
def pushQ (out : List Pt) (q : Pt) : List Pt := out.take (popK out q out.length) ++ [q]
def halfL (L : List Pt) : List Pt := L.foldl pushQ []
theorem halfL_snoc (L : List Pt) (q : Pt) : halfL (L ++ [q]) = pushQ (halfL L) q := by unfold halfL; rw [List.foldl_append]; rfl
theorem halfL_len : ∀ (L M : List Pt), (L.foldl pushQ M).length ≤ M.length + L.length
 | [], M => Nat.le_refl _
 | q :: L, M => by
  have h1 := halfL_len L (pushQ M q)
  have h2 : (pushQ M q).length ≤ M.length + 1 := by unfold pushQ; rw [List.length_append, List.length_take]; simp; omega
  rw [List.foldl_cons, List.length_cons]
  omega
theorem halfL_ok : ∀ (L M : List Pt), M.all Pt.ok = true → L.all Pt.ok = true → (L.foldl pushQ M).all Pt.ok = true
 | [], M, h, _ => h
 | q :: L, M, h, hL => by
  rw [List.all_cons, Bool.and_eq_true] at hL
  refine halfL_ok L (pushQ M q) ?_ hL.2
  rw [List.all_eq_true] at h ⊢
  intro x hx
  unfold pushQ at hx
  rcases List.mem_append.1 hx with hx | hx
  ·exact h x (List.mem_of_mem_take hx)
  ·rw [List.mem_singleton.1 hx]; exact hL.1
/-- Which blocks a round of half may write: the box of out, and places that are newer. -/
def MHalf (Z : Nat) (b : Nat) (T : TypeId) : Prop := b = Z ∨ (Z ≤ b ∧ T = 24)
theorem half_any (gf : Nat) (lb : Array Value) (L : List Pt) (Sx : List (Nat × OkPt) → Prop) (w : World) (hl : L.length ≤ 1000)
  (heg : ∀ args W, (callFunc gf args).run Tryz.prog W = .ok (.enter gf args) W)
  (hst : ∀ W0, Below w.heap.size w W0 → SeqStopsK Fence.wide 8 Tryz.prog gf lb encI (KpM (MHalf w.heap.size)) (fun xs => xs.map ptO = L) Sx L.length W0) :
  Calls Tryz.prog 55 #[.func (.func gf) #[] lb] w fun e w' => ∃ v, e = .returned v ∧ w'.ownsRow w.heap.size 24 2 v (halfL L).length ((halfL L).flatMap encD) ∧ Grew w w' := by
 have hm := hmix
 obtain ⟨i0, hi0, hz0, hz1, hz2⟩ := info_parts ptInf
 have HST := hide hst
 have HEG := hide heg
 clear hst heg
 refine (callsIn_wide (n := 9)).1 ?_
 refine callsIn_of_wp_marks Tryz.func55 rfl trivial ?_ rfl
 simp only [Tryz.ntmps55, List.size_toArray, List.length_cons, List.length_nil, Nat.reduceAdd, Nat.reduceSub, Array.replicate_succ, Array.replicate_zero, List.push_toArray, List.append_toArray, List.nil_append, List.cons_append]
 gi_wp2_with fail
 refine wpIn_name ?_
 intro a0 W0 ha hW
 have hg0 : Grew w W0 := by rw [← hW]; exact gw
 have hb0 : Boxed W0 w.heap.size 22 (.slice none 0 0) := by rw [← hW]; exact heap_alloc_new _ _
 have hsz : w.heap.size + 1 ≤ W0.heap.size := by rw [← hW]; simp
 clear hW
 refine wpIn_rangeFunc_ownH (n := 9) rfl (by omega) (gf := gf) (lb := lb) (by rw [← ha]; simp [Act.eval]) trivial HEG.out
  (HST.out W0 hg0.below)
  (fun h k => h.trans k) KpM.bk (Below.refl _ _) (fun _ => rfl)
  (fun pre W => Below w.heap.size w W ∧ ∃ v, Boxed W w.heap.size 22 v ∧ W.ownsRow w.heap.size 24 2 v (halfL (pre.map ptO)).length ((halfL (pre.map ptO)).flatMap encD) ∧ True)
  (fun _ _ _ => False)
  (OwnFrom.and (ownFrom_below (Nat.le_refl _) hg0.below.size) (Own.from (holdsRow_own _ _ _ _ _ (fun pre : List (Nat × OkPt) => (halfL (pre.map ptO)).length) (fun pre : List (Nat × OkPt) => (halfL (pre.map ptO)).flatMap encD) (fun _ _ => True)) _))
  (fun q => ownFrom_pure _)
  ⟨hg0.below, _, hb0, World.ownsRow_nil _ _ _ _, trivial⟩
  (fun x a' W => ∃ B, W.heap[B]? = some (.cells #[.int .i64 (ptO x).1, .int .i64 (ptO x).2] 24 (0, 0)) ∧ B ≠ w.heap.size ∧ a' = { tmps := (a0.tmps.setIfInBounds 8 (.int .i64 x.1)).setIfInBounds 9 (pt (ptO x).1 (ptO x).2) |>.setIfInBounds 5 (.pointer (some ⟨B, 0, none⟩)), defers := [] })
  (fun x a' => by
   rintro s X Y row ⟨B, h1, h2⟩ hg hr
   exact ⟨B, cells_own h1 hg (fun r e => (hr r e).2), h2⟩)
  ?assign ?body ?done ?stop
 case assign =>
  rintro l pre x W K ⟨hB, v, hb, hown, _⟩ hK
  rw [show encI x = #[.int .i64 x.1, pt (ptO x).1 (ptO x).2] from rfl, asg2]
  subst ha
  simp only [List.setIfInBounds_toArray, List.set_cons_succ, List.set_cons_zero] at hK ⊢
  have hKK := hide hK
  have hbl := hb.lt
  clear hK
  gi_wp2_with fail
  exact hKK.out _ _ ((KeepsOthers.alloc _ _).from _) (KpM.grew (Grew.alloc (Grew.refl _) _)) ⟨hB.alloc hB.size _, v, hb.alloc _, hown.alloc _, trivial⟩ ⟨W.heap.size, heap_alloc_new _ _, by omega, rfl⟩
 case body =>
  rintro l pre x a' W hl2 _ ⟨hB, v, hb, hown, _⟩ ⟨B, hx, hBne, rfl⟩ hlt
  subst ha
  have hpo : (pre.map ptO).all Pt.ok = true := by
   rw [List.all_eq_true]
   intro y hy
   obtain ⟨z, _, rfl⟩ := List.mem_map.1 hy
   exact z.2.2
  have hqo : (ptO x).ok = true := x.2.2
  have hoo : (halfL (pre.map ptO)).all Pt.ok = true := halfL_ok _ [] rfl hpo
  have hol : (halfL (pre.map ptO)).length ≤ 1000 := by
   have := halfL_len (pre.map ptO) []
   rw [List.length_map] at this
   simp at this
   unfold halfL
   omega
  have hsn := halfL_snoc (pre.map ptO) (ptO x)
  rw [show (pre.map ptO) ++ [ptO x] = (pre ++ [x]).map ptO by simp] at hsn
  obtain ⟨out, hout⟩ : ∃ o, halfL (pre.map ptO) = o := ⟨_, rfl⟩
  rw [hout] at hown hoo hol hsn
  obtain ⟨q, hq⟩ : ∃ q, ptO x = q := ⟨_, rfl⟩
  rw [hq] at hsn hqo hx
  simp only [hq]
  obtain ⟨A, c, rfl, hc, hrd⟩ := Rd.of_own (f := encD) encD_len hown rfl
  have c0 : W.cell? ⟨w.heap.size, 0, none⟩ = _ := hb.cell
  have d0 : W.cell? ⟨B, 0, none⟩ = some _ := blk_cell hx 0
  have d1 : W.cell? ⟨B, 1, none⟩ = some _ := blk_cell hx 1
  have lB := blk_lt hx
  have lZ := hb.lt
  have hne := hb.not_row (by decide) hown
  have HNE := hide hne
  have HB := hide hB
  have Hb := hide hb
  have HX := hide hx
  have HN := hide hown
  have HSN := hide hsn
  have HQO := hide hqo
  have HOO := hide hoo
  have HRD := hide hrd
  have HISC : Hid (∃ o, W.heap[w.heap.size]? = some o ∧ o.isCells = true) := hide ⟨_, hb, rfl⟩
  have hZB : w.heap.size ≠ B := fun e => hBne e.symm
  clear hB hb hown hx hsn hout hpo hqo hq hoo hrd hne hsz hlt
  obtain ⟨q1, q2⟩ := q
  dsimp only at d0 d1 HX ⊢
  simp only [List.setIfInBounds_toArray, List.set_cons_succ, List.set_cons_zero]
  gi_wp2_with fail
  gi_loopw [6] (fun i wr => ∃ k : Nat, k ≤ out.length ∧ i = .int .i64 k ∧ popK out (q1, q2) k = popK out (q1, q2) out.length ∧ W.grownBy wr (some w.heap.size) ∧ Boxed wr w.heap.size 22 (.slice A k c)) (fun i _ => (intOf i).toNat)
  case atStart => exact ⟨out.length, Nat.le_refl _, rfl, rfl, gb_refl _ _, Hb.out⟩
  case round =>
   obtain ⟨k, hk, rfl, hpk, hgr, hbr⟩ := hrel
   have hownr := HN.out.kept hgr (.inr HNE.out.symm)
   obtain ⟨A2, c2, he, _, hrd⟩ := Rd.of_own (f := encD) encD_len hownr rfl
   have he' : A = A2 := by injection he
   rw [← he'] at hrd
   clear he he'
   have lBr : B < wr.heap.size := Nat.lt_of_lt_of_le lB hgr.size
   have lZr := hbr.lt
   have r0 : wr.cell? ⟨w.heap.size, 0, none⟩ = _ := hbr.cell
   have rf0 : wr.frozen? ⟨w.heap.size, 0, none⟩ = _ := hbr.frozen
   have r1 : wr.cell? ⟨B, 0, none⟩ = some (.int .i64 q1) := (World.cell?_of_block (hgr.block B lB (by simp [hBne]))).trans d0
   have r2 : wr.cell? ⟨B, 1, none⟩ = some (.int .i64 q2) := (World.cell?_of_block (hgr.block B lB (by simp [hBne]))).trans d1
   have HOR := hide hownr
   have HGR := hide hgr
   have HBR := hide hbr
   have HRDR := hide hrd
   clear hownr hgr hbr hrd c0 d0 d1
   have hcase : (popK out (q1, q2) k = k ∧ (k ≤ 1 ∨ ∃ j, k = j + 2 ∧ 0 < tn (cor out j) (cor out (j + 1)) (q1, q2))) ∨ ∃ j, k = j + 2 ∧ tn (cor out j) (cor out (j + 1)) (q1, q2) ≤ 0 ∧ popK out (q1, q2) (j + 1) = popK out (q1, q2) out.length := by
    match k, hpk with
    | 0, _ => exact .inl ⟨rfl, .inl (by omega)⟩
    | 1, _ => exact .inl ⟨rfl, .inl (by omega)⟩
    | j + 2, hpk =>
     by_cases h : tn (cor out j) (cor out (j + 1)) (q1, q2) ≤ 0
     ·exact .inr ⟨j, rfl, h, by rw [← hpk]; conv => rhs; unfold popK; rw [if_pos h]⟩
     ·exact .inl ⟨by unfold popK; rw [if_neg h], .inr ⟨j, rfl, by omega⟩⟩
   rcases hcase with ⟨hpk2, h1 | ⟨j, hkj, htn⟩⟩ | ⟨j, hkj, htn, hpk2⟩
   ·have HPK := hide (hpk.symm.trans hpk2)
    have h1' : ¬ (1 : Int) < (k : Int) := by omega
    have h1d : decide ((1 : Int) < (k : Int)) = false := by simpa using h1'
    clear hpk hpk2
    gi_wp2_with fail
    refine wpIn_region_qas 17 [] [] hm (h := ?_)
    repeat (refine wpSteady_step (fun K hK => ?_); go_simp; refine hK _ ?_; clear hK K)
    refine rqi0 fun nq osq => ?_
    try simp only [Act.put, setA]
    try dsimp only
    have HOK2 := hide (ow_take HOR.out (k := k) hk)
    rw [flat_take encD_len] at HOK2
    have hkl : (out.take k).length = k := by rw [List.length_take]; omega
    have hs2 : pushQ out (q1, q2) = out.take k ++ [(q1, q2)] := by unfold pushQ; rw [HPK.out]
    have HS2 := hide (HSN.out.trans hs2)
    have hsz1 : w.heap.size ≤ wr.heap.size := by omega
    clear hs2
    gi_wp2_with (gi_at_builtin; refine AppG2.stop ?_)
    refine AppG2.go ?_
    refine wpListIn_append_own _ rfl (.tmp 35) (.tmp 37) 22 rfl w.heap.size 24 i0 _ 2 16 Tryz.underlying22 hi0 hz0 hz1 hz2 (by rfl) (by omega) _ k _ (by rfl) (ow_grew HOK2.out gw) ⟨_, 0, none⟩ 1 1 (encD (q1, q2)) (by rfl) (by rfl) (by intro j x hx; rw [add_at]; simp only [Nat.zero_add]; match j, hx with | 0, hx => (injection hx with hx; subst hx; go_simp) | 1, hx => (injection hx with hx; subst hx; go_simp)) (fun x hx => by simp [encD] at hx; rcases hx with rfl | rfl <;> rfl) (by unfold maxLen; omega) (by omega) (Nat.le_trans hsz1 (Grew.below gw).size) ?_
    intro v' w3 hown' hgrow _
    obtain ⟨gv, capv, rfl⟩ := ownsRow_succ hown'
    have hgX : Grew wr ((grow (dr wr nq) osq).alloc (.cells #[.int .i64 q1, .int .i64 q2] 24)) := gw
    obtain ⟨z1, z2, z3, z4, z5, z6⟩ := boxed_app (bxd_grew HBR.out hgX) (by decide) (ow_grew HOK2.out hgX) (Nat.le_refl _) hown' hgrow
    have y1 := z1.cell
    have y2 := z1.frozen
    have Z2 := hide z2
    have Z3 := hide z3
    have Z4 := hide z4
    have Z5 := hide z5
    have Z6 := hide z6
    have HGX := hide hgX
    clear z1 z2 z3 z4 z5 z6 hown' hgrow hgX r0 rf0 r1 r2
    gi_wp2_with fail
    refine ⟨(gb_keeps HGR.out HISC.out).trans ((HGX.out.keepsFrom _).trans (Z4.out.from _)), (gb_kpm HGR.out (fun _ => .inl rfl)).trans ((KpM.grew HGX.out).trans (fun b cs T fr hM hb => Z6.out b cs T fr (fun h => hM (.inl h)) (fun h => hM (.inr h)) hb)), ((gb_below HGR.out HB.out (Nat.le_refl _)).trans (HGX.out.below.mono hsz1)).trans Z5.out, _, Z2.out, ?_, trivial⟩
    rw [HS2.out, List.flatMap_append, List.length_append, hkl]
    simpa using Z3.out
   ·have HPK := hide (hpk.symm.trans hpk2)
    subst hkj
    have p0 := cor_get (ps := out) (k := j) (by omega)
    have p1 := cor_get (ps := out) (k := j + 1) (by omega)
    have o0 := cor_ok HOO.out j
    have o1 := cor_ok HOO.out (j + 1)
    obtain ⟨t, ht⟩ : ∃ t, tn (cor out j) (cor out (j + 1)) (q1, q2) = t := ⟨_, rfl⟩
    have kt := hide (fun W' => turn_v _ _ (q1, q2) t W' o0 o1 HQO.out ht)
    obtain ⟨b, off, hA, hb, h0, h1⟩ := ptAt HRDR.out p0
    obtain ⟨b', off', hA', hb', h2, h3⟩ := ptAt HRDR.out p1
    obtain ⟨rfl, rfl⟩ : b = b' ∧ off = off' := by
     have := hA.out.symm.trans hA'.out
     injection this with this
     injection this with h1 h2
     exact ⟨h1, h2⟩
    have hix := idx_run (cap := c) (k := j) (len := j + 2) Tryz.underlying22 Tryz.sizeOf24 hA.out (by omega)
    have hix2 := idx_run (cap := c) (k := j + 1) (len := j + 2) Tryz.underlying22 Tryz.sizeOf24 hA.out (by omega)
    rw [show ((j + 1 : Nat) : Int) = (j : Int) + 1 by omega] at hix2
    rw [ht] at htn
    have ew0 : IntKind.i64.wrap (((j + 2 : Nat) : Int) - 2) = (j : Int) := by unfold IntKind.wrap; simp [IntKind.bits, IntKind.signed]; omega
    have ew1 : IntKind.i64.wrap (((j + 2 : Nat) : Int) - 1) = (j : Int) + 1 := by unfold IntKind.wrap; simp [IntKind.bits, IntKind.signed]; omega
    generalize cor out j = u at *
    generalize cor out (j + 1) = v at *
    obtain ⟨u1, u2⟩ := u
    obtain ⟨v1, v2⟩ := v
    dsimp only at h0 h1 h2 h3
    have h1' : (1 : Int) < ((j + 2 : Nat) : Int) := by omega
    have h1d : decide ((1 : Int) < ((j + 2 : Nat) : Int)) = true := by simpa using h1'
    obtain ⟨kk, hkk⟩ : ∃ kk, ((j + 2 : Nat) : Int) = kk := ⟨_, rfl⟩
    rw [hkk] at h1' h1d ew0 ew1 ⊢
    have HKK := hide hkk
    clear hkk
    have htn' : ¬ t ≤ 0 := by omega
    clear hpk hpk2 p0 p1 o0 o1 ht
    gi_wp2_with fail
    refine wpIn_region_qas 17 [] [] hm (h := ?_)
    repeat (refine wpSteady_step (fun K hK => ?_); go_simp; first | (refine hK _ ?_; clear hK K) | (apply Exists.intro; refine ⟨fun _ => ?_, hK _ ?_⟩; (go_at_call 29; with_reducible exact kt.out _); clear hK K))
    refine rqi0 fun nq osq => ?_
    try simp only [Act.put, setA]
    try dsimp only
    have HOK2 := hide (ow_take HOR.out (k := j + 2) hk)
    rw [flat_take encD_len] at HOK2
    have hkl : (out.take (j + 2)).length = j + 2 := by rw [List.length_take]; omega
    have hs2 : pushQ out (q1, q2) = out.take (j + 2) ++ [(q1, q2)] := by unfold pushQ; rw [HPK.out]
    have HS2 := hide (HSN.out.trans hs2)
    have hsz1 : w.heap.size ≤ wr.heap.size := by omega
    clear hs2
    gi_wp2_with (gi_at_builtin; refine AppG2.stop ?_)
    refine AppG2.go ?_
    refine wpListIn_append_own _ rfl (.tmp 35) (.tmp 37) 22 rfl w.heap.size 24 i0 _ 2 16 Tryz.underlying22 hi0 hz0 hz1 hz2 (by rfl) (by omega) _ (j + 2) _ (by rfl) (ow_grew HOK2.out gw) ⟨_, 0, none⟩ 1 1 (encD (q1, q2)) (by rfl) (by rfl) (by intro j x hx; rw [add_at]; simp only [Nat.zero_add]; match j, hx with | 0, hx => (injection hx with hx; subst hx; go_simp) | 1, hx => (injection hx with hx; subst hx; go_simp)) (fun x hx => by simp [encD] at hx; rcases hx with rfl | rfl <;> rfl) (by unfold maxLen; omega) (by omega) (Nat.le_trans hsz1 (Grew.below gw).size) ?_
    intro v' w3 hown' hgrow _
    obtain ⟨gv, capv, rfl⟩ := ownsRow_succ hown'
    have hgX : Grew wr ((grow (dr wr nq) osq).alloc (.cells #[.int .i64 q1, .int .i64 q2] 24)) := gw
    obtain ⟨z1, z2, z3, z4, z5, z6⟩ := boxed_app (bxd_grew HBR.out hgX) (by decide) (ow_grew HOK2.out hgX) (Nat.le_refl _) hown' hgrow
    have y1 := z1.cell
    have y2 := z1.frozen
    have Z2 := hide z2
    have Z3 := hide z3
    have Z4 := hide z4
    have Z5 := hide z5
    have Z6 := hide z6
    have HGX := hide hgX
    clear z1 z2 z3 z4 z5 z6 hown' hgrow hgX r0 rf0 r1 r2
    gi_wp2_with fail
    refine ⟨(gb_keeps HGR.out HISC.out).trans ((HGX.out.keepsFrom _).trans (Z4.out.from _)), (gb_kpm HGR.out (fun _ => .inl rfl)).trans ((KpM.grew HGX.out).trans (fun b cs T fr hM hb => Z6.out b cs T fr (fun h => hM (.inl h)) (fun h => hM (.inr h)) hb)), ((gb_below HGR.out HB.out (Nat.le_refl _)).trans (HGX.out.below.mono hsz1)).trans Z5.out, _, Z2.out, ?_, trivial⟩
    rw [HS2.out, List.flatMap_append, List.length_append, hkl]
    simpa using Z3.out
   ·have HPK := hide hpk2
    subst hkj
    have p0 := cor_get (ps := out) (k := j) (by omega)
    have p1 := cor_get (ps := out) (k := j + 1) (by omega)
    have o0 := cor_ok HOO.out j
    have o1 := cor_ok HOO.out (j + 1)
    obtain ⟨t, ht⟩ : ∃ t, tn (cor out j) (cor out (j + 1)) (q1, q2) = t := ⟨_, rfl⟩
    have kt := hide (fun W' => turn_v _ _ (q1, q2) t W' o0 o1 HQO.out ht)
    obtain ⟨b, off, hA, hb, h0, h1⟩ := ptAt HRDR.out p0
    obtain ⟨b', off', hA', hb', h2, h3⟩ := ptAt HRDR.out p1
    obtain ⟨rfl, rfl⟩ : b = b' ∧ off = off' := by
     have := hA.out.symm.trans hA'.out
     injection this with this
     injection this with h1 h2
     exact ⟨h1, h2⟩
    have hix := idx_run (cap := c) (k := j) (len := j + 2) Tryz.underlying22 Tryz.sizeOf24 hA.out (by omega)
    have hix2 := idx_run (cap := c) (k := j + 1) (len := j + 2) Tryz.underlying22 Tryz.sizeOf24 hA.out (by omega)
    rw [show ((j + 1 : Nat) : Int) = (j : Int) + 1 by omega] at hix2
    rw [ht] at htn
    have ew0 : IntKind.i64.wrap (((j + 2 : Nat) : Int) - 2) = (j : Int) := by unfold IntKind.wrap; simp [IntKind.bits, IntKind.signed]; omega
    have ew1 : IntKind.i64.wrap (((j + 2 : Nat) : Int) - 1) = (j : Int) + 1 := by unfold IntKind.wrap; simp [IntKind.bits, IntKind.signed]; omega
    generalize cor out j = u at *
    generalize cor out (j + 1) = v at *
    obtain ⟨u1, u2⟩ := u
    obtain ⟨v1, v2⟩ := v
    dsimp only at h0 h1 h2 h3
    have h1' : (1 : Int) < ((j + 2 : Nat) : Int) := by omega
    have h1d : decide ((1 : Int) < ((j + 2 : Nat) : Int)) = true := by simpa using h1'
    obtain ⟨kk, hkk⟩ : ∃ kk, ((j + 2 : Nat) : Int) = kk := ⟨_, rfl⟩
    rw [hkk] at h1' h1d ew0 ew1 ⊢
    have HKK := hide hkk
    clear hkk
    have hjc : j + 1 ≤ c := by omega
    have hjc2 : (j : Int) + 1 ≤ c := by omega
    clear hpk hpk2 p0 p1 o0 o1 ht
    gi_wp2_with fail
    refine wpIn_region_qas 17 [] [] hm (h := ?_)
    repeat (refine wpSteady_step (fun K hK => ?_); go_simp; first | (refine hK _ ?_; clear hK K) | (apply Exists.intro; refine ⟨fun _ => ?_, hK _ ?_⟩; (go_at_call 29; with_reducible exact kt.out _); clear hK K))
    refine rqi0 fun nq osq => ?_
    try simp only [Act.put, setA]
    try dsimp only
    gi_wp2_with fail
    refine ⟨⟨j + 1, by omega, by go_num, HPK.out, gb_grow (gb_row HGR.out _ _) _ _, bxd_grow (HBR.out.set _) _ _⟩, ?_⟩
    have := HKK.out
    simp [intOf]
    omega
 case done =>
  subst ha
  rintro D xs W hD hS ⟨hB, v, hb, hown, _⟩ hK
  rw [hS] at hown
  have c0 : W.cell? ⟨w.heap.size, 0, none⟩ = _ := hb.cell
  have HB := hide hB
  have HN := hide hown
  have lZ := hb.lt
  clear hB hb hS hown
  gi_wp2_with fail
  refine ⟨by simp, .inl ⟨_, _, rfl, run_takeDeferred hK, ?_⟩⟩
  have hb5 := HB.out.trans (belowK_b (w := w) (Nat.le_refl _) _ D _ (.deferred none) (by omega) hK rfl rfl)
  refine ⟨v, by simp [results, Tryz.results55, go_sem], ?_⟩
  exact ⟨v, rfl, ownsRow_putObj HN.out (.deferred none) hK rfl, Grew.of_below hb5⟩
 case stop => exact fun _ _ _ _ _ _ h _ => h.elim
end Go.Proofs.YtndkfpmklmcjjaaGreat
