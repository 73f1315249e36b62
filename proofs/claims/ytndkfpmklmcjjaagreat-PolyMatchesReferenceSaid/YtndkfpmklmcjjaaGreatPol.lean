/- Package poly: Disc. Package poly: Holds. -/
import Derived.Test.YtndkfpmklmcjjaaGreatPog
import Derived.Test.YtndkfpmklmcjjaaGreatPok
set_option linter.unusedSimpArgs false
set_option linter.unusedVariables false
set_option maxHeartbeats 8000000
set_option maxRecDepth 100000
namespace Go.Proofs.YtndkfpmklmcjjaaGreat
open Go.RowKit Go.Sort
attribute [local go_sem] Steady steadyUpon
attribute [local go_sem ↓] hs_dr lt_add_r lt_add_r2 lt_add_r3 lt_add_r4 lt_add_r5 lt_add_r6
attribute [local go_sem] cell?_gd frozen?_gd setCell_gd size_grow tape_grow cell?_grow' frozen?_grow' setCell_grow' grow_grow grow_dr grow_drew dr_dr dr_drew drew_dr dr_alloc dr_setCell dr_cell dr_frozen dr_tape dr_drawn
attribute [local irreducible] wpSteady
attribute [local go_sem] Oper.semAt_some
def nearAll (ps : List Pt) (q : Pt) (r : Int) (is : List Nat) : Bool := is.any fun i => nearB q (cor ps i) (cor ps (i + 1)) r
def apartAll (ps : List Pt) (q : Pt) (r : Int) (is : List Nat) : Bool := is.all fun i => apartB q (cor ps i) (cor ps (i + 1)) r
def discVal (ps : List Pt) (q : Pt) (r : Int) : Int :=
 if 0 ≤ placeOf ps q then (if apartAll ps q r (List.range ps.length) = true then 1 else 0)
 else (if nearAll ps q r (List.range ps.length) = true then 0 else -1)
def discOf (ps : List Pt) (q : Pt) (r : Int) : Int × Int := if (PValid ps && (q.ok && distB r)) = true then (discVal ps q r, 0) else (0, 1)
theorem Disc_no (ps : List Pt) (A : Option Addr) (c : Nat) (q : Pt) (r : Int) (w : World) (hr : Rd w w.heap.size 2 A (ps.map encD)) (hc : ps.length ≤ 100000000000000) (h : (PValid ps && (q.ok && distB r)) = false) :
  Calls Tryz.prog 15 #[.slice A ps.length c, pt q.1 q.2, .int .i64 r] w (Ret w (.tuple #[.int .i64 0, .int .i64 1])) := by
 have hm := hmix
 obtain ⟨u, hu⟩ : ∃ u, q.ok = u := ⟨_, rfl⟩
 obtain ⟨v, hv⟩ : ∃ u, PValid ps = u := ⟨_, rfl⟩
 rw [hu, hv] at h
 have k1 := hide (fun W => planeValid_v q.1 q.2 u W hu)
 have k2 := hide (fun W (hg : Grew w W) => PValid_v ps A c v W (hr.up hg) hc hv)
 clear hu hv
 obtain ⟨x1, x2⟩ := q
 have hcase : v = false ∨ (v = true ∧ u = false) ∨ (v = true ∧ u = true ∧ r < 0) ∨ (v = true ∧ u = true ∧ ¬ r < 0 ∧ 3000000 < r) := by
  cases v
  ·exact .inl rfl
  ·cases u
   ·exact .inr (.inl ⟨rfl, rfl⟩)
   ·simp [distB] at h
    by_cases h1 : r < 0
    ·exact .inr (.inr (.inl ⟨rfl, rfl, h1⟩))
    ·exact .inr (.inr (.inr ⟨rfl, rfl, h1, by omega⟩))
 clear h
 rcases hcase with rfl | ⟨rfl, rfl⟩ | ⟨rfl, rfl, h1⟩ | ⟨rfl, rfl, h1, h2⟩
 all_goals
  go_enter Tryz.func15, Tryz.ntmps15
  go_wp2_with (first | (go_at_call 26; with_reducible refine crv (k1.out _) fun _ _ => ?_; dsimp only) | (go_at_call 5; with_reducible refine crv (k2.out _ gw) fun _ _ => ?_; dsimp only))
  go_ret2
  exact Ret.mk' rfl gw
theorem Bx.setc {W : World} {n0 b i : Nat} {v : Value} {os : List Obj} (h : Bx W n0 os) (hb : n0 + os.length ≤ b) : Bx (W.setCell ⟨b, i, none⟩ v) n0 os := fun j o ho => (heap_setCell_other W ⟨b, i, none⟩ (n0 + j) v (fun e => by
  have := (List.getElem?_eq_some_iff.1 ho).1
  dsimp only at e
  omega)).trans (h j o ho)
theorem nearAll_snoc (ps : List Pt) (q : Pt) (r : Int) (is : List Nat) (i : Nat) : nearAll ps q r (is ++ [i]) = (nearAll ps q r is || nearB q (cor ps i) (cor ps (i + 1)) r) := by unfold nearAll; simp
theorem apartAll_snoc (ps : List Pt) (q : Pt) (r : Int) (is : List Nat) (i : Nat) : apartAll ps q r (is ++ [i]) = (apartAll ps q r is && apartB q (cor ps i) (cor ps (i + 1)) r) := by unfold apartAll; simp
theorem Near_ok (p a b : Pt) (d : Int) (r : Bool) (w : World) (hp : p.ok = true) (ha : a.ok = true) (hb : b.ok = true) (hd : distB d = true) (h : nearB p a b d = r) :
  Calls Tryz.prog 46 #[pt p.1 p.2, pt a.1 a.2, pt b.1 b.2, .int .i64 d] w (Ret w (.tuple #[.bool r, .int .i64 0])) := by
 have := Near_any p a b d w
 have e : nearOf p a b d = (nearB p a b d, 0) := by unfold nearOf; rw [hp, ha, hb, hd]; rfl
 rw [e, h] at this
 exact this
theorem Apart_v (p a b : Pt) (d : Int) (r : Bool) (w : World) (hp : p.ok = true) (ha : a.ok = true) (hb : b.ok = true) (hd : distB d = true) (h : apartB p a b d = r) :
  Calls Tryz.prog 47 #[pt p.1 p.2, pt a.1 a.2, pt b.1 b.2, .int .i64 d] w (Ret w (.tuple #[.bool r, .int .i64 0])) := by
 have := Apart_ok p a b d w hp ha hb (dist_bd hd)
 rwa [h] at this
theorem Disc_yes (ps : List Pt) (A : Option Addr) (c : Nat) (q : Pt) (r : Int) (w : World) (hr : Rd w w.heap.size 2 A (ps.map encD)) (hv : PValid ps = true) (hu : q.ok = true) (hd : distB r = true) :
  Calls Tryz.prog 15 #[.slice A ps.length c, pt q.1 q.2, .int .i64 r] w (Ret w (.tuple #[.int .i64 (discVal ps q r), .int .i64 0])) := by
 have hm := hmix
 have hp := pv_parts hv
 have hdb := dist_bd hd
 obtain ⟨at', hat⟩ : ∃ p, placeOf ps q = p := ⟨_, rfl⟩
 have k1 := hide (fun W => planeValid_v q.1 q.2 true W hu)
 have k2 := hide (fun W (hg : Grew w W) => PValid_v ps A c true W (hr.up hg) (by omega) hv)
 have k3 := hide (fun W (hg : Grew w W) => place_v ps A c q at' W (hr.up hg) (by omega) hp.2 hu hat)
 have HR := hide hr
 have HOK := hide hp.2
 have HQ := hide hu
 have HD := hide hd
 have hl : ps.length ≤ 24 := hp.1.2
 obtain ⟨rr, hrr⟩ : ∃ v, discVal ps q r = v := ⟨_, rfl⟩
 rw [hrr]
 unfold discVal at hrr
 rw [hat] at hrr
 have HRR := hide hrr
 have h1 : ¬ r < 0 := by omega
 have h2 : ¬ 3000000 < r := by omega
 clear hr hv hu hd hp hat hrr
 refine (callsIn_wide (n := 13)).1 ?_
 refine callsIn_of_wp_marks Tryz.func15 rfl trivial ?_ rfl
 simp only [Tryz.ntmps15, List.size_toArray, List.length_cons, List.length_nil, Nat.reduceAdd, Nat.reduceSub, Array.replicate_succ, Array.replicate_zero, List.push_toArray, List.append_toArray, List.nil_append, List.cons_append]
 gi_wp2_with fail
 refine ⟨trivial, ?_⟩
 refine (callsIn_wide.2 (k2.out _ gw)).mono ?_
 rintro e w' ⟨rfl, ⟨n1, os1⟩, rfl⟩
 dsimp only
 gi_wp2_with fail
 refine ⟨trivial, ?_⟩
 refine (callsIn_wide.2 (k1.out _)).mono ?_
 rintro e w' ⟨rfl, hg1⟩
 obtain ⟨bx, hbx⟩ : ∃ bx : List Obj, bx = [.cells #[.int .i64 q.1, .int .i64 q.2] 24 (0, 0), .cells #[.int .i64 r] 3 (0, 0)] := ⟨_, rfl⟩
 have hb1 : Bx w' w.heap.size bx := by rw [hbx]; refine (Bx.allocs _ w).1.grew ?_; simp only [List.foldl]; exact Grew.trans gw hg1
 have hw1 : Grew w w' := Grew.trans gw hg1
 have hz1 : w.heap.size + 2 ≤ w'.heap.size := by
  have := hb1 1 _ (by rw [hbx]; rfl)
  have := blk_lt this
  omega
 clear hg1
 subst hbx
 have c0 : w'.cell? ⟨w.heap.size, 0, none⟩ = some (.int .i64 q.1) := blk_cell (hb1 0 _ rfl) 0
 have c1 : w'.cell? ⟨w.heap.size, 1, none⟩ = some (.int .i64 q.2) := blk_cell (hb1 0 _ rfl) 1
 have c2 : w'.cell? ⟨w.heap.size + 1, 0, none⟩ = some (.int .i64 r) := (hb1.box 1 rfl).cell
 have m0 : w.heap.size < w'.heap.size := by omega
 have m1 : w.heap.size + 1 < w'.heap.size := by omega
 have Hb1 := hide hb1
 have Hw1 := hide hw1
 clear hb1 hw1
 dsimp only
 gi_wp2_with fail
 refine ⟨trivial, ?_⟩
 refine (callsIn_wide.2 (edges_any _ _ _ _)).mono ?_
 rintro e w'' ⟨rfl, rfl⟩
 dsimp only
 gi_wp2_with fail
 refine wpIn_name ?_
 intro a0 W0 ha hW
 have hg01 : Grew w' W0 := by rw [← hW]; exact gw
 have hg0 : Grew w W0 := Hw1.out.trans hg01
 have hb0 := Hb1.out.grew hg01
 have hn0 : Boxed W0 w'.heap.size 4 (.bool false) := by rw [← hW]; exact (heap_alloc_old _ _ (by simp; omega)).trans ((heap_alloc_old _ _ (by simp)).trans (heap_alloc_new _ _))
 have ha0 : Boxed W0 (w'.heap.size + 1) 4 (.bool true) := by rw [← hW]; exact (heap_alloc_old _ _ (by simp)).trans (heap_alloc_at _ _ _ (by simp))
 have hk0 : W0.heap[w'.heap.size + 2]? = some (.cells #[.slice A ps.length c] 48 (0, 0)) := by rw [← hW]; exact heap_alloc_at _ _ _ (by simp)
 have hsz : W0.heap.size = w'.heap.size + 3 := by rw [← hW]; simp
 clear hW c0 c1 c2 hg01
 obtain ⟨Z, hZ⟩ : ∃ Z, w'.heap.size = Z := ⟨_, rfl⟩
 rw [hZ] at hn0 ha0 hk0 hsz hz1 m0 m1
 have ha2 : a0.eval (.tmp 34) = .func (.func 75) #[] #[.pointer (some ⟨Z + 2, 0, none⟩)] := by rw [← ha, ← hZ]; simp [Act.eval]
 refine wpIn_rangeFunc_ownH (n := 13) rfl (by omega) (gf := 75) (lb := #[.pointer (some ⟨Z + 2, 0, none⟩)]) ha2 trivial (enters_of Tryz.func75 (by kernel_rfl) rfl)
  (edges1_stops 12 w.heap.size (fun b _ => b = Z ∨ b = Z + 1) ps A c (Z + 2) W0 (fun b _ hb => by omega) hk0 (HR.out.grew hg0 (Nat.le_refl _)) (by omega) (by omega))
  (fun h k => h.trans k) KpM.bk (Below.refl _ _) (fun _ => rfl)
  (fun pre W => ((Below w.heap.size w W ∧ Bx W w.heap.size _) ∧ Boxed W Z 4 (.bool (nearAll ps q r (pre.map Fin.val)))) ∧ Boxed W (Z + 1) 4 (.bool (apartAll ps q r (pre.map Fin.val))))
  (fun _ _ _ => False)
  (OwnFrom.and (OwnFrom.and (OwnFrom.and (ownFrom_below (Nat.le_refl _) hg0.below.size) (Bx.own (by simp; omega))) (Own.from (boxed_own _ _ _) _)) (Own.from (boxed_own _ _ _) _))
  (fun q => ownFrom_pure _)
  ⟨⟨⟨hg0.below, hb0⟩, hn0⟩, ha0⟩
  (fun x a' W => ∃ B, W.heap[B]? = some (.cells #[.int .i64 (cor ps x.1).1, .int .i64 (cor ps x.1).2, .int .i64 (cor ps (x.1 + 1)).1, .int .i64 (cor ps (x.1 + 1)).2] 61 (0, 0)) ∧ a' = { tmps := ((a0.tmps.setIfInBounds 35 (.int .i64 (x.1 : Nat))).setIfInBounds 36 (.agg #[.int .i64 (cor ps x.1).1, .int .i64 (cor ps x.1).2, .int .i64 (cor ps (x.1 + 1)).1, .int .i64 (cor ps (x.1 + 1)).2])).setIfInBounds 11 (.pointer (some ⟨B, 0, none⟩)), defers := [] })
  (fun x a' => by
   rintro s X Y row ⟨B, h1, h2⟩ hg hr
   exact ⟨B, cells_own h1 hg (fun r e => (hr r e).2), h2⟩)
  ?assign ?body ?done ?stop
 case assign =>
  rintro l pre x W K ⟨⟨⟨hB, hb⟩, hn⟩, hap⟩ hK
  rw [show encE ps x = #[.int .i64 (x.1 : Nat), .agg #[.int .i64 (cor ps x.1).1, .int .i64 (cor ps x.1).2, .int .i64 (cor ps (x.1 + 1)).1, .int .i64 (cor ps (x.1 + 1)).2]] from rfl, asg2]
  subst ha
  simp only [List.setIfInBounds_toArray, List.set_cons_succ, List.set_cons_zero] at hK ⊢
  have hKK := hide hK
  have l1 := blk_lt hn
  have l2 := blk_lt hap
  clear hK
  gi_wp2_with fail
  have hgg : Grew W (W.alloc (.cells #[.int .i64 (cor ps x.1).1, .int .i64 (cor ps x.1).2, .int .i64 (cor ps (x.1 + 1)).1, .int .i64 (cor ps (x.1 + 1)).2] 61)) := gw
  exact hKK.out _ _ (hgg.keepsFrom _) (KpM.grew hgg) ⟨⟨⟨hB.trans (hgg.below.mono hB.size), hb.grew hgg⟩, (hgg.below.block _ l1).trans hn⟩, (hgg.below.block _ l2).trans hap⟩ ⟨W.heap.size, heap_alloc_new _ _, rfl⟩
 case body =>
  rintro l pre x a' W hl2 hlp ⟨⟨⟨hB, hb⟩, hn⟩, hap⟩ ⟨B, hx, rfl⟩ hlt
  subst ha
  obtain ⟨i, hil⟩ := x
  dsimp only at hx
  simp only [List.setIfInBounds_toArray, List.set_cons_succ, List.set_cons_zero]
  have oa := cor_ok HOK.out i
  have ob := cor_ok HOK.out (i + 1)
  have hns := nearAll_snoc ps q r (pre.map Fin.val) i
  have has := apartAll_snoc ps q r (pre.map Fin.val) i
  obtain ⟨nb, hnb⟩ : ∃ o, nearAll ps q r (pre.map Fin.val) = o := ⟨_, rfl⟩
  obtain ⟨ab, hab⟩ : ∃ o, apartAll ps q r (pre.map Fin.val) = o := ⟨_, rfl⟩
  obtain ⟨n', hn'⟩ : ∃ o, nearB q (cor ps i) (cor ps (i + 1)) r = o := ⟨_, rfl⟩
  obtain ⟨a', ha'⟩ : ∃ o, apartB q (cor ps i) (cor ps (i + 1)) r = o := ⟨_, rfl⟩
  rw [hnb, hn'] at hns
  rw [hab, ha'] at has
  rw [hnb] at hn
  rw [hab] at hap
  have kn := hide (fun W' => Near_ok q (cor ps i) (cor ps (i + 1)) r n' W' HQ.out oa ob HD.out hn')
  have ka := hide (fun W' => Apart_v q (cor ps i) (cor ps (i + 1)) r a' W' HQ.out oa ob HD.out ha')
  have HNS := hide hns
  have HAS := hide has
  clear hns has hnb hab hn' ha' hlt
  generalize cor ps i = a at *
  generalize cor ps (i + 1) = b at *
  obtain ⟨a1, a2⟩ := a
  obtain ⟨b1, b2⟩ := b
  obtain ⟨x1, x2⟩ := q
  dsimp only at hx hb ⊢
  have c0 : W.cell? ⟨w.heap.size, 0, none⟩ = some (.int .i64 x1) := blk_cell (hb 0 _ rfl) 0
  have c1 : W.cell? ⟨w.heap.size, 1, none⟩ = some (.int .i64 x2) := blk_cell (hb 0 _ rfl) 1
  have c2 : W.cell? ⟨w.heap.size + 1, 0, none⟩ = some (.int .i64 r) := (hb.box 1 rfl).cell
  have c3 : W.cell? ⟨Z, 0, none⟩ = _ := hn.cell
  have f3 : W.frozen? ⟨Z, 0, none⟩ = _ := hn.frozen
  have c4 : W.cell? ⟨Z + 1, 0, none⟩ = _ := hap.cell
  have f4 : W.frozen? ⟨Z + 1, 0, none⟩ = _ := hap.frozen
  have d0 : W.cell? ⟨B, 0, none⟩ = some _ := blk_cell hx 0
  have d1 : W.cell? ⟨B, 1, none⟩ = some _ := blk_cell hx 1
  have d2 : W.cell? ⟨B, 2, none⟩ = some _ := blk_cell hx 2
  have d3 : W.cell? ⟨B, 3, none⟩ = some _ := blk_cell hx 3
  have l4 := hap.lt
  have l3 := hn.lt
  have l1 : w.heap.size + 1 < W.heap.size := by omega
  have l0 : w.heap.size < W.heap.size := by omega
  have lB := blk_lt hx
  have HB := hide hB
  have Hb := hide hb
  have Hn := hide hn
  have Ha := hide hap
  clear hB hb hx hn hap
  gi_wp2_with fail
  refine ⟨trivial, ?_⟩
  refine (CallsIn.inRound l (callsIn_wide.2 (kn.out _))).mono ?_
  rintro e w9 ⟨rfl, ⟨n5, os5⟩, rfl⟩
  dsimp only
  gi_wp2_with fail
  refine ⟨trivial, ?_⟩
  refine (CallsIn.inRound l (callsIn_wide.2 (ka.out _))).mono ?_
  rintro e w9 ⟨rfl, ⟨n6, os6⟩, rfl⟩
  dsimp only
  cases nb <;> cases ab
  all_goals
   gi_wp2_with fail
   have hb2 := fun (u v : Value) => (HB.out.setCell (p := ⟨Z, 0, none⟩) (by dsimp only; omega) u).setCell (p := ⟨Z + 1, 0, none⟩) (by dsimp only; omega) v
   have hbx2 := fun (u v : Value) => ((Hb.out.setc (b := Z) (i := 0) (v := u) (by simp; omega)).setc (b := Z + 1) (i := 0) (v := v) (by simp; omega))
   refine ⟨(KeepsFrom.setCell _ _ _ _).trans ((KeepsFrom.setCell _ _ _ _).trans ((Grew.mk _ _ _).keepsFrom _)), (KpM.set _ _ _ _ (fun _ => .inl rfl)).trans ((KpM.set _ _ _ _ (fun _ => .inr rfl)).trans (KpM.grew (Grew.mk _ _ _))), ⟨⟨⟨(hb2 _ _).trans ((Grew.mk _ _ _).below.mono (hb2 _ _).size), (hbx2 _ _).grew (Grew.mk _ _ _)⟩, ?_⟩, ?_⟩⟩
   ·rw [List.map_append, show [(⟨i, hil⟩ : Fin ps.length)].map Fin.val = [i] from rfl, HNS.out]
    exact bxd_grow ((Hn.out.set _).other (by omega) _) _ _
   ·rw [List.map_append, show [(⟨i, hil⟩ : Fin ps.length)].map Fin.val = [i] from rfl, HAS.out]
    exact bxd_grow ((Ha.out.other (by omega) _).set _) _ _
 case done =>
  subst ha
  rintro D xs W hD hS ⟨⟨⟨hB, hb⟩, hn⟩, hap⟩ hK
  rw [hS] at hn hap
  obtain ⟨nb, hnb⟩ : ∃ o, nearAll ps q r (List.range ps.length) = o := ⟨_, rfl⟩
  obtain ⟨ab, hab⟩ : ∃ o, apartAll ps q r (List.range ps.length) = o := ⟨_, rfl⟩
  rw [hnb] at hn
  rw [hab] at hap
  have hrr := HRR.out
  rw [hnb, hab] at hrr
  have c0 : W.cell? ⟨w.heap.size, 0, none⟩ = some (.int .i64 q.1) := blk_cell (hb 0 _ rfl) 0
  have c1 : W.cell? ⟨w.heap.size, 1, none⟩ = some (.int .i64 q.2) := blk_cell (hb 0 _ rfl) 1
  have c3 : W.cell? ⟨Z, 0, none⟩ = _ := hn.cell
  have c4 : W.cell? ⟨Z + 1, 0, none⟩ = _ := hap.cell
  have l4 := hap.lt
  have l3 := hn.lt
  have l0 : w.heap.size < W.heap.size := by omega
  have hwW : Grew w W := Grew.of_below hB
  have HB := hide hB
  have HW := hide hwW
  have HRR2 := hide hrr
  have hKl := blk_lt hK
  have HK := hide hK
  clear hB hb hn hap hS hnb hab hrr HRR hwW hK
  gi_wp2_with fail
  refine ⟨trivial, ?_⟩
  refine (callsIn_wide.2 (k3.out _ HW.out)).mono ?_
  rintro e w9 ⟨rfl, ⟨n5, os5⟩, rfl⟩
  dsimp only
  have hK2 : (grow (dr W n5) os5).heap[D]? = some (.deferred (some [])) := (heap_grow_old _ _ hKl).trans HK.out
  have HK2 := hide hK2
  have hb5 : Below w.heap.size w ((grow (dr W n5) os5).putObj D (.deferred none)) := (HB.out.trans ((Grew.mk W n5 os5).below.mono HB.out.size)).trans (belowK_b (w := w) (Nat.le_refl _) _ D _ (.deferred none) (by omega) hK2 rfl rfl)
  have HB5 := hide hb5
  clear hK2 hb5
  by_cases h0 : 0 ≤ at'
  ·rw [if_pos h0] at HRR2
   have h0' : ¬ at' < 0 := by omega
   cases ab
   all_goals
    obtain rfl := HRR2.out
    gi_wp2_with fail
    refine ⟨by simp, .inl ⟨_, _, rfl, run_takeDeferred HK2.out, ?_⟩⟩
    refine ⟨.tuple #[.int .i64 _, .int .i64 0], by simp [results, Tryz.results15, go_sem]; rfl, ?_⟩
    exact Ret.mk' rfl (Grew.of_below HB5.out)
  ·rw [if_neg h0] at HRR2
   have h0' : at' < 0 := by omega
   cases nb
   all_goals
    obtain rfl := HRR2.out
    gi_wp2_with fail
    refine ⟨by simp, .inl ⟨_, _, rfl, run_takeDeferred HK2.out, ?_⟩⟩
    refine ⟨.tuple #[.int .i64 _, .int .i64 0], by simp [results, Tryz.results15, go_sem]; rfl, ?_⟩
    exact Ret.mk' rfl (Grew.of_below HB5.out)
 case stop => exact fun _ _ _ _ _ _ h _ => h.elim
theorem Disc_v (ps : List Pt) (A : Option Addr) (c : Nat) (q : Pt) (r : Int) (d : Int × Int) (w : World) (hr : Rd w w.heap.size 2 A (ps.map encD)) (hc : ps.length ≤ 100000000000000) (h : discOf ps q r = d) :
  Calls Tryz.prog 15 #[.slice A ps.length c, pt q.1 q.2, .int .i64 r] w (Ret w (.tuple #[.int .i64 d.1, .int .i64 d.2])) := by
 subst h
 unfold discOf
 cases h : PValid ps && (q.ok && distB r)
 ·exact Disc_no ps A c q r w hr hc h
 ·simp only [Bool.and_eq_true] at h
  exact Disc_yes ps A c q r w hr h.1 h.2.1 h.2.2
end Go.Proofs.YtndkfpmklmcjjaaGreat
namespace Go.Proofs.YtndkfpmklmcjjaaGreat
open Go.RowKit Go.Sort
attribute [local go_sem] Steady steadyUpon
attribute [local go_sem ↓] hs_dr lt_add_r lt_add_r2 lt_add_r3 lt_add_r4 lt_add_r5 lt_add_r6
attribute [local go_sem] cell?_gd frozen?_gd setCell_gd size_grow tape_grow cell?_grow' frozen?_grow' setCell_grow' grow_grow grow_dr grow_drew dr_dr dr_drew drew_dr dr_alloc dr_setCell dr_cell dr_frozen dr_tape dr_drawn
attribute [local irreducible] wpSteady
attribute [local go_sem] Oper.semAt_some
theorem run_store_func' (P : Program) (w : World) (a : Addr) (m : Mode) (f : Fn) (xs ys) : (store a (.func f xs ys) m).run P w = stored P w a (.func f xs ys) m := run_store P w a _ m rfl
attribute [local go_sem] run_store_func'
theorem has_v (ps : List Pt) (A : Option Addr) (c : Nat) (a b : Pt) (r : Bool) (w : World) (hr : Rd w w.heap.size 2 A (ps.map encD)) (hl : ps.length ≤ 100) (hok : ps.all Pt.ok = true) (ha : a.ok = true) (hb : b.ok = true) (h : hasOf ps a b = r) :
  Calls Tryz.prog 44 #[.slice A ps.length c, pt a.1 a.2, pt b.1 b.2] w (Ret w (.bool r)) := by
 subst h
 unfold hasOf
 cases h : hasFst ps a b
 ·exact has_no ps A c a b w hr hl hok ha hb h
 ·rw [Bool.true_and]
  exact has_yes ps A c a b w hr hl hok ha hb h
def holdsE (ps qs : List Pt) (i : Nat) : Bool := hasOf ps (cor qs i) (cor qs (i + 1))
def pholds (ps qs : List Pt) : Bool := (List.range qs.length).all (holdsE ps qs)
def pholdsOf (ps qs : List Pt) : Bool × Int := if (PValid ps && PValid qs) = true then (pholds ps qs, 0) else (false, 1)
theorem PHolds_no (ps qs : List Pt) (A A' : Option Addr) (c c' : Nat) (w : World) (hr : Rd w w.heap.size 2 A (ps.map encD)) (hr' : Rd w w.heap.size 2 A' (qs.map encD)) (hc : ps.length ≤ 100000000000000) (hc' : qs.length ≤ 100000000000000) (h : (PValid ps && PValid qs) = false) :
  Calls Tryz.prog 13 #[.slice A ps.length c, .slice A' qs.length c'] w (Ret w (.tuple #[.bool false, .int .i64 1])) := by
 have hm := hmix
 obtain ⟨u, hu⟩ : ∃ u, PValid ps = u := ⟨_, rfl⟩
 obtain ⟨v, hv⟩ : ∃ u, PValid qs = u := ⟨_, rfl⟩
 rw [hu, hv] at h
 have k1 := hide (fun W (hg : Grew w W) => PValid_v ps A c u W (hr.up hg) hc hu)
 have k2 := hide (fun W (hg : Grew w W) => PValid_v qs A' c' v W (hr'.up hg) hc' hv)
 clear hu hv
 have hcase : u = false ∨ (u = true ∧ v = false) := by
  cases u
  ·exact .inl rfl
  ·cases v
   ·exact .inr ⟨rfl, rfl⟩
   ·simp at h
 clear h
 rcases hcase with rfl | ⟨rfl, rfl⟩
 all_goals
  go_enter Tryz.func13, Tryz.ntmps13
  go_wp2_with (first | (go_at_call 5; with_reducible refine crv (k1.out _ gw) fun _ _ => ?_; dsimp only) | (go_at_call 5; with_reducible refine crv (k2.out _ gw) fun _ _ => ?_; dsimp only))
  refine bodyPost_ret (v := .tuple #[.bool false, .int .i64 1]) (by simp [results, Tryz.results13, go_sem]) rfl ?_
  exact Ret.mk' rfl gw
theorem PHolds_yes (ps qs : List Pt) (A A' : Option Addr) (c c' : Nat) (w : World) (hr : Rd w w.heap.size 2 A (ps.map encD)) (hr' : Rd w w.heap.size 2 A' (qs.map encD)) (hu : PValid ps = true) (hv : PValid qs = true) :
  Calls Tryz.prog 13 #[.slice A ps.length c, .slice A' qs.length c'] w (Ret w (.tuple #[.bool (pholds ps qs), .int .i64 0])) := by
 have hm := hmix
 have hp := pv_parts hu
 have hq := pv_parts hv
 have k1 := hide (fun W (hg : Grew w W) => PValid_v ps A c true W (hr.up hg) (by omega) hu)
 have k2 := hide (fun W (hg : Grew w W) => PValid_v qs A' c' true W (hr'.up hg) (by omega) hv)
 have kh := hide (fun (a b : Pt) (r : Bool) (ha : a.ok = true) (hb : b.ok = true) (h : hasOf ps a b = r) W (hg : Grew w W) => has_v ps A c a b r W (hr.up hg) (by omega) hp.2 ha hb h)
 have HR := hide hr'
 have HOK := hide hq.2
 have hl : qs.length ≤ 24 := hq.1.2
 obtain ⟨rr, hrr⟩ : ∃ v, pholds ps qs = v := ⟨_, rfl⟩
 rw [hrr]
 have HRR := hide hrr
 clear hr hr' hu hv hp hq hrr
 refine (callsIn_wide (n := 13)).1 ?_
 refine callsIn_of_wp_marks Tryz.func13 rfl trivial ?_ rfl
 simp only [Tryz.ntmps13, List.size_toArray, List.length_cons, List.length_nil, Nat.reduceAdd, Nat.reduceSub, Array.replicate_succ, Array.replicate_zero, List.push_toArray, List.append_toArray, List.nil_append, List.cons_append]
 gi_wp2_with fail
 refine ⟨trivial, ?_⟩
 refine (callsIn_wide.2 (k1.out _ gw)).mono ?_
 rintro e w' ⟨rfl, ⟨n1, os1⟩, rfl⟩
 dsimp only
 gi_wp2_with fail
 refine ⟨trivial, ?_⟩
 refine (callsIn_wide.2 (k2.out _ gw)).mono ?_
 rintro e w' ⟨rfl, hg1⟩
 obtain ⟨bx, hbx⟩ : ∃ bx : List Obj, bx = [.cells #[.bool false] 4 (0, 0), .cells #[.int .i64 0] 31 (0, 0)] := ⟨_, rfl⟩
 have hb1 : Bx w' w.heap.size bx := by rw [hbx]; refine (Bx.allocs _ w).1.grew ?_; simp only [List.foldl]; exact Grew.trans gw hg1
 have hw1 : Grew w w' := Grew.trans gw hg1
 have hz1 : w.heap.size + 2 ≤ w'.heap.size := by
  have := hb1 1 _ (by rw [hbx]; rfl)
  have := blk_lt this
  omega
 clear hg1
 subst hbx
 have Hb1 := hide hb1
 have Hw1 := hide hw1
 clear hb1 hw1
 dsimp only
 gi_wp2_with fail
 refine ⟨trivial, ?_⟩
 refine (callsIn_wide.2 (edges_any _ _ _ _)).mono ?_
 rintro e w'' ⟨rfl, rfl⟩
 dsimp only
 gi_wp2_with fail
 refine wpIn_name ?_
 intro a0 W0 ha hW
 have hg01 : Grew w' W0 := by rw [← hW]; exact gw
 have hg0 : Grew w W0 := Hw1.out.trans hg01
 have hb0 := Hb1.out.grew hg01
 have hf0 : W0.heap[w'.heap.size]? = some (.cells #[.func (.func 44) #[.slice A ps.length c] #[]] 53 (0, 0)) := by rw [← hW]; exact (heap_alloc_old _ _ (by simp)).trans (heap_alloc_new _ _)
 have hk0 : W0.heap[w'.heap.size + 1]? = some (.cells #[.slice A' qs.length c'] 48 (0, 0)) := by rw [← hW]; exact heap_alloc_at _ _ _ (by simp)
 have hsz : W0.heap.size = w'.heap.size + 2 := by rw [← hW]; simp
 clear hW hg01
 obtain ⟨Z, hZ⟩ : ∃ Z, w'.heap.size = Z := ⟨_, rfl⟩
 rw [hZ] at hf0 hk0 hsz hz1
 have ha2 : a0.eval (.tmp 20) = .func (.func 75) #[] #[.pointer (some ⟨Z + 1, 0, none⟩)] := by rw [← ha, ← hZ]; simp [Act.eval]
 refine wpIn_rangeFunc_ownH (n := 13) rfl (by omega) (gf := 75) (lb := #[.pointer (some ⟨Z + 1, 0, none⟩)]) ha2 trivial (enters_of Tryz.func75 (by kernel_rfl) rfl)
  (edges1_stops 12 w.heap.size (fun _ _ => False) qs A' c' (Z + 1) W0 (fun b _ hb => hb.elim) hk0 (HR.out.grew hg0 (Nat.le_refl _)) (by omega) (by omega))
  (fun h k => h.trans k) KpM.bk (Below.refl _ _) (fun _ => rfl)
  (fun pre W => ((Below w.heap.size w W ∧ Bx W w.heap.size _) ∧ Boxed W Z 53 (.func (.func 44) #[.slice A ps.length c] #[])) ∧ ∀ i ∈ pre, holdsE ps qs i.1 = true)
  (fun e pre W => ((Below w.heap.size w W ∧ Boxed W w.heap.size 4 (.bool false)) ∧ Boxed W (w.heap.size + 1) 31 (.int .i64 0)) ∧ (e = .ret ∧ rr = false))
  (OwnFrom.and (OwnFrom.and (OwnFrom.and (ownFrom_below (Nat.le_refl _) hg0.below.size) (Bx.own (by simp; omega))) (fun s X Y row h1 hg hr => Own.from (boxed_own (β := Unit) Z _ (fun _ => _)) _ () X Y row h1 hg hr)) (ownFrom_pure _))
  (fun q => OwnFrom.and (OwnFrom.and (OwnFrom.and (ownFrom_below (Nat.le_refl _) hg0.below.size) (fun s X Y row h1 hg hr => Own.from (boxed_own (β := Unit) _ _ (fun _ => _)) _ () X Y row h1 hg hr)) (fun s X Y row h1 hg hr => Own.from (boxed_own (β := Unit) _ _ (fun _ => _)) _ () X Y row h1 hg hr)) (ownFrom_pure _))
  ⟨⟨⟨hg0.below, hb0⟩, hf0⟩, fun i hi => by cases hi⟩
  (fun x a' W => ∃ B, W.heap[B]? = some (.cells #[.int .i64 (cor qs x.1).1, .int .i64 (cor qs x.1).2, .int .i64 (cor qs (x.1 + 1)).1, .int .i64 (cor qs (x.1 + 1)).2] 61 (0, 0)) ∧ a' = { tmps := ((a0.tmps.setIfInBounds 21 (.int .i64 (x.1 : Nat))).setIfInBounds 22 (.agg #[.int .i64 (cor qs x.1).1, .int .i64 (cor qs x.1).2, .int .i64 (cor qs (x.1 + 1)).1, .int .i64 (cor qs (x.1 + 1)).2])).setIfInBounds 8 (.pointer (some ⟨B, 0, none⟩)), defers := [] })
  (fun x a' => by
   rintro s X Y row ⟨B, h1, h2⟩ hg hr
   exact ⟨B, cells_own h1 hg (fun r e => (hr r e).2), h2⟩)
  ?assign ?body ?done ?stop
 case assign =>
  rintro l pre x W K ⟨⟨⟨hB, hb⟩, hf⟩, hp⟩ hK
  rw [show encE qs x = #[.int .i64 (x.1 : Nat), .agg #[.int .i64 (cor qs x.1).1, .int .i64 (cor qs x.1).2, .int .i64 (cor qs (x.1 + 1)).1, .int .i64 (cor qs (x.1 + 1)).2]] from rfl, asg2]
  subst ha
  simp only [List.setIfInBounds_toArray, List.set_cons_succ, List.set_cons_zero] at hK ⊢
  have hKK := hide hK
  have l1 := blk_lt hf
  clear hK
  gi_wp2_with fail
  have hgg : Grew W (W.alloc (.cells #[.int .i64 (cor qs x.1).1, .int .i64 (cor qs x.1).2, .int .i64 (cor qs (x.1 + 1)).1, .int .i64 (cor qs (x.1 + 1)).2] 61)) := gw
  exact hKK.out _ _ (hgg.keepsFrom _) (KpM.grew hgg) ⟨⟨⟨hB.trans (hgg.below.mono hB.size), hb.grew hgg⟩, (hgg.below.block _ l1).trans hf⟩, hp⟩ ⟨W.heap.size, heap_alloc_new _ _, rfl⟩
 case body =>
  rintro l pre x a' W hl2 hlp ⟨⟨⟨hB, hb⟩, hf⟩, hp⟩ ⟨B, hx, rfl⟩ hlt
  subst ha
  obtain ⟨i, hil⟩ := x
  dsimp only at hx
  simp only [List.setIfInBounds_toArray, List.set_cons_succ, List.set_cons_zero]
  have oa := cor_ok HOK.out i
  have ob := cor_ok HOK.out (i + 1)
  obtain ⟨o, ho⟩ : ∃ o, hasOf ps (cor qs i) (cor qs (i + 1)) = o := ⟨_, rfl⟩
  have hoe : holdsE ps qs i = o := ho
  have hnext : o = true → ∀ i' ∈ pre ++ [(⟨i, hil⟩ : Fin qs.length)], holdsE ps qs i'.1 = true := fun hof i' hi' => by
   rcases List.mem_append.1 hi' with h | h
   ·exact hp i' h
   ·obtain rfl := List.mem_singleton.1 h
    rw [← hof]; exact hoe
  have hstop : o = false → rr = false := fun hof => by
   rw [← HRR.out]
   refine List.all_eq_false.2 ⟨i, List.mem_range.2 hil, by rw [hoe, hof]; simp⟩
  have HNEXT := hide hnext
  have HSTOP := hide hstop
  have ko := hide (fun W' hg => kh.out (cor qs i) (cor qs (i + 1)) o oa ob ho W' hg)
  clear hnext hstop ho hoe hp hlt
  generalize cor qs i = a at *
  generalize cor qs (i + 1) = b at *
  obtain ⟨a1, a2⟩ := a
  obtain ⟨b1, b2⟩ := b
  dsimp only at hx hb ⊢
  have c3 : W.cell? ⟨Z, 0, none⟩ = _ := Boxed.cell hf
  have c1 : W.cell? ⟨w.heap.size, 0, none⟩ = _ := (hb.box 0 rfl).cell
  have f1 : W.frozen? ⟨w.heap.size, 0, none⟩ = _ := (hb.box 0 rfl).frozen
  have c2 : W.cell? ⟨w.heap.size + 1, 0, none⟩ = _ := (hb.box 1 rfl).cell
  have f2 : W.frozen? ⟨w.heap.size + 1, 0, none⟩ = _ := (hb.box 1 rfl).frozen
  have d0 : W.cell? ⟨B, 0, none⟩ = some _ := blk_cell hx 0
  have d1 : W.cell? ⟨B, 1, none⟩ = some _ := blk_cell hx 1
  have d2 : W.cell? ⟨B, 2, none⟩ = some _ := blk_cell hx 2
  have d3 : W.cell? ⟨B, 3, none⟩ = some _ := blk_cell hx 3
  have l2 := blk_lt hf
  have l1 : w.heap.size + 1 < W.heap.size := by omega
  have l0 : w.heap.size < W.heap.size := by omega
  have lB := blk_lt hx
  have HB := hide hB
  have Hb := hide hb
  have Hf := hide hf
  clear hB hb hx hf
  have hw2 := Grew.of_below HB.out
  have ko2 := hide (ko.out W hw2)
  clear ko hw2
  gi_wp2_with fail
  refine ⟨trivial, ?_⟩
  refine (CallsIn.inRound l (callsIn_wide.2 ko2.out)).mono ?_
  rintro e w' ⟨rfl, ⟨n5, os5⟩, rfl⟩
  dsimp only
  cases o
  ·have HS2 := hide (HSTOP.out rfl)
   clear HNEXT HSTOP
   gi_wp2_with fail
   have hx1 : Boxed W w.heap.size _ _ := Hb.out.box 0 rfl
   have hx2 : Boxed W (w.heap.size + 1) _ _ := Hb.out.box 1 rfl
   have hb2 := fun (u v : Value) => (HB.out.setCell (p := ⟨w.heap.size, 0, none⟩) (by simp) u).setCell (p := ⟨w.heap.size + 1, 0, none⟩) (by simp) v
   exact ⟨(KeepsFrom.setCell _ _ _ _).trans ((KeepsFrom.setCell _ _ _ _).trans ((Grew.mk _ _ _).keepsFrom _)), ⟨⟨(hb2 _ _).trans ((Grew.mk _ _ _).below.mono (hb2 _ _).size), bxd_grow ((hx1.set _).other (by simp) _) _ _⟩, bxd_grow ((hx2.other (by simp) _).set _) _ _⟩, rfl, HS2.out⟩
  ·have HN2 := hide (HNEXT.out rfl)
   clear HNEXT HSTOP
   gi_wp2_with fail
   have hgg : Grew W (grow (dr W n5) os5) := gw
   exact ⟨hgg.keepsFrom _, KpM.grew hgg, ⟨⟨HB.out.trans (hgg.below.mono HB.out.size), Hb.out.grew hgg⟩, (hgg.below.block _ l2).trans Hf.out⟩, HN2.out⟩
 case done =>
  subst ha
  rintro D xs W hD hS ⟨⟨⟨hB, hb⟩, hf⟩, hp⟩ hK
  have b1 : Boxed W w.heap.size _ _ := hb.box 0 rfl
  have c1 := b1.cell
  have f1 := b1.frozen
  have b2 : Boxed W (w.heap.size + 1) _ _ := hb.box 1 rfl
  have c2 := b2.cell
  have f2 := b2.frozen
  obtain rfl : rr = true := by
   rw [← HRR.out]
   refine List.all_eq_true.2 fun j hj => ?_
   have : j ∈ xs.map Fin.val := by rw [hS]; exact hj
   obtain ⟨j', hj', rfl⟩ := List.mem_map.1 this
   exact hp j' hj'
  have HB := hide hB
  clear hB hb hS hp b1 b2 hf
  gi_wp2_with fail
  have hK2 := (KeepsOthers.setCell (W.setCell ⟨w.heap.size, 0, none⟩ (.bool true)) ⟨w.heap.size + 1, 0, none⟩ (.int .i64 0)).same D _ ((KeepsOthers.setCell W ⟨w.heap.size, 0, none⟩ (.bool true)).same D _ hK rfl) rfl
  refine ⟨by simp, .inl ⟨_, _, rfl, run_takeDeferred hK2, ?_⟩⟩
  have hb5 := ((HB.out.setCell (p := ⟨w.heap.size, 0, none⟩) (by simp) (.bool true)).setCell (p := ⟨w.heap.size + 1, 0, none⟩) (by simp) (.int .i64 0)).trans (belowK_b (w := w) (Nat.le_refl _) _ D _ (.deferred none) (by omega) hK2 rfl rfl)
  have e3 : (((W.setCell ⟨w.heap.size, 0, none⟩ (.bool true)).setCell ⟨w.heap.size + 1, 0, none⟩ (.int .i64 0)).putObj D (.deferred none)).cell? ⟨w.heap.size, 0, none⟩ = some (.bool true) := by
   rw [putObj_cell (by omega)]
   go_simp
  have e4 : (((W.setCell ⟨w.heap.size, 0, none⟩ (.bool true)).setCell ⟨w.heap.size + 1, 0, none⟩ (.int .i64 0)).putObj D (.deferred none)).cell? ⟨w.heap.size + 1, 0, none⟩ = some (.int .i64 0) := by
   rw [putObj_cell (by omega)]
   go_simp
  refine ⟨.tuple #[.bool true, .int .i64 0], by simp [results, Tryz.results13, go_sem, e3, e4], ?_⟩
  exact Ret.mk' rfl (Grew.of_below hb5)
 case stop =>
  subst ha
  rintro D e pre W hD ⟨k, hk, hr⟩ ⟨⟨⟨hB, hb1⟩, hb2⟩, rfl, rfl⟩ hK
  have c1 := hb1.cell
  have c2 := hb2.cell
  have HB := hide hB
  clear hB hb1 hb2 hr hk HRR
  gi_wp2_with fail
  refine ⟨by simp, .inl ⟨_, _, rfl, run_takeDeferred hK, ?_⟩⟩
  have hb5 := HB.out.trans (belowK_b (w := w) (Nat.le_refl _) _ D _ (.deferred none) (by omega) hK rfl rfl)
  have e3 := (putObj_cell (W := W) (D := D) (i := 0) (o := .deferred none) (b := w.heap.size) (by omega)).trans c1
  have e4 := (putObj_cell (W := W) (D := D) (i := 0) (o := .deferred none) (b := w.heap.size + 1) (by omega)).trans c2
  refine ⟨.tuple #[.bool false, .int .i64 0], by simp [results, Tryz.results13, go_sem, e3, e4], ?_⟩
  exact Ret.mk' rfl (Grew.of_below hb5)
theorem Holds_v (ps qs : List Pt) (A A' : Option Addr) (c c' : Nat) (d : Bool × Int) (w : World) (hr : Rd w w.heap.size 2 A (ps.map encD)) (hr' : Rd w w.heap.size 2 A' (qs.map encD)) (hc : ps.length ≤ 100000000000000) (hc' : qs.length ≤ 100000000000000) (h : pholdsOf ps qs = d) :
  Calls Tryz.prog 13 #[.slice A ps.length c, .slice A' qs.length c'] w (Ret w (.tuple #[.bool d.1, .int .i64 d.2])) := by
 subst h
 unfold pholdsOf
 cases h : PValid ps && PValid qs
 ·exact PHolds_no ps qs A A' c c' w hr hr' hc hc' h
 ·simp only [Bool.and_eq_true] at h
  exact PHolds_yes ps qs A A' c c' w hr hr' h.1 h.2
end Go.Proofs.YtndkfpmklmcjjaaGreat
