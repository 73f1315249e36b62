/- Package datum: Carry at one place, Apply. -/
import Derived.Test.YtpfpamopmncifaaGreatTsK
set_option linter.unusedSimpArgs false
set_option linter.unusedVariables false
set_option maxHeartbeats 4000000
set_option maxRecDepth 100000
namespace Go.Proofs.YtpfpamopmncifaaGreat
open Go.RowKit Go.Sort
attribute [local go_sem] Steady steadyUpon
attribute [local go_sem ↓] hs_dr lt_add_r lt_add_r2 lt_add_r3 lt_add_r4 lt_add_r5 lt_add_r6
attribute [local go_sem] cell?_gd frozen?_gd setCell_gd size_grow tape_grow cell?_grow' frozen?_grow' setCell_grow' grow_grow grow_dr grow_drew dr_dr dr_drew drew_dr dr_alloc dr_setCell dr_cell dr_frozen dr_tape dr_drawn
attribute [local irreducible] wpSteady
theorem run_store_fn (P : Program) (w : World) (a : Addr) (m : Mode) (f : Fn) (xs ys) : (store a (.func f xs ys) m).run P w = stored P w a (.func f xs ys) m := run_store P w a _ m rfl
attribute [local go_sem] run_store_fn
theorem st4_at {W : World} {b : Nat} {x y z t v u p q : Value} {T : TypeId} {fr : Nat × Nat} (h : W.heap[b]? = some (.cells #[x, y, z, t] T fr)) : ((((W.setCell ⟨b, 0, none⟩ v).setCell ⟨b, 1, none⟩ u).setCell ⟨b, 2, none⟩ p).setCell ⟨b, 3, none⟩ q).heap[b]? = some (.cells #[v, u, p, q] T fr) := by
 have h1 := blk_lt h
 simp [World.setCell, Array.getElem?_modify, h]
abbrev rowsv (m : Dm) : Value := .agg #[.int .i64 m.a, .int .i64 m.b, .int .i64 m.c, .int .i64 m.d, .int .i64 m.e, .int .i64 m.f]
abbrev twov (a b : Int) : Value := .agg #[.int .i64 a, .int .i64 b]
theorem bothL_v (m : Dm) (p : Pt) (w : World) (h1 : dmOk m = true) (h2 : p.ok = true) :
  Calls Tryz.prog 156 #[rowsv m, .func (.func 157) #[] #[], bx4 p.1 p.1 p.2 p.2] w (Ret w (twov (atOf m.a m.b m.c p) (atOf m.d m.e m.f p))) := by
 have hm := hmix
 obtain ⟨hp, _, d1, d2, d3⟩ := dm_bd h1
 obtain ⟨i1, i2, i3, i4⟩ := parts_bd hp
 have k5 := hide (fun W => rleast_v m.a m.b m.c p W i1 i2 d1 h2)
 have k6 := hide (fun W => rleast_v m.d m.e m.f p W i3 i4 d2 h2)
 obtain ⟨u, hu⟩ : ∃ u, atOf m.a m.b m.c p = u := ⟨_, rfl⟩
 obtain ⟨v, hv⟩ : ∃ u, atOf m.d m.e m.f p = u := ⟨_, rfl⟩
 rw [hu] at k5
 rw [hv] at k6
 rw [hu, hv]
 clear hu hv h1 h2 hp i1 i2 i3 i4 d1 d2 d3
 obtain ⟨m1, m2, m3, m4, m5, m6, m7⟩ := m
 obtain ⟨p1, p2⟩ := p
 dsimp only at *
 go_enter Tryz.func156, Tryz.ntmps156
 go_wp2_with fail
 refine wp_region_qas 11 [] [] hm (h := ?_)
 repeat (refine wpSteady_step (fun K hK => ?_); go_simp; first | (refine hK _ ?_; clear hK K) | (apply Exists.intro; refine ⟨fun _ => ?_, hK _ ?_⟩; ((go_at_call 157; first | with_reducible exact k5.out _ | with_reducible exact k6.out _)); clear hK K))
 refine rq0 fun nq osq => ?_
 try simp only [Act.put, setA]
 try dsimp only
 go_wp2_with fail
 refine bodyPost_ret (v := twov u v) (by simp [results, Tryz.results156, go_sem]) rfl ?_
 exact Ret.mk' rfl gw
theorem bothM_v (m : Dm) (p : Pt) (w : World) (h1 : dmOk m = true) (h2 : p.ok = true) :
  Calls Tryz.prog 156 #[rowsv m, .func (.func 158) #[] #[], bx4 p.1 p.1 p.2 p.2] w (Ret w (twov (atOf m.a m.b m.c p) (atOf m.d m.e m.f p))) := by
 have hm := hmix
 obtain ⟨hp, _, d1, d2, d3⟩ := dm_bd h1
 obtain ⟨i1, i2, i3, i4⟩ := parts_bd hp
 have k5 := hide (fun W => rmost_v m.a m.b m.c p W i1 i2 d1 h2)
 have k6 := hide (fun W => rmost_v m.d m.e m.f p W i3 i4 d2 h2)
 obtain ⟨u, hu⟩ : ∃ u, atOf m.a m.b m.c p = u := ⟨_, rfl⟩
 obtain ⟨v, hv⟩ : ∃ u, atOf m.d m.e m.f p = u := ⟨_, rfl⟩
 rw [hu] at k5
 rw [hv] at k6
 rw [hu, hv]
 clear hu hv h1 h2 hp i1 i2 i3 i4 d1 d2 d3
 obtain ⟨m1, m2, m3, m4, m5, m6, m7⟩ := m
 obtain ⟨p1, p2⟩ := p
 dsimp only at *
 go_enter Tryz.func156, Tryz.ntmps156
 go_wp2_with fail
 refine wp_region_qas 11 [] [] hm (h := ?_)
 repeat (refine wpSteady_step (fun K hK => ?_); go_simp; first | (refine hK _ ?_; clear hK K) | (apply Exists.intro; refine ⟨fun _ => ?_, hK _ ?_⟩; ((go_at_call 158; first | with_reducible exact k5.out _ | with_reducible exact k6.out _)); clear hK K))
 refine rq0 fun nq osq => ?_
 try simp only [Act.put, setA]
 try dsimp only
 go_wp2_with fail
 refine bodyPost_ret (v := twov u v) (by simp [results, Tryz.results156, go_sem]) rfl ?_
 exact Ret.mk' rfl gw
abbrev rnd : Value := .agg #[.func (.func 154) #[] #[], .func (.func 155) #[] #[]]
theorem apply_v (lo hi : Int) (w : World) (h1 : -100000000000000000 ≤ lo ∧ lo ≤ 100000000000000000) (h2 : -100000000000000000 ≤ hi ∧ hi ≤ 100000000000000000) :
  Calls Tryz.prog 159 #[rnd, .int .i64 lo, .int .i64 hi, .int .i64 1000000] w (Ret w (spv (lo / 1000000) (upOf hi))) := by
 have hm := hmix
 have k1 := hide (fun W => down_v lo W h1)
 have k2 := hide (fun W => up_v hi W h2)
 obtain ⟨u, hu⟩ : ∃ u, lo / 1000000 = u := ⟨_, rfl⟩
 obtain ⟨v, hv⟩ : ∃ u, upOf hi = u := ⟨_, rfl⟩
 rw [hu] at k1
 rw [hv] at k2
 rw [hu, hv]
 clear hu hv h1 h2
 go_enter Tryz.func159, Tryz.ntmps159
 go_wp2_with fail
 refine wp_region_qas 11 [] [] hm (h := ?_)
 repeat (refine wpSteady_step (fun K hK => ?_); go_simp; first | (refine hK _ ?_; clear hK K) | (apply Exists.intro; refine ⟨fun _ => ?_, hK _ ?_⟩; ((first | (go_at_call 154; with_reducible exact k1.out _) | (go_at_call 155; with_reducible exact k2.out _))); clear hK K))
 refine rq0 fun nq osq => ?_
 try simp only [Act.put, setA]
 try dsimp only
 go_wp2_with fail
 refine bodyPost_ret (v := spv u v) (by simp [results, Tryz.results159, go_sem]) rfl ?_
 exact Ret.mk' rfl gw
def loOf (X r : Int) : Int := (X - 1000000 * r) / 1000000
def hiOf (X r : Int) : Int := upOf (X + 1000000 * r)
def carB (m : Dm) (p : Pt) : Bool := bxOk (loOf (atOf m.a m.b m.c p) m.r) (hiOf (atOf m.a m.b m.c p) m.r) (loOf (atOf m.d m.e m.f p) m.r) (hiOf (atOf m.d m.e m.f p) m.r)
theorem lohi {X r : Int} (hx : -4100000000000 ≤ X ∧ X ≤ 4100000000000) (hr : 0 ≤ r ∧ r ≤ 1000) : -1000000000000 ≤ loOf X r ∧ loOf X r ≤ hiOf X r ∧ hiOf X r ≤ 1000000000000 := by
 unfold loOf hiOf upOf
 omega
theorem Carry_v (m : Dm) (p : Pt) (r : Bool) (w : World) (h1 : dmOk m = true) (h2 : p.ok = true) (hr : carB m p = r) :
  Calls Tryz.prog 141 #[dmv m, bx4 p.1 p.1 p.2 p.2] w fun e w' => ∃ a b c d : Int, (r = true → a = loOf (atOf m.a m.b m.c p) m.r ∧ b = hiOf (atOf m.a m.b m.c p) m.r ∧ c = loOf (atOf m.d m.e m.f p) m.r ∧ d = hiOf (atOf m.d m.e m.f p) m.r) ∧ (r = false → a = 0 ∧ b = 0 ∧ c = 0 ∧ d = 0) ∧ e = .returned (.tuple #[bx4 a b c d, .int .i64 (if r = true then 0 else 3)]) ∧ Grew w w' := by
 have hm := hmix
 obtain ⟨hp, _, d1, d2, d3⟩ := dm_bd h1
 obtain ⟨i1, i2, i3, i4⟩ := parts_bd hp
 have x1 := at_bd i1 i2 d1 h2
 have x2 := at_bd i3 i4 d2 h2
 have q9 := pl_bd h2
 have k1 := hide (fun W => dmValid_v m true W h1)
 have k2 := hide (fun W => vbox_v p.1 p.1 p.2 p.2 true W (by omega) (by omega) (by unfold bxOk; rw [decide_eq_true (by omega), decide_eq_true (by omega)]; rfl))
 have k3 := hide (fun W => read_v m W)
 have k4 := hide (fun W => bothL_v m p W h1 h2)
 have k5 := hide (fun W => bothM_v m p W h1 h2)
 unfold carB at hr
 obtain ⟨X, hX⟩ : ∃ u, atOf m.a m.b m.c p = u := ⟨_, rfl⟩
 obtain ⟨Y, hY⟩ : ∃ u, atOf m.d m.e m.f p = u := ⟨_, rfl⟩
 rw [hX, hY] at k4 k5 hr
 rw [hX] at x1
 rw [hY] at x2
 rw [hX, hY]
 have l1 := lohi x1.2.2 (by omega : 0 ≤ m.r ∧ m.r ≤ 1000)
 have l2 := lohi x2.2.2 (by omega : 0 ≤ m.r ∧ m.r ≤ 1000)
 have k6 := hide (fun W => apply_v (X - 1000000 * m.r) (X + 1000000 * m.r) W (by omega) (by omega))
 have k7 := hide (fun W => apply_v (Y - 1000000 * m.r) (Y + 1000000 * m.r) W (by omega) (by omega))
 have e1 : IntKind.i64.wrap (1000000 * m.r) = 1000000 * m.r := wri (by omega)
 have e2 : IntKind.i64.wrap (X - 1000000 * m.r) = X - 1000000 * m.r := wri (by omega)
 have e3 : IntKind.i64.wrap (Y - 1000000 * m.r) = Y - 1000000 * m.r := wri (by omega)
 have e4 : IntKind.i64.wrap (X + 1000000 * m.r) = X + 1000000 * m.r := wri (by omega)
 have e5 : IntKind.i64.wrap (Y + 1000000 * m.r) = Y + 1000000 * m.r := wri (by omega)
 have k8 := hide (fun W => vbox_v _ _ _ _ r W l1 l2 hr)
 obtain ⟨a, ha⟩ : ∃ u, loOf X m.r = u := ⟨_, rfl⟩
 obtain ⟨b, hb⟩ : ∃ u, hiOf X m.r = u := ⟨_, rfl⟩
 obtain ⟨c, hc⟩ : ∃ u, loOf Y m.r = u := ⟨_, rfl⟩
 obtain ⟨d, hd⟩ : ∃ u, hiOf Y m.r = u := ⟨_, rfl⟩
 rw [show (X - 1000000 * m.r) / 1000000 = a from ha, show upOf (X + 1000000 * m.r) = b from hb] at k6
 rw [show (Y - 1000000 * m.r) / 1000000 = c from hc, show upOf (Y + 1000000 * m.r) = d from hd] at k7
 rw [ha, hb, hc, hd] at k8
 rw [ha, hb, hc, hd]
 clear ha hb hc hd hX hY h1 h2 hp i1 i2 i3 i4 d1 d2 d3 x1 x2 q9 l1 l2 hr
 obtain ⟨m1, m2, m3, m4, m5, m6, m7⟩ := m
 obtain ⟨p1, p2⟩ := p
 dsimp only at *
 go_enter Tryz.func141, Tryz.ntmps141
 go_wp2_with (first | (go_at_call 30; with_reducible refine crv (k1.out _) fun _ _ => ?_; dsimp only) | (go_at_call 153; with_reducible refine crv (k2.out _) fun _ _ => ?_; dsimp only) | (go_at_call 31; with_reducible refine crv (k3.out _) fun _ _ => ?_; dsimp only))
 refine wp_region_qas 12 [⟨8, 10, 9, 70, .agg #[.int .i64 0, .int .i64 0]⟩, ⟨9, 11, 10, 70, .agg #[.int .i64 0, .int .i64 0]⟩] [] hm (hZ := (ZOk.cons Tryz.zeroValue70 Tryz.sizeOf70 (ZOk.cons Tryz.zeroValue70 Tryz.sizeOf70 ZOk.nil))) (h := ?_)
 repeat (refine wpSteady_step (fun K hK => ?_); go_simp; first | (refine hK _ ?_; clear hK K) | (apply Exists.intro; refine ⟨fun _ => ?_, hK _ ?_⟩; ((go_at_call 156; first | with_reducible exact k4.out _ | with_reducible exact k5.out _)); clear hK K))
 refine wpSteady_nil ?_
 refine ⟨(StOk.cons (by rfl) (by simp [stOpnd, Act.eval, Value.cells, Value.oneCell']) (StOk.cons (by rfl) (by simp [stOpnd, Act.eval, Value.cells, Value.oneCell']) StOk.nil)), LyOk.nil, ?_⟩
 rintro psq qsq Wq HWq HFq HBq
 obtain rfl : qsq = [] := HBq
 obtain ⟨p0, _, rfl, hp0, hb0, hn0, p1, _, rfl, hp1, hb1, hn1, rfl⟩ := HFq
 simp only [putAll, putB, Act.put, setA]
 simp [stOpnd, Act.eval, Value.cells] at hb0
 have gc0_0 : Wq.cell? ⟨p0, 0, none⟩ = some _ := blk_cell hb0 0
 have gc0_1 : Wq.cell? ⟨p0, 1, none⟩ = some _ := blk_cell hb0 1
 have gf0 := blk_frozen hb0
 have gl0 := blk_lt hb0
 simp [stOpnd, Act.eval, Value.cells] at hb1
 have gc1_0 : Wq.cell? ⟨p1, 0, none⟩ = some _ := blk_cell hb1 0
 have gc1_1 : Wq.cell? ⟨p1, 1, none⟩ = some _ := blk_cell hb1 1
 have gf1 := blk_frozen hb1
 have gl1 := blk_lt hb1
 have gn : p0 ≠ p1 := by simpa using hn0
 have gm : p1 ≠ p0 := fun e => gn e.symm
 have gp0 := hide hp0
 have gp1 := hide hp1
 clear hb0 hn0 hp0 hb1 hn1 hp1
 have oc := old_cell HWq
 have of := old_frozen HWq
 have ol := old_lt HWq
 replace HWq := hide HWq
 go_wp2_with fail
 refine wp_region_qas 23 [⟨21, 22, 11, 200, .agg #[.int .i64 0, .int .i64 0, .int .i64 0, .int .i64 0]⟩] [] hm (hZ := (ZOk.cons Tryz.zeroValue200 Tryz.sizeOf200 ZOk.nil)) (h := ?_)
 repeat (refine wpSteady_step (fun K hK => ?_); go_simp; first | (refine hK _ ?_; clear hK K) | (apply Exists.intro; refine ⟨fun _ => ?_, hK _ ?_⟩; ((go_at_call 159; first | with_reducible exact k6.out _ | with_reducible exact k7.out _)); clear hK K))
 refine wpSteady_nil ?_
 refine ⟨(StOk.cons (by rfl) (by simp [stOpnd, Act.eval, Value.cells, Value.oneCell']) StOk.nil), LyOk.nil, ?_⟩
 rintro psq qsq Wqb HWqb HFq HBq
 obtain rfl : qsq = [] := HBq
 obtain ⟨pb0, _, rfl, hpb0, hbb0, hnb0, rfl⟩ := HFq
 simp only [putAll, putB, Act.put, setA]
 simp [stOpnd, Act.eval, Value.cells] at hbb0
 have gcb0_0 : Wqb.cell? ⟨pb0, 0, none⟩ = some _ := blk_cell hbb0 0
 have gcb0_1 : Wqb.cell? ⟨pb0, 1, none⟩ = some _ := blk_cell hbb0 1
 have gcb0_2 : Wqb.cell? ⟨pb0, 2, none⟩ = some _ := blk_cell hbb0 2
 have gcb0_3 : Wqb.cell? ⟨pb0, 3, none⟩ = some _ := blk_cell hbb0 3
 have gfb0 := blk_frozen hbb0
 have glb0 := blk_lt hbb0
 have gpb0 := hide hpb0
 clear hbb0 hnb0 hpb0
 have ocb := old_cell HWqb
 have ofb := old_frozen HWqb
 have olb := old_lt HWqb
 replace HWqb := hide HWqb
 have hb : Wqb.heap[w.heap.size + 1 + 1]? = some (.cells #[.int .i64 0, .int .i64 0, .int .i64 0, .int .i64 0] 200 (0, 0)) := (HWqb.out.heap (by have := HWq.out.below.size; simp [hs_dr] at this; omega)).trans ((HWq.out.heap (by simp [hs_dr]; omega)).trans ((heap_alloc_old _ _ (by simp [hs_dr]; omega)).trans ((heap_alloc_old _ _ (by simp [hs_dr]; omega)).trans ((heap_grow_old _ _ (by simp [hs_dr])).trans (heap_alloc_at _ _ _ (by simp))))))
 have hgw : Grew w Wqb := (Grew.trans gw HWq.out).trans HWqb.out
 have HB := hide hb
 have HG := hide hgw
 have c0 := blk_cell hb 0
 have c1 := blk_cell hb 1
 have c2 := blk_cell hb 2
 have c3 := blk_cell hb 3
 have cf := blk_frozen hb
 have cl := blk_lt hb
 clear hb hgw
 cases r
 ·go_wp2_with (go_at_call 153; with_reducible refine crv (k8.out _) fun n9 os9 => ?_; dsimp only)
  have hz : (grow (dr ((((Wqb.setCell ⟨w.heap.size + 1 + 1, 0, none⟩ (.int .i64 0)).setCell ⟨w.heap.size + 1 + 1, 1, none⟩ (.int .i64 0)).setCell ⟨w.heap.size + 1 + 1, 2, none⟩ (.int .i64 0)).setCell ⟨w.heap.size + 1 + 1, 3, none⟩ (.int .i64 0)) n9) os9).heap[w.heap.size + 1 + 1]? = some (.cells #[.int .i64 0, .int .i64 0, .int .i64 0, .int .i64 0] 200 (0, 0)) := (heap_grow_old _ _ (by simp [hs_dr]; omega)).trans (st4_at HB.out)
  have y0 := blk_cell hz 0
  have y1 := blk_cell hz 1
  have y2 := blk_cell hz 2
  have y3 := blk_cell hz 3
  refine bodyPost_ret (v := .tuple #[bx4 0 0 0 0, .int .i64 3]) (by simp [results, Tryz.results141, go_sem, y0, y1, y2, y3]) rfl ?_
  have hb9 := (((HG.out.below.setCell (p := ⟨w.heap.size + 1 + 1, 0, none⟩) (by dsimp only; omega) (.int .i64 0)).setCell (p := ⟨w.heap.size + 1 + 1, 1, none⟩) (by dsimp only; omega) (.int .i64 0)).setCell (p := ⟨w.heap.size + 1 + 1, 2, none⟩) (by dsimp only; omega) (.int .i64 0)).setCell (p := ⟨w.heap.size + 1 + 1, 3, none⟩) (by dsimp only; omega) (.int .i64 0)
  exact ⟨_, _, _, _, ⟨rfl, rfl, rfl, rfl⟩, rfl, Grew.of_below (hb9.trans ((Grew.mk _ _ _).below.mono hb9.size))⟩
 ·go_wp2_with (go_at_call 153; with_reducible refine crv (k8.out _) fun n9 os9 => ?_; dsimp only)
  have hz : (grow (dr ((((Wqb.setCell ⟨w.heap.size + 1 + 1, 0, none⟩ (.int .i64 a)).setCell ⟨w.heap.size + 1 + 1, 1, none⟩ (.int .i64 b)).setCell ⟨w.heap.size + 1 + 1, 2, none⟩ (.int .i64 c)).setCell ⟨w.heap.size + 1 + 1, 3, none⟩ (.int .i64 d)) n9) os9).heap[w.heap.size + 1 + 1]? = some (.cells #[.int .i64 a, .int .i64 b, .int .i64 c, .int .i64 d] 200 (0, 0)) := (heap_grow_old _ _ (by simp [hs_dr]; omega)).trans (st4_at HB.out)
  have y0 := blk_cell hz 0
  have y1 := blk_cell hz 1
  have y2 := blk_cell hz 2
  have y3 := blk_cell hz 3
  refine bodyPost_ret (v := .tuple #[bx4 a b c d, .int .i64 0]) (by simp [results, Tryz.results141, go_sem, y0, y1, y2, y3]) rfl ?_
  have hb9 := (((HG.out.below.setCell (p := ⟨w.heap.size + 1 + 1, 0, none⟩) (by dsimp only; omega) (.int .i64 a)).setCell (p := ⟨w.heap.size + 1 + 1, 1, none⟩) (by dsimp only; omega) (.int .i64 b)).setCell (p := ⟨w.heap.size + 1 + 1, 2, none⟩) (by dsimp only; omega) (.int .i64 c)).setCell (p := ⟨w.heap.size + 1 + 1, 3, none⟩) (by dsimp only; omega) (.int .i64 d)
  exact ⟨_, _, _, _, ⟨rfl, rfl, rfl, rfl⟩, rfl, Grew.of_below (hb9.trans ((Grew.mk _ _ _).below.mono hb9.size))⟩
end Go.Proofs.YtpfpamopmncifaaGreat
