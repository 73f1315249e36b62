/- Package transport: Apply, middle, place, the disc as it is carried. -/
import Derived.Test.YtpfpamopmncifaaGreatTsM
import Derived.Test.YtpfpamopmncifaaGreatTsC
import Derived.Test.YtpfpamopmncifaaGreatTsQ
set_option linter.unusedSimpArgs false
set_option linter.unusedVariables false
set_option maxHeartbeats 1600000
set_option maxRecDepth 100000
namespace Go.Proofs.YtpfpamopmncifaaGreat
open Go.RowKit Go.Sort
attribute [local go_sem] Steady steadyUpon
attribute [local go_sem ↓] hs_dr lt_add_r lt_add_r2 lt_add_r3 lt_add_r4 lt_add_r5 lt_add_r6
attribute [local go_sem] cell?_gd frozen?_gd setCell_gd size_grow tape_grow cell?_grow' frozen?_grow' setCell_grow' grow_grow grow_dr grow_drew dr_dr dr_drew drew_dr dr_alloc dr_setCell dr_cell dr_frozen dr_tape dr_drawn
attribute [local irreducible] wpSteady
/-- What Apply returns. -/
def boxOf4 (m : Dm) (p : Pt) : (Int × Int) × (Int × Int) := if carB m p = true then ((loOf (atOf m.a m.b m.c p) m.r, hiOf (atOf m.a m.b m.c p) m.r), (loOf (atOf m.d m.e m.f p) m.r, hiOf (atOf m.d m.e m.f p) m.r)) else ((0, 0), (0, 0))
def errOf4 (m : Dm) (p : Pt) : Int := if carB m p = true then 0 else 3
theorem Carry_r (m : Dm) (p : Pt) (b : (Int × Int) × (Int × Int)) (e : Int) (w : World) (h1 : dmOk m = true) (h2 : p.ok = true) (hb : boxOf4 m p = b) (he : errOf4 m p = e) :
  Calls Tryz.prog 141 #[dmv m, bx4 p.1 p.1 p.2 p.2] w (Ret w (.tuple #[bx4 b.1.1 b.1.2 b.2.1 b.2.2, .int .i64 e])) := by
 subst hb he
 refine (Carry_v m p _ w h1 h2 rfl).mono ?_
 rintro x w' ⟨a, b, c, d, ha, hb, rfl, hg⟩
 unfold boxOf4 errOf4
 cases hr : carB m p
 ·obtain ⟨rfl, rfl, rfl, rfl⟩ := hb hr
  exact ⟨rfl, hg⟩
 ·obtain ⟨rfl, rfl, rfl, rfl⟩ := ha hr
  exact ⟨rfl, hg⟩
theorem Apply_v (m : Dm) (p : Pt) (b : (Int × Int) × (Int × Int)) (e : Int) (w : World) (h1 : dmOk m = true) (h2 : p.ok = true) (hb : boxOf4 m p = b) (he : errOf4 m p = e) :
  Calls Tryz.prog 135 #[dmv m, pt p.1 p.2] w (Ret w (.tuple #[bx4 b.1.1 b.1.2 b.2.1 b.2.2, .int .i64 e])) := by
 have hm := hmix
 have k1 := hide (fun W => one_v p.1 p.2 W)
 have k2 := hide (fun W => Carry_r m p b e W h1 h2 hb he)
 clear h1 h2 hb he
 obtain ⟨⟨b1, b2⟩, ⟨b3, b4⟩⟩ := b
 obtain ⟨m1, m2, m3, m4, m5, m6, m7⟩ := m
 obtain ⟨p1, p2⟩ := p
 dsimp only at *
 go_enter Tryz.func135, Tryz.ntmps135
 go_wp2_with fail
 refine wp_region_qas 6 [] [] hm (h := ?_)
 repeat (refine wpSteady_step (fun K hK => ?_); go_simp; first | (refine hK _ ?_; clear hK K) | (apply Exists.intro; refine ⟨fun _ => ?_, hK _ ?_⟩; ((first | (go_at_call 142; with_reducible exact k1.out _) | (go_at_call 141; with_reducible exact k2.out _))); clear hK K))
 refine rq0 fun nq osq => ?_
 try simp only [Act.put, setA]
 try dsimp only
 go_wp2_with fail
 refine bodyPost_ret (v := .tuple #[bx4 b1 b2 b3 b4, .int .i64 e]) (by simp [results, Tryz.results135, go_sem]) rfl ?_
 exact Ret.mk' rfl gw
theorem middle_v (a b c d : Int) (w : World) (h : (-1000000 ≤ a ∧ b ≤ 1000000 ∧ a ≤ b) ∧ (-1000000 ≤ c ∧ d ≤ 1000000 ∧ c ≤ d)) : Calls Tryz.prog 185 #[bx4 a b c d] w (Ret w (pt ((a + b) / 2) ((c + d) / 2))) := by
 have hm := hmix
 have e1 : IntKind.i64.wrap (a + b) = a + b := wri (by omega)
 have e2 : IntKind.i64.wrap (c + d) = c + d := wri (by omega)
 go_enter Tryz.func185, Tryz.ntmps185
 go_wp2_with fail
 refine bodyPost_ret (v := pt ((a + b) / 2) ((c + d) / 2)) (by simp [results, Tryz.results185, go_sem]) rfl ?_
 exact Ret.mk' rfl gw
def midOf (m : Dm) (p : Pt) : Pt := (((boxOf4 m p).1.1 + (boxOf4 m p).1.2) / 2, ((boxOf4 m p).2.1 + (boxOf4 m p).2.2) / 2)
theorem box4_bd {m : Dm} {p : Pt} (h1 : dmOk m = true) (h2 : p.ok = true) : (-1000000 ≤ (boxOf4 m p).1.1 ∧ (boxOf4 m p).1.2 ≤ 1000000 ∧ (boxOf4 m p).1.1 ≤ (boxOf4 m p).1.2) ∧ (-1000000 ≤ (boxOf4 m p).2.1 ∧ (boxOf4 m p).2.2 ≤ 1000000 ∧ (boxOf4 m p).2.1 ≤ (boxOf4 m p).2.2) := by
 obtain ⟨hp, _, d1, d2, d3⟩ := dm_bd h1
 obtain ⟨i1, i2, i3, i4⟩ := parts_bd hp
 have x1 := at_bd i1 i2 d1 h2
 have x2 := at_bd i3 i4 d2 h2
 have l1 := lohi x1.2.2 (by omega : 0 ≤ m.r ∧ m.r ≤ 1000)
 have l2 := lohi x2.2.2 (by omega : 0 ≤ m.r ∧ m.r ≤ 1000)
 unfold boxOf4
 cases hc : carB m p
 ·simp
 ·unfold carB bxOk at hc
  rw [Bool.and_eq_true, decide_eq_true_eq, decide_eq_true_eq] at hc
  rw [if_pos rfl]
  dsimp only
  omega
theorem place_v (m : Dm) (s k g : Int) (p : Pt) (q : Pt) (o : Bool) (w : World) (h1 : dmOk m = true) (h2 : p.ok = true) (hq : midOf m p = q) (ho : carB m p = o) :
  Calls Tryz.prog 183 #[cav m s k g, pt p.1 p.2] w (Ret w (.tuple #[pt q.1 q.2, .bool o])) := by
 have hm := hmix
 have hb := box4_bd h1 h2
 unfold midOf at hq
 obtain ⟨b, hbx⟩ : ∃ b, boxOf4 m p = b := ⟨_, rfl⟩
 have he : errOf4 m p = if o = true then 0 else 3 := by unfold errOf4; rw [ho]
 have k1 := hide (fun W => Apply_v m p b _ W h1 h2 hbx he)
 rw [hbx] at hb hq
 have k2 := hide (fun W => middle_v b.1.1 b.1.2 b.2.1 b.2.2 W hb)
 obtain ⟨⟨b1, b2⟩, ⟨b3, b4⟩⟩ := b
 obtain ⟨q1, q2⟩ := q
 injection hq with hq1 hq2
 dsimp only at k1 k2 hq1 hq2
 rw [hq1, hq2] at k2
 clear h1 h2 hb he hbx ho hq1 hq2
 obtain ⟨m1, m2, m3, m4, m5, m6, m7⟩ := m
 obtain ⟨p1, p2⟩ := p
 dsimp only at *
 cases o
 all_goals
  simp only [reduceIte, Bool.false_eq_true] at k1
  go_enter Tryz.func183, Tryz.ntmps183
  go_wp2_with (first | (go_at_call 135; with_reducible refine crv (k1.out _) fun _ _ => ?_; dsimp only) | (go_at_call 185; with_reducible refine crv (k2.out _) fun _ _ => ?_; dsimp only))
  refine bodyPost_ret (v := .tuple #[pt q1 q2, .bool _]) (by simp [results, Tryz.results183, go_sem]; rfl) rfl ?_
  exact Ret.mk' rfl gw
abbrev dsv (x y r : Int) : Value := .agg #[.int .i64 x, .int .i64 y, .int .i64 r]
theorem carried_v (m : Dm) (s k g : Int) (p : Pt) (r : Int) (q : Pt) (o : Bool) (G : Int) (w : World) (h1 : dmOk m = true) (h2 : p.ok = true) (hs : 0 ≤ s ∧ s ≤ 5000000) (hg : 0 ≤ g ∧ g ≤ 5000000) (hr : 0 ≤ r ∧ r ≤ 100000) (hq : midOf m p = q) (ho : carB m p = o) (hG : grOf s r + g = G) :
  Calls Tryz.prog 187 #[dsv p.1 p.2 r, cav m s k g] w (Ret w (.tuple #[.iface 144 (dsv q.1 q.2 G), .bool o])) := by
 have hm := hmix
 have k1 := hide (fun W => place_v m s k g p q o W h1 h2 hq ho)
 have k2 := hide (fun W => grown_v m s k g r W hs hr)
 have hgr : 0 ≤ grOf s r ∧ grOf s r ≤ 500001 := by
  have h0 : 0 ≤ r * s := Int.mul_nonneg hr.1 hs.1
  have hb := mul_bd (a := r) (b := s) 100000 5000000 (by omega) (by omega)
  unfold grOf
  omega
 obtain ⟨H, hH⟩ : ∃ H, grOf s r = H := ⟨_, rfl⟩
 rw [hH] at k2 hgr hG
 subst hG
 have e1 : IntKind.i64.wrap (H + g) = H + g := wri (by omega)
 clear h1 h2 hs hg hr hq ho hH hgr
 obtain ⟨m1, m2, m3, m4, m5, m6, m7⟩ := m
 obtain ⟨p1, p2⟩ := p
 obtain ⟨q1, q2⟩ := q
 dsimp only at *
 go_enter Tryz.func187, Tryz.ntmps187
 go_wp2_with (go_at_call 183; with_reducible refine crv (k1.out _) fun _ _ => ?_; dsimp only)
 refine wp_region_qas 13 [] [] hm (h := ?_)
 repeat (refine wpSteady_step (fun K hK => ?_); go_simp; first | (refine hK _ ?_; clear hK K) | (apply Exists.intro; refine ⟨fun _ => ?_, hK _ ?_⟩; ((go_at_call 108; with_reducible exact k2.out _)); clear hK K))
 refine rq0 fun nq osq => ?_
 try simp only [Act.put, setA]
 try dsimp only
 go_wp2_with fail
 go_ret2
 exact Ret.mk' rfl gw
theorem tof_v (id x y rad sym : Int) (w : World) : Calls Tryz.prog 50 #[dv id x y rad sym] w (Ret w (.iface 144 (dsv x y rad))) := by
 have hm := hmix
 go_enter Tryz.func50, Tryz.ntmps50
 go_wp2_with fail
 go_ret
 exact Ret.mk' rfl gw
theorem ta_disc (v : Value) (w : World) : (Instr.typeAssert (.iface 144 v) 117 144 true).run Tryz.prog w = .ok (.tuple #[v, .bool true]) w := by kernel_rfl
attribute [local go_sem] ta_disc
theorem with_v (id x y rad sym x' y' r' : Int) (w : World) : Calls Tryz.prog 51 #[dv id x y rad sym, .iface 144 (dsv x' y' r')] w (Ret w (dv id x' y' r' sym)) := by
 have hm := hmix
 go_enter Tryz.func51, Tryz.ntmps51
 go_wp2_with fail
 refine wp_region_held_drew (S := (fun w' => w'.cell? ⟨w.heap.size + 1 + 1, 0, none⟩ = some (.int .i64 x') ∧ w'.cell? ⟨w.heap.size + 1 + 1, 1, none⟩ = some (.int .i64 y') ∧ w'.cell? ⟨w.heap.size + 1 + 1, 2, none⟩ = some (.int .i64 r'))) hm ?_ (fun hHeld => ?_)
 ·first | exact hHeld | (refine ⟨?_, ?_, ?_⟩ <;> go_simp) | go_keep
 refine tk 0 ?_
 refine tk 1 ?_
 refine tk 2 ?_
 refine tk 3 ?_
 refine tk 4 ?_
 try simp only [Act.put, setA, getA]
 refine wpAnyH_ready (rs := [5]) (by kernel_rfl) (by simp) ?_
 refine AllReadyH.cons (o := _) rfl (fun K hK => ?_) AllReadyH.nil
 go_simp
 skip
 refine hK.out _ _ ?_ (fun hHeld => ?_)
 ·first | exact hHeld | (refine ⟨?_, ?_, ?_⟩ <;> go_simp) | go_keep
 clear hK K
 try simp only [Act.put, setA, getA]
 refine tk 6 ?_
 try simp only [Act.put, setA, getA]
 refine wpAnyH_ready (rs := [7]) (by kernel_rfl) (by simp) ?_
 refine AllReadyH.cons (o := _) rfl (fun K hK => ?_) AllReadyH.nil
 go_simp
 skip
 refine hK.out _ _ ?_ (fun hHeld => ?_)
 ·first | exact hHeld | (refine ⟨?_, ?_, ?_⟩ <;> go_simp) | go_keep
 clear hK K
 try simp only [Act.put, setA, getA]
 refine wpAnyH_done (by kernel_rfl) ?_ _
 go_wp2_with fail
 refine bodyPost_ret (v := dv id x' y' r' sym) (by simp [results, Tryz.results51, go_sem]) rfl ?_
 exact Ret.mk' rfl gw
end Go.Proofs.YtpfpamopmncifaaGreat
