/- Package feature at buoys alone: Valid, Covers, List, Shown. -/
import Derived.Test.YtpfpamopmncifaaGreatPla
import Derived.Test.YtpfpamopmncifaaGreatTsP
set_option linter.unusedSimpArgs false
set_option linter.unusedVariables false
set_option maxHeartbeats 4000000
set_option maxRecDepth 100000
namespace Go.Proofs.YtpfpamopmncifaaGreat
open Go.RowKit Go.Sort
attribute [local go_sem] Steady steadyUpon
attribute [local go_sem ↓] hs_dr lt_add_r lt_add_r2 lt_add_r3 lt_add_r4 lt_add_r5 lt_add_r6
attribute [local go_sem] cell?_gd frozen?_gd setCell_gd size_grow tape_grow cell?_grow' frozen?_grow' setCell_grow' grow_grow grow_dr grow_drew dr_dr dr_drew drew_dr dr_alloc dr_setCell dr_cell dr_frozen dr_tape dr_drawn
attribute [local irreducible] wpSteady
/-- A buoy as a value: no corners, no sectors, no depth. -/
abbrev dv (id x y rad sym : Int) : Value := .agg #[.int .i64 id, .int .i64 5, .int .i64 x, .int .i64 y, .int .i64 rad, .slice none 0 0, .int .i64 0, .int .i64 sym, .slice none 0 0]
def dcs (id x y rad sym : Int) : List Value := [.int .i64 id, .int .i64 5, .int .i64 x, .int .i64 y, .int .i64 rad, .slice none 0 0, .int .i64 0, .int .i64 sym, .slice none 0 0]
def roomOk (x y n : Int) : Bool := plOk (x - n) (y - n) && plOk (x + n) (y + n)
def dvOk (id x y rad sym : Int) : Bool := decide ((1 ≤ id ∧ id ≤ 100000) ∧ (0 ≤ sym ∧ sym ≤ 999) ∧ (0 ≤ rad ∧ rad ≤ 100000)) && (plOk x y && roomOk x y rad)
theorem room_v (x y n : Int) (r : Bool) (w : World) (hp : plOk x y = true) (hn : 0 ≤ n ∧ n ≤ 100000) (h : roomOk x y n = r) :
  Calls Tryz.prog 43 #[pt x y, .int .i64 n] w (Ret w (.bool r)) := by
 have hm := hmix
 have hb := pl_bd hp
 obtain ⟨o1, h1⟩ : ∃ o, plOk (x - n) (y - n) = o := ⟨_, rfl⟩
 obtain ⟨o2, h2⟩ : ∃ o, plOk (x + n) (y + n) = o := ⟨_, rfl⟩
 unfold roomOk at h
 rw [h1, h2] at h
 have k1 := hide (fun W => planeValid_v (x - n) (y - n) o1 W h1)
 have k2 := hide (fun W => planeValid_v (x + n) (y + n) o2 W h2)
 subst h
 clear h1 h2 hp
 cases o1
 all_goals
  go_enter Tryz.func43, Tryz.ntmps43
  go_wp2_with (first | (go_at_call 21; with_reducible refine crv (k1.out _) fun _ _ => ?_; dsimp only) | (go_at_call 21; with_reducible refine crv (k2.out _) fun _ _ => ?_; dsimp only))
  go_ret
  exact Ret.mk' rfl gw
theorem dValid_v (id x y rad sym : Int) (r : Bool) (w : World) (h : dvOk id x y rad sym = r) : Calls Tryz.prog 25 #[dv id x y rad sym] w (Ret w (.bool r)) := by
 have hm := hmix
 by_cases hb : (1 ≤ id ∧ id ≤ 100000) ∧ (0 ≤ sym ∧ sym ≤ 999) ∧ (0 ≤ rad ∧ rad ≤ 100000)
 ·obtain ⟨o1, h1⟩ : ∃ o, plOk x y = o := ⟨_, rfl⟩
  obtain ⟨o2, h2⟩ : ∃ o, roomOk x y rad = o := ⟨_, rfl⟩
  have k1 := hide (fun W => planeValid_v x y o1 W h1)
  have k2 := hide (fun W (e : o1 = true) => room_v x y rad o2 W (h1.trans e) (by omega) h2)
  have hr : r = (o1 && o2) := by rw [← h]; unfold dvOk; rw [decide_eq_true hb, h1, h2]; rfl
  subst hr
  obtain ⟨⟨b1, b2⟩, ⟨b3, b4⟩, b5, b6⟩ := hb
  have n1 : ¬ id < 1 := by omega
  have n2 : ¬ 100000 < id := by omega
  have n3 : ¬ sym < 0 := by omega
  have n4 : ¬ 999 < sym := by omega
  have n5 : ¬ rad < 0 := by omega
  have n6 : ¬ 100000 < rad := by omega
  clear h h1 h2
  cases o1
  ·clear k2
   go_enter Tryz.func25, Tryz.ntmps25
   go_wp2_with (go_at_call 21; with_reducible refine crv (k1.out _) fun _ _ => ?_; dsimp only)
   go_ret
   exact Ret.mk' rfl gw
  ·have k3 := hide (fun W => k2.out W rfl)
   clear k2
   cases o2
   all_goals
    go_enter Tryz.func25, Tryz.ntmps25
    go_wp2_with (first | (go_at_call 21; with_reducible refine crv (k1.out _) fun _ _ => ?_; dsimp only) | (go_at_call 43; with_reducible refine crv (k3.out _) fun _ _ => ?_; dsimp only))
    go_ret
    exact Ret.mk' rfl gw
 ·have hr : r = false := by rw [← h]; unfold dvOk; rw [decide_eq_false hb]; rfl
  subst hr
  have hcase : id < 1 ∨ (¬ id < 1 ∧ 100000 < id) ∨ (¬ id < 1 ∧ ¬ 100000 < id ∧ sym < 0) ∨ (¬ id < 1 ∧ ¬ 100000 < id ∧ ¬ sym < 0 ∧ 999 < sym) ∨ (¬ id < 1 ∧ ¬ 100000 < id ∧ ¬ sym < 0 ∧ ¬ 999 < sym ∧ rad < 0) ∨ (¬ id < 1 ∧ ¬ 100000 < id ∧ ¬ sym < 0 ∧ ¬ 999 < sym ∧ ¬ rad < 0 ∧ 100000 < rad) := by omega
  clear h hb
  rcases hcase with h1 | ⟨h1, h2⟩ | ⟨h1, h2, h3⟩ | ⟨h1, h2, h3, h4⟩ | ⟨h1, h2, h3, h4, h5⟩ | ⟨h1, h2, h3, h4, h5, h6⟩
  all_goals
   go_enter Tryz.func25, Tryz.ntmps25
   go_wp2_with fail
   go_ret
   exact Ret.mk' rfl gw
theorem dof_v (id x y rad sym : Int) (w : World) : Calls Tryz.prog 26 #[dv id x y rad sym] w (Ret w (.iface 109 (.agg #[.int .i64 x, .int .i64 y, .int .i64 rad]))) := by
 have hm := hmix
 go_enter Tryz.func26, Tryz.ntmps26
 go_wp2_with fail
 go_ret
 exact Ret.mk' rfl gw
theorem Near_v (p a b : Pt) (d : Int) (r : Bool × Int) (w : World) (h : nearOf p a b d = r) :
  Calls Tryz.prog 127 #[pt p.1 p.2, pt a.1 a.2, pt b.1 b.2, .int .i64 d] w (Ret w (.tuple #[.bool r.1, .int .i64 r.2])) := by
 have := Near_any p a b d w
 rwa [h] at this
/-- A disc has a place. -/
def coverD (x y r : Int) (p : Pt) : Bool := (nearOf p (x, y) (x, y) r).2 == 0 && (nearOf p (x, y) (x, y) r).1
theorem discCovers_v (x y r : Int) (p : Pt) (o : Bool) (w : World) (h : coverD x y r p = o) :
  Calls Tryz.prog 124 #[.agg #[.int .i64 x, .int .i64 y, .int .i64 r], pt p.1 p.2] w (Ret w (.bool o)) := by
 have hm := hmix
 unfold coverD at h
 obtain ⟨⟨n, e⟩, hn⟩ : ∃ u, nearOf p (x, y) (x, y) r = u := ⟨_, rfl⟩
 have k1 := hide (fun W => Near_v p (x, y) (x, y) r (n, e) W hn)
 rw [hn] at h
 dsimp only at h k1
 clear hn
 obtain ⟨p1, p2⟩ := p
 by_cases he : e = 0
 ·subst he
  simp at h
  subst h
  go_enter Tryz.func124, Tryz.ntmps124
  go_wp2_with (go_at_call 127; with_reducible refine crv (k1.out _) fun _ _ => ?_; dsimp only)
  go_ret
  exact Ret.mk' rfl gw
 ·have he2 : (e == 0) = false := by simpa using he
  rw [he2] at h
  subst h
  go_enter Tryz.func124, Tryz.ntmps124
  go_wp2_with (go_at_call 127; with_reducible refine crv (k1.out _) fun _ _ => ?_; dsimp only)
  go_ret
  exact Ret.mk' rfl gw
theorem mc_disc (v : Value) (w : World) : (method 357 109 v "seamark/feature.covers").run Tryz.prog w = .ok (124, v) w := by kernel_rfl
theorem nc_disc (v : Value) (w : World) : (nilAhead 357 109 v "seamark/feature.covers").run Tryz.prog w = .ok (some false) w := by kernel_rfl
attribute [local go_sem] mc_disc nc_disc
theorem dCovers_v (id x y rad sym : Int) (p : Pt) (r : Bool × Int) (w : World) (h : (if (dvOk id x y rad sym && p.ok) = true then (coverD x y rad p, (0 : Int)) else (false, 1)) = r) :
  Calls Tryz.prog 9 #[dv id x y rad sym, pt p.1 p.2] w (Ret w (.tuple #[.bool r.1, .int .i64 r.2])) := by
 have hm := hmix
 obtain ⟨u, hu⟩ : ∃ u, dvOk id x y rad sym = u := ⟨_, rfl⟩
 obtain ⟨v, hv⟩ : ∃ u, p.ok = u := ⟨_, rfl⟩
 obtain ⟨o, ho⟩ : ∃ u, coverD x y rad p = u := ⟨_, rfl⟩
 have k1 := hide (fun W => dValid_v id x y rad sym u W hu)
 have k2 := hide (fun W => planeValid_v p.1 p.2 v W hv)
 have k3 := hide (fun W => dof_v id x y rad sym W)
 have k4 := hide (fun W => discCovers_v x y rad p o W ho)
 rw [hu, hv, ho] at h
 subst h
 clear hu hv ho
 obtain ⟨p1, p2⟩ := p
 dsimp only at k2 k4
 have hcase : u = false ∨ (u = true ∧ v = false) ∨ (u = true ∧ v = true) := by cases u <;> cases v <;> simp
 rcases hcase with rfl | ⟨rfl, rfl⟩ | ⟨rfl, rfl⟩
 ·go_enter Tryz.func9, Tryz.ntmps9
  go_wp2_with (first | (go_at_call 25; with_reducible refine crv (k1.out _) fun _ _ => ?_; dsimp only) | (go_at_call 21; with_reducible refine crv (k2.out _) fun _ _ => ?_; dsimp only))
  go_ret2
  exact Ret.mk' rfl gw
 ·go_enter Tryz.func9, Tryz.ntmps9
  go_wp2_with (first | (go_at_call 25; with_reducible refine crv (k1.out _) fun _ _ => ?_; dsimp only) | (go_at_call 21; with_reducible refine crv (k2.out _) fun _ _ => ?_; dsimp only))
  go_ret2
  exact Ret.mk' rfl gw
 ·go_enter Tryz.func9, Tryz.ntmps9
  go_wp2_with (first | (go_at_call 25; with_reducible refine crv (k1.out _) fun _ _ => ?_; dsimp only) | (go_at_call 21; with_reducible refine crv (k2.out _) fun _ _ => ?_; dsimp only))
  refine wp_region_qas 6 [] [] hm (h := ?_)
  repeat (refine wpSteady_step (fun K hK => ?_); go_simp; first | (refine hK _ ?_; clear hK K) | (apply Exists.intro; refine ⟨fun _ => ?_, hK _ ?_⟩; (first | (go_at_call 26; with_reducible exact k3.out _) | (go_at_call 124; with_reducible exact k4.out _)); clear hK K))
  refine rq0 fun nq osq => ?_
  try simp only [Act.put, setA]
  try dsimp only
  go_wp2_with fail
  go_ret2
  exact Ret.mk' rfl gw
/-- One buoy in a list can be read. -/
def One (W : World) (A : Option Addr) (id x y rad sym : Int) : Prop := Rd W W.heap.size 9 A [dcs id x y rad sym]
theorem One.at {W : World} {A : Option Addr} {id x y rad sym : Int} (h : One W A id x y rad sym) : ∃ b off, Hid (A = some ⟨b, off, none⟩) ∧ b < W.heap.size ∧ W.cell? ⟨b, off, none⟩ = some (.int .i64 id) ∧ W.cell? ⟨b, off + 1, none⟩ = some (.int .i64 5) ∧ W.cell? ⟨b, off + 2, none⟩ = some (.int .i64 x) ∧ W.cell? ⟨b, off + 3, none⟩ = some (.int .i64 y) ∧ W.cell? ⟨b, off + 4, none⟩ = some (.int .i64 rad) ∧ W.cell? ⟨b, off + 5, none⟩ = some (.slice none 0 0) ∧ W.cell? ⟨b, off + 6, none⟩ = some (.int .i64 0) ∧ W.cell? ⟨b, off + 7, none⟩ = some (.int .i64 sym) ∧ W.cell? ⟨b, off + 8, none⟩ = some (.slice none 0 0) := by
 obtain ⟨b, off, hA, hb, hc⟩ := Rd.at_ h (k := 0) (x := dcs id x y rad sym) rfl
 simp only [Nat.zero_mul, Nat.add_zero] at hc
 exact ⟨b, off, hA, hb, hc 0 _ rfl, hc 1 _ rfl, hc 2 _ rfl, hc 3 _ rfl, hc 4 _ rfl, hc 5 _ rfl, hc 6 _ rfl, hc 7 _ rfl, hc 8 _ rfl⟩
end Go.Proofs.YtpfpamopmncifaaGreat
