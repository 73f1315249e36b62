import Derived.Test.YtfeccolljfkejaaGreatDoorPod
import Derived.Test.YtfeccolljfkejaaGreatDoorFeA
/- Package poly: place, In, Area. Package poly: In, Area; the ways that a corner opens. Package poly: what a corner opens; the index of a corner; leads. -/
set_option linter.unusedSimpArgs false
set_option linter.unusedVariables false
set_option maxHeartbeats 4000000
set_option maxRecDepth 100000
namespace Go.Proofs.YtfeccolljfkejaaGreatDoor
open Go.RowKit Go.Sort
attribute [local go_sem] Steady steadyUpon
attribute [local go_sem ↓] hs_dr lt_add_r lt_add_r2 lt_add_r3 lt_add_r4 lt_add_r5 lt_add_r6
attribute [local go_sem] cell?_gd frozen?_gd setCell_gd size_grow tape_grow cell?_grow' frozen?_grow' setCell_grow' grow_grow grow_dr grow_drew dr_dr dr_drew drew_dr dr_alloc dr_setCell dr_cell dr_frozen dr_tape dr_drawn
attribute [local irreducible] wpSteady
attribute [local go_sem] Oper.semAt_some
end Go.Proofs.YtfeccolljfkejaaGreatDoor
namespace Go.Proofs.YtfeccolljfkejaaGreatDoor
open Go.RowKit Go.Sort
attribute [local go_sem] Steady steadyUpon
attribute [local go_sem ↓] hs_dr lt_add_r lt_add_r2 lt_add_r3 lt_add_r4 lt_add_r5 lt_add_r6
attribute [local go_sem] cell?_gd frozen?_gd setCell_gd size_grow tape_grow cell?_grow' frozen?_grow' setCell_grow' grow_grow grow_dr grow_drew dr_dr dr_drew drew_dr dr_alloc dr_setCell dr_cell dr_frozen dr_tape dr_drawn
attribute [local irreducible] wpSteady
end Go.Proofs.YtfeccolljfkejaaGreatDoor
namespace Go.Proofs.YtfeccolljfkejaaGreatDoor
open Go.RowKit Go.Sort
attribute [local go_sem] Steady steadyUpon
attribute [local go_sem ↓] hs_dr lt_add_r lt_add_r2 lt_add_r3 lt_add_r4 lt_add_r5 lt_add_r6
attribute [local go_sem] cell?_gd frozen?_gd setCell_gd size_grow tape_grow cell?_grow' frozen?_grow' setCell_grow' grow_grow grow_dr grow_drew dr_dr dr_drew drew_dr dr_alloc dr_setCell dr_cell dr_frozen dr_tape dr_drawn
attribute [local irreducible] wpSteady
attribute [local go_sem] Oper.semAt_some
end Go.Proofs.YtfeccolljfkejaaGreatDoor

/- Package poly: leads. -/
set_option linter.unusedSimpArgs false
set_option linter.unusedVariables false
set_option maxHeartbeats 4000000
set_option maxRecDepth 100000
namespace Go.Proofs.YtfeccolljfkejaaGreatDoor
open Go.RowKit Go.Sort
attribute [local go_sem] Steady steadyUpon
attribute [local go_sem ↓] hs_dr lt_add_r lt_add_r2 lt_add_r3 lt_add_r4 lt_add_r5 lt_add_r6
attribute [local go_sem] cell?_gd frozen?_gd setCell_gd size_grow tape_grow cell?_grow' frozen?_grow' setCell_grow' grow_grow grow_dr grow_drew dr_dr dr_drew drew_dr dr_alloc dr_setCell dr_cell dr_frozen dr_tape dr_drawn
attribute [local irreducible] wpSteady
attribute [local go_sem] Oper.semAt_some
end Go.Proofs.YtfeccolljfkejaaGreatDoor

/- Package poly: has. -/
set_option linter.unusedSimpArgs false
set_option linter.unusedVariables false
set_option maxHeartbeats 32000000
set_option maxRecDepth 100000
namespace Go.Proofs.YtfeccolljfkejaaGreatDoor
open Go.RowKit Go.Sort
attribute [local go_sem] Steady steadyUpon
attribute [local go_sem ↓] hs_dr lt_add_r lt_add_r2 lt_add_r3 lt_add_r4 lt_add_r5 lt_add_r6
attribute [local go_sem] cell?_gd frozen?_gd setCell_gd size_grow tape_grow cell?_grow' frozen?_grow' setCell_grow' grow_grow grow_dr grow_drew dr_dr dr_drew drew_dr dr_alloc dr_setCell dr_cell dr_frozen dr_tape dr_drawn
attribute [local irreducible] wpSteady
attribute [local go_sem] Oper.semAt_some
end Go.Proofs.YtfeccolljfkejaaGreatDoor

/- Package poly: Disc. Package poly: Holds. -/
set_option linter.unusedSimpArgs false
set_option linter.unusedVariables false
set_option maxHeartbeats 8000000
set_option maxRecDepth 100000
namespace Go.Proofs.YtfeccolljfkejaaGreatDoor
open Go.RowKit Go.Sort
attribute [local go_sem] Steady steadyUpon
attribute [local go_sem ↓] hs_dr lt_add_r lt_add_r2 lt_add_r3 lt_add_r4 lt_add_r5 lt_add_r6
attribute [local go_sem] cell?_gd frozen?_gd setCell_gd size_grow tape_grow cell?_grow' frozen?_grow' setCell_grow' grow_grow grow_dr grow_drew dr_dr dr_drew drew_dr dr_alloc dr_setCell dr_cell dr_frozen dr_tape dr_drawn
attribute [local irreducible] wpSteady
attribute [local go_sem] Oper.semAt_some
end Go.Proofs.YtfeccolljfkejaaGreatDoor
namespace Go.Proofs.YtfeccolljfkejaaGreatDoor
open Go.RowKit Go.Sort
attribute [local go_sem] Steady steadyUpon
attribute [local go_sem ↓] hs_dr lt_add_r lt_add_r2 lt_add_r3 lt_add_r4 lt_add_r5 lt_add_r6
attribute [local go_sem] cell?_gd frozen?_gd setCell_gd size_grow tape_grow cell?_grow' frozen?_grow' setCell_grow' grow_grow grow_dr grow_drew dr_dr dr_drew drew_dr dr_alloc dr_setCell dr_cell dr_frozen dr_tape dr_drawn
attribute [local irreducible] wpSteady
attribute [local go_sem] Oper.semAt_some
theorem run_store_func' (P : Program) (w : World) (a : Addr) (m : Mode) (f : Fn) (xs ys) : (store a (.func f xs ys) m).run P w = stored P w a (.func f xs ys) m := run_store P w a _ m rfl
attribute [local go_sem] run_store_func'
end Go.Proofs.YtfeccolljfkejaaGreatDoor

/- Package feature: lists; shapes; what covers and holds what. -/
set_option linter.unusedSimpArgs false
set_option linter.unusedVariables false
set_option maxHeartbeats 1600000
set_option maxRecDepth 100000
namespace Go.Proofs.YtfeccolljfkejaaGreatDoor
open Go.RowKit Go.Sort
attribute [local go_sem] Steady steadyUpon
attribute [local go_sem ↓] hs_dr lt_add_r lt_add_r2 lt_add_r3 lt_add_r4 lt_add_r5 lt_add_r6
attribute [local go_sem] cell?_gd frozen?_gd setCell_gd size_grow tape_grow cell?_grow' frozen?_grow' setCell_grow' grow_grow grow_dr grow_drew dr_dr dr_drew drew_dr dr_alloc dr_setCell dr_cell dr_frozen dr_tape dr_drawn
attribute [local irreducible] wpSteady
theorem Near_v (p a b : Pt) (d : Int) (r : Bool × Int) (w : World) (h : nearOf p a b d = r) :
  Calls Tryz.prog 85 #[pt p.1 p.2, pt a.1 a.2, pt b.1 b.2, .int .i64 d] w (Ret w (.tuple #[.bool r.1, .int .i64 r.2])) := by
 have := Near_any p a b d w
 rwa [h] at this
/-- A disc in a disc. -/
def liesB (p : Pt) (r : Int) (q : Pt) (s : Int) : Bool := decide (r ≤ s) && decide (dt p q q ≤ (s - r) * (s - r))
def liesOf (p : Pt) (r : Int) (q : Pt) (s : Int) : Bool × Int := if (p.ok && (q.ok && (distB r && distB s))) = true then (liesB p r q s, 0) else (false, 1)
theorem Lies_v (p : Pt) (r : Int) (q : Pt) (s : Int) (o : Bool × Int) (w : World) (h : liesOf p r q s = o) :
  Calls Tryz.prog 86 #[pt p.1 p.2, .int .i64 r, pt q.1 q.2, .int .i64 s] w (Ret w (.tuple #[.bool o.1, .int .i64 o.2])) := by
 have hm := hmix
 obtain ⟨v, hv⟩ : ∃ v, [p, q].all Pt.ok = v := ⟨_, rfl⟩
 obtain ⟨u, hu⟩ : ∃ u, distB r = u := ⟨_, rfl⟩
 obtain ⟨u2, hu2⟩ : ∃ u, distB s = u := ⟨_, rfl⟩
 have k1 := hide (fun W => distance_v r u W hu)
 have k2 := hide (fun W => distance_v s u2 W hu2)
 have HV := hide hv
 have e : liesOf p r q s = if (v && (u && u2)) = true then (liesB p r q s, 0) else (false, 1) := by
  unfold liesOf
  rw [hu, hu2, ← hv]
  simp only [List.all_cons, List.all_nil, Bool.and_true, Bool.and_assoc]
 rw [e] at h
 clear e
 have hcase : v = false ∨ (v = true ∧ u = false) ∨ (v = true ∧ u = true ∧ u2 = false) ∨ (v = true ∧ u = true ∧ u2 = true) := by
  cases v <;> cases u <;> cases u2 <;> simp
 rcases hcase with rfl | ⟨rfl, rfl⟩ | ⟨rfl, rfl, rfl⟩ | ⟨rfl, rfl, rfl⟩
 ·rw [if_neg (by simp)] at h
  subst h
  obtain ⟨a1, a2⟩ := p
  obtain ⟨b1, b2⟩ := q
  clear hv hu hu2
  go_enter Tryz.func86, Tryz.ntmps86
  go_wp2_with fail
  refine (valids_v _ _ _ _ false _ (Rd.blkP _ (heap_alloc_at _ _ _ (by simp [hs_dr])) rfl) rfl (by simp) HV.out).mono ?_
  rintro e w' ⟨rfl, ⟨_, _⟩, rfl⟩
  dsimp only
  go_wp2_with fail
  go_ret2
  exact Ret.mk' rfl gw
 ·rw [if_neg (by simp)] at h
  subst h
  obtain ⟨a1, a2⟩ := p
  obtain ⟨b1, b2⟩ := q
  clear hv hu hu2
  go_enter Tryz.func86, Tryz.ntmps86
  go_wp2_with fail
  refine (valids_v _ _ _ _ true _ (Rd.blkP _ (heap_alloc_at _ _ _ (by simp [hs_dr])) rfl) rfl (by simp) HV.out).mono ?_
  rintro e w' ⟨rfl, ⟨_, _⟩, rfl⟩
  dsimp only
  go_wp2_with (go_at_call 120; with_reducible refine crv (k1.out _) fun _ _ => ?_; dsimp only)
  go_ret2
  exact Ret.mk' rfl gw
 ·rw [if_neg (by simp)] at h
  subst h
  obtain ⟨a1, a2⟩ := p
  obtain ⟨b1, b2⟩ := q
  clear hv hu hu2
  go_enter Tryz.func86, Tryz.ntmps86
  go_wp2_with fail
  refine (valids_v _ _ _ _ true _ (Rd.blkP _ (heap_alloc_at _ _ _ (by simp [hs_dr])) rfl) rfl (by simp) HV.out).mono ?_
  rintro e w' ⟨rfl, ⟨_, _⟩, rfl⟩
  dsimp only
  go_wp2_with (first | (go_at_call 120; with_reducible refine crv (k1.out _) fun _ _ => ?_; dsimp only) | (go_at_call 120; with_reducible refine crv (k2.out _) fun _ _ => ?_; dsimp only))
  go_ret2
  exact Ret.mk' rfl gw
 ·rw [if_pos (by rfl)] at h
  subst h
  simp only [List.all_cons, List.all_nil, Bool.and_true, Bool.and_eq_true] at hv
  have k3 := hide (fun W => from_v p q W hv.1 hv.2)
  have p' := ok_bd hv.1
  have q' := ok_bd hv.2
  have k4 : Hid (∀ W, Calls Tryz.prog 123 #[pt (q.1 - p.1) (q.2 - p.2), pt (q.1 - p.1) (q.2 - p.2)] W (Ret W (.int .i64 (dt p q q)))) := hide (fun W => vdot_any _ _ _ _ W (by omega) (by omega) (by omega) (by omega))
  have b1 := dist_bd hu
  have b2 := dist_bd hu2
  unfold liesB
  generalize dt p q q = D at *
  obtain ⟨a1, a2⟩ := p
  obtain ⟨c1, c2⟩ := q
  dsimp only at *
  obtain ⟨v1, hv1⟩ : ∃ z, c1 - a1 = z := ⟨_, rfl⟩
  obtain ⟨v2, hv2⟩ : ∃ z, c2 - a2 = z := ⟨_, rfl⟩
  rw [hv1, hv2] at k3 k4
  clear hv hu hu2 hv1 hv2 p' q'
  by_cases hrs : r ≤ s
  ·have hb := sq_bd (d := s - r) (by omega)
   rw [decide_eq_true hrs, Bool.true_and]
   go_enter Tryz.func86, Tryz.ntmps86
   go_wp2_with fail
   refine (valids_v _ _ _ _ true _ (Rd.blkP _ (heap_alloc_at _ _ _ (by simp [hs_dr])) rfl) rfl (by simp) HV.out).mono ?_
   rintro e w' ⟨rfl, ⟨_, _⟩, rfl⟩
   dsimp only
   go_wp2_with (first | (go_at_call 120; with_reducible refine crv (k1.out _) fun _ _ => ?_; dsimp only) | (go_at_call 120; with_reducible refine crv (k2.out _) fun _ _ => ?_; dsimp only) | (go_at_call 122; with_reducible refine crv (k3.out _) fun _ _ => ?_; dsimp only) | (go_at_call 123; with_reducible refine crv (k4.out _) fun _ _ => ?_; dsimp only))
   go_ret2
   exact Ret.mk' rfl gw
  ·rw [decide_eq_false hrs, Bool.false_and]
   go_enter Tryz.func86, Tryz.ntmps86
   go_wp2_with fail
   refine (valids_v _ _ _ _ true _ (Rd.blkP _ (heap_alloc_at _ _ _ (by simp [hs_dr])) rfl) rfl (by simp) HV.out).mono ?_
   rintro e w' ⟨rfl, ⟨_, _⟩, rfl⟩
   dsimp only
   go_wp2_with (first | (go_at_call 120; with_reducible refine crv (k1.out _) fun _ _ => ?_; dsimp only) | (go_at_call 120; with_reducible refine crv (k2.out _) fun _ _ => ?_; dsimp only) | (go_at_call 122; with_reducible refine crv (k3.out _) fun _ _ => ?_; dsimp only) | (go_at_call 123; with_reducible refine crv (k4.out _) fun _ _ => ?_; dsimp only))
   go_ret2
   exact Ret.mk' rfl gw
theorem ta_dd (v : Value) (w : World) : (Instr.typeAssert (.iface 143 v) 103 143 true).run Tryz.prog w = .ok (.tuple #[v, .bool true]) w := by kernel_rfl
theorem ta_ad (v : Value) (w : World) : (Instr.typeAssert (.iface 141 v) 103 143 true).run Tryz.prog w = .ok (.tuple #[.agg #[.int .i64 0, .int .i64 0, .int .i64 0], .bool false]) w := by kernel_rfl
theorem ta_ld (v : Value) (w : World) : (Instr.typeAssert (.iface 140 v) 103 143 true).run Tryz.prog w = .ok (.tuple #[.agg #[.int .i64 0, .int .i64 0, .int .i64 0], .bool false]) w := by kernel_rfl
theorem ta_aa (v : Value) (w : World) : (Instr.typeAssert (.iface 141 v) 103 141 true).run Tryz.prog w = .ok (.tuple #[v, .bool true]) w := by kernel_rfl
theorem ta_la (v : Value) (w : World) : (Instr.typeAssert (.iface 140 v) 103 141 true).run Tryz.prog w = .ok (.tuple #[.slice none 0 0, .bool false]) w := by kernel_rfl
theorem ta_ll (v : Value) (w : World) : (Instr.typeAssert (.iface 140 v) 103 140 true).run Tryz.prog w = .ok (.tuple #[v, .bool true]) w := by kernel_rfl
theorem ta_dl (v : Value) (w : World) : (Instr.typeAssert (.iface 143 v) 103 140 true).run Tryz.prog w = .ok (.tuple #[.agg #[.int .i64 0, .int .i64 0], .bool false]) w := by kernel_rfl
theorem ta_al (v : Value) (w : World) : (Instr.typeAssert (.iface 141 v) 103 140 true).run Tryz.prog w = .ok (.tuple #[.agg #[.int .i64 0, .int .i64 0], .bool false]) w := by kernel_rfl
attribute [local go_sem] ta_dd ta_ad ta_ld ta_aa ta_la ta_ll ta_dl ta_al
end Go.Proofs.YtfeccolljfkejaaGreatDoor

/- Package feature: a method called through an interface; Stands. -/
set_option linter.unusedSimpArgs false
set_option linter.unusedVariables false
set_option maxHeartbeats 4000000
set_option maxRecDepth 100000
namespace Go.Proofs.YtfeccolljfkejaaGreatDoor
open Go.RowKit Go.Sort
attribute [local go_sem] Steady steadyUpon
attribute [local go_sem ↓] hs_dr lt_add_r lt_add_r2 lt_add_r3 lt_add_r4 lt_add_r5 lt_add_r6
attribute [local go_sem] cell?_gd frozen?_gd setCell_gd size_grow tape_grow cell?_grow' frozen?_grow' setCell_grow' grow_grow grow_dr grow_drew dr_dr dr_drew drew_dr dr_alloc dr_setCell dr_cell dr_frozen dr_tape dr_drawn
attribute [local irreducible] wpSteady
theorem mh_disc (v : Value) (w : World) : (method 379 143 v "seamark/feature.holds").run Tryz.prog w = .ok (265, v) w := by kernel_rfl
theorem nh_disc (v : Value) (w : World) : (nilAhead 379 143 v "seamark/feature.holds").run Tryz.prog w = .ok (some false) w := by kernel_rfl
theorem mc_disc (v : Value) (w : World) : (method 379 143 v "seamark/feature.covers").run Tryz.prog w = .ok (264, v) w := by kernel_rfl
theorem nc_disc (v : Value) (w : World) : (nilAhead 379 143 v "seamark/feature.covers").run Tryz.prog w = .ok (some false) w := by kernel_rfl
theorem mh_area (v : Value) (w : World) : (method 379 141 v "seamark/feature.holds").run Tryz.prog w = .ok (250, v) w := by kernel_rfl
theorem nh_area (v : Value) (w : World) : (nilAhead 379 141 v "seamark/feature.holds").run Tryz.prog w = .ok (some false) w := by kernel_rfl
theorem mc_area (v : Value) (w : World) : (method 379 141 v "seamark/feature.covers").run Tryz.prog w = .ok (249, v) w := by kernel_rfl
theorem nc_area (v : Value) (w : World) : (nilAhead 379 141 v "seamark/feature.covers").run Tryz.prog w = .ok (some false) w := by kernel_rfl
theorem mh_light (v : Value) (w : World) : (method 379 140 v "seamark/feature.holds").run Tryz.prog w = .ok (246, v) w := by kernel_rfl
theorem nh_light (v : Value) (w : World) : (nilAhead 379 140 v "seamark/feature.holds").run Tryz.prog w = .ok (some false) w := by kernel_rfl
theorem mc_light (v : Value) (w : World) : (method 379 140 v "seamark/feature.covers").run Tryz.prog w = .ok (245, v) w := by kernel_rfl
theorem nc_light (v : Value) (w : World) : (nilAhead 379 140 v "seamark/feature.covers").run Tryz.prog w = .ok (some false) w := by kernel_rfl
attribute [local go_sem] mh_disc nh_disc mc_disc nc_disc mh_area nh_area mc_area nc_area mh_light nh_light mc_light nc_light
end Go.Proofs.YtfeccolljfkejaaGreatDoor

/- Package feature: lists of features; Shown. -/
set_option linter.unusedSimpArgs false
set_option linter.unusedVariables false
set_option maxHeartbeats 8000000
set_option maxRecDepth 100000
namespace Go.Proofs.YtfeccolljfkejaaGreatDoor
open Go.RowKit Go.Sort
attribute [local go_sem] Steady steadyUpon
attribute [local go_sem ↓] hs_dr lt_add_r lt_add_r2 lt_add_r3 lt_add_r4 lt_add_r5 lt_add_r6
attribute [local go_sem] cell?_gd frozen?_gd setCell_gd size_grow tape_grow cell?_grow' frozen?_grow' setCell_grow' grow_grow grow_dr grow_drew dr_dr dr_drew drew_dr dr_alloc dr_setCell dr_cell dr_frozen dr_tape dr_drawn
attribute [local irreducible] wpSteady
attribute [local go_sem] mh_disc nh_disc mc_disc nc_disc mh_area nh_area mc_area nc_area mh_light nh_light mc_light nc_light
instance : Inhabited FV := ⟨⟨0, 0, 0, 0, 0, none, 0, [], 0, 0, none, 0, []⟩⟩
/-- A slice of features that reads as fs. -/
structure FRd (w : World) (B : Nat) (A : Option Addr) (fs : List FV) : Prop where
 row : Rd w B 9 A (fs.map FV.cells)
 each : ∀ f, f ∈ fs → f.rd w B
theorem FRd.up {w w' : World} {A : Option Addr} {fs : List FV} (h : FRd w w.heap.size A fs) (hg : Grew w w') : FRd w' w'.heap.size A fs := ⟨h.row.up hg, fun f hf => (h.each f hf).up hg⟩
theorem FRd.nil (w : World) (B : Nat) (A : Option Addr) : FRd w B A [] := ⟨Rd.nil _ _ _ _, fun f h => by cases h⟩
def fAt (fs : List FV) (k : Nat) : FV := fs.getD k default
theorem fAt_get {fs : List FV} {k : Nat} (h : k < fs.length) : fs[k]? = some (fAt fs k) := by
 unfold fAt
 rw [List.getD_eq_getElem?_getD, List.getElem?_eq_getElem h]
 rfl
theorem fAt_mem {fs : List FV} {k : Nat} (h : k < fs.length) : fAt fs k ∈ fs := List.mem_of_getElem? (fAt_get h)
/-- A feature's cells, and where they lie. -/
structure FAt (w : World) (b o : Nat) (f : FV) : Prop where
 c0 : w.cell? ⟨b, o, none⟩ = some (.int .i64 f.id)
 c1 : w.cell? ⟨b, o + 1, none⟩ = some (.int .i64 f.kind)
 c2 : w.cell? ⟨b, o + 2, none⟩ = some (.int .i64 f.x)
 c3 : w.cell? ⟨b, o + 3, none⟩ = some (.int .i64 f.y)
 c4 : w.cell? ⟨b, o + 4, none⟩ = some (.int .i64 f.rad)
 c5 : w.cell? ⟨b, o + 5, none⟩ = some (.slice f.aA f.area.length f.ac)
 c6 : w.cell? ⟨b, o + 6, none⟩ = some (.int .i64 f.dep)
 c7 : w.cell? ⟨b, o + 7, none⟩ = some (.int .i64 f.sym)
 c8 : w.cell? ⟨b, o + 8, none⟩ = some (.slice f.sA f.secs.length f.sc)
theorem featAt {w : World} {B : Nat} {A : Option Addr} {fs : List FV} {k : Nat} (h : FRd w B A fs) (hk : k < fs.length) :
  ∃ b off, Hid (A = some ⟨b, off, none⟩) ∧ b < B ∧ FAt w b (off + k * 9) (fAt fs k) := by
 obtain ⟨b, off, hA, hb, hc⟩ := h.row.at_ (k := k) (x := (fAt fs k).cells) (by simp [fAt_get hk])
 exact ⟨b, off, hA, hb, hc 0 _ rfl, hc 1 _ rfl, hc 2 _ rfl, hc 3 _ rfl, hc 4 _ rfl, hc 5 _ rfl, hc 6 _ rfl, hc 7 _ rfl, hc 8 _ rfl⟩
def lastId (fs : List FV) (k : Nat) : Int := if k = 0 then 0 else (fAt fs (k - 1)).id
def upOk (fs : List FV) (k : Nat) : Bool := FValid (fAt fs k) && decide (lastId fs k < (fAt fs k).id)
def upTo (fs : List FV) (k : Nat) : Bool := (List.range k).all (upOk fs)
def FList (fs : List FV) : Bool := upTo fs fs.length && decide (fs.length ≤ 300)
theorem upTo_succ {fs : List FV} {k : Nat} (h : upTo fs k = true) : upTo fs (k + 1) = upOk fs k := by
 unfold upTo at h ⊢
 rw [List.range_succ, List.all_append, h]
 simp
theorem upTo_no {fs : List FV} {k n : Nat} (hk : k < n) (h : upOk fs k = false) : upTo fs n = false := by
 unfold upTo
 rw [List.all_eq_false]
 exact ⟨k, List.mem_range.2 hk, by rw [h]; simp⟩
theorem FList_v (fs : List FV) (A : Option Addr) (c : Nat) (r : Bool) (w : World) (hr : FRd w w.heap.size A fs) (hc : fs.length ≤ 100000000000000) (h : FList fs = r) :
  Calls Tryz.prog 31 #[.slice A fs.length c] w (Ret w (.bool r)) := by
 have hm := hmix
 have HH := hide h
 have HR := hide hr
 clear h hr
 go_enter Tryz.func31, Tryz.ntmps31
 go_wp2_with fail
 go_loopw [3, 8] (fun l i wr => ∃ k : Nat, k ≤ fs.length ∧ i = .int .i64 k ∧ l = .int .i64 (lastId fs k) ∧ Grew w wr ∧ AppG (upTo fs k = true)) (fun _ i _ => fs.length - (intOf i).toNat)
 case atStart => exact ⟨0, by omega, rfl, rfl, gw, rfl⟩
 case round =>
  obtain ⟨k, hk, rfl, rfl, hg, hall⟩ := hrel
  have HG := hide hg
  have HA := hide hall.stop
  clear hg hall
  by_cases hlt : k < fs.length
  ·obtain ⟨b, off, hA, hb, fc⟩ := featAt (HR.out.up HG.out) hlt
   have hfr := HR.out.each _ (fAt_mem hlt)
   have hix := idx_run (cap := c) Tryz.underlying37 Tryz.sizeOf47 hA.out hlt
   have hst := upTo_succ HA.out
   unfold upOk at hst
   have hlid : lastId fs (k + 1) = (fAt fs k).id := by unfold lastId; rw [if_neg (by omega), Nat.add_sub_cancel]
   obtain ⟨v, hv⟩ : ∃ v, FValid (fAt fs k) = v := ⟨_, rfl⟩
   rw [hv] at hst
   have k1 := hide (fun W (hg : Grew w W) => FValid_v (fAt fs k) v W (hfr.up hg) hv)
   obtain ⟨l, hl⟩ : ∃ l, lastId fs k = l := ⟨_, rfl⟩
   rw [hl] at hst ⊢
   have hno : (v && decide (l < (fAt fs k).id)) = false → r = false := fun e => by
    rw [← HH.out]
    unfold FList
    rw [upTo_no hlt (by unfold upOk; rw [hv, hl]; exact e)]
    rfl
   obtain ⟨c0, c1, c2, c3, c4, c5, c6, c7, c8⟩ := fc
   clear hl hv hA hfr
   generalize fAt fs k = f at *
   obtain ⟨id, kind, x, y, rad, aA, ac, area, dep, sym, sA, sc, secs⟩ := f
   unfold FV.val at k1
   dsimp only at *
   generalize area.length = na at *
   generalize secs.length = ns at *
   have HST := hide hst
   have HLID := hide hlid
   clear hst hlid
   cases v
   ·have HNO := hide (hno (by simp))
    clear hno
    go_wp2_with (go_at_call 62; with_reducible refine crv (k1.out _ (HG.out.trans gw)) fun _ _ => ?_; dsimp only)
    go_ret
    exact Ret.mk' (by rw [HNO.out]; rfl) (HG.out.trans gw)
   ·by_cases hid : l < id
    ·have hid2 : ¬ id ≤ l := by omega
     clear hno
     go_wp2_with (go_at_call 62; with_reducible refine crv (k1.out _ (HG.out.trans gw)) fun _ _ => ?_; dsimp only)
     go_roundw
     case rel => exact ⟨k + 1, by omega, by go_num, by rw [HLID.out], HG.out.trans gw, show upTo fs (k + 1) = true from (by rw [HST.out]; simp [hid])⟩
     case measure => simp [intOf]; omega
    ·have hid2 : id ≤ l := by omega
     have HNO := hide (hno (by simp [hid]))
     clear hno
     go_wp2_with (go_at_call 62; with_reducible refine crv (k1.out _ (HG.out.trans gw)) fun _ _ => ?_; dsimp only)
     go_ret
     exact Ret.mk' (by rw [HNO.out]; rfl) (HG.out.trans gw)
  ·obtain rfl : k = fs.length := by omega
   have e : r = decide (fs.length ≤ 300) := by
    rw [← HH.out]
    unfold FList
    rw [HA.out]
    rfl
   have HE := hide e
   clear e
   go_wp2_with fail
   go_ret
   exact Ret.mk' (by rw [HE.out]; exact ret_bool (by rw [Bool.eq_iff_iff]; simp; try omega)) HG.out
end Go.Proofs.YtfeccolljfkejaaGreatDoor

