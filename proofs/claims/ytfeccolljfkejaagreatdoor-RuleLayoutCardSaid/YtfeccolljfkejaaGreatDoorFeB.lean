/- Package feature: lists; shapes; what covers and holds what. -/
import Derived.Test.YtfeccolljfkejaaGreatDoorFeA
import Derived.Test.YtfeccolljfkejaaGreatDoorPol
set_option linter.unusedSimpArgs false
set_option linter.unusedVariables false
set_option maxHeartbeats 1600000
set_option maxRecDepth 100000
namespace Go.Proofs.YtfeccolljfkejaaGreatDoor
open Go.RowKit Go.Sort
attribute [local go_sem] Steady steadyUpon
attribute [local go_sem ↓] hs_dr lt_add_r lt_add_r2 lt_add_r3 lt_add_r4 lt_add_r5 lt_add_r6
attribute [local go_sem] cell?_gd frozen?_gd setCell_gd size_grow tape_grow cell?_grow' frozen?_grow' setCell_grow' grow_grow grow_dr grow_drew dr_dr dr_drew drew_dr dr_alloc dr_setCell dr_cell dr_frozen dr_tape dr_drawn
attribute [local irreducible] wpSteady
/-- The shape of a feature, as an interface value. -/
def FV.sh (f : FV) : Value := if f.kind = 4 then .iface 140 (.agg #[.int .i64 f.x, .int .i64 f.y]) else if f.kind = 3 ∨ f.kind = 6 then .iface 141 (.slice f.aA f.area.length f.ac) else .iface 143 (.agg #[.int .i64 f.x, .int .i64 f.y, .int .i64 f.rad])
theorem of_any (f : FV) (w : World) : Calls Tryz.prog 61 #[f.val] w (Ret w f.sh) := by
 have hm := hmix
 obtain ⟨id, kind, x, y, rad, aA, ac, area, dep, sym, sA, sc, secs⟩ := f
 unfold FV.sh
 dsimp only
 have hk : kind = 4 ∨ kind = 3 ∨ kind = 6 ∨ (¬ kind = 4 ∧ ¬ kind = 3 ∧ ¬ kind = 6) := by omega
 rcases hk with rfl | rfl | rfl | ⟨h1, h2, h3⟩
 ·rw [if_pos rfl]
  go_enter Tryz.func61, Tryz.ntmps61
  go_wp2_with fail
  go_ret
  exact Ret.mk' rfl gw
 ·rw [if_neg (by omega), if_pos (by omega)]
  go_enter Tryz.func61, Tryz.ntmps61
  go_wp2_with fail
  go_ret
  exact Ret.mk' rfl gw
 ·rw [if_neg (by omega), if_pos (by omega)]
  go_enter Tryz.func61, Tryz.ntmps61
  go_wp2_with fail
  go_ret
  exact Ret.mk' rfl gw
 ·rw [if_neg h1, if_neg (by omega)]
  go_enter Tryz.func61, Tryz.ntmps61
  go_wp2_with fail
  go_ret
  exact Ret.mk' rfl gw
theorem Near_v (p a b : Pt) (d : Int) (r : Bool × Int) (w : World) (h : nearOf p a b d = r) :
  Calls Tryz.prog 85 #[pt p.1 p.2, pt a.1 a.2, pt b.1 b.2, .int .i64 d] w (Ret w (.tuple #[.bool r.1, .int .i64 r.2])) := by
 have := Near_any p a b d w
 rwa [h] at this
/-- A disc has a place. -/
def coverD (x y r : Int) (p : Pt) : Bool := (nearOf p (x, y) (x, y) r).2 == 0 && (nearOf p (x, y) (x, y) r).1
def coverA (ps : List Pt) (p : Pt) : Bool := (inOf ps p).2 == 0 && decide (0 ≤ (inOf ps p).1)
theorem discCovers_v (x y r : Int) (p : Pt) (o : Bool) (w : World) (h : coverD x y r p = o) :
  Calls Tryz.prog 264 #[.agg #[.int .i64 x, .int .i64 y, .int .i64 r], pt p.1 p.2] w (Ret w (.bool o)) := by
 have hm := hmix
 unfold coverD at h
 obtain ⟨⟨n, e⟩, hn⟩ : ∃ u, nearOf p (x, y) (x, y) r = u := ⟨_, rfl⟩
 have k1 := hide (fun W => Near_v p (x, y) (x, y) r (n, e) W hn)
 rw [hn] at h
 dsimp only at h k1
 clear hn
 obtain ⟨p1, p2⟩ := p
 by_cases he : e = 0
 ·subst he
  simp at h
  subst h
  go_enter Tryz.func264, Tryz.ntmps264
  go_wp2_with (go_at_call 85; with_reducible refine crv (k1.out _) fun _ _ => ?_; dsimp only)
  go_ret
  exact Ret.mk' rfl gw
 ·have he2 : (e == 0) = false := by simpa using he
  rw [he2] at h
  subst h
  go_enter Tryz.func264, Tryz.ntmps264
  go_wp2_with (go_at_call 85; with_reducible refine crv (k1.out _) fun _ _ => ?_; dsimp only)
  go_ret
  exact Ret.mk' rfl gw
theorem areaCovers_v (ps : List Pt) (A : Option Addr) (c : Nat) (p : Pt) (o : Bool) (w : World) (hr : Rd w w.heap.size 2 A (ps.map encD)) (hc : ps.length ≤ 100000000000000) (h : coverA ps p = o) :
  Calls Tryz.prog 249 #[.slice A ps.length c, pt p.1 p.2] w (Ret w (.bool o)) := by
 have hm := hmix
 unfold coverA at h
 obtain ⟨⟨n, e⟩, hn⟩ : ∃ u, inOf ps p = u := ⟨_, rfl⟩
 have k1 := hide (fun W (hg : Grew w W) => In_v ps A c p (n, e) W (hr.up hg) hc hn)
 rw [hn] at h
 dsimp only at h k1
 clear hn hr
 obtain ⟨p1, p2⟩ := p
 have hcase : (e = 0 ∧ 0 ≤ n) ∨ (e = 0 ∧ ¬ 0 ≤ n) ∨ e ≠ 0 := by omega
 rcases hcase with ⟨rfl, h1⟩ | ⟨rfl, h1⟩ | h1
 all_goals
  first | (simp [h1] at h; subst h) | (rw [show (e == 0) = false by simpa using h1, Bool.false_and] at h; subst h)
  go_enter Tryz.func249, Tryz.ntmps249
  go_wp2_with (go_at_call 252; with_reducible refine crv (k1.out _ gw) fun _ _ => ?_; dsimp only)
  go_ret
  first | exact Ret.mk' rfl gw | exact Ret.mk' (by simp [h1]) gw
theorem lightCovers_v (x y : Int) (p : Pt) (w : World) :
  Calls Tryz.prog 245 #[.agg #[.int .i64 x, .int .i64 y], pt p.1 p.2] w (Ret w (.bool false)) := by
 go_enter Tryz.func245, Tryz.ntmps245
 go_wp2_with fail
 go_ret
 exact Ret.mk' rfl gw
/-- A disc in a disc. -/
def liesB (p : Pt) (r : Int) (q : Pt) (s : Int) : Bool := decide (r ≤ s) && decide (dt p q q ≤ (s - r) * (s - r))
def liesOf (p : Pt) (r : Int) (q : Pt) (s : Int) : Bool × Int := if (p.ok && (q.ok && (distB r && distB s))) = true then (liesB p r q s, 0) else (false, 1)
theorem Lies_v (p : Pt) (r : Int) (q : Pt) (s : Int) (o : Bool × Int) (w : World) (h : liesOf p r q s = o) :
  Calls Tryz.prog 86 #[pt p.1 p.2, .int .i64 r, pt q.1 q.2, .int .i64 s] w (Ret w (.tuple #[.bool o.1, .int .i64 o.2])) := by
 have hm := hmix
 obtain ⟨v, hv⟩ : ∃ v, [p, q].all Pt.ok = v := ⟨_, rfl⟩
 obtain ⟨u, hu⟩ : ∃ u, distB r = u := ⟨_, rfl⟩
 obtain ⟨u2, hu2⟩ : ∃ u, distB s = u := ⟨_, rfl⟩
 have k1 := hide (fun W => distance_v r u W hu)
 have k2 := hide (fun W => distance_v s u2 W hu2)
 have HV := hide hv
 have e : liesOf p r q s = if (v && (u && u2)) = true then (liesB p r q s, 0) else (false, 1) := by
  unfold liesOf
  rw [hu, hu2, ← hv]
  simp only [List.all_cons, List.all_nil, Bool.and_true, Bool.and_assoc]
 rw [e] at h
 clear e
 have hcase : v = false ∨ (v = true ∧ u = false) ∨ (v = true ∧ u = true ∧ u2 = false) ∨ (v = true ∧ u = true ∧ u2 = true) := by
  cases v <;> cases u <;> cases u2 <;> simp
 rcases hcase with rfl | ⟨rfl, rfl⟩ | ⟨rfl, rfl, rfl⟩ | ⟨rfl, rfl, rfl⟩
 ·rw [if_neg (by simp)] at h
  subst h
  obtain ⟨a1, a2⟩ := p
  obtain ⟨b1, b2⟩ := q
  clear hv hu hu2
  go_enter Tryz.func86, Tryz.ntmps86
  go_wp2_with fail
  refine (valids_v _ _ _ _ false _ (Rd.blkP _ (heap_alloc_at _ _ _ (by simp [hs_dr])) rfl) rfl (by simp) HV.out).mono ?_
  rintro e w' ⟨rfl, ⟨_, _⟩, rfl⟩
  dsimp only
  go_wp2_with fail
  go_ret2
  exact Ret.mk' rfl gw
 ·rw [if_neg (by simp)] at h
  subst h
  obtain ⟨a1, a2⟩ := p
  obtain ⟨b1, b2⟩ := q
  clear hv hu hu2
  go_enter Tryz.func86, Tryz.ntmps86
  go_wp2_with fail
  refine (valids_v _ _ _ _ true _ (Rd.blkP _ (heap_alloc_at _ _ _ (by simp [hs_dr])) rfl) rfl (by simp) HV.out).mono ?_
  rintro e w' ⟨rfl, ⟨_, _⟩, rfl⟩
  dsimp only
  go_wp2_with (go_at_call 120; with_reducible refine crv (k1.out _) fun _ _ => ?_; dsimp only)
  go_ret2
  exact Ret.mk' rfl gw
 ·rw [if_neg (by simp)] at h
  subst h
  obtain ⟨a1, a2⟩ := p
  obtain ⟨b1, b2⟩ := q
  clear hv hu hu2
  go_enter Tryz.func86, Tryz.ntmps86
  go_wp2_with fail
  refine (valids_v _ _ _ _ true _ (Rd.blkP _ (heap_alloc_at _ _ _ (by simp [hs_dr])) rfl) rfl (by simp) HV.out).mono ?_
  rintro e w' ⟨rfl, ⟨_, _⟩, rfl⟩
  dsimp only
  go_wp2_with (first | (go_at_call 120; with_reducible refine crv (k1.out _) fun _ _ => ?_; dsimp only) | (go_at_call 120; with_reducible refine crv (k2.out _) fun _ _ => ?_; dsimp only))
  go_ret2
  exact Ret.mk' rfl gw
 ·rw [if_pos (by rfl)] at h
  subst h
  simp only [List.all_cons, List.all_nil, Bool.and_true, Bool.and_eq_true] at hv
  have k3 := hide (fun W => from_v p q W hv.1 hv.2)
  have p' := ok_bd hv.1
  have q' := ok_bd hv.2
  have k4 : Hid (∀ W, Calls Tryz.prog 123 #[pt (q.1 - p.1) (q.2 - p.2), pt (q.1 - p.1) (q.2 - p.2)] W (Ret W (.int .i64 (dt p q q)))) := hide (fun W => vdot_any _ _ _ _ W (by omega) (by omega) (by omega) (by omega))
  have b1 := dist_bd hu
  have b2 := dist_bd hu2
  unfold liesB
  generalize dt p q q = D at *
  obtain ⟨a1, a2⟩ := p
  obtain ⟨c1, c2⟩ := q
  dsimp only at *
  obtain ⟨v1, hv1⟩ : ∃ z, c1 - a1 = z := ⟨_, rfl⟩
  obtain ⟨v2, hv2⟩ : ∃ z, c2 - a2 = z := ⟨_, rfl⟩
  rw [hv1, hv2] at k3 k4
  clear hv hu hu2 hv1 hv2 p' q'
  by_cases hrs : r ≤ s
  ·have hb := sq_bd (d := s - r) (by omega)
   rw [decide_eq_true hrs, Bool.true_and]
   go_enter Tryz.func86, Tryz.ntmps86
   go_wp2_with fail
   refine (valids_v _ _ _ _ true _ (Rd.blkP _ (heap_alloc_at _ _ _ (by simp [hs_dr])) rfl) rfl (by simp) HV.out).mono ?_
   rintro e w' ⟨rfl, ⟨_, _⟩, rfl⟩
   dsimp only
   go_wp2_with (first | (go_at_call 120; with_reducible refine crv (k1.out _) fun _ _ => ?_; dsimp only) | (go_at_call 120; with_reducible refine crv (k2.out _) fun _ _ => ?_; dsimp only) | (go_at_call 122; with_reducible refine crv (k3.out _) fun _ _ => ?_; dsimp only) | (go_at_call 123; with_reducible refine crv (k4.out _) fun _ _ => ?_; dsimp only))
   go_ret2
   exact Ret.mk' rfl gw
  ·rw [decide_eq_false hrs, Bool.false_and]
   go_enter Tryz.func86, Tryz.ntmps86
   go_wp2_with fail
   refine (valids_v _ _ _ _ true _ (Rd.blkP _ (heap_alloc_at _ _ _ (by simp [hs_dr])) rfl) rfl (by simp) HV.out).mono ?_
   rintro e w' ⟨rfl, ⟨_, _⟩, rfl⟩
   dsimp only
   go_wp2_with (first | (go_at_call 120; with_reducible refine crv (k1.out _) fun _ _ => ?_; dsimp only) | (go_at_call 120; with_reducible refine crv (k2.out _) fun _ _ => ?_; dsimp only) | (go_at_call 122; with_reducible refine crv (k3.out _) fun _ _ => ?_; dsimp only) | (go_at_call 123; with_reducible refine crv (k4.out _) fun _ _ => ?_; dsimp only))
   go_ret2
   exact Ret.mk' rfl gw
/-- What a shape holds. -/
def discHoldsD (x y r : Int) (p : Pt) (s : Int) : Bool := (liesOf p s (x, y) r).2 == 0 && (liesOf p s (x, y) r).1
def areaHoldsD (ps : List Pt) (p : Pt) (s : Int) : Bool := (discOf ps p s).2 == 0 && (discOf ps p s).1 == 1
def areaHoldsA (ps qs : List Pt) : Bool := (pholdsOf ps qs).2 == 0 && (pholdsOf ps qs).1
def discHoldsA (x y r : Int) (ps : List Pt) : Bool := ps.all (coverD x y r)
theorem ta_dd (v : Value) (w : World) : (Instr.typeAssert (.iface 143 v) 103 143 true).run Tryz.prog w = .ok (.tuple #[v, .bool true]) w := by kernel_rfl
theorem ta_ad (v : Value) (w : World) : (Instr.typeAssert (.iface 141 v) 103 143 true).run Tryz.prog w = .ok (.tuple #[.agg #[.int .i64 0, .int .i64 0, .int .i64 0], .bool false]) w := by kernel_rfl
theorem ta_ld (v : Value) (w : World) : (Instr.typeAssert (.iface 140 v) 103 143 true).run Tryz.prog w = .ok (.tuple #[.agg #[.int .i64 0, .int .i64 0, .int .i64 0], .bool false]) w := by kernel_rfl
theorem ta_aa (v : Value) (w : World) : (Instr.typeAssert (.iface 141 v) 103 141 true).run Tryz.prog w = .ok (.tuple #[v, .bool true]) w := by kernel_rfl
theorem ta_la (v : Value) (w : World) : (Instr.typeAssert (.iface 140 v) 103 141 true).run Tryz.prog w = .ok (.tuple #[.slice none 0 0, .bool false]) w := by kernel_rfl
theorem ta_ll (v : Value) (w : World) : (Instr.typeAssert (.iface 140 v) 103 140 true).run Tryz.prog w = .ok (.tuple #[v, .bool true]) w := by kernel_rfl
theorem ta_dl (v : Value) (w : World) : (Instr.typeAssert (.iface 143 v) 103 140 true).run Tryz.prog w = .ok (.tuple #[.agg #[.int .i64 0, .int .i64 0], .bool false]) w := by kernel_rfl
theorem ta_al (v : Value) (w : World) : (Instr.typeAssert (.iface 141 v) 103 140 true).run Tryz.prog w = .ok (.tuple #[.agg #[.int .i64 0, .int .i64 0], .bool false]) w := by kernel_rfl
attribute [local go_sem] ta_dd ta_ad ta_ld ta_aa ta_la ta_ll ta_dl ta_al
theorem discHoldsD_v (x y r : Int) (p : Pt) (s : Int) (o : Bool) (w : World) (h : discHoldsD x y r p s = o) :
  Calls Tryz.prog 265 #[.agg #[.int .i64 x, .int .i64 y, .int .i64 r], .iface 143 (.agg #[.int .i64 p.1, .int .i64 p.2, .int .i64 s])] w (Ret w (.bool o)) := by
 have hm := hmix
 unfold discHoldsD at h
 obtain ⟨⟨n, e⟩, hn⟩ : ∃ u, liesOf p s (x, y) r = u := ⟨_, rfl⟩
 have k1 := hide (fun W => Lies_v p s (x, y) r (n, e) W hn)
 rw [hn] at h
 dsimp only at h k1
 clear hn
 obtain ⟨p1, p2⟩ := p
 dsimp only at k1 ⊢
 have hcase : e = 0 ∨ (e == 0) = false := by by_cases h : e = 0 <;> simp [h]
 rcases hcase with rfl | h1
 ·simp at h
  subst h
  go_enter Tryz.func265, Tryz.ntmps265
  go_wp2_with (go_at_call 86; with_reducible refine crv (k1.out _) fun _ _ => ?_; dsimp only)
  go_ret
  exact Ret.mk' rfl gw
 ·rw [h1] at h
  subst h
  go_enter Tryz.func265, Tryz.ntmps265
  go_wp2_with (go_at_call 86; with_reducible refine crv (k1.out _) fun _ _ => ?_; dsimp only)
  go_ret
  exact Ret.mk' rfl gw
theorem areaHoldsD_v (ps : List Pt) (A : Option Addr) (c : Nat) (p : Pt) (s : Int) (o : Bool) (w : World) (hr : Rd w w.heap.size 2 A (ps.map encD)) (hc : ps.length ≤ 100000000000000) (h : areaHoldsD ps p s = o) :
  Calls Tryz.prog 250 #[.slice A ps.length c, .iface 143 (.agg #[.int .i64 p.1, .int .i64 p.2, .int .i64 s])] w (Ret w (.bool o)) := by
 have hm := hmix
 unfold areaHoldsD at h
 obtain ⟨⟨n, e⟩, hn⟩ : ∃ u, discOf ps p s = u := ⟨_, rfl⟩
 have k1 := hide (fun W (hg : Grew w W) => Disc_v ps A c p s (n, e) W (hr.up hg) hc hn)
 rw [hn] at h
 dsimp only at h k1
 clear hn hr
 obtain ⟨p1, p2⟩ := p
 dsimp only at k1 ⊢
 have hcase : (e = 0 ∧ n = 1) ∨ (e = 0 ∧ (n == 1) = false) ∨ (e == 0) = false := by by_cases h : e = 0 <;> by_cases h2 : n = 1 <;> simp [h, h2]
 rcases hcase with ⟨rfl, rfl⟩ | ⟨rfl, h1⟩ | h1
 ·simp at h
  subst h
  go_enter Tryz.func250, Tryz.ntmps250
  go_wp2_with (go_at_call 253; with_reducible refine crv (k1.out _ gw) fun _ _ => ?_; dsimp only)
  go_ret
  exact Ret.mk' rfl gw
 all_goals
  rw [h1] at h
  simp at h
  subst h
  go_enter Tryz.func250, Tryz.ntmps250
  go_wp2_with (go_at_call 253; with_reducible refine crv (k1.out _ gw) fun _ _ => ?_; dsimp only)
  go_ret
  exact Ret.mk' (by simp [h1]) gw
theorem areaHoldsA_v (ps : List Pt) (A : Option Addr) (c : Nat) (qs : List Pt) (A' : Option Addr) (c' : Nat) (o : Bool) (w : World) (hr : Rd w w.heap.size 2 A (ps.map encD)) (hc : ps.length ≤ 100000000000000) (hr' : Rd w w.heap.size 2 A' (qs.map encD)) (hc' : qs.length ≤ 100000000000000) (h : areaHoldsA ps qs = o) :
  Calls Tryz.prog 250 #[.slice A ps.length c, .iface 141 (.slice A' qs.length c')] w (Ret w (.bool o)) := by
 have hm := hmix
 unfold areaHoldsA at h
 obtain ⟨⟨n, e⟩, hn⟩ : ∃ u, pholdsOf ps qs = u := ⟨_, rfl⟩
 have k1 := hide (fun W (hg : Grew w W) => Holds_v ps qs A A' c c' (n, e) W (hr.up hg) (hr'.up hg) hc hc' hn)
 rw [hn] at h
 dsimp only at h k1
 clear hn hr hr'
 have hcase : e = 0 ∨ (e == 0) = false := by by_cases h : e = 0 <;> simp [h]
 rcases hcase with rfl | h1
 ·simp at h
  subst h
  go_enter Tryz.func250, Tryz.ntmps250
  go_wp2_with (go_at_call 254; with_reducible refine crv (k1.out _ gw) fun _ _ => ?_; dsimp only)
  go_ret
  exact Ret.mk' rfl gw
 ·rw [h1] at h
  simp at h
  subst h
  go_enter Tryz.func250, Tryz.ntmps250
  go_wp2_with (go_at_call 254; with_reducible refine crv (k1.out _ gw) fun _ _ => ?_; dsimp only)
  go_ret
  exact Ret.mk' (by simp [h1]) gw
theorem discHoldsL_v (x y r : Int) (v : Value) (w : World) :
  Calls Tryz.prog 265 #[.agg #[.int .i64 x, .int .i64 y, .int .i64 r], .iface 140 v] w (Ret w (.bool true)) := by
 have hm := hmix
 go_enter Tryz.func265, Tryz.ntmps265
 go_wp2_with fail
 go_ret
 exact Ret.mk' rfl gw
theorem areaHoldsL_v (A : Option Addr) (n c : Nat) (v : Value) (w : World) :
  Calls Tryz.prog 250 #[.slice A n c, .iface 140 v] w (Ret w (.bool true)) := by
 have hm := hmix
 go_enter Tryz.func250, Tryz.ntmps250
 go_wp2_with fail
 go_ret
 exact Ret.mk' rfl gw
theorem lightHoldsL_v (x y a b : Int) (w : World) :
  Calls Tryz.prog 246 #[.agg #[.int .i64 x, .int .i64 y], .iface 140 (.agg #[.int .i64 a, .int .i64 b])] w (Ret w (.bool true)) := by
 have hm := hmix
 go_enter Tryz.func246, Tryz.ntmps246
 go_wp2_with fail
 go_ret
 exact Ret.mk' rfl gw
theorem lightHoldsD_v (x y : Int) (v : Value) (w : World) :
  Calls Tryz.prog 246 #[.agg #[.int .i64 x, .int .i64 y], .iface 143 v] w (Ret w (.bool false)) := by
 have hm := hmix
 go_enter Tryz.func246, Tryz.ntmps246
 go_wp2_with fail
 go_ret
 exact Ret.mk' rfl gw
theorem lightHoldsA_v (x y : Int) (v : Value) (w : World) :
  Calls Tryz.prog 246 #[.agg #[.int .i64 x, .int .i64 y], .iface 141 v] w (Ret w (.bool false)) := by
 have hm := hmix
 go_enter Tryz.func246, Tryz.ntmps246
 go_wp2_with fail
 go_ret
 exact Ret.mk' rfl gw
/-- The function that is handed to ContainsFunc: whether a disc lacks a place. -/
theorem disc1_v (x y r : Int) (B : Nat) (p : Pt) (o : Bool) (w : World) (hB : w.heap[B]? = some (.cells #[.int .i64 x, .int .i64 y, .int .i64 r] 143 (0, 0))) (h : coverD x y r p = !o) :
  Calls Tryz.prog 268 #[pt p.1 p.2, .pointer (some ⟨B, 0, none⟩)] w (Ret w (.bool o)) := by
 have k1 := hide (fun W => discCovers_v x y r p (!o) W h)
 have c0 := blk_cell hB 0
 have c1 := blk_cell hB 1
 have c2 := blk_cell hB 2
 have lB := blk_lt hB
 obtain ⟨p1, p2⟩ := p
 clear h hB
 cases o
 all_goals
  go_enter Tryz.func268, Tryz.ntmps268
  go_wp2_with (go_at_call 264; with_reducible refine crv (k1.out _) fun _ _ => ?_; dsimp only)
  go_ret
  exact Ret.mk' (by rfl) gw
theorem discIdx_v (x y r : Int) (B : Nat) (ps : List Pt) (A : Option Addr) (c : Nat) (o : Bool) (w : World) (hB : w.heap[B]? = some (.cells #[.int .i64 x, .int .i64 y, .int .i64 r] 143 (0, 0))) (hr : Rd w w.heap.size 2 A (ps.map encD)) (hc : ps.length ≤ 100000000000000) (h : ps.all (coverD x y r) = o) :
  Calls Tryz.prog 269 #[.slice A ps.length c, .func (.func 268) #[] #[.pointer (some ⟨B, 0, none⟩)]] w fun e w' => IdxP ps.length o e ∧ Grew w w' := by
 have hm := hmix
 have HR := hide h
 have HB := hide hB
 clear h
 go_enter Tryz.func269, Tryz.ntmps269
 go_wp2_with fail
 go_loopw [8] (fun i wr => ∃ k : Nat, k ≤ ps.length ∧ i = .int .i64 k ∧ Grew w wr ∧ AppG ((ps.take k).all (coverD x y r) = true)) (fun i _ => ps.length - (intOf i).toNat)
 case atStart => exact ⟨0, by omega, rfl, gw, rfl⟩
 case round =>
  obtain ⟨k, hk, rfl, hg, hall⟩ := hrel
  have HG := hide hg
  have HA := hide hall.stop
  clear hg hall
  by_cases hlt : k < ps.length
  ·obtain ⟨p, hp⟩ : ∃ p, ps[k]? = some p := ⟨_, List.getElem?_eq_getElem hlt⟩
   obtain ⟨b, off, hA, hb, h0, h1⟩ := ptAt (hr.up HG.out) hp
   have hix := idx_run (cap := c) Tryz.underlying141 Tryz.sizeOf43 hA.out hlt
   have hs := all_take_succ (coverD x y r) hp
   rw [HA.out, Bool.true_and] at hs
   have HP := hide hp
   have HS := hide hs
   obtain ⟨u, hu⟩ : ∃ u, coverD x y r p = !u := ⟨!coverD x y r p, by simp⟩
   have k1 := hide (fun W (hg : Grew wr W) => disc1_v x y r B p u W (((HG.out.trans hg).heap (blk_lt HB.out)).trans HB.out) hu)
   have HO := hide hu
   clear hp hs hu hA
   obtain ⟨p1, p2⟩ := p
   dsimp only at h0 h1
   cases u
   ·go_wp2_with (go_at_call 268; with_reducible refine crv (k1.out _ gw) fun _ _ => ?_; dsimp only)
    go_roundw
    case rel => exact ⟨k + 1, by omega, by go_num, HG.out.trans gw, by rw [HS.out]; exact HO.out⟩
    case measure => simp [intOf]; omega
   ·go_wp2_with (go_at_call 268; with_reducible refine crv (k1.out _ gw) fun _ _ => ?_; dsimp only)
    go_ret
    have e : ps.all (coverD x y r) = false := all_false_at HP.out HO.out
    obtain rfl : o = false := by rw [← HR.out, e]
    exact ⟨.inr ⟨k, by omega, rfl, rfl⟩, HG.out.trans gw⟩
  ·obtain rfl : k = ps.length := by omega
   rw [List.take_length] at HA
   obtain rfl : o = true := by rw [← HR.out, HA.out]
   go_wp2_with fail
   go_ret
   exact ⟨.inl ⟨rfl, rfl⟩, HG.out⟩
theorem discCon_v (x y r : Int) (B : Nat) (ps : List Pt) (A : Option Addr) (c : Nat) (o : Bool) (w : World) (hB : w.heap[B]? = some (.cells #[.int .i64 x, .int .i64 y, .int .i64 r] 143 (0, 0))) (hr : Rd w w.heap.size 2 A (ps.map encD)) (hc : ps.length ≤ 100000000000000) (h : ps.all (coverD x y r) = !o) :
  Calls Tryz.prog 267 #[.slice A ps.length c, .func (.func 268) #[] #[.pointer (some ⟨B, 0, none⟩)]] w (Ret w (.bool o)) := by
 have hm := hmix
 have k1 := hide (fun W (hg : Grew w W) => discIdx_v x y r B ps A c (!o) W ((hg.heap (blk_lt hB)).trans hB) (hr.up hg) hc h)
 clear h hr hB
 go_enter Tryz.func267, Tryz.ntmps267
 go_wp2_with fail
 refine (k1.out _ gw).mono ?_
 rintro e w' ⟨h, ⟨⟨n1, os1⟩, rfl⟩⟩
 rcases h with ⟨rfl, hr2⟩ | ⟨k, hk, rfl, hr2⟩
 ·obtain rfl : o = false := by simpa using hr2
  dsimp only
  go_wp2_with fail
  go_ret
  exact Ret.mk' rfl gw
 ·obtain rfl : o = true := by simpa using hr2
  dsimp only
  have hk0 : 0 ≤ (k : Int) := by omega
  go_wp2_with fail
  go_ret
  exact Ret.mk' (by simp) gw
theorem discHoldsA_v (x y r : Int) (ps : List Pt) (A : Option Addr) (c : Nat) (o : Bool) (w : World) (hr : Rd w w.heap.size 2 A (ps.map encD)) (hc : ps.length ≤ 100000000000000) (h : discHoldsA x y r ps = o) :
  Calls Tryz.prog 265 #[.agg #[.int .i64 x, .int .i64 y, .int .i64 r], .iface 141 (.slice A ps.length c)] w (Ret w (.bool o)) := by
 have hm := hmix
 have k1 := hide (fun W (hg : Grew w W) hB => discCon_v x y r w.heap.size ps A c (!o) W hB (hr.up hg) hc (by rw [Bool.not_not]; exact h))
 clear h hr
 cases o
 all_goals
  go_enter Tryz.func265, Tryz.ntmps265
  go_wp2_with fail
  refine (k1.out _ gw (heap_alloc_new _ _)).mono ?_
  rintro e w' ⟨rfl, ⟨_, _⟩, rfl⟩
  dsimp only
  go_wp2_with fail
  go_ret
  exact Ret.mk' (by rfl) gw
end Go.Proofs.YtfeccolljfkejaaGreatDoor
