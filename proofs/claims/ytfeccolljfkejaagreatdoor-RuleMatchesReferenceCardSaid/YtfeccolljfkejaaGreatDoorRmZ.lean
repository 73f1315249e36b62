import Derived.Test.YtfeccolljfkejaaGreatDoorCvX
import Derived.Test.YtfeccolljfkejaaGreatDoorPle
import Derived.Test.YtfeccolljfkejaaGreatDoorRuF
/- The reference implementation of package plane: Inside, Root, Dist. -/
set_option linter.unusedSimpArgs false
set_option linter.unusedVariables false
set_option maxHeartbeats 1600000
set_option maxRecDepth 100000
namespace Go.Proofs.YtfeccolljfkejaaGreatDoor
open Go.RowKit Go.Sort
attribute [local go_sem] Steady steadyUpon
attribute [local go_sem ↓] hs_dr lt_add_r lt_add_r2 lt_add_r3 lt_add_r4 lt_add_r5 lt_add_r6
attribute [local go_sem] cell?_gd frozen?_gd setCell_gd size_grow tape_grow cell?_grow' frozen?_grow' setCell_grow' grow_grow grow_dr grow_drew dr_dr dr_drew drew_dr dr_alloc dr_setCell dr_cell dr_frozen dr_tape dr_drawn
attribute [local irreducible] wpSteady
theorem p1Inside_v (p : Pt) (r : Int) (q : Pt) (s : Int) (o : Bool) (w : World) (hp : p.ok = true) (hq : q.ok = true) (hr : 0 ≤ r ∧ r ≤ 3000000) (hs : 0 ≤ s ∧ s ≤ 3000000) (h : liesB p r q s = o) :
  Calls Tryz.prog 98 #[pt p.1 p.2, .int .i64 r, pt q.1 q.2, .int .i64 s] w (Ret w (.bool o)) := by
 have hm := hmix
 have ks := hide (fun W => p1Square_v p q _ W hp hq rfl)
 unfold liesB at h
 have hd := dt_bd hp hq hq
 generalize dt p q q = n at *
 obtain ⟨p1, p2⟩ := p
 obtain ⟨q1, q2⟩ := q
 dsimp only at ks ⊢
 have ht := mul_bd (a := s - r) (b := s - r) 3000000 3000000 (by omega) (by omega)
 by_cases h1 : r ≤ s
 ·obtain ⟨t, ht0⟩ : ∃ t, (s - r) * (s - r) = t := ⟨_, rfl⟩
  rw [ht0] at h ht
  rw [decide_eq_true h1, Bool.true_and] at h
  subst h
  clear hp hq
  go_enter Tryz.func98, Tryz.ntmps98
  go_wp2_with (go_at_call 97; with_reducible refine crv (ks.out _) fun _ _ => ?_; dsimp only)
  all_goals go_ret
  all_goals exact Ret.mk' (ret_bool (by simp [*])) gw
 ·rw [decide_eq_false h1, Bool.false_and] at h
  subst h
  clear hp hq
  go_enter Tryz.func98, Tryz.ntmps98
  go_wp2_with (go_at_call 97; with_reducible refine crv (ks.out _) fun _ _ => ?_; dsimp only)
  go_ret
  exact Ret.mk' rfl gw
theorem root_uniq {n a : Int} (hn : 0 ≤ n) (hn2 : n < 70368744177664) (ha : 0 ≤ a) (h1 : a * a ≤ n) (h2 : n < (a + 1) * (a + 1)) : rootOf n = a := by
 obtain ⟨g0, _, g1, g2⟩ := root_spec n hn hn2
 generalize rootOf n = b at *
 rcases Int.lt_trichotomy a b with h | h | h
 ·have := Int.mul_le_mul (show a + 1 ≤ b by omega) (show a + 1 ≤ b by omega) (by omega) g0
  omega
 ·exact h.symm
 ·have := Int.mul_le_mul (show b + 1 ≤ a by omega) (show b + 1 ≤ a by omega) (by omega) ha
  omega
def Mid (n lo hi : Int) : Prop := (0 ≤ lo ∧ lo < hi ∧ hi ≤ 4000000) ∧ lo * lo ≤ n ∧ n < hi * hi
theorem p1Root_v (n r : Int) (w : World) (hn : 0 ≤ n) (hn2 : n < 16000000000000) (h : rootOf n = r) : Calls Tryz.prog 133 #[.int .i64 n] w (Ret w (.int .i64 r)) := by
 have hm := hmix
 have HH := hide h
 have HN := hide (And.intro hn hn2)
 clear h
 go_enter Tryz.func133, Tryz.ntmps133
 go_wp2_with fail
 go_loopw [3, 4] (fun l h wr => ∃ lo hi : Int, l = .int .i64 lo ∧ h = .int .i64 hi ∧ Mid n lo hi ∧ Grew w wr) (fun l h _ => (intOf h - intOf l).toNat)
 case atStart => exact ⟨0, 4000000, rfl, rfl, ⟨⟨by omega, by omega, by omega⟩, by omega, by omega⟩, gw⟩
 case round =>
  obtain ⟨lo, hi, rfl, rfl, ⟨⟨h1, h2, h3⟩, h4, h5⟩, hg⟩ := hrel
  have HG := hide hg
  have H4 := hide h4
  have H5 := hide h5
  clear hg h4 h5
  by_cases hlt : 1 < hi - lo
  ·obtain ⟨m, hmid⟩ : ∃ m, (lo + hi) / 2 = m := ⟨_, rfl⟩
   have hmid2 : (lo + hi).tdiv 2 = m := by rw [Int.tdiv_eq_ediv_of_nonneg (by omega)]; exact hmid
   have hml : lo < m ∧ m < hi := by omega
   have ht := mul_bd (a := m) (b := m) 4000000 4000000 (by omega) (by omega)
   obtain ⟨q, hq⟩ : ∃ q, m * m = q := ⟨_, rfl⟩
   rw [hq] at ht
   have HQ := hide hq
   by_cases hle : q ≤ n
   ·go_wp2_with fail
    go_roundw
    case rel => exact ⟨m, hi, rfl, rfl, ⟨⟨by omega, by omega, h3⟩, by rw [HQ.out]; exact hle, H5.out⟩, HG.out.trans gw⟩
    case measure => simp [intOf]; omega
   ·go_wp2_with fail
    go_roundw
    case rel => exact ⟨lo, m, rfl, rfl, ⟨⟨h1, by omega, by omega⟩, H4.out, by rw [HQ.out]; omega⟩, HG.out.trans gw⟩
    case measure => simp [intOf]; omega
  ·have e : hi = lo + 1 := by omega
   have hr : rootOf n = lo := root_uniq HN.out.1 (by have := HN.out.2; omega) h1 H4.out (by rw [← e]; exact H5.out)
   have HR := hide hr
   clear hr e
   go_wp2_with fail
   go_ret
   exact Ret.mk' (by rw [← HH.out, HR.out]; rfl) (HG.out.trans gw)
theorem dist_ok {p q : Pt} (hp : p.ok = true) (hq : q.ok = true) : distOf p q = ((rootOf (dt p q q), if rootOf (dt p q q) * rootOf (dt p q q) < dt p q q then rootOf (dt p q q) + 1 else rootOf (dt p q q)), 0) := by
 have hd := dt_bd hp hq hq
 have hd0 := dt_nn p q
 obtain ⟨h1, h2, h3, h4⟩ := root_spec (dt p q q) hd0 (by omega)
 unfold distOf
 rw [hp, hq, if_pos (by rfl)]
 by_cases hpe : p = q
 ·rw [if_pos hpe]
  have e : dt p q q = 0 := by rw [hpe]; unfold dt; simp
  rw [e, show rootOf 0 = 0 by decide]
  simp
 ·rw [if_neg hpe]
  by_cases hs : rootOf (dt p q q) * rootOf (dt p q q) = dt p q q
  ·rw [if_pos hs, if_neg (by omega)]
  ·rw [if_neg hs, if_pos (by omega)]
theorem p1Dist_v (p q : Pt) (o : (Int × Int) × Int) (w : World) (hp : p.ok = true) (hq : q.ok = true) (h : distOf p q = o) :
  Calls Tryz.prog 99 #[pt p.1 p.2, pt q.1 q.2] w (Ret w (.tuple #[pt o.1.1 o.1.2, .int .i64 o.2])) := by
 have hm := hmix
 rw [dist_ok hp hq] at h
 have hd := dt_bd hp hq hq
 have hd0 := dt_nn p q
 obtain ⟨h1, h2, h3, h4⟩ := root_spec (dt p q q) hd0 (by omega)
 have kv1 := hide (fun W => p1Valid_v p.1 p.2 true W hp)
 have kv2 := hide (fun W => p1Valid_v q.1 q.2 true W hq)
 have ks := hide (fun W => p1Square_v p q _ W hp hq rfl)
 have kr := hide (fun W => p1Root_v (dt p q q) _ W hd0 (by omega) rfl)
 generalize dt p q q = n at *
 generalize rootOf n = r at *
 have hrr := mul_bd (a := r) (b := r) 8388607 8388607 (by omega) (by omega)
 obtain ⟨s, hs⟩ : ∃ s, r * r = s := ⟨_, rfl⟩
 rw [hs] at h hrr
 obtain ⟨a1, a2⟩ := p
 obtain ⟨b1, b2⟩ := q
 dsimp only at kv1 kv2 ks ⊢
 clear h3 h4 hp hq
 by_cases hsn : s < n
 ·rw [if_pos hsn] at h
  subst h
  go_enter Tryz.func99, Tryz.ntmps99
  go_wp2_with (first | (go_at_call 126; with_reducible refine crv (kv1.out _) fun _ _ => ?_; dsimp only) | (go_at_call 126; with_reducible refine crv (kv2.out _) fun _ _ => ?_; dsimp only) | (go_at_call 97; with_reducible refine crv (ks.out _) fun _ _ => ?_; dsimp only) | (go_at_call 133; with_reducible refine crv (kr.out _) fun _ _ => ?_; dsimp only))
  refine bodyPost_ret (v := .tuple #[pt r (r + 1), .int .i64 0]) (by simp [results, Tryz.results99, go_sem]) rfl ?_
  exact Ret.mk' rfl gw
 ·rw [if_neg hsn] at h
  subst h
  go_enter Tryz.func99, Tryz.ntmps99
  go_wp2_with (first | (go_at_call 126; with_reducible refine crv (kv1.out _) fun _ _ => ?_; dsimp only) | (go_at_call 126; with_reducible refine crv (kv2.out _) fun _ _ => ?_; dsimp only) | (go_at_call 97; with_reducible refine crv (ks.out _) fun _ _ => ?_; dsimp only) | (go_at_call 133; with_reducible refine crv (kr.out _) fun _ _ => ?_; dsimp only))
  refine bodyPost_ret (v := .tuple #[pt r r, .int .i64 0]) (by simp [results, Tryz.results99, go_sem]) rfl ?_
  exact Ret.mk' rfl gw
end Go.Proofs.YtfeccolljfkejaaGreatDoor

/- The reference implementation of package rule: shoaler, byDepth. -/
set_option linter.unusedSimpArgs false
set_option linter.unusedVariables false
set_option maxHeartbeats 16000000
set_option maxRecDepth 100000
namespace Go.Proofs.YtfeccolljfkejaaGreatDoor
open Go.RowKit Go.Sort
attribute [local go_sem] Steady steadyUpon
attribute [local go_sem ↓] hs_dr lt_add_r lt_add_r2 lt_add_r3 lt_add_r4 lt_add_r5 lt_add_r6
attribute [local go_sem] cell?_gd frozen?_gd setCell_gd size_grow tape_grow cell?_grow' frozen?_grow' setCell_grow' grow_grow grow_dr grow_drew dr_dr dr_drew drew_dr dr_alloc dr_setCell dr_cell dr_frozen dr_tape dr_drawn
attribute [local irreducible] wpSteady
def shB (f g : FV) : Bool := decide (f.dep < g.dep ∨ (f.dep = g.dep ∧ f.id < g.id))
theorem rshoaler_v (f g : FV) (r : Bool) (w : World) (h : shB f g = r) : Calls Tryz.prog 130 #[f.val, g.val] w (Ret w (.bool r)) := by
 unfold shB at h
 obtain ⟨id, kind, x, y, rad, aA, ac, area, dep, sym, sA, sc, secs⟩ := f
 obtain ⟨id', kind', x', y', rad', aA', ac', area', dep', sym', sA', sc', secs'⟩ := g
 dsimp only at h
 subst h
 by_cases h1 : dep < dep'
 ·go_enter Tryz.func130, Tryz.ntmps130
  go_wp2
  all_goals go_ret
  all_goals exact Ret.mk' (ret_bool (by simp [h1])) gw
 ·by_cases h2 : dep = dep'
  ·subst h2
   go_enter Tryz.func130, Tryz.ntmps130
   go_wp2
   all_goals go_ret
   all_goals exact Ret.mk' (ret_bool (by simp)) gw
  ·have h3 : (dep == dep') = false := by simpa using h2
   go_enter Tryz.func130, Tryz.ntmps130
   go_wp2
   all_goals go_ret
   all_goals exact Ret.mk' (ret_bool (by simp [h1, h2])) gw
/-- A feature put into a list by depth, then by ID. -/
def insD (x : FV) (l : List FV) : List FV := l.takeWhile (fun y => shB y x) ++ x :: l.dropWhile (fun y => shB y x)
def byD (fs : List FV) : List FV := fs.foldl (fun l x => insD x l) []
theorem byD_succ {fs : List FV} {k : Nat} (h : k < fs.length) : byD (fs.take (k + 1)) = insD (fAt fs k) (byD (fs.take k)) := by
 unfold byD
 rw [List.take_add_one, fAt_get h, List.foldl_append]
 rfl
theorem insD_len (x : FV) (l : List FV) : (insD x l).length = l.length + 1 := by
 unfold insD
 have := congrArg List.length (List.takeWhile_append_dropWhile (p := fun y => shB y x) (l := l))
 rw [List.length_append] at this
 rw [List.length_append, List.length_cons]
 omega
theorem byD_len : ∀ (fs : List FV), (byD fs).length = fs.length := by
 intro fs
 have : ∀ (fs l : List FV), (fs.foldl (fun l x => insD x l) l).length = l.length + fs.length := by
  intro fs
  induction fs with
  | nil => intro l; simp
  | cons a fs ih => intro l; rw [List.foldl_cons, ih, insD_len, List.length_cons]; omega
 unfold byD
 rw [this]
 simp
theorem tw_lt {p : FV → Bool} {l : List FV} {m : Nat} (h : m < (l.takeWhile p).length) : m < l.length ∧ p (fAt l m) = true := by
 have hp := List.takeWhile_prefix p (l := l)
 have hl := hp.length_le
 refine ⟨by omega, ?_⟩
 have e : (l.takeWhile p)[m]? = l[m]? := by
  obtain ⟨t, ht⟩ := hp
  conv => rhs; rw [← ht]
  rw [List.getElem?_append_left h]
 have hm : (l.takeWhile p)[m]? = some (fAt l m) := by rw [e]; exact fAt_get (by omega)
 have := List.mem_of_getElem? hm
 exact List.all_eq_true.1 List.all_takeWhile _ this
theorem tw_stop {p : FV → Bool} {l : List FV} (h : (l.takeWhile p).length < l.length) : p (fAt l (l.takeWhile p).length) = false := by
 have hd := List.takeWhile_append_dropWhile (p := p) (l := l)
 have e : (l.takeWhile p ++ l.dropWhile p)[(l.takeWhile p).length]? = (l.dropWhile p)[0]? := by
  rw [List.getElem?_append_right (Nat.le_refl _), Nat.sub_self]
 rw [hd] at e
 rw [fAt_get h] at e
 have := List.head?_dropWhile_not (p := p) (l := l)
 cases hw : l.dropWhile p with
 | nil => rw [hw] at e; cases e
 | cons c r =>
  rw [hw] at e this
  injection e with e
  rw [e]
  simpa using this
theorem ins_eq (x : FV) (l : List FV) : insD x l = l.take (l.takeWhile fun y => shB y x).length ++ x :: l.drop (l.takeWhile fun y => shB y x).length := by
 have hd := List.takeWhile_append_dropWhile (p := fun y => shB y x) (l := l)
 unfold insD
 congr 1
 ·conv => rhs; arg 2; rw [← hd]
  rw [List.take_left' rfl]
 ·congr 1
  conv => rhs; arg 2; rw [← hd]
  rw [List.drop_left' rfl]
theorem rbyDepth_v (fs : List FV) (A : Option Addr) (c : Nat) (w : World) (hr : Rd w w.heap.size 9 A (fs.map FV.cells)) (hl : fs.length ≤ 300) :
  Calls Tryz.prog 96 #[.slice A fs.length c] w (ThinP w (byD fs)) := by
 have hm := hmix
 obtain ⟨i0, hi, hz0, hz1, hz2⟩ := fInfo_parts feInf
 have HR := hide hr
 clear hr
 go_enter Tryz.func96, Tryz.ntmps96
 go_wp2_with fail
 go_loopw [3, 4] (fun v i wr => ∃ q : Nat, q ≤ fs.length ∧ i = .int .i64 q ∧ Grew w wr ∧ wr.ownsRow w.heap.size 47 9 v (byD (fs.take q)).length ((byD (fs.take q)).flatMap FV.cells)) (fun _ i _ => fs.length - (intOf i).toNat)
 case atStart => exact ⟨0, by omega, rfl, gw, World.ownsRow_nil _ _ _ _⟩
 case round =>
  obtain ⟨q, hq, rfl, hg, hown⟩ := hrel
  have HG := hide hg
  by_cases hlt : q < fs.length
  ·have hst := byD_succ hlt
   have hll := byD_len (fs.take q)
   rw [List.length_take, Nat.min_eq_left hq] at hll
   obtain ⟨L, hL⟩ : ∃ L, byD (fs.take q) = L := ⟨_, rfl⟩
   rw [hL] at hown hst hll
   obtain ⟨x, hx⟩ : ∃ x, fAt fs q = x := ⟨_, rfl⟩
   have HX := hide hx
   rw [hx] at hst
   obtain ⟨AL, cL, rfl, _, hrdL⟩ := Rd.of_own fv_len hown rfl
   have HOL := hide hown
   have HRL := hide hrdL
   obtain ⟨mk, hmk⟩ : ∃ mk, (L.takeWhile fun y => shB y x).length = mk := ⟨_, rfl⟩
   have hins := ins_eq x L
   rw [hmk] at hins
   have HST := hide (hst.trans hins)
   have hmkl : mk ≤ L.length := by rw [← hmk]; exact (List.takeWhile_prefix _).length_le
   have HMK := hide hmk
   obtain ⟨Wr, hWr⟩ : ∃ W, W = wr := ⟨wr, rfl⟩
   subst hWr
   have hl3 : L.length ≤ 300 := by omega
   have HLL := hide hll
   clear hg hown hL hx hst hrdL hins hmk hll
   go_wp2_with fail
   go_loopw [5, 6] (fun v k wr => ∃ m : Nat, m ≤ mk ∧ k = .int .i64 m ∧ Grew Wr wr ∧ wr.ownsRow Wr.heap.size 47 9 v m ((L.take m).flatMap FV.cells)) (fun _ k _ => mk - (intOf k).toNat)
   case atStart => exact ⟨0, by omega, rfl, gw, World.ownsRow_nil _ _ _ _⟩
   case round =>
    obtain ⟨m, hmm, rfl, hg, hown⟩ := hrel
    have HG1 := hide hg
    have HO := hide hown
    obtain ⟨An, cn, rfl, _⟩ := fown_slice hown
    obtain ⟨b1, off1, hA1, hb1, fx⟩ := rowAt (HR.out.up (HG.out.trans hg)) hlt
    have hix1 := idx_run (cap := c) Tryz.underlying37 Tryz.sizeOf47 hA1.out hlt
    rw [HX.out] at fx
    obtain ⟨c0, c1, c2, c3, c4, c5, c6, c7, c8⟩ := fx
    clear hg hown hA1
    by_cases hlt2 : m < mk
    ·have hml : m < L.length := by omega
     have hmd := decide_eq_true hml
     have hsh : shB (fAt L m) x = true := (tw_lt (p := fun y => shB y x) (l := L) (m := m) (by rw [HMK.out]; exact hlt2)).2
     obtain ⟨b2, off2, hA2, hb2, fy⟩ := rowAt (HRL.out.up HG1.out) hml
     have hix2 := idx_run (cap := cL) (k := m) (len := L.length) Tryz.underlying37 Tryz.sizeOf47 hA2.out hml
     have hgt := fAt_get hml
     obtain ⟨y, hy⟩ : ∃ y, fAt L m = y := ⟨_, rfl⟩
     rw [hy] at fy hsh hgt
     have ks := hide (fun W => rshoaler_v y x true W hsh)
     have HGT := hide hgt
     obtain ⟨d0, d1, d2, d3, d4, d5, d6, d7, d8⟩ := fy
     clear hsh hy hA2 hgt
     go_wp2_with fail
     refine wp_region_qas 15 [] [] hm (h := ?_)
     repeat (refine wpSteady_step (fun K hK => ?_); go_simp; first | (refine hK _ ?_; clear hK K) | (apply Exists.intro; refine ⟨fun _ => ?_, hK _ ?_⟩; ((go_at_call 130; with_reducible exact ks.out _)); clear hK K))
     refine rq0 fun nq osq => ?_
     try simp only [Act.put, setA]
     try dsimp only
     go_wp2_with (at_builtin; refine AppG3.stop ?_)
     refine AppG3.go ?_
     refine wpList_append_any _ rfl (.tmp 28) (.tmp 33) _ rfl Wr.heap.size 47 i0 _ 9 104 Tryz.underlying37 hi hz0 hz1 hz2 rfl (by omega) _ m ((L.take m).flatMap FV.cells) rfl (fown_grew HO.out gw) _ (some ⟨_, 0, none⟩) 1 1 ([y].flatMap FV.cells) rfl ((Rd.lit1 _ y _ (by simp [hs_dr])).reads fv_len (by omega)) (fv_one _) (by simp only [maxLen]; omega) (by omega) (by have := HG1.out.below.size; simp [hs_dr]; omega) ?_
     intro v' w1 hown1 hg1 _
     have HG2 : Hid (Grew Wr w1) := hide (ggrown (HG1.out.trans gw) (fown_grew HO.out gw) (Nat.le_refl _) hg1)
     have HO1 : Hid (w1.ownsRow Wr.heap.size 47 9 v' (m + 1) ((L.take (m + 1)).flatMap FV.cells)) := hide (by
      rw [List.take_add_one, HGT.out, List.flatMap_append]
      exact hown1)
     clear hown1 hg1
     go_wp2_with fail
     go_roundw
     case rel => exact ⟨m + 1, by omega, by go_num, HG2.out.trans gw, fown_grew HO1.out gw⟩
     case measure => simp [intOf]; omega
    ·obtain rfl : m = mk := by omega
     have hfin : Hid (L.take m ++ [x] ++ (L.drop m).take (L.length - m) = byD (fs.take (q + 1))) := hide (by
      have e : (L.drop m).take (L.length - m) = L.drop m := List.take_of_length_le (by rw [List.length_drop]; exact Nat.le_refl _)
      rw [HST.out, List.append_assoc, e]
      rfl)
     by_cases hml : m < L.length
     ·have hsh : shB (fAt L m) x = false := by
       have := tw_stop (p := fun y => shB y x) (l := L) (by rw [HMK.out]; exact hml)
       rw [HMK.out] at this
       exact this
      have hmd := decide_eq_true hml
      obtain ⟨b2, off2, hA2, hb2, fy⟩ := rowAt (HRL.out.up HG1.out) hml
      have hix2 := idx_run (cap := cL) (k := m) (len := L.length) Tryz.underlying37 Tryz.sizeOf47 hA2.out hml
      obtain ⟨y, hy⟩ : ∃ y, fAt L m = y := ⟨_, rfl⟩
      rw [hy] at fy hsh
      have ks := hide (fun W => rshoaler_v y x false W hsh)
      obtain ⟨d0, d1, d2, d3, d4, d5, d6, d7, d8⟩ := fy
      clear hsh hy hA2
      go_wp2_with fail
      refine wp_region_qas 15 [] [] hm (h := ?_)
      repeat (refine wpSteady_step (fun K hK => ?_); go_simp; first | (refine hK _ ?_; clear hK K) | (apply Exists.intro; refine ⟨fun _ => ?_, hK _ ?_⟩; ((go_at_call 130; with_reducible exact ks.out _)); clear hK K))
      refine rq0 fun nq osq => ?_
      try simp only [Act.put, setA]
      try dsimp only
      go_wp2_with (at_builtin; refine AppG3.stop ?_)
      refine AppG3.go ?_
      refine wpList_append_any _ rfl (.tmp 37) (.tmp 42) _ rfl Wr.heap.size 47 i0 _ 9 104 Tryz.underlying37 hi hz0 hz1 hz2 rfl (by omega) _ m ((L.take m).flatMap FV.cells) rfl (fown_grew HO.out gw) _ (some ⟨_, 0, none⟩) 1 1 ([x].flatMap FV.cells) rfl ((Rd.lit1 _ x _ (by simp [hs_dr])).reads fv_len (by omega)) (fv_one _) (by simp only [maxLen]; omega) (by omega) (by have := HG1.out.below.size; simp [hs_dr]; omega) ?_
      intro v' w1 hown1 hg1 _
      have HG2 : Hid (Grew Wr w1) := hide (ggrown (HG1.out.trans gw) (fown_grew HO.out gw) (Nat.le_refl _) hg1)
      have HO1 : Hid (w1.ownsRow Wr.heap.size 47 9 v' (m + 1) ((L.take m ++ [x] ++ (L.drop m).take 0).flatMap FV.cells)) := hide (by
       rw [List.take_zero, List.append_nil, List.flatMap_append]
       exact hown1)
      clear hown1 hg1
      go_wp2_with fail
      go_loopw [5, 6] (fun v k wr => ∃ p : Nat, m ≤ p ∧ p ≤ L.length ∧ k = .int .i64 p ∧ Grew Wr wr ∧ wr.ownsRow Wr.heap.size 47 9 v (p + 1) ((L.take m ++ [x] ++ (L.drop m).take (p - m)).flatMap FV.cells)) (fun _ k _ => L.length - (intOf k).toNat)
      case atStart => exact ⟨m, Nat.le_refl _, hmkl, rfl, HG2.out.trans gw, by rw [Nat.sub_self]; exact fown_grew HO1.out gw⟩
      case round =>
       obtain ⟨p, hmp, hpl, rfl, hg, hown⟩ := hrel
       have HG3 := hide hg
       have HO3 := hide hown
       obtain ⟨An, cn, rfl, _⟩ := fown_slice hown
       clear hg hown
       by_cases hlt3 : p < L.length
       ·obtain ⟨b2, off2, hA2, hb2, fy⟩ := rowAt (HRL.out.up HG3.out) hlt3
        have hix2 := idx_run (cap := cL) (k := p) (len := L.length) Tryz.underlying37 Tryz.sizeOf47 hA2.out hlt3
        have hgt := fAt_get hlt3
        obtain ⟨y, hy⟩ : ∃ y, fAt L p = y := ⟨_, rfl⟩
        rw [hy] at fy hgt
        have HGT := hide hgt
        obtain ⟨d0, d1, d2, d3, d4, d5, d6, d7, d8⟩ := fy
        clear hy hA2 hgt
        go_wp2_with (at_builtin; refine AppG3.stop ?_)
        refine AppG3.go ?_
        refine wpList_append_any _ rfl (.tmp 48) (.tmp 53) _ rfl Wr.heap.size 47 i0 _ 9 104 Tryz.underlying37 hi hz0 hz1 hz2 rfl (by omega) _ (p + 1) _ rfl (fown_grew HO3.out gw) _ (some ⟨_, 0, none⟩) 1 1 ([y].flatMap FV.cells) rfl ((Rd.lit1 _ y _ (by simp [hs_dr])).reads fv_len (by omega)) (fv_one _) (by simp only [maxLen]; omega) (by omega) (by have := HG3.out.below.size; simp [hs_dr]; omega) ?_
        intro v2 w2 hown2 hg2 _
        have HG4 : Hid (Grew Wr w2) := hide (ggrown (HG3.out.trans gw) (fown_grew HO3.out gw) (Nat.le_refl _) hg2)
        have HO4 : Hid (w2.ownsRow Wr.heap.size 47 9 v2 (p + 1 + 1) ((L.take m ++ [x] ++ (L.drop m).take (p + 1 - m)).flatMap FV.cells)) := hide (by
         rw [show p + 1 - m = (p - m) + 1 by omega, List.take_add_one, List.getElem?_drop, show m + (p - m) = p by omega, HGT.out, ← List.append_assoc, List.flatMap_append]
         exact hown2)
        clear hown2 hg2
        go_wp2_with fail
        go_roundw
        case rel => exact ⟨p + 1, by omega, by omega, by go_num, HG4.out.trans gw, fown_grew HO4.out gw⟩
        case measure => simp [intOf]; omega
       ·obtain rfl : p = L.length := by omega
        have HO5 : Hid (wr.ownsRow w.heap.size 47 9 (.slice An (L.length + 1) cn) (byD (fs.take (q + 1))).length ((byD (fs.take (q + 1))).flatMap FV.cells)) := hide (by
         have h := own_mono HO3.out HG.out.below.size
         rw [hfin.out] at h
         have hlen : (byD (fs.take (q + 1))).length = L.length + 1 := by rw [byD_len, List.length_take, Nat.min_eq_left (by omega), HLL.out]
         rw [hlen]
         exact h)
        go_wp2_with fail
        go_roundw
        case rel => exact ⟨q + 1, by omega, by go_num, HG.out.trans (HG3.out.trans gw), fown_grew HO5.out gw⟩
        case measure => simp [intOf]; omega
     ·have hmd := decide_eq_false hml
      go_wp2_with fail
      refine wp_region_qas 15 [] [] hm (h := ?_)
      repeat (refine wpSteady_step (fun K hK => ?_); go_simp; refine hK _ ?_; clear hK K)
      refine rq0 fun nq osq => ?_
      try simp only [Act.put, setA]
      try dsimp only
      clear hml hmd
      go_wp2_with (at_builtin; refine AppG3.stop ?_)
      refine AppG3.go ?_
      refine wpList_append_any _ rfl (.tmp 37) (.tmp 42) _ rfl Wr.heap.size 47 i0 _ 9 104 Tryz.underlying37 hi hz0 hz1 hz2 rfl (by omega) _ m ((L.take m).flatMap FV.cells) rfl (fown_grew HO.out gw) _ (some ⟨_, 0, none⟩) 1 1 ([x].flatMap FV.cells) rfl ((Rd.lit1 _ x _ (by simp [hs_dr])).reads fv_len (by omega)) (fv_one _) (by simp only [maxLen]; omega) (by omega) (by have := HG1.out.below.size; simp [hs_dr]; omega) ?_
      intro v' w1 hown1 hg1 _
      have HG2 : Hid (Grew Wr w1) := hide (ggrown (HG1.out.trans gw) (fown_grew HO.out gw) (Nat.le_refl _) hg1)
      have HO1 : Hid (w1.ownsRow Wr.heap.size 47 9 v' (m + 1) ((L.take m ++ [x] ++ (L.drop m).take 0).flatMap FV.cells)) := hide (by
       rw [List.take_zero, List.append_nil, List.flatMap_append]
       exact hown1)
      clear hown1 hg1
      go_wp2_with fail
      go_loopw [5, 6] (fun v k wr => ∃ p : Nat, m ≤ p ∧ p ≤ L.length ∧ k = .int .i64 p ∧ Grew Wr wr ∧ wr.ownsRow Wr.heap.size 47 9 v (p + 1) ((L.take m ++ [x] ++ (L.drop m).take (p - m)).flatMap FV.cells)) (fun _ k _ => L.length - (intOf k).toNat)
      case atStart => exact ⟨m, Nat.le_refl _, hmkl, rfl, HG2.out.trans gw, by rw [Nat.sub_self]; exact fown_grew HO1.out gw⟩
      case round =>
       obtain ⟨p, hmp, hpl, rfl, hg, hown⟩ := hrel
       have HG3 := hide hg
       have HO3 := hide hown
       obtain ⟨An, cn, rfl, _⟩ := fown_slice hown
       clear hg hown
       by_cases hlt3 : p < L.length
       ·obtain ⟨b2, off2, hA2, hb2, fy⟩ := rowAt (HRL.out.up HG3.out) hlt3
        have hix2 := idx_run (cap := cL) (k := p) (len := L.length) Tryz.underlying37 Tryz.sizeOf47 hA2.out hlt3
        have hgt := fAt_get hlt3
        obtain ⟨y, hy⟩ : ∃ y, fAt L p = y := ⟨_, rfl⟩
        rw [hy] at fy hgt
        have HGT := hide hgt
        obtain ⟨d0, d1, d2, d3, d4, d5, d6, d7, d8⟩ := fy
        clear hy hA2 hgt
        go_wp2_with (at_builtin; refine AppG3.stop ?_)
        refine AppG3.go ?_
        refine wpList_append_any _ rfl (.tmp 48) (.tmp 53) _ rfl Wr.heap.size 47 i0 _ 9 104 Tryz.underlying37 hi hz0 hz1 hz2 rfl (by omega) _ (p + 1) _ rfl (fown_grew HO3.out gw) _ (some ⟨_, 0, none⟩) 1 1 ([y].flatMap FV.cells) rfl ((Rd.lit1 _ y _ (by simp [hs_dr])).reads fv_len (by omega)) (fv_one _) (by simp only [maxLen]; omega) (by omega) (by have := HG3.out.below.size; simp [hs_dr]; omega) ?_
        intro v2 w2 hown2 hg2 _
        have HG4 : Hid (Grew Wr w2) := hide (ggrown (HG3.out.trans gw) (fown_grew HO3.out gw) (Nat.le_refl _) hg2)
        have HO4 : Hid (w2.ownsRow Wr.heap.size 47 9 v2 (p + 1 + 1) ((L.take m ++ [x] ++ (L.drop m).take (p + 1 - m)).flatMap FV.cells)) := hide (by
         rw [show p + 1 - m = (p - m) + 1 by omega, List.take_add_one, List.getElem?_drop, show m + (p - m) = p by omega, HGT.out, ← List.append_assoc, List.flatMap_append]
         exact hown2)
        clear hown2 hg2
        go_wp2_with fail
        go_roundw
        case rel => exact ⟨p + 1, by omega, by omega, by go_num, HG4.out.trans gw, fown_grew HO4.out gw⟩
        case measure => simp [intOf]; omega
       ·obtain rfl : p = L.length := by omega
        have HO5 : Hid (wr.ownsRow w.heap.size 47 9 (.slice An (L.length + 1) cn) (byD (fs.take (q + 1))).length ((byD (fs.take (q + 1))).flatMap FV.cells)) := hide (by
         have h := own_mono HO3.out HG.out.below.size
         rw [hfin.out] at h
         have hlen : (byD (fs.take (q + 1))).length = L.length + 1 := by rw [byD_len, List.length_take, Nat.min_eq_left (by omega), HLL.out]
         rw [hlen]
         exact h)
        go_wp2_with fail
        go_roundw
        case rel => exact ⟨q + 1, by omega, by go_num, HG.out.trans (HG3.out.trans gw), fown_grew HO5.out gw⟩
        case measure => simp [intOf]; omega
  ·obtain rfl : q = fs.length := by omega
   rw [List.take_length] at hown
   obtain ⟨AL, cL, rfl, hcl, hrdL⟩ := Rd.of_own fv_len hown rfl
   have HRL := hide hrdL
   clear hown hrdL hg
   go_wp2_with fail
   go_ret
   exact ⟨AL, cL, rfl, HRL.out.up gw, HG.out.trans gw, hcl⟩
end Go.Proofs.YtfeccolljfkejaaGreatDoor

/- The reference implementation of package rule: thin. -/
set_option linter.unusedSimpArgs false
set_option linter.unusedVariables false
namespace Go.Proofs.YtfeccolljfkejaaGreatDoor
open Go.RowKit Go.Sort
attribute [local go_sem] Steady steadyUpon
attribute [local go_sem ↓] hs_dr lt_add_r lt_add_r2 lt_add_r3 lt_add_r4 lt_add_r5 lt_add_r6
attribute [local go_sem] cell?_gd frozen?_gd setCell_gd size_grow tape_grow cell?_grow' frozen?_grow' setCell_grow' grow_grow grow_dr grow_drew dr_dr dr_drew drew_dr dr_alloc dr_setCell dr_cell dr_frozen dr_tape dr_drawn
attribute [local irreducible] wpSteady
/-- A feature that a thinning joins, in the reference's words. -/
def rnearF (n : Int) (f g : FV) : Bool := decide (dt (g.x, g.y) (f.x, f.y) (f.x, f.y) ≤ n * n)
def rliesF (f g : FV) : Bool := liesB (f.x, f.y) f.rad (g.x, g.y) g.rad
def rhiF (f g : FV) : Int := (distOf (f.x, f.y) (g.x, g.y)).1.2
def rjoinF (f g : FV) : FV := if rliesF f g = true then g else { g with rad := rhiF f g + f.rad }
def rkStep (n : Int) (kept : List FV) (f : FV) : List FV := match kept.findIdx? (rnearF n f) with | none => kept ++ [f] | some k => kept.set k (rjoinF f (fAt kept k))
def rkTo (n : Int) (ds : List FV) (m : Nat) : List FV := (ds.take m).foldl (rkStep n) []
def rkOf (k n : Int) (fs : List FV) : List FV := rkTo n (byD (fs.filter (isKind k))) (byD (fs.filter (isKind k))).length
theorem rkTo_succ {n : Int} {ds : List FV} {m : Nat} (h : m < ds.length) : rkTo n ds (m + 1) = rkStep n (rkTo n ds m) (fAt ds m) := by
 unfold rkTo
 rw [List.take_add_one, fAt_get h, List.foldl_append]
 rfl
theorem rstep_none {n : Int} {kept : List FV} {f : FV} (h : ∀ m, m < kept.length → rnearF n f (fAt kept m) = false) : rkStep n kept f = kept ++ [f] := by
 unfold rkStep
 rw [List.findIdx?_eq_none_iff.2 (fun x hx => ?_)]
 obtain ⟨m, hm, e⟩ := List.getElem_of_mem hx
 have a := fAt_get hm
 rw [List.getElem?_eq_getElem hm, e] at a
 injection a with a
 rw [a]
 exact h m hm
theorem rstep_some {n : Int} {kept : List FV} {f : FV} {k : Nat} (hk : k < kept.length) (h1 : rnearF n f (fAt kept k) = true) (h2 : ∀ m, m < k → rnearF n f (fAt kept m) = false) : rkStep n kept f = kept.set k (rjoinF f (fAt kept k)) := by
 unfold rkStep
 have e : ∀ m, (h : m < kept.length) → kept[m] = fAt kept m := fun m h => by
  have a := fAt_get h
  rw [List.getElem?_eq_getElem h] at a
  injection a
 have : kept.findIdx? (rnearF n f) = some k := by
  rw [List.findIdx?_eq_some_iff_getElem]
  refine ⟨hk, by rw [e k hk]; exact h1, fun j hj => ?_⟩
  rw [e j (by omega), h2 j hj]
  decide
 rw [this]
theorem rstep_len (n : Int) (kept : List FV) (f : FV) : (rkStep n kept f).length ≤ kept.length + 1 := by
 unfold rkStep
 split
 ·simp
 ·simp
theorem rk_len {n : Int} {ds : List FV} : ∀ m, m ≤ ds.length → (rkTo n ds m).length ≤ m
 | 0, _ => by simp [rkTo]
 | m + 1, h => by
  have ih := rk_len (n := n) (ds := ds) m (by omega)
  have := rstep_len n (rkTo n ds m) (fAt ds m)
  rw [rkTo_succ (by omega)]
  omega
/-- What holds of what is kept. -/
def RKept (g : FV) : Prop := plOk g.x g.y = true ∧ 0 ≤ g.rad ∧ g.rad ≤ 3000000
theorem root_le {n : Int} (h0 : 0 ≤ n) (h : n ≤ 8000000000000) : rootOf n ≤ 2828427 := by
 obtain ⟨h1, _, h3, _⟩ := root_spec n h0 (by omega)
 rcases Int.lt_or_le 2828427 (rootOf n) with hc | hc
 ·have := Int.mul_le_mul (show (2828428 : Int) ≤ rootOf n by omega) (show (2828428 : Int) ≤ rootOf n by omega) (by omega) h1
  omega
 ·exact hc
theorem rhi_bd {f g : FV} (hf : plOk f.x f.y = true) (hg : plOk g.x g.y = true) : 0 ≤ rhiF f g ∧ rhiF f g ≤ 2828428 := by
 have hd := dt_bd (a := (f.x, f.y)) (b := (g.x, g.y)) (c := (g.x, g.y)) hf hg hg
 have h0 := dt_nn (f.x, f.y) (g.x, g.y)
 unfold rhiF
 rw [dist_ok (p := (f.x, f.y)) (q := (g.x, g.y)) hf hg]
 have h1 := (root_spec _ h0 (by omega)).1
 have h2 := root_le h0 hd.2
 dsimp only
 split <;> omega
theorem rjoin_ok {f g : FV} (hf : plOk f.x f.y = true ∧ 0 ≤ f.rad ∧ f.rad ≤ 100000) (hg : RKept g) : RKept (rjoinF f g) := by
 unfold rjoinF
 split
 ·exact hg
 ·have := rhi_bd hf.1 hg.1
  exact ⟨hg.1, by show 0 ≤ rhiF f g + f.rad; omega, by show rhiF f g + f.rad ≤ 3000000; omega⟩
theorem rk_all {ds : List FV} {n : Int} (hd : ∀ f, f ∈ ds → plOk f.x f.y = true ∧ 0 ≤ f.rad ∧ f.rad ≤ 100000) : ∀ m, m ≤ ds.length → ∀ g, g ∈ rkTo n ds m → RKept g
 | 0, _ => fun g hg => by simp [rkTo] at hg
 | m + 1, h => by
  have ih := rk_all (n := n) hd m (by omega)
  have hf := hd _ (fAt_mem (show m < ds.length by omega))
  rw [rkTo_succ (by omega)]
  intro g hg
  unfold rkStep at hg
  split at hg
  ·rcases List.mem_append.1 hg with hg | hg
   ·exact ih g hg
   ·rw [List.mem_singleton.1 hg]
    exact ⟨hf.1, hf.2.1, by omega⟩
  ·rename_i k hk
   rcases List.mem_or_eq_of_mem_set hg with hg | hg
   ·exact ih g hg
   ·rw [hg]
    exact rjoin_ok hf (ih _ (fAt_mem (List.findIdx?_eq_some_iff_getElem.1 hk).1))
theorem valid_pl {f : FV} (h : FValid f = true) : plOk f.x f.y = true := by
 unfold FValid at h
 rw [Bool.and_eq_true] at h
 have h2 := h.2
 have z : plOk 0 0 = true := by decide
 split at h2
 ·unfold discOk at h2
  rw [Bool.and_eq_true] at h2
  exact h2.1
 ·split at h2
  ·unfold areaOk at h2
   simp only [Bool.and_eq_true, decide_eq_true_eq] at h2
   rw [h2.2.1.1, h2.2.1.2]
   exact z
  ·split at h2
   ·unfold areaOk at h2
    simp only [Bool.and_eq_true, decide_eq_true_eq] at h2
    rw [h2.2.2.1.1, h2.2.2.1.2]
    exact z
   ·split at h2
    ·unfold lightOk at h2
     rw [Bool.and_eq_true] at h2
     exact h2.1
    ·cases h2
theorem byD_mem {fs : List FV} : ∀ g, g ∈ byD fs → g ∈ fs := by
 have : ∀ (fs l : List FV) g, g ∈ fs.foldl (fun l x => insD x l) l → g ∈ l ∨ g ∈ fs := by
  intro fs
  induction fs with
  | nil => intro l g h; exact .inl h
  | cons a fs ih =>
   intro l g h
   rw [List.foldl_cons] at h
   rcases ih _ g h with h | h
   ·unfold insD at h
    rcases List.mem_append.1 h with h | h
    ·exact .inl (List.takeWhile_subset _ h)
    ·rcases List.mem_cons.1 h with h | h
     ·exact .inr (by rw [h]; simp)
     ·exact .inl (List.dropWhile_subset _ h)
   ·exact .inr (by simp [h])
 intro g h
 rcases this fs [] g h with h | h
 ·cases h
 ·exact h
end Go.Proofs.YtfeccolljfkejaaGreatDoor

