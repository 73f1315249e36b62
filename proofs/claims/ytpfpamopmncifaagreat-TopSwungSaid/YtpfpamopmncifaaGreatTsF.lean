/- Package tide: which tables are valid; the join of two spans. -/
import Derived.Test.YtpfpamopmncifaaGreatTsA
import Derived.Test.YtpfpamopmncifaaGreatIter
set_option linter.unusedSimpArgs false
set_option linter.unusedVariables false
set_option maxHeartbeats 4000000
set_option maxRecDepth 100000
namespace Go.Proofs.YtpfpamopmncifaaGreat
open Go.RowKit Go.Sort
attribute [local go_sem] Steady steadyUpon
attribute [local go_sem ↓] hs_dr lt_add_r lt_add_r2 lt_add_r3 lt_add_r4 lt_add_r5 lt_add_r6
attribute [local go_sem] cell?_gd frozen?_gd setCell_gd size_grow tape_grow cell?_grow' frozen?_grow' setCell_grow' grow_grow grow_dr grow_drew dr_dr dr_drew drew_dr dr_alloc dr_setCell dr_cell dr_frozen dr_tape dr_drawn
attribute [local irreducible] wpSteady
abbrev tdv (st sp : Int) (A : Option Addr) (n c : Nat) : Value := .agg #[.int .i64 st, .int .i64 sp, .slice A n c]
theorem tFew_v (st sp : Int) (A : Option Addr) (n c : Nat) (r : Bool) (w : World) (h : decide (n ≤ 12 ∧ sp ≤ 60) = r) : Calls Tryz.prog 5 #[tdv st sp A n c] w (Ret w (.bool r)) := by
 have hcase : (¬ n ≤ 12 ∧ r = false) ∨ (n ≤ 12 ∧ ¬ sp ≤ 60 ∧ r = false) ∨ (n ≤ 12 ∧ sp ≤ 60 ∧ r = true) := by
  by_cases h1 : n ≤ 12 <;> by_cases h2 : sp ≤ 60 <;> simp [h1, h2] at h ⊢ <;> (first | exact h | exact h.symm)
 clear h
 rcases hcase with ⟨h1, rfl⟩ | ⟨h1, h2, rfl⟩ | ⟨h1, h2, rfl⟩
 ·have g1 : ¬ (n : Int) ≤ 12 := by omega
  clear h1
  go_enter Tryz.func5, Tryz.ntmps5
  go_wp2_with fail
  go_ret
  exact Ret.mk' rfl gw
 ·have g1 : (n : Int) ≤ 12 := by omega
  clear h1
  go_enter Tryz.func5, Tryz.ntmps5
  go_wp2_with fail
  go_ret
  exact Ret.mk' (ret_bool (by first | (simp; done) | (simp [*]; done) | (simp; omega))) gw
 ·have g1 : (n : Int) ≤ 12 := by omega
  clear h1
  go_enter Tryz.func5, Tryz.ntmps5
  go_wp2_with fail
  go_ret
  exact Ret.mk' (ret_bool (by first | (simp; done) | (simp [*]; done) | (simp; omega))) gw
def timB (t : Int) : Bool := decide (0 ≤ t ∧ t ≤ 10000000)
theorem isTime_v (t : Int) (r : Bool) (w : World) (h : timB t = r) : Calls Tryz.prog 15 #[.int .i64 t] w (Ret w (.bool r)) := by
 subst h
 go_enter Tryz.func15, Tryz.ntmps15
 go_wp2
 all_goals go_ret
 all_goals refine Ret.mk' (ret_bool ?_) gw
 all_goals (rw [Bool.eq_iff_iff]; simp [timB]; try omega)
def heiB (lo hi : Int) : Bool := inB lo hi (-100000) 100000
theorem isHeight_v (lo hi : Int) (r : Bool) (w : World) (h : heiB lo hi = r) : Calls Tryz.prog 36 #[spv lo hi] w (Ret w (.bool r)) := by
 obtain ⟨s, hs⟩ : ∃ s, spOk lo hi = s := ⟨_, rfl⟩
 have ks := hide (fun W => spanValid_v lo hi s W hs)
 unfold heiB inB at h
 rw [hs] at h
 subst h
 clear hs
 have hcase : s = false ∨ (s = true ∧ lo < -100000) ∨ (s = true ∧ -100000 ≤ lo ∧ 100000 < hi) ∨ (s = true ∧ -100000 ≤ lo ∧ hi ≤ 100000) := by cases s <;> simp <;> omega
 rcases hcase with rfl | ⟨rfl, h1⟩ | ⟨rfl, h1, h2⟩ | ⟨rfl, h1, h2⟩
 ·go_enter Tryz.func36, Tryz.ntmps36
  go_wp2_with (go_at_call 38; with_reducible refine crv (ks.out _) fun _ _ => ?_; dsimp only)
  go_ret
  exact Ret.mk' rfl gw
 ·have n1 : ¬ -100000 ≤ lo := by omega
  go_enter Tryz.func36, Tryz.ntmps36
  go_wp2_with (go_at_call 38; with_reducible refine crv (ks.out _) fun _ _ => ?_; dsimp only)
  go_ret
  exact Ret.mk' (ret_bool (by first | (simp; done) | (simp [*]; done) | (simp; omega))) gw
 ·have n1 : ¬ hi ≤ 100000 := by omega
  go_enter Tryz.func36, Tryz.ntmps36
  go_wp2_with (go_at_call 38; with_reducible refine crv (ks.out _) fun _ _ => ?_; dsimp only)
  go_ret
  exact Ret.mk' (ret_bool (by first | (simp; done) | (simp [*]; done) | (simp; omega))) gw
 ·go_enter Tryz.func36, Tryz.ntmps36
  go_wp2_with (go_at_call 38; with_reducible refine crv (ks.out _) fun _ _ => ?_; dsimp only)
  go_ret
  exact Ret.mk' (ret_bool (by simp [h1, h2])) gw
def lastT (st sp : Int) (n : Nat) : Int := st + ((n : Int) - 1) * sp
theorem last_bd {st sp : Int} {n : Nat} (h1 : 0 ≤ st ∧ st ≤ 10000000) (h2 : 1 ≤ sp ∧ sp ≤ 1000) (h3 : 1 ≤ n ∧ n ≤ 200) : 0 ≤ ((n : Int) - 1) * sp ∧ ((n : Int) - 1) * sp ≤ 200000 := by
 have a := Int.mul_nonneg (show (0 : Int) ≤ (n : Int) - 1 by omega) (show (0 : Int) ≤ sp by omega)
 have b := Int.mul_le_mul (show (n : Int) - 1 ≤ 200 by omega) (show sp ≤ 1000 by omega) (by omega) (by omega)
 omega
theorem last_v (st sp : Int) (A : Option Addr) (n c : Nat) (w : World) (h1 : 0 ≤ st ∧ st ≤ 10000000) (h2 : 1 ≤ sp ∧ sp ≤ 1000) (h3 : 1 ≤ n ∧ n ≤ 200) :
  Calls Tryz.prog 16 #[tdv st sp A n c] w (Ret w (.int .i64 (lastT st sp n))) := by
 have hm := hmix
 have hb := last_bd h1 h2 h3
 have ew : IntKind.i64.wrap ((n : Int) - 1) = (n : Int) - 1 := by unfold IntKind.wrap; simp [IntKind.bits, IntKind.signed]; omega
 go_enter Tryz.func16, Tryz.ntmps16
 go_wp2
 go_ret
 exact Ret.mk' rfl gw
/-- A valid table. -/
def tdBase (st sp : Int) (n : Nat) : Bool := decide ((0 ≤ st ∧ st ≤ 10000000) ∧ (1 ≤ sp ∧ sp ≤ 1000) ∧ (1 ≤ n ∧ n ≤ 200) ∧ (0 ≤ lastT st sp n ∧ lastT st sp n ≤ 10000000))
def hOk (p : Pt) : Bool := heiB p.1 p.2
def tdOk (st sp : Int) (hs : List Pt) : Bool := tdBase st sp hs.length && hs.all hOk
theorem base_no (st sp : Int) (n : Nat) (h : tdBase st sp n = false) : timB st = false ∨ (timB st = true ∧ sp < 1) ∨ (timB st = true ∧ ¬ sp < 1 ∧ 1000 < sp) ∨ (timB st = true ∧ ¬ sp < 1 ∧ ¬ 1000 < sp ∧ n = 0) ∨ (timB st = true ∧ ¬ sp < 1 ∧ ¬ 1000 < sp ∧ n ≠ 0 ∧ 200 < n) ∨ (timB st = true ∧ ¬ sp < 1 ∧ ¬ 1000 < sp ∧ n ≠ 0 ∧ ¬ 200 < n ∧ timB (lastT st sp n) = false) := by
 unfold tdBase at h
 rw [decide_eq_false_iff_not] at h
 unfold timB
 simp only [decide_eq_true_eq, decide_eq_false_iff_not]
 omega
theorem base_yes (st sp : Int) (n : Nat) (h : tdBase st sp n = true) : timB st = true ∧ ¬ sp < 1 ∧ ¬ 1000 < sp ∧ n ≠ 0 ∧ ¬ 200 < n ∧ timB (lastT st sp n) = true ∧ (0 ≤ st ∧ st ≤ 10000000) ∧ (1 ≤ sp ∧ sp ≤ 1000) ∧ (1 ≤ n ∧ n ≤ 200) := by
 unfold tdBase at h
 rw [decide_eq_true_eq] at h
 unfold timB
 simp only [decide_eq_true_eq]
 omega
theorem tValid_v (st sp : Int) (hs : List Pt) (A : Option Addr) (c : Nat) (r : Bool) (w : World) (hr : Rd w w.heap.size 2 A (hs.map encD)) (hc : hs.length ≤ 100000000000000) (h : tdOk st sp hs = r) :
  Calls Tryz.prog 14 #[tdv st sp A hs.length c] w (Ret w (.bool r)) := by
 have hm := hmix
 have HR := hide hr
 clear hr
 obtain ⟨u, hu⟩ : ∃ u, timB st = u := ⟨_, rfl⟩
 have k1 := hide (fun W => isTime_v st u W hu)
 cases hb : tdBase st sp hs.length
 ·obtain rfl : r = false := by rw [← h]; unfold tdOk; rw [hb]; rfl
  clear h
  have hcase := base_no _ _ _ hb
  rw [hu] at hcase
  clear hb
  rcases hcase with rfl | ⟨rfl, h1⟩ | ⟨rfl, h1, h2⟩ | ⟨rfl, h1, h2, h3⟩ | ⟨rfl, h1, h2, h3, h4⟩ | ⟨rfl, h1, h2, h3, h4, h5⟩
  ·clear hu
   go_enter Tryz.func14, Tryz.ntmps14
   go_wp2_with (go_at_call 15; with_reducible refine crv (k1.out _) fun _ _ => ?_; dsimp only)
   go_ret
   exact Ret.mk' rfl gw
  ·clear hu
   go_enter Tryz.func14, Tryz.ntmps14
   go_wp2_with (go_at_call 15; with_reducible refine crv (k1.out _) fun _ _ => ?_; dsimp only)
   go_ret
   exact Ret.mk' rfl gw
  ·clear hu
   go_enter Tryz.func14, Tryz.ntmps14
   go_wp2_with (go_at_call 15; with_reducible refine crv (k1.out _) fun _ _ => ?_; dsimp only)
   go_ret
   exact Ret.mk' rfl gw
  ·clear hu
   have h3' : (hs.length : Int) = 0 := by omega
   go_enter Tryz.func14, Tryz.ntmps14
   go_wp2_with (go_at_call 15; with_reducible refine crv (k1.out _) fun _ _ => ?_; dsimp only)
   go_ret
   exact Ret.mk' rfl gw
  ·clear hu
   have h3' : ¬ (hs.length : Int) = 0 := by omega
   have h3b : ((hs.length : Int) == 0) = false := by simpa using h3'
   have h4' : (200 : Int) < (hs.length : Int) := by omega
   go_enter Tryz.func14, Tryz.ntmps14
   go_wp2_with (go_at_call 15; with_reducible refine crv (k1.out _) fun _ _ => ?_; dsimp only)
   go_ret
   exact Ret.mk' rfl gw
  ·have hst : 0 ≤ st ∧ st ≤ 10000000 := by unfold timB at hu; simpa using hu
   clear hu
   have h3' : ¬ (hs.length : Int) = 0 := by omega
   have h3b : ((hs.length : Int) == 0) = false := by simpa using h3'
   have h4' : ¬ (200 : Int) < (hs.length : Int) := by omega
   have k2 := hide (fun W => last_v st sp A hs.length c W hst (by omega) (by omega))
   have k3 := hide (fun W => isTime_v (lastT st sp hs.length) false W h5)
   clear h5
   go_enter Tryz.func14, Tryz.ntmps14
   go_wp2_with (first | (go_at_call 15; first | (with_reducible refine crv (k1.out _) fun _ _ => ?_) | (with_reducible refine crv (k3.out _) fun _ _ => ?_); dsimp only) | (go_at_call 16; with_reducible refine crv (k2.out _) fun _ _ => ?_; dsimp only))
   go_ret
   exact Ret.mk' rfl gw
 ·obtain ⟨h1, h2, h3, h4, h5, h6, h7, h8, h9⟩ := base_yes _ _ _ hb
  rw [hu] at h1
  subst h1
  have hall : hs.all hOk = r := by rw [← h]; unfold tdOk; rw [hb]; rfl
  have HALL := hide hall
  have h3' : ¬ (hs.length : Int) = 0 := by omega
  have h3b : ((hs.length : Int) == 0) = false := by simpa using h3'
  have h4' : ¬ (200 : Int) < (hs.length : Int) := by omega
  have k2 := hide (fun W => last_v st sp A hs.length c W h7 h8 h9)
  have k3 := hide (fun W => isTime_v (lastT st sp hs.length) true W h6)
  clear h6 h hb hu hall
  go_enter Tryz.func14, Tryz.ntmps14
  go_wp2_with (first | (go_at_call 15; first | (with_reducible refine crv (k1.out _) fun _ _ => ?_) | (with_reducible refine crv (k3.out _) fun _ _ => ?_); dsimp only) | (go_at_call 16; with_reducible refine crv (k2.out _) fun _ _ => ?_; dsimp only))
  refine wp_name ?_
  intro W0 hW
  have HG0 : Hid (Grew w W0) := hide (by rw [← hW]; exact gw)
  clear hW k1 k2 k3
  go_loopw [40] (fun i wr => ∃ m : Nat, m ≤ hs.length ∧ i = .int .i64 m ∧ Grew W0 wr ∧ AppG ((hs.take m).all hOk = true)) (fun i _ => hs.length - (intOf i).toNat)
  case atStart => exact ⟨0, by omega, rfl, gw, rfl⟩
  case round =>
   obtain ⟨m, hmm, rfl, hg, hall⟩ := hrel
   have HG := hide hg
   have HA := hide hall.stop
   clear hg hall
   by_cases hlt : m < hs.length
   ·obtain ⟨p, hp⟩ : ∃ p, hs[m]? = some p := ⟨_, List.getElem?_eq_getElem hlt⟩
    obtain ⟨b, off, hA, hb, x0, x1⟩ := ptAt (HR.out.up (HG0.out.trans HG.out)) hp
    have hix := idx_run (cap := c) Tryz.underlying28 Tryz.sizeOf25 hA.out hlt
    have hs2 := all_take_succ hOk hp
    rw [HA.out, Bool.true_and] at hs2
    obtain ⟨o, ho⟩ : ∃ o, hOk p = o := ⟨_, rfl⟩
    have kh := hide (fun W => isHeight_v p.1 p.2 o W ho)
    rw [ho] at hs2
    have HS := hide hs2
    have HP := hide hp
    have HO := hide ho
    obtain ⟨p1, p2⟩ := p
    dsimp only at x0 x1 kh
    clear hA hs2 hp ho
    cases o
    ·obtain rfl : r = false := by rw [← HALL.out]; exact List.all_eq_false.2 ⟨_, List.mem_of_getElem? HP.out, by rw [HO.out]; simp⟩
     go_wp2_with (go_at_call 36; with_reducible refine crv (kh.out _) fun _ _ => ?_; dsimp only)
     go_ret
     exact Ret.mk' rfl (HG0.out.trans (HG.out.trans gw))
    ·go_wp2_with (go_at_call 36; with_reducible refine crv (kh.out _) fun _ _ => ?_; dsimp only)
     go_roundw
     case rel => exact ⟨m + 1, by omega, by go_num, HG.out.trans gw, HS.out⟩
     case measure => simp [intOf]; omega
   ·obtain rfl : m = hs.length := by omega
    rw [List.take_length] at HA
    obtain rfl : r = true := by rw [← HALL.out]; exact HA.out
    go_wp2_with fail
    go_ret
    exact Ret.mk' rfl (HG0.out.trans (HG.out.trans gw))
theorem sends_v (a b : Int) (w : World) : Calls Tryz.prog 39 #[.int .i64 a, .int .i64 b] w (Ret w (.tuple #[.int .i64 (min a b), .int .i64 (max a b)])) := by
 have hm := hmix
 rcases Int.lt_or_le a b with h | h
 ·have e1 : min a b = a := by omega
  have e2 : max a b = b := by omega
  rw [e1, e2]
  go_enter Tryz.func39, Tryz.ntmps39
  go_wp2
  all_goals go_ret2
  all_goals first | exact Ret.mk' rfl gw | exact Ret.mk' (by simp; omega) gw
 ·have e1 : min a b = b := by omega
  have e2 : max a b = a := by omega
  rw [e1, e2]
  go_enter Tryz.func39, Tryz.ntmps39
  go_wp2
  all_goals go_ret2
  all_goals first | exact Ret.mk' rfl gw | exact Ret.mk' (by simp; omega) gw
theorem sJoin_v (a b c d : Int) (w : World) (h1 : spOk a b = true) (h2 : spOk c d = true) :
  Calls Tryz.prog 18 #[spv a b, spv c d] w (Ret w (.tuple #[spv (min a c) (max b d), .int .i64 0])) := by
 have hm := hmix
 have k1 := hide (fun W => spanValid_v a b true W h1)
 have k2 := hide (fun W => spanValid_v c d true W h2)
 have k3 := hide (fun W => sends_v a c W)
 have k4 := hide (fun W => sends_v b d W)
 clear h1 h2
 generalize min a c = p at *
 generalize max a c = p' at *
 generalize min b d = q' at *
 generalize max b d = q at *
 go_enter Tryz.func18, Tryz.ntmps18
 go_wp2_with (first | (go_at_call 38; with_reducible refine crv (k1.out _) fun _ _ => ?_; dsimp only) | (go_at_call 38; with_reducible refine crv (k2.out _) fun _ _ => ?_; dsimp only) | (go_at_call 39; with_reducible refine crv (k3.out _) fun _ _ => ?_; dsimp only) | (go_at_call 39; with_reducible refine crv (k4.out _) fun _ _ => ?_; dsimp only))
 refine bodyPost_ret (v := .tuple #[spv p q, .int .i64 0]) (by simp [results, Tryz.results18, go_sem]) rfl ?_
 exact Ret.mk' rfl gw
end Go.Proofs.YtpfpamopmncifaaGreat
