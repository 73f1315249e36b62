/- ContainsFunc; corners. -/
import Derived.Test.YtdmlnmcaihodaaaPoa
namespace Go.Proofs.Ytdmlnmcaihodaaa
set_option linter.unusedVariables false
set_option linter.unusedSimpArgs false
open Go.RowKit Go.Sort
attribute [local go_sem] Steady steadyUpon
attribute [local go_sem ↓] hs_dr lt_add_r lt_add_r2 lt_add_r3 lt_add_r4 lt_add_r5 lt_add_r6
attribute [local go_sem] cell?_gd frozen?_gd setCell_gd size_grow tape_grow cell?_grow' frozen?_grow' setCell_grow' grow_grow grow_dr grow_drew dr_dr dr_drew drew_dr dr_alloc dr_setCell dr_cell dr_frozen dr_tape dr_drawn
attribute [local irreducible] wpSteady

def IdxP (n : Nat) (r : Bool) (e : Ending) : Prop := (e = .returned (.int .i64 (-1)) ∧ r = true) ∨ (∃ k : Nat, k < n ∧ e = .returned (.int .i64 k) ∧ r = false)
set_option maxHeartbeats 800000 in
theorem vb_bad (p : Pt) (r : Bool) (w : World) (h : p.ok = !r) : Calls Try.prog 47 #[pt p.1 p.2] w (Ret w (.bool r)) := by
  have k1 := hide (fun W => planeValid_v p.1 p.2 (!r) W h)
  obtain ⟨p1, p2⟩ := p
  clear h
  cases r
  all_goals
    go_enter Try.func47, Try.ntmps47
    go_wp2_with (go_at_call 28; (with_reducible refine (k1.out _).mono ?_); rintro e w' ⟨rfl, ⟨_, _⟩, rfl⟩; dsimp only)
    go_ret
    exact Ret.mk' (by rfl) (by repeat (with_reducible first | exact Grew.refl _ | assumption | refine Grew.alloc ?_ _ | refine Grew.grow ?_ _ | refine Grew.dr ?_ _ | refine Grew.drewN ?_ _ | refine Grew.drew ?_ | refine Grew.trans ?_ (Hid.out (by assumption))))
set_option maxHeartbeats 1600000 in
theorem vb_idx (ps : List Pt) (A : Option Addr) (c : Nat) (r : Bool) (w : World) (hr : Rd w w.heap.size 2 A (ps.map encD)) (hc : ps.length ≤ 100000000000000) (h : ps.all Pt.ok = r) :
    Calls Try.prog 65 #[.slice A ps.length c, .func (.func 47) #[] #[]] w fun e w' => IdxP ps.length r e ∧ Grew w w' := by
  have hm := hmix
  have HR := hide h
  clear h
  go_enter Try.func65, Try.ntmps65
  go_wp2_with fail
  go_loopw [8] (fun i wr => ∃ k : Nat, k ≤ ps.length ∧ i = .int .i64 k ∧ Grew w wr ∧ AppG ((ps.take k).all Pt.ok = true)) (fun i _ => ps.length - (intOf i).toNat)
  case atStart => exact ⟨0, by omega, rfl, (by repeat (with_reducible first | exact Grew.refl _ | assumption | refine Grew.alloc ?_ _ | refine Grew.grow ?_ _ | refine Grew.dr ?_ _ | refine Grew.drewN ?_ _ | refine Grew.drew ?_ | refine Grew.trans ?_ (Hid.out (by assumption)))), rfl⟩
  case round =>
    obtain ⟨k, hk, rfl, hg, hall⟩ := hrel
    have HG := hide hg
    have HA := hide hall.stop
    clear hg hall
    by_cases hlt : k < ps.length
    · obtain ⟨p, hp⟩ : ∃ p, ps[k]? = some p := ⟨_, List.getElem?_eq_getElem hlt⟩
      obtain ⟨b, off, hA, hb, h0, h1⟩ := ptAt (hr.up HG.out) hp
      have hix := idx_run (cap := c) Try.underlying22 Try.sizeOf28 hA.out hlt
      have hs := all_take_succ Pt.ok hp
      rw [HA.out, Bool.true_and] at hs
      have HP := hide hp
      have HS := hide hs
      obtain ⟨o, ho⟩ : ∃ o, p.ok = !o := ⟨!p.ok, by simp⟩
      have k1 := hide (fun W => vb_bad p o W ho)
      have HO := hide ho
      clear hp hs ho
      obtain ⟨p1, p2⟩ := p
      dsimp only at h0 h1
      cases o
      · go_wp2_with (go_at_call 47; (with_reducible refine (k1.out _).mono ?_); rintro e w' ⟨rfl, ⟨_, _⟩, rfl⟩; dsimp only)
        go_roundw
        case rel => exact ⟨k + 1, by omega, by go_num, HG.out.trans (by repeat (with_reducible first | exact Grew.refl _ | assumption | refine Grew.alloc ?_ _ | refine Grew.grow ?_ _ | refine Grew.dr ?_ _ | refine Grew.drewN ?_ _ | refine Grew.drew ?_ | refine Grew.trans ?_ (Hid.out (by assumption)))), by rw [HS.out]; exact HO.out⟩
        case measure => simp [intOf]; omega
      · go_wp2_with (go_at_call 47; (with_reducible refine (k1.out _).mono ?_); rintro e w' ⟨rfl, ⟨_, _⟩, rfl⟩; dsimp only)
        go_ret
        have e : ps.all Pt.ok = false := all_false_at HP.out HO.out
        obtain rfl : r = false := by rw [← HR.out, e]
        exact ⟨.inr ⟨k, by omega, rfl, rfl⟩, HG.out.trans (by repeat (with_reducible first | exact Grew.refl _ | assumption | refine Grew.alloc ?_ _ | refine Grew.grow ?_ _ | refine Grew.dr ?_ _ | refine Grew.drewN ?_ _ | refine Grew.drew ?_ | refine Grew.trans ?_ (Hid.out (by assumption))))⟩
    · obtain rfl : k = ps.length := by omega
      rw [List.take_length] at HA
      obtain rfl : r = true := by rw [← HR.out, HA.out]
      go_wp2_with fail
      go_ret
      exact ⟨.inl ⟨rfl, rfl⟩, HG.out⟩
set_option maxHeartbeats 1600000 in
theorem vb_con (ps : List Pt) (A : Option Addr) (c : Nat) (r : Bool) (w : World) (hr : Rd w w.heap.size 2 A (ps.map encD)) (hc : ps.length ≤ 100000000000000) (h : ps.all Pt.ok = !r) :
    Calls Try.prog 38 #[.slice A ps.length c, .func (.func 47) #[] #[]] w (Ret w (.bool r)) := by
  have hm := hmix
  have k1 := hide (fun W (hg : Grew w W) => vb_idx ps A c (!r) W (hr.up hg) hc h)
  clear h
  go_enter Try.func38, Try.ntmps38
  go_wp2_with fail
  refine (k1.out _ (by repeat (with_reducible first | exact Grew.refl _ | assumption | refine Grew.alloc ?_ _ | refine Grew.grow ?_ _ | refine Grew.dr ?_ _ | refine Grew.drewN ?_ _ | refine Grew.drew ?_ | refine Grew.trans ?_ (Hid.out (by assumption))))).mono ?_
  rintro e w' ⟨h, ⟨⟨n1, os1⟩, rfl⟩⟩
  rcases h with ⟨rfl, hr2⟩ | ⟨k, hk, rfl, hr2⟩
  · obtain rfl : r = false := by simpa using hr2
    dsimp only
    go_wp2_with fail
    go_ret
    exact Ret.mk' rfl (by repeat (with_reducible first | exact Grew.refl _ | assumption | refine Grew.alloc ?_ _ | refine Grew.grow ?_ _ | refine Grew.dr ?_ _ | refine Grew.drewN ?_ _ | refine Grew.drew ?_ | refine Grew.trans ?_ (Hid.out (by assumption))))
  · obtain rfl : r = true := by simpa using hr2
    dsimp only
    have hk0 : 0 ≤ (k : Int) := by omega
    go_wp2_with fail
    go_ret
    exact Ret.mk' (by simp) (by repeat (with_reducible first | exact Grew.refl _ | assumption | refine Grew.alloc ?_ _ | refine Grew.grow ?_ _ | refine Grew.dr ?_ _ | refine Grew.drewN ?_ _ | refine Grew.drew ?_ | refine Grew.trans ?_ (Hid.out (by assumption))))
set_option maxHeartbeats 800000 in
theorem hb_bad (p : Pt) (r : Bool) (w : World) (h : p.ok = !r) : Calls Try.prog 37 #[pt p.1 p.2] w (Ret w (.bool r)) := by
  have k1 := hide (fun W => planeValid_v p.1 p.2 (!r) W h)
  obtain ⟨p1, p2⟩ := p
  clear h
  cases r
  all_goals
    go_enter Try.func37, Try.ntmps37
    go_wp2_with (go_at_call 28; (with_reducible refine (k1.out _).mono ?_); rintro e w' ⟨rfl, ⟨_, _⟩, rfl⟩; dsimp only)
    go_ret
    exact Ret.mk' (by rfl) (by repeat (with_reducible first | exact Grew.refl _ | assumption | refine Grew.alloc ?_ _ | refine Grew.grow ?_ _ | refine Grew.dr ?_ _ | refine Grew.drewN ?_ _ | refine Grew.drew ?_ | refine Grew.trans ?_ (Hid.out (by assumption))))
set_option maxHeartbeats 1600000 in
theorem hb_idx (ps : List Pt) (A : Option Addr) (c : Nat) (r : Bool) (w : World) (hr : Rd w w.heap.size 2 A (ps.map encD)) (hc : ps.length ≤ 100000000000000) (h : ps.all Pt.ok = r) :
    Calls Try.prog 65 #[.slice A ps.length c, .func (.func 37) #[] #[]] w fun e w' => IdxP ps.length r e ∧ Grew w w' := by
  have hm := hmix
  have HR := hide h
  clear h
  go_enter Try.func65, Try.ntmps65
  go_wp2_with fail
  go_loopw [8] (fun i wr => ∃ k : Nat, k ≤ ps.length ∧ i = .int .i64 k ∧ Grew w wr ∧ AppG ((ps.take k).all Pt.ok = true)) (fun i _ => ps.length - (intOf i).toNat)
  case atStart => exact ⟨0, by omega, rfl, (by repeat (with_reducible first | exact Grew.refl _ | assumption | refine Grew.alloc ?_ _ | refine Grew.grow ?_ _ | refine Grew.dr ?_ _ | refine Grew.drewN ?_ _ | refine Grew.drew ?_ | refine Grew.trans ?_ (Hid.out (by assumption)))), rfl⟩
  case round =>
    obtain ⟨k, hk, rfl, hg, hall⟩ := hrel
    have HG := hide hg
    have HA := hide hall.stop
    clear hg hall
    by_cases hlt : k < ps.length
    · obtain ⟨p, hp⟩ : ∃ p, ps[k]? = some p := ⟨_, List.getElem?_eq_getElem hlt⟩
      obtain ⟨b, off, hA, hb, h0, h1⟩ := ptAt (hr.up HG.out) hp
      have hix := idx_run (cap := c) Try.underlying22 Try.sizeOf28 hA.out hlt
      have hs := all_take_succ Pt.ok hp
      rw [HA.out, Bool.true_and] at hs
      have HP := hide hp
      have HS := hide hs
      obtain ⟨o, ho⟩ : ∃ o, p.ok = !o := ⟨!p.ok, by simp⟩
      have k1 := hide (fun W => hb_bad p o W ho)
      have HO := hide ho
      clear hp hs ho
      obtain ⟨p1, p2⟩ := p
      dsimp only at h0 h1
      cases o
      · go_wp2_with (go_at_call 37; (with_reducible refine (k1.out _).mono ?_); rintro e w' ⟨rfl, ⟨_, _⟩, rfl⟩; dsimp only)
        go_roundw
        case rel => exact ⟨k + 1, by omega, by go_num, HG.out.trans (by repeat (with_reducible first | exact Grew.refl _ | assumption | refine Grew.alloc ?_ _ | refine Grew.grow ?_ _ | refine Grew.dr ?_ _ | refine Grew.drewN ?_ _ | refine Grew.drew ?_ | refine Grew.trans ?_ (Hid.out (by assumption)))), by rw [HS.out]; exact HO.out⟩
        case measure => simp [intOf]; omega
      · go_wp2_with (go_at_call 37; (with_reducible refine (k1.out _).mono ?_); rintro e w' ⟨rfl, ⟨_, _⟩, rfl⟩; dsimp only)
        go_ret
        have e : ps.all Pt.ok = false := all_false_at HP.out HO.out
        obtain rfl : r = false := by rw [← HR.out, e]
        exact ⟨.inr ⟨k, by omega, rfl, rfl⟩, HG.out.trans (by repeat (with_reducible first | exact Grew.refl _ | assumption | refine Grew.alloc ?_ _ | refine Grew.grow ?_ _ | refine Grew.dr ?_ _ | refine Grew.drewN ?_ _ | refine Grew.drew ?_ | refine Grew.trans ?_ (Hid.out (by assumption))))⟩
    · obtain rfl : k = ps.length := by omega
      rw [List.take_length] at HA
      obtain rfl : r = true := by rw [← HR.out, HA.out]
      go_wp2_with fail
      go_ret
      exact ⟨.inl ⟨rfl, rfl⟩, HG.out⟩
set_option maxHeartbeats 1600000 in
theorem hb_con (ps : List Pt) (A : Option Addr) (c : Nat) (r : Bool) (w : World) (hr : Rd w w.heap.size 2 A (ps.map encD)) (hc : ps.length ≤ 100000000000000) (h : ps.all Pt.ok = !r) :
    Calls Try.prog 38 #[.slice A ps.length c, .func (.func 37) #[] #[]] w (Ret w (.bool r)) := by
  have hm := hmix
  have k1 := hide (fun W (hg : Grew w W) => hb_idx ps A c (!r) W (hr.up hg) hc h)
  clear h
  go_enter Try.func38, Try.ntmps38
  go_wp2_with fail
  refine (k1.out _ (by repeat (with_reducible first | exact Grew.refl _ | assumption | refine Grew.alloc ?_ _ | refine Grew.grow ?_ _ | refine Grew.dr ?_ _ | refine Grew.drewN ?_ _ | refine Grew.drew ?_ | refine Grew.trans ?_ (Hid.out (by assumption))))).mono ?_
  rintro e w' ⟨h, ⟨⟨n1, os1⟩, rfl⟩⟩
  rcases h with ⟨rfl, hr2⟩ | ⟨k, hk, rfl, hr2⟩
  · obtain rfl : r = false := by simpa using hr2
    dsimp only
    go_wp2_with fail
    go_ret
    exact Ret.mk' rfl (by repeat (with_reducible first | exact Grew.refl _ | assumption | refine Grew.alloc ?_ _ | refine Grew.grow ?_ _ | refine Grew.dr ?_ _ | refine Grew.drewN ?_ _ | refine Grew.drew ?_ | refine Grew.trans ?_ (Hid.out (by assumption))))
  · obtain rfl : r = true := by simpa using hr2
    dsimp only
    have hk0 : 0 ≤ (k : Int) := by omega
    go_wp2_with fail
    go_ret
    exact Ret.mk' (by simp) (by repeat (with_reducible first | exact Grew.refl _ | assumption | refine Grew.alloc ?_ _ | refine Grew.grow ?_ _ | refine Grew.dr ?_ _ | refine Grew.drewN ?_ _ | refine Grew.drew ?_ | refine Grew.trans ?_ (Hid.out (by assumption))))
end Go.Proofs.Ytdmlnmcaihodaaa
