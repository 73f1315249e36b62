/- Package symbol: books, the mark of a symbol. -/
import Derived.Test.YtpfpamopmncifaaGreatTsN
set_option linter.unusedSimpArgs false
set_option linter.unusedVariables false
set_option maxHeartbeats 4000000
set_option maxRecDepth 100000
namespace Go.Proofs.YtpfpamopmncifaaGreat
open Go.RowKit Go.Sort
attribute [local go_sem] Steady steadyUpon
attribute [local go_sem ↓] hs_dr lt_add_r lt_add_r2 lt_add_r3 lt_add_r4 lt_add_r5 lt_add_r6
attribute [local go_sem] cell?_gd frozen?_gd setCell_gd size_grow tape_grow cell?_grow' frozen?_grow' setCell_grow' grow_grow grow_dr grow_drew dr_dr dr_drew drew_dr dr_alloc dr_setCell dr_cell dr_frozen dr_tape dr_drawn
attribute [local irreducible] wpSteady
abbrev Mk := Int × Int × Int
abbrev mkv (m : Mk) : Value := .agg #[.int .i64 m.1, .int .i64 m.2.1, .int .i64 m.2.2]
def encM (m : Mk) : List Value := [.int .i64 m.1, .int .i64 m.2.1, .int .i64 m.2.2]
abbrev bkv (o : Int) (A : Option Addr) (n c : Nat) : Value := .agg #[.int .i64 o, .slice A n c]
theorem mkAt {w : World} {B : Nat} {A : Option Addr} {ms : List Mk} {k : Nat} {m : Mk} (h : Rd w B 3 A (ms.map encM)) (hk : ms[k]? = some m) :
  ∃ b off, Hid (A = some ⟨b, off, none⟩) ∧ b < B ∧ w.cell? ⟨b, off + k * 3, none⟩ = some (.int .i64 m.1) ∧ w.cell? ⟨b, off + k * 3 + 1, none⟩ = some (.int .i64 m.2.1) ∧ w.cell? ⟨b, off + k * 3 + 2, none⟩ = some (.int .i64 m.2.2) := by
 obtain ⟨b, off, hA, hb, hc⟩ := h.at_ (k := k) (x := encM m) (by simp [hk])
 exact ⟨b, off, hA, hb, hc 0 _ rfl, hc 1 _ rfl, hc 2 _ rfl⟩
def numB (s : Int) : Bool := decide (0 ≤ s ∧ s ≤ 999)
def mkOk (m : Mk) : Bool := numB m.1 && decide ((1 ≤ m.2.1 ∧ m.2.1 ≤ 6) ∧ (0 ≤ m.2.2 ∧ m.2.2 ≤ 9))
def chk : Int → List Mk → Bool
 | _, [] => true
 | l, m :: ms => mkOk m && (decide (l < m.1) && chk m.1 ms)
def bkOk (o : Int) (ms : List Mk) : Bool := decide ((1 ≤ o ∧ o ≤ 20) ∧ ms.length ≤ 100) && chk (-1) ms
theorem number_v (s : Int) (r : Bool) (w : World) (h : numB s = r) : Calls Tryz.prog 66 #[.int .i64 s] w (Ret w (.bool r)) := by
 have hm := hmix
 subst h
 unfold numB
 have hcase : ¬ 0 ≤ s ∨ (0 ≤ s ∧ ¬ s ≤ 999) ∨ (0 ≤ s ∧ s ≤ 999) := by omega
 rcases hcase with h1 | ⟨h1, h2⟩ | ⟨h1, h2⟩
 all_goals
  go_enter Tryz.func66, Tryz.ntmps66
  go_wp2_with fail
  go_ret
  exact Ret.mk' (ret_bool (by simp [*] <;> omega)) gw
theorem mvalid_v (m : Mk) (r : Bool) (w : World) (h : mkOk m = r) : Calls Tryz.prog 64 #[mkv m] w (Ret w (.bool r)) := by
 have hm := hmix
 unfold mkOk at h
 obtain ⟨a, ha⟩ : ∃ a, numB m.1 = a := ⟨_, rfl⟩
 have k1 := hide (fun W => number_v m.1 a W ha)
 rw [ha] at h
 subst h
 obtain ⟨s, k, c⟩ := m
 dsimp only at *
 clear ha
 have hcase : a = false ∨ (a = true ∧ ¬ 1 ≤ k) ∨ (a = true ∧ 1 ≤ k ∧ ¬ k ≤ 6) ∨ (a = true ∧ 1 ≤ k ∧ k ≤ 6 ∧ ¬ 0 ≤ c) ∨ (a = true ∧ 1 ≤ k ∧ k ≤ 6 ∧ 0 ≤ c ∧ ¬ c ≤ 9) ∨ (a = true ∧ 1 ≤ k ∧ k ≤ 6 ∧ 0 ≤ c ∧ c ≤ 9) := by cases a <;> simp <;> omega
 rcases hcase with rfl | ⟨rfl, h1⟩ | ⟨rfl, h1, h2⟩ | ⟨rfl, h1, h2, h3⟩ | ⟨rfl, h1, h2, h3, h4⟩ | ⟨rfl, h1, h2, h3, h4⟩
 all_goals
  go_enter Tryz.func64, Tryz.ntmps64
  go_wp2_with (go_at_call 66; with_reducible refine crv (k1.out _) fun _ _ => ?_; dsimp only)
  go_ret
  exact Ret.mk' (ret_bool (by simp [*] <;> omega)) gw
theorem bkValid_v (o : Int) (ms : List Mk) (A : Option Addr) (c : Nat) (r : Bool) (w : World) (hr : Rd w w.heap.size 3 A (ms.map encM)) (hc : ms.length ≤ 100000000000000) (h : bkOk o ms = r) :
  Calls Tryz.prog 46 #[bkv o A ms.length c] w (Ret w (.bool r)) := by
 have hm := hmix
 have HR := hide hr
 clear hr
 unfold bkOk at h
 by_cases hb : (1 ≤ o ∧ o ≤ 20) ∧ ms.length ≤ 100
 ·rw [decide_eq_true hb, Bool.true_and] at h
  obtain ⟨⟨b1, b2⟩, b3⟩ := hb
  have n1 : ¬ o < 1 := by omega
  have n2 : ¬ 20 < o := by omega
  have n3 : ¬ 100 < (ms.length : Int) := by omega
  have HC := hide h
  clear h
  go_enter Tryz.func46, Tryz.ntmps46
  go_wp2_with fail
  refine wp_name ?_
  intro W0 hW
  have HG0 : Hid (Grew w W0) := hide (by rw [← hW]; exact gw)
  clear hW
  go_loopw [3, 23] (fun l i wr => ∃ (k : Nat) (q : Int), k ≤ ms.length ∧ l = .int .i64 q ∧ i = .int .i64 k ∧ Grew W0 wr ∧ AppG (chk (-1) ms = chk q (ms.drop k))) (fun _ i _ => ms.length - (intOf i).toNat)
  case atStart => exact ⟨0, -1, by omega, rfl, rfl, Grew.refl _, rfl⟩
  case round =>
   obtain ⟨k, q, hk, rfl, rfl, hg, hall⟩ := hrel
   have HG := hide hg
   have HA := hide hall.stop
   clear hg hall
   by_cases hlt : k < ms.length
   ·obtain ⟨m, hp⟩ : ∃ m, ms[k]? = some m := ⟨_, List.getElem?_eq_getElem hlt⟩
    obtain ⟨b, off, hA, hbb, x0, x1, x2⟩ := mkAt (HR.out.up (HG0.out.trans HG.out)) hp
    have hix := idx_run (cap := c) Tryz.underlying33 Tryz.sizeOf57 hA.out hlt
    have hst : chk q (ms.drop k) = (mkOk m && (decide (q < m.1) && chk m.1 (ms.drop (k + 1)))) := by
     rw [List.drop_eq_getElem_cons hlt]
     have : ms[k] = m := by
      have := List.getElem?_eq_getElem hlt
      rw [hp] at this
      injection this with this
      exact this.symm
     rw [this]
     rfl
    obtain ⟨v, hv⟩ : ∃ v, mkOk m = v := ⟨_, rfl⟩
    have kv := hide (fun W => mvalid_v m v W hv)
    rw [hv] at hst
    have HST := hide hst
    clear hA hst hp hv
    obtain ⟨m1, m2, m3⟩ := m
    dsimp only at x0 x1 x2 kv HST
    have hcase : v = false ∨ (v = true ∧ m1 ≤ q) ∨ (v = true ∧ ¬ m1 ≤ q) := by cases v <;> simp <;> omega
    rcases hcase with rfl | ⟨rfl, h1⟩ | ⟨rfl, h1⟩
    ·obtain rfl : r = false := by rw [← HC.out, HA.out, HST.out]; rfl
     go_wp2_with (go_at_call 64; with_reducible refine crv (kv.out _) fun _ _ => ?_; dsimp only)
     go_ret
     exact Ret.mk' rfl (HG0.out.trans (HG.out.trans gw))
    ·obtain rfl : r = false := by rw [← HC.out, HA.out, HST.out, decide_eq_false (by omega)]; rfl
     go_wp2_with (go_at_call 64; with_reducible refine crv (kv.out _) fun _ _ => ?_; dsimp only)
     go_ret
     exact Ret.mk' rfl (HG0.out.trans (HG.out.trans gw))
    ·go_wp2_with (go_at_call 64; with_reducible refine crv (kv.out _) fun _ _ => ?_; dsimp only)
     go_roundw
     case rel => exact ⟨k + 1, m1, by omega, rfl, by go_num, HG.out.trans gw, by rw [HA.out, HST.out, decide_eq_true (by omega)]; rfl⟩
     case measure => simp [intOf]; omega
   ·obtain rfl : k = ms.length := by omega
    obtain rfl : r = true := by rw [← HC.out, HA.out, List.drop_length]; rfl
    go_wp2_with fail
    go_ret
    exact Ret.mk' rfl (HG0.out.trans (HG.out.trans gw))
 ·rw [decide_eq_false hb, Bool.false_and] at h
  subst h
  have hcase : o < 1 ∨ (¬ o < 1 ∧ 20 < o) ∨ (¬ o < 1 ∧ ¬ 20 < o ∧ 100 < (ms.length : Int)) := by omega
  clear hb
  rcases hcase with h1 | ⟨h1, h2⟩ | ⟨h1, h2, h3⟩
  all_goals
   go_enter Tryz.func46, Tryz.ntmps46
   go_wp2_with fail
   go_ret
   exact Ret.mk' rfl gw
end Go.Proofs.YtpfpamopmncifaaGreat
