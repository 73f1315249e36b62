/- Package symbol: the mark of a symbol. -/
import Derived.Test.YtpfpamopmncifaaGreatTsR
set_option linter.unusedSimpArgs false
set_option linter.unusedVariables false
set_option maxHeartbeats 4000000
set_option maxRecDepth 100000
namespace Go.Proofs.YtpfpamopmncifaaGreat
open Go.RowKit Go.Sort
attribute [local go_sem] Steady steadyUpon
attribute [local go_sem ↓] hs_dr lt_add_r lt_add_r2 lt_add_r3 lt_add_r4 lt_add_r5 lt_add_r6
attribute [local go_sem] cell?_gd frozen?_gd setCell_gd size_grow tape_grow cell?_grow' frozen?_grow' setCell_grow' grow_grow grow_dr grow_drew dr_dr dr_drew drew_dr dr_alloc dr_setCell dr_cell dr_frozen dr_tape dr_drawn
attribute [local irreducible] wpSteady
def kOf (ms : List Mk) (i : Nat) : Int := (ms.getD i (0, 0, 0)).1
theorem kOf_at {ms : List Mk} {i : Nat} {m : Mk} (h : ms[i]? = some m) : kOf ms i = m.1 := by unfold kOf; simp [h]
theorem kOf_cons (m : Mk) (ms : List Mk) (i : Nat) : kOf (m :: ms) (i + 1) = kOf ms i := by unfold kOf; simp
theorem chk_lo : ∀ (ms : List Mk) (l : Int), chk l ms = true → ∀ i, i < ms.length → l < kOf ms i
 | [], _, _, i, hi => by simp at hi
 | m :: ms, l, h, i, hi => by
  unfold chk at h
  simp only [Bool.and_eq_true, decide_eq_true_eq] at h
  cases i with
  | zero => exact h.2.1
  | succ i =>
   rw [kOf_cons]
   have := chk_lo ms m.1 h.2.2 i (by simpa using hi)
   omega
theorem chk_mono : ∀ (ms : List Mk) (l : Int), chk l ms = true → ∀ i j, i < j → j < ms.length → kOf ms i < kOf ms j
 | [], _, _, i, j, _, hj => by simp at hj
 | m :: ms, l, h, i, j, hij, hj => by
  unfold chk at h
  simp only [Bool.and_eq_true, decide_eq_true_eq] at h
  cases j with
  | zero => omega
  | succ j =>
   rw [kOf_cons]
   cases i with
   | zero => exact chk_lo ms m.1 h.2.2 j (by simpa using hj)
   | succ i => rw [kOf_cons]; exact chk_mono ms m.1 h.2.2 i j (by omega) (by simpa using hj)
theorem chk_ok : ∀ (ms : List Mk) (l : Int), chk l ms = true → ∀ m ∈ ms, mkOk m = true
 | [], _, _, m, hm => by simp at hm
 | m :: ms, l, h, x, hx => by
  unfold chk at h
  simp only [Bool.and_eq_true, decide_eq_true_eq] at h
  rcases List.mem_cons.1 hx with rfl | hx
  ·exact h.1
  ·exact chk_ok ms m.1 h.2.2 x hx
theorem f1_v (m : Mk) (s : Int) (w : World) : Calls Tryz.prog 78 #[mkv m, .int .i64 s] w (Ret w (.int .i64 (sg (m.1 - s)))) := by
 have hm := hmix
 have k1 := hide (fun W => Compare_any m.1 s W)
 obtain ⟨m1, m2, m3⟩ := m
 dsimp only at *
 generalize sg (m1 - s) = x at *
 go_enter Tryz.func78, Tryz.ntmps78
 go_wp2_with (go_at_call 71; with_reducible refine crv (k1.out _) fun _ _ => ?_; dsimp only)
 go_ret
 exact Ret.mk' rfl gw
def BsP (ms : List Mk) (s : Int) (w : World) (e : Ending) (w' : World) : Prop := ∃ (i : Nat) (o : Bool), e = .returned (.tuple #[.int .i64 i, .bool o]) ∧ (o = true → ∃ m, ms[i]? = some m ∧ m.1 = s) ∧ (o = false → ∀ m ∈ ms, m.1 ≠ s) ∧ Grew w w'
theorem bsf_v (ms : List Mk) (s : Int) (A : Option Addr) (c : Nat) (w : World) (hr : Rd w w.heap.size 3 A (ms.map encM)) (hc : ms.length ≤ 100) (hs : chk (-1) ms = true) :
  Calls Tryz.prog 77 #[.slice A ms.length c, .int .i64 s, .func (.func 78) #[] #[]] w (BsP ms s w) := by
 have hm := hmix
 have HR := hide hr
 have HM := hide (chk_mono ms _ hs)
 clear hr hs
 go_enter Tryz.func77, Tryz.ntmps77
 go_wp2_with fail
 go_loopw [9, 10] (fun i j wr => ∃ a b : Nat, i = .int .i64 a ∧ j = .int .i64 b ∧ a ≤ b ∧ b ≤ ms.length ∧ Grew w wr ∧ AppG ((∀ k, k < a → kOf ms k < s) ∧ (∀ k, b ≤ k → k < ms.length → s ≤ kOf ms k))) (fun i j _ => (intOf j - intOf i).toNat)
 case atStart => exact ⟨0, ms.length, rfl, rfl, by omega, by omega, gw, show _ ∧ _ from ⟨fun k h => by omega, fun k h1 h2 => by omega⟩⟩
 case round =>
  obtain ⟨a, b, rfl, rfl, hab, hbN, hg, hinv⟩ := hrel
  have HG := hide hg
  have HI := hide hinv.stop
  clear hg hinv
  by_cases hlt : a < b
  ·obtain ⟨k, hk⟩ : ∃ k : Nat, ((a : Int) + (b : Int)) / 2 = (k : Int) := ⟨(a + b) / 2, by omega⟩
   have hk1 : a ≤ k ∧ k < b := by omega
   have hkl : k < ms.length := by omega
   obtain ⟨m, hp⟩ : ∃ m, ms[k]? = some m := ⟨_, List.getElem?_eq_getElem hkl⟩
   obtain ⟨bb, off, hA, hbb, x0, x1, x2⟩ := mkAt (HR.out.up HG.out) hp
   have hix := idx_run (cap := c) Tryz.underlying33 Tryz.sizeOf57 hA.out hkl
   have hkm := kOf_at hp
   have kf := hide (fun W => f1_v m s W)
   have hsg := sg_cases (m.1 - s)
   obtain ⟨g, hgg⟩ : ∃ g, sg (m.1 - s) = g := ⟨_, rfl⟩
   rw [hgg] at kf hsg
   obtain ⟨m1, m2, m3⟩ := m
   dsimp only at x0 x1 x2 kf hkm hsg
   have HK := hide hkm
   have HS := hide hsg
   have lbb : bb < wr.heap.size := by have := HG.out.below.size; omega
   clear hA hp hkm hgg hsg
   by_cases hg0 : g < 0
   ·go_wp2_with (go_at_call 78; with_reducible refine crv (kf.out _) fun _ _ => ?_; dsimp only)
    go_roundw
    case rel => exact ⟨k + 1, b, by go_num, rfl, by omega, hbN, HG.out.trans gw, show _ ∧ _ from ⟨fun x hx => by
     have h9 := HS.out
     have h8 := HK.out
     rcases Nat.lt_or_ge x k with h | h
     ·have := HM.out x k h hkl; omega
     ·obtain rfl : x = k := by omega
      omega, HI.out.2⟩⟩
    case measure => simp [intOf]; omega
   ·go_wp2_with (go_at_call 78; with_reducible refine crv (kf.out _) fun _ _ => ?_; dsimp only)
    go_roundw
    case rel => exact ⟨a, k, rfl, by go_num, by omega, by omega, HG.out.trans gw, show _ ∧ _ from ⟨HI.out.1, fun x hx hxl => by
     have h9 := HS.out
     have h8 := HK.out
     rcases Nat.lt_or_ge k x with h | h
     ·have := HM.out k x h hxl; omega
     ·obtain rfl : x = k := by omega
      omega⟩⟩
    case measure => simp [intOf]; omega
  ·obtain rfl : a = b := by omega
   have hno : (∀ k, k < ms.length → kOf ms k ≠ s) → ∀ m ∈ ms, m.1 ≠ s := fun h m hm => by
    obtain ⟨k, hk⟩ := List.getElem?_of_mem hm
    have := h k (List.getElem?_eq_some_iff.1 hk).1
    rw [kOf_at hk] at this
    exact this
   by_cases hn : a < ms.length
   ·obtain ⟨m, hp⟩ : ∃ m, ms[a]? = some m := ⟨_, List.getElem?_eq_getElem hn⟩
    obtain ⟨bb, off, hA, hbb, x0, x1, x2⟩ := mkAt (HR.out.up HG.out) hp
    have hix := idx_run (cap := c) Tryz.underlying33 Tryz.sizeOf57 hA.out hn
    have hkm := kOf_at hp
    have kf := hide (fun W => f1_v m s W)
    have hsg := sg_cases (m.1 - s)
    obtain ⟨g, hgg⟩ : ∃ g, sg (m.1 - s) = g := ⟨_, rfl⟩
    rw [hgg] at kf hsg
    have HP := hide hp
    obtain ⟨m1, m2, m3⟩ := m
    dsimp only at x0 x1 x2 kf hkm hsg
    have HK := hide hkm
    have HS := hide hsg
    have HNO := hide hno
    have lbb : bb < wr.heap.size := by have := HG.out.below.size; omega
    clear hA hp hkm hgg hsg hno
    by_cases hg0 : g = 0
    ·subst hg0
     go_wp2_with (go_at_call 78; with_reducible refine crv (kf.out _) fun _ _ => ?_; dsimp only)
     go_ret2
     refine ⟨a, true, rfl, fun _ => ⟨_, HP.out, ?_⟩, (fun h => by cases h), HG.out.trans gw⟩
     have := HS.out
     dsimp only
     omega
    ·have hg1 : (g == 0) = false := by simpa using hg0
     go_wp2_with (go_at_call 78; with_reducible refine crv (kf.out _) fun _ _ => ?_; dsimp only)
     go_ret2
     refine ⟨a, false, by simp [*], (fun h => by cases h), fun _ => HNO.out fun k hk => ?_, HG.out.trans gw⟩
     have h9 := HS.out
     have h8 := HK.out
     rcases Nat.lt_trichotomy k a with h | rfl | h
     ·have := HI.out.1 k h; omega
     ·omega
     ·have := HM.out a k h hk
      have := HI.out.2 a (Nat.le_refl _) hn
      omega
   ·obtain rfl : a = ms.length := by omega
    have HNO := hide hno
    clear hno
    go_wp2_with fail
    go_ret2
    refine ⟨ms.length, false, by simp, (fun h => by cases h), fun _ => HNO.out fun k hk => ?_, HG.out.trans gw⟩
    have := HI.out.1 k hk
    omega
def findOf (ms : List Mk) (s : Int) : Option Mk := ms.find? (fun m => m.1 == s)
theorem find_none {ms : List Mk} {s : Int} (h : ∀ m ∈ ms, m.1 ≠ s) : findOf ms s = none := by
 unfold findOf
 rw [List.find?_eq_none]
 intro m hm
 have := h m hm
 simpa using this
theorem find_some {ms : List Mk} {s : Int} {i : Nat} {m : Mk} (hs : chk (-1) ms = true) (h : ms[i]? = some m) (hm : m.1 = s) : findOf ms s = some m := by
 cases hf : findOf ms s with
 | none =>
  unfold findOf at hf
  rw [List.find?_eq_none] at hf
  have := hf m (List.mem_of_getElem? h)
  exact absurd hm (by simpa using this)
 | some x =>
  unfold findOf at hf
  have hx := List.find?_some hf
  have hxm := List.mem_of_find?_eq_some hf
  obtain ⟨j, hj⟩ := List.getElem?_of_mem hxm
  have e1 := kOf_at h
  have e2 := kOf_at hj
  have hx1 : x.1 = s := by simpa using hx
  have hil := (List.getElem?_eq_some_iff.1 h).1
  have hjl := (List.getElem?_eq_some_iff.1 hj).1
  rcases Nat.lt_trichotomy i j with g | rfl | g
  ·have := chk_mono ms _ hs i j g hjl; omega
  ·rw [h] at hj; injection hj with hj; rw [hj]
  ·have := chk_mono ms _ hs j i g hil; omega
theorem find_v (o : Int) (ms : List Mk) (s : Int) (A : Option Addr) (c : Nat) (r : Option Mk) (w : World) (hr : Rd w w.heap.size 3 A (ms.map encM)) (hc : ms.length ≤ 100) (hs : chk (-1) ms = true) (h : findOf ms s = r) :
  Calls Tryz.prog 67 #[bkv o A ms.length c, .int .i64 s] w (Ret w (.tuple #[mkv (r.getD (0, 0, 0)), .bool r.isSome])) := by
 have hm := hmix
 have HR := hide hr
 have kb := hide (fun W (hg : Grew w W) => bsf_v ms s A c W (hr.up hg) hc hs)
 have HS := hide hs
 have HH := hide h
 clear hr hs h
 go_enter Tryz.func67, Tryz.ntmps67
 go_wp2_with fail
 refine (kb.out _ gw).mono ?_
 rintro e w' ⟨i, ok, rfl, ht, hf, hg⟩
 obtain ⟨⟨n1, os1⟩, rfl⟩ := hg
 cases ok
 ·obtain rfl : r = none := by rw [← HH.out]; exact find_none (hf rfl)
  clear ht hf
  dsimp only
  go_wp2_with fail
  refine bodyPost_ret (v := .tuple #[mkv (0, 0, 0), .bool false]) (by simp [results, Tryz.results67, go_sem]) rfl ?_
  exact Ret.mk' rfl gw
 ·obtain ⟨m, hp, hms⟩ := ht rfl
  obtain rfl : r = some m := by rw [← HH.out]; exact find_some HS.out hp hms
  have hil := (List.getElem?_eq_some_iff.1 hp).1
  obtain ⟨b, off, hA, hb, x0, x1, x2⟩ := mkAt HR.out hp
  have hix := idx_run (cap := c) Tryz.underlying33 Tryz.sizeOf57 hA.out hil
  obtain ⟨m1, m2, m3⟩ := m
  dsimp only at x0 x1 x2
  have HP := hide hp
  clear ht hf hms hA hp
  dsimp only
  go_wp2_with fail
  refine bodyPost_ret (v := .tuple #[mkv (m1, m2, m3), .bool true]) (by simp [results, Tryz.results67, go_sem]) rfl ?_
  exact Ret.mk' rfl gw
def findR (o : Int) (ms : List Mk) (s : Int) : Mk × Int := if (bkOk o ms && numB s) = true then (match findOf ms s with | some m => (m, 0) | none => ((0, 0, 0), 11)) else ((0, 0, 0), 1)
theorem bk_split {o : Int} {ms : List Mk} (h : bkOk o ms = true) : ms.length ≤ 100 ∧ chk (-1) ms = true := by
 unfold bkOk at h
 rw [Bool.and_eq_true, decide_eq_true_eq] at h
 exact ⟨h.1.2, h.2⟩
theorem Find_v (o : Int) (ms : List Mk) (s : Int) (A : Option Addr) (c : Nat) (r : Mk × Int) (w : World) (hr : Rd w w.heap.size 3 A (ms.map encM)) (hc : ms.length ≤ 100000000000000) (h : findR o ms s = r) :
  Calls Tryz.prog 48 #[bkv o A ms.length c, .int .i64 s] w (Ret w (.tuple #[mkv r.1, .int .i64 r.2])) := by
 have hm := hmix
 obtain ⟨a, ha⟩ : ∃ a, bkOk o ms = a := ⟨_, rfl⟩
 obtain ⟨b, hb⟩ : ∃ a, numB s = a := ⟨_, rfl⟩
 have k1 := hide (fun W (hg : Grew w W) => bkValid_v o ms A c a W (hr.up hg) hc ha)
 have k2 := hide (fun W => number_v s b W hb)
 unfold findR at h
 rw [ha, hb] at h
 have HA := hide ha
 have HR := hide hr
 clear ha hb hr
 have hcase : a = false ∨ (a = true ∧ b = false) ∨ (a = true ∧ b = true) := by cases a <;> cases b <;> simp
 rcases hcase with rfl | ⟨rfl, rfl⟩ | ⟨rfl, rfl⟩
 ·simp at h
  subst h
  go_enter Tryz.func48, Tryz.ntmps48
  go_wp2_with (first | (go_at_call 46; with_reducible refine crv (k1.out _ gw) fun _ _ => ?_; dsimp only) | (go_at_call 66; with_reducible refine crv (k2.out _) fun _ _ => ?_; dsimp only))
  refine bodyPost_ret (v := .tuple #[mkv (0, 0, 0), .int .i64 1]) (by simp [results, Tryz.results48, go_sem]) rfl ?_
  exact Ret.mk' rfl gw
 ·simp at h
  subst h
  go_enter Tryz.func48, Tryz.ntmps48
  go_wp2_with (first | (go_at_call 46; with_reducible refine crv (k1.out _ gw) fun _ _ => ?_; dsimp only) | (go_at_call 66; with_reducible refine crv (k2.out _) fun _ _ => ?_; dsimp only))
  refine bodyPost_ret (v := .tuple #[mkv (0, 0, 0), .int .i64 1]) (by simp [results, Tryz.results48, go_sem]) rfl ?_
  exact Ret.mk' rfl gw
 ·obtain ⟨hl, hs⟩ := bk_split HA.out
  obtain ⟨fo, hfo⟩ : ∃ f, findOf ms s = f := ⟨_, rfl⟩
  have k3 := hide (fun W (hg : Grew w W) => find_v o ms s A c fo W (HR.out.up hg) hl hs hfo)
  rw [hfo] at h
  clear hl hs hfo
  cases fo with
  | none =>
   simp at h
   subst h
   dsimp only [Option.getD, Option.isSome] at k3
   go_enter Tryz.func48, Tryz.ntmps48
   go_wp2_with (first | (go_at_call 46; with_reducible refine crv (k1.out _ gw) fun _ _ => ?_; dsimp only) | (go_at_call 66; with_reducible refine crv (k2.out _) fun _ _ => ?_; dsimp only) | (go_at_call 67; with_reducible refine crv (k3.out _ gw) fun _ _ => ?_; dsimp only))
   refine bodyPost_ret (v := .tuple #[mkv (0, 0, 0), .int .i64 11]) (by simp [results, Tryz.results48, go_sem]) rfl ?_
   exact Ret.mk' rfl gw
  | some m =>
   simp at h
   subst h
   obtain ⟨m1, m2, m3⟩ := m
   dsimp only [Option.getD, Option.isSome] at k3
   go_enter Tryz.func48, Tryz.ntmps48
   go_wp2_with (first | (go_at_call 46; with_reducible refine crv (k1.out _ gw) fun _ _ => ?_; dsimp only) | (go_at_call 66; with_reducible refine crv (k2.out _) fun _ _ => ?_; dsimp only) | (go_at_call 67; with_reducible refine crv (k3.out _ gw) fun _ _ => ?_; dsimp only))
   refine bodyPost_ret (v := .tuple #[mkv (m1, m2, m3), .int .i64 0]) (by simp [results, Tryz.results48, go_sem]) rfl ?_
   exact Ret.mk' rfl gw
end Go.Proofs.YtpfpamopmncifaaGreat
