/- The contracts of slices.Grow and slices.Concat at sectors, and of package sector's iterator over the turns. -/
import Derived.Test.YtgcgaplhaglejaaApp
import Derived.Test.YtgcgaplhaglejaaSecC
import Derived.Lib.AppendZerosOnto
namespace Go.Proofs.Ytgcgaplhaglejaa
set_option linter.unusedVariables false
set_option linter.unusedSimpArgs false
open Go.RowKit Go.Sort
attribute [local go_sem] Steady steadyUpon
attribute [local go_sem ↓] hs_dr lt_add_r lt_add_r2 lt_add_r3 lt_add_r4 lt_add_r5 lt_add_r6
attribute [local go_sem] cell?_gd frozen?_gd setCell_gd size_grow tape_grow cell?_grow' frozen?_grow' setCell_grow' grow_grow grow_dr grow_drew dr_dr dr_drew drew_dr dr_alloc dr_setCell dr_cell dr_frozen dr_tape dr_drawn

theorem secInfo : (Try.prog.info? 26).map (fun i => (i.zero, i.size, i.bytes)) = some (some (.agg #[.int .i64 0, .int .i64 0, .int .i64 0, .int .i64 0, .int .i64 0, .int .i64 0]), 6, 48) := by kernel_rfl

set_option maxRecDepth 100000 in
set_option maxHeartbeats 800000 in
theorem Grow_any (n : Nat) (w : World) (hn : n ≤ 1000000) :
    Calls Try.prog 60 #[.slice none 0 0, .int .i64 n] w fun e w' => ∃ v, e = .returned v ∧ w'.ownsRow w.heap.size 26 6 v 0 [] ∧ Grew w w' := by
  have hm := hmix
  obtain ⟨i0, hi, hz0, hz1, hz2⟩ := info_parts secInfo
  by_cases h0 : n = 0
  · subst h0
    go_enter Try.func60, Try.ntmps60
    go_wp2
    go_ret
    exact ⟨_, rfl, World.ownsRow_nil _ _ _ _, (by repeat (with_reducible first | exact Grew.refl _ | assumption | refine Grew.alloc ?_ _ | refine Grew.grow ?_ _ | refine Grew.dr ?_ _ | refine Grew.drewN ?_ _ | refine Grew.drew ?_ | refine Grew.trans ?_ (Hid.out (by assumption))))⟩
  · have hb1 : n * i0.bytes ≤ 281474976710656 := by rw [hz2]; omega
    have hb2 : Builtin.nextslicecap (0 + n) 0 * i0.bytes ≤ 281474976710656 := by
      rw [hz2]
      have : Builtin.nextslicecap (0 + n) 0 = n := by simp [Builtin.nextslicecap]; omega
      rw [this]
      omega
    obtain ⟨cur, hcur⟩ : ∃ cur, cur = (([] : List Value).toArray ++ Builtin.zeroCells (Value.agg #[.int .i64 0, .int .i64 0, .int .i64 0, .int .i64 0, .int .i64 0, .int .i64 0]).cells n ++ Builtin.zeroCells (Value.agg #[.int .i64 0, .int .i64 0, .int .i64 0, .int .i64 0, .int .i64 0, .int .i64 0]).cells (grownCap w n 0 26 - n)) := ⟨_, rfl⟩
    have hge := grownCap_ge w n 0 26
    have hle := grownCap_le_maxLen w n 0 26 (by unfold maxLen; omega)
    have hrz : ∀ ty, (Builtin.append_ #[22, 3] ty #[.slice none 0 0, .int .i64 (n : Int)]).run Try.prog w =
        .ok (.slice (some ⟨w.heap.size, 0, none⟩) n (grownCap w n 0 26)) (w.drew.alloc (.cells cur 26)) := fun ty => by
      have h := Lib.run_append_grow_zeros w 22 3 ty 26 i0 _ .i64 .i64 Try.underlying22 Try.underlying3 hi hz0 none 0 0 [] (by exact run_firstCells_none w.drew i0.size 0 0 0) n (by omega) (by omega) (by omega) (by omega) hb1 hb2
      rw [Nat.zero_add] at h
      rw [hcur]
      exact h
    have hcs : cur.size = grownCap w n 0 26 * 6 := by
      rw [hcur]
      simp only [Array.size_append, Builtin.zeroCells, Array.size_map, Array.size_range, Value.cells, List.size_toArray, List.length_nil, List.length_cons, Nat.reduceAdd]
      omega
    clear hcur hb1 hb2
    obtain ⟨G, hG⟩ : ∃ G, G = grownCap w n 0 26 := ⟨_, rfl⟩
    rw [← hG] at hge hle hcs hrz
    clear hG
    have h1 : 0 < n := by omega
    unfold maxLen at hle
    have HC := hide hcs
    clear hcs
    go_enter Try.func60, Try.ntmps60
    go_wp2_with (at_builtin; refine Lib.wpList_append_run _ rfl _ _ _ _ rfl _ _ rfl rfl _ _ (hrz _) ?_)
    go_ret
    refine ⟨_, rfl, ?_, (by repeat (with_reducible first | exact Grew.refl _ | assumption | refine Grew.alloc ?_ _ | refine Grew.grow ?_ _ | refine Grew.dr ?_ _ | refine Grew.drewN ?_ _ | refine Grew.drew ?_ | refine Grew.trans ?_ (Hid.out (by assumption))))⟩
    have := World.ownsRow_made (base := w.heap.size) (e := 26) (size := 6) w.drew cur G (Nat.le_refl _) (by unfold maxLen; omega) HC.out
    exact this

/-- A slice value of sectors, as it stands in a slice of slices. -/
structure SL where
  A : Option Addr
  c : Nat
  ss : List Sec
def SL.val (x : SL) : Value := .slice x.A x.ss.length x.c
def preL (LL : List SL) (k : Nat) : List Sec := (LL.take k).flatMap SL.ss
theorem preL_step {LL : List SL} {k : Nat} {x : SL} (h : LL[k]? = some x) : preL LL (k + 1) = preL LL k ++ x.ss := by
  unfold preL
  rw [List.take_add_one, h]
  simp
theorem preL_len {LL : List SL} (h : ∀ x ∈ LL, x.ss.length ≤ 1000) : ∀ k, (preL LL k).length ≤ 1000 * k
  | 0 => by simp [preL]
  | k + 1 => by
    have ih := preL_len h k
    cases hx : LL[k]? with
    | none =>
      unfold preL at ih ⊢
      rw [List.take_add_one, hx]
      simp
      simp at ih
      omega
    | some x =>
      rw [preL_step hx, List.length_append]
      have := h x (List.mem_of_getElem? hx)
      omega
theorem preL_all (LL : List SL) : preL LL LL.length = LL.flatMap SL.ss := by unfold preL; rw [List.take_length]
theorem sec_len (s : Sec) : s.cells.length = 6 := rfl
theorem sec_one (ss : List Sec) : ∀ u ∈ ss.flatMap Sec.cells, u.oneCell' = true := by
  intro u hu
  obtain ⟨s, _, hs⟩ := List.mem_flatMap.1 hu
  simp [Sec.cells] at hs
  rcases hs with rfl | rfl | rfl | rfl | rfl | rfl <;> rfl

set_option maxRecDepth 100000 in
set_option maxHeartbeats 1600000 in
theorem Concat_any (LL : List SL) (O : Option Addr) (c : Nat) (w : World) (hr : Rd w w.heap.size 1 O (LL.map fun x => [x.val])) (hin : ∀ x ∈ LL, Rd w w.heap.size 6 x.A (x.ss.map Sec.cells)) (hl : LL.length ≤ 10) (hs : ∀ x ∈ LL, x.ss.length ≤ 1000) :
    Calls Try.prog 53 #[.slice O LL.length c] w fun e w' => ∃ v, e = .returned v ∧ w'.ownsRow w.heap.size 26 6 v (LL.flatMap SL.ss).length ((LL.flatMap SL.ss).flatMap Sec.cells) ∧ Grew w w' := by
  have hm := hmix
  obtain ⟨i0, hi, hz0, hz1, hz2⟩ := info_parts secInfo
  have HI := hide hin
  have HS := hide hs
  clear hin hs
  go_enter Try.func53, Try.ntmps53
  go_wp2_with fail
  go_loopw [3, 11] (fun sz i wr => ∃ k : Nat, k ≤ LL.length ∧ i = .int .i64 k ∧ sz = .int .i64 ((preL LL k).length : Nat) ∧ Grew w wr) (fun _ i _ => LL.length - (intOf i).toNat)
  case atStart => exact ⟨0, by omega, rfl, rfl, Grew.refl _⟩
  case round =>
    obtain ⟨k, hk, rfl, rfl, hg⟩ := hrel
    have HW := hide hg
    clear hg
    have hpl := preL_len HS.out k
    by_cases hlt : k < LL.length
    · obtain ⟨x, hx⟩ : ∃ x, LL[k]? = some x := ⟨_, List.getElem?_eq_getElem hlt⟩
      obtain ⟨b, off, hA, hb, hc⟩ := (hr.up HW.out).at_ (k := k) (x := [x.val]) (by simp [hx])
      replace hA := hide hA
      have c0 := hc 0 x.val rfl
      simp only [Nat.mul_one, Nat.add_zero, SL.val] at c0
      clear hc
      have hxs := HS.out x (List.mem_of_getElem? hx)
      have hst := preL_step hx
      have HX := hide hx
      clear hx
      have HST := hide hst
      clear hst
      have hix := idx_run (cap := c) Try.underlying76 Try.sizeOf22 hA.out hlt
      simp only [Nat.mul_one] at hix
      go_wp2_with fail
      go_roundw
      case rel => exact ⟨k + 1, by omega, by go_num, by rw [HST.out]; simp, HW.out⟩
      case measure => simp [intOf]; omega
    · obtain rfl : k = LL.length := by omega
      go_wp2_with (go_at_call 60; refine (Grow_any _ _ (by omega)).mono ?_; rintro e w1 ⟨v0, rfl, hown, hg1⟩; dsimp only)
      have hbase : w.heap.size ≤ wr.heap.size := HW.out.below.size
      have hown0 : w1.ownsRow w.heap.size 26 6 v0 0 [] := by
        refine ⟨hown.1, hown.2.imp id fun ⟨g, cap, cur, h1, h2, h3⟩ => ⟨g, cap, cur, h1, Nat.le_trans hbase h2, h3⟩⟩
      have HO := hide hown0
      have hb1 := (HW.out.trans hg1).below
      have HB := hide hb1
      clear hown hown0 hg1 hb1
      clear HW hpl
      go_loopw [6, 27] (fun v i wq => ∃ k : Nat, k ≤ LL.length ∧ i = .int .i64 k ∧ wq.ownsRow w.heap.size 26 6 v (preL LL k).length ((preL LL k).flatMap Sec.cells) ∧ Below w.heap.size w wq) (fun _ i _ => LL.length - (intOf i).toNat)
      case atStart => exact ⟨0, by omega, rfl, HO.out, HB.out⟩
      case round =>
        obtain ⟨k, hk, rfl, hown, hbel⟩ := hrel
        have HW := hide (Grew.of_below hbel)
        have hpl := preL_len HS.out k
        have hsz := hbel.size
        have HBel := hide hbel
        clear hbel
        by_cases hlt : k < LL.length
        · obtain ⟨x, hx⟩ : ∃ x, LL[k]? = some x := ⟨_, List.getElem?_eq_getElem hlt⟩
          obtain ⟨b, off, hA, hb, hc⟩ := (hr.up HW.out).at_ (k := k) (x := [x.val]) (by simp [hx])
          replace hA := hide hA
          have c0 := hc 0 x.val rfl
          simp only [Nat.mul_one, Nat.add_zero, SL.val] at c0
          clear hc
          have hxs := HS.out x (List.mem_of_getElem? hx)
          have hrx := ((HI.out x (List.mem_of_getElem? hx)).up HW.out).reads sec_len (by omega)
          have hst := preL_step hx
          have HX := hide hx
          clear hx
          have HST := hide hst
          clear hst
          have HR := hide hrx
          clear hrx
          have HOW := hide hown
          clear hown
          have hix := idx_run (cap := c) Try.underlying76 Try.sizeOf22 hA.out hlt
          simp only [Nat.mul_one] at hix
          go_wp2_with (at_builtin; refine wpList_append_any _ rfl (.tmp 31) (.tmp 32) _ rfl w.heap.size 26 i0 _ 6 48 Try.underlying22 hi hz0 hz1 hz2 rfl (by omega) _ (preL LL k).length ((preL LL k).flatMap Sec.cells) rfl HOW.out wr.heap.size x.A x.ss.length x.c (x.ss.flatMap Sec.cells) rfl HR.out (sec_one _) (by simp only [maxLen]; omega) (by omega) hsz ?_; intro v' w1 hown1 hg1 hat1)
          have hbw := HBel.out.grown hg1 hsz (fun q hq => (HOW.out.lt q hq).1)
          have HBW := hide hbw
          have HO1 := hide hown1
          clear hbw hown1 hg1 hat1
          go_wp2_with fail
          go_roundw
          case rel => exact ⟨k + 1, by omega, by go_num, by rw [HST.out, List.length_append, List.flatMap_append]; exact HO1.out, HBW.out⟩
          case measure => simp [intOf]; omega
        · obtain rfl : k = LL.length := by omega
          go_wp2_with fail
          go_ret
          rw [preL_all] at hown
          exact ⟨_, rfl, hown, HW.out⟩
end Go.Proofs.Ytgcgaplhaglejaa
