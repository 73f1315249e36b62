/- The reference implementation: Turns. -/
import Derived.Test.YtgcgaplhaglejaaSecE
import Derived.Test.YtgcgaplhaglejaaRefD
import Derived.Test.YtgcgaplhaglejaaOwn
namespace Go.Proofs.Ytgcgaplhaglejaa
set_option linter.unusedVariables false
set_option linter.unusedSimpArgs false
open Go.RowKit Go.Sort
attribute [local go_sem] Steady steadyUpon
attribute [local go_sem ↓] hs_dr lt_add_r lt_add_r2 lt_add_r3 lt_add_r4 lt_add_r5 lt_add_r6
attribute [local go_sem] cell?_gd frozen?_gd setCell_gd size_grow tape_grow cell?_grow' frozen?_grow' setCell_grow' grow_grow grow_dr grow_drew dr_dr dr_drew drew_dr dr_alloc dr_setCell dr_cell dr_frozen dr_tape dr_drawn

theorem ptInfo : (Try.prog.info? 24).map (fun i => (i.zero, i.size, i.bytes)) = some (some (.agg #[.int .i64 0, .int .i64 0]), 2, 16) := by kernel_rfl
def encD (v : Int × Int) : List Value := [.int .i64 v.1, .int .i64 v.2]
theorem encD_len (v : Int × Int) : (encD v).length = 2 := rfl
theorem below_own {w W w1 : World} {e : TypeId} {size n : Nat} {v : Value} {xs : List Value} (hb : Below w.heap.size w W) (hown : W.ownsRow w.heap.size e size v n xs) (hg : W.grownBy w1 v.ownBlock) : Below w.heap.size w w1 :=
  hb.grown hg hb.size fun q hq => (hown.lt q hq).1

theorem turns_app (a b : List Sec) : turnsOf (a ++ b) = turnsOf a ++ turnsOf b := by unfold turnsOf; rw [List.flatMap_append]

set_option maxRecDepth 100000 in
set_option maxHeartbeats 1600000 in
theorem rTurns_any (sa sb : List Sec) (A A' : Option Addr) (c c' : Nat) (w : World) (hra : Rd w w.heap.size 6 A (sa.map Sec.cells)) (hrb : Rd w w.heap.size 6 A' (sb.map Sec.cells)) (hla : sa.length ≤ 1000) (hlb : sb.length ≤ 1000) :
    Calls Try.prog 30 #[.slice A sa.length c, .slice A' sb.length c'] w fun e w' => ∃ v, e = .returned v ∧ w'.ownsRow w.heap.size 24 2 v (turnsOf (sa ++ sb)).length ((turnsOf (sa ++ sb)).flatMap encD) ∧ Grew w w' := by
  have hm := hmix
  obtain ⟨i0, hi, hz0, hz1, hz2⟩ := info_parts ptInfo
  go_enter Try.func30, Try.ntmps30
  go_wp2_with fail
  go_loopw [5, 6] (fun v i wr => ∃ k : Nat, k ≤ sa.length ∧ i = .int .i64 k ∧ wr.ownsRow w.heap.size 24 2 v (turnsOf (sa.take k)).length ((turnsOf (sa.take k)).flatMap encD) ∧ Below w.heap.size w wr) (fun _ i _ => sa.length - (intOf i).toNat)
  case atStart => exact ⟨0, by omega, rfl, World.ownsRow_nil _ _ _ _, Below.refl _ _⟩
  case round =>
    obtain ⟨k, hk, rfl, hown, hbel⟩ := hrel
    by_cases hlt : k < sa.length
    · obtain ⟨s, hs⟩ : ∃ s, sa[k]? = some s := ⟨_, List.getElem?_eq_getElem hlt⟩
      obtain ⟨b, off, hA, hb, h0, h1, h2, h3, h4, h5⟩ := secAt (hra.up (Grew.of_below hbel)) hs
      have hix := idx_run (cap := c) Try.underlying22 Try.sizeOf26 hA.out hlt
      have HST := hide (turns_snoc hs)
      have htl := turns_len (sa.take k)
      have hbs := hbel.size
      rw [List.length_take] at htl
      obtain ⟨tl, htl2⟩ : ∃ tl, turnsOf (sa.take k) = tl := ⟨_, rfl⟩
      rw [htl2] at HST hown htl
      have HO := hide hown
      have HB := hide hbel
      have htl3 : tl.length ≤ 2000 := by omega
      clear hs hown hbel htl2 htl
      go_wp2_with fail
      refine wp_region_qas 12 [] [⟨11, 25, 2, 24, fun a => (a.eval (Operand.tmp 19)).cells ++ (a.eval (Operand.tmp 24)).cells⟩] hm (by kernel_rfl) (by simp only [List.take, List.filter, isQ]; rfl) (by simp only [List.drop]; rfl) ZOk.nil (by simp) ?_
      repeat (refine wpSteady_step (fun K hK => ?_); go_simp; first | (refine hK _ ?_; clear hK K) | (apply Exists.intro; refine ⟨fun _ => ?_, hK _ ?_⟩; (fail); clear hK K))
      refine wpSteady_nil ?_
      refine ⟨StOk.nil, (LyOk.cons (by rfl) (fun W => by first | (go_simp; done) | rfl) LyOk.nil), ?_⟩
      rintro psq qsq Wq HWq HFq HBq
      obtain ⟨b0, _, rfl, hq0, gb0, rfl⟩ := HBq
      simp [Act.eval, Value.cells] at gb0
      have gbl0 := blk_lt gb0
      obtain rfl : psq = [] := HFq
      simp only [putAll, putB, Act.put, List.setIfInBounds_toArray, List.set_cons_succ, List.set_cons_zero]
      have oc := old_cell HWq
      have of := old_frozen HWq
      have ol := old_lt HWq
      replace HWq := hide HWq
      refine wpList_append_own Wq rfl (.tmp 14) (.tmp 25) 48 rfl w.heap.size 24 i0 _ 2 16 Try.underlying48 hi hz0 hz1 hz2 (by rfl) (by omega) _ tl.length _ (by rfl) (own_grew HO.out HWq.out) ⟨b0, 0, none⟩ 2 2 (encD (s.fx, s.fy) ++ encD (s.tx, s.ty)) (by rfl) (by rfl)
        (fun j x hx => by rw [add_at, Nat.zero_add, blk_cell gb0]; simpa [encD] using hx) (fun x hx => by simp [encD] at hx; rcases hx with rfl | rfl | rfl | rfl <;> rfl) (by unfold maxLen; omega) (by omega) (Nat.le_trans hbs HWq.out.below.size) ?_
      intro v' w1 hown1 hg1 _
      have hbw := below_own (HB.out.trans (HWq.out.below.mono hbs)) (own_grew HO.out HWq.out) hg1
      have HBW := hide hbw
      have HO1 := hide hown1
      clear hbw hown1 hg1
      go_wp2_with fail
      go_roundw
      case rel => exact ⟨k + 1, by omega, by go_num, by rw [HST.out, List.length_append, List.flatMap_append]; simpa using HO1.out, HBW.out⟩
      case measure => simp [intOf]; omega
    · obtain rfl : k = sa.length := by omega
      rw [List.take_length] at hown
      have HO0 := hide hown
      have HB0 := hide hbel
      obtain ⟨A5, c5, rfl, hc5⟩ := own_slice hown
      clear hown hbel
      go_wp2_with fail
      go_loopw [5, 7] (fun v i wq => ∃ k : Nat, k ≤ sb.length ∧ i = .int .i64 k ∧ wq.ownsRow w.heap.size 24 2 v (turnsOf (sa ++ sb.take k)).length ((turnsOf (sa ++ sb.take k)).flatMap encD) ∧ Below w.heap.size w wq) (fun _ i _ => sb.length - (intOf i).toNat)
      case atStart => exact ⟨0, by omega, rfl, by rw [List.take_zero, List.append_nil]; exact HO0.out, HB0.out⟩
      case round =>
        obtain ⟨k, hk, rfl, hown, hbel⟩ := hrel
        by_cases hlt : k < sb.length
        · obtain ⟨s, hs⟩ : ∃ s, sb[k]? = some s := ⟨_, List.getElem?_eq_getElem hlt⟩
          obtain ⟨b, off, hA, hb, h0, h1, h2, h3, h4, h5⟩ := secAt (hrb.up (Grew.of_below hbel)) hs
          have hix := idx_run (cap := c') Try.underlying22 Try.sizeOf26 hA.out hlt
          have hst : turnsOf (sa ++ sb.take (k + 1)) = turnsOf (sa ++ sb.take k) ++ [(s.fx, s.fy), (s.tx, s.ty)] := by
            rw [turns_app, turns_app, turns_snoc hs, List.append_assoc]
          have HST := hide hst
          have htl := turns_len (sa ++ sb.take k)
          have hbs := hbel.size
          rw [List.length_append, List.length_take] at htl
          obtain ⟨tl, htl2⟩ : ∃ tl, turnsOf (sa ++ sb.take k) = tl := ⟨_, rfl⟩
          rw [htl2] at HST hown htl
          have HO := hide hown
          have HB := hide hbel
          have htl3 : tl.length ≤ 4000 := by omega
          clear hs hown hbel htl2 htl hst
          go_wp2_with fail
          refine wp_region_qas 12 [] [⟨11, 44, 2, 24, fun a => (a.eval (Operand.tmp 38)).cells ++ (a.eval (Operand.tmp 43)).cells⟩] hm (by kernel_rfl) (by simp only [List.take, List.filter, isQ]; rfl) (by simp only [List.drop]; rfl) ZOk.nil (by simp) ?_
          repeat (refine wpSteady_step (fun K hK => ?_); go_simp; first | (refine hK _ ?_; clear hK K) | (apply Exists.intro; refine ⟨fun _ => ?_, hK _ ?_⟩; (fail); clear hK K))
          refine wpSteady_nil ?_
          refine ⟨StOk.nil, (LyOk.cons (by rfl) (fun W => by first | (go_simp; done) | rfl) LyOk.nil), ?_⟩
          rintro psq qsq Wq HWq HFq HBq
          obtain ⟨b0, _, rfl, hq0, gb0, rfl⟩ := HBq
          simp [Act.eval, Value.cells] at gb0
          have gbl0 := blk_lt gb0
          obtain rfl : psq = [] := HFq
          simp only [putAll, putB, Act.put, List.setIfInBounds_toArray, List.set_cons_succ, List.set_cons_zero]
          have oc := old_cell HWq
          have of := old_frozen HWq
          have ol := old_lt HWq
          replace HWq := hide HWq
          refine wpList_append_own Wq rfl (.tmp 33) (.tmp 44) 48 rfl w.heap.size 24 i0 _ 2 16 Try.underlying48 hi hz0 hz1 hz2 (by rfl) (by omega) _ tl.length _ (by rfl) (own_grew HO.out HWq.out) ⟨b0, 0, none⟩ 2 2 (encD (s.fx, s.fy) ++ encD (s.tx, s.ty)) (by rfl) (by rfl)
            (fun j x hx => by rw [add_at, Nat.zero_add, blk_cell gb0]; simpa [encD] using hx) (fun x hx => by simp [encD] at hx; rcases hx with rfl | rfl | rfl | rfl <;> rfl) (by unfold maxLen; omega) (by omega) (Nat.le_trans hbs HWq.out.below.size) ?_
          intro v' w1 hown1 hg1 _
          have hbw := below_own (HB.out.trans (HWq.out.below.mono hbs)) (own_grew HO.out HWq.out) hg1
          have HBW := hide hbw
          have HO1 := hide hown1
          clear hbw hown1 hg1
          go_wp2_with fail
          go_roundw
          case rel => exact ⟨k + 1, by omega, by go_num, by rw [HST.out, List.length_append, List.flatMap_append]; simpa using HO1.out, HBW.out⟩
          case measure => simp [intOf]; omega
        · obtain rfl : k = sb.length := by omega
          rw [List.take_length] at hown
          obtain ⟨A6, c6, rfl, hc6⟩ := own_slice hown
          have HO := hide hown
          have HB := hide hbel
          clear hown hbel
          go_wp2_with fail
          go_ret
          exact ⟨_, rfl, HO.out, Grew.of_below HB.out⟩
end Go.Proofs.Ytgcgaplhaglejaa
