/- SectorTurned: quarter, and the walk. -/
import Derived.Test.YtgcgaplhaglejaaPlainG
import Derived.Test.YtgcgaplhaglejaaNormalL
import Derived.Test.YtgcgaplhaglejaaSaferL
namespace Go.Proofs.Ytgcgaplhaglejaa
set_option linter.unusedVariables false
set_option linter.unusedSimpArgs false
open Go.RowKit Go.Sort
attribute [local go_sem] Steady steadyUpon
attribute [local go_sem ↓] hs_dr lt_add_r lt_add_r2 lt_add_r3 lt_add_r4 lt_add_r5 lt_add_r6
attribute [local go_sem] cell?_gd frozen?_gd setCell_gd size_grow tape_grow cell?_grow' frozen?_grow' setCell_grow' grow_grow grow_dr grow_drew dr_dr dr_drew drew_dr dr_alloc dr_setCell dr_cell dr_frozen dr_tape dr_drawn
attribute [local go_sem] E.effUpon

set_option maxRecDepth 100000 in
set_option maxHeartbeats 4000000 in
theorem quarter_any (ss : List Sec) (A : Option Addr) (c : Nat) (w : World) (hr : Rd w w.heap.size 6 A (ss.map Sec.cells)) (hl : ss.length ≤ c) (h12 : ss.length ≤ 12) (hok : ∀ s ∈ ss, s.ok = true) :
    Calls Try.prog 31 #[.slice A ss.length c] w fun e w' => ∃ B c', e = .returned (.slice B ss.length c') ∧ ss.length ≤ c' ∧ Grew w w' ∧ Rd w' w'.heap.size 6 B ((ss.map qtS).map Sec.cells) := by
  have hm := hmix
  obtain ⟨i0, hi0, hz0, hz1, hz2⟩ := info_parts secInfo
  have HO := hide hok
  clear hok
  go_enter Try.func31, Try.ntmps31
  go_wp2_with fail
  go_loopw [3, 4] (fun v i wr => ∃ k : Nat, k ≤ ss.length ∧ i = .int .i64 k ∧ wr.ownsRow w.heap.size 26 6 v k (((ss.take k).map qtS).flatMap Sec.cells) ∧ Below w.heap.size w wr) (fun _ i _ => ss.length - (intOf i).toNat)
  case atStart => exact ⟨0, by omega, rfl, World.ownsRow_nil _ _ _ _, Below.refl _ _⟩
  case round =>
    obtain ⟨k, hk, rfl, hown, hbel⟩ := hrel
    by_cases hlt : k < ss.length
    · obtain ⟨s, hs'⟩ : ∃ s, ss[k]? = some s := ⟨_, List.getElem?_eq_getElem hlt⟩
      obtain ⟨b, off, hA, hb, h0, h1, h2, h3, h4, h5⟩ := secAt (hr.up (Grew.of_below hbel)) hs'
      have hix := idx_run (cap := c) Try.underlying22 Try.sizeOf26 hA.out hlt
      have hbd := ok_bd (HO.out s (List.mem_of_getElem? hs'))
      have e1 : IntKind.i64.wrap (-s.fy) = -s.fy := by unfold IntKind.wrap; simp [IntKind.bits, IntKind.signed]; omega
      have e2 : IntKind.i64.wrap (-s.ty) = -s.ty := by unfold IntKind.wrap; simp [IntKind.bits, IntKind.signed]; omega
      have hst : ((ss.take (k + 1)).map qtS).flatMap Sec.cells = ((ss.take k).map qtS).flatMap Sec.cells ++ (qtS s).cells := by
        rw [List.take_add_one, hs', List.map_append, List.flatMap_append]
        simp
      have HST := hide hst
      have HOW := hide hown
      have HB := hide hbel
      have hle : (k : Int) ≤ 12 := by omega
      clear hs' hst hown hbel
      go_wp2_with fail
      refine wp_region_qas 23 [] [⟨22, 42, 1, 26, fun a => (a.eval (Operand.tmp 41)).cells⟩] hm (by kernel_rfl) (by simp only [List.take, List.filter, isQ]; rfl) (by simp only [List.drop]; rfl) ZOk.nil (by simp) ?_
      repeat (refine wpSteady_step (fun K hK => ?_); go_simp; first | (refine hK _ ?_; clear hK K) | (apply Exists.intro; refine ⟨fun _ => ?_, hK _ ?_⟩; (first | (go_at_call 29; with_reducible exact at_any _ _ _) | (go_at_call 27; with_reducible exact arc_any _ _ _ _ _ _ _)); clear hK K))
      refine wpSteady_nil ?_
      refine ⟨StOk.nil, (LyOk.cons (by rfl) (fun W => by first | (go_simp; done) | rfl) LyOk.nil), ?_⟩
      rintro psq qsq Wq HWq HFq HBq
      obtain ⟨b0, _, rfl, hq0, gb0, rfl⟩ := HBq
      simp [Act.eval, Value.cells] at gb0
      have gbl0 := blk_lt gb0
      obtain rfl : psq = [] := HFq
      simp only [putAll, putB, Act.put, List.setIfInBounds_toArray, List.set_cons_succ, List.set_cons_zero]
      have oc := old_cell HWq
      have of := old_frozen HWq
      have ol := old_lt HWq
      replace HWq := hide HWq
      have HGQ := hide (show Grew wr Wq from Grew.trans (by repeat (with_reducible first | exact Grew.refl _ | assumption | refine Grew.alloc ?_ _ | refine Grew.grow ?_ _ | refine Grew.dr ?_ _ | refine Grew.drewN ?_ _ | refine Grew.drew ?_ | refine Grew.trans ?_ (Hid.out (by assumption)))) HWq.out)
      refine wpList_append_own Wq rfl (.tmp 20) (.tmp 42) 22 rfl w.heap.size 26 i0 _ 6 48 Try.underlying22 hi0 hz0 hz1 hz2 (by rfl) (by omega) _ k _ (by rfl) (own_grew HOW.out HGQ.out) ⟨b0, 0, none⟩ 1 1 (qtS s).cells (by rfl) (by rfl)
        (fun j x hx => by rw [add_at, Nat.zero_add, blk_cell gb0]; simpa [Sec.cells, qtS] using hx) (fun x hx => by simp [Sec.cells, qtS] at hx; rcases hx with rfl | rfl | rfl | rfl | rfl | rfl <;> rfl) (by unfold maxLen; omega) (by omega) (Nat.le_trans HB.out.size HGQ.out.below.size) ?_
      intro v' w1 hown1 hg1 _
      have hbw := below_own (HB.out.trans (HGQ.out.below.mono HB.out.size)) (own_grew HOW.out HGQ.out) hg1
      have HBW := hide hbw
      have HO1 := hide hown1
      clear hbw hown1 hg1
      go_wp2_with fail
      go_roundw
      case rel => exact ⟨k + 1, by omega, by go_num, by rw [HST.out]; exact HO1.out, HBW.out⟩
      case measure => simp [intOf]; omega
    · obtain rfl : k = ss.length := by omega
      rw [List.take_length] at hown
      have hlen : ss.length = (ss.map qtS).length := by simp
      obtain ⟨B, c', rfl, hc', hrd⟩ := Rd.of_own (f := Sec.cells) sec_len hown hlen
      have HRD := hide hrd
      have HB := hide hbel
      clear hown hbel hrd hlen
      go_wp2_with fail
      go_ret
      exact ⟨_, _, rfl, hc', Grew.of_below HB.out, HRD.out⟩

set_option maxRecDepth 100000 in
set_option maxHeartbeats 4000000 in
theorem turnedL_no (sa : List Sec) (A : Option Addr) (ca : Nat) (sb : List Sec) (B : Option Addr) (cb : Nat) (v1 v2 : Int) (w : World) (hra : Rd w w.heap.size 6 A (sa.map Sec.cells)) (hla : sa.length ≤ ca) (hca : sa.length ≤ 100000000000000)
    (hrb : Rd w w.heap.size 6 B (sb.map Sec.cells)) (hlb : sb.length ≤ cb) (hcb : sb.length ≤ 100000000000000) (h : (LValid sa && LValid sb) = false) :
    Calls Try.prog 9 #[.slice A sa.length ca, .slice B sb.length cb, pt v1 v2] w (Ret w (.bool true)) := by
  have hm := hmix
  cases ha : LValid sa
  · have k1 := hide (fun W (hg : Grew w W) => Valid_w sa A ca false W (hra.up hg) hla hca ha)
    clear h ha
    go_enter Try.func9, Try.ntmps9
    go_wp2_with (first | (go_at_call 11; (with_reducible refine (head_any _).mono ?_); rintro e w' ⟨rfl, ⟨_, _⟩, rfl⟩; dsimp only) | (go_at_call 12; (with_reducible refine (k1.out _ (by repeat (with_reducible first | exact Grew.refl _ | assumption | refine Grew.alloc ?_ _ | refine Grew.grow ?_ _ | refine Grew.dr ?_ _ | refine Grew.drewN ?_ _ | refine Grew.drew ?_ | refine Grew.trans ?_ (Hid.out (by assumption))))).mono ?_); rintro e w' ⟨rfl, ⟨_, _⟩, rfl⟩; dsimp only))
    go_ret
    exact Ret.mk' rfl (by repeat (with_reducible first | exact Grew.refl _ | assumption | refine Grew.alloc ?_ _ | refine Grew.grow ?_ _ | refine Grew.dr ?_ _ | refine Grew.drewN ?_ _ | refine Grew.drew ?_ | refine Grew.trans ?_ (Hid.out (by assumption))))
  · have hb : LValid sb = false := by rw [ha] at h; simpa using h
    have k1 := hide (fun W (hg : Grew w W) => Valid_w sa A ca true W (hra.up hg) hla hca ha)
    have k2 := hide (fun W (hg : Grew w W) => Valid_w sb B cb false W (hrb.up hg) hlb hcb hb)
    clear h ha hb
    go_enter Try.func9, Try.ntmps9
    go_wp2_with (first | (go_at_call 11; (with_reducible refine (head_any _).mono ?_); rintro e w' ⟨rfl, ⟨_, _⟩, rfl⟩; dsimp only) | (go_at_call 12; (with_reducible refine (k1.out _ (by repeat (with_reducible first | exact Grew.refl _ | assumption | refine Grew.alloc ?_ _ | refine Grew.grow ?_ _ | refine Grew.dr ?_ _ | refine Grew.drewN ?_ _ | refine Grew.drew ?_ | refine Grew.trans ?_ (Hid.out (by assumption))))).mono ?_); rintro e w' ⟨rfl, ⟨_, _⟩, rfl⟩; dsimp only) | (go_at_call 12; (with_reducible refine (k2.out _ (by repeat (with_reducible first | exact Grew.refl _ | assumption | refine Grew.alloc ?_ _ | refine Grew.grow ?_ _ | refine Grew.dr ?_ _ | refine Grew.drewN ?_ _ | refine Grew.drew ?_ | refine Grew.trans ?_ (Hid.out (by assumption))))).mono ?_); rintro e w' ⟨rfl, ⟨_, _⟩, rfl⟩; dsimp only))
    go_ret
    exact Ret.mk' rfl (by repeat (with_reducible first | exact Grew.refl _ | assumption | refine Grew.alloc ?_ _ | refine Grew.grow ?_ _ | refine Grew.dr ?_ _ | refine Grew.drewN ?_ _ | refine Grew.drew ?_ | refine Grew.trans ?_ (Hid.out (by assumption))))

set_option maxRecDepth 100000 in
set_option maxHeartbeats 8000000 in
theorem turnedL_yes (sa : List Sec) (A : Option Addr) (ca : Nat) (sb : List Sec) (B : Option Addr) (cb : Nat) (v1 v2 : Int) (w : World) (hra : Rd w w.heap.size 6 A (sa.map Sec.cells)) (hla : sa.length ≤ ca) (hca : sa.length ≤ 100000000000000)
    (hrb : Rd w w.heap.size 6 B (sb.map Sec.cells)) (hlb : sb.length ≤ cb) (hcb : sb.length ≤ 100000000000000) (ha : LValid sa = true) (hb : LValid sb = true) :
    Calls Try.prog 9 #[.slice A sa.length ca, .slice B sb.length cb, pt v1 v2] w (Ret w (.bool true)) := by
  have hm := hmix
  have qa := LValid_qt ha
  have qb := LValid_qt hb
  have oka := (LV_ok ha).1
  have okb := (LV_ok hb).1
  have la := (LV_ok ha).2
  have lb := (LV_ok hb).2
  obtain ⟨is, hi⟩ : ∃ is, saferOf sa sb = (is, 0) := ⟨_, saferOf_ok (by rw [ha, hb]; rfl)⟩
  have hi2 : saferOf (sa.map qtS) (sb.map qtS) = (is, 0) := by
    rw [← hi, saferOf_ok (by rw [qa, qb]; rfl), saferOf_ok (by rw [ha, hb]; rfl), holds_qt (LV_nzs hb) (LV_nzs ha)]
  obtain ⟨X, hX⟩ : ∃ X, normList sa = X := ⟨_, rfl⟩
  obtain ⟨Y, hY⟩ : ∃ Y, normList (sa.map qtS) = Y := ⟨_, rfl⟩
  have hXY : Y.length = X.length := by rw [← hX, ← hY]; exact norm_len ha
  have k1 := hide (fun W (hg : Grew w W) => Valid_w sa A ca true W (hra.up hg) hla hca ha)
  have k2 := hide (fun W (hg : Grew w W) => Valid_w sb B cb true W (hrb.up hg) hlb hcb hb)
  have k3 := hide (fun W (hg : Grew w W) => Safer_w sa sb A B ca cb (is, 0) W (hra.up hg) (hrb.up hg) hla hlb hca hcb hi)
  have k4 := hide (fun W (hg : Grew w W) => quarter_any sa A ca W (hra.up hg) hla la oka)
  have k5 := hide (fun W (hg : Grew w W) => quarter_any sb B cb W (hrb.up hg) hlb lb okb)
  have k6 := hide (fun W (hg : Grew w W) => Normal_w sa A ca (X, 0) W (hra.up hg) hla hca (by rw [normalOf_ok ha, hX]))
  have hNY : normalOf (sa.map qtS) = (Y, 0) := by rw [normalOf_ok qa, hY]
  obtain ⟨⟨ci, cj, ck⟩, hr⟩ : ∃ r, colorOf sa v1 v2 = r := ⟨_, rfl⟩
  have hck : (ck = 1) ∨ (ck = 0 ∧ dirOk v1 v2 = true) := by
    cases hd : dirOk v1 v2
    · rw [color_no (by rw [hd]; simp)] at hr
      injection hr with _ h2
      injection h2 with _ h3
      exact .inl h3.symm
    · rw [color_ok ha hd] at hr
      injection hr with _ h2
      injection h2 with _ h3
      exact .inr ⟨h3.symm, rfl⟩
  have hr2 : colorOf (sa.map qtS) (-v2) v1 = (ci, cj, ck) := by
    rw [← hr]
    cases hd : dirOk v1 v2
    · rw [color_no (by rw [dirOk_qt, hd]; simp), color_no (by rw [hd]; simp)]
    · rw [color_ok qa (by rw [dirOk_qt]; exact hd), color_ok ha hd]
      have := shA_qt (LV_nzs ha) (v := (v1, v2)) (nz_dir hd)
      rw [show ((-v2, v1) : Int × Int) = qt (v1, v2) from rfl, this]
  have k7 := hide (fun W (hg : Grew w W) => Color_w sa A ca v1 v2 (ci, cj, ck) W (hra.up hg) hla hca hr)
  have HI2 := hide hi2
  have HNY := hide hNY
  have HR2 := hide hr2
  have HR := hide hr
  have HA := hide ha
  have hml : (sa.map qtS).length = sa.length := by simp
  have hmb : (sb.map qtS).length = sb.length := by simp
  have HML := hide hml
  have HMB := hide hmb
  clear hi hi2 hX hY hNY hr hr2 ha hb qa qb oka okb hml hmb
  go_enter Try.func9, Try.ntmps9
  go_wp2_with (first | (go_at_call 11; (with_reducible refine (head_any _).mono ?_); rintro e w' ⟨rfl, ⟨_, _⟩, rfl⟩; dsimp only) | (go_at_call 12; (with_reducible refine (k1.out _ (by repeat (with_reducible first | exact Grew.refl _ | assumption | refine Grew.alloc ?_ _ | refine Grew.grow ?_ _ | refine Grew.dr ?_ _ | refine Grew.drewN ?_ _ | refine Grew.drew ?_ | refine Grew.trans ?_ (Hid.out (by assumption))))).mono ?_); rintro e w' ⟨rfl, ⟨_, _⟩, rfl⟩; dsimp only) | (go_at_call 12; (with_reducible refine (k2.out _ (by repeat (with_reducible first | exact Grew.refl _ | assumption | refine Grew.alloc ?_ _ | refine Grew.grow ?_ _ | refine Grew.dr ?_ _ | refine Grew.drewN ?_ _ | refine Grew.drew ?_ | refine Grew.trans ?_ (Hid.out (by assumption))))).mono ?_); rintro e w' ⟨rfl, ⟨_, _⟩, rfl⟩; dsimp only) | (go_at_call 20; (with_reducible refine (k3.out _ (by repeat (with_reducible first | exact Grew.refl _ | assumption | refine Grew.alloc ?_ _ | refine Grew.grow ?_ _ | refine Grew.dr ?_ _ | refine Grew.drewN ?_ _ | refine Grew.drew ?_ | refine Grew.trans ?_ (Hid.out (by assumption))))).mono ?_); rintro e w' ⟨rfl, ⟨_, _⟩, rfl⟩; dsimp only))
  refine (k4.out _ (by repeat (with_reducible first | exact Grew.refl _ | assumption | refine Grew.alloc ?_ _ | refine Grew.grow ?_ _ | refine Grew.dr ?_ _ | refine Grew.drewN ?_ _ | refine Grew.drew ?_ | refine Grew.trans ?_ (Hid.out (by assumption))))).mono ?_
  rintro e W1 ⟨B1, c1, rfl, hc1, hg1, hr1⟩
  have HG1 := hide (Grew.trans (by repeat (with_reducible first | exact Grew.refl _ | assumption | refine Grew.alloc ?_ _ | refine Grew.grow ?_ _ | refine Grew.dr ?_ _ | refine Grew.drewN ?_ _ | refine Grew.drew ?_ | refine Grew.trans ?_ (Hid.out (by assumption)))) hg1 : Grew w W1)
  have HR1 := hide hr1
  have kb := (hg1.heap (k := w.heap.size) (by simp [hs_dr]; omega)).trans (heap_alloc_gd _ _ _ _ _ rfl)
  have KB := hide kb
  clear hg1 hr1 kb
  dsimp only
  go_wp2_with fail
  refine (k5.out _ (HG1.out.trans (by repeat (with_reducible first | exact Grew.refl _ | assumption | refine Grew.alloc ?_ _ | refine Grew.grow ?_ _ | refine Grew.dr ?_ _ | refine Grew.drewN ?_ _ | refine Grew.drew ?_ | refine Grew.trans ?_ (Hid.out (by assumption)))))).mono ?_
  rintro e W2 ⟨B2, c2, rfl, hc2, hg2, hr2⟩
  have HG12 := hide (Grew.trans (by repeat (with_reducible first | exact Grew.refl _ | assumption | refine Grew.alloc ?_ _ | refine Grew.grow ?_ _ | refine Grew.dr ?_ _ | refine Grew.drewN ?_ _ | refine Grew.drew ?_ | refine Grew.trans ?_ (Hid.out (by assumption)))) hg2 : Grew W1 W2)
  have HR2' := hide hr2
  clear hg2 hr2
  dsimp only
  go_wp2_with (go_at_call 20; (with_reducible refine (Safer_v (sa.map qtS) (sb.map qtS) sa.length sb.length B1 B2 c1 c2 is _ ((HR1.out.up HG12.out).up (by repeat (with_reducible first | exact Grew.refl _ | assumption | refine Grew.alloc ?_ _ | refine Grew.grow ?_ _ | refine Grew.dr ?_ _ | refine Grew.drewN ?_ _ | refine Grew.drew ?_ | refine Grew.trans ?_ (Hid.out (by assumption))))) (HR2'.out.up (by repeat (with_reducible first | exact Grew.refl _ | assumption | refine Grew.alloc ?_ _ | refine Grew.grow ?_ _ | refine Grew.dr ?_ _ | refine Grew.drewN ?_ _ | refine Grew.drew ?_ | refine Grew.trans ?_ (Hid.out (by assumption))))) HML.out HMB.out hc1 hc2 hca hcb HI2.out).mono ?_); rintro e w' ⟨rfl, ⟨_, _⟩, rfl⟩; dsimp only)
  refine (k6.out _ (HG1.out.trans (HG12.out.trans (by repeat (with_reducible first | exact Grew.refl _ | assumption | refine Grew.alloc ?_ _ | refine Grew.grow ?_ _ | refine Grew.dr ?_ _ | refine Grew.drewN ?_ _ | refine Grew.drew ?_ | refine Grew.trans ?_ (Hid.out (by assumption))))))).mono ?_
  rintro e W3 ⟨Ax, cx, rfl, hg3, _, _⟩
  have HG13 := hide (HG12.out.trans (Grew.trans (by repeat (with_reducible first | exact Grew.refl _ | assumption | refine Grew.alloc ?_ _ | refine Grew.grow ?_ _ | refine Grew.dr ?_ _ | refine Grew.drewN ?_ _ | refine Grew.drew ?_ | refine Grew.trans ?_ (Hid.out (by assumption)))) hg3) : Grew W1 W3)
  clear hg3
  dsimp only
  go_wp2_with fail
  refine (k4.out _ (HG1.out.trans (HG13.out.trans (by repeat (with_reducible first | exact Grew.refl _ | assumption | refine Grew.alloc ?_ _ | refine Grew.grow ?_ _ | refine Grew.dr ?_ _ | refine Grew.drewN ?_ _ | refine Grew.drew ?_ | refine Grew.trans ?_ (Hid.out (by assumption))))))).mono ?_
  rintro e W4 ⟨B3, c3, rfl, hc3, hg4, hr4⟩
  have HG14 := hide (HG13.out.trans (Grew.trans (by repeat (with_reducible first | exact Grew.refl _ | assumption | refine Grew.alloc ?_ _ | refine Grew.grow ?_ _ | refine Grew.dr ?_ _ | refine Grew.drewN ?_ _ | refine Grew.drew ?_ | refine Grew.trans ?_ (Hid.out (by assumption)))) hg4) : Grew W1 W4)
  have HR4 := hide hr4
  clear hg4 hr4
  dsimp only
  go_wp2_with fail
  refine (Normal_v (sa.map qtS) sa.length B3 c3 Y _ (HR4.out.up (by repeat (with_reducible first | exact Grew.refl _ | assumption | refine Grew.alloc ?_ _ | refine Grew.grow ?_ _ | refine Grew.dr ?_ _ | refine Grew.drewN ?_ _ | refine Grew.drew ?_ | refine Grew.trans ?_ (Hid.out (by assumption))))) HML.out hc3 hca HNY.out).mono ?_
  rintro e W5 ⟨Ay, cy, rfl, hg5, _, _⟩
  have HG15 := hide (HG14.out.trans (Grew.trans (by repeat (with_reducible first | exact Grew.refl _ | assumption | refine Grew.alloc ?_ _ | refine Grew.grow ?_ _ | refine Grew.dr ?_ _ | refine Grew.drewN ?_ _ | refine Grew.drew ?_ | refine Grew.trans ?_ (Hid.out (by assumption)))) hg5) : Grew W1 W5)
  have kb5 := (HG15.out.heap (blk_lt KB.out)).trans KB.out
  have g0 : W5.cell? ⟨w.heap.size, 0, none⟩ = _ := blk_cell kb5 0
  have g1 : W5.cell? ⟨w.heap.size, 1, none⟩ = _ := blk_cell kb5 1
  have gl := blk_lt kb5
  clear hg5 kb5
  dsimp only
  rcases hck with rfl | ⟨rfl, hd⟩
  · go_wp2_with (go_at_call 16; (with_reducible refine (k7.out _ (HG1.out.trans (HG15.out.trans (by repeat (with_reducible first | exact Grew.refl _ | assumption | refine Grew.alloc ?_ _ | refine Grew.grow ?_ _ | refine Grew.dr ?_ _ | refine Grew.drewN ?_ _ | refine Grew.drew ?_ | refine Grew.trans ?_ (Hid.out (by assumption))))))).mono ?_); rintro e w' ⟨rfl, ⟨_, _⟩, rfl⟩; dsimp only)
    all_goals go_ret
    all_goals exact Ret.mk' (ret_bool (by simp [*])) (HG1.out.trans (HG15.out.trans (by repeat (with_reducible first | exact Grew.refl _ | assumption | refine Grew.alloc ?_ _ | refine Grew.grow ?_ _ | refine Grew.dr ?_ _ | refine Grew.drewN ?_ _ | refine Grew.drew ?_ | refine Grew.trans ?_ (Hid.out (by assumption))))))
  · have hbd := dir_bd hd
    have e1 : IntKind.i64.wrap (-v2) = -v2 := by unfold IntKind.wrap; simp [IntKind.bits, IntKind.signed]; omega
    clear hd
    go_wp2_with (go_at_call 16; (with_reducible refine (k7.out _ (HG1.out.trans (HG15.out.trans (by repeat (with_reducible first | exact Grew.refl _ | assumption | refine Grew.alloc ?_ _ | refine Grew.grow ?_ _ | refine Grew.dr ?_ _ | refine Grew.drewN ?_ _ | refine Grew.drew ?_ | refine Grew.trans ?_ (Hid.out (by assumption))))))).mono ?_); rintro e w' ⟨rfl, ⟨_, _⟩, rfl⟩; dsimp only)
    refine wp_name ?_
    intro W6 hW
    have hg6 : Grew W5 W6 := by rw [← hW]; exact (by repeat (with_reducible first | exact Grew.refl _ | assumption | refine Grew.alloc ?_ _ | refine Grew.grow ?_ _ | refine Grew.dr ?_ _ | refine Grew.drewN ?_ _ | refine Grew.drew ?_ | refine Grew.trans ?_ (Hid.out (by assumption))))
    have kb6 := (hg6.heap (blk_lt ((HG15.out.heap (blk_lt KB.out)).trans KB.out))).trans ((HG15.out.heap (blk_lt KB.out)).trans KB.out)
    clear g0 g1 gl hW
    have g0 : W6.cell? ⟨w.heap.size, 0, none⟩ = _ := blk_cell kb6 0
    have g1 : W6.cell? ⟨w.heap.size, 1, none⟩ = _ := blk_cell kb6 1
    have gl := blk_lt kb6
    have HG6 := hide (HG1.out.trans (HG15.out.trans hg6))
    clear hg6 kb6
    refine E.wp_region_eff 9 [true, false, true, true, true, true, true, true] [1] hm (by kernel_rfl) (by simp only [E.pick, List.take, List.length_cons, List.length_nil, Nat.reduceAdd]; rfl) (by rfl) (by simp only [List.drop, List.take, List.length_cons, List.length_nil, Nat.reduceAdd, Nat.reduceSub]; rfl) (by simp only [List.drop]; rfl) ?_
    repeat (refine wpSteady_step (fun K hK => ?_); go_simp; first | (refine hK _ ?_; clear hK K) | (apply Exists.intro; refine ⟨fun _ => ?_, hK _ ?_⟩; (go_at_call 29; with_reducible exact at_any _ _ _); clear hK K))
    refine wpSteady_nil ?_
    refine E.wpE_ready [1] (by simp) (by kernel_rfl) ?_
    intro e he o ho W7 hg7
    obtain rfl := List.mem_singleton.1 he
    have HG7 := hide hg7
    clear hg7 he
    simp at ho
    subst ho
    go_simp
    refine (k4.out _ (HG6.out.trans (Grew.trans (by repeat (with_reducible first | exact Grew.refl _ | assumption | refine Grew.alloc ?_ _ | refine Grew.grow ?_ _ | refine Grew.dr ?_ _ | refine Grew.drewN ?_ _ | refine Grew.drew ?_ | refine Grew.trans ?_ (Hid.out (by assumption)))) HG7.out))).mono ?_
    rintro e W8 ⟨B4, c4, rfl, hc4, hg8, hr8⟩
    refine ⟨_, rfl, hg8.below.mono HG7.out.below.size, ?_⟩
    have HG8 := hide hg8
    have HR8 := hide hr8
    clear hg8 hr8
    refine E.wpE_nil fun W9 hg9 => ?_
    have HG9 := hide hg9
    clear hg9
    go_wp2_with (go_at_call 16; (with_reducible refine (Color_v (sa.map qtS) sa.length B4 c4 (-v2) v1 (ci, cj) _ ((HR8.out.up HG9.out).up (by repeat (with_reducible first | exact Grew.refl _ | assumption | refine Grew.alloc ?_ _ | refine Grew.grow ?_ _ | refine Grew.dr ?_ _ | refine Grew.drewN ?_ _ | refine Grew.drew ?_ | refine Grew.trans ?_ (Hid.out (by assumption))))) HML.out hc4 hca HR2.out).mono ?_); rintro e w' ⟨rfl, ⟨_, _⟩, rfl⟩; dsimp only)
    refine L.q2_normal ?_
    repeat (refine wpSteady_step (fun K hK => ?_); go_simp; first | (refine hK _ ?_; clear hK K) | (apply Exists.intro; refine ⟨fun _ => ?_, hK _ ?_⟩; (fail); clear hK K))
    refine wpSteady_nil ?_
    intro W10 hW3b
    have HG10 := hide hW3b
    clear hW3b
    go_wp2_with fail
    all_goals go_ret
    all_goals exact Ret.mk' (ret_bool (by simp [*])) (HG6.out.trans ((Grew.trans (by repeat (with_reducible first | exact Grew.refl _ | assumption | refine Grew.alloc ?_ _ | refine Grew.grow ?_ _ | refine Grew.dr ?_ _ | refine Grew.drewN ?_ _ | refine Grew.drew ?_ | refine Grew.trans ?_ (Hid.out (by assumption)))) HG7.out).trans (HG8.out.trans (HG9.out.trans (Grew.trans (by repeat (with_reducible first | exact Grew.refl _ | assumption | refine Grew.alloc ?_ _ | refine Grew.grow ?_ _ | refine Grew.dr ?_ _ | refine Grew.drewN ?_ _ | refine Grew.drew ?_ | refine Grew.trans ?_ (Hid.out (by assumption)))) HG10.out)))))
theorem turnedL_any (sa : List Sec) (A : Option Addr) (ca : Nat) (sb : List Sec) (B : Option Addr) (cb : Nat) (v1 v2 : Int) (w : World) (hra : Rd w w.heap.size 6 A (sa.map Sec.cells)) (hla : sa.length ≤ ca) (hca : sa.length ≤ 100000000000000)
    (hrb : Rd w w.heap.size 6 B (sb.map Sec.cells)) (hlb : sb.length ≤ cb) (hcb : sb.length ≤ 100000000000000) :
    Calls Try.prog 9 #[.slice A sa.length ca, .slice B sb.length cb, pt v1 v2] w (Ret w (.bool true)) := by
  cases ha : LValid sa
  · exact turnedL_no sa A ca sb B cb v1 v2 w hra hla hca hrb hlb hcb (by rw [ha]; rfl)
  · cases hb : LValid sb
    · exact turnedL_no sa A ca sb B cb v1 v2 w hra hla hca hrb hlb hcb (by rw [hb]; simp)
    · exact turnedL_yes sa A ca sb B cb v1 v2 w hra hla hca hrb hlb hcb ha hb
end Go.Proofs.Ytgcgaplhaglejaa
