/- The law PolyArea, walked. -/
import Derived.Test.YtdmlnmcaihodaaaPoz
import Derived.Test.YtdmlnmcaihodaaaArP
import Derived.Test.YtdmlnmcaihodaaaRegE
namespace Go.Proofs.Ytdmlnmcaihodaaa
set_option linter.unusedVariables false
set_option linter.unusedSimpArgs false
open Go.RowKit Go.Sort
attribute [local go_sem] Steady steadyUpon
attribute [local go_sem ↓] hs_dr lt_add_r lt_add_r2 lt_add_r3 lt_add_r4 lt_add_r5 lt_add_r6
attribute [local go_sem] cell?_gd frozen?_gd setCell_gd size_grow tape_grow cell?_grow' frozen?_grow' setCell_grow' grow_grow grow_dr grow_drew dr_dr dr_drew drew_dr dr_alloc dr_setCell dr_cell dr_frozen dr_tape dr_drawn
attribute [local irreducible] wpSteady

theorem flatQ_drop {α : Type} {f : α → List Value} {m : Nat} (hf : ∀ a, (f a).length = m) : ∀ (xs : List α) (k : Nat), (xs.flatMap f).drop (k * m) = (xs.drop k).flatMap f
  | [], k => by simp
  | x :: xs, 0 => by simp
  | x :: xs, k + 1 => by
    rw [List.drop_succ_cons, List.flatMap_cons, List.drop_append, hf, ← flatQ_drop hf xs k, show (k + 1) * m - m = k * m by rw [Nat.succ_mul]; omega]
    rw [List.drop_of_length_le (by rw [hf, Nat.succ_mul]; omega), List.nil_append]
def ltXY (a b : Pt) : Bool := decide (a.1 < b.1) || (decide (a.1 = b.1) && decide (a.2 < b.2))
def leastTo (q : List Pt) : Nat → Nat
  | 0 => 0
  | k + 1 => if ltXY (cor q k) (cor q (leastTo q k)) = true then k else leastTo q k
theorem leastTo_le (q : List Pt) : ∀ k, leastTo q k ≤ k
  | 0 => Nat.le_refl _
  | k + 1 => by
    unfold leastTo
    split
    · omega
    · have := leastTo_le q k; omega
theorem leastTo_lt (q : List Pt) (h : 0 < q.length) : ∀ k, k ≤ q.length → leastTo q k < q.length
  | 0, _ => h
  | k + 1, hk => by
    unfold leastTo
    split
    · omega
    · exact leastTo_lt q h k (by omega)
def erTo (ps : List Pt) (i k : Nat) : List Pt := (ps.take k).eraseIdx i
theorem erTo_ne {ps : List Pt} {i k : Nat} (hk : k < ps.length) (h : k ≠ i) : erTo ps i (k + 1) = erTo ps i k ++ [cor ps k] := by
  unfold erTo
  rw [List.take_add_one, cor_get hk]
  simp only [Option.toList_some]
  rcases Nat.lt_or_ge i k with h1 | h1
  · rw [List.eraseIdx_append_of_lt_length (by rw [List.length_take]; omega)]
  · rw [List.eraseIdx_of_length_le (l := List.take k ps) (by rw [List.length_take]; omega), List.eraseIdx_of_length_le (by simp; omega)]
theorem erTo_eq {ps : List Pt} {i : Nat} (hk : i < ps.length) : erTo ps i (i + 1) = erTo ps i i := by
  unfold erTo
  rw [List.take_add_one, cor_get hk]
  simp only [Option.toList_some]
  rw [List.eraseIdx_append_of_length_le (by rw [List.length_take]; omega), List.eraseIdx_of_length_le (l := List.take i ps) (by rw [List.length_take]; omega)]
  rw [List.length_take, Nat.min_eq_left (by omega), Nat.sub_self]
  simp
theorem erTo_len {ps : List Pt} {i k : Nat} : (erTo ps i k).length ≤ k := by
  unfold erTo
  exact Nat.le_trans (List.length_eraseIdx_le _ _) (List.length_take_le _ _)
theorem area_pos {ps : List Pt} (h : PValid ps = true) : 0 < twiceOf ps := by
  unfold PValid at h
  simp only [Bool.and_eq_true, decide_eq_true_eq] at h
  exact h.2.2.2
set_option maxRecDepth 100000 in
set_option maxHeartbeats 4000000 in
theorem polyArea_few (ps : List Pt) (A : Option Addr) (c : Nat) (by0 : Int) (w : World) (hr : Rd w w.heap.size 2 A (ps.map encD)) (hc : ps.length ≤ 100000000000000) (h : PValid ps = false ∨ ps.length < 4) :
    Calls Try.prog 3 #[.slice A ps.length c, .int .u8 by0] w (Ret w (.bool true)) := by
  have hm := hmix
  obtain ⟨v, hv⟩ : ∃ v, PValid ps = v := ⟨_, rfl⟩
  have hv2 := hv
  rw [hv] at h
  cases v
  · have k1 := hide (fun W (hg : Grew w W) => Area_v ps A c (0, 1) W (hr.up hg) hc (by unfold areaOf; rw [hv]; rfl))
    clear hv hr h
    go_enter Try.func3, Try.ntmps3
    go_wp2_with (first | (go_at_call 10; (with_reducible refine (head_v _).mono ?_); rintro e w' ⟨rfl, ⟨_, _⟩, rfl⟩; dsimp only) | (go_at_call 11; (with_reducible refine (k1.out _ (by repeat (with_reducible first | exact Grew.refl _ | assumption | refine Grew.alloc ?_ _ | refine Grew.grow ?_ _ | refine Grew.dr ?_ _ | refine Grew.drewN ?_ _ | refine Grew.drew ?_ | refine Grew.trans ?_ (Hid.out (by assumption))))).mono ?_); rintro e w' ⟨rfl, ⟨_, _⟩, rfl⟩; dsimp only))
    go_ret
    exact Ret.mk' rfl (by repeat (with_reducible first | exact Grew.refl _ | assumption | refine Grew.alloc ?_ _ | refine Grew.grow ?_ _ | refine Grew.dr ?_ _ | refine Grew.drewN ?_ _ | refine Grew.drew ?_ | refine Grew.trans ?_ (Hid.out (by assumption))))
  · have hp := area_pos hv
    have k1 := hide (fun W (hg : Grew w W) => Area_v ps A c (twiceOf ps, 0) W (hr.up hg) hc (by unfold areaOf; rw [hv]; rfl))
    have h4 : ps.length < 4 := by rcases h with h | h; cases h; exact h
    have h4' : (ps.length : Int) < 4 := by omega
    generalize twiceOf ps = a at *
    clear hv hr h hv2
    go_enter Try.func3, Try.ntmps3
    go_wp2_with (first | (go_at_call 10; (with_reducible refine (head_v _).mono ?_); rintro e w' ⟨rfl, ⟨_, _⟩, rfl⟩; dsimp only) | (go_at_call 11; (with_reducible refine (k1.out _ (by repeat (with_reducible first | exact Grew.refl _ | assumption | refine Grew.alloc ?_ _ | refine Grew.grow ?_ _ | refine Grew.dr ?_ _ | refine Grew.drewN ?_ _ | refine Grew.drew ?_ | refine Grew.trans ?_ (Hid.out (by assumption))))).mono ?_); rintro e w' ⟨rfl, ⟨_, _⟩, rfl⟩; dsimp only))
    go_ret
    exact Ret.mk' (by simp [hp]) (by repeat (with_reducible first | exact Grew.refl _ | assumption | refine Grew.alloc ?_ _ | refine Grew.grow ?_ _ | refine Grew.dr ?_ _ | refine Grew.drewN ?_ _ | refine Grew.drew ?_ | refine Grew.trans ?_ (Hid.out (by assumption))))
set_option maxRecDepth 100000 in
set_option maxHeartbeats 8000000 in
theorem polyArea_main (ps : List Pt) (A : Option Addr) (c : Nat) (by0 : Int) (w : World) (hr : Rd w w.heap.size 2 A (ps.map encD)) (hc : ps.length ≤ 100000000000000) (hb : 0 ≤ by0 ∧ by0 ≤ 255) (hv : PValid ps = true) (h4 : 4 ≤ ps.length) :
    Calls Try.prog 3 #[.slice A ps.length c, .int .u8 by0] w (Ret w (.bool true)) := by
  have hm := hmix
  obtain ⟨i0, hi0, hz0, hz1, hz2⟩ := info_parts ptInf
  have hp := area_pos hv
  have hpp := pv_parts hv
  have hab := sumI_bd hpp.2 (List.range ps.length)
  rw [List.length_range] at hab
  change -(2000000000000 * (ps.length : Int)) ≤ twiceOf ps ∧ twiceOf ps ≤ _ at hab
  have k1 := hide (fun W (hg : Grew w W) => Area_v ps A c (twiceOf ps, 0) W (hr.up hg) hc (by unfold areaOf; rw [hv]; rfl))
  have h4' : ¬ (ps.length : Int) < 4 := by omega
  have hn24 : ps.length ≤ 24 := hpp.1.2
  obtain ⟨i, hi⟩ : ∃ i : Nat, i = by0.toNat % ps.length := ⟨_, rfl⟩
  have hil : i < ps.length := by rw [hi]; exact Nat.mod_lt _ (by omega)
  have hie : by0 % (ps.length : Int) = (i : Int) := by
    have : by0 = ((by0.toNat : Nat) : Int) := by omega
    rw [hi, Int.natCast_emod, ← this]
  have hiw : IntKind.i64.wrap (by0 % (ps.length : Int)) = (i : Int) := by rw [hie]; unfold IntKind.wrap; simp [IntKind.bits, IntKind.signed]; omega
  clear hi
  have hne0 : ¬ (ps.length : Int) = 0 := by omega
  have hne1 : ¬ ps = [] := by intro e; rw [e] at h4; simp at h4
  have hcut := fun m => area_cut ps i m (by omega) hil
  have HCUT := hide hcut
  have HR := hide hr
  have HOK := hide hpp.2
  have HV := hide hv
  obtain ⟨a, ha⟩ : ∃ a, twiceOf ps = a := ⟨_, rfl⟩
  rw [ha] at k1 HCUT hp hab
  clear hcut hr hv hpp ha
  go_enter Try.func3, Try.ntmps3
  go_wp2_with (first | (go_at_call 10; (with_reducible refine (head_v _).mono ?_); rintro e w' ⟨rfl, ⟨_, _⟩, rfl⟩; dsimp only) | (go_at_call 11; (with_reducible refine (k1.out _ (by repeat (with_reducible first | exact Grew.refl _ | assumption | refine Grew.alloc ?_ _ | refine Grew.grow ?_ _ | refine Grew.dr ?_ _ | refine Grew.drewN ?_ _ | refine Grew.drew ?_ | refine Grew.trans ?_ (Hid.out (by assumption))))).mono ?_); rintro e w' ⟨rfl, ⟨_, _⟩, rfl⟩; dsimp only))
  refine wp_name ?_
  intro W0 hW
  have hg0 : Grew w W0 := by rw [← hW]; exact (by repeat (with_reducible first | exact Grew.refl _ | assumption | refine Grew.alloc ?_ _ | refine Grew.grow ?_ _ | refine Grew.dr ?_ _ | refine Grew.drewN ?_ _ | refine Grew.drew ?_ | refine Grew.trans ?_ (Hid.out (by assumption))))
  have HG0 := hide hg0
  have hr0 := HR.out.up hg0
  clear hW hg0
  obtain ⟨j1, hj1⟩ : ∃ j, (i + ps.length - 1) % ps.length = j := ⟨_, rfl⟩
  obtain ⟨j2, hj2⟩ : ∃ j, (i + 1) % ps.length = j := ⟨_, rfl⟩
  have hjl1 : j1 < ps.length := by rw [← hj1]; exact Nat.mod_lt _ (by omega)
  have hjl2 : j2 < ps.length := by rw [← hj2]; exact Nat.mod_lt _ (by omega)
  have px := cor_mod (ps := ps) (i + ps.length - 1) (by omega)
  have py := cor_get hil
  have pz := cor_mod (ps := ps) (i + 1) (by omega)
  rw [hj1] at px
  rw [hj2] at pz
  have ej1 : ((i : Int) + ps.length - 1) % (ps.length : Int) = (j1 : Int) := by rw [← hj1, show (i : Int) + ps.length - 1 = ((i + ps.length - 1 : Nat) : Int) by omega, Int.natCast_emod]
  have ej2 : ((i : Int) + 1) % (ps.length : Int) = (j2 : Int) := by rw [← hj2, show (i : Int) + 1 = ((i + 1 : Nat) : Int) by omega, Int.natCast_emod]
  have ox := cor_ok HOK.out (i + ps.length - 1)
  have oy := cor_ok HOK.out i
  have oz := cor_ok HOK.out (i + 1)
  obtain ⟨x, hx⟩ : ∃ x, cor ps (i + ps.length - 1) = x := ⟨_, rfl⟩
  obtain ⟨y, hy⟩ : ∃ x, cor ps i = x := ⟨_, rfl⟩
  obtain ⟨z, hz⟩ : ∃ x, cor ps (i + 1) = x := ⟨_, rfl⟩
  rw [hx] at px ox HCUT
  rw [hy] at py oy HCUT
  rw [hz] at pz oz HCUT
  obtain ⟨b, off, hA, hb0, x0, x1⟩ := ptAt hr0 px
  have hA1 := hA.out
  subst hA1
  obtain ⟨b', off', hA', hb', y0, y1⟩ := ptAt hr0 py
  obtain ⟨rfl, rfl⟩ : b = b' ∧ off = off' := by have := hA'.out; injection this with this; injection this with h1 h2; exact ⟨h1, h2⟩
  obtain ⟨b', off', hA'', hb'', z0, z1⟩ := ptAt hr0 pz
  obtain ⟨rfl, rfl⟩ : b = b' ∧ off = off' := by have := hA''.out; injection this with this; injection this with h1 h2; exact ⟨h1, h2⟩
  have hix1 := idx_run (cap := c) (k := j1) (len := ps.length) Try.underlying22 Try.sizeOf28 (A := some ⟨b, off, none⟩) rfl hjl1
  have hix2 := idx_run (cap := c) (k := i) (len := ps.length) Try.underlying22 Try.sizeOf28 (A := some ⟨b, off, none⟩) rfl hil
  have hix3 := idx_run (cap := c) (k := j2) (len := ps.length) Try.underlying22 Try.sizeOf28 (A := some ⟨b, off, none⟩) rfl hjl2
  obtain ⟨x1', x2'⟩ := x
  obtain ⟨y1', y2'⟩ := y
  obtain ⟨z1', z2'⟩ := z
  dsimp only at x0 x1 y0 y1 z0 z1 HCUT
  have bx := ok_bd ox
  have bY := ok_bd oy
  have bz := ok_bd oz
  dsimp only at bx bY bz
  clear hA hA' hA'' px py pz hj1 hj2 hx hy hz ox oy oz hie hr0 k1
  have hnn1 : 0 ≤ (i : Int) + ps.length - 1 := by omega
  have hnn2 : 0 ≤ (i : Int) + 1 := by omega
  have ew1 : IntKind.i64.wrap ((i : Int) + ps.length) = (i : Int) + ps.length := by unfold IntKind.wrap; simp [IntKind.bits, IntKind.signed]; omega
  have ew2 : IntKind.i64.wrap ((i : Int) + ps.length - 1) = (i : Int) + ps.length - 1 := by unfold IntKind.wrap; simp [IntKind.bits, IntKind.signed]; omega
  have ew3 : IntKind.i64.wrap ((i : Int) + 1) = (i : Int) + 1 := by unfold IntKind.wrap; simp [IntKind.bits, IntKind.signed]; omega
  rw [← Int.tmod_eq_emod_of_nonneg hnn1] at ej1
  rw [← Int.tmod_eq_emod_of_nonneg hnn2] at ej2
  refine wp_region_qas 26 [⟨20, 23, 10, 28, .agg #[.int .i64 0, .int .i64 0]⟩, ⟨21, 24, 11, 28, .agg #[.int .i64 0, .int .i64 0]⟩, ⟨22, 25, 12, 28, .agg #[.int .i64 0, .int .i64 0]⟩] [] hm (by kernel_rfl) (by simp only [List.take, List.filter, isQ]; rfl) (by simp only [List.drop]; rfl) (ZOk.cons Try.zeroValue28 Try.sizeOf28 (ZOk.cons Try.zeroValue28 Try.sizeOf28 (ZOk.cons Try.zeroValue28 Try.sizeOf28 ZOk.nil))) (by simp) ?_
  repeat (refine wpSteady_step (fun K hK => ?_); go_simp; first | (refine hK _ ?_; clear hK K) | (apply Exists.intro; refine ⟨fun _ => ?_, hK _ ?_⟩; (fail); clear hK K))
  refine wpSteady_nil ?_
  refine ⟨(StOk.cons (by rfl) (by simp [stOpnd, Act.eval, Value.cells, Value.oneCell']) (StOk.cons (by rfl) (by simp [stOpnd, Act.eval, Value.cells, Value.oneCell']) (StOk.cons (by rfl) (by simp [stOpnd, Act.eval, Value.cells, Value.oneCell']) StOk.nil))), LyOk.nil, ?_⟩
  rintro psq qsq Wq HWq HFq HBq
  obtain rfl : qsq = [] := HBq
  obtain ⟨p0, _, rfl, hp0, hb0, hn0, p1, _, rfl, hp1, hb1, hn1, p2, _, rfl, hp2, hb2, hn2, rfl⟩ := HFq
  simp only [putAll, putB, Act.put, List.setIfInBounds_toArray, List.set_cons_succ, List.set_cons_zero]
  simp [stOpnd, Act.eval, Value.cells] at hb0
  have gc0_0 : Wq.cell? ⟨p0, 0, none⟩ = some _ := blk_cell hb0 0
  have gc0_1 : Wq.cell? ⟨p0, 1, none⟩ = some _ := blk_cell hb0 1
  have gf0 := blk_frozen hb0
  have gl0 := blk_lt hb0
  simp [stOpnd, Act.eval, Value.cells] at hb1
  have gc1_0 : Wq.cell? ⟨p1, 0, none⟩ = some _ := blk_cell hb1 0
  have gc1_1 : Wq.cell? ⟨p1, 1, none⟩ = some _ := blk_cell hb1 1
  have gf1 := blk_frozen hb1
  have gl1 := blk_lt hb1
  simp [stOpnd, Act.eval, Value.cells] at hb2
  have gc2_0 : Wq.cell? ⟨p2, 0, none⟩ = some _ := blk_cell hb2 0
  have gc2_1 : Wq.cell? ⟨p2, 1, none⟩ = some _ := blk_cell hb2 1
  have gf2 := blk_frozen hb2
  have gl2 := blk_lt hb2
  have gp0 := hide hp0
  have gp1 := hide hp1
  have gp2 := hide hp2
  clear hb0 hn0 hp0 hb1 hn1 hp1 hb2 hn2 hp2
  have oc := old_cell HWq
  have of := old_frozen HWq
  have ol := old_lt HWq
  replace HWq := hide HWq
  have HBX : Hid ((Wq.cell? ⟨p0, 0, none⟩ = some (.int .i64 x1') ∧ Wq.cell? ⟨p0, 1, none⟩ = some (.int .i64 x2')) ∧ (Wq.cell? ⟨p1, 0, none⟩ = some (.int .i64 y1') ∧ Wq.cell? ⟨p1, 1, none⟩ = some (.int .i64 y2')) ∧ (Wq.cell? ⟨p2, 0, none⟩ = some (.int .i64 z1') ∧ Wq.cell? ⟨p2, 1, none⟩ = some (.int .i64 z2')) ∧ p0 < Wq.heap.size ∧ p1 < Wq.heap.size ∧ p2 < Wq.heap.size) := hide ⟨⟨gc0_0, gc0_1⟩, ⟨gc1_0, gc1_1⟩, ⟨gc2_0, gc2_1⟩, gl0, gl1, gl2⟩
  have HGQ : Hid (Grew w Wq) := hide (HG0.out.trans HWq.out)
  clear gc0_0 gc0_1 gc1_0 gc1_1 gc2_0 gc2_1 gf0 gf1 gf2 gl0 gl1 gl2 gp0 gp1 gp2 oc of ol HWq HG0 x0 x1 y0 y1 z0 z1 hix1 hix2 hix3 ew1 ew2 ew3 ej1 ej2 hnn1 hnn2 hb0 hb' hb'' hjl1 hjl2
  go_wp2_with fail
  go_loopw [13, 68] (fun v i' wr => ∃ k : Nat, k ≤ ps.length ∧ i' = .int .i64 k ∧ wr.ownsRow Wq.heap.size 28 2 v (erTo ps i k).length ((erTo ps i k).flatMap encD) ∧ Below Wq.heap.size Wq wr) (fun _ i _ => ps.length - (intOf i).toNat)
  case atStart => exact ⟨0, by omega, rfl, World.ownsRow_nil _ _ _ _, Below.refl _ _⟩
  case round =>
    obtain ⟨k, hk, rfl, hown, hbel⟩ := hrel
    have hwr := HGQ.out.trans (Grew.of_below hbel)
    have HWR := hide hwr
    have HBE := hide hbel
    have hrr := HR.out.up hwr
    have hel := erTo_len (ps := ps) (i := i) (k := k)
    have HO := hide hown
    clear hbel hwr hown
    by_cases hlt : k < ps.length
    · by_cases hki : k = i
      · subst hki
        have he := erTo_eq hlt
        have HE := hide he
        clear he hrr
        go_wp2_with fail
        go_roundw
        case rel => exact ⟨k + 1, by omega, by go_num, by rw [HE.out]; exact HO.out, HBE.out⟩
        case measure => simp [intOf]; omega
      · have hki' : ¬ (k : Int) = (i : Int) := by omega
        have he := erTo_ne hlt hki
        have hp := cor_get hlt
        obtain ⟨p, hpq⟩ : ∃ p, cor ps k = p := ⟨_, rfl⟩
        rw [hpq] at hp he
        obtain ⟨b', off', hA', hb0, h0, h1⟩ := ptAt hrr hp
        obtain ⟨rfl, rfl⟩ : b = b' ∧ off = off' := by have := hA'.out; injection this with this; injection this with h1 h2; exact ⟨h1, h2⟩
        have hix := idx_run (cap := c) (k := k) (len := ps.length) Try.underlying22 Try.sizeOf28 (A := some ⟨b, off, none⟩) rfl hlt
        have HE := hide he
        obtain ⟨p1', p2'⟩ := p
        dsimp only at h0 h1
        clear he hp hpq hA' hrr
        go_wp2_with (at_builtin; refine wpList_append_own _ rfl (.tmp 74) (.tmp 79) 22 rfl Wq.heap.size 28 i0 _ 2 16 Try.underlying22 hi0 hz0 hz1 hz2 (by rfl) (by omega) _ (erTo ps i k).length _ (by rfl) (ow_grew HO.out (by repeat (with_reducible first | exact Grew.refl _ | assumption | refine Grew.alloc ?_ _ | refine Grew.grow ?_ _ | refine Grew.dr ?_ _ | refine Grew.drewN ?_ _ | refine Grew.drew ?_ | refine Grew.trans ?_ (Hid.out (by assumption))))) ⟨wr.heap.size, 0, none⟩ 1 1 (encD (p1', p2')) (by rfl) (by rfl) (fun j x hx => by rw [add_at, Nat.zero_add]; exact (blk_cell (heap_alloc_new _ _) j).trans (by match j, hx with | 0, hx => exact hx | 1, hx => exact hx)) (fun x hx => by simp [encD] at hx; rcases hx with rfl | rfl <;> rfl) (by unfold maxLen; omega) (by omega) (by have := HBE.out.size; simp; omega) ?_; intro v' w1 hown1 hg1 _)
        have hb9 := (HBE.out.alloc HBE.out.size (.cells #[.int .i64 p1', .int .i64 p2'] 28)).grown hg1 (HBE.out.alloc HBE.out.size _).size (fun q hq => (HO.out.lt q hq).1)
        refine ⟨⟨k + 1, by omega, by go_num, ?_, hb9⟩, by simp [intOf]; omega⟩
        rw [HE.out, List.length_append, List.flatMap_append]
        simpa using hown1
    · obtain rfl : k = ps.length := by omega
      have hq : erTo ps i ps.length = ps.eraseIdx i := by unfold erTo; rw [List.take_length]
      rw [hq] at HO
      have hql : (ps.eraseIdx i).length = ps.length - 1 := by rw [List.length_eraseIdx_of_lt hil]
      obtain ⟨q, hqq⟩ : ∃ q, ps.eraseIdx i = q := ⟨_, rfl⟩
      rw [hqq] at HO hql HCUT
      obtain ⟨A6, c6, rfl, hc6, hrd6⟩ := Rd.of_own (f := encD) encD_len HO.out rfl
      obtain ⟨g6, rfl⟩ : ∃ g6, A6 = some ⟨g6, 0, none⟩ := by
        obtain ⟨n, hn⟩ : ∃ n, q.length = n + 1 := ⟨q.length - 1, by omega⟩
        have h9 := HO.out
        rw [hn] at h9
        obtain ⟨g2, cap2, h9⟩ := ownsRow_succ h9
        injection h9 with h9
        exact ⟨g2, h9⟩
      have HRD := hide hrd6
      have hq3 : 3 ≤ q.length := by omega
      have hq24 : q.length ≤ 24 := by omega
      have HQQ := hide hqq
      clear hrd6 hrr hel hq hqq hql hlt
      obtain ⟨WA, rfl⟩ : ∃ x, x = wr := ⟨_, rfl⟩
      go_wp2_with fail
      go_loopw [15, 84] (fun l i' w2 => ∃ k : Nat, k ≤ q.length ∧ i' = .int .i64 k ∧ l = .int .i64 (leastTo q k : Nat) ∧ Grew WA w2) (fun _ i _ => q.length - (intOf i).toNat)
      case atStart => exact ⟨0, by omega, rfl, rfl, Grew.refl _⟩
      case round =>
        obtain ⟨k, hk, rfl, rfl, hg2⟩ := hrel
        have HG2 := hide hg2
        have hrr := HRD.out.up hg2
        clear hg2
        by_cases hlt : k < q.length
        · have hml := leastTo_lt q (by omega) k hk
          have hst : leastTo q (k + 1) = if ltXY (cor q k) (cor q (leastTo q k)) = true then k else leastTo q k := rfl
          obtain ⟨m, hm0⟩ : ∃ m, leastTo q k = m := ⟨_, rfl⟩
          rw [hm0] at hml hst ⊢
          have hp := cor_get hlt
          have hpm := cor_get hml
          obtain ⟨p, hpp⟩ : ∃ p, cor q k = p := ⟨_, rfl⟩
          obtain ⟨u, huu⟩ : ∃ p, cor q m = p := ⟨_, rfl⟩
          rw [hpp] at hp hst
          rw [huu] at hpm hst
          obtain ⟨b', off', hA', hb0, h0, h1⟩ := ptAt hrr hp
          obtain ⟨rfl, rfl⟩ : g6 = b' ∧ 0 = off' := by have := hA'.out; injection this with this; injection this with h1 h2; exact ⟨h1, h2⟩
          obtain ⟨b2, off2, hA'', hb2, h2, h3⟩ := ptAt hrr hpm
          obtain ⟨rfl, rfl⟩ : g6 = b2 ∧ 0 = off2 := by have := hA''.out; injection this with this; injection this with h1 h2; exact ⟨h1, h2⟩
          have hix := idx_run (cap := c6) (k := k) (len := q.length) Try.underlying22 Try.sizeOf28 (A := some ⟨g6, 0, none⟩) rfl hlt
          have hix2 := idx_run (cap := c6) (k := m) (len := q.length) Try.underlying22 Try.sizeOf28 (A := some ⟨g6, 0, none⟩) rfl hml
          obtain ⟨p1', p2'⟩ := p
          obtain ⟨u1', u2'⟩ := u
          have hcase : (p1' < u1' ∧ leastTo q (k + 1) = k) ∨ (p1' = u1' ∧ p2' < u2' ∧ leastTo q (k + 1) = k) ∨ (p1' = u1' ∧ ¬ p2' < u2' ∧ leastTo q (k + 1) = m) ∨ (u1' < p1' ∧ leastTo q (k + 1) = m) := by
            rw [hst]
            unfold ltXY
            dsimp only
            rcases Int.lt_trichotomy p1' u1' with h | h | h
            · exact .inl ⟨h, by simp [h]⟩
            · by_cases h2 : p2' < u2'
              · exact .inr (.inl ⟨h, h2, by simp [h, h2]⟩)
              · exact .inr (.inr (.inl ⟨h, h2, by simp [h, h2]⟩))
            · exact .inr (.inr (.inr ⟨h, by rw [if_neg]; simp; omega⟩))
          dsimp only at h0 h1 h2 h3
          simp only [Nat.zero_add] at h0 h1 h2 h3 hix hix2
          clear hp hpm hst hpp huu hA' hA'' hrr hm0
          rcases hcase with ⟨e1, he⟩ | ⟨rfl, e2, he⟩ | ⟨rfl, e2, he⟩ | ⟨e1, he⟩
          · have HE := hide he
            clear he
            go_wp2_with fail
            refine wp_region_qas 37 [] [] hm (by kernel_rfl) (by simp only [List.take, List.filter, isQ]; rfl) (by simp only [List.drop]; rfl) ZOk.nil (by simp) ?_
            repeat (refine wpSteady_step (fun K hK => ?_); go_simp; first | (refine hK _ ?_; clear hK K) | (apply Exists.intro; refine ⟨fun _ => ?_, hK _ ?_⟩; (fail); clear hK K))
            refine wpSteady_nil ?_
            refine ⟨StOk.nil, LyOk.nil, ?_⟩
            rintro psq qsq Wq HWq HFq HBq
            obtain rfl : qsq = [] := HBq
            obtain rfl : psq = [] := HFq
            obtain ⟨⟨nq, osq⟩, rfl⟩ := HWq
            simp only [putAll, putB, Act.put, List.setIfInBounds_toArray, List.set_cons_succ, List.set_cons_zero]
            try dsimp only
            go_wp2_with fail
            go_roundw
            case rel => exact ⟨k + 1, by omega, by go_num, by rw [HE.out], HG2.out.trans (by repeat (with_reducible first | exact Grew.refl _ | assumption | refine Grew.alloc ?_ _ | refine Grew.grow ?_ _ | refine Grew.dr ?_ _ | refine Grew.drewN ?_ _ | refine Grew.drew ?_ | refine Grew.trans ?_ (Hid.out (by assumption))))⟩
            case measure => simp [intOf]; omega
          · have HE := hide he
            clear he
            go_wp2_with fail
            refine wp_region_qas 37 [] [] hm (by kernel_rfl) (by simp only [List.take, List.filter, isQ]; rfl) (by simp only [List.drop]; rfl) ZOk.nil (by simp) ?_
            repeat (refine wpSteady_step (fun K hK => ?_); go_simp; first | (refine hK _ ?_; clear hK K) | (apply Exists.intro; refine ⟨fun _ => ?_, hK _ ?_⟩; (fail); clear hK K))
            refine wpSteady_nil ?_
            refine ⟨StOk.nil, LyOk.nil, ?_⟩
            rintro psq qsq Wq HWq HFq HBq
            obtain rfl : qsq = [] := HBq
            obtain rfl : psq = [] := HFq
            obtain ⟨⟨nq, osq⟩, rfl⟩ := HWq
            simp only [putAll, putB, Act.put, List.setIfInBounds_toArray, List.set_cons_succ, List.set_cons_zero]
            try dsimp only
            go_wp2_with fail
            go_roundw
            case rel => exact ⟨k + 1, by omega, by go_num, by rw [HE.out], HG2.out.trans (by repeat (with_reducible first | exact Grew.refl _ | assumption | refine Grew.alloc ?_ _ | refine Grew.grow ?_ _ | refine Grew.dr ?_ _ | refine Grew.drewN ?_ _ | refine Grew.drew ?_ | refine Grew.trans ?_ (Hid.out (by assumption))))⟩
            case measure => simp [intOf]; omega
          · have HE := hide he
            clear he
            go_wp2_with fail
            refine wp_region_qas 37 [] [] hm (by kernel_rfl) (by simp only [List.take, List.filter, isQ]; rfl) (by simp only [List.drop]; rfl) ZOk.nil (by simp) ?_
            repeat (refine wpSteady_step (fun K hK => ?_); go_simp; first | (refine hK _ ?_; clear hK K) | (apply Exists.intro; refine ⟨fun _ => ?_, hK _ ?_⟩; (fail); clear hK K))
            refine wpSteady_nil ?_
            refine ⟨StOk.nil, LyOk.nil, ?_⟩
            rintro psq qsq Wq HWq HFq HBq
            obtain rfl : qsq = [] := HBq
            obtain rfl : psq = [] := HFq
            obtain ⟨⟨nq, osq⟩, rfl⟩ := HWq
            simp only [putAll, putB, Act.put, List.setIfInBounds_toArray, List.set_cons_succ, List.set_cons_zero]
            try dsimp only
            go_wp2_with fail
            go_roundw
            case rel => exact ⟨k + 1, by omega, by go_num, by rw [HE.out], HG2.out.trans (by repeat (with_reducible first | exact Grew.refl _ | assumption | refine Grew.alloc ?_ _ | refine Grew.grow ?_ _ | refine Grew.dr ?_ _ | refine Grew.drewN ?_ _ | refine Grew.drew ?_ | refine Grew.trans ?_ (Hid.out (by assumption))))⟩
            case measure => simp [intOf]; omega
          · have e3 : (p1' == u1') = false := by rw [beq_eq_false_iff_ne]; omega
            have e4 : ¬ p1' < u1' := by omega
            have HE := hide he
            clear he
            go_wp2_with fail
            refine wp_region_qas 37 [] [] hm (by kernel_rfl) (by simp only [List.take, List.filter, isQ]; rfl) (by simp only [List.drop]; rfl) ZOk.nil (by simp) ?_
            repeat (refine wpSteady_step (fun K hK => ?_); go_simp; first | (refine hK _ ?_; clear hK K) | (apply Exists.intro; refine ⟨fun _ => ?_, hK _ ?_⟩; (fail); clear hK K))
            refine wpSteady_nil ?_
            refine ⟨StOk.nil, LyOk.nil, ?_⟩
            rintro psq qsq Wq HWq HFq HBq
            obtain rfl : qsq = [] := HBq
            obtain rfl : psq = [] := HFq
            obtain ⟨⟨nq, osq⟩, rfl⟩ := HWq
            simp only [putAll, putB, Act.put, List.setIfInBounds_toArray, List.set_cons_succ, List.set_cons_zero]
            try dsimp only
            go_wp2_with fail
            go_roundw
            case rel => exact ⟨k + 1, by omega, by go_num, by rw [HE.out], HG2.out.trans (by repeat (with_reducible first | exact Grew.refl _ | assumption | refine Grew.alloc ?_ _ | refine Grew.grow ?_ _ | refine Grew.dr ?_ _ | refine Grew.drewN ?_ _ | refine Grew.drew ?_ | refine Grew.trans ?_ (Hid.out (by assumption))))⟩
            case measure => simp [intOf]; omega
        · obtain rfl : k = q.length := by omega
          have hlm := leastTo_lt q (by omega) q.length (Nat.le_refl _)
          obtain ⟨m, hm0⟩ : ∃ m, leastTo q q.length = m := ⟨_, rfl⟩
          rw [hm0] at hlm ⊢
          clear hm0 hlt hrr
          go_wp2_with fail
          refine wp_name ?_
          intro W2 hW
          have hg2 : Grew WA W2 := by rw [← hW]; exact HG2.out.trans (by repeat (with_reducible first | exact Grew.refl _ | assumption | refine Grew.alloc ?_ _ | refine Grew.grow ?_ _ | refine Grew.dr ?_ _ | refine Grew.drewN ?_ _ | refine Grew.drew ?_ | refine Grew.trans ?_ (Hid.out (by assumption))))
          have hw2 : Grew w W2 := HWR.out.trans hg2
          have HW2 := hide hw2
          have HRD2 := hide (HRD.out.up hg2)
          have hbq : Hid (Grew Wq W2) := hide ((Grew.of_below HBE.out).trans hg2)
          clear hW hg2 hw2
          have hcm : ¬ c6 = m := by omega
          have hmle : m ≤ q.length := by omega
          have hmc : m ≤ c6 := by omega
          have hmi : (m : Int) ≤ q.length := by omega
          have hmi0 : (0 : Int) ≤ m := by omega
          refine E.wp_region_eff 10 [false, true, true, true, false, true, true, true, false] [0, 4, 8] hm (by kernel_rfl) (by simp only [E.pick, List.take, List.length_cons, List.length_nil, Nat.reduceAdd]; rfl) (by rfl) (by simp only [List.drop, List.take, List.length_cons, List.length_nil, Nat.reduceAdd, Nat.reduceSub]; rfl) (by simp only [List.drop]; rfl) ?_
          repeat (refine wpSteady_step (fun K hK => ?_); go_simp; first | (refine hK _ ?_; clear hK K) | (apply Exists.intro; refine ⟨fun _ => ?_, hK _ ?_⟩; (fail); clear hK K))
          refine wpSteady_nil ?_
          refine E.wpE_ready [0] (by simp) (by kernel_rfl) ?_
          intro e he o ho W3 hg3
          obtain rfl := List.mem_singleton.1 he
          have HG3 := hide hg3
          clear hg3 he
          simp at ho
          subst ho
          go_simp
          refine ⟨(Below.refl _ _).alloc HG3.out.below.size _, ?_⟩
          refine E.wpE_ready [4] (by simp) (by kernel_rfl) ?_
          intro e he o ho W4 hg4
          obtain rfl := List.mem_singleton.1 he
          have HG4 := hide hg4
          clear hg4 he
          simp at ho
          subst ho
          have hr0 := (HRD2.out.up (HG3.out.trans (Grew.trans (by repeat (with_reducible first | exact Grew.refl _ | assumption | refine Grew.alloc ?_ _ | refine Grew.grow ?_ _ | refine Grew.dr ?_ _ | refine Grew.drewN ?_ _ | refine Grew.drew ?_ | refine Grew.trans ?_ (Hid.out (by assumption)))) HG4.out))).reads encD_len (by omega)
          refine E.effUpon_append (.tmp 127) (.tmp 130) 22 rfl W2.heap.size 28 i0 _ 2 16 Try.underlying22 hi0 hz0 hz1 hz2 (by rfl) (by omega) _ 0 [] (by rfl) (ow_grew (World.ownsRow_lit (base := W2.heap.size) (e := 28) (size := 2) W3 #[] 0 HG3.out.below.size (by unfold maxLen; omega) rfl) HG4.out) W4.heap.size (some ⟨g6, m * 2, none⟩) (q.length - m) (c6 - m) ((q.drop m).flatMap encD) (by rfl) (by
            have := hr0.cut (k := m) (cap := c6) (by omega) hc6
            rw [if_neg hcm, flatQ_drop encD_len] at this
            simpa [add_at] using this) (enc_one _) (by unfold maxLen; omega) (by omega) (HG3.out.trans (Grew.trans (by repeat (with_reducible first | exact Grew.refl _ | assumption | refine Grew.alloc ?_ _ | refine Grew.grow ?_ _ | refine Grew.dr ?_ _ | refine Grew.drewN ?_ _ | refine Grew.drew ?_ | refine Grew.trans ?_ (Hid.out (by assumption)))) HG4.out)).below.size (Nat.le_refl _) ?_
          intro u1 W5 hown5 hb5
          have HB5 := hide hb5
          have HO5 := hide hown5
          clear hr0 hb5 hown5
          refine E.wpE_ready [8] (by simp) (by kernel_rfl) ?_
          intro e he o ho W6 hg6
          obtain rfl := List.mem_singleton.1 he
          have HG6 := hide hg6
          clear hg6 he
          simp at ho
          subst ho
          have hg24 : Grew W2 W4 := (Grew.drew (Grew.refl W2)).trans (HG3.out.trans (Grew.trans (by repeat (with_reducible first | exact Grew.refl _ | assumption | refine Grew.alloc ?_ _ | refine Grew.grow ?_ _ | refine Grew.dr ?_ _ | refine Grew.drewN ?_ _ | refine Grew.drew ?_ | refine Grew.trans ?_ (Hid.out (by assumption)))) HG4.out))
          have hg26 : Grew W2 W6 := (Grew.of_below (hg24.below.trans HB5.out)).trans HG6.out
          have hr1 := (HRD2.out.take m).up hg26
          rw [← List.map_take] at hr1
          have hr2 := hr1.reads encD_len (by omega)
          rw [List.length_take, Nat.min_eq_left hmle] at hr2
          refine E.effUpon_append (.tmp 131) (.tmp 134) 22 rfl W2.heap.size 28 i0 _ 2 16 Try.underlying22 hi0 hz0 hz1 hz2 (by rfl) (by omega) u1 _ _ (by rfl) (ow_grew HO5.out HG6.out) W6.heap.size (some ⟨g6, 0, none⟩) m c6 ((q.take m).flatMap encD) (by rfl) hr2 (enc_one _) (by unfold maxLen; omega) (by omega) hg26.below.size (Nat.le_refl _) ?_
          intro u2 W7 hown7 hb7
          have hown7' : W7.ownsRow W2.heap.size 28 2 u2 (q.drop m ++ q.take m).length ((q.drop m ++ q.take m).flatMap encD) := by
            rw [List.flatMap_append]
            have e : 0 + (q.length - m) + m = (q.drop m ++ q.take m).length := by simp; omega
            rw [← e]
            simpa using hown7
          obtain ⟨A7, c7, rfl, hc7, hrd⟩ := Rd.of_own (f := encD) encD_len hown7' rfl
          have hg27 : Grew W2 W7 := Grew.of_below (hg26.below.trans hb7)
          have hrl : (q.drop m ++ q.take m).length ≤ 24 := by simp; omega
          have hcm2 := HCUT.out m
          obtain ⟨rot, hrot⟩ : ∃ r, q.drop m ++ q.take m = r := ⟨_, rfl⟩
          rw [hrot] at hrd hown7' hrl hcm2 ⊢
          obtain ⟨v, hv⟩ : ∃ v, PValid rot = v := ⟨_, rfl⟩
          have HRD7 := hide hrd
          have HG27 := hide hg27
          obtain ⟨⟨s0, s1⟩, ⟨s2, s3⟩, ⟨s4, s5⟩, l0, l1, l2⟩ := HBX.out
          have hq7 : Grew Wq W7 := hbq.out.trans hg27
          have HW7 := hide (HW2.out.trans hg27)
          have oc := old_cell hq7
          have t0 := (oc p0 0 l0).trans s0
          have t1 := (oc p0 1 l0).trans s1
          have t2 := (oc p1 0 l1).trans s2
          have t3 := (oc p1 1 l1).trans s3
          have t4 := (oc p2 0 l2).trans s4
          have t5 := (oc p2 1 l2).trans s5
          have m0 := Nat.lt_of_lt_of_le l0 hq7.below.size
          have m1 := Nat.lt_of_lt_of_le l1 hq7.below.size
          have m2 := Nat.lt_of_lt_of_le l2 hq7.below.size
          clear hr1 hr2 hg24 hg26 hown7 hown7' hb7 hrd hg27 hq7 oc s0 s1 s2 s3 s4 s5 l0 l1 l2 HB5 HO5 hrot
          refine E.wpE_nil fun W8 hg8 => ?_
          have HG8 := hide hg8
          clear hg8
          cases v
          · have k3 := hide (fun W (hg : Grew W7 W) => Area_v rot A7 c7 (0, 1) W (HRD7.out.up hg) (by omega) (by unfold areaOf; rw [hv]; rfl))
            clear hv hcm2
            go_wp2_with (go_at_call 11; (with_reducible refine (k3.out _ (HG8.out.trans (by repeat (with_reducible first | exact Grew.refl _ | assumption | refine Grew.alloc ?_ _ | refine Grew.grow ?_ _ | refine Grew.dr ?_ _ | refine Grew.drewN ?_ _ | refine Grew.drew ?_ | refine Grew.trans ?_ (Hid.out (by assumption)))))).mono ?_); rintro e w' ⟨rfl, ⟨_, _⟩, rfl⟩; dsimp only)
            refine L.q2_normal ?_
            repeat (refine wpSteady_step (fun K hK => ?_); go_simp; first | (refine hK _ ?_; clear hK K) | (apply Exists.intro; refine ⟨fun _ => ?_, hK _ ?_⟩; (fail); clear hK K))
            refine wpSteady_nil ?_
            intro W9 hW3b
            have HG9 := hide hW3b
            clear hW3b
            go_wp2_with fail
            go_ret
            exact Ret.mk' (by simp [hp]) (HW7.out.trans (HG8.out.trans (Grew.trans (by repeat (with_reducible first | exact Grew.refl _ | assumption | refine Grew.alloc ?_ _ | refine Grew.grow ?_ _ | refine Grew.dr ?_ _ | refine Grew.drewN ?_ _ | refine Grew.drew ?_ | refine Grew.trans ?_ (Hid.out (by assumption)))) HG9.out)))
          · have k3 := hide (fun W (hg : Grew W7 W) => Area_v rot A7 c7 (twiceOf rot, 0) W (HRD7.out.up hg) (by omega) (by unfold areaOf; rw [hv]; rfl))
            have hrb := sumI_bd (pv_parts hv).2 (List.range rot.length)
            rw [List.length_range] at hrb
            change -(2000000000000 * (rot.length : Int)) ≤ twiceOf rot ∧ twiceOf rot ≤ _ at hrb
            obtain ⟨tw, htw⟩ : ∃ t, twiceOf rot = t := ⟨_, rfl⟩
            rw [htw] at k3 hcm2 hrb
            have hb1 : -4000000000000 ≤ (y1' - x1') * (z2' - x2') ∧ (y1' - x1') * (z2' - x2') ≤ 4000000000000 := mul_bd 2000000 2000000 (by omega) (by omega)
            have hb2 : -4000000000000 ≤ (y2' - x2') * (z1' - x1') ∧ (y2' - x2') * (z1' - x1') ≤ 4000000000000 := mul_bd 2000000 2000000 (by omega) (by omega)
            have htb : -48000000000000 ≤ tw ∧ tw ≤ 48000000000000 := by omega
            have hta : -48000000000000 ≤ a ∧ a ≤ 48000000000000 := by omega
            clear hv htw hrb
            go_wp2_with (go_at_call 11; (with_reducible refine (k3.out _ (HG8.out.trans (by repeat (with_reducible first | exact Grew.refl _ | assumption | refine Grew.alloc ?_ _ | refine Grew.grow ?_ _ | refine Grew.dr ?_ _ | refine Grew.drewN ?_ _ | refine Grew.drew ?_ | refine Grew.trans ?_ (Hid.out (by assumption)))))).mono ?_); rintro e w' ⟨rfl, ⟨_, _⟩, rfl⟩; dsimp only)
            refine L.q2_normal ?_
            repeat (refine wpSteady_step (fun K hK => ?_); go_simp; first | (refine hK _ ?_; clear hK K) | (apply Exists.intro; refine ⟨fun _ => ?_, hK _ ?_⟩; (fail); clear hK K))
            refine wpSteady_nil ?_
            intro W9 hW3b
            have HG9 := hide hW3b
            have hg79 : Grew W7 W9 := HG8.out.trans (Grew.trans (by repeat (with_reducible first | exact Grew.refl _ | assumption | refine Grew.alloc ?_ _ | refine Grew.grow ?_ _ | refine Grew.dr ?_ _ | refine Grew.drewN ?_ _ | refine Grew.drew ?_ | refine Grew.trans ?_ (Hid.out (by assumption)))) hW3b)
            have oc9 := old_cell hg79
            have r0 := (oc9 p0 0 m0).trans t0
            have r1 := (oc9 p0 1 m0).trans t1
            have r2 := (oc9 p1 0 m1).trans t2
            have r3 := (oc9 p1 1 m1).trans t3
            have r4 := (oc9 p2 0 m2).trans t4
            have r5 := (oc9 p2 1 m2).trans t5
            clear oc9 hW3b t0 t1 t2 t3 t4 t5
            have HG79 := hide hg79
            have HC2 := hide hcm2
            clear hg79 hcm2
            go_wp2_with fail
            go_ret
            exact Ret.mk' (by simp [hp, HC2.out]) (HW7.out.trans HG79.out)
theorem polyArea_any (ps : List Pt) (A : Option Addr) (c : Nat) (by0 : Int) (w : World) (hr : Rd w w.heap.size 2 A (ps.map encD)) (hc : ps.length ≤ 100000000000000) (hby : (Lit.int .u8 by0).wf = true) :
    Calls Try.prog 3 #[.slice A ps.length c, .int .u8 by0] w (Ret w (.bool true)) := by
  have hb : 0 ≤ by0 ∧ by0 ≤ 255 := by
    have h1 : IntKind.u8.min = 0 := rfl
    have h2 : IntKind.u8.max = 255 := rfl
    simp only [Lit.wf, Bool.and_eq_true, decide_eq_true_eq] at hby
    omega
  cases h1 : PValid ps
  · exact polyArea_few ps A c by0 w hr hc (.inl h1)
  · by_cases h4 : ps.length < 4
    · exact polyArea_few ps A c by0 w hr hc (.inr h4)
    · exact polyArea_main ps A c by0 w hr hc hb h1 (by omega)
end Go.Proofs.Ytdmlnmcaihodaaa
