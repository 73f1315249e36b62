/- Package transport: root, carry, grown. -/
import Derived.Test.YtpfpamopmncifaaGreatTsL
import Derived.Test.YtpfpamopmncifaaGreatTsB
import Derived.Test.YtpfpamopmncifaaGreatTsP
set_option linter.unusedSimpArgs false
set_option linter.unusedVariables false
set_option maxHeartbeats 4000000
set_option maxRecDepth 100000
namespace Go.Proofs.YtpfpamopmncifaaGreat
open Go.RowKit Go.Sort
attribute [local go_sem] Steady steadyUpon
attribute [local go_sem ↓] hs_dr lt_add_r lt_add_r2 lt_add_r3 lt_add_r4 lt_add_r5 lt_add_r6
attribute [local go_sem] cell?_gd frozen?_gd setCell_gd size_grow tape_grow cell?_grow' frozen?_grow' setCell_grow' grow_grow grow_dr grow_drew dr_dr dr_drew drew_dr dr_alloc dr_setCell dr_cell dr_frozen dr_tape dr_drawn
attribute [local irreducible] wpSteady
attribute [local go_sem ↓] run_max2i run_min2i run_max4i
def rootP (n s : Int) : Prop := 0 ≤ s ∧ n ≤ s * s ∧ (s = 0 ∨ (s - 1) * (s - 1) < n)
theorem root_le {n s t : Int} (hs : rootP n s) (ht : rootP n t) : s ≤ t := by
 obtain ⟨h1, h2, h3⟩ := hs
 obtain ⟨g1, g2, g3⟩ := ht
 rcases Int.lt_or_le t s with h | h
 ·rcases h3 with rfl | h3
  ·omega
  ·have : t * t ≤ (s - 1) * (s - 1) := Int.mul_le_mul (by omega) (by omega) g1 (by omega)
   omega
 ·exact h
theorem root_eq {n s t : Int} (hs : rootP n s) (ht : rootP n t) : s = t := by
 have := root_le hs ht
 have := root_le ht hs
 omega
theorem root_ex' : ∀ (k : Nat) (n : Int), n ≤ (k : Int) * k → ∃ s, rootP n s
 | 0, n, h => ⟨0, by omega, by simpa using h, .inl rfl⟩
 | k + 1, n, h => by
  rcases Int.lt_or_le ((k : Int) * k) n with g | g
  ·refine ⟨(k : Int) + 1, by omega, by simpa using h, .inr ?_⟩
   rw [show (k : Int) + 1 - 1 = k by omega]
   exact g
  ·exact root_ex' k n g
theorem root_ex {n : Int} (h : n ≤ 25000000000000) : ∃ s, rootP n s ∧ s ≤ 5000000 := by
 obtain ⟨s, hs⟩ := root_ex' 5000000 n (by omega)
 refine ⟨s, hs, ?_⟩
 obtain ⟨h1, h2, h3⟩ := hs
 rcases Int.lt_or_le 5000000 s with g | g
 ·rcases h3 with rfl | h3
  ·omega
  ·have : (5000000 : Int) * 5000000 ≤ (s - 1) * (s - 1) := Int.mul_le_mul (by omega) (by omega) (by omega) (by omega)
   omega
 ·exact g
theorem root1_v (n free : Int) (B : Nat) (r : Bool) (w : World) (hB : Boxed w B 3 (.int .i64 free)) (hn : 0 ≤ n ∧ n ≤ 5000000) (h : decide (free ≤ n * n) = r) :
  Calls Tryz.prog 65 #[.int .i64 n, .pointer (some ⟨B, 0, none⟩)] w (Ret w (.bool r)) := by
 have hm := hmix
 subst h
 have e1 : -25000000000000 ≤ n * n ∧ n * n ≤ 25000000000000 := mul_bd 5000000 5000000 (by omega) (by omega)
 have e2 : IntKind.i64.wrap (n * n) = n * n := wri (by omega)
 have c0 := hB.cell
 go_enter Tryz.func65, Tryz.ntmps65
 go_wp2
 go_ret
 exact Ret.mk' rfl gw
theorem search2_v (free : Int) (B : Nat) (w : World) (hB : Boxed w B 3 (.int .i64 free)) :
  Calls Tryz.prog 53 #[.int .i64 5000000, .func (.func 65) #[] #[.pointer (some ⟨B, 0, none⟩)]] w fun e w' => ∃ i : Int, e = .returned (.int .i64 i) ∧ 0 ≤ i ∧ i ≤ 5000000 ∧ (i = 5000000 ∨ free ≤ i * i) ∧ (i = 0 ∨ (i - 1) * (i - 1) < free) ∧ Grew w w' := by
 have hm := hmix
 have HB := hide hB
 clear hB
 go_enter Tryz.func53, Tryz.ntmps53
 go_wp2_with fail
 go_loopw [5, 6] (fun i j wr => ∃ a b : Int, i = .int .i64 a ∧ j = .int .i64 b ∧ 0 ≤ a ∧ a ≤ b ∧ b ≤ 5000000 ∧ Grew w wr ∧ AppG ((b = 5000000 ∨ free ≤ b * b) ∧ (a = 0 ∨ (a - 1) * (a - 1) < free))) (fun i j _ => (intOf j - intOf i).toNat)
 case atStart => exact ⟨0, 5000000, rfl, rfl, by omega, by omega, by omega, gw, show _ ∧ _ from ⟨.inl rfl, .inl rfl⟩⟩
 case round =>
  obtain ⟨a, b, rfl, rfl, h0, hab, hbN, hg, hinv⟩ := hrel
  have HG := hide hg
  have HI := hide hinv.stop
  clear hg hinv
  by_cases hlt : a < b
  ·obtain ⟨m, hm2⟩ : ∃ m, (a + b) / 2 = m := ⟨_, rfl⟩
   obtain ⟨o, ho⟩ : ∃ o, decide (free ≤ m * m) = o := ⟨_, rfl⟩
   have k1 := hide (fun W (hg : Grew w W) => root1_v m free B o W (bxd_grew HB.out hg) (by omega) ho)
   have HO := hide ho
   clear ho
   cases o
   ·go_wp2_with (go_at_call 65; with_reducible refine crv (k1.out _ (HG.out.trans gw)) fun _ _ => ?_; dsimp only)
    go_roundw
    case rel => exact ⟨m + 1, b, by go_num, rfl, by omega, by omega, hbN, HG.out.trans gw, show _ ∧ _ from ⟨HI.out.1, .inr (by have := HO.out; rw [decide_eq_false_iff_not] at this; rw [show m + 1 - 1 = m by omega]; omega)⟩⟩
    case measure => simp [intOf]; omega
   ·go_wp2_with (go_at_call 65; with_reducible refine crv (k1.out _ (HG.out.trans gw)) fun _ _ => ?_; dsimp only)
    go_roundw
    case rel => exact ⟨a, m, rfl, rfl, h0, by omega, by omega, HG.out.trans gw, show _ ∧ _ from ⟨.inr (by have := HO.out; rw [decide_eq_true_eq] at this; exact this), HI.out.2⟩⟩
    case measure => simp [intOf]; omega
  ·obtain rfl : a = b := by omega
   have HI2 := HI
   go_wp2_with fail
   go_ret
   exact ⟨a, rfl, h0, hbN, HI2.out.1, HI2.out.2, HG.out.trans gw⟩
theorem root_v (n s : Int) (w : World) (hn : n ≤ 25000000000000) (hs : rootP n s) : Calls Tryz.prog 47 #[.int .i64 n] w (Ret w (.int .i64 s)) := by
 have hm := hmix
 have k1 := hide (fun B W (hB : Boxed W B 3 (.int .i64 n)) => search2_v n B W hB)
 have HS := hide hs
 clear hs
 go_enter Tryz.func47, Tryz.ntmps47
 go_wp2_with fail
 refine (k1.out _ _ (heap_alloc_new _ _)).mono ?_
 rintro e w' ⟨i, rfl, h1, h2, h3, h4, hg⟩
 obtain ⟨⟨n1, os1⟩, rfl⟩ := hg
 obtain rfl : i = s := root_eq ⟨h1, by rcases h3 with rfl | h3 <;> omega, h4⟩ HS.out
 dsimp only
 go_wp2_with fail
 go_ret
 exact Ret.mk' rfl gw
abbrev cav (m : Dm) (s k g : Int) : Value := .agg #[.int .i64 m.a, .int .i64 m.b, .int .i64 m.c, .int .i64 m.d, .int .i64 m.e, .int .i64 m.f, .int .i64 m.r, .int .i64 s, .int .i64 k, .int .i64 g]
theorem st10_at {W : World} {b : Nat} {x0 x1 x2 x3 x4 x5 x6 x7 x8 x9 v0 v1 v2 v3 v4 v5 v6 v7 v8 v9 : Value} {T : TypeId} {fr : Nat × Nat} (h : W.heap[b]? = some (.cells #[x0, x1, x2, x3, x4, x5, x6, x7, x8, x9] T fr)) : ((((((((((W.setCell ⟨b, 0, none⟩ v0).setCell ⟨b, 1, none⟩ v1).setCell ⟨b, 2, none⟩ v2).setCell ⟨b, 3, none⟩ v3).setCell ⟨b, 4, none⟩ v4).setCell ⟨b, 5, none⟩ v5).setCell ⟨b, 6, none⟩ v6).setCell ⟨b, 7, none⟩ v7).setCell ⟨b, 8, none⟩ v8).setCell ⟨b, 9, none⟩ v9).heap[b]? = some (.cells #[v0, v1, v2, v3, v4, v5, v6, v7, v8, v9] T fr) := by
 have h1 := blk_lt h
 simp [World.setCell, Array.getElem?_modify, h]
theorem bodyPost_nw {P : Program} {f : Func} {Q : Ending → World → Prop} {x : Exit} {a : Act} {w : World} (h : ∀ V, w = V → bodyPost P f Q x a V) : bodyPost P f Q x a w := h _ rfl
def nTo (m : Dm) : Nat → Int
 | 0 => m.r
 | k + 1 => if (mpart m k).tmod 1000000 ≠ 0 then m.r + 1 else nTo m k
theorem nTo_bd (m : Dm) : ∀ k, m.r ≤ nTo m k ∧ nTo m k ≤ m.r + 1
 | 0 => by unfold nTo; omega
 | k + 1 => by
  unfold nTo
  have := nTo_bd m k
  split <;> omega
def mixOf (m : Dm) : Int := m.a * m.b + m.d * m.e
def strOf (m : Dm) : Int := max (m.a * m.a + m.d * m.d) (m.b * m.b + m.e * m.e) + max (mixOf m) (-(mixOf m))
theorem carry_v (m : Dm) (s g : Int) (w : World) (h1 : dmOk m = true) (hs : rootP (strOf m) s) (hg : rootP (2 * nTo m 4 * nTo m 4) g) :
  Calls Tryz.prog 28 #[dmv m] w (Ret w (cav m s ((detOf m).tdiv s) g)) := by
 have hm := hmix
 obtain ⟨hp, hdet, d1, d2, d3⟩ := dm_bd h1
 obtain ⟨i1, i2, i3, i4⟩ := parts_bd hp
 have b1 := mul_bd (a := m.a) (b := m.a) 2000000 2000000 i1 i1
 have b2 := mul_bd (a := m.d) (b := m.d) 2000000 2000000 i3 i3
 have b3 := mul_bd (a := m.b) (b := m.b) 2000000 2000000 i2 i2
 have b4 := mul_bd (a := m.e) (b := m.e) 2000000 2000000 i4 i4
 have b5 := mul_bd (a := m.a) (b := m.b) 2000000 2000000 i1 i2
 have b6 := mul_bd (a := m.d) (b := m.e) 2000000 2000000 i3 i4
 have b7 := mul_bd (a := m.a) (b := m.e) 2000000 2000000 i1 i4
 have b8 := mul_bd (a := m.b) (b := m.d) 2000000 2000000 i2 i3
 have hn := nTo_bd m 4
 have hn0 : 1 ≤ s := by
  obtain ⟨s0, s1, s2⟩ := hs
  rcases Int.lt_or_le s 1 with g0 | g0
  ·obtain rfl : s = 0 := by omega
   exfalso
   have ha : m.a = 0 ∨ m.a ≠ 0 := by omega
   have hd : m.d = 0 ∨ m.d ≠ 0 := by omega
   have e0 : strOf m ≤ 0 := by simpa using s1
   unfold strOf mixOf at e0
   have p1 := sq_nn m.a
   have p2 := sq_nn m.d
   have q1 : m.a * m.a = 0 := by omega
   have q2 : m.d * m.d = 0 := by omega
   have r1 : m.a = 0 := by rcases Int.mul_eq_zero.1 q1 with h | h <;> exact h
   have r2 : m.d = 0 := by rcases Int.mul_eq_zero.1 q2 with h | h <;> exact h
   unfold detOf at hdet
   rw [r1, r2] at hdet
   simp at hdet
  ·exact g0
 have hs0 : ¬ s = 0 := by omega
 have hdv : 0 ≤ (detOf m).tdiv s ∧ (detOf m).tdiv s ≤ detOf m := by
  rw [Int.tdiv_eq_ediv_of_nonneg (by omega)]
  exact ⟨Int.ediv_nonneg (by omega) (by omega), Int.ediv_le_self _ (by omega)⟩
 have hst : strOf m ≤ 25000000000000 := by unfold strOf mixOf; omega
 have hn2 := mul_bd (a := nTo m 4) (b := nTo m 4) 1001 1001 (by omega) (by omega)
 have kr := hide (fun W => root_v (strOf m) s W hst hs)
 have kg := hide (fun W => root_v (2 * nTo m 4 * nTo m 4) g W (by rw [Int.mul_assoc]; omega) hg)
 unfold strOf at kr
 unfold mixOf at kr
 unfold detOf at hdv hdet
 unfold detOf
 have e1 : IntKind.i64.wrap (m.a * m.b) = m.a * m.b := wri (by omega)
 have e2 : IntKind.i64.wrap (m.d * m.e) = m.d * m.e := wri (by omega)
 have e3 : IntKind.i64.wrap (m.a * m.b + m.d * m.e) = m.a * m.b + m.d * m.e := wri (by omega)
 have e4 : IntKind.i64.wrap (m.a * m.a) = m.a * m.a := wri (by omega)
 have e5 : IntKind.i64.wrap (m.d * m.d) = m.d * m.d := wri (by omega)
 have e6 : IntKind.i64.wrap (m.a * m.a + m.d * m.d) = m.a * m.a + m.d * m.d := wri (by omega)
 have e7 : IntKind.i64.wrap (m.b * m.b) = m.b * m.b := wri (by omega)
 have e8 : IntKind.i64.wrap (m.e * m.e) = m.e * m.e := wri (by omega)
 have e9 : IntKind.i64.wrap (m.b * m.b + m.e * m.e) = m.b * m.b + m.e * m.e := wri (by omega)
 have ea : IntKind.i64.wrap (-(m.a * m.b + m.d * m.e)) = -(m.a * m.b + m.d * m.e) := wri (by omega)
 have eb : IntKind.i64.wrap (max (m.a * m.a + m.d * m.d) (m.b * m.b + m.e * m.e) + max (m.a * m.b + m.d * m.e) (-(m.a * m.b + m.d * m.e))) = max (m.a * m.a + m.d * m.d) (m.b * m.b + m.e * m.e) + max (m.a * m.b + m.d * m.e) (-(m.a * m.b + m.d * m.e)) := wri (by omega)
 have ec : IntKind.i64.wrap (m.a * m.e) = m.a * m.e := wri (by omega)
 have ed : IntKind.i64.wrap (m.b * m.d) = m.b * m.d := wri (by omega)
 have ee : IntKind.i64.wrap (m.a * m.e - m.b * m.d) = m.a * m.e - m.b * m.d := wri (by omega)
 have ef : IntKind.i64.wrap ((m.a * m.e - m.b * m.d).tdiv s) = (m.a * m.e - m.b * m.d).tdiv s := wri (by omega)
 have eg : IntKind.i64.wrap (2 * nTo m 4) = 2 * nTo m 4 := wri (by omega)
 have eh : IntKind.i64.wrap (2 * nTo m 4 * nTo m 4) = 2 * nTo m 4 * nTo m 4 := wri (by rw [Int.mul_assoc]; omega)
 have ei : IntKind.i64.wrap (m.r + 1) = m.r + 1 := wri (by omega)
 clear h1 hs hg hp hdet d1 d2 i1 i2 i3 i4 b1 b2 b3 b4 b5 b6 b7 b8 hn hn0 hdv hst hn2
 go_enter Tryz.func28, Tryz.ntmps28
 go_wp2_with (go_at_call 47; with_reducible refine crv (kr.out _) fun n1 os1 => ?_; dsimp only)
 refine wp_name ?_
 intro W0 hW
 have hg0 : Grew w W0 := by rw [← hW]; exact gw
 have hb0 : W0.heap[w.heap.size]? = some (.cells #[.int .i64 m.a, .int .i64 m.b, .int .i64 m.c, .int .i64 m.d, .int .i64 m.e, .int .i64 m.f, .int .i64 m.r] 32 (0, 0)) := by
  rw [← hW]
  exact (heap_alloc_old _ _ (by simp [hs_dr] <;> omega)).trans ((heap_grow_old _ _ (by simp [hs_dr] <;> omega)).trans ((heap_alloc_old _ _ (by simp)).trans (heap_alloc_new _ _)))
 have hb1 : W0.heap[w.heap.size + 1]? = some (.cells #[.int .i64 0, .int .i64 0, .int .i64 0, .int .i64 0, .int .i64 0, .int .i64 0, .int .i64 0, .int .i64 0, .int .i64 0, .int .i64 0] 82 (0, 0)) := by
  rw [← hW]
  exact (heap_alloc_old _ _ (by simp [hs_dr] <;> omega)).trans ((heap_grow_old _ _ (by simp [hs_dr] <;> omega)).trans (heap_alloc_at _ _ _ (by simp)))
 have hb2 : W0.heap[w.heap.size + 1 + 1 + os1.size]? = some (.cells #[.int .i64 m.a, .int .i64 m.b, .int .i64 m.d, .int .i64 m.e] 3 (0, 0)) := by
  rw [← hW]
  exact heap_alloc_at _ _ _ (by simp [hs_dr])
 have HG := hide hg0
 have HB0 := hide hb0
 have HB1 := hide hb1
 have HB2 := hide hb2
 obtain ⟨N, hN⟩ : ∃ N, nTo m 4 = N := ⟨_, rfl⟩
 have HN := hide hN
 rw [hN] at kg eg eh
 clear hW hg0 hb0 hb1 hb2 hN
 go_loopw [5, 60] (fun n i wr => ∃ k : Nat, k ≤ 4 ∧ n = .int .i64 (nTo m k) ∧ i = .int .i64 k ∧ Grew W0 wr) (fun _ i _ => 4 - (intOf i).toNat)
 case atStart => exact ⟨0, by omega, rfl, rfl, Grew.refl _⟩
 case round =>
  obtain ⟨k, hk, rfl, rfl, hg⟩ := hrel
  have HG2 := hide hg
  have h0 := (hg.below.block _ (blk_lt HB0.out)).trans HB0.out
  have h2 := (hg.below.block _ (blk_lt HB2.out)).trans HB2.out
  have c0 := blk_cell h0 0
  have c1 := blk_cell h0 1
  have c2 := blk_cell h0 2
  have c3 := blk_cell h0 3
  have c4 := blk_cell h0 4
  have c5 := blk_cell h0 5
  have c6 := blk_cell h0 6
  have s0 := blk_cell h2 0
  have s1 := blk_cell h2 1
  have s2 := blk_cell h2 2
  have s3 := blk_cell h2 3
  have l0 := blk_lt h0
  have l2 := blk_lt h2
  clear hg h0 h2
  by_cases hlt : k < 4
  ·have hix := idx_run (cap := 4) (len := 4) (k := k) Tryz.underlying112 Tryz.sizeOf3 (rfl : some (⟨w.heap.size + 1 + 1 + os1.size, 0, none⟩ : Addr) = some ⟨w.heap.size + 1 + 1 + os1.size, 0, none⟩) hlt
   simp only [Nat.zero_add, Nat.mul_one, Int.cast_ofNat_Int] at hix
   have hnx : nTo m (k + 1) = if (mpart m k).tmod 1000000 ≠ 0 then m.r + 1 else nTo m k := rfl
   obtain ⟨N', hN'⟩ : ∃ N', nTo m (k + 1) = N' := ⟨_, rfl⟩
   have HN' := hide hN'
   rw [hN'] at hnx
   obtain ⟨x, hx⟩ : ∃ x, mpart m k = x := ⟨_, rfl⟩
   rw [hx] at hnx
   have hxc : W0.heap.size ≤ wr.heap.size := HG2.out.below.size
   have hcx : wr.cell? ⟨w.heap.size + 1 + 1 + os1.size, k, none⟩ = some (.int .i64 x) := by
    have hc : k = 0 ∨ k = 1 ∨ k = 2 ∨ k = 3 := by omega
    rcases hc with rfl | rfl | rfl | rfl <;> rw [← hx] <;> assumption
   have ht2 : IntKind.i64.wrap (x.tmod 1000000) = x.tmod 1000000 := wri (by
    have := Int.tmod_lt_of_pos x (b := 1000000) (by omega)
    have h9 := Int.tmod_lt_of_pos (-x) (b := 1000000) (by omega)
    rw [Int.neg_tmod] at h9
    omega)
   clear s0 s1 s2 s3 hx hN'
   by_cases hz : x.tmod 1000000 = 0
   ·rw [if_neg (by omega)] at hnx
    have HX := hide hnx
    clear hnx
    go_wp2_with fail
    go_roundw
    case rel => exact ⟨k + 1, by omega, by rw [HN'.out, HX.out], by go_num, HG2.out.trans gw⟩
    case measure => simp [intOf]; omega
   ·rw [if_pos hz] at hnx
    have HX := hide hnx
    clear hnx
    go_wp2_with fail
    go_roundw
    case rel => exact ⟨k + 1, by omega, by rw [HN'.out, HX.out], by go_num, HG2.out.trans gw⟩
    case measure => simp [intOf]; omega
  ·obtain rfl : k = 4 := by omega
   rw [HN.out]
   clear s0 s1 s2 s3 l2
   have HG1 := hide (HG.out.trans HG2.out)
   have h1 := (HG2.out.below.block _ (blk_lt HB1.out)).trans HB1.out
   have H1 := hide h1
   have t0 := blk_cell h1 0
   have t1 := blk_cell h1 1
   have t2 := blk_cell h1 2
   have t3 := blk_cell h1 3
   have t4 := blk_cell h1 4
   have t5 := blk_cell h1 5
   have t6 := blk_cell h1 6
   have t7 := blk_cell h1 7
   have t8 := blk_cell h1 8
   have t9 := blk_cell h1 9
   have tf := blk_frozen h1
   have tl := blk_lt h1
   clear h1
   go_wp2_with fail
   refine wp_region_qas 21 [] [] hm (h := ?_)
   repeat (refine wpSteady_step (fun K hK => ?_); go_simp; first | (refine hK _ ?_; clear hK K) | (apply Exists.intro; refine ⟨fun _ => ?_, hK _ ?_⟩; ((go_at_call 47; with_reducible exact kg.out _)); clear hK K))
   refine rq0 fun nq osq => ?_
   try simp only [Act.put, setA]
   try dsimp only
   go_wp2_with fail
   refine bodyPost_nw ?_
   intro V hV
   obtain ⟨V1, hV1⟩ : ∃ V1, ((((((((((wr.setCell ⟨w.heap.size + 1, 0, none⟩ (.int .i64 m.a)).setCell ⟨w.heap.size + 1, 1, none⟩ (.int .i64 m.b)).setCell ⟨w.heap.size + 1, 2, none⟩ (.int .i64 m.c)).setCell ⟨w.heap.size + 1, 3, none⟩ (.int .i64 m.d)).setCell ⟨w.heap.size + 1, 4, none⟩ (.int .i64 m.e)).setCell ⟨w.heap.size + 1, 5, none⟩ (.int .i64 m.f)).setCell ⟨w.heap.size + 1, 6, none⟩ (.int .i64 m.r)).setCell ⟨w.heap.size + 1, 7, none⟩ (.int .i64 s)).setCell ⟨w.heap.size + 1, 8, none⟩ (.int .i64 ((m.a * m.e - m.b * m.d).tdiv s))).setCell ⟨w.heap.size + 1, 9, none⟩ (.int .i64 g)) = V1 := ⟨_, rfl⟩
   rw [hV1] at hV
   have hz1 : V1.heap[w.heap.size + 1]? = some (.cells #[.int .i64 m.a, .int .i64 m.b, .int .i64 m.c, .int .i64 m.d, .int .i64 m.e, .int .i64 m.f, .int .i64 m.r, .int .i64 s, .int .i64 ((m.a * m.e - m.b * m.d).tdiv s), .int .i64 g] 82 (0, 0)) := by rw [← hV1]; exact st10_at H1.out
   have hb9 : Below w.heap.size w V1 := by rw [← hV1]; exact ((((((((((HG1.out.below.setCell (p := ⟨w.heap.size + 1, 0, none⟩) (Nat.le_succ _) (.int .i64 m.a)).setCell (p := ⟨w.heap.size + 1, 1, none⟩) (Nat.le_succ _) (.int .i64 m.b)).setCell (p := ⟨w.heap.size + 1, 2, none⟩) (Nat.le_succ _) (.int .i64 m.c)).setCell (p := ⟨w.heap.size + 1, 3, none⟩) (Nat.le_succ _) (.int .i64 m.d)).setCell (p := ⟨w.heap.size + 1, 4, none⟩) (Nat.le_succ _) (.int .i64 m.e)).setCell (p := ⟨w.heap.size + 1, 5, none⟩) (Nat.le_succ _) (.int .i64 m.f)).setCell (p := ⟨w.heap.size + 1, 6, none⟩) (Nat.le_succ _) (.int .i64 m.r)).setCell (p := ⟨w.heap.size + 1, 7, none⟩) (Nat.le_succ _) (.int .i64 s)).setCell (p := ⟨w.heap.size + 1, 8, none⟩) (Nat.le_succ _) (.int .i64 ((m.a * m.e - m.b * m.d).tdiv s))).setCell (p := ⟨w.heap.size + 1, 9, none⟩) (Nat.le_succ _) (.int .i64 g))
   clear hV1
   have hz : V.heap[w.heap.size + 1]? = some (.cells #[.int .i64 m.a, .int .i64 m.b, .int .i64 m.c, .int .i64 m.d, .int .i64 m.e, .int .i64 m.f, .int .i64 m.r, .int .i64 s, .int .i64 ((m.a * m.e - m.b * m.d).tdiv s), .int .i64 g] 82 (0, 0)) := by rw [← hV]; exact (heap_grow_old _ _ (by rw [hs_dr]; exact blk_lt hz1)).trans hz1
   have y0 := blk_cell hz 0
   have y1 := blk_cell hz 1
   have y2 := blk_cell hz 2
   have y3 := blk_cell hz 3
   have y4 := blk_cell hz 4
   have y5 := blk_cell hz 5
   have y6 := blk_cell hz 6
   have y7 := blk_cell hz 7
   have y8 := blk_cell hz 8
   have y9 := blk_cell hz 9
   have hgf : Grew w V := by rw [← hV]; exact Grew.of_below (hb9.trans ((Grew.mk _ _ _).below.mono hb9.size))
   clear hV hb9 hz hz1
   refine bodyPost_ret (v := cav m s ((m.a * m.e - m.b * m.d).tdiv s) g) (by simp [results, Tryz.results28, go_sem, y0, y1, y2, y3, y4, y5, y6, y7, y8, y9]) rfl ?_
   exact Ret.mk' rfl hgf
def grOf (s r : Int) : Int := (r * s + 999999) / 1000000
theorem grown_v (m : Dm) (s k g r : Int) (w : World) (hs : 0 ≤ s ∧ s ≤ 5000000) (hr : 0 ≤ r ∧ r ≤ 100000) : Calls Tryz.prog 108 #[cav m s k g, .int .i64 r] w (Ret w (.int .i64 (grOf s r))) := by
 have hm := hmix
 have hb := mul_bd (a := r) (b := s) 100000 5000000 (by omega) (by omega)
 have h0 : 0 ≤ r * s := Int.mul_nonneg hr.1 hs.1
 have e1 : IntKind.i64.wrap (r * s) = r * s := wri (by omega)
 have e2 : IntKind.i64.wrap (r * s + 1000000) = r * s + 1000000 := wri (by omega)
 have e3 : IntKind.i64.wrap (r * s + 1000000 - 1) = r * s + 1000000 - 1 := wri (by omega)
 obtain ⟨q, hq⟩ : ∃ q, grOf s r = q := ⟨_, rfl⟩
 have hq2 : (r * s + 1000000 - 1).tdiv 1000000 = q := by
  rw [Int.tdiv_eq_ediv_of_nonneg (by omega), ← hq]
  unfold grOf
  rw [show r * s + 1000000 - 1 = r * s + 999999 by omega]
 have e4 : IntKind.i64.wrap q = q := wri (by rw [← hq]; unfold grOf; omega)
 rw [hq]
 clear hb h0 hq
 go_enter Tryz.func108, Tryz.ntmps108
 go_wp2_with fail
 go_ret
 exact Ret.mk' rfl gw
end Go.Proofs.YtpfpamopmncifaaGreat
