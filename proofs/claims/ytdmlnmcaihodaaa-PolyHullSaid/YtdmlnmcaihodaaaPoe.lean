/- Package poly: simple. -/
import Derived.Test.YtdmlnmcaihodaaaPod
namespace Go.Proofs.Ytdmlnmcaihodaaa
set_option linter.unusedVariables false
set_option linter.unusedSimpArgs false
open Go.RowKit Go.Sort
attribute [local go_sem] Steady steadyUpon
attribute [local go_sem ↓] hs_dr lt_add_r lt_add_r2 lt_add_r3 lt_add_r4 lt_add_r5 lt_add_r6
attribute [local go_sem] cell?_gd frozen?_gd setCell_gd size_grow tape_grow cell?_grow' frozen?_grow' setCell_grow' grow_grow grow_dr grow_drew dr_dr dr_drew drew_dr dr_alloc dr_setCell dr_cell dr_frozen dr_tape dr_drawn
attribute [local irreducible] wpSteady
attribute [local go_sem] Oper.semAt_some

theorem KpM.own {β : Type} {M : Nat → TypeId → Prop} {B : Nat} {W : World} (h : W.heap.size ≤ B) : OwnFrom B (fun (_ : β) V => KpM M W V) := by
  intro s X Y row hs hg hr b cs T fr hM hb
  have h1 := hs b cs T fr hM hb
  rw [hg.block b (blk_lt h1) (fun e => by have := (hr _ e.symm).1; have := blk_lt hb; omega)]
  exact h1
theorem blk_own {β : Type} {B b : Nat} {o : Obj} (h : b < B) : OwnFrom B (fun (_ : β) V => V.heap[b]? = some o) := by
  intro s X Y row hs hg hr
  rw [hg.block b (blk_lt hs) (fun e => by have := (hr _ e.symm).1; omega)]
  exact hs
/-- Two edges that are no neighbours do not meet. -/
def pairOk (ps : List Pt) (i k : Nat) : Bool := decide (k ≤ i + 1) || (decide (i = 0 ∧ k + 1 = ps.length) || !meetB (cor ps i) (cor ps (i + 1)) (cor ps k) (cor ps (k + 1)))
def rowOk (ps : List Pt) (i : Nat) : Bool := (List.range ps.length).all (pairOk ps i)
def simpleOf (ps : List Pt) : Bool := (List.range ps.length).all (rowOk ps)

set_option maxRecDepth 100000 in
set_option maxHeartbeats 4000000 in
theorem simple_any (ps : List Pt) (A : Option Addr) (c : Nat) (w : World) (hr : Rd w w.heap.size 2 A (ps.map encD)) (hl : ps.length ≤ 100) (hok : ps.all Pt.ok = true) :
    Calls Try.prog 50 #[.slice A ps.length c] w (Ret w (.bool (simpleOf ps))) := by
  have hm := hmix
  have HR := hide hr
  have HOK := hide hok
  clear hr hok
  refine (callsIn_wide (n := 13)).1 ?_
  refine callsIn_of_wp_marks Try.func50 rfl trivial ?_ rfl
  simp only [Try.ntmps50, List.size_toArray, List.length_cons, List.length_nil, Nat.reduceAdd, Nat.reduceSub, Array.replicate_succ, Array.replicate_zero, List.push_toArray, List.append_toArray, List.nil_append, List.cons_append]
  gi_wp2_with fail
  refine ⟨trivial, ?_⟩
  refine (callsIn_wide.2 (edges_any _ _ _ _)).mono ?_
  rintro e w' ⟨rfl, rfl⟩
  dsimp only
  gi_wp2_with fail
  refine wpIn_name ?_
  intro a0 W0 ha hW
  obtain ⟨bx, hbx⟩ : ∃ bx : List Obj, bx = [.cells #[.slice A ps.length c] 56 (0, 0), .cells #[.bool false] 4 (0, 0), .cells #[.int .i64 ps.length] 3 (0, 0)] := ⟨_, rfl⟩
  have hg0 : Grew w W0 := by rw [← hW]; exact (by repeat (with_reducible first | exact Grew.refl _ | assumption | refine Grew.alloc ?_ _ | refine Grew.grow ?_ _ | refine Grew.dr ?_ _ | refine Grew.drewN ?_ _ | refine Grew.drew ?_ | refine Grew.trans ?_ (Hid.out (by assumption))))
  have hb0 : Bx W0 w.heap.size bx := by rw [← hW, hbx]; exact (Bx.allocs _ w).1.grew (Grew.alloc (Grew.refl _) _)
  have hk0 : W0.heap[w.heap.size + 3]? = some (.cells #[.slice A ps.length c] 56 (0, 0)) := by rw [← hW]; exact heap_alloc_at _ _ _ (by simp)
  have hsz : w.heap.size + 4 ≤ W0.heap.size := by rw [← hW]; simp
  have hbl : bx.length = 3 := by rw [hbx]; rfl
  clear hW
  refine wpIn_rangeFunc_ownH (n := 13) rfl (by omega) (gf := 62) (lb := #[.pointer (some ⟨w.heap.size + 3, 0, none⟩)]) (by rw [← ha]; simp [Act.eval]) trivial (enters_of Try.func62 (by kernel_rfl) rfl)
    (edges1_stops 12 w.heap.size (fun _ _ => False) ps A c (w.heap.size + 3) W0 (fun b _ hb => hb.elim) hk0 (HR.out.grew hg0 (Nat.le_refl _)) (by omega) (by omega))
    (fun h k => h.trans k) KpM.bk (Below.refl _ _) (fun _ => rfl)
    (fun pre W => (Below w.heap.size w W ∧ Bx W w.heap.size bx) ∧ ∀ i ∈ pre, rowOk ps i.1 = true)
    (fun q pre W => (Below w.heap.size w W ∧ Boxed W (w.heap.size + 1) 4 (.bool false)) ∧ q = .ret ∧ simpleOf ps = false)
    (OwnFrom.and (OwnFrom.and (ownFrom_below (Nat.le_refl _) hg0.below.size) (Bx.own (by omega))) (ownFrom_pure _))
    (fun q => OwnFrom.and (OwnFrom.and (ownFrom_below (Nat.le_refl _) hg0.below.size) (Own.from (boxed_own _ _ _) _)) (ownFrom_pure _))
    ⟨⟨hg0.below, hb0⟩, fun i hi => by cases hi⟩
    (fun x a' W => ∃ B C, (W.heap[B]? = some (.cells #[.int .i64 (x.1 : Nat)] 3 (0, 0)) ∧ W.heap[C]? = some (.cells #[.int .i64 (cor ps x.1).1, .int .i64 (cor ps x.1).2, .int .i64 (cor ps (x.1 + 1)).1, .int .i64 (cor ps (x.1 + 1)).2] 66 (0, 0))) ∧ a' = { tmps := (((a0.tmps.setIfInBounds 14 (.int .i64 (x.1 : Nat))).setIfInBounds 15 (.agg #[.int .i64 (cor ps x.1).1, .int .i64 (cor ps x.1).2, .int .i64 (cor ps (x.1 + 1)).1, .int .i64 (cor ps (x.1 + 1)).2])).setIfInBounds 4 (.pointer (some ⟨B, 0, none⟩))).setIfInBounds 5 (.pointer (some ⟨C, 0, none⟩)), defers := [] })
    (fun x a' => by
      rintro s X Y row ⟨B, C, ⟨h1, h3⟩, h2⟩ hg hr
      exact ⟨B, C, ⟨cells_own h1 hg (fun r e => (hr r e).2), cells_own h3 hg (fun r e => (hr r e).2)⟩, h2⟩)
    ?assign ?body ?done ?stop
  case assign =>
    rintro l pre x W K ⟨⟨hB, hb⟩, hp⟩ hK
    rw [show encE ps x = #[.int .i64 (x.1 : Nat), .agg #[.int .i64 (cor ps x.1).1, .int .i64 (cor ps x.1).2, .int .i64 (cor ps (x.1 + 1)).1, .int .i64 (cor ps (x.1 + 1)).2]] from rfl, asg2]
    subst ha
    simp only [List.setIfInBounds_toArray, List.set_cons_succ, List.set_cons_zero] at hK ⊢
    have hKK := hide hK
    clear hK
    gi_wp2_with fail
    have hgg : Grew W ((W.alloc (.cells #[.int .i64 (x.1 : Nat)] 3)).alloc (.cells #[.int .i64 (cor ps x.1).1, .int .i64 (cor ps x.1).2, .int .i64 (cor ps (x.1 + 1)).1, .int .i64 (cor ps (x.1 + 1)).2] 66)) := (by repeat (with_reducible first | exact Grew.refl _ | assumption | refine Grew.alloc ?_ _ | refine Grew.grow ?_ _ | refine Grew.dr ?_ _ | refine Grew.drewN ?_ _ | refine Grew.drew ?_ | refine Grew.trans ?_ (Hid.out (by assumption))))
    exact hKK.out _ _ (hgg.keepsFrom _) (KpM.grew hgg) ⟨⟨hB.trans (hgg.below.mono hB.size), hb.grew hgg⟩, hp⟩ ⟨W.heap.size, W.heap.size + 1, ⟨(heap_alloc_old _ _ (by simp)).trans (heap_alloc_new _ _), heap_alloc_at _ _ _ (by simp)⟩, rfl⟩
  case body =>
    rintro l pre x a' W hl2 hlp ⟨⟨hB, hb⟩, hp⟩ ⟨B, C, ⟨hx, hy⟩, rfl⟩ hlt
    subst ha
    subst hbx
    have c0 : W.cell? ⟨w.heap.size, 0, none⟩ = some (.slice A ps.length c) := (hb.box 0 rfl).cell
    have hzl := (hb.box 2 rfl).lt
    have HB := hide hB
    have Hb := hide hb
    have HP := hide hp
    have HX := hide hx
    have HYY := hide hy
    have HLP := hide hlp
    clear hB hb hp hx hy hlp
    simp only [List.setIfInBounds_toArray, List.set_cons_succ, List.set_cons_zero]
    gi_wp2_with fail
    refine ⟨trivial, ?_⟩
    refine (CallsIn.inRound l (callsIn_wide.2 (edges_any _ _ _ _))).mono ?_
    rintro e w' ⟨rfl, rfl⟩
    dsimp only
    gi_wp2_with fail
    refine wpIn_name ?_
    intro a1 W1 ha1 hW1
    have hg1 : Grew W W1 := by rw [← hW1]; exact (by repeat (with_reducible first | exact Grew.refl _ | assumption | refine Grew.alloc ?_ _ | refine Grew.grow ?_ _ | refine Grew.dr ?_ _ | refine Grew.drewN ?_ _ | refine Grew.drew ?_ | refine Grew.trans ?_ (Hid.out (by assumption))))
    have hk1 : W1.heap[W.heap.size]? = some (.cells #[.slice A ps.length c] 56 (0, 0)) := by rw [← hW1]; exact heap_alloc_new _ _
    have hz1 : W1.heap.size = W.heap.size + 1 := by rw [← hW1]; simp
    have hB1 : Below w.heap.size w W1 := HB.out.trans (hg1.below.mono HB.out.size)
    have hb1 := Hb.out.grew hg1
    have hx1 := (hg1.below.block _ (blk_lt HX.out)).trans HX.out
    have hy1 := (hg1.below.block _ (blk_lt HYY.out)).trans HYY.out
    have hBl := blk_lt HX.out
    have hCl := blk_lt HYY.out
    have hww := HB.out.size
    obtain ⟨r0, hlr⟩ := HLP.out
    have hlr1 := (hg1.below.block _ (blk_lt hlr)).trans hlr
    clear hW1
    have hWW : W0.heap.size ≤ W.heap.size := Nat.le_of_lt (Nat.lt_of_le_of_lt hl2 (blk_lt hlr))
    refine wpIn_rangeFunc_ownN (n := 11) rfl hlr1 (by omega) (gf := 62) (lb := #[.pointer (some ⟨W.heap.size, 0, none⟩)]) (by rw [← ha1]; simp [Act.eval]) trivial (enters_of Try.func62 (by kernel_rfl) rfl)
      ((edges1_stops 10 w.heap.size (fun _ _ => False) ps A c W.heap.size W1 (fun b _ hb => hb.elim) hk1 (HR.out.below hB1) (by omega) (by omega)).inRound l)
      (fun h k => h.trans k) KpM.bk (Below.refl _ _) (fun _ => rfl)
      (fun pre2 V => (((Below w.heap.size w V ∧ Bx V w.heap.size _) ∧ (KeepsFrom W0.heap.size W V ∧ KpM (fun _ _ => False) W V)) ∧ (V.heap[B]? = some (.cells #[.int .i64 (x.1 : Nat)] 3 (0, 0)) ∧ V.heap[C]? = some (.cells #[.int .i64 (cor ps x.1).1, .int .i64 (cor ps x.1).2, .int .i64 (cor ps (x.1 + 1)).1, .int .i64 (cor ps (x.1 + 1)).2] 66 (0, 0)))) ∧ ∀ k ∈ pre2, pairOk ps x.1 k.1 = true)
      (fun q pre2 V => ((Below w.heap.size w V ∧ Boxed V (w.heap.size + 1) 4 (.bool false)) ∧ KeepsFrom W0.heap.size W V) ∧ (q = .ret ∧ simpleOf ps = false))
      (OwnFrom.and (OwnFrom.and (OwnFrom.and (OwnFrom.and (ownFrom_below (Nat.le_refl _) (by omega)) (Bx.own (by simp; omega))) (OwnFrom.and (ownFrom_keepsFrom (by omega)) (KpM.own (by omega)))) (OwnFrom.and (blk_own (by omega)) (blk_own (by omega)))) (ownFrom_pure _))
      (fun q => OwnFrom.and (OwnFrom.and (OwnFrom.and (ownFrom_below (Nat.le_refl _) (by omega)) (Own.from (boxed_own _ _ _) _)) (ownFrom_keepsFrom (by omega))) (ownFrom_pure _))
      ⟨⟨⟨⟨hB1, hb1⟩, hg1.keepsFrom _, KpM.grew hg1⟩, hx1, hy1⟩, fun k hk => by cases hk⟩
      (fun x2 a' V => ∃ D, V.heap[D]? = some (.cells #[.int .i64 (cor ps x2.1).1, .int .i64 (cor ps x2.1).2, .int .i64 (cor ps (x2.1 + 1)).1, .int .i64 (cor ps (x2.1 + 1)).2] 66 (0, 0)) ∧ a' = { tmps := (((a1.tmps.setIfInBounds 18 (.int .i64 (x2.1 : Nat))).setIfInBounds 19 (.agg #[.int .i64 (cor ps x2.1).1, .int .i64 (cor ps x2.1).2, .int .i64 (cor ps (x2.1 + 1)).1, .int .i64 (cor ps (x2.1 + 1)).2])).setIfInBounds 6 (.int .i64 (x2.1 : Nat))).setIfInBounds 7 (.pointer (some ⟨D, 0, none⟩)), defers := [] })
      (fun x2 a' => by
        rintro s X Y row ⟨D, h1, h2⟩ hg hr
        exact ⟨D, cells_own h1 hg (fun r e => (hr r e).2), h2⟩)
      ?assign2 ?body2 ?done2 ?stop2
    case assign2 =>
      rintro l' pre2 x2 V K hI hK
      rw [show encE ps x2 = #[.int .i64 (x2.1 : Nat), .agg #[.int .i64 (cor ps x2.1).1, .int .i64 (cor ps x2.1).2, .int .i64 (cor ps (x2.1 + 1)).1, .int .i64 (cor ps (x2.1 + 1)).2]] from rfl, asg2]
      subst ha1
      simp only [List.setIfInBounds_toArray, List.set_cons_succ, List.set_cons_zero] at hK ⊢
      have hKK := hide hK
      have HI := hide hI
      clear hK hI
      gi_wp2_with fail
      obtain ⟨⟨⟨⟨i1, i2⟩, i3, i4⟩, i5, i6⟩, i7⟩ := HI.out
      have hgg : Grew V (V.alloc (.cells #[.int .i64 (cor ps x2.1).1, .int .i64 (cor ps x2.1).2, .int .i64 (cor ps (x2.1 + 1)).1, .int .i64 (cor ps (x2.1 + 1)).2] 66)) := (by repeat (with_reducible first | exact Grew.refl _ | assumption | refine Grew.alloc ?_ _ | refine Grew.grow ?_ _ | refine Grew.dr ?_ _ | refine Grew.drewN ?_ _ | refine Grew.drew ?_ | refine Grew.trans ?_ (Hid.out (by assumption))))
      exact hKK.out _ _ (hgg.keepsFrom _) (KpM.grew hgg) ⟨⟨⟨⟨i1.trans (hgg.below.mono i1.size), i2.grew hgg⟩, i3.trans (hgg.keepsFrom _), i4.trans (KpM.grew hgg)⟩, (hgg.below.block _ (blk_lt i5)).trans i5, (hgg.below.block _ (blk_lt i6)).trans i6⟩, i7⟩ ⟨V.heap.size, heap_alloc_new _ _, rfl⟩
    case body2 =>
      rintro l' pre2 x2 a' V hl3 hlp ⟨⟨⟨⟨i1, i2⟩, i3, i4⟩, i5, i6⟩, i7⟩ ⟨D, hz, rfl⟩ hlt2
      subst ha1
      obtain ⟨i, hil⟩ := x
      obtain ⟨k, hkl⟩ := x2
      dsimp only at i5 i6 hz hlt2 i7
      have i8 := i2.box 1 rfl
      have c1 : V.cell? ⟨B, 0, none⟩ = _ := blk_cell i5 0
      have c2 : V.cell? ⟨w.heap.size + 2, 0, none⟩ = _ := (i2.box 2 rfl).cell
      have c3 : V.cell? ⟨C, 0, none⟩ = some _ := blk_cell i6 0
      have c4 : V.cell? ⟨C, 1, none⟩ = some _ := blk_cell i6 1
      have c5 : V.cell? ⟨C, 2, none⟩ = some _ := blk_cell i6 2
      have c6 : V.cell? ⟨C, 3, none⟩ = some _ := blk_cell i6 3
      have c7 : V.cell? ⟨D, 0, none⟩ = some _ := blk_cell hz 0
      have c8 : V.cell? ⟨D, 1, none⟩ = some _ := blk_cell hz 1
      have c9 : V.cell? ⟨D, 2, none⟩ = some _ := blk_cell hz 2
      have c10 : V.cell? ⟨D, 3, none⟩ = some _ := blk_cell hz 3
      have c11 : V.cell? ⟨w.heap.size + 1, 0, none⟩ = _ := i8.cell
      have f11 : V.frozen? ⟨w.heap.size + 1, 0, none⟩ = _ := i8.frozen
      have l11 := i8.lt
      have hBV := blk_lt i5
      have hCV := blk_lt i6
      have hDV := blk_lt hz
      have hnV := (i2.box 2 rfl).lt
      have KI : Hid ((((Below w.heap.size w V ∧ Bx V w.heap.size _) ∧ (KeepsFrom W0.heap.size W V ∧ KpM (fun _ _ => False) W V)) ∧ (V.heap[B]? = _ ∧ V.heap[C]? = _)) ∧ ∀ k ∈ pre2, pairOk ps i k.1 = true) := hide ⟨⟨⟨⟨i1, i2⟩, i3, i4⟩, i5, i6⟩, i7⟩
      clear i1 i2 i3 i4 i5 i6 i7 i8 hz
      obtain ⟨m, hmt⟩ : ∃ m, meetB (cor ps i) (cor ps (i + 1)) (cor ps k) (cor ps (k + 1)) = m := ⟨_, rfl⟩
      have k9 := hide (fun W => Meet_ok (cor ps i) (cor ps (i + 1)) (cor ps k) (cor ps (k + 1)) W (cor_ok HOK.out _) (cor_ok HOK.out _) (cor_ok HOK.out _) (cor_ok HOK.out _))
      rw [hmt] at k9
      have hpk : pairOk ps i k = (decide (k ≤ i + 1) || (decide (i = 0 ∧ k + 1 = ps.length) || !m)) := by unfold pairOk; rw [hmt]
      have HPK := hide hpk
      clear hmt hpk
      have hcase : (decide ((k : Int) ≤ (i : Int) + 1) = true ∧ k ≤ i + 1) ∨ (decide ((k : Int) ≤ (i : Int) + 1) = false ∧ ((i : Int) == 0) = true ∧ ((k : Int) == (ps.length : Int) - 1) = true ∧ i = 0 ∧ k + 1 = ps.length) ∨ (¬ k ≤ i + 1 ∧ ¬ (i = 0 ∧ k + 1 = ps.length) ∧ decide ((k : Int) ≤ (i : Int) + 1) = false ∧ ((i : Int) == 0) = false) ∨ (¬ k ≤ i + 1 ∧ ¬ (i = 0 ∧ k + 1 = ps.length) ∧ decide ((k : Int) ≤ (i : Int) + 1) = false ∧ ((i : Int) == 0) = true ∧ ((k : Int) == (ps.length : Int) - 1) = false) := by
        by_cases h1 : k ≤ i + 1
        · exact .inl ⟨by simp; omega, h1⟩
        · by_cases h2 : i = 0
          · by_cases h3 : k + 1 = ps.length
            · exact .inr (.inl ⟨by simp; omega, by simp; omega, by simp; omega, h2, h3⟩)
            · exact .inr (.inr (.inr ⟨h1, by omega, by simp; omega, by simp; omega, by simp; omega⟩))
          · exact .inr (.inr (.inl ⟨h1, by omega, by simp; omega, by simp; omega⟩))
      simp only [List.setIfInBounds_toArray, List.set_cons_succ, List.set_cons_zero]
      have hiK : 0 ≤ (i : Int) ∧ (i : Int) ≤ 100 := by omega
      have hkK : 0 ≤ (k : Int) ∧ (k : Int) ≤ 100 := by omega
      have fin1 : Hid (pairOk ps i k = true → ∀ k' ∈ pre2 ++ [(⟨k, hkl⟩ : Fin ps.length)], pairOk ps i k'.1 = true) := hide fun hpp k' hk' => by
        rcases List.mem_append.1 hk' with h | h
        · exact KI.out.2 k' h
        · obtain rfl := List.mem_singleton.1 h
          exact hpp
      have fin2 : Hid (pairOk ps i k = false → simpleOf ps = false) := hide fun hpp => by
        unfold simpleOf
        refine List.all_eq_false.2 ⟨i, List.mem_range.2 hil, ?_⟩
        rw [Bool.not_eq_true]
        exact List.all_eq_false.2 ⟨k, List.mem_range.2 hkl, by rw [hpp]; simp⟩
      rcases hcase with ⟨e1, e2⟩ | ⟨e1, e2, e3, e4, e5⟩ | hcase
      · have hp1 : pairOk ps i k = true := by rw [HPK.out]; simp [e2]
        have HP1 := hide hp1
        clear hp1 e2
        gi_wp2_with fail
        exact ⟨(Grew.refl _).keepsFrom _, KpM.grew (Grew.refl _), KI.out.1, fin1.out HP1.out⟩
      · have hp1 : pairOk ps i k = true := by rw [HPK.out]; simp [e4, e5]
        have HP1 := hide hp1
        clear hp1 e4 e5
        gi_wp2_with fail
        exact ⟨(Grew.refl _).keepsFrom _, KpM.grew (Grew.refl _), KI.out.1, fin1.out HP1.out⟩
      · have hp1 : pairOk ps i k = !m := by
          rw [HPK.out]
          rcases hcase with ⟨a1, a2, _⟩ | ⟨a1, a2, _⟩ <;> simp [a1, a2]
        have hcase2 : (decide ((k : Int) ≤ (i : Int) + 1) = false ∧ ((i : Int) == 0) = false) ∨ (decide ((k : Int) ≤ (i : Int) + 1) = false ∧ ((i : Int) == 0) = true ∧ ((k : Int) == (ps.length : Int) - 1) = false) := by
          rcases hcase with ⟨_, _, a⟩ | ⟨_, _, a⟩
          · exact .inl a
          · exact .inr a
        have HP1 := hide hp1
        clear hp1 hcase
        rcases hcase2 with ⟨e1, e2⟩ | ⟨e1, e2, e3⟩
        all_goals
          gi_wp2_with fail
          refine ⟨trivial, ?_⟩
          refine (CallsIn.inRound l' (CallsIn.inRound l (callsIn_wide.2 (k9.out _)))).mono ?_
          rintro e w' ⟨rfl, ⟨n5, os5⟩, rfl⟩
          dsimp only
          have hgg : Grew V (grow (dr V n5) os5) := (by repeat (with_reducible first | exact Grew.refl _ | assumption | refine Grew.alloc ?_ _ | refine Grew.grow ?_ _ | refine Grew.dr ?_ _ | refine Grew.drewN ?_ _ | refine Grew.drew ?_ | refine Grew.trans ?_ (Hid.out (by assumption))))
          have HGG := hide hgg
          clear hgg
          cases m
          · gi_wp2_with fail
            obtain ⟨⟨⟨⟨i1, i2⟩, i3, i4⟩, i5, i6⟩, i7⟩ := KI.out
            exact ⟨HGG.out.keepsFrom _, KpM.grew HGG.out, ⟨⟨⟨i1.trans (HGG.out.below.mono i1.size), i2.grew HGG.out⟩, i3.trans (HGG.out.keepsFrom _), i4.trans (KpM.grew HGG.out)⟩, (HGG.out.below.block _ (blk_lt i5)).trans i5, (HGG.out.below.block _ (blk_lt i6)).trans i6⟩, fin1.out (by rw [HP1.out]; rfl)⟩
          · gi_wp2_with fail
            obtain ⟨⟨⟨⟨i1, i2⟩, i3, i4⟩, i5, i6⟩, i7⟩ := KI.out
            have hgs : Grew (V.setCell ⟨w.heap.size + 1, 0, none⟩ (.bool false)) (grow (dr (V.setCell ⟨w.heap.size + 1, 0, none⟩ (.bool false)) n5) os5) := (by repeat (with_reducible first | exact Grew.refl _ | assumption | refine Grew.alloc ?_ _ | refine Grew.grow ?_ _ | refine Grew.dr ?_ _ | refine Grew.drewN ?_ _ | refine Grew.drew ?_ | refine Grew.trans ?_ (Hid.out (by assumption))))
            have hbs := i1.setCell (p := ⟨w.heap.size + 1, 0, none⟩) (by simp) (.bool false)
            have hks := KeepsFrom.setCell W0.heap.size V ⟨w.heap.size + 1, 0, none⟩ (.bool false)
            have hks1 := KeepsFrom.setCell W1.heap.size V ⟨w.heap.size + 1, 0, none⟩ (.bool false)
            exact ⟨hks1.trans (hgs.keepsFrom _), ⟨⟨hbs.trans (hgs.below.mono hbs.size), (hgs.below.block _ (by simp; omega)).trans ((i2.box 1 rfl).set _)⟩, (i3.trans hks).trans (hgs.keepsFrom _)⟩, rfl, fin2.out (by rw [HP1.out]; rfl)⟩
    case done2 =>
      rintro xs V hS ⟨⟨⟨⟨i1, i2⟩, i3, i4⟩, i5, i6⟩, i7⟩
      subst ha1
      have hrow : rowOk ps x.1 = true := by
        unfold rowOk
        rw [← hS, List.all_map, List.all_eq_true]
        exact fun k hk => i7 k hk
      have HROW := hide hrow
      have KI := hide (And.intro (And.intro i1 i2) (And.intro i3 i4))
      clear i1 i2 i3 i4 i5 i6 i7 hS hrow
      gi_wp2_with fail
      refine ⟨KI.out.2.1, KI.out.2.2, KI.out.1, fun i hi => ?_⟩
      rcases List.mem_append.1 hi with h | h
      · exact HP.out i h
      · obtain rfl := List.mem_singleton.1 h
        exact HROW.out
    case stop2 =>
      rintro q pre2 V hS ⟨⟨⟨i1, i2⟩, i3⟩, rfl, i4⟩
      subst ha1
      have KI := hide (And.intro (And.intro i1 i2) (And.intro i3 i4))
      clear i1 i2 i3 i4 hS
      gi_wp2_with fail
      exact ⟨KI.out.2.1, KI.out.1, rfl, KI.out.2.2⟩
  case done =>
    subst ha
    subst hbx
    rintro D xs W hD hS ⟨⟨hB, hb⟩, hp⟩ hK
    have b1 : Boxed W (w.heap.size + 1) _ _ := hb.box 1 rfl
    have c1 := b1.cell
    have f1 := b1.frozen
    have HB := hide hB
    have HS := hide hS
    have HP := hide hp
    clear hB hb hS hp b1
    gi_wp2_with fail
    have hK2 := (KeepsOthers.setCell W ⟨w.heap.size + 1, 0, none⟩ (.bool true)).same D _ hK rfl
    refine ⟨by simp, .inl ⟨_, _, rfl, run_takeDeferred hK2, ?_⟩⟩
    have hb5 := (HB.out.setCell (p := ⟨w.heap.size + 1, 0, none⟩) (by simp) (.bool true)).trans (belowK_b (w := w) (Nat.le_refl _) _ D _ (.deferred none) (by omega) hK2 rfl rfl)
    have e3 : ((W.setCell ⟨w.heap.size + 1, 0, none⟩ (.bool true)).putObj D (.deferred none)).cell? ⟨w.heap.size + 1, 0, none⟩ = some (.bool true) := by
      rw [putObj_cell (by omega)]
      go_simp
    refine ⟨.bool true, by simp [results, Try.results50, go_sem, e3], ?_⟩
    refine Ret.mk' (ret_bool ?_) (Grew.of_below hb5)
    unfold simpleOf
    rw [← HS.out, List.all_map]
    symm
    rw [List.all_eq_true]
    exact fun v hv => HP.out v hv
  case stop =>
    subst ha
    rintro D q pre W hD hr ⟨⟨hB, hb1⟩, rfl, hp⟩ hK
    have c3 : W.cell? ⟨w.heap.size + 1, 0, none⟩ = _ := hb1.cell
    have HB := hide hB
    have HP := hide hp
    clear hB hb1 hr hp
    gi_wp2_with fail
    refine ⟨by simp, .inl ⟨_, _, rfl, run_takeDeferred hK, ?_⟩⟩
    have hb5 := HB.out.trans (belowK_b (w := w) (Nat.le_refl _) _ D _ (.deferred none) (by omega) hK rfl rfl)
    have e3 := (putObj_cell (W := W) (D := D) (i := 0) (o := .deferred none) (b := w.heap.size + 1) (by omega)).trans c3
    refine ⟨.bool false, by simp [results, Try.results50, go_sem, e3], ?_⟩
    exact Ret.mk' (ret_bool HP.out.symm) (Grew.of_below hb5)
end Go.Proofs.Ytdmlnmcaihodaaa
