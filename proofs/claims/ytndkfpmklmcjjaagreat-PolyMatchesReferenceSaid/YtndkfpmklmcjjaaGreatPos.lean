/- slices.Compact of places. -/
import Derived.Test.YtndkfpmklmcjjaaGreatPor
import Derived.Lib.SlicesCompact
import Derived.Lib.SliceRun
import Derived.Laws.IdiomCopy
set_option linter.unusedSimpArgs false
set_option linter.unusedVariables false
set_option maxHeartbeats 4000000
set_option maxRecDepth 100000
namespace Go.Proofs.YtndkfpmklmcjjaaGreat
open Go.RowKit Go.Sort Go.Lib
attribute [local go_sem] Steady steadyUpon
attribute [local go_sem ↓] hs_dr lt_add_r lt_add_r2 lt_add_r3 lt_add_r4 lt_add_r5 lt_add_r6
attribute [local go_sem] cell?_gd frozen?_gd setCell_gd size_grow tape_grow cell?_grow' frozen?_grow' setCell_grow' grow_grow grow_dr grow_drew dr_dr dr_drew drew_dr dr_alloc dr_setCell dr_cell dr_frozen dr_tape dr_drawn
attribute [local irreducible] wpSteady
def RowQ (W : World) (b off : Nat) (d : Array Pt) : Prop := ∀ j, j < d.size → (W.cell? ⟨b, off + j * 2, none⟩ = some (.int .i64 (d[j]!).1) ∧ W.cell? ⟨b, off + j * 2 + 1, none⟩ = some (.int .i64 (d[j]!).2)) ∧ W.frozen? ⟨b, off + j * 2, none⟩ = false ∧ W.frozen? ⟨b, off + j * 2 + 1, none⟩ = false
theorem RowQ.of {W : World} {b off : Nat} {d : Array Pt} (h : HoldsK encD 2 W b off d) : RowQ W b off d := fun j hj => by
 obtain ⟨h1, h2⟩ := h.cell (i := j) (c := 0) hj (by omega)
 obtain ⟨h3, h4⟩ := h.cell (i := j) (c := 1) hj (by omega)
 exact ⟨⟨h1, h3⟩, h2, h4⟩
theorem RowQ.grew {W W' : World} {b off : Nat} {d : Array Pt} (h : RowQ W b off d) (hg : Grew W W') (hb : b < W.heap.size) : RowQ W' b off d := fun j hj => by
 have c := old_cell hg
 have f := old_frozen hg
 rw [c _ _ hb, c _ _ hb, f _ _ hb, f _ _ hb]
 exact h j hj
theorem scq_ne {W : World} {b o o' : Nat} {v : Value} (h : o ≠ o') : (W.setCell ⟨b, o, none⟩ v).cell? ⟨b, o', none⟩ = W.cell? ⟨b, o', none⟩ := by
 apply World.cell?_setCell_other
 intro e
 exact h (by injection e)
theorem RowQ.set {W : World} {b off i : Nat} {d : Array Pt} (h : RowQ W b off d) (hi : i < d.size) (u : Pt) : RowQ ((W.setCell ⟨b, off + i * 2, none⟩ (.int .i64 u.1)).setCell ⟨b, off + i * 2 + 1, none⟩ (.int .i64 u.2)) b off (d.setIfInBounds i u) := fun j hj => by
 have hj' : j < d.size := by simpa using hj
 obtain ⟨⟨h1, h2⟩, h3, h4⟩ := h j hj'
 obtain ⟨⟨g1, g2⟩, g3, g4⟩ := h i hi
 refine ⟨?_, by simp [h3], by simp [h4]⟩
 by_cases hji : j = i
 ·subst hji
  rw [getElem!_set_same d j u hi]
  constructor
  ·rw [scq_ne (by omega)]
   rw [World.cell?_setCell_same' _ _ _ (by rw [g1]; rfl)]
  ·rw [World.cell?_setCell_same' _ _ _ (by rw [scq_ne (by omega), g2]; rfl)]
 ·rw [getElem!_set_other d i j u hji]
  rw [scq_ne (by omega), scq_ne (by omega), scq_ne (by omega), scq_ne (by omega)]
  exact ⟨h1, h2⟩
theorem clearQ_run (w : World) (b o n c : Nat) (hn : 0 < n) (hc : ∀ j, j < n * 2 → (w.cell? ⟨b, o + j, none⟩).isSome = true) (hf : ∀ j, j < n * 2 → w.frozen? ⟨b, o + j, none⟩ = false) :
  ∃ zs : List Value, ∀ ty, (Builtin.clear_ #[22] ty #[.slice (some ⟨b, o, none⟩) n c]).run Tryz.prog w = .ok (.tuple #[]) (w.setCells b o zs) := by
 refine ⟨(Builtin.zeroCells #[.int .i64 0, .int .i64 0] n).toList, fun ty => ?_⟩
 have hl : (Builtin.zeroCells #[.int .i64 0, .int .i64 0] n).toList.length = n * 2 := by simp [Builtin.zeroCells]
 have h1 : ∀ v ∈ (Builtin.zeroCells #[.int .i64 0, .int .i64 0] n).toList, v.oneCell' = true := by
  intro v hv
  simp [Builtin.zeroCells] at hv
  obtain ⟨a, ha, rfl⟩ := hv
  have : a % 2 = 0 ∨ a % 2 = 1 := by omega
  rcases this with h | h <;> simp [h, Value.oneCell']
 have hst := run_storeCells_cells (P := Tryz.prog) b o (Builtin.zeroCells #[.int .i64 0, .int .i64 0] n).toList 0 w (by rw [hl]; simpa using hc) (by rw [hl]; simpa using hf) h1
 simp only [Nat.add_zero] at hst
 obtain ⟨m, rfl⟩ : ∃ m, n = m + 1 := ⟨n - 1, by omega⟩
 simp [Builtin.clear_, run_underlying Tryz.underlying22, Tryz.zeroValue24, Value.cells, hst]
theorem getQ_bang {l : List Pt} {j : Nat} (h : j < l.length) : l.toArray[j]! = l[j] := by simp [h]
theorem gbq_set {w W : World} {b o : Nat} {v : Value} (h : w.grownBy W (some b)) : w.grownBy (W.setCell ⟨b, o, none⟩ v) (some b) := by
 refine ⟨h.os, h.tape, h.output, by simpa using h.size, fun k hk hne => ?_⟩
 rw [Below.heap_setCell W ⟨b, o, none⟩ v k (fun e => hne (by rw [e]))]
 exact h.block k hk hne
theorem gbq_sets {w : World} {b : Nat} : ∀ (vs : List Value) (W : World) (o : Nat), w.grownBy W (some b) → w.grownBy (W.setCells b o vs) (some b)
 | [], _, _, h => h
 | v :: vs, W, o, h => gbq_sets vs _ (o + 1) (gbq_set h)
theorem rdq_of {W : World} {b off : Nat} (hb : b < W.heap.size) (l : List Pt) (h : ∀ (k : Nat) (y : Pt), l[k]? = some y → W.cell? ⟨b, off + k * 2, none⟩ = some (.int .i64 y.1) ∧ W.cell? ⟨b, off + k * 2 + 1, none⟩ = some (.int .i64 y.2)) : Rd W W.heap.size 2 (some ⟨b, off, none⟩) (l.map encD) := by
 refine .inr ⟨b, off, rfl, hb, fun k x hx j v hv => ?_⟩
 rw [List.getElem?_map] at hx
 cases hlk : l[k]? with
 | none => rw [hlk] at hx; cases hx
 | some y =>
  rw [hlk] at hx
  injection hx with hx
  obtain ⟨c0, c1⟩ := h k y hlk
  subst hx
  match j, hv with
  | 0, hv => injection hv with hv; rw [← hv]; exact c0
  | 1, hv => injection hv with hv; rw [← hv]; exact c1
theorem RowQ.rd {W : World} {b off : Nat} {d : Array Pt} (h : RowQ W b off d) (hb : b < W.heap.size) (l : List Pt) (hl : ∀ j, j < l.length → l[j]? = some d[j]! ∧ j < d.size) : Rd W W.heap.size 2 (some ⟨b, off, none⟩) (l.map encD) :=
 rdq_of hb l fun k y hy => by
  obtain ⟨h1, h2⟩ := hl k (List.getElem?_eq_some_iff.1 hy).1
  rw [hy] at h1
  injection h1 with h1
  obtain ⟨⟨c0, c1⟩, _⟩ := h k h2
  rw [← h1] at c0 c1
  exact ⟨c0, c1⟩
theorem RowQ.cells {W : World} {b off t : Nat} {d : Array Pt} (h : RowQ W b off d) (ht : t < d.size * 2) : (W.cell? ⟨b, off + t, none⟩).isSome = true ∧ W.frozen? ⟨b, off + t, none⟩ = false := by
 obtain ⟨⟨c0, c1⟩, f0, f1⟩ := h (t / 2) (by omega)
 rcases (by omega : t % 2 = 0 ∨ t % 2 = 1) with hm | hm
 ·rw [show off + t = off + t / 2 * 2 by omega, c0]
  exact ⟨rfl, f0⟩
 ·rw [show off + t = off + t / 2 * 2 + 1 by omega, c1]
  exact ⟨rfl, f1⟩
theorem bangQ_get {l : List Pt} {j : Nat} (hj : j < l.length) : l[j]? = some l.toArray[j]! := by simp [hj]
def compQ (l : List Pt) : List Pt := compactUpTo l.toArray l.length
theorem compQ_all {l : List Pt} (h : ∀ j, j < l.length → keeps l.toArray j = true) : compQ l = l := by
 unfold compQ
 rw [compactUpTo_all _ _ h]
 have := range_map_get l.toArray
 simpa using this
theorem compactQ_any (l : List Pt) (blk off cap : Nat) (w : World) (hH : RowQ w blk off l.toArray) (hblk : blk < w.heap.size) (hcap : l.length ≤ cap) (hsz : l.length ≤ 100000000000000) :
  Calls Tryz.prog 54 #[.slice (some ⟨blk, off, none⟩) l.length cap] w fun e w' => e = .returned (.slice (some ⟨blk, off, none⟩) (compQ l).length cap) ∧ w.grownBy w' (some blk) ∧ Rd w' w'.heap.size 2 (some ⟨blk, off, none⟩) ((compQ l).map encD) := by
 have hm := hmix
 have HH := hide hH
 clear hH
 by_cases h2 : l.length < 2
 ·go_enter Tryz.func54, Tryz.ntmps54
  go_wp2_with fail
  go_ret
  have e := compQ_all (l := l) fun j hj => keeps_lt_one _ j (by omega)
  rw [e]
  exact ⟨rfl, (Grew.refl w).grownBy _, HH.out.rd hblk l fun j hj => ⟨bangQ_get hj, by simpa using hj⟩⟩
 ·go_enter Tryz.func54, Tryz.ntmps54
  go_wp2_with fail
  go_loopw [3] (fun i wr => ∃ k : Nat, 1 ≤ k ∧ k ≤ l.length ∧ i = .int .i64 k ∧ Grew w wr ∧ ∀ j, j < k → keeps l.toArray j = true) (fun i _ => l.length - (intOf i).toNat)
  case atStart => exact ⟨1, by omega, by omega, rfl, Grew.refl _, keeps_lt_one _⟩
  case round =>
   obtain ⟨k, hk1, hk, rfl, hg, hall⟩ := hrel
   have HA := hide hall
   clear hall
   have HW := hide hg
   clear hg
   by_cases hlt : k < l.length
   ·obtain ⟨⟨c0, c1⟩, _⟩ := (HH.out.grew HW.out hblk) k (by simpa using hlt)
    obtain ⟨⟨d0, d1⟩, _⟩ := (HH.out.grew HW.out hblk) (k - 1) (by simp; omega)
    have hix := idx_run (cap := cap) Tryz.underlying22 Tryz.sizeOf24 (A := some ⟨blk, off, none⟩) rfl hlt
    have hix2 := idx_run (cap := cap) (k := k - 1) (len := l.length) Tryz.underlying22 Tryz.sizeOf24 (A := some ⟨blk, off, none⟩) rfl (by omega)
    have ew : IntKind.i64.wrap ((k : Int) - 1) = ((k - 1 : Nat) : Int) := by unfold IntKind.wrap; simp [IntKind.bits, IntKind.signed]; omega
    have hbw : blk < wr.heap.size := Nat.lt_of_lt_of_le hblk HW.out.below.size
    by_cases hdup : l.toArray[k]! = l.toArray[k - 1]!
    ·rw [hdup] at c0 c1
     generalize hy : l.toArray[k - 1]! = y at *
     go_wp2_with fail
     refine wp_region_qas 10 [] [] hm (h := ?_)
     repeat (refine wpSteady_step (fun K hK => ?_); go_simp; refine hK _ ?_; clear hK K)
     refine rq0 fun nq osq => ?_
     try simp only [Act.put, setA]
     try dsimp only
     go_wp2_with fail
     have hbw' : k < l.length := hlt
     go_loopw [3, 5] (fun a c wi => ∃ (kk k2 : Nat) (dk : Array Pt), a = .int .i64 kk ∧ c = .int .i64 k2 ∧ 1 ≤ k2 ∧ k + k2 ≤ l.length ∧ w.grownBy wi (some blk) ∧ RowQ wi blk off dk ∧ CompInv l.toArray (k + k2) kk dk) (fun _ c _ => l.length - k - (intOf c).toNat)
     case atStart => exact ⟨k, 1, l.toArray, rfl, rfl, by omega, by omega, Grew.grownBy (HW.out.trans gw) _, (HH.out.grew HW.out hblk).grew gw hbw, CompInv.start HA.out (keeps_neg (by omega) (by rw [hdup, hy]))⟩
     case round =>
      obtain ⟨kk, k2, dk, rfl, rfl, h1, hle, hgb, hrow, hI⟩ := hrel
      have hkk := hI.lt
      have hds : dk.size = l.length := by simpa using hI.size
      have HI := hide hI
      have HR := hide hrow
      have HG := hide hgb
      have hbi : blk < wr.heap.size := Nat.lt_of_lt_of_le hblk hgb.size
      by_cases hlt2 : k + k2 < l.length
      ·obtain ⟨⟨m0, m1⟩, _⟩ := hrow (k + k2) (by omega)
       obtain ⟨⟨p0, p1⟩, _⟩ := hrow (k + k2 - 1) (by omega)
       obtain ⟨⟨q0, q1⟩, f0, f1⟩ := hrow kk (by omega)
       rw [hI.high (k + k2) (by omega), show off + (k + k2) * 2 = off + k * 2 + k2 * 2 by omega] at m0 m1
       rw [hI.high (k + k2 - 1) (by omega), show off + (k + k2 - 1) * 2 = off + k * 2 + (k2 - 1) * 2 by omega] at p0 p1
       have hix3 := idx_run (cap := cap - k) (k := k2) (len := l.length - k) Tryz.underlying22 Tryz.sizeOf24 (A := some ⟨blk, off + k * 2, none⟩) rfl (by omega)
       have hix4 := idx_run (cap := cap - k) (k := k2 - 1) (len := l.length - k) Tryz.underlying22 Tryz.sizeOf24 (A := some ⟨blk, off + k * 2, none⟩) rfl (by omega)
       have hix5 := idx_run (cap := cap) (k := kk) (len := l.length) Tryz.underlying22 Tryz.sizeOf24 (A := some ⟨blk, off, none⟩) rfl (by omega)
       have ew2 : IntKind.i64.wrap ((k2 : Int) - 1) = ((k2 - 1 : Nat) : Int) := by unfold IntKind.wrap; simp [IntKind.bits, IntKind.signed]; omega
       clear hix hix2 ew hI hrow hgb
       by_cases huv : l.toArray[k + k2]! = l.toArray[k + k2 - 1]!
       ·have hkp := keeps_neg (d := l.toArray) (m := k + k2) (by omega) huv
        have HK := hide hkp
        clear hkp
        rw [huv] at m0 m1
        clear huv
        generalize l.toArray[k + k2 - 1]! = y2 at *
        go_wp2_with fail
        refine wp_region_qas 10 [] [] hm (h := ?_)
        repeat (refine wpSteady_step (fun K hK => ?_); go_simp; refine hK _ ?_; clear hK K)
        refine rq0 fun nqz osqz => ?_
        try simp only [Act.put, setA]
        try dsimp only
        go_wp2_with fail
        go_roundw
        case rel => exact ⟨kk, k2 + 1, dk, rfl, by go_num, by omega, by omega, gb_grew HG.out gw, HR.out.grew gw hbi, HI.out.skip HK.out⟩
        case measure => simp [intOf]; omega
       ·have hkp := keeps_pos huv
        have hdup' : (l.toArray[k + k2]!).1 ≠ (l.toArray[k + k2 - 1]!).1 ∨ ((l.toArray[k + k2]!).1 = (l.toArray[k + k2 - 1]!).1 ∧ (l.toArray[k + k2]!).2 ≠ (l.toArray[k + k2 - 1]!).2) := by
         rcases Decidable.em ((l.toArray[k + k2]!).1 = (l.toArray[k + k2 - 1]!).1) with e1 | e1
         ·exact .inr ⟨e1, fun e2 => huv (Prod.ext e1 e2)⟩
         ·exact .inl e1
        have HK := hide hkp
        clear hkp huv
        generalize l.toArray[k + k2 - 1]! = y2 at *
        generalize hz2 : l.toArray[k + k2]! = z2 at *
        have HZ := hide hz2
        clear hz2
        generalize dk[kk]! = old at *
        rcases hdup' with h3 | ⟨h3, h3'⟩
        all_goals
         go_wp2_with fail
         refine wp_region_qas 10 [] [] hm (h := ?_)
         repeat (refine wpSteady_step (fun K hK => ?_); go_simp; refine hK _ ?_; clear hK K)
         refine rq0 fun nqz osqz => ?_
         try simp only [Act.put, setA]
         try dsimp only
         go_wp2_with fail
         go_roundw
         case rel =>
          have hk := HI.out.keep (by simpa using hlt2) HK.out
          rw [HZ.out] at hk
          first | rw [← h3] | skip
          exact ⟨kk + 1, k2 + 1, dk.setIfInBounds kk z2, by go_num, by go_num, by omega, by omega, gb_grew (gbq_set (gbq_set HG.out)) gw, (HR.out.set (by omega) z2).grew gw (by simpa using hbi), hk⟩
         case measure => simp [intOf]; omega
      ·obtain ⟨zs, hcl⟩ := clearQ_run wr blk (off + kk * 2) (l.length - kk) (cap - kk) (by omega) (fun j hj => by have := (hrow.cells (t := kk * 2 + j) (by omega)).1; rwa [← Nat.add_assoc] at this) (fun j hj => by have := (hrow.cells (t := kk * 2 + j) (by omega)).2; rwa [← Nat.add_assoc] at this)
       have hend : k + k2 = l.length := by omega
       clear hI hrow hgb
       go_wp2
       go_ret
       have hI := HI.out
       rw [hend] at hI
       have hlen : (compQ l).length = kk := hI.len
       refine ⟨by rw [hlen]; rfl, gbq_sets zs wr _ HG.out, ?_⟩
       refine rdq_of (by simpa using hbi) (compQ l) fun j y hy => ?_
       have hj : j < kk := by rw [← hlen]; exact (List.getElem?_eq_some_iff.1 hy).1
       have h8 := hI.low j hj
       rw [show compactUpTo l.toArray l.length = compQ l from rfl, hy] at h8
       injection h8 with h8
       obtain ⟨⟨c0, c1⟩, _⟩ := HR.out j (by omega)
       rw [World.cell?_setCells_out _ _ _ _ _ (fun _ _ => by left; show off + j * 2 < off + kk * 2; omega), World.cell?_setCells_out _ _ _ _ _ (fun _ _ => by left; show off + j * 2 + 1 < off + kk * 2; omega), h8]
       exact ⟨c0, c1⟩
    ·have hkp : keeps l.toArray k = true := keeps_pos hdup
     have hdup' : (l.toArray[k]!).1 ≠ (l.toArray[k - 1]!).1 ∨ ((l.toArray[k]!).1 = (l.toArray[k - 1]!).1 ∧ (l.toArray[k]!).2 ≠ (l.toArray[k - 1]!).2) := by
      rcases Decidable.em ((l.toArray[k]!).1 = (l.toArray[k - 1]!).1) with e1 | e1
      ·exact .inr ⟨e1, fun e2 => hdup (Prod.ext e1 e2)⟩
      ·exact .inl e1
     have HK := hide hkp
     clear hkp hdup
     generalize l.toArray[k - 1]! = y at *
     generalize l.toArray[k]! = z at *
     rcases hdup' with h1 | ⟨h1, h1'⟩
     all_goals
      go_wp2_with fail
      refine wp_region_qas 10 [] [] hm (h := ?_)
      repeat (refine wpSteady_step (fun K hK => ?_); go_simp; refine hK _ ?_; clear hK K)
      refine rq0 fun nq osq => ?_
      try simp only [Act.put, setA]
      try dsimp only
      go_wp2_with fail
      go_roundw
      case rel =>
       refine ⟨k + 1, by omega, by omega, by go_num, gw, fun j hj => ?_⟩
       by_cases hjk : j = k
       ·rw [hjk]; exact HK.out
       ·exact HA.out j (by omega)
      case measure => simp [intOf]; omega
   ·obtain rfl : k = l.length := by omega
    go_wp2
    go_ret
    have e := compQ_all HA.out
    rw [e]
    exact ⟨rfl, HW.out.grownBy _, (HH.out.grew HW.out hblk).rd (Nat.lt_of_lt_of_le hblk HW.out.below.size) l fun j hj => ⟨bangQ_get hj, by simpa using hj⟩⟩
end Go.Proofs.YtndkfpmklmcjjaaGreat
