/- Package sector's iterator over the turns of lights. -/
import Derived.Test.YtgcgaplhaglejaaSecD
import Derived.Test.YtgcgaplhaglejaaRegIn
namespace Go.Proofs.Ytgcgaplhaglejaa
set_option linter.unusedVariables false
set_option linter.unusedSimpArgs false
open Go.RowKit Go.Sort
attribute [local go_sem] Steady steadyUpon
attribute [local go_sem ↓] hs_dr lt_add_r lt_add_r2 lt_add_r3 lt_add_r4 lt_add_r5 lt_add_r6
attribute [local go_sem] cell?_gd frozen?_gd setCell_gd size_grow tape_grow cell?_grow' frozen?_grow' setCell_grow' grow_grow grow_dr grow_drew dr_dr dr_drew drew_dr dr_alloc dr_setCell dr_cell dr_frozen dr_tape dr_drawn
attribute [local go_sem] Oper.semAt_some

/-- What a round of a loop over a function leaves as it was: every block of cells but those that the body may write (M). -/
def KpM (M : Nat → TypeId → Prop) (W W' : World) : Prop := ∀ b cs T fr, ¬ M b T → W.heap[b]? = some (.cells cs T fr) → W'.heap[b]? = some (.cells cs T fr)
theorem KpM.trans {M : Nat → TypeId → Prop} {A B C : World} (h : KpM M A B) (k : KpM M B C) : KpM M A C := fun b cs T fr hM hb => k b cs T fr hM (h b cs T fr hM hb)
theorem KpM.bk {M : Nat → TypeId → Prop} {w : World} (W : World) (l : Nat) (o o' : Obj) (_ : w.heap.size ≤ l) (h : W.heap[l]? = some o) (ho : o.isCells = false) (_ : o.isWalk = false) : KpM M W (W.putObj l o') := by
  intro b cs T fr _ hb
  have hne : b ≠ l := by
    rintro rfl
    rw [hb] at h
    injection h with h
    rw [← h] at ho
    simp [Obj.isCells] at ho
  rw [World.putObj_heap_other (fun e => hne (by omega))]
  exact hb
theorem KpM.grew {M : Nat → TypeId → Prop} {W W' : World} (h : Grew W W') : KpM M W W' := fun b cs T fr _ hb => by
  rw [h.below.block b (blk_lt hb)]
  exact hb

theorem Grew.grownBy {w w' : World} (h : Grew w w') (row : Option Nat) : w.grownBy w' row := by
  have hb := h.below
  exact ⟨hb.os, hb.tape, hb.output, hb.size, fun k hk _ => hb.block k hk⟩

def turnsOf (ss : List Sec) : List (Int × Int) := ss.flatMap fun s => [(s.fx, s.fy), (s.tx, s.ty)]
abbrev Dir := { v : Int × Int // dirOk v.1 v.2 = true }
def Dir.enc (v : Dir) : Array Value := #[pt v.1.1 v.1.2]

theorem turns_any (O : Option Addr) (n c : Nat) (w : World) :
    Calls Try.prog 40 #[.slice O n c] w fun e w' => e = .returned (.func (.func 52) #[] #[.pointer (some ⟨w.heap.size, 0, none⟩)]) ∧ w.alloc (.cells #[.slice O n c] 76) = w' := by
  go_enter Try.func40, Try.ntmps40
  go_wp2
  go_ret
  exact ⟨rfl, rfl⟩

theorem turns_snoc {ss : List Sec} {k : Nat} {s : Sec} (h : ss[k]? = some s) : turnsOf (ss.take (k + 1)) = turnsOf (ss.take k) ++ [(s.fx, s.fy), (s.tx, s.ty)] := by
  unfold turnsOf
  rw [List.take_add_one, h]
  simp
theorem turns_len (ss : List Sec) : (turnsOf ss).length = 2 * ss.length := by
  unfold turnsOf
  induction ss with
  | nil => rfl
  | cons s ss ih => simp [ih]; omega

set_option maxRecDepth 100000 in
set_option maxHeartbeats 2000000 in
/-- The iterator's contract. B: the box of the slice of lights. -/
theorem turns1_stops (n : Nat) (M : Nat → TypeId → Prop) (LL : List SL) (O : Option Addr) (c B : Nat) (w : World) (hM : ∀ b T, M b T → b < w.heap.size ∨ T ≠ 26) (hB : w.heap[B]? = some (.cells #[.slice O LL.length c] 76 (0, 0)))
    (hr : Rd w w.heap.size 1 O (LL.map fun x => [x.val])) (hin : ∀ x ∈ LL, Rd w w.heap.size 6 x.A (x.ss.map Sec.cells)) (hl : LL.length ≤ 10) (hs : ∀ x ∈ LL, x.ss.length ≤ 1000) (hok : ∀ s ∈ LL.flatMap SL.ss, s.ok = true) :
    SeqStopsK Fence.wide n Try.prog 52 #[.pointer (some ⟨B, 0, none⟩)] Dir.enc (KpM M) (fun xs => xs.map Subtype.val = turnsOf (LL.flatMap SL.ss)) (fun pre => ∃ rest, turnsOf (LL.flatMap SL.ss) = pre.map Subtype.val ++ rest) (2 * (LL.flatMap SL.ss).length) w := by
  intro l J Jx W hW hJ hJx hY h0
  have hmx := hmix
  have HW := hide (Grew.of_below hW)
  have HR := hide (hr.up HW.out)
  have HI : Hid (∀ x ∈ LL, Rd W W.heap.size 6 x.A (x.ss.map Sec.cells)) := hide fun x hx => (hin x hx).up HW.out
  have HS := hide hs
  have HK := hide hok
  have c0 : W.cell? ⟨B, 0, none⟩ = some (.slice O LL.length c) := by rw [blk_cell ((hW.block B (blk_lt hB)).trans hB)]; rfl
  have hMW : ∀ b, M b 26 → b < W.heap.size := fun b hb => (hM b _ hb).elim (fun h => Nat.lt_of_lt_of_le h hW.size) (fun h => absurd rfl h)
  have HM := hide hMW
  have HJ := hide hJ
  have HJx := hide hJx
  have HY := hide hY
  have H0 := hide h0
  clear hr hin hs hok hM hMW hJ hJx hY h0 hW hB
  refine callsIn_of_wp Try.func52 rfl trivial ?_ rfl
  simp only [Try.ntmps52, List.size_toArray, List.length_cons, List.length_nil, Nat.reduceAdd, Nat.reduceSub, Array.replicate_succ, Array.replicate_zero, List.push_toArray, List.append_toArray, List.nil_append, List.cons_append]
  gi_wp2_with fail
  refine ⟨trivial, (fun h => by cases h), ?_⟩
  refine (callsIn_wide.2 (Concat_any LL O c W HR.out HI.out hl HS.out)).mono ?_
  rintro e W1 ⟨v, rfl, hown, hg⟩
  have h1 : J [] W1 := HJ.out _ _ _ none H0.out (hg.grownBy none) (fun r hr => by cases hr)
  have hn : (LL.flatMap SL.ss).length ≤ 10000 := by
    have := preL_len HS.out LL.length
    rw [preL_all] at this
    omega
  have H1 := hide h1
  have HG := hide hg
  clear h1 hg H0
  generalize hall : LL.flatMap SL.ss = ss at *
  have HA := hide hall
  clear hall
  rcases hown.2 with ⟨rfl, h0⟩ | ⟨g, cap, cur, rfl, hb, hgg, hnc, hmc, hcs, ht⟩
  · have hss : ss = [] := List.length_eq_zero_iff.1 h0
    subst hss
    dsimp only
    gi_wp2
    gi_loopw [8] (fun i wr => i = .int .i64 0 ∧ J [] wr) (fun _ _ => 0)
    case atStart => exact ⟨rfl, H1.out⟩
    case round =>
      obtain ⟨rfl, hJ⟩ := hrel
      gi_wp2
      go_end0
      exact ⟨⟨_, rfl⟩, .inl ⟨[], by rw [HA.out]; rfl, hJ⟩⟩
  · dsimp only
    have HO := hide hown
    have HT := hide ht
    have HGG := hide hgg
    unfold maxLen at hmc
    have hgW1 := blk_lt hgg
    clear hown ht hgg hcs hnc
    gi_wp2_with fail
    gi_loopw [8] (fun i wr => ∃ (k : Nat) (pre : List Dir), k ≤ ss.length ∧ i = .int .i64 k ∧ pre.map Subtype.val = turnsOf (ss.take k) ∧ J pre wr ∧ wr.heap[g]? = some (.cells cur 26 (0, 0)) ∧ W.heap.size ≤ wr.heap.size) (fun i _ => ss.length - (intOf i).toNat)
    case atStart => exact ⟨0, [], by omega, rfl, rfl, H1.out, HGG.out, by omega⟩
    case round =>
      obtain ⟨k, pre, hk, rfl, hpre, hJ, hgk, hsz⟩ := hrel
      have HP := hide hpre
      have hplen : pre.length = 2 * k := by
        have := congrArg List.length hpre
        rw [List.length_map, turns_len, List.length_take] at this
        omega
      have HPL := hide hplen
      clear hpre hplen
      by_cases hlt : k < ss.length
      · obtain ⟨s, hs⟩ : ∃ s, ss[k]? = some s := ⟨_, List.getElem?_eq_getElem hlt⟩
        have hsok := HK.out s (List.mem_of_getElem? hs)
        have hcell : ∀ j v, s.cells[j]? = some v → wr.cell? ⟨g, k * 6 + j, none⟩ = some v := by
          intro j v hv
          have hj : j < 6 := (List.getElem?_eq_some_iff.1 hv).1
          have h2 := (flatMap_get Sec.cells 6 sec_len ss k j v hj).2 ⟨s, hs, hv⟩
          rw [← HT.out, List.getElem?_take] at h2
          rw [blk_cell hgk]
          split at h2
          · simpa using h2
          · cases h2
        have c0 := hcell 0 _ rfl
        have c1 := hcell 1 _ rfl
        have c2 := hcell 2 _ rfl
        have c3 := hcell 3 _ rfl
        have c4 := hcell 4 _ rfl
        have c5 := hcell 5 _ rfl
        simp only [Nat.add_zero] at c0
        have hglt := blk_lt hgk
        have HGK := hide hgk
        have HS2 := hide hs
        clear hcell hgk hs
        have hix := idx_run (cap := cap) (A := some ⟨g, 0, none⟩) Try.underlying22 Try.sizeOf26 rfl hlt
        simp only [Nat.zero_add] at hix
        have d1 : dirOk s.fx s.fy = true := by simp [Sec.ok, secOk] at hsok; exact hsok.1.1.1
        have d2 : dirOk s.tx s.ty = true := by simp [Sec.ok, secOk] at hsok; exact hsok.1.1.2
        have hJ2 : J pre (wr.alloc (.cells #[.int .i64 s.fx, .int .i64 s.fy, .int .i64 s.tx, .int .i64 s.ty, .int .i64 s.col, .int .i64 s.rng] 26)) := HJ.out _ _ _ none hJ (World.grownBy_alloc _ _ _) (fun r hr => by cases hr)
        obtain ⟨x1, hx1⟩ : ∃ x : Dir, x.1 = (s.fx, s.fy) := ⟨⟨_, d1⟩, rfl⟩
        obtain ⟨x2, hx2⟩ : ∃ x : Dir, x.1 = (s.tx, s.ty) := ⟨⟨_, d2⟩, rfl⟩
        have e1 : x1.enc = #[pt s.fx s.fy] := by simp [Dir.enc, hx1]
        have e2 : x2.enc = #[pt s.tx s.ty] := by simp [Dir.enc, hx2]
        have hA1 : ∃ rest, turnsOf ss = (pre ++ [x1]).map Subtype.val ++ rest := by
          refine ⟨(s.tx, s.ty) :: turnsOf (ss.drop (k + 1)), ?_⟩
          rw [List.map_append, HP.out, List.map_singleton, hx1, List.append_assoc]
          have := List.take_append_drop (k + 1) ss
          conv => lhs; rw [← this]
          show turnsOf _ = _
          unfold turnsOf at *
          rw [List.flatMap_append, List.take_add_one, HS2.out]
          simp
        have hA2 : ((pre ++ [x1]) ++ [x2]).map Subtype.val = turnsOf (ss.take (k + 1)) := by
          rw [turns_snoc HS2.out, List.map_append, List.map_append, HP.out, List.map_singleton, List.map_singleton, hx1, hx2, List.append_assoc]
          rfl
        have hA3 : ∃ rest, turnsOf ss = ((pre ++ [x1]) ++ [x2]).map Subtype.val ++ rest := by
          refine ⟨turnsOf (ss.drop (k + 1)), ?_⟩
          rw [hA2]
          unfold turnsOf
          rw [← List.flatMap_append, List.take_append_drop]
        have HA1 := hide hA1
        have HA2 := hide hA2
        have HA3 := hide hA3
        clear hA1 hA2 hA3 hx1 hx2 d1 d2
        obtain ⟨fn1, tm1, as1, bo1, hy1, hR1⟩ := HY.out pre x1 _ hJ2 (by rw [HPL.out]; omega)
        rw [e1] at hy1
        have HR1 := hide hR1
        have HSOK := hide hsok
        clear hR1 hsok hJ hJ2 e1
        have hnM : ∀ b, W.heap.size ≤ b → ¬ M b 26 := fun b hb hm => by have := HM.out b hm; omega
        have hkp := HGK.out
        gi_wp2_with fail
        refine ⟨(fun h => by cases h), ?_⟩
        refine HR1.out.mono ?_
        rintro e W3 (⟨rfl, hJ3, hk3⟩ | ⟨rfl, hJx3⟩)
        · have hbox := hk3 _ _ _ _ (hnM _ hsz) (heap_alloc_new wr _)
          have hrow := hk3 _ _ _ _ (hnM _ hb) ((heap_alloc_old wr _ hglt).trans HGK.out)
          have b2 : W3.cell? ⟨wr.heap.size, 2, none⟩ = some (.int .i64 s.tx) := blk_cell hbox 2
          have b3 : W3.cell? ⟨wr.heap.size, 3, none⟩ = some (.int .i64 s.ty) := blk_cell hbox 3
          have hW3 := blk_lt hbox
          have hsz3 : W.heap.size ≤ W3.heap.size := by omega
          obtain ⟨fn2, tm2, as2, bo2, hy2, hR2⟩ := HY.out _ x2 _ hJ3 (by rw [List.length_append, HPL.out]; simp; omega)
          rw [e2] at hy2
          have HR2 := hide hR2
          have HROW := hide hrow
          clear hR2 hrow hbox hk3 hJ3 e2 hkp hy1 hnM
          dsimp only
          gi_wp2_with fail
          refine ⟨(fun h => by cases h), ?_⟩
          refine HR2.out.mono ?_
          have hnM : ∀ b, W.heap.size ≤ b → ¬ M b 26 := fun b hb hm => by have := HM.out b hm; omega
          rintro e W4 (⟨rfl, hJ4, hk4⟩ | ⟨rfl, hJx4⟩)
          · have hrow4 := hk4 _ _ _ _ (hnM _ hb) HROW.out
            have HROW4 := hide hrow4
            have HJ4 := hide hJ4
            have hsz4 : W.heap.size ≤ W4.heap.size := by have := blk_lt hrow4; omega
            clear hrow4 hk4 hJ4 hy2 hnM b2 b3
            dsimp only
            gi_wp2_with fail
            go_roundw
            case rel => exact ⟨k + 1, pre ++ [x1] ++ [x2], by omega, by go_num, HA2.out, HJ4.out, HROW4.out, hsz4⟩
            case measure => simp [intOf]; omega
          · have HX := hide hJx4
            clear hJx4 hnM
            dsimp only
            gi_wp2_with fail
            refine bodyPost_ret (results_none rfl _ _ _) rfl ?_
            exact ⟨⟨_, rfl⟩, .inr ⟨_, by rw [HA.out]; exact HA3.out, HX.out⟩⟩
        · have HX := hide hJx3
          clear hJx3 hnM hkp
          dsimp only
          gi_wp2_with fail
          refine ⟨fun _ h => (by cases h), ?_⟩
          gi_wp2_with fail
          refine bodyPost_ret (results_none rfl _ _ _) rfl ?_
          exact ⟨⟨_, rfl⟩, .inr ⟨_, by rw [HA.out]; exact HA1.out, HX.out⟩⟩
      · obtain rfl : k = ss.length := by omega
        gi_wp2
        go_end0
        exact ⟨⟨_, rfl⟩, .inl ⟨pre, by rw [HP.out, List.take_length, HA.out], hJ⟩⟩
end Go.Proofs.Ytgcgaplhaglejaa
