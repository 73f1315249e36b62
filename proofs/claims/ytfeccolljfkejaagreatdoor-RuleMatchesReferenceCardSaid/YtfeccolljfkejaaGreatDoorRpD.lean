/- Package rule's reader: what comes behind forty rules. Package rule's Parse: its deferred closure. Package rule's Parse, in plain words. -/
import Derived.Test.YtfeccolljfkejaaGreatDoorRpN
import Derived.Defers
import Derived.Recover
import Derived.Test.YtfeccolljfkejaaGreatDoorRuD
set_option linter.unusedSimpArgs false
set_option linter.unusedVariables false
set_option maxHeartbeats 4000000
set_option maxRecDepth 100000
namespace Go.Proofs.YtfeccolljfkejaaGreatDoor
open Go.RowKit Go.Sort
attribute [local go_sem] Steady steadyUpon
attribute [local go_sem ↓] hs_dr lt_add_r lt_add_r2 lt_add_r3 lt_add_r4 lt_add_r5 lt_add_r6
attribute [local go_sem] cell?_gd frozen?_gd setCell_gd size_grow tape_grow cell?_grow' frozen?_grow' setCell_grow' grow_grow grow_dr grow_drew dr_dr dr_drew drew_dr dr_alloc dr_setCell dr_cell dr_frozen dr_tape dr_drawn
attribute [local irreducible] wpSteady
/-- The error of what follows forty rules. -/
def overAt (s : ByteArray) (a : Nat) : Int := if numB (s.extract a (endOf (inR 48 57) s a)) = true ∨ endOf (inR 97 122) s a ≠ a ∨ bAt s a = 59 then 2 else 10
theorem ba_ne {x : ByteArray} (h : ¬ x.size = 0) : ¬ x.toList = [] ∧ (x.toList == []) = false := by
 have e1 : ¬ x.toList = [] := by
  rw [ByteArray.toList_eq]
  intro e
  apply h
  rw [← ba_len, e]
  rfl
 exact ⟨e1, by simpa using e1⟩
theorem full_v (s : ByteArray) (R a : Nat) (w : World) (h : w.heap[R]? = some (rcl s (a : Int))) (ha : a < s.size) (hs : s.size ≤ 100000000000000) :
  Calls Tryz.prog 40 #[.pointer (some ⟨R, 0, none⟩)] w (StopR (a : Int) (overAt s a) w) := by
 have hm := hmix
 have HH := hide h
 obtain ⟨x, hx⟩ : ∃ x, s.extract a (endOf (inR 48 57) s a) = x := ⟨_, rfl⟩
 obtain ⟨y, hy⟩ : ∃ y, s.extract a (endOf (inR 97 122) s a) = y := ⟨_, rfl⟩
 have hys : y.size = endOf (inR 97 122) s a - a := by
  rw [← hy, ByteArray.size_extract]
  have := endOf_le (p := inR 97 122) (s := s) (i := a) (by omega)
  omega
 have hge := endOf_ge (inR 97 122) s a
 have k1 := hide (fun W (hg : Grew w W) => number_v s R a x W ((hg.heap (blk_lt h)).trans h) (by omega) hs hx)
 have k2 := hide (fun W (hg : Grew w W) => run_v s R a 97 122 W ((hg.heap (blk_lt h)).trans h) (by omega) hs)
 rw [hy] at k2
 have k3 := hide (fun (c : Int) W (hg : Grew w W) => stop_v s R (a : Int) c W ((hg.heap (blk_lt h)).trans h))
 obtain ⟨c, hc⟩ : ∃ c, overAt s a = c := ⟨_, rfl⟩
 rw [hc]
 unfold overAt at hc
 rw [hx] at hc
 have r0 : w.cell? ⟨R, 0, none⟩ = some (.string s) := blk_cell h 0
 have r1 : w.cell? ⟨R, 1, none⟩ = some (.int .i64 (a : Int)) := blk_cell h 1
 have rl := blk_lt h
 have hix := str_idx Tryz.underlying9 s a ha
 clear h hx hy
 cases hn : numB x
 ·rw [hn] at k1 hc
  by_cases hz : y.size = 0
  ·obtain rfl := ba_nil hz
   have e1 : endOf (inR 97 122) s a = a := by omega
   by_cases h59 : bAt s a = 59
   ·rw [if_pos (.inr (.inr h59))] at hc
    subst hc
    rw [h59] at hix
    have k4 := hide (k3.out 2)
    clear h59 hys hge e1 hz k3
    go_enter Tryz.func40, Tryz.ntmps40
    go_wp2_with (go_at_call 69; with_reducible refine crv (k1.out _ gw) fun _ _ => ?_; dsimp only)
    refine wp_region_qas 18 [] [] hm (h := ?_)
    repeat (refine wpSteady_step (fun K hK => ?_); go_simp; first | (refine hK _ ?_; clear hK K) | (apply Exists.intro; refine ⟨fun _ => ?_, hK _ ?_⟩; (go_at_call 70; with_reducible exact k2.out _ gw); clear hK K))
    refine rq0 fun nq osq => ?_
    try simp only [Act.put, setA]
    try dsimp only
    go_wp2_with fail
    refine (k4.out _ gw).mono ?_
    rintro e w2 ⟨rfl, hg⟩
    have HG := hide hg
    clear hg
    dsimp only
    go_wp2_with fail
    exact ⟨rfl, rfl, Grew.trans gw HG.out⟩
   ·rw [if_neg (by simp [e1, h59])] at hc
    subst hc
    have n59 : (bAt s a == 59) = false := by simpa using h59
    have k4 := hide (k3.out 10)
    clear hys hge e1 hz k3
    go_enter Tryz.func40, Tryz.ntmps40
    go_wp2_with (go_at_call 69; with_reducible refine crv (k1.out _ gw) fun _ _ => ?_; dsimp only)
    refine wp_region_qas 18 [] [] hm (h := ?_)
    repeat (refine wpSteady_step (fun K hK => ?_); go_simp; first | (refine hK _ ?_; clear hK K) | (apply Exists.intro; refine ⟨fun _ => ?_, hK _ ?_⟩; (go_at_call 70; with_reducible exact k2.out _ gw); clear hK K))
    refine rq0 fun nq osq => ?_
    try simp only [Act.put, setA]
    try dsimp only
    go_wp2_with fail
    refine (k4.out _ gw).mono ?_
    rintro e w2 ⟨rfl, hg⟩
    have HG := hide hg
    clear hg
    dsimp only
    go_wp2_with fail
    exact ⟨rfl, rfl, Grew.trans gw HG.out⟩
  ·obtain ⟨e1, e2⟩ := ba_ne hz
   rw [if_pos (.inr (.inl (by omega)))] at hc
   subst hc
   have k4 := hide (k3.out 2)
   clear hys hge hz k3
   go_enter Tryz.func40, Tryz.ntmps40
   go_wp2_with (go_at_call 69; with_reducible refine crv (k1.out _ gw) fun _ _ => ?_; dsimp only)
   refine wp_region_qas 18 [] [] hm (h := ?_)
   repeat (refine wpSteady_step (fun K hK => ?_); go_simp; first | (refine hK _ ?_; clear hK K) | (apply Exists.intro; refine ⟨fun _ => ?_, hK _ ?_⟩; (go_at_call 70; with_reducible exact k2.out _ gw); clear hK K))
   refine rq0 fun nq osq => ?_
   try simp only [Act.put, setA]
   try dsimp only
   go_wp2_with fail
   refine (k4.out _ gw).mono ?_
   rintro e w2 ⟨rfl, hg⟩
   have HG := hide hg
   clear hg
   dsimp only
   go_wp2_with fail
   exact ⟨rfl, rfl, Grew.trans gw HG.out⟩
 ·rw [hn] at k1
  rw [if_pos (.inl hn)] at hc
  subst hc
  have k4 := hide (k3.out 2)
  clear hys hge k3 hn
  go_enter Tryz.func40, Tryz.ntmps40
  go_wp2_with (go_at_call 69; with_reducible refine crv (k1.out _ gw) fun _ _ => ?_; dsimp only)
  refine wp_region_qas 18 [] [] hm (h := ?_)
  repeat (refine wpSteady_step (fun K hK => ?_); go_simp; first | (refine hK _ ?_; clear hK K) | (apply Exists.intro; refine ⟨fun _ => ?_, hK _ ?_⟩; (go_at_call 70; with_reducible exact k2.out _ gw); clear hK K))
  refine rq0 fun nq osq => ?_
  try simp only [Act.put, setA]
  try dsimp only
  go_wp2_with fail
  refine (k4.out _ gw).mono ?_
  rintro e w2 ⟨rfl, hg⟩
  have HG := hide hg
  clear hg
  dsimp only
  go_wp2_with fail
  exact ⟨rfl, rfl, Grew.trans gw HG.out⟩
end Go.Proofs.YtfeccolljfkejaaGreatDoor
namespace Go.Proofs.YtfeccolljfkejaaGreatDoor
open Go.RowKit Go.Sort
attribute [local go_sem] Steady steadyUpon
attribute [local go_sem ↓] hs_dr lt_add_r lt_add_r2 lt_add_r3 lt_add_r4 lt_add_r5 lt_add_r6
attribute [local go_sem] cell?_gd frozen?_gd setCell_gd size_grow tape_grow cell?_grow' frozen?_grow' setCell_grow' grow_grow grow_dr grow_drew dr_dr dr_drew drew_dr dr_alloc dr_setCell dr_cell dr_frozen dr_tape dr_drawn
attribute [local irreducible] wpSteady
theorem catch_idle (P1 P2 P3 : Value) (w : World) :
  CallsD Tryz.prog 38 #[P1, P2, P3] .returning w fun e u' w' => e = .returned (.tuple #[]) ∧ u' = .returning ∧ w' = w := by
 refine callsD_of_wpS Tryz.func38 rfl fun c₀ cs hu => ?_
 apply wpS_seq
 apply wpS_region
 simp [wpOpsS, go_sem, recoverD, hu, Tryz.ntmps38, Exit.thenS]
 have e : (#[P1, P2, P3] ++ ((Array.replicate 11 undef).setIfInBounds 2 Value.nilIface).setIfInBounds 0 Value.nilIface : Array Value) = #[P1, P2, P3, .nilIface, undef, .nilIface, undef, undef, undef, undef, undef, undef, undef, undef] := rfl
 rw [e]
 refine wpS_of_wp ?_
 go_wp2_with fail
 cases c₀
 simp_all [bodyPostS, results, Tryz.results38]
/-- The world behind the closure that has recovered: three cells are written, new blocks lie behind. -/
structure CatchR (w : World) (O A E : Nat) (at0 e0 : Int) (w' : World) : Prop where
 os : w'.os = w.os
 tape : w'.tape = w.tape
 output : w'.output = w.output
 size : w.heap.size ≤ w'.heap.size
 o : w'.heap[O]? = some (.cells #[.slice none 0 0] 22 (0, 0))
 a : w'.heap[A]? = some (.cells #[.int .i64 at0] 3 (0, 0))
 e : w'.heap[E]? = some (.cells #[.int .i64 e0] 24 (0, 0))
 old : ∀ k, k < w.heap.size → k ≠ O → k ≠ A → k ≠ E → w'.heap[k]? = w.heap[k]?
theorem CatchR.of {w W : World} {O A E : Nat} {at0 e0 : Int} {v0 v1 v2 : Value} (g : Grew w W) (hO : w.heap[O]? = some (.cells #[v0] 22 (0, 0))) (hA : w.heap[A]? = some (.cells #[v1] 3 (0, 0))) (hE : w.heap[E]? = some (.cells #[v2] 24 (0, 0))) (hOA : O ≠ A) (hOE : O ≠ E) (hAE : A ≠ E) : CatchR w O A E at0 e0 (((W.setCell ⟨O, 0, none⟩ (.slice none 0 0)).setCell ⟨A, 0, none⟩ (.int .i64 at0)).setCell ⟨E, 0, none⟩ (.int .i64 e0)) := by
 have gO := (g.heap (blk_lt hO)).trans hO
 have gA := (g.heap (blk_lt hA)).trans hA
 have gE := (g.heap (blk_lt hE)).trans hE
 have hb := g.below
 refine ⟨hb.os, hb.tape, hb.output, by simpa using hb.size, ?_, ?_, ?_, fun k hk h1 h2 h3 => ?_⟩
 ·rw [heap_setCell_other _ ⟨E, 0, none⟩ O _ hOE, heap_setCell_other _ ⟨A, 0, none⟩ O _ hOA, heap_setCell_same _ O 0 _ _ _ gO]
  simp
 ·rw [heap_setCell_other _ ⟨E, 0, none⟩ A _ hAE, heap_setCell_same _ A 0 _ _ _ ((heap_setCell_other _ ⟨O, 0, none⟩ A _ hOA.symm).trans gA)]
  simp
 ·rw [heap_setCell_same _ E 0 _ _ _ ((heap_setCell_other _ ⟨A, 0, none⟩ E _ hAE.symm).trans ((heap_setCell_other _ ⟨O, 0, none⟩ E _ hOE.symm).trans gE))]
  simp
 ·rw [heap_setCell_other _ ⟨E, 0, none⟩ k _ h3, heap_setCell_other _ ⟨A, 0, none⟩ k _ h2, heap_setCell_other _ ⟨O, 0, none⟩ k _ h1]
  exact hb.block k hk
theorem catch_pan (O A E : Nat) (at0 e0 : Int) (older : List PanicEntry) (v0 v1 v2 : Value) (w : World) (hO : w.heap[O]? = some (.cells #[v0] 22 (0, 0))) (hA : w.heap[A]? = some (.cells #[v1] 3 (0, 0))) (hE : w.heap[E]? = some (.cells #[v2] 24 (0, 0))) (hOA : O ≠ A) (hOE : O ≠ E) (hAE : A ≠ E) :
  CallsD Tryz.prog 38 #[.pointer (some ⟨O, 0, none⟩), .pointer (some ⟨A, 0, none⟩), .pointer (some ⟨E, 0, none⟩)] (.panicking ({ v := .iface 81 (.agg #[.int .i64 at0, .int .i64 e0]), recovered := false } :: older)) w fun e u' w' => e = .returned (.tuple #[]) ∧ u' = .panicking ({ v := .iface 81 (.agg #[.int .i64 at0, .int .i64 e0]), recovered := true } :: older) ∧ CatchR w O A E at0 e0 w' := by
 have hm := hmix
 refine callsD_of_wpS Tryz.func38 rfl fun c₀ cs hu => ?_
 apply wpS_seq
 apply wpS_region
 simp [wpOpsS, go_sem, recoverD, hu, Tryz.ntmps38, Exit.thenS]
 obtain ⟨V, hV⟩ : ∃ V, (Value.agg #[.int .i64 at0, .int .i64 e0]) = V := ⟨_, rfl⟩
 have e : ∀ x y z u : Value, (#[x, y, z] ++ ((Array.replicate 11 undef).setIfInBounds 2 u).setIfInBounds 0 u : Array Value) = #[x, y, z, u, undef, u, undef, undef, undef, undef, undef, undef, undef, undef] := fun _ _ _ _ => rfl
 rw [e]
 clear hV e
 have o0 : w.cell? ⟨O, 0, none⟩ = some _ := blk_cell hO 0
 have ol := blk_lt hO
 have of := blk_frozen hO 0
 have a0 : w.cell? ⟨A, 0, none⟩ = some _ := blk_cell hA 0
 have al := blk_lt hA
 have af := blk_frozen hA 0
 have q0 : w.cell? ⟨E, 0, none⟩ = some _ := blk_cell hE 0
 have ql := blk_lt hE
 have qf := blk_frozen hE 0
 refine wpS_of_wp ?_
 have hta : (Instr.typeAssert (.iface 81 (.agg #[.int .i64 at0, .int .i64 e0])) 20 81 false).run Tryz.prog w = .ok (.agg #[.int .i64 at0, .int .i64 e0]) w := by
  simp [go_sem, Instr.typeAssert]
 go_upto_region 3 with fail
 refine wp_name ?_
 intro W1 hW
 have HG1 : Hid (Grew w W1) := hide (by rw [← hW]; exact gw)
 have hb : W1.heap[w.heap.size]? = some (.cells #[.int .i64 at0, .int .i64 e0] 81 (0, 0)) := by rw [← hW]; first | exact heap_alloc_new _ _ | exact heap_alloc_gd _ _ _ _ _ rfl
 have b0 : W1.cell? ⟨w.heap.size, 0, none⟩ = some _ := blk_cell hb 0
 have b1 : W1.cell? ⟨w.heap.size, 1, none⟩ = some _ := blk_cell hb 1
 have bl := blk_lt hb
 have n1 : ¬ O = w.heap.size := by omega
 have n2 : ¬ A = w.heap.size := by omega
 have n3 : ¬ E = w.heap.size := by omega
 have n1' : ¬ w.heap.size = O := by omega
 have n2' : ¬ w.heap.size = A := by omega
 have n3' : ¬ w.heap.size = E := by omega
 have HO := hide hO
 have HA := hide hA
 have HE := hide hE
 have p0 : W1.cell? ⟨O, 0, none⟩ = some _ := blk_cell ((HG1.out.heap ol).trans hO) 0
 have pl := blk_lt ((HG1.out.heap ol).trans hO)
 have pf := blk_frozen ((HG1.out.heap ol).trans hO) 0
 have r0 : W1.cell? ⟨A, 0, none⟩ = some _ := blk_cell ((HG1.out.heap al).trans hA) 0
 have rl := blk_lt ((HG1.out.heap al).trans hA)
 have rf := blk_frozen ((HG1.out.heap al).trans hA) 0
 have s0 : W1.cell? ⟨E, 0, none⟩ = some _ := blk_cell ((HG1.out.heap ql).trans hE) 0
 have sl := blk_lt ((HG1.out.heap ql).trans hE)
 have sf := blk_frozen ((HG1.out.heap ql).trans hE) 0
 have m1 : ¬ A = O := fun e => hOA e.symm
 have m2 : ¬ E = O := fun e => hOE e.symm
 have m3 : ¬ E = A := fun e => hAE e.symm
 clear hW hb hta o0 ol of a0 al af q0 ql qf hO hA hE
 refine wp_region_held_drew (S := (fun w' => w'.cell? ⟨w.heap.size, 0, none⟩ = some (.int .i64 at0) ∧ w'.cell? ⟨w.heap.size, 1, none⟩ = some (.int .i64 e0))) hm ?_ (fun hHeld => ?_)
 ·first | exact hHeld | exact ⟨b0, b1⟩ | go_keep
 refine tk 0 ?_
 refine tk 1 ?_
 refine tk 2 ?_
 try simp only [Act.put, setA, getA]
 refine tk 3 ?_
 try simp only [Act.put, setA, getA]
 refine wpAnyH_ready (rs := [4]) (by kernel_rfl) (by simp) ?_
 refine AllReadyH.cons (o := _) rfl (fun K hK => ?_) AllReadyH.nil
 go_simp
 skip
 refine hK.out _ _ ?_ (fun hHeld => ?_)
 ·first | exact hHeld | exact ⟨b0, b1⟩ | go_keep
 clear hK K
 try simp only [Act.put, setA, getA]
 refine wpAnyH_ready (rs := [5]) (by kernel_rfl) (by simp) ?_
 refine AllReadyH.cons (o := _) rfl (fun K hK => ?_) AllReadyH.nil
 go_simp
 skip
 refine hK.out _ _ ?_ (fun hHeld => ?_)
 ·first | exact hHeld | exact ⟨b0, b1⟩ | go_keep
 clear hK K
 try simp only [Act.put, setA, getA]
 refine wpAnyH_ready (rs := [6]) (by kernel_rfl) (by simp) ?_
 refine AllReadyH.cons (o := _) rfl (fun K hK => ?_) AllReadyH.nil
 go_simp
 skip
 refine hK.out _ _ ?_ (fun hHeld => ?_)
 ·first | exact hHeld | exact ⟨b0, b1⟩ | go_keep
 clear hK K
 try simp only [Act.put, setA, getA]
 refine wpAnyH_done (by kernel_rfl) ?_ _
 go_wp2_with fail
 have hfin := hide (CatchR.of (at0 := at0) (e0 := e0) HG1.out HO.out HA.out HE.out hOA hOE hAE)
 cases c₀
 simp_all [bodyPostS, results, Tryz.results38]
 exact ⟨hfin.out.os, hfin.out.tape, hfin.out.output, hfin.out.size, hfin.out.o, hfin.out.a, hfin.out.e, hfin.out.old⟩
end Go.Proofs.YtfeccolljfkejaaGreatDoor
namespace Go.Proofs.YtfeccolljfkejaaGreatDoor
open Go.RowKit Go.Sort
/-- What Parse makes of a source from a place on, behind so many rules. -/
def parseGo : Nat → ByteArray → Nat → List Ru → List Ru × Int × Int
 | 0, _, _, _ => ([], 0, 0)
 | f + 1, s, i, out =>
  if endOf isBl s i < s.size then
   (if out.length = 40 then ([], ((endOf isBl s i : Nat) : Int), overAt s (endOf isBl s i))
    else (match ruleAt s (endOf isBl s i) with
    | .error (p, e) => ([], (p : Int), e)
    | .ok (r, b) => parseGo f s b (out ++ [r])))
  else (out, 0, 0)
def parseOf (s : ByteArray) : List Ru × Int × Int := if 8000 < s.size then ([], 0, 2) else parseGo (s.size + 1) s 0 []
theorem tail_prog {s : ByteArray} {i b : Nat} (h : tailAt s i = .ok b) : i < b ∧ b ≤ s.size := by
 unfold tailAt at h
 have := endOf_ge isBl s i
 split at h
 ·rename_i h1
  injection h with h
  omega
 ·cases h
theorem num_prog {q : Nat} {s : ByteArray} {i j : Nat} {n : Int} (h : numAt q s i = .ok (n, j)) : i ≤ j := by
 unfold numAt at h
 have := endOf_ge (inR 48 57) s i
 split at h
 ·split at h
  ·injection h with h
   injection h with h1 h2
   omega
  ·cases h
 ·cases h
theorem rest_prog {q k : Nat} {s : ByteArray} {i b : Nat} {r : Int × Int × Int} (h : restAt q k s i = .ok (r, b)) : i < b ∧ b ≤ s.size := by
 unfold restAt at h
 have h0 := endOf_ge isBl s i
 split at h
 ·split at h
  ·cases h
  ·rename_i b' h1
   injection h with h
   injection h with h2 h3
   have := tail_prog h1
   omega
 ·split at h
  ·cases h
  ·rename_i n j h1
   have := num_prog h1
   split at h
   ·cases h
   ·rename_i b' h2
    injection h with h
    injection h with h3 h4
    have := tail_prog h2
    omega
theorem word_prog {ls : List ByteArray} {s : ByteArray} {i k a : Nat} (h : wordAt ls s i = .ok (k, a)) : i ≤ a := by
 unfold wordAt at h
 have := endOf_ge isBl s i
 split at h
 ·cases h
 ·split at h
  ·cases h
  ·injection h with h
   injection h with h1 h2
   omega
theorem rule_prog {s : ByteArray} {i b : Nat} {r : Int × Int × Int} (h : ruleAt s i = .ok (r, b)) : i < b ∧ b ≤ s.size := by
 unfold ruleAt at h
 split at h
 ·cases h
 ·rename_i q a h1
  have := word_prog h1
  split at h
  ·have := rest_prog h
   omega
  ·split at h
   ·cases h
   ·rename_i k j h2
    unfold kindAt at h2
    split at h2
    ·cases h2
    ·rename_i k' a' h3
     have := word_prog h3
     split at h2
     ·injection h2 with h2
      injection h2 with h4 h5
      have := rest_prog h
      omega
     ·cases h2
theorem parse_len : ∀ (f : Nat) (s : ByteArray) (i : Nat) (out : List Ru), out.length ≤ 40 → (parseGo f s i out).1.length ≤ 40
 | 0, _, _, _, _ => by simp [parseGo]
 | f + 1, s, i, out, h => by
  unfold parseGo
  split
  ·split
   ·simp
   ·rename_i h1
    split
    ·simp
    ·exact parse_len f s _ _ (by simp; omega)
  ·exact h
theorem pex1 : parseOf ⟨#[99, 97, 112, 32, 51, 48, 48, 59, 32, 114, 111, 117, 110, 100, 32, 119, 114, 101, 99, 107, 32, 49, 48, 59]⟩ = ([(1, 0, 300), (2, 2, 10)], 0, 0) := by kernel_rfl
theorem pex2 : parseOf ⟨#[116, 104, 105, 110, 32, 97, 114, 101, 97, 32, 53, 59]⟩ = ([], 5, 12) := by kernel_rfl
theorem pex3 : parseOf ⟨#[99, 97, 112, 32, 51, 48, 48]⟩ = ([], 7, 10) := by kernel_rfl
end Go.Proofs.YtfeccolljfkejaaGreatDoor
