/- The statements' head: the examples of the chapter. -/
import Derived.Test.YtgcgaplhaglejaaRegT
import Derived.Test.YtgcgaplhaglejaaNorm
import Derived.Test.YtgcgaplhaglejaaRefD
namespace Go.Proofs.Ytgcgaplhaglejaa
set_option linter.unusedVariables false
set_option linter.unusedSimpArgs false
open Go.RowKit Go.Sort
attribute [local go_sem] Steady steadyUpon
attribute [local go_sem ↓] hs_dr lt_add_r lt_add_r2 lt_add_r3 lt_add_r4 lt_add_r5 lt_add_r6
attribute [local go_sem] cell?_gd frozen?_gd setCell_gd size_grow tape_grow cell?_grow' frozen?_grow' setCell_grow' grow_grow grow_dr grow_drew dr_dr dr_drew drew_dr dr_alloc dr_setCell dr_cell dr_frozen dr_tape dr_drawn

set_option maxHeartbeats 400000 in
theorem arc_any (e f a b c d : Int) (w : World) : Calls Try.prog 27 #[.int .i64 e, .int .i64 f, pt a b, pt c d] w (Ret w (sec a b c d e f)) := by
  go_enter Try.func27, Try.ntmps27
  go_wp2
  refine bodyPost_ret (v := sec a b c d e f) (by simp [results, Try.results27, go_sem]) rfl ?_
  exact Ret.mk' rfl (by repeat (with_reducible first | exact Grew.refl _ | assumption | refine Grew.alloc ?_ _ | refine Grew.grow ?_ _ | refine Grew.dr ?_ _ | refine Grew.drewN ?_ _ | refine Grew.drew ?_ | refine Grew.trans ?_ (Hid.out (by assumption))))
set_option maxHeartbeats 400000 in
theorem at_any (a b : Int) (w : World) : Calls Try.prog 29 #[.int .i64 a, .int .i64 b] w (Ret w (pt a b)) := by
  go_enter Try.func29, Try.ntmps29
  go_wp2
  refine bodyPost_ret (v := pt a b) (by simp [results, Try.results29, go_sem]) rfl ?_
  exact Ret.mk' rfl (by repeat (with_reducible first | exact Grew.refl _ | assumption | refine Grew.alloc ?_ _ | refine Grew.grow ?_ _ | refine Grew.dr ?_ _ | refine Grew.drewN ?_ _ | refine Grew.drew ?_ | refine Grew.trans ?_ (Hid.out (by assumption))))
def withinB (a b n : Int) : Bool := decide (-n ≤ a ∧ a ≤ n ∧ -n ≤ b ∧ b ≤ n)
set_option maxHeartbeats 400000 in
theorem within_any (a b n : Int) (w : World) (hn : 0 ≤ n ∧ n ≤ 1000000) : Calls Try.prog 28 #[pt a b, .int .i64 n] w (Ret w (.bool (withinB a b n))) := by
  go_enter Try.func28, Try.ntmps28
  go_wp2
  all_goals go_ret
  all_goals refine Ret.mk' (ret_bool ?_) (by repeat (with_reducible first | exact Grew.refl _ | assumption | refine Grew.alloc ?_ _ | refine Grew.grow ?_ _ | refine Grew.dr ?_ _ | refine Grew.drewN ?_ _ | refine Grew.drew ?_ | refine Grew.trans ?_ (Hid.out (by assumption))))
  all_goals (rw [Bool.eq_iff_iff]; simp [withinB]; omega)
theorem In_v (a b c d e f x y : Int) (r : Bool) (w : World) (h : (Sec.ok ⟨a, b, c, d, e, f⟩ && dirOk x y) = true) (h2 : Sec.has ⟨a, b, c, d, e, f⟩ x y = r) :
    Calls Try.prog 14 #[sec a b c d e f, pt x y] w (Ret w (.tuple #[.bool r, .int .i64 0])) := by
  have := In_any ⟨a, b, c, d, e, f⟩ x y w
  rw [h, h2, if_pos rfl, Bool.true_and] at this
  exact this
theorem Rd.blk {W : World} {b : Nat} {cs : Array Value} {T : TypeId} (ss : List Sec) (h : W.heap[b]? = some (.cells cs T (0, 0))) (hc : cs.toList = ss.flatMap Sec.cells) : Rd W W.heap.size 6 (some ⟨b, 0, none⟩) (ss.map Sec.cells) := by
  refine .inr ⟨b, 0, rfl, blk_lt h, fun k x hx j u hu => ?_⟩
  rw [List.getElem?_map] at hx
  obtain ⟨s, hs, rfl⟩ := Option.map_eq_some_iff.1 hx
  have hj : j < 6 := by rw [← sec_len s]; exact (List.getElem?_eq_some_iff.1 hu).1
  rw [Nat.zero_add, blk_cell h, ← Array.getElem?_toList, hc]
  exact (flatMap_get Sec.cells 6 sec_len ss k j u hj).2 ⟨s, hs, hu⟩

theorem Color_v (ss : List Sec) (n : Nat) (A : Option Addr) (c : Nat) (x y : Int) (r : Int × Int) (w : World) (hr : Rd w w.heap.size 6 A (ss.map Sec.cells)) (hn : ss.length = n) (hl : n ≤ c) (hc : n ≤ 100000000000000) (h : colorOf ss x y = (r.1, r.2, 0)) :
    Calls Try.prog 16 #[.slice A n c, pt x y] w (Ret w (.tuple #[.int .i64 r.1, .int .i64 r.2, .int .i64 0])) := by
  subst hn
  have := Color_any ss A c x y w hr hl hc
  rwa [h] at this
theorem Safer_v (sa sb : List Sec) (n m : Nat) (A A' : Option Addr) (c c' : Nat) (r : Bool) (w : World) (hra : Rd w w.heap.size 6 A (sa.map Sec.cells)) (hrb : Rd w w.heap.size 6 A' (sb.map Sec.cells)) (hn : sa.length = n) (hm : sb.length = m) (hla : n ≤ c) (hlb : m ≤ c') (hc : n ≤ 100000000000000) (hc' : m ≤ 100000000000000) (h : saferOf sa sb = (r, 0)) :
    Calls Try.prog 20 #[.slice A n c, .slice A' m c'] w (Ret w (.tuple #[.bool r, .int .i64 0])) := by
  subst hn
  subst hm
  have := Safer_any sa sb A A' c c' w hra hrb hla hlb hc hc'
  rwa [h] at this
theorem Seen_v (ss : List Sec) (n : Nat) (A : Option Addr) (c : Nat) (ax ay px py : Int) (r : Int) (w : World) (hr : Rd w w.heap.size 6 A (ss.map Sec.cells)) (hn : ss.length = n) (hl : n ≤ c) (hc : n ≤ 100000000000000) (h : seenOf ss ax ay px py = (r, 0)) :
    Calls Try.prog 25 #[.slice A n c, pt ax ay, pt px py] w (Ret w (.tuple #[.int .i64 r, .int .i64 0])) := by
  subst hn
  have := Seen_any ss A c ax ay px py w hr hl hc
  rwa [h] at this
theorem Normal_v (ss : List Sec) (n : Nat) (A : Option Addr) (c : Nat) (r : List Sec) (w : World) (hr : Rd w w.heap.size 6 A (ss.map Sec.cells)) (hn : ss.length = n) (hl : n ≤ c) (hc : n ≤ 100000000000000) (h : normalOf ss = (r, 0)) :
    Calls Try.prog 22 #[.slice A n c] w (NormRet w (r, 0)) := by
  subst hn
  have := Normal_any ss A c w hr hl hc
  rwa [h] at this
def ptrBlk (v : Value) : Nat := match v with | .pointer (some a) => a.block | _ => 0
theorem heap_alloc_at (W : World) (o : Obj) (b : Nat) (h : b = W.heap.size) : (W.alloc o).heap[b]? = some o := by subst h; exact heap_alloc_new _ _
theorem heap_alloc_gd (W : World) (o : Obj) (b n : Nat) (os : Array Obj) (h : b = W.heap.size) : (Sort.grow (dr (W.alloc o) n) os).heap[b]? = some o := (heap_grow_old (dr (W.alloc o) n) os (by subst h; show W.heap.size < (W.alloc o).heap.size; simp)).trans (heap_alloc_at W o b h)
theorem wp_name {P : Program} {c : Code} {Q : Exit → Act → World → Prop} {a : Act} {w : World} (h : ∀ W0, w = W0 → c.wp P Q a W0) : c.wp P Q a w := h _ rfl
theorem wp_both {P : Program} {c : Code} {Q : Exit → Act → World → Prop} {a : Act} {w : World} (h : ∀ a0 W0, a = a0 → w = W0 → c.wp P Q a0 W0) : c.wp P Q a w := h _ _ rfl rfl
theorem v_col : colorOf [⟨1, 0, 0, 1, 1, 50⟩, ⟨0, 2, -1, 0, 2, 30⟩] (-1) 9 = (2, 30, 0) := by decide
theorem v_saf1 : saferOf [⟨1, 0, 0, 1, 1, 50⟩] [⟨1, 1, 0, 1, 1, 50⟩] = (false, 0) := by decide
theorem v_saf2 : saferOf [⟨1, 1, 0, 1, 1, 50⟩] [⟨1, 0, 0, 1, 1, 50⟩] = (true, 0) := by decide
theorem v_seen1 : seenOf [⟨1, 0, 0, 1, 1, 5⟩] 10 10 13 14 = (1, 0) := by decide
theorem v_seen2 : seenOf [⟨1, 0, 0, 1, 1, 5⟩] 10 10 14 14 = (0, 0) := by decide
def pA : Prim := ⟨(0, 1), by decide⟩
def pB : Prim := ⟨(1, 0), by decide⟩
theorem sA1 : shortP 0 2 = pA := Subtype.ext (by rw [shortP_val (by decide)]; decide)
theorem sA2 : shortP 0 1 = pA := Subtype.ext (by rw [shortP_val (by decide)]; decide)
theorem sB1 : shortP 2 0 = pB := Subtype.ext (by rw [shortP_val (by decide)]; decide)
theorem sB2 : shortP 1 0 = pB := Subtype.ext (by rw [shortP_val (by decide)]; decide)
theorem lAB : leP pA pB = false := by decide
theorem lBA : leP pB pA = true := by decide
theorem lAA : leP pA pA = true := by decide
theorem lBB : leP pB pB = true := by decide
theorem srt : sortP [pA, pB, pB, pA] = [pB, pB, pA, pA] := by
  unfold sortP
  simp [List.mergeSort, List.MergeSort.Internal.splitInTwo, List.merge, lAB, lBA, lAA, lBB]
theorem cmpP1 : compP [pB, pB, pA, pA] = [pB, pA] := by decide
theorem all1 : allP [⟨0, 2, 2, 0, 2, 30⟩, ⟨1, 0, 0, 1, 2, 30⟩] = [pB, pA] := by
  unfold allP turnsOf
  simp only [List.flatMap_cons, List.flatMap_nil, List.append_nil, List.cons_append, List.nil_append, List.map_cons, List.map_nil, sA1, sA2, sB1, sB2, srt, cmpP1]
theorem v_norm : normalOf [⟨0, 2, 2, 0, 2, 30⟩, ⟨1, 0, 0, 1, 2, 30⟩] = ([⟨1, 0, 1, 0, 2, 30⟩], 0) := by
  have h1 : LValid [⟨0, 2, 2, 0, 2, 30⟩, ⟨1, 0, 0, 1, 2, 30⟩] = true := by decide
  unfold normalOf
  rw [if_pos h1]
  unfold normList
  rw [if_neg (by decide), all1]
  decide

set_option maxRecDepth 100000 in
set_option maxHeartbeats 4000000 in
theorem head_any (w : World) : Calls Try.prog 11 #[] w (Ret w (.bool true)) := by
  have hm := hmix
  have q1 := hide (show ∀ W, Calls Try.prog 14 #[sec 1 0 0 1 1 50, pt 5 5] W (Ret W (.tuple #[.bool true, .int .i64 0])) from fun W => In_v _ _ _ _ _ _ _ _ _ W (by decide) (by decide))
  have q2 := hide (show ∀ W, Calls Try.prog 14 #[sec 1 0 0 1 1 50, pt 0 3] W (Ret W (.tuple #[.bool false, .int .i64 0])) from fun W => In_v _ _ _ _ _ _ _ _ _ W (by decide) (by decide))
  have q3 := hide (show ∀ W, Calls Try.prog 14 #[sec 0 1 1 0 1 50, pt (-1) (-7)] W (Ret W (.tuple #[.bool true, .int .i64 0])) from fun W => In_v _ _ _ _ _ _ _ _ _ W (by decide) (by decide))
  have q4 := hide (show ∀ W, Calls Try.prog 14 #[sec 0 1 1 0 1 50, pt 2 0] W (Ret W (.tuple #[.bool false, .int .i64 0])) from fun W => In_v _ _ _ _ _ _ _ _ _ W (by decide) (by decide))
  have q5 := hide (show ∀ W, Calls Try.prog 14 #[sec 1 0 3 0 1 50, pt (-2) 5] W (Ret W (.tuple #[.bool true, .int .i64 0])) from fun W => In_v _ _ _ _ _ _ _ _ _ W (by decide) (by decide))
  go_enter Try.func11, Try.ntmps11
  go_wp2_with (first | (go_at_call 29; refine (at_any _ _ _).mono ?_; rintro e w' ⟨rfl, ⟨_, _⟩, rfl⟩; dsimp only) | (go_at_call 27; refine (arc_any _ _ _ _ _ _ _).mono ?_; rintro e w' ⟨rfl, ⟨_, _⟩, rfl⟩; dsimp only))
  refine wp_both ?_
  intro a0 W0 ha hW
  have HGW0 : Hid (Grew w W0) := hide (by rw [← hW]; exact (by repeat (with_reducible first | exact Grew.refl _ | assumption | refine Grew.alloc ?_ _ | refine Grew.grow ?_ _ | refine Grew.dr ?_ _ | refine Grew.drewN ?_ _ | refine Grew.drew ?_ | refine Grew.trans ?_ (Hid.out (by assumption)))))
  obtain ⟨b1, hb1, hk⟩ : ∃ b1 : Nat, a0.tmps.getD 1 undef = .pointer (some ⟨b1, 0, none⟩) ∧ W0.heap[b1]? = some (.cells #[.int .i64 1, .int .i64 0, .int .i64 0, .int .i64 1, .int .i64 1, .int .i64 50] 26 (0, 0)) := ⟨_, by rw [← ha]; rfl, by rw [← hW]; exact heap_alloc_at _ _ _ (by go_simp)⟩
  have hE : ptrBlk (a0.tmps.getD 1 undef) = b1 := by rw [hb1]; rfl
  rw [← ha] at hE
  simp [ptrBlk] at hE
  rw [hE] at ha
  clear hb1 hE hW
  subst ha
  have hk0 : W0.cell? ⟨b1, 0, none⟩ = _ := blk_cell hk 0
  have hk1 : W0.cell? ⟨b1, 1, none⟩ = _ := blk_cell hk 1
  have hk2 : W0.cell? ⟨b1, 2, none⟩ = _ := blk_cell hk 2
  have hk3 : W0.cell? ⟨b1, 3, none⟩ = _ := blk_cell hk 3
  have hk4 : W0.cell? ⟨b1, 4, none⟩ = _ := blk_cell hk 4
  have hk5 : W0.cell? ⟨b1, 5, none⟩ = _ := blk_cell hk 5
  have hbl := blk_lt hk
  refine wp_region_qas 8 [] [] hm (by kernel_rfl) (by simp only [List.take, List.filter, isQ]; rfl) (by simp only [List.drop]; rfl) ZOk.nil (by simp) ?_
  repeat (refine wpSteady_step (fun K hK => ?_); go_simp; first | (refine hK _ ?_; clear hK K) | (apply Exists.intro; refine ⟨fun _ => ?_, hK _ ?_⟩; (first | (go_at_call 29; with_reducible exact at_any _ _ _) | (go_at_call 14; with_reducible exact q1.out _)); clear hK K))
  refine wpSteady_nil ?_
  refine ⟨StOk.nil, LyOk.nil, ?_⟩
  rintro psq qsq Wq HWq HFq HBq
  obtain rfl : qsq = [] := HBq
  obtain rfl : psq = [] := HFq
  obtain ⟨⟨nq, osq⟩, rfl⟩ := HWq
  simp only [putAll, putB, Act.put, List.setIfInBounds_toArray, List.set_cons_succ, List.set_cons_zero]
  try dsimp only
  go_wp2_with fail
  refine wp_name ?_
  intro W1 hW
  have HGW1 : Hid (Grew W0 W1) := hide (by rw [← hW]; exact (by repeat (with_reducible first | exact Grew.refl _ | assumption | refine Grew.alloc ?_ _ | refine Grew.grow ?_ _ | refine Grew.dr ?_ _ | refine Grew.drewN ?_ _ | refine Grew.drew ?_ | refine Grew.trans ?_ (Hid.out (by assumption)))))
  replace hk := (HGW1.out.heap hbl).trans hk
  clear hW hk0 hk1 hk2 hk3 hk4 hk5 hbl
  have hk0 : (W1).cell? ⟨b1, 0, none⟩ = _ := blk_cell hk 0
  have hk1 : (W1).cell? ⟨b1, 1, none⟩ = _ := blk_cell hk 1
  have hk2 : (W1).cell? ⟨b1, 2, none⟩ = _ := blk_cell hk 2
  have hk3 : (W1).cell? ⟨b1, 3, none⟩ = _ := blk_cell hk 3
  have hk4 : (W1).cell? ⟨b1, 4, none⟩ = _ := blk_cell hk 4
  have hk5 : (W1).cell? ⟨b1, 5, none⟩ = _ := blk_cell hk 5
  have hbl := blk_lt hk
  refine wp_region_qas 8 [] [] hm (by kernel_rfl) (by simp only [List.take, List.filter, isQ]; rfl) (by simp only [List.drop]; rfl) ZOk.nil (by simp) ?_
  repeat (refine wpSteady_step (fun K hK => ?_); go_simp; first | (refine hK _ ?_; clear hK K) | (apply Exists.intro; refine ⟨fun _ => ?_, hK _ ?_⟩; (first | (go_at_call 29; with_reducible exact at_any _ _ _) | (go_at_call 14; with_reducible exact q2.out _)); clear hK K))
  refine wpSteady_nil ?_
  refine ⟨StOk.nil, LyOk.nil, ?_⟩
  rintro psq qsq Wqb HWqb HFq HBq
  obtain rfl : qsq = [] := HBq
  obtain rfl : psq = [] := HFq
  obtain ⟨⟨nqb, osqb⟩, rfl⟩ := HWqb
  simp only [putAll, putB, Act.put, List.setIfInBounds_toArray, List.set_cons_succ, List.set_cons_zero]
  try dsimp only
  go_wp2_with (first | (go_at_call 29; refine (at_any _ _ _).mono ?_; rintro e w' ⟨rfl, ⟨_, _⟩, rfl⟩; dsimp only) | (go_at_call 27; refine (arc_any _ _ _ _ _ _ _).mono ?_; rintro e w' ⟨rfl, ⟨_, _⟩, rfl⟩; dsimp only) | (go_at_call 14; (with_reducible refine (q3.out _).mono ?_); rintro e w' ⟨rfl, ⟨_, _⟩, rfl⟩; dsimp only) | (go_at_call 14; (with_reducible refine (q4.out _).mono ?_); rintro e w' ⟨rfl, ⟨_, _⟩, rfl⟩; dsimp only) | (go_at_call 14; (with_reducible refine (q5.out _).mono ?_); rintro e w' ⟨rfl, ⟨_, _⟩, rfl⟩; dsimp only))
  refine wp_name ?_
  intro W2 hW
  have HGW2 : Hid (Grew W1 W2) := hide (by rw [← hW]; exact (by repeat (with_reducible first | exact Grew.refl _ | assumption | refine Grew.alloc ?_ _ | refine Grew.grow ?_ _ | refine Grew.dr ?_ _ | refine Grew.drewN ?_ _ | refine Grew.drew ?_ | refine Grew.trans ?_ (Hid.out (by assumption)))))
  replace hk := (HGW2.out.heap hbl).trans hk
  clear hW hk0 hk1 hk2 hk3 hk4 hk5 hbl
  have hk0 : (W2).cell? ⟨b1, 0, none⟩ = _ := blk_cell hk 0
  have hk1 : (W2).cell? ⟨b1, 1, none⟩ = _ := blk_cell hk 1
  have hk2 : (W2).cell? ⟨b1, 2, none⟩ = _ := blk_cell hk 2
  have hk3 : (W2).cell? ⟨b1, 3, none⟩ = _ := blk_cell hk 3
  have hk4 : (W2).cell? ⟨b1, 4, none⟩ = _ := blk_cell hk 4
  have hk5 : (W2).cell? ⟨b1, 5, none⟩ = _ := blk_cell hk 5
  have hbl := blk_lt hk
  refine L.wp_region_2q 6 7 [] [⟨4, 105, 2, 26, fun a => (a.eval (Operand.tmp 101)).cells ++ (a.eval (Operand.tmp 104)).cells⟩] hm (by kernel_rfl) (by simp only [List.take, List.filter, isQ]; rfl) (by simp only [List.drop, List.take]; rfl) (by simp only [List.drop]; rfl) ZOk.nil (by simp) ?_
  repeat (refine wpSteady_step (fun K hK => ?_); go_simp; first | (refine hK _ ?_; clear hK K) | (apply Exists.intro; refine ⟨fun _ => ?_, hK _ ?_⟩; (first | (go_at_call 29; with_reducible exact at_any _ _ _) | (go_at_call 27; with_reducible exact arc_any _ _ _ _ _ _ _)); clear hK K))
  refine wpSteady_nil ?_
  refine ⟨StOk.nil, (LyOk.cons (by rfl) (fun W => by first | (go_simp; done) | rfl) LyOk.nil), ?_⟩
  rintro psq qsq Wqc HWqc HFq HBq
  obtain ⟨bc0, _, rfl, hqc0, gbc0, rfl⟩ := HBq
  simp [Act.eval, Value.cells] at gbc0
  have gblc0 := blk_lt gbc0
  obtain rfl : psq = [] := HFq
  simp only [putAll, putB, Act.put, List.setIfInBounds_toArray, List.set_cons_succ, List.set_cons_zero]
  have occ := old_cell HWqc
  have ofc := old_frozen HWqc
  have olc := old_lt HWqc
  replace HWqc := hide HWqc
  go_wp2_with (go_at_call 16; (with_reducible refine (Color_v [⟨1, 0, 0, 1, 1, 50⟩, ⟨0, 2, -1, 0, 2, 30⟩] 2 _ _ _ _ (2, 30) _ (Rd.blk _ gbc0 rfl) rfl (by omega) (by omega) v_col).mono ?_); rintro e w' ⟨rfl, ⟨_, _⟩, rfl⟩; dsimp only)
  refine L.q2_normal ?_
  repeat (refine wpSteady_step (fun K hK => ?_); go_simp; first | (refine hK _ ?_; clear hK K) | (apply Exists.intro; refine ⟨fun _ => ?_, hK _ ?_⟩; (fail); clear hK K))
  refine wpSteady_nil ?_
  rintro W3c ⟨⟨n3c, o3c⟩, rfl⟩
  go_wp2_with fail
  refine wp_name ?_
  intro W3 hW
  have HGW3 : Hid (Grew W2 W3) := hide (by rw [← hW]; exact (by repeat (with_reducible first | exact Grew.refl _ | assumption | refine Grew.alloc ?_ _ | refine Grew.grow ?_ _ | refine Grew.dr ?_ _ | refine Grew.drewN ?_ _ | refine Grew.drew ?_ | refine Grew.trans ?_ (Hid.out (by assumption)))))
  replace hk := (HGW3.out.heap hbl).trans hk
  clear hW hk0 hk1 hk2 hk3 hk4 hk5 hbl
  have hk0 : (W3).cell? ⟨b1, 0, none⟩ = _ := blk_cell hk 0
  have hk1 : (W3).cell? ⟨b1, 1, none⟩ = _ := blk_cell hk 1
  have hk2 : (W3).cell? ⟨b1, 2, none⟩ = _ := blk_cell hk 2
  have hk3 : (W3).cell? ⟨b1, 3, none⟩ = _ := blk_cell hk 3
  have hk4 : (W3).cell? ⟨b1, 4, none⟩ = _ := blk_cell hk 4
  have hk5 : (W3).cell? ⟨b1, 5, none⟩ = _ := blk_cell hk 5
  have hbl := blk_lt hk
  clear occ ofc olc gbc0 gblc0 hqc0 HWqc
  refine L.wp_region_2q 6 7 [] [⟨1, 113, 1, 26, fun a => (a.eval (Operand.tmp 112)).cells⟩, ⟨5, 117, 1, 26, fun a => (a.eval (Operand.tmp 116)).cells⟩] hm (by kernel_rfl) (by simp only [List.take, List.filter, isQ]; rfl) (by simp only [List.drop, List.take]; rfl) (by simp only [List.drop]; rfl) ZOk.nil (by simp) ?_
  repeat (refine wpSteady_step (fun K hK => ?_); go_simp; first | (refine hK _ ?_; clear hK K) | (apply Exists.intro; refine ⟨fun _ => ?_, hK _ ?_⟩; (first | (go_at_call 29; with_reducible exact at_any _ _ _) | (go_at_call 27; with_reducible exact arc_any _ _ _ _ _ _ _)); clear hK K))
  refine wpSteady_nil ?_
  refine ⟨StOk.nil, (LyOk.cons (by rfl) (fun W => by first | (go_simp; done) | rfl) (LyOk.cons (by rfl) (fun W => by first | (go_simp; done) | rfl) LyOk.nil)), ?_⟩
  rintro psq qsq Wqd HWqd HFq HBq
  obtain ⟨bd0, _, rfl, hqd0, gbd0, bd1, _, rfl, hqd1, gbd1, rfl⟩ := HBq
  simp [Act.eval, Value.cells] at gbd0
  have gbld0 := blk_lt gbd0
  simp [Act.eval, Value.cells] at gbd1
  have gbld1 := blk_lt gbd1
  obtain rfl : psq = [] := HFq
  simp only [putAll, putB, Act.put, List.setIfInBounds_toArray, List.set_cons_succ, List.set_cons_zero]
  have ocd := old_cell HWqd
  have ofd := old_frozen HWqd
  have old := old_lt HWqd
  replace HWqd := hide HWqd
  go_wp2_with (go_at_call 20; (with_reducible refine (Safer_v [⟨1, 0, 0, 1, 1, 50⟩] [⟨1, 1, 0, 1, 1, 50⟩] 1 1 _ _ _ _ false _ (Rd.blk _ gbd0 rfl) (Rd.blk _ gbd1 rfl) rfl rfl (by omega) (by omega) (by omega) (by omega) v_saf1).mono ?_); rintro e w' ⟨rfl, ⟨_, _⟩, rfl⟩; dsimp only)
  refine L.q2_normal ?_
  repeat (refine wpSteady_step (fun K hK => ?_); go_simp; first | (refine hK _ ?_; clear hK K) | (apply Exists.intro; refine ⟨fun _ => ?_, hK _ ?_⟩; (fail); clear hK K))
  refine wpSteady_nil ?_
  rintro W3d ⟨⟨n3d, o3d⟩, rfl⟩
  go_wp2_with fail
  refine wp_name ?_
  intro W4 hW
  have HGW4 : Hid (Grew W3 W4) := hide (by rw [← hW]; exact (by repeat (with_reducible first | exact Grew.refl _ | assumption | refine Grew.alloc ?_ _ | refine Grew.grow ?_ _ | refine Grew.dr ?_ _ | refine Grew.drewN ?_ _ | refine Grew.drew ?_ | refine Grew.trans ?_ (Hid.out (by assumption)))))
  replace hk := (HGW4.out.heap hbl).trans hk
  clear hW hk0 hk1 hk2 hk3 hk4 hk5 hbl
  have hk0 : (W4).cell? ⟨b1, 0, none⟩ = _ := blk_cell hk 0
  have hk1 : (W4).cell? ⟨b1, 1, none⟩ = _ := blk_cell hk 1
  have hk2 : (W4).cell? ⟨b1, 2, none⟩ = _ := blk_cell hk 2
  have hk3 : (W4).cell? ⟨b1, 3, none⟩ = _ := blk_cell hk 3
  have hk4 : (W4).cell? ⟨b1, 4, none⟩ = _ := blk_cell hk 4
  have hk5 : (W4).cell? ⟨b1, 5, none⟩ = _ := blk_cell hk 5
  have hbl := blk_lt hk
  clear ocd ofd old gbd0 gbld0 hqd0 gbd1 gbld1 hqd1 HWqd
  refine L.wp_region_2q 6 7 [] [⟨3, 125, 1, 26, fun a => (a.eval (Operand.tmp 124)).cells⟩, ⟨5, 127, 1, 26, fun a => (a.eval (Operand.tmp 126)).cells⟩] hm (by kernel_rfl) (by simp only [List.take, List.filter, isQ]; rfl) (by simp only [List.drop, List.take]; rfl) (by simp only [List.drop]; rfl) ZOk.nil (by simp) ?_
  repeat (refine wpSteady_step (fun K hK => ?_); go_simp; first | (refine hK _ ?_; clear hK K) | (apply Exists.intro; refine ⟨fun _ => ?_, hK _ ?_⟩; (first | (go_at_call 29; with_reducible exact at_any _ _ _) | (go_at_call 27; with_reducible exact arc_any _ _ _ _ _ _ _)); clear hK K))
  refine wpSteady_nil ?_
  refine ⟨StOk.nil, (LyOk.cons (by rfl) (fun W => by first | (go_simp; done) | rfl) (LyOk.cons (by rfl) (fun W => by first | (go_simp; done) | rfl) LyOk.nil)), ?_⟩
  rintro psq qsq Wqe HWqe HFq HBq
  obtain ⟨be0, _, rfl, hqe0, gbe0, be1, _, rfl, hqe1, gbe1, rfl⟩ := HBq
  simp [Act.eval, Value.cells] at gbe0
  have gble0 := blk_lt gbe0
  simp [Act.eval, Value.cells] at gbe1
  have gble1 := blk_lt gbe1
  obtain rfl : psq = [] := HFq
  simp only [putAll, putB, Act.put, List.setIfInBounds_toArray, List.set_cons_succ, List.set_cons_zero]
  have oce := old_cell HWqe
  have ofe := old_frozen HWqe
  have ole := old_lt HWqe
  replace HWqe := hide HWqe
  go_wp2_with (go_at_call 20; (with_reducible refine (Safer_v [⟨1, 1, 0, 1, 1, 50⟩] [⟨1, 0, 0, 1, 1, 50⟩] 1 1 _ _ _ _ true _ (Rd.blk _ gbe0 rfl) (Rd.blk _ gbe1 rfl) rfl rfl (by omega) (by omega) (by omega) (by omega) v_saf2).mono ?_); rintro e w' ⟨rfl, ⟨_, _⟩, rfl⟩; dsimp only)
  refine L.q2_normal ?_
  repeat (refine wpSteady_step (fun K hK => ?_); go_simp; first | (refine hK _ ?_; clear hK K) | (apply Exists.intro; refine ⟨fun _ => ?_, hK _ ?_⟩; (fail); clear hK K))
  refine wpSteady_nil ?_
  rintro W3e ⟨⟨n3e, o3e⟩, rfl⟩
  go_wp2_with (first | (go_at_call 29; refine (at_any _ _ _).mono ?_; rintro e w' ⟨rfl, ⟨_, _⟩, rfl⟩; dsimp only) | (go_at_call 27; refine (arc_any _ _ _ _ _ _ _).mono ?_; rintro e w' ⟨rfl, ⟨_, _⟩, rfl⟩; dsimp only))
  refine (Normal_v [⟨0, 2, 2, 0, 2, 30⟩, ⟨1, 0, 0, 1, 2, 30⟩] 2 _ _ _ _ (Rd.blk _ (heap_alloc_at _ _ _ (by go_simp)) rfl) rfl (by omega) (by omega) v_norm).mono ?_
  rintro e W5 ⟨Ar, cr, rfl, hg5, hcr, hrd⟩
  have HRD := hide hrd
  have HG5 := hide (Grew.trans (by repeat (with_reducible first | exact Grew.refl _ | assumption | refine Grew.alloc ?_ _ | refine Grew.grow ?_ _ | refine Grew.dr ?_ _ | refine Grew.drewN ?_ _ | refine Grew.drew ?_ | refine Grew.trans ?_ (Hid.out (by assumption)))) hg5 : Grew W4 W5)
  clear hrd hg5
  dsimp only
  go_wp2_with (first | (go_at_call 29; refine (at_any _ _ _).mono ?_; rintro e w' ⟨rfl, ⟨_, _⟩, rfl⟩; dsimp only) | (go_at_call 27; refine (arc_any _ _ _ _ _ _ _).mono ?_; rintro e w' ⟨rfl, ⟨_, _⟩, rfl⟩; dsimp only))
  refine (Seen_v [⟨1, 0, 0, 1, 1, 5⟩] 1 _ _ _ _ _ _ 1 _ (Rd.blk _ (heap_alloc_gd _ _ _ _ _ (by go_simp)) rfl) rfl (by omega) (by omega) v_seen1).mono ?_
  rintro e w' ⟨rfl, ⟨_, _⟩, rfl⟩
  dsimp only
  go_wp2_with (first | (go_at_call 29; refine (at_any _ _ _).mono ?_; rintro e w' ⟨rfl, ⟨_, _⟩, rfl⟩; dsimp only) | (go_at_call 27; refine (arc_any _ _ _ _ _ _ _).mono ?_; rintro e w' ⟨rfl, ⟨_, _⟩, rfl⟩; dsimp only))
  refine (Seen_v [⟨1, 0, 0, 1, 1, 5⟩] 1 _ _ _ _ _ _ 0 _ (Rd.blk _ (heap_alloc_gd _ _ _ _ _ (by go_simp)) rfl) rfl (by omega) (by omega) v_seen2).mono ?_
  rintro e w' ⟨rfl, ⟨_, _⟩, rfl⟩
  dsimp only
  go_wp2_with (first | (go_at_call 29; refine (at_any _ _ _).mono ?_; rintro e w' ⟨rfl, ⟨_, _⟩, rfl⟩; dsimp only) | (go_at_call 27; refine (arc_any _ _ _ _ _ _ _).mono ?_; rintro e w' ⟨rfl, ⟨_, _⟩, rfl⟩; dsimp only))
  refine (rSame_any [⟨1, 0, 1, 0, 2, 30⟩] [⟨1, 0, 1, 0, 2, 30⟩] _ _ _ _ _ (HRD.out.up (by repeat (with_reducible first | exact Grew.refl _ | assumption | refine Grew.alloc ?_ _ | refine Grew.grow ?_ _ | refine Grew.dr ?_ _ | refine Grew.drewN ?_ _ | refine Grew.drew ?_ | refine Grew.trans ?_ (Hid.out (by assumption))))) (Rd.blk _ (heap_alloc_at _ _ _ (by go_simp)) rfl) (by simp) (by simp)).mono ?_
  rintro e w' ⟨rfl, ⟨_, _⟩, rfl⟩
  dsimp only
  go_wp2_with fail
  go_ret
  refine Ret.mk' rfl ?_
  exact HGW0.out.trans (HGW1.out.trans (HGW2.out.trans (HGW3.out.trans (HGW4.out.trans (HG5.out.trans (by repeat (with_reducible first | exact Grew.refl _ | assumption | refine Grew.alloc ?_ _ | refine Grew.grow ?_ _ | refine Grew.dr ?_ _ | refine Grew.drewN ?_ _ | refine Grew.drew ?_ | refine Grew.trans ?_ (Hid.out (by assumption)))))))))
end Go.Proofs.Ytgcgaplhaglejaa
