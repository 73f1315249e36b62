/- Package sector: Holds, Safer. -/
import Derived.Test.YtgcgaplhaglejaaSecE
namespace Go.Proofs.Ytgcgaplhaglejaa
set_option linter.unusedVariables false
set_option linter.unusedSimpArgs false
open Go.RowKit Go.Sort
attribute [local go_sem] Steady steadyUpon
attribute [local go_sem ↓] hs_dr lt_add_r lt_add_r2 lt_add_r3 lt_add_r4 lt_add_r5 lt_add_r6
attribute [local go_sem] cell?_gd frozen?_gd setCell_gd size_grow tape_grow cell?_grow' frozen?_grow' setCell_grow' grow_grow grow_dr grow_drew dr_dr dr_drew drew_dr dr_alloc dr_setCell dr_cell dr_frozen dr_tape dr_drawn
attribute [local go_sem] Oper.semAt_some

/-- The blocks from n0 on are these. -/
def Bx (W : World) (n0 : Nat) (os : List Obj) : Prop := ∀ i o, os[i]? = some o → W.heap[n0 + i]? = some o
theorem Bx.own {β : Type} {B n0 : Nat} {os : List Obj} (h : n0 + os.length ≤ B) : OwnFrom B (fun (_ : β) W => Bx W n0 os) := by
  intro s W W' row hs hg hr i o ho
  have hi := (List.getElem?_eq_some_iff.1 ho).1
  have h0 := hs i o ho
  rw [hg.block (n0 + i) (blk_lt h0) (fun e => by have := (hr _ e.symm).1; omega)]
  exact h0
theorem Bx.grew {W W' : World} {n0 : Nat} {os : List Obj} (h : Bx W n0 os) (hg : Grew W W') : Bx W' n0 os := fun i o ho => (hg.heap (blk_lt (h i o ho))).trans (h i o ho)
theorem ownFrom_pure {β : Type} {B : Nat} (p : β → Prop) : OwnFrom B (fun (s : β) (_ : World) => p s) := fun _ _ _ _ h _ _ => h

def holdsAt (sa sb : List Sec) (col : Int) (v : Int × Int) : Bool := !((showAt sa v.1 v.2).1 == col && ((showAt sb v.1 v.2).1 != col || decide ((showAt sb v.1 v.2).2 < (showAt sa v.1 v.2).2)))
def colOk (col : Int) : Bool := decide (1 ≤ col ∧ col ≤ 3)
def holdsOf (sa sb : List Sec) (col : Int) : Bool × Int := if (LValid sa && LValid sb && colOk col) = true then ((turnsOf (sa ++ sb)).all (holdsAt sa sb col), 0) else (false, 1)

set_option maxHeartbeats 1600000 in
theorem Holds_no (sa sb : List Sec) (A A' : Option Addr) (c c' : Nat) (col : Int) (w : World) (hra : Rd w w.heap.size 6 A (sa.map Sec.cells)) (hrb : Rd w w.heap.size 6 A' (sb.map Sec.cells)) (hla : sa.length ≤ c) (hlb : sb.length ≤ c') (hc : sa.length ≤ 100000000000000) (hc' : sb.length ≤ 100000000000000)
    (h : (LValid sa && LValid sb && colOk col) = false) :
    Calls Try.prog 18 #[.slice A sa.length c, .slice A' sb.length c', .int .i64 col] w (Ret w (.tuple #[.bool false, .int .i64 1])) := by
  have hm := hmix
  cases h1 : LValid sa
  · clear h
    go_enter Try.func18, Try.ntmps18
    go_wp2_with (go_at_call 12; refine (Valid_any sa A c _ (hra.up (by repeat (with_reducible first | exact Grew.refl _ | assumption | refine Grew.alloc ?_ _ | refine Grew.grow ?_ _ | refine Grew.dr ?_ _ | refine Grew.drewN ?_ _ | refine Grew.drew ?_ | refine Grew.trans ?_ (Hid.out (by assumption))))) hla hc).mono ?_; rintro e w' ⟨rfl, ⟨_, _⟩, rfl⟩; dsimp only; rw [h1])
    refine bodyPost_ret (v := .tuple #[.bool false, .int .i64 1]) (by simp [results, Try.results18, go_sem]) rfl ?_
    exact Ret.mk' rfl (by repeat (with_reducible first | exact Grew.refl _ | assumption | refine Grew.alloc ?_ _ | refine Grew.grow ?_ _ | refine Grew.dr ?_ _ | refine Grew.drewN ?_ _ | refine Grew.drew ?_ | refine Grew.trans ?_ (Hid.out (by assumption))))
  · cases h2 : LValid sb
    · clear h
      go_enter Try.func18, Try.ntmps18
      go_wp2_with fail
      refine (Valid_any sa A c _ (hra.up (by repeat (with_reducible first | exact Grew.refl _ | assumption | refine Grew.alloc ?_ _ | refine Grew.grow ?_ _ | refine Grew.dr ?_ _ | refine Grew.drewN ?_ _ | refine Grew.drew ?_ | refine Grew.trans ?_ (Hid.out (by assumption))))) hla hc).mono ?_
      rintro e w' ⟨rfl, ⟨_, _⟩, rfl⟩
      rw [h1]
      dsimp only
      go_wp2_with fail
      refine (Valid_any sb A' c' _ (hrb.up (by repeat (with_reducible first | exact Grew.refl _ | assumption | refine Grew.alloc ?_ _ | refine Grew.grow ?_ _ | refine Grew.dr ?_ _ | refine Grew.drewN ?_ _ | refine Grew.drew ?_ | refine Grew.trans ?_ (Hid.out (by assumption))))) hlb hc').mono ?_
      rintro e w' ⟨rfl, ⟨_, _⟩, rfl⟩
      rw [h2]
      dsimp only
      go_wp2_with fail
      refine bodyPost_ret (v := .tuple #[.bool false, .int .i64 1]) (by simp [results, Try.results18, go_sem]) rfl ?_
      exact Ret.mk' rfl (by repeat (with_reducible first | exact Grew.refl _ | assumption | refine Grew.alloc ?_ _ | refine Grew.grow ?_ _ | refine Grew.dr ?_ _ | refine Grew.drewN ?_ _ | refine Grew.drew ?_ | refine Grew.trans ?_ (Hid.out (by assumption))))
    · have h3 : colOk col = false := by rw [h1, h2] at h; simpa using h
      have h4 : col < 1 ∨ 3 < col := by simp [colOk] at h3; omega
      clear h h3
      rcases h4 with h4 | h4
      · have h5 : decide (col < 1) = true := by simpa using h4
        go_enter Try.func18, Try.ntmps18
        go_wp2_with fail
        refine (Valid_any sa A c _ (hra.up (by repeat (with_reducible first | exact Grew.refl _ | assumption | refine Grew.alloc ?_ _ | refine Grew.grow ?_ _ | refine Grew.dr ?_ _ | refine Grew.drewN ?_ _ | refine Grew.drew ?_ | refine Grew.trans ?_ (Hid.out (by assumption))))) hla hc).mono ?_
        rintro e w' ⟨rfl, ⟨_, _⟩, rfl⟩
        rw [h1]
        dsimp only
        go_wp2_with fail
        refine (Valid_any sb A' c' _ (hrb.up (by repeat (with_reducible first | exact Grew.refl _ | assumption | refine Grew.alloc ?_ _ | refine Grew.grow ?_ _ | refine Grew.dr ?_ _ | refine Grew.drewN ?_ _ | refine Grew.drew ?_ | refine Grew.trans ?_ (Hid.out (by assumption))))) hlb hc').mono ?_
        rintro e w' ⟨rfl, ⟨_, _⟩, rfl⟩
        rw [h2]
        dsimp only
        go_wp2_with fail
        refine bodyPost_ret (v := .tuple #[.bool false, .int .i64 1]) (by simp [results, Try.results18, go_sem]) rfl ?_
        exact Ret.mk' rfl (by repeat (with_reducible first | exact Grew.refl _ | assumption | refine Grew.alloc ?_ _ | refine Grew.grow ?_ _ | refine Grew.dr ?_ _ | refine Grew.drewN ?_ _ | refine Grew.drew ?_ | refine Grew.trans ?_ (Hid.out (by assumption))))
      · have h5 : decide (col < 1) = false := by simp; omega
        go_enter Try.func18, Try.ntmps18
        go_wp2_with fail
        refine (Valid_any sa A c _ (hra.up (by repeat (with_reducible first | exact Grew.refl _ | assumption | refine Grew.alloc ?_ _ | refine Grew.grow ?_ _ | refine Grew.dr ?_ _ | refine Grew.drewN ?_ _ | refine Grew.drew ?_ | refine Grew.trans ?_ (Hid.out (by assumption))))) hla hc).mono ?_
        rintro e w' ⟨rfl, ⟨_, _⟩, rfl⟩
        rw [h1]
        dsimp only
        go_wp2_with fail
        refine (Valid_any sb A' c' _ (hrb.up (by repeat (with_reducible first | exact Grew.refl _ | assumption | refine Grew.alloc ?_ _ | refine Grew.grow ?_ _ | refine Grew.dr ?_ _ | refine Grew.drewN ?_ _ | refine Grew.drew ?_ | refine Grew.trans ?_ (Hid.out (by assumption))))) hlb hc').mono ?_
        rintro e w' ⟨rfl, ⟨_, _⟩, rfl⟩
        rw [h2]
        dsimp only
        go_wp2_with fail
        refine bodyPost_ret (v := .tuple #[.bool false, .int .i64 1]) (by simp [results, Try.results18, go_sem]) rfl ?_
        exact Ret.mk' rfl (by repeat (with_reducible first | exact Grew.refl _ | assumption | refine Grew.alloc ?_ _ | refine Grew.grow ?_ _ | refine Grew.dr ?_ _ | refine Grew.drewN ?_ _ | refine Grew.drew ?_ | refine Grew.trans ?_ (Hid.out (by assumption))))

theorem cells_own {X Y : World} {row : Option Nat} {B : Nat} {cs : Array Value} {T : TypeId} {fr : Nat × Nat} (h : X.heap[B]? = some (.cells cs T fr)) (hg : X.grownBy Y row) (hr : ∀ r, row = some r → ∃ o : Obj, X.heap[r]? = some o ∧ o.isCells = false) : Y.heap[B]? = some (.cells cs T fr) :=
  (grownBy_keeps_cells hg hr h rfl).trans h
theorem asg1 (T : Array Value) (k : Nat) (v : Value) : ((#[k] : Array Tmp).zip #[v]).foldl (fun t (p, v) => t.setIfInBounds p v) T = T.setIfInBounds k v := by simp
theorem putObj_cell {W : World} {D b i : Nat} {o : Obj} (h : b ≠ D) : (W.putObj D o).cell? ⟨b, i, none⟩ = W.cell? ⟨b, i, none⟩ := World.cell?_of_block (World.putObj_heap_other h)
abbrev boxesH (sa sb : List Sec) (A A' : Option Addr) (c c' : Nat) (col : Int) : List Obj := [.cells #[.slice A sa.length c] 22 (0, 0), .cells #[.slice A' sb.length c'] 22 (0, 0), .cells #[.int .i64 col] 3 (0, 0), .cells #[.bool false] 4 (0, 0), .cells #[.int .i64 0] 29 (0, 0)]
theorem wpIn_name {F : Fence} {n : Nat} {P : Program} {c : Code} {Q : Exit → Act → World → Prop} {a : Act} {w : World} (h : ∀ a0 W0, a = a0 → w = W0 → c.wpIn F n P Q a0 W0) : c.wpIn F n P Q a w := h _ _ rfl rfl
theorem Bx.box {W : World} {n0 : Nat} {os : List Obj} (h : Bx W n0 os) (i : Nat) {v : Value} {T : TypeId} (ho : os[i]? = some (.cells #[v] T (0, 0))) : Boxed W (n0 + i) T v := h i _ ho
theorem Bx.allocs : ∀ (os : List Obj) (w : World), Bx (os.foldl World.alloc w) w.heap.size os ∧ Grew w (os.foldl World.alloc w)
  | [], w => ⟨fun i o h => by simp at h, Grew.refl _⟩
  | o :: os, w => by
    obtain ⟨h1, h2⟩ := Bx.allocs os (w.alloc o)
    refine ⟨fun i x hx => ?_, Grew.trans (Grew.alloc (Grew.refl _) o) h2⟩
    cases i with
    | zero =>
      injection hx with hx
      subst hx
      exact (h2.below.block w.heap.size (by simp)).trans (heap_alloc_new w o)
    | succ i =>
      have := h1 i x hx
      rw [World.size_alloc'] at this
      rw [show w.heap.size + (i + 1) = w.heap.size + 1 + i by omega]
      exact this
theorem Grew.keepsFrom {W W' : World} (h : Grew W W') (B : Nat) : KeepsFrom B W W' := KeepsFrom.of_grownBy (h.grownBy none) (fun _ e => by cases e)
theorem KeepsFrom.setCell (B : Nat) (W : World) (a : Addr) (v : Value) : KeepsFrom B W (W.setCell a v) := (KeepsOthers.setCell W a v).from B

set_option maxRecDepth 100000 in
set_option maxHeartbeats 2000000 in
theorem Holds_yes (sa sb : List Sec) (A A' : Option Addr) (c c' : Nat) (col : Int) (w : World) (hra : Rd w w.heap.size 6 A (sa.map Sec.cells)) (hrb : Rd w w.heap.size 6 A' (sb.map Sec.cells)) (hla : sa.length ≤ c) (hlb : sb.length ≤ c') (hc : sa.length ≤ 100000000000000) (hc' : sb.length ≤ 100000000000000)
    (h1 : LValid sa = true) (h2 : LValid sb = true) (h3 : 1 ≤ col ∧ col ≤ 3) :
    Calls Try.prog 18 #[.slice A sa.length c, .slice A' sb.length c', .int .i64 col] w (Ret w (.tuple #[.bool ((turnsOf (sa ++ sb)).all (holdsAt sa sb col)), .int .i64 0])) := by
  have hm := hmix
  have HRA := hide hra
  have HRB := hide hrb
  clear hra hrb
  obtain ⟨hoka, hl1⟩ := LV_ok h1
  obtain ⟨hokb, hl2⟩ := LV_ok h2
  have HOA := hide hoka
  have HOB := hide hokb
  clear hoka hokb
  have h5 : decide (col < 1) = false := by simp; omega
  have h6 : decide (3 < col) = false := by simp; omega
  refine (callsIn_wide (n := 9)).1 ?_
  refine callsIn_of_wp_marks Try.func18 rfl trivial ?_ rfl
  simp only [Try.ntmps18, List.size_toArray, List.length_cons, List.length_nil, Nat.reduceAdd, Nat.reduceSub, Array.replicate_succ, Array.replicate_zero, List.push_toArray, List.append_toArray, List.nil_append, List.cons_append]
  gi_wp2_with fail
  refine ⟨trivial, ?_⟩
  refine (callsIn_wide.2 (Valid_any sa A c _ (HRA.out.up (by repeat (with_reducible first | exact Grew.refl _ | assumption | refine Grew.alloc ?_ _ | refine Grew.grow ?_ _ | refine Grew.dr ?_ _ | refine Grew.drewN ?_ _ | refine Grew.drew ?_ | refine Grew.trans ?_ (Hid.out (by assumption))))) hla hc)).mono ?_
  rintro e w' ⟨rfl, ⟨_, _⟩, rfl⟩
  rw [h1]
  dsimp only
  gi_wp2_with fail
  refine ⟨trivial, ?_⟩
  refine (callsIn_wide.2 (Valid_any sb A' c' _ (HRB.out.up (by repeat (with_reducible first | exact Grew.refl _ | assumption | refine Grew.alloc ?_ _ | refine Grew.grow ?_ _ | refine Grew.dr ?_ _ | refine Grew.drewN ?_ _ | refine Grew.drew ?_ | refine Grew.trans ?_ (Hid.out (by assumption))))) hlb hc')).mono ?_
  rintro e W1 ⟨rfl, hg⟩
  rw [h2]
  obtain ⟨hbx, hgw⟩ := Bx.allocs (boxesH sa sb A A' c c' col) w
  have hg1 : Grew (List.foldl World.alloc w (boxesH sa sb A A' c c' col)) W1 := by
    refine Grew.trans ?_ hg
    dsimp only [boxesH, List.foldl]
    exact (by repeat (with_reducible first | exact Grew.refl _ | assumption | refine Grew.alloc ?_ _ | refine Grew.grow ?_ _ | refine Grew.dr ?_ _ | refine Grew.drewN ?_ _ | refine Grew.drew ?_ | refine Grew.trans ?_ (Hid.out (by assumption))))
  have hb1 := hbx.grew hg1
  have hw1 := hgw.trans hg1
  clear hg hgw hg1 hbx
  have c0 : W1.cell? ⟨w.heap.size, 0, none⟩ = _ := (hb1.box 0 rfl).cell
  have c1 : W1.cell? ⟨w.heap.size + 1, 0, none⟩ = _ := (hb1.box 1 rfl).cell
  have c2 : W1.cell? ⟨w.heap.size + 1 + 1, 0, none⟩ = _ := (hb1.box 2 rfl).cell
  have HB1 := hide hb1
  have HW1 := hide hw1
  clear hb1 hw1
  dsimp only
  gi_wp2_with fail
  refine ⟨trivial, ?_⟩
  refine (callsIn_wide.2 (turns_any _ _ _ _)).mono ?_
  rintro e w' ⟨rfl, rfl⟩
  dsimp only
  gi_wp2_with fail
  refine wpIn_name ?_
  intro a0 W0 ha hW
  have hg0 : Grew w W0 := by rw [← hW]; exact (HW1.out.alloc _).alloc _
  have hb0 := HB1.out.grew (W' := W0) (by rw [← hW]; exact (by repeat (with_reducible first | exact Grew.refl _ | assumption | refine Grew.alloc ?_ _ | refine Grew.grow ?_ _ | refine Grew.dr ?_ _ | refine Grew.drewN ?_ _ | refine Grew.drew ?_ | refine Grew.trans ?_ (Hid.out (by assumption)))))
  have hsz : w.heap.size ≤ W0.heap.size := hg0.below.size
  have hz : W0.heap.size = W1.heap.size + 2 := by rw [← hW]; simp
  have hk0 : W0.heap[W1.heap.size]? = some (.cells #[.slice A sa.length c, .slice A' sb.length c'] 22 (0, 0)) := by
    rw [← hW]
    exact (heap_alloc_old _ _ (by simp)).trans (heap_alloc_new _ _)
  have hk1 : W0.heap[W1.heap.size + 1]? = some (.cells #[.slice (some ⟨W1.heap.size, 0, none⟩) 2 2] 76 (0, 0)) := by
    have := heap_alloc_new (W1.alloc (.cells #[.slice A sa.length c, .slice A' sb.length c'] 22 (0, 0))) (.cells #[.slice (some ⟨W1.heap.size, 0, none⟩) 2 2] 76 (0, 0))
    rw [World.size_alloc'] at this
    rw [← hW]
    exact this
  have h5z : w.heap.size + 4 < W0.heap.size := (hb0.box 4 rfl).lt
  clear hW c0 c1 c2
  have hLL : ([⟨A, c, sa⟩, ⟨A', c', sb⟩] : List SL).flatMap SL.ss = sa ++ sb := by simp
  refine wpIn_rangeFunc_ownH (n := 9) rfl (by omega) (gf := 52) (lb := #[.pointer (some ⟨W1.heap.size + 1, 0, none⟩)]) (by rw [← ha]; simp [Act.eval]) trivial (enters_of Try.func52 (by kernel_rfl) rfl)
    (turns1_stops 8 (fun b _ => b = w.heap.size + 3 ∨ b = w.heap.size + 4) [⟨A, c, sa⟩, ⟨A', c', sb⟩] (some ⟨W1.heap.size, 0, none⟩) 2 (W1.heap.size + 1) W0 (fun b _ hb => .inl (by omega)) hk1
      (.inr ⟨_, _, rfl, by omega, fun k x hx j v hv => by
        rw [blk_cell hk0]
        match k, hx with
        | 0, hx => injection hx with hx; subst hx; match j, hv with | 0, hv => exact hv
        | 1, hx => injection hx with hx; subst hx; match j, hv with | 0, hv => exact hv⟩)
      (by intro x hx; simp at hx; rcases hx with rfl | rfl <;> first | exact HRA.out.up hg0 | exact HRB.out.up hg0) (by simp) (by intro x hx; simp at hx; rcases hx with rfl | rfl <;> (simp; omega)) (by rw [hLL]; intro s hs; rcases List.mem_append.1 hs with h | h <;> first | exact HOA.out s h | exact HOB.out s h))
    (fun h k => h.trans k) KpM.bk (Below.refl _ _) (fun _ => rfl)
    (fun pre W => (Below w.heap.size w W ∧ Bx W w.heap.size (boxesH sa sb A A' c c' col)) ∧ ∀ v ∈ pre, holdsAt sa sb col v.1 = true)
    (fun q pre W => ((Below w.heap.size w W ∧ Boxed W (w.heap.size + 3) 4 (.bool false)) ∧ Boxed W (w.heap.size + 4) 29 (.int .i64 0)) ∧ q = .ret ∧ ∃ v ∈ pre, holdsAt sa sb col v.1 = false)
    (OwnFrom.and (OwnFrom.and (ownFrom_below (Nat.le_refl _) hsz) (Bx.own h5z)) (ownFrom_pure _))
    (fun q => OwnFrom.and (OwnFrom.and (OwnFrom.and (ownFrom_below (Nat.le_refl _) hsz) (Own.from (boxed_own _ _ _) _)) (Own.from (boxed_own _ _ _) _)) (ownFrom_pure _))
    ⟨⟨hg0.below, hb0⟩, fun v hv => by cases hv⟩
    (fun x a' W => ∃ B, W.heap[B]? = some (.cells #[.int .i64 x.1.1, .int .i64 x.1.2] 55 (0, 0)) ∧ a' = { tmps := (a0.tmps.setIfInBounds 31 (pt x.1.1 x.1.2)).setIfInBounds 8 (.pointer (some ⟨B, 0, none⟩)), defers := [] })
    (fun x a' => by
      rintro s X Y row ⟨B, h1, h2⟩ hg hr
      exact ⟨B, cells_own h1 hg (fun r e => (hr r e).2), h2⟩)
    ?assign ?body ?done ?stop
  case assign =>
    rintro l pre x W K ⟨⟨hB, hb⟩, hp⟩ hK
    rw [show x.enc = #[pt x.1.1 x.1.2] from rfl, asg1]
    subst ha
    simp only [List.setIfInBounds_toArray, List.set_cons_succ, List.set_cons_zero] at hK ⊢
    have hKK := hide hK
    clear hK
    gi_wp2_with fail
    exact hKK.out _ _ ((KeepsOthers.alloc _ _).from _) (KpM.grew (Grew.alloc (Grew.refl _) _)) ⟨⟨hB.alloc hB.size _, hb.grew (Grew.alloc (Grew.refl _) _)⟩, hp⟩ ⟨W.heap.size, heap_alloc_new _ _, rfl⟩
  case body =>
    rintro l pre x a' W hl _ ⟨⟨hB, hb⟩, hp⟩ ⟨B, hx, rfl⟩ hlt
    subst ha
    have c0 : W.cell? ⟨w.heap.size, 0, none⟩ = _ := (hb.box 0 rfl).cell
    have c1 : W.cell? ⟨w.heap.size + 1, 0, none⟩ = _ := (hb.box 1 rfl).cell
    have c2 : W.cell? ⟨w.heap.size + 1 + 1, 0, none⟩ = _ := (hb.box 2 rfl).cell
    have c3 : W.cell? ⟨B, 0, none⟩ = some _ := blk_cell hx 0
    have c4 : W.cell? ⟨B, 1, none⟩ = some _ := blk_cell hx 1
    have hBl := blk_lt hx
    have h4l := (hb.box 4 rfl).lt
    have l0 : w.heap.size < W.heap.size := by omega
    have l1 : w.heap.size + 1 < W.heap.size := by omega
    have l2 : w.heap.size + 1 + 1 < W.heap.size := by omega
    have l3 : w.heap.size + 1 + 1 + 1 < W.heap.size := by omega
    have l4 : w.heap.size + 1 + 1 + 1 + 1 < W.heap.size := by omega
    have g3 : W.cell? ⟨w.heap.size + 1 + 1 + 1, 0, none⟩ = _ := (hb.box 3 rfl).cell
    have g4 : W.cell? ⟨w.heap.size + 1 + 1 + 1 + 1, 0, none⟩ = _ := (hb.box 4 rfl).cell
    have f3 : W.frozen? ⟨w.heap.size + 1 + 1 + 1, 0, none⟩ = _ := (hb.box 3 rfl).frozen
    have f4 : W.frozen? ⟨w.heap.size + 1 + 1 + 1 + 1, 0, none⟩ = _ := (hb.box 4 rfl).frozen
    have HRA' := hide (HRA.out.up (Grew.of_below hB))
    have HRB' := hide (HRB.out.up (Grew.of_below hB))
    have HP := hide hp
    have HB := hide hB
    have Hb := hide hb
    clear hp hB hb hx hlt
    obtain ⟨⟨vx, vy⟩, hv⟩ := x
    have hbd := dir_bd hv
    dsimp only at hbd c3 c4 HP
    simp only [List.setIfInBounds_toArray, List.set_cons_succ, List.set_cons_zero]
    gi_wp2_with fail
    refine wpIn_region_qas 10 [⟨6, 8, 9, 58, .agg #[.int .i64 0, .int .i64 0]⟩, ⟨7, 9, 10, 58, .agg #[.int .i64 0, .int .i64 0]⟩] [] hm (by kernel_rfl) (by kernel_rfl) (by simp only [List.take, List.filter, isQ]; rfl) (by simp only [List.drop]; rfl) (ZOk.cons Try.zeroValue58 Try.sizeOf58 (ZOk.cons Try.zeroValue58 Try.sizeOf58 ZOk.nil)) (by simp) ?_
    repeat (refine wpSteady_step (fun K hK => ?_); go_simp; first | (refine hK _ ?_; clear hK K) | (apply Exists.intro; refine ⟨fun _ => ?_, hK _ ?_⟩; (go_at_call 38; first | with_reducible exact shown_any sa A c _ _ _ (HRA'.out.up (by repeat (with_reducible first | exact Grew.refl _ | assumption | refine Grew.alloc ?_ _ | refine Grew.grow ?_ _ | refine Grew.dr ?_ _ | refine Grew.drewN ?_ _ | refine Grew.drew ?_ | refine Grew.trans ?_ (Hid.out (by assumption))))) hla hc HOA.out hbd.1 hbd.2 | with_reducible exact shown_any sb A' c' _ _ _ (HRB'.out.up (by repeat (with_reducible first | exact Grew.refl _ | assumption | refine Grew.alloc ?_ _ | refine Grew.grow ?_ _ | refine Grew.dr ?_ _ | refine Grew.drewN ?_ _ | refine Grew.drew ?_ | refine Grew.trans ?_ (Hid.out (by assumption))))) hlb hc' HOB.out hbd.1 hbd.2); clear hK K))
    refine wpSteady_nil ?_
    refine ⟨(StOk.cons (by rfl) (by simp [stOpnd, Act.eval, Value.cells, Value.oneCell']) (StOk.cons (by rfl) (by simp [stOpnd, Act.eval, Value.cells, Value.oneCell']) StOk.nil)), LyOk.nil, ?_⟩
    rintro psq qsq Wq HWq HFq HBq
    obtain rfl : qsq = [] := HBq
    obtain ⟨p0, _, rfl, hp0, hb0, hn0, p1, _, rfl, hp1, hb1, hn1, rfl⟩ := HFq
    simp only [putAll, putB, Act.put, List.setIfInBounds_toArray, List.set_cons_succ, List.set_cons_zero]
    simp [stOpnd, Act.eval, Value.cells] at hb0
    have gc0_0 : Wq.cell? ⟨p0, 0, none⟩ = some _ := blk_cell hb0 0
    have gc0_1 : Wq.cell? ⟨p0, 1, none⟩ = some _ := blk_cell hb0 1
    have gf0 := blk_frozen hb0
    have gl0 := blk_lt hb0
    simp [stOpnd, Act.eval, Value.cells] at hb1
    have gc1_0 : Wq.cell? ⟨p1, 0, none⟩ = some _ := blk_cell hb1 0
    have gc1_1 : Wq.cell? ⟨p1, 1, none⟩ = some _ := blk_cell hb1 1
    have gf1 := blk_frozen hb1
    have gl1 := blk_lt hb1
    have gn : p0 ≠ p1 := by simpa using hn0
    have gm : p1 ≠ p0 := fun e => gn e.symm
    clear hb0 hn0 hp0 hb1 hn1 hp1
    have oc := old_cell HWq
    have of := old_frozen HWq
    have ol := old_lt HWq
    replace HWq := hide HWq
    gi_wp2_with fail
    all_goals have hb9 := Hb.out.grew HWq.out
    all_goals have hB9 := HB.out.trans (HWq.out.below.mono HB.out.size)
    all_goals first
      | (refine ⟨HWq.out.keepsFrom _, KpM.grew HWq.out, ⟨hB9, hb9⟩, fun v hv' => ?_⟩
         rcases List.mem_append.1 hv' with h | h
         · exact HP.out v h
         · obtain rfl := List.mem_singleton.1 h
           simp [holdsAt]
           omega)
      | (refine ⟨(HWq.out.keepsFrom _).trans ((KeepsFrom.setCell _ _ _ _).trans (KeepsFrom.setCell _ _ _ _)), ⟨⟨(hB9.setCell (p := ⟨w.heap.size + 1 + 1 + 1, 0, none⟩) (by simp; omega) _).setCell (p := ⟨w.heap.size + 1 + 1 + 1 + 1, 0, none⟩) (by simp; omega) _, ((hb9.box 3 rfl).set _).other (by omega) _⟩, ((hb9.box 4 rfl).other (by omega) _).set _⟩, rfl, ⟨⟨(vx, vy), hv⟩, List.mem_append_right _ (List.mem_singleton.2 rfl), ?_⟩⟩
         simp [holdsAt]
         omega)
  case done =>
    subst ha
    rintro D xs W hD hS ⟨⟨hB, hb⟩, hp⟩ hK
    have b3 : Boxed W (w.heap.size + 1 + 1 + 1) _ _ := hb.box 3 rfl
    have b4 : Boxed W (w.heap.size + 1 + 1 + 1 + 1) _ _ := hb.box 4 rfl
    have c3 := b3.cell
    have f3 := b3.frozen
    have c4 := b4.cell
    have f4 := b4.frozen
    have HB := hide hB
    have HS := hide hS
    have HP := hide hp
    clear hB hb hS hp b3 b4
    gi_wp2_with fail
    have hK2 := ((KeepsOthers.setCell W ⟨w.heap.size + 1 + 1 + 1, 0, none⟩ (.bool true)).trans (KeepsOthers.setCell _ ⟨w.heap.size + 1 + 1 + 1 + 1, 0, none⟩ (.int .i64 0))).same D _ hK rfl
    refine ⟨by simp, .inl ⟨_, _, rfl, run_takeDeferred hK2, ?_⟩⟩
    have hb5 := ((HB.out.setCell (p := ⟨w.heap.size + 1 + 1 + 1, 0, none⟩) (by simp; omega) (.bool true)).setCell (p := ⟨w.heap.size + 1 + 1 + 1 + 1, 0, none⟩) (by simp; omega) (.int .i64 0)).trans (belowK_b (w := w) (Nat.le_refl _) _ D _ (.deferred none) (by omega) hK2 rfl rfl)
    have e3 : (((W.setCell ⟨w.heap.size + 1 + 1 + 1, 0, none⟩ (.bool true)).setCell ⟨w.heap.size + 1 + 1 + 1 + 1, 0, none⟩ (.int .i64 0)).putObj D (.deferred none)).cell? ⟨w.heap.size + 1 + 1 + 1, 0, none⟩ = some (.bool true) := by
      rw [putObj_cell (by omega)]
      go_simp
    have e4 : (((W.setCell ⟨w.heap.size + 1 + 1 + 1, 0, none⟩ (.bool true)).setCell ⟨w.heap.size + 1 + 1 + 1 + 1, 0, none⟩ (.int .i64 0)).putObj D (.deferred none)).cell? ⟨w.heap.size + 1 + 1 + 1 + 1, 0, none⟩ = some (.int .i64 0) := by
      rw [putObj_cell (by omega)]
      go_simp
    refine ⟨.tuple #[.bool true, .int .i64 0], by simp [results, Try.results18, go_sem, e3, e4], ?_⟩
    refine Ret.mk' (ret_tup2 (ret_bool ?_) rfl) (Grew.of_below hb5)
    rw [← hLL, ← HS.out, List.all_map]
    symm
    rw [List.all_eq_true]
    exact fun v hv => HP.out v hv
  case stop =>
    subst ha
    rintro D q pre W hD ⟨rest, hr⟩ ⟨⟨⟨hB, hb1⟩, hb2⟩, rfl, hp⟩ hK
    have c3 : W.cell? ⟨w.heap.size + 1 + 1 + 1, 0, none⟩ = _ := hb1.cell
    have c4 : W.cell? ⟨w.heap.size + 1 + 1 + 1 + 1, 0, none⟩ = _ := hb2.cell
    have HB := hide hB
    have HS := hide hr
    have HP := hide hp
    clear hB hb1 hb2 hr hp
    gi_wp2_with fail
    refine ⟨by simp, .inl ⟨_, _, rfl, run_takeDeferred hK, ?_⟩⟩
    have hb5 := HB.out.trans (belowK_b (w := w) (Nat.le_refl _) _ D _ (.deferred none) (by omega) hK rfl rfl)
    have e3 := (putObj_cell (W := W) (D := D) (i := 0) (o := .deferred none) (b := w.heap.size + 1 + 1 + 1) (by omega)).trans c3
    have e4 := (putObj_cell (W := W) (D := D) (i := 0) (o := .deferred none) (b := w.heap.size + 1 + 1 + 1 + 1) (by omega)).trans c4
    refine ⟨.tuple #[.bool false, .int .i64 0], by simp [results, Try.results18, go_sem, e3, e4], ?_⟩
    refine Ret.mk' (ret_tup2 (ret_bool ?_) rfl) (Grew.of_below hb5)
    rw [← hLL, HS.out, List.all_append, List.all_map]
    symm
    rw [Bool.and_eq_false_iff]
    left
    rw [List.all_eq_false]
    obtain ⟨v, hv, hv'⟩ := HP.out
    exact ⟨v, hv, by simp [hv']⟩

theorem Holds_any (sa sb : List Sec) (A A' : Option Addr) (c c' : Nat) (col : Int) (w : World) (hra : Rd w w.heap.size 6 A (sa.map Sec.cells)) (hrb : Rd w w.heap.size 6 A' (sb.map Sec.cells)) (hla : sa.length ≤ c) (hlb : sb.length ≤ c') (hc : sa.length ≤ 100000000000000) (hc' : sb.length ≤ 100000000000000) :
    Calls Try.prog 18 #[.slice A sa.length c, .slice A' sb.length c', .int .i64 col] w (Ret w (.tuple #[.bool (holdsOf sa sb col).1, .int .i64 (holdsOf sa sb col).2])) := by
  unfold holdsOf
  cases h : LValid sa && LValid sb && colOk col
  · exact Holds_no sa sb A A' c c' col w hra hrb hla hlb hc hc' h
  · rw [Bool.and_eq_true, Bool.and_eq_true] at h
    exact Holds_yes sa sb A A' c c' col w hra hrb hla hlb hc hc' h.1.1 h.1.2 (by simpa [colOk] using h.2)

theorem holdsOf_err (sa sb : List Sec) (col : Int) : ((holdsOf sa sb col).2 = 0 ∧ (LValid sa && LValid sb && colOk col) = true) ∨ holdsOf sa sb col = (false, 1) := by
  unfold holdsOf
  split
  · exact .inl ⟨rfl, by assumption⟩
  · exact .inr rfl

def saferOf (sa sb : List Sec) : Bool × Int := ((holdsOf sb sa 1).2 == 0 && !(holdsOf sb sa 1).1, (holdsOf sb sa 1).2)
set_option maxHeartbeats 1600000 in
theorem Safer_any (sa sb : List Sec) (A A' : Option Addr) (c c' : Nat) (w : World) (hra : Rd w w.heap.size 6 A (sa.map Sec.cells)) (hrb : Rd w w.heap.size 6 A' (sb.map Sec.cells)) (hla : sa.length ≤ c) (hlb : sb.length ≤ c') (hc : sa.length ≤ 100000000000000) (hc' : sb.length ≤ 100000000000000) :
    Calls Try.prog 20 #[.slice A sa.length c, .slice A' sb.length c'] w (Ret w (.tuple #[.bool (saferOf sa sb).1, .int .i64 (saferOf sa sb).2])) := by
  have hm := hmix
  have key := Holds_any sb sa A' A c' c 1 w hrb hra hlb hla hc' hc
  unfold saferOf
  rcases holdsOf_err sb sa 1 with ⟨h, _⟩ | h
  · cases h2 : (holdsOf sb sa 1).1
    all_goals
      rw [h]
      go_enter Try.func20, Try.ntmps20
      go_wp2_with (go_at_call 18; refine (Holds_any sb sa A' A c' c 1 _ (hrb.up (by repeat (with_reducible first | exact Grew.refl _ | assumption | refine Grew.alloc ?_ _ | refine Grew.grow ?_ _ | refine Grew.dr ?_ _ | refine Grew.drewN ?_ _ | refine Grew.drew ?_ | refine Grew.trans ?_ (Hid.out (by assumption))))) (hra.up (by repeat (with_reducible first | exact Grew.refl _ | assumption | refine Grew.alloc ?_ _ | refine Grew.grow ?_ _ | refine Grew.dr ?_ _ | refine Grew.drewN ?_ _ | refine Grew.drew ?_ | refine Grew.trans ?_ (Hid.out (by assumption))))) hlb hla hc' hc).mono ?_; rintro e w' ⟨rfl, ⟨_, _⟩, rfl⟩; dsimp only; rw [h, h2])
      first | go_ret2 | (refine bodyPost_ret (v := _) (by simp [results, Try.results20, go_sem]; rfl) rfl ?_)
      exact Ret.mk' (by simp) (by repeat (with_reducible first | exact Grew.refl _ | assumption | refine Grew.alloc ?_ _ | refine Grew.grow ?_ _ | refine Grew.dr ?_ _ | refine Grew.drewN ?_ _ | refine Grew.drew ?_ | refine Grew.trans ?_ (Hid.out (by assumption))))
  · rw [h]
    go_enter Try.func20, Try.ntmps20
    go_wp2_with (go_at_call 18; refine (Holds_any sb sa A' A c' c 1 _ (hrb.up (by repeat (with_reducible first | exact Grew.refl _ | assumption | refine Grew.alloc ?_ _ | refine Grew.grow ?_ _ | refine Grew.dr ?_ _ | refine Grew.drewN ?_ _ | refine Grew.drew ?_ | refine Grew.trans ?_ (Hid.out (by assumption))))) (hra.up (by repeat (with_reducible first | exact Grew.refl _ | assumption | refine Grew.alloc ?_ _ | refine Grew.grow ?_ _ | refine Grew.dr ?_ _ | refine Grew.drewN ?_ _ | refine Grew.drew ?_ | refine Grew.trans ?_ (Hid.out (by assumption))))) hlb hla hc' hc).mono ?_; rintro e w' ⟨rfl, ⟨_, _⟩, rfl⟩; dsimp only; rw [h])
    first | go_ret2 | (refine bodyPost_ret (v := _) (by simp [results, Try.results20, go_sem]; rfl) rfl ?_)
    exact Ret.mk' (by simp) (by repeat (with_reducible first | exact Grew.refl _ | assumption | refine Grew.alloc ?_ _ | refine Grew.grow ?_ _ | refine Grew.dr ?_ _ | refine Grew.drewN ?_ _ | refine Grew.drew ?_ | refine Grew.trans ?_ (Hid.out (by assumption))))
end Go.Proofs.Ytgcgaplhaglejaa
