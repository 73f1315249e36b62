/- SectorNormal: the plain law and the walk. -/
import Derived.Test.YtgcgaplhaglejaaPlainF
namespace Go.Proofs.Ytgcgaplhaglejaa
set_option linter.unusedVariables false
set_option linter.unusedSimpArgs false
open Go.RowKit Go.Sort
attribute [local go_sem] Steady steadyUpon
attribute [local go_sem ↓] hs_dr lt_add_r lt_add_r2 lt_add_r3 lt_add_r4 lt_add_r5 lt_add_r6
attribute [local go_sem] cell?_gd frozen?_gd setCell_gd size_grow tape_grow cell?_grow' frozen?_grow' setCell_grow' grow_grow grow_dr grow_drew dr_dr dr_drew drew_dr dr_alloc dr_setCell dr_cell dr_frozen dr_tape dr_drawn

theorem norm_again {a : List Sec} (h : LValid a = true) : normList (normList a) = normList a := norm_ext (norm_same h).2.1 h (norm_same h).1
theorem norm_color {a : List Sec} (h : LValid a = true) (x y : Int) : colorOf (normList a) x y = colorOf a x y := by
  cases hd : dirOk x y
  · rw [color_no (by rw [hd]; simp), color_no (by rw [hd]; simp)]
  · rw [color_ok (norm_same h).2.1 hd, color_ok h hd, shA_short hd, shA_short hd, (norm_same h).1]
theorem turns_appN (a b : List Sec) : turnsOf (a ++ b) = turnsOf a ++ turnsOf b := by unfold turnsOf; rw [List.flatMap_append]
theorem turn_dir {sa sb : List Sec} (ha : LValid sa = true) (hb : LValid sb = true) {t : Int × Int} (ht : t ∈ turnsOf (sa ++ sb)) : dirOk t.1 t.2 = true := by
  unfold turnsOf at ht
  obtain ⟨s, hs, he⟩ := List.mem_flatMap.1 ht
  have hok : s.ok = true := (List.mem_append.1 hs).elim ((LV_ok ha).1 s) ((LV_ok hb).1 s)
  simp only [Sec.ok, secOk, Bool.and_eq_true] at hok
  simp at he
  rcases he with rfl | rfl
  · exact hok.1.1.1
  · exact hok.1.1.2
def hbB (a b : List Sec) (c : Int) : Bool := (holdsOf a b c).1 && (holdsOf b a c).1
def smF (a b : List Sec) (k : Nat) : Bool := (List.range k).all fun i => hbB a b ((i : Int) + 1)
theorem smF_succ (a b : List Sec) (k : Nat) : smF a b (k + 1) = (smF a b k && hbB a b ((k : Int) + 1)) := by
  unfold smF
  rw [List.range_succ, List.all_append]
  simp
theorem holdsOf_iff {a b : List Sec} (ha : LValid a = true) (hb : LValid b = true) {c : Int} (hc : 1 ≤ c ∧ c ≤ 3) : (holdsOf a b c).1 = true ↔ ∀ v, NZ v → ((shA a v).1 = c → (shA b v).1 = c ∧ (shA a v).2 ≤ (shA b v).2) := by
  rw [holdsOf_ok (by rw [ha, hb]; simpa [colOk] using hc)]
  rw [show ((turnsOf (a ++ b)).all (holdsAt a b c), (0 : Int)).1 = (turnsOf (a ++ b)).all (holdsAt a b c) from rfl, holds_iff (LV_nzs ha) (LV_nzs hb) hc.1]
  exact forall_congr' fun v => forall_congr' fun _ => holdsAt_iff
theorem shA_lit {ss : List Sec} (h : LValid ss = true) {v : Int × Int} (hv : NZ v) : shA ss v = (0, 0) ∨ (1 ≤ (shA ss v).1 ∧ (shA ss v).1 ≤ 3) := by
  rcases Classical.em (∃ s ∈ ss, hs s v = true) with ⟨s, hs', hh⟩ | hc
  · obtain ⟨k, hk⟩ := List.getElem?_of_mem hs'
    have hok := (LV_ok h).1 s hs'
    rw [(shA_at h hv hk hh).1]
    simp [Sec.ok, secOk] at hok
    exact .inr (by omega)
  · exact .inl (shA_none fun s hs' => by cases hh : hs s v; rfl; exact (hc ⟨s, hs', hh⟩).elim)
theorem smF_iff {a b : List Sec} (ha : LValid a = true) (hb : LValid b = true) : smF a b 3 = decide (normList a = normList b) := by
  have e : smF a b 3 = true ↔ ∀ c : Int, 1 ≤ c ∧ c ≤ 3 → hbB a b c = true := by
    unfold smF
    rw [List.all_eq_true]
    constructor
    · intro h c hc
      have := h (c - 1).toNat (List.mem_range.2 (by omega))
      rwa [show (((c - 1).toNat : Nat) : Int) + 1 = c by omega] at this
    · intro h i hi
      have := List.mem_range.1 hi
      exact h _ (by omega)
  rw [Bool.eq_iff_iff, e, decide_eq_true_eq]
  constructor
  · intro h
    refine norm_ext ha hb fun v => ?_
    have key : ∀ {a b : List Sec}, LValid a = true → LValid b = true → (∀ c : Int, 1 ≤ c ∧ c ≤ 3 → (holdsOf a b c).1 = true) → shA a v.1 ≠ (0, 0) → (shA b v.1).1 = (shA a v.1).1 ∧ (shA a v.1).2 ≤ (shA b v.1).2 := by
      intro a b ha hb h hne
      rcases shA_lit ha (pr_nz v) with h1 | h1
      · exact (hne h1).elim
      · exact (holdsOf_iff ha hb h1).1 (h _ h1) v.1 (pr_nz v) rfl
    have k1 : ∀ c : Int, 1 ≤ c ∧ c ≤ 3 → (holdsOf a b c).1 = true := fun c hc => by have := h c hc; unfold hbB at this; rw [Bool.and_eq_true] at this; exact this.1
    have k2 : ∀ c : Int, 1 ≤ c ∧ c ≤ 3 → (holdsOf b a c).1 = true := fun c hc => by have := h c hc; unfold hbB at this; rw [Bool.and_eq_true] at this; exact this.2
    rw [shP_shA, shP_shA]
    rcases Decidable.em (shA a v.1 = (0, 0)) with h1 | h1
    · rcases Decidable.em (shA b v.1 = (0, 0)) with h2 | h2
      · rw [h1, h2]
      · have h3 := (key hb ha k2 h2).1
        rcases shA_lit hb (pr_nz v) with h4 | h4
        · exact (h2 h4).elim
        · rw [h1] at h3
          simp at h3
          omega
    · have h3 := key ha hb k1 h1
      have h2 : shA b v.1 ≠ (0, 0) := fun h2 => by
        rcases shA_lit ha (pr_nz v) with h4 | h4
        · exact h1 h4
        · rw [h2] at h3
          simp at h3
          omega
      have h4 := key hb ha k2 h2
      exact Prod.ext h3.1.symm (by omega)
  · intro h c hc
    have hsh : ∀ v, NZ v → ∀ {a : List Sec}, LValid a = true → True := fun _ _ _ _ => trivial
    have hp : ∀ v, shP a v = shP b v := fun v => by rw [← (norm_same ha).1 v, h, (norm_same hb).1 v]
    have ht : ∀ t ∈ turnsOf (a ++ b), shA a t = shA b t := fun t ht => by
      have hd : dirOk t.1 t.2 = true := turn_dir ha hb ht
      rw [show t = (t.1, t.2) from rfl, shA_short hd, shA_short hd, hp]
    have hcol : colOk c = true := by simpa [colOk] using hc
    unfold hbB
    rw [holdsOf_ok (by rw [ha, hb, hcol]; rfl), holdsOf_ok (by rw [ha, hb, hcol]; rfl)]
    rw [Bool.and_eq_true]
    refine ⟨List.all_eq_true.2 fun t h9 => holdsAt_iff.2 fun h8 => ?_, List.all_eq_true.2 fun t h9 => holdsAt_iff.2 fun h8 => ?_⟩
    · rw [← ht t h9]; exact ⟨h8, Int.le_refl _⟩
    · have h9' : t ∈ turnsOf (a ++ b) := by
        rw [turns_appN] at h9 ⊢
        exact List.mem_append.2 (List.mem_append.1 h9).symm
      rw [ht t h9']; exact ⟨h8, Int.le_refl _⟩
theorem Valid_w (ss : List Sec) (A : Option Addr) (c : Nat) (r : Bool) (w : World) (hr : Rd w w.heap.size 6 A (ss.map Sec.cells)) (hl : ss.length ≤ c) (hc : ss.length ≤ 100000000000000) (h : LValid ss = r) :
    Calls Try.prog 12 #[.slice A ss.length c] w (Ret w (.bool r)) := by
  have := Valid_any ss A c w hr hl hc
  rwa [h] at this
theorem Normal_w (ss : List Sec) (A : Option Addr) (c : Nat) (r : List Sec × Int) (w : World) (hr : Rd w w.heap.size 6 A (ss.map Sec.cells)) (hl : ss.length ≤ c) (hc : ss.length ≤ 100000000000000) (h : normalOf ss = r) :
    Calls Try.prog 22 #[.slice A ss.length c] w (NormRet w r) := by
  have := Normal_any ss A c w hr hl hc
  rwa [h] at this
theorem normalOf_ok {ss : List Sec} (h : LValid ss = true) : normalOf ss = (normList ss, 0) := by unfold normalOf; rw [if_pos h]
theorem normalOf_no {ss : List Sec} (h : LValid ss = false) : normalOf ss = ([], 1) := by unfold normalOf; rw [if_neg (by rw [h]; simp)]
theorem rSame_v (xs ys : List Sec) (n m : Nat) (A A' : Option Addr) (c c' : Nat) (r : Bool) (w : World) (hr : Rd w w.heap.size 6 A (xs.map Sec.cells)) (hr' : Rd w w.heap.size 6 A' (ys.map Sec.cells)) (hn : xs.length = n) (hm : ys.length = m) (hc : xs.length ≤ 100000000000000) (hc' : ys.length ≤ 100000000000000) (h : decide (xs = ys) = r) :
    Calls Try.prog 24 #[.slice A n c, .slice A' m c'] w (Ret w (.bool r)) := by
  subst hn
  subst hm
  have := rSame_any xs ys A A' c c' w hr hr' hc hc'
  rwa [h] at this

def NormS (sa sb : List Sec) (k : Nat) (b : Bool) : Prop := b = smF sa sb k
theorem norms_succ {sa sb : List Sec} {k : Nat} {b p q : Bool} (h : NormS sa sb k b) (hp : (holdsOf sa sb ((k : Int) + 1)).1 = p) (hq : (holdsOf sb sa ((k : Int) + 1)).1 = q) : NormS sa sb (k + 1) (b && (p && q)) := by
  unfold NormS at *
  rw [smF_succ, ← h]
  unfold hbB
  rw [hp, hq]
set_option maxRecDepth 100000 in
set_option maxHeartbeats 4000000 in
theorem normalL_no (sa : List Sec) (A : Option Addr) (ca : Nat) (sb : List Sec) (B : Option Addr) (cb : Nat) (v1 v2 : Int) (w : World) (hra : Rd w w.heap.size 6 A (sa.map Sec.cells)) (hla : sa.length ≤ ca) (hca : sa.length ≤ 100000000000000)
    (hrb : Rd w w.heap.size 6 B (sb.map Sec.cells)) (hlb : sb.length ≤ cb) (hcb : sb.length ≤ 100000000000000) (h : LValid sa = false) :
    Calls Try.prog 8 #[.slice A sa.length ca, .slice B sb.length cb, pt v1 v2] w (Ret w (.bool true)) := by
  have hm := hmix
  have k1 := hide (fun W (hg : Grew w W) => Normal_w sa A ca _ W (hra.up hg) hla hca (normalOf_no h))
  have k2 := hide (fun W (hg : Grew w W) => Normal_w sb B cb _ W (hrb.up hg) hlb hcb rfl)
  obtain ⟨Y, hY⟩ : ∃ Y, normalOf sb = Y := ⟨_, rfl⟩
  rw [hY] at k2
  clear h hY
  go_enter Try.func8, Try.ntmps8
  go_wp2_with (go_at_call 11; (with_reducible refine (head_any _).mono ?_); rintro e w' ⟨rfl, ⟨_, _⟩, rfl⟩; dsimp only)
  refine (k1.out _ (by repeat (with_reducible first | exact Grew.refl _ | assumption | refine Grew.alloc ?_ _ | refine Grew.grow ?_ _ | refine Grew.dr ?_ _ | refine Grew.drewN ?_ _ | refine Grew.drew ?_ | refine Grew.trans ?_ (Hid.out (by assumption))))).mono ?_
  rintro e W1 ⟨Ax, cx, rfl, hg1, hcx, _⟩
  have HG1 := hide (Grew.trans (by repeat (with_reducible first | exact Grew.refl _ | assumption | refine Grew.alloc ?_ _ | refine Grew.grow ?_ _ | refine Grew.dr ?_ _ | refine Grew.drewN ?_ _ | refine Grew.drew ?_ | refine Grew.trans ?_ (Hid.out (by assumption)))) hg1 : Grew w W1)
  clear hg1
  dsimp only
  go_wp2_with fail
  refine (k2.out _ (HG1.out.trans (by repeat (with_reducible first | exact Grew.refl _ | assumption | refine Grew.alloc ?_ _ | refine Grew.grow ?_ _ | refine Grew.dr ?_ _ | refine Grew.drewN ?_ _ | refine Grew.drew ?_ | refine Grew.trans ?_ (Hid.out (by assumption)))))).mono ?_
  rintro e W2 ⟨Ay, cy, rfl, hg2, hcy, _⟩
  have HG2 := hide (HG1.out.trans (Grew.trans (by repeat (with_reducible first | exact Grew.refl _ | assumption | refine Grew.alloc ?_ _ | refine Grew.grow ?_ _ | refine Grew.dr ?_ _ | refine Grew.drewN ?_ _ | refine Grew.drew ?_ | refine Grew.trans ?_ (Hid.out (by assumption)))) hg2) : Grew w W2)
  clear hg2
  dsimp only
  go_wp2_with fail
  go_ret
  exact Ret.mk' rfl (HG2.out.trans (by repeat (with_reducible first | exact Grew.refl _ | assumption | refine Grew.alloc ?_ _ | refine Grew.grow ?_ _ | refine Grew.dr ?_ _ | refine Grew.drewN ?_ _ | refine Grew.drew ?_ | refine Grew.trans ?_ (Hid.out (by assumption)))))

set_option maxRecDepth 100000 in
set_option maxHeartbeats 8000000 in
theorem normalL_yes (sa : List Sec) (A : Option Addr) (ca : Nat) (sb : List Sec) (B : Option Addr) (cb : Nat) (v1 v2 : Int) (w : World) (hra : Rd w w.heap.size 6 A (sa.map Sec.cells)) (hla : sa.length ≤ ca) (hca : sa.length ≤ 100000000000000)
    (hrb : Rd w w.heap.size 6 B (sb.map Sec.cells)) (hlb : sb.length ≤ cb) (hcb : sb.length ≤ 100000000000000) (h : LValid sa = true) :
    Calls Try.prog 8 #[.slice A sa.length ca, .slice B sb.length cb, pt v1 v2] w (Ret w (.bool true)) := by
  have hm := hmix
  obtain ⟨hsh, hv, hlen⟩ := norm_same h
  have hag := norm_again h
  have hco := norm_color h v1 v2
  obtain ⟨X, hX⟩ : ∃ X, normList sa = X := ⟨_, rfl⟩
  have hX2 : normalOf sa = (X, 0) := by rw [normalOf_ok h, hX]
  rw [hX] at hsh hv hlen hag hco
  have hXX : normalOf X = (X, 0) := by rw [normalOf_ok hv, hag]
  obtain ⟨⟨i, j, e3⟩, hij⟩ : ∃ r, colorOf sa v1 v2 = r := ⟨_, rfl⟩
  rw [hij] at hco
  have hla12 := (LV_ok h).2
  have hX12 : X.length ≤ 100 := by omega
  have k1 := hide (fun W (hg : Grew w W) => Normal_w sa A ca _ W (hra.up hg) hla hca hX2)
  have k5 := hide (fun W (hg : Grew w W) => Color_w sa A ca v1 v2 _ W (hra.up hg) hla hca hij)
  obtain ⟨⟨Y, f⟩, hY⟩ : ∃ Y, normalOf sb = Y := ⟨_, rfl⟩
  have k2 := hide (fun W (hg : Grew w W) => Normal_w sb B cb _ W (hrb.up hg) hlb hcb hY)
  have hY100 : Y.length ≤ 100 := by
    cases hb : LValid sb
    · rw [normalOf_no hb] at hY
      injection hY with h1 _
      rw [← h1]
      simp
    · rw [normalOf_ok hb] at hY
      injection hY with h1 _
      rw [← h1]
      have := (norm_same hb).2.2
      have := (LV_ok hb).2
      omega
  have H := hide h
  have HX := hide hX
  have HY := hide hY
  have HV := hide hv
  have HXX := hide hXX
  have HCO := hide hco
  clear hsh hag hX2 hX hXX hY h hv hij hco
  go_enter Try.func8, Try.ntmps8
  go_wp2_with (go_at_call 11; (with_reducible refine (head_any _).mono ?_); rintro e w' ⟨rfl, ⟨_, _⟩, rfl⟩; dsimp only)
  refine (k1.out _ (by repeat (with_reducible first | exact Grew.refl _ | assumption | refine Grew.alloc ?_ _ | refine Grew.grow ?_ _ | refine Grew.dr ?_ _ | refine Grew.drewN ?_ _ | refine Grew.drew ?_ | refine Grew.trans ?_ (Hid.out (by assumption))))).mono ?_
  rintro e W1 ⟨Ax, cx, rfl, hg1, hcx, hrx⟩
  have HG1 := hide (Grew.trans (by repeat (with_reducible first | exact Grew.refl _ | assumption | refine Grew.alloc ?_ _ | refine Grew.grow ?_ _ | refine Grew.dr ?_ _ | refine Grew.drewN ?_ _ | refine Grew.drew ?_ | refine Grew.trans ?_ (Hid.out (by assumption)))) hg1 : Grew w W1)
  have HRX := hide hrx
  have kb := (hg1.heap (k := w.heap.size) (by simp [hs_dr]; omega)).trans (heap_alloc_gd _ _ _ _ _ rfl)
  have KB := hide kb
  have k3 := hide (fun W (hg : Grew W1 W) => Normal_w X Ax cx _ W (HRX.out.up hg) hcx (by omega) HXX.out)
  have k6 := hide (fun W (hg : Grew W1 W) => Color_w X Ax cx v1 v2 _ W (HRX.out.up hg) hcx (by omega) HCO.out)
  clear hg1 hrx kb
  dsimp only at hcx ⊢
  go_wp2_with fail
  refine (k2.out _ (HG1.out.trans (by repeat (with_reducible first | exact Grew.refl _ | assumption | refine Grew.alloc ?_ _ | refine Grew.grow ?_ _ | refine Grew.dr ?_ _ | refine Grew.drewN ?_ _ | refine Grew.drew ?_ | refine Grew.trans ?_ (Hid.out (by assumption)))))).mono ?_
  rintro e W2 ⟨Ay, cy, rfl, hg2, hcy, hry⟩
  have HG12 := hide (Grew.trans (by repeat (with_reducible first | exact Grew.refl _ | assumption | refine Grew.alloc ?_ _ | refine Grew.grow ?_ _ | refine Grew.dr ?_ _ | refine Grew.drewN ?_ _ | refine Grew.drew ?_ | refine Grew.trans ?_ (Hid.out (by assumption)))) hg2 : Grew W1 W2)
  have HRY := hide hry
  clear hg2 hry
  dsimp only at hcy ⊢
  go_wp2_with fail
  refine (k3.out _ (HG12.out.trans (by repeat (with_reducible first | exact Grew.refl _ | assumption | refine Grew.alloc ?_ _ | refine Grew.grow ?_ _ | refine Grew.dr ?_ _ | refine Grew.drewN ?_ _ | refine Grew.drew ?_ | refine Grew.trans ?_ (Hid.out (by assumption)))))).mono ?_
  rintro e W3 ⟨Ax3, cx3, rfl, hg3, hcx3, hrx3⟩
  have HG23 := hide (Grew.trans (by repeat (with_reducible first | exact Grew.refl _ | assumption | refine Grew.alloc ?_ _ | refine Grew.grow ?_ _ | refine Grew.dr ?_ _ | refine Grew.drewN ?_ _ | refine Grew.drew ?_ | refine Grew.trans ?_ (Hid.out (by assumption)))) hg3 : Grew W2 W3)
  have HG13 := hide (HG12.out.trans HG23.out)
  have HG3 := hide (HG1.out.trans HG13.out)
  have HRX3 := hide hrx3
  have kb3 := (HG13.out.heap (blk_lt KB.out)).trans KB.out
  have g0 : W3.cell? ⟨w.heap.size, 0, none⟩ = _ := blk_cell kb3 0
  have g1 : W3.cell? ⟨w.heap.size, 1, none⟩ = _ := blk_cell kb3 1
  have gl := blk_lt kb3
  clear hg3 hrx3 kb3
  dsimp only at hcx3 ⊢
  cases hb : LValid sb
  · have hf : f = 1 := by have := HY.out; rw [normalOf_no hb] at this; injection this with _ h2; exact h2.symm
    subst hf
    clear hb
    go_wp2_with (first | (go_at_call 24; (with_reducible refine (rSame_v X X _ _ _ _ _ _ true _ (HRX3.out.up (by repeat (with_reducible first | exact Grew.refl _ | assumption | refine Grew.alloc ?_ _ | refine Grew.grow ?_ _ | refine Grew.dr ?_ _ | refine Grew.drewN ?_ _ | refine Grew.drew ?_ | refine Grew.trans ?_ (Hid.out (by assumption))))) ((HRX.out.up HG13.out).up (by repeat (with_reducible first | exact Grew.refl _ | assumption | refine Grew.alloc ?_ _ | refine Grew.grow ?_ _ | refine Grew.dr ?_ _ | refine Grew.drewN ?_ _ | refine Grew.drew ?_ | refine Grew.trans ?_ (Hid.out (by assumption))))) rfl rfl (by omega) (by omega) (by simp)).mono ?_); rintro e w' ⟨rfl, ⟨_, _⟩, rfl⟩; dsimp only) | (go_at_call 12; (with_reducible refine (Valid_w X Ax cx true _ ((HRX.out.up HG13.out).up (by repeat (with_reducible first | exact Grew.refl _ | assumption | refine Grew.alloc ?_ _ | refine Grew.grow ?_ _ | refine Grew.dr ?_ _ | refine Grew.drewN ?_ _ | refine Grew.drew ?_ | refine Grew.trans ?_ (Hid.out (by assumption))))) hcx (by omega) HV.out).mono ?_); rintro e w' ⟨rfl, ⟨_, _⟩, rfl⟩; dsimp only) | (go_at_call 16; (with_reducible refine (k5.out _ (HG3.out.trans (by repeat (with_reducible first | exact Grew.refl _ | assumption | refine Grew.alloc ?_ _ | refine Grew.grow ?_ _ | refine Grew.dr ?_ _ | refine Grew.drewN ?_ _ | refine Grew.drew ?_ | refine Grew.trans ?_ (Hid.out (by assumption)))))).mono ?_); rintro e w' ⟨rfl, ⟨_, _⟩, rfl⟩; dsimp only) | (go_at_call 16; (with_reducible refine (k6.out _ (HG13.out.trans (by repeat (with_reducible first | exact Grew.refl _ | assumption | refine Grew.alloc ?_ _ | refine Grew.grow ?_ _ | refine Grew.dr ?_ _ | refine Grew.drewN ?_ _ | refine Grew.drew ?_ | refine Grew.trans ?_ (Hid.out (by assumption)))))).mono ?_); rintro e w' ⟨rfl, ⟨_, _⟩, rfl⟩; dsimp only))
    all_goals go_ret
    all_goals exact Ret.mk' (ret_bool (by simp [*])) (HG3.out.trans (by repeat (with_reducible first | exact Grew.refl _ | assumption | refine Grew.alloc ?_ _ | refine Grew.grow ?_ _ | refine Grew.dr ?_ _ | refine Grew.drewN ?_ _ | refine Grew.drew ?_ | refine Grew.trans ?_ (Hid.out (by assumption)))))
  · have hf : f = 0 ∧ Y = normList sb := by have := HY.out; rw [normalOf_ok hb] at this; injection this with h1 h2; exact ⟨h2.symm, h1.symm⟩
    obtain ⟨rfl, hYn⟩ := hf
    have hfin : smF sa sb 3 = decide (X = Y) := by rw [smF_iff H.out hb, HX.out, ← hYn]
    have HF := hide hfin
    have HB := hide hb
    clear hYn hfin hb
    go_wp2_with (first | (go_at_call 24; (with_reducible refine (rSame_v X X _ _ _ _ _ _ true _ (HRX3.out.up (by repeat (with_reducible first | exact Grew.refl _ | assumption | refine Grew.alloc ?_ _ | refine Grew.grow ?_ _ | refine Grew.dr ?_ _ | refine Grew.drewN ?_ _ | refine Grew.drew ?_ | refine Grew.trans ?_ (Hid.out (by assumption))))) ((HRX.out.up HG13.out).up (by repeat (with_reducible first | exact Grew.refl _ | assumption | refine Grew.alloc ?_ _ | refine Grew.grow ?_ _ | refine Grew.dr ?_ _ | refine Grew.drewN ?_ _ | refine Grew.drew ?_ | refine Grew.trans ?_ (Hid.out (by assumption))))) rfl rfl (by omega) (by omega) (by simp)).mono ?_); rintro e w' ⟨rfl, ⟨_, _⟩, rfl⟩; dsimp only) | (go_at_call 12; (with_reducible refine (Valid_w X Ax cx true _ ((HRX.out.up HG13.out).up (by repeat (with_reducible first | exact Grew.refl _ | assumption | refine Grew.alloc ?_ _ | refine Grew.grow ?_ _ | refine Grew.dr ?_ _ | refine Grew.drewN ?_ _ | refine Grew.drew ?_ | refine Grew.trans ?_ (Hid.out (by assumption))))) hcx (by omega) HV.out).mono ?_); rintro e w' ⟨rfl, ⟨_, _⟩, rfl⟩; dsimp only) | (go_at_call 16; (with_reducible refine (k5.out _ (HG3.out.trans (by repeat (with_reducible first | exact Grew.refl _ | assumption | refine Grew.alloc ?_ _ | refine Grew.grow ?_ _ | refine Grew.dr ?_ _ | refine Grew.drewN ?_ _ | refine Grew.drew ?_ | refine Grew.trans ?_ (Hid.out (by assumption)))))).mono ?_); rintro e w' ⟨rfl, ⟨_, _⟩, rfl⟩; dsimp only) | (go_at_call 16; (with_reducible refine (k6.out _ (HG13.out.trans (by repeat (with_reducible first | exact Grew.refl _ | assumption | refine Grew.alloc ?_ _ | refine Grew.grow ?_ _ | refine Grew.dr ?_ _ | refine Grew.drewN ?_ _ | refine Grew.drew ?_ | refine Grew.trans ?_ (Hid.out (by assumption)))))).mono ?_); rintro e w' ⟨rfl, ⟨_, _⟩, rfl⟩; dsimp only))
    refine wp_name ?_
    intro W4 hW
    have HG4 := hide (show Grew W3 W4 by rw [← hW]; exact (by repeat (with_reducible first | exact Grew.refl _ | assumption | refine Grew.alloc ?_ _ | refine Grew.grow ?_ _ | refine Grew.dr ?_ _ | refine Grew.drewN ?_ _ | refine Grew.drew ?_ | refine Grew.trans ?_ (Hid.out (by assumption)))))
    clear hW k1 k2 k3 k5 k6
    have HHa := hide (fun (cl : Int) (r : Bool × Int) (h : holdsOf sa sb cl = r) W (hg : Grew w W) => Holds_v sa sb A B ca cb cl r W (hra.up hg) (hrb.up hg) hla hlb hca hcb h)
    have HHb := hide (fun (cl : Int) (r : Bool × Int) (h : holdsOf sb sa cl = r) W (hg : Grew w W) => Holds_v sb sa B A cb ca cl r W (hrb.up hg) (hra.up hg) hlb hla hcb hca h)
    go_loopw [7, 20, 21] (fun up sm i wr => ∃ (k : Nat) (sb' : Bool), k ≤ 3 ∧ i = .int .i64 ((k : Int) + 1) ∧ up = .bool true ∧ sm = .bool sb' ∧ Grew W4 wr ∧ NormS sa sb k sb') (fun _ _ i _ => 5 - (intOf i).toNat)
    case atStart => exact ⟨0, true, by omega, rfl, rfl, rfl, Grew.refl _, rfl⟩
    case round =>
      obtain ⟨k, sm, hk, rfl, rfl, rfl, hg, hsm⟩ := hrel
      have HG := hide hg
      have HS := hide hsm
      clear hg hsm
      by_cases hlt : k < 3
      · have hc : colOk ((k : Int) + 1) = true := by simp [colOk]; omega
        obtain ⟨p, hp⟩ : ∃ p, (holdsOf sa sb ((k : Int) + 1)).1 = p := ⟨_, rfl⟩
        obtain ⟨q, hq⟩ : ∃ q, (holdsOf sb sa ((k : Int) + 1)).1 = q := ⟨_, rfl⟩
        have hp2 : holdsOf sa sb ((k : Int) + 1) = (p, 0) := by rw [← hp, holdsOf_ok (by rw [H.out, HB.out, hc]; rfl)]
        have hq2 : holdsOf sb sa ((k : Int) + 1) = (q, 0) := by rw [← hq, holdsOf_ok (by rw [H.out, HB.out, hc]; rfl)]
        have k7 := hide (HHa.out _ _ hp2)
        have k8 := hide (HHb.out _ _ hq2)
        have hnew := norms_succ HS.out hp hq
        have HN := hide hnew
        clear hp hq hp2 hq2 hc hnew
        have hle3 : ((k : Int) + 1) ≤ 3 := by omega
        have hGG := hide (HG3.out.trans (HG4.out.trans HG.out))
        cases sm <;> cases p <;> cases q
        all_goals
          go_wp2_with (first | (go_at_call 18; (with_reducible refine (k7.out _ (hGG.out.trans (by repeat (with_reducible first | exact Grew.refl _ | assumption | refine Grew.alloc ?_ _ | refine Grew.grow ?_ _ | refine Grew.dr ?_ _ | refine Grew.drewN ?_ _ | refine Grew.drew ?_ | refine Grew.trans ?_ (Hid.out (by assumption)))))).mono ?_); rintro e w' ⟨rfl, ⟨_, _⟩, rfl⟩; dsimp only) | (go_at_call 18; (with_reducible refine (k8.out _ (hGG.out.trans (by repeat (with_reducible first | exact Grew.refl _ | assumption | refine Grew.alloc ?_ _ | refine Grew.grow ?_ _ | refine Grew.dr ?_ _ | refine Grew.drewN ?_ _ | refine Grew.drew ?_ | refine Grew.trans ?_ (Hid.out (by assumption)))))).mono ?_); rintro e w' ⟨rfl, ⟨_, _⟩, rfl⟩; dsimp only))
          go_roundw
          case rel => exact ⟨k + 1, _, by omega, by go_num, rfl, rfl, HG.out.trans (by repeat (with_reducible first | exact Grew.refl _ | assumption | refine Grew.alloc ?_ _ | refine Grew.grow ?_ _ | refine Grew.dr ?_ _ | refine Grew.drewN ?_ _ | refine Grew.drew ?_ | refine Grew.trans ?_ (Hid.out (by assumption)))), HN.out⟩
          case measure => simp [intOf]; omega
      · obtain rfl : k = 3 := by omega
        have hsm : sm = decide (X = Y) := HS.out.trans HF.out
        have hGG := hide (HG3.out.trans (HG4.out.trans HG.out))
        go_wp2_with (go_at_call 24; (with_reducible refine (rSame_v X Y _ _ _ _ _ _ sm _ ((HRX.out.up (HG13.out.trans (HG4.out.trans HG.out))).up (by repeat (with_reducible first | exact Grew.refl _ | assumption | refine Grew.alloc ?_ _ | refine Grew.grow ?_ _ | refine Grew.dr ?_ _ | refine Grew.drewN ?_ _ | refine Grew.drew ?_ | refine Grew.trans ?_ (Hid.out (by assumption))))) ((HRY.out.up (HG23.out.trans (HG4.out.trans HG.out))).up (by repeat (with_reducible first | exact Grew.refl _ | assumption | refine Grew.alloc ?_ _ | refine Grew.grow ?_ _ | refine Grew.dr ?_ _ | refine Grew.drewN ?_ _ | refine Grew.drew ?_ | refine Grew.trans ?_ (Hid.out (by assumption))))) rfl rfl (by omega) (by omega) hsm.symm).mono ?_); rintro e w' ⟨rfl, ⟨_, _⟩, rfl⟩; dsimp only)
        all_goals go_ret
        all_goals exact Ret.mk' (ret_bool (by simp [*])) (hGG.out.trans (by repeat (with_reducible first | exact Grew.refl _ | assumption | refine Grew.alloc ?_ _ | refine Grew.grow ?_ _ | refine Grew.dr ?_ _ | refine Grew.drewN ?_ _ | refine Grew.drew ?_ | refine Grew.trans ?_ (Hid.out (by assumption)))))
theorem normalL_any (sa : List Sec) (A : Option Addr) (ca : Nat) (sb : List Sec) (B : Option Addr) (cb : Nat) (v1 v2 : Int) (w : World) (hra : Rd w w.heap.size 6 A (sa.map Sec.cells)) (hla : sa.length ≤ ca) (hca : sa.length ≤ 100000000000000)
    (hrb : Rd w w.heap.size 6 B (sb.map Sec.cells)) (hlb : sb.length ≤ cb) (hcb : sb.length ≤ 100000000000000) :
    Calls Try.prog 8 #[.slice A sa.length ca, .slice B sb.length cb, pt v1 v2] w (Ret w (.bool true)) := by
  cases h : LValid sa
  · exact normalL_no sa A ca sb B cb v1 v2 w hra hla hca hrb hlb hcb h
  · exact normalL_yes sa A ca sb B cb v1 v2 w hra hla hca hrb hlb hcb h
end Go.Proofs.Ytgcgaplhaglejaa
