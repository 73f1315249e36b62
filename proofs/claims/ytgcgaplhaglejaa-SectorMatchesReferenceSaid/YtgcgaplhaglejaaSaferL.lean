/- SectorSafer: the plain law and the walk. -/
import Derived.Test.YtgcgaplhaglejaaHoldsL
import Derived.Test.YtgcgaplhaglejaaRefE
import Derived.Test.YtgcgaplhaglejaaRegE
import Derived.Deep.CutRange
import Derived.Deep.DeepCutAuto
namespace Go.Proofs.Ytgcgaplhaglejaa
set_option linter.unusedVariables false
set_option linter.unusedSimpArgs false
open Go.RowKit Go.Sort
attribute [local go_sem] Steady steadyUpon
attribute [local go_sem ↓] hs_dr lt_add_r lt_add_r2 lt_add_r3 lt_add_r4 lt_add_r5 lt_add_r6
attribute [local go_sem] cell?_gd frozen?_gd setCell_gd size_grow tape_grow cell?_grow' frozen?_grow' setCell_grow' grow_grow grow_dr grow_drew dr_dr dr_drew drew_dr dr_alloc dr_setCell dr_cell dr_frozen dr_tape dr_drawn
attribute [local go_sem] E.effUpon

theorem own_base {W : World} {b b' : Nat} {e : TypeId} {size n : Nat} {v : Value} {xs : List Value} (h : W.ownsRow b e size v n xs) (hb : b' ≤ b) : W.ownsRow b' e size v n xs :=
  ⟨h.1, h.2.imp id fun ⟨g, cap, cur, h1, h2, h3⟩ => ⟨g, cap, cur, h1, Nat.le_trans hb h2, h3⟩⟩
theorem reads_blk {W : World} {b size n : Nat} {cs : Array Value} {T : TypeId} {xs : List Value} (h : W.heap[b]? = some (.cells cs T (0, 0))) (hc : cs.toList = xs) (hl : xs.length = n * size) : Reads W W.heap.size size (some ⟨b, 0, none⟩) n xs :=
  ⟨hl, fun _ => ⟨⟨b, 0, none⟩, rfl, blk_lt h, fun j u hu => by rw [add_at, Nat.zero_add, blk_cell h, ← Array.getElem?_toList, hc]; exact hu⟩⟩
def SafCut (w : World) (T : TypeId) (tl : List (Int × Int)) (v1 v2 : Int) (s : Value) (wc : World) : Prop := wc.ownsRow w.heap.size T 2 s (tl.length + 1) ((tl ++ [(v1, v2)]).flatMap encD) ∧ Below w.heap.size w wc
theorem saf_fin {w W4 W5 W7 : World} {b N : Nat} {T : TypeId} {tl : List (Int × Int)} {v1 v2 : Int} {v : Value} (h : W5.ownsRow b T 2 v (tl.length + 1) (tl.flatMap encD ++ encD (v1, v2))) (hg : Grew w W4) (hb : w.heap.size ≤ b) (hN : w.heap.size ≤ N) (h5 : Below N W4 W5) (hg7 : Grew W5 W7) : SafCut w T tl v1 v2 v W7 := by
  have hb5 : Below w.heap.size w W5 := hg.below.trans (h5.mono hN)
  refine ⟨own_base (own_grew ?_ hg7) hb, hb5.trans (hg7.below.mono hb5.size)⟩
  rw [List.flatMap_append]
  simpa using h

theorem Safer_w (sa sb : List Sec) (A A' : Option Addr) (c c' : Nat) (r : Bool × Int) (w : World) (hra : Rd w w.heap.size 6 A (sa.map Sec.cells)) (hrb : Rd w w.heap.size 6 A' (sb.map Sec.cells)) (hla : sa.length ≤ c) (hlb : sb.length ≤ c') (hc : sa.length ≤ 100000000000000) (hc' : sb.length ≤ 100000000000000) (h : saferOf sa sb = r) :
    Calls Try.prog 20 #[.slice A sa.length c, .slice A' sb.length c'] w (Ret w (.tuple #[.bool r.1, .int .i64 r.2])) := by
  have := Safer_any sa sb A A' c c' w hra hrb hla hlb hc hc'
  rwa [h] at this
theorem saferOf_no {sa sb : List Sec} (h : (LValid sa && LValid sb) = false) : saferOf sa sb = (false, 1) := by
  unfold saferOf
  rw [holdsOf_no (by rw [Bool.and_comm (LValid sb), h]; rfl)]
  rfl
theorem saferOf_ok {sa sb : List Sec} (h : (LValid sa && LValid sb) = true) : saferOf sa sb = (!(turnsOf (sb ++ sa)).all (holdsAt sb sa 1), 0) := by
  unfold saferOf
  rw [holdsOf_ok (by rw [Bool.and_comm (LValid sb), h]; rfl)]
  simp
theorem all_comm {sa sb : List Sec} {p : Int × Int → Bool} : (turnsOf (sb ++ sa)).all p = (turnsOf (sa ++ sb)).all p := by rw [turns_app, turns_app, List.all_append, List.all_append, Bool.and_comm]
theorem saf_l1 {sa sb : List Sec} {tl : List (Int × Int)} {is : Bool} (hT : turnsOf (sa ++ sb) = tl) (hI : (!(turnsOf (sb ++ sa)).all (holdsAt sb sa 1)) = is) {t : Int × Int} (ht : t ∈ tl) (h : holdsAt sb sa 1 t = false) : is = true := by
  rw [all_comm, hT] at hI
  have : tl.all (holdsAt sb sa 1) = false := List.all_eq_false.2 ⟨t, ht, by rw [h]; simp⟩
  rw [this] at hI
  exact hI.symm
theorem saf_l2 {sa sb : List Sec} {tl : List (Int × Int)} {is : Bool} (hT : turnsOf (sa ++ sb) = tl) (hI : (!(turnsOf (sb ++ sa)).all (holdsAt sb sa 1)) = is) (h : ∀ t ∈ tl, holdsAt sb sa 1 t = true) : is = false := by
  rw [all_comm, hT, List.all_eq_true.2 h] at hI
  exact hI.symm
theorem saf_l3 {sa sb : List Sec} {is : Bool} (hb : NZs sb) (ha : NZs sa) (hI : (!(turnsOf (sb ++ sa)).all (holdsAt sb sa 1)) = is) {v : Int × Int} (hv : NZ v) (h : holdsAt sb sa 1 v = false) : is = true := by
  cases hc : (turnsOf (sb ++ sa)).all (holdsAt sb sa 1)
  · rw [hc] at hI
    exact hI.symm
  · have := holds_all hb ha (by decide) hc hv
    rw [h] at this
    cases this
def SafF (sa sb : List Sec) (tl : List (Int × Int)) (is : Bool) (k : Nat) (fb : Bool) : Prop := (fb = true → is = true) ∧ (fb = false → ∀ (j : Nat) (t : Int × Int), j < k → tl[j]? = some t → holdsAt sb sa 1 t = true)
theorem saf_l4 {sa sb : List Sec} {tl : List (Int × Int)} (hT : turnsOf (sa ++ sb) = tl) (ha : LValid sa = true) (hb : LValid sb = true) (k : Nat) (t : Int × Int) (h : tl[k]? = some t) : dirOk t.1 t.2 = true := by
  have ht := List.mem_of_getElem? h
  rw [← hT] at ht
  unfold turnsOf at ht
  obtain ⟨s, hs, he⟩ := List.mem_flatMap.1 ht
  have hok : s.ok = true := (List.mem_append.1 hs).elim ((LV_ok ha).1 s) ((LV_ok hb).1 s)
  simp only [Sec.ok, secOk, Bool.and_eq_true] at hok
  simp at he
  rcases he with rfl | rfl
  · exact hok.1.1.1
  · exact hok.1.1.2
theorem saf_case {sa sb : List Sec} {x y c r d s : Int} {sf : Bool} (hcr : shA sa (x, y) = (c, r)) (hds : shA sb (x, y) = (d, s)) (hsf : holdsAt sb sa 1 (x, y) = !sf) :
    (sf = false ∧ (d == 1) = false) ∨ (sf = true ∧ d = 1 ∧ (c == 1) = false) ∨ (sf = true ∧ d = 1 ∧ c = 1 ∧ decide (r < s) = true) ∨ (sf = false ∧ d = 1 ∧ c = 1 ∧ decide (r < s) = false) := by
  rw [holdsAt_def, hcr, hds] at hsf
  by_cases h1 : d = 1
  · by_cases h2 : c = 1
    · by_cases h3 : r < s <;> cases sf <;> simp [h1, h2, h3] at hsf ⊢ <;> omega
    · cases sf <;> simp [h1, h2] at hsf ⊢
  · cases sf <;> simp [h1] at hsf ⊢
theorem Valid_v (ss : List Sec) (A : Option Addr) (c : Nat) (r : Bool) (w : World) (hr : Rd w w.heap.size 6 A (ss.map Sec.cells)) (hl : ss.length ≤ c) (hc : ss.length ≤ 100000000000000) (h : LValid ss = r) :
    Calls Try.prog 12 #[.slice A ss.length c] w (Ret w (.bool r)) := by
  have := Valid_any ss A c w hr hl hc
  rwa [h] at this

set_option maxRecDepth 100000 in
set_option maxHeartbeats 4000000 in
theorem saferL_no (sa : List Sec) (A : Option Addr) (ca : Nat) (sb : List Sec) (B : Option Addr) (cb : Nat) (v1 v2 : Int) (w : World) (hra : Rd w w.heap.size 6 A (sa.map Sec.cells)) (hla : sa.length ≤ ca) (hca : sa.length ≤ 100000000000000)
    (hrb : Rd w w.heap.size 6 B (sb.map Sec.cells)) (hlb : sb.length ≤ cb) (hcb : sb.length ≤ 100000000000000) (h : (LValid sa && LValid sb) = false) :
    Calls Try.prog 7 #[.slice A sa.length ca, .slice B sb.length cb, pt v1 v2] w (Ret w (.bool true)) := by
  have hm := hmix
  have k1 := hide (fun W (hg : Grew w W) => Safer_w sa sb A B ca cb _ W (hra.up hg) (hrb.up hg) hla hlb hca hcb (saferOf_no h))
  cases ha : LValid sa
  · have k2 := hide (fun W (hg : Grew w W) => Valid_v sa A ca false W (hra.up hg) hla hca ha)
    clear h ha
    go_enter Try.func7, Try.ntmps7
    go_wp2_with (first | (go_at_call 11; (with_reducible refine (head_any _).mono ?_); rintro e w' ⟨rfl, ⟨_, _⟩, rfl⟩; dsimp only) | (go_at_call 20; (with_reducible refine (k1.out _ (by repeat (with_reducible first | exact Grew.refl _ | assumption | refine Grew.alloc ?_ _ | refine Grew.grow ?_ _ | refine Grew.dr ?_ _ | refine Grew.drewN ?_ _ | refine Grew.drew ?_ | refine Grew.trans ?_ (Hid.out (by assumption))))).mono ?_); rintro e w' ⟨rfl, ⟨_, _⟩, rfl⟩; dsimp only) | (go_at_call 12; (with_reducible refine (k2.out _ (by repeat (with_reducible first | exact Grew.refl _ | assumption | refine Grew.alloc ?_ _ | refine Grew.grow ?_ _ | refine Grew.dr ?_ _ | refine Grew.drewN ?_ _ | refine Grew.drew ?_ | refine Grew.trans ?_ (Hid.out (by assumption))))).mono ?_); rintro e w' ⟨rfl, ⟨_, _⟩, rfl⟩; dsimp only))
    go_ret
    exact Ret.mk' rfl (by repeat (with_reducible first | exact Grew.refl _ | assumption | refine Grew.alloc ?_ _ | refine Grew.grow ?_ _ | refine Grew.dr ?_ _ | refine Grew.drewN ?_ _ | refine Grew.drew ?_ | refine Grew.trans ?_ (Hid.out (by assumption))))
  · have hb : LValid sb = false := by rw [ha] at h; simpa using h
    have k2 := hide (fun W (hg : Grew w W) => Valid_v sa A ca true W (hra.up hg) hla hca ha)
    have k3 := hide (fun W (hg : Grew w W) => Valid_v sb B cb false W (hrb.up hg) hlb hcb hb)
    clear h ha hb
    go_enter Try.func7, Try.ntmps7
    go_wp2_with (first | (go_at_call 11; (with_reducible refine (head_any _).mono ?_); rintro e w' ⟨rfl, ⟨_, _⟩, rfl⟩; dsimp only) | (go_at_call 20; (with_reducible refine (k1.out _ (by repeat (with_reducible first | exact Grew.refl _ | assumption | refine Grew.alloc ?_ _ | refine Grew.grow ?_ _ | refine Grew.dr ?_ _ | refine Grew.drewN ?_ _ | refine Grew.drew ?_ | refine Grew.trans ?_ (Hid.out (by assumption))))).mono ?_); rintro e w' ⟨rfl, ⟨_, _⟩, rfl⟩; dsimp only) | (go_at_call 12; (with_reducible refine (k2.out _ (by repeat (with_reducible first | exact Grew.refl _ | assumption | refine Grew.alloc ?_ _ | refine Grew.grow ?_ _ | refine Grew.dr ?_ _ | refine Grew.drewN ?_ _ | refine Grew.drew ?_ | refine Grew.trans ?_ (Hid.out (by assumption))))).mono ?_); rintro e w' ⟨rfl, ⟨_, _⟩, rfl⟩; dsimp only) | (go_at_call 12; (with_reducible refine (k3.out _ (by repeat (with_reducible first | exact Grew.refl _ | assumption | refine Grew.alloc ?_ _ | refine Grew.grow ?_ _ | refine Grew.dr ?_ _ | refine Grew.drewN ?_ _ | refine Grew.drew ?_ | refine Grew.trans ?_ (Hid.out (by assumption))))).mono ?_); rintro e w' ⟨rfl, ⟨_, _⟩, rfl⟩; dsimp only))
    go_ret
    exact Ret.mk' rfl (by repeat (with_reducible first | exact Grew.refl _ | assumption | refine Grew.alloc ?_ _ | refine Grew.grow ?_ _ | refine Grew.dr ?_ _ | refine Grew.drewN ?_ _ | refine Grew.drew ?_ | refine Grew.trans ?_ (Hid.out (by assumption))))

set_option maxRecDepth 100000 in
set_option maxHeartbeats 8000000 in
theorem saferL_yes (sa : List Sec) (A : Option Addr) (ca : Nat) (sb : List Sec) (B : Option Addr) (cb : Nat) (v1 v2 : Int) (w : World) (hra : Rd w w.heap.size 6 A (sa.map Sec.cells)) (hla : sa.length ≤ ca) (hca : sa.length ≤ 100000000000000)
    (hrb : Rd w w.heap.size 6 B (sb.map Sec.cells)) (hlb : sb.length ≤ cb) (hcb : sb.length ≤ 100000000000000) (h : (LValid sa && LValid sb) = true) :
    Calls Try.prog 7 #[.slice A sa.length ca, .slice B sb.length cb, pt v1 v2] w (Ret w (.bool true)) := by
  have hm := hmix
  rw [Bool.and_eq_true] at h
  obtain ⟨va, vb⟩ := h
  have la := (LV_ok va).2
  have lb := (LV_ok vb).2
  obtain ⟨is, hi⟩ : ∃ is, (!(turnsOf (sb ++ sa)).all (holdsAt sb sa 1)) = is := ⟨_, rfl⟩
  have k1 := hide (fun W (hg : Grew w W) => Safer_w sa sb A B ca cb (is, 0) W (hra.up hg) (hrb.up hg) hla hlb hca hcb (by rw [saferOf_ok (by rw [va, vb]; rfl), hi]))
  have k2 := hide (fun W (hg : Grew w W) => rTurns_any sa sb A B ca cb W (hra.up hg) (hrb.up hg) (by omega) (by omega))
  have HI := hide hi
  have VA := hide va
  have VB := hide vb
  clear hi va vb
  obtain ⟨i0, hi0, hz0, hz1, hz2⟩ := info_parts ptInfo
  have htl := turns_len (sa ++ sb)
  rw [List.length_append] at htl
  obtain ⟨tl, htl2⟩ : ∃ tl, turnsOf (sa ++ sb) = tl := ⟨_, rfl⟩
  rw [htl2] at k2 htl
  have HT := hide htl2
  have htl3 : tl.length ≤ 48 := by omega
  clear htl2 htl
  go_enter Try.func7, Try.ntmps7
  go_upto_region 6 with (first | (go_at_call 11; (with_reducible refine (head_any _).mono ?_); rintro e w' ⟨rfl, ⟨_, _⟩, rfl⟩; dsimp only) | (go_at_call 20; (with_reducible refine (k1.out _ (by repeat (with_reducible first | exact Grew.refl _ | assumption | refine Grew.alloc ?_ _ | refine Grew.grow ?_ _ | refine Grew.dr ?_ _ | refine Grew.drewN ?_ _ | refine Grew.drew ?_ | refine Grew.trans ?_ (Hid.out (by assumption))))).mono ?_); rintro e w' ⟨rfl, ⟨_, _⟩, rfl⟩; dsimp only))
  go_cut [11] (fun s wc => SafCut w 24 tl v1 v2 s wc)
  case first =>
    refine wp_name ?_
    intro W0 hW
    have hg0 : Grew w W0 := by rw [← hW]; exact (by repeat (with_reducible first | exact Grew.refl _ | assumption | refine Grew.alloc ?_ _ | refine Grew.grow ?_ _ | refine Grew.dr ?_ _ | refine Grew.drewN ?_ _ | refine Grew.drew ?_ | refine Grew.trans ?_ (Hid.out (by assumption))))
    have hkk : W0.heap[w.heap.size]? = some (.cells #[.int .i64 v1, .int .i64 v2] 24 (0, 0)) := by rw [← hW]; exact heap_alloc_gd _ _ _ _ _ rfl
    have c0 : W0.cell? ⟨w.heap.size, 0, none⟩ = _ := blk_cell hkk 0
    have c1 : W0.cell? ⟨w.heap.size, 1, none⟩ = _ := blk_cell hkk 1
    have c2 := blk_lt hkk
    have HG0 := hide hg0
    clear hW hg0 hkk
    refine E.wp_region_eff 6 [true, true, false, true, false, false] [2, 4, 5] hm (by kernel_rfl) (by simp only [E.pick, List.take, List.length_cons, List.length_nil, Nat.reduceAdd]; rfl) (by rfl) (by simp only [List.drop, List.take, List.length_cons, List.length_nil, Nat.reduceAdd, Nat.reduceSub]; rfl) (by simp only [List.drop]; rfl) ?_
    repeat (refine wpSteady_step (fun K hK => ?_); go_simp; first | (refine hK _ ?_; clear hK K) | (apply Exists.intro; refine ⟨fun _ => ?_, hK _ ?_⟩; (fail); clear hK K))
    refine wpSteady_nil ?_
    refine E.wpE_ready [2, 4] (by simp) (by kernel_rfl) ?_
    intro e he o ho W1 hg1
    simp only [List.mem_cons, List.not_mem_nil, or_false] at he
    have HG1 := hide hg1
    clear hg1
    rcases he with rfl | rfl
    ·
      simp at ho
      subst ho
      go_simp
      refine (k2.out _ (HG0.out.trans HG1.out)).mono ?_
      rintro e W2 ⟨v, rfl, hown, hg2⟩
      refine ⟨v, rfl, hg2.below.mono HG1.out.below.size, ?_⟩
      have HO := hide hown
      have HG2 := hide hg2
      clear hown hg2
      refine E.wpE_ready [4] (by simp) (by kernel_rfl) ?_
      intro e he o ho W3 hg3
      obtain rfl := List.mem_singleton.1 he
      have HG3 := hide hg3
      clear hg3 he
      simp at ho
      subst ho
      go_simp
      refine ⟨(Below.refl _ _).alloc (HG1.out.trans (HG2.out.trans HG3.out)).below.size _, ?_⟩
      refine E.wpE_ready [5] (by simp) (by kernel_rfl) ?_
      intro e he o ho W4 hg4
      obtain rfl := List.mem_singleton.1 he
      have hblk : W4.heap[W3.heap.size]? = some (.cells #[.int .i64 v1, .int .i64 v2] 24 (0, 0)) := (hg4.heap (by simp)).trans (heap_alloc_new _ _)
      have HG4 := hide hg4
      clear hg4 he
      simp at ho
      subst ho
      refine E.effUpon_append (.tmp 46) (.tmp 48) 48 rfl W1.heap.size 24 i0 _ 2 16 Try.underlying48 hi0 hz0 hz1 hz2 (by rfl) (by omega) _ tl.length _ (by rfl) (own_grew HO.out (HG3.out.trans (Grew.trans (by repeat (with_reducible first | exact Grew.refl _ | assumption | refine Grew.alloc ?_ _ | refine Grew.grow ?_ _ | refine Grew.dr ?_ _ | refine Grew.drewN ?_ _ | refine Grew.drew ?_ | refine Grew.trans ?_ (Hid.out (by assumption)))) HG4.out))) W4.heap.size (some ⟨W3.heap.size, 0, none⟩) 1 1 (encD (v1, v2)) (by rfl) (reads_blk hblk rfl rfl) (fun x hx => by simp [encD] at hx; rcases hx with rfl | rfl <;> rfl) (by unfold maxLen; omega) (by omega) (HG2.out.trans (HG3.out.trans (Grew.trans (by repeat (with_reducible first | exact Grew.refl _ | assumption | refine Grew.alloc ?_ _ | refine Grew.grow ?_ _ | refine Grew.dr ?_ _ | refine Grew.drewN ?_ _ | refine Grew.drew ?_ | refine Grew.trans ?_ (Hid.out (by assumption)))) HG4.out))).below.size HG1.out.below.size ?_
      intro v' W5 hown5 hb5
      refine E.wpE_nil fun W6 hg6 => ?_
      refine L.q2_normal ?_
      repeat (refine wpSteady_step (fun K hK => ?_); go_simp; first | (refine hK _ ?_; clear hK K) | (apply Exists.intro; refine ⟨fun _ => ?_, hK _ ?_⟩; (fail); clear hK K))
      refine wpSteady_nil ?_
      intro W7 hW3a
      have hfin : SafCut w 24 tl v1 v2 v' W7 := saf_fin hown5 (HG0.out.trans (HG1.out.trans (HG2.out.trans (HG3.out.trans (Grew.trans (by repeat (with_reducible first | exact Grew.refl _ | assumption | refine Grew.alloc ?_ _ | refine Grew.grow ?_ _ | refine Grew.dr ?_ _ | refine Grew.drewN ?_ _ | refine Grew.drew ?_ | refine Grew.trans ?_ (Hid.out (by assumption)))) HG4.out))))) (HG0.out.trans HG1.out).below.size HG0.out.below.size hb5 (hg6.trans hW3a)
      clear hown5 hb5 hg6 hW3a
      go_wp2_with fail
      go_meet
      exact hfin
    ·
      simp at ho
      subst ho
      go_simp
      refine ⟨(Below.refl _ _).alloc HG1.out.below.size _, ?_⟩
      refine E.wpE_ready [2] (by simp) (by kernel_rfl) ?_
      intro e he o ho W2 hg2
      obtain rfl := List.mem_singleton.1 he
      have hblk0 : W2.heap[W1.heap.size]? = some (.cells #[.int .i64 v1, .int .i64 v2] 24 (0, 0)) := (hg2.heap (by simp)).trans (heap_alloc_new _ _)
      have hg12 : Grew W1 W2 := Grew.trans (by repeat (with_reducible first | exact Grew.refl _ | assumption | refine Grew.alloc ?_ _ | refine Grew.grow ?_ _ | refine Grew.dr ?_ _ | refine Grew.drewN ?_ _ | refine Grew.drew ?_ | refine Grew.trans ?_ (Hid.out (by assumption)))) hg2
      have HG2 := hide hg12
      have HB0 := hide hblk0
      clear hg2 he hg12 hblk0
      simp at ho
      subst ho
      go_simp
      refine (k2.out _ (HG0.out.trans (HG1.out.trans HG2.out))).mono ?_
      rintro e W3 ⟨v, rfl, hown, hg3⟩
      refine ⟨v, rfl, hg3.below.mono (HG1.out.trans HG2.out).below.size, ?_⟩
      have HO := hide hown
      have HG3 := hide hg3
      clear hown hg3
      refine E.wpE_ready [5] (by simp) (by kernel_rfl) ?_
      intro e he o ho W4 hg4
      obtain rfl := List.mem_singleton.1 he
      have hblk := (hg4.heap (blk_lt ((HG3.out.heap (blk_lt HB0.out)).trans HB0.out))).trans ((HG3.out.heap (blk_lt HB0.out)).trans HB0.out)
      have HG4 := hide hg4
      clear hg4 he
      simp at ho
      subst ho
      refine E.effUpon_append (.tmp 46) (.tmp 48) 48 rfl W2.heap.size 24 i0 _ 2 16 Try.underlying48 hi0 hz0 hz1 hz2 (by rfl) (by omega) _ tl.length _ (by rfl) (own_grew HO.out HG4.out) W4.heap.size (some ⟨W1.heap.size, 0, none⟩) 1 1 (encD (v1, v2)) (by rfl) (reads_blk hblk rfl rfl) (fun x hx => by simp [encD] at hx; rcases hx with rfl | rfl <;> rfl) (by unfold maxLen; omega) (by omega) (HG3.out.trans HG4.out).below.size (HG1.out.trans HG2.out).below.size ?_
      intro v' W5 hown5 hb5
      refine E.wpE_nil fun W6 hg6 => ?_
      refine L.q2_normal ?_
      repeat (refine wpSteady_step (fun K hK => ?_); go_simp; first | (refine hK _ ?_; clear hK K) | (apply Exists.intro; refine ⟨fun _ => ?_, hK _ ?_⟩; (fail); clear hK K))
      refine wpSteady_nil ?_
      intro W7 hW3a
      have hfin : SafCut w 24 tl v1 v2 v' W7 := saf_fin hown5 (HG0.out.trans (HG1.out.trans (HG2.out.trans (HG3.out.trans HG4.out)))) (HG0.out.trans (HG1.out.trans HG2.out)).below.size HG0.out.below.size hb5 (hg6.trans hW3a)
      clear hown5 hb5 hg6 hW3a
      go_wp2_with fail
      go_meet
      exact hfin
  case rest =>
    obtain ⟨hown, hbel⟩ := hcut
    have hlen : tl.length + 1 = (tl ++ [(v1, v2)]).length := by simp
    obtain ⟨A11, c11, rfl, hc11, hrd⟩ := Rd.of_own (f := encD) encD_len hown hlen
    clear hlen
    have HRD := hide hrd
    have HGC := hide (Grew.of_below hbel)
    clear hown hbel hrd
    have L1 := hide (fun t (ht : t ∈ tl) (h0 : holdsAt sb sa 1 t = false) => saf_l1 HT.out HI.out ht h0)
    have L2 := hide (saf_l2 HT.out HI.out)
    have L3 := hide (fun v (hv : NZ v) (h0 : holdsAt sb sa 1 v = false) => saf_l3 (LV_nzs VB.out) (LV_nzs VA.out) HI.out hv h0)
    have L4 := hide (saf_l4 HT.out VA.out VB.out)
    clear HT HI
    go_wp2_with fail
    go_loopw [7, 10, 12] (fun up fo i wr => ∃ (k : Nat) (fb : Bool), k ≤ tl.length + 1 ∧ i = .int .i64 k ∧ up = .bool true ∧ fo = .bool fb ∧ Grew wc wr ∧ SafF sa sb tl is k fb) (fun _ _ i _ => tl.length + 1 - (intOf i).toNat)
    case atStart => exact ⟨0, false, by omega, rfl, rfl, rfl, Grew.refl _, ⟨(fun h => by cases h), (fun _ j t hj => by omega)⟩⟩
    case round =>
      obtain ⟨k, fb, hk, rfl, rfl, rfl, hg, hf1, hf2⟩ := hrel
      have HG := hide hg
      have F1 := hide hf1
      have F2 := hide hf2
      clear hg hf1 hf2
      by_cases hlt : k < tl.length + 1
      · obtain ⟨⟨x, y⟩, hxy⟩ : ∃ t, (tl ++ [(v1, v2)])[k]? = some t := ⟨_, List.getElem?_eq_getElem (by simpa using hlt)⟩
        obtain ⟨b, off, hA, hb, hcell⟩ := (HRD.out.up HG.out).at_ (k := k) (x := encD (x, y)) (by rw [List.getElem?_map, hxy]; rfl)
        have h0 := hcell 0 _ rfl
        have h1 := hcell 1 _ rfl
        simp only [Nat.add_zero] at h0
        have HA := hide hA
        have hix := idx_run (cap := c11) Try.underlying48 Try.sizeOf24 hA hlt
        have HXY := hide hxy
        clear hcell hA hxy
        cases hd : dirOk x y
        · have hkn : k = tl.length := by
            rcases Nat.lt_or_ge k tl.length with h9 | h9
            · have := L4.out k (x, y) (by have := HXY.out; rwa [List.getElem?_append_left h9] at this)
              rw [this] at hd
              cases hd
            · omega
          subst hkn
          have hfb : fb = is := by
            cases fb
            · exact (L2.out fun t ht => by
                obtain ⟨j, hj, rfl⟩ := List.getElem_of_mem ht
                exact F2.out rfl j _ hj (List.getElem?_eq_getElem hj)).symm
            · exact (F1.out rfl).symm
          have k5 := hide (fun W (hg : Grew w W) => Color_w sa A ca x y _ W (hra.up hg) hla hca (color_no (by rw [hd]; simp)))
          have k6 := hide (fun W (hg : Grew w W) => Color_w sb B cb x y _ W (hrb.up hg) hlb hcb (color_no (by rw [hd]; simp)))
          clear hd L1 L2 L3 L4 F1 F2
          subst hfb
          go_wp2_with (first | (go_at_call 16; (with_reducible refine (k5.out _ (HGC.out.trans (HG.out.trans (by repeat (with_reducible first | exact Grew.refl _ | assumption | refine Grew.alloc ?_ _ | refine Grew.grow ?_ _ | refine Grew.dr ?_ _ | refine Grew.drewN ?_ _ | refine Grew.drew ?_ | refine Grew.trans ?_ (Hid.out (by assumption))))))).mono ?_); rintro e w' ⟨rfl, ⟨_, _⟩, rfl⟩; dsimp only) | (go_at_call 16; (with_reducible refine (k6.out _ (HGC.out.trans (HG.out.trans (by repeat (with_reducible first | exact Grew.refl _ | assumption | refine Grew.alloc ?_ _ | refine Grew.grow ?_ _ | refine Grew.dr ?_ _ | refine Grew.drewN ?_ _ | refine Grew.drew ?_ | refine Grew.trans ?_ (Hid.out (by assumption))))))).mono ?_); rintro e w' ⟨rfl, ⟨_, _⟩, rfl⟩; dsimp only))
          all_goals go_ret
          all_goals exact Ret.mk' (ret_bool (by simp [*])) (HGC.out.trans (HG.out.trans (by repeat (with_reducible first | exact Grew.refl _ | assumption | refine Grew.alloc ?_ _ | refine Grew.grow ?_ _ | refine Grew.dr ?_ _ | refine Grew.drewN ?_ _ | refine Grew.drew ?_ | refine Grew.trans ?_ (Hid.out (by assumption))))))
        · obtain ⟨⟨c, r⟩, hcr⟩ : ∃ q, shA sa (x, y) = q := ⟨_, rfl⟩
          obtain ⟨⟨d, s⟩, hds⟩ : ∃ q, shA sb (x, y) = q := ⟨_, rfl⟩
          have k5 := hide (fun W (hg : Grew w W) => Color_w sa A ca x y (c, r, 0) W (hra.up hg) hla hca (by rw [color_ok VA.out hd, hcr]))
          have k6 := hide (fun W (hg : Grew w W) => Color_w sb B cb x y (d, s, 0) W (hrb.up hg) hlb hcb (by rw [color_ok VB.out hd, hds]))
          obtain ⟨sf, hsf⟩ : ∃ sf, holdsAt sb sa 1 (x, y) = !sf := ⟨!holdsAt sb sa 1 (x, y), by simp⟩
          have hcase : (sf = false ∧ (d == 1) = false) ∨ (sf = true ∧ d = 1 ∧ (c == 1) = false) ∨ (sf = true ∧ d = 1 ∧ c = 1 ∧ decide (r < s) = true) ∨ (sf = false ∧ d = 1 ∧ c = 1 ∧ decide (r < s) = false) := saf_case hcr hds hsf
          obtain ⟨fb', hfb'⟩ : ∃ q, q = (fb || (decide (k < tl.length) && sf)) := ⟨_, rfl⟩
          have hnz : NZ (x, y) := nz_dir hd
          have P0 : sf = true → is = true := fun h9 => L3.out (x, y) hnz (by rw [hsf, h9]; rfl)
          have P1 : Hid (fb' = true → is = true) := hide fun h9 => by
            rw [hfb'] at h9
            cases hfb2 : fb
            · rw [hfb2] at h9
              simp at h9
              exact P0 h9.2
            · exact F1.out hfb2
          have P2 : Hid (fb' = false → ∀ (j : Nat) (t : Int × Int), j < k + 1 → tl[j]? = some t → holdsAt sb sa 1 t = true) := hide fun h9 j t hj ht => by
            rw [hfb', Bool.or_eq_false_iff] at h9
            by_cases hjk : j = k
            · subst hjk
              have hjl := (List.getElem?_eq_some_iff.1 ht).1
              have e := HXY.out
              rw [List.getElem?_append_left hjl, ht] at e
              injection e with e
              rw [e, hsf]
              have := h9.2
              simp [hjl] at this
              rw [this]
              rfl
            · exact F2.out h9.1 j t (by omega) ht
          clear hd hcr hds hsf hnz L1 L2 L3 L4 F1 F2 HXY
          rcases Nat.lt_or_ge k tl.length with hkn | hkn
          · have hdk : decide (k < tl.length) = true := by simpa using hkn
            rw [hdk] at hfb'
            have hn1 : ((k : Int) == (tl.length : Int)) = false := by rw [beq_eq_false_iff_ne]; omega
            clear hdk
            rcases hcase with ⟨rfl, hh⟩ | ⟨rfl, rfl, hh⟩ | ⟨rfl, rfl, rfl, hh⟩ | ⟨rfl, rfl, rfl, hh⟩ <;> cases fb <;> cases is <;> simp only [Bool.or_false, Bool.or_true, Bool.true_and, Bool.false_or, Bool.true_or, Bool.and_true, Bool.and_false, Bool.or_self] at hfb' <;> subst hfb'
            all_goals first
              | (exact Bool.noConfusion (P0 rfl : (false : Bool) = true))
              | (exact Bool.noConfusion (P1.out rfl : (false : Bool) = true))
              | (clear P0
                 try have hh2 : (c != 1) = true := by simpa using hh
                 go_wp2_with (first | (go_at_call 16; (with_reducible refine (k5.out _ (HGC.out.trans (HG.out.trans (by repeat (with_reducible first | exact Grew.refl _ | assumption | refine Grew.alloc ?_ _ | refine Grew.grow ?_ _ | refine Grew.dr ?_ _ | refine Grew.drewN ?_ _ | refine Grew.drew ?_ | refine Grew.trans ?_ (Hid.out (by assumption))))))).mono ?_); rintro e w' ⟨rfl, ⟨_, _⟩, rfl⟩; dsimp only) | (go_at_call 16; (with_reducible refine (k6.out _ (HGC.out.trans (HG.out.trans (by repeat (with_reducible first | exact Grew.refl _ | assumption | refine Grew.alloc ?_ _ | refine Grew.grow ?_ _ | refine Grew.dr ?_ _ | refine Grew.drewN ?_ _ | refine Grew.drew ?_ | refine Grew.trans ?_ (Hid.out (by assumption))))))).mono ?_); rintro e w' ⟨rfl, ⟨_, _⟩, rfl⟩; dsimp only))
                 go_roundw
                 case rel => exact ⟨k + 1, _, by omega, by go_num, rfl, (by first | rfl | simp [*]), HG.out.trans (by repeat (with_reducible first | exact Grew.refl _ | assumption | refine Grew.alloc ?_ _ | refine Grew.grow ?_ _ | refine Grew.dr ?_ _ | refine Grew.drewN ?_ _ | refine Grew.drew ?_ | refine Grew.trans ?_ (Hid.out (by assumption)))), ⟨P1.out, P2.out⟩⟩
                 case measure => first | (simp [intOf]; done) | (simp [intOf]; omega))
          · obtain rfl : k = tl.length := by omega
            have hdk : decide (tl.length < tl.length) = false := by simp
            rw [hdk] at hfb'
            clear hdk
            rcases hcase with ⟨rfl, hh⟩ | ⟨rfl, rfl, hh⟩ | ⟨rfl, rfl, rfl, hh⟩ | ⟨rfl, rfl, rfl, hh⟩ <;> cases fb <;> cases is <;> simp only [Bool.or_false, Bool.or_true, Bool.true_and, Bool.false_or, Bool.true_or, Bool.and_true, Bool.and_false, Bool.false_and, Bool.or_self] at hfb' <;> subst hfb'
            all_goals first
              | (exact Bool.noConfusion (P0 rfl : (false : Bool) = true))
              | (exact Bool.noConfusion (P1.out rfl : (false : Bool) = true))
              | (clear P0
                 try have hh2 : (c != 1) = true := by simpa using hh
                 go_wp2_with (first | (go_at_call 16; (with_reducible refine (k5.out _ (HGC.out.trans (HG.out.trans (by repeat (with_reducible first | exact Grew.refl _ | assumption | refine Grew.alloc ?_ _ | refine Grew.grow ?_ _ | refine Grew.dr ?_ _ | refine Grew.drewN ?_ _ | refine Grew.drew ?_ | refine Grew.trans ?_ (Hid.out (by assumption))))))).mono ?_); rintro e w' ⟨rfl, ⟨_, _⟩, rfl⟩; dsimp only) | (go_at_call 16; (with_reducible refine (k6.out _ (HGC.out.trans (HG.out.trans (by repeat (with_reducible first | exact Grew.refl _ | assumption | refine Grew.alloc ?_ _ | refine Grew.grow ?_ _ | refine Grew.dr ?_ _ | refine Grew.drewN ?_ _ | refine Grew.drew ?_ | refine Grew.trans ?_ (Hid.out (by assumption))))))).mono ?_); rintro e w' ⟨rfl, ⟨_, _⟩, rfl⟩; dsimp only))
                 go_roundw
                 case rel => exact ⟨tl.length + 1, _, by omega, by go_num, rfl, (by first | rfl | simp [*]), HG.out.trans (by repeat (with_reducible first | exact Grew.refl _ | assumption | refine Grew.alloc ?_ _ | refine Grew.grow ?_ _ | refine Grew.dr ?_ _ | refine Grew.drewN ?_ _ | refine Grew.drew ?_ | refine Grew.trans ?_ (Hid.out (by assumption)))), ⟨P1.out, P2.out⟩⟩
                 case measure => first | (simp [intOf]; done) | (simp [intOf]; omega))
      · obtain rfl : k = tl.length + 1 := by omega
        have hfb : fb = is := by
          cases fb
          · exact (L2.out fun t ht => by
              obtain ⟨j, hj, rfl⟩ := List.getElem_of_mem ht
              exact F2.out rfl j _ (by omega) (List.getElem?_eq_getElem hj)).symm
          · exact (F1.out rfl).symm
        clear L1 L2 L3 L4 F1 F2
        subst hfb
        go_wp2_with fail
        all_goals go_ret
        all_goals exact Ret.mk' (ret_bool (by simp [*])) (HGC.out.trans HG.out)
theorem saferL_any (sa : List Sec) (A : Option Addr) (ca : Nat) (sb : List Sec) (B : Option Addr) (cb : Nat) (v1 v2 : Int) (w : World) (hra : Rd w w.heap.size 6 A (sa.map Sec.cells)) (hla : sa.length ≤ ca) (hca : sa.length ≤ 100000000000000)
    (hrb : Rd w w.heap.size 6 B (sb.map Sec.cells)) (hlb : sb.length ≤ cb) (hcb : sb.length ≤ 100000000000000) :
    Calls Try.prog 7 #[.slice A sa.length ca, .slice B sb.length cb, pt v1 v2] w (Ret w (.bool true)) := by
  cases h : LValid sa && LValid sb
  · exact saferL_no sa A ca sb B cb v1 v2 w hra hla hca hrb hlb hcb h
  · exact saferL_yes sa A ca sb B cb v1 v2 w hra hla hca hrb hlb hcb h
end Go.Proofs.Ytgcgaplhaglejaa
