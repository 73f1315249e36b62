/- Package poly: Hull. -/
import Derived.Test.YtndkfpmklmcjjaaGreatPot
import Derived.Test.YtndkfpmklmcjjaaGreatPoa
import Derived.Test.YtndkfpmklmcjjaaGreatPov
set_option linter.unusedSimpArgs false
set_option linter.unusedVariables false
set_option maxHeartbeats 8000000
set_option maxRecDepth 100000
namespace Go.Proofs.YtndkfpmklmcjjaaGreat
open Go.RowKit Go.Sort Go.Lib
attribute [local go_sem] Steady steadyUpon
attribute [local go_sem ↓] hs_dr lt_add_r lt_add_r2 lt_add_r3 lt_add_r4 lt_add_r5 lt_add_r6
attribute [local go_sem] cell?_gd frozen?_gd setCell_gd size_grow tape_grow cell?_grow' frozen?_grow' setCell_grow' grow_grow grow_dr grow_drew dr_dr dr_drew drew_dr dr_alloc dr_setCell dr_cell dr_frozen dr_tape dr_drawn
attribute [local irreducible] wpSteady
theorem hb_bad (p : Pt) (r : Bool) (w : World) (h : p.ok = !r) : Calls Tryz.prog 51 #[pt p.1 p.2] w (Ret w (.bool r)) := by
 have k1 := hide (fun W => planeValid_v p.1 p.2 (!r) W h)
 obtain ⟨p1, p2⟩ := p
 clear h
 cases r
 all_goals
  go_enter Tryz.func51, Tryz.ntmps51
  go_wp2_with (go_at_call 26; with_reducible refine crv (k1.out _) fun _ _ => ?_; dsimp only)
  go_ret
  exact Ret.mk' (by rfl) gw
theorem hb_idx (ps : List Pt) (A : Option Addr) (c : Nat) (r : Bool) (w : World) (hr : Rd w w.heap.size 2 A (ps.map encD)) (hc : ps.length ≤ 100000000000000) (h : ps.all Pt.ok = r) :
  Calls Tryz.prog 67 #[.slice A ps.length c, .func (.func 51) #[] #[]] w fun e w' => IdxP ps.length r e ∧ Grew w w' := by
 have hm := hmix
 have HR := hide h
 clear h
 go_enter Tryz.func67, Tryz.ntmps67
 go_wp2_with fail
 go_loopw [8] (fun i wr => ∃ k : Nat, k ≤ ps.length ∧ i = .int .i64 k ∧ Grew w wr ∧ AppG ((ps.take k).all Pt.ok = true)) (fun i _ => ps.length - (intOf i).toNat)
 case atStart => exact ⟨0, by omega, rfl, gw, rfl⟩
 case round =>
  obtain ⟨k, hk, rfl, hg, hall⟩ := hrel
  have HG := hide hg
  have HA := hide hall.stop
  clear hg hall
  by_cases hlt : k < ps.length
  ·obtain ⟨p, hp⟩ : ∃ p, ps[k]? = some p := ⟨_, List.getElem?_eq_getElem hlt⟩
   obtain ⟨b, off, hA, hb, h0, h1⟩ := ptAt (hr.up HG.out) hp
   have hix := idx_run (cap := c) Tryz.underlying22 Tryz.sizeOf24 hA.out hlt
   have hs := all_take_succ Pt.ok hp
   rw [HA.out, Bool.true_and] at hs
   have HP := hide hp
   have HS := hide hs
   obtain ⟨o, ho⟩ : ∃ o, p.ok = !o := ⟨!p.ok, by simp⟩
   have k1 := hide (fun W => hb_bad p o W ho)
   have HO := hide ho
   clear hp hs ho
   obtain ⟨p1, p2⟩ := p
   dsimp only at h0 h1
   cases o
   ·go_wp2_with (go_at_call 51; with_reducible refine crv (k1.out _) fun _ _ => ?_; dsimp only)
    go_roundw
    case rel => exact ⟨k + 1, by omega, by go_num, HG.out.trans gw, by rw [HS.out]; exact HO.out⟩
    case measure => simp [intOf]; omega
   ·go_wp2_with (go_at_call 51; with_reducible refine crv (k1.out _) fun _ _ => ?_; dsimp only)
    go_ret
    have e : ps.all Pt.ok = false := all_false_at HP.out HO.out
    obtain rfl : r = false := by rw [← HR.out, e]
    exact ⟨.inr ⟨k, by omega, rfl, rfl⟩, HG.out.trans gw⟩
  ·obtain rfl : k = ps.length := by omega
   rw [List.take_length] at HA
   obtain rfl : r = true := by rw [← HR.out, HA.out]
   go_wp2_with fail
   go_ret
   exact ⟨.inl ⟨rfl, rfl⟩, HG.out⟩
theorem hb_con (ps : List Pt) (A : Option Addr) (c : Nat) (r : Bool) (w : World) (hr : Rd w w.heap.size 2 A (ps.map encD)) (hc : ps.length ≤ 100000000000000) (h : ps.all Pt.ok = !r) :
  Calls Tryz.prog 27 #[.slice A ps.length c, .func (.func 51) #[] #[]] w (Ret w (.bool r)) := by
 have hm := hmix
 have k1 := hide (fun W (hg : Grew w W) => hb_idx ps A c (!r) W (hr.up hg) hc h)
 clear h
 go_enter Tryz.func27, Tryz.ntmps27
 go_wp2_with fail
 refine (k1.out _ gw).mono ?_
 rintro e w' ⟨h, ⟨⟨n1, os1⟩, rfl⟩⟩
 rcases h with ⟨rfl, hr2⟩ | ⟨k, hk, rfl, hr2⟩
 ·obtain rfl : r = false := by simpa using hr2
  dsimp only
  go_wp2_with fail
  go_ret
  exact Ret.mk' rfl gw
 ·obtain rfl : r = true := by simpa using hr2
  dsimp only
  have hk0 : 0 ≤ (k : Int) := by omega
  go_wp2_with fail
  go_ret
  exact Ret.mk' (by simp) gw
theorem half_all (ps : List Pt) (A : Option Addr) (c B : Nat) (w : World) (hB : w.heap[B]? = some (.cells #[.slice A ps.length c] 22 (0, 0))) (hr : Rd w B 2 A (ps.map encD)) (hl : ps.length ≤ 1000) (hok : ps.all Pt.ok = true) :
  Calls Tryz.prog 55 #[.func (.func 93) #[] #[.pointer (some ⟨B, 0, none⟩)]] w fun e w' => ∃ A' c', e = .returned (.slice A' (halfL ps).length c') ∧ (halfL ps).length ≤ c' ∧ Rd w' w'.heap.size 2 A' ((halfL ps).map encD) ∧ Grew w w' := by
 have hb := blk_lt hB
 refine (half_any 93 #[.pointer (some ⟨B, 0, none⟩)] ps _ w hl (enters_of Tryz.func93 (by kernel_rfl) rfl)
  (fun W0 hW => all1_stops 8 (MHalf w.heap.size) ps A c B W0 (fun b T h => by rcases h with rfl | ⟨h, _⟩ <;> omega) ((hW.block B hb).trans hB) (hr.below (hW.mono (by omega))) (by omega) hok)).mono ?_
 rintro e w' ⟨v, rfl, hown, hg⟩
 obtain ⟨A', c', rfl, hc, hrd⟩ := Rd.of_own (f := encD) encD_len hown rfl
 exact ⟨A', c', rfl, hc, hrd, hg⟩
theorem half_back (ps : List Pt) (A : Option Addr) (c B : Nat) (w : World) (hB : w.heap[B]? = some (.cells #[.slice A ps.length c] 22 (0, 0))) (hr : Rd w B 2 A (ps.map encD)) (hl : ps.length ≤ 1000) (hok : ps.all Pt.ok = true) :
  Calls Tryz.prog 55 #[.func (.func 94) #[] #[.pointer (some ⟨B, 0, none⟩)]] w fun e w' => ∃ A' c', e = .returned (.slice A' (halfL ps.reverse).length c') ∧ (halfL ps.reverse).length ≤ c' ∧ Rd w' w'.heap.size 2 A' ((halfL ps.reverse).map encD) ∧ Grew w w' := by
 have hb := blk_lt hB
 refine (half_any 94 #[.pointer (some ⟨B, 0, none⟩)] ps.reverse _ w (by rw [List.length_reverse]; exact hl) (enters_of Tryz.func94 (by kernel_rfl) rfl)
  (fun W0 hW => by
   rw [List.length_reverse]
   exact backward1_stops 8 (MHalf w.heap.size) ps A c B W0 (fun b T h => by rcases h with rfl | ⟨h, _⟩ <;> omega) ((hW.block B hb).trans hB) (hr.below (hW.mono (by omega))) (by omega) hok)).mono ?_
 rintro e w' ⟨v, rfl, hown, hg⟩
 obtain ⟨A', c', rfl, hc, hrd⟩ := Rd.of_own (f := encD) encD_len hown rfl
 exact ⟨A', c', rfl, hc, hrd, hg⟩
theorem compQ_len (l : List Pt) : (compQ l).length ≤ l.length := by
 unfold compQ compactUpTo
 rw [List.length_map]
 have := List.length_filter_le (keeps l.toArray) (List.range l.length)
 simpa using this
theorem compQ_pos {l : List Pt} (h : 0 < l.length) : 0 < (compQ l).length := by
 unfold compQ compactUpTo
 rw [List.length_map]
 refine List.length_pos_of_mem (a := 0) (List.mem_filter.2 ⟨List.mem_range.2 h, keeps_lt_one _ 0 (by omega)⟩)
theorem compQ_mem {l : List Pt} {x : Pt} (h : x ∈ compQ l) : x ∈ l := by
 unfold compQ compactUpTo at h
 obtain ⟨i, hi, rfl⟩ := List.mem_map.1 h
 have := List.mem_range.1 (List.mem_filter.1 hi).1
 exact List.mem_of_getElem? (bangQ_get this)
theorem halfL_pos {L : List Pt} (h : 0 < L.length) : 0 < (halfL L).length := by
 obtain ⟨M, q, rfl⟩ : ∃ M q, L = M ++ [q] := ⟨L.dropLast, L.getLast (by intro e; rw [e] at h; simp at h), (List.dropLast_concat_getLast _).symm⟩
 rw [halfL_snoc]
 unfold pushQ
 simp
def placesOf (ps : List Pt) : List Pt := compQ (sortQ ps)
def cutL (l : List Pt) : List Pt := l.take (l.length - 1)
/-- The corners of the hull. -/
def hullC (ps : List Pt) : List Pt := cutL (halfL (placesOf ps)) ++ cutL (halfL (placesOf ps).reverse)
def hullOf (ps : List Pt) : List Pt × Int :=
 if ps.length ≠ 0 ∧ ps.length ≤ 200 ∧ ps.all Pt.ok = true then (if (hullC ps).length < 3 then ([], 4) else if 24 < (hullC ps).length then ([], 2) else (hullC ps, 0)) else ([], 1)
theorem ownQ_holds {W : World} {base g cap : Nat} {L : List Pt} (h : W.ownsRow base 24 2 (.slice (some ⟨g, 0, none⟩) L.length cap) L.length (L.flatMap encD)) : HoldsK encD 2 W g 0 L.toArray := by
 intro t ht
 have ht' : t < L.length * 2 := by simpa using ht
 rw [get_flatK _ _ _ _ (by simpa using ht'), Nat.zero_add]
 refine ⟨?_, h.frozenAt t⟩
 rw [h.cellAt t ht']
 have hk : t / 2 < L.length := by omega
 have := (flatMap_get encD 2 (fun _ => rfl) L (t / 2) (t % 2) (encD L[t / 2])[t % 2]! (by omega)).2 ⟨L[t / 2], List.getElem?_eq_getElem hk, by
  have : t % 2 < (encD L[t / 2]).length := by show t % 2 < 2; omega
  simp [this]⟩
 rw [show t / 2 * 2 + t % 2 = t by omega] at this
 rw [this, getQ_bang hk]
 rfl
theorem Hull_bad (ps : List Pt) (A : Option Addr) (c : Nat) (w : World) (hr : Rd w w.heap.size 2 A (ps.map encD)) (hc : ps.length ≤ 100000000000000) (h : ¬ (ps.length ≠ 0 ∧ ps.length ≤ 200 ∧ ps.all Pt.ok = true)) :
  Calls Tryz.prog 17 #[.slice A ps.length c] w (PolyR w ([], 1)) := by
 have hm := hmix
 obtain ⟨r, hr'⟩ : ∃ r, ps.all Pt.ok = !r := ⟨!ps.all Pt.ok, by simp⟩
 have k1 := hide (fun W (hg : Grew w W) => hb_con ps A c r W (hr.up hg) hc hr')
 have hcase : ps.length = 0 ∨ (ps.length ≠ 0 ∧ 200 < ps.length) ∨ (ps.length ≠ 0 ∧ ¬ 200 < ps.length ∧ r = true) := by
  by_cases h0 : ps.length = 0
  ·exact .inl h0
  ·by_cases h1 : 200 < ps.length
   ·exact .inr (.inl ⟨h0, h1⟩)
   ·refine .inr (.inr ⟨h0, h1, ?_⟩)
    cases r
    ·exact absurd ⟨h0, by omega, by rw [hr']; rfl⟩ h
    ·rfl
 clear h hr'
 rcases hcase with h0 | ⟨h0, h1⟩ | ⟨h0, h1, rfl⟩
 ·rw [h0] at k1 ⊢
  clear k1
  go_enter Tryz.func17, Tryz.ntmps17
  go_wp2_with fail
  go_ret2
  exact ⟨_, rfl, World.ownsRow_nil _ _ _ _, gw⟩
 ·have h0' : ¬ (ps.length : Int) = 0 := by omega
  have h1' : (200 : Int) < ps.length := by omega
  go_enter Tryz.func17, Tryz.ntmps17
  go_wp2_with fail
  go_ret2
  exact ⟨_, rfl, World.ownsRow_nil _ _ _ _, gw⟩
 ·have h0' : ¬ (ps.length : Int) = 0 := by omega
  have h1' : ¬ (200 : Int) < ps.length := by omega
  go_enter Tryz.func17, Tryz.ntmps17
  go_wp2_with fail
  refine (k1.out _ gw).mono ?_
  rintro e w' ⟨rfl, ⟨_, _⟩, rfl⟩
  dsimp only
  go_wp2_with fail
  go_ret2
  exact ⟨_, rfl, World.ownsRow_nil _ _ _ _, gw⟩
theorem sortQ_len (l : List Pt) : (sortQ l).length = l.length := by unfold sortQ; rw [List.length_mergeSort]
theorem sortQ_mem {l : List Pt} {x : Pt} : x ∈ sortQ l ↔ x ∈ l := by unfold sortQ; exact List.mem_mergeSort
theorem places_ok {ps : List Pt} (h : ps.all Pt.ok = true) : (placesOf ps).all Pt.ok = true := by
 rw [List.all_eq_true] at h ⊢
 exact fun x hx => h x (sortQ_mem.1 (compQ_mem hx))
theorem all_reverse {ps : List Pt} (h : ps.all Pt.ok = true) : ps.reverse.all Pt.ok = true := by
 rw [List.all_eq_true] at h ⊢
 exact fun x hx => h x (List.mem_reverse.1 hx)
theorem Hull_good (ps : List Pt) (A : Option Addr) (c : Nat) (w : World) (hr : Rd w w.heap.size 2 A (ps.map encD)) (h0 : ps.length ≠ 0) (h2 : ps.length ≤ 200) (hok : ps.all Pt.ok = true) :
  Calls Tryz.prog 17 #[.slice A ps.length c] w (PolyR w (if (hullC ps).length < 3 then ([], 4) else if 24 < (hullC ps).length then ([], 2) else (hullC ps, 0))) := by
 have hm := hmix
 have k1 := hide (fun W (hg : Grew w W) => hb_con ps A c false W (hr.up hg) (by omega) hok)
 have k2 := hide (fun W (hg : Grew w W) => CloneQ_any ps A c W (hr.up hg) (by omega) (by omega))
 have h0' : ¬ (ps.length : Int) = 0 := by omega
 obtain ⟨res, hres⟩ : ∃ r, (if (hullC ps).length < 3 then (([], 4) : List Pt × Int) else if 24 < (hullC ps).length then ([], 2) else (hullC ps, 0)) = r := ⟨_, rfl⟩
 rw [hres]
 have HRES := hide hres
 clear hres
 have h1' : ¬ (200 : Int) < ps.length := by omega
 have HOK := hide hok
 clear hr hok
 go_enter Tryz.func17, Tryz.ntmps17
 go_wp2_with fail
 refine (k1.out _ gw).mono ?_
 rintro e w' ⟨rfl, ⟨n1, os1⟩, rfl⟩
 dsimp only
 go_wp2_with fail
 refine (k2.out _ gw).mono ?_
 rintro e W1 ⟨g, cap, rfl, hown1, hg1⟩
 have hw1 : Grew w W1 := Grew.trans gw hg1
 obtain ⟨hgb, hgl⟩ := hown1.lt g rfl
 have hgb' : w.heap.size ≤ g := Nat.le_trans (Grew.below (w := w) gw).size hgb
 have hH1 := ownQ_holds hown1
 have hcap : ps.length ≤ cap := by obtain ⟨_, _, e, h⟩ := ow_slice hown1; injection e with _ _ e; omega
 have HH1 := hide hH1
 have HW1 := hide hw1
 clear hown1 hg1 hw1 hH1 hgb
 dsimp only
 go_wp2_with fail
 refine (sortQ_any g 0 cap ps W1 HH1.out hgl (by omega)).mono ?_
 rintro e W2 ⟨rfl, hg2, hH2⟩
 have hgl2 : g < W2.heap.size := Nat.lt_of_lt_of_le hgl hg2.size
 have hrow2 := RowQ.of hH2
 have hB2 : Below w.heap.size w W2 := HW1.out.below.grown hg2 HW1.out.below.size (fun j e => by cases e; exact hgb')
 have HR2 := hide hrow2
 have HB2 := hide hB2
 have hsl := sortQ_len ps
 have e2 : Value.slice (some ⟨g, 0, none⟩) ps.length cap = .slice (some ⟨g, 0, none⟩) (sortQ ps).length cap := by rw [hsl]
 have hcq : (sortQ ps).length ≤ cap := by omega
 have hsz : (sortQ ps).length ≤ 200 := by omega
 have hp0 : 0 < (placesOf ps).length := compQ_pos (by omega)
 have hpl : (placesOf ps).length ≤ 200 := Nat.le_trans (compQ_len _) hsz
 have hpc : (placesOf ps).length ≤ cap := by have := compQ_len (sortQ ps); unfold placesOf; omega
 have hpo := places_ok HOK.out
 clear hg2 hH2 hrow2 hB2
 dsimp only
 have kc := compactQ_any (sortQ ps) g 0 cap W2 HR2.out hgl2 hcq (by omega)
 rw [← e2] at kc
 have KC := hide kc
 clear e2 kc hsl
 go_wp2_with fail
 refine KC.out.mono ?_
 rintro e W3 ⟨rfl, hg3, hrd3⟩
 have hB3 : Below w.heap.size w W3 := HB2.out.grown hg3 HB2.out.size (fun j e => by cases e; exact hgb')
 have hw3 := Grew.of_below hB3
 change Rd W3 W3.heap.size 2 (some ⟨g, 0, none⟩) ((placesOf ps).map encD) at hrd3
 rw [show compQ (sortQ ps) = placesOf ps from rfl]
 have hcc : hullC ps = cutL (halfL (placesOf ps)) ++ cutL (halfL (placesOf ps).reverse) := rfl
 obtain ⟨pl, hpp⟩ : ∃ pl, placesOf ps = pl := ⟨_, rfl⟩
 rw [hpp] at hp0 hpl hpc hpo hrd3 hcc ⊢
 have HW3 := hide hw3
 have HR3 := hide hrd3
 have HPO := hide hpo
 have HCC := hide hcc
 clear hg3 hB3 hw3 hrd3 hpo hcc hpp k1 k2 HH1 HW1 HR2 HB2 hgl hgl2 hcq hsz KC h0' h1'
 dsimp only
 go_wp2_with fail
 refine (All_any _ _ _ _).mono ?_
 rintro e w' ⟨rfl, rfl⟩
 dsimp only
 go_wp2_with fail
 refine (half_all pl (some ⟨g, 0, none⟩) cap W3.heap.size _ (heap_alloc_new _ _) (HR3.out.below (Grew.alloc (Grew.refl _) _).below) (by omega) HPO.out).mono ?_
 rintro e W4 ⟨A1, c1, rfl, hc1, hrd4, hg4⟩
 have hw4 : Grew W3 W4 := Grew.trans gw hg4
 have hl1 := halfL_len pl []
 have hl1p : 0 < (halfL pl).length := halfL_pos hp0
 have hl2 := halfL_len pl.reverse []
 have hl2p : 0 < (halfL pl.reverse).length := halfL_pos (by rw [List.length_reverse]; exact hp0)
 rw [List.length_reverse] at hl2
 simp only [List.length_nil, Nat.zero_add] at hl1 hl2
 change (halfL pl).length ≤ pl.length at hl1
 change (halfL pl.reverse).length ≤ pl.length at hl2
 obtain ⟨lo, hlo⟩ : ∃ lo, halfL pl = lo := ⟨_, rfl⟩
 obtain ⟨up, hup⟩ : ∃ up, halfL pl.reverse = up := ⟨_, rfl⟩
 have kb := hide (fun W hB hr => half_back pl (some ⟨g, 0, none⟩) cap W4.heap.size W hB hr (by omega) HPO.out)
 have HCC2 := HCC
 rw [hlo, hup] at HCC2
 rw [hlo] at hc1 hrd4 hl1 hl1p ⊢
 rw [hup] at kb hl2 hl2p
 have HR4 := hide hrd4
 have HW4 := hide hw4
 clear hg4 hw4 hrd4 hlo hup HCC
 dsimp only
 go_wp2_with fail
 refine (Backward_any _ _ _ _).mono ?_
 rintro e w' ⟨rfl, rfl⟩
 dsimp only
 go_wp2_with fail
 refine (kb.out _ (heap_alloc_new _ _) (((HR3.out.grew HW4.out (Nat.le_refl _)).mono HW4.out.below.size).below (Grew.alloc (Grew.refl _) _).below)).mono ?_
 rintro e W5 ⟨A2, c2, rfl, hc2, hrd5, hg5⟩
 have hw5 : Grew W4 W5 := Grew.trans gw hg5
 have HR5 := hide hrd5
 have HW5 := hide hw5
 obtain ⟨m1, hm1⟩ : ∃ m, lo.length = m + 1 := ⟨lo.length - 1, by omega⟩
 obtain ⟨m2, hm2⟩ : ∃ m, up.length = m + 1 := ⟨up.length - 1, by omega⟩
 have hk1 : m1 ≤ c1 := by omega
 have hk2 : m2 ≤ c2 := by omega
 have hn1 : m1 ≤ 1000 := by omega
 have hn2 : m2 ≤ 1000 := by omega
 have ew1 : IntKind.i64.wrap (m1 : Int) = m1 := by unfold IntKind.wrap; simp [IntKind.bits, IntKind.signed]; omega
 have ew2 : IntKind.i64.wrap (m2 : Int) = m2 := by unfold IntKind.wrap; simp [IntKind.bits, IntKind.signed]; omega
 have hki1 : (m1 : Int) ≤ c1 := by omega
 have hki2 : (m2 : Int) ≤ c2 := by omega
 rw [hm1, hm2]
 have hcut : hullC ps = lo.take m1 ++ up.take m2 := by
  rw [HCC2.out]
  unfold cutL
  rw [hm1, hm2]
  rfl
 have hs1 : (lo.take m1).length = m1 := by rw [List.length_take]; omega
 have hs2 : (up.take m2).length = m2 := by rw [List.length_take]; omega
 have HCUT := hide hcut
 have HS1 := hide hs1
 have HS2 := hide hs2
 clear hg5 hw5 hrd5 kb hcut hs1 hs2 HCC2 hm1 hm2 hl1 hl1p hl2 hl2p hc1 hc2
 dsimp only
 go_wp2_with fail
 refine wp_region_qas 10 [] [] hm (h := ?_)
 repeat (refine wpSteady_step (fun K hK => ?_); go_simp; refine hK _ ?_; clear hK K)
 refine rq0 fun nq osq => ?_
 try simp only [Act.put, setA]
 try dsimp only
 go_wp2_with fail
 have hg6 : Grew W5 ((grow (dr W5 nq) osq).alloc (.cells #[.slice A1 m1 c1, .slice A2 m2 c2] 22)) := gw
 have hw6 : Grew w ((grow (dr W5 nq) osq).alloc (.cells #[.slice A1 m1 c1, .slice A2 m2 c2] 22)) := HW3.out.trans (HW4.out.trans (HW5.out.trans hg6))
 have hz6 : ((grow (dr W5 nq) osq).alloc (.cells #[.slice A1 m1 c1, .slice A2 m2 c2] 22)).heap.size = W5.heap.size + osq.size + 1 := by simp [hs_dr]
 obtain ⟨LL, hLL⟩ : ∃ LL : List PL, LL = [⟨A1, c1, lo.take m1⟩, ⟨A2, c2, up.take m2⟩] := ⟨_, rfl⟩
 have hkc := ConcatQ_any LL (some ⟨W5.heap.size + osq.size, 0, none⟩) 2 _ (by
   rw [hLL]
   refine .inr ⟨_, _, rfl, by rw [hz6]; omega, fun k x hx j v hv => ?_⟩
   match k, hx with
   | 0, hx =>
    injection hx with hx
    subst hx
    match j, hv with
    | 0, hv =>
     injection hv with hv
     rw [← hv, PL.val, HS1.out]
     exact (blk_cell (heap_alloc_at _ _ _ (by simp [hs_dr])) 0)
   | 1, hx =>
    injection hx with hx
    subst hx
    match j, hv with
    | 0, hv =>
     injection hv with hv
     rw [← hv, PL.val, HS2.out]
     exact (blk_cell (heap_alloc_at _ _ _ (by simp [hs_dr])) 1))
  (by
   rw [hLL]
   intro x hx
   rcases List.mem_cons.1 hx with rfl | hx
   ·rw [List.map_take]; exact (HR4.out.take _).up (HW5.out.trans hg6)
   ·rw [List.mem_singleton.1 hx, List.map_take]; exact (HR5.out.take _).up hg6)
  (by rw [hLL]; simp)
  (by
   rw [hLL]
   intro x hx
   rcases List.mem_cons.1 hx with rfl | hx
   ·rw [HS1.out]; omega
   ·rw [List.mem_singleton.1 hx, HS2.out]; omega)
 have hfl : LL.flatMap PL.ss = hullC ps := by rw [hLL, HCUT.out]; simp
 rw [hfl, show LL.length = 2 by rw [hLL]; rfl] at hkc
 have hcl : (hullC ps).length = m1 + m2 := by rw [HCUT.out, List.length_append, HS1.out, HS2.out]
 obtain ⟨hc, hhc⟩ : ∃ hc, hullC ps = hc := ⟨_, rfl⟩
 rw [hhc] at hkc hcl HRES
 refine hkc.mono ?_
 rintro e W7 ⟨v, rfl, hown, hg7⟩
 have hw7 := hw6.trans hg7
 obtain ⟨A9, c9, rfl, hc9⟩ := ow_slice hown
 have hown7 : W7.ownsRow w.heap.size 24 2 (.slice A9 hc.length c9) hc.length (hc.flatMap encD) := by
  refine ⟨hown.1, hown.2.imp id fun ⟨g, cap, cur, h1, h2, h3⟩ => ⟨g, cap, cur, h1, Nat.le_trans hw6.below.size h2, h3⟩⟩
 have HO := hide hown7
 have HW7 := hide hw7
 clear hcl hkc hown hown7 hg7 hw7 hg6 hw6 hz6 hLL hfl hhc HCUT
 dsimp only
 by_cases h3 : hc.length < 3
 ·rw [if_pos h3] at HRES
  obtain rfl := HRES.out
  have h3' : (hc.length : Int) < 3 := by omega
  clear HRES
  go_wp2_with fail
  go_ret2
  exact ⟨_, rfl, World.ownsRow_nil _ _ _ _, HW7.out⟩
 ·rw [if_neg h3] at HRES
  have h3' : ¬ (hc.length : Int) < 3 := by omega
  by_cases h4 : 24 < hc.length
  ·rw [if_pos h4] at HRES
   obtain rfl := HRES.out
   have h4' : (24 : Int) < hc.length := by omega
   clear HRES
   go_wp2_with fail
   go_ret2
   exact ⟨_, rfl, World.ownsRow_nil _ _ _ _, HW7.out⟩
  ·rw [if_neg h4] at HRES
   obtain rfl := HRES.out
   have h4' : ¬ (24 : Int) < hc.length := by omega
   clear HRES
   go_wp2_with fail
   go_ret2
   exact ⟨_, rfl, HO.out, HW7.out⟩
theorem Hull_any (ps : List Pt) (A : Option Addr) (c : Nat) (w : World) (hr : Rd w w.heap.size 2 A (ps.map encD)) (hc : ps.length ≤ 100000000000000) :
  Calls Tryz.prog 17 #[.slice A ps.length c] w (PolyR w (hullOf ps)) := by
 unfold hullOf
 by_cases h : ps.length ≠ 0 ∧ ps.length ≤ 200 ∧ ps.all Pt.ok = true
 ·rw [if_pos h]
  exact Hull_good ps A c w hr h.1 h.2.1 h.2.2
 ·rw [if_neg h]
  exact Hull_bad ps A c w hr hc h
end Go.Proofs.YtndkfpmklmcjjaaGreat
