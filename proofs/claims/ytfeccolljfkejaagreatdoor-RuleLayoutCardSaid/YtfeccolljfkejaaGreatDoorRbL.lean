/- The law RuleBack, walked. -/
import Derived.Test.YtfeccolljfkejaaGreatDoorRpP
set_option linter.unusedSimpArgs false
set_option linter.unusedVariables false
set_option maxHeartbeats 8000000
set_option maxRecDepth 100000
namespace Go.Proofs.YtfeccolljfkejaaGreatDoor
open Go.RowKit Go.Sort
attribute [local go_sem] Steady steadyUpon
attribute [local go_sem ↓] hs_dr lt_add_r lt_add_r2 lt_add_r3 lt_add_r4 lt_add_r5 lt_add_r6
attribute [local go_sem] cell?_gd frozen?_gd setCell_gd size_grow tape_grow cell?_grow' frozen?_grow' setCell_grow' grow_grow grow_dr grow_drew dr_dr dr_drew drew_dr dr_alloc dr_setCell dr_cell dr_frozen dr_tape dr_drawn
attribute [local irreducible] wpSteady
/-- What the row lists stays while the world grows. -/
theorem laid_g {w : World} (hl : KwAt w w.heap.size ∧ TabP w) : ∀ W, Grew w W → KwAt W w.heap.size ∧ w.heap.size ≤ W.heap.size ∧ TabP W :=
 fun W hg => ⟨hl.1.keep (old_cell_lt hg (Nat.le_refl _)), hg.below.size, hl.2.up hg⟩
theorem parse_g {w : World} (hl : KwAt w w.heap.size ∧ TabP w) (s : ByteArray) {l : List Ru} {a e : Int} (h : parseOf s = (l, a, e)) (X : World) (hg : Grew w X) : Calls Tryz.prog 14 #[.string s] X fun en w' => ∃ A c, en = .returned (.tuple #[.slice A l.length c, .int .i64 a, .int .i64 e]) ∧ Rd w' w'.heap.size 3 A (l.map encR) ∧ Grew X w' := by
 have k := parse_v s w.heap.size X (laid_g hl X hg).1 (laid_g hl X hg).2.1
 unfold ParR at k
 rw [h] at k
 exact k
theorem print_g {w : World} (hl : KwAt w w.heap.size ∧ TabP w) (rs : List Ru) (A : Option Addr) (c : Nat) {t : ByteArray} {e : Int} (h : printOf rs = (t, e)) (X : World) (hg : Grew w X) (hr : Rd X X.heap.size 3 A (rs.map encR)) (hc : rs.length ≤ 100000000000000) : Calls Tryz.prog 13 #[.slice A rs.length c] X (Ret X (.tuple #[.string t, .int .i64 e])) := by
 have k := print_v rs A c w.heap.size X hr hc (laid_g hl X hg).1 (laid_g hl X hg).2.1 (laid_g hl X hg).2.2
 rw [h] at k
 exact k
theorem ruleBack_row (rs : List Ru) (Ar : Option Addr) (cr : Nat) (s : ByteArray) (w : World) (hrr : Rd w w.heap.size 3 Ar (rs.map encR)) (hcr : rs.length ≤ 100000000000000) (_hs : s.size ≤ maxLen) (hl : KwAt w w.heap.size ∧ TabP w) :
  Calls Tryz.prog 3 #[.slice Ar rs.length cr, .string s] w (Ret w (.bool true)) := by
 have hm := hmix
 have HL := hide hl
 have HH := hide (head_g hl.1 (Nat.le_refl _) hl.2)
 have HRR := hide hrr
 obtain ⟨u, hu⟩ : ∃ u, rsOk rs = u := ⟨_, rfl⟩
 obtain ⟨⟨l, pa, pe⟩, hps⟩ : ∃ x, parseOf s = x := ⟨_, rfl⟩
 have HPS := hide hps
 have hlen : l.length ≤ 40 := by have := parse_le (s := s); rw [hps] at this; exact this
 have hnone : pe ≠ 0 → l = [] := by have := parse_none (s := s); rw [hps] at this; exact this
 have hokl : pe = 0 → rsOk l = true := by have := parse_ok (s := s); rw [hps] at this; exact this
 have HNO := hide hnone
 have HOK := hide hokl
 have HU := hide hu
 clear hl hrr hps hnone hokl hu
 have hsz : (1000 < s.size) ∨ ¬ (1000 < s.size) := Decidable.em _
 have HSZ := hide hsz
 clear hsz
 go_enter Tryz.func3, Tryz.ntmps3
 go_wp2_with (go_at_call 12; with_reducible refine crv (HH.out _ gw) fun _ _ => ?_; dsimp only)
 refine calls_name ?_
 intro X hX
 have HX : Hid (Grew w X) := hide (by rw [← hX]; exact gw)
 clear hX
 cases u
 ·have hpr : printOf rs = (⟨#[]⟩, 1) := by unfold printOf; rw [HU.out]; rfl
  refine (print_g HL.out rs Ar cr hpr X HX.out (HRR.out.up HX.out) hcr).mono ?_
  rintro e W1 ⟨rfl, hg⟩
  have HG := hide (HX.out.trans hg)
  clear hg HX hpr
  dsimp only
  rcases HSZ.out with h1000 | h1000
  ·have h1000' : (1000 : Int) < (s.size : Int) := by omega
   go_wp2_with fail
   go_ret
   exact Ret.mk' rfl (HG.out.trans gw)
  ·have h1000' : ¬ (1000 : Int) < (s.size : Int) := by omega
   go_wp2_with fail
   refine calls_name ?_
   intro X hX
   have HX : Hid (Grew W1 X) := hide (by rw [← hX]; exact gw)
   clear hX
   refine (parse_g HL.out _ HPS.out X (HG.out.trans HX.out)).mono ?_
   rintro e W4 ⟨A4, c4, rfl, hrd, hg⟩
   have HG4 := hide (HG.out.trans (HX.out.trans hg))
   have HR4 := hide hrd
   clear hg HX HG hrd
   by_cases hpe : pe = 0
   ·have hokl := HOK.out hpe
    have HLK := hide hokl
    have hpr : printOf l = ((printOf l).1, 0) := by unfold printOf; rw [hokl]; rfl
    have HPR := hide hpr
    subst hpe
    clear hokl hpr
    dsimp only
    go_wp2_with fail
    refine calls_name ?_
    intro X hX
    have HX : Hid (Grew W4 X) := hide (by rw [← hX]; exact gw)
    clear hX
    refine (print_g HL.out l A4 c4 HPR.out X (HG4.out.trans HX.out) (HR4.out.up HX.out) (by omega)).mono ?_
    rintro e W5 ⟨rfl, hg⟩
    have HG5 := hide (HG4.out.trans (HX.out.trans hg))
    have HR5 := hide (HR4.out.up (HX.out.trans hg))
    clear hg HX HG4 HR4
    dsimp only
    go_wp2_with fail
    refine calls_name ?_
    intro X hX
    have HX : Hid (Grew W5 X) := hide (by rw [← hX]; exact gw)
    clear hX
    refine (parse_g HL.out _ (parse_print HLK.out) X (HG5.out.trans HX.out)).mono ?_
    rintro e W6 ⟨A6, c6, rfl, hrd, hg⟩
    have HG6 := hide (HG5.out.trans (HX.out.trans hg))
    have HR6 := hide (HR5.out.up (HX.out.trans hg))
    have HS6 := hide hrd
    clear hg HX HG5 HR5 hrd
    dsimp only
    go_wp2_with fail
    refine calls_name ?_
    intro X hX
    have HX : Hid (Grew W6 X) := hide (by rw [← hX]; exact gw)
    clear hX
    refine (ruSame_t l _ _ _ _ X (HR6.out.up HX.out) (HS6.out.up HX.out) (by omega)).mono ?_
    rintro e W7 ⟨rfl, hg⟩
    have HG7 := hide (HG6.out.trans (HX.out.trans hg))
    clear hg HX HG6 HR6 HS6
    dsimp only
    go_wp2_with fail
    go_ret
    exact Ret.mk' rfl (HG7.out.trans gw)
   ·obtain rfl := HNO.out hpe
    have hpe1 : (pe != 0) = true := by simpa using hpe
    have hpe2 : (pe == 0) = false := by simpa using hpe
    dsimp only
    go_wp2_with fail
    go_ret
    exact Ret.mk' rfl (HG4.out.trans gw)
 ·have hpr : printOf rs = ((printOf rs).1, 0) := by unfold printOf; rw [HU.out]; rfl
  refine (print_g HL.out rs Ar cr hpr X HX.out (HRR.out.up HX.out) hcr).mono ?_
  rintro e W1 ⟨rfl, hg⟩
  have HG1 := hide (HX.out.trans hg)
  clear hg HX hpr
  dsimp only
  go_wp2_with fail
  refine calls_name ?_
  intro X hX
  have HX : Hid (Grew W1 X) := hide (by rw [← hX]; exact gw)
  clear hX
  refine (parse_g HL.out _ (parse_print HU.out) X (HG1.out.trans HX.out)).mono ?_
  rintro e W2 ⟨A2, c2, rfl, hrd, hg⟩
  have HG2 := hide (HG1.out.trans (HX.out.trans hg))
  have HR2 := hide hrd
  clear hg HX HG1 hrd
  dsimp only
  go_wp2_with fail
  refine calls_name ?_
  intro X hX
  have HX : Hid (Grew W2 X) := hide (by rw [← hX]; exact gw)
  clear hX
  refine (ruSame_t rs _ _ _ _ X (HR2.out.up HX.out) (HRR.out.up (HG2.out.trans HX.out)) hcr).mono ?_
  rintro e W3 ⟨rfl, hg⟩
  have HG := hide (HG2.out.trans (HX.out.trans hg))
  clear hg HX HG2 HR2
  dsimp only
  rcases HSZ.out with h1000 | h1000
  ·have h1000' : (1000 : Int) < (s.size : Int) := by omega
   go_wp2_with fail
   go_ret
   exact Ret.mk' rfl (HG.out.trans gw)
  ·have h1000' : ¬ (1000 : Int) < (s.size : Int) := by omega
   go_wp2_with fail
   refine calls_name ?_
   intro X hX
   have HX : Hid (Grew W3 X) := hide (by rw [← hX]; exact gw)
   clear hX
   refine (parse_g HL.out _ HPS.out X (HG.out.trans HX.out)).mono ?_
   rintro e W4 ⟨A4, c4, rfl, hrd, hg⟩
   have HG4 := hide (HG.out.trans (HX.out.trans hg))
   have HR4 := hide hrd
   clear hg HX HG hrd
   by_cases hpe : pe = 0
   ·have hokl := HOK.out hpe
    have HLK := hide hokl
    have hpr : printOf l = ((printOf l).1, 0) := by unfold printOf; rw [hokl]; rfl
    have HPR := hide hpr
    subst hpe
    clear hokl hpr
    dsimp only
    go_wp2_with fail
    refine calls_name ?_
    intro X hX
    have HX : Hid (Grew W4 X) := hide (by rw [← hX]; exact gw)
    clear hX
    refine (print_g HL.out l A4 c4 HPR.out X (HG4.out.trans HX.out) (HR4.out.up HX.out) (by omega)).mono ?_
    rintro e W5 ⟨rfl, hg⟩
    have HG5 := hide (HG4.out.trans (HX.out.trans hg))
    have HR5 := hide (HR4.out.up (HX.out.trans hg))
    clear hg HX HG4 HR4
    dsimp only
    go_wp2_with fail
    refine calls_name ?_
    intro X hX
    have HX : Hid (Grew W5 X) := hide (by rw [← hX]; exact gw)
    clear hX
    refine (parse_g HL.out _ (parse_print HLK.out) X (HG5.out.trans HX.out)).mono ?_
    rintro e W6 ⟨A6, c6, rfl, hrd, hg⟩
    have HG6 := hide (HG5.out.trans (HX.out.trans hg))
    have HR6 := hide (HR5.out.up (HX.out.trans hg))
    have HS6 := hide hrd
    clear hg HX HG5 HR5 hrd
    dsimp only
    go_wp2_with fail
    refine calls_name ?_
    intro X hX
    have HX : Hid (Grew W6 X) := hide (by rw [← hX]; exact gw)
    clear hX
    refine (ruSame_t l _ _ _ _ X (HR6.out.up HX.out) (HS6.out.up HX.out) (by omega)).mono ?_
    rintro e W7 ⟨rfl, hg⟩
    have HG7 := hide (HG6.out.trans (HX.out.trans hg))
    clear hg HX HG6 HR6 HS6
    dsimp only
    go_wp2_with fail
    go_ret
    exact Ret.mk' rfl (HG7.out.trans gw)
   ·obtain rfl := HNO.out hpe
    have hpe1 : (pe != 0) = true := by simpa using hpe
    have hpe2 : (pe == 0) = false := by simpa using hpe
    dsimp only
    go_wp2_with fail
    go_ret
    exact Ret.mk' rfl (HG4.out.trans gw)
end Go.Proofs.YtfeccolljfkejaaGreatDoor
