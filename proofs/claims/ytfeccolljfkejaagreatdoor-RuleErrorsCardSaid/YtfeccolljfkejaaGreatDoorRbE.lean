/- The law RuleErrors, walked. -/
import Derived.Test.YtfeccolljfkejaaGreatDoorRpQ
import Derived.Test.YtfeccolljfkejaaGreatDoorRbL
set_option linter.unusedSimpArgs false
set_option linter.unusedVariables false
set_option maxHeartbeats 8000000
set_option maxRecDepth 100000
namespace Go.Proofs.YtfeccolljfkejaaGreatDoor
open Go.RowKit Go.Sort
attribute [local go_sem] Steady steadyUpon
attribute [local go_sem ↓] hs_dr lt_add_r lt_add_r2 lt_add_r3 lt_add_r4 lt_add_r5 lt_add_r6
attribute [local go_sem] cell?_gd frozen?_gd setCell_gd size_grow tape_grow cell?_grow' frozen?_grow' setCell_grow' grow_grow grow_dr grow_drew dr_dr dr_drew drew_dr dr_alloc dr_setCell dr_cell dr_frozen dr_tape dr_drawn
attribute [local irreducible] wpSteady
theorem lm_succ (s : ByteArray) (k : Nat) : lm s (k + 1) = if bAt s k = 59 then k + 1 else lm s k := rfl
theorem str_to {P : Program} {t : TypeId} (ht : P.underlying t = some .string) (s : ByteArray) (j : Nat) (hj : j ≤ s.size) : ∀ w, (Instr.slice t (.string s) none (some (.int .i64 (j : Int))) none).run P w = .ok (.string (s.extract 0 j)) w := fun w => by
 have hj' : 0 ≤ (j : Int) ∧ (j : Int) ≤ (s.size : Int) := ⟨by omega, by omega⟩
 simp [Instr.slice, Instr.sliceBounds, Instr.sliceBound, asIntOf, run_underlying ht, hj']
 intro hc
 omega
theorem ruleErrors_row (s t : ByteArray) (w : World) (hs : s.size ≤ maxLen) (ht : t.size ≤ maxLen) (hl : KwAt w w.heap.size ∧ TabP w) :
  Calls Tryz.prog 5 #[.string s, .string t] w (Ret w (.bool true)) := by
 have hm := hmix
 have HL := hide hl
 have HH := hide (head_g hl.1 (Nat.le_refl _) hl.2)
 obtain ⟨⟨l, pa, pe⟩, hps⟩ : ∃ x, parseOf s = x := ⟨_, rfl⟩
 obtain ⟨⟨x, qa, qe⟩, hpt⟩ : ∃ x, parseOf t = x := ⟨_, rfl⟩
 have ks := hide (fun W (hg : Grew w W) => parse_g hl s hps W hg)
 have kt := hide (fun W (hg : Grew w W) => parse_g hl t hpt W hg)
 have hat0 : pe = 0 → pa = 0 := by have := @parse_at0 s; rw [hps] at this; exact this
 have herr := @errs s
 rw [hps] at herr
 have htk := @parse_ok t
 have hta := @parse_at0 t
 rw [hpt] at htk hta
 have hxl : x.length ≤ 40 := by have := parse_le (s := t); rw [hpt] at this; exact this
 have HAT := hide hat0
 have HERR := hide herr
 have HTA := hide hta
 have HPT := hide hpt
 clear hl hps hpt hat0 herr htk hta hs ht
 go_enter Tryz.func5, Tryz.ntmps5
 go_wp2_with (go_at_call 12; with_reducible refine crv (HH.out _ gw) fun _ _ => ?_; dsimp only)
 refine (ks.out _ gw).mono ?_
 rintro e W1 ⟨A1, c1, rfl, _, hg⟩
 have HG1 := hide (Grew.trans gw hg : Grew w W1)
 clear hg ks HH
 dsimp only
 go_wp2_with fail
 refine (kt.out _ (HG1.out.trans gw)).mono ?_
 rintro e W2 ⟨A2, c2, rfl, _, hg⟩
 have HG2 := hide (HG1.out.trans (Grew.trans gw hg) : Grew w W2)
 clear hg kt HG1
 by_cases hpe : pe = 0
 ·have hpa := HAT.out hpe
  subst hpe hpa
  dsimp only
  go_wp2_with fail
  go_ret
  exact Ret.mk' rfl (HG2.out.trans gw)
 have hpe1 : (pe != 0) = true := by simpa using hpe
 have hpe2 : (pe == 0) = false := by simpa using hpe
 by_cases hs1 : 1000 < s.size
 ·have hs1' : (1000 : Int) < (s.size : Int) := by omega
  dsimp only
  go_wp2_with fail
  go_ret
  exact Ret.mk' rfl (HG2.out.trans gw)
 have hs1' : ¬ (1000 : Int) < (s.size : Int) := by omega
 by_cases ht1 : 1000 < t.size
 ·have ht1' : (1000 : Int) < (t.size : Int) := by omega
  dsimp only
  go_wp2_with fail
  go_ret
  exact Ret.mk' rfl (HG2.out.trans gw)
 have ht1' : ¬ (1000 : Int) < (t.size : Int) := by omega
 obtain ⟨p, hpp, hps2, htr, hfin⟩ := HERR.out (by omega) hpe
 try dsimp only at hpp
 subst hpp
 have HFIN := hide hfin
 have HTR := hide htr
 have hp0 : ¬ (p : Int) < 0 := by omega
 have hp1 : ¬ (s.size : Int) < (p : Int) := by omega
 clear htr hfin HERR HAT
 dsimp only
 go_wp2_with fail
 go_loopw [12, 63] (fun la i wr => ∃ k : Nat, k ≤ p ∧ i = .int .i64 k ∧ la = .int .i64 (lm s k) ∧ Grew W2 wr) (fun _ i _ => p - (intOf i).toNat)
 case atStart => exact ⟨0, by omega, rfl, rfl, gw⟩
 case round =>
  obtain ⟨k, hk, rfl, rfl, hg⟩ := hrel
  have HG := hide hg
  clear hg
  by_cases hlt : k < p
  ·have hix := str_idx Tryz.underlying9 s k (by omega)
   have hsu := lm_succ s k
   by_cases h59 : bAt s k = 59
   ·rw [if_pos h59] at hsu
    have HSU := hide hsu
    rw [h59] at hix
    clear hsu h59
    go_wp2_with fail
    go_roundw
    case rel => exact ⟨k + 1, by omega, by go_num, by rw [HSU.out]; go_num, HG.out.trans gw⟩
    case measure => simp [intOf]; omega
   ·rw [if_neg h59] at hsu
    have HSU := hide hsu
    have h59b : (bAt s k == 59) = false := by simpa using h59
    clear hsu
    go_wp2_with fail
    go_roundw
    case rel => exact ⟨k + 1, by omega, by go_num, by rw [HSU.out], HG.out.trans gw⟩
    case measure => simp [intOf]; omega
  ·obtain rfl : k = p := by omega
   have hlm := lm_le s k
   obtain ⟨q, hq⟩ : ∃ q, lm s k = q := ⟨_, rfl⟩
   have HFIN2 := HFIN
   have HTR2 := HTR
   rw [hq] at hlm HFIN2 HTR2 ⊢
   have hsl := str_to Tryz.underlying9 s q (by omega)
   obtain ⟨⟨y, ya, ye⟩, hpy⟩ : ∃ z, parseOf (s.extract 0 q) = z := ⟨_, rfl⟩
   rw [hpy] at HFIN2 HTR2
   have hye : ye = 0 := HTR2.out
   subst hye
   have hyl : y.length ≤ 40 := by have := parse_le (s := s.extract 0 q); rw [hpy] at this; exact this
   have ky := hide (fun W (hg : Grew w W) => parse_g HL.out (s.extract 0 q) hpy W hg)
   clear hq hpy HFIN HTR HTR2
   go_wp2_with fail
   refine (ky.out _ (HG2.out.trans (HG.out.trans gw))).mono ?_
   rintro e W3 ⟨A3, c3, rfl, _, hg⟩
   have HG3 := hide (HG2.out.trans (HG.out.trans (Grew.trans gw hg)) : Grew w W3)
   clear hg ky HG HG2 hsl
   by_cases hqe : qe = 0
   ·have hqa := HTA.out hqe
    subst hqe
    try dsimp only at hqa
    subst hqa
    by_cases h40 : x.length + y.length < 40
    ·have h40' : ¬ (40 : Int) ≤ (x.length : Int) + (y.length : Int) := by omega
     have hu := HFIN2.out t x (by omega) HPT.out h40 (t ++ ⟨#[10]⟩ ++ s) (by simp)
     try dsimp only at hu
     rw [show ((k + t.size + 1 : Nat) : Int) = (k : Int) + (t.size : Int) + 1 by omega] at hu
     have ku := hide (fun W (hg : Grew w W) => parse_g HL.out _ hu W hg)
     have z1 : ¬ 9223372036854775807 < t.size + 1 := by omega
     have z3 : ¬ 9223372036854775807 < t.size + (⟨#[10]⟩ : ByteArray).size := by rw [show (⟨#[10]⟩ : ByteArray).size = 1 from rfl]; omega
     have z2 : ¬ 9223372036854775807 < t.size + 1 + s.size := by omega
     have z4 : ¬ 9223372036854775807 < (t ++ ⟨#[10]⟩).size + s.size := by rw [ByteArray.size_append, show (⟨#[10]⟩ : ByteArray).size = 1 from rfl]; omega
     have z5 : ¬ 9223372036854775807 < t.size + (⟨#[10]⟩ : ByteArray).size + s.size := by rw [show (⟨#[10]⟩ : ByteArray).size = 1 from rfl]; omega
     have z6 : t.size + 1 ≤ 9223372036854775807 := by omega
     have z7 : t.size + 1 + s.size ≤ 9223372036854775807 := by omega
     clear hu
     dsimp only
     go_wp2_with fail
     refine (ku.out _ (HG3.out.trans gw)).mono ?_
     rintro e W4 ⟨A4, c4, rfl, _, hg⟩
     have HG4 := hide (HG3.out.trans (Grew.trans gw hg) : Grew w W4)
     clear hg ku HG3 z1 z2 z3 z4 z5 z6 z7
     dsimp only
     go_wp2_with fail
     go_ret
     exact Ret.mk' rfl (HG4.out.trans gw)
    ·have h40' : (40 : Int) ≤ (x.length : Int) + (y.length : Int) := by omega
     dsimp only
     go_wp2_with fail
     go_ret
     exact Ret.mk' rfl (HG3.out.trans gw)
   ·have hqe1 : (qe != 0) = true := by simpa using hqe
    have hqe2 : (qe == 0) = false := by simpa using hqe
    dsimp only
    go_wp2_with fail
    go_ret
    exact Ret.mk' rfl (HG3.out.trans gw)
end Go.Proofs.YtfeccolljfkejaaGreatDoor
