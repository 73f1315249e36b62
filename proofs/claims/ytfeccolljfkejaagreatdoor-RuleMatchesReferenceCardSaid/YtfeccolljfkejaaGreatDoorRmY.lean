import Derived.Test.YtfeccolljfkejaaGreatDoorRpI
import Derived.Test.YtfeccolljfkejaaGreatDoorRmD
import Derived.Test.YtfeccolljfkejaaGreatDoorRpG
import Derived.Test.YtfeccolljfkejaaGreatDoorRmX
import Derived.Test.YtfeccolljfkejaaGreatDoorRegE
/- Rules printed and read again, in plain words. -/
set_option linter.unusedSimpArgs false
set_option linter.unusedVariables false
namespace Go.Proofs.YtfeccolljfkejaaGreatDoor
open Go.RowKit Go.Sort
theorem u8 {k : Nat} (h : k < 256) : (UInt8.ofNat k).toNat = k := by
 rw [UInt8.toNat_ofNat']
 exact Nat.mod_eq_of_lt h
theorem word_err {ls : List ByteArray} {s : ByteArray} {i p : Nat} {e : Int} (h : wordAt ls s i = .error (p, e)) : e ≠ 0 := by
 unfold wordAt at h
 split at h
 ·injection h with h; injection h with _ h; omega
 ·split at h
  ·injection h with h; injection h with _ h; omega
  ·cases h
theorem tail_err {s : ByteArray} {i p : Nat} {e : Int} (h : tailAt s i = .error (p, e)) : e ≠ 0 := by
 unfold tailAt at h
 split at h
 ·cases h
 ·injection h with h; injection h with _ h; omega
theorem rest_err {q k : Nat} {s : ByteArray} {i p : Nat} {e : Int} (h : restAt q k s i = .error (p, e)) : e ≠ 0 := by
 unfold restAt at h
 split at h
 ·split at h
  ·rename_i h1
   injection h with h
   subst h
   exact tail_err h1
  ·cases h
 ·split at h
  ·rename_i h1
   injection h with h
   subst h
   unfold numAt at h1
   split at h1
   ·split at h1
    ·cases h1
    ·injection h1 with h1; injection h1 with _ h1; omega
   ·injection h1 with h1; injection h1 with _ h1; omega
  ·split at h
   ·rename_i h1
    injection h with h
    subst h
    exact tail_err h1
   ·cases h
theorem rule_err {s : ByteArray} {i p : Nat} {e : Int} (h : ruleAt s i = .error (p, e)) : e ≠ 0 := by
 unfold ruleAt at h
 split at h
 ·rename_i h1
  injection h with h
  subst h
  exact word_err h1
 ·split at h
  ·exact rest_err h
  ·split at h
   ·rename_i h2
    injection h with h
    subst h
    unfold kindAt at h2
    split at h2
    ·rename_i h3
     injection h2 with h2
     subst h2
     exact word_err h3
    ·split at h2
     ·cases h2
     ·injection h2 with h2; injection h2 with _ h2; omega
   ·exact rest_err h
theorem parse_le {s : ByteArray} : (parseOf s).1.length ≤ 40 := by
 unfold parseOf
 split
 ·simp
 ·exact parse_len _ _ _ _ (by simp)
end Go.Proofs.YtfeccolljfkejaaGreatDoor

/- The reference implementation of package rule: Parse. -/
set_option linter.unusedSimpArgs false
set_option linter.unusedVariables false
set_option maxHeartbeats 8000000
set_option maxRecDepth 100000
namespace Go.Proofs.YtfeccolljfkejaaGreatDoor
open Go.RowKit Go.Sort
attribute [local go_sem] Steady steadyUpon
attribute [local go_sem ↓] hs_dr lt_add_r lt_add_r2 lt_add_r3 lt_add_r4 lt_add_r5 lt_add_r6
attribute [local go_sem] cell?_gd frozen?_gd setCell_gd size_grow tape_grow cell?_grow' frozen?_grow' setCell_grow' grow_grow grow_dr grow_drew dr_dr dr_drew drew_dr dr_alloc dr_setCell dr_cell dr_frozen dr_tape dr_drawn
attribute [local irreducible] wpSteady
def ParQ (l : List Ru) (a e : Int) (w : World) (en : Ending) (w' : World) : Prop := ∃ A c, en = .returned (.tuple #[.slice A l.length c, .int .i64 a, .int .i64 e]) ∧ Rd w' w'.heap.size 3 A (l.map encR) ∧ Grew w w'
theorem own_grown {w W W' : World} {e : TypeId} {size n : Nat} {v : Value} {xs : List Value} (g : Grew w W) (h : W.ownsRow w.heap.size e size v n xs) (hg : W.grownBy W' v.ownBlock) : Grew w W' :=
 Grew.of_below (g.below.grown hg g.below.size fun q hq => (h.lt q hq).1)
theorem rParse_v (s : ByteArray) (l : List Ru) (pa pe : Int) (w : World) (h : parseOf s = (l, pa, pe)) :
  Calls Tryz.prog 22 #[.string s] w (ParQ l pa pe w) := by
 have hm := hmix
 by_cases h8 : 8000 < s.size
 ·have h8' : (8000 : Int) < (s.size : Int) := by omega
  unfold parseOf at h
  rw [if_pos h8] at h
  obtain ⟨rfl, rfl, rfl⟩ : l = [] ∧ pa = 0 ∧ pe = 2 := by
   injection h with h1 h2
   injection h2 with h2 h3
   exact ⟨h1.symm, h2.symm, h3.symm⟩
  clear h h8
  go_enter Tryz.func22, Tryz.ntmps22
  go_wp2_with fail
  go_ret3
  exact ⟨none, 0, rfl, Rd.nil _ _ _ _, gw⟩
 have h8' : ¬ (8000 : Int) < (s.size : Int) := by omega
 have hs : s.size ≤ 100000000000000 := by omega
 have h0 : parseGo (s.size + 1) s 0 [] = (l, pa, pe) := by unfold parseOf at h; rw [if_neg h8] at h; exact h
 have H0 := hide h0
 obtain ⟨a0, ha0⟩ : ∃ a, endOf isBl s 0 = a := ⟨_, rfl⟩
 have HA0 := hide ha0
 have k0 := hide (fun W => rskip_v s 0 a0 W (Nat.zero_le _) hs ha0)
 obtain ⟨i0, hi0, hz0, hz1, hz2⟩ := ruInfo_parts
 clear h h0 h8 ha0
 go_enter Tryz.func22, Tryz.ntmps22
 go_wp2_with (go_at_call 48; with_reducible refine crv (k0.out _) fun _ _ => ?_; dsimp only)
 go_loopw [5, 6] (fun v k wr => ∃ (f i a : Nat) (out : List Ru), i ≤ s.size ∧ s.size - i < f ∧ out.length ≤ 40 ∧ k = .int .i64 (a : Int) ∧ AppG (endOf isBl s i = a ∧ parseGo f s i out = (l, pa, pe)) ∧ Grew w wr ∧ wr.ownsRow w.heap.size 36 3 v out.length (out.flatMap encR)) (fun _ k _ => s.size - (intOf k).toNat)
 case atStart => exact ⟨s.size + 1, 0, a0, [], Nat.zero_le _, by omega, by simp, rfl, show _ ∧ _ from ⟨HA0.out, H0.out⟩, gw, World.ownsRow_nil _ _ _ _⟩
 case round =>
  obtain ⟨f, i, a, out, hi, hf, ho, rfl, hrel, hg, hown⟩ := hrel
  obtain ⟨ha, hpar⟩ := hrel.stop
  have HA := hide ha
  have HG := hide hg
  have hia : i ≤ a := by rw [← ha]; exact endOf_ge _ _ _
  have has : a ≤ s.size := by rw [← ha]; exact endOf_le hi
  have haa : endOf isBl s a = a := by rw [← ha]; exact end_idem _ _
  obtain ⟨Av, cv, rfl, _⟩ := fown_slice hown
  have HO := hide hown
  obtain ⟨f, rfl⟩ : ∃ g, f = g + 1 := ⟨f - 1, by omega⟩
  unfold parseGo at hpar
  rw [ha] at hpar
  clear hrel ha hg hown
  by_cases hlt : a < s.size
  ·rw [if_pos hlt] at hpar
   by_cases h40 : out.length = 40
   ·rw [if_pos h40] at hpar
    obtain ⟨rfl, rfl, rfl⟩ : l = [] ∧ pa = (a : Int) ∧ pe = overAt s a := by
     injection hpar with h1 h2
     injection h2 with h2 h3
     exact ⟨h1.symm, h2.symm, h3.symm⟩
    have h40' : ((out.length : Int) == 40) = true := by simp; omega
    have h40b : (out.length : Int) = 40 := by omega
    have kf := hide (fun W => rover_v s a _ W hlt hs rfl)
    generalize overAt s a = ov at *
    clear hpar
    go_wp2_with (go_at_call 49; with_reducible refine crv (kf.out _) fun _ _ => ?_; dsimp only)
    go_ret3
    exact ⟨none, 0, rfl, Rd.nil _ _ _ _, HG.out.trans gw⟩
   ·rw [if_neg h40] at hpar
    have h40' : ¬ (out.length : Int) = 40 := by omega
    have h40b : ((out.length : Int) == 40) = false := by simpa using h40'
    have kr := hide (fun W => rrule_v s a W has hs haa)
    obtain ⟨rr, hrr⟩ : ∃ rr, ruleAt s a = rr := ⟨_, rfl⟩
    have HRR := hide hrr
    rw [hrr] at hpar
    unfold RulR at kr
    rw [hrr] at kr
    clear hrr
    cases rr with
    | error pe0 =>
     obtain ⟨p, e⟩ := pe0
     obtain ⟨rfl, rfl, rfl⟩ : l = [] ∧ pa = (p : Int) ∧ pe = e := by
      injection hpar with h1 h2
      injection h2 with h2 h3
      exact ⟨h1.symm, h2.symm, h3.symm⟩
     have hne : pe ≠ 0 := rule_err HRR.out
     have hne2 : (pe != 0) = true := by simpa using hne
     clear hpar
     dsimp only at kr
     go_wp2_with fail
     refine (kr.out _).mono ?_
     rintro en W1 ⟨q, k, n, rfl, hg⟩
     have HG1 := hide (HG.out.trans (Grew.trans gw hg))
     clear hg
     dsimp only
     go_wp2_with fail
     go_ret3
     exact ⟨none, 0, rfl, Rd.nil _ _ _ _, HG1.out.trans gw⟩
    | ok rb =>
     obtain ⟨⟨ro, rk, rn⟩, b⟩ := rb
     have hbp := rule_prog HRR.out
     have HPF := hide hpar
     obtain ⟨a2, ha2⟩ : ∃ r, endOf isBl s b = r := ⟨_, rfl⟩
     have HA2 := hide ha2
     have kb := hide (fun W => rskip_v s b a2 W hbp.2 hs ha2)
     have hba2 : b ≤ a2 := by rw [← ha2]; exact endOf_ge _ _ _
     clear hpar ha2
     dsimp only at kr
     go_wp2_with fail
     refine (kr.out _).mono ?_
     rintro en W1 ⟨rfl, hg⟩
     have HG1 := hide (HG.out.trans (Grew.trans gw hg))
     have HO1 := hide (fown_grew HO.out (Grew.trans gw hg))
     clear hg HO
     dsimp only
     go_wp2_with (at_builtin; refine AppG3.stop ?_)
     refine AppG3.go ?_
     refine wpList_append_any _ rfl (.tmp 37) (.tmp 39) _ rfl w.heap.size 36 i0 _ 3 24 Tryz.underlying22 hi0 hz0 hz1 hz2 rfl (by omega) _ out.length (out.flatMap encR) rfl (fown_grew HO1.out gw) _ (some ⟨_, 0, none⟩) 1 1 ([(ro, rk, rn)].flatMap encR) rfl ((Rd.litR _ ro rk rn _ _ (by simp [hs_dr])).reads encR_len (by omega)) (ru_one _) (by simp only [maxLen]; omega) (by omega) (by have := HG1.out.below.size; simp [hs_dr]; omega) ?_
     intro v' w1' hown1 hg1 _
     have HG2 : Hid (Grew w w1') := hide (own_grown (HG1.out.trans gw) (fown_grew HO1.out gw) hg1)
     rw [← List.flatMap_append] at hown1
     have HO2 : Hid (w1'.ownsRow w.heap.size 36 3 v' (out ++ [(ro, rk, rn)]).length ((out ++ [(ro, rk, rn)]).flatMap encR)) := hide (by rw [List.length_append]; exact hown1)
     clear hown1 hg1 HO1 HG1
     go_wp2_with (go_at_call 48; with_reducible refine crv (kb.out _) fun _ _ => ?_; dsimp only)
     go_roundw
     case rel => exact ⟨f, b, a2, out ++ [(ro, rk, rn)], hbp.2, by omega, by simp; omega, rfl, show _ ∧ _ from ⟨HA2.out, HPF.out⟩, HG2.out.trans gw, fown_grew HO2.out gw⟩
     case measure => simp [intOf]; omega
  ·rw [if_neg hlt] at hpar
   obtain rfl : a = s.size := by omega
   obtain ⟨rfl, rfl, rfl⟩ : l = out ∧ pa = 0 ∧ pe = 0 := by
    injection hpar with h1 h2
    injection h2 with h2 h3
    exact ⟨h1.symm, h2.symm, h3.symm⟩
   obtain ⟨A3, c3, he, _, hrd⟩ := Rd.of_own (f := encR) encR_len HO.out rfl
   have HRD := hide hrd
   have HE := hide he
   clear hpar hrd he
   go_wp2_with fail
   go_ret3
   exact ⟨Av, cv, rfl, by
    have := HE.out
    injection this with h1 h2 h3
    rw [h1]
    exact HRD.out.up gw, HG.out.trans gw⟩
end Go.Proofs.YtfeccolljfkejaaGreatDoor

/- The reference implementation of package rule: Print. -/
set_option linter.unusedSimpArgs false
set_option linter.unusedVariables false
set_option maxHeartbeats 16000000
set_option maxRecDepth 100000
namespace Go.Proofs.YtfeccolljfkejaaGreatDoor
open Go.RowKit Go.Sort
attribute [local go_sem] Steady steadyUpon
attribute [local go_sem ↓] hs_dr lt_add_r lt_add_r2 lt_add_r3 lt_add_r4 lt_add_r5 lt_add_r6
attribute [local go_sem] cell?_gd frozen?_gd setCell_gd size_grow tape_grow cell?_grow' frozen?_grow' setCell_grow' grow_grow grow_dr grow_drew dr_dr dr_drew drew_dr dr_alloc dr_setCell dr_cell dr_frozen dr_tape dr_drawn
attribute [local irreducible] wpSteady
attribute [local go_sem] E.effUpon
theorem rPrint_v (rs : List Ru) (A : Option Addr) (c : Nat) (t : ByteArray) (pe : Int) (w : World) (hr : Rd w w.heap.size 3 A (rs.map encR)) (hc : rs.length ≤ 100000000000000) (htb : TabP w) (h : printOf rs = (t, pe)) :
  Calls Tryz.prog 23 #[.slice A rs.length c] w (Ret w (.tuple #[.string t, .int .i64 pe])) := by
 have hm := hmix
 obtain ⟨u, hu⟩ : ∃ u, rsOk rs = u := ⟨_, rfl⟩
 have k1 := hide (fun W (hg : Grew w W) => rValid_v rs A c u W (hr.up hg) hc hu)
 unfold printOf at h
 rw [hu] at h
 have HR := hide hr
 have HT := hide htb
 have HU := hide hu
 clear hu hr htb
 cases u
 ·rw [if_neg (by simp)] at h
  obtain ⟨rfl, rfl⟩ : t = ⟨#[]⟩ ∧ pe = 1 := by
   injection h with h1 h2
   exact ⟨h1.symm, h2.symm⟩
  clear h
  go_enter Tryz.func23, Tryz.ntmps23
  go_wp2_with (go_at_call 21; with_reducible refine crv (k1.out _ gw) fun _ _ => ?_; dsimp only)
  go_ret2
  exact Ret.mk' rfl gw
 rw [if_pos rfl] at h
 obtain ⟨ht, rfl⟩ : t.data.toList = printL rs ∧ pe = 0 := by
  injection h with h1 h2
  exact ⟨by rw [← h1], h2.symm⟩
 have HPT := hide ht
 obtain ⟨hl40, hok⟩ := ru_memQ HU.out
 have HOK := hide hok
 clear hok h ht
 go_enter Tryz.func23, Tryz.ntmps23
 go_wp2_with (go_at_call 21; with_reducible refine crv (k1.out _ gw) fun _ _ => ?_; dsimp only)
 clear k1
 go_loopw [5, 6] (fun v i wr => ∃ (k : Nat) (S : ByteArray), k ≤ rs.length ∧ i = .int .i64 k ∧ v = .string S ∧ AppG (S.data.toList = printL (rs.take k)) ∧ Grew w wr) (fun _ i _ => rs.length - (intOf i).toNat)
 case atStart => exact ⟨0, ⟨#[]⟩, by omega, rfl, rfl, rfl, gw⟩
 case round =>
  obtain ⟨k, S, hk, rfl, rfl, hS, hg⟩ := hrel
  have HS := hide hS.stop
  have HG := hide hg
  clear hS hg
  by_cases hlt : k < rs.length
  ·have hSl : S.size ≤ 920 := by
    have := print_len (l := rs.take k) (fun r hr => HOK.out r (List.mem_of_mem_take hr))
    rw [List.length_take] at this
    have e := congrArg List.length HS.out
    rw [ba_len] at e
    omega
   have HST := hide (printL_succ hlt)
   obtain ⟨b, off, hA, hb, h0, h1, h2⟩ := ruCells (HR.out.up HG.out) hlt
   have hix := idx_run (cap := c) Tryz.underlying22 Tryz.sizeOf36 hA.out hlt
   have hrk : (ruAt rs k).ok = true := HOK.out _ (List.mem_of_getElem? (ruAt_get hlt))
   obtain ⟨x, hx⟩ : ∃ x, ruAt rs k = x := ⟨_, rfl⟩
   rw [hx] at h0 h1 h2 hrk HST
   have HX := hide hx
   clear hx hA
   obtain ⟨o, kd, n⟩ := x
   dsimp only at h0 h1 h2
   have hpa := rok_parts hrk
   dsimp only at hpa
   obtain ⟨ho, hn, hkd, hk1, hk2, hn5⟩ := hpa
   obtain ⟨q, rfl⟩ : ∃ q : Nat, o = (q : Int) := ⟨o.toNat, by omega⟩
   obtain ⟨kk, rfl⟩ : ∃ q : Nat, kd = (q : Int) := ⟨kd.toNat, by omega⟩
   have hq6 : q < 6 := by omega
   have hk7 : kk < 7 := by omega
   have HN := hide hn
   have hol := opA_len q
   have hkl := kdA_len kk
   have hil := itoa_len hn.1 hn.2
   have z1 : ¬ 9223372036854775807 < S.size + (opA q).size := by omega
   have z2 : S.size + (opA q).size ≤ 9223372036854775807 := by omega
   have HLINE : Hid (lineL ((q : Int), (kk : Int), n) = (opA q).data.toList ++ ((if q = 1 then [] else 32 :: (kdA kk).data.toList) ++ ((if q = 5 then [] else 32 :: Lib.itoa n) ++ [59, 10]))) := hide (by
    unfold lineL
    dsimp only
    rw [Int.toNat_natCast, Int.toNat_natCast]
    have e1 : ((q : Int) = 1) = (q = 1) := propext (by omega)
    have e5 : ((q : Int) = 5) = (q = 5) := propext (by omega)
    simp only [e1, e5])
   clear hrk hk1 hk2 hn5 hkd hn
   go_wp2_with fail
   refine E.wp_region_eff 11 [true, false, true, true, true, true, true, false, false, false] [1, 7, 8, 9] hm (by kernel_rfl) (by simp only [E.pick, List.take, List.length_cons, List.length_nil, Nat.reduceAdd]; rfl) (by rfl) (by simp only [List.drop, List.take, List.length_cons, List.length_nil, Nat.reduceAdd, Nat.reduceSub]; rfl) (by simp only [List.drop]; rfl) ?_
   repeat (refine wpSteady_step (fun K hK => ?_); go_simp; first | (refine hK _ ?_; clear hK K) | (apply Exists.intro; refine ⟨fun _ => ?_, hK _ ?_⟩; (fail); clear hK K))
   refine wpSteady_nil ?_
   refine E.wpE_ready [1] (by simp) (by kernel_rfl) ?_
   intro e0 he0 o0 ho W2 hg2
   obtain rfl := List.mem_singleton.1 he0
   have HG2 := hide hg2
   clear hg2 he0
   simp at ho
   subst ho
   go_simp
   refine (rops_v W2).mono ?_
   rintro en W3 ⟨A3, c3, rfl, hr3, hg3⟩
   refine ⟨_, rfl, hg3.below.mono HG2.out.below.size, ?_⟩
   have HR3 := hide hr3
   have HG3 := hide (Grew.trans gw (HG2.out.trans hg3) : Grew wr W3)
   clear hr3 hg3 HG2
   refine E.wpE_ready [7] (by simp) (by kernel_rfl) ?_
   intro e0 he0 o0 ho W4 hg4
   obtain rfl := List.mem_singleton.1 he0
   have HG4 := hide (HG3.out.trans hg4)
   have HR4 := hide (HR3.out.up hg4)
   obtain ⟨b3, off3, hA3, hb3, g3⟩ := strCell HR4.out (opA_get hq6)
   have hix3 := idx_run (cap := c3) (k := q) (len := (opW).length) Tryz.underlying77 Tryz.sizeOf9 hA3.out hq6
   simp only [Nat.mul_one] at hix3
   clear hg4 he0 hA3 HR3 HG3
   simp at ho
   subst ho
   go_simp
   refine ⟨Below.refl _ _, ?_⟩
   clear hix3
   refine E.wpE_ready [8] (by simp) (by kernel_rfl) ?_
   intro e0 he0 o0 ho W5 hg5
   obtain rfl := List.mem_singleton.1 he0
   have HG5 := hide (Grew.trans (Hid.out (by assumption)) hg5 : Grew _ W5)
   try (replace g3 := (old_cell hg5 _ _ hb3).trans g3; have hb3 := Nat.lt_of_lt_of_le hb3 hg5.below.size)
   clear hg5 he0
   simp at ho
   subst ho
   go_simp
   refine ⟨Below.refl _ _, ?_⟩
   refine E.wpE_ready [9] (by simp) (by kernel_rfl) ?_
   intro e0 he0 o0 ho W6 hg6
   obtain rfl := List.mem_singleton.1 he0
   have HG6 := hide (Grew.trans (Hid.out (by assumption)) hg6 : Grew _ W6)
   try (replace g3 := (old_cell hg6 _ _ hb3).trans g3; have hb3 := Nat.lt_of_lt_of_le hb3 hg6.below.size)
   clear hg6 he0
   simp at ho
   subst ho
   go_simp
   refine ⟨Below.refl _ _, ?_⟩
   refine E.wpE_nil fun W7 hg7 => ?_
   have HG4 := hide (HG6.out.trans hg7)
   clear hg7 HG6
   go_wp2_with fail
   refine L.q2_normal ?_
   repeat (refine wpSteady_step (fun K hK => ?_); go_simp; refine hK _ ?_; clear hK K)
   refine wpSteady_nil ?_
   intro W5 hW3b
   have HG5 : Hid (Grew wr W5) := hide (HG4.out.trans (Grew.trans gw hW3b))
   clear hW3b HG4 h0 h1 h2 hix z1 z2 hb
   obtain ⟨b, off, hA, hb, h0, h1, h2⟩ := ruCells (HR.out.up (HG.out.trans HG5.out)) hlt
   have hix := idx_run (cap := c) Tryz.underlying22 Tryz.sizeOf36 hA.out hlt
   rw [HX.out] at h0 h1 h2
   dsimp only at h0 h1 h2
   obtain ⟨S1, hS1⟩ : ∃ x, S ++ opA q = x := ⟨_, rfl⟩
   rw [hS1]
   have hs1 : S1.size ≤ 925 := by rw [← hS1, ByteArray.size_append]; omega
   have HS1 : Hid (S1.data.toList = printL (rs.take k) ++ (opA q).data.toList) := hide (by rw [← hS1, ba_app, HS.out])
   clear hS1 hA
   by_cases hq1 : q = 1
   ·subst hq1
    rw [if_pos rfl, if_neg (by decide)] at HLINE
    have z1 : ¬ 9223372036854775807 < S1.size + 1 := by omega
    have z2 : S1.size + 1 ≤ 9223372036854775807 := by omega
    have z3 : ¬ 9223372036854775807 < S1.size + (⟨#[32]⟩ : ByteArray).size := by rw [lit32]; omega
    go_wp2_with fail
    refine (itoa_v n HN.out.1 HN.out.2 _ (HT.out.up (HG.out.trans HG5.out))).mono ?_
    rintro e Wi ⟨rfl, hgi⟩
    have HGI := hide (HG.out.trans (HG5.out.trans hgi))
    obtain ⟨X, hX⟩ : ∃ X, (⟨(Lib.itoa n).toArray⟩ : ByteArray) = X := ⟨_, rfl⟩
    have hXs : X.size ≤ 6 := by rw [← hX, mk_size]; exact hil
    have hXl : Hid (X.data.toList = Lib.itoa n) := hide (by rw [← hX])
    rw [hX]
    clear hX hgi
    have y1 : ¬ 9223372036854775807 < S1.size + 1 + X.size := by omega
    have y2 : S1.size + 1 + X.size ≤ 9223372036854775807 := by omega
    have y3 : ¬ 9223372036854775807 < (S1 ++ ⟨#[32]⟩).size + X.size := by rw [ByteArray.size_append, lit32]; omega
    have y4 : ¬ 9223372036854775807 < S1.size + (⟨#[32]⟩ : ByteArray).size + X.size := by rw [lit32]; omega
    have y5 : ¬ 9223372036854775807 < S1.size + 1 + X.size + 2 := by omega
    have y6 : S1.size + 1 + X.size + 2 ≤ 9223372036854775807 := by omega
    have y7 : ¬ 9223372036854775807 < (S1 ++ ⟨#[32]⟩ ++ X).size + (⟨#[59, 10]⟩ : ByteArray).size := by rw [ByteArray.size_append, ByteArray.size_append, lit32, lit59]; omega
    have y8 : ¬ 9223372036854775807 < S1.size + (⟨#[32]⟩ : ByteArray).size + X.size + (⟨#[59, 10]⟩ : ByteArray).size := by rw [lit32, lit59]; omega
    have y9 : ¬ 9223372036854775807 < S1.size + 1 + X.size + (⟨#[59, 10]⟩ : ByteArray).size := by rw [lit59]; omega
    dsimp only
    go_wp2_with fail
    go_roundw
    case rel => exact ⟨k + 1, S1 ++ (⟨#[32]⟩ : ByteArray) ++ X ++ (⟨#[59, 10]⟩ : ByteArray), by omega, by go_num, rfl, show _ = _ from (by rw [HST.out, HLINE.out, ba_app, ba_app, ba_app, HS1.out, hXl.out]; simp), HGI.out.trans gw⟩
    case measure => simp [intOf]; omega
   ·have q1 : ((q : Int) != 1) = true := by simp; omega
    have q1' : ((q : Int) == 1) = false := by simp; omega
    have z1 : ¬ 9223372036854775807 < S1.size + 1 := by omega
    have z2 : S1.size + 1 ≤ 9223372036854775807 := by omega
    have z3 : ¬ 9223372036854775807 < S1.size + (⟨#[32]⟩ : ByteArray).size := by rw [lit32]; omega
    have z4 : ¬ 9223372036854775807 < S1.size + 1 + (kdA kk).size := by omega
    have z5 : S1.size + 1 + (kdA kk).size ≤ 9223372036854775807 := by omega
    have z6 : ¬ 9223372036854775807 < (S1 ++ ⟨#[32]⟩).size + (kdA kk).size := by rw [ByteArray.size_append, lit32]; omega
    have z7 : ¬ 9223372036854775807 < S1.size + (⟨#[32]⟩ : ByteArray).size + (kdA kk).size := by rw [lit32]; omega
    go_wp2_with fail
    refine E.wp_region_eff 12 [true, true, false, true, true, true, true, true, false, false, false] [2, 8, 9, 10] hm (by kernel_rfl) (by simp only [E.pick, List.take, List.length_cons, List.length_nil, Nat.reduceAdd]; rfl) (by rfl) (by simp only [List.drop, List.take, List.length_cons, List.length_nil, Nat.reduceAdd, Nat.reduceSub]; rfl) (by simp only [List.drop]; rfl) ?_
    repeat (refine wpSteady_step (fun K hK => ?_); go_simp; first | (refine hK _ ?_; clear hK K) | (apply Exists.intro; refine ⟨fun _ => ?_, hK _ ?_⟩; (fail); clear hK K))
    refine wpSteady_nil ?_
    refine E.wpE_ready [2] (by simp) (by kernel_rfl) ?_
    intro e0 he0 o0 ho W2 hg2
    obtain rfl := List.mem_singleton.1 he0
    have HG2 := hide hg2
    clear hg2 he0
    simp at ho
    subst ho
    go_simp
    refine (rkinds_v W2).mono ?_
    rintro en W3 ⟨A3, c3, rfl, hr3, hg3⟩
    refine ⟨_, rfl, hg3.below.mono HG2.out.below.size, ?_⟩
    have HR3 := hide hr3
    have HG3 := hide (Grew.trans gw (HG2.out.trans hg3) : Grew W5 W3)
    clear hr3 hg3 HG2
    refine E.wpE_ready [8] (by simp) (by kernel_rfl) ?_
    intro e0 he0 o0 ho W14 hg14
    obtain rfl := List.mem_singleton.1 he0
    have HG14 := hide (HG3.out.trans hg14)
    have HR14 := hide (HR3.out.up hg14)
    obtain ⟨b3, off3, hA3, hb3, g3⟩ := strCell HR14.out (kdA_get hk7)
    have hix3 := idx_run (cap := c3) (k := kk) (len := (kdW).length) Tryz.underlying77 Tryz.sizeOf9 hA3.out hk7
    simp only [Nat.mul_one] at hix3
    clear hg14 he0 hA3 HR3 HG3
    simp at ho
    subst ho
    go_simp
    refine ⟨Below.refl _ _, ?_⟩
    clear hix3
    refine E.wpE_ready [9] (by simp) (by kernel_rfl) ?_
    intro e0 he0 o0 ho W15 hg15
    obtain rfl := List.mem_singleton.1 he0
    have HG15 := hide (Grew.trans (Hid.out (by assumption)) hg15 : Grew _ W15)
    try (replace g3 := (old_cell hg15 _ _ hb3).trans g3; have hb3 := Nat.lt_of_lt_of_le hb3 hg15.below.size)
    clear hg15 he0
    simp at ho
    subst ho
    go_simp
    refine ⟨Below.refl _ _, ?_⟩
    refine E.wpE_ready [10] (by simp) (by kernel_rfl) ?_
    intro e0 he0 o0 ho W16 hg16
    obtain rfl := List.mem_singleton.1 he0
    have HG16 := hide (Grew.trans (Hid.out (by assumption)) hg16 : Grew _ W16)
    try (replace g3 := (old_cell hg16 _ _ hb3).trans g3; have hb3 := Nat.lt_of_lt_of_le hb3 hg16.below.size)
    clear hg16 he0
    simp at ho
    subst ho
    go_simp
    refine ⟨Below.refl _ _, ?_⟩
    refine E.wpE_nil fun W17 hg7 => ?_
    have HG4 := hide (HG16.out.trans hg7)
    clear hg7 HG16
    go_wp2_with fail
    refine L.q2_normal ?_
    repeat (refine wpSteady_step (fun K hK => ?_); go_simp; refine hK _ ?_; clear hK K)
    refine wpSteady_nil ?_
    intro W6 hW3c
    have HG6 : Hid (Grew wr W6) := hide (HG5.out.trans (HG4.out.trans (Grew.trans gw hW3c)))
    clear hW3c HG4 h0 h1 h2 hix hb z1 z2 z3 z4 z5 z6 z7
    obtain ⟨b, off, hA, hb, h0, h1, h2⟩ := ruCells (HR.out.up (HG.out.trans HG6.out)) hlt
    have hix := idx_run (cap := c) Tryz.underlying22 Tryz.sizeOf36 hA.out hlt
    rw [HX.out] at h0 h1 h2
    dsimp only at h0 h1 h2
    obtain ⟨S2, hS2⟩ : ∃ x, S1 ++ ⟨#[32]⟩ ++ kdA kk = x := ⟨_, rfl⟩
    rw [hS2]
    have hs2 : S2.size ≤ 940 := by rw [← hS2, ByteArray.size_append, ByteArray.size_append, lit32]; omega
    have HS2 : Hid (S2.data.toList = printL (rs.take k) ++ (opA q).data.toList ++ [32] ++ (kdA kk).data.toList) := hide (by rw [← hS2, ba_app, ba_app, HS1.out])
    rw [if_neg hq1] at HLINE
    clear hS2 hA hq1 q1 q1'
    by_cases hq5 : q = 5
    ·subst hq5
     rw [if_pos rfl] at HLINE
     have z1 : ¬ 9223372036854775807 < S2.size + 2 := by omega
     have z2 : S2.size + 2 ≤ 9223372036854775807 := by omega
     have z3 : ¬ 9223372036854775807 < S2.size + (⟨#[59, 10]⟩ : ByteArray).size := by rw [lit59]; omega
     go_wp2_with fail
     go_roundw
     case rel => exact ⟨k + 1, S2 ++ (⟨#[59, 10]⟩ : ByteArray), by omega, by go_num, rfl, show _ = _ from (by rw [HST.out, HLINE.out, ba_app, HS2.out]; simp), HG.out.trans (HG6.out.trans gw)⟩
     case measure => simp [intOf]; omega
    ·have q5 : ((q : Int) != 5) = true := by simp; omega
     have q5' : ((q : Int) == 5) = false := by simp; omega
     rw [if_neg hq5] at HLINE
     clear hq5
     have z1 : ¬ 9223372036854775807 < S2.size + 1 := by omega
     have z2 : S2.size + 1 ≤ 9223372036854775807 := by omega
     have z3 : ¬ 9223372036854775807 < S2.size + (⟨#[32]⟩ : ByteArray).size := by rw [lit32]; omega
     go_wp2_with fail
     refine (itoa_v n HN.out.1 HN.out.2 _ (HT.out.up (HG.out.trans HG6.out))).mono ?_
     rintro e Wi ⟨rfl, hgi⟩
     have HGI := hide (HG.out.trans (HG6.out.trans hgi))
     obtain ⟨X, hX⟩ : ∃ X, (⟨(Lib.itoa n).toArray⟩ : ByteArray) = X := ⟨_, rfl⟩
     have hXs : X.size ≤ 6 := by rw [← hX, mk_size]; exact hil
     have hXl : Hid (X.data.toList = Lib.itoa n) := hide (by rw [← hX])
     rw [hX]
     clear hX hgi
     have y1 : ¬ 9223372036854775807 < S2.size + 1 + X.size := by omega
     have y2 : S2.size + 1 + X.size ≤ 9223372036854775807 := by omega
     have y3 : ¬ 9223372036854775807 < (S2 ++ ⟨#[32]⟩).size + X.size := by rw [ByteArray.size_append, lit32]; omega
     have y4 : ¬ 9223372036854775807 < S2.size + (⟨#[32]⟩ : ByteArray).size + X.size := by rw [lit32]; omega
     have y5 : ¬ 9223372036854775807 < S2.size + 1 + X.size + 2 := by omega
     have y6 : S2.size + 1 + X.size + 2 ≤ 9223372036854775807 := by omega
     have y7 : ¬ 9223372036854775807 < (S2 ++ ⟨#[32]⟩ ++ X).size + (⟨#[59, 10]⟩ : ByteArray).size := by rw [ByteArray.size_append, ByteArray.size_append, lit32, lit59]; omega
     have y8 : ¬ 9223372036854775807 < S2.size + (⟨#[32]⟩ : ByteArray).size + X.size + (⟨#[59, 10]⟩ : ByteArray).size := by rw [lit32, lit59]; omega
     have y9 : ¬ 9223372036854775807 < S2.size + 1 + X.size + (⟨#[59, 10]⟩ : ByteArray).size := by rw [lit59]; omega
     dsimp only
     go_wp2_with fail
     go_roundw
     case rel => exact ⟨k + 1, S2 ++ (⟨#[32]⟩ : ByteArray) ++ X ++ (⟨#[59, 10]⟩ : ByteArray), by omega, by go_num, rfl, show _ = _ from (by rw [HST.out, HLINE.out, ba_app, ba_app, ba_app, HS2.out, hXl.out]; simp), HGI.out.trans gw⟩
     case measure => simp [intOf]; omega
  ·obtain rfl : k = rs.length := by omega
   have hS := HS.out
   rw [List.take_length, ← HPT.out] at hS
   obtain rfl : S = t := strB_iff.1 (by unfold strB; rw [hS]; simp)
   clear hS
   go_wp2_with fail
   go_ret2
   exact Ret.mk' rfl (HG.out.trans gw)
end Go.Proofs.YtfeccolljfkejaaGreatDoor

