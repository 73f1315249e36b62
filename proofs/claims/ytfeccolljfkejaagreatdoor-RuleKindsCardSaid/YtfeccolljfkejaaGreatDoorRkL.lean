/- The law RuleKinds walked. -/
import Derived.Test.YtfeccolljfkejaaGreatDoorRpI
import Derived.Test.YtfeccolljfkejaaGreatDoorRpK
import Derived.Test.YtfeccolljfkejaaGreatDoorSaF
set_option linter.unusedSimpArgs false
set_option linter.unusedVariables false
set_option maxHeartbeats 16000000
set_option maxRecDepth 100000
namespace Go.Proofs.YtfeccolljfkejaaGreatDoor
open Go.RowKit Go.Sort
attribute [local go_sem] Steady steadyUpon
attribute [local go_sem ↓] hs_dr lt_add_r lt_add_r2 lt_add_r3 lt_add_r4 lt_add_r5 lt_add_r6
attribute [local go_sem] cell?_gd frozen?_gd setCell_gd size_grow tape_grow cell?_grow' frozen?_grow' setCell_grow' grow_grow grow_dr grow_drew dr_dr dr_drew drew_dr dr_alloc dr_setCell dr_cell dr_frozen dr_tape dr_drawn
attribute [local irreducible] wpSteady
theorem apply_codeK (o k n : Int) (fs : List FV) : (applyOf o k n fs).2 = 0 ∨ (applyOf o k n fs).2 = 1 ∨ (applyOf o k n fs).2 = 3 := by
 unfold applyOf
 split
 ·split
  ·exact .inl rfl
  ·exact .inr (.inr rfl)
 ·exact .inr (.inl rfl)
theorem run_leK (rs : List Ru) (fs : List FV) : (runOf rs fs).1.length ≤ 300 := by
 unfold runOf
 split
 ·rename_i h
  rw [Bool.and_eq_true] at h
  exact run_len (list_len h.2) _ (Nat.le_refl _)
 ·simp
def kdB (k : Int) (gs : List FV) (x : FV) (m : Nat) : Bool := (x.kind == k) || (List.range m).any fun j => sameB x (fAt gs j)
theorem kdB_succ (k : Int) (gs : List FV) (x : FV) (m : Nat) : kdB k gs x (m + 1) = (kdB k gs x m || sameB x (fAt gs m)) := by
 unfold kdB
 rw [List.range_succ, List.any_append]
 simp [Bool.or_assoc]
theorem kd_all {o k n : Int} {fs gs : List FV} (h0 : (applyOf o k n fs).2 = 0) (hb : gs.map FV.bare = (applyOf o k n fs).1.map FV.bare) {q : Nat} (hq : q < fs.length) : kdB k gs (fAt fs q) gs.length = true := by
 unfold kdB
 by_cases hk : (fAt fs q).kind = k
 ·simp [hk]
 ·obtain ⟨y, hy, e⟩ := mem_bare hb.symm (one_stay h0 (fAt_mem hq) hk)
  obtain ⟨j, hj, ej⟩ := fAt_of_mem hy
  rw [Bool.or_eq_true, List.any_eq_true]
  exact .inr ⟨j, List.mem_range.2 hj, by rw [ej]; exact same_of e.symm⟩
abbrev cells9k (f : FV) : Array Value := #[.int .i64 f.id, .int .i64 f.kind, .int .i64 f.x, .int .i64 f.y, .int .i64 f.rad, .slice f.aA f.area.length f.ac, .int .i64 f.dep, .int .i64 f.sym, .slice f.sA f.secs.length f.sc]
theorem ruleKinds_row (o k n o' k' n' : Int) (fs : List FV) (A : Option Addr) (c : Nat) (w : World) (hr : FRd w w.heap.size A fs) (hc : fs.length ≤ 100000000000000) (hl : KwAt w w.heap.size ∧ TabP w) :
  Calls Tryz.prog 9 #[ruV o k n, ruV o' k' n', .slice A fs.length c] w (Ret w (.bool true)) := by
 have hm := hmix
 have HH := hide (head_g hl.1 (Nat.le_refl _) hl.2)
 obtain ⟨fw, hfw⟩ : ∃ r, decide (0 ≤ 10 ∧ fs.length ≤ 16) = r := ⟨_, rfl⟩
 have kf := hide (fun W => few_v none A 0 fs.length 0 c fw W hfw)
 clear hfw
 obtain ⟨u1, hu1⟩ : ∃ r, ruleOk o k n = r := ⟨_, rfl⟩
 obtain ⟨u2, hu2⟩ : ∃ r, ruleOk o' k' n' = r := ⟨_, rfl⟩
 have kR := hide (fun W => rRule_v o k n u1 W hu1)
 have kS := hide (fun W => rRule_v o' k' n' u2 W hu2)
 cases fw
 ·clear hr
  go_enter Tryz.func9, Tryz.ntmps9
  go_wp2_with (first | (go_at_call 12; with_reducible refine crv (HH.out _ gw) fun _ _ => ?_; dsimp only) | (go_at_call 16; with_reducible refine crv (kf.out _) fun _ _ => ?_; dsimp only))
  go_ret
  exact Ret.mk' rfl gw
 by_cases hk : k = k'
 ·subst hk
  clear hr kR kS hu1 hu2
  go_enter Tryz.func9, Tryz.ntmps9
  go_wp2_with (first | (go_at_call 12; with_reducible refine crv (HH.out _ gw) fun _ _ => ?_; dsimp only) | (go_at_call 16; with_reducible refine crv (kf.out _) fun _ _ => ?_; dsimp only))
  go_ret
  exact Ret.mk' rfl gw
 have hkb : (k == k') = false := by simpa using hk
 cases u1
 ·clear hr hu1 hu2 kS
  go_enter Tryz.func9, Tryz.ntmps9
  go_wp2_with (first | (go_at_call 12; with_reducible refine crv (HH.out _ gw) fun _ _ => ?_; dsimp only) | (go_at_call 16; with_reducible refine crv (kf.out _) fun _ _ => ?_; dsimp only) | (go_at_call 28; with_reducible refine crv (kR.out _) fun _ _ => ?_; dsimp only))
  go_ret
  exact Ret.mk' rfl gw
 cases u2
 ·clear hr hu1 hu2
  go_enter Tryz.func9, Tryz.ntmps9
  go_wp2_with (first | (go_at_call 12; with_reducible refine crv (HH.out _ gw) fun _ _ => ?_; dsimp only) | (go_at_call 16; with_reducible refine crv (kf.out _) fun _ _ => ?_; dsimp only) | (go_at_call 28; with_reducible refine crv (kR.out _) fun _ _ => ?_; dsimp only) | (go_at_call 28; with_reducible refine crv (kS.out _) fun _ _ => ?_; dsimp only))
  go_ret
  exact Ret.mk' rfl gw
 obtain ⟨⟨L, e0⟩, hL⟩ : ∃ d, runOf [(o, k, n), (o', k', n')] fs = d := ⟨_, rfl⟩
 have HL := hide hL
 have HL2 : Hid (runOf [(o', k', n'), (o, k, n)] fs = (L, e0)) := hide ((run_two (r := (o, k, n)) (s := (o', k', n')) hk hu1 hu2).symm.trans hL)
 have hl3 : L.length ≤ 300 := by have := run_leK [(o, k, n), (o', k', n')] fs; rw [hL] at this; exact this
 have HL3 := hide hl3
 have HR := hide hr
 have kA := hide (fun W (hg : Grew w W) => Apply_v o k n fs A c W (hr.up hg) hc)
 have HC := hide (apply_codeK o k n fs)
 clear hr hL hl3 hu1 hu2 hk
 go_enter Tryz.func9, Tryz.ntmps9
 go_wp2_with (first | (go_at_call 12; with_reducible refine crv (HH.out _ gw) fun _ _ => ?_; dsimp only) | (go_at_call 16; with_reducible refine crv (kf.out _) fun _ _ => ?_; dsimp only) | (go_at_call 28; with_reducible refine crv (kR.out _) fun _ _ => ?_; dsimp only) | (go_at_call 28; with_reducible refine crv (kS.out _) fun _ _ => ?_; dsimp only))
 refine calls_name ?_
 intro X1 hX1
 have HX1 : Hid (Grew w X1) := hide (by rw [← hX1]; exact gw)
 have HB1 : Hid (RuBox X1 w.heap.size o k n) := hide (RuBox.up (RuBox.new w o k n) (by rw [← hX1]; exact gw))
 have HB2 : Hid (RuBox X1 (w.heap.size + 1) o' k' n') := hide (by
  have h := RuBox.up (RuBox.new (w.alloc (.cells #[.int .i64 o, .int .i64 k, .int .i64 n] 36)) o' k' n') (W' := X1) (by rw [← hX1]; exact gw)
  simpa using h)
 refine (Run_v [(o, k, n), (o', k', n')] fs _ A 2 c X1 (by rw [← hX1]; exact Rd.blkA encR_len [(o, k, n), (o', k', n')] (heap_alloc_at _ _ _ (by simp [hs_dr])) rfl) (HR.out.up HX1.out) (by simp) hc).mono ?_
 rintro e W1 ⟨A1, c1, gs, he, hb, hrd, hg⟩
 rw [HL.out] at he hb
 dsimp only at he hb
 subst he
 have HG1 : Hid (Grew w W1) := hide (HX1.out.trans hg)
 have HB1' := hide (HB1.out.up hg)
 have HB2' := hide (HB2.out.up hg)
 have HRD := hide hrd
 have HB := hide hb
 clear hrd hb hg hX1 kf HH kR kS
 obtain ⟨⟨b0, b1, b2⟩, bl⟩ := HB1'.out
 obtain ⟨⟨a0, a1, a2⟩, al⟩ := HB2'.out
 go_wp2_with fail
 refine calls_name ?_
 intro X2 hX2
 have HX2 : Hid (Grew W1 X2) := hide (by rw [← hX2]; exact gw)
 refine (Run_v [(o', k', n'), (o, k, n)] fs _ A 2 c X2 (by rw [← hX2]; exact Rd.blkA encR_len [(o', k', n'), (o, k, n)] (heap_alloc_new _ _) rfl) (HR.out.up (HG1.out.trans HX2.out)) (by simp) hc).mono ?_
 rintro e W2 ⟨A2, c2, hs, he, hb, hrd, hg⟩
 rw [HL2.out] at he hb
 dsimp only at he hb
 subst he
 have HG2 : Hid (Grew W1 W2) := hide (HX2.out.trans hg)
 have hlg : gs.length ≤ 300 := by rw [len_of HB.out]; exact HL3.out
 have ks := hide (fun W (hg : Grew W2 W) => liSame_t gs hs hs.length A1 A2 c1 c2 W rfl (HRD.out.up (HG2.out.trans hg)) (hrd.up hg) (HB.out.trans hb.symm) (by omega))
 clear hb hrd hg hX2 b0 b1 b2 bl a0 a1 a2 al hlg
 obtain ⟨⟨b0, b1, b2⟩, bl⟩ := HB1'.out.up HG2.out
 go_wp2_with (go_at_call 18; with_reducible refine crv (ks.out _ gw) fun _ _ => ?_; dsimp only)
 refine (kA.out _ (HG1.out.trans (HG2.out.trans gw))).mono ?_
 rintro e W3 ⟨A3, c3, one, he, hb, hrd, hg⟩
 have HG3 : Hid (Grew W2 W3) := hide (Grew.trans gw hg)
 have HO := hide hrd
 have HOB := hide hb
 clear hb hrd hg ks b0 b1 b2 bl
 rcases HC.out with h0 | h1 | h3
 ·rw [h0] at he
  subst he
  have h1l : one.length ≤ 300 := by rw [len_of HOB.out]; exact list_len (again h0).2.2.2.2.2
  have HKD := hide (fun (q : Nat) (hq : q < fs.length) => kd_all h0 HOB.out hq)
  clear h0
  have HBX := hide (HB1'.out.up (HG2.out.trans HG3.out))
  dsimp only
  go_wp2_with fail
  go_loopw [7, 79] (fun up i wr => ∃ q : Nat, q ≤ fs.length ∧ i = .int .i64 q ∧ up = .bool true ∧ Grew W3 wr) (fun _ i _ => fs.length - (intOf i).toNat)
  case atStart => exact ⟨0, by omega, rfl, rfl, gw⟩
  case round =>
   obtain ⟨q, hq, rfl, rfl, hg⟩ := hrel
   have HG := hide hg
   clear hg
   by_cases hlt : q < fs.length
   ·obtain ⟨b, off, hA, hb, fc⟩ := rowAt (HR.out.up (HG1.out.trans (HG2.out.trans (HG3.out.trans HG.out)))).row hlt
    have hix := idx_run (cap := c) Tryz.underlying37 Tryz.sizeOf47 hA.out hlt
    have HKQ := hide (HKD.out q hlt)
    have HMF := hide (fAt_mem hlt)
    obtain ⟨d0, d1, d2, d3, d4, d5, d6, d7, d8⟩ := fc
    obtain ⟨x, hx⟩ : ∃ g, fAt fs q = g := ⟨_, rfl⟩
    rw [hx] at d0 d1 d2 d3 d4 d5 d6 d7 d8 HKQ HMF
    clear hx hA
    go_upto_region 13 with fail
    refine wp_name ?_
    intro W4 hW
    have HB4 : Hid (W4.heap[wr.heap.size]? = some (.cells (cells9k x) 47 (0, 0))) := hide (by rw [← hW]; exact heap_alloc_new _ _)
    have HG4 : Hid (Grew W3 W4) := hide (by rw [← hW]; exact HG.out.trans gw)
    clear hW d0 d1 d2 d3 d4 d5 d6 d7 d8 hix hb
    have p1 : W4.cell? ⟨wr.heap.size, 1, none⟩ = some (.int .i64 x.kind) := blk_cell HB4.out 1
    have pl := blk_lt HB4.out
    obtain ⟨⟨_, r1, _⟩, rl⟩ := HBX.out.up HG4.out
    obtain ⟨u0, hu0⟩ : ∃ u0, (x.kind == k) = u0 := ⟨_, rfl⟩
    have HU0 : Hid (kdB k one x 0 = u0) := hide (by rw [← hu0]; unfold kdB; simp)
    go_wp2_with fail
    clear p1 pl r1 rl hu0
    obtain ⟨Wz, hz⟩ : ∃ z, z = wr := ⟨wr, rfl⟩
    subst hz
    go_loopw [16, 90] (fun kn i wr => ∃ m : Nat, m ≤ one.length ∧ i = .int .i64 m ∧ kn = .bool (kdB k one x m) ∧ Grew W4 wr) (fun _ i _ => one.length - (intOf i).toNat)
    case atStart => exact ⟨0, by omega, rfl, ret_bool (by rw [HU0.out]), gw⟩
    case round =>
     obtain ⟨m, hm', rfl, rfl, hg⟩ := hrel
     have HGm := hide hg
     obtain ⟨u, hu⟩ : ∃ u, kdB k one x m = u := ⟨_, rfl⟩
     rw [hu]
     by_cases hlm : m < one.length
     ·have hbk := (hg.heap (blk_lt HB4.out)).trans HB4.out
      have p0 : wr.cell? ⟨Wz.heap.size, 0, none⟩ = some (.int .i64 x.id) := blk_cell hbk 0
      have p1 : wr.cell? ⟨Wz.heap.size, 1, none⟩ = some (.int .i64 x.kind) := blk_cell hbk 1
      have p2 : wr.cell? ⟨Wz.heap.size, 2, none⟩ = some (.int .i64 x.x) := blk_cell hbk 2
      have p3 : wr.cell? ⟨Wz.heap.size, 3, none⟩ = some (.int .i64 x.y) := blk_cell hbk 3
      have p4 : wr.cell? ⟨Wz.heap.size, 4, none⟩ = some (.int .i64 x.rad) := blk_cell hbk 4
      have p5 : wr.cell? ⟨Wz.heap.size, 5, none⟩ = some (.slice x.aA x.area.length x.ac) := blk_cell hbk 5
      have p6 : wr.cell? ⟨Wz.heap.size, 6, none⟩ = some (.int .i64 x.dep) := blk_cell hbk 6
      have p7 : wr.cell? ⟨Wz.heap.size, 7, none⟩ = some (.int .i64 x.sym) := blk_cell hbk 7
      have p8 : wr.cell? ⟨Wz.heap.size, 8, none⟩ = some (.slice x.sA x.secs.length x.sc) := blk_cell hbk 8
      have pl := blk_lt hbk
      have hgw := HG4.out.trans hg
      obtain ⟨b2, off2, hA2, hb2, fc⟩ := rowAt (HO.out.up hgw).row hlm
      have hix2 := idx_run (cap := c3) Tryz.underlying37 Tryz.sizeOf47 hA2.out hlm
      have hsu := kdB_succ k one x m
      rw [hu] at hsu
      have HMG := hide (fAt_mem hlm)
      obtain ⟨d0, d1, d2, d3, d4, d5, d6, d7, d8⟩ := fc
      obtain ⟨y, hy⟩ : ∃ g, fAt one m = g := ⟨_, rfl⟩
      rw [hy] at d0 d1 d2 d3 d4 d5 d6 d7 d8 hsu HMG
      have HSU := hide hsu
      obtain ⟨v, hv⟩ : ∃ v, sameB x y = v := ⟨_, rfl⟩
      have HV := hide hv
      have kst : Hid (∀ W, Grew wr W → Calls Tryz.prog 29 #[x.val, y.val] W (Ret W (.bool v))) := hide (fun W hg => by
       rw [← HV.out]
       exact feSame_v x y W ((HR.out.up (HG1.out.trans (HG2.out.trans (HG3.out.trans (HG4.out.trans (HGm.out.trans hg)))))).each x HMF.out) ((HO.out.up (HG4.out.trans (HGm.out.trans hg))).each y HMG.out))
      clear hy hA2 hg hbk hu hsu hgw hv
      cases u
      ·skip
       go_wp2_with (go_at_call 29; with_reducible refine crv (kst.out _ gw) fun _ _ => ?_; dsimp only)
       go_roundw
       case rel => exact ⟨m + 1, by omega, by go_num, ret_bool (by rw [HSU.out, HV.out]; rfl), HGm.out.trans gw⟩
       case measure => simp [intOf]; omega
      ·skip
       go_wp2_with (go_at_call 29; with_reducible refine crv (kst.out _ gw) fun _ _ => ?_; dsimp only)
       go_roundw
       case rel => exact ⟨m + 1, by omega, by go_num, ret_bool (by rw [HSU.out, HV.out]; rfl), HGm.out.trans gw⟩
       case measure => simp [intOf]; omega
     ·obtain rfl : m = one.length := by omega
      have : u = true := by rw [← hu]; exact HKQ.out
      subst this
      clear hu hg
      go_wp2_with fail
      go_roundw
      case rel => exact ⟨q + 1, by omega, by go_num, by simp, HG4.out.trans (HGm.out.trans gw)⟩
      case measure => simp [intOf]; omega
   ·obtain rfl : q = fs.length := by omega
    go_wp2_with fail
    go_ret
    exact Ret.mk' rfl (HG1.out.trans (HG2.out.trans (HG3.out.trans (HG.out.trans gw))))
 ·rw [h1] at he
  subst he
  dsimp only
  go_wp2_with fail
  go_ret
  exact Ret.mk' rfl (HG1.out.trans (HG2.out.trans (HG3.out.trans gw)))
 ·rw [h3] at he
  subst he
  dsimp only
  go_wp2_with fail
  go_ret
  exact Ret.mk' rfl (HG1.out.trans (HG2.out.trans (HG3.out.trans gw)))
end Go.Proofs.YtfeccolljfkejaaGreatDoor
