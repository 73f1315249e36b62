/- The law RuleAgain walked. -/
import Derived.Test.YtfeccolljfkejaaGreatDoorRpI
import Derived.Test.YtfeccolljfkejaaGreatDoorRpR
set_option linter.unusedSimpArgs false
set_option linter.unusedVariables false
set_option maxHeartbeats 16000000
set_option maxRecDepth 100000
namespace Go.Proofs.YtfeccolljfkejaaGreatDoor
open Go.RowKit Go.Sort
attribute [local go_sem] Steady steadyUpon
attribute [local go_sem ↓] hs_dr lt_add_r lt_add_r2 lt_add_r3 lt_add_r4 lt_add_r5 lt_add_r6
attribute [local go_sem] cell?_gd frozen?_gd setCell_gd size_grow tape_grow cell?_grow' frozen?_grow' setCell_grow' grow_grow grow_dr grow_drew dr_dr dr_drew drew_dr dr_alloc dr_setCell dr_cell dr_frozen dr_tape dr_drawn
attribute [local irreducible] wpSteady
theorem apply_codeQ (o k n : Int) (fs : List FV) : (applyOf o k n fs).2 = 0 ∨ (applyOf o k n fs).2 = 1 ∨ (applyOf o k n fs).2 = 3 := by
 unfold applyOf
 split
 ·split
  ·exact .inl rfl
  ·exact .inr (.inr rfl)
 ·exact .inr (.inl rfl)
/-- Apply's contract, with the room behind RuleThin's list. -/
def FeatD (o : Int) (w : World) (r : List FV × Int) (e : Ending) (w' : World) : Prop := ∃ A' c' fs', e = .returned (.tuple #[.slice A' fs'.length c', .int .i64 r.2]) ∧ fs'.map FV.bare = r.1.map FV.bare ∧ FRd w' w'.heap.size A' fs' ∧ Grew w w' ∧ (o = 3 → r.2 = 0 → fs'.length ≤ c')
theorem Apply_d (o k n : Int) (fs : List FV) (A : Option Addr) (c : Nat) (w : World) (hr : FRd w w.heap.size A fs) (hc : fs.length ≤ 100000000000000) :
  Calls Tryz.prog 17 #[ruV o k n, .slice A fs.length c] w (FeatD o w (applyOf o k n fs)) := by
 by_cases h3 : o = 3 ∧ ruleOk 3 k n = true ∧ FList fs = true
 ·obtain ⟨rfl, hu, hv⟩ := h3
  exact (Apply_3c k n fs A c w hr hu hv).mono fun e w' ⟨A', c', fs', h1, h2, h3, h4, h5⟩ => ⟨A', c', fs', h1, h2, h3, h4, fun _ _ => h5⟩
 ·exact (Apply_v o k n fs A c w hr hc).mono fun e w' ⟨A', c', fs', h1, h2, h4, h5⟩ => ⟨A', c', fs', h1, h2, h4, h5, fun ho h0 => absurd ⟨ho, by rw [← ho]; exact (again h0).2.2.2.1, (again h0).2.2.2.2.1⟩ h3⟩
theorem wrap_idQ {z : Int} (h : -9223372036854775808 ≤ z ∧ z ≤ 9223372036854775807) : IntKind.i64.wrap z = z := by
 unfold IntKind.wrap
 simp [IntKind.bits, IntKind.signed]
 omega
theorem sq_bdQ {z b : Int} (h : -b ≤ z ∧ z ≤ b) : 0 ≤ z * z ∧ z * z ≤ b * b := by
 constructor
 ·rcases Int.le_total 0 z with h0 | h0
  ·exact Int.mul_nonneg h0 h0
  ·have := Int.mul_nonneg (show 0 ≤ -z by omega) (show 0 ≤ -z by omega)
   rwa [Int.neg_mul_neg] at this
 ·have h1 : 0 ≤ (b - z) * (b + z) := Int.mul_nonneg (by omega) (by omega)
  have h2 : (b - z) * (b + z) = b * b - z * z := by grind
  omega
/-- Two kept ones of RuleThin's kind, as the law's loops meet them. -/
theorem far_row {k n : Int} {fs gs : List FV} (h0 : (applyOf 3 k n fs).2 = 0) (hb : gs.map FV.bare = (applyOf 3 k n fs).1.map FV.bare) {m q : Nat} (hm : m < q) (hq : q < gs.length) (kg : (fAt gs q).kind = k) (kf : (fAt gs m).kind = k) {dx dy : Int} (hdx : IntKind.i64.wrap ((fAt gs q).x - (fAt gs m).x) = dx) (hdy : IntKind.i64.wrap ((fAt gs q).y - (fAt gs m).y) = dy) :
  IntKind.i64.wrap (dx * dx) = dx * dx ∧ IntKind.i64.wrap (dy * dy) = dy * dy ∧ IntKind.i64.wrap (dx * dx + dy * dy) = dx * dx + dy * dy ∧ IntKind.i64.wrap (n * n) = n * n ∧ n * n < dx * dx + dy * dy := by
 obtain ⟨_, _, h3, hu, hl, ho⟩ := again h0
 have hL : FList gs = true := by rw [FList_of hb]; exact ho
 rw [h3 rfl] at ho hb
 have hml : m < gs.length := by omega
 have gg := fAt_get hq
 have gf := fAt_get hml
 rw [List.getElem?_eq_getElem hq] at gg
 rw [List.getElem?_eq_getElem hml] at gf
 injection gg with gg
 injection gf with gf
 have hid := List.pairwise_iff_getElem.1 (list_iff.1 hL).1 m q hml hq hm
 rw [gg, gf] at hid
 have vg := list_valid hL _ (fAt_mem hq)
 have vf := list_valid hL _ (fAt_mem hml)
 obtain ⟨g', hg', eg⟩ := mem_bare hb (fAt_mem hq)
 obtain ⟨f', hf', ef⟩ := mem_bare hb (fAt_mem hml)
 generalize fAt gs q = g at *
 generalize fAt gs m = f at *
 have xg : g'.x = g.x := (congrArg FV.x eg : g'.bare.x = g.bare.x)
 have yg : g'.y = g.y := (congrArg FV.y eg : g'.bare.y = g.bare.y)
 have ig : g'.id = g.id := (congrArg FV.id eg : g'.bare.id = g.bare.id)
 have kg' : g'.kind = g.kind := (congrArg FV.kind eg : g'.bare.kind = g.bare.kind)
 have xf : f'.x = f.x := (congrArg FV.x ef : f'.bare.x = f.bare.x)
 have yf : f'.y = f.y := (congrArg FV.y ef : f'.bare.y = f.bare.y)
 have if' : f'.id = f.id := (congrArg FV.id ef : f'.bare.id = f.bare.id)
 have kf' : f'.kind = f.kind := (congrArg FV.kind ef : f'.bare.kind = f.bare.kind)
 have hfar := thin_far hu hl ho hg' hf' (kg'.trans kg) (kf'.trans kf) (by omega)
 rw [xg, yg, xf, yf] at hfar
 have hc := rk_kind hu
 have hk3 : k = 1 ∨ k = 2 ∨ k = 5 := by simpa [opKinds] using hc.1
 have hn : 0 ≤ n ∧ n ≤ 100000 := by simpa [opLeast, opMost] using hc.2
 obtain ⟨b1, b2⟩ := pl_bd (disc_plQ vg (by rw [kg]; exact hk3))
 obtain ⟨b3, b4⟩ := pl_bd (disc_plQ vf (by rw [kf]; exact hk3))
 rw [wrap_idQ (by omega)] at hdx hdy
 subst hdx hdy
 have s1 := sq_bdQ (z := g.x - f.x) (b := 2000000) (by omega)
 have s2 := sq_bdQ (z := g.y - f.y) (b := 2000000) (by omega)
 have s3 := sq_bdQ (z := n) (b := 100000) (by omega)
 exact ⟨wrap_idQ (by omega), wrap_idQ (by omega), wrap_idQ (by omega), wrap_idQ (by omega), hfar⟩
abbrev cells9 (f : FV) : Array Value := #[.int .i64 f.id, .int .i64 f.kind, .int .i64 f.x, .int .i64 f.y, .int .i64 f.rad, .slice f.aA f.area.length f.ac, .int .i64 f.dep, .int .i64 f.sym, .slice f.sA f.secs.length f.sc]
theorem ruleAgain_row (o k n : Int) (fs : List FV) (A : Option Addr) (c : Nat) (w : World) (hr : FRd w w.heap.size A fs) (hc : fs.length ≤ 100000000000000) (hl : KwAt w w.heap.size ∧ TabP w) :
  Calls Tryz.prog 6 #[ruV o k n, .slice A fs.length c] w (Ret w (.bool true)) := by
 have hm := hmix
 have HH := hide (head_g hl.1 (Nat.le_refl _) hl.2)
 obtain ⟨fw, hfw⟩ : ∃ r, decide (0 ≤ 10 ∧ fs.length ≤ 16) = r := ⟨_, rfl⟩
 have kf := hide (fun W => few_v none A 0 fs.length 0 c fw W hfw)
 clear hfw
 cases fw
 ·clear hr
  go_enter Tryz.func6, Tryz.ntmps6
  go_wp2_with (first | (go_at_call 12; with_reducible refine crv (HH.out _ gw) fun _ _ => ?_; dsimp only) | (go_at_call 16; with_reducible refine crv (kf.out _) fun _ _ => ?_; dsimp only))
  go_ret
  exact Ret.mk' rfl gw
 ·have kr := hide (fun W (hg : Grew w W) => Apply_d o k n fs A c W (hr.up hg) hc)
  have HC := hide (apply_codeQ o k n fs)
  clear hr
  go_enter Tryz.func6, Tryz.ntmps6
  go_wp2_with (first | (go_at_call 12; with_reducible refine crv (HH.out _ gw) fun _ _ => ?_; dsimp only) | (go_at_call 16; with_reducible refine crv (kf.out _) fun _ _ => ?_; dsimp only))
  refine (kr.out _ gw).mono ?_
  rintro e W1 ⟨A1, c1, gs, rfl, hb, hrd, hg, hcap⟩
  have HG1 : Hid (Grew w W1) := hide (Grew.trans gw hg)
  have HBX : Hid (RuBox W1 w.heap.size o k n) := hide (RuBox.up (RuBox.new w o k n) (Grew.trans gw hg))
  have HRD := hide hrd
  have HB := hide hb
  have HCAP := hide hcap
  clear hrd hb hg hcap kr kf HH
  rcases HC.out with h0 | h1 | h3
  ·have ha := again h0
   have hla := len_of HB.out
   have hl300 : gs.length ≤ 300 := by rw [hla]; exact list_len ha.2.2.2.2.2
   obtain ⟨ab, ac⟩ := apply_of (o := o) (k := k) (n := n) HB.out
   rw [ha.1] at ab ac
   dsimp only at ab ac
   have HAC := hide ac
   have HAB := hide (ab.trans HB.out.symm)
   have kr2 := hide (fun W (hg : Grew W1 W) => Apply_v o k n gs A1 c1 W (HRD.out.up hg) (by omega))
   have HLEN : Hid (o ≠ 3 → gs.length = fs.length) := hide (fun ho => by rw [hla]; exact ha.2.1 ho)
   have H0 := hide h0
   rw [h0]
   clear h0 ha hla ab ac HC
   have hB0 := HBX.out.1
   have hB1 := HBX.out.2
   dsimp only
   go_wp2_with fail
   refine (kr2.out _ gw).mono ?_
   rintro e W2 ⟨A2, c2, hs, he, hb, hrd, hg⟩
   rw [HAC.out] at he
   subst he
   have HG2 : Hid (Grew W1 W2) := hide (Grew.trans gw hg)
   have ks := hide (fun W (hg : Grew W2 W) => liSame_t gs hs hs.length A1 A2 c1 c2 W rfl (HRD.out.up (HG2.out.trans hg)) (hrd.up hg) (hb.trans HAB.out).symm (by omega))
   clear hb hrd hg kr2 hB0 hB1
   have hB0 := (HBX.out.up HG2.out).1
   have hB1 := (HBX.out.up HG2.out).2
   dsimp only
   by_cases h3 : o = 3
   ·subst h3
    have HCP := hide (HCAP.out rfl H0.out)
    clear HCAP HLEN
    go_wp2_with (go_at_call 18; with_reducible refine crv (ks.out _ gw) fun _ _ => ?_; dsimp only)
    refine wp_name ?_
    intro W3 hW
    have HG3 : Hid (Grew W1 W3) := hide (HG2.out.trans (by rw [← hW]; exact gw))
    have hcap := HCP.out
    clear hW ks HG2 hB0 hB1
    go_loopw [5, 67] (fun up i wr => ∃ q : Nat, q ≤ gs.length ∧ i = .int .i64 q ∧ up = .bool true ∧ Grew W3 wr) (fun _ i _ => gs.length - (intOf i).toNat)
    case atStart => exact ⟨0, by omega, rfl, rfl, gw⟩
    case round =>
     obtain ⟨q, hq, rfl, rfl, hg⟩ := hrel
     have HG := hide hg
     clear hg
     by_cases hlt : q < gs.length
     ·obtain ⟨b, off, hA, hb, fc⟩ := rowAt (HRD.out.up (HG3.out.trans HG.out)).row hlt
      have hix := idx_run (cap := c1) Tryz.underlying37 Tryz.sizeOf47 hA.out hlt
      have HFAR := hide (fun (m : Nat) (hm : m < q) => far_row (m := m) H0.out HB.out hm hlt)
      obtain ⟨d0, d1, d2, d3, d4, d5, d6, d7, d8⟩ := fc
      obtain ⟨g, hg'⟩ : ∃ g, fAt gs q = g := ⟨_, rfl⟩
      rw [hg'] at d0 d1 d2 d3 d4 d5 d6 d7 d8 HFAR
      clear hg' hA
      go_upto_region 14 with fail
      refine wp_name ?_
      intro W4 hW
      have HB4 : Hid (W4.heap[wr.heap.size]? = some (.cells (cells9 g) 47 (0, 0))) := hide (by rw [← hW]; exact heap_alloc_new _ _)
      have HG4 : Hid (Grew W3 W4) := hide (by rw [← hW]; exact HG.out.trans gw)
      clear hW d0 d1 d2 d3 d4 d5 d6 d7 d8 hix hb
      go_wp2_with fail
      obtain ⟨Wz, hz⟩ : ∃ z, z = wr := ⟨wr, rfl⟩
      subst hz
      go_loopw [5, 76] (fun up i wr => ∃ m : Nat, m ≤ q ∧ i = .int .i64 m ∧ up = .bool true ∧ Grew W4 wr) (fun _ i _ => q - (intOf i).toNat)
      case atStart => exact ⟨0, by omega, rfl, rfl, gw⟩
      case round =>
       obtain ⟨m, hm', rfl, rfl, hg⟩ := hrel
       have HGm := hide hg
       clear hg
       by_cases hlm : m < q
       ·have hgw := HG3.out.trans (HG4.out.trans HGm.out)
        obtain ⟨b2, off2, hA2, hb2, fc⟩ := rowAt (HRD.out.up hgw).row (show m < gs.length by omega)
        have hix2 := idx_run (cap := c1) Tryz.underlying37 Tryz.sizeOf47 hA2.out hlm
        have HFR := hide (fun kg kf dx dy => HFAR.out m hlm (dx := dx) (dy := dy) kg kf)
        obtain ⟨d0, d1, d2, d3, d4, d5, d6, d7, d8⟩ := fc
        obtain ⟨f, hf'⟩ : ∃ f, fAt gs m = f := ⟨_, rfl⟩
        rw [hf'] at d0 d1 d2 d3 d4 d5 d6 d7 d8 HFR
        clear hf' hA2 hgw
        go_upto_region 17 with fail
        refine wp_name ?_
        intro W5 hW
        have HB5 : Hid (W5.heap[wr.heap.size]? = some (.cells (cells9 f) 47 (0, 0))) := hide (by rw [← hW]; exact heap_alloc_new _ _)
        have HG5 : Hid (Grew W4 W5) := hide (by rw [← hW]; exact HGm.out.trans gw)
        clear hW d0 d1 d2 d3 d4 d5 d6 d7 d8 hix2 hb2
        have hbk := (HG5.out.heap (blk_lt HB4.out)).trans HB4.out
        have p1 : W5.cell? ⟨Wz.heap.size, 1, none⟩ = some (.int .i64 g.kind) := blk_cell hbk 1
        have p2 : W5.cell? ⟨Wz.heap.size, 2, none⟩ = some (.int .i64 g.x) := blk_cell hbk 2
        have p3 : W5.cell? ⟨Wz.heap.size, 3, none⟩ = some (.int .i64 g.y) := blk_cell hbk 3
        have pl := blk_lt hbk
        have q1 : W5.cell? ⟨wr.heap.size, 1, none⟩ = some (.int .i64 f.kind) := blk_cell HB5.out 1
        have q2 : W5.cell? ⟨wr.heap.size, 2, none⟩ = some (.int .i64 f.x) := blk_cell HB5.out 2
        have q3 : W5.cell? ⟨wr.heap.size, 3, none⟩ = some (.int .i64 f.y) := blk_cell HB5.out 3
        have ql := blk_lt HB5.out
        have hbx := HBX.out.up (HG3.out.trans (HG4.out.trans HG5.out))
        obtain ⟨⟨_, r1, r2⟩, rl⟩ := hbx
        clear hbk
        obtain ⟨dx, hdx⟩ : ∃ z, IntKind.i64.wrap (g.x - f.x) = z := ⟨_, rfl⟩
        obtain ⟨dy, hdy⟩ : ∃ z, IntKind.i64.wrap (g.y - f.y) = z := ⟨_, rfl⟩
        refine wp_region_qas 16 [] [] hm (h := ?_)
        repeat (refine wpSteady_step (fun K hK => ?_); go_simp; refine hK _ ?_; clear hK K)
        refine rq0 fun nqz osqz => ?_
        try simp only [Act.put, setA]
        try dsimp only
        by_cases e1 : g.kind = k
        ·by_cases e2 : f.kind = k
         ·obtain ⟨s1, s2, s3, s4, s5⟩ := HFR.out e1 e2 dx dy hdx hdy
          rw [e1] at p1
          rw [e2] at q1
          clear e1 e2 hdx hdy p2 p3 q2 q3
          go_wp2_with fail
          go_roundw
          case rel => exact ⟨m + 1, by omega, by go_num, rfl, HG5.out.trans gw⟩
          case measure => simp [intOf]; omega
         ·have e2b : (f.kind == k) = false := by simpa using e2
          rw [e1] at p1
          clear e1 hdx hdy p2 p3 q2 q3
          go_wp2_with fail
          go_roundw
          case rel => exact ⟨m + 1, by omega, by go_num, rfl, HG5.out.trans gw⟩
          case measure => simp [intOf]; omega
        ·have e1b : (g.kind == k) = false := by simpa using e1
         clear hdx hdy p2 p3 q2 q3
         go_wp2_with fail
         go_roundw
         case rel => exact ⟨m + 1, by omega, by go_num, rfl, HG5.out.trans gw⟩
         case measure => simp [intOf]; omega
       ·obtain rfl : m = q := by omega
        go_wp2_with fail
        go_roundw
        case rel => exact ⟨m + 1, by omega, by go_num, rfl, HG4.out.trans (HGm.out.trans gw)⟩
        case measure => simp [intOf]; omega
     ·obtain rfl : q = gs.length := by omega
      go_wp2_with fail
      go_ret
      exact Ret.mk' rfl (HG1.out.trans (HG3.out.trans (HG.out.trans gw)))
   ·have hlen := HLEN.out h3
    have h3b : (o == 3) = false := by simpa using h3
    have hle1 : (gs.length : Int) = (fs.length : Int) := by omega
    have hle2 : ((gs.length : Int) == (fs.length : Int)) = true := by simpa using hle1
    clear hlen hle1
    go_wp2_with (go_at_call 18; with_reducible refine crv (ks.out _ gw) fun _ _ => ?_; dsimp only)
    go_ret
    exact Ret.mk' rfl (HG1.out.trans (HG2.out.trans gw))
  ·rw [h1]
   dsimp only
   go_wp2_with fail
   go_ret
   exact Ret.mk' rfl (HG1.out.trans gw)
  ·rw [h3]
   dsimp only
   go_wp2_with fail
   go_ret
   exact Ret.mk' rfl (HG1.out.trans gw)
end Go.Proofs.YtfeccolljfkejaaGreatDoor
