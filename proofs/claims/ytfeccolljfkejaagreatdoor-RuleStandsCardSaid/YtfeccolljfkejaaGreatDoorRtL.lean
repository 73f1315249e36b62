/- The law RuleStands: plain, and walked. -/
import Derived.Test.YtfeccolljfkejaaGreatDoorRpI
import Derived.Test.YtfeccolljfkejaaGreatDoorRuS
set_option linter.unusedSimpArgs false
set_option linter.unusedVariables false
set_option maxHeartbeats 16000000
set_option maxRecDepth 100000
namespace Go.Proofs.YtfeccolljfkejaaGreatDoor
open Go.RowKit Go.Sort
attribute [local go_sem] Steady steadyUpon
attribute [local go_sem ↓] hs_dr lt_add_r lt_add_r2 lt_add_r3 lt_add_r4 lt_add_r5 lt_add_r6
attribute [local go_sem] cell?_gd frozen?_gd setCell_gd size_grow tape_grow cell?_grow' frozen?_grow' setCell_grow' grow_grow grow_dr grow_drew dr_dr dr_drew drew_dr dr_alloc dr_setCell dr_cell dr_frozen dr_tape dr_drawn
attribute [local irreducible] wpSteady
theorem nodup_le : ∀ (xs ys : List Int), xs.Nodup → (∀ x ∈ xs, x ∈ ys) → xs.length ≤ ys.length
 | [], _, _, _ => by simp
 | x :: xs, ys, hn, hs => by
  have h1 := List.nodup_cons.1 hn
  have hx := hs x (List.mem_cons_self ..)
  have := nodup_le xs (ys.erase x) h1.2 (fun y hy => (List.mem_erase_of_ne (fun e => h1.1 (by rw [← e]; exact hy))).2 (hs y (List.mem_cons_of_mem _ hy)))
  rw [List.length_erase_of_mem hx] at this
  have := List.length_pos_of_mem hx
  rw [List.length_cons]
  omega
theorem kin_len {fs gs : List FV} (h : FList gs = true) (hk : ∀ g ∈ gs, Kin fs g) : gs.length ≤ fs.length := by
 have := nodup_le (gs.map FV.id) (fs.map FV.id) (by
  have hp := (list_iff.1 h).1
  rw [List.Nodup, List.pairwise_map]
  exact hp.imp fun h e => by omega) (fun x hx => by
  obtain ⟨g, hg, rfl⟩ := List.mem_map.1 hx
  obtain ⟨f, hf, e, _⟩ := hk g hg
  exact List.mem_map.2 ⟨f, hf, e⟩)
 simpa using this
def kinB (f g : FV) : Bool := decide (f.id = g.id) && (decide (f.kind = g.kind) && decide (f.sym = g.sym))
def knB (fs : List FV) (g : FV) (m : Nat) : Bool := (List.range m).any fun j => kinB (fAt fs j) g
theorem knB_succ (fs : List FV) (g : FV) (m : Nat) : knB fs g (m + 1) = (knB fs g m || kinB (fAt fs m) g) := by
 unfold knB
 rw [List.range_succ, List.any_append]
 simp
def stB (f g : FV) : Bool := (standsOf f g).2 == 0 && ((standsOf f g).1 && decide (f.kind = g.kind))
def stnB (gs : List FV) (f : FV) (m : Nat) : Bool := (List.range m).any fun j => stB f (fAt gs j)
theorem stnB_succ (gs : List FV) (f : FV) (m : Nat) : stnB gs f (m + 1) = (stnB gs f m || stB f (fAt gs m)) := by
 unfold stnB
 rw [List.range_succ, List.any_append]
 simp
theorem any_mem {l : List FV} {p : FV → Bool} {f : FV} (hf : f ∈ l) (hp : p f = true) : ((List.range l.length).any fun j => p (fAt l j)) = true := by
 obtain ⟨k, hk, e⟩ := fAt_of_mem hf
 rw [List.any_eq_true]
 exact ⟨k, List.mem_range.2 hk, by rw [e]; exact hp⟩
theorem kin_all {fs gs : List FV} (hk : ∀ g ∈ gs, Kin fs g) {k : Nat} (h : k < gs.length) : knB fs (fAt gs k) fs.length = true := by
 obtain ⟨f, hf, a, b, c⟩ := hk _ (fAt_mem h)
 exact any_mem (p := fun f => kinB f (fAt gs k)) hf (by unfold kinB; simp [a, b, c])
theorem kin_bare {fs gs gs' : List FV} (h : gs.map FV.bare = gs'.map FV.bare) (hk : ∀ g ∈ gs', Kin fs g) : ∀ g ∈ gs, Kin fs g := fun g hg => by
 obtain ⟨g', hg', e⟩ := mem_bare h hg
 obtain ⟨f, hf, a, b, c⟩ := hk g' hg'
 have e1 : g'.id = g.id := (congrArg FV.id e : g'.bare.id = g.bare.id)
 have e2 : g'.kind = g.kind := (congrArg FV.kind e : g'.bare.kind = g.bare.kind)
 have e3 : g'.sym = g.sym := (congrArg FV.sym e : g'.bare.sym = g.bare.sym)
 exact ⟨f, hf, a.trans e1, b.trans e2, c.trans e3⟩
theorem st_all {fs gs gs' : List FV} (h : gs.map FV.bare = gs'.map FV.bare) (hs : ∀ f ∈ fs, ∃ g ∈ gs', metB f g = true ∧ g.kind = f.kind) {k : Nat} (hk : k < fs.length) : stnB gs (fAt fs k) gs.length = true := by
 obtain ⟨g', hg', h1, h2⟩ := hs _ (fAt_mem hk)
 obtain ⟨g, hg, e⟩ := mem_bare h.symm hg'
 have e2 : g.kind = g'.kind := (congrArg FV.kind e : g.bare.kind = g'.bare.kind)
 have h3 : metB (fAt fs k) g = true := by rw [met_of e]; exact h1
 refine any_mem (p := fun g => stB (fAt fs k) g) hg ?_
 unfold metB at h3
 unfold stB
 rw [Bool.and_eq_true] at h3
 rw [h3.1, h3.2, decide_eq_true (by rw [e2, h2])]
 rfl
abbrev cells9 (f : FV) : Array Value := #[.int .i64 f.id, .int .i64 f.kind, .int .i64 f.x, .int .i64 f.y, .int .i64 f.rad, .slice f.aA f.area.length f.ac, .int .i64 f.dep, .int .i64 f.sym, .slice f.sA f.secs.length f.sc]
theorem ruleStands_row (rs : List Ru) (Ar : Option Addr) (cr : Nat) (fs : List FV) (A : Option Addr) (c : Nat) (w : World) (hrr : Rd w w.heap.size 3 Ar (rs.map encR)) (hcr : rs.length ≤ 100000000000000) (hr : FRd w w.heap.size A fs) (hc : fs.length ≤ 100000000000000) (hl : KwAt w w.heap.size ∧ TabP w) :
  Calls Tryz.prog 11 #[.slice Ar rs.length cr, .slice A fs.length c] w (Ret w (.bool true)) := by
 have hm := hmix
 have HH := hide (head_g hl.1 (Nat.le_refl _) hl.2)
 obtain ⟨fw, hfw⟩ : ∃ r, decide (rs.length ≤ 10 ∧ fs.length ≤ 16) = r := ⟨_, rfl⟩
 have kf := hide (fun W => few_v Ar A rs.length fs.length cr c fw W hfw)
 cases fw
 ·clear hrr hr
  go_enter Tryz.func11, Tryz.ntmps11
  go_wp2_with (first | (go_at_call 12; with_reducible refine crv (HH.out _ gw) fun _ _ => ?_; dsimp only) | (go_at_call 16; with_reducible refine crv (kf.out _) fun _ _ => ?_; dsimp only))
  go_ret
  exact Ret.mk' rfl gw
 ·clear hfw
  have HR := hide hr
  have kr := hide (fun W (hg : Grew w W) => Run_v rs fs Ar A cr c W (hrr.up hg) (hr.up hg) hcr hc)
  have hfa := run_facts rs fs
  have HST : Hid ((runOf rs fs).2 = 0 → ∀ f ∈ fs, ∃ g ∈ (runOf rs fs).1, metB f g = true ∧ g.kind = f.kind) := hide (fun h0 f hf => run_stands h0 hf)
  have HFA := hide hfa
  clear hfa hrr hr
  go_enter Tryz.func11, Tryz.ntmps11
  go_wp2_with (first | (go_at_call 12; with_reducible refine crv (HH.out _ gw) fun _ _ => ?_; dsimp only) | (go_at_call 16; with_reducible refine crv (kf.out _) fun _ _ => ?_; dsimp only))
  refine (kr.out _ gw).mono ?_
  rintro e W1 ⟨A', c', gs, rfl, hb, hrd, hg⟩
  have HG1 : Hid (Grew w W1) := hide (Grew.trans gw hg)
  have HRD := hide hrd
  have HB := hide hb
  clear hrd hb hg kr kf HH
  rcases HFA.out with ⟨h0, _, _, hL, hK⟩ | ⟨h3, _⟩ | ⟨h1, _⟩
  ·rw [h0]
   have hK2 := kin_bare HB.out hK
   have hL2 : FList gs = true := by rw [FList_of HB.out]; exact hL
   have hlen := kin_len hL2 hK2
   have h300 : gs.length ≤ 300 := by rw [len_of HB.out]; exact run_le
   have hlen1 : (gs.length : Int) ≤ (fs.length : Int) := by omega
   have hlen2 : decide ((gs.length : Int) ≤ (fs.length : Int)) = true := decide_eq_true hlen1
   have kl := hide (fun W (hg : Grew W1 W) => FList_v gs A' c' true W (HRD.out.up hg) (by omega) hL2)
   have HK2 := hide hK2
   have HS2 := hide (fun (k : Nat) (hk : k < fs.length) => st_all HB.out (HST.out h0) hk)
   clear hK2 hL2 hL hK h0 HST HFA hlen
   dsimp only
   go_wp2_with (go_at_call 31; with_reducible refine crv (kl.out _ gw) fun _ _ => ?_; dsimp only)
   refine wp_name ?_
   intro W3 hW
   have HG3 : Hid (Grew W1 W3) := hide (by rw [← hW]; exact gw)
   clear hW kl hlen1 hlen2
   go_loopw [5, 57] (fun up i wr => ∃ k : Nat, k ≤ gs.length ∧ i = .int .i64 k ∧ up = .bool true ∧ Grew W3 wr) (fun _ i _ => gs.length - (intOf i).toNat)
   case atStart => exact ⟨0, by omega, rfl, rfl, gw⟩
   case round =>
    obtain ⟨k, hk, rfl, rfl, hg⟩ := hrel
    have HG := hide hg
    clear hg
    by_cases hlt : k < gs.length
    ·obtain ⟨b, off, hA, hb, fc⟩ := rowAt (HRD.out.up (HG3.out.trans HG.out)).row hlt
     have hix := idx_run (cap := c') Tryz.underlying37 Tryz.sizeOf47 hA.out hlt
     have HKN : Hid (knB fs (fAt gs k) fs.length = true) := hide (kin_all HK2.out hlt)
     obtain ⟨c0, c1, c2, c3, c4, c5, c6, c7, c8⟩ := fc
     obtain ⟨g, hg'⟩ : ∃ g, fAt gs k = g := ⟨_, rfl⟩
     rw [hg'] at c0 c1 c2 c3 c4 c5 c6 c7 c8 HKN
     clear hg' hA
     go_upto_region 12 with fail
     refine wp_name ?_
     intro W4 hW
     have HB4 : Hid (W4.heap[wr.heap.size]? = some (.cells (cells9 g) 47 (0, 0))) := hide (by rw [← hW]; exact heap_alloc_new _ _)
     have HG4 : Hid (Grew W3 W4) := hide (by rw [← hW]; exact HG.out.trans gw)
     clear hW c0 c1 c2 c3 c4 c5 c6 c7 c8 hix hb
     go_wp2_with fail
     obtain ⟨Wz, hz⟩ : ∃ z, z = wr := ⟨wr, rfl⟩
     subst hz
     go_loopw [10, 63] (fun kn i wr => ∃ m : Nat, m ≤ fs.length ∧ i = .int .i64 m ∧ kn = .bool (knB fs g m) ∧ Grew W4 wr) (fun _ i _ => fs.length - (intOf i).toNat)
     case atStart => exact ⟨0, by omega, rfl, rfl, gw⟩
     case round =>
      obtain ⟨m, hm', rfl, rfl, hg⟩ := hrel
      have HGm := hide hg
      obtain ⟨u, hu⟩ : ∃ u, knB fs g m = u := ⟨_, rfl⟩
      have HU := hide hu
      have hbk := (hg.heap (blk_lt HB4.out)).trans HB4.out
      have p0 : wr.cell? ⟨Wz.heap.size, 0, none⟩ = some (.int .i64 g.id) := blk_cell hbk 0
      have p1 : wr.cell? ⟨Wz.heap.size, 1, none⟩ = some (.int .i64 g.kind) := blk_cell hbk 1
      have p7 : wr.cell? ⟨Wz.heap.size, 7, none⟩ = some (.int .i64 g.sym) := blk_cell hbk 7
      have pl := blk_lt hbk
      rw [hu]
      by_cases hlm : m < fs.length
      ·obtain ⟨b2, off2, hA2, hb2, fc⟩ := rowAt (HR.out.up (HG1.out.trans (HG3.out.trans (HG4.out.trans hg)))).row hlm
       have hix2 := idx_run (cap := c) Tryz.underlying37 Tryz.sizeOf47 hA2.out hlm
       have hsu := knB_succ fs g m
       rw [hu] at hsu
       obtain ⟨d0, d1, d2, d3, d4, d5, d6, d7, d8⟩ := fc
       obtain ⟨f, hf'⟩ : ∃ f, fAt fs m = f := ⟨_, rfl⟩
       rw [hf'] at d0 d1 d2 d3 d4 d5 d6 d7 d8 hsu
       have HSU := hide hsu
       clear hf' hA2 hg hbk hu hsu
       cases u
       ·by_cases e0 : f.id = g.id
        ·by_cases e1 : f.kind = g.kind
         ·by_cases e7 : f.sym = g.sym
          ·have hv : kinB f g = true := by unfold kinB; simp [e0, e1, e7]
           have HV := hide hv
           rw [e0] at d0
           rw [e1] at d1
           rw [e7] at d7
           clear hv e0 e1 e7
           go_wp2_with fail
           go_roundw
           case rel => exact ⟨m + 1, by omega, by go_num, ret_bool (by rw [HSU.out, HV.out]; rfl), HGm.out.trans gw⟩
           case measure => simp [intOf]; omega
          ·have hv : kinB f g = false := by unfold kinB; simp [e7]
           have HV := hide hv
           have e7b : (f.sym == g.sym) = false := by simpa using e7
           rw [e0] at d0
           rw [e1] at d1
           clear hv e0 e1
           go_wp2_with fail
           go_roundw
           case rel => exact ⟨m + 1, by omega, by go_num, ret_bool (by rw [HSU.out, HV.out]; rfl), HGm.out.trans gw⟩
           case measure => simp [intOf]; omega
         ·have hv : kinB f g = false := by unfold kinB; simp [e1]
          have HV := hide hv
          have e1b : (f.kind == g.kind) = false := by simpa using e1
          rw [e0] at d0
          clear hv e0
          go_wp2_with fail
          go_roundw
          case rel => exact ⟨m + 1, by omega, by go_num, ret_bool (by rw [HSU.out, HV.out]; rfl), HGm.out.trans gw⟩
          case measure => simp [intOf]; omega
        ·have hv : kinB f g = false := by unfold kinB; simp [e0]
         have HV := hide hv
         have e0b : (f.id == g.id) = false := by simpa using e0
         clear hv
         go_wp2_with fail
         go_roundw
         case rel => exact ⟨m + 1, by omega, by go_num, ret_bool (by rw [HSU.out, HV.out]; rfl), HGm.out.trans gw⟩
         case measure => simp [intOf]; omega
       ·obtain ⟨v, hv⟩ : ∃ v, kinB f g = v := ⟨_, rfl⟩
        have HV := hide hv
        clear hv
        go_wp2_with fail
        go_roundw
        case rel => exact ⟨m + 1, by omega, by go_num, ret_bool (by rw [HSU.out, HV.out]; rfl), HGm.out.trans gw⟩
        case measure => simp [intOf]; omega
      ·obtain rfl : m = fs.length := by omega
       have : u = true := by rw [← hu]; exact HKN.out
       subst this
       clear hu hg hbk
       go_wp2_with fail
       go_roundw
       case rel => exact ⟨k + 1, by omega, by go_num, by simp, HG4.out.trans (HGm.out.trans gw)⟩
       case measure => simp [intOf]; omega
    ·obtain rfl : k = gs.length := by omega
     go_wp2_with fail
     refine wp_name ?_
     intro W5 hW
     have HG5 : Hid (Grew W1 W5) := hide (by rw [← hW]; exact HG3.out.trans (HG.out.trans gw))
     clear hW HG hlt hk HG3
     obtain ⟨Wy, hz⟩ : ∃ z, z = wr := ⟨wr, rfl⟩
     subst hz
     go_loopw [5, 97] (fun up i wr => ∃ k : Nat, k ≤ fs.length ∧ i = .int .i64 k ∧ up = .bool true ∧ Grew W5 wr) (fun _ i _ => fs.length - (intOf i).toNat)
     case atStart => exact ⟨0, by omega, rfl, rfl, gw⟩
     case round =>
      obtain ⟨k, hk, rfl, rfl, hg⟩ := hrel
      have HG := hide hg
      clear hg
      by_cases hlt : k < fs.length
      ·obtain ⟨b, off, hA, hb, fc⟩ := rowAt (HR.out.up (HG1.out.trans (HG5.out.trans HG.out))).row hlt
       have hix := idx_run (cap := c) Tryz.underlying37 Tryz.sizeOf47 hA.out hlt
       have HSN := hide (HS2.out k hlt)
       have HMF := hide (fAt_mem hlt)
       obtain ⟨c0, c1, c2, c3, c4, c5, c6, c7, c8⟩ := fc
       obtain ⟨f, hf'⟩ : ∃ f, fAt fs k = f := ⟨_, rfl⟩
       rw [hf'] at c0 c1 c2 c3 c4 c5 c6 c7 c8 HSN HMF
       clear hf' hA
       go_upto_region 23 with fail
       refine wp_name ?_
       intro W6 hW
       have HB6 : Hid (W6.heap[wr.heap.size]? = some (.cells (cells9 f) 47 (0, 0))) := hide (by rw [← hW]; exact heap_alloc_new _ _)
       have HG6 : Hid (Grew W5 W6) := hide (by rw [← hW]; exact HG.out.trans gw)
       clear hW c0 c1 c2 c3 c4 c5 c6 c7 c8 hix hb
       go_wp2_with fail
       obtain ⟨Wx, hz⟩ : ∃ z, z = wr := ⟨wr, rfl⟩
       subst hz
       go_loopw [15, 103] (fun kn i wr => ∃ m : Nat, m ≤ gs.length ∧ i = .int .i64 m ∧ kn = .bool (stnB gs f m) ∧ Grew W6 wr) (fun _ i _ => gs.length - (intOf i).toNat)
       case atStart => exact ⟨0, by omega, rfl, rfl, gw⟩
       case round =>
        obtain ⟨m, hm', rfl, rfl, hg⟩ := hrel
        have HGm := hide hg
        obtain ⟨u, hu⟩ : ∃ u, stnB gs f m = u := ⟨_, rfl⟩
        have HU := hide hu
        rw [hu]
        by_cases hlm : m < gs.length
        ·have hbk := (hg.heap (blk_lt HB6.out)).trans HB6.out
         have p0 : wr.cell? ⟨Wx.heap.size, 0, none⟩ = some (.int .i64 f.id) := blk_cell hbk 0
         have p1 : wr.cell? ⟨Wx.heap.size, 1, none⟩ = some (.int .i64 f.kind) := blk_cell hbk 1
         have p2 : wr.cell? ⟨Wx.heap.size, 2, none⟩ = some (.int .i64 f.x) := blk_cell hbk 2
         have p3 : wr.cell? ⟨Wx.heap.size, 3, none⟩ = some (.int .i64 f.y) := blk_cell hbk 3
         have p4 : wr.cell? ⟨Wx.heap.size, 4, none⟩ = some (.int .i64 f.rad) := blk_cell hbk 4
         have p5 : wr.cell? ⟨Wx.heap.size, 5, none⟩ = some (.slice f.aA f.area.length f.ac) := blk_cell hbk 5
         have p6 : wr.cell? ⟨Wx.heap.size, 6, none⟩ = some (.int .i64 f.dep) := blk_cell hbk 6
         have p7 : wr.cell? ⟨Wx.heap.size, 7, none⟩ = some (.int .i64 f.sym) := blk_cell hbk 7
         have p8 : wr.cell? ⟨Wx.heap.size, 8, none⟩ = some (.slice f.sA f.secs.length f.sc) := blk_cell hbk 8
         have pl := blk_lt hbk
         have hgw := HG5.out.trans (HG6.out.trans hg)
         obtain ⟨b2, off2, hA2, hb2, fc⟩ := rowAt (HRD.out.up hgw).row hlm
         have hix2 := idx_run (cap := c') Tryz.underlying37 Tryz.sizeOf47 hA2.out hlm
         have hsu := stnB_succ gs f m
         rw [hu] at hsu
         have HMG := hide (fAt_mem hlm)
         obtain ⟨d0, d1, d2, d3, d4, d5, d6, d7, d8⟩ := fc
         obtain ⟨g, hg'⟩ : ∃ g, fAt gs m = g := ⟨_, rfl⟩
         rw [hg'] at d0 d1 d2 d3 d4 d5 d6 d7 d8 hsu HMG
         have HSU := hide hsu
         obtain ⟨⟨is, hh⟩, hst⟩ : ∃ x, standsOf f g = x := ⟨_, rfl⟩
         have kst := hide (fun W (hg : Grew wr W) => Stands_v f g (is, hh) W ((HR.out.up (HG1.out.trans (hgw.trans hg))).each f HMF.out) ((HRD.out.up (hgw.trans hg)).each g HMG.out) hst)
         have hvv : stB f g = (hh == 0 && (is && decide (f.kind = g.kind))) := by unfold stB; rw [hst]
         have HVV := hide hvv
         clear hg' hA2 hg hbk hu hsu hgw hst hvv
         cases u
         ·by_cases e0 : hh = 0
          ·subst e0
           cases is
           ·have HV : Hid (stB f g = false) := hide (by rw [HVV.out]; rfl)
            go_wp2_with (go_at_call 32; with_reducible refine crv (kst.out _ gw) fun _ _ => ?_; dsimp only)
            go_roundw
            case rel => exact ⟨m + 1, by omega, by go_num, ret_bool (by rw [HSU.out, HV.out]; rfl), HGm.out.trans gw⟩
            case measure => simp [intOf]; omega
           ·by_cases e1 : f.kind = g.kind
            ·have HV : Hid (stB f g = true) := hide (by rw [HVV.out, decide_eq_true e1]; rfl)
             have e1c : (f.kind == g.kind) = true := by simpa using e1
             clear e1
             go_wp2_with (go_at_call 32; with_reducible refine crv (kst.out _ gw) fun _ _ => ?_; dsimp only)
             go_roundw
             case rel => exact ⟨m + 1, by omega, by go_num, ret_bool (by rw [HSU.out, HV.out]; rfl), HGm.out.trans gw⟩
             case measure => simp [intOf]; omega
            ·have HV : Hid (stB f g = false) := hide (by rw [HVV.out, decide_eq_false e1]; rfl)
             have e1b : (f.kind == g.kind) = false := by simpa using e1
             go_wp2_with (go_at_call 32; with_reducible refine crv (kst.out _ gw) fun _ _ => ?_; dsimp only)
             go_roundw
             case rel => exact ⟨m + 1, by omega, by go_num, ret_bool (by rw [HSU.out, HV.out]; rfl), HGm.out.trans gw⟩
             case measure => simp [intOf]; omega
          ·have e0b : (hh == 0) = false := by simpa using e0
           have HV : Hid (stB f g = false) := hide (by rw [HVV.out, e0b]; rfl)
           go_wp2_with (go_at_call 32; with_reducible refine crv (kst.out _ gw) fun _ _ => ?_; dsimp only)
           go_roundw
           case rel => exact ⟨m + 1, by omega, by go_num, ret_bool (by rw [HSU.out, HV.out]; rfl), HGm.out.trans gw⟩
           case measure => simp [intOf]; omega
         ·obtain ⟨v, hv⟩ : ∃ v, stB f g = v := ⟨_, rfl⟩
          have HV := hide hv
          clear hv
          go_wp2_with (go_at_call 32; with_reducible refine crv (kst.out _ gw) fun _ _ => ?_; dsimp only)
          go_roundw
          case rel => exact ⟨m + 1, by omega, by go_num, ret_bool (by rw [HSU.out, HV.out]; rfl), HGm.out.trans gw⟩
          case measure => simp [intOf]; omega
        ·obtain rfl : m = gs.length := by omega
         have : u = true := by rw [← hu]; exact HSN.out
         subst this
         clear hu hg
         go_wp2_with fail
         go_roundw
         case rel => exact ⟨k + 1, by omega, by go_num, by simp, HG6.out.trans (HGm.out.trans gw)⟩
         case measure => simp [intOf]; omega
      ·obtain rfl : k = fs.length := by omega
       go_wp2_with fail
       go_ret
       exact Ret.mk' rfl (HG1.out.trans (HG5.out.trans (HG.out.trans gw)))
  ·rw [h3]
   dsimp only
   go_wp2_with fail
   go_ret
   exact Ret.mk' rfl (HG1.out.trans gw)
  ·rw [h1]
   dsimp only
   go_wp2_with fail
   go_ret
   exact Ret.mk' rfl (HG1.out.trans gw)
end Go.Proofs.YtfeccolljfkejaaGreatDoor
