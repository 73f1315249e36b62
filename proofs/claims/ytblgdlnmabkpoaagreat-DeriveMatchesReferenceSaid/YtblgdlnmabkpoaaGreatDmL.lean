/- The law DeriveMatchesReference, walked. -/
import Derived.Test.YtblgdlnmabkpoaaGreatRnX
import Derived.Test.YtblgdlnmabkpoaaGreatDrY
set_option linter.unusedSimpArgs false
set_option linter.unusedVariables false
set_option maxHeartbeats 32000000
set_option maxRecDepth 100000
namespace Go.Proofs.YtblgdlnmabkpoaaGreat
open Go.RowKit Go.Sort
attribute [local go_sem] Steady steadyUpon
attribute [local go_sem ↓] hs_dr lt_add_r lt_add_r2 lt_add_r3 lt_add_r4 lt_add_r5 lt_add_r6
attribute [local go_sem] cell?_gd frozen?_gd setCell_gd size_grow tape_grow cell?_grow' frozen?_grow' setCell_grow' grow_grow grow_dr grow_drew dr_dr dr_drew drew_dr dr_alloc dr_setCell dr_cell dr_frozen dr_tape dr_drawn
attribute [local irreducible] wpSteady
theorem few_v (A B C:Option Addr)(a b c d e f:Nat)(r:Bool)(w:World)(h:decide (a≤12∧b≤12∧e≤12)=r):Calls Tryz.prog 5 #[.slice A a c,.slice B b d,.slice C e f] w (Ret w (.bool r)):=by
 have hcase:(a≤12∧b≤12∧e≤12∧r=true)∨(¬ a≤12∧r=false)∨(a≤12∧¬ b≤12∧r=false)∨(a≤12∧b≤12∧¬ e≤12∧r=false):=by
  by_cases h1:a≤12<;>by_cases h2:b≤12<;>by_cases h3:e≤12<;>simp[h1,h2,h3] at h ⊢ <;> (first|exact h|exact h.symm)
 clear h
 rcases hcase with⟨h1,h2,h3,rfl⟩|⟨h1,rfl⟩|⟨h1,h2,rfl⟩|⟨h1,h2,h3,rfl⟩
 ·have g1:(a:Int)≤12:=by omega
  have g2:(b:Int)≤12:=by omega
  have g3:(e:Int)≤12:=by omega
  clear h1 h2 h3
  go_enter Tryz.func5,Tryz.ntmps5
  go_wp2_with fail
  go_ret
  exact Ret.mk' rfl gw
 ·have g1:¬ (a:Int)≤12:=by omega
  clear h1
  go_enter Tryz.func5,Tryz.ntmps5
  go_wp2_with fail
  go_ret
  exact Ret.mk' rfl gw
 ·have g1:(a:Int)≤12:=by omega
  have g2:¬ (b:Int)≤12:=by omega
  clear h1 h2
  go_enter Tryz.func5,Tryz.ntmps5
  go_wp2_with fail
  go_ret
  exact Ret.mk' rfl gw
 ·have g1:(a:Int)≤12:=by omega
  have g2:(b:Int)≤12:=by omega
  have g3:¬ (e:Int)≤12:=by omega
  clear h1 h2 h3
  go_enter Tryz.func5,Tryz.ntmps5
  go_wp2_with fail
  go_ret
  exact Ret.mk' rfl gw
theorem run_le3d (rs:List Ru)(fs:List FV):(runOf rs fs).1.length≤300:=by
 unfold runOf
 split
 ·rename_i h
  rw[Bool.and_eq_true] at h
  exact run_len (list_len h.2) _ (Nat.le_refl _)
 ·simp
theorem make_len (fs:List FV)(rs:List Ru):(makeOf fs rs).1.2.length≤fs.length:=by
 unfold makeOf
 split
 ·split
  ·dsimp only
   unfold proveOf
   split
   ·split
    ·show (prvS _ _ _).length≤_
     unfold prvS
     rw[List.length_map]
     exact countsTo_len _ _ _
    ·simp
   ·simp
  ·simp
 ·simp
theorem make_len1 (fs:List FV)(rs:List Ru)(h:fs.length≤12):(makeOf fs rs).1.1.length≤300:=by
 have h1:=run_le3d rs fs
 have h2:=chart_len (runOf rs fs).1 (capOf rs).1
 unfold makeOf
 split
 ·split
  ·dsimp only
   omega
  ·simp
 ·simp
theorem prove_len (fs gs:List FV)(lim:Int):(proveOf fs gs lim).1.length≤fs.length:=by
 unfold proveOf
 split
 ·split
  ·show (prvS _ _ _).length≤_
   unfold prvS
   rw[List.length_map]
   exact countsTo_len _ _ _
  ·simp
 ·simp
theorem unproved_len (fs gs:List FV)(lim:Int):(unprovedOf fs gs lim).1.length≤fs.length:=by
 unfold unprovedOf
 split
 ·exact Nat.le_trans (unpS_len _ _ _) (countsTo_len _ _ _)
 ·simp
theorem again_len (ps ms:List Pt):(againOf ps ms).1.length≤ps.length:=by
 unfold againOf
 split
 ·exact againTo_len _ _ _
 ·simp
theorem deriveMatches_row (fs:List FV)(A:Option Addr)(c:Nat)(gs:List FV)(A':Option Addr)(c':Nat)(rs:List Ru)(Ar:Option Addr)(cr:Nat)(lim:Int)(ps:List Pt)(Ap:Option Addr)(cp:Nat)(ms:List Pt)(Am:Option Addr)(cm:Nat)(p1 p2:Int)(w:World)
  (hr:FRd w w.heap.size A fs) (hc:fs.length≤100000000000000) (hr':FRd w w.heap.size A' gs) (hc':gs.length≤100000000000000) (hrr:Rd w w.heap.size 3 Ar (rs.map encR)) (hcr:rs.length≤100000000000000) (hrp:Rd w w.heap.size 2 Ap (ps.map encD)) (hcp:ps.length≤100000000000000) (hrm:Rd w w.heap.size 2 Am (ms.map encD)) (hcm:ms.length≤100000000000000) :
  Calls Tryz.prog 3 #[.slice A fs.length c,.slice A' gs.length c',.slice Ar rs.length cr,.int .i64 lim,.slice Ap ps.length cp,.slice Am ms.length cm,pt p1 p2] w (Ret w (.bool true)):=by
 have hm:=hmix
 obtain⟨fw,hfw⟩:∃r,decide (fs.length≤12∧gs.length≤12∧rs.length≤12)=r:=⟨_,rfl⟩
 have kf:=hide (fun W=>few_v A A' Ar fs.length gs.length c c' rs.length cr fw W hfw)
 cases fw
 ·clear hr hr' hrr hrp hrm
  go_enter Tryz.func3,Tryz.ntmps3
  go_wp2_with (first|(go_at_call 4;with_reducible refine crv (head_v _) fun _ _=>?_;dsimp only)|(go_at_call 5;with_reducible refine crv (kf.out _) fun _ _=>?_;dsimp only))
  go_ret
  exact Ret.mk' rfl gw
 ·rw[decide_eq_true_eq] at hfw
  have l1:=make_len fs rs
  have l2:=make_len1 fs rs hfw.1
  have l3:=prove_len fs gs lim
  have l4:=unproved_len fs gs lim
  have l5:=again_len ps ms
  have ka:=hide (fun W (hg:Grew w W)=>Make_v fs rs A Ar c cr W (hr.up hg) (hrr.up hg) (by omega) hcr)
  have kb:=hide (fun W (hg:Grew w W)=>n13Make_v fs rs A Ar c cr W (hr.up hg) (hrr.up hg) (by omega) hcr)
  have kc:=hide (fun W (hg:Grew w W)=>Check_v fs gs ps A A' Ap c c' cp lim W (hr.up hg) (hr'.up hg) (hrp.up hg) hc hc' hcp)
  have kd:=hide (fun W (hg:Grew w W)=>n13Check_v fs gs ps A A' Ap c c' cp lim _ W (hr.up hg) (hr'.up hg) (hrp.up hg) hc hc' hcp rfl)
  have ku:=hide (fun W (hg:Grew w W)=>Unproved_v fs gs A A' c c' lim W (hr.up hg) (hr'.up hg) (by omega) (by omega))
  have kv:=hide (fun W (hg:Grew w W)=>n13Unproved_v fs gs A A' c c' lim W (hr.up hg) (hr'.up hg) (by omega) (by omega))
  have kp:=hide (fun W (hg:Grew w W)=>Prove_v fs gs A A' c c' lim W (hr.up hg) (hr'.up hg) (by omega) (by omega))
  have kq:=hide (fun W (hg:Grew w W)=>n13Prove_v fs gs A A' c c' lim W (hr.up hg) (hr'.up hg) (by omega) (by omega))
  have kg:=hide (fun W (hg:Grew w W)=>Again_v ps ms Ap Am cp cm W (hrp.up hg) (hrm.up hg) hcp hcm)
  have kh:=hide (fun W (hg:Grew w W)=>n13Again_v ps ms Ap Am cp cm W (hrp.up hg) (hrm.up hg) hcp hcm)
  have ks:=hide (fun W (hg:Grew w W)=>DShown_v gs A' c' lim (p1,p2) _ W (hr'.up hg) hc' rfl)
  have kt:=hide (fun W (hg:Grew w W)=>n13Shown_v gs A' c' lim (p1,p2) _ W (hr'.up hg) hc' rfl)
  generalize makeOf fs rs=mk at *
  generalize checkOf fs gs lim ps=ck at *
  generalize unprovedOf fs gs lim=up at *
  generalize proveOf fs gs lim=pv at *
  generalize againOf ps ms=ag at *
  generalize dshownOf gs lim (p1,p2)=sh at *
  obtain⟨⟨mch,mpr⟩,me⟩:=mk
  obtain⟨cv,ce⟩:=ck
  obtain⟨ul,ue⟩:=up
  obtain⟨pl,pe⟩:=pv
  obtain⟨al,ae⟩:=ag
  obtain⟨sv,se⟩:=sh
  dsimp only at l1 l2 l3 l4 l5
  have L1:=hide (show mpr.length≤100000000000000 by omega)
  have L2:=hide (show mch.length≤100000000000000 by omega)
  have L3:=hide (show pl.length≤100000000000000 by omega)
  have L4:=hide (show ul.length≤100000000000000 by omega)
  have L5:=hide (show al.length≤100000000000000 by omega)
  clear hr hr' hrr hrp hrm l1 l2 l3 l4 l5 hfw
  go_enter Tryz.func3,Tryz.ntmps3
  go_wp2_with (first|(go_at_call 4;with_reducible refine crv (head_v _) fun _ _=>?_;dsimp only)|(go_at_call 5;with_reducible refine crv (kf.out _) fun _ _=>?_;dsimp only))
  refine calls_name ?_
  intro X1 hX
  have HX1:Hid (Grew w X1):=hide (by rw[←hX];exact gw)
  have HB1:Hid (PB X1 w.heap.size (p1,p2)):=hide (by rw[←hX];exact PB.up (show PB (w.alloc (.cells #[.int .i64 p1,.int .i64 p2] 26)) w.heap.size (p1,p2) from heap_alloc_at _ _ _ (by simp)) gw)
  clear hX kf
  refine (ka.out X1 HX1.out).mono ?_
  rintro e W1 ⟨A1,c1,f1,B1,d1,rfl,hb,hrd,hpr,hg⟩
  have HG1:=hide (HX1.out.trans hg)
  have HB2:=hide (HB1.out.up hg)
  have HF1:=hide hrd
  have HE1:=hide hb
  have HP1:=hide hpr
  clear hg hrd hb hpr HX1 HB1 ka
  dsimp only at HP1 ⊢
  go_wp2_with fail
  refine calls_name ?_
  intro X2 hX
  have hgx:Grew W1 X2:=by rw[←hX];exact gw
  have HX2:=hide (HG1.out.trans hgx)
  have HB3:=hide (HB2.out.up hgx)
  have HF2:=hide (HF1.out.up hgx)
  have HP2:=hide (HP1.out.up hgx)
  clear hX hgx HG1 HB2 HF1 HP1
  refine (kb.out X2 HX2.out).mono ?_
  rintro e W2 ⟨A2,c2,f2,B2,d2,rfl,hb,hrd,hpr,hg⟩
  have HG2:=hide (HX2.out.trans hg)
  have HB4:=hide (HB3.out.up hg)
  have HF3:=hide (HF2.out.up hg)
  have HP3:=hide (HP2.out.up hg)
  have HF4:=hide hrd
  have HE2:=hide hb
  have HP4:=hide hpr
  have HEQ:=hide (HE1.out.trans hb.symm)
  have hlf:f1.length≤100000000000000:=by have:=len_of HE1.out;have:=L2.out;dsimp only at *;omega
  have HLF:=hide hlf
  clear hg hrd hb hpr HX2 HB3 HF2 HP2 kb hlf HE1 HE2
  dsimp only at HP4 ⊢
  go_wp2_with fail
  refine calls_name ?_
  intro X3 hX
  have hgx:Grew W2 X3:=by rw[←hX];exact gw
  have HX3:=hide (HG2.out.trans hgx)
  have HB5:=hide (HB4.out.up hgx)
  have HF5:=hide (HF3.out.up hgx)
  have HF6:=hide (HF4.out.up hgx)
  have HP5:=hide (HP3.out.up hgx)
  have HP6:=hide (HP4.out.up hgx)
  clear hX hgx HG2 HB4 HF3 HF4 HP3 HP4
  refine (liSame_t f1 f2 f2.length A1 A2 c1 c2 X3 rfl HF5.out HF6.out HEQ.out HLF.out).mono ?_
  rintro e W3 ⟨rfl,hg⟩
  have HG3:=hide (HX3.out.trans hg)
  have HB6:=hide (HB5.out.up hg)
  have HP7:=hide (HP5.out.up hg)
  have HP8:=hide (HP6.out.up hg)
  clear hg HX3 HB5 HF5 HF6 HP5 HP6 HEQ HLF
  dsimp only
  go_wp2_with fail
  refine calls_name ?_
  intro X4 hX
  have hgx:Grew W3 X4:=by rw[←hX];exact gw
  have HX4:=hide (HG3.out.trans hgx)
  have HB7:=hide (HB6.out.up hgx)
  have HP9:=hide (HP7.out.up hgx)
  have HP0:=hide (HP8.out.up hgx)
  clear hX hgx HG3 HB6 HP7 HP8
  refine (prSame_t mpr B1 B2 d1 d2 X4 HP9.out HP0.out L1.out).mono ?_
  rintro e W4 ⟨rfl,hg⟩
  have HG4:=hide (HX4.out.trans hg)
  have HB8:=hide (HB7.out.up hg)
  clear hg HX4 HB7 HP9 HP0 L1 L2
  dsimp only
  go_wp2_with (first|(go_at_call 10;with_reducible refine crv (kc.out _ (HG4.out.trans gw)) fun _ _=>?_;dsimp only)|(go_at_call 11;with_reducible refine crv (kd.out _ (HG4.out.trans gw)) fun _ _=>?_;dsimp only))
  refine calls_name ?_
  intro X5 hX
  have hgx:Grew W4 X5:=by rw[←hX];exact gw
  have HX5:=hide (HG4.out.trans hgx)
  have HB9:=hide (HB8.out.up hgx)
  clear hX hgx HG4 HB8 kc kd
  refine (ku.out X5 HX5.out).mono ?_
  rintro e W5 ⟨A5,c5,rfl,hrd,hg⟩
  have HG5:=hide (HX5.out.trans hg)
  have HBa:=hide (HB9.out.up hg)
  have HI1:=hide hrd
  clear hg hrd HX5 HB9 ku
  dsimp only at HI1 ⊢
  go_wp2_with fail
  refine calls_name ?_
  intro X6 hX
  have hgx:Grew W5 X6:=by rw[←hX];exact gw
  have HX6:=hide (HG5.out.trans hgx)
  have HBb:=hide (HBa.out.up hgx)
  have HI2:=hide (HI1.out.up hgx)
  clear hX hgx HG5 HBa HI1
  refine (kv.out X6 HX6.out).mono ?_
  rintro e W6 ⟨A6,c6,rfl,hrd,hg⟩
  have HG6:=hide (HX6.out.trans hg)
  have HBc:=hide (HBb.out.up hg)
  have HI3:=hide (HI2.out.up hg)
  have HI4:=hide hrd
  clear hg hrd HX6 HBb HI2 kv
  dsimp only at HI4 ⊢
  go_wp2_with fail
  refine calls_name ?_
  intro X7 hX
  have hgx:Grew W6 X7:=by rw[←hX];exact gw
  have HX7:=hide (HG6.out.trans hgx)
  have HBd:=hide (HBc.out.up hgx)
  have HI5:=hide (HI3.out.up hgx)
  have HI6:=hide (HI4.out.up hgx)
  clear hX hgx HG6 HBc HI3 HI4
  refine (inSame_t ul A5 A6 c5 c6 X7 HI5.out HI6.out L4.out).mono ?_
  rintro e W7 ⟨rfl,hg⟩
  have HG7:=hide (HX7.out.trans hg)
  have HBe:=hide (HBd.out.up hg)
  clear hg HX7 HBd HI5 HI6 L4
  dsimp only
  go_wp2_with fail
  refine calls_name ?_
  intro X8 hX
  have hgx:Grew W7 X8:=by rw[←hX];exact gw
  have HX:=hide (HG7.out.trans hgx)
  have HB1:=hide (HBe.out.up hgx)
  clear hX hgx HG7 HBe
  refine (kp.out X8 HX.out).mono ?_
  rintro e W8 ⟨A1,c1,rfl,hrd,hg⟩
  have HG1:=hide (HX.out.trans hg)
  have HB2:=hide (HB1.out.up hg)
  have HI1:=hide hrd
  clear hg hrd HX HB1 kp
  dsimp only at HI1 ⊢
  go_wp2_with fail
  refine calls_name ?_
  intro X9 hX
  have hgx:Grew W8 X9:=by rw[←hX];exact gw
  have HX:=hide (HG1.out.trans hgx)
  have HB3:=hide (HB2.out.up hgx)
  have HI2:=hide (HI1.out.up hgx)
  clear hX hgx HG1 HB2 HI1
  refine (kq.out X9 HX.out).mono ?_
  rintro e W9 ⟨A2,c2,rfl,hrd,hg⟩
  have HG2:=hide (HX.out.trans hg)
  have HB4:=hide (HB3.out.up hg)
  have HI3:=hide (HI2.out.up hg)
  have HI4:=hide hrd
  clear hg hrd HX HB3 HI2 kq
  dsimp only at HI4 ⊢
  go_wp2_with fail
  refine calls_name ?_
  intro Xa hX
  have hgx:Grew W9 Xa:=by rw[←hX];exact gw
  have HX:=hide (HG2.out.trans hgx)
  have HB5:=hide (HB4.out.up hgx)
  have HI5:=hide (HI3.out.up hgx)
  have HI6:=hide (HI4.out.up hgx)
  clear hX hgx HG2 HB4 HI3 HI4
  refine (prSame_t pl A1 A2 c1 c2 Xa HI5.out HI6.out L3.out).mono ?_
  rintro e Wa ⟨rfl,hg⟩
  have HG8:=hide (HX.out.trans hg)
  have HBf:=hide (HB5.out.up hg)
  clear hg HX HB5 HI5 HI6 L3
  dsimp only
  go_wp2_with fail
  refine calls_name ?_
  intro Xb hX
  have hgx:Grew Wa Xb:=by rw[←hX];exact gw
  have HX:=hide (HG8.out.trans hgx)
  have HB1:=hide (HBf.out.up hgx)
  clear hX hgx HG8 HBf
  refine (kg.out Xb HX.out).mono ?_
  rintro e Wb ⟨A1,c1,rfl,hrd,hg⟩
  have HG1:=hide (HX.out.trans hg)
  have HB2:=hide (HB1.out.up hg)
  have HI1:=hide hrd
  clear hg hrd HX HB1 kg
  dsimp only at HI1 ⊢
  go_wp2_with fail
  refine calls_name ?_
  intro Xc hX
  have hgx:Grew Wb Xc:=by rw[←hX];exact gw
  have HX:=hide (HG1.out.trans hgx)
  have HB3:=hide (HB2.out.up hgx)
  have HI2:=hide (HI1.out.up hgx)
  clear hX hgx HG1 HB2 HI1
  refine (kh.out Xc HX.out).mono ?_
  rintro e Wc ⟨A2,c2,rfl,hrd,hg⟩
  have HG2:=hide (HX.out.trans hg)
  have HB4:=hide (HB3.out.up hg)
  have HI3:=hide (HI2.out.up hg)
  have HI4:=hide hrd
  clear hg hrd HX HB3 HI2 kh
  dsimp only at HI4 ⊢
  go_wp2_with fail
  refine calls_name ?_
  intro Xd hX
  have hgx:Grew Wc Xd:=by rw[←hX];exact gw
  have HX:=hide (HG2.out.trans hgx)
  have HB5:=hide (HB4.out.up hgx)
  have HI5:=hide (HI3.out.up hgx)
  have HI6:=hide (HI4.out.up hgx)
  clear hX hgx HG2 HB4 HI3 HI4
  refine (prSame_t al A1 A2 c1 c2 Xd HI5.out HI6.out L5.out).mono ?_
  rintro e Wd ⟨rfl,hg⟩
  have HG9:=hide (HX.out.trans hg)
  have HBg:=hide (HB5.out.up hg)
  clear hg HX HB5 HI5 HI6 L5
  dsimp only
  have r0:=HBg.out.c0
  have r1:=HBg.out.c1
  have rl:=HBg.out.lt
  dsimp only at r0 r1
  go_wp2_with (first|(go_at_call 19;with_reducible refine crv (ks.out _ (HG9.out.trans gw)) fun _ _=>?_;dsimp only)|(go_at_call 20;with_reducible refine crv (kt.out _ (HG9.out.trans gw)) fun _ _=>?_;dsimp only))
  go_ret
  exact Ret.mk' (by simp) (HG9.out.trans gw)
end Go.Proofs.YtblgdlnmabkpoaaGreat
