/- The head of chapter 13: its examples, walked. -/
import Derived.Test.YtblgdlnmabkpoaaGreatDrA
import Derived.Test.YtblgdlnmabkpoaaGreatSaX
set_option linter.unusedSimpArgs false
set_option linter.unusedVariables false
set_option maxHeartbeats 16000000
set_option maxRecDepth 100000
namespace Go.Proofs.YtblgdlnmabkpoaaGreat
open Go.RowKit Go.Sort
attribute [local go_sem] Steady steadyUpon
attribute [local go_sem ↓] hs_dr lt_add_r lt_add_r2 lt_add_r3 lt_add_r4 lt_add_r5 lt_add_r6
attribute [local go_sem] cell?_gd frozen?_gd setCell_gd size_grow tape_grow cell?_grow' frozen?_grow' setCell_grow' grow_grow grow_dr grow_drew dr_dr dr_drew drew_dr dr_alloc dr_setCell dr_cell dr_frozen dr_tape dr_drawn
attribute [local irreducible] wpSteady
theorem exam_v (w:World):Calls Tryz.prog 21 #[] w fun e w'=>∃g,e=.returned (.slice (some ⟨g,0,none⟩) 3 3)∧FRd w' w'.heap.size (some ⟨g,0,none⟩) exL∧Grew w w':=by
 have hm:=hmix
 go_enter Tryz.func21,Tryz.ntmps21
 go_wp2_with fail
 go_ret
 exact⟨w.heap.size,rfl,frd_blk exL (heap_alloc_new _ _) rfl (by simp[exL,e1,e2,e3]),gw⟩
theorem head_v (w:World):Calls Tryz.prog 4 #[] w (Ret w (.bool true)):=by
 have hm:=hmix
 go_enter Tryz.func4,Tryz.ntmps4
 go_wp2_with fail
 refine (exam_v _).mono ?_
 rintro e W1 ⟨g,rfl,hrd,hg⟩
 have HG1:Hid (Grew w W1):=hide (Grew.trans gw hg)
 have HL1:=hide hrd
 clear hrd hg
 dsimp only
 go_wp2_with fail
 refine calls_name ?_
 intro X hX
 have HX:Hid (Grew W1 X):=hide (by rw[←hX];exact gw)
 have HTB:Hid (X.heap[W1.heap.size]?=some (.cells #[.int .i64 3,.int .i64 1,.int .i64 10] 48 (0,0))):=hide (by rw[←hX];exact (heap_alloc_old _ _ (by simp)).trans (heap_alloc_new _ _))
 have HRU:Hid (Rd X X.heap.size 3 (some ⟨W1.heap.size+1,0,none⟩) (ruA.map encR)):=hide (by rw[←hX];exact Rd.blkA encR_len ruA (heap_alloc_at _ _ _ (by simp)) rfl)
 clear hX
 have k:=Make_v exL ruA (some ⟨g,0,none⟩) (some ⟨W1.heap.size+1,0,none⟩) 3 2 X (HL1.out.up HX.out) HRU.out (by decide) (by decide)
 rw[x1] at k
 refine k.mono ?_
 clear k HRU
 rintro e W2 ⟨Aa,ca,fa,Ab,cb,rfl,hb,hrd,hpr,hg⟩
 have HG2:Hid (Grew W1 W2):=hide (HX.out.trans hg)
 have HA2:=hide hrd
 have HBA:=hide hb
 have HP2:=hide hpr
 have hT:W2.heap[W1.heap.size]?=_:=(hg.below.block _ (blk_lt HTB.out)).trans HTB.out
 have t0:W2.cell? ⟨W1.heap.size,0,none⟩=_:=blk_cell hT 0
 have t1:W2.cell? ⟨W1.heap.size,1,none⟩=_:=blk_cell hT 1
 have t2:W2.cell? ⟨W1.heap.size,2,none⟩=_:=blk_cell hT 2
 have lT:=blk_lt hT
 have HL2:=hide (HL1.out.up HG2.out)
 clear hrd hb hpr hg hT HTB HX HL1
 dsimp only
 go_wp2_with fail
 refine calls_name ?_
 intro X hX
 have HX:Hid (Grew W2 X):=hide (by rw[←hX];exact gw)
 have HRU:Hid (Rd X X.heap.size 3 (some ⟨W2.heap.size,0,none⟩) (ruB.map encR)):=hide (by rw[←hX];exact Rd.blkA encR_len ruB (heap_alloc_new _ _) rfl)
 clear hX t0 t1 t2
 have k:=Make_v exL ruB (some ⟨g,0,none⟩) (some ⟨W2.heap.size,0,none⟩) 3 2 X (HL2.out.up HX.out) HRU.out (by decide) (by decide)
 rw[x2] at k
 refine k.mono ?_
 clear k HRU
 rintro e W3 ⟨Ac,cc,fc,Ad,cd,rfl,hb,hrd,hpr,hg⟩
 have HG3:Hid (Grew W2 W3):=hide (HX.out.trans hg)
 have HC3:=hide hrd
 have HBC:=hide hb
 have HD3:=hide hpr
 have HL3:=hide (HL2.out.up HG3.out)
 have HA3:=hide (HA2.out.up HG3.out)
 have HP3:=hide (HP2.out.up HG3.out)
 have HGw3:Hid (Grew w W3):=hide (HG1.out.trans (HG2.out.trans HG3.out))
 clear hrd hb hpr hg HX HL2 HG1 HG2 HG3 HA2 HP2 lT
 dsimp only
 go_wp2_with fail
 refine calls_name ?_
 intro X hX
 have HX:Hid (Grew W3 X):=hide (by rw[←hX];exact gw)
 have HPR:Hid (Rd X X.heap.size 2 (some ⟨W3.heap.size,0,none⟩) (([(1,1),(2,2),(3,1)]:List Pt).map encD)):=hide (by rw[←hX];exact Rd.blkA encD_len [(1,1),(2,2),(3,1)] (heap_alloc_new _ _) rfl)
 clear hX
 have k:=Check_v exL exL [(1,1),(2,2),(3,1)] (some ⟨g,0,none⟩) (some ⟨g,0,none⟩) (some ⟨W3.heap.size,0,none⟩) 3 3 3 100 X (HL3.out.up HX.out) (HL3.out.up HX.out) HPR.out (by decide) (by decide) (by decide)
 rw[x3] at k
 refine k.mono ?_
 clear k HPR
 rintro e W4 ⟨rfl,hg⟩
 have HG:Hid (Grew W3 W4):=hide (HX.out.trans hg)
 have HL4:=hide (HL3.out.up HG.out)
 have HA4:=hide (HA3.out.up HG.out)
 have HP4:=hide (HP3.out.up HG.out)
 have HC4:=hide (HC3.out.up HG.out)
 have HD4:=hide (HD3.out.up HG.out)
 have HGw4:Hid (Grew w W4):=hide (HGw3.out.trans HG.out)
 clear hg HX HG HGw3 HL3 HA3 HP3 HC3 HD3 
 dsimp only
 go_wp2_with fail
 refine calls_name ?_
 intro X hX
 have HX:Hid (Grew W4 X):=hide (by rw[←hX];exact gw)
 have HPR:Hid (Rd X X.heap.size 2 (some ⟨W4.heap.size,0,none⟩) (([(1,1),(2,2),(3,2)]:List Pt).map encD)):=hide (by rw[←hX];exact Rd.blkA encD_len [(1,1),(2,2),(3,2)] (heap_alloc_new _ _) rfl)
 clear hX
 have k:=Check_v exL exL [(1,1),(2,2),(3,2)] (some ⟨g,0,none⟩) (some ⟨g,0,none⟩) (some ⟨W4.heap.size,0,none⟩) 3 3 3 100 X (HL4.out.up HX.out) (HL4.out.up HX.out) HPR.out (by decide) (by decide) (by decide)
 rw[x4] at k
 refine k.mono ?_
 clear k HPR
 rintro e W5 ⟨rfl,hg⟩
 have HG:Hid (Grew W4 W5):=hide (HX.out.trans hg)
 have HL5:=hide (HL4.out.up HG.out)
 have HA5:=hide (HA4.out.up HG.out)
 have HP5:=hide (HP4.out.up HG.out)
 have HC5:=hide (HC4.out.up HG.out)
 have HD5:=hide (HD4.out.up HG.out)
 have HGw5:Hid (Grew w W5):=hide (HGw4.out.trans HG.out)
 clear hg HX HG HGw4 HL4 HA4 HP4 HC4 HD4 
 dsimp only
 go_wp2_with fail
 refine calls_name ?_
 intro X hX
 have HX:Hid (Grew W5 X):=hide (by rw[←hX];exact gw)
 clear hX
 have k:=Unproved_v exL [e2] (some ⟨g,0,none⟩) (some ⟨g,9,none⟩) 3 2 81 X (HL5.out.up HX.out) ((frd_part (HL5.out.up HX.out) 1 1)) (by decide) (by decide)
 rw[x5] at k
 refine k.mono ?_
 clear k
 rintro e W6 ⟨Ahi,chi,rfl,hrd,hg⟩
 have HG:Hid (Grew W5 W6):=hide (HX.out.trans hg)
 have HL6:=hide (HL5.out.up HG.out)
 have HA6:=hide (HA5.out.up HG.out)
 have HP6:=hide (HP5.out.up HG.out)
 have HC6:=hide (HC5.out.up HG.out)
 have HD6:=hide (HD5.out.up HG.out)
 have HGw6:Hid (Grew w W6):=hide (HGw5.out.trans HG.out)
 have HI6:=hide hrd
 clear hg HX HG HGw5 HL5 HA5 HP5 HC5 HD5 hrd
 dsimp only
 go_wp2_with fail
 refine calls_name ?_
 intro X hX
 have HX:Hid (Grew W6 X):=hide (by rw[←hX];exact gw)
 clear hX
 have k:=Unproved_v exL [e2] (some ⟨g,0,none⟩) (some ⟨g,9,none⟩) 3 2 80 X (HL6.out.up HX.out) ((frd_part (HL6.out.up HX.out) 1 1)) (by decide) (by decide)
 rw[x6] at k
 refine k.mono ?_
 clear k
 rintro e W7 ⟨Ahm,chm,rfl,hrd,hg⟩
 have HG:Hid (Grew W6 W7):=hide (HX.out.trans hg)
 have HL7:=hide (HL6.out.up HG.out)
 have HA7:=hide (HA6.out.up HG.out)
 have HP7:=hide (HP6.out.up HG.out)
 have HC7:=hide (HC6.out.up HG.out)
 have HD7:=hide (HD6.out.up HG.out)
 have HI7:=hide (HI6.out.up HG.out)
 have HGw7:Hid (Grew w W7):=hide (HGw6.out.trans HG.out)
 have HM7:=hide hrd
 clear hg HX HG HGw6 HL6 HA6 HP6 HC6 HD6 HI6 hrd
 dsimp only
 go_wp2_with fail
 refine calls_name ?_
 intro X hX
 have HX:Hid (Grew W7 X):=hide (by rw[←hX];exact gw)
 have HPR:Hid (Rd X X.heap.size 2 (some ⟨W7.heap.size,0,none⟩) (([(1,1),(2,1),(3,3)]:List Pt).map encD)):=hide (by rw[←hX];exact Rd.blkA encD_len [(1,1),(2,1),(3,3)] ((heap_alloc_old _ _ (by simp)).trans (heap_alloc_new _ _)) rfl)
 have HPS:Hid (Rd X X.heap.size 2 (some ⟨W7.heap.size+1,0,none⟩) (([(1,7)]:List Pt).map encD)):=hide (by rw[←hX];exact Rd.blkA encD_len [(1,7)] (heap_alloc_at _ _ _ (by simp)) rfl)
 clear hX
 have k:=Again_v [(1,1),(2,1),(3,3)] [(1,7)] (some ⟨W7.heap.size,0,none⟩) (some ⟨W7.heap.size+1,0,none⟩) 3 1 X HPR.out HPS.out (by decide) (by decide)
 rw[x7] at k
 refine k.mono ?_
 clear k HPR HPS
 rintro e W8 ⟨Ao,co,rfl,hrd,hg⟩
 have HG:Hid (Grew W7 W8):=hide (HX.out.trans hg)
 have HL8:=hide (HL7.out.up HG.out)
 have HA8:=hide (HA7.out.up HG.out)
 have HP8:=hide (HP7.out.up HG.out)
 have HC8:=hide (HC7.out.up HG.out)
 have HD8:=hide (HD7.out.up HG.out)
 have HI8:=hide (HI7.out.up HG.out)
 have HM8:=hide (HM7.out.up HG.out)
 have HGw8:Hid (Grew w W8):=hide (HGw7.out.trans HG.out)
 have HO8:=hide hrd
 clear hg HX HG HGw7 HL7 HA7 HP7 HC7 HD7 HI7 HM7 hrd
 dsimp only
 go_wp2_with fail
 refine calls_name ?_
 intro X hX
 have HX:Hid (Grew W8 X):=hide (by rw[←hX];exact gw)
 clear hX
 have k:=DShown_v exL (some ⟨g,0,none⟩) 3 30 (0,0) (27,0) X (HL8.out.up HX.out) (by decide) x8
 refine k.mono ?_
 clear k
 rintro e W9 ⟨rfl,hg⟩
 have HG:Hid (Grew W8 W9):=hide (HX.out.trans hg)
 have HL9:=hide (HL8.out.up HG.out)
 have HA9:=hide (HA8.out.up HG.out)
 have HP9:=hide (HP8.out.up HG.out)
 have HC9:=hide (HC8.out.up HG.out)
 have HD9:=hide (HD8.out.up HG.out)
 have HI9:=hide (HI8.out.up HG.out)
 have HM9:=hide (HM8.out.up HG.out)
 have HO9:=hide (HO8.out.up HG.out)
 have HGw9:Hid (Grew w W9):=hide (HGw8.out.trans HG.out)
 clear hg HX HG HGw8 HL8 HA8 HP8 HC8 HD8 HI8 HM8 HO8 
 dsimp only
 go_wp2_with fail
 refine calls_name ?_
 intro X hX
 have HX:Hid (Grew W9 X):=hide (by rw[←hX];exact gw)
 clear hX
 have k:=DShown_v exL (some ⟨g,0,none⟩) 3 30 (6,8) (30,0) X (HL9.out.up HX.out) (by decide) x9
 refine k.mono ?_
 clear k
 rintro e W10 ⟨rfl,hg⟩
 have HG:Hid (Grew W9 W10):=hide (HX.out.trans hg)
 have HL10:=hide (HL9.out.up HG.out)
 have HA10:=hide (HA9.out.up HG.out)
 have HP10:=hide (HP9.out.up HG.out)
 have HC10:=hide (HC9.out.up HG.out)
 have HD10:=hide (HD9.out.up HG.out)
 have HI10:=hide (HI9.out.up HG.out)
 have HM10:=hide (HM9.out.up HG.out)
 have HO10:=hide (HO9.out.up HG.out)
 have HGw10:Hid (Grew w W10):=hide (HGw9.out.trans HG.out)
 clear hg HX HG HGw9 HL9 HA9 HP9 HC9 HD9 HI9 HM9 HO9 
 dsimp only
 go_wp2_with fail
 refine calls_name ?_
 intro X hX
 have HX:Hid (Grew W10 X):=hide (by rw[←hX];exact gw)
 clear hX
 have k:=Prove_v exL [e2] (some ⟨g,0,none⟩) (some ⟨g,9,none⟩) 3 2 80 X (HL10.out.up HX.out) ((frd_part (HL10.out.up HX.out) 1 1)) (by decide) (by decide)
 rw[x10] at k
 refine k.mono ?_
 clear k
 rintro e W11 ⟨Ax,cx,rfl,hrd,hg⟩
 have HG:Hid (Grew W10 W11):=hide (HX.out.trans hg)
 have HL11:=hide (HL10.out.up HG.out)
 have HA11:=hide (HA10.out.up HG.out)
 have HP11:=hide (HP10.out.up HG.out)
 have HC11:=hide (HC10.out.up HG.out)
 have HD11:=hide (HD10.out.up HG.out)
 have HI11:=hide (HI10.out.up HG.out)
 have HM11:=hide (HM10.out.up HG.out)
 have HO11:=hide (HO10.out.up HG.out)
 have HGw11:Hid (Grew w W11):=hide (HGw10.out.trans HG.out)
 have HXX11:=hide hrd
 clear hg HX HG HGw10 HL10 HA10 HP10 HC10 HD10 HI10 HM10 HO10 hrd
 dsimp only
 go_wp2_with fail
 refine wp_name ?_
 intro Y hY
 have HY0:Hid (Grew W11 Y):=hide (by rw[←hY];exact gw)
 have HOB:Hid (Y.heap[W11.heap.size]?=some (.cells #[.int .i64 1,.int .i64 1,.int .i64 0,.int .i64 0,.int .i64 12,.slice none 0 0,.int .i64 20,.int .i64 0,.slice none 0 0] 54 (0,0))):=hide (by rw[←hY];exact heap_alloc_new _ _)
 clear hY
 have HKEEP:Hid (∀W',Grew Y W'→(fun w'=>w'.cell? ⟨W11.heap.size,0,none⟩=some (.int .i64 1)∧w'.cell? ⟨W11.heap.size,1,none⟩=some (.int .i64 1)∧w'.cell? ⟨W11.heap.size,2,none⟩=some (.int .i64 0)∧w'.cell? ⟨W11.heap.size,3,none⟩=some (.int .i64 0)∧w'.cell? ⟨W11.heap.size,4,none⟩=some (.int .i64 12)∧w'.cell? ⟨W11.heap.size,5,none⟩=some (.slice none 0 0)∧w'.cell? ⟨W11.heap.size,6,none⟩=some (.int .i64 20)∧w'.cell? ⟨W11.heap.size,7,none⟩=some (.int .i64 0)∧w'.cell? ⟨W11.heap.size,8,none⟩=some (.slice none 0 0)∧w'.cell? ⟨g,18,none⟩=some (.int .i64 3)∧w'.cell? ⟨g,19,none⟩=some (.int .i64 2)∧w'.cell? ⟨g,20,none⟩=some (.int .i64 0)∧w'.cell? ⟨g,21,none⟩=some (.int .i64 0)∧w'.cell? ⟨g,22,none⟩=some (.int .i64 1)∧w'.cell? ⟨g,23,none⟩=some (.slice none 0 0)∧w'.cell? ⟨g,24,none⟩=some (.int .i64 80)∧w'.cell? ⟨g,25,none⟩=some (.int .i64 0)∧w'.cell? ⟨g,26,none⟩=some (.slice none 0 0)) W'):=hide (fun W' hg=>by
  have hb:=(hg.below.block _ (blk_lt HOB.out)).trans HOB.out
  obtain⟨b,off,hA,_,hc⟩:=(HL11.out.row.up (HY0.out.trans hg)).at_ (k:=2) (x:=e3.cells) rfl
  injection hA with hA
  injection hA with h1 h2
  subst h1 h2
  exact⟨blk_cell hb 0,blk_cell hb 1,blk_cell hb 2,blk_cell hb 3,blk_cell hb 4,blk_cell hb 5,blk_cell hb 6,blk_cell hb 7,blk_cell hb 8,hc 0 _ rfl,hc 1 _ rfl,hc 2 _ rfl,hc 3 _ rfl,hc 4 _ rfl,hc 5 _ rfl,hc 6 _ rfl,hc 7 _ rfl,hc 8 _ rfl⟩)
 have hIX:=idx_run (cap:=3) (len:=3) (k:=2) (A:=some ⟨g,0,none⟩) (b:=g) (off:=0) Tryz.underlying22 Tryz.sizeOf54 rfl (by omega)
 simp only[Nat.zero_add,Nat.reduceMul] at hIX
 have hHeld0:=HKEEP.out Y (Grew.refl _)
 refine wp_region_held_drew (S:=(fun w'=>w'.cell? ⟨W11.heap.size,0,none⟩=some (.int .i64 1)∧w'.cell? ⟨W11.heap.size,1,none⟩=some (.int .i64 1)∧w'.cell? ⟨W11.heap.size,2,none⟩=some (.int .i64 0)∧w'.cell? ⟨W11.heap.size,3,none⟩=some (.int .i64 0)∧w'.cell? ⟨W11.heap.size,4,none⟩=some (.int .i64 12)∧w'.cell? ⟨W11.heap.size,5,none⟩=some (.slice none 0 0)∧w'.cell? ⟨W11.heap.size,6,none⟩=some (.int .i64 20)∧w'.cell? ⟨W11.heap.size,7,none⟩=some (.int .i64 0)∧w'.cell? ⟨W11.heap.size,8,none⟩=some (.slice none 0 0)∧w'.cell? ⟨g,18,none⟩=some (.int .i64 3)∧w'.cell? ⟨g,19,none⟩=some (.int .i64 2)∧w'.cell? ⟨g,20,none⟩=some (.int .i64 0)∧w'.cell? ⟨g,21,none⟩=some (.int .i64 0)∧w'.cell? ⟨g,22,none⟩=some (.int .i64 1)∧w'.cell? ⟨g,23,none⟩=some (.slice none 0 0)∧w'.cell? ⟨g,24,none⟩=some (.int .i64 80)∧w'.cell? ⟨g,25,none⟩=some (.int .i64 0)∧w'.cell? ⟨g,26,none⟩=some (.slice none 0 0))) hm ?_ (fun hHeld=>?_)
 ·exact HKEEP.out _ gw
 refine tk 0 ?_
 try simp only[Act.put,setA,getA]
 refine tk 1 ?_
 try simp only[Act.put,setA,getA]
 refine tk 2 ?_
 refine tk 3 ?_
 refine tk 4 ?_
 try simp only[Act.put,setA,getA]
 refine tk 5 ?_
 try simp only[Act.put,setA,getA]
 refine tk 6 ?_
 try simp only[Act.put,setA,getA]
 refine wpAnyH_ready (rs:=[7]) (by kernel_rfl) (by simp) ?_
 refine AllReadyH.cons (o:=_) rfl (fun K hK=>?_) AllReadyH.nil
 go_simp
 (first|(go_at_call 8;(refine calls_name ?_);intro X1 hX1;have HX1:Hid (Grew Y X1):=hide (by rw[←hX1];exact gw);have HLT:Hid (FRd X1 X1.heap.size (some ⟨Y.heap.size,0,none⟩) [one20,e3]):=hide (by rw[←hX1];exact frd_blk [one20,e3] (heap_alloc_at _ _ _ (by simp[hs_dr])) rfl (by simp[one20,e1,e3]));clear hX1;(refine (liSame_t fa [one20,e3] 2 _ _ _ _ _ rfl (HA11.out.up (HY0.out.trans HX1.out)) HLT.out HBA.out (by have:=len_of HBA.out;simp at this;omega)).mono ?_);rintro e Y2 ⟨rfl,hgg⟩;have HY2:Hid (Grew Y Y2):=hide (HX1.out.trans hgg);clear hgg HX1 HLT;dsimp only)|(go_at_call 9;(refine calls_name ?_);intro X1 hX1;have HX1:Hid (Grew Y2 X1):=hide (by rw[←hX1];exact gw);have HLT:Hid (Rd X1 X1.heap.size 2 (some ⟨Y2.heap.size,0,none⟩) (([(1,1),(2,1),(3,1)]:List Pt).map encD)):=hide (by rw[←hX1];exact Rd.blkA encD_len [(1,1),(2,1),(3,1)] (heap_alloc_at _ _ _ (by simp[hs_dr])) rfl);clear hX1;(refine (prSame_t [(1,1),(2,1),(3,1)] _ _ _ _ _ (HP11.out.up (HY0.out.trans (HY2.out.trans HX1.out))) HLT.out (by decide)).mono ?_);rintro e Y3 ⟨rfl,hgg⟩;have HY3:Hid (Grew Y Y3):=hide (HY2.out.trans (HX1.out.trans hgg));clear hgg HX1 HLT;dsimp only)|skip)
 refine hK.out _ _ ?_ (fun hHeld=>?_)
 ·exact HKEEP.out _ gw
 clear hK K
 try simp only[Act.put,setA,getA]
 refine wpAnyH_ready (rs:=[8]) (by kernel_rfl) (by simp) ?_
 refine AllReadyH.cons (o:=_) rfl (fun K hK=>?_) AllReadyH.nil
 go_simp
 (first|(go_at_call 8;(refine calls_name ?_);intro X1 hX1;have HX1:Hid (Grew Y X1):=hide (by rw[←hX1];exact gw);have HLT:Hid (FRd X1 X1.heap.size (some ⟨Y.heap.size,0,none⟩) [one20,e3]):=hide (by rw[←hX1];exact frd_blk [one20,e3] (heap_alloc_at _ _ _ (by simp[hs_dr])) rfl (by simp[one20,e1,e3]));clear hX1;(refine (liSame_t fa [one20,e3] 2 _ _ _ _ _ rfl (HA11.out.up (HY0.out.trans HX1.out)) HLT.out HBA.out (by have:=len_of HBA.out;simp at this;omega)).mono ?_);rintro e Y2 ⟨rfl,hgg⟩;have HY2:Hid (Grew Y Y2):=hide (HX1.out.trans hgg);clear hgg HX1 HLT;dsimp only)|(go_at_call 9;(refine calls_name ?_);intro X1 hX1;have HX1:Hid (Grew Y2 X1):=hide (by rw[←hX1];exact gw);have HLT:Hid (Rd X1 X1.heap.size 2 (some ⟨Y2.heap.size,0,none⟩) (([(1,1),(2,1),(3,1)]:List Pt).map encD)):=hide (by rw[←hX1];exact Rd.blkA encD_len [(1,1),(2,1),(3,1)] (heap_alloc_at _ _ _ (by simp[hs_dr])) rfl);clear hX1;(refine (prSame_t [(1,1),(2,1),(3,1)] _ _ _ _ _ (HP11.out.up (HY0.out.trans (HY2.out.trans HX1.out))) HLT.out (by decide)).mono ?_);rintro e Y3 ⟨rfl,hgg⟩;have HY3:Hid (Grew Y Y3):=hide (HY2.out.trans (HX1.out.trans hgg));clear hgg HX1 HLT;dsimp only)|skip)
 refine hK.out _ _ ?_ (fun hHeld=>?_)
 ·exact HKEEP.out _ gw
 clear hK K
 try simp only[Act.put,setA,getA]
 refine tk 9 ?_
 try simp only[Act.put,setA,getA]
 refine tk 10 ?_
 try simp only[Act.put,setA,getA]
 refine tk 11 ?_
 refine tk 12 ?_
 refine tk 13 ?_
 refine tk 14 ?_
 try simp only[Act.put,setA,getA]
 refine wpAnyH_ready (rs:=[15]) (by kernel_rfl) (by simp) ?_
 refine AllReadyH.cons (o:=_) rfl (fun K hK=>?_) AllReadyH.nil
 go_simp
 (first|(go_at_call 8;(refine calls_name ?_);intro X1 hX1;have HX1:Hid (Grew Y X1):=hide (by rw[←hX1];exact gw);have HLT:Hid (FRd X1 X1.heap.size (some ⟨Y.heap.size,0,none⟩) [one20,e3]):=hide (by rw[←hX1];exact frd_blk [one20,e3] (heap_alloc_at _ _ _ (by simp[hs_dr])) rfl (by simp[one20,e1,e3]));clear hX1;(refine (liSame_t fa [one20,e3] 2 _ _ _ _ _ rfl (HA11.out.up (HY0.out.trans HX1.out)) HLT.out HBA.out (by have:=len_of HBA.out;simp at this;omega)).mono ?_);rintro e Y2 ⟨rfl,hgg⟩;have HY2:Hid (Grew Y Y2):=hide (HX1.out.trans hgg);clear hgg HX1 HLT;dsimp only)|(go_at_call 9;(refine calls_name ?_);intro X1 hX1;have HX1:Hid (Grew Y2 X1):=hide (by rw[←hX1];exact gw);have HLT:Hid (Rd X1 X1.heap.size 2 (some ⟨Y2.heap.size,0,none⟩) (([(1,1),(2,1),(3,1)]:List Pt).map encD)):=hide (by rw[←hX1];exact Rd.blkA encD_len [(1,1),(2,1),(3,1)] (heap_alloc_at _ _ _ (by simp[hs_dr])) rfl);clear hX1;(refine (prSame_t [(1,1),(2,1),(3,1)] _ _ _ _ _ (HP11.out.up (HY0.out.trans (HY2.out.trans HX1.out))) HLT.out (by decide)).mono ?_);rintro e Y3 ⟨rfl,hgg⟩;have HY3:Hid (Grew Y Y3):=hide (HY2.out.trans (HX1.out.trans hgg));clear hgg HX1 HLT;dsimp only)|skip)
 refine hK.out _ _ ?_ (fun hHeld=>?_)
 ·exact HKEEP.out _ gw
 clear hK K
 try simp only[Act.put,setA,getA]
 refine wpAnyH_ready (rs:=[16]) (by kernel_rfl) (by simp) ?_
 refine AllReadyH.cons (o:=_) rfl (fun K hK=>?_) AllReadyH.nil
 go_simp
 (first|(go_at_call 8;(refine calls_name ?_);intro X1 hX1;have HX1:Hid (Grew Y X1):=hide (by rw[←hX1];exact gw);have HLT:Hid (FRd X1 X1.heap.size (some ⟨Y.heap.size,0,none⟩) [one20,e3]):=hide (by rw[←hX1];exact frd_blk [one20,e3] (heap_alloc_at _ _ _ (by simp[hs_dr])) rfl (by simp[one20,e1,e3]));clear hX1;(refine (liSame_t fa [one20,e3] 2 _ _ _ _ _ rfl (HA11.out.up (HY0.out.trans HX1.out)) HLT.out HBA.out (by have:=len_of HBA.out;simp at this;omega)).mono ?_);rintro e Y2 ⟨rfl,hgg⟩;have HY2:Hid (Grew Y Y2):=hide (HX1.out.trans hgg);clear hgg HX1 HLT;dsimp only)|(go_at_call 9;(refine calls_name ?_);intro X1 hX1;have HX1:Hid (Grew Y2 X1):=hide (by rw[←hX1];exact gw);have HLT:Hid (Rd X1 X1.heap.size 2 (some ⟨Y2.heap.size,0,none⟩) (([(1,1),(2,1),(3,1)]:List Pt).map encD)):=hide (by rw[←hX1];exact Rd.blkA encD_len [(1,1),(2,1),(3,1)] (heap_alloc_at _ _ _ (by simp[hs_dr])) rfl);clear hX1;(refine (prSame_t [(1,1),(2,1),(3,1)] _ _ _ _ _ (HP11.out.up (HY0.out.trans (HY2.out.trans HX1.out))) HLT.out (by decide)).mono ?_);rintro e Y3 ⟨rfl,hgg⟩;have HY3:Hid (Grew Y Y3):=hide (HY2.out.trans (HX1.out.trans hgg));clear hgg HX1 HLT;dsimp only)|skip)
 refine hK.out _ _ ?_ (fun hHeld=>?_)
 ·exact HKEEP.out _ gw
 clear hK K
 try simp only[Act.put,setA,getA]
 refine tk 17 ?_
 try simp only[Act.put,setA,getA]
 refine tk 18 ?_
 try simp only[Act.put,setA,getA]
 refine wpAnyH_done (by kernel_rfl) ?_ _
 have hb3:Y3.heap[W11.heap.size]?=_:=(HY3.out.below.block _ (blk_lt HOB.out)).trans HOB.out
 have u0:Y3.cell? ⟨W11.heap.size,0,none⟩=_:=blk_cell hb3 0
 have u1:Y3.cell? ⟨W11.heap.size,1,none⟩=_:=blk_cell hb3 1
 have u2:Y3.cell? ⟨W11.heap.size,2,none⟩=_:=blk_cell hb3 2
 have u3:Y3.cell? ⟨W11.heap.size,3,none⟩=_:=blk_cell hb3 3
 have u4:Y3.cell? ⟨W11.heap.size,4,none⟩=_:=blk_cell hb3 4
 have u5:Y3.cell? ⟨W11.heap.size,5,none⟩=_:=blk_cell hb3 5
 have u6:Y3.cell? ⟨W11.heap.size,6,none⟩=_:=blk_cell hb3 6
 have u7:Y3.cell? ⟨W11.heap.size,7,none⟩=_:=blk_cell hb3 7
 have u8:Y3.cell? ⟨W11.heap.size,8,none⟩=_:=blk_cell hb3 8
 have uf:∀i,Y3.frozen? ⟨W11.heap.size,i,none⟩=false:=fun i=>blk_frozen hb3 i
 have ul:=blk_lt hb3
 clear hHeld hHeld0 HKEEP hIX
 go_wp2_with fail
 refine calls_name ?_
 intro X hX
 have HX:Hid (Grew W11 X):=hide (by rw[←hX];exact Grew.trans (Grew.of_below ((HY0.out.trans HY3.out).below.setCell (p:=⟨W11.heap.size,6,none⟩) (Nat.le_refl _) _)) gw)
 have HLT:Hid (FRd X X.heap.size (some ⟨Y3.heap.size,0,none⟩) [one27]):=hide (by rw[←hX];exact frd_blk [one27] (heap_alloc_at _ _ _ (by simp[hs_dr])) rfl (by simp[one27,e1]))
 clear hX
 refine (liSame_t fc [one27] 1 _ _ _ _ _ rfl (HC11.out.up HX.out) HLT.out HBC.out (by have:=len_of HBC.out;simp at this;omega)).mono ?_
 rintro e Y4 ⟨rfl,hgg⟩
 have HY4:Hid (Grew W11 Y4):=hide (HX.out.trans hgg)
 clear hgg HX HLT u0 u1 u2 u3 u4 u5 u6 u7 u8 uf ul hb3
 dsimp only
 go_wp2_with fail
 refine calls_name ?_
 intro X hX
 have HX:Hid (Grew Y4 X):=hide (by rw[←hX];exact gw)
 have HLT:Hid (Rd X X.heap.size 2 (some ⟨Y4.heap.size,0,none⟩) (([(1,1)]:List Pt).map encD)):=hide (by rw[←hX];exact Rd.blkA encD_len [(1,1)] (heap_alloc_at _ _ _ (by simp[hs_dr])) rfl)
 clear hX
 refine (prSame_t [(1,1)] _ _ _ _ _ (HD11.out.up (HY4.out.trans HX.out)) HLT.out (by decide)).mono ?_
 rintro e Y5 ⟨rfl,hgg⟩
 have HY5:Hid (Grew W11 Y5):=hide (HY4.out.trans (HX.out.trans hgg))
 clear hgg HX HLT
 dsimp only
 go_wp2_with fail
 refine calls_name ?_
 intro X hX
 have HX:Hid (Grew Y5 X):=hide (by rw[←hX];exact gw)
 have HLT:Hid (Rd X X.heap.size 1 (some ⟨Y5.heap.size,0,none⟩) (([1,3]:List Int).map encN)):=hide (by rw[←hX];exact Rd.blkA encN_len [1,3] (heap_alloc_at _ _ _ (by simp[hs_dr])) rfl)
 clear hX
 refine (inSame_t [1,3] _ _ _ _ _ (HI11.out.up (HY5.out.trans HX.out)) HLT.out (by decide)).mono ?_
 rintro e Y6 ⟨rfl,hgg⟩
 have HY6:Hid (Grew W11 Y6):=hide (HY5.out.trans (HX.out.trans hgg))
 clear hgg HX HLT
 dsimp only
 go_wp2_with fail
 refine calls_name ?_
 intro X hX
 have HX:Hid (Grew Y6 X):=hide (by rw[←hX];exact gw)
 have HLT:Hid (Rd X X.heap.size 1 (some ⟨Y6.heap.size,0,none⟩) (([1]:List Int).map encN)):=hide (by rw[←hX];exact Rd.blkA encN_len [1] (heap_alloc_at _ _ _ (by simp[hs_dr])) rfl)
 clear hX
 refine (inSame_t [1] _ _ _ _ _ (HM11.out.up (HY6.out.trans HX.out)) HLT.out (by decide)).mono ?_
 rintro e Y7 ⟨rfl,hgg⟩
 have HY7:Hid (Grew W11 Y7):=hide (HY6.out.trans (HX.out.trans hgg))
 clear hgg HX HLT
 dsimp only
 go_wp2_with fail
 refine calls_name ?_
 intro X hX
 have HX:Hid (Grew Y7 X):=hide (by rw[←hX];exact gw)
 have HLT:Hid (Rd X X.heap.size 2 (some ⟨Y7.heap.size,0,none⟩) (([(1,7),(2,7)]:List Pt).map encD)):=hide (by rw[←hX];exact Rd.blkA encD_len [(1,7),(2,7)] (heap_alloc_at _ _ _ (by simp[hs_dr])) rfl)
 clear hX
 refine (prSame_t [(1,7),(2,7)] _ _ _ _ _ (HO11.out.up (HY7.out.trans HX.out)) HLT.out (by decide)).mono ?_
 rintro e Y8 ⟨rfl,hgg⟩
 have HY8:Hid (Grew W11 Y8):=hide (HY7.out.trans (HX.out.trans hgg))
 clear hgg HX HLT
 dsimp only
 go_wp2_with fail
 go_ret
 exact Ret.mk' rfl (HGw11.out.trans (HY8.out.trans gw))
end Go.Proofs.YtblgdlnmabkpoaaGreat
