/- slices.Collect of the features that count; Make. derive.Make. -/
import Derived.Test.YtblgdlnmabkpoaaGreatRuZ
import Derived.Test.YtblgdlnmabkpoaaGreatDeX
import Derived.Test.YtblgdlnmabkpoaaGreatSaX
set_option linter.unusedSimpArgs false
set_option linter.unusedVariables false
set_option maxHeartbeats 8000000
set_option maxRecDepth 100000
namespace Go.Proofs.YtblgdlnmabkpoaaGreat
open Go.RowKit Go.Sort Go.Lib
attribute [local go_sem] Steady steadyUpon
attribute [local go_sem ↓] hs_dr lt_add_r lt_add_r2 lt_add_r3 lt_add_r4 lt_add_r5 lt_add_r6
attribute [local go_sem] cell?_gd frozen?_gd setCell_gd size_grow tape_grow cell?_grow' frozen?_grow' setCell_grow' grow_grow grow_dr grow_drew dr_dr dr_drew drew_dr dr_alloc dr_setCell dr_cell dr_frozen dr_tape dr_drawn
attribute [local irreducible] wpSteady
attribute [local go_sem] Oper.semAt_some
/-- As KpM; and the heap has not shrunk. -/
def KpS (M:Nat→TypeId→Prop)(W W':World):Prop:=KpM M W W'∧W.heap.size≤W'.heap.size
theorem KpS.trans {M:Nat→TypeId→Prop}{A B C:World}(h:KpS M A B)(k:KpS M B C):KpS M A C:=⟨h.1.trans k.1,Nat.le_trans h.2 k.2⟩
theorem KpS.bk {M:Nat→TypeId→Prop}{w:World}(W:World)(l:Nat)(o o':Obj)(h0:w.heap.size≤l)(h:W.heap[l]?=some o)(ho:o.isCells=false)(hw:o.isWalk=false):KpS M W (W.putObj l o'):=⟨KpM.bk (w:=w) W l o o' h0 h ho hw,by simp[World.putObj]⟩
theorem KpS.grew {M:Nat→TypeId→Prop}{W W':World}(h:Grew W W'):KpS M W W':=⟨KpM.grew h,h.below.size⟩
theorem dall_stopsS (n K:Nat)(M:Nat→TypeId→Prop)(fs:List FV)(A:Option Addr)(c B:Nat)(lim:Int)(w:World)(hM1:∀b T,M b T→K≤b)(hM2:∀T,¬ M B T)(hB:w.heap[B]?=some (.cells #[.slice A fs.length c,.int .i64 lim] 62 (0,0)))
  (hr:Rd w K 9 A (fs.map FV.cells)) (hK:K≤w.heap.size) (hl:fs.length≤1000000) :
  SeqStopsK Fence.wide n Tryz.prog 53 #[.pointer (some ⟨B,0,none⟩)] (encC fs lim) (KpS M) (fun xs=>xs.map ciN=countsTo fs lim fs.length) (fun pre=>∃k,k≤fs.length∧pre.map ciN=countsTo fs lim k) fs.length w:=by
 intro l J Jx W hW hJ hJx hY h0
 have hm:=hmix
 have HR:=hide ((hr.below (hW.mono hK)))
 have hBW:W.heap[B]?=some _:=(hW.block B (blk_lt hB)).trans hB
 have c0:W.cell? ⟨B,0,none⟩=some (.slice A fs.length c):=by rw[blk_cell hBW];rfl
 have c1:W.cell? ⟨B,1,none⟩=some (.int .i64 lim):=by rw[blk_cell hBW];rfl
 have hMK:Hid (∀b T,b<K→¬ M b T):=hide (fun b T hb h=>by have:=hM1 b T h;omega)
 have hMB:Hid (∀T,¬ M B T):=hide hM2
 have hKW:K≤W.heap.size:=Nat.le_trans hK hW.size
 have hwW:=hW.size
 have HJ:=hide hJ
 have HJx:=hide hJx
 have HY:=hide hY
 have H0:=hide h0
 clear hr hM1 hM2 hJ hJx hY h0 hW hB hBW
 refine callsIn_of_wp Tryz.func53 rfl trivial ?_ rfl
 simp only[Tryz.ntmps53,List.size_toArray,List.length_cons,List.length_nil,Nat.reduceAdd,Nat.reduceSub,Array.replicate_succ,Array.replicate_zero,List.push_toArray,List.append_toArray,List.nil_append,List.cons_append]
 gi_wp2_with fail
 gi_loopw [8] (fun i wr=>∃ (k:Nat) (pre:List (CI fs lim)),k≤fs.length∧i=.int .i64 k∧pre.map ciN=countsTo fs lim k∧J pre wr∧Rd wr K 9 A (fs.map FV.cells)∧wr.cell? ⟨B,0,none⟩=some (.slice A fs.length c)∧wr.cell? ⟨B,1,none⟩=some (.int .i64 lim)∧W.heap.size≤wr.heap.size) (fun i _=>fs.length-(intOf i).toNat)
 case atStart=>exact⟨0,[],by omega,rfl,rfl,H0.out,HR.out,c0,c1,Nat.le_refl _⟩
 case round =>
  obtain⟨k,pre,hk,rfl,hpre,hJ,hrd,hcB,hcB2,hsz⟩:=hrel
  have hplen:pre.length≤k:=by have:=congrArg List.length hpre;have:=countsTo_len fs lim k;simp only[List.length_map] at *;omega
  have HPRE:=hide hpre
  clear c0 c1 hpre
  by_cases hlt:k<fs.length
  ·obtain⟨b,off,hA,hb,fc⟩:=rowAt hrd hlt
   have hix:=idx_run (cap:=c) Tryz.underlying22 Tryz.sizeOf54 hA.out hlt
   have hbw:b<wr.heap.size:=by omega
   have hBw:B<wr.heap.size:=cell_lt hcB
   obtain⟨u,hu⟩:∃u,countB (fAt fs k) lim=u:=⟨_,rfl⟩
   have HU:=hide hu
   obtain⟨f,hf⟩:∃f,fAt fs k=f:=⟨_,rfl⟩
   have HFK:=hide hf
   rw[hf] at fc hu
   have kc:=hide (fun W'=>counts_v A fs.length c lim f u W' hu)
   obtain⟨d0,d1,d2,d3,d4,d5,d6,d7,d8⟩:=fc
   have HRD:=hide hrd
   have HPL:=hide hplen
   have HJk:=hide hJ
   have HcB:=hide hcB
   have HcB2:=hide hcB2
   clear hrd hJ hplen hf hu hA
   gi_wp2_with fail
   refine⟨trivial,(fun h=>by cases h),?_⟩
   refine (callsIn_wide.2 (kc.out _)).mono ?_
   rintro e w' ⟨rfl,⟨n1,os1⟩,rfl⟩
   dsimp only
   have hg5:Grew wr (grow (dr (wr.alloc (.cells #[.int .i64 f.id,.int .i64 f.kind,.int .i64 f.x,.int .i64 f.y,.int .i64 f.rad,.slice f.aA f.area.length f.ac,.int .i64 f.dep,.int .i64 f.sym,.slice f.sA f.secs.length f.sc] 54)) n1) os1):=gw
   cases u
   ·have HET:Hid (pre.map ciN=countsTo fs lim (k+1)):=hide (by rw[HPRE.out,countsTo_no HU.out])
    have hJ5:=HJ.out _ _ _ none HJk.out (hg5.grownBy none) (fun r hr=>by cases hr)
    have HJ5:=hide hJ5
    have HG5:=hide hg5
    clear hJ5 hg5
    gi_wp2_with fail
    refine⟨(fun _ h=>by cases h),?_⟩
    gi_wp2_with fail
    go_roundw
    case rel=>exact⟨k+1,pre,by omega,by go_num,HET.out,HJ5.out,HRD.out.grew HG5.out (by omega),(HG5.out.below.cell (p:=⟨B,0,none⟩) hBw).trans HcB.out,(HG5.out.below.cell (p:=⟨B,1,none⟩) hBw).trans HcB2.out,by have:=HG5.out.below.size;omega⟩
    case measure=>simp[intOf];omega
   ·have hk0:=HU.out
    have HET:Hid ((pre++[(⟨⟨k,hlt⟩,hk0⟩:CI fs lim)]).map ciN=countsTo fs lim (k+1)):=hide (by rw[List.map_append,HPRE.out,countsTo_yes hk0];rfl)
    have henc:encC fs lim ⟨⟨k,hlt⟩,hk0⟩=#[f.val]:=by
     show #[(fAt fs k).val]=#[f.val]
     rw[HFK.out]
    have hJ5:=HJ.out _ _ _ none HJk.out (hg5.grownBy none) (fun r hr=>by cases hr)
    obtain⟨fn1,tm1,as1,bo1,hy1,hR1⟩:=HY.out _ ⟨⟨k,hlt⟩,hk0⟩ _ hJ5 (by have:=HPL.out;omega)
    rw[henc] at hy1
    have HR1:=hide hR1
    have HR5:=hide (HRD.out.grew hg5 (by omega))
    have HC5:=hide ((hg5.below.cell (p:=⟨B,0,none⟩) hBw).trans HcB.out)
    have HC6:=hide ((hg5.below.cell (p:=⟨B,1,none⟩) hBw).trans HcB2.out)
    have hbx:(grow (dr (wr.alloc (.cells #[.int .i64 f.id,.int .i64 f.kind,.int .i64 f.x,.int .i64 f.y,.int .i64 f.rad,.slice f.aA f.area.length f.ac,.int .i64 f.dep,.int .i64 f.sym,.slice f.sA f.secs.length f.sc] 54)) n1) os1).heap[wr.heap.size]?=some (.cells #[.int .i64 f.id,.int .i64 f.kind,.int .i64 f.x,.int .i64 f.y,.int .i64 f.rad,.slice f.aA f.area.length f.ac,.int .i64 f.dep,.int .i64 f.sym,.slice f.sA f.secs.length f.sc] 54 (0,0)):=(heap_grow_old _ _ (by simp[hs_dr])).trans (heap_alloc_at _ _ _ rfl)
    have HBX:=hide hbx
    clear hbx
    clear hR1 hg5 hJ5 henc
    gi_wp2_with fail
    refine⟨(fun h=>by cases h),?_⟩
    refine HR1.out.mono ?_
    rintro e W3 (⟨rfl,hJ3,hk3⟩|⟨rfl,hJx3⟩)
    ·have hrd3:=HR5.out.kpm hk3.1 hMK.out
     have hc3:=hk3.1.cell hMB.out HC5.out
     have hc4:=hk3.1.cell hMB.out HC6.out
     have HJ3:=hide hJ3
     have HC3:=hide hc3
     have HC4:=hide hc4
     have HRD3:=hide hrd3
     have hb3:=Nat.lt_of_lt_of_le (blk_lt HBX.out) hk3.2
     have hB3:=cell_lt hc3
     clear hc3 hc4 hrd3 hk3 hy1 d0 d1 d2 d3 d4 d5 d6 d7 d8
     clear hJ3
     dsimp only
     gi_wp2_with fail
     go_roundw
     case rel=>exact⟨k+1,_,by omega,by go_num,HET.out,HJ3.out,HRD3.out,HC3.out,HC4.out,by omega⟩
     case measure=>simp[intOf];omega
    ·have HX:=hide hJx3
     clear hJx3 hy1
     dsimp only
     gi_wp2_with fail
     refine bodyPost_ret (results_none rfl _ _ _) rfl ?_
     exact⟨⟨_,rfl⟩,.inr ⟨_,⟨k+1,by omega,HET.out⟩,HX.out⟩⟩
  ·obtain rfl:k=fs.length:=by omega
   gi_wp2
   go_end0
   exact⟨⟨_,rfl⟩,.inl ⟨_,HPRE.out,hJ⟩⟩
/-- The features named by their indices. -/
def cntL (fs:List FV)(is:List Nat):List FV:=is.map (fAt fs)
theorem cntL_snoc (fs:List FV)(is:List Nat)(i:Nat):cntL fs (is++[i])=cntL fs is++[fAt fs i]:=by
 unfold cntL
 rw[List.map_append]
 rfl
theorem cntL_len (fs:List FV)(is:List Nat):(cntL fs is).length=is.length:=List.length_map _
def RowR (w:World)(xs:List FV)(e:Ending)(w':World):Prop:=∃A' c',e=.returned (.slice A' xs.length c')∧Rd w' w'.heap.size 9 A' (xs.map FV.cells)∧Grew w w'
theorem AppSeq_v (fs:List FV)(A:Option Addr)(c B:Nat)(lim:Int)(w:World)(hB:w.heap[B]?=some (.cells #[.slice A fs.length c,.int .i64 lim] 62 (0,0)))(hr:Rd w w.heap.size 9 A (fs.map FV.cells))(hl:fs.length≤1000) :
  Calls Tryz.prog 52 #[.slice none 0 0,.func (.func 53) #[] #[.pointer (some ⟨B,0,none⟩)]] w (RowR w (cntL fs (countsTo fs lim fs.length))):=by
 have hm:=hmix
 obtain⟨i0,hi0,hz0,hz1,hz2⟩:=fInfo_parts feInf
 have HR:=hide hr
 have HB0:=hide hB
 have hBl:=blk_lt hB
 clear hr hB
 refine (callsIn_wide (n:=9)).1 ?_
 refine callsIn_of_wp_marks Tryz.func52 rfl trivial ?_ rfl
 simp only[Tryz.ntmps52,List.size_toArray,List.length_cons,List.length_nil,Nat.reduceAdd,Nat.reduceSub,Array.replicate_succ,Array.replicate_zero,List.push_toArray,List.append_toArray,List.nil_append,List.cons_append]
 gi_wp2_with fail
 refine wpIn_name ?_
 intro a0 W0 ha hW
 have hg0:Grew w W0:=by rw[←hW];exact gw
 have hn0:Boxed W0 w.heap.size 22 (.slice none 0 0):=by rw[←hW];exact heap_alloc_new _ _
 have hk0:W0.heap[B]?=some (.cells #[.slice A fs.length c,.int .i64 lim] 62 (0,0)):=(hg0.below.block B hBl).trans HB0.out
 have hsz:W0.heap.size=w.heap.size+1:=by rw[←hW];simp
 clear hW
 obtain⟨Z,hZ⟩:∃Z,w.heap.size=Z:=⟨_,rfl⟩
 have hg0b:=hg0.below
 have hRow:=HR.out.grew hg0 (Nat.le_refl _)
 have ha2:a0.eval (.tmp 6)=.func (.func 53) #[] #[.pointer (some ⟨B,0,none⟩)]:=by rw[←ha];simp[Act.eval]
 have H1000:=hide hl
 rw[hZ] at hn0 hsz hBl hRow
 refine wpIn_rangeFunc_ownH (n:=9) rfl (by omega) (gf:=53) (lb:=#[.pointer (some ⟨B,0,none⟩)]) ha2 trivial (enters_of Tryz.func53 (by kernel_rfl) rfl)
  (dall_stopsS 8 Z (fun b _=>Z≤b) fs A c B lim W0 (fun b T hb=>hb) (fun T hb=>by omega) hk0 hRow (by omega) (by omega))
  (fun h k=>h.trans k) KpS.bk (Below.refl _ _) (fun _=>rfl)
  (fun pre W=>Below w.heap.size w W∧∃v,Boxed W Z 22 v∧W.ownsRow (Z+1) 54 9 v (cntL fs (pre.map ciN)).length ((cntL fs (pre.map ciN)).flatMap FV.cells)∧True)
  (fun _ _ _=>False)
  (OwnFrom.and (ownFrom_below (Nat.le_refl _) hg0.below.size) (Own.from (holdsRow_own _ _ _ _ _ (fun pre:List (CI fs lim)=>(cntL fs (pre.map ciN)).length) (fun pre:List (CI fs lim)=>(cntL fs (pre.map ciN)).flatMap FV.cells) (fun _ _=>True)) _))
  (fun q=>ownFrom_pure _)
  ⟨hg0.below,_,hn0,World.ownsRow_nil _ _ _ _,trivial⟩
  (fun x a' W=>∃B,W.heap[B]?=some (.cells #[.int .i64 (fAt fs (ciN x)).id,.int .i64 (fAt fs (ciN x)).kind,.int .i64 (fAt fs (ciN x)).x,.int .i64 (fAt fs (ciN x)).y,.int .i64 (fAt fs (ciN x)).rad,.slice (fAt fs (ciN x)).aA (fAt fs (ciN x)).area.length (fAt fs (ciN x)).ac,.int .i64 (fAt fs (ciN x)).dep,.int .i64 (fAt fs (ciN x)).sym,.slice (fAt fs (ciN x)).sA (fAt fs (ciN x)).secs.length (fAt fs (ciN x)).sc] 54 (0,0))∧B≠Z∧a'={ tmps:=(a0.tmps.setIfInBounds 7 (fAt fs (ciN x)).val).setIfInBounds 5 (.pointer (some ⟨B,0,none⟩)),defers:=[] })
  (fun x a'=>by
   rintro s X Y row ⟨B,h1,h2⟩ hg hr
   exact⟨B,cells_own h1 hg (fun r e=>(hr r e).2),h2⟩)
  ?assign ?body ?done ?stop
 case assign =>
  rintro l pre x W K ⟨hB,v,hn,hown,_⟩ hK
  rw[show encC fs lim x=#[(fAt fs (ciN x)).val] from rfl,asg1]
  subst ha
  simp only[List.setIfInBounds_toArray,List.set_cons_succ,List.set_cons_zero] at hK ⊢
  have hKK:=hide hK
  have hbl:=hn.lt
  clear hK
  gi_wp2_with fail
  exact hKK.out _ _ ((KeepsOthers.alloc _ _).from _) (KpS.grew (Grew.alloc (Grew.refl _) _)) ⟨hB.alloc hB.size _,v,hn.alloc _,hown.alloc _,trivial⟩ ⟨W.heap.size,heap_alloc_new _ _,by omega,rfl⟩
 case body =>
  rintro l pre x a' W hl2 _ ⟨hB,v,hn,hown,_⟩ ⟨B,hx,hBne,rfl⟩ hlt
  subst ha
  have hsn:=cntL_snoc fs (pre.map ciN) (ciN x)
  rw[show (pre.map ciN)++[ciN x]=(pre++[x]).map ciN by simp] at hsn
  have hol:(cntL fs (pre.map ciN)).length≤pre.length:=by rw[cntL_len,List.length_map];exact Nat.le_refl _
  have hpl:pre.length<1000:=by have:=H1000.out;omega
  obtain⟨out,hout⟩:∃o,cntL fs (pre.map ciN)=o:=⟨_,rfl⟩
  rw[hout] at hown hol hsn
  obtain⟨f,hf⟩:∃f,fAt fs (ciN x)=f:=⟨_,rfl⟩
  rw[hf] at hsn hx
  simp only[hf]
  obtain⟨Av,cv,rfl,hcv,hrd⟩:=Rd.of_own fv_len hown rfl
  have c0:W.cell? ⟨Z,0,none⟩=_:=hn.cell
  have f0:W.frozen? ⟨Z,0,none⟩=_:=hn.frozen
  have d0:W.cell? ⟨B,0,none⟩=some _:=blk_cell hx 0
  have d1:W.cell? ⟨B,1,none⟩=some _:=blk_cell hx 1
  have d2:W.cell? ⟨B,2,none⟩=some _:=blk_cell hx 2
  have d3:W.cell? ⟨B,3,none⟩=some _:=blk_cell hx 3
  have d4:W.cell? ⟨B,4,none⟩=some _:=blk_cell hx 4
  have d5:W.cell? ⟨B,5,none⟩=some _:=blk_cell hx 5
  have d6:W.cell? ⟨B,6,none⟩=some _:=blk_cell hx 6
  have d7:W.cell? ⟨B,7,none⟩=some _:=blk_cell hx 7
  have d8:W.cell? ⟨B,8,none⟩=some _:=blk_cell hx 8
  have lB:=blk_lt hx
  have lZ:=hn.lt
  have HB:=hide hB
  have Hn:=hide hn
  have HX:=hide hx
  have HN:=hide hown
  have HSN:=hide hsn
  clear hB hn hown hx hsn hout hrd hf hlt
  try dsimp only
  simp only[hZ,List.setIfInBounds_toArray,List.set_cons_succ,List.set_cons_zero]
  gi_wp2_with (gi_at_builtin;refine AppG3.stop ?_)
  refine AppG3.go ?_
  refine wpListIn_append_own _ rfl (.tmp 8) (.tmp 10) 22 rfl (Z+1) 54 i0 _ 9 104 Tryz.underlying22 hi0 hz0 hz1 hz2 (by rfl) (by omega) _ out.length _ (by rfl) (fown_grew HN.out gw) ⟨_,0,none⟩ 1 1 f.cells (by rfl) (by rfl) (by intro j x hx;rw[add_at];simp only[Nat.zero_add];match j,hx with|0,hx=>(injection hx with hx;subst hx;go_simp)|1,hx=>(injection hx with hx;subst hx;go_simp)|2,hx=>(injection hx with hx;subst hx;go_simp)|3,hx=>(injection hx with hx;subst hx;go_simp)|4,hx=>(injection hx with hx;subst hx;go_simp)|5,hx=>(injection hx with hx;subst hx;go_simp)|6,hx=>(injection hx with hx;subst hx;go_simp)|7,hx=>(injection hx with hx;subst hx;go_simp)|8,hx=>(injection hx with hx;subst hx;go_simp)) (fun x hx=>by simp[FV.cells] at hx;rcases hx with rfl|rfl|rfl|rfl|rfl|rfl|rfl|rfl|rfl<;>rfl) (by unfold maxLen;omega) (by omega) (by simp[hs_dr];omega) ?_
  intro v' w3 hown' hgrow _
  obtain⟨gv,capv,rfl⟩:=ownsRow_succ hown'
  have hgX:Grew W (W.alloc (.cells #[.int .i64 f.id,.int .i64 f.kind,.int .i64 f.x,.int .i64 f.y,.int .i64 f.rad,.slice f.aA f.area.length f.ac,.int .i64 f.dep,.int .i64 f.sym,.slice f.sA f.secs.length f.sc] 54)):=gw
  obtain⟨z1,z2,z3,z4,z5,z6⟩:=fboxed_app (n₁:=w.heap.size) (bxd_grew Hn.out hgX) (by decide) (fown_grew HN.out hgX) (by omega) (by omega) hown' hgrow
  have y1:=z1.cell
  have y2:=z1.frozen
  have Z2:=hide z2
  have Z3:=hide z3
  have Z4:=hide z4
  have Z5:=hide z5
  have Z6:=hide z6
  have HGX:=hide hgX
  clear z1 z2 z3 z4 z5 z6 hown' hgrow hgX c0 f0 d0 d1 d2 d3 d4 d5 d6 d7 d8
  gi_wp2_with fail
  refine⟨(HGX.out.keepsFrom _).trans (Z4.out.from _),⟨(KpM.grew HGX.out).trans (fun b cs T fr hM hb=>Z6.out b cs T fr (fun h=>hM (by rw[h];exact Nat.le_refl _)) (fun h=>hM (by have:=h.1;omega)) hb),Nat.le_trans HGX.out.below.size Z5.out.size⟩,⟨by have h:=(HB.out.trans (HGX.out.below.mono HB.out.size)).trans Z5.out;rw[hZ] at h;exact h,_,Z2.out,?_,trivial⟩⟩
  rw[HSN.out,List.flatMap_append,List.length_append]
  simpa using Z3.out
 case done =>
  subst ha
  rintro D xs W hD hS ⟨hB,v,hn,hown,_⟩ hK
  rw[hS] at hown
  have c0:W.cell? ⟨Z,0,none⟩=_:=hn.cell
  have HB:=hide hB
  have HN:=hide hown
  have lZ:=hn.lt
  clear hB hn hS hown
  simp only[hZ]
  gi_wp2_with fail
  refine⟨by simp,.inl ⟨_,_,rfl,run_takeDeferred hK,?_⟩⟩
  have hb5:=HB.out.trans (belowK_b (w:=w) (Nat.le_refl _) _ D _ (.deferred none) (by omega) hK rfl rfl)
  obtain⟨Av,cv,rfl,_,hrd⟩:=Rd.of_own fv_len (ownsRow_putObj HN.out (.deferred none) hK rfl) rfl
  refine⟨.slice Av _ cv,by simp[results,Tryz.results52,go_sem];rfl,?_⟩
  exact⟨Av,cv,rfl,hrd,Grew.of_below hb5⟩
 case stop=>exact fun _ _ _ _ _ _ h _=>h.elim
theorem Collect_v (fs:List FV)(A:Option Addr)(c B:Nat)(lim:Int)(w:World)(hB:w.heap[B]?=some (.cells #[.slice A fs.length c,.int .i64 lim] 62 (0,0)))(hr:Rd w w.heap.size 9 A (fs.map FV.cells))(hl:fs.length≤1000) :
  Calls Tryz.prog 24 #[.func (.func 53) #[] #[.pointer (some ⟨B,0,none⟩)]] w (RowR w (cntL fs (countsTo fs lim fs.length))):=by
 have hm:=hmix
 have kc:=hide (fun W (hg:Grew w W)=>AppSeq_v fs A c B lim W ((hg.below.block B (blk_lt hB)).trans hB) (hr.up hg) hl)
 clear hB hr
 go_enter Tryz.func24,Tryz.ntmps24
 go_wp2_with fail
 refine (kc.out _ gw).mono ?_
 rintro e w' ⟨A',c',rfl,h1,hg⟩
 have H1:=hide h1
 have HG:=hide (Grew.trans (a:=w) gw hg)
 clear h1 hg
 dsimp only
 go_wp2_with fail
 go_ret
 exact⟨_,_,rfl,H1.out.up gw,HG.out.trans gw⟩
end Go.Proofs.YtblgdlnmabkpoaaGreat
namespace Go.Proofs.YtblgdlnmabkpoaaGreat
open Go.RowKit Go.Sort
attribute [local go_sem] Steady steadyUpon
attribute [local go_sem ↓] hs_dr lt_add_r lt_add_r2 lt_add_r3 lt_add_r4 lt_add_r5 lt_add_r6
attribute [local go_sem] cell?_gd frozen?_gd setCell_gd size_grow tape_grow cell?_grow' frozen?_grow' setCell_grow' grow_grow grow_dr grow_drew dr_dr dr_drew drew_dr dr_alloc dr_setCell dr_cell dr_frozen dr_tape dr_drawn
attribute [local irreducible] wpSteady
theorem calls_name {P:Program}{f:FuncId}{args:Array Value}{w:World}{R:Ending→World→Prop}(h:∀W0,w=W0→Calls P f args W0 R):Calls P f args w R:=h _ rfl
theorem count_bare (f:FV)(n:Int):countB f.bare n=countB f n:=rfl
theorem counts_of {fs gs:List FV}(h:fs.map FV.bare=gs.map FV.bare)(n:Int)(k:Nat):countsTo fs n k=countsTo gs n k:=by
 unfold countsTo
 refine List.filter_congr fun i _=>?_
 rw[←count_bare (fAt fs i),←count_bare (fAt gs i),bare_at h i]
theorem cntL_of {fs gs:List FV}(h:fs.map FV.bare=gs.map FV.bare)(is:List Nat):(cntL fs is).map FV.bare=(cntL gs is).map FV.bare:=by
 unfold cntL
 rw[List.map_map,List.map_map]
 refine List.map_congr_left fun i _=>?_
 exact bare_at h i
theorem by_bare (f:FV)(gs:List FV):byOf f (gs.map FV.bare)=byOf f gs:=by
 unfold byOf
 rw[List.find?_map]
 have e:(metB f ∘ FV.bare)=metB f:=funext fun g=>met_bare f g
 rw[e]
 cases gs.find? (metB f)<;>rfl
theorem by_of {gs gs':List FV}(h:gs.map FV.bare=gs'.map FV.bare)(f:FV):byOf f gs=byOf f gs':=by rw[←by_bare f gs,h,by_bare]
theorem prove_of {gs gs':List FV}(h:gs.map FV.bare=gs'.map FV.bare)(fs:List FV)(n:Int):proveOf fs gs n=proveOf fs gs' n:=by
 have e1:askedOf fs gs n=askedOf fs gs' n:=by unfold askedOf;rw[FList_of h]
 have e2:∀f,byOf f gs=byOf f gs':=by_of h
 unfold proveOf unpS prvS
 rw[e1]
 simp only[e2]
/-- The features of a chart, below a limit. -/
def chartOf (fs:List FV)(n:Int):List FV:=cntL fs (countsTo fs n fs.length)
theorem chart_bare {fs gs:List FV}(h:fs.map FV.bare=gs.map FV.bare)(n:Int):(chartOf fs n).map FV.bare=(chartOf gs n).map FV.bare:=by
 unfold chartOf
 rw[len_of h,counts_of h]
 exact cntL_of h _
theorem chart_len (fs:List FV)(n:Int):(chartOf fs n).length≤fs.length:=by
 unfold chartOf
 rw[cntL_len]
 exact countsTo_len _ _ _
theorem chart_mem {fs:List FV}{n:Int}{g:FV}(h:g∈chartOf fs n):g∈fs∧countB g n=true:=by
 unfold chartOf cntL at h
 obtain⟨i,hi,rfl⟩:=List.mem_map.1 h
 unfold countsTo at hi
 obtain⟨h1,h2⟩:=List.mem_filter.1 hi
 exact⟨fAt_mem (List.mem_range.1 h1),h2⟩
def makeOf (fs:List FV)(rs:List Ru):(List FV×List Pt)×Int :=
 if (runOf rs fs).2=0 then
  (if (proveOf fs (chartOf (runOf rs fs).1 (capOf rs).1) (capOf rs).1).2=0 then ((chartOf (runOf rs fs).1 (capOf rs).1,(proveOf fs (chartOf (runOf rs fs).1 (capOf rs).1) (capOf rs).1).1),0)
   else (([],[]),(proveOf fs (chartOf (runOf rs fs).1 (capOf rs).1) (capOf rs).1).2))
 else (([],[]),(runOf rs fs).2)
def MakeR (w:World)(r:(List FV×List Pt)×Int)(e:Ending)(w':World):Prop :=
 ∃A' c' fs' B' d',e=.returned (.tuple #[.slice A' fs'.length c',.slice B' r.1.2.length d',.int .i64 r.2])∧fs'.map FV.bare=r.1.1.map FV.bare∧FRd w' w'.heap.size A' fs'∧Rd w' w'.heap.size 2 B' (r.1.2.map encD)∧Grew w w'
theorem Make_v (fs:List FV)(rs:List Ru)(A Ar:Option Addr)(c cr:Nat)(w:World)(hr:FRd w w.heap.size A fs)(hrr:Rd w w.heap.size 3 Ar (rs.map encR))(hc:fs.length≤100000000000)(hcr:rs.length≤100000000000000) :
  Calls Tryz.prog 6 #[.slice A fs.length c,.slice Ar rs.length cr] w (MakeR w (makeOf fs rs)):=by
 have hm:=hmix
 have kr:=hide (fun W (hg:Grew w W)=>Run_v rs fs Ar A cr c W (hrr.up hg) (hr.up hg) (by omega) (by omega))
 obtain⟨cap,hcap⟩:∃r,capOf rs=r:=⟨_,rfl⟩
 have kc:=hide (fun W (hg:Grew w W)=>RuCap_v rs Ar cr cap W (hrr.up hg) (by omega) hcap)
 have HR:=hide hr
 obtain⟨res,hres⟩:∃r,makeOf fs rs=r:=⟨_,rfl⟩
 rw[hres]
 unfold makeOf at hres
 have hcp0:(runOf rs fs).2=0→cap.2=0:=fun h=>by
  rw[←hcap]
  unfold capOf
  rw[if_pos (run_ok h).1]
 have hle:=run_le (rs:=rs) (fs:=fs)
 rw[hcap] at hres
 obtain⟨⟨d,e1⟩,hd⟩:∃r,runOf rs fs=r:=⟨_,rfl⟩
 rw[hd] at hres kr hcp0 hle
 obtain⟨lim,e2⟩:=cap
 dsimp only at hres kr kc hcp0 hle
 clear hr hrr hcap hd
 by_cases h0:e1=0
 ·subst h0
  obtain rfl:e2=0:=hcp0 rfl
  rw[if_pos rfl] at hres
  clear hcp0
  have HRES:=hide hres
  clear hres
  go_enter Tryz.func6,Tryz.ntmps6
  go_wp2_with fail
  refine (kr.out _ gw).mono ?_
  rintro e w1 ⟨A1,c1,d',rfl,hb,hrd,hg1⟩
  have HG1:Hid (Grew w w1):=hide (Grew.trans gw hg1)
  have HB:=hide hb
  have HD:=hide hrd
  have hdl:d'.length≤1000:=by have h9:=len_of hb;dsimp only at h9;omega
  clear hb hrd hg1 kr
  dsimp only
  go_wp2_with (go_at_call 23;with_reducible refine crv (kc.out _ (HG1.out.trans gw)) fun _ _=>?_;dsimp only)
  refine calls_name ?_
  intro W1 hW
  have HGW:Hid (Grew w1 W1):=hide (by rw[←hW];exact gw)
  clear hW kc
  refine (dall_any _ _ _ _ _).mono ?_
  rintro e w2 ⟨rfl,hw2⟩
  have hB2:w2.heap[W1.heap.size]?=some (.cells #[.slice A1 d'.length c1,.int .i64 lim] 62 (0,0)):=by rw[←hw2];exact heap_alloc_new _ _
  have HG2:Hid (Grew w1 w2):=hide (by rw[←hw2];exact HGW.out.trans gw)
  have kcol:=hide (fun W (hg:Grew w2 W)=>Collect_v d' A1 c1 W1.heap.size lim W ((hg.below.block _ (blk_lt hB2)).trans hB2) ((HD.out.up (HG2.out.trans hg)).row) hdl)
  clear hw2 hB2
  dsimp only
  go_wp2_with fail
  refine (kcol.out _ gw).mono ?_
  rintro e w3 ⟨A3,c3,rfl,hrow,hg3⟩
  have HG3:Hid (Grew w1 w3):=hide (HG2.out.trans (Grew.trans gw hg3))
  have HCH:Hid (FRd w3 w3.heap.size A3 (chartOf d' lim)):=hide ⟨hrow,fun g hg=>(HD.out.each g (chart_mem hg).1).up HG3.out⟩
  have hcl:=chart_len d' lim
  change Hid _ at HCH
  have HBC:=hide (chart_bare HB.out lim)
  obtain⟨ch,hch⟩:∃l,chartOf d' lim=l:=⟨_,rfl⟩
  have hch2:cntL d' (countsTo d' lim d'.length)=ch:=hch
  rw[hch] at HCH HBC hcl
  rw[hch2] at hrow ⊢
  have hpv:=prove_of HBC.out fs lim
  have kp:=hide (fun W (hg:Grew w3 W)=>Prove_v fs ch A A3 c c3 lim W (HR.out.up (HG1.out.trans (HG3.out.trans hg))) (HCH.out.up hg) hc (by omega))
  rw[hpv] at kp
  have hres:=HRES.out
  obtain⟨⟨prs,e3⟩,hpr⟩:∃r,proveOf fs (chartOf d lim) lim=r:=⟨_,rfl⟩
  rw[hpr] at kp hres
  dsimp only at kp hres
  clear hrow hg3 kcol hch hch2 hpv hpr HRES
  dsimp only
  by_cases h3:e3=0
  ·subst h3
   rw[if_pos rfl] at hres
   subst hres
   go_wp2_with fail
   refine (kp.out _ gw).mono ?_
   rintro e w4 ⟨A4,c4,rfl,hrd4,hg4⟩
   have HG4:Hid (Grew w3 w4):=hide (Grew.trans gw hg4)
   have H4:=hide hrd4
   clear hrd4 hg4 kp
   dsimp only
   go_wp2_with fail
   refine bodyPost_ret (v:=.tuple #[.slice A3 ch.length c3,.slice A4 prs.length c4,.int .i64 0]) (by simp[results,Tryz.results6,go_sem]) rfl ?_
   exact⟨_,_,ch,_,_,rfl,HBC.out,HCH.out.up (HG4.out.trans gw),H4.out.up gw,HG1.out.trans (HG3.out.trans (HG4.out.trans gw))⟩
  ·rw[if_neg h3] at hres
   subst hres
   have hne:(e3 != 0)=true:=by simpa using h3
   go_wp2_with fail
   refine (kp.out _ gw).mono ?_
   rintro e w4 ⟨A4,c4,rfl,hrd4,hg4⟩
   have HG4:Hid (Grew w3 w4):=hide (Grew.trans gw hg4)
   clear hrd4 hg4 kp
   dsimp only
   go_wp2_with fail
   refine bodyPost_ret (v:=.tuple #[.slice none 0 0,.slice none 0 0,.int .i64 e3]) (by simp[results,Tryz.results6,go_sem]) rfl ?_
   exact⟨_,_,[],_,_,rfl,rfl,FRd.nil _ _ _,Rd.nil _ _ _ _,HG1.out.trans (HG3.out.trans (HG4.out.trans gw))⟩
 ·rw[if_neg h0] at hres
  subst hres
  have hne:(e1 != 0)=true:=by simpa using h0
  clear hcp0
  go_enter Tryz.func6,Tryz.ntmps6
  go_wp2_with fail
  refine (kr.out _ gw).mono ?_
  rintro e w1 ⟨A1,c1,d',rfl,hb,hrd,hg1⟩
  have HG1:Hid (Grew w w1):=hide (Grew.trans gw hg1)
  clear hb hrd hg1 kr
  dsimp only
  go_wp2_with fail
  refine bodyPost_ret (v:=.tuple #[.slice none 0 0,.slice none 0 0,.int .i64 e1]) (by simp[results,Tryz.results6,go_sem]) rfl ?_
  exact⟨_,_,[],_,_,rfl,rfl,FRd.nil _ _ _,Rd.nil _ _ _ _,HG1.out.trans gw⟩
end Go.Proofs.YtblgdlnmabkpoaaGreat
