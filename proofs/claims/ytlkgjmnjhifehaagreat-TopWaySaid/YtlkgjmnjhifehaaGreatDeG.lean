/- slices.Collect of the features that count; Make. derive.Make. -/
import Derived.Test.YtlkgjmnjhifehaaGreatRuZ
import Derived.Test.YtlkgjmnjhifehaaGreatDeX
import Derived.Test.YtlkgjmnjhifehaaGreatSaT
set_option linter.unusedSimpArgs false
set_option linter.unusedVariables false
set_option maxHeartbeats 8000000
set_option maxRecDepth 100000
namespace Go.Proofs.YtlkgjmnjhifehaaGreat
open Go.RowKit Go.Sort Go.Lib
attribute [local go_sem] dA steadyUpon
attribute [local go_sem ↓] bU bI aX aW aV aU aT
attribute [local go_sem] bH aK aJ size_grow tape_grow cell?_grow' aF aB grow_grow bW aY dR cO bY bK aN cZ aZ bZ bJ
attribute [local irreducible] wpSteady
attribute [local go_sem] Oper.semAt_some
def XW (M:Nat->TypeId->Prop)(W W':World):Prop:=gW M W W'/\W.heap.size<=W'.heap.size
theorem XW.trans {M:Nat->TypeId->Prop}{A B C:World}(h:XW M A B)(k:XW M B C):XW M A C:=⟨h.1.trans k.1,Nat.le_trans h.2 k.2⟩
theorem XW.bk {M:Nat->TypeId->Prop}{w:World}(W:World)(l:Nat)(o o':Obj)(h0:w.heap.size<=l)(h:W.heap[l]?=some o)(ho:o.isCells=false)(hw:o.isWalk=false):XW M W (W.putObj l o'):=⟨gW.bk (w:=w) W l o o' h0 h ho hw,by simp[World.putObj]⟩
theorem XW.grew {M:Nat->TypeId->Prop}{W W':World}(h:Grew W W'):XW M W W':=⟨gW.grew h,h.below.size⟩
theorem Lu (n K:Nat)(M:Nat->TypeId->Prop)(fs:List FV)(A:Option Addr)(c B:Nat)(lim:Int)(w:World)(hM1:∀b T,M b T->K<=b)(hM2:∀T,¬ M B T)(hB:w.heap[B]?=some (.cells #[.slice A fs.length c,.int .i64 lim] 84 (0,0)))
  (hr:Rd w K 9 A (fs.map FV.cells)) (hK:K<=w.heap.size) (hl:fs.length<=1000000) :
  SeqStopsK Fence.wide n Tryz.prog 70 #[.pointer (some ⟨B,0,none⟩)] (SV fs lim) (XW M) (fun xs=>xs.map kJ=bD fs lim fs.length) (fun pre=>∃k,k<=fs.length/\pre.map kJ=bD fs lim k) fs.length w:=by
 intro l J Jx W hW hJ hJx hY h0
 have hm:=aP
 have HR:=hide ((hr.below (hW.mono hK)))
 have hBW:W.heap[B]?=some _:=(hW.block B (au hB)).trans hB
 have c0:W.cell? ⟨B,0,none⟩=some (.slice A fs.length c):=by rw[ag hBW];rfl
 have c1:W.cell? ⟨B,1,none⟩=some (.int .i64 lim):=by rw[ag hBW];rfl
 have hMK:Hid (∀b T,b<K->¬ M b T):=hide (fun b T hb h=>by have:=hM1 b T h;omega)
 have SK:Hid (∀T,¬ M B T):=hide hM2
 have hKW:K<=W.heap.size:=Nat.le_trans hK hW.size
 have Sm:=hW.size
 have HJ:=hide hJ
 have HJx:=hide hJx
 have HY:=hide hY
 have H0:=hide h0
 clear hr hM1 hM2 hJ hJx hY h0 hW hB hBW
 refine callsIn_of_wp Tryz.func70 rfl trivial ?_ rfl
 simp only[Tryz.ntmps70,List.size_toArray,List.length_cons,List.length_nil,Nat.reduceAdd,Nat.reduceSub,Array.replicate_succ,Array.replicate_zero,List.push_toArray,List.append_toArray,List.nil_append,List.cons_append]
 gi_wp2_with fail
 gi_loopw [8] (fun i wr=>∃ (k:Nat) (pre:List (CI fs lim)),k<=fs.length/\i=.int .i64 k/\pre.map kJ=bD fs lim k/\J pre wr/\Rd wr K 9 A (fs.map FV.cells)/\wr.cell? ⟨B,0,none⟩=some (.slice A fs.length c)/\wr.cell? ⟨B,1,none⟩=some (.int .i64 lim)/\W.heap.size<=wr.heap.size) (fun i _=>fs.length-(intOf i).toNat)
 case atStart=>exact⟨0,[],by omega,rfl,rfl,H0.out,HR.out,c0,c1,Nat.le_refl _⟩
 case round =>
  obtain⟨k,pre,hk,rfl,hpre,hJ,hrd,hcB,SH,hsz⟩:=hrel
  have lV:pre.length<=k:=by have:=congrArg List.length hpre;have:=uJ fs lim k;simp only[List.length_map] at *;omega
  have kW:=hide hpre
  clear c0 c1 hpre
  by_cases hlt:k<fs.length
  ·obtain⟨b,off,hA,hb,fc⟩:=rowAt hrd hlt
   have hix:=aO (cap:=c) Tryz.underlying23 Tryz.sizeOf65 hA.out hlt
   have hbw:b<wr.heap.size:=by omega
   have hBw:B<wr.heap.size:=cell_lt hcB
   obtain⟨u,hu⟩:∃u,countB (bF fs k) lim=u:=⟨_,rfl⟩
   have HU:=hide hu
   obtain⟨f,hf⟩:∃f,bF fs k=f:=⟨_,rfl⟩
   have HFK:=hide hf
   rw[hf] at fc hu
   have kc:=hide (fun W'=>LM A fs.length c lim f u W' hu)
   obtain⟨d0,d1,d2,d3,d4,d5,d6,d7,d8⟩:=fc
   have FZ:=hide hrd
   have O1:=hide lV
   have CG:=hide hJ
   have HcB:=hide hcB
   have JC:=hide SH
   clear hrd hJ lV hf hu hA
   gi_wp2_with fail
   refine⟨trivial,(fun h=>by cases h),?_⟩
   refine (callsIn_wide.2 (kc.out _)).mono ?_
   rintro e w' ⟨rfl,⟨n1,os1⟩,rfl⟩
   dsimp only
   have hg5:Grew wr (grow (dr (wr.alloc (.cells #[.int .i64 f.id,.int .i64 f.kind,.int .i64 f.x,.int .i64 f.y,.int .i64 f.dC,.slice f.aA f.area.length f.ac,.int .i64 f.dep,.int .i64 f.sym,.slice f.sA f.secs.length f.sc] 65)) n1) os1):=gw
   cases u
   ·have F7:Hid (pre.map kJ=bD fs lim (k+1)):=hide (by rw[kW.out,Ce HU.out])
    have EC:=HJ.out _ _ _ none CG.out (hg5.grownBy none) (fun r hr=>by cases hr)
    have HJ5:=hide EC
    have vC:=hide hg5
    clear EC hg5
    gi_wp2_with fail
    refine⟨(fun _ h=>by cases h),?_⟩
    gi_wp2_with fail
    go_roundw
    case rel=>exact⟨k+1,pre,by omega,by go_num,F7.out,HJ5.out,FZ.out.grew vC.out (by omega),(vC.out.below.cell (p:=⟨B,0,none⟩) hBw).trans HcB.out,(vC.out.below.cell (p:=⟨B,1,none⟩) hBw).trans JC.out,by have:=vC.out.below.size;omega⟩
    case measure=>simp[intOf];omega
   ·have hk0:=HU.out
    have F7:Hid ((pre++[(⟨⟨k,hlt⟩,hk0⟩:CI fs lim)]).map kJ=bD fs lim (k+1)):=hide (by rw[List.map_append,kW.out,zN hk0];rfl)
    have henc:SV fs lim ⟨⟨k,hlt⟩,hk0⟩=#[f.val]:=by
     show #[(bF fs k).val]=#[f.val]
     rw[HFK.out]
    have EC:=HJ.out _ _ _ none CG.out (hg5.grownBy none) (fun r hr=>by cases hr)
    obtain⟨Zp,YB,ZX,ZR,hy1,hR1⟩:=HY.out _ ⟨⟨k,hlt⟩,hk0⟩ _ EC (by have:=O1.out;omega)
    rw[henc] at hy1
    have HR1:=hide hR1
    have HR5:=hide (FZ.out.grew hg5 (by omega))
    have HC5:=hide ((hg5.below.cell (p:=⟨B,0,none⟩) hBw).trans HcB.out)
    have HC6:=hide ((hg5.below.cell (p:=⟨B,1,none⟩) hBw).trans JC.out)
    have hbx:(grow (dr (wr.alloc (.cells #[.int .i64 f.id,.int .i64 f.kind,.int .i64 f.x,.int .i64 f.y,.int .i64 f.dC,.slice f.aA f.area.length f.ac,.int .i64 f.dep,.int .i64 f.sym,.slice f.sA f.secs.length f.sc] 65)) n1) os1).heap[wr.heap.size]?=some (.cells #[.int .i64 f.id,.int .i64 f.kind,.int .i64 f.x,.int .i64 f.y,.int .i64 f.dC,.slice f.aA f.area.length f.ac,.int .i64 f.dep,.int .i64 f.sym,.slice f.sA f.secs.length f.sc] 65 (0,0)):=(heap_grow_old _ _ (by simp[bU])).trans (az _ _ _ rfl)
    have mF:=hide hbx
    clear hbx
    clear hR1 hg5 EC henc
    gi_wp2_with fail
    refine⟨(fun h=>by cases h),?_⟩
    refine HR1.out.mono ?_
    rintro e W3 (⟨rfl,hJ3,hk3⟩|⟨rfl,hJx3⟩)
    ·have xM:=HR5.out.kpm hk3.1 hMK.out
     have hc3:=hk3.1.cell SK.out HC5.out
     have hc4:=hk3.1.cell SK.out HC6.out
     have MM:=hide hJ3
     have Ua:=hide hc3
     have HC4:=hide hc4
     have JE:=hide xM
     have hb3:=Nat.lt_of_lt_of_le (au mF.out) hk3.2
     have hB3:=cell_lt hc3
     clear hc3 hc4 xM hk3 hy1 d0 d1 d2 d3 d4 d5 d6 d7 d8
     clear hJ3
     dsimp only
     gi_wp2_with fail
     go_roundw
     case rel=>exact⟨k+1,_,by omega,by go_num,F7.out,MM.out,JE.out,Ua.out,HC4.out,by omega⟩
     case measure=>simp[intOf];omega
    ·have HX:=hide hJx3
     clear hJx3 hy1
     dsimp only
     gi_wp2_with fail
     refine bodyPost_ret (results_none rfl _ _ _) rfl ?_
     exact⟨⟨_,rfl⟩,.inr ⟨_,⟨k+1,by omega,F7.out⟩,HX.out⟩⟩
  ·obtain rfl:k=fs.length:=by omega
   gi_wp2
   go_end0
   exact⟨⟨_,rfl⟩,.inl ⟨_,kW.out,hJ⟩⟩
def tu (fs:List FV)(is:List Nat):List FV:=is.map (bF fs)
theorem Tu (fs:List FV)(is:List Nat)(i:Nat):tu fs (is++[i])=tu fs is++[bF fs i]:=by
 unfold tu
 rw[List.map_append]
 rfl
theorem LW (fs:List FV)(is:List Nat):(tu fs is).length=is.length:=List.length_map _
def afb (w:World)(xs:List FV)(e:Ending)(w':World):Prop:=∃A' c',e=.returned (.slice A' xs.length c')/\Rd w' w'.heap.size 9 A' (xs.map FV.cells)/\Grew w w'
theorem Yd (fs:List FV)(A:Option Addr)(c B:Nat)(lim:Int)(w:World)(hB:w.heap[B]?=some (.cells #[.slice A fs.length c,.int .i64 lim] 84 (0,0)))(hr:Rd w w.heap.size 9 A (fs.map FV.cells))(hl:fs.length<=1000) :
  Calls Tryz.prog 69 #[.slice none 0 0,.func (.func 70) #[] #[.pointer (some ⟨B,0,none⟩)]] w (afb w (tu fs (bD fs lim fs.length))):=by
 have hm:=aP
 obtain⟨i0,hi0,hz0,hz1,hz2⟩:=oK Le
 have HR:=hide hr
 have HB0:=hide hB
 have hBl:=au hB
 clear hr hB
 refine (callsIn_wide (n:=9)).1 ?_
 refine callsIn_of_wp_marks Tryz.func69 rfl trivial ?_ rfl
 simp only[Tryz.ntmps69,List.size_toArray,List.length_cons,List.length_nil,Nat.reduceAdd,Nat.reduceSub,Array.replicate_succ,Array.replicate_zero,List.push_toArray,List.append_toArray,List.nil_append,List.cons_append]
 gi_wp2_with fail
 refine dJ ?_
 intro a0 W0 ha hW
 have hg0:Grew w W0:=by rw[<-hW];exact gw
 have hn0:Boxed W0 w.heap.size 23 (.slice none 0 0):=by rw[<-hW];exact heap_alloc_new _ _
 have hk0:W0.heap[B]?=some (.cells #[.slice A fs.length c,.int .i64 lim] 84 (0,0)):=(hg0.below.block B hBl).trans HB0.out
 have hsz:W0.heap.size=w.heap.size+1:=by rw[<-hW];simp
 clear hW
 obtain⟨Z,hZ⟩:∃Z,w.heap.size=Z:=⟨_,rfl⟩
 have ajB:=hg0.below
 have hRow:=HR.out.grew hg0 (Nat.le_refl _)
 have ha2:a0.eval (.tmp 6)=.func (.func 70) #[] #[.pointer (some ⟨B,0,none⟩)]:=by rw[<-ha];simp[Act.eval]
 have afI:=hide hl
 rw[hZ] at hn0 hsz hBl hRow
 refine wpIn_rangeFunc_ownH (n:=9) rfl (by omega) (gf:=70) (lb:=#[.pointer (some ⟨B,0,none⟩)]) ha2 trivial (enters_of Tryz.func70 (by kernel_rfl) rfl)
  (Lu 8 Z (fun b _=>Z<=b) fs A c B lim W0 (fun b T hb=>hb) (fun T hb=>by omega) hk0 hRow (by omega) (by omega))
  (fun h k=>h.trans k) XW.bk (Below.refl _ _) (fun _=>rfl)
  (fun pre W=>Below w.heap.size w W/\∃v,Boxed W Z 23 v/\W.ownsRow (Z+1) 65 9 v (tu fs (pre.map kJ)).length ((tu fs (pre.map kJ)).flatMap FV.cells)/\True)
  (fun _ _ _=>False)
  (OwnFrom.and (ownFrom_below (Nat.le_refl _) hg0.below.size) (Own.from (holdsRow_own _ _ _ _ _ (fun pre:List (CI fs lim)=>(tu fs (pre.map kJ)).length) (fun pre:List (CI fs lim)=>(tu fs (pre.map kJ)).flatMap FV.cells) (fun _ _=>True)) _))
  (fun q=>ownFrom_pure _)
  ⟨hg0.below,_,hn0,World.ownsRow_nil _ _ _ _,trivial⟩
  (fun x a' W=>∃B,W.heap[B]?=some (.cells #[.int .i64 (bF fs (kJ x)).id,.int .i64 (bF fs (kJ x)).kind,.int .i64 (bF fs (kJ x)).x,.int .i64 (bF fs (kJ x)).y,.int .i64 (bF fs (kJ x)).dC,.slice (bF fs (kJ x)).aA (bF fs (kJ x)).area.length (bF fs (kJ x)).ac,.int .i64 (bF fs (kJ x)).dep,.int .i64 (bF fs (kJ x)).sym,.slice (bF fs (kJ x)).sA (bF fs (kJ x)).secs.length (bF fs (kJ x)).sc] 65 (0,0))/\B≠Z/\a'={ tmps:=(a0.tmps.setIfInBounds 7 (bF fs (kJ x)).val).setIfInBounds 5 (.pointer (some ⟨B,0,none⟩)),defers:=[] })
  (fun x a'=>by
   rintro s X Y row ⟨B,h1,h2⟩ hg hr
   exact⟨B,fG h1 hg (fun r e=>(hr r e).2),h2⟩)
  ?assign ?body ?done ?stop
 case assign =>
  rintro l pre x W K ⟨hB,v,hn,hown,_⟩ hK
  rw[show SV fs lim x=#[(bF fs (kJ x)).val] from rfl,L9]
  subst ha
  simp only[List.setIfInBounds_toArray,List.set_cons_succ,List.set_cons_zero] at hK ⊢
  have wu:=hide hK
  have hbl:=hn.lt
  clear hK
  gi_wp2_with fail
  exact wu.out _ _ ((KeepsOthers.alloc _ _).from _) (XW.grew (Grew.alloc (Grew.refl _) _)) ⟨hB.alloc hB.size _,v,hn.alloc _,hown.alloc _,trivial⟩ ⟨W.heap.size,heap_alloc_new _ _,by omega,rfl⟩
 case body =>
  rintro l pre x a' W hl2 _ ⟨hB,v,hn,hown,_⟩ ⟨B,hx,hBne,rfl⟩ hlt
  subst ha
  have hsn:=Tu fs (pre.map kJ) (kJ x)
  rw[show (pre.map kJ)++[kJ x]=(pre++[x]).map kJ by simp] at hsn
  have hol:(tu fs (pre.map kJ)).length<=pre.length:=by rw[LW,List.length_map];exact Nat.le_refl _
  have hpl:pre.length<1000:=by have:=afI.out;omega
  obtain⟨out,hout⟩:∃o,tu fs (pre.map kJ)=o:=⟨_,rfl⟩
  rw[hout] at hown hol hsn
  obtain⟨f,hf⟩:∃f,bF fs (kJ x)=f:=⟨_,rfl⟩
  rw[hf] at hsn hx
  simp only[hf]
  obtain⟨Av,cv,rfl,hcv,hrd⟩:=Rd.iE fZ hown rfl
  have c0:W.cell? ⟨Z,0,none⟩=_:=hn.cell
  have f0:W.frozen? ⟨Z,0,none⟩=_:=hn.frozen
  have d0:W.cell? ⟨B,0,none⟩=some _:=ag hx 0
  have d1:W.cell? ⟨B,1,none⟩=some _:=ag hx 1
  have d2:W.cell? ⟨B,2,none⟩=some _:=ag hx 2
  have d3:W.cell? ⟨B,3,none⟩=some _:=ag hx 3
  have d4:W.cell? ⟨B,4,none⟩=some _:=ag hx 4
  have d5:W.cell? ⟨B,5,none⟩=some _:=ag hx 5
  have d6:W.cell? ⟨B,6,none⟩=some _:=ag hx 6
  have d7:W.cell? ⟨B,7,none⟩=some _:=ag hx 7
  have d8:W.cell? ⟨B,8,none⟩=some _:=ag hx 8
  have lB:=au hx
  have lZ:=hn.lt
  have HB:=hide hB
  have Hn:=hide hn
  have HX:=hide hx
  have HN:=hide hown
  have Yo:=hide hsn
  clear hB hn hown hx hsn hout hrd hf hlt
  try dsimp only
  simp only[hZ,List.setIfInBounds_toArray,List.set_cons_succ,List.set_cons_zero]
  gi_wp2_with (gi_at_builtin;refine kH.stop ?_)
  refine kH.go ?_
  refine wpListIn_append_own _ rfl (.tmp 8) (.tmp 10) 23 rfl (Z+1) 65 i0 _ 9 104 Tryz.underlying23 hi0 hz0 hz1 hz2 (by rfl) (by omega) _ out.length _ (by rfl) (aI HN.out gw) ⟨_,0,none⟩ 1 1 f.cells (by rfl) (by rfl) (by intro j x hx;rw[rV];simp only[Nat.zero_add];match j,hx with|0,hx=>(injection hx with hx;subst hx;go_simp)|1,hx=>(injection hx with hx;subst hx;go_simp)|2,hx=>(injection hx with hx;subst hx;go_simp)|3,hx=>(injection hx with hx;subst hx;go_simp)|4,hx=>(injection hx with hx;subst hx;go_simp)|5,hx=>(injection hx with hx;subst hx;go_simp)|6,hx=>(injection hx with hx;subst hx;go_simp)|7,hx=>(injection hx with hx;subst hx;go_simp)|8,hx=>(injection hx with hx;subst hx;go_simp)) (fun x hx=>by simp[FV.cells] at hx;rcases hx with rfl|rfl|rfl|rfl|rfl|rfl|rfl|rfl|rfl<;>rfl) (by unfold maxLen;omega) (by omega) (by simp[bU];omega) ?_
  intro v' w3 hown' hgrow _
  obtain⟨gv,agX,rfl⟩:=ownsRow_succ hown'
  have Ug:Grew W (W.alloc (.cells #[.int .i64 f.id,.int .i64 f.kind,.int .i64 f.x,.int .i64 f.y,.int .i64 f.dC,.slice f.aA f.area.length f.ac,.int .i64 f.dep,.int .i64 f.sym,.slice f.sA f.secs.length f.sc] 65)):=gw
  obtain⟨z1,z2,z3,z4,z5,z6⟩:=EI (n₁:=w.heap.size) (eF Hn.out Ug) (by decide) (aI HN.out Ug) (by omega) (by omega) hown' hgrow
  have y1:=z1.cell
  have y2:=z1.frozen
  have Z2:=hide z2
  have Z3:=hide z3
  have Z4:=hide z4
  have Z5:=hide z5
  have Z6:=hide z6
  have Uk:=hide Ug
  clear z1 z2 z3 z4 z5 z6 hown' hgrow Ug c0 f0 d0 d1 d2 d3 d4 d5 d6 d7 d8
  gi_wp2_with fail
  refine⟨(Uk.out.aS _).trans (Z4.out.from _),⟨(gW.grew Uk.out).trans (fun b cs T fr hM hb=>Z6.out b cs T fr (fun h=>hM (by rw[h];exact Nat.le_refl _)) (fun h=>hM (by have:=h.1;omega)) hb),Nat.le_trans Uk.out.below.size Z5.out.size⟩,⟨by have h:=(HB.out.trans (Uk.out.below.mono HB.out.size)).trans Z5.out;rw[hZ] at h;exact h,_,Z2.out,?_,trivial⟩⟩
  rw[Yo.out,List.flatMap_append,List.length_append]
  simpa using Z3.out
 case done =>
  subst ha
  rintro D xs W hD hS ⟨hB,v,hn,hown,_⟩ hK
  rw[hS] at hown
  have c0:W.cell? ⟨Z,0,none⟩=_:=hn.cell
  have HB:=hide hB
  have HN:=hide hown
  have lZ:=hn.lt
  clear hB hn hS hown
  simp only[hZ]
  gi_wp2_with fail
  refine⟨by simp,.inl ⟨_,_,rfl,run_takeDeferred hK,?_⟩⟩
  have hb5:=HB.out.trans (belowK_b (w:=w) (Nat.le_refl _) _ D _ (.deferred none) (by omega) hK rfl rfl)
  obtain⟨Av,cv,rfl,_,hrd⟩:=Rd.iE fZ (ownsRow_putObj HN.out (.deferred none) hK rfl) rfl
  refine⟨.slice Av _ cv,by simp[results,Tryz.results69,go_sem];rfl,?_⟩
  exact⟨Av,cv,rfl,hrd,Grew.of_below hb5⟩
 case stop=>exact fun _ _ _ _ _ _ h _=>h.elim
theorem Ub (fs:List FV)(A:Option Addr)(c B:Nat)(lim:Int)(w:World)(hB:w.heap[B]?=some (.cells #[.slice A fs.length c,.int .i64 lim] 84 (0,0)))(hr:Rd w w.heap.size 9 A (fs.map FV.cells))(hl:fs.length<=1000) :
  Calls Tryz.prog 32 #[.func (.func 70) #[] #[.pointer (some ⟨B,0,none⟩)]] w (afb w (tu fs (bD fs lim fs.length))):=by
 have hm:=aP
 have kc:=hide (fun W (hg:Grew w W)=>Yd fs A c B lim W ((hg.below.block B (au hB)).trans hB) (hr.up hg) hl)
 clear hB hr
 go_enter Tryz.func32,Tryz.ntmps32
 go_wp2_with fail
 refine (kc.out _ gw).mono ?_
 rintro e w' ⟨A',c',rfl,h1,hg⟩
 have H1:=hide h1
 have HG:=hide (Grew.trans (a:=w) gw hg)
 clear h1 hg
 dsimp only
 go_wp2_with fail
 go_ret
 exact⟨_,_,rfl,H1.out.up gw,HG.out.trans gw⟩
end Go.Proofs.YtlkgjmnjhifehaaGreat
namespace Go.Proofs.YtlkgjmnjhifehaaGreat
open Go.RowKit Go.Sort
attribute [local go_sem] dA steadyUpon
attribute [local go_sem ↓] bU bI aX aW aV aU aT
attribute [local go_sem] bH aK aJ size_grow tape_grow cell?_grow' aF aB grow_grow bW aY dR cO bY bK aN cZ aZ bZ bJ
attribute [local irreducible] wpSteady
theorem OL {P:Program}{f:FuncId}{args:Array Value}{w:World}{R:Ending->World->Prop}(h:∀W0,w=W0->Calls P f args W0 R):Calls P f args w R:=h _ rfl
theorem EP (f:FV)(n:Int):countB f.bare n=countB f n:=rfl
theorem counts_of {fs gs:List FV}(h:fs.map FV.bare=gs.map FV.bare)(n:Int)(k:Nat):bD fs n k=bD gs n k:=by
 unfold bD
 refine List.filter_congr fun i _=>?_
 rw[<-EP (bF fs i),<-EP (bF gs i),QD h i]
theorem ZC {fs gs:List FV}(h:fs.map FV.bare=gs.map FV.bare)(is:List Nat):(tu fs is).map FV.bare=(tu gs is).map FV.bare:=by
 unfold tu
 rw[List.map_map,List.map_map]
 refine List.map_congr_left fun i _=>?_
 exact QD h i
theorem Qz (f:FV)(gs:List FV):oL f (gs.map FV.bare)=oL f gs:=by
 unfold oL
 rw[List.find?_map]
 have e:(je f ∘ FV.bare)=je f:=funext fun g=>Eh f g
 rw[e]
 cases gs.find? (je f)<;>rfl
theorem ae1 {gs gs':List FV}(h:gs.map FV.bare=gs'.map FV.bare)(f:FV):oL f gs=oL f gs':=by rw[<-Qz f gs,h,Qz]
theorem Vg {gs gs':List FV}(h:gs.map FV.bare=gs'.map FV.bare)(fs:List FV)(n:Int):kZ fs gs n=kZ fs gs' n:=by
 have e1:lH fs gs n=lH fs gs' n:=by unfold lH;rw[tJ h]
 have e2:∀f,oL f gs=oL f gs':=ae1 h
 unfold kZ vI oP
 rw[e1]
 simp only[e2]
def gu (fs:List FV)(n:Int):List FV:=tu fs (bD fs n fs.length)
theorem OG {fs gs:List FV}(h:fs.map FV.bare=gs.map FV.bare)(n:Int):(gu fs n).map FV.bare=(gu gs n).map FV.bare:=by
 unfold gu
 rw[N7 h,counts_of h]
 exact ZC h _
theorem Hl (fs:List FV)(n:Int):(gu fs n).length<=fs.length:=by
 unfold gu
 rw[LW]
 exact uJ _ _ _
theorem Bo {fs:List FV}{n:Int}{g:FV}(h:g∈gu fs n):g∈fs/\countB g n=true:=by
 unfold gu tu at h
 obtain⟨i,hi,rfl⟩:=List.mem_map.1 h
 unfold bD at hi
 obtain⟨h1,h2⟩:=List.mem_filter.1 hi
 exact⟨dQ (List.mem_range.1 h1),h2⟩
def kE (fs:List FV)(rs:List Ru):(List FV×List Pt)×Int :=
 if (gQ rs fs).2=0 then
  (if (kZ fs (gu (gQ rs fs).1 (capOf rs).1) (capOf rs).1).2=0 then ((gu (gQ rs fs).1 (capOf rs).1,(kZ fs (gu (gQ rs fs).1 (capOf rs).1) (capOf rs).1).1),0)
   else (([],[]),(kZ fs (gu (gQ rs fs).1 (capOf rs).1) (capOf rs).1).2))
 else (([],[]),(gQ rs fs).2)
def afh (w:World)(r:(List FV×List Pt)×Int)(e:Ending)(w':World):Prop :=
 ∃A' c' fs' B' d',e=.returned (.tuple #[.slice A' fs'.length c',.slice B' r.1.2.length d',.int .i64 r.2])/\fs'.map FV.bare=r.1.1.map FV.bare/\nI w' w'.heap.size A' fs'/\Rd w' w'.heap.size 2 B' (r.1.2.map dY)/\Grew w w'
theorem OY (fs:List FV)(rs:List Ru)(A Ar:Option Addr)(c cr:Nat)(w:World)(hr:nI w w.heap.size A fs)(hrr:Rd w w.heap.size 3 Ar (rs.map encR))(hc:fs.length<=100000000000)(hcr:rs.length<=100000000000000) :
  Calls Tryz.prog 8 #[.slice A fs.length c,.slice Ar rs.length cr] w (afh w (kE fs rs)):=by
 have hm:=aP
 have kr:=hide (fun W (hg:Grew w W)=>afa rs fs Ar A cr c W (hrr.up hg) (hr.up hg) (by omega) (by omega))
 obtain⟨cap,hcap⟩:∃r,capOf rs=r:=⟨_,rfl⟩
 have kc:=hide (fun W (hg:Grew w W)=>JA rs Ar cr cap W (hrr.up hg) (by omega) hcap)
 have HR:=hide hr
 obtain⟨res,hres⟩:∃r,kE fs rs=r:=⟨_,rfl⟩
 rw[hres]
 unfold kE at hres
 have WU:(gQ rs fs).2=0->cap.2=0:=fun h=>by
  rw[<-hcap]
  unfold capOf
  rw[if_pos (U2 h).1]
 have hle:=abG (rs:=rs) (fs:=fs)
 rw[hcap] at hres
 obtain⟨⟨d,e1⟩,hd⟩:∃r,gQ rs fs=r:=⟨_,rfl⟩
 rw[hd] at hres kr WU hle
 obtain⟨lim,e2⟩:=cap
 dsimp only at hres kr kc WU hle
 clear hr hrr hcap hd
 by_cases h0:e1=0
 ·subst h0
  obtain rfl:e2=0:=WU rfl
  rw[if_pos rfl] at hres
  clear WU
  have rW:=hide hres
  clear hres
  go_enter Tryz.func8,Tryz.ntmps8
  go_wp2_with fail
  refine (kr.out _ gw).mono ?_
  rintro e w1 ⟨A1,c1,d',rfl,hb,hrd,hg1⟩
  have jE:Hid (Grew w w1):=hide (Grew.trans gw hg1)
  have HB:=hide hb
  have HD:=hide hrd
  have hdl:d'.length<=1000:=by have h9:=N7 hb;dsimp only at h9;omega
  clear hb hrd hg1 kr
  dsimp only
  go_wp2_with (go_at_call 9;with_reducible refine aQ (kc.out _ (jE.out.trans gw)) fun _ _=>?_;dsimp only)
  refine OL ?_
  intro W1 hW
  have HGW:Hid (Grew w1 W1):=hide (by rw[<-hW];exact gw)
  clear hW kc
  refine (LC _ _ _ _ _).mono ?_
  rintro e w2 ⟨rfl,hw2⟩
  have hB2:w2.heap[W1.heap.size]?=some (.cells #[.slice A1 d'.length c1,.int .i64 lim] 84 (0,0)):=by rw[<-hw2];exact heap_alloc_new _ _
  have HG2:Hid (Grew w1 w2):=hide (by rw[<-hw2];exact HGW.out.trans gw)
  have ad7:=hide (fun W (hg:Grew w2 W)=>Ub d' A1 c1 W1.heap.size lim W ((hg.below.block _ (au hB2)).trans hB2) ((HD.out.up (HG2.out.trans hg)).row) hdl)
  clear hw2 hB2
  dsimp only
  go_wp2_with fail
  refine (ad7.out _ gw).mono ?_
  rintro e w3 ⟨A3,c3,rfl,hrow,hg3⟩
  have vF:Hid (Grew w1 w3):=hide (HG2.out.trans (Grew.trans gw hg3))
  have HCH:Hid (nI w3 w3.heap.size A3 (gu d' lim)):=hide ⟨hrow,fun g hg=>(HD.out.each g (Bo hg).1).up vF.out⟩
  have hcl:=Hl d' lim
  change Hid _ at HCH
  have CJ:=hide (OG HB.out lim)
  obtain⟨ch,hch⟩:∃l,gu d' lim=l:=⟨_,rfl⟩
  have aeK:tu d' (bD d' lim d'.length)=ch:=hch
  rw[hch] at HCH CJ hcl
  rw[aeK] at hrow ⊢
  have hpv:=Vg CJ.out fs lim
  have kp:=hide (fun W (hg:Grew w3 W)=>aah fs ch A A3 c c3 lim W (HR.out.up (jE.out.trans (vF.out.trans hg))) (HCH.out.up hg) hc (by omega))
  rw[hpv] at kp
  have hres:=rW.out
  obtain⟨⟨MP,e3⟩,hpr⟩:∃r,kZ fs (gu d lim) lim=r:=⟨_,rfl⟩
  rw[hpr] at kp hres
  dsimp only at kp hres
  clear hrow hg3 ad7 hch aeK hpv hpr rW
  dsimp only
  by_cases h3:e3=0
  ·subst h3
   rw[if_pos rfl] at hres
   subst hres
   go_wp2_with fail
   refine (kp.out _ gw).mono ?_
   rintro e w4 ⟨A4,c4,rfl,Za,hg4⟩
   have qK:Hid (Grew w3 w4):=hide (Grew.trans gw hg4)
   have H4:=hide Za
   clear Za hg4 kp
   dsimp only
   go_wp2_with fail
   refine bodyPost_ret (v:=.tuple #[.slice A3 ch.length c3,.slice A4 MP.length c4,.int .i64 0]) (by simp[results,Tryz.results8,go_sem]) rfl ?_
   exact⟨_,_,ch,_,_,rfl,CJ.out,HCH.out.up (qK.out.trans gw),H4.out.up gw,jE.out.trans (vF.out.trans (qK.out.trans gw))⟩
  ·rw[if_neg h3] at hres
   subst hres
   have hne:(e3 != 0)=true:=by simpa using h3
   go_wp2_with fail
   refine (kp.out _ gw).mono ?_
   rintro e w4 ⟨A4,c4,rfl,Za,hg4⟩
   have qK:Hid (Grew w3 w4):=hide (Grew.trans gw hg4)
   clear Za hg4 kp
   dsimp only
   go_wp2_with fail
   refine bodyPost_ret (v:=.tuple #[.slice none 0 0,.slice none 0 0,.int .i64 e3]) (by simp[results,Tryz.results8,go_sem]) rfl ?_
   exact⟨_,_,[],_,_,rfl,rfl,nI.nil _ _ _,Rd.nil _ _ _ _,jE.out.trans (vF.out.trans (qK.out.trans gw))⟩
 ·rw[if_neg h0] at hres
  subst hres
  have hne:(e1 != 0)=true:=by simpa using h0
  clear WU
  go_enter Tryz.func8,Tryz.ntmps8
  go_wp2_with fail
  refine (kr.out _ gw).mono ?_
  rintro e w1 ⟨A1,c1,d',rfl,hb,hrd,hg1⟩
  have jE:Hid (Grew w w1):=hide (Grew.trans gw hg1)
  clear hb hrd hg1 kr
  dsimp only
  go_wp2_with fail
  refine bodyPost_ret (v:=.tuple #[.slice none 0 0,.slice none 0 0,.int .i64 e1]) (by simp[results,Tryz.results8,go_sem]) rfl ?_
  exact⟨_,_,[],_,_,rfl,rfl,nI.nil _ _ _,Rd.nil _ _ _ _,jE.out.trans gw⟩
end Go.Proofs.YtlkgjmnjhifehaaGreat
