
import Derived.Test.YtlkgjmnjhifehaaGreatProg
import Derived.Test.YtlkgjmnjhifehaaGreatRegIn
import Derived.Test.YtlkgjmnjhifehaaGreatApp
import Derived.RangeFuncNested
import Derived.RangeFuncBound
import Derived.Test.YtlkgjmnjhifehaaGreatSecA
set_option linter.unusedSimpArgs false
set_option linter.unusedVariables false
namespace Go.Proofs.YtlkgjmnjhifehaaGreat
open Go.RowKit Go.Sort
attribute [local go_sem] dC steadyUpon
attribute [local go_sem ↓] bQ bJ bg aZ aY aX aW
attribute [local go_sem] bH aN aK size_grow tape_grow cell?_grow' aF aC grow_grow bV bn dZ bZ bW bM aO cO bu bY bK
def iC (M:Nat->TypeId->Prop)(W W':World):Prop:=∀b cs T fr,¬ M b T->W.heap[b]?=some (.cells cs T fr)->W'.heap[b]?=some (.cells cs T fr)
theorem iC.trans {M:Nat->TypeId->Prop}{A B C:World}(h:iC M A B)(k:iC M B C):iC M A C:=fun b cs T fr hM hb=>k b cs T fr hM (h b cs T fr hM hb)
theorem iC.bk {M:Nat->TypeId->Prop}{w:World}(W:World)(l:Nat)(o o':Obj)(_:w.heap.size<=l)(h:W.heap[l]?=some o)(ho:o.isCells=false)(_:o.isWalk=false):iC M W (W.putObj l o'):=by
 intro b cs T fr _ hb
 have hne:b≠l:=by
  rintro rfl
  rw[hb] at h
  injection h with h
  rw[<-h] at ho
  simp[Obj.isCells] at ho
 rw[World.putObj_heap_other (fun e=>hne (by omega))]
 exact hb
theorem iC.grew {M:Nat->TypeId->Prop}{W W':World}(h:Grew W W'):iC M W W':=fun b cs T fr _ hb=>by
 rw[h.below.block b (ax hb)]
 exact hb
theorem iC.set {M:Nat->TypeId->Prop}(W:World)(b i:Nat)(v:Value)(h:∀T,M b T):iC M W (W.setCell ⟨b,i,none⟩ v):=fun k cs T fr hM hb=>by
 by_cases e:k=b
 ·subst e;exact absurd (h T) hM
 ·rw[heap_setCell_other W ⟨b,i,none⟩ k v (fun h=>e h)]
  exact hb
theorem Grew.grownBy {w w':World}(h:Grew w w')(row:Option Nat):w.grownBy w' row:=by
 have hb:=h.below
 exact⟨hb.os,hb.tape,hb.output,hb.size,fun k hk _=>hb.block k hk⟩
def Bx (W:World)(n0:Nat)(os:List Obj):Prop:=∀i o,os[i]?=some o->W.heap[n0+i]?=some o
theorem Bx.own {β:Type}{B n0:Nat}{os:List Obj}(h:n0+os.length<=B):OwnFrom B (fun (_:β) W=>Bx W n0 os):=by
 intro s W W' row hs hg hr i o ho
 have hi:=(List.getElem?_eq_some_iff.1 ho).1
 have h0:=hs i o ho
 rw[hg.block (n0+i) (ax h0) (fun e=>by have:=(hr _ e.symm).1;omega)]
 exact h0
theorem Bx.grew {W W':World}{n0:Nat}{os:List Obj}(h:Bx W n0 os)(hg:Grew W W'):Bx W' n0 os:=fun i o ho=>(hg.below.block _ (ax (h i o ho))).trans (h i o ho)
theorem ownFrom_pure {β:Type}{B:Nat}(p:β->Prop):OwnFrom B (fun (s:β) (_:World)=>p s):=fun _ _ _ _ h _ _=>h
theorem fE {X Y:World}{row:Option Nat}{B:Nat}{cs:Array Value}{T:TypeId}{fr:Nat×Nat}(h:X.heap[B]?=some (.cells cs T fr))(hg:X.grownBy Y row)(hr:∀r,row=some r->∃o:Obj,X.heap[r]?=some o/\o.isCells=false):Y.heap[B]?=some (.cells cs T fr) :=
 (grownBy_keeps_cells hg hr h rfl).trans h
theorem L6 (T:Array Value)(k:Nat)(v:Value):((#[k]:Array Tmp).zip #[v]).foldl (fun t (p,v)=>t.setIfInBounds p v) T=T.setIfInBounds k v:=by simp
theorem FN (T:Array Value)(k l:Nat)(v u:Value):((#[k,l]:Array Tmp).zip #[v,u]).foldl (fun t (p,v)=>t.setIfInBounds p v) T=(T.setIfInBounds k v).setIfInBounds l u:=by simp
theorem aU {W:World}{D b i:Nat}{o:Obj}(h:b≠D):(W.putObj D o).cell? ⟨b,i,none⟩=W.cell? ⟨b,i,none⟩:=World.cell?_of_block (World.putObj_heap_other h)
theorem dJ {F:Fence}{n:Nat}{P:Program}{c:Code}{Q:Exit->Act->World->Prop}{a:Act}{w:World}(h:∀a0 W0,a=a0->w=W0->c.wpIn F n P Q a0 W0):c.wpIn F n P Q a w:=h _ _ rfl rfl
theorem Bx.box {W:World}{n0:Nat}{os:List Obj}(h:Bx W n0 os)(i:Nat){v:Value}{T:TypeId}(ho:os[i]?=some (.cells #[v] T (0,0))):Boxed W (n0+i) T v:=h i _ ho
theorem Bx.lH:∀ (os:List Obj) (w:World),Bx (os.foldl World.alloc w) w.heap.size os/\Grew w (os.foldl World.alloc w)
 | [],w=>⟨fun i o h=>by simp at h,Grew.refl _⟩
 | o::os,w=>by
  obtain⟨h1,h2⟩:=Bx.lH os (w.alloc o)
  refine⟨fun i x hx=>?_,Grew.trans (Grew.alloc (Grew.refl _) o) h2⟩
  cases i with
  | zero =>
   injection hx with hx
   subst hx
   exact (h2.below.block w.heap.size (by simp)).trans (heap_alloc_new w o)
  | succ i =>
   have:=h1 i x hx
   rw[World.mr] at this
   rw[show w.heap.size+(i+1)=w.heap.size+1+i by omega]
   exact this
theorem Grew.aV {W W':World}(h:Grew W W')(B:Nat):KeepsFrom B W W':=KeepsFrom.of_grownBy (h.grownBy none) (fun _ e=>by cases e)
theorem KeepsFrom.setCell (B:Nat)(W:World)(a:Addr)(v:Value):KeepsFrom B W (W.setCell a v):=(KeepsOthers.setCell W a v).from B
theorem jo (W:World)(row:Option Nat):W.grownBy W row:=⟨rfl,rfl,rfl,Nat.le_refl _,fun _ _ _=>rfl⟩
theorem wW {W V V':World}{row:Option Nat}(h:W.grownBy V row)(g:Grew V V'):W.grownBy V' row :=
 ⟨(g.below.os).trans h.os,g.below.tape.trans h.tape,g.below.output.trans h.output,Nat.le_trans h.size g.below.size,fun k hk hne=>(g.below.block k (Nat.lt_of_lt_of_le hk h.size)).trans (h.block k hk hne)⟩
theorem pG {W V:World}{row:Option Nat}(h:W.grownBy V row)(n:Nat)(os:Array Obj):W.grownBy (Sort.grow (dr V n) os) row:=wW h (Grew.mk V n os)
theorem WC {W V:World}{row:Option Nat}(h:W.grownBy V row)(o:Obj):W.grownBy (V.alloc o) row:=wW h (Grew.alloc (Grew.refl _) o)
theorem acf {W V:World}{row:Option Nat}{k:Nat}(h:W.grownBy V row)(hk:W.heap.size<=k)(i:Nat)(v:Value):W.grownBy (V.setCell ⟨k,i,none⟩ v) row :=
 ⟨h.os,h.tape,h.output,by simpa using h.size,fun j hj hne=>(heap_setCell_other V ⟨k,i,none⟩ j v (fun e=>by dsimp only at e;omega)).trans (h.block j hj hne)⟩
theorem jQ {W V:World}{b:Nat}(h:W.grownBy V (some b))(i:Nat)(v:Value):W.grownBy (V.setCell ⟨b,i,none⟩ v) (some b) :=
 ⟨h.os,h.tape,h.output,by simpa using h.size,fun j hj hne=>(heap_setCell_other V ⟨b,i,none⟩ j v (fun e=>hne (by dsimp only at e;rw[e]))).trans (h.block j hj hne)⟩
theorem gq {w W V:World}{b:Nat}(h:W.grownBy V (some b))(hw:Below w.heap.size w W)(hb:w.heap.size<=b):Below w.heap.size w V:=hw.grown h hw.size fun q hq=>by injection hq with hq;omega
theorem sK {W V:World}{row:Option Nat}(h:W.grownBy V row:=by repeat (with_reducible first|assumption|exact Hid.out (by assumption)|exact jo _ _|refine pG ?_ _ _|refine jQ ?_ _ _|(refine acf ?_ (Hid.out (by assumption)) _ _)|refine WC ?_ _|(refine wW ?_ (Hid.out (by assumption))))):W.grownBy V row:=h
theorem jW {W V:World}{b B:Nat}(h:W.grownBy V (some b))(ho:∃o,W.heap[b]?=some o/\o.isCells=true):KeepsFrom B W V :=
 ⟨h.size,fun k o hk h0 hc=>(h.block k (ax h0) (fun e=>by
  obtain⟨o',h1,h2⟩:=ho
  injection e with e
  subst e
  rw[h0] at h1
  injection h1 with h1
  rw[h1,h2] at hc
  cases hc)).trans h0⟩
theorem vU {M:Nat->TypeId->Prop}{W V:World}{b:Nat}(h:W.grownBy V (some b))(hM:∀T,M b T):iC M W V:=fun k cs T fr hk h0=>(h.block k (ax h0) (fun e=>by
  injection e with e
  subst e
  exact hk (hM T))).trans h0
theorem BN {W V:World}{b n0:Nat}{os:List Obj}(h:W.grownBy V (some b))(hb:Bx W n0 os)(hne:b<n0\/n0+os.length<=b):Bx V n0 os:=fun i o ho=>(h.block _ (ax (hb i o ho)) (fun e=>by
  injection e with e
  have:=(List.getElem?_eq_some_iff.1 ho).1
  omega)).trans (hb i o ho)
theorem dY {V:World}{b:Nat}{T:TypeId}{v:Value}(h:Boxed V b T v)(n:Nat)(os:Array Obj):Boxed (Sort.grow (dr V n) os) b T v:=((Grew.mk V n os).below.block _ (ax h)).trans h
theorem dM {V V':World}{b:Nat}{T:TypeId}{v:Value}(h:Boxed V b T v)(g:Grew V V'):Boxed V' b T v:=(g.below.block _ (ax h)).trans h
theorem lX {V:World}{b k i:Nat}{T:TypeId}{v u:Value}(h:Boxed V b T v)(hne:b≠k):Boxed (V.setCell ⟨k,i,none⟩ u) b T v:=(heap_setCell_other V ⟨k,i,none⟩ b u hne).trans h
set_option maxHeartbeats 2000000
set_option maxRecDepth 100000
attribute [local go_sem] Oper.semAt_some
def turnsOf (ss:List fH):List (Int×Int):=ss.flatMap fun s=>[(s.fx,s.fy),(s.tx,s.ty)]
abbrev Dir:={ v:Int×Int // sO v.1 v.2=true }
def Dir.enc (v:Dir):Array Value:=#[pt v.1.1 v.1.2]
theorem QH (O:Option Addr)(n c:Nat)(w:World) :
  Calls Tryz.prog 150 #[.slice O n c] w fun e w'=>e=.returned (.func (.func 172) #[] #[.pointer (some ⟨w.heap.size,0,none⟩)])/\w.alloc (.cells #[.slice O n c] 241)=w':=by
 go_enter Tryz.func150,Tryz.ntmps150
 go_wp2
 go_ret
 exact⟨rfl,rfl⟩
theorem MN {ss:List fH}{k:Nat}{s:fH}(h:ss[k]?=some s):turnsOf (ss.take (k+1))=turnsOf (ss.take k)++[(s.fx,s.fy),(s.tx,s.ty)]:=by
 unfold turnsOf
 rw[List.take_add_one,h]
 simp
theorem QG (ss:List fH):(turnsOf ss).length=2*ss.length:=by
 unfold turnsOf
 induction ss with
 | nil=>rfl
 | cons s ss ih=>simp[ih];omega
theorem Hl (n:Nat)(M:Nat->TypeId->Prop)(LL:List SL)(O:Option Addr)(c B:Nat)(w:World)(hM:∀b T,M b T->b<w.heap.size\/T≠180)(hB:w.heap[B]?=some (.cells #[.slice O LL.length c] 241 (0,0)))
  (hr:Rd w w.heap.size 1 O (LL.map fun x=>[x.val])) (hin:∀x∈LL,Rd w w.heap.size 6 x.A (x.ss.map fH.cells)) (hl:LL.length<=10) (hs:∀x∈LL,x.ss.length<=1000) (hok:∀s∈LL.flatMap SL.ss,s.ok=true) :
  SeqStopsK Fence.wide n Tryz.prog 172 #[.pointer (some ⟨B,0,none⟩)] Dir.enc (iC M) (fun xs=>xs.map Subtype.val=turnsOf (LL.flatMap SL.ss)) (fun pre=>∃rest,turnsOf (LL.flatMap SL.ss)=pre.map Subtype.val++rest) (2*(LL.flatMap SL.ss).length) w:=by
 intro l J Jx W hW hJ hJx hY h0
 have hmx:=aQ
 have HW:=hide (Grew.of_below hW)
 have HR:=hide (hr.up HW.out)
 have HI:Hid (∀x∈LL,Rd W W.heap.size 6 x.A (x.ss.map fH.cells)):=hide fun x hx=>(hin x hx).up HW.out
 have HS:=hide hs
 have HK:=hide hok
 have c0:W.cell? ⟨B,0,none⟩=some (.slice O LL.length c):=by rw[ag ((hW.block B (ax hB)).trans hB)];rfl
 have hMW:∀b,M b 180->b<W.heap.size:=fun b hb=>(hM b _ hb).elim (fun h=>Nat.lt_of_lt_of_le h hW.size) (fun h=>absurd rfl h)
 have HM:=hide hMW
 have HJ:=hide hJ
 have HJx:=hide hJx
 have HY:=hide hY
 have H0:=hide h0
 clear hr hin hs hok hM hMW hJ hJx hY h0 hW hB
 refine callsIn_of_wp Tryz.func172 rfl trivial ?_ rfl
 simp only[Tryz.ntmps172,List.size_toArray,List.length_cons,List.length_nil,Nat.reduceAdd,Nat.reduceSub,Array.replicate_succ,Array.replicate_zero,List.push_toArray,List.append_toArray,List.nil_append,List.cons_append]
 gi_wp2_with fail
 refine⟨trivial,(fun h=>by cases h),?_⟩
 refine (callsIn_wide.2 (OT LL O c W HR.out HI.out hl HS.out)).mono ?_
 rintro e W1 ⟨v,rfl,hown,hg⟩
 have h1:J [] W1:=HJ.out _ _ _ none H0.out (hg.grownBy none) (fun r hr=>by cases hr)
 have hn:(LL.flatMap SL.ss).length<=10000:=by
  have:=yI HS.out LL.length
  rw[Kr] at this
  omega
 have H1:=hide h1
 have HG:=hide hg
 clear h1 hg H0
 generalize hall:LL.flatMap SL.ss=ss at *
 have HA:=hide hall
 clear hall
 rcases hown.2 with⟨rfl,h0⟩|⟨g,cap,cur,rfl,hb,hgg,hnc,hmc,hcs,ht⟩
 ·have hss:ss=[]:=List.length_eq_zero_iff.1 h0
  subst hss
  dsimp only
  gi_wp2
  gi_loopw [8] (fun i wr=>i=.int .i64 0/\J [] wr) (fun _ _=>0)
  case atStart=>exact⟨rfl,H1.out⟩
  case round =>
   obtain⟨rfl,hJ⟩:=hrel
   gi_wp2
   go_end0
   exact⟨⟨_,rfl⟩,.inl ⟨[],by rw[HA.out];rfl,hJ⟩⟩
 ·dsimp only
  have HO:=hide hown
  have HT:=hide ht
  have MI:=hide hgg
  unfold maxLen at hmc
  have ai6:=ax hgg
  clear hown ht hgg hcs hnc
  gi_wp2_with fail
  gi_loopw [8] (fun i wr=>∃ (k:Nat) (pre:List Dir),k<=ss.length/\i=.int .i64 k/\pre.map Subtype.val=turnsOf (ss.take k)/\J pre wr/\wr.heap[g]?=some (.cells cur 180 (0,0))/\W.heap.size<=wr.heap.size) (fun i _=>ss.length-(intOf i).toNat)
  case atStart=>exact⟨0,[],by omega,rfl,rfl,H1.out,MI.out,by omega⟩
  case round =>
   obtain⟨k,pre,hk,rfl,hpre,hJ,hgk,hsz⟩:=hrel
   have HP:=hide hpre
   have lL:pre.length=2*k:=by
    have:=congrArg List.length hpre
    rw[List.length_map,QG,List.length_take] at this
    omega
   have OM:=hide lL
   clear hpre lL
   by_cases hlt:k<ss.length
   ·obtain⟨s,hs⟩:∃s,ss[k]?=some s:=⟨_,List.getElem?_eq_getElem hlt⟩
    have IW:=HK.out s (List.mem_of_getElem? hs)
    have hcell:∀j v,s.cells[j]?=some v->wr.cell? ⟨g,k*6+j,none⟩=some v:=by
     intro j v hv
     have hj:j<6:=(List.getElem?_eq_some_iff.1 hv).1
     have h2:=(gV fH.cells 6 O7 ss k j v hj).2 ⟨s,hs,hv⟩
     rw[<-HT.out,List.getElem?_take] at h2
     rw[ag hgk]
     split at h2
     ·simpa using h2
     ·cases h2
    have c0:=hcell 0 _ rfl
    have c1:=hcell 1 _ rfl
    have c2:=hcell 2 _ rfl
    have c3:=hcell 3 _ rfl
    have c4:=hcell 4 _ rfl
    have c5:=hcell 5 _ rfl
    simp only[Nat.add_zero] at c0
    have agd:=ax hgk
    have TM:=hide hgk
    have HS2:=hide hs
    clear hcell hgk hs
    have hix:=aJ (cap:=cap) (A:=some ⟨g,0,none⟩) Tryz.underlying63 Tryz.sizeOf180 rfl hlt
    simp only[Nat.zero_add] at hix
    have d1:sO s.fx s.fy=true:=by simp[fH.ok,yD] at IW;exact IW.1.1.1
    have d2:sO s.tx s.ty=true:=by simp[fH.ok,yD] at IW;exact IW.1.1.2
    have hJ2:J pre (wr.alloc (.cells #[.int .i64 s.fx,.int .i64 s.fy,.int .i64 s.tx,.int .i64 s.ty,.int .i64 s.jA,.int .i64 s.UO] 180)):=HJ.out _ _ _ none hJ (World.grownBy_alloc _ _ _) (fun r hr=>by cases hr)
    obtain⟨x1,hx1⟩:∃x:Dir,x.1=(s.fx,s.fy):=⟨⟨_,d1⟩,rfl⟩
    obtain⟨x2,hx2⟩:∃x:Dir,x.1=(s.tx,s.ty):=⟨⟨_,d2⟩,rfl⟩
    have e1:x1.enc=#[pt s.fx s.fy]:=by simp[Dir.enc,hx1]
    have e2:x2.enc=#[pt s.tx s.ty]:=by simp[Dir.enc,hx2]
    have hA1:∃rest,turnsOf ss=(pre++[x1]).map Subtype.val++rest:=by
     refine⟨(s.tx,s.ty)::turnsOf (ss.drop (k+1)),?_⟩
     rw[List.map_append,HP.out,List.map_singleton,hx1,List.append_assoc]
     have:=List.take_append_drop (k+1) ss
     conv=>lhs;rw[<-this]
     show turnsOf _=_
     unfold turnsOf at *
     rw[List.flatMap_append,List.take_add_one,HS2.out]
     simp
    have hA2:((pre++[x1])++[x2]).map Subtype.val=turnsOf (ss.take (k+1)):=by
     rw[MN HS2.out,List.map_append,List.map_append,HP.out,List.map_singleton,List.map_singleton,hx1,hx2,List.append_assoc]
     rfl
    have hA3:∃rest,turnsOf ss=((pre++[x1])++[x2]).map Subtype.val++rest:=by
     refine⟨turnsOf (ss.drop (k+1)),?_⟩
     rw[hA2]
     unfold turnsOf
     rw[<-List.flatMap_append,List.take_append_drop]
    have HA1:=hide hA1
    have HA2:=hide hA2
    have HA3:=hide hA3
    clear hA1 hA2 hA3 hx1 hx2 d1 d2
    obtain⟨Zd,Ye,ZJ,ZF,hy1,hR1⟩:=HY.out pre x1 _ hJ2 (by rw[OM.out];omega)
    rw[e1] at hy1
    have HR1:=hide hR1
    have ajR:=hide IW
    clear hR1 IW hJ hJ2 e1
    have hnM:∀b,W.heap.size<=b->¬ M b 180:=fun b hb hm=>by have:=HM.out b hm;omega
    have hkp:=TM.out
    gi_wp2_with fail
    refine⟨(fun h=>by cases h),?_⟩
    refine HR1.out.mono ?_
    rintro e W3 (⟨rfl,hJ3,hk3⟩|⟨rfl,hJx3⟩)
    ·have hbox:=hk3 _ _ _ _ (hnM _ hsz) (heap_alloc_new wr _)
     have hrow:=hk3 _ _ _ _ (hnM _ hb) ((heap_alloc_old wr _ agd).trans TM.out)
     have b2:W3.cell? ⟨wr.heap.size,2,none⟩=some (.int .i64 s.tx):=ag hbox 2
     have b3:W3.cell? ⟨wr.heap.size,3,none⟩=some (.int .i64 s.ty):=ag hbox 3
     have hW3:=ax hbox
     have hsz3:W.heap.size<=W3.heap.size:=by omega
     obtain⟨fn2,tm2,as2,bo2,hy2,hR2⟩:=HY.out _ x2 _ hJ3 (by rw[List.length_append,OM.out];simp;omega)
     rw[e2] at hy2
     have HR2:=hide hR2
     have zN:=hide hrow
     clear hR2 hrow hbox hk3 hJ3 e2 hkp hy1 hnM
     dsimp only
     gi_wp2_with fail
     refine⟨(fun h=>by cases h),?_⟩
     refine HR2.out.mono ?_
     have hnM:∀b,W.heap.size<=b->¬ M b 180:=fun b hb hm=>by have:=HM.out b hm;omega
     rintro e W4 (⟨rfl,hJ4,hk4⟩|⟨rfl,aep⟩)
     ·have hrow4:=hk4 _ _ _ _ (hnM _ hb) zN.out
      have aeW:=hide hrow4
      have HJ4:=hide hJ4
      have afT:W.heap.size<=W4.heap.size:=by have:=ax hrow4;omega
      clear hrow4 hk4 hJ4 hy2 hnM b2 b3
      dsimp only
      gi_wp2_with fail
      go_roundw
      case rel=>exact⟨k+1,pre++[x1]++[x2],by omega,by go_num,HA2.out,HJ4.out,aeW.out,afT⟩
      case measure=>simp[intOf];omega
     ·have HX:=hide aep
      clear aep hnM
      dsimp only
      gi_wp2_with fail
      refine bodyPost_ret (results_none rfl _ _ _) rfl ?_
      exact⟨⟨_,rfl⟩,.inr ⟨_,by rw[HA.out];exact HA3.out,HX.out⟩⟩
    ·have HX:=hide hJx3
     clear hJx3 hnM hkp
     dsimp only
     gi_wp2_with fail
     refine⟨fun _ h=>(by cases h),?_⟩
     gi_wp2_with fail
     refine bodyPost_ret (results_none rfl _ _ _) rfl ?_
     exact⟨⟨_,rfl⟩,.inr ⟨_,by rw[HA.out];exact HA1.out,HX.out⟩⟩
   ·obtain rfl:k=ss.length:=by omega
    gi_wp2
    go_end0
    exact⟨⟨_,rfl⟩,.inl ⟨pre,by rw[HP.out,List.take_length,HA.out],hJ⟩⟩
def kV (sa sb:List fH)(jA:Int)(v:Int×Int):Bool := !((tu sa v.1 v.2).1==jA&&((tu sb v.1 v.2).1 != jA||decide ((tu sb v.1 v.2).2<(tu sa v.1 v.2).2)))
def uS (jA:Int):Bool:=decide (1<=jA/\jA<=3)
def iH (sa sb:List fH)(jA:Int):Bool×Int:=if (fJ sa&&fJ sb&&uS jA)=true then ((turnsOf (sa++sb)).all (kV sa sb jA),0) else (false,1)
theorem XF (sa sb:List fH)(A A':Option Addr)(c c':Nat)(jA:Int)(w:World)(hra:Rd w w.heap.size 6 A (sa.map fH.cells))(hrb:Rd w w.heap.size 6 A' (sb.map fH.cells))(hla:sa.length<=c)(hlb:sb.length<=c')(hc:sa.length<=100000000000000)(hc':sb.length<=100000000000000)
  (h:(fJ sa&&fJ sb&&uS jA)=false) :
  Calls Tryz.prog 133 #[.slice A sa.length c,.slice A' sb.length c',.int .i64 jA] w (aB w (.tuple #[.bool false,.int .i64 1])):=by
 have hm:=aQ
 cases h1:fJ sa
 ·clear h
  go_enter Tryz.func133,Tryz.ntmps133
  go_wp2_with (go_at_call 89;refine aT (ku sa A c _ (hra.up gw) hla hc) fun _ _=>?_;dsimp only;rw[h1])
  refine bodyPost_ret (v:=.tuple #[.bool false,.int .i64 1]) (by simp[results,Tryz.results133,go_sem]) rfl ?_
  exact aB.mk' rfl gw
 ·cases h2:fJ sb
  ·clear h
   go_enter Tryz.func133,Tryz.ntmps133
   go_wp2_with fail
   refine (ku sa A c _ (hra.up gw) hla hc).mono ?_
   rintro e w' ⟨rfl,⟨_,_⟩,rfl⟩
   rw[h1]
   dsimp only
   go_wp2_with fail
   refine (ku sb A' c' _ (hrb.up gw) hlb hc').mono ?_
   rintro e w' ⟨rfl,⟨_,_⟩,rfl⟩
   rw[h2]
   dsimp only
   go_wp2_with fail
   refine bodyPost_ret (v:=.tuple #[.bool false,.int .i64 1]) (by simp[results,Tryz.results133,go_sem]) rfl ?_
   exact aB.mk' rfl gw
  ·have h3:uS jA=false:=by rw[h1,h2] at h;simpa using h
   have h4:jA<1\/3<jA:=by simp[uS] at h3;omega
   clear h h3
   rcases h4 with h4|h4
   ·have h5:decide (jA<1)=true:=by simpa using h4
    go_enter Tryz.func133,Tryz.ntmps133
    go_wp2_with fail
    refine (ku sa A c _ (hra.up gw) hla hc).mono ?_
    rintro e w' ⟨rfl,⟨_,_⟩,rfl⟩
    rw[h1]
    dsimp only
    go_wp2_with fail
    refine (ku sb A' c' _ (hrb.up gw) hlb hc').mono ?_
    rintro e w' ⟨rfl,⟨_,_⟩,rfl⟩
    rw[h2]
    dsimp only
    go_wp2_with fail
    refine bodyPost_ret (v:=.tuple #[.bool false,.int .i64 1]) (by simp[results,Tryz.results133,go_sem]) rfl ?_
    exact aB.mk' rfl gw
   ·have h5:decide (jA<1)=false:=by simp;omega
    go_enter Tryz.func133,Tryz.ntmps133
    go_wp2_with fail
    refine (ku sa A c _ (hra.up gw) hla hc).mono ?_
    rintro e w' ⟨rfl,⟨_,_⟩,rfl⟩
    rw[h1]
    dsimp only
    go_wp2_with fail
    refine (ku sb A' c' _ (hrb.up gw) hlb hc').mono ?_
    rintro e w' ⟨rfl,⟨_,_⟩,rfl⟩
    rw[h2]
    dsimp only
    go_wp2_with fail
    refine bodyPost_ret (v:=.tuple #[.bool false,.int .i64 1]) (by simp[results,Tryz.results133,go_sem]) rfl ?_
    exact aB.mk' rfl gw
abbrev Jl (sa sb:List fH)(A A':Option Addr)(c c':Nat)(jA:Int):List Obj:=[.cells #[.slice A sa.length c] 63 (0,0),.cells #[.slice A' sb.length c'] 63 (0,0),.cells #[.int .i64 jA] 3 (0,0),.cells #[.bool false] 4 (0,0),.cells #[.int .i64 0] 31 (0,0)]
theorem TJ (sa sb:List fH)(A A':Option Addr)(c c':Nat)(jA:Int)(w:World)(hra:Rd w w.heap.size 6 A (sa.map fH.cells))(hrb:Rd w w.heap.size 6 A' (sb.map fH.cells))(hla:sa.length<=c)(hlb:sb.length<=c')(hc:sa.length<=100000000000000)(hc':sb.length<=100000000000000)
  (h1:fJ sa=true) (h2:fJ sb=true) (h3:1<=jA/\jA<=3) :
  Calls Tryz.prog 133 #[.slice A sa.length c,.slice A' sb.length c',.int .i64 jA] w (aB w (.tuple #[.bool ((turnsOf (sa++sb)).all (kV sa sb jA)),.int .i64 0])):=by
 have hm:=aQ
 have HRA:=hide hra
 have HRB:=hide hrb
 clear hra hrb
 obtain⟨ad6,hl1⟩:=XC h1
 obtain⟨ad5,hl2⟩:=XC h2
 have HOA:=hide ad6
 have HOB:=hide ad5
 clear ad6 ad5
 have h5:decide (jA<1)=false:=by simp;omega
 have h6:decide (3<jA)=false:=by simp;omega
 refine (callsIn_wide (n:=9)).1 ?_
 refine callsIn_of_wp_marks Tryz.func133 rfl trivial ?_ rfl
 simp only[Tryz.ntmps133,List.size_toArray,List.length_cons,List.length_nil,Nat.reduceAdd,Nat.reduceSub,Array.replicate_succ,Array.replicate_zero,List.push_toArray,List.append_toArray,List.nil_append,List.cons_append]
 gi_wp2_with fail
 refine⟨trivial,?_⟩
 refine (callsIn_wide.2 (ku sa A c _ (HRA.out.up gw) hla hc)).mono ?_
 rintro e w' ⟨rfl,⟨_,_⟩,rfl⟩
 rw[h1]
 dsimp only
 gi_wp2_with fail
 refine⟨trivial,?_⟩
 refine (callsIn_wide.2 (ku sb A' c' _ (HRB.out.up gw) hlb hc')).mono ?_
 rintro e W1 ⟨rfl,hg⟩
 rw[h2]
 obtain⟨hbx,hgw⟩:=Bx.lH (Jl sa sb A A' c c' jA) w
 have hg1:Grew (List.foldl World.alloc w (Jl sa sb A A' c c' jA)) W1:=by
  refine Grew.trans ?_ hg
  dsimp only[Jl,List.foldl]
  exact gw
 have hb1:=hbx.grew hg1
 have hw1:=hgw.trans hg1
 clear hg hgw hg1 hbx
 have c0:W1.cell? ⟨w.heap.size,0,none⟩=_:=(hb1.box 0 rfl).cell
 have c1:W1.cell? ⟨w.heap.size+1,0,none⟩=_:=(hb1.box 1 rfl).cell
 have c2:W1.cell? ⟨w.heap.size+1+1,0,none⟩=_:=(hb1.box 2 rfl).cell
 have HB1:=hide hb1
 have HW1:=hide hw1
 clear hb1 hw1
 dsimp only
 gi_wp2_with fail
 refine⟨trivial,?_⟩
 refine (callsIn_wide.2 (QH _ _ _ _)).mono ?_
 rintro e w' ⟨rfl,rfl⟩
 dsimp only
 gi_wp2_with fail
 refine dJ ?_
 intro a0 W0 ha hW
 have hg0:Grew w W0:=by rw[<-hW];exact (HW1.out.alloc _).alloc _
 have hb0:=HB1.out.grew (W':=W0) (by rw[<-hW];exact gw)
 have hsz:w.heap.size<=W0.heap.size:=hg0.below.size
 have hz:W0.heap.size=W1.heap.size+2:=by rw[<-hW];simp
 have hk0:W0.heap[W1.heap.size]?=some (.cells #[.slice A sa.length c,.slice A' sb.length c'] 63 (0,0)):=by
  rw[<-hW]
  exact (heap_alloc_old _ _ (by simp)).trans (heap_alloc_new _ _)
 have hk1:W0.heap[W1.heap.size+1]?=some (.cells #[.slice (some ⟨W1.heap.size,0,none⟩) 2 2] 241 (0,0)):=by
  have:=heap_alloc_new (W1.alloc (.cells #[.slice A sa.length c,.slice A' sb.length c'] 63 (0,0))) (.cells #[.slice (some ⟨W1.heap.size,0,none⟩) 2 2] 241 (0,0))
  rw[World.mr] at this
  rw[<-hW]
  exact this
 have h5z:w.heap.size+4<W0.heap.size:=(hb0.box 4 rfl).lt
 clear hW c0 c1 c2
 have Y6:([⟨A,c,sa⟩,⟨A',c',sb⟩]:List SL).flatMap SL.ss=sa++sb:=by simp
 refine wpIn_rangeFunc_ownH (n:=9) rfl (by omega) (gf:=172) (lb:=#[.pointer (some ⟨W1.heap.size+1,0,none⟩)]) (by rw[<-ha];simp[Act.eval]) trivial (enters_of Tryz.func172 (by kernel_rfl) rfl)
  (Hl 8 (fun b _=>b=w.heap.size+3\/b=w.heap.size+4) [⟨A,c,sa⟩,⟨A',c',sb⟩] (some ⟨W1.heap.size,0,none⟩) 2 (W1.heap.size+1) W0 (fun b _ hb=>.inl (by omega)) hk1
   (.inr ⟨_,_,rfl,by omega,fun k x hx j v hv=>by
    rw[ag hk0]
    match k,hx with
    | 0,hx=>injection hx with hx;subst hx;match j,hv with|0,hv=>exact hv
    | 1,hx=>injection hx with hx;subst hx;match j,hv with|0,hv=>exact hv⟩)
   (by intro x hx;simp at hx;rcases hx with rfl|rfl<;>first|exact HRA.out.up hg0|exact HRB.out.up hg0) (by simp) (by intro x hx;simp at hx;rcases hx with rfl|rfl<;>(simp;omega)) (by rw[Y6];intro s hs;rcases List.mem_append.1 hs with h|h<;>first|exact HOA.out s h|exact HOB.out s h))
  (fun h k=>h.trans k) iC.bk (Below.refl _ _) (fun _=>rfl)
  (fun pre W=>(Below w.heap.size w W/\Bx W w.heap.size (Jl sa sb A A' c c' jA))/\∀v∈pre,kV sa sb jA v.1=true)
  (fun q pre W=>((Below w.heap.size w W/\Boxed W (w.heap.size+3) 4 (.bool false))/\Boxed W (w.heap.size+4) 31 (.int .i64 0))/\q=.ret/\∃v∈pre,kV sa sb jA v.1=false)
  (OwnFrom.and (OwnFrom.and (ownFrom_below (Nat.le_refl _) hsz) (Bx.own h5z)) (ownFrom_pure _))
  (fun q=>OwnFrom.and (OwnFrom.and (OwnFrom.and (ownFrom_below (Nat.le_refl _) hsz) (Own.from (boxed_own _ _ _) _)) (Own.from (boxed_own _ _ _) _)) (ownFrom_pure _))
  ⟨⟨hg0.below,hb0⟩,fun v hv=>by cases hv⟩
  (fun x a' W=>∃B,W.heap[B]?=some (.cells #[.int .i64 x.1.1,.int .i64 x.1.2] 183 (0,0))/\a'={ tmps:=(a0.tmps.setIfInBounds 31 (pt x.1.1 x.1.2)).setIfInBounds 8 (.pointer (some ⟨B,0,none⟩)),defers:=[] })
  (fun x a'=>by
   rintro s X Y row ⟨B,h1,h2⟩ hg hr
   exact⟨B,fE h1 hg (fun r e=>(hr r e).2),h2⟩)
  ?assign ?body ?done ?stop
 case assign =>
  rintro l pre x W K ⟨⟨hB,hb⟩,hp⟩ hK
  rw[show x.enc=#[pt x.1.1 x.1.2] from rfl,L6]
  subst ha
  simp only[List.setIfInBounds_toArray,List.set_cons_succ,List.set_cons_zero] at hK ⊢
  have vT:=hide hK
  clear hK
  gi_wp2_with fail
  exact vT.out _ _ ((KeepsOthers.alloc _ _).from _) (iC.grew (Grew.alloc (Grew.refl _) _)) ⟨⟨hB.alloc hB.size _,hb.grew (Grew.alloc (Grew.refl _) _)⟩,hp⟩ ⟨W.heap.size,heap_alloc_new _ _,rfl⟩
 case body =>
  rintro l pre x a' W hl _ ⟨⟨hB,hb⟩,hp⟩ ⟨B,hx,rfl⟩ hlt
  subst ha
  have c0:W.cell? ⟨w.heap.size,0,none⟩=_:=(hb.box 0 rfl).cell
  have c1:W.cell? ⟨w.heap.size+1,0,none⟩=_:=(hb.box 1 rfl).cell
  have c2:W.cell? ⟨w.heap.size+1+1,0,none⟩=_:=(hb.box 2 rfl).cell
  have c3:W.cell? ⟨B,0,none⟩=some _:=ag hx 0
  have c4:W.cell? ⟨B,1,none⟩=some _:=ag hx 1
  have hBl:=ax hx
  have h4l:=(hb.box 4 rfl).lt
  have l0:w.heap.size<W.heap.size:=by omega
  have l1:w.heap.size+1<W.heap.size:=by omega
  have l2:w.heap.size+1+1<W.heap.size:=by omega
  have l3:w.heap.size+1+1+1<W.heap.size:=by omega
  have l4:w.heap.size+1+1+1+1<W.heap.size:=by omega
  have g3:W.cell? ⟨w.heap.size+1+1+1,0,none⟩=_:=(hb.box 3 rfl).cell
  have g4:W.cell? ⟨w.heap.size+1+1+1+1,0,none⟩=_:=(hb.box 4 rfl).cell
  have f3:W.frozen? ⟨w.heap.size+1+1+1,0,none⟩=_:=(hb.box 3 rfl).frozen
  have f4:W.frozen? ⟨w.heap.size+1+1+1+1,0,none⟩=_:=(hb.box 4 rfl).frozen
  have agT:=hide (HRA.out.up (Grew.of_below hB))
  have agR:=hide (HRB.out.up (Grew.of_below hB))
  have HP:=hide hp
  have HB:=hide hB
  have Hb:=hide hb
  clear hp hB hb hx hlt
  obtain⟨⟨vx,vy⟩,hv⟩:=x
  have hbd:=acn hv
  dsimp only at hbd c3 c4 HP
  simp only[List.setIfInBounds_toArray,List.set_cons_succ,List.set_cons_zero]
  gi_wp2_with fail
  refine dm 10 [⟨6,8,9,224,.agg #[.int .i64 0,.int .i64 0]⟩,⟨7,9,10,224,.agg #[.int .i64 0,.int .i64 0]⟩] [] hm (hZ:=(qE.cons Tryz.zeroValue224 Tryz.sizeOf224 (qE.cons Tryz.zeroValue224 Tryz.sizeOf224 qE.nil))) (h:=?_)
  repeat (refine au (fun K hK=>?_);go_simp;first|(refine hK _ ?_;clear hK K)|(apply Exists.intro;refine⟨fun _=>?_,hK _ ?_⟩;(go_at_call 151;first|with_reducible exact F9 sa A c _ _ _ (agT.out.up gw) hla hc HOA.out hbd.1 hbd.2|with_reducible exact F9 sb A' c' _ _ _ (agR.out.up gw) hlb hc' HOB.out hbd.1 hbd.2);clear hK K))
  refine dW ?_
  refine⟨(jf.cons (by rfl) (by simp[bU,Act.eval,Value.cells,Value.oneCell']) (jf.cons (by rfl) (by simp[bU,Act.eval,Value.cells,Value.oneCell']) jf.nil)),nR.nil,?_⟩
  rintro psq FB Wq iP FT FW
  obtain rfl:FB=[]:=FW
  obtain⟨p0,_,rfl,hp0,hb0,hn0,p1,_,rfl,hp1,hb1,hn1,rfl⟩:=FT
  simp only[putAll,putB,Act.put,aG]
  simp[bU,Act.eval,Value.cells] at hb0
  have xE:Wq.cell? ⟨p0,0,none⟩=some _:=ag hb0 0
  have xC:Wq.cell? ⟨p0,1,none⟩=some _:=ag hb0 1
  have X3:=bD hb0
  have X0:=ax hb0
  simp[bU,Act.eval,Value.cells] at hb1
  have Eo:Wq.cell? ⟨p1,0,none⟩=some _:=ag hb1 0
  have En:Wq.cell? ⟨p1,1,none⟩=some _:=ag hb1 1
  have gf1:=bD hb1
  have gl1:=ax hb1
  have gn:p0≠p1:=by simpa using hn0
  have gm:p1≠p0:=fun e=>gn e.symm
  have WA:=hide hp0
  have gp1:=hide hp1
  clear hb0 hn0 hp0 hb1 hn1 hp1
  have oc:=iR iP
  have of:=jw iP
  have ol:=rE iP
  replace iP:=hide iP
  gi_wp2_with fail
  all_goals have mJ:=Hb.out.grew iP.out
  all_goals have hB9:=HB.out.trans (iP.out.below.mono HB.out.size)
  all_goals first
   |(refine⟨iP.out.aV _,iC.grew iP.out,⟨hB9,mJ⟩,fun v hv'=>?_⟩
     rcases List.mem_append.1 hv' with h|h
     ·exact HP.out v h
     ·obtain rfl:=List.mem_singleton.1 h
      simp[kV]
      omega)
   |(refine⟨(iP.out.aV _).trans ((KeepsFrom.setCell _ _ _ _).trans (KeepsFrom.setCell _ _ _ _)),⟨⟨(hB9.setCell (p:=⟨w.heap.size+1+1+1,0,none⟩) (by simp;omega) _).setCell (p:=⟨w.heap.size+1+1+1+1,0,none⟩) (by simp;omega) _,((mJ.box 3 rfl).set _).other (by omega) _⟩,((mJ.box 4 rfl).other (by omega) _).set _⟩,rfl,⟨⟨(vx,vy),hv⟩,List.mem_append_right _ (List.mem_singleton.2 rfl),?_⟩⟩
     simp[kV]
     omega)
 case done =>
  subst ha
  rintro D xs W hD hS ⟨⟨hB,hb⟩,hp⟩ hK
  have b3:Boxed W (w.heap.size+1+1+1) _ _:=hb.box 3 rfl
  have b4:Boxed W (w.heap.size+1+1+1+1) _ _:=hb.box 4 rfl
  have c3:=b3.cell
  have f3:=b3.frozen
  have c4:=b4.cell
  have f4:=b4.frozen
  have HB:=hide hB
  have HS:=hide hS
  have HP:=hide hp
  clear hB hb hS hp b3 b4
  gi_wp2_with fail
  have hK2:=((KeepsOthers.setCell W ⟨w.heap.size+1+1+1,0,none⟩ (.bool true)).trans (KeepsOthers.setCell _ ⟨w.heap.size+1+1+1+1,0,none⟩ (.int .i64 0))).same D _ hK rfl
  refine⟨by simp,.inl ⟨_,_,rfl,run_takeDeferred hK2,?_⟩⟩
  have hb5:=((HB.out.setCell (p:=⟨w.heap.size+1+1+1,0,none⟩) (by simp;omega) (.bool true)).setCell (p:=⟨w.heap.size+1+1+1+1,0,none⟩) (by simp;omega) (.int .i64 0)).trans (belowK_b (w:=w) (Nat.le_refl _) _ D _ (.deferred none) (by omega) hK2 rfl rfl)
  have e3:(((W.setCell ⟨w.heap.size+1+1+1,0,none⟩ (.bool true)).setCell ⟨w.heap.size+1+1+1+1,0,none⟩ (.int .i64 0)).putObj D (.deferred none)).cell? ⟨w.heap.size+1+1+1,0,none⟩=some (.bool true):=by
   rw[aU (by omega)]
   go_simp
  have e4:(((W.setCell ⟨w.heap.size+1+1+1,0,none⟩ (.bool true)).setCell ⟨w.heap.size+1+1+1+1,0,none⟩ (.int .i64 0)).putObj D (.deferred none)).cell? ⟨w.heap.size+1+1+1+1,0,none⟩=some (.int .i64 0):=by
   rw[aU (by omega)]
   go_simp
  refine⟨.tuple #[.bool true,.int .i64 0],by simp[results,Tryz.results133,go_sem,e3,e4],?_⟩
  refine aB.mk' (yH (dS ?_) rfl) (Grew.of_below hb5)
  rw[<-Y6,<-HS.out,List.all_map]
  symm
  rw[List.all_eq_true]
  exact fun v hv=>HP.out v hv
 case stop =>
  subst ha
  rintro D q pre W hD ⟨rest,hr⟩ ⟨⟨⟨hB,hb1⟩,hb2⟩,rfl,hp⟩ hK
  have c3:W.cell? ⟨w.heap.size+1+1+1,0,none⟩=_:=hb1.cell
  have c4:W.cell? ⟨w.heap.size+1+1+1+1,0,none⟩=_:=hb2.cell
  have HB:=hide hB
  have HS:=hide hr
  have HP:=hide hp
  clear hB hb1 hb2 hr hp
  gi_wp2_with fail
  refine⟨by simp,.inl ⟨_,_,rfl,run_takeDeferred hK,?_⟩⟩
  have hb5:=HB.out.trans (belowK_b (w:=w) (Nat.le_refl _) _ D _ (.deferred none) (by omega) hK rfl rfl)
  have e3:=(aU (W:=W) (D:=D) (i:=0) (o:=.deferred none) (b:=w.heap.size+1+1+1) (by omega)).trans c3
  have e4:=(aU (W:=W) (D:=D) (i:=0) (o:=.deferred none) (b:=w.heap.size+1+1+1+1) (by omega)).trans c4
  refine⟨.tuple #[.bool false,.int .i64 0],by simp[results,Tryz.results133,go_sem,e3,e4],?_⟩
  refine aB.mk' (yH (dS ?_) rfl) (Grew.of_below hb5)
  rw[<-Y6,HS.out,List.all_append,List.all_map]
  symm
  rw[Bool.and_eq_false_iff]
  left
  rw[List.all_eq_false]
  obtain⟨v,hv,hv'⟩:=HP.out
  exact⟨v,hv,by simp[hv']⟩
theorem Be (sa sb:List fH)(A A':Option Addr)(c c':Nat)(jA:Int)(w:World)(hra:Rd w w.heap.size 6 A (sa.map fH.cells))(hrb:Rd w w.heap.size 6 A' (sb.map fH.cells))(hla:sa.length<=c)(hlb:sb.length<=c')(hc:sa.length<=100000000000000)(hc':sb.length<=100000000000000) :
  Calls Tryz.prog 133 #[.slice A sa.length c,.slice A' sb.length c',.int .i64 jA] w (aB w (.tuple #[.bool (iH sa sb jA).1,.int .i64 (iH sa sb jA).2])):=by
 unfold iH
 cases h:fJ sa&&fJ sb&&uS jA
 ·exact XF sa sb A A' c c' jA w hra hrb hla hlb hc hc' h
 ·rw[Bool.and_eq_true,Bool.and_eq_true] at h
  exact TJ sa sb A A' c c' jA w hra hrb hla hlb hc hc' h.1.1 h.1.2 (by simpa[uS] using h.2)
theorem KU (sa sb:List fH)(jA:Int):((iH sa sb jA).2=0/\(fJ sa&&fJ sb&&uS jA)=true)\/iH sa sb jA=(false,1):=by
 unfold iH
 split
 ·exact .inl ⟨rfl,by assumption⟩
 ·exact .inr rfl
def qJ (sa sb:List fH):Bool×Int:=((iH sb sa 1).2==0 && !(iH sb sa 1).1,(iH sb sa 1).2)
theorem TD (sa sb:List fH)(A A':Option Addr)(c c':Nat)(w:World)(hra:Rd w w.heap.size 6 A (sa.map fH.cells))(hrb:Rd w w.heap.size 6 A' (sb.map fH.cells))(hla:sa.length<=c)(hlb:sb.length<=c')(hc:sa.length<=100000000000000)(hc':sb.length<=100000000000000) :
  Calls Tryz.prog 105 #[.slice A sa.length c,.slice A' sb.length c'] w (aB w (.tuple #[.bool (qJ sa sb).1,.int .i64 (qJ sa sb).2])):=by
 have hm:=aQ
 have key:=Be sb sa A' A c' c 1 w hrb hra hlb hla hc' hc
 unfold qJ
 rcases KU sb sa 1 with⟨h,_⟩|h
 ·cases h2:(iH sb sa 1).1
  all_goals
   rw[h]
   go_enter Tryz.func105,Tryz.ntmps105
   go_wp2_with (go_at_call 133;refine aT (Be sb sa A' A c' c 1 _ (hrb.up gw) (hra.up gw) hlb hla hc' hc) fun _ _=>?_;dsimp only;rw[h,h2])
   first|go_ret2|(refine bodyPost_ret (v:=_) (by simp[results,Tryz.results105,go_sem];rfl) rfl ?_)
   exact aB.mk' (by simp) gw
 ·rw[h]
  go_enter Tryz.func105,Tryz.ntmps105
  go_wp2_with (go_at_call 133;refine aT (Be sb sa A' A c' c 1 _ (hrb.up gw) (hra.up gw) hlb hla hc' hc) fun _ _=>?_;dsimp only;rw[h])
  first|go_ret2|(refine bodyPost_ret (v:=_) (by simp[results,Tryz.results105,go_sem];rfl) rfl ?_)
  exact aB.mk' (by simp) gw
end Go.Proofs.YtlkgjmnjhifehaaGreat
