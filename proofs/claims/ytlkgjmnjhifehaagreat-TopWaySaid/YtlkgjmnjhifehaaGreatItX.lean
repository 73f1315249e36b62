
import Derived.Test.YtlkgjmnjhifehaaGreatProg
import Derived.Test.YtlkgjmnjhifehaaGreatRegIn
import Derived.Test.YtlkgjmnjhifehaaGreatApp
import Derived.RangeFuncNested
import Derived.RangeFuncBound
import Derived.Test.YtlkgjmnjhifehaaGreatSecA
set_option linter.unusedSimpArgs false
set_option linter.unusedVariables false
namespace Go.Proofs.YtlkgjmnjhifehaaGreat
open Go.RowKit Go.Sort
attribute [local go_sem] dA steadyUpon
attribute [local go_sem ↓] bU bI aX aW aV aU aT
attribute [local go_sem] bH aK aJ size_grow tape_grow cell?_grow' aF aB grow_grow bW aY dR cO bY bK aN cZ aZ bZ bJ
def gW (M:Nat->TypeId->Prop)(W W':World):Prop:=∀b cs T fr,¬ M b T->W.heap[b]?=some (.cells cs T fr)->W'.heap[b]?=some (.cells cs T fr)
theorem gW.trans {M:Nat->TypeId->Prop}{A B C:World}(h:gW M A B)(k:gW M B C):gW M A C:=fun b cs T fr hM hb=>k b cs T fr hM (h b cs T fr hM hb)
theorem gW.bk {M:Nat->TypeId->Prop}{w:World}(W:World)(l:Nat)(o o':Obj)(_:w.heap.size<=l)(h:W.heap[l]?=some o)(ho:o.isCells=false)(_:o.isWalk=false):gW M W (W.putObj l o'):=by
 intro b cs T fr _ hb
 have hne:b≠l:=by
  rintro rfl
  rw[hb] at h
  injection h with h
  rw[<-h] at ho
  simp[Obj.isCells] at ho
 rw[World.putObj_heap_other (fun e=>hne (by omega))]
 exact hb
theorem gW.grew {M:Nat->TypeId->Prop}{W W':World}(h:Grew W W'):gW M W W':=fun b cs T fr _ hb=>by
 rw[h.below.block b (au hb)]
 exact hb
theorem gW.set {M:Nat->TypeId->Prop}(W:World)(b i:Nat)(v:Value)(h:∀T,M b T):gW M W (W.setCell ⟨b,i,none⟩ v):=fun k cs T fr hM hb=>by
 by_cases e:k=b
 ·subst e;exact absurd (h T) hM
 ·rw[heap_setCell_other W ⟨b,i,none⟩ k v (fun h=>e h)]
  exact hb
theorem Grew.grownBy {w w':World}(h:Grew w w')(row:Option Nat):w.grownBy w' row:=by
 have hb:=h.below
 exact⟨hb.os,hb.tape,hb.output,hb.size,fun k hk _=>hb.block k hk⟩
def Bx (W:World)(n0:Nat)(os:List Obj):Prop:=∀i o,os[i]?=some o->W.heap[n0+i]?=some o
theorem Bx.own {β:Type}{B n0:Nat}{os:List Obj}(h:n0+os.length<=B):OwnFrom B (fun (_:β) W=>Bx W n0 os):=by
 intro s W W' row hs hg hr i o ho
 have hi:=(List.getElem?_eq_some_iff.1 ho).1
 have h0:=hs i o ho
 rw[hg.block (n0+i) (au h0) (fun e=>by have:=(hr _ e.symm).1;omega)]
 exact h0
theorem Bx.grew {W W':World}{n0:Nat}{os:List Obj}(h:Bx W n0 os)(hg:Grew W W'):Bx W' n0 os:=fun i o ho=>(hg.below.block _ (au (h i o ho))).trans (h i o ho)
theorem ownFrom_pure {β:Type}{B:Nat}(p:β->Prop):OwnFrom B (fun (s:β) (_:World)=>p s):=fun _ _ _ _ h _ _=>h
theorem fG {X Y:World}{row:Option Nat}{B:Nat}{cs:Array Value}{T:TypeId}{fr:Nat×Nat}(h:X.heap[B]?=some (.cells cs T fr))(hg:X.grownBy Y row)(hr:∀r,row=some r->∃o:Obj,X.heap[r]?=some o/\o.isCells=false):Y.heap[B]?=some (.cells cs T fr) :=
 (grownBy_keeps_cells hg hr h rfl).trans h
theorem L9 (T:Array Value)(k:Nat)(v:Value):((#[k]:Array Tmp).zip #[v]).foldl (fun t (p,v)=>t.setIfInBounds p v) T=T.setIfInBounds k v:=by simp
theorem FT (T:Array Value)(k l:Nat)(v u:Value):((#[k,l]:Array Tmp).zip #[v,u]).foldl (fun t (p,v)=>t.setIfInBounds p v) T=(T.setIfInBounds k v).setIfInBounds l u:=by simp
theorem bG {W:World}{D b i:Nat}{o:Obj}(h:b≠D):(W.putObj D o).cell? ⟨b,i,none⟩=W.cell? ⟨b,i,none⟩:=World.cell?_of_block (World.putObj_heap_other h)
theorem dJ {F:Fence}{n:Nat}{P:Program}{c:Code}{Q:Exit->Act->World->Prop}{a:Act}{w:World}(h:∀a0 W0,a=a0->w=W0->c.wpIn F n P Q a0 W0):c.wpIn F n P Q a w:=h _ _ rfl rfl
theorem Bx.box {W:World}{n0:Nat}{os:List Obj}(h:Bx W n0 os)(i:Nat){v:Value}{T:TypeId}(ho:os[i]?=some (.cells #[v] T (0,0))):Boxed W (n0+i) T v:=h i _ ho
theorem Bx.lT:∀ (os:List Obj) (w:World),Bx (os.foldl World.alloc w) w.heap.size os/\Grew w (os.foldl World.alloc w)
 | [],w=>⟨fun i o h=>by simp at h,Grew.refl _⟩
 | o::os,w=>by
  obtain⟨h1,h2⟩:=Bx.lT os (w.alloc o)
  refine⟨fun i x hx=>?_,Grew.trans (Grew.alloc (Grew.refl _) o) h2⟩
  cases i with
  | zero =>
   injection hx with hx
   subst hx
   exact (h2.below.block w.heap.size (by simp)).trans (heap_alloc_new w o)
  | succ i =>
   have:=h1 i x hx
   rw[World.mG] at this
   rw[show w.heap.size+(i+1)=w.heap.size+1+i by omega]
   exact this
theorem Grew.aS {W W':World}(h:Grew W W')(B:Nat):KeepsFrom B W W':=KeepsFrom.of_grownBy (h.grownBy none) (fun _ e=>by cases e)
theorem KeepsFrom.setCell (B:Nat)(W:World)(a:Addr)(v:Value):KeepsFrom B W (W.setCell a v):=(KeepsOthers.setCell W a v).from B
theorem iC (W:World)(row:Option Nat):W.grownBy W row:=⟨rfl,rfl,rfl,Nat.le_refl _,fun _ _ _=>rfl⟩
theorem xA {W V V':World}{row:Option Nat}(h:W.grownBy V row)(g:Grew V V'):W.grownBy V' row :=
 ⟨(g.below.os).trans h.os,g.below.tape.trans h.tape,g.below.output.trans h.output,Nat.le_trans h.size g.below.size,fun k hk hne=>(g.below.block k (Nat.lt_of_lt_of_le hk h.size)).trans (h.block k hk hne)⟩
theorem pG {W V:World}{row:Option Nat}(h:W.grownBy V row)(n:Nat)(os:Array Obj):W.grownBy (Sort.grow (dr V n) os) row:=xA h (Grew.mk V n os)
theorem Xc {W V:World}{row:Option Nat}(h:W.grownBy V row)(o:Obj):W.grownBy (V.alloc o) row:=xA h (Grew.alloc (Grew.refl _) o)
theorem acy {W V:World}{row:Option Nat}{k:Nat}(h:W.grownBy V row)(hk:W.heap.size<=k)(i:Nat)(v:Value):W.grownBy (V.setCell ⟨k,i,none⟩ v) row :=
 ⟨h.os,h.tape,h.output,by simpa using h.size,fun j hj hne=>(heap_setCell_other V ⟨k,i,none⟩ j v (fun e=>by dsimp only at e;omega)).trans (h.block j hj hne)⟩
theorem jf {W V:World}{b:Nat}(h:W.grownBy V (some b))(i:Nat)(v:Value):W.grownBy (V.setCell ⟨b,i,none⟩ v) (some b) :=
 ⟨h.os,h.tape,h.output,by simpa using h.size,fun j hj hne=>(heap_setCell_other V ⟨b,i,none⟩ j v (fun e=>hne (by dsimp only at e;rw[e]))).trans (h.block j hj hne)⟩
theorem gz {w W V:World}{b:Nat}(h:W.grownBy V (some b))(hw:Below w.heap.size w W)(hb:w.heap.size<=b):Below w.heap.size w V:=hw.grown h hw.size fun q hq=>by injection hq with hq;omega
theorem sV {W V:World}{row:Option Nat}(h:W.grownBy V row:=by repeat (with_reducible first|assumption|exact Hid.out (by assumption)|exact iC _ _|refine pG ?_ _ _|refine jf ?_ _ _|(refine acy ?_ (Hid.out (by assumption)) _ _)|refine Xc ?_ _|(refine xA ?_ (Hid.out (by assumption))))):W.grownBy V row:=h
theorem jV {W V:World}{b B:Nat}(h:W.grownBy V (some b))(ho:∃o,W.heap[b]?=some o/\o.isCells=true):KeepsFrom B W V :=
 ⟨h.size,fun k o hk h0 hc=>(h.block k (au h0) (fun e=>by
  obtain⟨o',h1,h2⟩:=ho
  injection e with e
  subst e
  rw[h0] at h1
  injection h1 with h1
  rw[h1,h2] at hc
  cases hc)).trans h0⟩
theorem wB {M:Nat->TypeId->Prop}{W V:World}{b:Nat}(h:W.grownBy V (some b))(hM:∀T,M b T):gW M W V:=fun k cs T fr hk h0=>(h.block k (au h0) (fun e=>by
  injection e with e
  subst e
  exact hk (hM T))).trans h0
theorem wC {W V:World}{b n0:Nat}{os:List Obj}(h:W.grownBy V (some b))(hb:Bx W n0 os)(hne:b<n0\/n0+os.length<=b):Bx V n0 os:=fun i o ho=>(h.block _ (au (hb i o ho)) (fun e=>by
  injection e with e
  have:=(List.getElem?_eq_some_iff.1 ho).1
  omega)).trans (hb i o ho)
theorem eu {V:World}{b:Nat}{T:TypeId}{v:Value}(h:Boxed V b T v)(n:Nat)(os:Array Obj):Boxed (Sort.grow (dr V n) os) b T v:=((Grew.mk V n os).below.block _ (au h)).trans h
theorem eF {V V':World}{b:Nat}{T:TypeId}{v:Value}(h:Boxed V b T v)(g:Grew V V'):Boxed V' b T v:=(g.below.block _ (au h)).trans h
theorem jR {V:World}{b k i:Nat}{T:TypeId}{v u:Value}(h:Boxed V b T v)(hne:b≠k):Boxed (V.setCell ⟨k,i,none⟩ u) b T v:=(heap_setCell_other V ⟨k,i,none⟩ b u hne).trans h
set_option maxHeartbeats 2000000
set_option maxRecDepth 100000
attribute [local go_sem] Oper.semAt_some
def turnsOf (ss:List fJ):List (Int×Int):=ss.flatMap fun s=>[(s.fx,s.fy),(s.tx,s.ty)]
abbrev Dir:={ v:Int×Int // sZ v.1 v.2=true }
def Dir.enc (v:Dir):Array Value:=#[pt v.1.1 v.1.2]
theorem QU (O:Option Addr)(n c:Nat)(w:World) :
  Calls Tryz.prog 150 #[.slice O n c] w fun e w'=>e=.returned (.func (.func 172) #[] #[.pointer (some ⟨w.heap.size,0,none⟩)])/\w.alloc (.cells #[.slice O n c] 241)=w':=by
 go_enter Tryz.func150,Tryz.ntmps150
 go_wp2
 go_ret
 exact⟨rfl,rfl⟩
theorem MW {ss:List fJ}{k:Nat}{s:fJ}(h:ss[k]?=some s):turnsOf (ss.take (k+1))=turnsOf (ss.take k)++[(s.fx,s.fy),(s.tx,s.ty)]:=by
 unfold turnsOf
 rw[List.take_add_one,h]
 simp
theorem QT (ss:List fJ):(turnsOf ss).length=2*ss.length:=by
 unfold turnsOf
 induction ss with
 | nil=>rfl
 | cons s ss ih=>simp[ih];omega
theorem H7 (n:Nat)(M:Nat->TypeId->Prop)(LL:List SL)(O:Option Addr)(c B:Nat)(w:World)(hM:∀b T,M b T->b<w.heap.size\/T≠180)(hB:w.heap[B]?=some (.cells #[.slice O LL.length c] 241 (0,0)))
  (hr:Rd w w.heap.size 1 O (LL.map fun x=>[x.val])) (hin:∀x∈LL,Rd w w.heap.size 6 x.A (x.ss.map fJ.cells)) (hl:LL.length<=10) (hs:∀x∈LL,x.ss.length<=1000) (hok:∀s∈LL.flatMap SL.ss,s.ok=true) :
  SeqStopsK Fence.wide n Tryz.prog 172 #[.pointer (some ⟨B,0,none⟩)] Dir.enc (gW M) (fun xs=>xs.map Subtype.val=turnsOf (LL.flatMap SL.ss)) (fun pre=>∃rest,turnsOf (LL.flatMap SL.ss)=pre.map Subtype.val++rest) (2*(LL.flatMap SL.ss).length) w:=by
 intro l J Jx W hW hJ hJx hY h0
 have hmx:=aP
 have HW:=hide (Grew.of_below hW)
 have HR:=hide (hr.up HW.out)
 have HI:Hid (∀x∈LL,Rd W W.heap.size 6 x.A (x.ss.map fJ.cells)):=hide fun x hx=>(hin x hx).up HW.out
 have HS:=hide hs
 have HK:=hide hok
 have c0:W.cell? ⟨B,0,none⟩=some (.slice O LL.length c):=by rw[ag ((hW.block B (au hB)).trans hB)];rfl
 have hMW:∀b,M b 180->b<W.heap.size:=fun b hb=>(hM b _ hb).elim (fun h=>Nat.lt_of_lt_of_le h hW.size) (fun h=>absurd rfl h)
 have HM:=hide hMW
 have HJ:=hide hJ
 have HJx:=hide hJx
 have HY:=hide hY
 have H0:=hide h0
 clear hr hin hs hok hM hMW hJ hJx hY h0 hW hB
 refine callsIn_of_wp Tryz.func172 rfl trivial ?_ rfl
 simp only[Tryz.ntmps172,List.size_toArray,List.length_cons,List.length_nil,Nat.reduceAdd,Nat.reduceSub,Array.replicate_succ,Array.replicate_zero,List.push_toArray,List.append_toArray,List.nil_append,List.cons_append]
 gi_wp2_with fail
 refine⟨trivial,(fun h=>by cases h),?_⟩
 refine (callsIn_wide.2 (O4 LL O c W HR.out HI.out hl HS.out)).mono ?_
 rintro e W1 ⟨v,rfl,hown,hg⟩
 have h1:J [] W1:=HJ.out _ _ _ none H0.out (hg.grownBy none) (fun r hr=>by cases hr)
 have hn:(LL.flatMap SL.ss).length<=10000:=by
  have:=yS HS.out LL.length
  rw[Kr] at this
  omega
 have H1:=hide h1
 have HG:=hide hg
 clear h1 hg H0
 generalize hall:LL.flatMap SL.ss=ss at *
 have HA:=hide hall
 clear hall
 rcases hown.2 with⟨rfl,h0⟩|⟨g,cap,cur,rfl,hb,hgg,hnc,hmc,hcs,ht⟩
 ·have hss:ss=[]:=List.length_eq_zero_iff.1 h0
  subst hss
  dsimp only
  gi_wp2
  gi_loopw [8] (fun i wr=>i=.int .i64 0/\J [] wr) (fun _ _=>0)
  case atStart=>exact⟨rfl,H1.out⟩
  case round =>
   obtain⟨rfl,hJ⟩:=hrel
   gi_wp2
   go_end0
   exact⟨⟨_,rfl⟩,.inl ⟨[],by rw[HA.out];rfl,hJ⟩⟩
 ·dsimp only
  have HO:=hide hown
  have HT:=hide ht
  have MQ:=hide hgg
  unfold maxLen at hmc
  have ajz:=au hgg
  clear hown ht hgg hcs hnc
  gi_wp2_with fail
  gi_loopw [8] (fun i wr=>∃ (k:Nat) (pre:List Dir),k<=ss.length/\i=.int .i64 k/\pre.map Subtype.val=turnsOf (ss.take k)/\J pre wr/\wr.heap[g]?=some (.cells cur 180 (0,0))/\W.heap.size<=wr.heap.size) (fun i _=>ss.length-(intOf i).toNat)
  case atStart=>exact⟨0,[],by omega,rfl,rfl,H1.out,MQ.out,by omega⟩
  case round =>
   obtain⟨k,pre,hk,rfl,hpre,hJ,hgk,hsz⟩:=hrel
   have HP:=hide hpre
   have lV:pre.length=2*k:=by
    have:=congrArg List.length hpre
    rw[List.length_map,QT,List.length_take] at this
    omega
   have O1:=hide lV
   clear hpre lV
   by_cases hlt:k<ss.length
   ·obtain⟨s,hs⟩:∃s,ss[k]?=some s:=⟨_,List.getElem?_eq_getElem hlt⟩
    have Ja:=HK.out s (List.mem_of_getElem? hs)
    have hcell:∀j v,s.cells[j]?=some v->wr.cell? ⟨g,k*6+j,none⟩=some v:=by
     intro j v hv
     have hj:j<6:=(List.getElem?_eq_some_iff.1 hv).1
     have h2:=(ig fJ.cells 6 Px ss k j v hj).2 ⟨s,hs,hv⟩
     rw[<-HT.out,List.getElem?_take] at h2
     rw[ag hgk]
     split at h2
     ·simpa using h2
     ·cases h2
    have c0:=hcell 0 _ rfl
    have c1:=hcell 1 _ rfl
    have c2:=hcell 2 _ rfl
    have c3:=hcell 3 _ rfl
    have c4:=hcell 4 _ rfl
    have c5:=hcell 5 _ rfl
    simp only[Nat.add_zero] at c0
    have agC:=au hgk
    have Ul:=hide hgk
    have HS2:=hide hs
    clear hcell hgk hs
    have hix:=aO (cap:=cap) (A:=some ⟨g,0,none⟩) Tryz.underlying63 Tryz.sizeOf180 rfl hlt
    simp only[Nat.zero_add] at hix
    have d1:sZ s.fx s.fy=true:=by simp[fJ.ok,yO] at Ja;exact Ja.1.1.1
    have d2:sZ s.tx s.ty=true:=by simp[fJ.ok,yO] at Ja;exact Ja.1.1.2
    have hJ2:J pre (wr.alloc (.cells #[.int .i64 s.fx,.int .i64 s.fy,.int .i64 s.tx,.int .i64 s.ty,.int .i64 s.jA,.int .i64 s.U5] 180)):=HJ.out _ _ _ none hJ (World.grownBy_alloc _ _ _) (fun r hr=>by cases hr)
    obtain⟨x1,hx1⟩:∃x:Dir,x.1=(s.fx,s.fy):=⟨⟨_,d1⟩,rfl⟩
    obtain⟨x2,hx2⟩:∃x:Dir,x.1=(s.tx,s.ty):=⟨⟨_,d2⟩,rfl⟩
    have e1:x1.enc=#[pt s.fx s.fy]:=by simp[Dir.enc,hx1]
    have e2:x2.enc=#[pt s.tx s.ty]:=by simp[Dir.enc,hx2]
    have hA1:∃rest,turnsOf ss=(pre++[x1]).map Subtype.val++rest:=by
     refine⟨(s.tx,s.ty)::turnsOf (ss.drop (k+1)),?_⟩
     rw[List.map_append,HP.out,List.map_singleton,hx1,List.append_assoc]
     have:=List.take_append_drop (k+1) ss
     conv=>lhs;rw[<-this]
     show turnsOf _=_
     unfold turnsOf at *
     rw[List.flatMap_append,List.take_add_one,HS2.out]
     simp
    have hA2:((pre++[x1])++[x2]).map Subtype.val=turnsOf (ss.take (k+1)):=by
     rw[MW HS2.out,List.map_append,List.map_append,HP.out,List.map_singleton,List.map_singleton,hx1,hx2,List.append_assoc]
     rfl
    have hA3:∃rest,turnsOf ss=((pre++[x1])++[x2]).map Subtype.val++rest:=by
     refine⟨turnsOf (ss.drop (k+1)),?_⟩
     rw[hA2]
     unfold turnsOf
     rw[<-List.flatMap_append,List.take_append_drop]
    have HA1:=hide hA1
    have HA2:=hide hA2
    have HA3:=hide hA3
    clear hA1 hA2 hA3 hx1 hx2 d1 d2
    obtain⟨Zp,YB,ZX,ZR,hy1,hR1⟩:=HY.out pre x1 _ hJ2 (by rw[O1.out];omega)
    rw[e1] at hy1
    have HR1:=hide hR1
    have akg:=hide Ja
    clear hR1 Ja hJ hJ2 e1
    have hnM:∀b,W.heap.size<=b->¬ M b 180:=fun b hb hm=>by have:=HM.out b hm;omega
    have hkp:=Ul.out
    gi_wp2_with fail
    refine⟨(fun h=>by cases h),?_⟩
    refine HR1.out.mono ?_
    rintro e W3 (⟨rfl,hJ3,hk3⟩|⟨rfl,hJx3⟩)
    ·have hbox:=hk3 _ _ _ _ (hnM _ hsz) (heap_alloc_new wr _)
     have hrow:=hk3 _ _ _ _ (hnM _ hb) ((heap_alloc_old wr _ agC).trans Ul.out)
     have b2:W3.cell? ⟨wr.heap.size,2,none⟩=some (.int .i64 s.tx):=ag hbox 2
     have b3:W3.cell? ⟨wr.heap.size,3,none⟩=some (.int .i64 s.ty):=ag hbox 3
     have hW3:=au hbox
     have hsz3:W.heap.size<=W3.heap.size:=by omega
     obtain⟨fn2,tm2,as2,bo2,hy2,hR2⟩:=HY.out _ x2 _ hJ3 (by rw[List.length_append,O1.out];simp;omega)
     rw[e2] at hy2
     have HR2:=hide hR2
     have Ac:=hide hrow
     clear hR2 hrow hbox hk3 hJ3 e2 hkp hy1 hnM
     dsimp only
     gi_wp2_with fail
     refine⟨(fun h=>by cases h),?_⟩
     refine HR2.out.mono ?_
     have hnM:∀b,W.heap.size<=b->¬ M b 180:=fun b hb hm=>by have:=HM.out b hm;omega
     rintro e W4 (⟨rfl,hJ4,hk4⟩|⟨rfl,aeP⟩)
     ·have hrow4:=hk4 _ _ _ _ (hnM _ hb) Ac.out
      have afp:=hide hrow4
      have HJ4:=hide hJ4
      have agj:W.heap.size<=W4.heap.size:=by have:=au hrow4;omega
      clear hrow4 hk4 hJ4 hy2 hnM b2 b3
      dsimp only
      gi_wp2_with fail
      go_roundw
      case rel=>exact⟨k+1,pre++[x1]++[x2],by omega,by go_num,HA2.out,HJ4.out,afp.out,agj⟩
      case measure=>simp[intOf];omega
     ·have HX:=hide aeP
      clear aeP hnM
      dsimp only
      gi_wp2_with fail
      refine bodyPost_ret (results_none rfl _ _ _) rfl ?_
      exact⟨⟨_,rfl⟩,.inr ⟨_,by rw[HA.out];exact HA3.out,HX.out⟩⟩
    ·have HX:=hide hJx3
     clear hJx3 hnM hkp
     dsimp only
     gi_wp2_with fail
     refine⟨fun _ h=>(by cases h),?_⟩
     gi_wp2_with fail
     refine bodyPost_ret (results_none rfl _ _ _) rfl ?_
     exact⟨⟨_,rfl⟩,.inr ⟨_,by rw[HA.out];exact HA1.out,HX.out⟩⟩
   ·obtain rfl:k=ss.length:=by omega
    gi_wp2
    go_end0
    exact⟨⟨_,rfl⟩,.inl ⟨pre,by rw[HP.out,List.take_length,HA.out],hJ⟩⟩
def lu (sa sb:List fJ)(jA:Int)(v:Int×Int):Bool := !((tY sa v.1 v.2).1==jA&&((tY sb v.1 v.2).1 != jA||decide ((tY sb v.1 v.2).2<(tY sa v.1 v.2).2)))
def uZ (jA:Int):Bool:=decide (1<=jA/\jA<=3)
def iL (sa sb:List fJ)(jA:Int):Bool×Int:=if (fK sa&&fK sb&&uZ jA)=true then ((turnsOf (sa++sb)).all (lu sa sb jA),0) else (false,1)
theorem XX (sa sb:List fJ)(A A':Option Addr)(c c':Nat)(jA:Int)(w:World)(hra:Rd w w.heap.size 6 A (sa.map fJ.cells))(hrb:Rd w w.heap.size 6 A' (sb.map fJ.cells))(hla:sa.length<=c)(hlb:sb.length<=c')(hc:sa.length<=100000000000000)(hc':sb.length<=100000000000000)
  (h:(fK sa&&fK sb&&uZ jA)=false) :
  Calls Tryz.prog 133 #[.slice A sa.length c,.slice A' sb.length c',.int .i64 jA] w (aC w (.tuple #[.bool false,.int .i64 1])):=by
 have hm:=aP
 cases h1:fK sa
 ·clear h
  go_enter Tryz.func133,Tryz.ntmps133
  go_wp2_with (go_at_call 89;refine aQ (ku sa A c _ (hra.up gw) hla hc) fun _ _=>?_;dsimp only;rw[h1])
  refine bodyPost_ret (v:=.tuple #[.bool false,.int .i64 1]) (by simp[results,Tryz.results133,go_sem]) rfl ?_
  exact aC.mk' rfl gw
 ·cases h2:fK sb
  ·clear h
   go_enter Tryz.func133,Tryz.ntmps133
   go_wp2_with fail
   refine (ku sa A c _ (hra.up gw) hla hc).mono ?_
   rintro e w' ⟨rfl,⟨_,_⟩,rfl⟩
   rw[h1]
   dsimp only
   go_wp2_with fail
   refine (ku sb A' c' _ (hrb.up gw) hlb hc').mono ?_
   rintro e w' ⟨rfl,⟨_,_⟩,rfl⟩
   rw[h2]
   dsimp only
   go_wp2_with fail
   refine bodyPost_ret (v:=.tuple #[.bool false,.int .i64 1]) (by simp[results,Tryz.results133,go_sem]) rfl ?_
   exact aC.mk' rfl gw
  ·have h3:uZ jA=false:=by rw[h1,h2] at h;simpa using h
   have h4:jA<1\/3<jA:=by simp[uZ] at h3;omega
   clear h h3
   rcases h4 with h4|h4
   ·have h5:decide (jA<1)=true:=by simpa using h4
    go_enter Tryz.func133,Tryz.ntmps133
    go_wp2_with fail
    refine (ku sa A c _ (hra.up gw) hla hc).mono ?_
    rintro e w' ⟨rfl,⟨_,_⟩,rfl⟩
    rw[h1]
    dsimp only
    go_wp2_with fail
    refine (ku sb A' c' _ (hrb.up gw) hlb hc').mono ?_
    rintro e w' ⟨rfl,⟨_,_⟩,rfl⟩
    rw[h2]
    dsimp only
    go_wp2_with fail
    refine bodyPost_ret (v:=.tuple #[.bool false,.int .i64 1]) (by simp[results,Tryz.results133,go_sem]) rfl ?_
    exact aC.mk' rfl gw
   ·have h5:decide (jA<1)=false:=by simp;omega
    go_enter Tryz.func133,Tryz.ntmps133
    go_wp2_with fail
    refine (ku sa A c _ (hra.up gw) hla hc).mono ?_
    rintro e w' ⟨rfl,⟨_,_⟩,rfl⟩
    rw[h1]
    dsimp only
    go_wp2_with fail
    refine (ku sb A' c' _ (hrb.up gw) hlb hc').mono ?_
    rintro e w' ⟨rfl,⟨_,_⟩,rfl⟩
    rw[h2]
    dsimp only
    go_wp2_with fail
    refine bodyPost_ret (v:=.tuple #[.bool false,.int .i64 1]) (by simp[results,Tryz.results133,go_sem]) rfl ?_
    exact aC.mk' rfl gw
abbrev Jp (sa sb:List fJ)(A A':Option Addr)(c c':Nat)(jA:Int):List Obj:=[.cells #[.slice A sa.length c] 63 (0,0),.cells #[.slice A' sb.length c'] 63 (0,0),.cells #[.int .i64 jA] 3 (0,0),.cells #[.bool false] 4 (0,0),.cells #[.int .i64 0] 31 (0,0)]
theorem TW (sa sb:List fJ)(A A':Option Addr)(c c':Nat)(jA:Int)(w:World)(hra:Rd w w.heap.size 6 A (sa.map fJ.cells))(hrb:Rd w w.heap.size 6 A' (sb.map fJ.cells))(hla:sa.length<=c)(hlb:sb.length<=c')(hc:sa.length<=100000000000000)(hc':sb.length<=100000000000000)
  (h1:fK sa=true) (h2:fK sb=true) (h3:1<=jA/\jA<=3) :
  Calls Tryz.prog 133 #[.slice A sa.length c,.slice A' sb.length c',.int .i64 jA] w (aC w (.tuple #[.bool ((turnsOf (sa++sb)).all (lu sa sb jA)),.int .i64 0])):=by
 have hm:=aP
 have HRA:=hide hra
 have HRB:=hide hrb
 clear hra hrb
 obtain⟨aeo,hl1⟩:=XV h1
 obtain⟨aen,hl2⟩:=XV h2
 have HOA:=hide aeo
 have HOB:=hide aen
 clear aeo aen
 have h5:decide (jA<1)=false:=by simp;omega
 have h6:decide (3<jA)=false:=by simp;omega
 refine (callsIn_wide (n:=9)).1 ?_
 refine callsIn_of_wp_marks Tryz.func133 rfl trivial ?_ rfl
 simp only[Tryz.ntmps133,List.size_toArray,List.length_cons,List.length_nil,Nat.reduceAdd,Nat.reduceSub,Array.replicate_succ,Array.replicate_zero,List.push_toArray,List.append_toArray,List.nil_append,List.cons_append]
 gi_wp2_with fail
 refine⟨trivial,?_⟩
 refine (callsIn_wide.2 (ku sa A c _ (HRA.out.up gw) hla hc)).mono ?_
 rintro e w' ⟨rfl,⟨_,_⟩,rfl⟩
 rw[h1]
 dsimp only
 gi_wp2_with fail
 refine⟨trivial,?_⟩
 refine (callsIn_wide.2 (ku sb A' c' _ (HRB.out.up gw) hlb hc')).mono ?_
 rintro e W1 ⟨rfl,hg⟩
 rw[h2]
 obtain⟨hbx,hgw⟩:=Bx.lT (Jp sa sb A A' c c' jA) w
 have hg1:Grew (List.foldl World.alloc w (Jp sa sb A A' c c' jA)) W1:=by
  refine Grew.trans ?_ hg
  dsimp only[Jp,List.foldl]
  exact gw
 have hb1:=hbx.grew hg1
 have hw1:=hgw.trans hg1
 clear hg hgw hg1 hbx
 have c0:W1.cell? ⟨w.heap.size,0,none⟩=_:=(hb1.box 0 rfl).cell
 have c1:W1.cell? ⟨w.heap.size+1,0,none⟩=_:=(hb1.box 1 rfl).cell
 have c2:W1.cell? ⟨w.heap.size+1+1,0,none⟩=_:=(hb1.box 2 rfl).cell
 have HB1:=hide hb1
 have HW1:=hide hw1
 clear hb1 hw1
 dsimp only
 gi_wp2_with fail
 refine⟨trivial,?_⟩
 refine (callsIn_wide.2 (QU _ _ _ _)).mono ?_
 rintro e w' ⟨rfl,rfl⟩
 dsimp only
 gi_wp2_with fail
 refine dJ ?_
 intro a0 W0 ha hW
 have hg0:Grew w W0:=by rw[<-hW];exact (HW1.out.alloc _).alloc _
 have hb0:=HB1.out.grew (W':=W0) (by rw[<-hW];exact gw)
 have hsz:w.heap.size<=W0.heap.size:=hg0.below.size
 have hz:W0.heap.size=W1.heap.size+2:=by rw[<-hW];simp
 have hk0:W0.heap[W1.heap.size]?=some (.cells #[.slice A sa.length c,.slice A' sb.length c'] 63 (0,0)):=by
  rw[<-hW]
  exact (heap_alloc_old _ _ (by simp)).trans (heap_alloc_new _ _)
 have hk1:W0.heap[W1.heap.size+1]?=some (.cells #[.slice (some ⟨W1.heap.size,0,none⟩) 2 2] 241 (0,0)):=by
  have:=heap_alloc_new (W1.alloc (.cells #[.slice A sa.length c,.slice A' sb.length c'] 63 (0,0))) (.cells #[.slice (some ⟨W1.heap.size,0,none⟩) 2 2] 241 (0,0))
  rw[World.mG] at this
  rw[<-hW]
  exact this
 have h5z:w.heap.size+4<W0.heap.size:=(hb0.box 4 rfl).lt
 clear hW c0 c1 c2
 have Zi:([⟨A,c,sa⟩,⟨A',c',sb⟩]:List SL).flatMap SL.ss=sa++sb:=by simp
 refine wpIn_rangeFunc_ownH (n:=9) rfl (by omega) (gf:=172) (lb:=#[.pointer (some ⟨W1.heap.size+1,0,none⟩)]) (by rw[<-ha];simp[Act.eval]) trivial (enters_of Tryz.func172 (by kernel_rfl) rfl)
  (H7 8 (fun b _=>b=w.heap.size+3\/b=w.heap.size+4) [⟨A,c,sa⟩,⟨A',c',sb⟩] (some ⟨W1.heap.size,0,none⟩) 2 (W1.heap.size+1) W0 (fun b _ hb=>.inl (by omega)) hk1
   (.inr ⟨_,_,rfl,by omega,fun k x hx j v hv=>by
    rw[ag hk0]
    match k,hx with
    | 0,hx=>injection hx with hx;subst hx;match j,hv with|0,hv=>exact hv
    | 1,hx=>injection hx with hx;subst hx;match j,hv with|0,hv=>exact hv⟩)
   (by intro x hx;simp at hx;rcases hx with rfl|rfl<;>first|exact HRA.out.up hg0|exact HRB.out.up hg0) (by simp) (by intro x hx;simp at hx;rcases hx with rfl|rfl<;>(simp;omega)) (by rw[Zi];intro s hs;rcases List.mem_append.1 hs with h|h<;>first|exact HOA.out s h|exact HOB.out s h))
  (fun h k=>h.trans k) gW.bk (Below.refl _ _) (fun _=>rfl)
  (fun pre W=>(Below w.heap.size w W/\Bx W w.heap.size (Jp sa sb A A' c c' jA))/\∀v∈pre,lu sa sb jA v.1=true)
  (fun q pre W=>((Below w.heap.size w W/\Boxed W (w.heap.size+3) 4 (.bool false))/\Boxed W (w.heap.size+4) 31 (.int .i64 0))/\q=.ret/\∃v∈pre,lu sa sb jA v.1=false)
  (OwnFrom.and (OwnFrom.and (ownFrom_below (Nat.le_refl _) hsz) (Bx.own h5z)) (ownFrom_pure _))
  (fun q=>OwnFrom.and (OwnFrom.and (OwnFrom.and (ownFrom_below (Nat.le_refl _) hsz) (Own.from (boxed_own _ _ _) _)) (Own.from (boxed_own _ _ _) _)) (ownFrom_pure _))
  ⟨⟨hg0.below,hb0⟩,fun v hv=>by cases hv⟩
  (fun x a' W=>∃B,W.heap[B]?=some (.cells #[.int .i64 x.1.1,.int .i64 x.1.2] 183 (0,0))/\a'={ tmps:=(a0.tmps.setIfInBounds 31 (pt x.1.1 x.1.2)).setIfInBounds 8 (.pointer (some ⟨B,0,none⟩)),defers:=[] })
  (fun x a'=>by
   rintro s X Y row ⟨B,h1,h2⟩ hg hr
   exact⟨B,fG h1 hg (fun r e=>(hr r e).2),h2⟩)
  ?assign ?body ?done ?stop
 case assign =>
  rintro l pre x W K ⟨⟨hB,hb⟩,hp⟩ hK
  rw[show x.enc=#[pt x.1.1 x.1.2] from rfl,L9]
  subst ha
  simp only[List.setIfInBounds_toArray,List.set_cons_succ,List.set_cons_zero] at hK ⊢
  have wu:=hide hK
  clear hK
  gi_wp2_with fail
  exact wu.out _ _ ((KeepsOthers.alloc _ _).from _) (gW.grew (Grew.alloc (Grew.refl _) _)) ⟨⟨hB.alloc hB.size _,hb.grew (Grew.alloc (Grew.refl _) _)⟩,hp⟩ ⟨W.heap.size,heap_alloc_new _ _,rfl⟩
 case body =>
  rintro l pre x a' W hl _ ⟨⟨hB,hb⟩,hp⟩ ⟨B,hx,rfl⟩ hlt
  subst ha
  have c0:W.cell? ⟨w.heap.size,0,none⟩=_:=(hb.box 0 rfl).cell
  have c1:W.cell? ⟨w.heap.size+1,0,none⟩=_:=(hb.box 1 rfl).cell
  have c2:W.cell? ⟨w.heap.size+1+1,0,none⟩=_:=(hb.box 2 rfl).cell
  have c3:W.cell? ⟨B,0,none⟩=some _:=ag hx 0
  have c4:W.cell? ⟨B,1,none⟩=some _:=ag hx 1
  have hBl:=au hx
  have h4l:=(hb.box 4 rfl).lt
  have l0:w.heap.size<W.heap.size:=by omega
  have l1:w.heap.size+1<W.heap.size:=by omega
  have l2:w.heap.size+1+1<W.heap.size:=by omega
  have l3:w.heap.size+1+1+1<W.heap.size:=by omega
  have l4:w.heap.size+1+1+1+1<W.heap.size:=by omega
  have g3:W.cell? ⟨w.heap.size+1+1+1,0,none⟩=_:=(hb.box 3 rfl).cell
  have g4:W.cell? ⟨w.heap.size+1+1+1+1,0,none⟩=_:=(hb.box 4 rfl).cell
  have f3:W.frozen? ⟨w.heap.size+1+1+1,0,none⟩=_:=(hb.box 3 rfl).frozen
  have f4:W.frozen? ⟨w.heap.size+1+1+1+1,0,none⟩=_:=(hb.box 4 rfl).frozen
  have ahl:=hide (HRA.out.up (Grew.of_below hB))
  have ahj:=hide (HRB.out.up (Grew.of_below hB))
  have HP:=hide hp
  have HB:=hide hB
  have Hb:=hide hb
  clear hp hB hb hx hlt
  obtain⟨⟨vx,vy⟩,hv⟩:=x
  have hbd:=acF hv
  dsimp only at hbd c3 c4 HP
  simp only[List.setIfInBounds_toArray,List.set_cons_succ,List.set_cons_zero]
  gi_wp2_with fail
  refine dn 10 [⟨6,8,9,224,.agg #[.int .i64 0,.int .i64 0]⟩,⟨7,9,10,224,.agg #[.int .i64 0,.int .i64 0]⟩] [] hm (hZ:=(qI.cons Tryz.zeroValue224 Tryz.sizeOf224 (qI.cons Tryz.zeroValue224 Tryz.sizeOf224 qI.nil))) (h:=?_)
  repeat (refine ax (fun K hK=>?_);go_simp;first|(refine hK _ ?_;clear hK K)|(apply Exists.intro;refine⟨fun _=>?_,hK _ ?_⟩;(go_at_call 151;first|with_reducible exact Gm sa A c _ _ _ (ahl.out.up gw) hla hc HOA.out hbd.1 hbd.2|with_reducible exact Gm sb A' c' _ _ _ (ahj.out.up gw) hlb hc' HOB.out hbd.1 hbd.2);clear hK K))
  refine dZ ?_
  refine⟨(ja.cons (by rfl) (by simp[bV,Act.eval,Value.cells,Value.oneCell']) (ja.cons (by rfl) (by simp[bV,Act.eval,Value.cells,Value.oneCell']) ja.nil)),nT.nil,?_⟩
  rintro psq FI Wq iT F6 F8
  obtain rfl:FI=[]:=F8
  obtain⟨p0,_,rfl,hp0,hb0,hn0,p1,_,rfl,hp1,hb1,hn1,rfl⟩:=F6
  simp only[putAll,putB,Act.put,aG]
  simp[bV,Act.eval,Value.cells] at hb0
  have xY:Wq.cell? ⟨p0,0,none⟩=some _:=ag hb0 0
  have xX:Wq.cell? ⟨p0,1,none⟩=some _:=ag hb0 1
  have Yl:=bM hb0
  have Yk:=au hb0
  simp[bV,Act.eval,Value.cells] at hb1
  have EE:Wq.cell? ⟨p1,0,none⟩=some _:=ag hb1 0
  have ED:Wq.cell? ⟨p1,1,none⟩=some _:=ag hb1 1
  have gf1:=bM hb1
  have gl1:=au hb1
  have gn:p0≠p1:=by simpa using hn0
  have gm:p1≠p0:=fun e=>gn e.symm
  have Xa:=hide hp0
  have gp1:=hide hp1
  clear hb0 hn0 hp0 hb1 hn1 hp1
  have oc:=iW iT
  have of:=jw iT
  have ol:=rH iT
  replace iT:=hide iT
  gi_wp2_with fail
  all_goals have oU:=Hb.out.grew iT.out
  all_goals have hB9:=HB.out.trans (iT.out.below.mono HB.out.size)
  all_goals first
   |(refine⟨iT.out.aS _,gW.grew iT.out,⟨hB9,oU⟩,fun v hv'=>?_⟩
     rcases List.mem_append.1 hv' with h|h
     ·exact HP.out v h
     ·obtain rfl:=List.mem_singleton.1 h
      simp[lu]
      omega)
   |(refine⟨(iT.out.aS _).trans ((KeepsFrom.setCell _ _ _ _).trans (KeepsFrom.setCell _ _ _ _)),⟨⟨(hB9.setCell (p:=⟨w.heap.size+1+1+1,0,none⟩) (by simp;omega) _).setCell (p:=⟨w.heap.size+1+1+1+1,0,none⟩) (by simp;omega) _,((oU.box 3 rfl).set _).other (by omega) _⟩,((oU.box 4 rfl).other (by omega) _).set _⟩,rfl,⟨⟨(vx,vy),hv⟩,List.mem_append_right _ (List.mem_singleton.2 rfl),?_⟩⟩
     simp[lu]
     omega)
 case done =>
  subst ha
  rintro D xs W hD hS ⟨⟨hB,hb⟩,hp⟩ hK
  have b3:Boxed W (w.heap.size+1+1+1) _ _:=hb.box 3 rfl
  have b4:Boxed W (w.heap.size+1+1+1+1) _ _:=hb.box 4 rfl
  have c3:=b3.cell
  have f3:=b3.frozen
  have c4:=b4.cell
  have f4:=b4.frozen
  have HB:=hide hB
  have HS:=hide hS
  have HP:=hide hp
  clear hB hb hS hp b3 b4
  gi_wp2_with fail
  have hK2:=((KeepsOthers.setCell W ⟨w.heap.size+1+1+1,0,none⟩ (.bool true)).trans (KeepsOthers.setCell _ ⟨w.heap.size+1+1+1+1,0,none⟩ (.int .i64 0))).same D _ hK rfl
  refine⟨by simp,.inl ⟨_,_,rfl,run_takeDeferred hK2,?_⟩⟩
  have hb5:=((HB.out.setCell (p:=⟨w.heap.size+1+1+1,0,none⟩) (by simp;omega) (.bool true)).setCell (p:=⟨w.heap.size+1+1+1+1,0,none⟩) (by simp;omega) (.int .i64 0)).trans (belowK_b (w:=w) (Nat.le_refl _) _ D _ (.deferred none) (by omega) hK2 rfl rfl)
  have e3:(((W.setCell ⟨w.heap.size+1+1+1,0,none⟩ (.bool true)).setCell ⟨w.heap.size+1+1+1+1,0,none⟩ (.int .i64 0)).putObj D (.deferred none)).cell? ⟨w.heap.size+1+1+1,0,none⟩=some (.bool true):=by
   rw[bG (by omega)]
   go_simp
  have e4:(((W.setCell ⟨w.heap.size+1+1+1,0,none⟩ (.bool true)).setCell ⟨w.heap.size+1+1+1+1,0,none⟩ (.int .i64 0)).putObj D (.deferred none)).cell? ⟨w.heap.size+1+1+1+1,0,none⟩=some (.int .i64 0):=by
   rw[bG (by omega)]
   go_simp
  refine⟨.tuple #[.bool true,.int .i64 0],by simp[results,Tryz.results133,go_sem,e3,e4],?_⟩
  refine aC.mk' (yR (dU ?_) rfl) (Grew.of_below hb5)
  rw[<-Zi,<-HS.out,List.all_map]
  symm
  rw[List.all_eq_true]
  exact fun v hv=>HP.out v hv
 case stop =>
  subst ha
  rintro D q pre W hD ⟨rest,hr⟩ ⟨⟨⟨hB,hb1⟩,hb2⟩,rfl,hp⟩ hK
  have c3:W.cell? ⟨w.heap.size+1+1+1,0,none⟩=_:=hb1.cell
  have c4:W.cell? ⟨w.heap.size+1+1+1+1,0,none⟩=_:=hb2.cell
  have HB:=hide hB
  have HS:=hide hr
  have HP:=hide hp
  clear hB hb1 hb2 hr hp
  gi_wp2_with fail
  refine⟨by simp,.inl ⟨_,_,rfl,run_takeDeferred hK,?_⟩⟩
  have hb5:=HB.out.trans (belowK_b (w:=w) (Nat.le_refl _) _ D _ (.deferred none) (by omega) hK rfl rfl)
  have e3:=(bG (W:=W) (D:=D) (i:=0) (o:=.deferred none) (b:=w.heap.size+1+1+1) (by omega)).trans c3
  have e4:=(bG (W:=W) (D:=D) (i:=0) (o:=.deferred none) (b:=w.heap.size+1+1+1+1) (by omega)).trans c4
  refine⟨.tuple #[.bool false,.int .i64 0],by simp[results,Tryz.results133,go_sem,e3,e4],?_⟩
  refine aC.mk' (yR (dU ?_) rfl) (Grew.of_below hb5)
  rw[<-Zi,HS.out,List.all_append,List.all_map]
  symm
  rw[Bool.and_eq_false_iff]
  left
  rw[List.all_eq_false]
  obtain⟨v,hv,hv'⟩:=HP.out
  exact⟨v,hv,by simp[hv']⟩
theorem BA (sa sb:List fJ)(A A':Option Addr)(c c':Nat)(jA:Int)(w:World)(hra:Rd w w.heap.size 6 A (sa.map fJ.cells))(hrb:Rd w w.heap.size 6 A' (sb.map fJ.cells))(hla:sa.length<=c)(hlb:sb.length<=c')(hc:sa.length<=100000000000000)(hc':sb.length<=100000000000000) :
  Calls Tryz.prog 133 #[.slice A sa.length c,.slice A' sb.length c',.int .i64 jA] w (aC w (.tuple #[.bool (iL sa sb jA).1,.int .i64 (iL sa sb jA).2])):=by
 unfold iL
 cases h:fK sa&&fK sb&&uZ jA
 ·exact XX sa sb A A' c c' jA w hra hrb hla hlb hc hc' h
 ·rw[Bool.and_eq_true,Bool.and_eq_true] at h
  exact TW sa sb A A' c c' jA w hra hrb hla hlb hc hc' h.1.1 h.1.2 (by simpa[uZ] using h.2)
theorem KU (sa sb:List fJ)(jA:Int):((iL sa sb jA).2=0/\(fK sa&&fK sb&&uZ jA)=true)\/iL sa sb jA=(false,1):=by
 unfold iL
 split
 ·exact .inl ⟨rfl,by assumption⟩
 ·exact .inr rfl
def qQ (sa sb:List fJ):Bool×Int:=((iL sb sa 1).2==0 && !(iL sb sa 1).1,(iL sb sa 1).2)
theorem TQ (sa sb:List fJ)(A A':Option Addr)(c c':Nat)(w:World)(hra:Rd w w.heap.size 6 A (sa.map fJ.cells))(hrb:Rd w w.heap.size 6 A' (sb.map fJ.cells))(hla:sa.length<=c)(hlb:sb.length<=c')(hc:sa.length<=100000000000000)(hc':sb.length<=100000000000000) :
  Calls Tryz.prog 105 #[.slice A sa.length c,.slice A' sb.length c'] w (aC w (.tuple #[.bool (qQ sa sb).1,.int .i64 (qQ sa sb).2])):=by
 have hm:=aP
 have key:=BA sb sa A' A c' c 1 w hrb hra hlb hla hc' hc
 unfold qQ
 rcases KU sb sa 1 with⟨h,_⟩|h
 ·cases h2:(iL sb sa 1).1
  all_goals
   rw[h]
   go_enter Tryz.func105,Tryz.ntmps105
   go_wp2_with (go_at_call 133;refine aQ (BA sb sa A' A c' c 1 _ (hrb.up gw) (hra.up gw) hlb hla hc' hc) fun _ _=>?_;dsimp only;rw[h,h2])
   first|go_ret2|(refine bodyPost_ret (v:=_) (by simp[results,Tryz.results105,go_sem];rfl) rfl ?_)
   exact aC.mk' (by simp) gw
 ·rw[h]
  go_enter Tryz.func105,Tryz.ntmps105
  go_wp2_with (go_at_call 133;refine aQ (BA sb sa A' A c' c 1 _ (hrb.up gw) (hra.up gw) hlb hla hc' hc) fun _ _=>?_;dsimp only;rw[h])
  first|go_ret2|(refine bodyPost_ret (v:=_) (by simp[results,Tryz.results105,go_sem];rfl) rfl ?_)
  exact aC.mk' (by simp) gw
end Go.Proofs.YtlkgjmnjhifehaaGreat
