/- slices.MinFunc and slices.MaxFunc at places; package poly: Box. Package span: what package poly and its laws need of it. Package poly: Box. Package poly: Rect. -/
import Derived.Test.YtlkgjmnjhifehaaGreatPgX
import Derived.Test.YtlkgjmnjhifehaaGreatPla
set_option linter.unusedSimpArgs false
set_option linter.unusedVariables false
set_option maxHeartbeats 4000000
set_option maxRecDepth 100000
namespace Go.Proofs.YtlkgjmnjhifehaaGreat
open Go.RowKit Go.Sort
attribute [local go_sem] dA steadyUpon
attribute [local go_sem ↓] bU bI aX aW aV aU aT
attribute [local go_sem] bH aK aJ size_grow tape_grow cell?_grow' aF aB grow_grow bW aY dR cO bY bK aN cZ aZ bZ bJ
attribute [local irreducible] wpSteady
def afc (w:World)(r:List Pt×Int)(e:Ending)(w':World):Prop:=∃v,e=.returned (.tuple #[v,.int .i64 r.2])/\w'.ownsRow w.heap.size 28 2 v r.1.length (r.1.flatMap dY)/\Grew w w'
theorem qP {W:World}{b:Nat}{x y v u:Value}{T:TypeId}{fr:Nat×Nat}(h:W.heap[b]?=some (.cells #[x,y] T fr)):((W.setCell ⟨b,0,none⟩ v).setCell ⟨b,1,none⟩ u).heap[b]?=some (.cells #[v,u] T fr):=by
 have h1:=au h
 simp[World.setCell,Array.getElem?_modify,h]
def selTo (p:Pt->Pt->Bool)(ps:List Pt):Nat->Pt
 | 0=>ah ps 0
 | k+1=>if p (ah ps (k+1)) (selTo p ps k)=true then ah ps (k+1) else selTo p ps k
def NS (a b:Pt):Int:=sg (a.2-b.2)
def minS (x m:Pt):Bool:=decide (ord x m<0)
def maxS (x m:Pt):Bool:=decide (0<ord x m)
def rJ (x m:Pt):Bool:=decide (NS x m<0)
def rM (x m:Pt):Bool:=decide (0<NS x m)
theorem QA (a b:Pt)(w:World) :
  Calls Tryz.prog 171 #[pt a.1 a.2,pt b.1 b.2] w (aC w (.int .i64 (NS a b))):=by
 have k1:=hide (fun W=>ik a.2 b.2 W)
 obtain⟨a1,a2⟩:=a
 obtain⟨b1,b2⟩:=b
 go_enter Tryz.func171,Tryz.ntmps171
 go_wp2_with (go_at_call 65;with_reducible refine aQ (k1.out _) fun _ _=>?_;dsimp only)
 go_ret
 exact aC.mk' rfl gw
theorem VQ (ps:List Pt)(A:Option Addr)(c:Nat)(w:World)(hr:Rd w w.heap.size 2 A (ps.map dY))(h0:0<ps.length)(hl:ps.length<=100000000000000) :
  Calls Tryz.prog 169 #[.slice A ps.length c,.func (.func 108) #[] #[]] w (aC w (pt (selTo minS ps (ps.length-1)).1 (selTo minS ps (ps.length-1)).2)):=by
 have hm:=aP
 have hp:=gV h0
 obtain⟨p,hpp⟩:∃p,ah ps 0=p:=⟨_,rfl⟩
 have HPP:=hide hpp
 rw[hpp] at hp
 obtain⟨b,off,hA,hb,g0,g1⟩:=ug hr hp
 rw[show off+0*2=off by omega] at g0 g1
 have hix0:=oI (cap:=c) Tryz.underlying62 Tryz.sizeOf28 hA.out h0
 have hn1:¬ (ps.length:Int)<1:=by omega
 have HR:=hide hr
 obtain⟨res,hres⟩:∃r,selTo minS ps (ps.length-1)=r:=⟨_,rfl⟩
 rw[hres]
 have rW:=hide hres
 obtain⟨p1,p2⟩:=p
 dsimp only at g0 g1
 clear hr hp hpp hres
 go_enter Tryz.func169,Tryz.ntmps169
 go_wp2_with fail
 refine fC ?_
 intro W0 hW
 have hg0:Grew w W0:=by rw[<-hW];exact gw
 have hb0:W0.heap[w.heap.size+1]?=some (.cells #[.int .i64 p1,.int .i64 p2] 28 (0,0)):=by rw[<-hW];exact az _ _ _ (by simp)
 have hz0:W0.heap.size=w.heap.size+2:=by rw[<-hW];simp
 have oU:W0.heap[w.heap.size]?=some (.cells #[.int .i64 0,.int .i64 0] 28 (0,0)):=by
  rw[<-hW]
  exact (heap_alloc_old _ _ (by simp)).trans (heap_alloc_new _ _)
 have lN:=hide hg0
 have HB0:=hide hb0
 have HB9:=hide oU
 clear hW hg0 hb0 oU hix0 g0 g1 hA hb
 go_loopw [6] (fun i wr=>∃k:Nat,1<=k/\k<=ps.length/\i=.int .i64 k/\W0.grownBy wr (some (w.heap.size+1))/\wr.heap[w.heap.size+1]?=some (.cells #[.int .i64 (selTo minS ps (k-1)).1,.int .i64 (selTo minS ps (k-1)).2] 28 (0,0))) (fun i _=>ps.length-(intOf i).toNat)
 case atStart=>exact⟨1,Nat.le_refl _,by omega,rfl,iC _ _,by rw[show selTo minS ps (1-1)=(p1,p2) from HPP.out];exact HB0.out⟩
 case round =>
  obtain⟨k,hk1,hk,rfl,hgr,hbx⟩:=hrel
  have hz:=hgr.size
  have hwr:Below w.heap.size w wr:=lN.out.below.grown hgr lN.out.below.size (fun j e=>by cases e;omega)
  have hrd:=HR.out.below hwr
  obtain⟨m,hm0⟩:∃m,selTo minS ps (k-1)=m:=⟨_,rfl⟩
  have c0:=ag hbx 0
  have c1:=ag hbx 1
  have f0:=bM hbx 0
  have f1:=bM hbx 1
  have lb:=au hbx
  have JH:=hide hgr
  have HWR:=hide hwr
  by_cases hlt:k<ps.length
  ·have hp:=gV hlt
   have hst:selTo minS ps (k+1-1)=if minS (ah ps k) m=true then ah ps k else m:=by
    rw[<-hm0,show k+1-1=(k-1)+1 by omega]
    show (if minS (ah ps (k-1+1)) (selTo minS ps (k-1))=true then ah ps (k-1+1) else selTo minS ps (k-1))=_
    rw[show k-1+1=k by omega]
   obtain⟨x,hx⟩:∃x,ah ps k=x:=⟨_,rfl⟩
   rw[hm0] at hbx c0 c1
   rw[hx] at hp hst
   obtain⟨b,off,hA,hb,g0,g1⟩:=ug hrd hp
   have hix:=aO (cap:=c) Tryz.underlying62 Tryz.sizeOf28 hA.out hlt
   have lbb:b<wr.heap.size:=by omega
   have hne:¬ b=w.heap.size+1:=by omega
   have kc:=hide (fun W=>AX x m W)
   obtain⟨x1,x2⟩:=x
   obtain⟨m1,m2⟩:=m
   dsimp only at g0 g1 c0 c1 kc
   have mF:=hide hbx
   have HST:=hide hst
   clear hp hx hm0 hrd hwr hgr hbx hst
   obtain⟨cv,hcv⟩:∃v,minS (x1,x2) (m1,m2)=v:=⟨_,rfl⟩
   have hcv2:=hcv
   unfold minS at hcv2
   rw[hcv] at HST
   clear hcv
   cases cv
   ·simp only[decide_eq_false_iff_not] at hcv2
    rw[if_neg (by simp)] at HST
    go_wp2_with fail
    refine ay 8 [] [] hm (h:=?_)
    repeat (refine ax (fun K hK=>?_);go_simp;first|(refine hK _ ?_;clear hK K)|(apply Exists.intro;refine⟨fun _=>?_,hK _ ?_⟩;(go_at_call 108;with_reducible exact kc.out _);clear hK K))
    refine lU fun nq osq=>?_
    try simp only[Act.put,aG]
    try dsimp only
    go_wp2_with fail
    go_roundw
    case rel=>exact⟨k+1,by omega,by omega,by go_num,pG JH.out _ _,by rw[HST.out];exact (heap_grow_old _ _ (by simpa[bU] using lb)).trans mF.out⟩
    case measure=>simp[intOf];omega
   ·simp only[decide_eq_true_eq] at hcv2
    rw[if_pos rfl] at HST
    go_wp2_with fail
    refine ay 8 [] [] hm (h:=?_)
    repeat (refine ax (fun K hK=>?_);go_simp;first|(refine hK _ ?_;clear hK K)|(apply Exists.intro;refine⟨fun _=>?_,hK _ ?_⟩;(go_at_call 108;with_reducible exact kc.out _);clear hK K))
    refine lU fun nq osq=>?_
    try simp only[Act.put,aG]
    try dsimp only
    go_wp2_with fail
    go_roundw
    case rel=>exact⟨k+1,by omega,by omega,by go_num,pG (jf (jf JH.out _ _) _ _) _ _,by rw[HST.out];exact (heap_grow_old _ _ (by simpa[bU] using lb)).trans (qP mF.out)⟩
    case measure=>simp[intOf];omega
  ·obtain rfl:k=ps.length:=by omega
   rw[rW.out] at hbx c0 c1
   have oU:=(hgr.block w.heap.size (by omega) (by simp)).trans HB9.out
   have r0:=ag oU 0
   have r1:=ag oU 1
   have rf0:=bM oU 0
   have rf1:=bM oU 1
   have lr:=au oU
   obtain⟨z1,z2⟩:=res
   dsimp only at c0 c1
   have e1:(wr.setCell ⟨w.heap.size,0,none⟩ (.int .i64 z1)).cell? ⟨w.heap.size,0,none⟩=some (.int .i64 z1):=by rw[World.cell?_setCell_same' _ _ _ (by rw[r0];rfl)]
   have e2:((wr.setCell ⟨w.heap.size,0,none⟩ (.int .i64 z1)).setCell ⟨w.heap.size,1,none⟩ (.int .i64 z2)).cell? ⟨w.heap.size,1,none⟩=some (.int .i64 z2):=ag (qP oU) 1
   clear hbx hgr hwr hrd oU hm0
   go_wp2_with fail
   refine bodyPost_ret (v:=pt z1 z2) (by simp[results,Tryz.results169,go_sem,e1,e2]) rfl ?_
   exact aC.mk' rfl (Grew.of_below ((HWR.out.setCell (p:=⟨w.heap.size,0,none⟩) (Nat.le_refl _) _).setCell (p:=⟨w.heap.size,1,none⟩) (Nat.le_refl _) _))
theorem VX (ps:List Pt)(A:Option Addr)(c:Nat)(w:World)(hr:Rd w w.heap.size 2 A (ps.map dY))(h0:0<ps.length)(hl:ps.length<=100000000000000) :
  Calls Tryz.prog 170 #[.slice A ps.length c,.func (.func 108) #[] #[]] w (aC w (pt (selTo maxS ps (ps.length-1)).1 (selTo maxS ps (ps.length-1)).2)):=by
 have hm:=aP
 have hp:=gV h0
 obtain⟨p,hpp⟩:∃p,ah ps 0=p:=⟨_,rfl⟩
 have HPP:=hide hpp
 rw[hpp] at hp
 obtain⟨b,off,hA,hb,g0,g1⟩:=ug hr hp
 rw[show off+0*2=off by omega] at g0 g1
 have hix0:=oI (cap:=c) Tryz.underlying62 Tryz.sizeOf28 hA.out h0
 have hn1:¬ (ps.length:Int)<1:=by omega
 have HR:=hide hr
 obtain⟨res,hres⟩:∃r,selTo maxS ps (ps.length-1)=r:=⟨_,rfl⟩
 rw[hres]
 have rW:=hide hres
 obtain⟨p1,p2⟩:=p
 dsimp only at g0 g1
 clear hr hp hpp hres
 go_enter Tryz.func170,Tryz.ntmps170
 go_wp2_with fail
 refine fC ?_
 intro W0 hW
 have hg0:Grew w W0:=by rw[<-hW];exact gw
 have hb0:W0.heap[w.heap.size+1]?=some (.cells #[.int .i64 p1,.int .i64 p2] 28 (0,0)):=by rw[<-hW];exact az _ _ _ (by simp)
 have hz0:W0.heap.size=w.heap.size+2:=by rw[<-hW];simp
 have oU:W0.heap[w.heap.size]?=some (.cells #[.int .i64 0,.int .i64 0] 28 (0,0)):=by
  rw[<-hW]
  exact (heap_alloc_old _ _ (by simp)).trans (heap_alloc_new _ _)
 have lN:=hide hg0
 have HB0:=hide hb0
 have HB9:=hide oU
 clear hW hg0 hb0 oU hix0 g0 g1 hA hb
 go_loopw [6] (fun i wr=>∃k:Nat,1<=k/\k<=ps.length/\i=.int .i64 k/\W0.grownBy wr (some (w.heap.size+1))/\wr.heap[w.heap.size+1]?=some (.cells #[.int .i64 (selTo maxS ps (k-1)).1,.int .i64 (selTo maxS ps (k-1)).2] 28 (0,0))) (fun i _=>ps.length-(intOf i).toNat)
 case atStart=>exact⟨1,Nat.le_refl _,by omega,rfl,iC _ _,by rw[show selTo maxS ps (1-1)=(p1,p2) from HPP.out];exact HB0.out⟩
 case round =>
  obtain⟨k,hk1,hk,rfl,hgr,hbx⟩:=hrel
  have hz:=hgr.size
  have hwr:Below w.heap.size w wr:=lN.out.below.grown hgr lN.out.below.size (fun j e=>by cases e;omega)
  have hrd:=HR.out.below hwr
  obtain⟨m,hm0⟩:∃m,selTo maxS ps (k-1)=m:=⟨_,rfl⟩
  have c0:=ag hbx 0
  have c1:=ag hbx 1
  have f0:=bM hbx 0
  have f1:=bM hbx 1
  have lb:=au hbx
  have JH:=hide hgr
  have HWR:=hide hwr
  by_cases hlt:k<ps.length
  ·have hp:=gV hlt
   have hst:selTo maxS ps (k+1-1)=if maxS (ah ps k) m=true then ah ps k else m:=by
    rw[<-hm0,show k+1-1=(k-1)+1 by omega]
    show (if maxS (ah ps (k-1+1)) (selTo maxS ps (k-1))=true then ah ps (k-1+1) else selTo maxS ps (k-1))=_
    rw[show k-1+1=k by omega]
   obtain⟨x,hx⟩:∃x,ah ps k=x:=⟨_,rfl⟩
   rw[hm0] at hbx c0 c1
   rw[hx] at hp hst
   obtain⟨b,off,hA,hb,g0,g1⟩:=ug hrd hp
   have hix:=aO (cap:=c) Tryz.underlying62 Tryz.sizeOf28 hA.out hlt
   have lbb:b<wr.heap.size:=by omega
   have hne:¬ b=w.heap.size+1:=by omega
   have kc:=hide (fun W=>AX x m W)
   obtain⟨x1,x2⟩:=x
   obtain⟨m1,m2⟩:=m
   dsimp only at g0 g1 c0 c1 kc
   have mF:=hide hbx
   have HST:=hide hst
   clear hp hx hm0 hrd hwr hgr hbx hst
   obtain⟨cv,hcv⟩:∃v,maxS (x1,x2) (m1,m2)=v:=⟨_,rfl⟩
   have hcv2:=hcv
   unfold maxS at hcv2
   rw[hcv] at HST
   clear hcv
   cases cv
   ·simp only[decide_eq_false_iff_not] at hcv2
    rw[if_neg (by simp)] at HST
    go_wp2_with fail
    refine ay 8 [] [] hm (h:=?_)
    repeat (refine ax (fun K hK=>?_);go_simp;first|(refine hK _ ?_;clear hK K)|(apply Exists.intro;refine⟨fun _=>?_,hK _ ?_⟩;(go_at_call 108;with_reducible exact kc.out _);clear hK K))
    refine lU fun nq osq=>?_
    try simp only[Act.put,aG]
    try dsimp only
    go_wp2_with fail
    go_roundw
    case rel=>exact⟨k+1,by omega,by omega,by go_num,pG JH.out _ _,by rw[HST.out];exact (heap_grow_old _ _ (by simpa[bU] using lb)).trans mF.out⟩
    case measure=>simp[intOf];omega
   ·simp only[decide_eq_true_eq] at hcv2
    rw[if_pos rfl] at HST
    go_wp2_with fail
    refine ay 8 [] [] hm (h:=?_)
    repeat (refine ax (fun K hK=>?_);go_simp;first|(refine hK _ ?_;clear hK K)|(apply Exists.intro;refine⟨fun _=>?_,hK _ ?_⟩;(go_at_call 108;with_reducible exact kc.out _);clear hK K))
    refine lU fun nq osq=>?_
    try simp only[Act.put,aG]
    try dsimp only
    go_wp2_with fail
    go_roundw
    case rel=>exact⟨k+1,by omega,by omega,by go_num,pG (jf (jf JH.out _ _) _ _) _ _,by rw[HST.out];exact (heap_grow_old _ _ (by simpa[bU] using lb)).trans (qP mF.out)⟩
    case measure=>simp[intOf];omega
  ·obtain rfl:k=ps.length:=by omega
   rw[rW.out] at hbx c0 c1
   have oU:=(hgr.block w.heap.size (by omega) (by simp)).trans HB9.out
   have r0:=ag oU 0
   have r1:=ag oU 1
   have rf0:=bM oU 0
   have rf1:=bM oU 1
   have lr:=au oU
   obtain⟨z1,z2⟩:=res
   dsimp only at c0 c1
   have e1:(wr.setCell ⟨w.heap.size,0,none⟩ (.int .i64 z1)).cell? ⟨w.heap.size,0,none⟩=some (.int .i64 z1):=by rw[World.cell?_setCell_same' _ _ _ (by rw[r0];rfl)]
   have e2:((wr.setCell ⟨w.heap.size,0,none⟩ (.int .i64 z1)).setCell ⟨w.heap.size,1,none⟩ (.int .i64 z2)).cell? ⟨w.heap.size,1,none⟩=some (.int .i64 z2):=ag (qP oU) 1
   clear hbx hgr hwr hrd oU hm0
   go_wp2_with fail
   refine bodyPost_ret (v:=pt z1 z2) (by simp[results,Tryz.results170,go_sem,e1,e2]) rfl ?_
   exact aC.mk' rfl (Grew.of_below ((HWR.out.setCell (p:=⟨w.heap.size,0,none⟩) (Nat.le_refl _) _).setCell (p:=⟨w.heap.size,1,none⟩) (Nat.le_refl _) _))
theorem VN (ps:List Pt)(A:Option Addr)(c:Nat)(w:World)(hr:Rd w w.heap.size 2 A (ps.map dY))(h0:0<ps.length)(hl:ps.length<=100000000000000) :
  Calls Tryz.prog 169 #[.slice A ps.length c,.func (.func 171) #[] #[]] w (aC w (pt (selTo rJ ps (ps.length-1)).1 (selTo rJ ps (ps.length-1)).2)):=by
 have hm:=aP
 have hp:=gV h0
 obtain⟨p,hpp⟩:∃p,ah ps 0=p:=⟨_,rfl⟩
 have HPP:=hide hpp
 rw[hpp] at hp
 obtain⟨b,off,hA,hb,g0,g1⟩:=ug hr hp
 rw[show off+0*2=off by omega] at g0 g1
 have hix0:=oI (cap:=c) Tryz.underlying62 Tryz.sizeOf28 hA.out h0
 have hn1:¬ (ps.length:Int)<1:=by omega
 have HR:=hide hr
 obtain⟨res,hres⟩:∃r,selTo rJ ps (ps.length-1)=r:=⟨_,rfl⟩
 rw[hres]
 have rW:=hide hres
 obtain⟨p1,p2⟩:=p
 dsimp only at g0 g1
 clear hr hp hpp hres
 go_enter Tryz.func169,Tryz.ntmps169
 go_wp2_with fail
 refine fC ?_
 intro W0 hW
 have hg0:Grew w W0:=by rw[<-hW];exact gw
 have hb0:W0.heap[w.heap.size+1]?=some (.cells #[.int .i64 p1,.int .i64 p2] 28 (0,0)):=by rw[<-hW];exact az _ _ _ (by simp)
 have hz0:W0.heap.size=w.heap.size+2:=by rw[<-hW];simp
 have oU:W0.heap[w.heap.size]?=some (.cells #[.int .i64 0,.int .i64 0] 28 (0,0)):=by
  rw[<-hW]
  exact (heap_alloc_old _ _ (by simp)).trans (heap_alloc_new _ _)
 have lN:=hide hg0
 have HB0:=hide hb0
 have HB9:=hide oU
 clear hW hg0 hb0 oU hix0 g0 g1 hA hb
 go_loopw [6] (fun i wr=>∃k:Nat,1<=k/\k<=ps.length/\i=.int .i64 k/\W0.grownBy wr (some (w.heap.size+1))/\wr.heap[w.heap.size+1]?=some (.cells #[.int .i64 (selTo rJ ps (k-1)).1,.int .i64 (selTo rJ ps (k-1)).2] 28 (0,0))) (fun i _=>ps.length-(intOf i).toNat)
 case atStart=>exact⟨1,Nat.le_refl _,by omega,rfl,iC _ _,by rw[show selTo rJ ps (1-1)=(p1,p2) from HPP.out];exact HB0.out⟩
 case round =>
  obtain⟨k,hk1,hk,rfl,hgr,hbx⟩:=hrel
  have hz:=hgr.size
  have hwr:Below w.heap.size w wr:=lN.out.below.grown hgr lN.out.below.size (fun j e=>by cases e;omega)
  have hrd:=HR.out.below hwr
  obtain⟨m,hm0⟩:∃m,selTo rJ ps (k-1)=m:=⟨_,rfl⟩
  have c0:=ag hbx 0
  have c1:=ag hbx 1
  have f0:=bM hbx 0
  have f1:=bM hbx 1
  have lb:=au hbx
  have JH:=hide hgr
  have HWR:=hide hwr
  by_cases hlt:k<ps.length
  ·have hp:=gV hlt
   have hst:selTo rJ ps (k+1-1)=if rJ (ah ps k) m=true then ah ps k else m:=by
    rw[<-hm0,show k+1-1=(k-1)+1 by omega]
    show (if rJ (ah ps (k-1+1)) (selTo rJ ps (k-1))=true then ah ps (k-1+1) else selTo rJ ps (k-1))=_
    rw[show k-1+1=k by omega]
   obtain⟨x,hx⟩:∃x,ah ps k=x:=⟨_,rfl⟩
   rw[hm0] at hbx c0 c1
   rw[hx] at hp hst
   obtain⟨b,off,hA,hb,g0,g1⟩:=ug hrd hp
   have hix:=aO (cap:=c) Tryz.underlying62 Tryz.sizeOf28 hA.out hlt
   have lbb:b<wr.heap.size:=by omega
   have hne:¬ b=w.heap.size+1:=by omega
   have kc:=hide (fun W=>QA x m W)
   obtain⟨x1,x2⟩:=x
   obtain⟨m1,m2⟩:=m
   dsimp only at g0 g1 c0 c1 kc
   have mF:=hide hbx
   have HST:=hide hst
   clear hp hx hm0 hrd hwr hgr hbx hst
   obtain⟨cv,hcv⟩:∃v,rJ (x1,x2) (m1,m2)=v:=⟨_,rfl⟩
   have hcv2:=hcv
   unfold rJ at hcv2
   rw[hcv] at HST
   clear hcv
   cases cv
   ·simp only[decide_eq_false_iff_not] at hcv2
    rw[if_neg (by simp)] at HST
    go_wp2_with fail
    refine ay 8 [] [] hm (h:=?_)
    repeat (refine ax (fun K hK=>?_);go_simp;first|(refine hK _ ?_;clear hK K)|(apply Exists.intro;refine⟨fun _=>?_,hK _ ?_⟩;(go_at_call 171;with_reducible exact kc.out _);clear hK K))
    refine lU fun nq osq=>?_
    try simp only[Act.put,aG]
    try dsimp only
    go_wp2_with fail
    go_roundw
    case rel=>exact⟨k+1,by omega,by omega,by go_num,pG JH.out _ _,by rw[HST.out];exact (heap_grow_old _ _ (by simpa[bU] using lb)).trans mF.out⟩
    case measure=>simp[intOf];omega
   ·simp only[decide_eq_true_eq] at hcv2
    rw[if_pos rfl] at HST
    go_wp2_with fail
    refine ay 8 [] [] hm (h:=?_)
    repeat (refine ax (fun K hK=>?_);go_simp;first|(refine hK _ ?_;clear hK K)|(apply Exists.intro;refine⟨fun _=>?_,hK _ ?_⟩;(go_at_call 171;with_reducible exact kc.out _);clear hK K))
    refine lU fun nq osq=>?_
    try simp only[Act.put,aG]
    try dsimp only
    go_wp2_with fail
    go_roundw
    case rel=>exact⟨k+1,by omega,by omega,by go_num,pG (jf (jf JH.out _ _) _ _) _ _,by rw[HST.out];exact (heap_grow_old _ _ (by simpa[bU] using lb)).trans (qP mF.out)⟩
    case measure=>simp[intOf];omega
  ·obtain rfl:k=ps.length:=by omega
   rw[rW.out] at hbx c0 c1
   have oU:=(hgr.block w.heap.size (by omega) (by simp)).trans HB9.out
   have r0:=ag oU 0
   have r1:=ag oU 1
   have rf0:=bM oU 0
   have rf1:=bM oU 1
   have lr:=au oU
   obtain⟨z1,z2⟩:=res
   dsimp only at c0 c1
   have e1:(wr.setCell ⟨w.heap.size,0,none⟩ (.int .i64 z1)).cell? ⟨w.heap.size,0,none⟩=some (.int .i64 z1):=by rw[World.cell?_setCell_same' _ _ _ (by rw[r0];rfl)]
   have e2:((wr.setCell ⟨w.heap.size,0,none⟩ (.int .i64 z1)).setCell ⟨w.heap.size,1,none⟩ (.int .i64 z2)).cell? ⟨w.heap.size,1,none⟩=some (.int .i64 z2):=ag (qP oU) 1
   clear hbx hgr hwr hrd oU hm0
   go_wp2_with fail
   refine bodyPost_ret (v:=pt z1 z2) (by simp[results,Tryz.results169,go_sem,e1,e2]) rfl ?_
   exact aC.mk' rfl (Grew.of_below ((HWR.out.setCell (p:=⟨w.heap.size,0,none⟩) (Nat.le_refl _) _).setCell (p:=⟨w.heap.size,1,none⟩) (Nat.le_refl _) _))
theorem VU (ps:List Pt)(A:Option Addr)(c:Nat)(w:World)(hr:Rd w w.heap.size 2 A (ps.map dY))(h0:0<ps.length)(hl:ps.length<=100000000000000) :
  Calls Tryz.prog 170 #[.slice A ps.length c,.func (.func 171) #[] #[]] w (aC w (pt (selTo rM ps (ps.length-1)).1 (selTo rM ps (ps.length-1)).2)):=by
 have hm:=aP
 have hp:=gV h0
 obtain⟨p,hpp⟩:∃p,ah ps 0=p:=⟨_,rfl⟩
 have HPP:=hide hpp
 rw[hpp] at hp
 obtain⟨b,off,hA,hb,g0,g1⟩:=ug hr hp
 rw[show off+0*2=off by omega] at g0 g1
 have hix0:=oI (cap:=c) Tryz.underlying62 Tryz.sizeOf28 hA.out h0
 have hn1:¬ (ps.length:Int)<1:=by omega
 have HR:=hide hr
 obtain⟨res,hres⟩:∃r,selTo rM ps (ps.length-1)=r:=⟨_,rfl⟩
 rw[hres]
 have rW:=hide hres
 obtain⟨p1,p2⟩:=p
 dsimp only at g0 g1
 clear hr hp hpp hres
 go_enter Tryz.func170,Tryz.ntmps170
 go_wp2_with fail
 refine fC ?_
 intro W0 hW
 have hg0:Grew w W0:=by rw[<-hW];exact gw
 have hb0:W0.heap[w.heap.size+1]?=some (.cells #[.int .i64 p1,.int .i64 p2] 28 (0,0)):=by rw[<-hW];exact az _ _ _ (by simp)
 have hz0:W0.heap.size=w.heap.size+2:=by rw[<-hW];simp
 have oU:W0.heap[w.heap.size]?=some (.cells #[.int .i64 0,.int .i64 0] 28 (0,0)):=by
  rw[<-hW]
  exact (heap_alloc_old _ _ (by simp)).trans (heap_alloc_new _ _)
 have lN:=hide hg0
 have HB0:=hide hb0
 have HB9:=hide oU
 clear hW hg0 hb0 oU hix0 g0 g1 hA hb
 go_loopw [6] (fun i wr=>∃k:Nat,1<=k/\k<=ps.length/\i=.int .i64 k/\W0.grownBy wr (some (w.heap.size+1))/\wr.heap[w.heap.size+1]?=some (.cells #[.int .i64 (selTo rM ps (k-1)).1,.int .i64 (selTo rM ps (k-1)).2] 28 (0,0))) (fun i _=>ps.length-(intOf i).toNat)
 case atStart=>exact⟨1,Nat.le_refl _,by omega,rfl,iC _ _,by rw[show selTo rM ps (1-1)=(p1,p2) from HPP.out];exact HB0.out⟩
 case round =>
  obtain⟨k,hk1,hk,rfl,hgr,hbx⟩:=hrel
  have hz:=hgr.size
  have hwr:Below w.heap.size w wr:=lN.out.below.grown hgr lN.out.below.size (fun j e=>by cases e;omega)
  have hrd:=HR.out.below hwr
  obtain⟨m,hm0⟩:∃m,selTo rM ps (k-1)=m:=⟨_,rfl⟩
  have c0:=ag hbx 0
  have c1:=ag hbx 1
  have f0:=bM hbx 0
  have f1:=bM hbx 1
  have lb:=au hbx
  have JH:=hide hgr
  have HWR:=hide hwr
  by_cases hlt:k<ps.length
  ·have hp:=gV hlt
   have hst:selTo rM ps (k+1-1)=if rM (ah ps k) m=true then ah ps k else m:=by
    rw[<-hm0,show k+1-1=(k-1)+1 by omega]
    show (if rM (ah ps (k-1+1)) (selTo rM ps (k-1))=true then ah ps (k-1+1) else selTo rM ps (k-1))=_
    rw[show k-1+1=k by omega]
   obtain⟨x,hx⟩:∃x,ah ps k=x:=⟨_,rfl⟩
   rw[hm0] at hbx c0 c1
   rw[hx] at hp hst
   obtain⟨b,off,hA,hb,g0,g1⟩:=ug hrd hp
   have hix:=aO (cap:=c) Tryz.underlying62 Tryz.sizeOf28 hA.out hlt
   have lbb:b<wr.heap.size:=by omega
   have hne:¬ b=w.heap.size+1:=by omega
   have kc:=hide (fun W=>QA x m W)
   obtain⟨x1,x2⟩:=x
   obtain⟨m1,m2⟩:=m
   dsimp only at g0 g1 c0 c1 kc
   have mF:=hide hbx
   have HST:=hide hst
   clear hp hx hm0 hrd hwr hgr hbx hst
   obtain⟨cv,hcv⟩:∃v,rM (x1,x2) (m1,m2)=v:=⟨_,rfl⟩
   have hcv2:=hcv
   unfold rM at hcv2
   rw[hcv] at HST
   clear hcv
   cases cv
   ·simp only[decide_eq_false_iff_not] at hcv2
    rw[if_neg (by simp)] at HST
    go_wp2_with fail
    refine ay 8 [] [] hm (h:=?_)
    repeat (refine ax (fun K hK=>?_);go_simp;first|(refine hK _ ?_;clear hK K)|(apply Exists.intro;refine⟨fun _=>?_,hK _ ?_⟩;(go_at_call 171;with_reducible exact kc.out _);clear hK K))
    refine lU fun nq osq=>?_
    try simp only[Act.put,aG]
    try dsimp only
    go_wp2_with fail
    go_roundw
    case rel=>exact⟨k+1,by omega,by omega,by go_num,pG JH.out _ _,by rw[HST.out];exact (heap_grow_old _ _ (by simpa[bU] using lb)).trans mF.out⟩
    case measure=>simp[intOf];omega
   ·simp only[decide_eq_true_eq] at hcv2
    rw[if_pos rfl] at HST
    go_wp2_with fail
    refine ay 8 [] [] hm (h:=?_)
    repeat (refine ax (fun K hK=>?_);go_simp;first|(refine hK _ ?_;clear hK K)|(apply Exists.intro;refine⟨fun _=>?_,hK _ ?_⟩;(go_at_call 171;with_reducible exact kc.out _);clear hK K))
    refine lU fun nq osq=>?_
    try simp only[Act.put,aG]
    try dsimp only
    go_wp2_with fail
    go_roundw
    case rel=>exact⟨k+1,by omega,by omega,by go_num,pG (jf (jf JH.out _ _) _ _) _ _,by rw[HST.out];exact (heap_grow_old _ _ (by simpa[bU] using lb)).trans (qP mF.out)⟩
    case measure=>simp[intOf];omega
  ·obtain rfl:k=ps.length:=by omega
   rw[rW.out] at hbx c0 c1
   have oU:=(hgr.block w.heap.size (by omega) (by simp)).trans HB9.out
   have r0:=ag oU 0
   have r1:=ag oU 1
   have rf0:=bM oU 0
   have rf1:=bM oU 1
   have lr:=au oU
   obtain⟨z1,z2⟩:=res
   dsimp only at c0 c1
   have e1:(wr.setCell ⟨w.heap.size,0,none⟩ (.int .i64 z1)).cell? ⟨w.heap.size,0,none⟩=some (.int .i64 z1):=by rw[World.cell?_setCell_same' _ _ _ (by rw[r0];rfl)]
   have e2:((wr.setCell ⟨w.heap.size,0,none⟩ (.int .i64 z1)).setCell ⟨w.heap.size,1,none⟩ (.int .i64 z2)).cell? ⟨w.heap.size,1,none⟩=some (.int .i64 z2):=ag (qP oU) 1
   clear hbx hgr hwr hrd oU hm0
   go_wp2_with fail
   refine bodyPost_ret (v:=pt z1 z2) (by simp[results,Tryz.results170,go_sem,e1,e2]) rfl ?_
   exact aC.mk' rfl (Grew.of_below ((HWR.out.setCell (p:=⟨w.heap.size,0,none⟩) (Nat.le_refl _) _).setCell (p:=⟨w.heap.size,1,none⟩) (Nat.le_refl _) _))
abbrev B4:=(Int×Int)×(Int×Int)
abbrev vk (b:B4):Value:=.agg #[.int .i64 b.1.1,.int .i64 b.1.2,.int .i64 b.2.1,.int .i64 b.2.2]
def vS (s:Int×Int):Bool:=decide (-1000000000000<=s.1/\s.1<=s.2/\s.2<=1000000000000)
theorem qM (a b:Int)(r:Bool)(w:World)(h:vS (a,b)=r) :
  Calls Tryz.prog 104 #[pt a b] w (aC w (.bool r)):=by
 have hm:=aP
 have hcase:(r=false/\¬ -1000000000000<=a)\/(r=false/\-1000000000000<=a/\¬ a<=b)\/(-1000000000000<=a/\a<=b/\r=decide (b<=1000000000000)):=by
  rw[<-h]
  unfold vS
  by_cases h1:-1000000000000<=a
  ·by_cases h2:a<=b
   ·exact .inr (.inr ⟨h1,h2,by simp[h1,h2]⟩)
   ·exact .inr (.inl ⟨by simp[h2],h1,h2⟩)
  ·exact .inl ⟨by simp;omega,h1⟩
 clear h
 rcases hcase with⟨rfl,h1⟩|⟨rfl,h1,h2⟩|⟨h1,h2,rfl⟩
 all_goals
  go_enter Tryz.func104,Tryz.ntmps104
  go_wp2_with fail
  go_ret
  exact aC.mk' (by simp) gw
theorem Lj (a b:Int)(w:World) :
  Calls Tryz.prog 132 #[.int .i64 a,.int .i64 b] w (aC w (.tuple #[.int .i64 (min a b),.int .i64 (max a b)])):=by
 have hm:=aP
 go_enter Tryz.func132,Tryz.ntmps132
 go_wp2_with fail
 all_goals go_ret2
 all_goals exact aC.mk' (by simp;omega) gw
def uY (s t:Int×Int):(Int×Int)×Int:=if (vS s&&vS t)=true then ((min s.1 t.1,max s.2 t.2),0) else ((0,0),1)
theorem MH (s t:Int×Int)(w:World) :
  Calls Tryz.prog 103 #[pt s.1 s.2,pt t.1 t.2] w (aC w (.tuple #[pt (uY s t).1.1 (uY s t).1.2,.int .i64 (uY s t).2])):=by
 have hm:=aP
 unfold uY
 obtain⟨u,hu⟩:∃u,vS s=u:=⟨_,rfl⟩
 obtain⟨v,hv⟩:∃u,vS t=u:=⟨_,rfl⟩
 rw[hu,hv]
 have k1:=hide (fun W=>qM s.1 s.2 u W hu)
 have k2:=hide (fun W=>qM t.1 t.2 v W hv)
 have k3:=hide (fun W=>Lj s.1 t.1 W)
 have k4:=hide (fun W=>Lj s.2 t.2 W)
 obtain⟨s1,s2⟩:=s
 obtain⟨t1,t2⟩:=t
 dsimp only at *
 generalize min s1 t1=m1 at *
 generalize max s1 t1=m2 at *
 generalize min s2 t2=m3 at *
 generalize max s2 t2=m4 at *
 clear hu hv
 cases u
 ·simp only[Bool.false_and,Bool.false_eq_true,if_false]
  go_enter Tryz.func103,Tryz.ntmps103
  go_wp2_with (go_at_call 104;with_reducible refine aQ (k1.out _) fun _ _=>?_;dsimp only)
  refine bodyPost_ret (v:=.tuple #[pt 0 0,.int .i64 1]) (by simp[results,Tryz.results103,go_sem]) rfl ?_
  exact aC.mk' rfl gw
 ·cases v
  ·simp only[Bool.true_and,Bool.false_eq_true,if_false]
   go_enter Tryz.func103,Tryz.ntmps103
   go_wp2_with ((go_at_call 104;first|with_reducible refine (k1.out _).mono ?_|with_reducible refine (k2.out _).mono ?_);rintro e w' ⟨rfl,⟨_,_⟩,rfl⟩;dsimp only)
   refine bodyPost_ret (v:=.tuple #[pt 0 0,.int .i64 1]) (by simp[results,Tryz.results103,go_sem]) rfl ?_
   exact aC.mk' rfl gw
  ·simp only[Bool.true_and,if_true]
   go_enter Tryz.func103,Tryz.ntmps103
   go_wp2_with (first|((go_at_call 104;first|with_reducible refine (k1.out _).mono ?_|with_reducible refine (k2.out _).mono ?_);rintro e w' ⟨rfl,⟨_,_⟩,rfl⟩;dsimp only)|((go_at_call 132;first|with_reducible refine (k3.out _).mono ?_|with_reducible refine (k4.out _).mono ?_);rintro e w' ⟨rfl,⟨_,_⟩,rfl⟩;dsimp only))
   refine bodyPost_ret (v:=.tuple #[pt m1 m4,.int .i64 0]) (by simp[results,Tryz.results103,go_sem]) rfl ?_
   exact aC.mk' rfl gw
def lX (s t:Int×Int):Bool×Int:=((uY s t).2==0&&((uY s t).1.1==t.1&&(uY s t).1.2==t.2),(uY s t).2)
theorem Fg (s t:Int×Int)(w:World) :
  Calls Tryz.prog 82 #[pt s.1 s.2,pt t.1 t.2] w (aC w (.tuple #[.bool (lX s t).1,.int .i64 (lX s t).2])):=by
 have hm:=aP
 have k1:=hide (fun W=>MH s t W)
 unfold lX
 obtain⟨⟨⟨j1,j2⟩,e⟩,hj⟩:∃j,uY s t=j:=⟨_,rfl⟩
 rw[hj] at k1 ⊢
 obtain⟨s1,s2⟩:=s
 obtain⟨t1,t2⟩:=t
 dsimp only at *
 clear hj
 by_cases he:e=0
 ·subst he
  go_enter Tryz.func82,Tryz.ntmps82
  go_wp2_with (go_at_call 103;with_reducible refine aQ (k1.out _) fun _ _=>?_;dsimp only)
  all_goals go_ret2
  all_goals exact aC.mk' (by simp[*]) gw
 ·have he':¬ (e==0)=true:=by simpa using he
  go_enter Tryz.func82,Tryz.ntmps82
  go_wp2_with (go_at_call 103;with_reducible refine aQ (k1.out _) fun _ _=>?_;dsimp only)
  all_goals go_ret2
  all_goals exact aC.mk' (by simp[*]) gw
def Yx (b:B4):Bool:=(lX b.1 (-1000000,1000000)).2==0&&((lX b.2 (-1000000,1000000)).2==0&&((lX b.1 (-1000000,1000000)).1&&(lX b.2 (-1000000,1000000)).1))
theorem OQ (b:B4)(r:Bool)(w:World)(h:Yx b=r) :
  Calls Tryz.prog 46 #[vk b] w (aC w (.bool r)):=by
 have hm:=aP
 have k1:=hide (fun W=>Fg b.1 (-1000000,1000000) W)
 have k2:=hide (fun W=>Fg b.2 (-1000000,1000000) W)
 unfold Yx at h
 obtain⟨⟨x,e⟩,hx⟩:∃j,lX b.1 (-1000000,1000000)=j:=⟨_,rfl⟩
 obtain⟨⟨y,f⟩,hy⟩:∃j,lX b.2 (-1000000,1000000)=j:=⟨_,rfl⟩
 rw[hx] at k1 h
 rw[hy] at k2 h
 obtain⟨⟨b1,b2⟩,⟨b3,b4⟩⟩:=b
 dsimp only at *
 have hcase:(e≠0/\r=false)\/(e=0/\f≠0/\r=false)\/(e=0/\f=0/\x=false/\r=false)\/(e=0/\f=0/\x=true/\r=y):=by
  subst h
  by_cases h1:e=0
  ·by_cases h2:f=0
   ·cases x
    ·exact .inr (.inr (.inl ⟨h1,h2,rfl,by simp⟩))
    ·exact .inr (.inr (.inr ⟨h1,h2,rfl,by simp[h1,h2]⟩))
   ·exact .inr (.inl ⟨h1,h2,by simp[h2]⟩)
  ·exact .inl ⟨h1,by simp[h1]⟩
 clear h hx hy
 rcases hcase with⟨h1,rfl⟩|⟨rfl,h2,rfl⟩|⟨rfl,rfl,rfl,rfl⟩|⟨rfl,rfl,rfl,rfl⟩
 ·have h1':¬ (e==0)=true:=by simpa using h1
  go_enter Tryz.func46,Tryz.ntmps46
  go_wp2_with ((go_at_call 82;first|with_reducible refine (k1.out _).mono ?_|with_reducible refine (k2.out _).mono ?_);rintro e w' ⟨rfl,⟨_,_⟩,rfl⟩;dsimp only)
  go_ret
  exact aC.mk' (by simp) gw
 ·have h2':¬ (f==0)=true:=by simpa using h2
  go_enter Tryz.func46,Tryz.ntmps46
  go_wp2_with ((go_at_call 82;first|with_reducible refine (k1.out _).mono ?_|with_reducible refine (k2.out _).mono ?_);rintro e w' ⟨rfl,⟨_,_⟩,rfl⟩;dsimp only)
  go_ret
  exact aC.mk' (by simp) gw
 ·go_enter Tryz.func46,Tryz.ntmps46
  go_wp2_with ((go_at_call 82;first|with_reducible refine (k1.out _).mono ?_|with_reducible refine (k2.out _).mono ?_);rintro e w' ⟨rfl,⟨_,_⟩,rfl⟩;dsimp only)
  go_ret
  exact aC.mk' (by simp) gw
 ·go_enter Tryz.func46,Tryz.ntmps46
  go_wp2_with ((go_at_call 82;first|with_reducible refine (k1.out _).mono ?_|with_reducible refine (k2.out _).mono ?_);rintro e w' ⟨rfl,⟨_,_⟩,rfl⟩;dsimp only)
  go_ret
  exact aC.mk' (by simp) gw
def okB (b:B4):Bool:=decide ((-1000000<=b.1.1/\b.1.1<=b.1.2/\b.1.2<=1000000)/\(-1000000<=b.2.1/\b.2.1<=b.2.2/\b.2.2<=1000000))
theorem BB (s:Int×Int):((lX s (-1000000,1000000)).2=0/\(lX s (-1000000,1000000)).1=true)↔(-1000000<=s.1/\s.1<=s.2/\s.2<=1000000):=by
 unfold lX uY
 by_cases h:vS s=true
 ·have h9:vS (-1000000,1000000)=true:=by decide
  rw[h,h9]
  simp[vS] at h ⊢
  omega
 ·rw[Bool.not_eq_true] at h
  rw[h]
  simp[vS] at h ⊢
  omega
theorem Yw (b:B4):Yx b=okB b:=by
 rw[Bool.eq_iff_iff]
 unfold Yx okB
 rw[decide_eq_true_eq,<-BB b.1,<-BB b.2]
 simp only[Bool.and_eq_true,beq_iff_eq]
 constructor
 ·exact fun ⟨a,b,c,d⟩=>⟨⟨a,c⟩,b,d⟩
 ·exact fun ⟨⟨a,c⟩,b,d⟩=>⟨a,b,c,d⟩
def GR (a b:B4):B4:=((min a.1.1 b.1.1,max a.1.2 b.1.2),(min a.2.1 b.2.1,max a.2.2 b.2.2))
def uz (a b:B4):B4×Int:=if (okB a&&okB b)=true then (GR a b,0) else (((0,0),(0,0)),1)
theorem jM (b:B4)(r:Bool)(w:World)(h:okB b=r) :
  Calls Tryz.prog 46 #[vk b] w (aC w (.bool r)):=OQ b r w (by rw[Yw,h])
theorem Wh {a b:Int×Int}(ha:-1000000<=a.1/\a.1<=a.2/\a.2<=1000000)(hb:-1000000<=b.1/\b.1<=b.2/\b.2<=1000000):uY a b=((min a.1 b.1,max a.2 b.2),0):=by
 unfold uY
 rw[if_pos]
 simp[vS]
 omega
theorem QK (s t:Int×Int)(w:World)(ha:-1000000<=s.1/\s.1<=s.2/\s.2<=1000000)(hb:-1000000<=t.1/\t.1<=t.2/\t.2<=1000000) :
  Calls Tryz.prog 103 #[pt s.1 s.2,pt t.1 t.2] w (aC w (.tuple #[pt (min s.1 t.1) (max s.2 t.2),.int .i64 0])):=by
 have:=MH s t w
 rwa [Wh ha hb] at this
def qE (ps:List Pt):B4:=(((selTo minS ps (ps.length-1)).1,(selTo maxS ps (ps.length-1)).1),((selTo rJ ps (ps.length-1)).2,(selTo rM ps (ps.length-1)).2))
def ve (ps:List Pt):B4×Int:=if dm ps=true then (qE ps,0) else (((0,0),(0,0)),1)
theorem aax (ps:List Pt)(A:Option Addr)(c:Nat)(w:World)(hr:Rd w w.heap.size 2 A (ps.map dY))(hc:ps.length<=100000000000000) :
  Calls Tryz.prog 148 #[.slice A ps.length c] w (aC w (.tuple #[vk (ve ps).1,.int .i64 (ve ps).2])):=by
 have hm:=aP
 unfold ve
 obtain⟨v,hv⟩:∃u,dm ps=u:=⟨_,rfl⟩
 have k2:=hide (fun W (hg:Grew w W)=>jJ ps A c v W (hr.up hg) hc hv)
 rw[hv]
 cases v
 ·clear hv
  rw[if_neg (by simp)]
  go_enter Tryz.func148,Tryz.ntmps148
  go_wp2_with (go_at_call 88;with_reducible refine aQ (k2.out _ gw) fun _ _=>?_;dsimp only)
  refine bodyPost_ret (v:=.tuple #[vk ((0,0),(0,0)),.int .i64 1]) (by simp[results,Tryz.results148,go_sem]) rfl ?_
  exact aC.mk' rfl gw
 ·have hp:=jH hv
  have hl:0<ps.length:=by omega
  have q1:=hide (fun W (hg:Grew w W)=>VQ ps A c W (hr.up hg) hl hc)
  have q2:=hide (fun W (hg:Grew w W)=>VX ps A c W (hr.up hg) hl hc)
  have q3:=hide (fun W (hg:Grew w W)=>VN ps A c W (hr.up hg) hl hc)
  have q4:=hide (fun W (hg:Grew w W)=>VU ps A c W (hr.up hg) hl hc)
  rw[if_pos rfl]
  unfold qE
  generalize selTo minS ps (ps.length-1)=a at *
  generalize selTo maxS ps (ps.length-1)=b at *
  generalize selTo rJ ps (ps.length-1)=d at *
  generalize selTo rM ps (ps.length-1)=e at *
  obtain⟨a1,a2⟩:=a
  obtain⟨b1,b2⟩:=b
  obtain⟨d1,d2⟩:=d
  obtain⟨e1,e2⟩:=e
  clear hp hv hr
  go_enter Tryz.func148,Tryz.ntmps148
  go_wp2_with (first|(go_at_call 88;with_reducible refine aQ (k2.out _ gw) fun _ _=>?_;dsimp only)|(go_at_call 169;(first|with_reducible refine (q1.out _ gw).mono ?_|with_reducible refine (q3.out _ gw).mono ?_);rintro e w' ⟨rfl,⟨_,_⟩,rfl⟩;dsimp only)|(go_at_call 170;(first|with_reducible refine (q2.out _ gw).mono ?_|with_reducible refine (q4.out _ gw).mono ?_);rintro e w' ⟨rfl,⟨_,_⟩,rfl⟩;dsimp only))
  refine bodyPost_ret (v:=.tuple #[vk ((a1,b1),(d2,e2)),.int .i64 0]) (by simp[results,Tryz.results148,go_sem]) rfl ?_
  exact aC.mk' rfl gw
def dh (b:B4):List Pt:=[(b.1.1,b.2.1),(b.1.2,b.2.1),(b.1.2,b.2.2),(b.1.1,b.2.2)]
def kP (b:B4):List Pt×Int:=if okB b=true then (if b.1.1=b.1.2\/b.2.1=b.2.2 then ([],4) else (dh b,0)) else ([],1)
theorem MC (b:B4)(w:World):Calls Tryz.prog 39 #[vk b] w (afc w (kP b)):=by
 have hm:=aP
 unfold kP
 obtain⟨u,hu⟩:∃u,okB b=u:=⟨_,rfl⟩
 have k1:=hide (fun W=>jM b u W hu)
 rw[hu]
 cases u
 ·obtain⟨⟨b1,b2⟩,⟨b3,b4⟩⟩:=b
  rw[if_neg (by simp)]
  clear hu
  go_enter Tryz.func39,Tryz.ntmps39
  go_wp2_with (go_at_call 46;with_reducible refine aQ (k1.out _) fun _ _=>?_;dsimp only)
  go_ret2
  exact⟨_,rfl,World.ownsRow_nil _ _ _ _,gw⟩
 ·rw[if_pos rfl]
  obtain⟨⟨b1,b2⟩,⟨b3,b4⟩⟩:=b
  clear hu
  dsimp only
  by_cases h1:b1=b2
  ·subst h1
   rw[if_pos (.inl rfl)]
   go_enter Tryz.func39,Tryz.ntmps39
   go_wp2_with (go_at_call 46;with_reducible refine aQ (k1.out _) fun _ _=>?_;dsimp only)
   go_ret2
   exact⟨_,rfl,World.ownsRow_nil _ _ _ _,gw⟩
  ·have e1:(b1==b2)=false:=by simpa using h1
   by_cases h2:b3=b4
   ·subst h2
    rw[if_pos (.inr rfl)]
    go_enter Tryz.func39,Tryz.ntmps39
    go_wp2_with (go_at_call 46;with_reducible refine aQ (k1.out _) fun _ _=>?_;dsimp only)
    go_ret2
    exact⟨_,rfl,World.ownsRow_nil _ _ _ _,gw⟩
   ·have e2:(b3==b4)=false:=by simpa using h2
    rw[if_neg (by omega)]
    go_enter Tryz.func39,Tryz.ntmps39
    go_wp2_with (go_at_call 46;(with_reducible refine (k1.out _).mono ?_);rintro e w' ⟨rfl,⟨n5,Gv⟩,rfl⟩;dsimp only)
    go_ret2
    have h:=World.ownsRow_lit (base:=w.heap.size) (e:=28) (size:=2) (grow (dr (w.alloc (.cells #[.int .i64 b1,.int .i64 b2,.int .i64 b3,.int .i64 b4] 50)) n5) Gv) #[.int .i64 b1,.int .i64 b3,.int .i64 b2,.int .i64 b3,.int .i64 b2,.int .i64 b4,.int .i64 b1,.int .i64 b4] 4 (Grew.below (w:=w) gw).size (by unfold maxLen;omega) rfl
    rw[size_grow,bU,World.mG] at h
    exact⟨_,rfl,h,gw⟩
end Go.Proofs.YtlkgjmnjhifehaaGreat
