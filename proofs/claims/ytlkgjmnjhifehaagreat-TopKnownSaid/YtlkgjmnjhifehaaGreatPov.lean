/- slices.MinFunc and slices.MaxFunc at places; package poly: Box. Package span: what package poly and its laws need of it. Package poly: Box. Package poly: Rect. -/
import Derived.Test.YtlkgjmnjhifehaaGreatPgX
import Derived.Test.YtlkgjmnjhifehaaGreatPla
set_option linter.unusedSimpArgs false
set_option linter.unusedVariables false
set_option maxHeartbeats 4000000
set_option maxRecDepth 100000
namespace Go.Proofs.YtlkgjmnjhifehaaGreat
open Go.RowKit Go.Sort
attribute [local go_sem] dC steadyUpon
attribute [local go_sem ↓] bQ bJ bg aZ aY aX aW
attribute [local go_sem] bH aN aK size_grow tape_grow cell?_grow' aF aC grow_grow bV bn dZ bZ bW bM aO cO bu bY bK
attribute [local irreducible] wpSteady
def aeL (w:World)(r:List Pt×Int)(e:Ending)(w':World):Prop:=∃v,e=.returned (.tuple #[v,.int .i64 r.2])/\w'.ownsRow w.heap.size 28 2 v r.1.length (r.1.flatMap dU)/\Grew w w'
theorem qI {W:World}{b:Nat}{x y v u:Value}{T:TypeId}{fr:Nat×Nat}(h:W.heap[b]?=some (.cells #[x,y] T fr)):((W.setCell ⟨b,0,none⟩ v).setCell ⟨b,1,none⟩ u).heap[b]?=some (.cells #[v,u] T fr):=by
 have h1:=ax h
 simp[World.setCell,Array.getElem?_modify,h]
def selTo (p:Pt->Pt->Bool)(ps:List Pt):Nat->Pt
 | 0=>ai ps 0
 | k+1=>if p (ai ps (k+1)) (selTo p ps k)=true then ai ps (k+1) else selTo p ps k
def ND (a b:Pt):Int:=sg (a.2-b.2)
def minS (x m:Pt):Bool:=decide (ord x m<0)
def maxS (x m:Pt):Bool:=decide (0<ord x m)
def rF (x m:Pt):Bool:=decide (ND x m<0)
def rG (x m:Pt):Bool:=decide (0<ND x m)
theorem Qq (a b:Pt)(w:World) :
  Calls Tryz.prog 171 #[pt a.1 a.2,pt b.1 b.2] w (aB w (.int .i64 (ND a b))):=by
 have k1:=hide (fun W=>gW a.2 b.2 W)
 obtain⟨a1,a2⟩:=a
 obtain⟨b1,b2⟩:=b
 go_enter Tryz.func171,Tryz.ntmps171
 go_wp2_with (go_at_call 65;with_reducible refine aT (k1.out _) fun _ _=>?_;dsimp only)
 go_ret
 exact aB.mk' rfl gw
theorem VA (ps:List Pt)(A:Option Addr)(c:Nat)(w:World)(hr:Rd w w.heap.size 2 A (ps.map dU))(h0:0<ps.length)(hl:ps.length<=100000000000000) :
  Calls Tryz.prog 169 #[.slice A ps.length c,.func (.func 108) #[] #[]] w (aB w (pt (selTo minS ps (ps.length-1)).1 (selTo minS ps (ps.length-1)).2)):=by
 have hm:=aQ
 have hp:=fB h0
 obtain⟨p,hpp⟩:∃p,ai ps 0=p:=⟨_,rfl⟩
 have HPP:=hide hpp
 rw[hpp] at hp
 obtain⟨b,off,hA,hb,g0,g1⟩:=rD hr hp
 rw[show off+0*2=off by omega] at g0 g1
 have hix0:=oG (cap:=c) Tryz.underlying62 Tryz.sizeOf28 hA.out h0
 have hn1:¬ (ps.length:Int)<1:=by omega
 have HR:=hide hr
 obtain⟨res,hres⟩:∃r,selTo minS ps (ps.length-1)=r:=⟨_,rfl⟩
 rw[hres]
 have oU:=hide hres
 obtain⟨p1,p2⟩:=p
 dsimp only at g0 g1
 clear hr hp hpp hres
 go_enter Tryz.func169,Tryz.ntmps169
 go_wp2_with fail
 refine eG ?_
 intro W0 hW
 have hg0:Grew w W0:=by rw[<-hW];exact gw
 have hb0:W0.heap[w.heap.size+1]?=some (.cells #[.int .i64 p1,.int .i64 p2] 28 (0,0)):=by rw[<-hW];exact az _ _ _ (by simp)
 have hz0:W0.heap.size=w.heap.size+2:=by rw[<-hW];simp
 have mJ:W0.heap[w.heap.size]?=some (.cells #[.int .i64 0,.int .i64 0] 28 (0,0)):=by
  rw[<-hW]
  exact (heap_alloc_old _ _ (by simp)).trans (heap_alloc_new _ _)
 have lQ:=hide hg0
 have HB0:=hide hb0
 have HB9:=hide mJ
 clear hW hg0 hb0 mJ hix0 g0 g1 hA hb
 go_loopw [6] (fun i wr=>∃k:Nat,1<=k/\k<=ps.length/\i=.int .i64 k/\W0.grownBy wr (some (w.heap.size+1))/\wr.heap[w.heap.size+1]?=some (.cells #[.int .i64 (selTo minS ps (k-1)).1,.int .i64 (selTo minS ps (k-1)).2] 28 (0,0))) (fun i _=>ps.length-(intOf i).toNat)
 case atStart=>exact⟨1,Nat.le_refl _,by omega,rfl,jo _ _,by rw[show selTo minS ps (1-1)=(p1,p2) from HPP.out];exact HB0.out⟩
 case round =>
  obtain⟨k,hk1,hk,rfl,hgr,hbx⟩:=hrel
  have hz:=hgr.size
  have hwr:Below w.heap.size w wr:=lQ.out.below.grown hgr lQ.out.below.size (fun j e=>by cases e;omega)
  have hrd:=HR.out.below hwr
  obtain⟨m,hm0⟩:∃m,selTo minS ps (k-1)=m:=⟨_,rfl⟩
  have c0:=ag hbx 0
  have c1:=ag hbx 1
  have f0:=bD hbx 0
  have f1:=bD hbx 1
  have lb:=ax hbx
  have JF:=hide hgr
  have HWR:=hide hwr
  by_cases hlt:k<ps.length
  ·have hp:=fB hlt
   have hst:selTo minS ps (k+1-1)=if minS (ai ps k) m=true then ai ps k else m:=by
    rw[<-hm0,show k+1-1=(k-1)+1 by omega]
    show (if minS (ai ps (k-1+1)) (selTo minS ps (k-1))=true then ai ps (k-1+1) else selTo minS ps (k-1))=_
    rw[show k-1+1=k by omega]
   obtain⟨x,hx⟩:∃x,ai ps k=x:=⟨_,rfl⟩
   rw[hm0] at hbx c0 c1
   rw[hx] at hp hst
   obtain⟨b,off,hA,hb,g0,g1⟩:=rD hrd hp
   have hix:=aJ (cap:=c) Tryz.underlying62 Tryz.sizeOf28 hA.out hlt
   have lbb:b<wr.heap.size:=by omega
   have hne:¬ b=w.heap.size+1:=by omega
   have kc:=hide (fun W=>Am x m W)
   obtain⟨x1,x2⟩:=x
   obtain⟨m1,m2⟩:=m
   dsimp only at g0 g1 c0 c1 kc
   have mG:=hide hbx
   have HST:=hide hst
   clear hp hx hm0 hrd hwr hgr hbx hst
   obtain⟨cv,hcv⟩:∃v,minS (x1,x2) (m1,m2)=v:=⟨_,rfl⟩
   have hcv2:=hcv
   unfold minS at hcv2
   rw[hcv] at HST
   clear hcv
   cases cv
   ·simp only[decide_eq_false_iff_not] at hcv2
    rw[if_neg (by simp)] at HST
    go_wp2_with fail
    refine ay 8 [] [] hm (h:=?_)
    repeat (refine au (fun K hK=>?_);go_simp;first|(refine hK _ ?_;clear hK K)|(apply Exists.intro;refine⟨fun _=>?_,hK _ ?_⟩;(go_at_call 108;with_reducible exact kc.out _);clear hK K))
    refine kZ fun nq osq=>?_
    try simp only[Act.put,aG]
    try dsimp only
    go_wp2_with fail
    go_roundw
    case rel=>exact⟨k+1,by omega,by omega,by go_num,pG JF.out _ _,by rw[HST.out];exact (heap_grow_old _ _ (by simpa[bQ] using lb)).trans mG.out⟩
    case measure=>simp[intOf];omega
   ·simp only[decide_eq_true_eq] at hcv2
    rw[if_pos rfl] at HST
    go_wp2_with fail
    refine ay 8 [] [] hm (h:=?_)
    repeat (refine au (fun K hK=>?_);go_simp;first|(refine hK _ ?_;clear hK K)|(apply Exists.intro;refine⟨fun _=>?_,hK _ ?_⟩;(go_at_call 108;with_reducible exact kc.out _);clear hK K))
    refine kZ fun nq osq=>?_
    try simp only[Act.put,aG]
    try dsimp only
    go_wp2_with fail
    go_roundw
    case rel=>exact⟨k+1,by omega,by omega,by go_num,pG (jQ (jQ JF.out _ _) _ _) _ _,by rw[HST.out];exact (heap_grow_old _ _ (by simpa[bQ] using lb)).trans (qI mG.out)⟩
    case measure=>simp[intOf];omega
  ·obtain rfl:k=ps.length:=by omega
   rw[oU.out] at hbx c0 c1
   have mJ:=(hgr.block w.heap.size (by omega) (by simp)).trans HB9.out
   have r0:=ag mJ 0
   have r1:=ag mJ 1
   have rf0:=bD mJ 0
   have rf1:=bD mJ 1
   have lr:=ax mJ
   obtain⟨z1,z2⟩:=res
   dsimp only at c0 c1
   have e1:(wr.setCell ⟨w.heap.size,0,none⟩ (.int .i64 z1)).cell? ⟨w.heap.size,0,none⟩=some (.int .i64 z1):=by rw[World.cell?_setCell_same' _ _ _ (by rw[r0];rfl)]
   have e2:((wr.setCell ⟨w.heap.size,0,none⟩ (.int .i64 z1)).setCell ⟨w.heap.size,1,none⟩ (.int .i64 z2)).cell? ⟨w.heap.size,1,none⟩=some (.int .i64 z2):=ag (qI mJ) 1
   clear hbx hgr hwr hrd mJ hm0
   go_wp2_with fail
   refine bodyPost_ret (v:=pt z1 z2) (by simp[results,Tryz.results169,go_sem,e1,e2]) rfl ?_
   exact aB.mk' rfl (Grew.of_below ((HWR.out.setCell (p:=⟨w.heap.size,0,none⟩) (Nat.le_refl _) _).setCell (p:=⟨w.heap.size,1,none⟩) (Nat.le_refl _) _))
theorem VG (ps:List Pt)(A:Option Addr)(c:Nat)(w:World)(hr:Rd w w.heap.size 2 A (ps.map dU))(h0:0<ps.length)(hl:ps.length<=100000000000000) :
  Calls Tryz.prog 170 #[.slice A ps.length c,.func (.func 108) #[] #[]] w (aB w (pt (selTo maxS ps (ps.length-1)).1 (selTo maxS ps (ps.length-1)).2)):=by
 have hm:=aQ
 have hp:=fB h0
 obtain⟨p,hpp⟩:∃p,ai ps 0=p:=⟨_,rfl⟩
 have HPP:=hide hpp
 rw[hpp] at hp
 obtain⟨b,off,hA,hb,g0,g1⟩:=rD hr hp
 rw[show off+0*2=off by omega] at g0 g1
 have hix0:=oG (cap:=c) Tryz.underlying62 Tryz.sizeOf28 hA.out h0
 have hn1:¬ (ps.length:Int)<1:=by omega
 have HR:=hide hr
 obtain⟨res,hres⟩:∃r,selTo maxS ps (ps.length-1)=r:=⟨_,rfl⟩
 rw[hres]
 have oU:=hide hres
 obtain⟨p1,p2⟩:=p
 dsimp only at g0 g1
 clear hr hp hpp hres
 go_enter Tryz.func170,Tryz.ntmps170
 go_wp2_with fail
 refine eG ?_
 intro W0 hW
 have hg0:Grew w W0:=by rw[<-hW];exact gw
 have hb0:W0.heap[w.heap.size+1]?=some (.cells #[.int .i64 p1,.int .i64 p2] 28 (0,0)):=by rw[<-hW];exact az _ _ _ (by simp)
 have hz0:W0.heap.size=w.heap.size+2:=by rw[<-hW];simp
 have mJ:W0.heap[w.heap.size]?=some (.cells #[.int .i64 0,.int .i64 0] 28 (0,0)):=by
  rw[<-hW]
  exact (heap_alloc_old _ _ (by simp)).trans (heap_alloc_new _ _)
 have lQ:=hide hg0
 have HB0:=hide hb0
 have HB9:=hide mJ
 clear hW hg0 hb0 mJ hix0 g0 g1 hA hb
 go_loopw [6] (fun i wr=>∃k:Nat,1<=k/\k<=ps.length/\i=.int .i64 k/\W0.grownBy wr (some (w.heap.size+1))/\wr.heap[w.heap.size+1]?=some (.cells #[.int .i64 (selTo maxS ps (k-1)).1,.int .i64 (selTo maxS ps (k-1)).2] 28 (0,0))) (fun i _=>ps.length-(intOf i).toNat)
 case atStart=>exact⟨1,Nat.le_refl _,by omega,rfl,jo _ _,by rw[show selTo maxS ps (1-1)=(p1,p2) from HPP.out];exact HB0.out⟩
 case round =>
  obtain⟨k,hk1,hk,rfl,hgr,hbx⟩:=hrel
  have hz:=hgr.size
  have hwr:Below w.heap.size w wr:=lQ.out.below.grown hgr lQ.out.below.size (fun j e=>by cases e;omega)
  have hrd:=HR.out.below hwr
  obtain⟨m,hm0⟩:∃m,selTo maxS ps (k-1)=m:=⟨_,rfl⟩
  have c0:=ag hbx 0
  have c1:=ag hbx 1
  have f0:=bD hbx 0
  have f1:=bD hbx 1
  have lb:=ax hbx
  have JF:=hide hgr
  have HWR:=hide hwr
  by_cases hlt:k<ps.length
  ·have hp:=fB hlt
   have hst:selTo maxS ps (k+1-1)=if maxS (ai ps k) m=true then ai ps k else m:=by
    rw[<-hm0,show k+1-1=(k-1)+1 by omega]
    show (if maxS (ai ps (k-1+1)) (selTo maxS ps (k-1))=true then ai ps (k-1+1) else selTo maxS ps (k-1))=_
    rw[show k-1+1=k by omega]
   obtain⟨x,hx⟩:∃x,ai ps k=x:=⟨_,rfl⟩
   rw[hm0] at hbx c0 c1
   rw[hx] at hp hst
   obtain⟨b,off,hA,hb,g0,g1⟩:=rD hrd hp
   have hix:=aJ (cap:=c) Tryz.underlying62 Tryz.sizeOf28 hA.out hlt
   have lbb:b<wr.heap.size:=by omega
   have hne:¬ b=w.heap.size+1:=by omega
   have kc:=hide (fun W=>Am x m W)
   obtain⟨x1,x2⟩:=x
   obtain⟨m1,m2⟩:=m
   dsimp only at g0 g1 c0 c1 kc
   have mG:=hide hbx
   have HST:=hide hst
   clear hp hx hm0 hrd hwr hgr hbx hst
   obtain⟨cv,hcv⟩:∃v,maxS (x1,x2) (m1,m2)=v:=⟨_,rfl⟩
   have hcv2:=hcv
   unfold maxS at hcv2
   rw[hcv] at HST
   clear hcv
   cases cv
   ·simp only[decide_eq_false_iff_not] at hcv2
    rw[if_neg (by simp)] at HST
    go_wp2_with fail
    refine ay 8 [] [] hm (h:=?_)
    repeat (refine au (fun K hK=>?_);go_simp;first|(refine hK _ ?_;clear hK K)|(apply Exists.intro;refine⟨fun _=>?_,hK _ ?_⟩;(go_at_call 108;with_reducible exact kc.out _);clear hK K))
    refine kZ fun nq osq=>?_
    try simp only[Act.put,aG]
    try dsimp only
    go_wp2_with fail
    go_roundw
    case rel=>exact⟨k+1,by omega,by omega,by go_num,pG JF.out _ _,by rw[HST.out];exact (heap_grow_old _ _ (by simpa[bQ] using lb)).trans mG.out⟩
    case measure=>simp[intOf];omega
   ·simp only[decide_eq_true_eq] at hcv2
    rw[if_pos rfl] at HST
    go_wp2_with fail
    refine ay 8 [] [] hm (h:=?_)
    repeat (refine au (fun K hK=>?_);go_simp;first|(refine hK _ ?_;clear hK K)|(apply Exists.intro;refine⟨fun _=>?_,hK _ ?_⟩;(go_at_call 108;with_reducible exact kc.out _);clear hK K))
    refine kZ fun nq osq=>?_
    try simp only[Act.put,aG]
    try dsimp only
    go_wp2_with fail
    go_roundw
    case rel=>exact⟨k+1,by omega,by omega,by go_num,pG (jQ (jQ JF.out _ _) _ _) _ _,by rw[HST.out];exact (heap_grow_old _ _ (by simpa[bQ] using lb)).trans (qI mG.out)⟩
    case measure=>simp[intOf];omega
  ·obtain rfl:k=ps.length:=by omega
   rw[oU.out] at hbx c0 c1
   have mJ:=(hgr.block w.heap.size (by omega) (by simp)).trans HB9.out
   have r0:=ag mJ 0
   have r1:=ag mJ 1
   have rf0:=bD mJ 0
   have rf1:=bD mJ 1
   have lr:=ax mJ
   obtain⟨z1,z2⟩:=res
   dsimp only at c0 c1
   have e1:(wr.setCell ⟨w.heap.size,0,none⟩ (.int .i64 z1)).cell? ⟨w.heap.size,0,none⟩=some (.int .i64 z1):=by rw[World.cell?_setCell_same' _ _ _ (by rw[r0];rfl)]
   have e2:((wr.setCell ⟨w.heap.size,0,none⟩ (.int .i64 z1)).setCell ⟨w.heap.size,1,none⟩ (.int .i64 z2)).cell? ⟨w.heap.size,1,none⟩=some (.int .i64 z2):=ag (qI mJ) 1
   clear hbx hgr hwr hrd mJ hm0
   go_wp2_with fail
   refine bodyPost_ret (v:=pt z1 z2) (by simp[results,Tryz.results170,go_sem,e1,e2]) rfl ?_
   exact aB.mk' rfl (Grew.of_below ((HWR.out.setCell (p:=⟨w.heap.size,0,none⟩) (Nat.le_refl _) _).setCell (p:=⟨w.heap.size,1,none⟩) (Nat.le_refl _) _))
theorem Vx (ps:List Pt)(A:Option Addr)(c:Nat)(w:World)(hr:Rd w w.heap.size 2 A (ps.map dU))(h0:0<ps.length)(hl:ps.length<=100000000000000) :
  Calls Tryz.prog 169 #[.slice A ps.length c,.func (.func 171) #[] #[]] w (aB w (pt (selTo rF ps (ps.length-1)).1 (selTo rF ps (ps.length-1)).2)):=by
 have hm:=aQ
 have hp:=fB h0
 obtain⟨p,hpp⟩:∃p,ai ps 0=p:=⟨_,rfl⟩
 have HPP:=hide hpp
 rw[hpp] at hp
 obtain⟨b,off,hA,hb,g0,g1⟩:=rD hr hp
 rw[show off+0*2=off by omega] at g0 g1
 have hix0:=oG (cap:=c) Tryz.underlying62 Tryz.sizeOf28 hA.out h0
 have hn1:¬ (ps.length:Int)<1:=by omega
 have HR:=hide hr
 obtain⟨res,hres⟩:∃r,selTo rF ps (ps.length-1)=r:=⟨_,rfl⟩
 rw[hres]
 have oU:=hide hres
 obtain⟨p1,p2⟩:=p
 dsimp only at g0 g1
 clear hr hp hpp hres
 go_enter Tryz.func169,Tryz.ntmps169
 go_wp2_with fail
 refine eG ?_
 intro W0 hW
 have hg0:Grew w W0:=by rw[<-hW];exact gw
 have hb0:W0.heap[w.heap.size+1]?=some (.cells #[.int .i64 p1,.int .i64 p2] 28 (0,0)):=by rw[<-hW];exact az _ _ _ (by simp)
 have hz0:W0.heap.size=w.heap.size+2:=by rw[<-hW];simp
 have mJ:W0.heap[w.heap.size]?=some (.cells #[.int .i64 0,.int .i64 0] 28 (0,0)):=by
  rw[<-hW]
  exact (heap_alloc_old _ _ (by simp)).trans (heap_alloc_new _ _)
 have lQ:=hide hg0
 have HB0:=hide hb0
 have HB9:=hide mJ
 clear hW hg0 hb0 mJ hix0 g0 g1 hA hb
 go_loopw [6] (fun i wr=>∃k:Nat,1<=k/\k<=ps.length/\i=.int .i64 k/\W0.grownBy wr (some (w.heap.size+1))/\wr.heap[w.heap.size+1]?=some (.cells #[.int .i64 (selTo rF ps (k-1)).1,.int .i64 (selTo rF ps (k-1)).2] 28 (0,0))) (fun i _=>ps.length-(intOf i).toNat)
 case atStart=>exact⟨1,Nat.le_refl _,by omega,rfl,jo _ _,by rw[show selTo rF ps (1-1)=(p1,p2) from HPP.out];exact HB0.out⟩
 case round =>
  obtain⟨k,hk1,hk,rfl,hgr,hbx⟩:=hrel
  have hz:=hgr.size
  have hwr:Below w.heap.size w wr:=lQ.out.below.grown hgr lQ.out.below.size (fun j e=>by cases e;omega)
  have hrd:=HR.out.below hwr
  obtain⟨m,hm0⟩:∃m,selTo rF ps (k-1)=m:=⟨_,rfl⟩
  have c0:=ag hbx 0
  have c1:=ag hbx 1
  have f0:=bD hbx 0
  have f1:=bD hbx 1
  have lb:=ax hbx
  have JF:=hide hgr
  have HWR:=hide hwr
  by_cases hlt:k<ps.length
  ·have hp:=fB hlt
   have hst:selTo rF ps (k+1-1)=if rF (ai ps k) m=true then ai ps k else m:=by
    rw[<-hm0,show k+1-1=(k-1)+1 by omega]
    show (if rF (ai ps (k-1+1)) (selTo rF ps (k-1))=true then ai ps (k-1+1) else selTo rF ps (k-1))=_
    rw[show k-1+1=k by omega]
   obtain⟨x,hx⟩:∃x,ai ps k=x:=⟨_,rfl⟩
   rw[hm0] at hbx c0 c1
   rw[hx] at hp hst
   obtain⟨b,off,hA,hb,g0,g1⟩:=rD hrd hp
   have hix:=aJ (cap:=c) Tryz.underlying62 Tryz.sizeOf28 hA.out hlt
   have lbb:b<wr.heap.size:=by omega
   have hne:¬ b=w.heap.size+1:=by omega
   have kc:=hide (fun W=>Qq x m W)
   obtain⟨x1,x2⟩:=x
   obtain⟨m1,m2⟩:=m
   dsimp only at g0 g1 c0 c1 kc
   have mG:=hide hbx
   have HST:=hide hst
   clear hp hx hm0 hrd hwr hgr hbx hst
   obtain⟨cv,hcv⟩:∃v,rF (x1,x2) (m1,m2)=v:=⟨_,rfl⟩
   have hcv2:=hcv
   unfold rF at hcv2
   rw[hcv] at HST
   clear hcv
   cases cv
   ·simp only[decide_eq_false_iff_not] at hcv2
    rw[if_neg (by simp)] at HST
    go_wp2_with fail
    refine ay 8 [] [] hm (h:=?_)
    repeat (refine au (fun K hK=>?_);go_simp;first|(refine hK _ ?_;clear hK K)|(apply Exists.intro;refine⟨fun _=>?_,hK _ ?_⟩;(go_at_call 171;with_reducible exact kc.out _);clear hK K))
    refine kZ fun nq osq=>?_
    try simp only[Act.put,aG]
    try dsimp only
    go_wp2_with fail
    go_roundw
    case rel=>exact⟨k+1,by omega,by omega,by go_num,pG JF.out _ _,by rw[HST.out];exact (heap_grow_old _ _ (by simpa[bQ] using lb)).trans mG.out⟩
    case measure=>simp[intOf];omega
   ·simp only[decide_eq_true_eq] at hcv2
    rw[if_pos rfl] at HST
    go_wp2_with fail
    refine ay 8 [] [] hm (h:=?_)
    repeat (refine au (fun K hK=>?_);go_simp;first|(refine hK _ ?_;clear hK K)|(apply Exists.intro;refine⟨fun _=>?_,hK _ ?_⟩;(go_at_call 171;with_reducible exact kc.out _);clear hK K))
    refine kZ fun nq osq=>?_
    try simp only[Act.put,aG]
    try dsimp only
    go_wp2_with fail
    go_roundw
    case rel=>exact⟨k+1,by omega,by omega,by go_num,pG (jQ (jQ JF.out _ _) _ _) _ _,by rw[HST.out];exact (heap_grow_old _ _ (by simpa[bQ] using lb)).trans (qI mG.out)⟩
    case measure=>simp[intOf];omega
  ·obtain rfl:k=ps.length:=by omega
   rw[oU.out] at hbx c0 c1
   have mJ:=(hgr.block w.heap.size (by omega) (by simp)).trans HB9.out
   have r0:=ag mJ 0
   have r1:=ag mJ 1
   have rf0:=bD mJ 0
   have rf1:=bD mJ 1
   have lr:=ax mJ
   obtain⟨z1,z2⟩:=res
   dsimp only at c0 c1
   have e1:(wr.setCell ⟨w.heap.size,0,none⟩ (.int .i64 z1)).cell? ⟨w.heap.size,0,none⟩=some (.int .i64 z1):=by rw[World.cell?_setCell_same' _ _ _ (by rw[r0];rfl)]
   have e2:((wr.setCell ⟨w.heap.size,0,none⟩ (.int .i64 z1)).setCell ⟨w.heap.size,1,none⟩ (.int .i64 z2)).cell? ⟨w.heap.size,1,none⟩=some (.int .i64 z2):=ag (qI mJ) 1
   clear hbx hgr hwr hrd mJ hm0
   go_wp2_with fail
   refine bodyPost_ret (v:=pt z1 z2) (by simp[results,Tryz.results169,go_sem,e1,e2]) rfl ?_
   exact aB.mk' rfl (Grew.of_below ((HWR.out.setCell (p:=⟨w.heap.size,0,none⟩) (Nat.le_refl _) _).setCell (p:=⟨w.heap.size,1,none⟩) (Nat.le_refl _) _))
theorem VD (ps:List Pt)(A:Option Addr)(c:Nat)(w:World)(hr:Rd w w.heap.size 2 A (ps.map dU))(h0:0<ps.length)(hl:ps.length<=100000000000000) :
  Calls Tryz.prog 170 #[.slice A ps.length c,.func (.func 171) #[] #[]] w (aB w (pt (selTo rG ps (ps.length-1)).1 (selTo rG ps (ps.length-1)).2)):=by
 have hm:=aQ
 have hp:=fB h0
 obtain⟨p,hpp⟩:∃p,ai ps 0=p:=⟨_,rfl⟩
 have HPP:=hide hpp
 rw[hpp] at hp
 obtain⟨b,off,hA,hb,g0,g1⟩:=rD hr hp
 rw[show off+0*2=off by omega] at g0 g1
 have hix0:=oG (cap:=c) Tryz.underlying62 Tryz.sizeOf28 hA.out h0
 have hn1:¬ (ps.length:Int)<1:=by omega
 have HR:=hide hr
 obtain⟨res,hres⟩:∃r,selTo rG ps (ps.length-1)=r:=⟨_,rfl⟩
 rw[hres]
 have oU:=hide hres
 obtain⟨p1,p2⟩:=p
 dsimp only at g0 g1
 clear hr hp hpp hres
 go_enter Tryz.func170,Tryz.ntmps170
 go_wp2_with fail
 refine eG ?_
 intro W0 hW
 have hg0:Grew w W0:=by rw[<-hW];exact gw
 have hb0:W0.heap[w.heap.size+1]?=some (.cells #[.int .i64 p1,.int .i64 p2] 28 (0,0)):=by rw[<-hW];exact az _ _ _ (by simp)
 have hz0:W0.heap.size=w.heap.size+2:=by rw[<-hW];simp
 have mJ:W0.heap[w.heap.size]?=some (.cells #[.int .i64 0,.int .i64 0] 28 (0,0)):=by
  rw[<-hW]
  exact (heap_alloc_old _ _ (by simp)).trans (heap_alloc_new _ _)
 have lQ:=hide hg0
 have HB0:=hide hb0
 have HB9:=hide mJ
 clear hW hg0 hb0 mJ hix0 g0 g1 hA hb
 go_loopw [6] (fun i wr=>∃k:Nat,1<=k/\k<=ps.length/\i=.int .i64 k/\W0.grownBy wr (some (w.heap.size+1))/\wr.heap[w.heap.size+1]?=some (.cells #[.int .i64 (selTo rG ps (k-1)).1,.int .i64 (selTo rG ps (k-1)).2] 28 (0,0))) (fun i _=>ps.length-(intOf i).toNat)
 case atStart=>exact⟨1,Nat.le_refl _,by omega,rfl,jo _ _,by rw[show selTo rG ps (1-1)=(p1,p2) from HPP.out];exact HB0.out⟩
 case round =>
  obtain⟨k,hk1,hk,rfl,hgr,hbx⟩:=hrel
  have hz:=hgr.size
  have hwr:Below w.heap.size w wr:=lQ.out.below.grown hgr lQ.out.below.size (fun j e=>by cases e;omega)
  have hrd:=HR.out.below hwr
  obtain⟨m,hm0⟩:∃m,selTo rG ps (k-1)=m:=⟨_,rfl⟩
  have c0:=ag hbx 0
  have c1:=ag hbx 1
  have f0:=bD hbx 0
  have f1:=bD hbx 1
  have lb:=ax hbx
  have JF:=hide hgr
  have HWR:=hide hwr
  by_cases hlt:k<ps.length
  ·have hp:=fB hlt
   have hst:selTo rG ps (k+1-1)=if rG (ai ps k) m=true then ai ps k else m:=by
    rw[<-hm0,show k+1-1=(k-1)+1 by omega]
    show (if rG (ai ps (k-1+1)) (selTo rG ps (k-1))=true then ai ps (k-1+1) else selTo rG ps (k-1))=_
    rw[show k-1+1=k by omega]
   obtain⟨x,hx⟩:∃x,ai ps k=x:=⟨_,rfl⟩
   rw[hm0] at hbx c0 c1
   rw[hx] at hp hst
   obtain⟨b,off,hA,hb,g0,g1⟩:=rD hrd hp
   have hix:=aJ (cap:=c) Tryz.underlying62 Tryz.sizeOf28 hA.out hlt
   have lbb:b<wr.heap.size:=by omega
   have hne:¬ b=w.heap.size+1:=by omega
   have kc:=hide (fun W=>Qq x m W)
   obtain⟨x1,x2⟩:=x
   obtain⟨m1,m2⟩:=m
   dsimp only at g0 g1 c0 c1 kc
   have mG:=hide hbx
   have HST:=hide hst
   clear hp hx hm0 hrd hwr hgr hbx hst
   obtain⟨cv,hcv⟩:∃v,rG (x1,x2) (m1,m2)=v:=⟨_,rfl⟩
   have hcv2:=hcv
   unfold rG at hcv2
   rw[hcv] at HST
   clear hcv
   cases cv
   ·simp only[decide_eq_false_iff_not] at hcv2
    rw[if_neg (by simp)] at HST
    go_wp2_with fail
    refine ay 8 [] [] hm (h:=?_)
    repeat (refine au (fun K hK=>?_);go_simp;first|(refine hK _ ?_;clear hK K)|(apply Exists.intro;refine⟨fun _=>?_,hK _ ?_⟩;(go_at_call 171;with_reducible exact kc.out _);clear hK K))
    refine kZ fun nq osq=>?_
    try simp only[Act.put,aG]
    try dsimp only
    go_wp2_with fail
    go_roundw
    case rel=>exact⟨k+1,by omega,by omega,by go_num,pG JF.out _ _,by rw[HST.out];exact (heap_grow_old _ _ (by simpa[bQ] using lb)).trans mG.out⟩
    case measure=>simp[intOf];omega
   ·simp only[decide_eq_true_eq] at hcv2
    rw[if_pos rfl] at HST
    go_wp2_with fail
    refine ay 8 [] [] hm (h:=?_)
    repeat (refine au (fun K hK=>?_);go_simp;first|(refine hK _ ?_;clear hK K)|(apply Exists.intro;refine⟨fun _=>?_,hK _ ?_⟩;(go_at_call 171;with_reducible exact kc.out _);clear hK K))
    refine kZ fun nq osq=>?_
    try simp only[Act.put,aG]
    try dsimp only
    go_wp2_with fail
    go_roundw
    case rel=>exact⟨k+1,by omega,by omega,by go_num,pG (jQ (jQ JF.out _ _) _ _) _ _,by rw[HST.out];exact (heap_grow_old _ _ (by simpa[bQ] using lb)).trans (qI mG.out)⟩
    case measure=>simp[intOf];omega
  ·obtain rfl:k=ps.length:=by omega
   rw[oU.out] at hbx c0 c1
   have mJ:=(hgr.block w.heap.size (by omega) (by simp)).trans HB9.out
   have r0:=ag mJ 0
   have r1:=ag mJ 1
   have rf0:=bD mJ 0
   have rf1:=bD mJ 1
   have lr:=ax mJ
   obtain⟨z1,z2⟩:=res
   dsimp only at c0 c1
   have e1:(wr.setCell ⟨w.heap.size,0,none⟩ (.int .i64 z1)).cell? ⟨w.heap.size,0,none⟩=some (.int .i64 z1):=by rw[World.cell?_setCell_same' _ _ _ (by rw[r0];rfl)]
   have e2:((wr.setCell ⟨w.heap.size,0,none⟩ (.int .i64 z1)).setCell ⟨w.heap.size,1,none⟩ (.int .i64 z2)).cell? ⟨w.heap.size,1,none⟩=some (.int .i64 z2):=ag (qI mJ) 1
   clear hbx hgr hwr hrd mJ hm0
   go_wp2_with fail
   refine bodyPost_ret (v:=pt z1 z2) (by simp[results,Tryz.results170,go_sem,e1,e2]) rfl ?_
   exact aB.mk' rfl (Grew.of_below ((HWR.out.setCell (p:=⟨w.heap.size,0,none⟩) (Nat.le_refl _) _).setCell (p:=⟨w.heap.size,1,none⟩) (Nat.le_refl _) _))
abbrev B4:=(Int×Int)×(Int×Int)
abbrev Xk (b:B4):Value:=.agg #[.int .i64 b.1.1,.int .i64 b.1.2,.int .i64 b.2.1,.int .i64 b.2.2]
def vS (s:Int×Int):Bool:=decide (-1000000000000<=s.1/\s.1<=s.2/\s.2<=1000000000000)
theorem Bl (a b:Int)(r:Bool)(w:World)(h:vS (a,b)=r) :
  Calls Tryz.prog 104 #[pt a b] w (aB w (.bool r)):=by
 have hm:=aQ
 have hcase:(r=false/\¬ -1000000000000<=a)\/(r=false/\-1000000000000<=a/\¬ a<=b)\/(-1000000000000<=a/\a<=b/\r=decide (b<=1000000000000)):=by
  rw[<-h]
  unfold vS
  by_cases h1:-1000000000000<=a
  ·by_cases h2:a<=b
   ·exact .inr (.inr ⟨h1,h2,by simp[h1,h2]⟩)
   ·exact .inr (.inl ⟨by simp[h2],h1,h2⟩)
  ·exact .inl ⟨by simp;omega,h1⟩
 clear h
 rcases hcase with⟨rfl,h1⟩|⟨rfl,h1,h2⟩|⟨h1,h2,rfl⟩
 all_goals
  go_enter Tryz.func104,Tryz.ntmps104
  go_wp2_with fail
  go_ret
  exact aB.mk' (by simp) gw
theorem Lr (a b:Int)(w:World) :
  Calls Tryz.prog 132 #[.int .i64 a,.int .i64 b] w (aB w (.tuple #[.int .i64 (min a b),.int .i64 (max a b)])):=by
 have hm:=aQ
 go_enter Tryz.func132,Tryz.ntmps132
 go_wp2_with fail
 all_goals go_ret2
 all_goals exact aB.mk' (by simp;omega) gw
def xB (s t:Int×Int):(Int×Int)×Int:=if (vS s&&vS t)=true then ((min s.1 t.1,max s.2 t.2),0) else ((0,0),1)
theorem XE (s t:Int×Int)(w:World) :
  Calls Tryz.prog 103 #[pt s.1 s.2,pt t.1 t.2] w (aB w (.tuple #[pt (xB s t).1.1 (xB s t).1.2,.int .i64 (xB s t).2])):=by
 have hm:=aQ
 unfold xB
 obtain⟨u,hu⟩:∃u,vS s=u:=⟨_,rfl⟩
 obtain⟨v,hv⟩:∃u,vS t=u:=⟨_,rfl⟩
 rw[hu,hv]
 have k1:=hide (fun W=>Bl s.1 s.2 u W hu)
 have k2:=hide (fun W=>Bl t.1 t.2 v W hv)
 have k3:=hide (fun W=>Lr s.1 t.1 W)
 have k4:=hide (fun W=>Lr s.2 t.2 W)
 obtain⟨s1,s2⟩:=s
 obtain⟨t1,t2⟩:=t
 dsimp only at *
 generalize min s1 t1=m1 at *
 generalize max s1 t1=m2 at *
 generalize min s2 t2=m3 at *
 generalize max s2 t2=m4 at *
 clear hu hv
 cases u
 ·simp only[Bool.false_and,Bool.false_eq_true,if_false]
  go_enter Tryz.func103,Tryz.ntmps103
  go_wp2_with (go_at_call 104;with_reducible refine aT (k1.out _) fun _ _=>?_;dsimp only)
  refine bodyPost_ret (v:=.tuple #[pt 0 0,.int .i64 1]) (by simp[results,Tryz.results103,go_sem]) rfl ?_
  exact aB.mk' rfl gw
 ·cases v
  ·simp only[Bool.true_and,Bool.false_eq_true,if_false]
   go_enter Tryz.func103,Tryz.ntmps103
   go_wp2_with ((go_at_call 104;first|with_reducible refine (k1.out _).mono ?_|with_reducible refine (k2.out _).mono ?_);rintro e w' ⟨rfl,⟨_,_⟩,rfl⟩;dsimp only)
   refine bodyPost_ret (v:=.tuple #[pt 0 0,.int .i64 1]) (by simp[results,Tryz.results103,go_sem]) rfl ?_
   exact aB.mk' rfl gw
  ·simp only[Bool.true_and,if_true]
   go_enter Tryz.func103,Tryz.ntmps103
   go_wp2_with (first|((go_at_call 104;first|with_reducible refine (k1.out _).mono ?_|with_reducible refine (k2.out _).mono ?_);rintro e w' ⟨rfl,⟨_,_⟩,rfl⟩;dsimp only)|((go_at_call 132;first|with_reducible refine (k3.out _).mono ?_|with_reducible refine (k4.out _).mono ?_);rintro e w' ⟨rfl,⟨_,_⟩,rfl⟩;dsimp only))
   refine bodyPost_ret (v:=.tuple #[pt m1 m4,.int .i64 0]) (by simp[results,Tryz.results103,go_sem]) rfl ?_
   exact aB.mk' rfl gw
def lS (s t:Int×Int):Bool×Int:=((xB s t).2==0&&((xB s t).1.1==t.1&&(xB s t).1.2==t.2),(xB s t).2)
theorem E5 (s t:Int×Int)(w:World) :
  Calls Tryz.prog 82 #[pt s.1 s.2,pt t.1 t.2] w (aB w (.tuple #[.bool (lS s t).1,.int .i64 (lS s t).2])):=by
 have hm:=aQ
 have k1:=hide (fun W=>XE s t W)
 unfold lS
 obtain⟨⟨⟨j1,j2⟩,e⟩,hj⟩:∃j,xB s t=j:=⟨_,rfl⟩
 rw[hj] at k1 ⊢
 obtain⟨s1,s2⟩:=s
 obtain⟨t1,t2⟩:=t
 dsimp only at *
 clear hj
 by_cases he:e=0
 ·subst he
  go_enter Tryz.func82,Tryz.ntmps82
  go_wp2_with (go_at_call 103;with_reducible refine aT (k1.out _) fun _ _=>?_;dsimp only)
  all_goals go_ret2
  all_goals exact aB.mk' (by simp[*]) gw
 ·have he':¬ (e==0)=true:=by simpa using he
  go_enter Tryz.func82,Tryz.ntmps82
  go_wp2_with (go_at_call 103;with_reducible refine aT (k1.out _) fun _ _=>?_;dsimp only)
  all_goals go_ret2
  all_goals exact aB.mk' (by simp[*]) gw
def Ya (b:B4):Bool:=(lS b.1 (-1000000,1000000)).2==0&&((lS b.2 (-1000000,1000000)).2==0&&((lS b.1 (-1000000,1000000)).1&&(lS b.2 (-1000000,1000000)).1))
theorem OD (b:B4)(r:Bool)(w:World)(h:Ya b=r) :
  Calls Tryz.prog 46 #[Xk b] w (aB w (.bool r)):=by
 have hm:=aQ
 have k1:=hide (fun W=>E5 b.1 (-1000000,1000000) W)
 have k2:=hide (fun W=>E5 b.2 (-1000000,1000000) W)
 unfold Ya at h
 obtain⟨⟨x,e⟩,hx⟩:∃j,lS b.1 (-1000000,1000000)=j:=⟨_,rfl⟩
 obtain⟨⟨y,f⟩,hy⟩:∃j,lS b.2 (-1000000,1000000)=j:=⟨_,rfl⟩
 rw[hx] at k1 h
 rw[hy] at k2 h
 obtain⟨⟨b1,b2⟩,⟨b3,b4⟩⟩:=b
 dsimp only at *
 have hcase:(e≠0/\r=false)\/(e=0/\f≠0/\r=false)\/(e=0/\f=0/\x=false/\r=false)\/(e=0/\f=0/\x=true/\r=y):=by
  subst h
  by_cases h1:e=0
  ·by_cases h2:f=0
   ·cases x
    ·exact .inr (.inr (.inl ⟨h1,h2,rfl,by simp⟩))
    ·exact .inr (.inr (.inr ⟨h1,h2,rfl,by simp[h1,h2]⟩))
   ·exact .inr (.inl ⟨h1,h2,by simp[h2]⟩)
  ·exact .inl ⟨h1,by simp[h1]⟩
 clear h hx hy
 rcases hcase with⟨h1,rfl⟩|⟨rfl,h2,rfl⟩|⟨rfl,rfl,rfl,rfl⟩|⟨rfl,rfl,rfl,rfl⟩
 ·have h1':¬ (e==0)=true:=by simpa using h1
  go_enter Tryz.func46,Tryz.ntmps46
  go_wp2_with ((go_at_call 82;first|with_reducible refine (k1.out _).mono ?_|with_reducible refine (k2.out _).mono ?_);rintro e w' ⟨rfl,⟨_,_⟩,rfl⟩;dsimp only)
  go_ret
  exact aB.mk' (by simp) gw
 ·have h2':¬ (f==0)=true:=by simpa using h2
  go_enter Tryz.func46,Tryz.ntmps46
  go_wp2_with ((go_at_call 82;first|with_reducible refine (k1.out _).mono ?_|with_reducible refine (k2.out _).mono ?_);rintro e w' ⟨rfl,⟨_,_⟩,rfl⟩;dsimp only)
  go_ret
  exact aB.mk' (by simp) gw
 ·go_enter Tryz.func46,Tryz.ntmps46
  go_wp2_with ((go_at_call 82;first|with_reducible refine (k1.out _).mono ?_|with_reducible refine (k2.out _).mono ?_);rintro e w' ⟨rfl,⟨_,_⟩,rfl⟩;dsimp only)
  go_ret
  exact aB.mk' (by simp) gw
 ·go_enter Tryz.func46,Tryz.ntmps46
  go_wp2_with ((go_at_call 82;first|with_reducible refine (k1.out _).mono ?_|with_reducible refine (k2.out _).mono ?_);rintro e w' ⟨rfl,⟨_,_⟩,rfl⟩;dsimp only)
  go_ret
  exact aB.mk' (by simp) gw
def okB (b:B4):Bool:=decide ((-1000000<=b.1.1/\b.1.1<=b.1.2/\b.1.2<=1000000)/\(-1000000<=b.2.1/\b.2.1<=b.2.2/\b.2.2<=1000000))
theorem Bf (s:Int×Int):((lS s (-1000000,1000000)).2=0/\(lS s (-1000000,1000000)).1=true)↔(-1000000<=s.1/\s.1<=s.2/\s.2<=1000000):=by
 unfold lS xB
 by_cases h:vS s=true
 ·have h9:vS (-1000000,1000000)=true:=by decide
  rw[h,h9]
  simp[vS] at h ⊢
  omega
 ·rw[Bool.not_eq_true] at h
  rw[h]
  simp[vS] at h ⊢
  omega
theorem X9 (b:B4):Ya b=okB b:=by
 rw[Bool.eq_iff_iff]
 unfold Ya okB
 rw[decide_eq_true_eq,<-Bf b.1,<-Bf b.2]
 simp only[Bool.and_eq_true,beq_iff_eq]
 constructor
 ·exact fun ⟨a,b,c,d⟩=>⟨⟨a,c⟩,b,d⟩
 ·exact fun ⟨⟨a,c⟩,b,d⟩=>⟨a,b,c,d⟩
theorem wG (b:B4)(r:Bool)(w:World)(h:okB b=r) :
  Calls Tryz.prog 46 #[Xk b] w (aB w (.bool r)):=OD b r w (by rw[X9,h])
def qA (ps:List Pt):B4:=(((selTo minS ps (ps.length-1)).1,(selTo maxS ps (ps.length-1)).1),((selTo rF ps (ps.length-1)).2,(selTo rG ps (ps.length-1)).2))
def uT (ps:List Pt):B4×Int:=if di ps=true then (qA ps,0) else (((0,0),(0,0)),1)
theorem aai (ps:List Pt)(A:Option Addr)(c:Nat)(w:World)(hr:Rd w w.heap.size 2 A (ps.map dU))(hc:ps.length<=100000000000000) :
  Calls Tryz.prog 148 #[.slice A ps.length c] w (aB w (.tuple #[Xk (uT ps).1,.int .i64 (uT ps).2])):=by
 have hm:=aQ
 unfold uT
 obtain⟨v,hv⟩:∃u,di ps=u:=⟨_,rfl⟩
 have k2:=hide (fun W (hg:Grew w W)=>jJ ps A c v W (hr.up hg) hc hv)
 rw[hv]
 cases v
 ·clear hv
  rw[if_neg (by simp)]
  go_enter Tryz.func148,Tryz.ntmps148
  go_wp2_with (go_at_call 88;with_reducible refine aT (k2.out _ gw) fun _ _=>?_;dsimp only)
  refine bodyPost_ret (v:=.tuple #[Xk ((0,0),(0,0)),.int .i64 1]) (by simp[results,Tryz.results148,go_sem]) rfl ?_
  exact aB.mk' rfl gw
 ·have hp:=jV hv
  have hl:0<ps.length:=by omega
  have q1:=hide (fun W (hg:Grew w W)=>VA ps A c W (hr.up hg) hl hc)
  have q2:=hide (fun W (hg:Grew w W)=>VG ps A c W (hr.up hg) hl hc)
  have q3:=hide (fun W (hg:Grew w W)=>Vx ps A c W (hr.up hg) hl hc)
  have q4:=hide (fun W (hg:Grew w W)=>VD ps A c W (hr.up hg) hl hc)
  rw[if_pos rfl]
  unfold qA
  generalize selTo minS ps (ps.length-1)=a at *
  generalize selTo maxS ps (ps.length-1)=b at *
  generalize selTo rF ps (ps.length-1)=d at *
  generalize selTo rG ps (ps.length-1)=e at *
  obtain⟨a1,a2⟩:=a
  obtain⟨b1,b2⟩:=b
  obtain⟨d1,d2⟩:=d
  obtain⟨e1,e2⟩:=e
  clear hp hv hr
  go_enter Tryz.func148,Tryz.ntmps148
  go_wp2_with (first|(go_at_call 88;with_reducible refine aT (k2.out _ gw) fun _ _=>?_;dsimp only)|(go_at_call 169;(first|with_reducible refine (q1.out _ gw).mono ?_|with_reducible refine (q3.out _ gw).mono ?_);rintro e w' ⟨rfl,⟨_,_⟩,rfl⟩;dsimp only)|(go_at_call 170;(first|with_reducible refine (q2.out _ gw).mono ?_|with_reducible refine (q4.out _ gw).mono ?_);rintro e w' ⟨rfl,⟨_,_⟩,rfl⟩;dsimp only))
  refine bodyPost_ret (v:=.tuple #[Xk ((a1,b1),(d2,e2)),.int .i64 0]) (by simp[results,Tryz.results148,go_sem]) rfl ?_
  exact aB.mk' rfl gw
def dQ (b:B4):List Pt:=[(b.1.1,b.2.1),(b.1.2,b.2.1),(b.1.2,b.2.2),(b.1.1,b.2.2)]
def l9 (b:B4):List Pt×Int:=if okB b=true then (if b.1.1=b.1.2\/b.2.1=b.2.2 then ([],4) else (dQ b,0)) else ([],1)
theorem Md (b:B4)(w:World):Calls Tryz.prog 39 #[Xk b] w (aeL w (l9 b)):=by
 have hm:=aQ
 unfold l9
 obtain⟨u,hu⟩:∃u,okB b=u:=⟨_,rfl⟩
 have k1:=hide (fun W=>wG b u W hu)
 rw[hu]
 cases u
 ·obtain⟨⟨b1,b2⟩,⟨b3,b4⟩⟩:=b
  rw[if_neg (by simp)]
  clear hu
  go_enter Tryz.func39,Tryz.ntmps39
  go_wp2_with (go_at_call 46;with_reducible refine aT (k1.out _) fun _ _=>?_;dsimp only)
  go_ret2
  exact⟨_,rfl,World.ownsRow_nil _ _ _ _,gw⟩
 ·rw[if_pos rfl]
  obtain⟨⟨b1,b2⟩,⟨b3,b4⟩⟩:=b
  clear hu
  dsimp only
  by_cases h1:b1=b2
  ·subst h1
   rw[if_pos (.inl rfl)]
   go_enter Tryz.func39,Tryz.ntmps39
   go_wp2_with (go_at_call 46;with_reducible refine aT (k1.out _) fun _ _=>?_;dsimp only)
   go_ret2
   exact⟨_,rfl,World.ownsRow_nil _ _ _ _,gw⟩
  ·have e1:(b1==b2)=false:=by simpa using h1
   by_cases h2:b3=b4
   ·subst h2
    rw[if_pos (.inr rfl)]
    go_enter Tryz.func39,Tryz.ntmps39
    go_wp2_with (go_at_call 46;with_reducible refine aT (k1.out _) fun _ _=>?_;dsimp only)
    go_ret2
    exact⟨_,rfl,World.ownsRow_nil _ _ _ _,gw⟩
   ·have e2:(b3==b4)=false:=by simpa using h2
    rw[if_neg (by omega)]
    go_enter Tryz.func39,Tryz.ntmps39
    go_wp2_with (go_at_call 46;(with_reducible refine (k1.out _).mono ?_);rintro e w' ⟨rfl,⟨n5,Fh⟩,rfl⟩;dsimp only)
    go_ret2
    have h:=World.ownsRow_lit (base:=w.heap.size) (e:=28) (size:=2) (grow (dr (w.alloc (.cells #[.int .i64 b1,.int .i64 b2,.int .i64 b3,.int .i64 b4] 50)) n5) Fh) #[.int .i64 b1,.int .i64 b3,.int .i64 b2,.int .i64 b3,.int .i64 b2,.int .i64 b4,.int .i64 b1,.int .i64 b4] 4 (Grew.below (w:=w) gw).size (by unfold maxLen;omega) rfl
    rw[size_grow,bQ,World.mr] at h
    exact⟨_,rfl,h,gw⟩
end Go.Proofs.YtlkgjmnjhifehaaGreat
