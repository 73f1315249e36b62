
import Derived.Test.YtlkgjmnjhifehaaGreatPod
import Derived.Test.YtlkgjmnjhifehaaGreatFeA
set_option linter.unusedSimpArgs false
set_option linter.unusedVariables false
set_option maxHeartbeats 4000000
set_option maxRecDepth 100000
namespace Go.Proofs.YtlkgjmnjhifehaaGreat
open Go.RowKit Go.Sort
attribute [local go_sem] dA steadyUpon
attribute [local go_sem ↓] bU bI aX aW aV aU aT
attribute [local go_sem] bH aK aJ size_grow tape_grow cell?_grow' aF aB grow_grow bW aY dR cO bY bK aN cZ aZ bZ bJ
attribute [local irreducible] wpSteady
attribute [local go_sem] Oper.semAt_some
def bu (q a b:Pt):Bool :=
 if b.2<a.2 then decide (b.2<=q.2/\q.2<a.2)&&decide (0<tn b a q) else decide (a.2<=q.2/\q.2<b.2)&&decide (0<tn a b q)
def par (ps:List Pt)(q:Pt)(is:List Nat):Bool:=is.foldl (fun s i=>s ^^ bu q (ah ps i) (ah ps (i+1))) false
theorem sQ (ps:List Pt)(q:Pt)(is:List Nat)(i:Nat):par ps q (is++[i])=(par ps q is ^^ bu q (ah ps i) (ah ps (i+1))):=by unfold par;rw[List.foldl_append];rfl
def fM (ps:List Pt)(q:Pt):Bool:=(List.range ps.length).any fun i=>eG q (ah ps i) (ah ps (i+1))
def placeOf (ps:List Pt)(q:Pt):Int:=if fM ps q=true then 0 else if par ps q (List.range ps.length)=true then 1 else -1
theorem Ry (ps:List Pt)(A:Option Addr)(c:Nat)(q:Pt)(w:World)(hr:Rd w w.heap.size 2 A (ps.map dY))(hl:ps.length<=100)(hok:ps.all Pt.ok=true)(hq:q.ok=true) :
  Calls Tryz.prog 213 #[.slice A ps.length c,pt q.1 q.2] w (aC w (.int .i64 (placeOf ps q))):=by
 have hm:=aP
 have HR:=hide hr
 have vz:=hide hok
 have HQ:=hide hq
 clear hr hok hq
 refine (callsIn_wide (n:=13)).1 ?_
 refine callsIn_of_wp_marks Tryz.func213 rfl trivial ?_ rfl
 simp only[Tryz.ntmps213,List.size_toArray,List.length_cons,List.length_nil,Nat.reduceAdd,Nat.reduceSub,Array.replicate_succ,Array.replicate_zero,List.push_toArray,List.append_toArray,List.nil_append,List.cons_append]
 gi_wp2_with fail
 refine⟨trivial,?_⟩
 refine (callsIn_wide.2 (jY _ _ _ _)).mono ?_
 rintro e w' ⟨rfl,rfl⟩
 dsimp only
 gi_wp2_with fail
 refine dJ ?_
 intro a0 W0 ha hW
 obtain⟨bx,hbx⟩:∃bx:List Obj,bx=[.cells #[.int .i64 q.1,.int .i64 q.2] 28 (0,0),.cells #[.int .i64 0] 3 (0,0)]:=⟨_,rfl⟩
 have hg0:Grew w W0:=by rw[<-hW];exact gw
 have hb0:Bx W0 w.heap.size bx:=by rw[<-hW,hbx];refine (Bx.lT _ w).1.grew ?_;simp only[List.foldl];exact (((Grew.refl _).alloc _).alloc _)
 have hb2:Boxed W0 (w.heap.size+2) 4 (.bool false):=by rw[<-hW];exact (heap_alloc_old _ _ (by simp)).trans (az _ _ _ (by simp))
 have hk0:W0.heap[w.heap.size+3]?=some (.cells #[.slice A ps.length c] 174 (0,0)):=by rw[<-hW];exact az _ _ _ (by simp)
 have hsz:w.heap.size+4<=W0.heap.size:=by rw[<-hW];simp
 have hbl:bx.length=2:=by rw[hbx];rfl
 clear hW
 refine wpIn_rangeFunc_ownH (n:=13) rfl (by omega) (gf:=153) (lb:=#[.pointer (some ⟨w.heap.size+3,0,none⟩)]) (by rw[<-ha];simp[Act.eval]) trivial (enters_of Tryz.func153 (by kernel_rfl) rfl)
  (gU 12 w.heap.size (fun b _=>b=w.heap.size+2) ps A c (w.heap.size+3) W0 (fun b _ hb=>by omega) hk0 (HR.out.grew hg0 (Nat.le_refl _)) (by omega) (by omega))
  (fun h k=>h.trans k) gW.bk (Below.refl _ _) (fun _=>rfl)
  (fun pre W=>((Below w.heap.size w W/\Bx W w.heap.size bx)/\Boxed W (w.heap.size+2) 4 (.bool (par ps q (pre.map Fin.val))))/\∀i∈pre,eG q (ah ps i.1) (ah ps (i.1+1))=false)
  (fun e pre W=>(Below w.heap.size w W/\Boxed W (w.heap.size+1) 3 (.int .i64 0))/\e=.ret/\fM ps q=true)
  (OwnFrom.and (OwnFrom.and (OwnFrom.and (ownFrom_below (Nat.le_refl _) hg0.below.size) (Bx.own (by omega))) (Own.from (boxed_own _ _ _) _)) (ownFrom_pure _))
  (fun q=>OwnFrom.and (OwnFrom.and (ownFrom_below (Nat.le_refl _) hg0.below.size) (Own.from (boxed_own _ _ _) _)) (ownFrom_pure _))
  ⟨⟨⟨hg0.below,hb0⟩,hb2⟩,fun i hi=>by cases hi⟩
  (fun x a' W=>∃B,W.heap[B]?=some (.cells #[.int .i64 (ah ps x.1).1,.int .i64 (ah ps x.1).2,.int .i64 (ah ps (x.1+1)).1,.int .i64 (ah ps (x.1+1)).2] 206 (0,0))/\a'={ tmps:=((a0.tmps.setIfInBounds 12 (.int .i64 (x.1:Nat))).setIfInBounds 13 (.agg #[.int .i64 (ah ps x.1).1,.int .i64 (ah ps x.1).2,.int .i64 (ah ps (x.1+1)).1,.int .i64 (ah ps (x.1+1)).2])).setIfInBounds 7 (.pointer (some ⟨B,0,none⟩)),defers:=[] })
  (fun x a'=>by
   rintro s X Y row ⟨B,h1,h2⟩ hg hr
   exact⟨B,fG h1 hg (fun r e=>(hr r e).2),h2⟩)
  ?assign ?body ?done ?stop
 case assign =>
  rintro l pre x W K ⟨⟨⟨hB,hb⟩,Fq⟩,hp⟩ hK
  rw[show CQ ps x=#[.int .i64 (x.1:Nat),.agg #[.int .i64 (ah ps x.1).1,.int .i64 (ah ps x.1).2,.int .i64 (ah ps (x.1+1)).1,.int .i64 (ah ps (x.1+1)).2]] from rfl,FT]
  subst ha
  simp only[List.setIfInBounds_toArray,List.set_cons_succ,List.set_cons_zero] at hK ⊢
  have wu:=hide hK
  have hbl:=au Fq
  clear hK
  gi_wp2_with fail
  have hgg:Grew W (W.alloc (.cells #[.int .i64 (ah ps x.1).1,.int .i64 (ah ps x.1).2,.int .i64 (ah ps (x.1+1)).1,.int .i64 (ah ps (x.1+1)).2] 206)):=gw
  exact wu.out _ _ (hgg.aS _) (gW.grew hgg) ⟨⟨⟨hB.trans (hgg.below.mono hB.size),hb.grew hgg⟩,(hgg.below.block _ hbl).trans Fq⟩,hp⟩ ⟨W.heap.size,heap_alloc_new _ _,rfl⟩
 case body =>
  rintro l pre x a' W hl2 hlp ⟨⟨⟨hB,hb⟩,Fq⟩,hp⟩ ⟨B,hx,rfl⟩ hlt
  subst ha
  subst hbx
  obtain⟨i,hil⟩:=x
  dsimp only at hx
  simp only[List.setIfInBounds_toArray,List.set_cons_succ,List.set_cons_zero]
  have Jb:=sQ ps q (pre.map Fin.val) i
  obtain⟨pr,hpr⟩:∃p,par ps q (pre.map Fin.val)=p:=⟨_,rfl⟩
  rw[hpr] at Jb Fq
  have hon:=(fun (h:eG q (ah ps i) (ah ps (i+1))=true)=>(show fM ps q=true from List.any_eq_true.2 ⟨i,List.mem_range.2 hil,h⟩))
  have oa:=eH vz.out i
  have ob:=eH vz.out (i+1)
  obtain⟨o,ho⟩:∃o,eG q (ah ps i) (ah ps (i+1))=o:=⟨_,rfl⟩
  have hnext:∀i'∈pre++[(⟨i,hil⟩:Fin ps.length)],o=false->eG q (ah ps i'.1) (ah ps (i'.1+1))=false:=fun i' hi' hof=>by
   rcases List.mem_append.1 hi' with h|h
   ·exact hp i' h
   ·obtain rfl:=List.mem_singleton.1 h
    rw[<-hof];exact ho
  rw[ho] at hon
  have mO:=hide hnext
  have HON:=hide hon
  have ko:=hide (fun W'=>abR q (ah ps i) (ah ps (i+1)) o W' HQ.out oa ob ho)
  have k1:=hide (fun (t:Int) (h:tn (ah ps i) (ah ps (i+1)) q=t) W'=>nK (ah ps i) (ah ps (i+1)) q t W' oa ob HQ.out h)
  have k2:=hide (fun (t:Int) (h:tn (ah ps (i+1)) (ah ps i) q=t) W'=>nK (ah ps (i+1)) (ah ps i) q t W' ob oa HQ.out h)
  obtain⟨cb,hcb⟩:∃o,bu q (ah ps i) (ah ps (i+1))=o:=⟨_,rfl⟩
  rw[hcb] at Jb
  have QM:=hide hcb
  have xO:=hide Jb
  clear hnext hon ho hpr Jb hcb hp hlt
  unfold bu at QM
  generalize ah ps i=a at *
  generalize ah ps (i+1)=b at *
  obtain⟨a1,a2⟩:=a
  obtain⟨b1,b2⟩:=b
  obtain⟨x1,x2⟩:=q
  dsimp only at hx QM hb ⊢
  have c0:W.cell? ⟨w.heap.size,0,none⟩=some (.int .i64 x1):=ag (hb 0 _ rfl) 0
  have c1:W.cell? ⟨w.heap.size,1,none⟩=some (.int .i64 x2):=ag (hb 0 _ rfl) 1
  have c2:W.cell? ⟨w.heap.size+2,0,none⟩=_:=Fq.cell
  have f2:W.frozen? ⟨w.heap.size+2,0,none⟩=_:=Fq.frozen
  have c3:W.cell? ⟨w.heap.size+1,0,none⟩=_:=(hb.box 1 rfl).cell
  have f3:W.frozen? ⟨w.heap.size+1,0,none⟩=_:=(hb.box 1 rfl).frozen
  have d0:W.cell? ⟨B,0,none⟩=some _:=ag hx 0
  have d1:W.cell? ⟨B,1,none⟩=some _:=ag hx 1
  have d2:W.cell? ⟨B,2,none⟩=some _:=ag hx 2
  have d3:W.cell? ⟨B,3,none⟩=some _:=ag hx 3
  have l2:=Fq.lt
  have l1:w.heap.size+1<W.heap.size:=by omega
  have l0:w.heap.size<W.heap.size:=by omega
  have lB:=au hx
  have HB:=hide hB
  have Hb:=hide hb
  have Hbo:=hide Fq
  clear hB hb Fq hx
  gi_wp2_with fail
  refine dn 8 [⟨4,6,8,28,.agg #[.int .i64 0,.int .i64 0]⟩,⟨5,7,9,28,.agg #[.int .i64 0,.int .i64 0]⟩] [] hm (hZ:=(qI.cons Tryz.zeroValue28 Tryz.sizeOf28 (qI.cons Tryz.zeroValue28 Tryz.sizeOf28 qI.nil))) (h:=?_)
  repeat (refine ax (fun K hK=>?_);go_simp;refine hK _ ?_;clear hK K)
  refine dZ ?_
  refine⟨(ja.cons (by rfl) (by simp[bV,Act.eval,Value.cells,Value.oneCell']) (ja.cons (by rfl) (by simp[bV,Act.eval,Value.cells,Value.oneCell']) ja.nil)),nT.nil,?_⟩
  rintro psq FI Wq iT F6 F8
  obtain rfl:FI=[]:=F8
  obtain⟨p0,_,rfl,hp0,hb0,hn0,p1,_,rfl,hp1,hb1,hn1,rfl⟩:=F6
  simp only[putAll,putB,Act.put,aG]
  simp[bV,Act.eval,Value.cells] at hb0
  have xY:Wq.cell? ⟨p0,0,none⟩=some _:=ag hb0 0
  have xX:Wq.cell? ⟨p0,1,none⟩=some _:=ag hb0 1
  have Yl:=bM hb0
  have Yk:=au hb0
  simp[bV,Act.eval,Value.cells] at hb1
  have EE:Wq.cell? ⟨p1,0,none⟩=some _:=ag hb1 0
  have ED:Wq.cell? ⟨p1,1,none⟩=some _:=ag hb1 1
  have gf1:=bM hb1
  have gl1:=au hb1
  have gn:p0≠p1:=by simpa using hn0
  have gm:p1≠p0:=fun e=>gn e.symm
  have Xa:=hide hp0
  have gp1:=hide hp1
  clear hb0 hn0 hp0 hb1 hn1 hp1
  have oc:=iW iT
  have of:=jw iT
  have ol:=rH iT
  replace iT:=hide iT
  have e0:Wq.cell? ⟨w.heap.size,0,none⟩=_:=(oc _ 0 l0).trans c0
  have e1:Wq.cell? ⟨w.heap.size,1,none⟩=_:=(oc _ 1 l0).trans c1
  have e2:Wq.cell? ⟨w.heap.size+2,0,none⟩=_:=(oc _ 0 l2).trans c2
  have e3:Wq.cell? ⟨w.heap.size+1,0,none⟩=_:=(oc _ 0 l1).trans c3
  have e4:Wq.frozen? ⟨w.heap.size+2,0,none⟩=_:=(of _ 0 l2).trans f2
  have e5:Wq.frozen? ⟨w.heap.size+1,0,none⟩=_:=(of _ 0 l1).trans f3
  have hgs:=iT.out.below.size
  have m0:w.heap.size<Wq.heap.size:=by omega
  have m1:w.heap.size+1<Wq.heap.size:=by omega
  have m2:w.heap.size+2<Wq.heap.size:=by omega
  have gq0:=Xa.out
  have gq1:=gp1.out
  have GBQ:W.grownBy Wq (some (w.heap.size+2)):=xA (iC _ _) iT.out
  have BQ:Boxed Wq (w.heap.size+2) 4 (.bool pr):=(iT.out.below.block _ l2).trans Hbo.out
  have BR:Boxed Wq (w.heap.size+1) 3 (.int .i64 0):=(Hb.out.grew iT.out).box 1 rfl
  have hn0:Hid (w.heap.size+2≠p0):=hide (by omega)
  have hn1:Hid (w.heap.size+2≠p1):=hide (by omega)
  have hgb:=hide GBQ
  have hbq:=hide BQ
  have hbr:=hide BR
  clear GBQ BQ BR c0 c1 c2 c3 f2 f3 d0 d1 d2 d3 oc of ol
  gi_wp2_with fail
  refine⟨trivial,?_⟩
  refine (CallsIn.inRound l (callsIn_wide.2 (ko.out _))).mono ?_
  rintro e w' ⟨rfl,⟨n5,Gv⟩,rfl⟩
  dsimp only
  cases o
  ·have Dz:=hide (fun i' hi'=>mO.out i' hi' rfl)
   clear mO HON
   by_cases hs:b2<a2
   ·rw[if_pos hs] at QM
    by_cases r1:b2<=x2
    ·by_cases r2:x2<a2
     ·obtain⟨t,ht⟩:∃t,tn (b1,b2) (a1,a2) (x1,x2)=t:=⟨_,rfl⟩
      have kt:=hide (k2.out t ht)
      rw[ht] at QM
      clear ht
      by_cases r3:0<t
      ·obtain rfl:cb=true:=by rw[<-QM.out];simp[r1,r2,r3]
       rw[Bool.xor_true] at xO
       gi_wp2_with fail
       refine⟨trivial,?_⟩
       refine (CallsIn.inRound l (callsIn_wide.2 (kt.out _))).mono ?_
       rintro e w' ⟨rfl,⟨n6,os6⟩,rfl⟩
       dsimp only
       gi_wp2_with fail
       refine⟨jV (b:=w.heap.size+2) sV ⟨_,Hbo.out,rfl⟩,wB (b:=w.heap.size+2) sV (fun _=>rfl),⟨⟨gz (b:=w.heap.size+2) sV HB.out (by omega),wC (b:=w.heap.size+2) sV Hb.out (.inr (by simp))⟩,?_⟩,Dz.out⟩
       rw[List.map_append,show [(⟨i,hil⟩:Fin ps.length)].map Fin.val=[i] from rfl,xO.out]
       exact (by repeat (with_reducible first|assumption|exact Hid.out (by assumption)|refine eu ?_ _ _|refine Boxed.set (v:=.bool pr) _ ?_|refine jR ?_ (Hid.out (by assumption))|(refine eF ?_ (Hid.out (by assumption)))))
      ·obtain rfl:cb=false:=by rw[<-QM.out];simp[r1,r2,r3]
       rw[Bool.xor_false] at xO
       gi_wp2_with fail
       refine⟨trivial,?_⟩
       refine (CallsIn.inRound l (callsIn_wide.2 (kt.out _))).mono ?_
       rintro e w' ⟨rfl,⟨n6,os6⟩,rfl⟩
       dsimp only
       gi_wp2_with fail
       refine⟨jV (b:=w.heap.size+2) sV ⟨_,Hbo.out,rfl⟩,wB (b:=w.heap.size+2) sV (fun _=>rfl),⟨⟨gz (b:=w.heap.size+2) sV HB.out (by omega),wC (b:=w.heap.size+2) sV Hb.out (.inr (by simp))⟩,?_⟩,Dz.out⟩
       rw[List.map_append,show [(⟨i,hil⟩:Fin ps.length)].map Fin.val=[i] from rfl,xO.out]
       exact (by repeat (with_reducible first|assumption|exact Hid.out (by assumption)|refine eu ?_ _ _|refine Boxed.set (v:=.bool pr) _ ?_|refine jR ?_ (Hid.out (by assumption))|(refine eF ?_ (Hid.out (by assumption)))))
     ·obtain rfl:cb=false:=by rw[<-QM.out];simp[r1,r2]
      rw[Bool.xor_false] at xO
      gi_wp2_with fail
      refine⟨trivial,?_⟩
      gi_wp2_with fail
      refine⟨jV (b:=w.heap.size+2) sV ⟨_,Hbo.out,rfl⟩,wB (b:=w.heap.size+2) sV (fun _=>rfl),⟨⟨gz (b:=w.heap.size+2) sV HB.out (by omega),wC (b:=w.heap.size+2) sV Hb.out (.inr (by simp))⟩,?_⟩,Dz.out⟩
      rw[List.map_append,show [(⟨i,hil⟩:Fin ps.length)].map Fin.val=[i] from rfl,xO.out]
      exact (by repeat (with_reducible first|assumption|exact Hid.out (by assumption)|refine eu ?_ _ _|refine Boxed.set (v:=.bool pr) _ ?_|refine jR ?_ (Hid.out (by assumption))|(refine eF ?_ (Hid.out (by assumption)))))
    ·obtain rfl:cb=false:=by rw[<-QM.out];simp[r1]
     rw[Bool.xor_false] at xO
     gi_wp2_with fail
     refine⟨trivial,?_⟩
     gi_wp2_with fail
     refine⟨jV (b:=w.heap.size+2) sV ⟨_,Hbo.out,rfl⟩,wB (b:=w.heap.size+2) sV (fun _=>rfl),⟨⟨gz (b:=w.heap.size+2) sV HB.out (by omega),wC (b:=w.heap.size+2) sV Hb.out (.inr (by simp))⟩,?_⟩,Dz.out⟩
     rw[List.map_append,show [(⟨i,hil⟩:Fin ps.length)].map Fin.val=[i] from rfl,xO.out]
     exact (by repeat (with_reducible first|assumption|exact Hid.out (by assumption)|refine eu ?_ _ _|refine Boxed.set (v:=.bool pr) _ ?_|refine jR ?_ (Hid.out (by assumption))|(refine eF ?_ (Hid.out (by assumption)))))
   ·rw[if_neg hs] at QM
    by_cases r1:a2<=x2
    ·by_cases r2:x2<b2
     ·obtain⟨t,ht⟩:∃t,tn (a1,a2) (b1,b2) (x1,x2)=t:=⟨_,rfl⟩
      have kt:=hide (k1.out t ht)
      rw[ht] at QM
      clear ht
      by_cases r3:0<t
      ·obtain rfl:cb=true:=by rw[<-QM.out];simp[r1,r2,r3]
       rw[Bool.xor_true] at xO
       gi_wp2_with fail
       refine⟨trivial,?_⟩
       refine (CallsIn.inRound l (callsIn_wide.2 (kt.out _))).mono ?_
       rintro e w' ⟨rfl,⟨n6,os6⟩,rfl⟩
       dsimp only
       gi_wp2_with fail
       refine⟨jV (b:=w.heap.size+2) sV ⟨_,Hbo.out,rfl⟩,wB (b:=w.heap.size+2) sV (fun _=>rfl),⟨⟨gz (b:=w.heap.size+2) sV HB.out (by omega),wC (b:=w.heap.size+2) sV Hb.out (.inr (by simp))⟩,?_⟩,Dz.out⟩
       rw[List.map_append,show [(⟨i,hil⟩:Fin ps.length)].map Fin.val=[i] from rfl,xO.out]
       exact (by repeat (with_reducible first|assumption|exact Hid.out (by assumption)|refine eu ?_ _ _|refine Boxed.set (v:=.bool pr) _ ?_|refine jR ?_ (Hid.out (by assumption))|(refine eF ?_ (Hid.out (by assumption)))))
      ·obtain rfl:cb=false:=by rw[<-QM.out];simp[r1,r2,r3]
       rw[Bool.xor_false] at xO
       gi_wp2_with fail
       refine⟨trivial,?_⟩
       refine (CallsIn.inRound l (callsIn_wide.2 (kt.out _))).mono ?_
       rintro e w' ⟨rfl,⟨n6,os6⟩,rfl⟩
       dsimp only
       gi_wp2_with fail
       refine⟨jV (b:=w.heap.size+2) sV ⟨_,Hbo.out,rfl⟩,wB (b:=w.heap.size+2) sV (fun _=>rfl),⟨⟨gz (b:=w.heap.size+2) sV HB.out (by omega),wC (b:=w.heap.size+2) sV Hb.out (.inr (by simp))⟩,?_⟩,Dz.out⟩
       rw[List.map_append,show [(⟨i,hil⟩:Fin ps.length)].map Fin.val=[i] from rfl,xO.out]
       exact (by repeat (with_reducible first|assumption|exact Hid.out (by assumption)|refine eu ?_ _ _|refine Boxed.set (v:=.bool pr) _ ?_|refine jR ?_ (Hid.out (by assumption))|(refine eF ?_ (Hid.out (by assumption)))))
     ·obtain rfl:cb=false:=by rw[<-QM.out];simp[r1,r2]
      rw[Bool.xor_false] at xO
      gi_wp2_with fail
      refine⟨trivial,?_⟩
      gi_wp2_with fail
      refine⟨jV (b:=w.heap.size+2) sV ⟨_,Hbo.out,rfl⟩,wB (b:=w.heap.size+2) sV (fun _=>rfl),⟨⟨gz (b:=w.heap.size+2) sV HB.out (by omega),wC (b:=w.heap.size+2) sV Hb.out (.inr (by simp))⟩,?_⟩,Dz.out⟩
      rw[List.map_append,show [(⟨i,hil⟩:Fin ps.length)].map Fin.val=[i] from rfl,xO.out]
      exact (by repeat (with_reducible first|assumption|exact Hid.out (by assumption)|refine eu ?_ _ _|refine Boxed.set (v:=.bool pr) _ ?_|refine jR ?_ (Hid.out (by assumption))|(refine eF ?_ (Hid.out (by assumption)))))
    ·obtain rfl:cb=false:=by rw[<-QM.out];simp[r1]
     rw[Bool.xor_false] at xO
     gi_wp2_with fail
     refine⟨trivial,?_⟩
     gi_wp2_with fail
     refine⟨jV (b:=w.heap.size+2) sV ⟨_,Hbo.out,rfl⟩,wB (b:=w.heap.size+2) sV (fun _=>rfl),⟨⟨gz (b:=w.heap.size+2) sV HB.out (by omega),wC (b:=w.heap.size+2) sV Hb.out (.inr (by simp))⟩,?_⟩,Dz.out⟩
     rw[List.map_append,show [(⟨i,hil⟩:Fin ps.length)].map Fin.val=[i] from rfl,xO.out]
     exact (by repeat (with_reducible first|assumption|exact Hid.out (by assumption)|refine eu ?_ _ _|refine Boxed.set (v:=.bool pr) _ ?_|refine jR ?_ (Hid.out (by assumption))|(refine eF ?_ (Hid.out (by assumption)))))
  ·have ahq:=hide (HON.out rfl)
   clear HON mO
   gi_wp2_with fail
   have aeC:Grew (Wq.setCell ⟨w.heap.size+1,0,none⟩ (.int .i64 0)) (grow (dr (Wq.setCell ⟨w.heap.size+1,0,none⟩ (.int .i64 0)) n5) Gv):=gw
   have hbs:=(HB.out.trans (iT.out.below.mono HB.out.size)).setCell (p:=⟨w.heap.size+1,0,none⟩) (by simp) (.int .i64 0)
   exact⟨((iT.out.aS _).trans (KeepsFrom.setCell _ _ _ _)).trans (aeC.aS _),⟨hbs.trans (aeC.below.mono hbs.size),eu (hbr.out.set _) _ _⟩,rfl,ahq.out⟩
 case done =>
  subst ha
  subst hbx
  rintro D xs W hD hS ⟨⟨⟨hB,hb⟩,Fq⟩,hp⟩ hK
  have b1:Boxed W (w.heap.size+1) _ _:=hb.box 1 rfl
  have c1:=b1.cell
  have f1:=b1.frozen
  have hpl:placeOf ps q=if par ps q (List.range ps.length)=true then 1 else -1:=by
   unfold placeOf
   rw[if_neg]
   unfold fM
   rw[Bool.not_eq_true,List.any_eq_false]
   intro i hi
   rw[<-hS] at hi
   obtain⟨j,hj,rfl⟩:=List.mem_map.1 hi
   rw[hp j hj]
   simp
  rw[hS] at Fq
  obtain⟨pr,hpr⟩:∃p,par ps q (List.range ps.length)=p:=⟨_,rfl⟩
  rw[hpr] at Fq hpl
  have c2:W.cell? ⟨w.heap.size+2,0,none⟩=_:=Fq.cell
  have HB:=hide hB
  have O1:=hide hpl
  clear hB hb hS hp b1 hpr hpl Fq
  cases pr
  ·gi_wp2_with fail
   have hK2:=(KeepsOthers.setCell W ⟨w.heap.size+1,0,none⟩ (.int .i64 (-1))).same D _ hK rfl
   refine⟨by simp,.inl ⟨_,_,rfl,run_takeDeferred hK2,?_⟩⟩
   have hb5:=(HB.out.setCell (p:=⟨w.heap.size+1,0,none⟩) (by simp) (.int .i64 (-1))).trans (belowK_b (w:=w) (Nat.le_refl _) _ D _ (.deferred none) (by omega) hK2 rfl rfl)
   have e3:((W.setCell ⟨w.heap.size+1,0,none⟩ (.int .i64 (-1))).putObj D (.deferred none)).cell? ⟨w.heap.size+1,0,none⟩=some (.int .i64 (-1)):=by
    rw[bG (by omega)]
    go_simp
   refine⟨.int .i64 (-1),by simp[results,Tryz.results213,go_sem,e3],?_⟩
   exact aC.mk' (l9 O1.out.symm) (Grew.of_below hb5)
  ·gi_wp2_with fail
   have hK2:=(KeepsOthers.setCell W ⟨w.heap.size+1,0,none⟩ (.int .i64 1)).same D _ hK rfl
   refine⟨by simp,.inl ⟨_,_,rfl,run_takeDeferred hK2,?_⟩⟩
   have hb5:=(HB.out.setCell (p:=⟨w.heap.size+1,0,none⟩) (by simp) (.int .i64 1)).trans (belowK_b (w:=w) (Nat.le_refl _) _ D _ (.deferred none) (by omega) hK2 rfl rfl)
   have e3:((W.setCell ⟨w.heap.size+1,0,none⟩ (.int .i64 1)).putObj D (.deferred none)).cell? ⟨w.heap.size+1,0,none⟩=some (.int .i64 1):=by
    rw[bG (by omega)]
    go_simp
   refine⟨.int .i64 1,by simp[results,Tryz.results213,go_sem,e3],?_⟩
   exact aC.mk' (l9 O1.out.symm) (Grew.of_below hb5)
 case stop =>
  subst ha
  rintro D e pre W hD hr ⟨⟨hB,hb1⟩,rfl,hp⟩ hK
  have c3:W.cell? ⟨w.heap.size+1,0,none⟩=_:=hb1.cell
  have HB:=hide hB
  have HP:=hide hp
  clear hB hb1 hr hp
  gi_wp2_with fail
  refine⟨by simp,.inl ⟨_,_,rfl,run_takeDeferred hK,?_⟩⟩
  have hb5:=HB.out.trans (belowK_b (w:=w) (Nat.le_refl _) _ D _ (.deferred none) (by omega) hK rfl rfl)
  have e3:=(bG (W:=W) (D:=D) (i:=0) (o:=.deferred none) (b:=w.heap.size+1) (by omega)).trans c3
  refine⟨.int .i64 0,by simp[results,Tryz.results213,go_sem,e3],?_⟩
  exact aC.mk' (l9 (by unfold placeOf;rw[if_pos HP.out])) (Grew.of_below hb5)
end Go.Proofs.YtlkgjmnjhifehaaGreat
namespace Go.Proofs.YtlkgjmnjhifehaaGreat
open Go.RowKit Go.Sort
attribute [local go_sem] dA steadyUpon
attribute [local go_sem ↓] bU bI aX aW aV aU aT
attribute [local go_sem] bH aK aJ size_grow tape_grow cell?_grow' aF aB grow_grow bW aY dR cO bY bK aN cZ aZ bZ bJ
attribute [local irreducible] wpSteady
theorem qR (ps:List Pt)(A:Option Addr)(c:Nat)(q:Pt)(r:Int)(w:World)(hr:Rd w w.heap.size 2 A (ps.map dY))(hl:ps.length<=100)(hok:ps.all Pt.ok=true)(hq:q.ok=true)(h:placeOf ps q=r) :
  Calls Tryz.prog 213 #[.slice A ps.length c,pt q.1 q.2] w (aC w (.int .i64 r)):=by
 have:=Ry ps A c q w hr hl hok hq
 rwa [h] at this
def I7 (ps:List Pt)(q:Pt):Int×Int:=if (q.ok&&dm ps)=true then (placeOf ps q,0) else (0,1)
theorem acR (ps:List Pt)(A:Option Addr)(c:Nat)(q:Pt)(w:World)(hr:Rd w w.heap.size 2 A (ps.map dY))(hc:ps.length<=100000000000000) :
  Calls Tryz.prog 209 #[pt q.1 q.2,.slice A ps.length c] w (aC w (.tuple #[.int .i64 (I7 ps q).1,.int .i64 (I7 ps q).2])):=by
 have hm:=aP
 unfold I7
 obtain⟨u,hu⟩:∃u,q.ok=u:=⟨_,rfl⟩
 obtain⟨v,hv⟩:∃u,dm ps=u:=⟨_,rfl⟩
 obtain⟨r,hr'⟩:∃u,placeOf ps q=u:=⟨_,rfl⟩
 have k1:=hide (fun W=>dP q.1 q.2 u W hu)
 have k2:=hide (fun W (hg:Grew w W)=>jJ ps A c v W (hr.up hg) hc hv)
 rw[hu,hv,hr']
 cases u
 ·clear hu hv hr'
  obtain⟨x1,x2⟩:=q
  go_enter Tryz.func209,Tryz.ntmps209
  go_wp2_with (first|(go_at_call 49;with_reducible refine aQ (k1.out _) fun _ _=>?_;dsimp only)|(go_at_call 88;with_reducible refine aQ (k2.out _ gw) fun _ _=>?_;dsimp only))
  go_ret2
  exact aC.mk' rfl gw
 ·cases v
  ·clear hu hv hr'
   obtain⟨x1,x2⟩:=q
   go_enter Tryz.func209,Tryz.ntmps209
   go_wp2_with (first|(go_at_call 49;with_reducible refine aQ (k1.out _) fun _ _=>?_;dsimp only)|(go_at_call 88;with_reducible refine aQ (k2.out _ gw) fun _ _=>?_;dsimp only))
   go_ret2
   exact aC.mk' rfl gw
  ·have hp:=jH hv
   have k3:=hide (fun W (hg:Grew w W)=>qR ps A c q r W (hr.up hg) (by omega) hp.2 hu hr')
   clear hu hv hr' hp
   obtain⟨x1,x2⟩:=q
   go_enter Tryz.func209,Tryz.ntmps209
   go_wp2_with (first|(go_at_call 49;with_reducible refine aQ (k1.out _) fun _ _=>?_;dsimp only)|(go_at_call 88;with_reducible refine aQ (k2.out _ gw) fun _ _=>?_;dsimp only)|(go_at_call 213;with_reducible refine aQ (k3.out _ gw) fun _ _=>?_;dsimp only))
   go_ret2
   exact aC.mk' rfl gw
theorem ag5 (ps:List Pt)(A:Option Addr)(c:Nat)(q:Pt)(r:Int×Int)(w:World)(hr:Rd w w.heap.size 2 A (ps.map dY))(hc:ps.length<=100000000000000)(h:I7 ps q=r) :
  Calls Tryz.prog 209 #[pt q.1 q.2,.slice A ps.length c] w (aC w (.tuple #[.int .i64 r.1,.int .i64 r.2])):=by
 have:=acR ps A c q w hr hc
 rwa [h] at this
attribute [local go_sem] Oper.semAt_some
def iY (ps:List Pt)(i:Nat)(to:Pt):Bool :=
 if 0<tn (ah ps (i+ps.length-1)) (ah ps i) (ah ps (i+1)) then decide (0<=tn (ah ps i) (ah ps (i+1)) to)&&decide (0<=tn (ah ps i) to (ah ps (i+ps.length-1)))
 else decide (tn (ah ps i) (ah ps (i+ps.length-1)) to<=0)||decide (tn (ah ps i) to (ah ps (i+1))<=0)
theorem Iy (ps:List Pt)(A:Option Addr)(c:Nat)(k:Nat)(to:Pt)(r:Bool)(w:World)(hr:Rd w w.heap.size 2 A (ps.map dY))(hl:ps.length<=100)(hok:ps.all Pt.ok=true)(hq:to.ok=true)(hlt:k<ps.length)(h:iY ps k to=r) :
  Calls Tryz.prog 218 #[.slice A ps.length c,.int .i64 k,pt to.1 to.2] w (aC w (.bool r)):=by
 have hm:=aP
 have hpos:0<ps.length:=by omega
 obtain⟨b,off,hA,hb,h0,h1⟩:=ug hr (gV hlt)
 have hix:=aO (cap:=c) Tryz.underlying174 Tryz.sizeOf28 hA.out hlt
 have hq1:=zO (k+ps.length-1) hpos
 have hq2:=zO (k+1) hpos
 have o1:=eH hok (k+ps.length-1)
 have o2:=eH hok k
 have o3:=eH hok (k+1)
 have kc1:=hide (fun W' (hg:Grew w W')=>wJ ps A c ((k:Int)-1) ((k+ps.length-1)%ps.length) _ W' (hr.up hg) (by omega) (by omega) (by rw[Int.natCast_emod,show ((k+ps.length-1:Nat):Int)=(k:Int)-1+(ps.length:Int) by omega]) hq1)
 have kc2:=hide (fun W' (hg:Grew w W')=>wJ ps A c ((k:Int)+1) ((k+1)%ps.length) _ W' (hr.up hg) (by omega) (by omega) (by rw[Int.natCast_emod,Int.add_emod_right];rfl) hq2)
 unfold iY at h
 obtain⟨t0,e0⟩:∃t,tn (ah ps (k+ps.length-1)) (ah ps k) (ah ps (k+1))=t:=⟨_,rfl⟩
 obtain⟨t1,e1⟩:∃t,tn (ah ps k) (ah ps (k+1)) to=t:=⟨_,rfl⟩
 obtain⟨t2,e2⟩:∃t,tn (ah ps k) to (ah ps (k+ps.length-1))=t:=⟨_,rfl⟩
 obtain⟨t3,e3⟩:∃t,tn (ah ps k) (ah ps (k+ps.length-1)) to=t:=⟨_,rfl⟩
 obtain⟨t4,e4⟩:∃t,tn (ah ps k) to (ah ps (k+1))=t:=⟨_,rfl⟩
 rw[e0,e1,e2,e3,e4] at h
 have k0:=hide (fun W'=>nK _ _ _ t0 W' o1 o2 o3 e0)
 have k1:=hide (fun W'=>nK _ _ _ t1 W' o2 o3 hq e1)
 have k2:=hide (fun W'=>nK _ _ _ t2 W' o2 hq o1 e2)
 have k3:=hide (fun W'=>nK _ _ _ t3 W' o2 o1 hq e3)
 have k4:=hide (fun W'=>nK _ _ _ t4 W' o2 hq o3 e4)
 clear e0 e1 e2 e3 e4 hA hq1 hq2 o1 o2 o3
 generalize ah ps (k+ps.length-1)=qa at *
 generalize ah ps k=qb at *
 generalize ah ps (k+1)=qc at *
 obtain⟨a1,a2⟩:=qa
 obtain⟨b1,b2⟩:=qb
 obtain⟨c1,c2⟩:=qc
 obtain⟨x1,x2⟩:=to
 dsimp only at h0 h1
 have ew1:IntKind.i64.wrap ((k:Int)-1)=(k:Int)-1:=by unfold IntKind.wrap;simp[IntKind.bits,IntKind.signed];omega
 have ew2:IntKind.i64.wrap ((k:Int)+1)=(k:Int)+1:=by unfold IntKind.wrap;simp[IntKind.bits,IntKind.signed];omega
 have hcase:(decide (0<t0)=true/\decide (0<=t1)=true/\r=decide (0<=t2))\/(decide (0<t0)=true/\decide (0<=t1)=false/\r=false)\/(decide (0<t0)=false/\decide (t3<=0)=true/\r=true)\/(decide (0<t0)=false/\decide (t3<=0)=false/\r=decide (t4<=0)):=by
  by_cases g0:0<t0
  ·rw[if_pos g0] at h
   by_cases g1:0<=t1<;>simp[g0,g1] at h ⊢ <;> first|exact h.symm|exact h
  ·rw[if_neg g0] at h
   by_cases g1:t3<=0<;>simp[g0,g1] at h ⊢ <;> first|exact h.symm|exact h
 clear h hq
 rcases hcase with⟨g0,g1,g2⟩|⟨g0,g1,g2⟩|⟨g0,g1,g2⟩|⟨g0,g1,g2⟩
 all_goals
  subst g2
  go_enter Tryz.func218,Tryz.ntmps218
  go_wp2_with fail
  refine ay 18 [⟨12,15,7,28,.agg #[.int .i64 0,.int .i64 0]⟩,⟨13,16,8,28,.agg #[.int .i64 0,.int .i64 0]⟩,⟨14,17,9,28,.agg #[.int .i64 0,.int .i64 0]⟩] [] hm (hZ:=(qI.cons Tryz.zeroValue28 Tryz.sizeOf28 (qI.cons Tryz.zeroValue28 Tryz.sizeOf28 (qI.cons Tryz.zeroValue28 Tryz.sizeOf28 qI.nil)))) (h:=?_)
  repeat (refine ax (fun K hK=>?_);go_simp;first|(refine hK _ ?_;clear hK K)|(apply Exists.intro;refine⟨fun _=>?_,hK _ ?_⟩;(go_at_call 110;first|with_reducible exact kc1.out _ gw|with_reducible exact kc2.out _ gw);clear hK K))
  refine dZ ?_
  refine⟨(ja.cons (by rfl) (by simp[bV,Act.eval,Value.cells,Value.oneCell']) (ja.cons (by rfl) (by simp[bV,Act.eval,Value.cells,Value.oneCell']) (ja.cons (by rfl) (by simp[bV,Act.eval,Value.cells,Value.oneCell']) ja.nil))),nT.nil,?_⟩
  rintro psq FI Wq iT F6 F8
  obtain rfl:FI=[]:=F8
  obtain⟨p0,_,rfl,hp0,hb0,hn0,p1,_,rfl,hp1,hb1,hn1,p2,_,rfl,hp2,hb2,hn2,rfl⟩:=F6
  simp only[putAll,putB,Act.put,aG]
  simp[bV,Act.eval,Value.cells] at hb0
  have xY:Wq.cell? ⟨p0,0,none⟩=some _:=ag hb0 0
  have xX:Wq.cell? ⟨p0,1,none⟩=some _:=ag hb0 1
  have Yl:=bM hb0
  have Yk:=au hb0
  simp[bV,Act.eval,Value.cells] at hb1
  have EE:Wq.cell? ⟨p1,0,none⟩=some _:=ag hb1 0
  have ED:Wq.cell? ⟨p1,1,none⟩=some _:=ag hb1 1
  have gf1:=bM hb1
  have gl1:=au hb1
  simp[bV,Act.eval,Value.cells] at hb2
  have aim:Wq.cell? ⟨p2,0,none⟩=some _:=ag hb2 0
  have ail:Wq.cell? ⟨p2,1,none⟩=some _:=ag hb2 1
  have gf2:=bM hb2
  have gl2:=au hb2
  have Xa:=hide hp0
  have gp1:=hide hp1
  have gp2:=hide hp2
  clear hb0 hn0 hp0 hb1 hn1 hp1 hb2 hn2 hp2
  have oc:=iW iT
  have of:=jw iT
  have ol:=rH iT
  replace iT:=hide iT
  have m0:Wq.cell? ⟨w.heap.size,0,none⟩=some (.int .i64 x1):=(oc _ _ (by simp)).trans (by go_simp)
  have m1:Wq.cell? ⟨w.heap.size,1,none⟩=some (.int .i64 x2):=(oc _ _ (by simp)).trans (by go_simp)
  have m2:w.heap.size<Wq.heap.size:=by rw[ol _ (by simp)];trivial
  clear oc of ol
  go_wp2_with (first|(go_at_call 109;with_reducible refine aQ (k0.out _) fun _ _=>?_;dsimp only)|(go_at_call 109;with_reducible refine aQ (k1.out _) fun _ _=>?_;dsimp only)|(go_at_call 109;with_reducible refine aQ (k2.out _) fun _ _=>?_;dsimp only)|(go_at_call 109;with_reducible refine aQ (k3.out _) fun _ _=>?_;dsimp only)|(go_at_call 109;with_reducible refine aQ (k4.out _) fun _ _=>?_;dsimp only))
  go_ret
  exact aC.mk' (dU (by simp[*])) (Grew.trans gw (iT.out.trans gw))
def ag8 (ps:List Pt)(a:Pt)(r:Int):Prop:=(r=-1/\∀i,i<ps.length->ah ps i≠a)\/(∃k:Nat,k<ps.length/\r=k/\ah ps k=a/\∀j,j<k->ah ps j≠a)
def afg (ps:List Pt)(a:Pt)(k:Nat):Prop:=∀j,j<k->ah ps j≠a
theorem TV (ps:List Pt)(A:Option Addr)(c:Nat)(a:Pt)(w:World)(hr:Rd w w.heap.size 2 A (ps.map dY))(hl:ps.length<=100) :
  Calls Tryz.prog 220 #[.slice A ps.length c,pt a.1 a.2] w fun e w'=>(∃r:Int,e=.returned (.int .i64 r)/\ag8 ps a r)/\Grew w w':=by
 have hm:=aP
 obtain⟨x1,x2⟩:=a
 go_enter Tryz.func220,Tryz.ntmps220
 go_wp2_with fail
 go_loopw [8] (fun i wr=>∃k:Nat,k<=ps.length/\i=.int .i64 k/\Grew (w.alloc (.cells #[.int .i64 x1,.int .i64 x2] 28)) wr/\afg ps (x1,x2) k) (fun i _=>ps.length-(intOf i).toNat)
 case atStart=>exact⟨0,by omega,rfl,Grew.refl _,fun j hj=>by omega⟩
 case round =>
  obtain⟨k,hk,rfl,⟨⟨n,os⟩,rfl⟩,hn⟩:=hrel
  have HN:=hide hn
  clear hn
  by_cases hlt:k<ps.length
  ·obtain⟨b,off,hA,hb,h0,h1⟩:=ug hr (gV hlt)
   have hix:=aO (cap:=c) Tryz.underlying174 Tryz.sizeOf28 hA.out hlt
   obtain⟨⟨p1,p2⟩,hp⟩:∃p,ah ps k=p:=⟨_,rfl⟩
   rw[hp] at h0 h1
   have HP:=hide hp
   clear hp hA
   dsimp only at h0 h1
   have hcase:(p1=x1/\p2=x2)\/(x1≠p1)\/(x1=p1/\x2≠p2):=by omega
   rcases hcase with⟨rfl,rfl⟩|e1|⟨rfl,e1⟩
   ·go_wp2_with fail
    refine ay 6 [] [] hm (h:=?_)
    repeat (refine ax (fun K hK=>?_);go_simp;refine hK _ ?_;clear hK K)
    refine lU fun nq osq=>?_
    try simp only[Act.put,aG]
    try dsimp only
    go_wp2_with fail
    go_ret
    exact⟨⟨_,rfl,.inr ⟨k,hlt,rfl,HP.out,HN.out⟩⟩,gw⟩
   all_goals
    go_wp2_with fail
    refine ay 6 [] [] hm (h:=?_)
    repeat (refine ax (fun K hK=>?_);go_simp;refine hK _ ?_;clear hK K)
    refine lU fun nq osq=>?_
    try simp only[Act.put,aG]
    try dsimp only
    go_wp2_with fail
    go_roundw
    case rel =>
     refine⟨k+1,by omega,by go_num,gw,fun j hj=>?_⟩
     by_cases hjk:j=k
     ·subst hjk
      rw[HP.out]
      intro e
      injection e with e2 e3
      first|exact e1 e2.symm|exact e1 e3.symm
     ·exact HN.out j (by omega)
    case measure=>simp[intOf];omega
  ·obtain rfl:k=ps.length:=by omega
   go_wp2_with fail
   go_ret
   exact⟨⟨_,rfl,.inl ⟨rfl,HN.out⟩⟩,gw⟩
set_option maxHeartbeats 4000000
set_option maxRecDepth 100000
theorem uX {f:Nat->Bool}{n k:Nat}(hk:k<n)(h:f k=true)(hn:∀j,j<k->f j=false):(List.range n).find? f=some k:=by
 rw[List.find?_eq_some_iff_append]
 refine⟨h,List.range k,(List.range n).drop (k+1),?_,fun j hj=>by rw[hn j (List.mem_range.1 hj)];rfl⟩
 have e:(List.range n).take k=List.range k:=by rw[List.take_range,Nat.min_eq_left (by omega)]
 have e2:(List.range n).drop k=k::(List.range n).drop (k+1):=by rw[List.drop_eq_getElem_cons (by simpa using hk),List.getElem_range]
 rw[<-e2,<-e,List.take_append_drop]
theorem oO {f:Nat->Bool}{n:Nat}(hn:∀j,j<n->f j=false):(List.range n).find? f=none:=by
 rw[List.find?_eq_none]
 intro j hj
 rw[hn j (List.mem_range.1 hj)]
 simp
def jZ (ps:List Pt)(to:Pt)(i:Nat):Bool:=decide (0<=tn (ah ps i) (ah ps (i+1)) to)
def leadsOf (ps:List Pt)(a to:Pt):Bool :=
 match (List.range ps.length).find? (fun i=>decide (ah ps i=a)) with
 | some i=>iY ps i to
 | none=>match (List.range ps.length).find? (fun i=>eG a (ah ps i) (ah ps (i+1))) with
  | some i=>jZ ps to i
  | none=>true
theorem vV {ps:List Pt}{a to:Pt}{k:Nat}(hk:k<ps.length)(h:ah ps k=a)(hn:∀j,j<k->ah ps j≠a):leadsOf ps a to=iY ps k to:=by
 unfold leadsOf
 rw[uX hk (by simpa using h) (fun j hj=>by simpa using hn j hj)]
theorem zq {ps:List Pt}{a to:Pt}{k:Nat}(hc:∀i,i<ps.length->ah ps i≠a)(hk:k<ps.length)(h:eG a (ah ps k) (ah ps (k+1))=true)(hn:∀j,j<k->eG a (ah ps j) (ah ps (j+1))=false):leadsOf ps a to=jZ ps to k:=by
 unfold leadsOf
 rw[oO (fun j hj=>by simpa using hc j hj)]
 dsimp only
 rw[uX hk h hn]
theorem N8 {ps:List Pt}{a to:Pt}(hc:∀i,i<ps.length->ah ps i≠a)(hn:∀j,j<ps.length->eG a (ah ps j) (ah ps (j+1))=false):leadsOf ps a to=true:=by
 unfold leadsOf
 rw[oO (fun j hj=>by simpa using hc j hj)]
 dsimp only
 rw[oO hn]
def abh (ps:List Pt)(a to:Pt)(is:List Nat)(v:Bool):Prop:=∃pre i,is=pre++[i]/\(∀j∈pre,eG a (ah ps j) (ah ps (j+1))=false)/\eG a (ah ps i) (ah ps (i+1))=true/\v=jZ ps to i
theorem RQ (ps:List Pt)(A:Option Addr)(c:Nat)(q to:Pt)(w:World)(hr:Rd w w.heap.size 2 A (ps.map dY))(hl:ps.length<=100)(hok:ps.all Pt.ok=true)(hq:q.ok=true)(hto:to.ok=true) :
  Calls Tryz.prog 217 #[.slice A ps.length c,pt q.1 q.2,pt to.1 to.2] w (aC w (.bool (leadsOf ps q to))):=by
 have hm:=aP
 have HR:=hide hr
 have vz:=hide hok
 have HQ:=hide hq
 have HTO:=hide hto
 obtain⟨rr,hrr⟩:∃r,leadsOf ps q to=r:=⟨_,rfl⟩
 rw[hrr]
 have HRR:=hide hrr
 clear hr hok hq hto hrr
 refine (callsIn_wide (n:=13)).1 ?_
 refine callsIn_of_wp_marks Tryz.func217 rfl trivial ?_ rfl
 simp only[Tryz.ntmps217,List.size_toArray,List.length_cons,List.length_nil,Nat.reduceAdd,Nat.reduceSub,Array.replicate_succ,Array.replicate_zero,List.push_toArray,List.append_toArray,List.nil_append,List.cons_append]
 gi_wp2_with fail
 refine⟨trivial,?_⟩
 refine (callsIn_wide.2 (TV ps A c q _ (HR.out.up gw) hl)).mono ?_
 rintro e W1 ⟨⟨r,rfl,hidx⟩,hg1⟩
 obtain⟨bx,hbx⟩:∃bx:List Obj,bx=[.cells #[.int .i64 q.1,.int .i64 q.2] 28 (0,0),.cells #[.int .i64 to.1,.int .i64 to.2] 28 (0,0),.cells #[.bool false] 4 (0,0)]:=⟨_,rfl⟩
 have hbx0:=Bx.lT bx w
 have hb1:Bx W1 w.heap.size bx:=by
  have h:=hbx0.1
  subst hbx
  exact h.grew hg1
 have hw1:Grew w W1:=by
  have h:=hbx0.2
  subst hbx
  exact h.trans hg1
 have hsz1:w.heap.size+3<=W1.heap.size:=by
  have:=hg1.below.size
  simp at this
  omega
 clear hg1 hbx0
 subst hbx
 have c0:W1.cell? ⟨w.heap.size,0,none⟩=some (.int .i64 q.1):=ag (hb1 0 _ rfl) 0
 have c1:W1.cell? ⟨w.heap.size,1,none⟩=some (.int .i64 q.2):=ag (hb1 0 _ rfl) 1
 have c2:W1.cell? ⟨w.heap.size+1,0,none⟩=some (.int .i64 to.1):=ag (hb1 1 _ rfl) 0
 have c3:W1.cell? ⟨w.heap.size+1,1,none⟩=some (.int .i64 to.2):=ag (hb1 1 _ rfl) 1
 have c4:W1.cell? ⟨w.heap.size+2,0,none⟩=some (.bool false):=(hb1.box 2 rfl).cell
 have f4:W1.frozen? ⟨w.heap.size+2,0,none⟩=false:=(hb1.box 2 rfl).frozen
 have m0:w.heap.size<W1.heap.size:=by omega
 have m1:w.heap.size+1<W1.heap.size:=by omega
 have m2:w.heap.size+2<W1.heap.size:=by omega
 have Hb1:=hide hb1
 have Hw1:=hide hw1
 clear hb1 hw1
 dsimp only
 rcases hidx with⟨rfl,hnc⟩|⟨k,hk,rfl,hck,hnc⟩
 ·have TZ:=hide hnc
  clear hnc
  gi_wp2_with fail
  refine⟨trivial,?_⟩
  refine (callsIn_wide.2 (jY _ _ _ _)).mono ?_
  rintro e w' ⟨rfl,rfl⟩
  dsimp only
  gi_wp2_with fail
  refine dJ ?_
  intro a0 W0 ha hW
  have uB:Grew W1 W0:=by rw[<-hW];exact gw
  have hg0:Grew w W0:=Hw1.out.trans uB
  have hb0:=Hb1.out.grew uB
  have hk0:W0.heap[W1.heap.size]?=some (.cells #[.slice A ps.length c] 174 (0,0)):=by rw[<-hW];exact heap_alloc_new _ _
  have hsz:W0.heap.size=W1.heap.size+1:=by rw[<-hW];simp
  clear hW c0 c1 c2 c3 c4 f4 uB
  have Hb0:=hide hb0
  have Hg0:=hide hg0
  refine wpIn_rangeFunc_ownH (n:=13) rfl (by omega) (gf:=153) (lb:=#[.pointer (some ⟨W1.heap.size,0,none⟩)]) (by rw[<-ha];simp[Act.eval]) trivial (enters_of Tryz.func153 (by kernel_rfl) rfl)
   (gU 12 w.heap.size (fun _ _=>False) ps A c W1.heap.size W0 (fun b _ hb=>hb.elim) hk0 (HR.out.grew hg0 (Nat.le_refl _)) (by omega) (by omega))
   (fun h k=>h.trans k) gW.bk (Below.refl _ _) (fun _=>rfl)
   (fun pre W=>(Below w.heap.size w W/\Bx W w.heap.size _)/\∀i∈pre,eG q (ah ps i.1) (ah ps (i.1+1))=false)
   (fun e pre W=>(Below w.heap.size w W/\∃v,Boxed W (w.heap.size+2) 4 (.bool v)/\abh ps q to (pre.map Fin.val) v)/\e=.ret)
   (OwnFrom.and (OwnFrom.and (ownFrom_below (Nat.le_refl _) hg0.below.size) (Bx.own (by simp;omega))) (ownFrom_pure _))
   (fun q=>OwnFrom.and (OwnFrom.and (ownFrom_below (Nat.le_refl _) hg0.below.size) (fun s X Y row ⟨v,h1,h2⟩ hg hr=>⟨v,Own.from (boxed_own (β:=Unit) _ _ (fun _=>.bool v)) _ () X Y row h1 hg hr,h2⟩)) (ownFrom_pure _))
   ⟨⟨hg0.below,hb0⟩,fun i hi=>by cases hi⟩
   (fun x a' W=>∃B,W.heap[B]?=some (.cells #[.int .i64 (ah ps x.1).1,.int .i64 (ah ps x.1).2,.int .i64 (ah ps (x.1+1)).1,.int .i64 (ah ps (x.1+1)).2] 206 (0,0))/\a'={ tmps:=((a0.tmps.setIfInBounds 21 (.int .i64 (x.1:Nat))).setIfInBounds 22 (.agg #[.int .i64 (ah ps x.1).1,.int .i64 (ah ps x.1).2,.int .i64 (ah ps (x.1+1)).1,.int .i64 (ah ps (x.1+1)).2])).setIfInBounds 9 (.pointer (some ⟨B,0,none⟩)),defers:=[] })
   (fun x a'=>by
    rintro s X Y row ⟨B,h1,h2⟩ hg hr
    exact⟨B,fG h1 hg (fun r e=>(hr r e).2),h2⟩)
   ?assign ?body ?done ?stop
  case assign =>
   rintro l pre x W K ⟨⟨hB,hb⟩,hp⟩ hK
   rw[show CQ ps x=#[.int .i64 (x.1:Nat),.agg #[.int .i64 (ah ps x.1).1,.int .i64 (ah ps x.1).2,.int .i64 (ah ps (x.1+1)).1,.int .i64 (ah ps (x.1+1)).2]] from rfl,FT]
   subst ha
   simp only[List.setIfInBounds_toArray,List.set_cons_succ,List.set_cons_zero] at hK ⊢
   have wu:=hide hK
   clear hK
   gi_wp2_with fail
   have hgg:Grew W (W.alloc (.cells #[.int .i64 (ah ps x.1).1,.int .i64 (ah ps x.1).2,.int .i64 (ah ps (x.1+1)).1,.int .i64 (ah ps (x.1+1)).2] 206)):=gw
   exact wu.out _ _ (hgg.aS _) (gW.grew hgg) ⟨⟨hB.trans (hgg.below.mono hB.size),hb.grew hgg⟩,hp⟩ ⟨W.heap.size,heap_alloc_new _ _,rfl⟩
  case body =>
   rintro l pre x a' W hl2 hlp ⟨⟨hB,hb⟩,hp⟩ ⟨B,hx,rfl⟩ hlt
   subst ha
   obtain⟨i,hil⟩:=x
   dsimp only at hx
   simp only[List.setIfInBounds_toArray,List.set_cons_succ,List.set_cons_zero]
   have oa:=eH vz.out i
   have ob:=eH vz.out (i+1)
   obtain⟨o,ho⟩:∃o,eG q (ah ps i) (ah ps (i+1))=o:=⟨_,rfl⟩
   obtain⟨t,ht⟩:∃o,tn (ah ps i) (ah ps (i+1)) to=o:=⟨_,rfl⟩
   have hle:jZ ps to i=decide (0<=t):=by unfold jZ;rw[ht]
   have hnext:o=false->∀i'∈pre++[(⟨i,hil⟩:Fin ps.length)],eG q (ah ps i'.1) (ah ps (i'.1+1))=false:=fun hof i' hi'=>by
    rcases List.mem_append.1 hi' with h|h
    ·exact hp i' h
    ·obtain rfl:=List.mem_singleton.1 h
     rw[<-hof];exact ho
   have hstop:o=true->abh ps q to ((pre++[(⟨i,hil⟩:Fin ps.length)]).map Fin.val) (decide (0<=t)):=fun hof=>by
    refine⟨pre.map Fin.val,i,by rw[List.map_append];rfl,fun j hj=>?_,by rw[ho,hof],hle.symm⟩
    obtain⟨j',hj',rfl⟩:=List.mem_map.1 hj
    exact hp j' hj'
   have mO:=hide hnext
   have wV:=hide hstop
   have ko:=hide (fun W'=>abR q (ah ps i) (ah ps (i+1)) o W' HQ.out oa ob ho)
   have kt:=hide (fun W'=>nK (ah ps i) (ah ps (i+1)) to t W' oa ob HTO.out ht)
   clear hnext hstop ho ht hle hp hlt
   generalize ah ps i=a at *
   generalize ah ps (i+1)=b at *
   obtain⟨a1,a2⟩:=a
   obtain⟨b1,b2⟩:=b
   obtain⟨x1,x2⟩:=q
   obtain⟨y1,y2⟩:=to
   dsimp only at hx hb ⊢
   have c0:W.cell? ⟨w.heap.size,0,none⟩=some (.int .i64 x1):=ag (hb 0 _ rfl) 0
   have c1:W.cell? ⟨w.heap.size,1,none⟩=some (.int .i64 x2):=ag (hb 0 _ rfl) 1
   have c2:W.cell? ⟨w.heap.size+1,0,none⟩=some (.int .i64 y1):=ag (hb 1 _ rfl) 0
   have c3:W.cell? ⟨w.heap.size+1,1,none⟩=some (.int .i64 y2):=ag (hb 1 _ rfl) 1
   have c4:W.cell? ⟨w.heap.size+2,0,none⟩=_:=(hb.box 2 rfl).cell
   have f4:W.frozen? ⟨w.heap.size+2,0,none⟩=_:=(hb.box 2 rfl).frozen
   have d0:W.cell? ⟨B,0,none⟩=some _:=ag hx 0
   have d1:W.cell? ⟨B,1,none⟩=some _:=ag hx 1
   have d2:W.cell? ⟨B,2,none⟩=some _:=ag hx 2
   have d3:W.cell? ⟨B,3,none⟩=some _:=ag hx 3
   have l2:=(hb.box 2 rfl).lt
   have l1:w.heap.size+1<W.heap.size:=by omega
   have l0:w.heap.size<W.heap.size:=by omega
   have lB:=au hx
   have HB:=hide hB
   have Hb:=hide hb
   clear hB hb hx
   gi_wp2_with fail
   refine⟨trivial,?_⟩
   refine (CallsIn.inRound l (callsIn_wide.2 (ko.out _))).mono ?_
   rintro e w' ⟨rfl,⟨n5,Gv⟩,rfl⟩
   dsimp only
   cases o
   ·have Dz:=hide (mO.out rfl)
    clear mO wV
    gi_wp2_with fail
    have hgg:Grew W (grow (dr W n5) Gv):=gw
    exact⟨hgg.aS _,gW.grew hgg,⟨HB.out.trans (hgg.below.mono HB.out.size),Hb.out.grew hgg⟩,Dz.out⟩
   ·have HS2:=hide (wV.out rfl)
    clear mO wV
    gi_wp2_with fail
    refine⟨trivial,?_⟩
    refine (CallsIn.inRound l (callsIn_wide.2 (kt.out _))).mono ?_
    rintro e w' ⟨rfl,⟨n6,os6⟩,rfl⟩
    dsimp only
    have hb2:Boxed W (w.heap.size+2) 4 (.bool false):=Hb.out.box 2 rfl
    have hbx2:=hide hb2
    clear hb2
    gi_wp2_with fail
    exact⟨jV (b:=w.heap.size+2) sV ⟨_,hbx2.out,rfl⟩,⟨gz (b:=w.heap.size+2) sV HB.out (by omega),_,(by repeat (with_reducible first|assumption|exact Hid.out (by assumption)|refine eu ?_ _ _|refine Boxed.set (v:=.bool false) _ ?_|refine jR ?_ (Hid.out (by assumption))|(refine eF ?_ (Hid.out (by assumption))))),HS2.out⟩,rfl⟩
  case done =>
   subst ha
   rintro D xs W hD hS ⟨⟨hB,hb⟩,hp⟩ hK
   have b1:Boxed W (w.heap.size+2) _ _:=hb.box 2 rfl
   have c1:=b1.cell
   have f1:=b1.frozen
   have hno:∀j,j<ps.length->eG q (ah ps j) (ah ps (j+1))=false:=fun j hj=>by
    have:j∈xs.map Fin.val:=by rw[hS];exact List.mem_range.2 hj
    obtain⟨j',hj',rfl⟩:=List.mem_map.1 this
    exact hp j' hj'
   obtain rfl:rr=true:=by rw[<-HRR.out,N8 TZ.out hno]
   have HB:=hide hB
   clear hB hb hS hp b1 hno
   gi_wp2_with fail
   have hK2:=(KeepsOthers.setCell W ⟨w.heap.size+2,0,none⟩ (.bool true)).same D _ hK rfl
   refine⟨by simp,.inl ⟨_,_,rfl,run_takeDeferred hK2,?_⟩⟩
   have hb5:=(HB.out.setCell (p:=⟨w.heap.size+2,0,none⟩) (by simp) (.bool true)).trans (belowK_b (w:=w) (Nat.le_refl _) _ D _ (.deferred none) (by omega) hK2 rfl rfl)
   have e3:((W.setCell ⟨w.heap.size+2,0,none⟩ (.bool true)).putObj D (.deferred none)).cell? ⟨w.heap.size+2,0,none⟩=some (.bool true):=by
    rw[bG (by omega)]
    go_simp
   refine⟨.bool true,by simp[results,Tryz.results217,go_sem,e3],?_⟩
   exact aC.mk' rfl (Grew.of_below hb5)
  case stop =>
   subst ha
   rintro D e pre W hD ⟨k,hk,hr⟩ ⟨⟨hB,v,hb1,hst⟩,rfl⟩ hK
   have c3:W.cell? ⟨w.heap.size+2,0,none⟩=_:=hb1.cell
   obtain⟨pr,i,h1,h2,h3,rfl⟩:=hst
   rw[hr] at h1
   have hki:k=i+1/\pr=List.range i:=by
    cases k with
    | zero=>simp at h1
    | succ k =>
     rw[List.range_succ] at h1
     obtain⟨e1,e2⟩:=List.append_inj' h1 rfl
     injection e2 with e2
     exact⟨by rw[e2],by rw[<-e1,e2]⟩
   obtain⟨rfl,rfl⟩:=hki
   have hres:=zq (to:=to) TZ.out (by omega:i<ps.length) h3 (fun j hj=>h2 j (List.mem_range.2 hj))
   obtain rfl:rr=jZ ps to i:=by rw[<-HRR.out,hres]
   have HB:=hide hB
   clear hB hb1 hr h1 h2 h3 hres hk HRR
   gi_wp2_with fail
   refine⟨by simp,.inl ⟨_,_,rfl,run_takeDeferred hK,?_⟩⟩
   have hb5:=HB.out.trans (belowK_b (w:=w) (Nat.le_refl _) _ D _ (.deferred none) (by omega) hK rfl rfl)
   have e3:=(bG (W:=W) (D:=D) (i:=0) (o:=.deferred none) (b:=w.heap.size+2) (by omega)).trans c3
   refine⟨.bool (jZ ps to i),by simp[results,Tryz.results217,go_sem,e3],?_⟩
   exact aC.mk' rfl (Grew.of_below hb5)
 ·have hres:leadsOf ps q to=iY ps k to:=vV hk hck hnc
  obtain⟨o,ho⟩:∃o,iY ps k to=o:=⟨_,rfl⟩
  have ko:=hide (fun W (hg:Grew w W)=>Iy ps A c k to o W (HR.out.up hg) hl vz.out HTO.out hk ho)
  rw[hres,ho] at HRR
  obtain rfl:o=rr:=HRR.out
  have hk0:(0:Int)<=(k:Int):=by omega
  clear hres ho hck hnc
  obtain⟨t1,t2⟩:=to
  dsimp only at c2 c3
  gi_wp2_with fail
  refine⟨trivial,?_⟩
  refine (callsIn_wide.2 (ko.out _ Hw1.out)).mono ?_
  rintro e w' ⟨rfl,⟨n5,Gv⟩,rfl⟩
  dsimp only
  gi_wp2_with fail
  have hbx2:Boxed W1 (w.heap.size+2) 4 (.bool false):=Hb1.out.box 2 rfl
  have e3:(grow (dr (W1.setCell ⟨w.heap.size+1+1,0,none⟩ (.bool o)) n5) Gv).cell? ⟨w.heap.size+1+1,0,none⟩=some (.bool o):=(eu (hbx2.set _) n5 Gv).cell
  refine⟨.bool o,by simp[results,Tryz.results217,go_sem,e3],?_⟩
  exact aC.mk' rfl (Grew.of_below (gz (b:=w.heap.size+2) sV Hw1.out.below (by omega)))
set_option maxHeartbeats 32000000
set_option maxRecDepth 100000
theorem Dj (ps:List Pt)(A:Option Addr)(c:Nat)(q to:Pt)(r:Bool)(w:World)(hr:Rd w w.heap.size 2 A (ps.map dY))(hl:ps.length<=100)(hok:ps.all Pt.ok=true)(hq:q.ok=true)(hto:to.ok=true)(h:leadsOf ps q to=r) :
  Calls Tryz.prog 217 #[.slice A ps.length c,pt q.1 q.2,pt to.1 to.2] w (aC w (.bool r)):=by
 have:=RQ ps A c q to w hr hl hok hq hto
 rwa [h] at this
theorem rZ {b:Bool}(h:some undef=some (Value.bool b)):False:=by simp[undef] at h
def iZ (ps:List Pt)(a b:Pt)(i:Nat):Bool :=
 !(lG a b (ah ps i) (ah ps (i+1))) && !(decide (ah ps i≠a)&&(decide (ah ps i≠b)&&(eG (ah ps i) a b && !(iY ps i a&&iY ps i b))))
def uC (ps:List Pt)(a b:Pt):Bool:=decide (0<=placeOf ps a)&&(decide (0<=placeOf ps b)&&(leadsOf ps a b&&leadsOf ps b a))
def wo (ps:List Pt)(a b:Pt):Bool:=uC ps a b&&(List.range ps.length).all (iZ ps a b)
theorem acp (ps:List Pt)(A:Option Addr)(c:Nat)(a b:Pt)(w:World)(hr:Rd w w.heap.size 2 A (ps.map dY))(hl:ps.length<=100)(hok:ps.all Pt.ok=true)(ha:a.ok=true)(hb:b.ok=true)(h:uC ps a b=false) :
  Calls Tryz.prog 215 #[.slice A ps.length c,pt a.1 a.2,pt b.1 b.2] w (aC w (.bool false)):=by
 have hm:=aP
 unfold uC at h
 obtain⟨pa,hpa⟩:∃p,placeOf ps a=p:=⟨_,rfl⟩
 obtain⟨pb,hpb⟩:∃p,placeOf ps b=p:=⟨_,rfl⟩
 obtain⟨la,hla⟩:∃p,leadsOf ps a b=p:=⟨_,rfl⟩
 obtain⟨lb,hlb⟩:∃p,leadsOf ps b a=p:=⟨_,rfl⟩
 rw[hpa,hpb,hla,hlb] at h
 have k1:=hide (fun W (hg:Grew w W)=>qR ps A c a pa W (hr.up hg) hl hok ha hpa)
 have k2:=hide (fun W (hg:Grew w W)=>qR ps A c b pb W (hr.up hg) hl hok hb hpb)
 have k3:=hide (fun W (hg:Grew w W)=>Dj ps A c a b la W (hr.up hg) hl hok ha hb hla)
 have k4:=hide (fun W (hg:Grew w W)=>Dj ps A c b a lb W (hr.up hg) hl hok hb ha hlb)
 clear hpa hpb hla hlb ha hb hok
 obtain⟨a1,a2⟩:=a
 obtain⟨b1,b2⟩:=b
 have hcase:pa<0\/(¬ pa<0/\pb<0)\/(¬ pa<0/\¬ pb<0/\la=false)\/(¬ pa<0/\¬ pb<0/\la=true/\lb=false):=by
  by_cases h1:pa<0
  ·exact .inl h1
  ·by_cases h2:pb<0
   ·exact .inr (.inl ⟨h1,h2⟩)
   ·rw[show decide (0<=pa)=true by simp;omega,show decide (0<=pb)=true by simp;omega] at h
    cases la
    ·exact .inr (.inr (.inl ⟨h1,h2,rfl⟩))
    ·cases lb
     ·exact .inr (.inr (.inr ⟨h1,h2,rfl,rfl⟩))
     ·simp at h
 clear h
 rcases hcase with h1|⟨h1,h2⟩|⟨h1,h2,rfl⟩|⟨h1,h2,rfl,rfl⟩
 all_goals
  go_enter Tryz.func215,Tryz.ntmps215
  go_wp2_with (first|(go_at_call 213;with_reducible refine aQ (k1.out _ gw) fun _ _=>?_;dsimp only)|(go_at_call 213;with_reducible refine aQ (k2.out _ gw) fun _ _=>?_;dsimp only)|(go_at_call 217;with_reducible refine aQ (k3.out _ gw) fun _ _=>?_;dsimp only)|(go_at_call 217;with_reducible refine aQ (k4.out _ gw) fun _ _=>?_;dsimp only))
  refine bodyPost_ret (v:=.bool false) (by simp[results,Tryz.results215,go_sem]) rfl ?_
  exact aC.mk' rfl gw
theorem Zh (ps:List Pt)(A:Option Addr)(c:Nat)(q to:Pt)(w:World)(hr:Rd w w.heap.size 2 A (ps.map dY))(hl:ps.length<=100)(hok:ps.all Pt.ok=true)(hq:q.ok=true)(hto:to.ok=true)(h:uC ps q to=true) :
  Calls Tryz.prog 215 #[.slice A ps.length c,pt q.1 q.2,pt to.1 to.2] w (aC w (.bool ((List.range ps.length).all (iZ ps q to)))):=by
 have hm:=aP
 unfold uC at h
 simp only[Bool.and_eq_true,decide_eq_true_eq] at h
 obtain⟨pa,hpa⟩:∃p,placeOf ps q=p:=⟨_,rfl⟩
 obtain⟨pb,hpb⟩:∃p,placeOf ps to=p:=⟨_,rfl⟩
 have k1:=hide (fun W (hg:Grew w W)=>qR ps A c q pa W (hr.up hg) hl hok hq hpa)
 have k2:=hide (fun W (hg:Grew w W)=>qR ps A c to pb W (hr.up hg) hl hok hto hpb)
 have k3:=hide (fun W (hg:Grew w W)=>Dj ps A c q to true W (hr.up hg) hl hok hq hto h.2.2.1)
 have k4:=hide (fun W (hg:Grew w W)=>Dj ps A c to q true W (hr.up hg) hl hok hto hq h.2.2.2)
 have h1:¬ pa<0:=by rw[<-hpa];omega
 have h2:¬ pb<0:=by rw[<-hpb];omega
 have HR:=hide hr
 have vz:=hide hok
 have HQ:=hide hq
 have HTO:=hide hto
 obtain⟨rr,hrr⟩:∃r,(List.range ps.length).all (iZ ps q to)=r:=⟨_,rfl⟩
 rw[hrr]
 have HRR:=hide hrr
 clear hr hok hq hto hrr h hpa hpb
 refine (callsIn_wide (n:=13)).1 ?_
 refine callsIn_of_wp_marks Tryz.func215 rfl trivial ?_ rfl
 simp only[Tryz.ntmps215,List.size_toArray,List.length_cons,List.length_nil,Nat.reduceAdd,Nat.reduceSub,Array.replicate_succ,Array.replicate_zero,List.push_toArray,List.append_toArray,List.nil_append,List.cons_append]
 gi_wp2_with fail
 refine⟨trivial,?_⟩
 refine (callsIn_wide.2 (k1.out _ gw)).mono ?_
 rintro e w' ⟨rfl,⟨n1,os1⟩,rfl⟩
 dsimp only
 gi_wp2_with fail
 refine⟨trivial,?_⟩
 refine (callsIn_wide.2 (k2.out _ gw)).mono ?_
 rintro e w' ⟨rfl,⟨n2,os2⟩,rfl⟩
 dsimp only
 gi_wp2_with fail
 refine⟨trivial,?_⟩
 refine (callsIn_wide.2 (k3.out _ gw)).mono ?_
 rintro e w' ⟨rfl,⟨n3,os3⟩,rfl⟩
 dsimp only
 gi_wp2_with fail
 refine⟨trivial,?_⟩
 refine (callsIn_wide.2 (k4.out _ gw)).mono ?_
 rintro e w' ⟨rfl,⟨n4,os4⟩,rfl⟩
 dsimp only
 gi_wp2_with fail
 refine⟨trivial,?_⟩
 refine (callsIn_wide.2 (jY _ _ _ _)).mono ?_
 rintro e w' ⟨rfl,rfl⟩
 dsimp only
 gi_wp2_with fail
 refine dJ ?_
 intro a0 W0 ha hW
 obtain⟨bx,hbx⟩:∃bx:List Obj,bx=[.cells #[.slice A ps.length c] 174 (0,0),.cells #[.int .i64 q.1,.int .i64 q.2] 28 (0,0),.cells #[.int .i64 to.1,.int .i64 to.2] 28 (0,0),.cells #[.bool false] 4 (0,0)]:=⟨_,rfl⟩
 have hg0:Grew w W0:=by rw[<-hW];exact gw
 have hb0:Bx W0 w.heap.size bx:=by rw[<-hW,hbx];refine (Bx.lT _ w).1.grew ?_;simp only[List.foldl];exact gw
 obtain⟨P0,hP0⟩:∃P0,w.heap.size+1+1+1+1+(os1.size+(os2.size+(os3.size+os4.size)))=P0:=⟨_,rfl⟩
 have hk0:W0.heap[P0]?=some (.cells #[.slice A ps.length c] 174 (0,0)):=by rw[<-hW,<-hP0];exact az _ _ _ (by go_simp)
 have hlow:w.heap.size+4<=P0:=by omega
 have hPl:=au hk0
 clear hW
 have ha2:a0.eval (.tmp 36)=.func (.func 153) #[] #[.pointer (some ⟨P0,0,none⟩)]:=by rw[<-ha,<-hP0];simp[Act.eval];exact (bU _ _).trans (by simp)
 subst hbx
 refine wpIn_rangeFunc_ownH (n:=13) rfl (by omega) (gf:=153) (lb:=#[.pointer (some ⟨P0,0,none⟩)]) ha2 trivial (enters_of Tryz.func153 (by kernel_rfl) rfl)
  (gU 12 w.heap.size (fun _ _=>False) ps A c P0 W0 (fun b _ hb=>hb.elim) hk0 (HR.out.grew hg0 (Nat.le_refl _)) (by omega) (by omega))
  (fun h k=>h.trans k) gW.bk (Below.refl _ _) (fun _=>rfl)
  (fun pre W=>(Below w.heap.size w W/\Bx W w.heap.size _)/\∀i∈pre,iZ ps q to i.1=true)
  (fun e pre W=>(Below w.heap.size w W/\Boxed W (w.heap.size+3) 4 (.bool false))/\e=.ret/\rr=false)
  (OwnFrom.and (OwnFrom.and (ownFrom_below (Nat.le_refl _) hg0.below.size) (Bx.own (by simp;omega))) (ownFrom_pure _))
  (fun q=>OwnFrom.and (OwnFrom.and (ownFrom_below (Nat.le_refl _) hg0.below.size) (Own.from (boxed_own _ _ _) _)) (ownFrom_pure _))
  ⟨⟨hg0.below,hb0⟩,fun i hi=>by cases hi⟩
  (fun x a' W=>∃B,W.heap[B]?=some (.cells #[.int .i64 (ah ps x.1).1,.int .i64 (ah ps x.1).2,.int .i64 (ah ps (x.1+1)).1,.int .i64 (ah ps (x.1+1)).2] 206 (0,0))/\a'={ tmps:=(((a0.tmps.setIfInBounds 37 (.int .i64 (x.1:Nat))).setIfInBounds 38 (.agg #[.int .i64 (ah ps x.1).1,.int .i64 (ah ps x.1).2,.int .i64 (ah ps (x.1+1)).1,.int .i64 (ah ps (x.1+1)).2])).setIfInBounds 7 (.int .i64 (x.1:Nat))).setIfInBounds 8 (.pointer (some ⟨B,0,none⟩)),defers:=[] })
  (fun x a'=>by
   rintro s X Y row ⟨B,h1,h2⟩ hg hr
   exact⟨B,fG h1 hg (fun r e=>(hr r e).2),h2⟩)
  ?assign ?body ?done ?stop
 case assign =>
  rintro l pre x W K ⟨⟨hB,hb⟩,hp⟩ hK
  rw[show CQ ps x=#[.int .i64 (x.1:Nat),.agg #[.int .i64 (ah ps x.1).1,.int .i64 (ah ps x.1).2,.int .i64 (ah ps (x.1+1)).1,.int .i64 (ah ps (x.1+1)).2]] from rfl,FT]
  subst ha
  simp only[List.setIfInBounds_toArray,List.set_cons_succ,List.set_cons_zero] at hK ⊢
  have wu:=hide hK
  clear hK
  gi_wp2_with fail
  have hgg:Grew W (W.alloc (.cells #[.int .i64 (ah ps x.1).1,.int .i64 (ah ps x.1).2,.int .i64 (ah ps (x.1+1)).1,.int .i64 (ah ps (x.1+1)).2] 206)):=gw
  exact wu.out _ _ (hgg.aS _) (gW.grew hgg) ⟨⟨hB.trans (hgg.below.mono hB.size),hb.grew hgg⟩,hp⟩ ⟨W.heap.size,heap_alloc_new _ _,rfl⟩
 case body =>
  rintro l pre x a' W hl2 hlp ⟨⟨hB,hb⟩,hp⟩ ⟨B,hx,rfl⟩ hlt
  subst ha
  obtain⟨i,hil⟩:=x
  dsimp only at hx
  simp only[List.setIfInBounds_toArray,List.set_cons_succ,List.set_cons_zero]
  have oa:=eH vz.out i
  have ob:=eH vz.out (i+1)
  obtain⟨t1,e1⟩:∃t,tn q to (ah ps i)=t:=⟨_,rfl⟩
  obtain⟨t2,e2⟩:∃t,tn q to (ah ps (i+1))=t:=⟨_,rfl⟩
  obtain⟨t3,e3⟩:∃t,tn (ah ps i) (ah ps (i+1)) q=t:=⟨_,rfl⟩
  obtain⟨t4,e4⟩:∃t,tn (ah ps i) (ah ps (i+1)) to=t:=⟨_,rfl⟩
  obtain⟨o,ho⟩:∃o,eG (ah ps i) q to=o:=⟨_,rfl⟩
  obtain⟨p1',hp1⟩:∃o,iY ps i q=o:=⟨_,rfl⟩
  obtain⟨p2',hp2⟩:∃o,iY ps i to=o:=⟨_,rfl⟩
  have kt1:=hide (fun W'=>nK _ _ _ t1 W' HQ.out HTO.out oa e1)
  have kt2:=hide (fun W'=>nK _ _ _ t2 W' HQ.out HTO.out ob e2)
  have kt3:=hide (fun W'=>nK _ _ _ t3 W' oa ob HQ.out e3)
  have kt4:=hide (fun W'=>nK _ _ _ t4 W' oa ob HTO.out e4)
  have ko:=hide (fun W'=>abR (ah ps i) q to o W' oa HQ.out HTO.out ho)
  have kp1:=hide (fun W (hg:Grew w W)=>Iy ps A c i q p1' W (HR.out.up hg) hl vz.out HQ.out hil hp1)
  have kp2:=hide (fun W (hg:Grew w W)=>Iy ps A c i to p2' W (HR.out.up hg) hl vz.out HTO.out hil hp2)
  have b12:=IP (e1 ▸ BD q to (ah ps i)) (e2 ▸ BD q to (ah ps (i+1)))
  have b34:=IP (e3 ▸ BD (ah ps i) (ah ps (i+1)) q) (e4 ▸ BD (ah ps i) (ah ps (i+1)) to)
  have e12:IntKind.i64.wrap (t1*t2)=t1*t2:=by unfold IntKind.wrap;simp[IntKind.bits,IntKind.signed];omega
  have e34:IntKind.i64.wrap (t3*t4)=t3*t4:=by unfold IntKind.wrap;simp[IntKind.bits,IntKind.signed];omega
  have heh:iZ ps q to i=(!(decide (t1*t2<0)&&decide (t3*t4<0)) && !(decide (ah ps i≠q)&&(decide (ah ps i≠to)&&(o && !(p1'&&p2'))))):=by
   unfold iZ lG
   rw[e1,e2,e3,e4,ho,hp1,hp2]
  have hnx:iZ ps q to i=true->∀i'∈pre++[(⟨i,hil⟩:Fin ps.length)],iZ ps q to i'.1=true:=fun hof i' hi'=>by
   rcases List.mem_append.1 hi' with h|h
   ·exact hp i' h
   ·obtain rfl:=List.mem_singleton.1 h
    exact hof
  have hst:iZ ps q to i=false->rr=false:=fun hof=>by
   rw[<-HRR.out]
   exact List.all_eq_false.2 ⟨i,List.mem_range.2 hil,by rw[hof];simp⟩
  have HEH:=hide heh
  have Ht:=hide hnx
  have HST:=hide hst
  clear e1 e2 e3 e4 ho hp1 hp2 heh hnx hst hp hlt
  generalize ah ps i=a at *
  generalize ah ps (i+1)=b at *
  obtain⟨a1,a2⟩:=a
  obtain⟨b1,b2⟩:=b
  obtain⟨x1,x2⟩:=q
  obtain⟨y1,y2⟩:=to
  dsimp only at hx hb ⊢
  have c00:W.cell? ⟨w.heap.size,0,none⟩=some (.slice A ps.length c):=(hb.box 0 rfl).cell
  have c0:W.cell? ⟨w.heap.size+1,0,none⟩=some (.int .i64 x1):=ag (hb 1 _ rfl) 0
  have c1:W.cell? ⟨w.heap.size+1,1,none⟩=some (.int .i64 x2):=ag (hb 1 _ rfl) 1
  have c2:W.cell? ⟨w.heap.size+2,0,none⟩=some (.int .i64 y1):=ag (hb 2 _ rfl) 0
  have c3:W.cell? ⟨w.heap.size+2,1,none⟩=some (.int .i64 y2):=ag (hb 2 _ rfl) 1
  have c4:W.cell? ⟨w.heap.size+3,0,none⟩=_:=(hb.box 3 rfl).cell
  have f4:W.frozen? ⟨w.heap.size+3,0,none⟩=_:=(hb.box 3 rfl).frozen
  have d0:W.cell? ⟨B,0,none⟩=some _:=ag hx 0
  have d1:W.cell? ⟨B,1,none⟩=some _:=ag hx 1
  have d2:W.cell? ⟨B,2,none⟩=some _:=ag hx 2
  have d3:W.cell? ⟨B,3,none⟩=some _:=ag hx 3
  have l3:=(hb.box 3 rfl).lt
  have l2:w.heap.size+2<W.heap.size:=by omega
  have l1:w.heap.size+1<W.heap.size:=by omega
  have l0:w.heap.size<W.heap.size:=by omega
  have lB:=au hx
  have HB:=hide hB
  have Hb:=hide hb
  clear hB hb hx
  gi_wp2_with fail
  refine dn 8 [⟨4,6,9,28,.agg #[.int .i64 0,.int .i64 0]⟩,⟨5,7,10,28,.agg #[.int .i64 0,.int .i64 0]⟩] [] hm (hZ:=(qI.cons Tryz.zeroValue28 Tryz.sizeOf28 (qI.cons Tryz.zeroValue28 Tryz.sizeOf28 qI.nil))) (h:=?_)
  repeat (refine ax (fun K hK=>?_);go_simp;refine hK _ ?_;clear hK K)
  refine dZ ?_
  refine⟨(ja.cons (by rfl) (by simp[bV,Act.eval,Value.cells,Value.oneCell']) (ja.cons (by rfl) (by simp[bV,Act.eval,Value.cells,Value.oneCell']) ja.nil)),nT.nil,?_⟩
  rintro psq FI Wq iT F6 F8
  obtain rfl:FI=[]:=F8
  obtain⟨p0,_,rfl,hp0,hb0,hn0,p1,_,rfl,hp1,hb1,hn1,rfl⟩:=F6
  simp only[putAll,putB,Act.put,aG]
  simp[bV,Act.eval,Value.cells] at hb0
  have xY:Wq.cell? ⟨p0,0,none⟩=some _:=ag hb0 0
  have xX:Wq.cell? ⟨p0,1,none⟩=some _:=ag hb0 1
  have Yl:=bM hb0
  have Yk:=au hb0
  simp[bV,Act.eval,Value.cells] at hb1
  have EE:Wq.cell? ⟨p1,0,none⟩=some _:=ag hb1 0
  have ED:Wq.cell? ⟨p1,1,none⟩=some _:=ag hb1 1
  have gf1:=bM hb1
  have gl1:=au hb1
  have gn:p0≠p1:=by simpa using hn0
  have gm:p1≠p0:=fun e=>gn e.symm
  have Xa:=hide hp0
  have gp1:=hide hp1
  clear hb0 hn0 hp0 hb1 hn1 hp1
  have oc:=iW iT
  have of:=jw iT
  have ol:=rH iT
  replace iT:=hide iT
  have z00:Wq.cell? ⟨w.heap.size,0,none⟩=_:=(oc _ 0 l0).trans c00
  have z0:Wq.cell? ⟨w.heap.size+1,0,none⟩=_:=(oc _ 0 l1).trans c0
  have z1:Wq.cell? ⟨w.heap.size+1,1,none⟩=_:=(oc _ 1 l1).trans c1
  have z2:Wq.cell? ⟨w.heap.size+2,0,none⟩=_:=(oc _ 0 l2).trans c2
  have z3:Wq.cell? ⟨w.heap.size+2,1,none⟩=_:=(oc _ 1 l2).trans c3
  have z4:Wq.cell? ⟨w.heap.size+3,0,none⟩=_:=(oc _ 0 l3).trans c4
  have z5:Wq.frozen? ⟨w.heap.size+3,0,none⟩=_:=(of _ 0 l3).trans f4
  have hgs:=iT.out.below.size
  have m0:w.heap.size<Wq.heap.size:=by omega
  have m1:w.heap.size+1<Wq.heap.size:=by omega
  have m2:w.heap.size+2<Wq.heap.size:=by omega
  have m3:w.heap.size+3<Wq.heap.size:=by omega
  have Yg:Hid (Grew w Wq):=hide ((Grew.of_below HB.out).trans iT.out)
  have hbr:Hid (Boxed Wq (w.heap.size+3) 4 (.bool false)):=hide ((Hb.out.grew iT.out).box 3 rfl)
  have aeL:Hid (Boxed W (w.heap.size+3) 4 (.bool false)):=hide (Hb.out.box 3 rfl)
  have hgb:Hid (W.grownBy Wq (some (w.heap.size+3))):=hide (xA (iC _ _) iT.out)
  clear c00 c0 c1 c2 c3 c4 f4 d0 d1 d2 d3 oc of ol
  have hcut:(decide (t1*t2<0)=true/\decide (t3*t4<0)=true)\/((decide (t1*t2<0)&&decide (t3*t4<0))=false):=by
   cases decide (t1*t2<0)<;>cases decide (t3*t4<0)<;>simp
  rcases hcut with⟨u1,u2⟩|u
  ·have hr0:=HST.out (by rw[HEH.out,u1,u2];rfl)
   have HR0:=hide hr0
   clear hr0 HST Ht HEH
   gi_wp2_with fail
   refine dn 22 [] [] hm (h:=?_)
   repeat (refine ax (fun K hK=>?_);go_simp;first|(refine hK _ ?_;clear hK K)|(apply Exists.intro;refine⟨fun _=>?_,hK _ ?_⟩;(go_at_call 109;first|with_reducible exact kt1.out _|with_reducible exact kt2.out _|with_reducible exact kt3.out _|with_reducible exact kt4.out _);clear hK K))
   refine AB fun nqz NR=>?_
   try simp only[Act.put,aG]
   try dsimp only
   gi_wp2_with fail
   exact⟨jV (b:=w.heap.size+3) sV ⟨_,aeL.out,rfl⟩,⟨gz (b:=w.heap.size+3) sV HB.out (by omega),(by repeat (with_reducible first|assumption|exact Hid.out (by assumption)|refine eu ?_ _ _|refine Boxed.set (v:=.bool false) _ ?_|refine jR ?_ (Hid.out (by assumption))|(refine eF ?_ (Hid.out (by assumption)))))⟩,rfl,HR0.out⟩
  ·have hu:(decide (t1*t2<0)=true/\decide (t3*t4<0)=false)\/decide (t1*t2<0)=false:=by
    cases h1:decide (t1*t2<0)<;>cases h2:decide (t3*t4<0)<;>rw[h1,h2] at u<;>simp at u ⊢
   rw[u,Bool.not_false,Bool.true_and] at HEH
   clear u
   have hkk:(a1=x1/\a2=x2)\/((a1≠x1\/(a1=x1/\a2≠x2))/\a1=y1/\a2=y2)\/((a1≠x1\/(a1=x1/\a2≠x2))/\(a1≠y1\/(a1=y1/\a2≠y2))):=by omega
   have heq:∀ (z1 z2:Int),((a1,a2)≠((z1,z2):Pt))↔(a1≠z1\/(a1=z1/\a2≠z2)):=fun z1 z2=>by
    rw[Ne,Prod.mk.injEq]
    omega
   have ev:iZ ps (x1,x2) (y1,y2) i = !(decide (a1≠x1\/(a1=x1/\a2≠x2))&&(decide (a1≠y1\/(a1=y1/\a2≠y2))&&(o && !(p1'&&p2')))):=by
    rw[HEH.out]
    simp only[heq]
   clear HEH heq
   rcases hu with⟨u1,u2⟩|u1
   all_goals
    rcases hkk with⟨v1,v2⟩|⟨v1,v2,v3⟩|⟨v1,v2⟩
    ·have hv:iZ ps (x1,x2) (y1,y2) i=true:=by rw[ev,show decide (a1≠x1\/(a1=x1/\a2≠x2))=false by simp;omega];rfl
     have Dz:=hide (Ht.out hv)
     clear hv ev Ht HST
     subst v1 v2
     gi_wp2_with fail
     refine dn 22 [] [] hm (h:=?_)
     repeat (refine ax (fun K hK=>?_);go_simp;first|(refine hK _ ?_;clear hK K)|(apply Exists.intro;refine⟨fun _=>?_,hK _ ?_⟩;(go_at_call 109;first|with_reducible exact kt1.out _|with_reducible exact kt2.out _|with_reducible exact kt3.out _|with_reducible exact kt4.out _);clear hK K))
     refine AB fun nqz NR=>?_
     try simp only[Act.put,aG]
     try dsimp only
     gi_wp2_with fail
     all_goals repeat (refine⟨trivial,?_⟩;(try ((with_reducible refine (CallsIn.inRound l (callsIn_wide.2 (ko.out _))).mono ?_);rintro e w' ⟨rfl,⟨_,_⟩,rfl⟩;dsimp only));(try ((with_reducible refine (CallsIn.inRound l (callsIn_wide.2 (kp1.out _ (Yg.out.trans gw)))).mono ?_);rintro e w' ⟨rfl,⟨_,_⟩,rfl⟩;dsimp only));(try ((with_reducible refine (CallsIn.inRound l (callsIn_wide.2 (kp2.out _ (Yg.out.trans gw)))).mono ?_);rintro e w' ⟨rfl,⟨_,_⟩,rfl⟩;dsimp only));gi_wp2_with fail;try any_goals (exact (rZ (by assumption)).elim))
     all_goals exact⟨(iT.out.trans gw).aS _,gW.grew (iT.out.trans gw),⟨HB.out.trans ((iT.out.trans gw).below.mono HB.out.size),Hb.out.grew (iT.out.trans gw)⟩,Dz.out⟩
    ·have hv:iZ ps (x1,x2) (y1,y2) i=true:=by rw[ev,show decide (a1≠y1\/(a1=y1/\a2≠y2))=false by simp;omega,Bool.false_and,Bool.and_false];rfl
     have Dz:=hide (Ht.out hv)
     clear hv ev Ht HST
     subst v2 v3
     rcases v1 with v1|⟨v1,v2⟩
     all_goals
      try subst v1
      gi_wp2_with fail
      refine dn 22 [] [] hm (h:=?_)
      repeat (refine ax (fun K hK=>?_);go_simp;first|(refine hK _ ?_;clear hK K)|(apply Exists.intro;refine⟨fun _=>?_,hK _ ?_⟩;(go_at_call 109;first|with_reducible exact kt1.out _|with_reducible exact kt2.out _|with_reducible exact kt3.out _|with_reducible exact kt4.out _);clear hK K))
      refine AB fun nqz NR=>?_
      try simp only[Act.put,aG]
      try dsimp only
      gi_wp2_with fail
      all_goals repeat (refine⟨trivial,?_⟩;(try ((with_reducible refine (CallsIn.inRound l (callsIn_wide.2 (ko.out _))).mono ?_);rintro e w' ⟨rfl,⟨_,_⟩,rfl⟩;dsimp only));(try ((with_reducible refine (CallsIn.inRound l (callsIn_wide.2 (kp1.out _ (Yg.out.trans gw)))).mono ?_);rintro e w' ⟨rfl,⟨_,_⟩,rfl⟩;dsimp only));(try ((with_reducible refine (CallsIn.inRound l (callsIn_wide.2 (kp2.out _ (Yg.out.trans gw)))).mono ?_);rintro e w' ⟨rfl,⟨_,_⟩,rfl⟩;dsimp only));gi_wp2_with fail;try any_goals (exact (rZ (by assumption)).elim))
      all_goals exact⟨(iT.out.trans gw).aS _,gW.grew (iT.out.trans gw),⟨HB.out.trans ((iT.out.trans gw).below.mono HB.out.size),Hb.out.grew (iT.out.trans gw)⟩,Dz.out⟩
    ·rw[show decide (a1≠x1\/(a1=x1/\a2≠x2))=true by simpa using v1,show decide (a1≠y1\/(a1=y1/\a2≠y2))=true by simpa using v2,Bool.true_and,Bool.true_and] at ev
     have EV:=hide ev
     clear ev
     have hop:((o=false)\/(o=true/\p1'=true/\p2'=true))\/((o=true/\p1'=false)\/(o=true/\p1'=true/\p2'=false)):=by
      cases o<;>cases p1'<;>cases p2'<;>simp
     rcases hop with hop|hop
     ·have hv:iZ ps (x1,x2) (y1,y2) i=true:=by rw[EV.out];rcases hop with rfl|⟨rfl,rfl,rfl⟩<;>rfl
      have Dz:=hide (Ht.out hv)
      clear hv EV Ht HST
      rcases hop with rfl|⟨rfl,rfl,rfl⟩<;>rcases v1 with v1|⟨v1,v3⟩<;>rcases v2 with v2|⟨v2,v4⟩
      all_goals
       try subst v1
       try subst v2
       gi_wp2_with fail
       refine dn 22 [] [] hm (h:=?_)
       repeat (refine ax (fun K hK=>?_);go_simp;first|(refine hK _ ?_;clear hK K)|(apply Exists.intro;refine⟨fun _=>?_,hK _ ?_⟩;(go_at_call 109;first|with_reducible exact kt1.out _|with_reducible exact kt2.out _|with_reducible exact kt3.out _|with_reducible exact kt4.out _);clear hK K))
       refine AB fun nqz NR=>?_
       try simp only[Act.put,aG]
       try dsimp only
       gi_wp2_with fail
       all_goals repeat (refine⟨trivial,?_⟩;(try ((with_reducible refine (CallsIn.inRound l (callsIn_wide.2 (ko.out _))).mono ?_);rintro e w' ⟨rfl,⟨_,_⟩,rfl⟩;dsimp only));(try ((with_reducible refine (CallsIn.inRound l (callsIn_wide.2 (kp1.out _ (Yg.out.trans gw)))).mono ?_);rintro e w' ⟨rfl,⟨_,_⟩,rfl⟩;dsimp only));(try ((with_reducible refine (CallsIn.inRound l (callsIn_wide.2 (kp2.out _ (Yg.out.trans gw)))).mono ?_);rintro e w' ⟨rfl,⟨_,_⟩,rfl⟩;dsimp only));gi_wp2_with fail;try any_goals (exact (rZ (by assumption)).elim))
       all_goals exact⟨(iT.out.trans gw).aS _,gW.grew (iT.out.trans gw),⟨HB.out.trans ((iT.out.trans gw).below.mono HB.out.size),Hb.out.grew (iT.out.trans gw)⟩,Dz.out⟩
     ·have hv:iZ ps (x1,x2) (y1,y2) i=false:=by rw[EV.out];rcases hop with⟨rfl,rfl⟩|⟨rfl,rfl,rfl⟩<;>simp
      have HR0:=hide (HST.out hv)
      clear hv EV Ht HST
      rcases hop with⟨rfl,rfl⟩|⟨rfl,rfl,rfl⟩<;>rcases v1 with v1|⟨v1,v3⟩<;>rcases v2 with v2|⟨v2,v4⟩
      all_goals
       try subst v1
       try subst v2
       gi_wp2_with fail
       refine dn 22 [] [] hm (h:=?_)
       repeat (refine ax (fun K hK=>?_);go_simp;first|(refine hK _ ?_;clear hK K)|(apply Exists.intro;refine⟨fun _=>?_,hK _ ?_⟩;(go_at_call 109;first|with_reducible exact kt1.out _|with_reducible exact kt2.out _|with_reducible exact kt3.out _|with_reducible exact kt4.out _);clear hK K))
       refine AB fun nqz NR=>?_
       try simp only[Act.put,aG]
       try dsimp only
       gi_wp2_with fail
       all_goals repeat (refine⟨trivial,?_⟩;(try ((with_reducible refine (CallsIn.inRound l (callsIn_wide.2 (ko.out _))).mono ?_);rintro e w' ⟨rfl,⟨_,_⟩,rfl⟩;dsimp only));(try ((with_reducible refine (CallsIn.inRound l (callsIn_wide.2 (kp1.out _ (Yg.out.trans gw)))).mono ?_);rintro e w' ⟨rfl,⟨_,_⟩,rfl⟩;dsimp only));(try ((with_reducible refine (CallsIn.inRound l (callsIn_wide.2 (kp2.out _ (Yg.out.trans gw)))).mono ?_);rintro e w' ⟨rfl,⟨_,_⟩,rfl⟩;dsimp only));gi_wp2_with fail;try any_goals (exact (rZ (by assumption)).elim))
       all_goals exact⟨jV (b:=w.heap.size+3) sV ⟨_,aeL.out,rfl⟩,⟨gz (b:=w.heap.size+3) sV HB.out (by omega),(by repeat (with_reducible first|assumption|exact Hid.out (by assumption)|refine eu ?_ _ _|refine Boxed.set (v:=.bool false) _ ?_|refine jR ?_ (Hid.out (by assumption))|(refine eF ?_ (Hid.out (by assumption)))))⟩,rfl,HR0.out⟩
 case done =>
  subst ha
  rintro D xs W hD hS ⟨⟨hB,hb⟩,hp⟩ hK
  have b1:Boxed W (w.heap.size+3) _ _:=hb.box 3 rfl
  have c1:=b1.cell
  have f1:=b1.frozen
  obtain rfl:rr=true:=by
   rw[<-HRR.out,List.all_eq_true]
   intro j hj
   rw[<-hS] at hj
   obtain⟨j',hj',rfl⟩:=List.mem_map.1 hj
   exact hp j' hj'
  have HB:=hide hB
  clear hB hb hS hp b1
  gi_wp2_with fail
  have hK2:=(KeepsOthers.setCell W ⟨w.heap.size+3,0,none⟩ (.bool true)).same D _ hK rfl
  refine⟨by simp,.inl ⟨_,_,rfl,run_takeDeferred hK2,?_⟩⟩
  have hb5:=(HB.out.setCell (p:=⟨w.heap.size+3,0,none⟩) (by simp) (.bool true)).trans (belowK_b (w:=w) (Nat.le_refl _) _ D _ (.deferred none) (by omega) hK2 rfl rfl)
  have e3:((W.setCell ⟨w.heap.size+3,0,none⟩ (.bool true)).putObj D (.deferred none)).cell? ⟨w.heap.size+3,0,none⟩=some (.bool true):=by
   rw[bG (by omega)]
   go_simp
  refine⟨.bool true,by simp[results,Tryz.results215,go_sem,e3],?_⟩
  exact aC.mk' rfl (Grew.of_below hb5)
 case stop =>
  subst ha
  rintro D e pre W hD hr ⟨⟨hB,hb1⟩,rfl,rfl⟩ hK
  have c3:W.cell? ⟨w.heap.size+3,0,none⟩=_:=hb1.cell
  have HB:=hide hB
  clear hB hb1 hr
  gi_wp2_with fail
  refine⟨by simp,.inl ⟨_,_,rfl,run_takeDeferred hK,?_⟩⟩
  have hb5:=HB.out.trans (belowK_b (w:=w) (Nat.le_refl _) _ D _ (.deferred none) (by omega) hK rfl rfl)
  have e3:=(bG (W:=W) (D:=D) (i:=0) (o:=.deferred none) (b:=w.heap.size+3) (by omega)).trans c3
  refine⟨.bool false,by simp[results,Tryz.results215,go_sem,e3],?_⟩
  exact aC.mk' rfl (Grew.of_below hb5)
set_option maxHeartbeats 8000000
set_option maxRecDepth 100000
def nV (ps:List Pt)(q:Pt)(r:Int)(is:List Nat):Bool:=is.any fun i=>o6 q (ah ps i) (ah ps (i+1)) r
def iK (ps:List Pt)(q:Pt)(r:Int)(is:List Nat):Bool:=is.all fun i=>apartB q (ah ps i) (ah ps (i+1)) r
def iM (ps:List Pt)(q:Pt)(r:Int):Int :=
 if 0<=placeOf ps q then (if iK ps q r (List.range ps.length)=true then 1 else 0)
 else (if nV ps q r (List.range ps.length)=true then 0 else -1)
def qC (ps:List Pt)(q:Pt)(r:Int):Int×Int:=if (dm ps&&(q.ok&&lM r))=true then (iM ps q r,0) else (0,1)
theorem aaw (ps:List Pt)(A:Option Addr)(c:Nat)(q:Pt)(r:Int)(w:World)(hr:Rd w w.heap.size 2 A (ps.map dY))(hc:ps.length<=100000000000000)(h:(dm ps&&(q.ok&&lM r))=false) :
  Calls Tryz.prog 210 #[.slice A ps.length c,pt q.1 q.2,.int .i64 r] w (aC w (.tuple #[.int .i64 0,.int .i64 1])):=by
 have hm:=aP
 obtain⟨u,hu⟩:∃u,q.ok=u:=⟨_,rfl⟩
 obtain⟨v,hv⟩:∃u,dm ps=u:=⟨_,rfl⟩
 rw[hu,hv] at h
 have k1:=hide (fun W=>dP q.1 q.2 u W hu)
 have k2:=hide (fun W (hg:Grew w W)=>jJ ps A c v W (hr.up hg) hc hv)
 clear hu hv
 obtain⟨x1,x2⟩:=q
 have hcase:v=false\/(v=true/\u=false)\/(v=true/\u=true/\r<0)\/(v=true/\u=true/\¬ r<0/\3000000<r):=by
  cases v
  ·exact .inl rfl
  ·cases u
   ·exact .inr (.inl ⟨rfl,rfl⟩)
   ·simp[lM] at h
    by_cases h1:r<0
    ·exact .inr (.inr (.inl ⟨rfl,rfl,h1⟩))
    ·exact .inr (.inr (.inr ⟨rfl,rfl,h1,by omega⟩))
 clear h
 rcases hcase with rfl|⟨rfl,rfl⟩|⟨rfl,rfl,h1⟩|⟨rfl,rfl,h1,h2⟩
 all_goals
  go_enter Tryz.func210,Tryz.ntmps210
  go_wp2_with (first|(go_at_call 49;with_reducible refine aQ (k1.out _) fun _ _=>?_;dsimp only)|(go_at_call 88;with_reducible refine aQ (k2.out _ gw) fun _ _=>?_;dsimp only))
  go_ret2
  exact aC.mk' rfl gw
theorem Bx.adK {W:World}{n0 b i:Nat}{v:Value}{os:List Obj}(h:Bx W n0 os)(hb:n0+os.length<=b):Bx (W.setCell ⟨b,i,none⟩ v) n0 os:=fun j o ho=>(heap_setCell_other W ⟨b,i,none⟩ (n0+j) v (fun e=>by
  have:=(List.getElem?_eq_some_iff.1 ho).1
  dsimp only at e
  omega)).trans (h j o ho)
theorem IJ (ps:List Pt)(q:Pt)(r:Int)(is:List Nat)(i:Nat):nV ps q r (is++[i])=(nV ps q r is||o6 q (ah ps i) (ah ps (i+1)) r):=by unfold nV;simp
theorem FU (ps:List Pt)(q:Pt)(r:Int)(is:List Nat)(i:Nat):iK ps q r (is++[i])=(iK ps q r is&&apartB q (ah ps i) (ah ps (i+1)) r):=by unfold iK;simp
theorem aai (p a b:Pt)(d:Int)(r:Bool)(w:World)(hp:p.ok=true)(ha:a.ok=true)(hb:b.ok=true)(hd:lM d=true)(h:o6 p a b d=r) :
  Calls Tryz.prog 122 #[pt p.1 p.2,pt a.1 a.2,pt b.1 b.2,.int .i64 d] w (aC w (.tuple #[.bool r,.int .i64 0])):=by
 have:=MF p a b d w
 have e:kD p a b d=(o6 p a b d,0):=by unfold kD;rw[hp,ha,hb,hd];rfl
 rw[e,h] at this
 exact this
theorem aaE (p a b:Pt)(d:Int)(r:Bool)(w:World)(hp:p.ok=true)(ha:a.ok=true)(hb:b.ok=true)(hd:lM d=true)(h:apartB p a b d=r) :
  Calls Tryz.prog 214 #[pt p.1 p.2,pt a.1 a.2,pt b.1 b.2,.int .i64 d] w (aC w (.tuple #[.bool r,.int .i64 0])):=by
 have:=Ye p a b d w hp ha hb (zH hd)
 rwa [h] at this
theorem X9 (ps:List Pt)(A:Option Addr)(c:Nat)(q:Pt)(r:Int)(w:World)(hr:Rd w w.heap.size 2 A (ps.map dY))(hv:dm ps=true)(hu:q.ok=true)(hd:lM r=true) :
  Calls Tryz.prog 210 #[.slice A ps.length c,pt q.1 q.2,.int .i64 r] w (aC w (.tuple #[.int .i64 (iM ps q r),.int .i64 0])):=by
 have hm:=aP
 have hp:=jH hv
 have hdb:=zH hd
 obtain⟨at',hat⟩:∃p,placeOf ps q=p:=⟨_,rfl⟩
 have k1:=hide (fun W=>dP q.1 q.2 true W hu)
 have k2:=hide (fun W (hg:Grew w W)=>jJ ps A c true W (hr.up hg) (by omega) hv)
 have k3:=hide (fun W (hg:Grew w W)=>qR ps A c q at' W (hr.up hg) (by omega) hp.2 hu hat)
 have HR:=hide hr
 have vz:=hide hp.2
 have HQ:=hide hu
 have HD:=hide hd
 have hl:ps.length<=24:=hp.1.2
 obtain⟨rr,hrr⟩:∃v,iM ps q r=v:=⟨_,rfl⟩
 rw[hrr]
 unfold iM at hrr
 rw[hat] at hrr
 have HRR:=hide hrr
 have h1:¬ r<0:=by omega
 have h2:¬ 3000000<r:=by omega
 clear hr hv hu hd hp hat hrr
 refine (callsIn_wide (n:=13)).1 ?_
 refine callsIn_of_wp_marks Tryz.func210 rfl trivial ?_ rfl
 simp only[Tryz.ntmps210,List.size_toArray,List.length_cons,List.length_nil,Nat.reduceAdd,Nat.reduceSub,Array.replicate_succ,Array.replicate_zero,List.push_toArray,List.append_toArray,List.nil_append,List.cons_append]
 gi_wp2_with fail
 refine⟨trivial,?_⟩
 refine (callsIn_wide.2 (k2.out _ gw)).mono ?_
 rintro e w' ⟨rfl,⟨n1,os1⟩,rfl⟩
 dsimp only
 gi_wp2_with fail
 refine⟨trivial,?_⟩
 refine (callsIn_wide.2 (k1.out _)).mono ?_
 rintro e w' ⟨rfl,hg1⟩
 obtain⟨bx,hbx⟩:∃bx:List Obj,bx=[.cells #[.int .i64 q.1,.int .i64 q.2] 28 (0,0),.cells #[.int .i64 r] 3 (0,0)]:=⟨_,rfl⟩
 have hb1:Bx w' w.heap.size bx:=by rw[hbx];refine (Bx.lT _ w).1.grew ?_;simp only[List.foldl];exact Grew.trans gw hg1
 have hw1:Grew w w':=Grew.trans gw hg1
 have hz1:w.heap.size+2<=w'.heap.size:=by
  have:=hb1 1 _ (by rw[hbx];rfl)
  have:=au this
  omega
 clear hg1
 subst hbx
 have c0:w'.cell? ⟨w.heap.size,0,none⟩=some (.int .i64 q.1):=ag (hb1 0 _ rfl) 0
 have c1:w'.cell? ⟨w.heap.size,1,none⟩=some (.int .i64 q.2):=ag (hb1 0 _ rfl) 1
 have c2:w'.cell? ⟨w.heap.size+1,0,none⟩=some (.int .i64 r):=(hb1.box 1 rfl).cell
 have m0:w.heap.size<w'.heap.size:=by omega
 have m1:w.heap.size+1<w'.heap.size:=by omega
 have Hb1:=hide hb1
 have Hw1:=hide hw1
 clear hb1 hw1
 dsimp only
 gi_wp2_with fail
 refine⟨trivial,?_⟩
 refine (callsIn_wide.2 (jY _ _ _ _)).mono ?_
 rintro e w'' ⟨rfl,rfl⟩
 dsimp only
 gi_wp2_with fail
 refine dJ ?_
 intro a0 W0 ha hW
 have uB:Grew w' W0:=by rw[<-hW];exact gw
 have hg0:Grew w W0:=Hw1.out.trans uB
 have hb0:=Hb1.out.grew uB
 have hn0:Boxed W0 w'.heap.size 4 (.bool false):=by rw[<-hW];exact (heap_alloc_old _ _ (by simp;omega)).trans ((heap_alloc_old _ _ (by simp)).trans (heap_alloc_new _ _))
 have ha0:Boxed W0 (w'.heap.size+1) 4 (.bool true):=by rw[<-hW];exact (heap_alloc_old _ _ (by simp)).trans (az _ _ _ (by simp))
 have hk0:W0.heap[w'.heap.size+2]?=some (.cells #[.slice A ps.length c] 174 (0,0)):=by rw[<-hW];exact az _ _ _ (by simp)
 have hsz:W0.heap.size=w'.heap.size+3:=by rw[<-hW];simp
 clear hW c0 c1 c2 uB
 obtain⟨Z,hZ⟩:∃Z,w'.heap.size=Z:=⟨_,rfl⟩
 rw[hZ] at hn0 ha0 hk0 hsz hz1 m0 m1
 have ha2:a0.eval (.tmp 34)=.func (.func 153) #[] #[.pointer (some ⟨Z+2,0,none⟩)]:=by rw[<-ha,<-hZ];simp[Act.eval]
 refine wpIn_rangeFunc_ownH (n:=13) rfl (by omega) (gf:=153) (lb:=#[.pointer (some ⟨Z+2,0,none⟩)]) ha2 trivial (enters_of Tryz.func153 (by kernel_rfl) rfl)
  (gU 12 w.heap.size (fun b _=>b=Z\/b=Z+1) ps A c (Z+2) W0 (fun b _ hb=>by omega) hk0 (HR.out.grew hg0 (Nat.le_refl _)) (by omega) (by omega))
  (fun h k=>h.trans k) gW.bk (Below.refl _ _) (fun _=>rfl)
  (fun pre W=>((Below w.heap.size w W/\Bx W w.heap.size _)/\Boxed W Z 4 (.bool (nV ps q r (pre.map Fin.val))))/\Boxed W (Z+1) 4 (.bool (iK ps q r (pre.map Fin.val))))
  (fun _ _ _=>False)
  (OwnFrom.and (OwnFrom.and (OwnFrom.and (ownFrom_below (Nat.le_refl _) hg0.below.size) (Bx.own (by simp;omega))) (Own.from (boxed_own _ _ _) _)) (Own.from (boxed_own _ _ _) _))
  (fun q=>ownFrom_pure _)
  ⟨⟨⟨hg0.below,hb0⟩,hn0⟩,ha0⟩
  (fun x a' W=>∃B,W.heap[B]?=some (.cells #[.int .i64 (ah ps x.1).1,.int .i64 (ah ps x.1).2,.int .i64 (ah ps (x.1+1)).1,.int .i64 (ah ps (x.1+1)).2] 206 (0,0))/\a'={ tmps:=((a0.tmps.setIfInBounds 35 (.int .i64 (x.1:Nat))).setIfInBounds 36 (.agg #[.int .i64 (ah ps x.1).1,.int .i64 (ah ps x.1).2,.int .i64 (ah ps (x.1+1)).1,.int .i64 (ah ps (x.1+1)).2])).setIfInBounds 11 (.pointer (some ⟨B,0,none⟩)),defers:=[] })
  (fun x a'=>by
   rintro s X Y row ⟨B,h1,h2⟩ hg hr
   exact⟨B,fG h1 hg (fun r e=>(hr r e).2),h2⟩)
  ?assign ?body ?done ?stop
 case assign =>
  rintro l pre x W K ⟨⟨⟨hB,hb⟩,hn⟩,hap⟩ hK
  rw[show CQ ps x=#[.int .i64 (x.1:Nat),.agg #[.int .i64 (ah ps x.1).1,.int .i64 (ah ps x.1).2,.int .i64 (ah ps (x.1+1)).1,.int .i64 (ah ps (x.1+1)).2]] from rfl,FT]
  subst ha
  simp only[List.setIfInBounds_toArray,List.set_cons_succ,List.set_cons_zero] at hK ⊢
  have wu:=hide hK
  have l1:=au hn
  have l2:=au hap
  clear hK
  gi_wp2_with fail
  have hgg:Grew W (W.alloc (.cells #[.int .i64 (ah ps x.1).1,.int .i64 (ah ps x.1).2,.int .i64 (ah ps (x.1+1)).1,.int .i64 (ah ps (x.1+1)).2] 206)):=gw
  exact wu.out _ _ (hgg.aS _) (gW.grew hgg) ⟨⟨⟨hB.trans (hgg.below.mono hB.size),hb.grew hgg⟩,(hgg.below.block _ l1).trans hn⟩,(hgg.below.block _ l2).trans hap⟩ ⟨W.heap.size,heap_alloc_new _ _,rfl⟩
 case body =>
  rintro l pre x a' W hl2 hlp ⟨⟨⟨hB,hb⟩,hn⟩,hap⟩ ⟨B,hx,rfl⟩ hlt
  subst ha
  obtain⟨i,hil⟩:=x
  dsimp only at hx
  simp only[List.setIfInBounds_toArray,List.set_cons_succ,List.set_cons_zero]
  have oa:=eH vz.out i
  have ob:=eH vz.out (i+1)
  have hns:=IJ ps q r (pre.map Fin.val) i
  have has:=FU ps q r (pre.map Fin.val) i
  obtain⟨nb,hnb⟩:∃o,nV ps q r (pre.map Fin.val)=o:=⟨_,rfl⟩
  obtain⟨ab,hab⟩:∃o,iK ps q r (pre.map Fin.val)=o:=⟨_,rfl⟩
  obtain⟨n',hn'⟩:∃o,o6 q (ah ps i) (ah ps (i+1)) r=o:=⟨_,rfl⟩
  obtain⟨a',ha'⟩:∃o,apartB q (ah ps i) (ah ps (i+1)) r=o:=⟨_,rfl⟩
  rw[hnb,hn'] at hns
  rw[hab,ha'] at has
  rw[hnb] at hn
  rw[hab] at hap
  have kn:=hide (fun W'=>aai q (ah ps i) (ah ps (i+1)) r n' W' HQ.out oa ob HD.out hn')
  have ka:=hide (fun W'=>aaE q (ah ps i) (ah ps (i+1)) r a' W' HQ.out oa ob HD.out ha')
  have HNS:=hide hns
  have HAS:=hide has
  clear hns has hnb hab hn' ha' hlt
  generalize ah ps i=a at *
  generalize ah ps (i+1)=b at *
  obtain⟨a1,a2⟩:=a
  obtain⟨b1,b2⟩:=b
  obtain⟨x1,x2⟩:=q
  dsimp only at hx hb ⊢
  have c0:W.cell? ⟨w.heap.size,0,none⟩=some (.int .i64 x1):=ag (hb 0 _ rfl) 0
  have c1:W.cell? ⟨w.heap.size,1,none⟩=some (.int .i64 x2):=ag (hb 0 _ rfl) 1
  have c2:W.cell? ⟨w.heap.size+1,0,none⟩=some (.int .i64 r):=(hb.box 1 rfl).cell
  have c3:W.cell? ⟨Z,0,none⟩=_:=hn.cell
  have f3:W.frozen? ⟨Z,0,none⟩=_:=hn.frozen
  have c4:W.cell? ⟨Z+1,0,none⟩=_:=hap.cell
  have f4:W.frozen? ⟨Z+1,0,none⟩=_:=hap.frozen
  have d0:W.cell? ⟨B,0,none⟩=some _:=ag hx 0
  have d1:W.cell? ⟨B,1,none⟩=some _:=ag hx 1
  have d2:W.cell? ⟨B,2,none⟩=some _:=ag hx 2
  have d3:W.cell? ⟨B,3,none⟩=some _:=ag hx 3
  have l4:=hap.lt
  have l3:=hn.lt
  have l1:w.heap.size+1<W.heap.size:=by omega
  have l0:w.heap.size<W.heap.size:=by omega
  have lB:=au hx
  have HB:=hide hB
  have Hb:=hide hb
  have Hn:=hide hn
  have Ha:=hide hap
  clear hB hb hx hn hap
  gi_wp2_with fail
  refine⟨trivial,?_⟩
  refine (CallsIn.inRound l (callsIn_wide.2 (kn.out _))).mono ?_
  rintro e w9 ⟨rfl,⟨n5,Gv⟩,rfl⟩
  dsimp only
  gi_wp2_with fail
  refine⟨trivial,?_⟩
  refine (CallsIn.inRound l (callsIn_wide.2 (ka.out _))).mono ?_
  rintro e w9 ⟨rfl,⟨n6,os6⟩,rfl⟩
  dsimp only
  cases nb<;>cases ab
  all_goals
   gi_wp2_with fail
   have hb2:=fun (u v:Value)=>(HB.out.setCell (p:=⟨Z,0,none⟩) (by dsimp only;omega) u).setCell (p:=⟨Z+1,0,none⟩) (by dsimp only;omega) v
   have hbx2:=fun (u v:Value)=>((Hb.out.adK (b:=Z) (i:=0) (v:=u) (by simp;omega)).adK (b:=Z+1) (i:=0) (v:=v) (by simp;omega))
   refine⟨(KeepsFrom.setCell _ _ _ _).trans ((KeepsFrom.setCell _ _ _ _).trans ((Grew.mk _ _ _).aS _)),(gW.set _ _ _ _ (fun _=>.inl rfl)).trans ((gW.set _ _ _ _ (fun _=>.inr rfl)).trans (gW.grew (Grew.mk _ _ _))),⟨⟨⟨(hb2 _ _).trans ((Grew.mk _ _ _).below.mono (hb2 _ _).size),(hbx2 _ _).grew (Grew.mk _ _ _)⟩,?_⟩,?_⟩⟩
   ·rw[List.map_append,show [(⟨i,hil⟩:Fin ps.length)].map Fin.val=[i] from rfl,HNS.out]
    exact eu ((Hn.out.set _).other (by omega) _) _ _
   ·rw[List.map_append,show [(⟨i,hil⟩:Fin ps.length)].map Fin.val=[i] from rfl,HAS.out]
    exact eu ((Ha.out.other (by omega) _).set _) _ _
 case done =>
  subst ha
  rintro D xs W hD hS ⟨⟨⟨hB,hb⟩,hn⟩,hap⟩ hK
  rw[hS] at hn hap
  obtain⟨nb,hnb⟩:∃o,nV ps q r (List.range ps.length)=o:=⟨_,rfl⟩
  obtain⟨ab,hab⟩:∃o,iK ps q r (List.range ps.length)=o:=⟨_,rfl⟩
  rw[hnb] at hn
  rw[hab] at hap
  have hrr:=HRR.out
  rw[hnb,hab] at hrr
  have c0:W.cell? ⟨w.heap.size,0,none⟩=some (.int .i64 q.1):=ag (hb 0 _ rfl) 0
  have c1:W.cell? ⟨w.heap.size,1,none⟩=some (.int .i64 q.2):=ag (hb 0 _ rfl) 1
  have c3:W.cell? ⟨Z,0,none⟩=_:=hn.cell
  have c4:W.cell? ⟨Z+1,0,none⟩=_:=hap.cell
  have l4:=hap.lt
  have l3:=hn.lt
  have l0:w.heap.size<W.heap.size:=by omega
  have Sm:Grew w W:=Grew.of_below hB
  have HB:=hide hB
  have HW:=hide Sm
  have aap:=hide hrr
  have hKl:=au hK
  have HK:=hide hK
  clear hB hb hn hap hS hnb hab hrr HRR Sm hK
  gi_wp2_with fail
  refine⟨trivial,?_⟩
  refine (callsIn_wide.2 (k3.out _ HW.out)).mono ?_
  rintro e w9 ⟨rfl,⟨n5,Gv⟩,rfl⟩
  dsimp only
  have hK2:(grow (dr W n5) Gv).heap[D]?=some (.deferred (some [])):=(heap_grow_old _ _ hKl).trans HK.out
  have HK2:=hide hK2
  have hb5:Below w.heap.size w ((grow (dr W n5) Gv).putObj D (.deferred none)):=(HB.out.trans ((Grew.mk W n5 Gv).below.mono HB.out.size)).trans (belowK_b (w:=w) (Nat.le_refl _) _ D _ (.deferred none) (by omega) hK2 rfl rfl)
  have HB5:=hide hb5
  clear hK2 hb5
  by_cases h0:0<=at'
  ·rw[if_pos h0] at aap
   have h0':¬ at'<0:=by omega
   cases ab
   all_goals
    obtain rfl:=aap.out
    gi_wp2_with fail
    refine⟨by simp,.inl ⟨_,_,rfl,run_takeDeferred HK2.out,?_⟩⟩
    refine⟨.tuple #[.int .i64 _,.int .i64 0],by simp[results,Tryz.results210,go_sem];rfl,?_⟩
    exact aC.mk' rfl (Grew.of_below HB5.out)
  ·rw[if_neg h0] at aap
   have h0':at'<0:=by omega
   cases nb
   all_goals
    obtain rfl:=aap.out
    gi_wp2_with fail
    refine⟨by simp,.inl ⟨_,_,rfl,run_takeDeferred HK2.out,?_⟩⟩
    refine⟨.tuple #[.int .i64 _,.int .i64 0],by simp[results,Tryz.results210,go_sem];rfl,?_⟩
    exact aC.mk' rfl (Grew.of_below HB5.out)
 case stop=>exact fun _ _ _ _ _ _ h _=>h.elim
theorem Ya (ps:List Pt)(A:Option Addr)(c:Nat)(q:Pt)(r:Int)(d:Int×Int)(w:World)(hr:Rd w w.heap.size 2 A (ps.map dY))(hc:ps.length<=100000000000000)(h:qC ps q r=d) :
  Calls Tryz.prog 210 #[.slice A ps.length c,pt q.1 q.2,.int .i64 r] w (aC w (.tuple #[.int .i64 d.1,.int .i64 d.2])):=by
 subst h
 unfold qC
 cases h:dm ps&&(q.ok&&lM r)
 ·exact aaw ps A c q r w hr hc h
 ·simp only[Bool.and_eq_true] at h
  exact X9 ps A c q r w hr h.1 h.2.1 h.2.2
theorem uV (P:Program)(w:World)(a:Addr)(m:Mode)(f:Fn)(xs ys):(store a (.func f xs ys) m).run P w=stored P w a (.func f xs ys) m:=run_store P w a _ m rfl
attribute [local go_sem] uV
theorem aeM (ps:List Pt)(A:Option Addr)(c:Nat)(a b:Pt)(r:Bool)(w:World)(hr:Rd w w.heap.size 2 A (ps.map dY))(hl:ps.length<=100)(hok:ps.all Pt.ok=true)(ha:a.ok=true)(hb:b.ok=true)(h:wo ps a b=r) :
  Calls Tryz.prog 215 #[.slice A ps.length c,pt a.1 a.2,pt b.1 b.2] w (aC w (.bool r)):=by
 subst h
 unfold wo
 cases h:uC ps a b
 ·exact acp ps A c a b w hr hl hok ha hb h
 ·rw[Bool.true_and]
  exact Zh ps A c a b w hr hl hok ha hb h
def Bi (ps qs:List Pt)(i:Nat):Bool:=wo ps (ah qs i) (ah qs (i+1))
def ui (ps qs:List Pt):Bool:=(List.range qs.length).all (Bi ps qs)
def sO (ps qs:List Pt):Bool×Int:=if (dm ps&&dm qs)=true then (ui ps qs,0) else (false,1)
theorem TS (ps qs:List Pt)(A A':Option Addr)(c c':Nat)(w:World)(hr:Rd w w.heap.size 2 A (ps.map dY))(hr':Rd w w.heap.size 2 A' (qs.map dY))(hc:ps.length<=100000000000000)(hc':qs.length<=100000000000000)(h:(dm ps&&dm qs)=false) :
  Calls Tryz.prog 211 #[.slice A ps.length c,.slice A' qs.length c'] w (aC w (.tuple #[.bool false,.int .i64 1])):=by
 have hm:=aP
 obtain⟨u,hu⟩:∃u,dm ps=u:=⟨_,rfl⟩
 obtain⟨v,hv⟩:∃u,dm qs=u:=⟨_,rfl⟩
 rw[hu,hv] at h
 have k1:=hide (fun W (hg:Grew w W)=>jJ ps A c u W (hr.up hg) hc hu)
 have k2:=hide (fun W (hg:Grew w W)=>jJ qs A' c' v W (hr'.up hg) hc' hv)
 clear hu hv
 have hcase:u=false\/(u=true/\v=false):=by
  cases u
  ·exact .inl rfl
  ·cases v
   ·exact .inr ⟨rfl,rfl⟩
   ·simp at h
 clear h
 rcases hcase with rfl|⟨rfl,rfl⟩
 all_goals
  go_enter Tryz.func211,Tryz.ntmps211
  go_wp2_with (first|(go_at_call 88;with_reducible refine aQ (k1.out _ gw) fun _ _=>?_;dsimp only)|(go_at_call 88;with_reducible refine aQ (k2.out _ gw) fun _ _=>?_;dsimp only))
  refine bodyPost_ret (v:=.tuple #[.bool false,.int .i64 1]) (by simp[results,Tryz.results211,go_sem]) rfl ?_
  exact aC.mk' rfl gw
theorem OX (ps qs:List Pt)(A A':Option Addr)(c c':Nat)(w:World)(hr:Rd w w.heap.size 2 A (ps.map dY))(hr':Rd w w.heap.size 2 A' (qs.map dY))(hu:dm ps=true)(hv:dm qs=true) :
  Calls Tryz.prog 211 #[.slice A ps.length c,.slice A' qs.length c'] w (aC w (.tuple #[.bool (ui ps qs),.int .i64 0])):=by
 have hm:=aP
 have hp:=jH hu
 have hq:=jH hv
 have k1:=hide (fun W (hg:Grew w W)=>jJ ps A c true W (hr.up hg) (by omega) hu)
 have k2:=hide (fun W (hg:Grew w W)=>jJ qs A' c' true W (hr'.up hg) (by omega) hv)
 have kh:=hide (fun (a b:Pt) (r:Bool) (ha:a.ok=true) (hb:b.ok=true) (h:wo ps a b=r) W (hg:Grew w W)=>aeM ps A c a b r W (hr.up hg) (by omega) hp.2 ha hb h)
 have HR:=hide hr'
 have vz:=hide hq.2
 have hl:qs.length<=24:=hq.1.2
 obtain⟨rr,hrr⟩:∃v,ui ps qs=v:=⟨_,rfl⟩
 rw[hrr]
 have HRR:=hide hrr
 clear hr hr' hu hv hp hq hrr
 refine (callsIn_wide (n:=13)).1 ?_
 refine callsIn_of_wp_marks Tryz.func211 rfl trivial ?_ rfl
 simp only[Tryz.ntmps211,List.size_toArray,List.length_cons,List.length_nil,Nat.reduceAdd,Nat.reduceSub,Array.replicate_succ,Array.replicate_zero,List.push_toArray,List.append_toArray,List.nil_append,List.cons_append]
 gi_wp2_with fail
 refine⟨trivial,?_⟩
 refine (callsIn_wide.2 (k1.out _ gw)).mono ?_
 rintro e w' ⟨rfl,⟨n1,os1⟩,rfl⟩
 dsimp only
 gi_wp2_with fail
 refine⟨trivial,?_⟩
 refine (callsIn_wide.2 (k2.out _ gw)).mono ?_
 rintro e w' ⟨rfl,hg1⟩
 obtain⟨bx,hbx⟩:∃bx:List Obj,bx=[.cells #[.bool false] 4 (0,0),.cells #[.int .i64 0] 31 (0,0)]:=⟨_,rfl⟩
 have hb1:Bx w' w.heap.size bx:=by rw[hbx];refine (Bx.lT _ w).1.grew ?_;simp only[List.foldl];exact Grew.trans gw hg1
 have hw1:Grew w w':=Grew.trans gw hg1
 have hz1:w.heap.size+2<=w'.heap.size:=by
  have:=hb1 1 _ (by rw[hbx];rfl)
  have:=au this
  omega
 clear hg1
 subst hbx
 have Hb1:=hide hb1
 have Hw1:=hide hw1
 clear hb1 hw1
 dsimp only
 gi_wp2_with fail
 refine⟨trivial,?_⟩
 refine (callsIn_wide.2 (jY _ _ _ _)).mono ?_
 rintro e w'' ⟨rfl,rfl⟩
 dsimp only
 gi_wp2_with fail
 refine dJ ?_
 intro a0 W0 ha hW
 have uB:Grew w' W0:=by rw[<-hW];exact gw
 have hg0:Grew w W0:=Hw1.out.trans uB
 have hb0:=Hb1.out.grew uB
 have hf0:W0.heap[w'.heap.size]?=some (.cells #[.func (.func 215) #[.slice A ps.length c] #[]] 275 (0,0)):=by rw[<-hW];exact (heap_alloc_old _ _ (by simp)).trans (heap_alloc_new _ _)
 have hk0:W0.heap[w'.heap.size+1]?=some (.cells #[.slice A' qs.length c'] 174 (0,0)):=by rw[<-hW];exact az _ _ _ (by simp)
 have hsz:W0.heap.size=w'.heap.size+2:=by rw[<-hW];simp
 clear hW uB
 obtain⟨Z,hZ⟩:∃Z,w'.heap.size=Z:=⟨_,rfl⟩
 rw[hZ] at hf0 hk0 hsz hz1
 have ha2:a0.eval (.tmp 20)=.func (.func 153) #[] #[.pointer (some ⟨Z+1,0,none⟩)]:=by rw[<-ha,<-hZ];simp[Act.eval]
 refine wpIn_rangeFunc_ownH (n:=13) rfl (by omega) (gf:=153) (lb:=#[.pointer (some ⟨Z+1,0,none⟩)]) ha2 trivial (enters_of Tryz.func153 (by kernel_rfl) rfl)
  (gU 12 w.heap.size (fun _ _=>False) qs A' c' (Z+1) W0 (fun b _ hb=>hb.elim) hk0 (HR.out.grew hg0 (Nat.le_refl _)) (by omega) (by omega))
  (fun h k=>h.trans k) gW.bk (Below.refl _ _) (fun _=>rfl)
  (fun pre W=>((Below w.heap.size w W/\Bx W w.heap.size _)/\Boxed W Z 275 (.func (.func 215) #[.slice A ps.length c] #[]))/\∀i∈pre,Bi ps qs i.1=true)
  (fun e pre W=>((Below w.heap.size w W/\Boxed W w.heap.size 4 (.bool false))/\Boxed W (w.heap.size+1) 31 (.int .i64 0))/\(e=.ret/\rr=false))
  (OwnFrom.and (OwnFrom.and (OwnFrom.and (ownFrom_below (Nat.le_refl _) hg0.below.size) (Bx.own (by simp;omega))) (fun s X Y row h1 hg hr=>Own.from (boxed_own (β:=Unit) Z _ (fun _=>_)) _ () X Y row h1 hg hr)) (ownFrom_pure _))
  (fun q=>OwnFrom.and (OwnFrom.and (OwnFrom.and (ownFrom_below (Nat.le_refl _) hg0.below.size) (fun s X Y row h1 hg hr=>Own.from (boxed_own (β:=Unit) _ _ (fun _=>_)) _ () X Y row h1 hg hr)) (fun s X Y row h1 hg hr=>Own.from (boxed_own (β:=Unit) _ _ (fun _=>_)) _ () X Y row h1 hg hr)) (ownFrom_pure _))
  ⟨⟨⟨hg0.below,hb0⟩,hf0⟩,fun i hi=>by cases hi⟩
  (fun x a' W=>∃B,W.heap[B]?=some (.cells #[.int .i64 (ah qs x.1).1,.int .i64 (ah qs x.1).2,.int .i64 (ah qs (x.1+1)).1,.int .i64 (ah qs (x.1+1)).2] 206 (0,0))/\a'={ tmps:=((a0.tmps.setIfInBounds 21 (.int .i64 (x.1:Nat))).setIfInBounds 22 (.agg #[.int .i64 (ah qs x.1).1,.int .i64 (ah qs x.1).2,.int .i64 (ah qs (x.1+1)).1,.int .i64 (ah qs (x.1+1)).2])).setIfInBounds 8 (.pointer (some ⟨B,0,none⟩)),defers:=[] })
  (fun x a'=>by
   rintro s X Y row ⟨B,h1,h2⟩ hg hr
   exact⟨B,fG h1 hg (fun r e=>(hr r e).2),h2⟩)
  ?assign ?body ?done ?stop
 case assign =>
  rintro l pre x W K ⟨⟨⟨hB,hb⟩,hf⟩,hp⟩ hK
  rw[show CQ qs x=#[.int .i64 (x.1:Nat),.agg #[.int .i64 (ah qs x.1).1,.int .i64 (ah qs x.1).2,.int .i64 (ah qs (x.1+1)).1,.int .i64 (ah qs (x.1+1)).2]] from rfl,FT]
  subst ha
  simp only[List.setIfInBounds_toArray,List.set_cons_succ,List.set_cons_zero] at hK ⊢
  have wu:=hide hK
  have l1:=au hf
  clear hK
  gi_wp2_with fail
  have hgg:Grew W (W.alloc (.cells #[.int .i64 (ah qs x.1).1,.int .i64 (ah qs x.1).2,.int .i64 (ah qs (x.1+1)).1,.int .i64 (ah qs (x.1+1)).2] 206)):=gw
  exact wu.out _ _ (hgg.aS _) (gW.grew hgg) ⟨⟨⟨hB.trans (hgg.below.mono hB.size),hb.grew hgg⟩,(hgg.below.block _ l1).trans hf⟩,hp⟩ ⟨W.heap.size,heap_alloc_new _ _,rfl⟩
 case body =>
  rintro l pre x a' W hl2 hlp ⟨⟨⟨hB,hb⟩,hf⟩,hp⟩ ⟨B,hx,rfl⟩ hlt
  subst ha
  obtain⟨i,hil⟩:=x
  dsimp only at hx
  simp only[List.setIfInBounds_toArray,List.set_cons_succ,List.set_cons_zero]
  have oa:=eH vz.out i
  have ob:=eH vz.out (i+1)
  obtain⟨o,ho⟩:∃o,wo ps (ah qs i) (ah qs (i+1))=o:=⟨_,rfl⟩
  have hoe:Bi ps qs i=o:=ho
  have hnext:o=true->∀i'∈pre++[(⟨i,hil⟩:Fin qs.length)],Bi ps qs i'.1=true:=fun hof i' hi'=>by
   rcases List.mem_append.1 hi' with h|h
   ·exact hp i' h
   ·obtain rfl:=List.mem_singleton.1 h
    rw[<-hof];exact hoe
  have hstop:o=false->rr=false:=fun hof=>by
   rw[<-HRR.out]
   refine List.all_eq_false.2 ⟨i,List.mem_range.2 hil,by rw[hoe,hof];simp⟩
  have mO:=hide hnext
  have wV:=hide hstop
  have ko:=hide (fun W' hg=>kh.out (ah qs i) (ah qs (i+1)) o oa ob ho W' hg)
  clear hnext hstop ho hoe hp hlt
  generalize ah qs i=a at *
  generalize ah qs (i+1)=b at *
  obtain⟨a1,a2⟩:=a
  obtain⟨b1,b2⟩:=b
  dsimp only at hx hb ⊢
  have c3:W.cell? ⟨Z,0,none⟩=_:=Boxed.cell hf
  have c1:W.cell? ⟨w.heap.size,0,none⟩=_:=(hb.box 0 rfl).cell
  have f1:W.frozen? ⟨w.heap.size,0,none⟩=_:=(hb.box 0 rfl).frozen
  have c2:W.cell? ⟨w.heap.size+1,0,none⟩=_:=(hb.box 1 rfl).cell
  have f2:W.frozen? ⟨w.heap.size+1,0,none⟩=_:=(hb.box 1 rfl).frozen
  have d0:W.cell? ⟨B,0,none⟩=some _:=ag hx 0
  have d1:W.cell? ⟨B,1,none⟩=some _:=ag hx 1
  have d2:W.cell? ⟨B,2,none⟩=some _:=ag hx 2
  have d3:W.cell? ⟨B,3,none⟩=some _:=ag hx 3
  have l2:=au hf
  have l1:w.heap.size+1<W.heap.size:=by omega
  have l0:w.heap.size<W.heap.size:=by omega
  have lB:=au hx
  have HB:=hide hB
  have Hb:=hide hb
  have Hf:=hide hf
  clear hB hb hx hf
  have hw2:=Grew.of_below HB.out
  have ko2:=hide (ko.out W hw2)
  clear ko hw2
  gi_wp2_with fail
  refine⟨trivial,?_⟩
  refine (CallsIn.inRound l (callsIn_wide.2 ko2.out)).mono ?_
  rintro e w' ⟨rfl,⟨n5,Gv⟩,rfl⟩
  dsimp only
  cases o
  ·have HS2:=hide (wV.out rfl)
   clear mO wV
   gi_wp2_with fail
   have hx1:Boxed W w.heap.size _ _:=Hb.out.box 0 rfl
   have hx2:Boxed W (w.heap.size+1) _ _:=Hb.out.box 1 rfl
   have hb2:=fun (u v:Value)=>(HB.out.setCell (p:=⟨w.heap.size,0,none⟩) (by simp) u).setCell (p:=⟨w.heap.size+1,0,none⟩) (by simp) v
   exact⟨(KeepsFrom.setCell _ _ _ _).trans ((KeepsFrom.setCell _ _ _ _).trans ((Grew.mk _ _ _).aS _)),⟨⟨(hb2 _ _).trans ((Grew.mk _ _ _).below.mono (hb2 _ _).size),eu ((hx1.set _).other (by simp) _) _ _⟩,eu ((hx2.other (by simp) _).set _) _ _⟩,rfl,HS2.out⟩
  ·have Dz:=hide (mO.out rfl)
   clear mO wV
   gi_wp2_with fail
   have hgg:Grew W (grow (dr W n5) Gv):=gw
   exact⟨hgg.aS _,gW.grew hgg,⟨⟨HB.out.trans (hgg.below.mono HB.out.size),Hb.out.grew hgg⟩,(hgg.below.block _ l2).trans Hf.out⟩,Dz.out⟩
 case done =>
  subst ha
  rintro D xs W hD hS ⟨⟨⟨hB,hb⟩,hf⟩,hp⟩ hK
  have b1:Boxed W w.heap.size _ _:=hb.box 0 rfl
  have c1:=b1.cell
  have f1:=b1.frozen
  have b2:Boxed W (w.heap.size+1) _ _:=hb.box 1 rfl
  have c2:=b2.cell
  have f2:=b2.frozen
  obtain rfl:rr=true:=by
   rw[<-HRR.out]
   refine List.all_eq_true.2 fun j hj=>?_
   have:j∈xs.map Fin.val:=by rw[hS];exact hj
   obtain⟨j',hj',rfl⟩:=List.mem_map.1 this
   exact hp j' hj'
  have HB:=hide hB
  clear hB hb hS hp b1 b2 hf
  gi_wp2_with fail
  have hK2:=(KeepsOthers.setCell (W.setCell ⟨w.heap.size,0,none⟩ (.bool true)) ⟨w.heap.size+1,0,none⟩ (.int .i64 0)).same D _ ((KeepsOthers.setCell W ⟨w.heap.size,0,none⟩ (.bool true)).same D _ hK rfl) rfl
  refine⟨by simp,.inl ⟨_,_,rfl,run_takeDeferred hK2,?_⟩⟩
  have hb5:=((HB.out.setCell (p:=⟨w.heap.size,0,none⟩) (by simp) (.bool true)).setCell (p:=⟨w.heap.size+1,0,none⟩) (by simp) (.int .i64 0)).trans (belowK_b (w:=w) (Nat.le_refl _) _ D _ (.deferred none) (by omega) hK2 rfl rfl)
  have e3:(((W.setCell ⟨w.heap.size,0,none⟩ (.bool true)).setCell ⟨w.heap.size+1,0,none⟩ (.int .i64 0)).putObj D (.deferred none)).cell? ⟨w.heap.size,0,none⟩=some (.bool true):=by
   rw[bG (by omega)]
   go_simp
  have e4:(((W.setCell ⟨w.heap.size,0,none⟩ (.bool true)).setCell ⟨w.heap.size+1,0,none⟩ (.int .i64 0)).putObj D (.deferred none)).cell? ⟨w.heap.size+1,0,none⟩=some (.int .i64 0):=by
   rw[bG (by omega)]
   go_simp
  refine⟨.tuple #[.bool true,.int .i64 0],by simp[results,Tryz.results211,go_sem,e3,e4],?_⟩
  exact aC.mk' rfl (Grew.of_below hb5)
 case stop =>
  subst ha
  rintro D e pre W hD ⟨k,hk,hr⟩ ⟨⟨⟨hB,hb1⟩,hb2⟩,rfl,rfl⟩ hK
  have c1:=hb1.cell
  have c2:=hb2.cell
  have HB:=hide hB
  clear hB hb1 hb2 hr hk HRR
  gi_wp2_with fail
  refine⟨by simp,.inl ⟨_,_,rfl,run_takeDeferred hK,?_⟩⟩
  have hb5:=HB.out.trans (belowK_b (w:=w) (Nat.le_refl _) _ D _ (.deferred none) (by omega) hK rfl rfl)
  have e3:=(bG (W:=W) (D:=D) (i:=0) (o:=.deferred none) (b:=w.heap.size) (by omega)).trans c1
  have e4:=(bG (W:=W) (D:=D) (i:=0) (o:=.deferred none) (b:=w.heap.size+1) (by omega)).trans c2
  refine⟨.tuple #[.bool false,.int .i64 0],by simp[results,Tryz.results211,go_sem,e3,e4],?_⟩
  exact aC.mk' rfl (Grew.of_below hb5)
theorem aal (ps qs:List Pt)(A A':Option Addr)(c c':Nat)(d:Bool×Int)(w:World)(hr:Rd w w.heap.size 2 A (ps.map dY))(hr':Rd w w.heap.size 2 A' (qs.map dY))(hc:ps.length<=100000000000000)(hc':qs.length<=100000000000000)(h:sO ps qs=d) :
  Calls Tryz.prog 211 #[.slice A ps.length c,.slice A' qs.length c'] w (aC w (.tuple #[.bool d.1,.int .i64 d.2])):=by
 subst h
 unfold sO
 cases h:dm ps&&dm qs
 ·exact TS ps qs A A' c c' w hr hr' hc hc' h
 ·simp only[Bool.and_eq_true] at h
  exact OX ps qs A A' c c' w hr hr' h.1 h.2
end Go.Proofs.YtlkgjmnjhifehaaGreat
set_option maxHeartbeats 1600000
set_option maxRecDepth 100000
namespace Go.Proofs.YtlkgjmnjhifehaaGreat
open Go.RowKit Go.Sort
attribute [local go_sem] dA steadyUpon
attribute [local go_sem ↓] bU bI aX aW aV aU aT
attribute [local go_sem] bH aK aJ size_grow tape_grow cell?_grow' aF aB grow_grow bW aY dR cO bY bK aN cZ aZ bZ bJ
attribute [local irreducible] wpSteady
def FV.sh (f:FV):Value:=if f.kind=4 then .iface 148 (.agg #[.int .i64 f.x,.int .i64 f.y]) else if f.kind=3\/f.kind=6 then .iface 149 (.slice f.aA f.area.length f.ac) else .iface 151 (.agg #[.int .i64 f.x,.int .i64 f.y,.int .i64 f.dC])
theorem abV (f:FV)(w:World):Calls Tryz.prog 50 #[f.val] w (aC w f.sh):=by
 have hm:=aP
 obtain⟨id,kind,x,y,dC,aA,ac,area,dep,sym,sA,sc,secs⟩:=f
 unfold FV.sh
 dsimp only
 have hk:kind=4\/kind=3\/kind=6\/(¬ kind=4/\¬ kind=3/\¬ kind=6):=by omega
 rcases hk with rfl|rfl|rfl|⟨h1,h2,h3⟩
 ·rw[if_pos rfl]
  go_enter Tryz.func50,Tryz.ntmps50
  go_wp2_with fail
  go_ret
  exact aC.mk' rfl gw
 ·rw[if_neg (by omega),if_pos (by omega)]
  go_enter Tryz.func50,Tryz.ntmps50
  go_wp2_with fail
  go_ret
  exact aC.mk' rfl gw
 ·rw[if_neg (by omega),if_pos (by omega)]
  go_enter Tryz.func50,Tryz.ntmps50
  go_wp2_with fail
  go_ret
  exact aC.mk' rfl gw
 ·rw[if_neg h1,if_neg (by omega)]
  go_enter Tryz.func50,Tryz.ntmps50
  go_wp2_with fail
  go_ret
  exact aC.mk' rfl gw
theorem XR (p a b:Pt)(d:Int)(r:Bool×Int)(w:World)(h:kD p a b d=r) :
  Calls Tryz.prog 122 #[pt p.1 p.2,pt a.1 a.2,pt b.1 b.2,.int .i64 d] w (aC w (.tuple #[.bool r.1,.int .i64 r.2])):=by
 have:=MF p a b d w
 rwa [h] at this
def mr (x y r:Int)(p:Pt):Bool:=(kD p (x,y) (x,y) r).2==0&&(kD p (x,y) (x,y) r).1
def EO (ps:List Pt)(p:Pt):Bool:=(I7 ps p).2==0&&decide (0<=(I7 ps p).1)
theorem uH (x y r:Int)(p:Pt)(o:Bool)(w:World)(h:mr x y r p=o) :
  Calls Tryz.prog 222 #[.agg #[.int .i64 x,.int .i64 y,.int .i64 r],pt p.1 p.2] w (aC w (.bool o)):=by
 have hm:=aP
 unfold mr at h
 obtain⟨⟨n,e⟩,hn⟩:∃u,kD p (x,y) (x,y) r=u:=⟨_,rfl⟩
 have k1:=hide (fun W=>XR p (x,y) (x,y) r (n,e) W hn)
 rw[hn] at h
 dsimp only at h k1
 clear hn
 obtain⟨p1,p2⟩:=p
 by_cases he:e=0
 ·subst he
  simp at h
  subst h
  go_enter Tryz.func222,Tryz.ntmps222
  go_wp2_with (go_at_call 122;with_reducible refine aQ (k1.out _) fun _ _=>?_;dsimp only)
  go_ret
  exact aC.mk' rfl gw
 ·have he2:(e==0)=false:=by simpa using he
  rw[he2] at h
  subst h
  go_enter Tryz.func222,Tryz.ntmps222
  go_wp2_with (go_at_call 122;with_reducible refine aQ (k1.out _) fun _ _=>?_;dsimp only)
  go_ret
  exact aC.mk' rfl gw
theorem zY (ps:List Pt)(A:Option Addr)(c:Nat)(p:Pt)(o:Bool)(w:World)(hr:Rd w w.heap.size 2 A (ps.map dY))(hc:ps.length<=100000000000000)(h:EO ps p=o) :
  Calls Tryz.prog 206 #[.slice A ps.length c,pt p.1 p.2] w (aC w (.bool o)):=by
 have hm:=aP
 unfold EO at h
 obtain⟨⟨n,e⟩,hn⟩:∃u,I7 ps p=u:=⟨_,rfl⟩
 have k1:=hide (fun W (hg:Grew w W)=>ag5 ps A c p (n,e) W (hr.up hg) hc hn)
 rw[hn] at h
 dsimp only at h k1
 clear hn hr
 obtain⟨p1,p2⟩:=p
 have hcase:(e=0/\0<=n)\/(e=0/\¬ 0<=n)\/e≠0:=by omega
 rcases hcase with⟨rfl,h1⟩|⟨rfl,h1⟩|h1
 all_goals
  first|(simp[h1] at h;subst h)|(rw[show (e==0)=false by simpa using h1,Bool.false_and] at h;subst h)
  go_enter Tryz.func206,Tryz.ntmps206
  go_wp2_with (go_at_call 209;with_reducible refine aQ (k1.out _ gw) fun _ _=>?_;dsimp only)
  go_ret
  first|exact aC.mk' rfl gw|exact aC.mk' (by simp[h1]) gw
theorem xW (x y:Int)(p:Pt)(w:World) :
  Calls Tryz.prog 202 #[.agg #[.int .i64 x,.int .i64 y],pt p.1 p.2] w (aC w (.bool false)):=by
 go_enter Tryz.func202,Tryz.ntmps202
 go_wp2_with fail
 go_ret
 exact aC.mk' rfl gw
def BO (p:Pt)(r:Int)(q:Pt)(s:Int):Bool:=decide (r<=s)&&decide (dt p q q<=(s-r)*(s-r))
def qw (p:Pt)(r:Int)(q:Pt)(s:Int):Bool×Int:=if (p.ok&&(q.ok&&(lM r&&lM s)))=true then (BO p r q s,0) else (false,1)
theorem XU (p:Pt)(r:Int)(q:Pt)(s:Int)(o:Bool×Int)(w:World)(h:qw p r q s=o) :
  Calls Tryz.prog 123 #[pt p.1 p.2,.int .i64 r,pt q.1 q.2,.int .i64 s] w (aC w (.tuple #[.bool o.1,.int .i64 o.2])):=by
 have hm:=aP
 obtain⟨v,hv⟩:∃v,[p,q].all Pt.ok=v:=⟨_,rfl⟩
 obtain⟨u,hu⟩:∃u,lM r=u:=⟨_,rfl⟩
 obtain⟨u2,hu2⟩:∃u,lM s=u:=⟨_,rfl⟩
 have k1:=hide (fun W=>uF r u W hu)
 have k2:=hide (fun W=>uF s u2 W hu2)
 have HV:=hide hv
 have e:qw p r q s=if (v&&(u&&u2))=true then (BO p r q s,0) else (false,1):=by
  unfold qw
  rw[hu,hu2,<-hv]
  simp only[List.all_cons,List.all_nil,Bool.and_true,Bool.and_assoc]
 rw[e] at h
 clear e
 have hcase:v=false\/(v=true/\u=false)\/(v=true/\u=true/\u2=false)\/(v=true/\u=true/\u2=true):=by
  cases v<;>cases u<;>cases u2<;>simp
 rcases hcase with rfl|⟨rfl,rfl⟩|⟨rfl,rfl,rfl⟩|⟨rfl,rfl,rfl⟩
 ·rw[if_neg (by simp)] at h
  subst h
  obtain⟨a1,a2⟩:=p
  obtain⟨b1,b2⟩:=q
  clear hv hu hu2
  go_enter Tryz.func123,Tryz.ntmps123
  go_wp2_with fail
  refine (iI _ _ _ _ false _ (Rd.xN _ (az _ _ _ (by simp[bU])) rfl) rfl (by simp) HV.out).mono ?_
  rintro e w' ⟨rfl,⟨_,_⟩,rfl⟩
  dsimp only
  go_wp2_with fail
  go_ret2
  exact aC.mk' rfl gw
 ·rw[if_neg (by simp)] at h
  subst h
  obtain⟨a1,a2⟩:=p
  obtain⟨b1,b2⟩:=q
  clear hv hu hu2
  go_enter Tryz.func123,Tryz.ntmps123
  go_wp2_with fail
  refine (iI _ _ _ _ true _ (Rd.xN _ (az _ _ _ (by simp[bU])) rfl) rfl (by simp) HV.out).mono ?_
  rintro e w' ⟨rfl,⟨_,_⟩,rfl⟩
  dsimp only
  go_wp2_with (go_at_call 143;with_reducible refine aQ (k1.out _) fun _ _=>?_;dsimp only)
  go_ret2
  exact aC.mk' rfl gw
 ·rw[if_neg (by simp)] at h
  subst h
  obtain⟨a1,a2⟩:=p
  obtain⟨b1,b2⟩:=q
  clear hv hu hu2
  go_enter Tryz.func123,Tryz.ntmps123
  go_wp2_with fail
  refine (iI _ _ _ _ true _ (Rd.xN _ (az _ _ _ (by simp[bU])) rfl) rfl (by simp) HV.out).mono ?_
  rintro e w' ⟨rfl,⟨_,_⟩,rfl⟩
  dsimp only
  go_wp2_with (first|(go_at_call 143;with_reducible refine aQ (k1.out _) fun _ _=>?_;dsimp only)|(go_at_call 143;with_reducible refine aQ (k2.out _) fun _ _=>?_;dsimp only))
  go_ret2
  exact aC.mk' rfl gw
 ·rw[if_pos (by rfl)] at h
  subst h
  simp only[List.all_cons,List.all_nil,Bool.and_true,Bool.and_eq_true] at hv
  have k3:=hide (fun W=>EF p q W hv.1 hv.2)
  have p':=lL hv.1
  have q':=lL hv.2
  have k4:Hid (∀W,Calls Tryz.prog 146 #[pt (q.1-p.1) (q.2-p.2),pt (q.1-p.1) (q.2-p.2)] W (aC W (.int .i64 (dt p q q)))):=hide (fun W=>rY _ _ _ _ W (by omega) (by omega) (by omega) (by omega))
  have b1:=zH hu
  have b2:=zH hu2
  unfold BO
  generalize dt p q q=D at *
  obtain⟨a1,a2⟩:=p
  obtain⟨c1,c2⟩:=q
  dsimp only at *
  obtain⟨v1,hv1⟩:∃z,c1-a1=z:=⟨_,rfl⟩
  obtain⟨v2,hv2⟩:∃z,c2-a2=z:=⟨_,rfl⟩
  rw[hv1,hv2] at k3 k4
  clear hv hu hu2 hv1 hv2 p' q'
  by_cases hrs:r<=s
  ·have hb:=UT (d:=s-r) (by omega)
   rw[decide_eq_true hrs,Bool.true_and]
   go_enter Tryz.func123,Tryz.ntmps123
   go_wp2_with fail
   refine (iI _ _ _ _ true _ (Rd.xN _ (az _ _ _ (by simp[bU])) rfl) rfl (by simp) HV.out).mono ?_
   rintro e w' ⟨rfl,⟨_,_⟩,rfl⟩
   dsimp only
   go_wp2_with (first|(go_at_call 143;with_reducible refine aQ (k1.out _) fun _ _=>?_;dsimp only)|(go_at_call 143;with_reducible refine aQ (k2.out _) fun _ _=>?_;dsimp only)|(go_at_call 145;with_reducible refine aQ (k3.out _) fun _ _=>?_;dsimp only)|(go_at_call 146;with_reducible refine aQ (k4.out _) fun _ _=>?_;dsimp only))
   go_ret2
   exact aC.mk' rfl gw
  ·rw[decide_eq_false hrs,Bool.false_and]
   go_enter Tryz.func123,Tryz.ntmps123
   go_wp2_with fail
   refine (iI _ _ _ _ true _ (Rd.xN _ (az _ _ _ (by simp[bU])) rfl) rfl (by simp) HV.out).mono ?_
   rintro e w' ⟨rfl,⟨_,_⟩,rfl⟩
   dsimp only
   go_wp2_with (first|(go_at_call 143;with_reducible refine aQ (k1.out _) fun _ _=>?_;dsimp only)|(go_at_call 143;with_reducible refine aQ (k2.out _) fun _ _=>?_;dsimp only)|(go_at_call 145;with_reducible refine aQ (k3.out _) fun _ _=>?_;dsimp only)|(go_at_call 146;with_reducible refine aQ (k4.out _) fun _ _=>?_;dsimp only))
   go_ret2
   exact aC.mk' rfl gw
def uG (x y r:Int)(p:Pt)(s:Int):Bool:=(qw p s (x,y) r).2==0&&(qw p s (x,y) r).1
def uP (ps:List Pt)(p:Pt)(s:Int):Bool:=(qC ps p s).2==0&&(qC ps p s).1==1
def uQ (ps qs:List Pt):Bool:=(sO ps qs).2==0&&(sO ps qs).1
def yE (x y r:Int)(ps:List Pt):Bool:=ps.all (mr x y r)
theorem aaL (v:Value)(w:World):(Instr.typeAssert (.iface 151 v) 109 151 true).run Tryz.prog w=.ok (.tuple #[v,.bool true]) w:=by kernel_rfl
theorem aaN (v:Value)(w:World):(Instr.typeAssert (.iface 149 v) 109 151 true).run Tryz.prog w=.ok (.tuple #[.agg #[.int .i64 0,.int .i64 0,.int .i64 0],.bool false]) w:=by kernel_rfl
theorem aaI (v:Value)(w:World):(Instr.typeAssert (.iface 148 v) 109 151 true).run Tryz.prog w=.ok (.tuple #[.agg #[.int .i64 0,.int .i64 0,.int .i64 0],.bool false]) w:=by kernel_rfl
theorem aaO (v:Value)(w:World):(Instr.typeAssert (.iface 149 v) 109 149 true).run Tryz.prog w=.ok (.tuple #[v,.bool true]) w:=by kernel_rfl
theorem aaJ (v:Value)(w:World):(Instr.typeAssert (.iface 148 v) 109 149 true).run Tryz.prog w=.ok (.tuple #[.slice none 0 0,.bool false]) w:=by kernel_rfl
theorem aaH (v:Value)(w:World):(Instr.typeAssert (.iface 148 v) 109 148 true).run Tryz.prog w=.ok (.tuple #[v,.bool true]) w:=by kernel_rfl
theorem aaK (v:Value)(w:World):(Instr.typeAssert (.iface 151 v) 109 148 true).run Tryz.prog w=.ok (.tuple #[.agg #[.int .i64 0,.int .i64 0],.bool false]) w:=by kernel_rfl
theorem aaM (v:Value)(w:World):(Instr.typeAssert (.iface 149 v) 109 148 true).run Tryz.prog w=.ok (.tuple #[.agg #[.int .i64 0,.int .i64 0],.bool false]) w:=by kernel_rfl
attribute [local go_sem] aaL aaN aaI aaO aaJ aaH aaK aaM
theorem zI (x y r:Int)(p:Pt)(s:Int)(o:Bool)(w:World)(h:uG x y r p s=o) :
  Calls Tryz.prog 223 #[.agg #[.int .i64 x,.int .i64 y,.int .i64 r],.iface 151 (.agg #[.int .i64 p.1,.int .i64 p.2,.int .i64 s])] w (aC w (.bool o)):=by
 have hm:=aP
 unfold uG at h
 obtain⟨⟨n,e⟩,hn⟩:∃u,qw p s (x,y) r=u:=⟨_,rfl⟩
 have k1:=hide (fun W=>XU p s (x,y) r (n,e) W hn)
 rw[hn] at h
 dsimp only at h k1
 clear hn
 obtain⟨p1,p2⟩:=p
 dsimp only at k1 ⊢
 have hcase:e=0\/(e==0)=false:=by by_cases h:e=0<;>simp[h]
 rcases hcase with rfl|h1
 ·simp at h
  subst h
  go_enter Tryz.func223,Tryz.ntmps223
  go_wp2_with (go_at_call 123;with_reducible refine aQ (k1.out _) fun _ _=>?_;dsimp only)
  go_ret
  exact aC.mk' rfl gw
 ·rw[h1] at h
  subst h
  go_enter Tryz.func223,Tryz.ntmps223
  go_wp2_with (go_at_call 123;with_reducible refine aQ (k1.out _) fun _ _=>?_;dsimp only)
  go_ret
  exact aC.mk' rfl gw
theorem zW (ps:List Pt)(A:Option Addr)(c:Nat)(p:Pt)(s:Int)(o:Bool)(w:World)(hr:Rd w w.heap.size 2 A (ps.map dY))(hc:ps.length<=100000000000000)(h:uP ps p s=o) :
  Calls Tryz.prog 207 #[.slice A ps.length c,.iface 151 (.agg #[.int .i64 p.1,.int .i64 p.2,.int .i64 s])] w (aC w (.bool o)):=by
 have hm:=aP
 unfold uP at h
 obtain⟨⟨n,e⟩,hn⟩:∃u,qC ps p s=u:=⟨_,rfl⟩
 have k1:=hide (fun W (hg:Grew w W)=>Ya ps A c p s (n,e) W (hr.up hg) hc hn)
 rw[hn] at h
 dsimp only at h k1
 clear hn hr
 obtain⟨p1,p2⟩:=p
 dsimp only at k1 ⊢
 have hcase:(e=0/\n=1)\/(e=0/\(n==1)=false)\/(e==0)=false:=by by_cases h:e=0<;>by_cases h2:n=1<;>simp[h,h2]
 rcases hcase with⟨rfl,rfl⟩|⟨rfl,h1⟩|h1
 ·simp at h
  subst h
  go_enter Tryz.func207,Tryz.ntmps207
  go_wp2_with (go_at_call 210;with_reducible refine aQ (k1.out _ gw) fun _ _=>?_;dsimp only)
  go_ret
  exact aC.mk' rfl gw
 all_goals
  rw[h1] at h
  simp at h
  subst h
  go_enter Tryz.func207,Tryz.ntmps207
  go_wp2_with (go_at_call 210;with_reducible refine aQ (k1.out _ gw) fun _ _=>?_;dsimp only)
  go_ret
  exact aC.mk' (by simp[h1]) gw
theorem zX (ps:List Pt)(A:Option Addr)(c:Nat)(qs:List Pt)(A':Option Addr)(c':Nat)(o:Bool)(w:World)(hr:Rd w w.heap.size 2 A (ps.map dY))(hc:ps.length<=100000000000000)(hr':Rd w w.heap.size 2 A' (qs.map dY))(hc':qs.length<=100000000000000)(h:uQ ps qs=o) :
  Calls Tryz.prog 207 #[.slice A ps.length c,.iface 149 (.slice A' qs.length c')] w (aC w (.bool o)):=by
 have hm:=aP
 unfold uQ at h
 obtain⟨⟨n,e⟩,hn⟩:∃u,sO ps qs=u:=⟨_,rfl⟩
 have k1:=hide (fun W (hg:Grew w W)=>aal ps qs A A' c c' (n,e) W (hr.up hg) (hr'.up hg) hc hc' hn)
 rw[hn] at h
 dsimp only at h k1
 clear hn hr hr'
 have hcase:e=0\/(e==0)=false:=by by_cases h:e=0<;>simp[h]
 rcases hcase with rfl|h1
 ·simp at h
  subst h
  go_enter Tryz.func207,Tryz.ntmps207
  go_wp2_with (go_at_call 211;with_reducible refine aQ (k1.out _ gw) fun _ _=>?_;dsimp only)
  go_ret
  exact aC.mk' rfl gw
 ·rw[h1] at h
  simp at h
  subst h
  go_enter Tryz.func207,Tryz.ntmps207
  go_wp2_with (go_at_call 211;with_reducible refine aQ (k1.out _ gw) fun _ _=>?_;dsimp only)
  go_ret
  exact aC.mk' (by simp[h1]) gw
theorem Jl (x y r:Int)(v:Value)(w:World) :
  Calls Tryz.prog 223 #[.agg #[.int .i64 x,.int .i64 y,.int .i64 r],.iface 148 v] w (aC w (.bool true)):=by
 have hm:=aP
 go_enter Tryz.func223,Tryz.ntmps223
 go_wp2_with fail
 go_ret
 exact aC.mk' rfl gw
theorem Ju (A:Option Addr)(n c:Nat)(v:Value)(w:World) :
  Calls Tryz.prog 207 #[.slice A n c,.iface 148 v] w (aC w (.bool true)):=by
 have hm:=aP
 go_enter Tryz.func207,Tryz.ntmps207
 go_wp2_with fail
 go_ret
 exact aC.mk' rfl gw
theorem FN (x y a b:Int)(w:World) :
  Calls Tryz.prog 203 #[.agg #[.int .i64 x,.int .i64 y],.iface 148 (.agg #[.int .i64 a,.int .i64 b])] w (aC w (.bool true)):=by
 have hm:=aP
 go_enter Tryz.func203,Tryz.ntmps203
 go_wp2_with fail
 go_ret
 exact aC.mk' rfl gw
theorem xR (x y:Int)(v:Value)(w:World) :
  Calls Tryz.prog 203 #[.agg #[.int .i64 x,.int .i64 y],.iface 151 v] w (aC w (.bool false)):=by
 have hm:=aP
 go_enter Tryz.func203,Tryz.ntmps203
 go_wp2_with fail
 go_ret
 exact aC.mk' rfl gw
theorem xU (x y:Int)(v:Value)(w:World) :
  Calls Tryz.prog 203 #[.agg #[.int .i64 x,.int .i64 y],.iface 149 v] w (aC w (.bool false)):=by
 have hm:=aP
 go_enter Tryz.func203,Tryz.ntmps203
 go_wp2_with fail
 go_ret
 exact aC.mk' rfl gw
theorem Zv (x y r:Int)(B:Nat)(p:Pt)(o:Bool)(w:World)(hB:w.heap[B]?=some (.cells #[.int .i64 x,.int .i64 y,.int .i64 r] 151 (0,0)))(h:mr x y r p = !o) :
  Calls Tryz.prog 226 #[pt p.1 p.2,.pointer (some ⟨B,0,none⟩)] w (aC w (.bool o)):=by
 have k1:=hide (fun W=>uH x y r p (!o) W h)
 have c0:=ag hB 0
 have c1:=ag hB 1
 have c2:=ag hB 2
 have lB:=au hB
 obtain⟨p1,p2⟩:=p
 clear h hB
 cases o
 all_goals
  go_enter Tryz.func226,Tryz.ntmps226
  go_wp2_with (go_at_call 222;with_reducible refine aQ (k1.out _) fun _ _=>?_;dsimp only)
  go_ret
  exact aC.mk' (by rfl) gw
theorem Tc (x y r:Int)(B:Nat)(ps:List Pt)(A:Option Addr)(c:Nat)(o:Bool)(w:World)(hB:w.heap[B]?=some (.cells #[.int .i64 x,.int .i64 y,.int .i64 r] 151 (0,0)))(hr:Rd w w.heap.size 2 A (ps.map dY))(hc:ps.length<=100000000000000)(h:ps.all (mr x y r)=o) :
  Calls Tryz.prog 227 #[.slice A ps.length c,.func (.func 226) #[] #[.pointer (some ⟨B,0,none⟩)]] w fun e w'=>afi ps.length o e/\Grew w w':=by
 have hm:=aP
 have HR:=hide h
 have HB:=hide hB
 clear h
 go_enter Tryz.func227,Tryz.ntmps227
 go_wp2_with fail
 go_loopw [8] (fun i wr=>∃k:Nat,k<=ps.length/\i=.int .i64 k/\Grew w wr/\wW ((ps.take k).all (mr x y r)=true)) (fun i _=>ps.length-(intOf i).toNat)
 case atStart=>exact⟨0,by omega,rfl,gw,rfl⟩
 case round =>
  obtain⟨k,hk,rfl,hg,hall⟩:=hrel
  have HG:=hide hg
  have HA:=hide hall.stop
  clear hg hall
  by_cases hlt:k<ps.length
  ·obtain⟨p,hp⟩:∃p,ps[k]?=some p:=⟨_,List.getElem?_eq_getElem hlt⟩
   obtain⟨b,off,hA,hb,h0,h1⟩:=ug (hr.up HG.out) hp
   have hix:=aO (cap:=c) Tryz.underlying149 Tryz.sizeOf28 hA.out hlt
   have hs:=rU (mr x y r) hp
   rw[HA.out,Bool.true_and] at hs
   have HP:=hide hp
   have HS:=hide hs
   obtain⟨u,hu⟩:∃u,mr x y r p = !u:=⟨!mr x y r p,by simp⟩
   have k1:=hide (fun W (hg:Grew wr W)=>Zv x y r B p u W (((HG.out.trans hg).heap (au HB.out)).trans HB.out) hu)
   have HO:=hide hu
   clear hp hs hu hA
   obtain⟨p1,p2⟩:=p
   dsimp only at h0 h1
   cases u
   ·go_wp2_with (go_at_call 226;with_reducible refine aQ (k1.out _ gw) fun _ _=>?_;dsimp only)
    go_roundw
    case rel=>exact⟨k+1,by omega,by go_num,HG.out.trans gw,by rw[HS.out];exact HO.out⟩
    case measure=>simp[intOf];omega
   ·go_wp2_with (go_at_call 226;with_reducible refine aQ (k1.out _ gw) fun _ _=>?_;dsimp only)
    go_ret
    have e:ps.all (mr x y r)=false:=uS HP.out HO.out
    obtain rfl:o=false:=by rw[<-HR.out,e]
    exact⟨.inr ⟨k,by omega,rfl,rfl⟩,HG.out.trans gw⟩
  ·obtain rfl:k=ps.length:=by omega
   rw[List.take_length] at HA
   obtain rfl:o=true:=by rw[<-HR.out,HA.out]
   go_wp2_with fail
   go_ret
   exact⟨.inl ⟨rfl,rfl⟩,HG.out⟩
theorem Td (x y r:Int)(B:Nat)(ps:List Pt)(A:Option Addr)(c:Nat)(o:Bool)(w:World)(hB:w.heap[B]?=some (.cells #[.int .i64 x,.int .i64 y,.int .i64 r] 151 (0,0)))(hr:Rd w w.heap.size 2 A (ps.map dY))(hc:ps.length<=100000000000000)(h:ps.all (mr x y r) = !o) :
  Calls Tryz.prog 225 #[.slice A ps.length c,.func (.func 226) #[] #[.pointer (some ⟨B,0,none⟩)]] w (aC w (.bool o)):=by
 have hm:=aP
 have k1:=hide (fun W (hg:Grew w W)=>Tc x y r B ps A c (!o) W ((hg.heap (au hB)).trans hB) (hr.up hg) hc h)
 clear h hr hB
 go_enter Tryz.func225,Tryz.ntmps225
 go_wp2_with fail
 refine (k1.out _ gw).mono ?_
 rintro e w' ⟨h,⟨⟨n1,os1⟩,rfl⟩⟩
 rcases h with⟨rfl,hr2⟩|⟨k,hk,rfl,hr2⟩
 ·obtain rfl:o=false:=by simpa using hr2
  dsimp only
  go_wp2_with fail
  go_ret
  exact aC.mk' rfl gw
 ·obtain rfl:o=true:=by simpa using hr2
  dsimp only
  have hk0:0<=(k:Int):=by omega
  go_wp2_with fail
  go_ret
  exact aC.mk' (by simp) gw
theorem zJ (x y r:Int)(ps:List Pt)(A:Option Addr)(c:Nat)(o:Bool)(w:World)(hr:Rd w w.heap.size 2 A (ps.map dY))(hc:ps.length<=100000000000000)(h:yE x y r ps=o) :
  Calls Tryz.prog 223 #[.agg #[.int .i64 x,.int .i64 y,.int .i64 r],.iface 149 (.slice A ps.length c)] w (aC w (.bool o)):=by
 have hm:=aP
 have k1:=hide (fun W (hg:Grew w W) hB=>Td x y r w.heap.size ps A c (!o) W hB (hr.up hg) hc (by rw[Bool.not_not];exact h))
 clear h hr
 cases o
 all_goals
  go_enter Tryz.func223,Tryz.ntmps223
  go_wp2_with fail
  refine (k1.out _ gw (heap_alloc_new _ _)).mono ?_
  rintro e w' ⟨rfl,⟨_,_⟩,rfl⟩
  dsimp only
  go_wp2_with fail
  go_ret
  exact aC.mk' (by rfl) gw
set_option maxHeartbeats 4000000
set_option maxRecDepth 100000
theorem IU (v : Value) (w : World) : (method 382 151 v "seamark/feature.holds").run Tryz.prog w = .ok (223, v) w := by kernel_rfl
theorem IC (v : Value) (w : World) : (nilAhead 382 151 v "seamark/feature.holds").run Tryz.prog w = .ok (some false) w := by kernel_rfl
theorem IW (v : Value) (w : World) : (method 382 151 v "seamark/feature.covers").run Tryz.prog w = .ok (222, v) w := by kernel_rfl
theorem IK (v : Value) (w : World) : (nilAhead 382 151 v "seamark/feature.covers").run Tryz.prog w = .ok (some false) w := by kernel_rfl
theorem IV (v : Value) (w : World) : (method 382 149 v "seamark/feature.holds").run Tryz.prog w = .ok (207, v) w := by kernel_rfl
theorem IE (v : Value) (w : World) : (nilAhead 382 149 v "seamark/feature.holds").run Tryz.prog w = .ok (some false) w := by kernel_rfl
theorem IX (v : Value) (w : World) : (method 382 149 v "seamark/feature.covers").run Tryz.prog w = .ok (206, v) w := by kernel_rfl
theorem IL (v : Value) (w : World) : (nilAhead 382 149 v "seamark/feature.covers").run Tryz.prog w = .ok (some false) w := by kernel_rfl
theorem Eg (v : Value) (w : World) : (method 382 148 v "seamark/feature.holds").run Tryz.prog w = .ok (203, v) w := by kernel_rfl
theorem Ec (v : Value) (w : World) : (nilAhead 382 148 v "seamark/feature.holds").run Tryz.prog w = .ok (some false) w := by kernel_rfl
theorem Em (v : Value) (w : World) : (method 382 148 v "seamark/feature.covers").run Tryz.prog w = .ok (202, v) w := by kernel_rfl
theorem Ee (v : Value) (w : World) : (nilAhead 382 148 v "seamark/feature.covers").run Tryz.prog w = .ok (some false) w := by kernel_rfl
attribute [local go_sem] IU IC IW IK IV IE IX IL Eg Ec Em Ee
theorem JM (f g:FV)(F:Value)(o:Bool)(w:World)(hf:f.rd w w.heap.size)(hg:g.rd w w.heap.size)(vf:bf f=true)(vg:bf g=true)(hk:f.kind≠4)
  (kf:Hid (∀W,Calls Tryz.prog 50 #[f.val] W (aC W F))) (kg:Hid (∀W,Calls Tryz.prog 50 #[g.val] W (aC W (.iface 151 (.agg #[.int .i64 g.x,.int .i64 g.y,.int .i64 g.dC])))))
  (kh:Hid (∀W,Grew w W->Calls Tryz.prog 223 #[.agg #[.int .i64 g.x,.int .i64 g.y,.int .i64 g.dC],F] W (aC W (.bool o)))) :
  Calls Tryz.prog 86 #[f.val,g.val] w (aC w (.tuple #[.bool (decide (g.dep<=f.dep)&&o),.int .i64 0])):=by
 have hm:=aP
 have k1:=hide (fun W (h:Grew w W)=>dE f true W (hf.up h) vf)
 have k2:=hide (fun W (h:Grew w W)=>dE g true W (hg.up h) vg)
 clear hf hg vf vg
 by_cases hd:g.dep<=f.dep
 ·rw[decide_eq_true hd,Bool.true_and]
  go_enter Tryz.func86,Tryz.ntmps86
  go_wp2_with (first|(go_at_call 56;with_reducible refine aQ (k1.out _ gw) fun _ _=>?_;dsimp only)|(go_at_call 56;with_reducible refine aQ (k2.out _ gw) fun _ _=>?_;dsimp only))
  refine ay 17 [] [] hm (h:=?_)
  repeat (refine ax (fun K hK=>?_);go_simp;first|(refine hK _ ?_;clear hK K)|(apply Exists.intro;refine⟨fun _=>?_,hK _ ?_⟩;(first|(go_at_call 50;first|with_reducible exact kf.out _|with_reducible exact kg.out _)|(go_at_call 223;with_reducible exact kh.out _ gw));clear hK K))
  refine lU fun nq osq=>?_
  try simp only[Act.put,aG]
  try dsimp only
  go_wp2_with fail
  go_ret2
  exact aC.mk' rfl gw
 ·have hd2:decide (g.dep<=f.dep)=false:=decide_eq_false hd
  rw[hd2,Bool.false_and]
  go_enter Tryz.func86,Tryz.ntmps86
  go_wp2_with (first|(go_at_call 56;with_reducible refine aQ (k1.out _ gw) fun _ _=>?_;dsimp only)|(go_at_call 56;with_reducible refine aQ (k2.out _ gw) fun _ _=>?_;dsimp only))
  refine ay 17 [] [] hm (h:=?_)
  repeat (refine ax (fun K hK=>?_);go_simp;first|(refine hK _ ?_;clear hK K)|(apply Exists.intro;refine⟨fun _=>?_,hK _ ?_⟩;(first|(go_at_call 50;first|with_reducible exact kf.out _|with_reducible exact kg.out _)|(go_at_call 223;with_reducible exact kh.out _ gw));clear hK K))
  refine lU fun nq osq=>?_
  try simp only[Act.put,aG]
  try dsimp only
  go_wp2_with fail
  go_ret2
  exact aC.mk' rfl gw
theorem JO (f g:FV)(F:Value)(o:Bool)(w:World)(hf:f.rd w w.heap.size)(hg:g.rd w w.heap.size)(vf:bf f=true)(vg:bf g=true)(hk:f.kind≠4)
  (kf:Hid (∀W,Calls Tryz.prog 50 #[f.val] W (aC W F))) (kg:Hid (∀W,Calls Tryz.prog 50 #[g.val] W (aC W (.iface 149 (.slice g.aA g.area.length g.ac)))))
  (kh:Hid (∀W,Grew w W->Calls Tryz.prog 207 #[.slice g.aA g.area.length g.ac,F] W (aC W (.bool o)))) :
  Calls Tryz.prog 86 #[f.val,g.val] w (aC w (.tuple #[.bool (decide (g.dep<=f.dep)&&o),.int .i64 0])):=by
 have hm:=aP
 have k1:=hide (fun W (h:Grew w W)=>dE f true W (hf.up h) vf)
 have k2:=hide (fun W (h:Grew w W)=>dE g true W (hg.up h) vg)
 clear hf hg vf vg
 by_cases hd:g.dep<=f.dep
 ·rw[decide_eq_true hd,Bool.true_and]
  go_enter Tryz.func86,Tryz.ntmps86
  go_wp2_with (first|(go_at_call 56;with_reducible refine aQ (k1.out _ gw) fun _ _=>?_;dsimp only)|(go_at_call 56;with_reducible refine aQ (k2.out _ gw) fun _ _=>?_;dsimp only))
  refine ay 17 [] [] hm (h:=?_)
  repeat (refine ax (fun K hK=>?_);go_simp;first|(refine hK _ ?_;clear hK K)|(apply Exists.intro;refine⟨fun _=>?_,hK _ ?_⟩;(first|(go_at_call 50;first|with_reducible exact kf.out _|with_reducible exact kg.out _)|(go_at_call 207;with_reducible exact kh.out _ gw));clear hK K))
  refine lU fun nq osq=>?_
  try simp only[Act.put,aG]
  try dsimp only
  go_wp2_with fail
  go_ret2
  exact aC.mk' rfl gw
 ·have hd2:decide (g.dep<=f.dep)=false:=decide_eq_false hd
  rw[hd2,Bool.false_and]
  go_enter Tryz.func86,Tryz.ntmps86
  go_wp2_with (first|(go_at_call 56;with_reducible refine aQ (k1.out _ gw) fun _ _=>?_;dsimp only)|(go_at_call 56;with_reducible refine aQ (k2.out _ gw) fun _ _=>?_;dsimp only))
  refine ay 17 [] [] hm (h:=?_)
  repeat (refine ax (fun K hK=>?_);go_simp;first|(refine hK _ ?_;clear hK K)|(apply Exists.intro;refine⟨fun _=>?_,hK _ ?_⟩;(first|(go_at_call 50;first|with_reducible exact kf.out _|with_reducible exact kg.out _)|(go_at_call 207;with_reducible exact kh.out _ gw));clear hK K))
  refine lU fun nq osq=>?_
  try simp only[Act.put,aG]
  try dsimp only
  go_wp2_with fail
  go_ret2
  exact aC.mk' rfl gw
theorem H9 (f g:FV)(F:Value)(o:Bool)(w:World)(hf:f.rd w w.heap.size)(hg:g.rd w w.heap.size)(vf:bf f=true)(vg:bf g=true)(hk:f.kind≠4)
  (kf:Hid (∀W,Calls Tryz.prog 50 #[f.val] W (aC W F))) (kg:Hid (∀W,Calls Tryz.prog 50 #[g.val] W (aC W (.iface 148 (.agg #[.int .i64 g.x,.int .i64 g.y])))))
  (kh:Hid (∀W,Grew w W->Calls Tryz.prog 203 #[.agg #[.int .i64 g.x,.int .i64 g.y],F] W (aC W (.bool o)))) :
  Calls Tryz.prog 86 #[f.val,g.val] w (aC w (.tuple #[.bool (decide (g.dep<=f.dep)&&o),.int .i64 0])):=by
 have hm:=aP
 have k1:=hide (fun W (h:Grew w W)=>dE f true W (hf.up h) vf)
 have k2:=hide (fun W (h:Grew w W)=>dE g true W (hg.up h) vg)
 clear hf hg vf vg
 by_cases hd:g.dep<=f.dep
 ·rw[decide_eq_true hd,Bool.true_and]
  go_enter Tryz.func86,Tryz.ntmps86
  go_wp2_with (first|(go_at_call 56;with_reducible refine aQ (k1.out _ gw) fun _ _=>?_;dsimp only)|(go_at_call 56;with_reducible refine aQ (k2.out _ gw) fun _ _=>?_;dsimp only))
  refine ay 17 [] [] hm (h:=?_)
  repeat (refine ax (fun K hK=>?_);go_simp;first|(refine hK _ ?_;clear hK K)|(apply Exists.intro;refine⟨fun _=>?_,hK _ ?_⟩;(first|(go_at_call 50;first|with_reducible exact kf.out _|with_reducible exact kg.out _)|(go_at_call 203;with_reducible exact kh.out _ gw));clear hK K))
  refine lU fun nq osq=>?_
  try simp only[Act.put,aG]
  try dsimp only
  go_wp2_with fail
  go_ret2
  exact aC.mk' rfl gw
 ·have hd2:decide (g.dep<=f.dep)=false:=decide_eq_false hd
  rw[hd2,Bool.false_and]
  go_enter Tryz.func86,Tryz.ntmps86
  go_wp2_with (first|(go_at_call 56;with_reducible refine aQ (k1.out _ gw) fun _ _=>?_;dsimp only)|(go_at_call 56;with_reducible refine aQ (k2.out _ gw) fun _ _=>?_;dsimp only))
  refine ay 17 [] [] hm (h:=?_)
  repeat (refine ax (fun K hK=>?_);go_simp;first|(refine hK _ ?_;clear hK K)|(apply Exists.intro;refine⟨fun _=>?_,hK _ ?_⟩;(first|(go_at_call 50;first|with_reducible exact kf.out _|with_reducible exact kg.out _)|(go_at_call 203;with_reducible exact kh.out _ gw));clear hK K))
  refine lU fun nq osq=>?_
  try simp only[Act.put,aG]
  try dsimp only
  go_wp2_with fail
  go_ret2
  exact aC.mk' rfl gw
def eX (g f:FV):Bool:=if g.kind=4 then decide (f.kind=4) else if f.kind=4 then true else if g.kind=3\/g.kind=6 then (if f.kind=3\/f.kind=6 then uQ g.area f.area else uP g.area (f.x,f.y) f.dC) else (if f.kind=3\/f.kind=6 then yE g.x g.y g.dC f.area else uG g.x g.y g.dC (f.x,f.y) f.dC)
def DN (f g:FV):Bool:=decide (g.kind=4)&&(decide (g.x=f.x/\g.y=f.y)&&((qQ f.secs g.secs).2==0 && !(qQ f.secs g.secs).1))
def DR (f g:FV):Bool:=if f.kind=4 then DN f g else decide (g.dep<=f.dep)&&eX g f
def sG (f g:FV):Bool×Int:=if (bf f&&bf g)=true then (DR f g,0) else (false,1)
theorem mX {f:FV}(h4:f.kind≠4)(h3:¬ (f.kind=3\/f.kind=6)):f.sh=.iface 151 (.agg #[.int .i64 f.x,.int .i64 f.y,.int .i64 f.dC]):=by unfold FV.sh;rw[if_neg h4,if_neg h3]
theorem lY {f:FV}(h3:f.kind=3\/f.kind=6):f.sh=.iface 149 (.slice f.aA f.area.length f.ac):=by unfold FV.sh;rw[if_neg (by omega),if_pos h3]
theorem oD {f:FV}(h4:f.kind=4):f.sh=.iface 148 (.agg #[.int .i64 f.x,.int .i64 f.y]):=by unfold FV.sh;rw[if_pos h4]
theorem xK (f:FV)(v:Value)(w:World)(h:f.sh=v):Calls Tryz.prog 50 #[f.val] w (aC w v):=by
 have:=abV f w
 rwa [h] at this
theorem Jw (f g:FV)(w:World)(hf:f.rd w w.heap.size)(hg:g.rd w w.heap.size)(vf:bf f=true)(vg:bf g=true)(hk:f.kind≠4) :
  Calls Tryz.prog 86 #[f.val,g.val] w (aC w (.tuple #[.bool (decide (g.dep<=f.dep)&&eX g f),.int .i64 0])):=by
 have kf:Hid (∀W,Calls Tryz.prog 50 #[f.val] W (aC W f.sh)):=hide (fun W=>xK f _ W rfl)
 by_cases g4:g.kind=4
 ·have e:eX g f=false:=by unfold eX;rw[if_pos g4,decide_eq_false hk]
  rw[e]
  refine H9 f g _ false w hf hg vf vg hk kf (hide (fun W=>xK g _ W (oD g4))) (hide (fun W hgr=>?_))
  by_cases f3:f.kind=3\/f.kind=6
  ·rw[lY f3]
   exact xU _ _ _ W
  ·rw[mX hk f3]
   exact xR _ _ _ W
 ·by_cases g3:g.kind=3\/g.kind=6
  ·refine JO f g _ (eX g f) w hf hg vf vg hk kf (hide (fun W=>xK g _ W (lY g3))) (hide (fun W hgr=>?_))
   by_cases f3:f.kind=3\/f.kind=6
   ·rw[lY f3]
    exact zX _ _ _ _ _ _ _ W ((hg.up hgr).area) hg.la ((hf.up hgr).area) hf.la (by unfold eX;rw[if_neg g4,if_neg hk,if_pos g3,if_pos f3])
   ·rw[mX hk f3]
    exact zW _ _ _ (f.x,f.y) _ _ W ((hg.up hgr).area) hg.la (by unfold eX;rw[if_neg g4,if_neg hk,if_pos g3,if_neg f3])
  ·refine JM f g _ (eX g f) w hf hg vf vg hk kf (hide (fun W=>xK g _ W (mX g4 g3))) (hide (fun W hgr=>?_))
   by_cases f3:f.kind=3\/f.kind=6
   ·rw[lY f3]
    exact zJ _ _ _ _ _ _ _ W ((hf.up hgr).area) hf.la (by unfold eX;rw[if_neg g4,if_neg hk,if_neg g3,if_pos f3])
   ·rw[mX hk f3]
    exact zI _ _ _ (f.x,f.y) _ _ W (by unfold eX;rw[if_neg g4,if_neg hk,if_neg g3,if_neg f3])
theorem aag (sa sb:List fJ)(A A':Option Addr)(c c':Nat)(r:Bool×Int)(w:World)(hra:Rd w w.heap.size 6 A (sa.map fJ.cells))(hrb:Rd w w.heap.size 6 A' (sb.map fJ.cells))(hl:sa.length<=c)(hl':sb.length<=c')(hc:sa.length<=100000000000000)(hc':sb.length<=100000000000000)(h:qQ sa sb=r) :
  Calls Tryz.prog 105 #[.slice A sa.length c,.slice A' sb.length c'] w (aC w (.tuple #[.bool r.1,.int .i64 r.2])):=by
 have:=TQ sa sb A A' c c' w hra hrb hl hl' hc hc'
 rwa [h] at this
theorem Jy (f g:FV)(r:Bool)(w:World)(hf:f.rd w w.heap.size)(hg:g.rd w w.heap.size)(vf:bf f=true)(vg:bf g=true)(hk:f.kind=4)(h:DN f g=r) :
  Calls Tryz.prog 86 #[f.val,g.val] w (aC w (.tuple #[.bool r,.int .i64 0])):=by
 have hm:=aP
 have k1:=hide (fun W (h:Grew w W)=>dE f true W (hf.up h) vf)
 have k2:=hide (fun W (h:Grew w W)=>dE g true W (hg.up h) vg)
 obtain⟨⟨n,e⟩,hn⟩:∃u,qQ f.secs g.secs=u:=⟨_,rfl⟩
 have k3:=hide (fun W (h:Grew w W)=>aag f.secs g.secs f.sA g.sA f.sc g.sc (n,e) W ((hf.up h).secs) ((hg.up h).secs) hf.lc hg.lc hf.ls hg.ls hn)
 unfold DN at h
 rw[hn] at h
 dsimp only at h k3
 clear hf hg vf vg hn
 obtain⟨fid,fk,fx,fy,fr,faA,fac,fa,fd,fs,fsA,fsc,fss⟩:=f
 obtain⟨gid,gk,gx,gy,gr,gaA,gac,ga,gd,gs,gsA,gsc,gss⟩:=g
 unfold FV.val at *
 dsimp only at *
 subst hk
 generalize fss.length=nf at *
 generalize gss.length=ng at *
 have hcase:gk≠4\/(gk=4/\gx≠fx)\/(gk=4/\gx=fx/\gy≠fy)\/(gk=4/\gx=fx/\gy=fy/\(e==0)=false)\/(gk=4/\gx=fx/\gy=fy/\e=0):=by
  by_cases h1:gk=4<;>by_cases h2:gx=fx<;>by_cases h3:gy=fy<;>by_cases h4:e=0<;>simp[h1,h2,h3,h4]
 rcases hcase with h1|⟨rfl,h2⟩|⟨rfl,rfl,h3⟩|⟨rfl,rfl,rfl,h4⟩|⟨rfl,rfl,rfl,rfl⟩
 ·obtain rfl:r=false:=by rw[<-h,decide_eq_false h1];rfl
  clear h
  go_enter Tryz.func86,Tryz.ntmps86
  go_wp2_with (first|(go_at_call 56;with_reducible refine aQ (k1.out _ gw) fun _ _=>?_;dsimp only)|(go_at_call 56;with_reducible refine aQ (k2.out _ gw) fun _ _=>?_;dsimp only))
  go_ret2
  exact aC.mk' rfl gw
 ·obtain rfl:r=false:=by rw[<-h,decide_eq_false (show ¬ (gx=fx/\gy=fy) from fun e=>h2 e.1)];simp
  clear h
  go_enter Tryz.func86,Tryz.ntmps86
  go_wp2_with (first|(go_at_call 56;with_reducible refine aQ (k1.out _ gw) fun _ _=>?_;dsimp only)|(go_at_call 56;with_reducible refine aQ (k2.out _ gw) fun _ _=>?_;dsimp only))
  go_ret2
  exact aC.mk' rfl gw
 ·obtain rfl:r=false:=by rw[<-h,decide_eq_false (show ¬ (gx=gx/\gy=fy) from fun e=>h3 e.2)];simp
  clear h
  go_enter Tryz.func86,Tryz.ntmps86
  go_wp2_with (first|(go_at_call 56;with_reducible refine aQ (k1.out _ gw) fun _ _=>?_;dsimp only)|(go_at_call 56;with_reducible refine aQ (k2.out _ gw) fun _ _=>?_;dsimp only))
  go_ret2
  exact aC.mk' rfl gw
 ·obtain rfl:r=false:=by rw[<-h,h4];simp
  clear h
  go_enter Tryz.func86,Tryz.ntmps86
  go_wp2_with (first|(go_at_call 56;with_reducible refine aQ (k1.out _ gw) fun _ _=>?_;dsimp only)|(go_at_call 56;with_reducible refine aQ (k2.out _ gw) fun _ _=>?_;dsimp only)|(go_at_call 105;with_reducible refine aQ (k3.out _ gw) fun _ _=>?_;dsimp only))
  go_ret2
  exact aC.mk' rfl gw
 ·obtain rfl:r = !n:=by rw[<-h];simp
  clear h
  cases n
  all_goals
   go_enter Tryz.func86,Tryz.ntmps86
   go_wp2_with (first|(go_at_call 56;with_reducible refine aQ (k1.out _ gw) fun _ _=>?_;dsimp only)|(go_at_call 56;with_reducible refine aQ (k2.out _ gw) fun _ _=>?_;dsimp only)|(go_at_call 105;with_reducible refine aQ (k3.out _ gw) fun _ _=>?_;dsimp only))
   go_ret2
   exact aC.mk' rfl gw
theorem OT (f g:FV)(w:World)(hf:f.rd w w.heap.size)(hg:g.rd w w.heap.size)(h:(bf f&&bf g)=false) :
  Calls Tryz.prog 86 #[f.val,g.val] w (aC w (.tuple #[.bool false,.int .i64 1])):=by
 have hm:=aP
 obtain⟨a,ha⟩:∃u,bf f=u:=⟨_,rfl⟩
 obtain⟨b,hb⟩:∃u,bf g=u:=⟨_,rfl⟩
 have k1:=hide (fun W (h:Grew w W)=>dE f a W (hf.up h) ha)
 have k2:=hide (fun W (h:Grew w W)=>dE g b W (hg.up h) hb)
 rw[ha,hb] at h
 clear hf hg ha hb
 have hcase:a=false\/(a=true/\b=false):=by cases a<;>cases b<;>simp at h ⊢
 rcases hcase with rfl|⟨rfl,rfl⟩
 all_goals
  go_enter Tryz.func86,Tryz.ntmps86
  go_wp2_with (first|(go_at_call 56;with_reducible refine aQ (k1.out _ gw) fun _ _=>?_;dsimp only)|(go_at_call 56;with_reducible refine aQ (k2.out _ gw) fun _ _=>?_;dsimp only))
  go_ret2
  exact aC.mk' rfl gw
theorem XQ (f g:FV)(r:Bool×Int)(w:World)(hf:f.rd w w.heap.size)(hg:g.rd w w.heap.size)(h:sG f g=r) :
  Calls Tryz.prog 86 #[f.val,g.val] w (aC w (.tuple #[.bool r.1,.int .i64 r.2])):=by
 unfold sG at h
 subst h
 by_cases hv:(bf f&&bf g)=true
 ·rw[if_pos hv]
  have hv2:=hv
  rw[Bool.and_eq_true] at hv2
  unfold DR
  by_cases hk:f.kind=4
  ·rw[if_pos hk]
   exact Jy f g _ w hf hg hv2.1 hv2.2 hk rfl
  ·rw[if_neg hk]
   exact Jw f g w hf hg hv2.1 hv2.2 hk
 ·rw[if_neg hv]
  exact OT f g w hf hg (by simpa using hv)
set_option maxHeartbeats 8000000
set_option maxRecDepth 100000
attribute [local go_sem] IU IC IW IK IV IE IX IL Eg Ec Em Ee
instance:Inhabited FV:=⟨⟨0,0,0,0,0,none,0,[],0,0,none,0,[]⟩⟩
structure nI (w:World) (B:Nat) (A:Option Addr) (fs:List FV):Prop where
 row:Rd w B 9 A (fs.map FV.cells)
 each:∀f,f∈fs->f.rd w B
theorem nI.up {w w':World}{A:Option Addr}{fs:List FV}(h:nI w w.heap.size A fs)(hg:Grew w w'):nI w' w'.heap.size A fs:=⟨h.row.up hg,fun f hf=>(h.each f hf).up hg⟩
theorem nI.nil (w:World)(B:Nat)(A:Option Addr):nI w B A []:=⟨Rd.nil _ _ _ _,fun f h=>by cases h⟩
def bF (fs:List FV)(k:Nat):FV:=fs.getD k default
theorem dI {fs:List FV}{k:Nat}(h:k<fs.length):fs[k]?=some (bF fs k):=by
 unfold bF
 rw[List.getD_eq_getElem?_getD,List.getElem?_eq_getElem h]
 rfl
theorem dQ {fs:List FV}{k:Nat}(h:k<fs.length):bF fs k∈fs:=List.mem_of_getElem? (dI h)
structure Un (w:World) (b o:Nat) (f:FV):Prop where
 c0:w.cell? ⟨b,o,none⟩=some (.int .i64 f.id)
 c1:w.cell? ⟨b,o+1,none⟩=some (.int .i64 f.kind)
 c2:w.cell? ⟨b,o+2,none⟩=some (.int .i64 f.x)
 c3:w.cell? ⟨b,o+3,none⟩=some (.int .i64 f.y)
 c4:w.cell? ⟨b,o+4,none⟩=some (.int .i64 f.dC)
 c5:w.cell? ⟨b,o+5,none⟩=some (.slice f.aA f.area.length f.ac)
 c6:w.cell? ⟨b,o+6,none⟩=some (.int .i64 f.dep)
 c7:w.cell? ⟨b,o+7,none⟩=some (.int .i64 f.sym)
 c8:w.cell? ⟨b,o+8,none⟩=some (.slice f.sA f.secs.length f.sc)
theorem yD {w:World}{B:Nat}{A:Option Addr}{fs:List FV}{k:Nat}(h:nI w B A fs)(hk:k<fs.length) :
  ∃b off,Hid (A=some ⟨b,off,none⟩)/\b<B/\Un w b (off+k*9) (bF fs k):=by
 obtain⟨b,off,hA,hb,hc⟩:=h.row.at_ (k:=k) (x:=(bF fs k).cells) (by simp[dI hk])
 exact⟨b,off,hA,hb,hc 0 _ rfl,hc 1 _ rfl,hc 2 _ rfl,hc 3 _ rfl,hc 4 _ rfl,hc 5 _ rfl,hc 6 _ rfl,hc 7 _ rfl,hc 8 _ rfl⟩
def vW (fs:List FV)(k:Nat):Int:=if k=0 then 0 else (bF fs (k-1)).id
def FC (fs:List FV)(k:Nat):Bool:=bf (bF fs k)&&decide (vW fs k<(bF fs k).id)
def upTo (fs:List FV)(k:Nat):Bool:=(List.range k).all (FC fs)
def bQ (fs:List FV):Bool:=upTo fs fs.length&&decide (fs.length<=300)
theorem QQ {fs:List FV}{k:Nat}(h:upTo fs k=true):upTo fs (k+1)=FC fs k:=by
 unfold upTo at h ⊢
 rw[List.range_succ,List.all_append,h]
 simp
theorem Yy {fs:List FV}{k n:Nat}(hk:k<n)(h:FC fs k=false):upTo fs n=false:=by
 unfold upTo
 rw[List.all_eq_false]
 exact⟨k,List.mem_range.2 hk,by rw[h];simp⟩
theorem iO (fs:List FV)(A:Option Addr)(c:Nat)(r:Bool)(w:World)(hr:nI w w.heap.size A fs)(hc:fs.length<=100000000000000)(h:bQ fs=r) :
  Calls Tryz.prog 37 #[.slice A fs.length c] w (aC w (.bool r)):=by
 have hm:=aP
 have HH:=hide h
 have HR:=hide hr
 clear h hr
 go_enter Tryz.func37,Tryz.ntmps37
 go_wp2_with fail
 go_loopw [3,8] (fun l i wr=>∃k:Nat,k<=fs.length/\i=.int .i64 k/\l=.int .i64 (vW fs k)/\Grew w wr/\wW (upTo fs k=true)) (fun _ i _=>fs.length-(intOf i).toNat)
 case atStart=>exact⟨0,by omega,rfl,rfl,gw,rfl⟩
 case round =>
  obtain⟨k,hk,rfl,rfl,hg,hall⟩:=hrel
  have HG:=hide hg
  have HA:=hide hall.stop
  clear hg hall
  by_cases hlt:k<fs.length
  ·obtain⟨b,off,hA,hb,fc⟩:=yD (HR.out.up HG.out) hlt
   have hfr:=HR.out.each _ (dQ hlt)
   have hix:=aO (cap:=c) Tryz.underlying23 Tryz.sizeOf65 hA.out hlt
   have hst:=QQ HA.out
   unfold FC at hst
   have WH:vW fs (k+1)=(bF fs k).id:=by unfold vW;rw[if_neg (by omega),Nat.add_sub_cancel]
   obtain⟨v,hv⟩:∃v,bf (bF fs k)=v:=⟨_,rfl⟩
   rw[hv] at hst
   have k1:=hide (fun W (hg:Grew w W)=>dE (bF fs k) v W (hfr.up hg) hv)
   obtain⟨l,hl⟩:∃l,vW fs k=l:=⟨_,rfl⟩
   rw[hl] at hst ⊢
   have hno:(v&&decide (l<(bF fs k).id))=false->r=false:=fun e=>by
    rw[<-HH.out]
    unfold bQ
    rw[Yy hlt (by unfold FC;rw[hv,hl];exact e)]
    rfl
   obtain⟨c0,c1,c2,c3,c4,c5,c6,c7,c8⟩:=fc
   clear hl hv hA hfr
   generalize bF fs k=f at *
   obtain⟨id,kind,x,y,dC,aA,ac,area,dep,sym,sA,sc,secs⟩:=f
   unfold FV.val at k1
   dsimp only at *
   generalize area.length=na at *
   generalize secs.length=ns at *
   have HST:=hide hst
   have ac8:=hide WH
   clear hst WH
   cases v
   ·have MK:=hide (hno (by simp))
    clear hno
    go_wp2_with (go_at_call 56;with_reducible refine aQ (k1.out _ (HG.out.trans gw)) fun _ _=>?_;dsimp only)
    go_ret
    exact aC.mk' (by rw[MK.out];rfl) (HG.out.trans gw)
   ·by_cases hid:l<id
    ·have agB:¬ id<=l:=by omega
     clear hno
     go_wp2_with (go_at_call 56;with_reducible refine aQ (k1.out _ (HG.out.trans gw)) fun _ _=>?_;dsimp only)
     go_roundw
     case rel=>exact⟨k+1,by omega,by go_num,by rw[ac8.out],HG.out.trans gw,show upTo fs (k+1)=true from (by rw[HST.out];simp[hid])⟩
     case measure=>simp[intOf];omega
    ·have agB:id<=l:=by omega
     have MK:=hide (hno (by simp[hid]))
     clear hno
     go_wp2_with (go_at_call 56;with_reducible refine aQ (k1.out _ (HG.out.trans gw)) fun _ _=>?_;dsimp only)
     go_ret
     exact aC.mk' (by rw[MK.out];rfl) (HG.out.trans gw)
  ·obtain rfl:k=fs.length:=by omega
   have e:r=decide (fs.length<=300):=by
    rw[<-HH.out]
    unfold bQ
    rw[HA.out]
    rfl
   have HE:=hide e
   clear e
   go_wp2_with fail
   go_ret
   exact aC.mk' (by rw[HE.out];exact dU (by rw[Bool.eq_iff_iff];simp;try omega)) HG.out
def fP (f:FV)(p:Pt):Bool:=if f.kind=4 then false else if f.kind=3\/f.kind=6 then EO f.area p else mr f.x f.y f.dC p
def gG (p:Pt)(l:Int)(f:FV):Int:=if (decide (f.dep<l)&&fP f p)=true then f.dep else l
def kY (fs:List FV)(p:Pt)(k:Nat):Int:=(fs.take k).foldl (gG p) 100000
def xk (fs:List FV)(p:Pt):Int×Int:=if (bQ fs&&p.ok)=true then (kY fs p fs.length,0) else (0,1)
theorem Ib {fs:List FV}{p:Pt}{k:Nat}(h:k<fs.length):kY fs p (k+1)=gG p (kY fs p k) (bF fs k):=by
 unfold kY
 rw[List.take_add_one,dI h,List.foldl_append]
 rfl
theorem QG (fs:List FV)(A:Option Addr)(c:Nat)(p:Pt)(r:Int×Int)(w:World)(hr:nI w w.heap.size A fs)(hc:fs.length<=100000000000000)(h:xk fs p=r) :
  Calls Tryz.prog 15 #[.slice A fs.length c,pt p.1 p.2] w (aC w (.tuple #[.int .i64 r.1,.int .i64 r.2])):=by
 have hm:=aP
 obtain⟨u,hu⟩:∃u,bQ fs=u:=⟨_,rfl⟩
 obtain⟨v,hv⟩:∃u,p.ok=u:=⟨_,rfl⟩
 have k1:=hide (fun W (hg:Grew w W)=>iO fs A c u W (hr.up hg) hc hu)
 have k2:=hide (fun W=>dP p.1 p.2 v W hv)
 unfold xk at h
 rw[hu,hv] at h
 have HR:=hide hr
 clear hu hv hr
 obtain⟨p1,p2⟩:=p
 dsimp only at *
 have hcase:u=false\/(u=true/\v=false)\/(u=true/\v=true):=by cases u<;>cases v<;>simp
 rcases hcase with rfl|⟨rfl,rfl⟩|⟨rfl,rfl⟩
 ·rw[if_neg (by simp)] at h
  subst h
  go_enter Tryz.func15,Tryz.ntmps15
  go_wp2_with (first|(go_at_call 37;with_reducible refine aQ (k1.out _ gw) fun _ _=>?_;dsimp only)|(go_at_call 49;with_reducible refine aQ (k2.out _) fun _ _=>?_;dsimp only))
  go_ret2
  exact aC.mk' rfl gw
 ·rw[if_neg (by simp)] at h
  subst h
  go_enter Tryz.func15,Tryz.ntmps15
  go_wp2_with (first|(go_at_call 37;with_reducible refine aQ (k1.out _ gw) fun _ _=>?_;dsimp only)|(go_at_call 49;with_reducible refine aQ (k2.out _) fun _ _=>?_;dsimp only))
  go_ret2
  exact aC.mk' rfl gw
 ·rw[if_pos (by rfl)] at h
  subst h
  go_enter Tryz.func15,Tryz.ntmps15
  go_wp2_with (first|(go_at_call 37;with_reducible refine aQ (k1.out _ gw) fun _ _=>?_;dsimp only)|(go_at_call 49;with_reducible refine aQ (k2.out _) fun _ _=>?_;dsimp only))
  refine fC ?_
  intro W0 hW
  have hg0:Grew w W0:=by rw[<-hW];exact gw
  have hbp:W0.heap[w.heap.size]?=some (.cells #[.int .i64 p1,.int .i64 p2] 28 (0,0)):=by
   rw[<-hW]
   exact (Grew.heap (w:=w.alloc (.cells #[.int .i64 p1,.int .i64 p2] 28)) gw (by simp)).trans (heap_alloc_new _ _)
  have lN:=hide hg0
  have MS:=hide hbp
  clear hW hg0 hbp k1 k2
  go_loopw [6,19] (fun l i wr=>∃k:Nat,k<=fs.length/\i=.int .i64 k/\l=.int .i64 (kY fs (p1,p2) k)/\Grew W0 wr) (fun _ i _=>fs.length-(intOf i).toNat)
  case atStart=>exact⟨0,by omega,rfl,rfl,Grew.refl _⟩
  case round =>
   obtain⟨k,hk,rfl,rfl,hg⟩:=hrel
   have HG:=hide hg
   have bp:=(hg.heap (au MS.out)).trans MS.out
   have d0:=ag bp 0
   have d1:=ag bp 1
   have lp:=au bp
   clear hg bp
   by_cases hlt:k<fs.length
   ·obtain⟨b,off,hA,hb,fc⟩:=yD (HR.out.up (lN.out.trans HG.out)) hlt
    have hfr:=(HR.out.up (lN.out.trans HG.out)).each _ (dQ hlt)
    have hix:=aO (cap:=c) Tryz.underlying23 Tryz.sizeOf65 hA.out hlt
    have hst:=Ib (p:=(p1,p2)) hlt
    unfold gG at hst
    obtain⟨l,hl⟩:∃l,kY fs (p1,p2) k=l:=⟨_,rfl⟩
    rw[hl] at hst ⊢
    obtain⟨o,ho⟩:∃o,fP (bF fs k) (p1,p2)=o:=⟨_,rfl⟩
    rw[ho] at hst
    have V9:Hid ((∃x y,(bF fs k).sh=.iface 148 (.agg #[.int .i64 x,.int .i64 y])/\∀W,Grew wr W->Calls Tryz.prog 202 #[.agg #[.int .i64 x,.int .i64 y],pt p1 p2] W (aC W (.bool o)))\/((bF fs k).sh=.iface 149 (.slice (bF fs k).aA (bF fs k).area.length (bF fs k).ac)/\∀W,Grew wr W->Calls Tryz.prog 206 #[.slice (bF fs k).aA (bF fs k).area.length (bF fs k).ac,pt p1 p2] W (aC W (.bool o)))\/(∃x y r,(bF fs k).sh=.iface 151 (.agg #[.int .i64 x,.int .i64 y,.int .i64 r])/\∀W,Grew wr W->Calls Tryz.prog 222 #[.agg #[.int .i64 x,.int .i64 y,.int .i64 r],pt p1 p2] W (aC W (.bool o)))):=hide (by
     unfold fP at ho
     by_cases h4:(bF fs k).kind=4
     ·rw[if_pos h4] at ho
      exact .inl ⟨_,_,oD h4,fun W _=>by rw[<-ho];exact xW _ _ (p1,p2) W⟩
     ·rw[if_neg h4] at ho
      by_cases h3:(bF fs k).kind=3\/(bF fs k).kind=6
      ·rw[if_pos h3] at ho
       exact .inr (.inl ⟨lY h3,fun W hg=>zY _ _ _ (p1,p2) _ W (hfr.up hg).area hfr.la ho⟩)
      ·rw[if_neg h3] at ho
       exact .inr (.inr ⟨_,_,_,mX h4 h3,fun W _=>uH _ _ _ (p1,p2) _ W ho⟩))
    have kof:Hid (∀v W,(bF fs k).sh=v->Calls Tryz.prog 50 #[(bF fs k).val] W (aC W v)):=hide (fun v W e=>xK _ v W e)
    obtain⟨c0,c1,c2,c3,c4,c5,c6,c7,c8⟩:=fc
    clear hl ho hA hfr
    generalize bF fs k=f at *
    obtain⟨id,kind,x,y,dC,aA,ac,area,dep,sym,sA,sc,secs⟩:=f
    generalize FV.sh _=S at *
    unfold FV.val at kof
    dsimp only at *
    generalize area.length=na at *
    generalize secs.length=ns at *
    have HST:=hide hst
    clear hst
    by_cases hd:dep<l
    ·rcases V9.out with⟨x',y',rfl,kc⟩|⟨rfl,kc⟩|⟨x',y',r',rfl,kc⟩
     ·have KC:=hide kc
      have ko:=hide (fun W=>kof.out _ W rfl)
      clear kc kof V9
      cases o
      all_goals
       go_wp2_with fail
       refine ay 10 [] [] hm (h:=?_)
       repeat (refine ax (fun K hK=>?_);go_simp;first|(refine hK _ ?_;clear hK K)|(apply Exists.intro;refine⟨fun _=>?_,hK _ ?_⟩;(first|(go_at_call 50;with_reducible exact ko.out _)|(go_at_call 202;with_reducible exact KC.out _ gw));clear hK K))
       refine lU fun nq osq=>?_
       try simp only[Act.put,aG]
       try dsimp only
       go_wp2_with fail
       go_roundw
       case rel=>exact⟨k+1,by omega,by go_num,by rw[HST.out];simp[hd],HG.out.trans gw⟩
       case measure=>simp[intOf];omega
     ·have KC:=hide kc
      have ko:=hide (fun W=>kof.out _ W rfl)
      clear kc kof V9
      cases o
      all_goals
       go_wp2_with fail
       refine ay 10 [] [] hm (h:=?_)
       repeat (refine ax (fun K hK=>?_);go_simp;first|(refine hK _ ?_;clear hK K)|(apply Exists.intro;refine⟨fun _=>?_,hK _ ?_⟩;(first|(go_at_call 50;with_reducible exact ko.out _)|(go_at_call 206;with_reducible exact KC.out _ gw));clear hK K))
       refine lU fun nq osq=>?_
       try simp only[Act.put,aG]
       try dsimp only
       go_wp2_with fail
       go_roundw
       case rel=>exact⟨k+1,by omega,by go_num,by rw[HST.out];simp[hd],HG.out.trans gw⟩
       case measure=>simp[intOf];omega
     ·have KC:=hide kc
      have ko:=hide (fun W=>kof.out _ W rfl)
      clear kc kof V9
      cases o
      all_goals
       go_wp2_with fail
       refine ay 10 [] [] hm (h:=?_)
       repeat (refine ax (fun K hK=>?_);go_simp;first|(refine hK _ ?_;clear hK K)|(apply Exists.intro;refine⟨fun _=>?_,hK _ ?_⟩;(first|(go_at_call 50;with_reducible exact ko.out _)|(go_at_call 222;with_reducible exact KC.out _ gw));clear hK K))
       refine lU fun nq osq=>?_
       try simp only[Act.put,aG]
       try dsimp only
       go_wp2_with fail
       go_roundw
       case rel=>exact⟨k+1,by omega,by go_num,by rw[HST.out];simp[hd],HG.out.trans gw⟩
       case measure=>simp[intOf];omega
    ·have hd2:decide (dep<l)=false:=decide_eq_false hd
     clear kof V9
     go_wp2_with fail
     refine ay 10 [] [] hm (h:=?_)
     repeat (refine ax (fun K hK=>?_);go_simp;refine hK _ ?_;clear hK K)
     refine lU fun nq osq=>?_
     try simp only[Act.put,aG]
     try dsimp only
     go_wp2_with fail
     go_roundw
     case rel=>exact⟨k+1,by omega,by go_num,by rw[HST.out,hd2];simp,HG.out.trans gw⟩
     case measure=>simp[intOf];omega
   ·obtain rfl:k=fs.length:=by omega
    go_wp2_with fail
    go_ret2
    exact aC.mk' rfl (lN.out.trans HG.out)
end Go.Proofs.YtlkgjmnjhifehaaGreat
