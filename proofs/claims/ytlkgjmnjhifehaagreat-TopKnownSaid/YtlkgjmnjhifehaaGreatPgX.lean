
import Derived.Test.YtlkgjmnjhifehaaGreatPod
import Derived.Test.YtlkgjmnjhifehaaGreatFeA
set_option linter.unusedSimpArgs false
set_option linter.unusedVariables false
set_option maxHeartbeats 4000000
set_option maxRecDepth 100000
namespace Go.Proofs.YtlkgjmnjhifehaaGreat
open Go.RowKit Go.Sort
attribute [local go_sem] dC steadyUpon
attribute [local go_sem ↓] bQ bJ bg aZ aY aX aW
attribute [local go_sem] bH aN aK size_grow tape_grow cell?_grow' aF aC grow_grow bV bn dZ bZ bW bM aO cO bu bY bK
attribute [local irreducible] wpSteady
attribute [local go_sem] Oper.semAt_some
def bT (q a b:Pt):Bool :=
 if b.2<a.2 then decide (b.2<=q.2/\q.2<a.2)&&decide (0<tn b a q) else decide (a.2<=q.2/\q.2<b.2)&&decide (0<tn a b q)
def par (ps:List Pt)(q:Pt)(is:List Nat):Bool:=is.foldl (fun s i=>s ^^ bT q (ai ps i) (ai ps (i+1))) false
theorem yK (ps:List Pt)(q:Pt)(is:List Nat)(i:Nat):par ps q (is++[i])=(par ps q is ^^ bT q (ai ps i) (ai ps (i+1))):=by unfold par;rw[List.foldl_append];rfl
def gK (ps:List Pt)(q:Pt):Bool:=(List.range ps.length).any fun i=>eF q (ai ps i) (ai ps (i+1))
def placeOf (ps:List Pt)(q:Pt):Int:=if gK ps q=true then 0 else if par ps q (List.range ps.length)=true then 1 else -1
theorem Q5 (ps:List Pt)(A:Option Addr)(c:Nat)(q:Pt)(w:World)(hr:Rd w w.heap.size 2 A (ps.map dU))(hl:ps.length<=100)(hok:ps.all Pt.ok=true)(hq:q.ok=true) :
  Calls Tryz.prog 213 #[.slice A ps.length c,pt q.1 q.2] w (aB w (.int .i64 (placeOf ps q))):=by
 have hm:=aQ
 have HR:=hide hr
 have uV:=hide hok
 have HQ:=hide hq
 clear hr hok hq
 refine (callsIn_wide (n:=13)).1 ?_
 refine callsIn_of_wp_marks Tryz.func213 rfl trivial ?_ rfl
 simp only[Tryz.ntmps213,List.size_toArray,List.length_cons,List.length_nil,Nat.reduceAdd,Nat.reduceSub,Array.replicate_succ,Array.replicate_zero,List.push_toArray,List.append_toArray,List.nil_append,List.cons_append]
 gi_wp2_with fail
 refine⟨trivial,?_⟩
 refine (callsIn_wide.2 (jY _ _ _ _)).mono ?_
 rintro e w' ⟨rfl,rfl⟩
 dsimp only
 gi_wp2_with fail
 refine dJ ?_
 intro a0 W0 ha hW
 obtain⟨bx,hbx⟩:∃bx:List Obj,bx=[.cells #[.int .i64 q.1,.int .i64 q.2] 28 (0,0),.cells #[.int .i64 0] 3 (0,0)]:=⟨_,rfl⟩
 have hg0:Grew w W0:=by rw[<-hW];exact gw
 have hb0:Bx W0 w.heap.size bx:=by rw[<-hW,hbx];refine (Bx.lH _ w).1.grew ?_;simp only[List.foldl];exact (((Grew.refl _).alloc _).alloc _)
 have hb2:Boxed W0 (w.heap.size+2) 4 (.bool false):=by rw[<-hW];exact (heap_alloc_old _ _ (by simp)).trans (az _ _ _ (by simp))
 have hk0:W0.heap[w.heap.size+3]?=some (.cells #[.slice A ps.length c] 174 (0,0)):=by rw[<-hW];exact az _ _ _ (by simp)
 have hsz:w.heap.size+4<=W0.heap.size:=by rw[<-hW];simp
 have hbl:bx.length=2:=by rw[hbx];rfl
 clear hW
 refine wpIn_rangeFunc_ownH (n:=13) rfl (by omega) (gf:=153) (lb:=#[.pointer (some ⟨w.heap.size+3,0,none⟩)]) (by rw[<-ha];simp[Act.eval]) trivial (enters_of Tryz.func153 (by kernel_rfl) rfl)
  (gG 12 w.heap.size (fun b _=>b=w.heap.size+2) ps A c (w.heap.size+3) W0 (fun b _ hb=>by omega) hk0 (HR.out.grew hg0 (Nat.le_refl _)) (by omega) (by omega))
  (fun h k=>h.trans k) iC.bk (Below.refl _ _) (fun _=>rfl)
  (fun pre W=>((Below w.heap.size w W/\Bx W w.heap.size bx)/\Boxed W (w.heap.size+2) 4 (.bool (par ps q (pre.map Fin.val))))/\∀i∈pre,eF q (ai ps i.1) (ai ps (i.1+1))=false)
  (fun e pre W=>(Below w.heap.size w W/\Boxed W (w.heap.size+1) 3 (.int .i64 0))/\e=.ret/\gK ps q=true)
  (OwnFrom.and (OwnFrom.and (OwnFrom.and (ownFrom_below (Nat.le_refl _) hg0.below.size) (Bx.own (by omega))) (Own.from (boxed_own _ _ _) _)) (ownFrom_pure _))
  (fun q=>OwnFrom.and (OwnFrom.and (ownFrom_below (Nat.le_refl _) hg0.below.size) (Own.from (boxed_own _ _ _) _)) (ownFrom_pure _))
  ⟨⟨⟨hg0.below,hb0⟩,hb2⟩,fun i hi=>by cases hi⟩
  (fun x a' W=>∃B,W.heap[B]?=some (.cells #[.int .i64 (ai ps x.1).1,.int .i64 (ai ps x.1).2,.int .i64 (ai ps (x.1+1)).1,.int .i64 (ai ps (x.1+1)).2] 206 (0,0))/\a'={ tmps:=((a0.tmps.setIfInBounds 12 (.int .i64 (x.1:Nat))).setIfInBounds 13 (.agg #[.int .i64 (ai ps x.1).1,.int .i64 (ai ps x.1).2,.int .i64 (ai ps (x.1+1)).1,.int .i64 (ai ps (x.1+1)).2])).setIfInBounds 7 (.pointer (some ⟨B,0,none⟩)),defers:=[] })
  (fun x a'=>by
   rintro s X Y row ⟨B,h1,h2⟩ hg hr
   exact⟨B,fE h1 hg (fun r e=>(hr r e).2),h2⟩)
  ?assign ?body ?done ?stop
 case assign =>
  rintro l pre x W K ⟨⟨⟨hB,hb⟩,PY⟩,hp⟩ hK
  rw[show CJ ps x=#[.int .i64 (x.1:Nat),.agg #[.int .i64 (ai ps x.1).1,.int .i64 (ai ps x.1).2,.int .i64 (ai ps (x.1+1)).1,.int .i64 (ai ps (x.1+1)).2]] from rfl,FN]
  subst ha
  simp only[List.setIfInBounds_toArray,List.set_cons_succ,List.set_cons_zero] at hK ⊢
  have vT:=hide hK
  have hbl:=ax PY
  clear hK
  gi_wp2_with fail
  have hgg:Grew W (W.alloc (.cells #[.int .i64 (ai ps x.1).1,.int .i64 (ai ps x.1).2,.int .i64 (ai ps (x.1+1)).1,.int .i64 (ai ps (x.1+1)).2] 206)):=gw
  exact vT.out _ _ (hgg.aV _) (iC.grew hgg) ⟨⟨⟨hB.trans (hgg.below.mono hB.size),hb.grew hgg⟩,(hgg.below.block _ hbl).trans PY⟩,hp⟩ ⟨W.heap.size,heap_alloc_new _ _,rfl⟩
 case body =>
  rintro l pre x a' W hl2 hlp ⟨⟨⟨hB,hb⟩,PY⟩,hp⟩ ⟨B,hx,rfl⟩ hlt
  subst ha
  subst hbx
  obtain⟨i,hil⟩:=x
  dsimp only at hx
  simp only[List.setIfInBounds_toArray,List.set_cons_succ,List.set_cons_zero]
  have NY:=yK ps q (pre.map Fin.val) i
  obtain⟨pr,hpr⟩:∃p,par ps q (pre.map Fin.val)=p:=⟨_,rfl⟩
  rw[hpr] at NY PY
  have hon:=(fun (h:eF q (ai ps i) (ai ps (i+1))=true)=>(show gK ps q=true from List.any_eq_true.2 ⟨i,List.mem_range.2 hil,h⟩))
  have oa:=eu uV.out i
  have ob:=eu uV.out (i+1)
  obtain⟨o,ho⟩:∃o,eF q (ai ps i) (ai ps (i+1))=o:=⟨_,rfl⟩
  have hnext:∀i'∈pre++[(⟨i,hil⟩:Fin ps.length)],o=false->eF q (ai ps i'.1) (ai ps (i'.1+1))=false:=fun i' hi' hof=>by
   rcases List.mem_append.1 hi' with h|h
   ·exact hp i' h
   ·obtain rfl:=List.mem_singleton.1 h
    rw[<-hof];exact ho
  rw[ho] at hon
  have kF:=hide hnext
  have HON:=hide hon
  have ko:=hide (fun W'=>aby q (ai ps i) (ai ps (i+1)) o W' HQ.out oa ob ho)
  have k1:=hide (fun (t:Int) (h:tn (ai ps i) (ai ps (i+1)) q=t) W'=>nJ (ai ps i) (ai ps (i+1)) q t W' oa ob HQ.out h)
  have k2:=hide (fun (t:Int) (h:tn (ai ps (i+1)) (ai ps i) q=t) W'=>nJ (ai ps (i+1)) (ai ps i) q t W' ob oa HQ.out h)
  obtain⟨cb,hcb⟩:∃o,bT q (ai ps i) (ai ps (i+1))=o:=⟨_,rfl⟩
  rw[hcb] at NY
  have QA:=hide hcb
  have xq:=hide NY
  clear hnext hon ho hpr NY hcb hp hlt
  unfold bT at QA
  generalize ai ps i=a at *
  generalize ai ps (i+1)=b at *
  obtain⟨a1,a2⟩:=a
  obtain⟨b1,b2⟩:=b
  obtain⟨x1,x2⟩:=q
  dsimp only at hx QA hb ⊢
  have c0:W.cell? ⟨w.heap.size,0,none⟩=some (.int .i64 x1):=ag (hb 0 _ rfl) 0
  have c1:W.cell? ⟨w.heap.size,1,none⟩=some (.int .i64 x2):=ag (hb 0 _ rfl) 1
  have c2:W.cell? ⟨w.heap.size+2,0,none⟩=_:=PY.cell
  have f2:W.frozen? ⟨w.heap.size+2,0,none⟩=_:=PY.frozen
  have c3:W.cell? ⟨w.heap.size+1,0,none⟩=_:=(hb.box 1 rfl).cell
  have f3:W.frozen? ⟨w.heap.size+1,0,none⟩=_:=(hb.box 1 rfl).frozen
  have d0:W.cell? ⟨B,0,none⟩=some _:=ag hx 0
  have d1:W.cell? ⟨B,1,none⟩=some _:=ag hx 1
  have d2:W.cell? ⟨B,2,none⟩=some _:=ag hx 2
  have d3:W.cell? ⟨B,3,none⟩=some _:=ag hx 3
  have l2:=PY.lt
  have l1:w.heap.size+1<W.heap.size:=by omega
  have l0:w.heap.size<W.heap.size:=by omega
  have lB:=ax hx
  have HB:=hide hB
  have Hb:=hide hb
  have Z7:=hide PY
  clear hB hb PY hx
  gi_wp2_with fail
  refine dm 8 [⟨4,6,8,28,.agg #[.int .i64 0,.int .i64 0]⟩,⟨5,7,9,28,.agg #[.int .i64 0,.int .i64 0]⟩] [] hm (hZ:=(qE.cons Tryz.zeroValue28 Tryz.sizeOf28 (qE.cons Tryz.zeroValue28 Tryz.sizeOf28 qE.nil))) (h:=?_)
  repeat (refine au (fun K hK=>?_);go_simp;refine hK _ ?_;clear hK K)
  refine dW ?_
  refine⟨(jf.cons (by rfl) (by simp[bU,Act.eval,Value.cells,Value.oneCell']) (jf.cons (by rfl) (by simp[bU,Act.eval,Value.cells,Value.oneCell']) jf.nil)),nR.nil,?_⟩
  rintro psq FB Wq iP FT FW
  obtain rfl:FB=[]:=FW
  obtain⟨p0,_,rfl,hp0,hb0,hn0,p1,_,rfl,hp1,hb1,hn1,rfl⟩:=FT
  simp only[putAll,putB,Act.put,aG]
  simp[bU,Act.eval,Value.cells] at hb0
  have xE:Wq.cell? ⟨p0,0,none⟩=some _:=ag hb0 0
  have xC:Wq.cell? ⟨p0,1,none⟩=some _:=ag hb0 1
  have X3:=bD hb0
  have X0:=ax hb0
  simp[bU,Act.eval,Value.cells] at hb1
  have Eo:Wq.cell? ⟨p1,0,none⟩=some _:=ag hb1 0
  have En:Wq.cell? ⟨p1,1,none⟩=some _:=ag hb1 1
  have gf1:=bD hb1
  have gl1:=ax hb1
  have gn:p0≠p1:=by simpa using hn0
  have gm:p1≠p0:=fun e=>gn e.symm
  have WA:=hide hp0
  have gp1:=hide hp1
  clear hb0 hn0 hp0 hb1 hn1 hp1
  have oc:=iR iP
  have of:=jw iP
  have ol:=rE iP
  replace iP:=hide iP
  have e0:Wq.cell? ⟨w.heap.size,0,none⟩=_:=(oc _ 0 l0).trans c0
  have e1:Wq.cell? ⟨w.heap.size,1,none⟩=_:=(oc _ 1 l0).trans c1
  have e2:Wq.cell? ⟨w.heap.size+2,0,none⟩=_:=(oc _ 0 l2).trans c2
  have e3:Wq.cell? ⟨w.heap.size+1,0,none⟩=_:=(oc _ 0 l1).trans c3
  have e4:Wq.frozen? ⟨w.heap.size+2,0,none⟩=_:=(of _ 0 l2).trans f2
  have e5:Wq.frozen? ⟨w.heap.size+1,0,none⟩=_:=(of _ 0 l1).trans f3
  have hgs:=iP.out.below.size
  have m0:w.heap.size<Wq.heap.size:=by omega
  have m1:w.heap.size+1<Wq.heap.size:=by omega
  have m2:w.heap.size+2<Wq.heap.size:=by omega
  have gq0:=WA.out
  have gq1:=gp1.out
  have GBQ:W.grownBy Wq (some (w.heap.size+2)):=wW (jo _ _) iP.out
  have BQ:Boxed Wq (w.heap.size+2) 4 (.bool pr):=(iP.out.below.block _ l2).trans Z7.out
  have BR:Boxed Wq (w.heap.size+1) 3 (.int .i64 0):=(Hb.out.grew iP.out).box 1 rfl
  have hn0:Hid (w.heap.size+2≠p0):=hide (by omega)
  have hn1:Hid (w.heap.size+2≠p1):=hide (by omega)
  have hgb:=hide GBQ
  have hbq:=hide BQ
  have hbr:=hide BR
  clear GBQ BQ BR c0 c1 c2 c3 f2 f3 d0 d1 d2 d3 oc of ol
  gi_wp2_with fail
  refine⟨trivial,?_⟩
  refine (CallsIn.inRound l (callsIn_wide.2 (ko.out _))).mono ?_
  rintro e w' ⟨rfl,⟨n5,Fh⟩,rfl⟩
  dsimp only
  cases o
  ·have Ci:=hide (fun i' hi'=>kF.out i' hi' rfl)
   clear kF HON
   by_cases hs:b2<a2
   ·rw[if_pos hs] at QA
    by_cases r1:b2<=x2
    ·by_cases r2:x2<a2
     ·obtain⟨t,ht⟩:∃t,tn (b1,b2) (a1,a2) (x1,x2)=t:=⟨_,rfl⟩
      have kt:=hide (k2.out t ht)
      rw[ht] at QA
      clear ht
      by_cases r3:0<t
      ·obtain rfl:cb=true:=by rw[<-QA.out];simp[r1,r2,r3]
       rw[Bool.xor_true] at xq
       gi_wp2_with fail
       refine⟨trivial,?_⟩
       refine (CallsIn.inRound l (callsIn_wide.2 (kt.out _))).mono ?_
       rintro e w' ⟨rfl,⟨n6,os6⟩,rfl⟩
       dsimp only
       gi_wp2_with fail
       refine⟨jW (b:=w.heap.size+2) sK ⟨_,Z7.out,rfl⟩,vU (b:=w.heap.size+2) sK (fun _=>rfl),⟨⟨gq (b:=w.heap.size+2) sK HB.out (by omega),BN (b:=w.heap.size+2) sK Hb.out (.inr (by simp))⟩,?_⟩,Ci.out⟩
       rw[List.map_append,show [(⟨i,hil⟩:Fin ps.length)].map Fin.val=[i] from rfl,xq.out]
       exact (by repeat (with_reducible first|assumption|exact Hid.out (by assumption)|refine dY ?_ _ _|refine Boxed.set (v:=.bool pr) _ ?_|refine lX ?_ (Hid.out (by assumption))|(refine dM ?_ (Hid.out (by assumption)))))
      ·obtain rfl:cb=false:=by rw[<-QA.out];simp[r1,r2,r3]
       rw[Bool.xor_false] at xq
       gi_wp2_with fail
       refine⟨trivial,?_⟩
       refine (CallsIn.inRound l (callsIn_wide.2 (kt.out _))).mono ?_
       rintro e w' ⟨rfl,⟨n6,os6⟩,rfl⟩
       dsimp only
       gi_wp2_with fail
       refine⟨jW (b:=w.heap.size+2) sK ⟨_,Z7.out,rfl⟩,vU (b:=w.heap.size+2) sK (fun _=>rfl),⟨⟨gq (b:=w.heap.size+2) sK HB.out (by omega),BN (b:=w.heap.size+2) sK Hb.out (.inr (by simp))⟩,?_⟩,Ci.out⟩
       rw[List.map_append,show [(⟨i,hil⟩:Fin ps.length)].map Fin.val=[i] from rfl,xq.out]
       exact (by repeat (with_reducible first|assumption|exact Hid.out (by assumption)|refine dY ?_ _ _|refine Boxed.set (v:=.bool pr) _ ?_|refine lX ?_ (Hid.out (by assumption))|(refine dM ?_ (Hid.out (by assumption)))))
     ·obtain rfl:cb=false:=by rw[<-QA.out];simp[r1,r2]
      rw[Bool.xor_false] at xq
      gi_wp2_with fail
      refine⟨trivial,?_⟩
      gi_wp2_with fail
      refine⟨jW (b:=w.heap.size+2) sK ⟨_,Z7.out,rfl⟩,vU (b:=w.heap.size+2) sK (fun _=>rfl),⟨⟨gq (b:=w.heap.size+2) sK HB.out (by omega),BN (b:=w.heap.size+2) sK Hb.out (.inr (by simp))⟩,?_⟩,Ci.out⟩
      rw[List.map_append,show [(⟨i,hil⟩:Fin ps.length)].map Fin.val=[i] from rfl,xq.out]
      exact (by repeat (with_reducible first|assumption|exact Hid.out (by assumption)|refine dY ?_ _ _|refine Boxed.set (v:=.bool pr) _ ?_|refine lX ?_ (Hid.out (by assumption))|(refine dM ?_ (Hid.out (by assumption)))))
    ·obtain rfl:cb=false:=by rw[<-QA.out];simp[r1]
     rw[Bool.xor_false] at xq
     gi_wp2_with fail
     refine⟨trivial,?_⟩
     gi_wp2_with fail
     refine⟨jW (b:=w.heap.size+2) sK ⟨_,Z7.out,rfl⟩,vU (b:=w.heap.size+2) sK (fun _=>rfl),⟨⟨gq (b:=w.heap.size+2) sK HB.out (by omega),BN (b:=w.heap.size+2) sK Hb.out (.inr (by simp))⟩,?_⟩,Ci.out⟩
     rw[List.map_append,show [(⟨i,hil⟩:Fin ps.length)].map Fin.val=[i] from rfl,xq.out]
     exact (by repeat (with_reducible first|assumption|exact Hid.out (by assumption)|refine dY ?_ _ _|refine Boxed.set (v:=.bool pr) _ ?_|refine lX ?_ (Hid.out (by assumption))|(refine dM ?_ (Hid.out (by assumption)))))
   ·rw[if_neg hs] at QA
    by_cases r1:a2<=x2
    ·by_cases r2:x2<b2
     ·obtain⟨t,ht⟩:∃t,tn (a1,a2) (b1,b2) (x1,x2)=t:=⟨_,rfl⟩
      have kt:=hide (k1.out t ht)
      rw[ht] at QA
      clear ht
      by_cases r3:0<t
      ·obtain rfl:cb=true:=by rw[<-QA.out];simp[r1,r2,r3]
       rw[Bool.xor_true] at xq
       gi_wp2_with fail
       refine⟨trivial,?_⟩
       refine (CallsIn.inRound l (callsIn_wide.2 (kt.out _))).mono ?_
       rintro e w' ⟨rfl,⟨n6,os6⟩,rfl⟩
       dsimp only
       gi_wp2_with fail
       refine⟨jW (b:=w.heap.size+2) sK ⟨_,Z7.out,rfl⟩,vU (b:=w.heap.size+2) sK (fun _=>rfl),⟨⟨gq (b:=w.heap.size+2) sK HB.out (by omega),BN (b:=w.heap.size+2) sK Hb.out (.inr (by simp))⟩,?_⟩,Ci.out⟩
       rw[List.map_append,show [(⟨i,hil⟩:Fin ps.length)].map Fin.val=[i] from rfl,xq.out]
       exact (by repeat (with_reducible first|assumption|exact Hid.out (by assumption)|refine dY ?_ _ _|refine Boxed.set (v:=.bool pr) _ ?_|refine lX ?_ (Hid.out (by assumption))|(refine dM ?_ (Hid.out (by assumption)))))
      ·obtain rfl:cb=false:=by rw[<-QA.out];simp[r1,r2,r3]
       rw[Bool.xor_false] at xq
       gi_wp2_with fail
       refine⟨trivial,?_⟩
       refine (CallsIn.inRound l (callsIn_wide.2 (kt.out _))).mono ?_
       rintro e w' ⟨rfl,⟨n6,os6⟩,rfl⟩
       dsimp only
       gi_wp2_with fail
       refine⟨jW (b:=w.heap.size+2) sK ⟨_,Z7.out,rfl⟩,vU (b:=w.heap.size+2) sK (fun _=>rfl),⟨⟨gq (b:=w.heap.size+2) sK HB.out (by omega),BN (b:=w.heap.size+2) sK Hb.out (.inr (by simp))⟩,?_⟩,Ci.out⟩
       rw[List.map_append,show [(⟨i,hil⟩:Fin ps.length)].map Fin.val=[i] from rfl,xq.out]
       exact (by repeat (with_reducible first|assumption|exact Hid.out (by assumption)|refine dY ?_ _ _|refine Boxed.set (v:=.bool pr) _ ?_|refine lX ?_ (Hid.out (by assumption))|(refine dM ?_ (Hid.out (by assumption)))))
     ·obtain rfl:cb=false:=by rw[<-QA.out];simp[r1,r2]
      rw[Bool.xor_false] at xq
      gi_wp2_with fail
      refine⟨trivial,?_⟩
      gi_wp2_with fail
      refine⟨jW (b:=w.heap.size+2) sK ⟨_,Z7.out,rfl⟩,vU (b:=w.heap.size+2) sK (fun _=>rfl),⟨⟨gq (b:=w.heap.size+2) sK HB.out (by omega),BN (b:=w.heap.size+2) sK Hb.out (.inr (by simp))⟩,?_⟩,Ci.out⟩
      rw[List.map_append,show [(⟨i,hil⟩:Fin ps.length)].map Fin.val=[i] from rfl,xq.out]
      exact (by repeat (with_reducible first|assumption|exact Hid.out (by assumption)|refine dY ?_ _ _|refine Boxed.set (v:=.bool pr) _ ?_|refine lX ?_ (Hid.out (by assumption))|(refine dM ?_ (Hid.out (by assumption)))))
    ·obtain rfl:cb=false:=by rw[<-QA.out];simp[r1]
     rw[Bool.xor_false] at xq
     gi_wp2_with fail
     refine⟨trivial,?_⟩
     gi_wp2_with fail
     refine⟨jW (b:=w.heap.size+2) sK ⟨_,Z7.out,rfl⟩,vU (b:=w.heap.size+2) sK (fun _=>rfl),⟨⟨gq (b:=w.heap.size+2) sK HB.out (by omega),BN (b:=w.heap.size+2) sK Hb.out (.inr (by simp))⟩,?_⟩,Ci.out⟩
     rw[List.map_append,show [(⟨i,hil⟩:Fin ps.length)].map Fin.val=[i] from rfl,xq.out]
     exact (by repeat (with_reducible first|assumption|exact Hid.out (by assumption)|refine dY ?_ _ _|refine Boxed.set (v:=.bool pr) _ ?_|refine lX ?_ (Hid.out (by assumption))|(refine dM ?_ (Hid.out (by assumption)))))
  ·have agX:=hide (HON.out rfl)
   clear HON kF
   gi_wp2_with fail
   have aeh:Grew (Wq.setCell ⟨w.heap.size+1,0,none⟩ (.int .i64 0)) (grow (dr (Wq.setCell ⟨w.heap.size+1,0,none⟩ (.int .i64 0)) n5) Fh):=gw
   have hbs:=(HB.out.trans (iP.out.below.mono HB.out.size)).setCell (p:=⟨w.heap.size+1,0,none⟩) (by simp) (.int .i64 0)
   exact⟨((iP.out.aV _).trans (KeepsFrom.setCell _ _ _ _)).trans (aeh.aV _),⟨hbs.trans (aeh.below.mono hbs.size),dY (hbr.out.set _) _ _⟩,rfl,agX.out⟩
 case done =>
  subst ha
  subst hbx
  rintro D xs W hD hS ⟨⟨⟨hB,hb⟩,PY⟩,hp⟩ hK
  have b1:Boxed W (w.heap.size+1) _ _:=hb.box 1 rfl
  have c1:=b1.cell
  have f1:=b1.frozen
  have hpl:placeOf ps q=if par ps q (List.range ps.length)=true then 1 else -1:=by
   unfold placeOf
   rw[if_neg]
   unfold gK
   rw[Bool.not_eq_true,List.any_eq_false]
   intro i hi
   rw[<-hS] at hi
   obtain⟨j,hj,rfl⟩:=List.mem_map.1 hi
   rw[hp j hj]
   simp
  rw[hS] at PY
  obtain⟨pr,hpr⟩:∃p,par ps q (List.range ps.length)=p:=⟨_,rfl⟩
  rw[hpr] at PY hpl
  have c2:W.cell? ⟨w.heap.size+2,0,none⟩=_:=PY.cell
  have HB:=hide hB
  have OM:=hide hpl
  clear hB hb hS hp b1 hpr hpl PY
  cases pr
  ·gi_wp2_with fail
   have hK2:=(KeepsOthers.setCell W ⟨w.heap.size+1,0,none⟩ (.int .i64 (-1))).same D _ hK rfl
   refine⟨by simp,.inl ⟨_,_,rfl,run_takeDeferred hK2,?_⟩⟩
   have hb5:=(HB.out.setCell (p:=⟨w.heap.size+1,0,none⟩) (by simp) (.int .i64 (-1))).trans (belowK_b (w:=w) (Nat.le_refl _) _ D _ (.deferred none) (by omega) hK2 rfl rfl)
   have e3:((W.setCell ⟨w.heap.size+1,0,none⟩ (.int .i64 (-1))).putObj D (.deferred none)).cell? ⟨w.heap.size+1,0,none⟩=some (.int .i64 (-1)):=by
    rw[aU (by omega)]
    go_simp
   refine⟨.int .i64 (-1),by simp[results,Tryz.results213,go_sem,e3],?_⟩
   exact aB.mk' (lU OM.out.symm) (Grew.of_below hb5)
  ·gi_wp2_with fail
   have hK2:=(KeepsOthers.setCell W ⟨w.heap.size+1,0,none⟩ (.int .i64 1)).same D _ hK rfl
   refine⟨by simp,.inl ⟨_,_,rfl,run_takeDeferred hK2,?_⟩⟩
   have hb5:=(HB.out.setCell (p:=⟨w.heap.size+1,0,none⟩) (by simp) (.int .i64 1)).trans (belowK_b (w:=w) (Nat.le_refl _) _ D _ (.deferred none) (by omega) hK2 rfl rfl)
   have e3:((W.setCell ⟨w.heap.size+1,0,none⟩ (.int .i64 1)).putObj D (.deferred none)).cell? ⟨w.heap.size+1,0,none⟩=some (.int .i64 1):=by
    rw[aU (by omega)]
    go_simp
   refine⟨.int .i64 1,by simp[results,Tryz.results213,go_sem,e3],?_⟩
   exact aB.mk' (lU OM.out.symm) (Grew.of_below hb5)
 case stop =>
  subst ha
  rintro D e pre W hD hr ⟨⟨hB,hb1⟩,rfl,hp⟩ hK
  have c3:W.cell? ⟨w.heap.size+1,0,none⟩=_:=hb1.cell
  have HB:=hide hB
  have HP:=hide hp
  clear hB hb1 hr hp
  gi_wp2_with fail
  refine⟨by simp,.inl ⟨_,_,rfl,run_takeDeferred hK,?_⟩⟩
  have hb5:=HB.out.trans (belowK_b (w:=w) (Nat.le_refl _) _ D _ (.deferred none) (by omega) hK rfl rfl)
  have e3:=(aU (W:=W) (D:=D) (i:=0) (o:=.deferred none) (b:=w.heap.size+1) (by omega)).trans c3
  refine⟨.int .i64 0,by simp[results,Tryz.results213,go_sem,e3],?_⟩
  exact aB.mk' (lU (by unfold placeOf;rw[if_pos HP.out])) (Grew.of_below hb5)
end Go.Proofs.YtlkgjmnjhifehaaGreat
namespace Go.Proofs.YtlkgjmnjhifehaaGreat
open Go.RowKit Go.Sort
attribute [local go_sem] dC steadyUpon
attribute [local go_sem ↓] bQ bJ bg aZ aY aX aW
attribute [local go_sem] bH aN aK size_grow tape_grow cell?_grow' aF aC grow_grow bV bn dZ bZ bW bM aO cO bu bY bK
attribute [local irreducible] wpSteady
theorem qL (ps:List Pt)(A:Option Addr)(c:Nat)(q:Pt)(r:Int)(w:World)(hr:Rd w w.heap.size 2 A (ps.map dU))(hl:ps.length<=100)(hok:ps.all Pt.ok=true)(hq:q.ok=true)(h:placeOf ps q=r) :
  Calls Tryz.prog 213 #[.slice A ps.length c,pt q.1 q.2] w (aB w (.int .i64 r)):=by
 have:=Q5 ps A c q w hr hl hok hq
 rwa [h] at this
def KP (ps:List Pt)(q:Pt):Int×Int:=if (q.ok&&di ps)=true then (placeOf ps q,0) else (0,1)
theorem acC (ps:List Pt)(A:Option Addr)(c:Nat)(q:Pt)(w:World)(hr:Rd w w.heap.size 2 A (ps.map dU))(hc:ps.length<=100000000000000) :
  Calls Tryz.prog 209 #[pt q.1 q.2,.slice A ps.length c] w (aB w (.tuple #[.int .i64 (KP ps q).1,.int .i64 (KP ps q).2])):=by
 have hm:=aQ
 unfold KP
 obtain⟨u,hu⟩:∃u,q.ok=u:=⟨_,rfl⟩
 obtain⟨v,hv⟩:∃u,di ps=u:=⟨_,rfl⟩
 obtain⟨r,hr'⟩:∃u,placeOf ps q=u:=⟨_,rfl⟩
 have k1:=hide (fun W=>dP q.1 q.2 u W hu)
 have k2:=hide (fun W (hg:Grew w W)=>jJ ps A c v W (hr.up hg) hc hv)
 rw[hu,hv,hr']
 cases u
 ·clear hu hv hr'
  obtain⟨x1,x2⟩:=q
  go_enter Tryz.func209,Tryz.ntmps209
  go_wp2_with (first|(go_at_call 49;with_reducible refine aT (k1.out _) fun _ _=>?_;dsimp only)|(go_at_call 88;with_reducible refine aT (k2.out _ gw) fun _ _=>?_;dsimp only))
  go_ret2
  exact aB.mk' rfl gw
 ·cases v
  ·clear hu hv hr'
   obtain⟨x1,x2⟩:=q
   go_enter Tryz.func209,Tryz.ntmps209
   go_wp2_with (first|(go_at_call 49;with_reducible refine aT (k1.out _) fun _ _=>?_;dsimp only)|(go_at_call 88;with_reducible refine aT (k2.out _ gw) fun _ _=>?_;dsimp only))
   go_ret2
   exact aB.mk' rfl gw
  ·have hp:=jV hv
   have k3:=hide (fun W (hg:Grew w W)=>qL ps A c q r W (hr.up hg) (by omega) hp.2 hu hr')
   clear hu hv hr' hp
   obtain⟨x1,x2⟩:=q
   go_enter Tryz.func209,Tryz.ntmps209
   go_wp2_with (first|(go_at_call 49;with_reducible refine aT (k1.out _) fun _ _=>?_;dsimp only)|(go_at_call 88;with_reducible refine aT (k2.out _ gw) fun _ _=>?_;dsimp only)|(go_at_call 213;with_reducible refine aT (k3.out _ gw) fun _ _=>?_;dsimp only))
   go_ret2
   exact aB.mk' rfl gw
theorem agF (ps:List Pt)(A:Option Addr)(c:Nat)(q:Pt)(r:Int×Int)(w:World)(hr:Rd w w.heap.size 2 A (ps.map dU))(hc:ps.length<=100000000000000)(h:KP ps q=r) :
  Calls Tryz.prog 209 #[pt q.1 q.2,.slice A ps.length c] w (aB w (.tuple #[.int .i64 r.1,.int .i64 r.2])):=by
 have:=acC ps A c q w hr hc
 rwa [h] at this
attribute [local go_sem] Oper.semAt_some
def ja (ps:List Pt)(i:Nat)(to:Pt):Bool :=
 if 0<tn (ai ps (i+ps.length-1)) (ai ps i) (ai ps (i+1)) then decide (0<=tn (ai ps i) (ai ps (i+1)) to)&&decide (0<=tn (ai ps i) to (ai ps (i+ps.length-1)))
 else decide (tn (ai ps i) (ai ps (i+ps.length-1)) to<=0)||decide (tn (ai ps i) to (ai ps (i+1))<=0)
theorem Ij (ps:List Pt)(A:Option Addr)(c:Nat)(k:Nat)(to:Pt)(r:Bool)(w:World)(hr:Rd w w.heap.size 2 A (ps.map dU))(hl:ps.length<=100)(hok:ps.all Pt.ok=true)(hq:to.ok=true)(hlt:k<ps.length)(h:ja ps k to=r) :
  Calls Tryz.prog 218 #[.slice A ps.length c,.int .i64 k,pt to.1 to.2] w (aB w (.bool r)):=by
 have hm:=aQ
 have hpos:0<ps.length:=by omega
 obtain⟨b,off,hA,hb,h0,h1⟩:=rD hr (fB hlt)
 have hix:=aJ (cap:=c) Tryz.underlying174 Tryz.sizeOf28 hA.out hlt
 have hq1:=zB (k+ps.length-1) hpos
 have hq2:=zB (k+1) hpos
 have o1:=eu hok (k+ps.length-1)
 have o2:=eu hok k
 have o3:=eu hok (k+1)
 have kc1:=hide (fun W' (hg:Grew w W')=>wo ps A c ((k:Int)-1) ((k+ps.length-1)%ps.length) _ W' (hr.up hg) (by omega) (by omega) (by rw[Int.natCast_emod,show ((k+ps.length-1:Nat):Int)=(k:Int)-1+(ps.length:Int) by omega]) hq1)
 have kc2:=hide (fun W' (hg:Grew w W')=>wo ps A c ((k:Int)+1) ((k+1)%ps.length) _ W' (hr.up hg) (by omega) (by omega) (by rw[Int.natCast_emod,Int.add_emod_right];rfl) hq2)
 unfold ja at h
 obtain⟨t0,e0⟩:∃t,tn (ai ps (k+ps.length-1)) (ai ps k) (ai ps (k+1))=t:=⟨_,rfl⟩
 obtain⟨t1,e1⟩:∃t,tn (ai ps k) (ai ps (k+1)) to=t:=⟨_,rfl⟩
 obtain⟨t2,e2⟩:∃t,tn (ai ps k) to (ai ps (k+ps.length-1))=t:=⟨_,rfl⟩
 obtain⟨t3,e3⟩:∃t,tn (ai ps k) (ai ps (k+ps.length-1)) to=t:=⟨_,rfl⟩
 obtain⟨t4,e4⟩:∃t,tn (ai ps k) to (ai ps (k+1))=t:=⟨_,rfl⟩
 rw[e0,e1,e2,e3,e4] at h
 have k0:=hide (fun W'=>nJ _ _ _ t0 W' o1 o2 o3 e0)
 have k1:=hide (fun W'=>nJ _ _ _ t1 W' o2 o3 hq e1)
 have k2:=hide (fun W'=>nJ _ _ _ t2 W' o2 hq o1 e2)
 have k3:=hide (fun W'=>nJ _ _ _ t3 W' o2 o1 hq e3)
 have k4:=hide (fun W'=>nJ _ _ _ t4 W' o2 hq o3 e4)
 clear e0 e1 e2 e3 e4 hA hq1 hq2 o1 o2 o3
 generalize ai ps (k+ps.length-1)=qa at *
 generalize ai ps k=qb at *
 generalize ai ps (k+1)=qc at *
 obtain⟨a1,a2⟩:=qa
 obtain⟨b1,b2⟩:=qb
 obtain⟨c1,c2⟩:=qc
 obtain⟨x1,x2⟩:=to
 dsimp only at h0 h1
 have ew1:IntKind.i64.wrap ((k:Int)-1)=(k:Int)-1:=by unfold IntKind.wrap;simp[IntKind.bits,IntKind.signed];omega
 have ew2:IntKind.i64.wrap ((k:Int)+1)=(k:Int)+1:=by unfold IntKind.wrap;simp[IntKind.bits,IntKind.signed];omega
 have hcase:(decide (0<t0)=true/\decide (0<=t1)=true/\r=decide (0<=t2))\/(decide (0<t0)=true/\decide (0<=t1)=false/\r=false)\/(decide (0<t0)=false/\decide (t3<=0)=true/\r=true)\/(decide (0<t0)=false/\decide (t3<=0)=false/\r=decide (t4<=0)):=by
  by_cases g0:0<t0
  ·rw[if_pos g0] at h
   by_cases g1:0<=t1<;>simp[g0,g1] at h ⊢ <;> first|exact h.symm|exact h
  ·rw[if_neg g0] at h
   by_cases g1:t3<=0<;>simp[g0,g1] at h ⊢ <;> first|exact h.symm|exact h
 clear h hq
 rcases hcase with⟨g0,g1,g2⟩|⟨g0,g1,g2⟩|⟨g0,g1,g2⟩|⟨g0,g1,g2⟩
 all_goals
  subst g2
  go_enter Tryz.func218,Tryz.ntmps218
  go_wp2_with fail
  refine ay 18 [⟨12,15,7,28,.agg #[.int .i64 0,.int .i64 0]⟩,⟨13,16,8,28,.agg #[.int .i64 0,.int .i64 0]⟩,⟨14,17,9,28,.agg #[.int .i64 0,.int .i64 0]⟩] [] hm (hZ:=(qE.cons Tryz.zeroValue28 Tryz.sizeOf28 (qE.cons Tryz.zeroValue28 Tryz.sizeOf28 (qE.cons Tryz.zeroValue28 Tryz.sizeOf28 qE.nil)))) (h:=?_)
  repeat (refine au (fun K hK=>?_);go_simp;first|(refine hK _ ?_;clear hK K)|(apply Exists.intro;refine⟨fun _=>?_,hK _ ?_⟩;(go_at_call 110;first|with_reducible exact kc1.out _ gw|with_reducible exact kc2.out _ gw);clear hK K))
  refine dW ?_
  refine⟨(jf.cons (by rfl) (by simp[bU,Act.eval,Value.cells,Value.oneCell']) (jf.cons (by rfl) (by simp[bU,Act.eval,Value.cells,Value.oneCell']) (jf.cons (by rfl) (by simp[bU,Act.eval,Value.cells,Value.oneCell']) jf.nil))),nR.nil,?_⟩
  rintro psq FB Wq iP FT FW
  obtain rfl:FB=[]:=FW
  obtain⟨p0,_,rfl,hp0,hb0,hn0,p1,_,rfl,hp1,hb1,hn1,p2,_,rfl,hp2,hb2,hn2,rfl⟩:=FT
  simp only[putAll,putB,Act.put,aG]
  simp[bU,Act.eval,Value.cells] at hb0
  have xE:Wq.cell? ⟨p0,0,none⟩=some _:=ag hb0 0
  have xC:Wq.cell? ⟨p0,1,none⟩=some _:=ag hb0 1
  have X3:=bD hb0
  have X0:=ax hb0
  simp[bU,Act.eval,Value.cells] at hb1
  have Eo:Wq.cell? ⟨p1,0,none⟩=some _:=ag hb1 0
  have En:Wq.cell? ⟨p1,1,none⟩=some _:=ag hb1 1
  have gf1:=bD hb1
  have gl1:=ax hb1
  simp[bU,Act.eval,Value.cells] at hb2
  have ahU:Wq.cell? ⟨p2,0,none⟩=some _:=ag hb2 0
  have ahT:Wq.cell? ⟨p2,1,none⟩=some _:=ag hb2 1
  have gf2:=bD hb2
  have gl2:=ax hb2
  have WA:=hide hp0
  have gp1:=hide hp1
  have gp2:=hide hp2
  clear hb0 hn0 hp0 hb1 hn1 hp1 hb2 hn2 hp2
  have oc:=iR iP
  have of:=jw iP
  have ol:=rE iP
  replace iP:=hide iP
  have m0:Wq.cell? ⟨w.heap.size,0,none⟩=some (.int .i64 x1):=(oc _ _ (by simp)).trans (by go_simp)
  have m1:Wq.cell? ⟨w.heap.size,1,none⟩=some (.int .i64 x2):=(oc _ _ (by simp)).trans (by go_simp)
  have m2:w.heap.size<Wq.heap.size:=by rw[ol _ (by simp)];trivial
  clear oc of ol
  go_wp2_with (first|(go_at_call 109;with_reducible refine aT (k0.out _) fun _ _=>?_;dsimp only)|(go_at_call 109;with_reducible refine aT (k1.out _) fun _ _=>?_;dsimp only)|(go_at_call 109;with_reducible refine aT (k2.out _) fun _ _=>?_;dsimp only)|(go_at_call 109;with_reducible refine aT (k3.out _) fun _ _=>?_;dsimp only)|(go_at_call 109;with_reducible refine aT (k4.out _) fun _ _=>?_;dsimp only))
  go_ret
  exact aB.mk' (dS (by simp[*])) (Grew.trans gw (iP.out.trans gw))
def agI (ps:List Pt)(a:Pt)(r:Int):Prop:=(r=-1/\∀i,i<ps.length->ai ps i≠a)\/(∃k:Nat,k<ps.length/\r=k/\ai ps k=a/\∀j,j<k->ai ps j≠a)
def aeO (ps:List Pt)(a:Pt)(k:Nat):Prop:=∀j,j<k->ai ps j≠a
theorem TI (ps:List Pt)(A:Option Addr)(c:Nat)(a:Pt)(w:World)(hr:Rd w w.heap.size 2 A (ps.map dU))(hl:ps.length<=100) :
  Calls Tryz.prog 220 #[.slice A ps.length c,pt a.1 a.2] w fun e w'=>(∃r:Int,e=.returned (.int .i64 r)/\agI ps a r)/\Grew w w':=by
 have hm:=aQ
 obtain⟨x1,x2⟩:=a
 go_enter Tryz.func220,Tryz.ntmps220
 go_wp2_with fail
 go_loopw [8] (fun i wr=>∃k:Nat,k<=ps.length/\i=.int .i64 k/\Grew (w.alloc (.cells #[.int .i64 x1,.int .i64 x2] 28)) wr/\aeO ps (x1,x2) k) (fun i _=>ps.length-(intOf i).toNat)
 case atStart=>exact⟨0,by omega,rfl,Grew.refl _,fun j hj=>by omega⟩
 case round =>
  obtain⟨k,hk,rfl,⟨⟨n,os⟩,rfl⟩,hn⟩:=hrel
  have HN:=hide hn
  clear hn
  by_cases hlt:k<ps.length
  ·obtain⟨b,off,hA,hb,h0,h1⟩:=rD hr (fB hlt)
   have hix:=aJ (cap:=c) Tryz.underlying174 Tryz.sizeOf28 hA.out hlt
   obtain⟨⟨p1,p2⟩,hp⟩:∃p,ai ps k=p:=⟨_,rfl⟩
   rw[hp] at h0 h1
   have HP:=hide hp
   clear hp hA
   dsimp only at h0 h1
   have hcase:(p1=x1/\p2=x2)\/(x1≠p1)\/(x1=p1/\x2≠p2):=by omega
   rcases hcase with⟨rfl,rfl⟩|e1|⟨rfl,e1⟩
   ·go_wp2_with fail
    refine ay 6 [] [] hm (h:=?_)
    repeat (refine au (fun K hK=>?_);go_simp;refine hK _ ?_;clear hK K)
    refine kZ fun nq osq=>?_
    try simp only[Act.put,aG]
    try dsimp only
    go_wp2_with fail
    go_ret
    exact⟨⟨_,rfl,.inr ⟨k,hlt,rfl,HP.out,HN.out⟩⟩,gw⟩
   all_goals
    go_wp2_with fail
    refine ay 6 [] [] hm (h:=?_)
    repeat (refine au (fun K hK=>?_);go_simp;refine hK _ ?_;clear hK K)
    refine kZ fun nq osq=>?_
    try simp only[Act.put,aG]
    try dsimp only
    go_wp2_with fail
    go_roundw
    case rel =>
     refine⟨k+1,by omega,by go_num,gw,fun j hj=>?_⟩
     by_cases hjk:j=k
     ·subst hjk
      rw[HP.out]
      intro e
      injection e with e2 e3
      first|exact e1 e2.symm|exact e1 e3.symm
     ·exact HN.out j (by omega)
    case measure=>simp[intOf];omega
  ·obtain rfl:k=ps.length:=by omega
   go_wp2_with fail
   go_ret
   exact⟨⟨_,rfl,.inl ⟨rfl,HN.out⟩⟩,gw⟩
set_option maxHeartbeats 4000000
set_option maxRecDepth 100000
theorem uP {f:Nat->Bool}{n k:Nat}(hk:k<n)(h:f k=true)(hn:∀j,j<k->f j=false):(List.range n).find? f=some k:=by
 rw[List.find?_eq_some_iff_append]
 refine⟨h,List.range k,(List.range n).drop (k+1),?_,fun j hj=>by rw[hn j (List.mem_range.1 hj)];rfl⟩
 have e:(List.range n).take k=List.range k:=by rw[List.take_range,Nat.min_eq_left (by omega)]
 have e2:(List.range n).drop k=k::(List.range n).drop (k+1):=by rw[List.drop_eq_getElem_cons (by simpa using hk),List.getElem_range]
 rw[<-e2,<-e,List.take_append_drop]
theorem oN {f:Nat->Bool}{n:Nat}(hn:∀j,j<n->f j=false):(List.range n).find? f=none:=by
 rw[List.find?_eq_none]
 intro j hj
 rw[hn j (List.mem_range.1 hj)]
 simp
def jZ (ps:List Pt)(to:Pt)(i:Nat):Bool:=decide (0<=tn (ai ps i) (ai ps (i+1)) to)
def leadsOf (ps:List Pt)(a to:Pt):Bool :=
 match (List.range ps.length).find? (fun i=>decide (ai ps i=a)) with
 | some i=>ja ps i to
 | none=>match (List.range ps.length).find? (fun i=>eF a (ai ps i) (ai ps (i+1))) with
  | some i=>jZ ps to i
  | none=>true
theorem vJ {ps:List Pt}{a to:Pt}{k:Nat}(hk:k<ps.length)(h:ai ps k=a)(hn:∀j,j<k->ai ps j≠a):leadsOf ps a to=ja ps k to:=by
 unfold leadsOf
 rw[uP hk (by simpa using h) (fun j hj=>by simpa using hn j hj)]
theorem yY {ps:List Pt}{a to:Pt}{k:Nat}(hc:∀i,i<ps.length->ai ps i≠a)(hk:k<ps.length)(h:eF a (ai ps k) (ai ps (k+1))=true)(hn:∀j,j<k->eF a (ai ps j) (ai ps (j+1))=false):leadsOf ps a to=jZ ps to k:=by
 unfold leadsOf
 rw[oN (fun j hj=>by simpa using hc j hj)]
 dsimp only
 rw[uP hk h hn]
theorem NR {ps:List Pt}{a to:Pt}(hc:∀i,i<ps.length->ai ps i≠a)(hn:∀j,j<ps.length->eF a (ai ps j) (ai ps (j+1))=false):leadsOf ps a to=true:=by
 unfold leadsOf
 rw[oN (fun j hj=>by simpa using hc j hj)]
 dsimp only
 rw[oN hn]
def aa1 (ps:List Pt)(a to:Pt)(is:List Nat)(v:Bool):Prop:=∃pre i,is=pre++[i]/\(∀j∈pre,eF a (ai ps j) (ai ps (j+1))=false)/\eF a (ai ps i) (ai ps (i+1))=true/\v=jZ ps to i
theorem Rt (ps:List Pt)(A:Option Addr)(c:Nat)(q to:Pt)(w:World)(hr:Rd w w.heap.size 2 A (ps.map dU))(hl:ps.length<=100)(hok:ps.all Pt.ok=true)(hq:q.ok=true)(hto:to.ok=true) :
  Calls Tryz.prog 217 #[.slice A ps.length c,pt q.1 q.2,pt to.1 to.2] w (aB w (.bool (leadsOf ps q to))):=by
 have hm:=aQ
 have HR:=hide hr
 have uV:=hide hok
 have HQ:=hide hq
 have HTO:=hide hto
 obtain⟨rr,hrr⟩:∃r,leadsOf ps q to=r:=⟨_,rfl⟩
 rw[hrr]
 have HRR:=hide hrr
 clear hr hok hq hto hrr
 refine (callsIn_wide (n:=13)).1 ?_
 refine callsIn_of_wp_marks Tryz.func217 rfl trivial ?_ rfl
 simp only[Tryz.ntmps217,List.size_toArray,List.length_cons,List.length_nil,Nat.reduceAdd,Nat.reduceSub,Array.replicate_succ,Array.replicate_zero,List.push_toArray,List.append_toArray,List.nil_append,List.cons_append]
 gi_wp2_with fail
 refine⟨trivial,?_⟩
 refine (callsIn_wide.2 (TI ps A c q _ (HR.out.up gw) hl)).mono ?_
 rintro e W1 ⟨⟨r,rfl,hidx⟩,hg1⟩
 obtain⟨bx,hbx⟩:∃bx:List Obj,bx=[.cells #[.int .i64 q.1,.int .i64 q.2] 28 (0,0),.cells #[.int .i64 to.1,.int .i64 to.2] 28 (0,0),.cells #[.bool false] 4 (0,0)]:=⟨_,rfl⟩
 have hbx0:=Bx.lH bx w
 have hb1:Bx W1 w.heap.size bx:=by
  have h:=hbx0.1
  subst hbx
  exact h.grew hg1
 have hw1:Grew w W1:=by
  have h:=hbx0.2
  subst hbx
  exact h.trans hg1
 have hsz1:w.heap.size+3<=W1.heap.size:=by
  have:=hg1.below.size
  simp at this
  omega
 clear hg1 hbx0
 subst hbx
 have c0:W1.cell? ⟨w.heap.size,0,none⟩=some (.int .i64 q.1):=ag (hb1 0 _ rfl) 0
 have c1:W1.cell? ⟨w.heap.size,1,none⟩=some (.int .i64 q.2):=ag (hb1 0 _ rfl) 1
 have c2:W1.cell? ⟨w.heap.size+1,0,none⟩=some (.int .i64 to.1):=ag (hb1 1 _ rfl) 0
 have c3:W1.cell? ⟨w.heap.size+1,1,none⟩=some (.int .i64 to.2):=ag (hb1 1 _ rfl) 1
 have c4:W1.cell? ⟨w.heap.size+2,0,none⟩=some (.bool false):=(hb1.box 2 rfl).cell
 have f4:W1.frozen? ⟨w.heap.size+2,0,none⟩=false:=(hb1.box 2 rfl).frozen
 have m0:w.heap.size<W1.heap.size:=by omega
 have m1:w.heap.size+1<W1.heap.size:=by omega
 have m2:w.heap.size+2<W1.heap.size:=by omega
 have Hb1:=hide hb1
 have Hw1:=hide hw1
 clear hb1 hw1
 dsimp only
 rcases hidx with⟨rfl,hnc⟩|⟨k,hk,rfl,hck,hnc⟩
 ·have HNC:=hide hnc
  clear hnc
  gi_wp2_with fail
  refine⟨trivial,?_⟩
  refine (callsIn_wide.2 (jY _ _ _ _)).mono ?_
  rintro e w' ⟨rfl,rfl⟩
  dsimp only
  gi_wp2_with fail
  refine dJ ?_
  intro a0 W0 ha hW
  have um:Grew W1 W0:=by rw[<-hW];exact gw
  have hg0:Grew w W0:=Hw1.out.trans um
  have hb0:=Hb1.out.grew um
  have hk0:W0.heap[W1.heap.size]?=some (.cells #[.slice A ps.length c] 174 (0,0)):=by rw[<-hW];exact heap_alloc_new _ _
  have hsz:W0.heap.size=W1.heap.size+1:=by rw[<-hW];simp
  clear hW c0 c1 c2 c3 c4 f4 um
  have Hb0:=hide hb0
  have Hg0:=hide hg0
  refine wpIn_rangeFunc_ownH (n:=13) rfl (by omega) (gf:=153) (lb:=#[.pointer (some ⟨W1.heap.size,0,none⟩)]) (by rw[<-ha];simp[Act.eval]) trivial (enters_of Tryz.func153 (by kernel_rfl) rfl)
   (gG 12 w.heap.size (fun _ _=>False) ps A c W1.heap.size W0 (fun b _ hb=>hb.elim) hk0 (HR.out.grew hg0 (Nat.le_refl _)) (by omega) (by omega))
   (fun h k=>h.trans k) iC.bk (Below.refl _ _) (fun _=>rfl)
   (fun pre W=>(Below w.heap.size w W/\Bx W w.heap.size _)/\∀i∈pre,eF q (ai ps i.1) (ai ps (i.1+1))=false)
   (fun e pre W=>(Below w.heap.size w W/\∃v,Boxed W (w.heap.size+2) 4 (.bool v)/\aa1 ps q to (pre.map Fin.val) v)/\e=.ret)
   (OwnFrom.and (OwnFrom.and (ownFrom_below (Nat.le_refl _) hg0.below.size) (Bx.own (by simp;omega))) (ownFrom_pure _))
   (fun q=>OwnFrom.and (OwnFrom.and (ownFrom_below (Nat.le_refl _) hg0.below.size) (fun s X Y row ⟨v,h1,h2⟩ hg hr=>⟨v,Own.from (boxed_own (β:=Unit) _ _ (fun _=>.bool v)) _ () X Y row h1 hg hr,h2⟩)) (ownFrom_pure _))
   ⟨⟨hg0.below,hb0⟩,fun i hi=>by cases hi⟩
   (fun x a' W=>∃B,W.heap[B]?=some (.cells #[.int .i64 (ai ps x.1).1,.int .i64 (ai ps x.1).2,.int .i64 (ai ps (x.1+1)).1,.int .i64 (ai ps (x.1+1)).2] 206 (0,0))/\a'={ tmps:=((a0.tmps.setIfInBounds 21 (.int .i64 (x.1:Nat))).setIfInBounds 22 (.agg #[.int .i64 (ai ps x.1).1,.int .i64 (ai ps x.1).2,.int .i64 (ai ps (x.1+1)).1,.int .i64 (ai ps (x.1+1)).2])).setIfInBounds 9 (.pointer (some ⟨B,0,none⟩)),defers:=[] })
   (fun x a'=>by
    rintro s X Y row ⟨B,h1,h2⟩ hg hr
    exact⟨B,fE h1 hg (fun r e=>(hr r e).2),h2⟩)
   ?assign ?body ?done ?stop
  case assign =>
   rintro l pre x W K ⟨⟨hB,hb⟩,hp⟩ hK
   rw[show CJ ps x=#[.int .i64 (x.1:Nat),.agg #[.int .i64 (ai ps x.1).1,.int .i64 (ai ps x.1).2,.int .i64 (ai ps (x.1+1)).1,.int .i64 (ai ps (x.1+1)).2]] from rfl,FN]
   subst ha
   simp only[List.setIfInBounds_toArray,List.set_cons_succ,List.set_cons_zero] at hK ⊢
   have vT:=hide hK
   clear hK
   gi_wp2_with fail
   have hgg:Grew W (W.alloc (.cells #[.int .i64 (ai ps x.1).1,.int .i64 (ai ps x.1).2,.int .i64 (ai ps (x.1+1)).1,.int .i64 (ai ps (x.1+1)).2] 206)):=gw
   exact vT.out _ _ (hgg.aV _) (iC.grew hgg) ⟨⟨hB.trans (hgg.below.mono hB.size),hb.grew hgg⟩,hp⟩ ⟨W.heap.size,heap_alloc_new _ _,rfl⟩
  case body =>
   rintro l pre x a' W hl2 hlp ⟨⟨hB,hb⟩,hp⟩ ⟨B,hx,rfl⟩ hlt
   subst ha
   obtain⟨i,hil⟩:=x
   dsimp only at hx
   simp only[List.setIfInBounds_toArray,List.set_cons_succ,List.set_cons_zero]
   have oa:=eu uV.out i
   have ob:=eu uV.out (i+1)
   obtain⟨o,ho⟩:∃o,eF q (ai ps i) (ai ps (i+1))=o:=⟨_,rfl⟩
   obtain⟨t,ht⟩:∃o,tn (ai ps i) (ai ps (i+1)) to=o:=⟨_,rfl⟩
   have hle:jZ ps to i=decide (0<=t):=by unfold jZ;rw[ht]
   have hnext:o=false->∀i'∈pre++[(⟨i,hil⟩:Fin ps.length)],eF q (ai ps i'.1) (ai ps (i'.1+1))=false:=fun hof i' hi'=>by
    rcases List.mem_append.1 hi' with h|h
    ·exact hp i' h
    ·obtain rfl:=List.mem_singleton.1 h
     rw[<-hof];exact ho
   have hstop:o=true->aa1 ps q to ((pre++[(⟨i,hil⟩:Fin ps.length)]).map Fin.val) (decide (0<=t)):=fun hof=>by
    refine⟨pre.map Fin.val,i,by rw[List.map_append];rfl,fun j hj=>?_,by rw[ho,hof],hle.symm⟩
    obtain⟨j',hj',rfl⟩:=List.mem_map.1 hj
    exact hp j' hj'
   have kF:=hide hnext
   have qC:=hide hstop
   have ko:=hide (fun W'=>aby q (ai ps i) (ai ps (i+1)) o W' HQ.out oa ob ho)
   have kt:=hide (fun W'=>nJ (ai ps i) (ai ps (i+1)) to t W' oa ob HTO.out ht)
   clear hnext hstop ho ht hle hp hlt
   generalize ai ps i=a at *
   generalize ai ps (i+1)=b at *
   obtain⟨a1,a2⟩:=a
   obtain⟨b1,b2⟩:=b
   obtain⟨x1,x2⟩:=q
   obtain⟨y1,y2⟩:=to
   dsimp only at hx hb ⊢
   have c0:W.cell? ⟨w.heap.size,0,none⟩=some (.int .i64 x1):=ag (hb 0 _ rfl) 0
   have c1:W.cell? ⟨w.heap.size,1,none⟩=some (.int .i64 x2):=ag (hb 0 _ rfl) 1
   have c2:W.cell? ⟨w.heap.size+1,0,none⟩=some (.int .i64 y1):=ag (hb 1 _ rfl) 0
   have c3:W.cell? ⟨w.heap.size+1,1,none⟩=some (.int .i64 y2):=ag (hb 1 _ rfl) 1
   have c4:W.cell? ⟨w.heap.size+2,0,none⟩=_:=(hb.box 2 rfl).cell
   have f4:W.frozen? ⟨w.heap.size+2,0,none⟩=_:=(hb.box 2 rfl).frozen
   have d0:W.cell? ⟨B,0,none⟩=some _:=ag hx 0
   have d1:W.cell? ⟨B,1,none⟩=some _:=ag hx 1
   have d2:W.cell? ⟨B,2,none⟩=some _:=ag hx 2
   have d3:W.cell? ⟨B,3,none⟩=some _:=ag hx 3
   have l2:=(hb.box 2 rfl).lt
   have l1:w.heap.size+1<W.heap.size:=by omega
   have l0:w.heap.size<W.heap.size:=by omega
   have lB:=ax hx
   have HB:=hide hB
   have Hb:=hide hb
   clear hB hb hx
   gi_wp2_with fail
   refine⟨trivial,?_⟩
   refine (CallsIn.inRound l (callsIn_wide.2 (ko.out _))).mono ?_
   rintro e w' ⟨rfl,⟨n5,Fh⟩,rfl⟩
   dsimp only
   cases o
   ·have Ci:=hide (kF.out rfl)
    clear kF qC
    gi_wp2_with fail
    have hgg:Grew W (grow (dr W n5) Fh):=gw
    exact⟨hgg.aV _,iC.grew hgg,⟨HB.out.trans (hgg.below.mono HB.out.size),Hb.out.grew hgg⟩,Ci.out⟩
   ·have HS2:=hide (qC.out rfl)
    clear kF qC
    gi_wp2_with fail
    refine⟨trivial,?_⟩
    refine (CallsIn.inRound l (callsIn_wide.2 (kt.out _))).mono ?_
    rintro e w' ⟨rfl,⟨n6,os6⟩,rfl⟩
    dsimp only
    have hb2:Boxed W (w.heap.size+2) 4 (.bool false):=Hb.out.box 2 rfl
    have hbx2:=hide hb2
    clear hb2
    gi_wp2_with fail
    exact⟨jW (b:=w.heap.size+2) sK ⟨_,hbx2.out,rfl⟩,⟨gq (b:=w.heap.size+2) sK HB.out (by omega),_,(by repeat (with_reducible first|assumption|exact Hid.out (by assumption)|refine dY ?_ _ _|refine Boxed.set (v:=.bool false) _ ?_|refine lX ?_ (Hid.out (by assumption))|(refine dM ?_ (Hid.out (by assumption))))),HS2.out⟩,rfl⟩
  case done =>
   subst ha
   rintro D xs W hD hS ⟨⟨hB,hb⟩,hp⟩ hK
   have b1:Boxed W (w.heap.size+2) _ _:=hb.box 2 rfl
   have c1:=b1.cell
   have f1:=b1.frozen
   have hno:∀j,j<ps.length->eF q (ai ps j) (ai ps (j+1))=false:=fun j hj=>by
    have:j∈xs.map Fin.val:=by rw[hS];exact List.mem_range.2 hj
    obtain⟨j',hj',rfl⟩:=List.mem_map.1 this
    exact hp j' hj'
   obtain rfl:rr=true:=by rw[<-HRR.out,NR HNC.out hno]
   have HB:=hide hB
   clear hB hb hS hp b1 hno
   gi_wp2_with fail
   have hK2:=(KeepsOthers.setCell W ⟨w.heap.size+2,0,none⟩ (.bool true)).same D _ hK rfl
   refine⟨by simp,.inl ⟨_,_,rfl,run_takeDeferred hK2,?_⟩⟩
   have hb5:=(HB.out.setCell (p:=⟨w.heap.size+2,0,none⟩) (by simp) (.bool true)).trans (belowK_b (w:=w) (Nat.le_refl _) _ D _ (.deferred none) (by omega) hK2 rfl rfl)
   have e3:((W.setCell ⟨w.heap.size+2,0,none⟩ (.bool true)).putObj D (.deferred none)).cell? ⟨w.heap.size+2,0,none⟩=some (.bool true):=by
    rw[aU (by omega)]
    go_simp
   refine⟨.bool true,by simp[results,Tryz.results217,go_sem,e3],?_⟩
   exact aB.mk' rfl (Grew.of_below hb5)
  case stop =>
   subst ha
   rintro D e pre W hD ⟨k,hk,hr⟩ ⟨⟨hB,v,hb1,hst⟩,rfl⟩ hK
   have c3:W.cell? ⟨w.heap.size+2,0,none⟩=_:=hb1.cell
   obtain⟨pr,i,h1,h2,h3,rfl⟩:=hst
   rw[hr] at h1
   have hki:k=i+1/\pr=List.range i:=by
    cases k with
    | zero=>simp at h1
    | succ k =>
     rw[List.range_succ] at h1
     obtain⟨e1,e2⟩:=List.append_inj' h1 rfl
     injection e2 with e2
     exact⟨by rw[e2],by rw[<-e1,e2]⟩
   obtain⟨rfl,rfl⟩:=hki
   have hres:=yY (to:=to) HNC.out (by omega:i<ps.length) h3 (fun j hj=>h2 j (List.mem_range.2 hj))
   obtain rfl:rr=jZ ps to i:=by rw[<-HRR.out,hres]
   have HB:=hide hB
   clear hB hb1 hr h1 h2 h3 hres hk HRR
   gi_wp2_with fail
   refine⟨by simp,.inl ⟨_,_,rfl,run_takeDeferred hK,?_⟩⟩
   have hb5:=HB.out.trans (belowK_b (w:=w) (Nat.le_refl _) _ D _ (.deferred none) (by omega) hK rfl rfl)
   have e3:=(aU (W:=W) (D:=D) (i:=0) (o:=.deferred none) (b:=w.heap.size+2) (by omega)).trans c3
   refine⟨.bool (jZ ps to i),by simp[results,Tryz.results217,go_sem,e3],?_⟩
   exact aB.mk' rfl (Grew.of_below hb5)
 ·have hres:leadsOf ps q to=ja ps k to:=vJ hk hck hnc
  obtain⟨o,ho⟩:∃o,ja ps k to=o:=⟨_,rfl⟩
  have ko:=hide (fun W (hg:Grew w W)=>Ij ps A c k to o W (HR.out.up hg) hl uV.out HTO.out hk ho)
  rw[hres,ho] at HRR
  obtain rfl:o=rr:=HRR.out
  have hk0:(0:Int)<=(k:Int):=by omega
  clear hres ho hck hnc
  obtain⟨t1,t2⟩:=to
  dsimp only at c2 c3
  gi_wp2_with fail
  refine⟨trivial,?_⟩
  refine (callsIn_wide.2 (ko.out _ Hw1.out)).mono ?_
  rintro e w' ⟨rfl,⟨n5,Fh⟩,rfl⟩
  dsimp only
  gi_wp2_with fail
  have hbx2:Boxed W1 (w.heap.size+2) 4 (.bool false):=Hb1.out.box 2 rfl
  have e3:(grow (dr (W1.setCell ⟨w.heap.size+1+1,0,none⟩ (.bool o)) n5) Fh).cell? ⟨w.heap.size+1+1,0,none⟩=some (.bool o):=(dY (hbx2.set _) n5 Fh).cell
  refine⟨.bool o,by simp[results,Tryz.results217,go_sem,e3],?_⟩
  exact aB.mk' rfl (Grew.of_below (gq (b:=w.heap.size+2) sK Hw1.out.below (by omega)))
set_option maxHeartbeats 32000000
set_option maxRecDepth 100000
theorem Df (ps:List Pt)(A:Option Addr)(c:Nat)(q to:Pt)(r:Bool)(w:World)(hr:Rd w w.heap.size 2 A (ps.map dU))(hl:ps.length<=100)(hok:ps.all Pt.ok=true)(hq:q.ok=true)(hto:to.ok=true)(h:leadsOf ps q to=r) :
  Calls Tryz.prog 217 #[.slice A ps.length c,pt q.1 q.2,pt to.1 to.2] w (aB w (.bool r)):=by
 have:=Rt ps A c q to w hr hl hok hq hto
 rwa [h] at this
theorem rX {b:Bool}(h:some undef=some (Value.bool b)):False:=by simp[undef] at h
def jb (ps:List Pt)(a b:Pt)(i:Nat):Bool :=
 !(lM a b (ai ps i) (ai ps (i+1))) && !(decide (ai ps i≠a)&&(decide (ai ps i≠b)&&(eF (ai ps i) a b && !(ja ps i a&&ja ps i b))))
def uo (ps:List Pt)(a b:Pt):Bool:=decide (0<=placeOf ps a)&&(decide (0<=placeOf ps b)&&(leadsOf ps a b&&leadsOf ps b a))
def vP (ps:List Pt)(a b:Pt):Bool:=uo ps a b&&(List.range ps.length).all (jb ps a b)
theorem ab6 (ps:List Pt)(A:Option Addr)(c:Nat)(a b:Pt)(w:World)(hr:Rd w w.heap.size 2 A (ps.map dU))(hl:ps.length<=100)(hok:ps.all Pt.ok=true)(ha:a.ok=true)(hb:b.ok=true)(h:uo ps a b=false) :
  Calls Tryz.prog 215 #[.slice A ps.length c,pt a.1 a.2,pt b.1 b.2] w (aB w (.bool false)):=by
 have hm:=aQ
 unfold uo at h
 obtain⟨pa,hpa⟩:∃p,placeOf ps a=p:=⟨_,rfl⟩
 obtain⟨pb,hpb⟩:∃p,placeOf ps b=p:=⟨_,rfl⟩
 obtain⟨la,hla⟩:∃p,leadsOf ps a b=p:=⟨_,rfl⟩
 obtain⟨lb,hlb⟩:∃p,leadsOf ps b a=p:=⟨_,rfl⟩
 rw[hpa,hpb,hla,hlb] at h
 have k1:=hide (fun W (hg:Grew w W)=>qL ps A c a pa W (hr.up hg) hl hok ha hpa)
 have k2:=hide (fun W (hg:Grew w W)=>qL ps A c b pb W (hr.up hg) hl hok hb hpb)
 have k3:=hide (fun W (hg:Grew w W)=>Df ps A c a b la W (hr.up hg) hl hok ha hb hla)
 have k4:=hide (fun W (hg:Grew w W)=>Df ps A c b a lb W (hr.up hg) hl hok hb ha hlb)
 clear hpa hpb hla hlb ha hb hok
 obtain⟨a1,a2⟩:=a
 obtain⟨b1,b2⟩:=b
 have hcase:pa<0\/(¬ pa<0/\pb<0)\/(¬ pa<0/\¬ pb<0/\la=false)\/(¬ pa<0/\¬ pb<0/\la=true/\lb=false):=by
  by_cases h1:pa<0
  ·exact .inl h1
  ·by_cases h2:pb<0
   ·exact .inr (.inl ⟨h1,h2⟩)
   ·rw[show decide (0<=pa)=true by simp;omega,show decide (0<=pb)=true by simp;omega] at h
    cases la
    ·exact .inr (.inr (.inl ⟨h1,h2,rfl⟩))
    ·cases lb
     ·exact .inr (.inr (.inr ⟨h1,h2,rfl,rfl⟩))
     ·simp at h
 clear h
 rcases hcase with h1|⟨h1,h2⟩|⟨h1,h2,rfl⟩|⟨h1,h2,rfl,rfl⟩
 all_goals
  go_enter Tryz.func215,Tryz.ntmps215
  go_wp2_with (first|(go_at_call 213;with_reducible refine aT (k1.out _ gw) fun _ _=>?_;dsimp only)|(go_at_call 213;with_reducible refine aT (k2.out _ gw) fun _ _=>?_;dsimp only)|(go_at_call 217;with_reducible refine aT (k3.out _ gw) fun _ _=>?_;dsimp only)|(go_at_call 217;with_reducible refine aT (k4.out _ gw) fun _ _=>?_;dsimp only))
  refine bodyPost_ret (v:=.bool false) (by simp[results,Tryz.results215,go_sem]) rfl ?_
  exact aB.mk' rfl gw
theorem Y5 (ps:List Pt)(A:Option Addr)(c:Nat)(q to:Pt)(w:World)(hr:Rd w w.heap.size 2 A (ps.map dU))(hl:ps.length<=100)(hok:ps.all Pt.ok=true)(hq:q.ok=true)(hto:to.ok=true)(h:uo ps q to=true) :
  Calls Tryz.prog 215 #[.slice A ps.length c,pt q.1 q.2,pt to.1 to.2] w (aB w (.bool ((List.range ps.length).all (jb ps q to)))):=by
 have hm:=aQ
 unfold uo at h
 simp only[Bool.and_eq_true,decide_eq_true_eq] at h
 obtain⟨pa,hpa⟩:∃p,placeOf ps q=p:=⟨_,rfl⟩
 obtain⟨pb,hpb⟩:∃p,placeOf ps to=p:=⟨_,rfl⟩
 have k1:=hide (fun W (hg:Grew w W)=>qL ps A c q pa W (hr.up hg) hl hok hq hpa)
 have k2:=hide (fun W (hg:Grew w W)=>qL ps A c to pb W (hr.up hg) hl hok hto hpb)
 have k3:=hide (fun W (hg:Grew w W)=>Df ps A c q to true W (hr.up hg) hl hok hq hto h.2.2.1)
 have k4:=hide (fun W (hg:Grew w W)=>Df ps A c to q true W (hr.up hg) hl hok hto hq h.2.2.2)
 have h1:¬ pa<0:=by rw[<-hpa];omega
 have h2:¬ pb<0:=by rw[<-hpb];omega
 have HR:=hide hr
 have uV:=hide hok
 have HQ:=hide hq
 have HTO:=hide hto
 obtain⟨rr,hrr⟩:∃r,(List.range ps.length).all (jb ps q to)=r:=⟨_,rfl⟩
 rw[hrr]
 have HRR:=hide hrr
 clear hr hok hq hto hrr h hpa hpb
 refine (callsIn_wide (n:=13)).1 ?_
 refine callsIn_of_wp_marks Tryz.func215 rfl trivial ?_ rfl
 simp only[Tryz.ntmps215,List.size_toArray,List.length_cons,List.length_nil,Nat.reduceAdd,Nat.reduceSub,Array.replicate_succ,Array.replicate_zero,List.push_toArray,List.append_toArray,List.nil_append,List.cons_append]
 gi_wp2_with fail
 refine⟨trivial,?_⟩
 refine (callsIn_wide.2 (k1.out _ gw)).mono ?_
 rintro e w' ⟨rfl,⟨n1,os1⟩,rfl⟩
 dsimp only
 gi_wp2_with fail
 refine⟨trivial,?_⟩
 refine (callsIn_wide.2 (k2.out _ gw)).mono ?_
 rintro e w' ⟨rfl,⟨n2,os2⟩,rfl⟩
 dsimp only
 gi_wp2_with fail
 refine⟨trivial,?_⟩
 refine (callsIn_wide.2 (k3.out _ gw)).mono ?_
 rintro e w' ⟨rfl,⟨n3,os3⟩,rfl⟩
 dsimp only
 gi_wp2_with fail
 refine⟨trivial,?_⟩
 refine (callsIn_wide.2 (k4.out _ gw)).mono ?_
 rintro e w' ⟨rfl,⟨n4,os4⟩,rfl⟩
 dsimp only
 gi_wp2_with fail
 refine⟨trivial,?_⟩
 refine (callsIn_wide.2 (jY _ _ _ _)).mono ?_
 rintro e w' ⟨rfl,rfl⟩
 dsimp only
 gi_wp2_with fail
 refine dJ ?_
 intro a0 W0 ha hW
 obtain⟨bx,hbx⟩:∃bx:List Obj,bx=[.cells #[.slice A ps.length c] 174 (0,0),.cells #[.int .i64 q.1,.int .i64 q.2] 28 (0,0),.cells #[.int .i64 to.1,.int .i64 to.2] 28 (0,0),.cells #[.bool false] 4 (0,0)]:=⟨_,rfl⟩
 have hg0:Grew w W0:=by rw[<-hW];exact gw
 have hb0:Bx W0 w.heap.size bx:=by rw[<-hW,hbx];refine (Bx.lH _ w).1.grew ?_;simp only[List.foldl];exact gw
 obtain⟨P0,hP0⟩:∃P0,w.heap.size+1+1+1+1+(os1.size+(os2.size+(os3.size+os4.size)))=P0:=⟨_,rfl⟩
 have hk0:W0.heap[P0]?=some (.cells #[.slice A ps.length c] 174 (0,0)):=by rw[<-hW,<-hP0];exact az _ _ _ (by go_simp)
 have hlow:w.heap.size+4<=P0:=by omega
 have hPl:=ax hk0
 clear hW
 have ha2:a0.eval (.tmp 36)=.func (.func 153) #[] #[.pointer (some ⟨P0,0,none⟩)]:=by rw[<-ha,<-hP0];simp[Act.eval];exact (bQ _ _).trans (by simp)
 subst hbx
 refine wpIn_rangeFunc_ownH (n:=13) rfl (by omega) (gf:=153) (lb:=#[.pointer (some ⟨P0,0,none⟩)]) ha2 trivial (enters_of Tryz.func153 (by kernel_rfl) rfl)
  (gG 12 w.heap.size (fun _ _=>False) ps A c P0 W0 (fun b _ hb=>hb.elim) hk0 (HR.out.grew hg0 (Nat.le_refl _)) (by omega) (by omega))
  (fun h k=>h.trans k) iC.bk (Below.refl _ _) (fun _=>rfl)
  (fun pre W=>(Below w.heap.size w W/\Bx W w.heap.size _)/\∀i∈pre,jb ps q to i.1=true)
  (fun e pre W=>(Below w.heap.size w W/\Boxed W (w.heap.size+3) 4 (.bool false))/\e=.ret/\rr=false)
  (OwnFrom.and (OwnFrom.and (ownFrom_below (Nat.le_refl _) hg0.below.size) (Bx.own (by simp;omega))) (ownFrom_pure _))
  (fun q=>OwnFrom.and (OwnFrom.and (ownFrom_below (Nat.le_refl _) hg0.below.size) (Own.from (boxed_own _ _ _) _)) (ownFrom_pure _))
  ⟨⟨hg0.below,hb0⟩,fun i hi=>by cases hi⟩
  (fun x a' W=>∃B,W.heap[B]?=some (.cells #[.int .i64 (ai ps x.1).1,.int .i64 (ai ps x.1).2,.int .i64 (ai ps (x.1+1)).1,.int .i64 (ai ps (x.1+1)).2] 206 (0,0))/\a'={ tmps:=(((a0.tmps.setIfInBounds 37 (.int .i64 (x.1:Nat))).setIfInBounds 38 (.agg #[.int .i64 (ai ps x.1).1,.int .i64 (ai ps x.1).2,.int .i64 (ai ps (x.1+1)).1,.int .i64 (ai ps (x.1+1)).2])).setIfInBounds 7 (.int .i64 (x.1:Nat))).setIfInBounds 8 (.pointer (some ⟨B,0,none⟩)),defers:=[] })
  (fun x a'=>by
   rintro s X Y row ⟨B,h1,h2⟩ hg hr
   exact⟨B,fE h1 hg (fun r e=>(hr r e).2),h2⟩)
  ?assign ?body ?done ?stop
 case assign =>
  rintro l pre x W K ⟨⟨hB,hb⟩,hp⟩ hK
  rw[show CJ ps x=#[.int .i64 (x.1:Nat),.agg #[.int .i64 (ai ps x.1).1,.int .i64 (ai ps x.1).2,.int .i64 (ai ps (x.1+1)).1,.int .i64 (ai ps (x.1+1)).2]] from rfl,FN]
  subst ha
  simp only[List.setIfInBounds_toArray,List.set_cons_succ,List.set_cons_zero] at hK ⊢
  have vT:=hide hK
  clear hK
  gi_wp2_with fail
  have hgg:Grew W (W.alloc (.cells #[.int .i64 (ai ps x.1).1,.int .i64 (ai ps x.1).2,.int .i64 (ai ps (x.1+1)).1,.int .i64 (ai ps (x.1+1)).2] 206)):=gw
  exact vT.out _ _ (hgg.aV _) (iC.grew hgg) ⟨⟨hB.trans (hgg.below.mono hB.size),hb.grew hgg⟩,hp⟩ ⟨W.heap.size,heap_alloc_new _ _,rfl⟩
 case body =>
  rintro l pre x a' W hl2 hlp ⟨⟨hB,hb⟩,hp⟩ ⟨B,hx,rfl⟩ hlt
  subst ha
  obtain⟨i,hil⟩:=x
  dsimp only at hx
  simp only[List.setIfInBounds_toArray,List.set_cons_succ,List.set_cons_zero]
  have oa:=eu uV.out i
  have ob:=eu uV.out (i+1)
  obtain⟨t1,e1⟩:∃t,tn q to (ai ps i)=t:=⟨_,rfl⟩
  obtain⟨t2,e2⟩:∃t,tn q to (ai ps (i+1))=t:=⟨_,rfl⟩
  obtain⟨t3,e3⟩:∃t,tn (ai ps i) (ai ps (i+1)) q=t:=⟨_,rfl⟩
  obtain⟨t4,e4⟩:∃t,tn (ai ps i) (ai ps (i+1)) to=t:=⟨_,rfl⟩
  obtain⟨o,ho⟩:∃o,eF (ai ps i) q to=o:=⟨_,rfl⟩
  obtain⟨p1',hp1⟩:∃o,ja ps i q=o:=⟨_,rfl⟩
  obtain⟨p2',hp2⟩:∃o,ja ps i to=o:=⟨_,rfl⟩
  have kt1:=hide (fun W'=>nJ _ _ _ t1 W' HQ.out HTO.out oa e1)
  have kt2:=hide (fun W'=>nJ _ _ _ t2 W' HQ.out HTO.out ob e2)
  have kt3:=hide (fun W'=>nJ _ _ _ t3 W' oa ob HQ.out e3)
  have kt4:=hide (fun W'=>nJ _ _ _ t4 W' oa ob HTO.out e4)
  have ko:=hide (fun W'=>aby (ai ps i) q to o W' oa HQ.out HTO.out ho)
  have kp1:=hide (fun W (hg:Grew w W)=>Ij ps A c i q p1' W (HR.out.up hg) hl uV.out HQ.out hil hp1)
  have kp2:=hide (fun W (hg:Grew w W)=>Ij ps A c i to p2' W (HR.out.up hg) hl uV.out HTO.out hil hp2)
  have b12:=IB (e1 ▸ Bi q to (ai ps i)) (e2 ▸ Bi q to (ai ps (i+1)))
  have b34:=IB (e3 ▸ Bi (ai ps i) (ai ps (i+1)) q) (e4 ▸ Bi (ai ps i) (ai ps (i+1)) to)
  have e12:IntKind.i64.wrap (t1*t2)=t1*t2:=by unfold IntKind.wrap;simp[IntKind.bits,IntKind.signed];omega
  have e34:IntKind.i64.wrap (t3*t4)=t3*t4:=by unfold IntKind.wrap;simp[IntKind.bits,IntKind.signed];omega
  have heh:jb ps q to i=(!(decide (t1*t2<0)&&decide (t3*t4<0)) && !(decide (ai ps i≠q)&&(decide (ai ps i≠to)&&(o && !(p1'&&p2'))))):=by
   unfold jb lM
   rw[e1,e2,e3,e4,ho,hp1,hp2]
  have hnx:jb ps q to i=true->∀i'∈pre++[(⟨i,hil⟩:Fin ps.length)],jb ps q to i'.1=true:=fun hof i' hi'=>by
   rcases List.mem_append.1 hi' with h|h
   ·exact hp i' h
   ·obtain rfl:=List.mem_singleton.1 h
    exact hof
  have hst:jb ps q to i=false->rr=false:=fun hof=>by
   rw[<-HRR.out]
   exact List.all_eq_false.2 ⟨i,List.mem_range.2 hil,by rw[hof];simp⟩
  have HEH:=hide heh
  have XI:=hide hnx
  have HST:=hide hst
  clear e1 e2 e3 e4 ho hp1 hp2 heh hnx hst hp hlt
  generalize ai ps i=a at *
  generalize ai ps (i+1)=b at *
  obtain⟨a1,a2⟩:=a
  obtain⟨b1,b2⟩:=b
  obtain⟨x1,x2⟩:=q
  obtain⟨y1,y2⟩:=to
  dsimp only at hx hb ⊢
  have c00:W.cell? ⟨w.heap.size,0,none⟩=some (.slice A ps.length c):=(hb.box 0 rfl).cell
  have c0:W.cell? ⟨w.heap.size+1,0,none⟩=some (.int .i64 x1):=ag (hb 1 _ rfl) 0
  have c1:W.cell? ⟨w.heap.size+1,1,none⟩=some (.int .i64 x2):=ag (hb 1 _ rfl) 1
  have c2:W.cell? ⟨w.heap.size+2,0,none⟩=some (.int .i64 y1):=ag (hb 2 _ rfl) 0
  have c3:W.cell? ⟨w.heap.size+2,1,none⟩=some (.int .i64 y2):=ag (hb 2 _ rfl) 1
  have c4:W.cell? ⟨w.heap.size+3,0,none⟩=_:=(hb.box 3 rfl).cell
  have f4:W.frozen? ⟨w.heap.size+3,0,none⟩=_:=(hb.box 3 rfl).frozen
  have d0:W.cell? ⟨B,0,none⟩=some _:=ag hx 0
  have d1:W.cell? ⟨B,1,none⟩=some _:=ag hx 1
  have d2:W.cell? ⟨B,2,none⟩=some _:=ag hx 2
  have d3:W.cell? ⟨B,3,none⟩=some _:=ag hx 3
  have l3:=(hb.box 3 rfl).lt
  have l2:w.heap.size+2<W.heap.size:=by omega
  have l1:w.heap.size+1<W.heap.size:=by omega
  have l0:w.heap.size<W.heap.size:=by omega
  have lB:=ax hx
  have HB:=hide hB
  have Hb:=hide hb
  clear hB hb hx
  gi_wp2_with fail
  refine dm 8 [⟨4,6,9,28,.agg #[.int .i64 0,.int .i64 0]⟩,⟨5,7,10,28,.agg #[.int .i64 0,.int .i64 0]⟩] [] hm (hZ:=(qE.cons Tryz.zeroValue28 Tryz.sizeOf28 (qE.cons Tryz.zeroValue28 Tryz.sizeOf28 qE.nil))) (h:=?_)
  repeat (refine au (fun K hK=>?_);go_simp;refine hK _ ?_;clear hK K)
  refine dW ?_
  refine⟨(jf.cons (by rfl) (by simp[bU,Act.eval,Value.cells,Value.oneCell']) (jf.cons (by rfl) (by simp[bU,Act.eval,Value.cells,Value.oneCell']) jf.nil)),nR.nil,?_⟩
  rintro psq FB Wq iP FT FW
  obtain rfl:FB=[]:=FW
  obtain⟨p0,_,rfl,hp0,hb0,hn0,p1,_,rfl,hp1,hb1,hn1,rfl⟩:=FT
  simp only[putAll,putB,Act.put,aG]
  simp[bU,Act.eval,Value.cells] at hb0
  have xE:Wq.cell? ⟨p0,0,none⟩=some _:=ag hb0 0
  have xC:Wq.cell? ⟨p0,1,none⟩=some _:=ag hb0 1
  have X3:=bD hb0
  have X0:=ax hb0
  simp[bU,Act.eval,Value.cells] at hb1
  have Eo:Wq.cell? ⟨p1,0,none⟩=some _:=ag hb1 0
  have En:Wq.cell? ⟨p1,1,none⟩=some _:=ag hb1 1
  have gf1:=bD hb1
  have gl1:=ax hb1
  have gn:p0≠p1:=by simpa using hn0
  have gm:p1≠p0:=fun e=>gn e.symm
  have WA:=hide hp0
  have gp1:=hide hp1
  clear hb0 hn0 hp0 hb1 hn1 hp1
  have oc:=iR iP
  have of:=jw iP
  have ol:=rE iP
  replace iP:=hide iP
  have z00:Wq.cell? ⟨w.heap.size,0,none⟩=_:=(oc _ 0 l0).trans c00
  have z0:Wq.cell? ⟨w.heap.size+1,0,none⟩=_:=(oc _ 0 l1).trans c0
  have z1:Wq.cell? ⟨w.heap.size+1,1,none⟩=_:=(oc _ 1 l1).trans c1
  have z2:Wq.cell? ⟨w.heap.size+2,0,none⟩=_:=(oc _ 0 l2).trans c2
  have z3:Wq.cell? ⟨w.heap.size+2,1,none⟩=_:=(oc _ 1 l2).trans c3
  have z4:Wq.cell? ⟨w.heap.size+3,0,none⟩=_:=(oc _ 0 l3).trans c4
  have z5:Wq.frozen? ⟨w.heap.size+3,0,none⟩=_:=(of _ 0 l3).trans f4
  have hgs:=iP.out.below.size
  have m0:w.heap.size<Wq.heap.size:=by omega
  have m1:w.heap.size+1<Wq.heap.size:=by omega
  have m2:w.heap.size+2<Wq.heap.size:=by omega
  have m3:w.heap.size+3<Wq.heap.size:=by omega
  have XX:Hid (Grew w Wq):=hide ((Grew.of_below HB.out).trans iP.out)
  have hbr:Hid (Boxed Wq (w.heap.size+3) 4 (.bool false)):=hide ((Hb.out.grew iP.out).box 3 rfl)
  have aen:Hid (Boxed W (w.heap.size+3) 4 (.bool false)):=hide (Hb.out.box 3 rfl)
  have hgb:Hid (W.grownBy Wq (some (w.heap.size+3))):=hide (wW (jo _ _) iP.out)
  clear c00 c0 c1 c2 c3 c4 f4 d0 d1 d2 d3 oc of ol
  have hcut:(decide (t1*t2<0)=true/\decide (t3*t4<0)=true)\/((decide (t1*t2<0)&&decide (t3*t4<0))=false):=by
   cases decide (t1*t2<0)<;>cases decide (t3*t4<0)<;>simp
  rcases hcut with⟨u1,u2⟩|u
  ·have hr0:=HST.out (by rw[HEH.out,u1,u2];rfl)
   have HR0:=hide hr0
   clear hr0 HST XI HEH
   gi_wp2_with fail
   refine dm 22 [] [] hm (h:=?_)
   repeat (refine au (fun K hK=>?_);go_simp;first|(refine hK _ ?_;clear hK K)|(apply Exists.intro;refine⟨fun _=>?_,hK _ ?_⟩;(go_at_call 109;first|with_reducible exact kt1.out _|with_reducible exact kt2.out _|with_reducible exact kt3.out _|with_reducible exact kt4.out _);clear hK K))
   refine CE fun nqz NC=>?_
   try simp only[Act.put,aG]
   try dsimp only
   gi_wp2_with fail
   exact⟨jW (b:=w.heap.size+3) sK ⟨_,aen.out,rfl⟩,⟨gq (b:=w.heap.size+3) sK HB.out (by omega),(by repeat (with_reducible first|assumption|exact Hid.out (by assumption)|refine dY ?_ _ _|refine Boxed.set (v:=.bool false) _ ?_|refine lX ?_ (Hid.out (by assumption))|(refine dM ?_ (Hid.out (by assumption)))))⟩,rfl,HR0.out⟩
  ·have hu:(decide (t1*t2<0)=true/\decide (t3*t4<0)=false)\/decide (t1*t2<0)=false:=by
    cases h1:decide (t1*t2<0)<;>cases h2:decide (t3*t4<0)<;>rw[h1,h2] at u<;>simp at u ⊢
   rw[u,Bool.not_false,Bool.true_and] at HEH
   clear u
   have hkk:(a1=x1/\a2=x2)\/((a1≠x1\/(a1=x1/\a2≠x2))/\a1=y1/\a2=y2)\/((a1≠x1\/(a1=x1/\a2≠x2))/\(a1≠y1\/(a1=y1/\a2≠y2))):=by omega
   have heq:∀ (z1 z2:Int),((a1,a2)≠((z1,z2):Pt))↔(a1≠z1\/(a1=z1/\a2≠z2)):=fun z1 z2=>by
    rw[Ne,Prod.mk.injEq]
    omega
   have ev:jb ps (x1,x2) (y1,y2) i = !(decide (a1≠x1\/(a1=x1/\a2≠x2))&&(decide (a1≠y1\/(a1=y1/\a2≠y2))&&(o && !(p1'&&p2')))):=by
    rw[HEH.out]
    simp only[heq]
   clear HEH heq
   rcases hu with⟨u1,u2⟩|u1
   all_goals
    rcases hkk with⟨v1,v2⟩|⟨v1,v2,v3⟩|⟨v1,v2⟩
    ·have hv:jb ps (x1,x2) (y1,y2) i=true:=by rw[ev,show decide (a1≠x1\/(a1=x1/\a2≠x2))=false by simp;omega];rfl
     have Ci:=hide (XI.out hv)
     clear hv ev XI HST
     subst v1 v2
     gi_wp2_with fail
     refine dm 22 [] [] hm (h:=?_)
     repeat (refine au (fun K hK=>?_);go_simp;first|(refine hK _ ?_;clear hK K)|(apply Exists.intro;refine⟨fun _=>?_,hK _ ?_⟩;(go_at_call 109;first|with_reducible exact kt1.out _|with_reducible exact kt2.out _|with_reducible exact kt3.out _|with_reducible exact kt4.out _);clear hK K))
     refine CE fun nqz NC=>?_
     try simp only[Act.put,aG]
     try dsimp only
     gi_wp2_with fail
     all_goals repeat (refine⟨trivial,?_⟩;(try ((with_reducible refine (CallsIn.inRound l (callsIn_wide.2 (ko.out _))).mono ?_);rintro e w' ⟨rfl,⟨_,_⟩,rfl⟩;dsimp only));(try ((with_reducible refine (CallsIn.inRound l (callsIn_wide.2 (kp1.out _ (XX.out.trans gw)))).mono ?_);rintro e w' ⟨rfl,⟨_,_⟩,rfl⟩;dsimp only));(try ((with_reducible refine (CallsIn.inRound l (callsIn_wide.2 (kp2.out _ (XX.out.trans gw)))).mono ?_);rintro e w' ⟨rfl,⟨_,_⟩,rfl⟩;dsimp only));gi_wp2_with fail;try any_goals (exact (rX (by assumption)).elim))
     all_goals exact⟨(iP.out.trans gw).aV _,iC.grew (iP.out.trans gw),⟨HB.out.trans ((iP.out.trans gw).below.mono HB.out.size),Hb.out.grew (iP.out.trans gw)⟩,Ci.out⟩
    ·have hv:jb ps (x1,x2) (y1,y2) i=true:=by rw[ev,show decide (a1≠y1\/(a1=y1/\a2≠y2))=false by simp;omega,Bool.false_and,Bool.and_false];rfl
     have Ci:=hide (XI.out hv)
     clear hv ev XI HST
     subst v2 v3
     rcases v1 with v1|⟨v1,v2⟩
     all_goals
      try subst v1
      gi_wp2_with fail
      refine dm 22 [] [] hm (h:=?_)
      repeat (refine au (fun K hK=>?_);go_simp;first|(refine hK _ ?_;clear hK K)|(apply Exists.intro;refine⟨fun _=>?_,hK _ ?_⟩;(go_at_call 109;first|with_reducible exact kt1.out _|with_reducible exact kt2.out _|with_reducible exact kt3.out _|with_reducible exact kt4.out _);clear hK K))
      refine CE fun nqz NC=>?_
      try simp only[Act.put,aG]
      try dsimp only
      gi_wp2_with fail
      all_goals repeat (refine⟨trivial,?_⟩;(try ((with_reducible refine (CallsIn.inRound l (callsIn_wide.2 (ko.out _))).mono ?_);rintro e w' ⟨rfl,⟨_,_⟩,rfl⟩;dsimp only));(try ((with_reducible refine (CallsIn.inRound l (callsIn_wide.2 (kp1.out _ (XX.out.trans gw)))).mono ?_);rintro e w' ⟨rfl,⟨_,_⟩,rfl⟩;dsimp only));(try ((with_reducible refine (CallsIn.inRound l (callsIn_wide.2 (kp2.out _ (XX.out.trans gw)))).mono ?_);rintro e w' ⟨rfl,⟨_,_⟩,rfl⟩;dsimp only));gi_wp2_with fail;try any_goals (exact (rX (by assumption)).elim))
      all_goals exact⟨(iP.out.trans gw).aV _,iC.grew (iP.out.trans gw),⟨HB.out.trans ((iP.out.trans gw).below.mono HB.out.size),Hb.out.grew (iP.out.trans gw)⟩,Ci.out⟩
    ·rw[show decide (a1≠x1\/(a1=x1/\a2≠x2))=true by simpa using v1,show decide (a1≠y1\/(a1=y1/\a2≠y2))=true by simpa using v2,Bool.true_and,Bool.true_and] at ev
     have EV:=hide ev
     clear ev
     have hop:((o=false)\/(o=true/\p1'=true/\p2'=true))\/((o=true/\p1'=false)\/(o=true/\p1'=true/\p2'=false)):=by
      cases o<;>cases p1'<;>cases p2'<;>simp
     rcases hop with hop|hop
     ·have hv:jb ps (x1,x2) (y1,y2) i=true:=by rw[EV.out];rcases hop with rfl|⟨rfl,rfl,rfl⟩<;>rfl
      have Ci:=hide (XI.out hv)
      clear hv EV XI HST
      rcases hop with rfl|⟨rfl,rfl,rfl⟩<;>rcases v1 with v1|⟨v1,v3⟩<;>rcases v2 with v2|⟨v2,v4⟩
      all_goals
       try subst v1
       try subst v2
       gi_wp2_with fail
       refine dm 22 [] [] hm (h:=?_)
       repeat (refine au (fun K hK=>?_);go_simp;first|(refine hK _ ?_;clear hK K)|(apply Exists.intro;refine⟨fun _=>?_,hK _ ?_⟩;(go_at_call 109;first|with_reducible exact kt1.out _|with_reducible exact kt2.out _|with_reducible exact kt3.out _|with_reducible exact kt4.out _);clear hK K))
       refine CE fun nqz NC=>?_
       try simp only[Act.put,aG]
       try dsimp only
       gi_wp2_with fail
       all_goals repeat (refine⟨trivial,?_⟩;(try ((with_reducible refine (CallsIn.inRound l (callsIn_wide.2 (ko.out _))).mono ?_);rintro e w' ⟨rfl,⟨_,_⟩,rfl⟩;dsimp only));(try ((with_reducible refine (CallsIn.inRound l (callsIn_wide.2 (kp1.out _ (XX.out.trans gw)))).mono ?_);rintro e w' ⟨rfl,⟨_,_⟩,rfl⟩;dsimp only));(try ((with_reducible refine (CallsIn.inRound l (callsIn_wide.2 (kp2.out _ (XX.out.trans gw)))).mono ?_);rintro e w' ⟨rfl,⟨_,_⟩,rfl⟩;dsimp only));gi_wp2_with fail;try any_goals (exact (rX (by assumption)).elim))
       all_goals exact⟨(iP.out.trans gw).aV _,iC.grew (iP.out.trans gw),⟨HB.out.trans ((iP.out.trans gw).below.mono HB.out.size),Hb.out.grew (iP.out.trans gw)⟩,Ci.out⟩
     ·have hv:jb ps (x1,x2) (y1,y2) i=false:=by rw[EV.out];rcases hop with⟨rfl,rfl⟩|⟨rfl,rfl,rfl⟩<;>simp
      have HR0:=hide (HST.out hv)
      clear hv EV XI HST
      rcases hop with⟨rfl,rfl⟩|⟨rfl,rfl,rfl⟩<;>rcases v1 with v1|⟨v1,v3⟩<;>rcases v2 with v2|⟨v2,v4⟩
      all_goals
       try subst v1
       try subst v2
       gi_wp2_with fail
       refine dm 22 [] [] hm (h:=?_)
       repeat (refine au (fun K hK=>?_);go_simp;first|(refine hK _ ?_;clear hK K)|(apply Exists.intro;refine⟨fun _=>?_,hK _ ?_⟩;(go_at_call 109;first|with_reducible exact kt1.out _|with_reducible exact kt2.out _|with_reducible exact kt3.out _|with_reducible exact kt4.out _);clear hK K))
       refine CE fun nqz NC=>?_
       try simp only[Act.put,aG]
       try dsimp only
       gi_wp2_with fail
       all_goals repeat (refine⟨trivial,?_⟩;(try ((with_reducible refine (CallsIn.inRound l (callsIn_wide.2 (ko.out _))).mono ?_);rintro e w' ⟨rfl,⟨_,_⟩,rfl⟩;dsimp only));(try ((with_reducible refine (CallsIn.inRound l (callsIn_wide.2 (kp1.out _ (XX.out.trans gw)))).mono ?_);rintro e w' ⟨rfl,⟨_,_⟩,rfl⟩;dsimp only));(try ((with_reducible refine (CallsIn.inRound l (callsIn_wide.2 (kp2.out _ (XX.out.trans gw)))).mono ?_);rintro e w' ⟨rfl,⟨_,_⟩,rfl⟩;dsimp only));gi_wp2_with fail;try any_goals (exact (rX (by assumption)).elim))
       all_goals exact⟨jW (b:=w.heap.size+3) sK ⟨_,aen.out,rfl⟩,⟨gq (b:=w.heap.size+3) sK HB.out (by omega),(by repeat (with_reducible first|assumption|exact Hid.out (by assumption)|refine dY ?_ _ _|refine Boxed.set (v:=.bool false) _ ?_|refine lX ?_ (Hid.out (by assumption))|(refine dM ?_ (Hid.out (by assumption)))))⟩,rfl,HR0.out⟩
 case done =>
  subst ha
  rintro D xs W hD hS ⟨⟨hB,hb⟩,hp⟩ hK
  have b1:Boxed W (w.heap.size+3) _ _:=hb.box 3 rfl
  have c1:=b1.cell
  have f1:=b1.frozen
  obtain rfl:rr=true:=by
   rw[<-HRR.out,List.all_eq_true]
   intro j hj
   rw[<-hS] at hj
   obtain⟨j',hj',rfl⟩:=List.mem_map.1 hj
   exact hp j' hj'
  have HB:=hide hB
  clear hB hb hS hp b1
  gi_wp2_with fail
  have hK2:=(KeepsOthers.setCell W ⟨w.heap.size+3,0,none⟩ (.bool true)).same D _ hK rfl
  refine⟨by simp,.inl ⟨_,_,rfl,run_takeDeferred hK2,?_⟩⟩
  have hb5:=(HB.out.setCell (p:=⟨w.heap.size+3,0,none⟩) (by simp) (.bool true)).trans (belowK_b (w:=w) (Nat.le_refl _) _ D _ (.deferred none) (by omega) hK2 rfl rfl)
  have e3:((W.setCell ⟨w.heap.size+3,0,none⟩ (.bool true)).putObj D (.deferred none)).cell? ⟨w.heap.size+3,0,none⟩=some (.bool true):=by
   rw[aU (by omega)]
   go_simp
  refine⟨.bool true,by simp[results,Tryz.results215,go_sem,e3],?_⟩
  exact aB.mk' rfl (Grew.of_below hb5)
 case stop =>
  subst ha
  rintro D e pre W hD hr ⟨⟨hB,hb1⟩,rfl,rfl⟩ hK
  have c3:W.cell? ⟨w.heap.size+3,0,none⟩=_:=hb1.cell
  have HB:=hide hB
  clear hB hb1 hr
  gi_wp2_with fail
  refine⟨by simp,.inl ⟨_,_,rfl,run_takeDeferred hK,?_⟩⟩
  have hb5:=HB.out.trans (belowK_b (w:=w) (Nat.le_refl _) _ D _ (.deferred none) (by omega) hK rfl rfl)
  have e3:=(aU (W:=W) (D:=D) (i:=0) (o:=.deferred none) (b:=w.heap.size+3) (by omega)).trans c3
  refine⟨.bool false,by simp[results,Tryz.results215,go_sem,e3],?_⟩
  exact aB.mk' rfl (Grew.of_below hb5)
set_option maxHeartbeats 8000000
set_option maxRecDepth 100000
def nT (ps:List Pt)(q:Pt)(r:Int)(is:List Nat):Bool:=is.any fun i=>oW q (ai ps i) (ai ps (i+1)) r
def iF (ps:List Pt)(q:Pt)(r:Int)(is:List Nat):Bool:=is.all fun i=>apartB q (ai ps i) (ai ps (i+1)) r
def jS (ps:List Pt)(q:Pt)(r:Int):Int :=
 if 0<=placeOf ps q then (if iF ps q r (List.range ps.length)=true then 1 else 0)
 else (if nT ps q r (List.range ps.length)=true then 0 else -1)
def uy (ps:List Pt)(q:Pt)(r:Int):Int×Int:=if (di ps&&(q.ok&&lu r))=true then (jS ps q r,0) else (0,1)
theorem aag (ps:List Pt)(A:Option Addr)(c:Nat)(q:Pt)(r:Int)(w:World)(hr:Rd w w.heap.size 2 A (ps.map dU))(hc:ps.length<=100000000000000)(h:(di ps&&(q.ok&&lu r))=false) :
  Calls Tryz.prog 210 #[.slice A ps.length c,pt q.1 q.2,.int .i64 r] w (aB w (.tuple #[.int .i64 0,.int .i64 1])):=by
 have hm:=aQ
 obtain⟨u,hu⟩:∃u,q.ok=u:=⟨_,rfl⟩
 obtain⟨v,hv⟩:∃u,di ps=u:=⟨_,rfl⟩
 rw[hu,hv] at h
 have k1:=hide (fun W=>dP q.1 q.2 u W hu)
 have k2:=hide (fun W (hg:Grew w W)=>jJ ps A c v W (hr.up hg) hc hv)
 clear hu hv
 obtain⟨x1,x2⟩:=q
 have hcase:v=false\/(v=true/\u=false)\/(v=true/\u=true/\r<0)\/(v=true/\u=true/\¬ r<0/\3000000<r):=by
  cases v
  ·exact .inl rfl
  ·cases u
   ·exact .inr (.inl ⟨rfl,rfl⟩)
   ·simp[lu] at h
    by_cases h1:r<0
    ·exact .inr (.inr (.inl ⟨rfl,rfl,h1⟩))
    ·exact .inr (.inr (.inr ⟨rfl,rfl,h1,by omega⟩))
 clear h
 rcases hcase with rfl|⟨rfl,rfl⟩|⟨rfl,rfl,h1⟩|⟨rfl,rfl,h1,h2⟩
 all_goals
  go_enter Tryz.func210,Tryz.ntmps210
  go_wp2_with (first|(go_at_call 49;with_reducible refine aT (k1.out _) fun _ _=>?_;dsimp only)|(go_at_call 88;with_reducible refine aT (k2.out _ gw) fun _ _=>?_;dsimp only))
  go_ret2
  exact aB.mk' rfl gw
theorem Bx.adu {W:World}{n0 b i:Nat}{v:Value}{os:List Obj}(h:Bx W n0 os)(hb:n0+os.length<=b):Bx (W.setCell ⟨b,i,none⟩ v) n0 os:=fun j o ho=>(heap_setCell_other W ⟨b,i,none⟩ (n0+j) v (fun e=>by
  have:=(List.getElem?_eq_some_iff.1 ho).1
  dsimp only at e
  omega)).trans (h j o ho)
theorem Iw (ps:List Pt)(q:Pt)(r:Int)(is:List Nat)(i:Nat):nT ps q r (is++[i])=(nT ps q r is||oW q (ai ps i) (ai ps (i+1)) r):=by unfold nT;simp
theorem FO (ps:List Pt)(q:Pt)(r:Int)(is:List Nat)(i:Nat):iF ps q r (is++[i])=(iF ps q r is&&apartB q (ai ps i) (ai ps (i+1)) r):=by unfold iF;simp
theorem ZX (p a b:Pt)(d:Int)(r:Bool)(w:World)(hp:p.ok=true)(ha:a.ok=true)(hb:b.ok=true)(hd:lu d=true)(h:oW p a b d=r) :
  Calls Tryz.prog 122 #[pt p.1 p.2,pt a.1 a.2,pt b.1 b.2,.int .i64 d] w (aB w (.tuple #[.bool r,.int .i64 0])):=by
 have:=Me p a b d w
 have e:kL p a b d=(oW p a b d,0):=by unfold kL;rw[hp,ha,hb,hd];rfl
 rw[e,h] at this
 exact this
theorem aap (p a b:Pt)(d:Int)(r:Bool)(w:World)(hp:p.ok=true)(ha:a.ok=true)(hb:b.ok=true)(hd:lu d=true)(h:apartB p a b d=r) :
  Calls Tryz.prog 214 #[pt p.1 p.2,pt a.1 a.2,pt b.1 b.2,.int .i64 d] w (aB w (.tuple #[.bool r,.int .i64 0])):=by
 have:=XU p a b d w hp ha hb (zk hd)
 rwa [h] at this
theorem XO (ps:List Pt)(A:Option Addr)(c:Nat)(q:Pt)(r:Int)(w:World)(hr:Rd w w.heap.size 2 A (ps.map dU))(hv:di ps=true)(hu:q.ok=true)(hd:lu r=true) :
  Calls Tryz.prog 210 #[.slice A ps.length c,pt q.1 q.2,.int .i64 r] w (aB w (.tuple #[.int .i64 (jS ps q r),.int .i64 0])):=by
 have hm:=aQ
 have hp:=jV hv
 have hdb:=zk hd
 obtain⟨at',hat⟩:∃p,placeOf ps q=p:=⟨_,rfl⟩
 have k1:=hide (fun W=>dP q.1 q.2 true W hu)
 have k2:=hide (fun W (hg:Grew w W)=>jJ ps A c true W (hr.up hg) (by omega) hv)
 have k3:=hide (fun W (hg:Grew w W)=>qL ps A c q at' W (hr.up hg) (by omega) hp.2 hu hat)
 have HR:=hide hr
 have uV:=hide hp.2
 have HQ:=hide hu
 have HD:=hide hd
 have hl:ps.length<=24:=hp.1.2
 obtain⟨rr,hrr⟩:∃v,jS ps q r=v:=⟨_,rfl⟩
 rw[hrr]
 unfold jS at hrr
 rw[hat] at hrr
 have HRR:=hide hrr
 have h1:¬ r<0:=by omega
 have h2:¬ 3000000<r:=by omega
 clear hr hv hu hd hp hat hrr
 refine (callsIn_wide (n:=13)).1 ?_
 refine callsIn_of_wp_marks Tryz.func210 rfl trivial ?_ rfl
 simp only[Tryz.ntmps210,List.size_toArray,List.length_cons,List.length_nil,Nat.reduceAdd,Nat.reduceSub,Array.replicate_succ,Array.replicate_zero,List.push_toArray,List.append_toArray,List.nil_append,List.cons_append]
 gi_wp2_with fail
 refine⟨trivial,?_⟩
 refine (callsIn_wide.2 (k2.out _ gw)).mono ?_
 rintro e w' ⟨rfl,⟨n1,os1⟩,rfl⟩
 dsimp only
 gi_wp2_with fail
 refine⟨trivial,?_⟩
 refine (callsIn_wide.2 (k1.out _)).mono ?_
 rintro e w' ⟨rfl,hg1⟩
 obtain⟨bx,hbx⟩:∃bx:List Obj,bx=[.cells #[.int .i64 q.1,.int .i64 q.2] 28 (0,0),.cells #[.int .i64 r] 3 (0,0)]:=⟨_,rfl⟩
 have hb1:Bx w' w.heap.size bx:=by rw[hbx];refine (Bx.lH _ w).1.grew ?_;simp only[List.foldl];exact Grew.trans gw hg1
 have hw1:Grew w w':=Grew.trans gw hg1
 have hz1:w.heap.size+2<=w'.heap.size:=by
  have:=hb1 1 _ (by rw[hbx];rfl)
  have:=ax this
  omega
 clear hg1
 subst hbx
 have c0:w'.cell? ⟨w.heap.size,0,none⟩=some (.int .i64 q.1):=ag (hb1 0 _ rfl) 0
 have c1:w'.cell? ⟨w.heap.size,1,none⟩=some (.int .i64 q.2):=ag (hb1 0 _ rfl) 1
 have c2:w'.cell? ⟨w.heap.size+1,0,none⟩=some (.int .i64 r):=(hb1.box 1 rfl).cell
 have m0:w.heap.size<w'.heap.size:=by omega
 have m1:w.heap.size+1<w'.heap.size:=by omega
 have Hb1:=hide hb1
 have Hw1:=hide hw1
 clear hb1 hw1
 dsimp only
 gi_wp2_with fail
 refine⟨trivial,?_⟩
 refine (callsIn_wide.2 (jY _ _ _ _)).mono ?_
 rintro e w'' ⟨rfl,rfl⟩
 dsimp only
 gi_wp2_with fail
 refine dJ ?_
 intro a0 W0 ha hW
 have um:Grew w' W0:=by rw[<-hW];exact gw
 have hg0:Grew w W0:=Hw1.out.trans um
 have hb0:=Hb1.out.grew um
 have hn0:Boxed W0 w'.heap.size 4 (.bool false):=by rw[<-hW];exact (heap_alloc_old _ _ (by simp;omega)).trans ((heap_alloc_old _ _ (by simp)).trans (heap_alloc_new _ _))
 have ha0:Boxed W0 (w'.heap.size+1) 4 (.bool true):=by rw[<-hW];exact (heap_alloc_old _ _ (by simp)).trans (az _ _ _ (by simp))
 have hk0:W0.heap[w'.heap.size+2]?=some (.cells #[.slice A ps.length c] 174 (0,0)):=by rw[<-hW];exact az _ _ _ (by simp)
 have hsz:W0.heap.size=w'.heap.size+3:=by rw[<-hW];simp
 clear hW c0 c1 c2 um
 obtain⟨Z,hZ⟩:∃Z,w'.heap.size=Z:=⟨_,rfl⟩
 rw[hZ] at hn0 ha0 hk0 hsz hz1 m0 m1
 have ha2:a0.eval (.tmp 34)=.func (.func 153) #[] #[.pointer (some ⟨Z+2,0,none⟩)]:=by rw[<-ha,<-hZ];simp[Act.eval]
 refine wpIn_rangeFunc_ownH (n:=13) rfl (by omega) (gf:=153) (lb:=#[.pointer (some ⟨Z+2,0,none⟩)]) ha2 trivial (enters_of Tryz.func153 (by kernel_rfl) rfl)
  (gG 12 w.heap.size (fun b _=>b=Z\/b=Z+1) ps A c (Z+2) W0 (fun b _ hb=>by omega) hk0 (HR.out.grew hg0 (Nat.le_refl _)) (by omega) (by omega))
  (fun h k=>h.trans k) iC.bk (Below.refl _ _) (fun _=>rfl)
  (fun pre W=>((Below w.heap.size w W/\Bx W w.heap.size _)/\Boxed W Z 4 (.bool (nT ps q r (pre.map Fin.val))))/\Boxed W (Z+1) 4 (.bool (iF ps q r (pre.map Fin.val))))
  (fun _ _ _=>False)
  (OwnFrom.and (OwnFrom.and (OwnFrom.and (ownFrom_below (Nat.le_refl _) hg0.below.size) (Bx.own (by simp;omega))) (Own.from (boxed_own _ _ _) _)) (Own.from (boxed_own _ _ _) _))
  (fun q=>ownFrom_pure _)
  ⟨⟨⟨hg0.below,hb0⟩,hn0⟩,ha0⟩
  (fun x a' W=>∃B,W.heap[B]?=some (.cells #[.int .i64 (ai ps x.1).1,.int .i64 (ai ps x.1).2,.int .i64 (ai ps (x.1+1)).1,.int .i64 (ai ps (x.1+1)).2] 206 (0,0))/\a'={ tmps:=((a0.tmps.setIfInBounds 35 (.int .i64 (x.1:Nat))).setIfInBounds 36 (.agg #[.int .i64 (ai ps x.1).1,.int .i64 (ai ps x.1).2,.int .i64 (ai ps (x.1+1)).1,.int .i64 (ai ps (x.1+1)).2])).setIfInBounds 11 (.pointer (some ⟨B,0,none⟩)),defers:=[] })
  (fun x a'=>by
   rintro s X Y row ⟨B,h1,h2⟩ hg hr
   exact⟨B,fE h1 hg (fun r e=>(hr r e).2),h2⟩)
  ?assign ?body ?done ?stop
 case assign =>
  rintro l pre x W K ⟨⟨⟨hB,hb⟩,hn⟩,hap⟩ hK
  rw[show CJ ps x=#[.int .i64 (x.1:Nat),.agg #[.int .i64 (ai ps x.1).1,.int .i64 (ai ps x.1).2,.int .i64 (ai ps (x.1+1)).1,.int .i64 (ai ps (x.1+1)).2]] from rfl,FN]
  subst ha
  simp only[List.setIfInBounds_toArray,List.set_cons_succ,List.set_cons_zero] at hK ⊢
  have vT:=hide hK
  have l1:=ax hn
  have l2:=ax hap
  clear hK
  gi_wp2_with fail
  have hgg:Grew W (W.alloc (.cells #[.int .i64 (ai ps x.1).1,.int .i64 (ai ps x.1).2,.int .i64 (ai ps (x.1+1)).1,.int .i64 (ai ps (x.1+1)).2] 206)):=gw
  exact vT.out _ _ (hgg.aV _) (iC.grew hgg) ⟨⟨⟨hB.trans (hgg.below.mono hB.size),hb.grew hgg⟩,(hgg.below.block _ l1).trans hn⟩,(hgg.below.block _ l2).trans hap⟩ ⟨W.heap.size,heap_alloc_new _ _,rfl⟩
 case body =>
  rintro l pre x a' W hl2 hlp ⟨⟨⟨hB,hb⟩,hn⟩,hap⟩ ⟨B,hx,rfl⟩ hlt
  subst ha
  obtain⟨i,hil⟩:=x
  dsimp only at hx
  simp only[List.setIfInBounds_toArray,List.set_cons_succ,List.set_cons_zero]
  have oa:=eu uV.out i
  have ob:=eu uV.out (i+1)
  have hns:=Iw ps q r (pre.map Fin.val) i
  have has:=FO ps q r (pre.map Fin.val) i
  obtain⟨nb,hnb⟩:∃o,nT ps q r (pre.map Fin.val)=o:=⟨_,rfl⟩
  obtain⟨ab,hab⟩:∃o,iF ps q r (pre.map Fin.val)=o:=⟨_,rfl⟩
  obtain⟨n',hn'⟩:∃o,oW q (ai ps i) (ai ps (i+1)) r=o:=⟨_,rfl⟩
  obtain⟨a',ha'⟩:∃o,apartB q (ai ps i) (ai ps (i+1)) r=o:=⟨_,rfl⟩
  rw[hnb,hn'] at hns
  rw[hab,ha'] at has
  rw[hnb] at hn
  rw[hab] at hap
  have kn:=hide (fun W'=>ZX q (ai ps i) (ai ps (i+1)) r n' W' HQ.out oa ob HD.out hn')
  have ka:=hide (fun W'=>aap q (ai ps i) (ai ps (i+1)) r a' W' HQ.out oa ob HD.out ha')
  have HNS:=hide hns
  have HAS:=hide has
  clear hns has hnb hab hn' ha' hlt
  generalize ai ps i=a at *
  generalize ai ps (i+1)=b at *
  obtain⟨a1,a2⟩:=a
  obtain⟨b1,b2⟩:=b
  obtain⟨x1,x2⟩:=q
  dsimp only at hx hb ⊢
  have c0:W.cell? ⟨w.heap.size,0,none⟩=some (.int .i64 x1):=ag (hb 0 _ rfl) 0
  have c1:W.cell? ⟨w.heap.size,1,none⟩=some (.int .i64 x2):=ag (hb 0 _ rfl) 1
  have c2:W.cell? ⟨w.heap.size+1,0,none⟩=some (.int .i64 r):=(hb.box 1 rfl).cell
  have c3:W.cell? ⟨Z,0,none⟩=_:=hn.cell
  have f3:W.frozen? ⟨Z,0,none⟩=_:=hn.frozen
  have c4:W.cell? ⟨Z+1,0,none⟩=_:=hap.cell
  have f4:W.frozen? ⟨Z+1,0,none⟩=_:=hap.frozen
  have d0:W.cell? ⟨B,0,none⟩=some _:=ag hx 0
  have d1:W.cell? ⟨B,1,none⟩=some _:=ag hx 1
  have d2:W.cell? ⟨B,2,none⟩=some _:=ag hx 2
  have d3:W.cell? ⟨B,3,none⟩=some _:=ag hx 3
  have l4:=hap.lt
  have l3:=hn.lt
  have l1:w.heap.size+1<W.heap.size:=by omega
  have l0:w.heap.size<W.heap.size:=by omega
  have lB:=ax hx
  have HB:=hide hB
  have Hb:=hide hb
  have Hn:=hide hn
  have Ha:=hide hap
  clear hB hb hx hn hap
  gi_wp2_with fail
  refine⟨trivial,?_⟩
  refine (CallsIn.inRound l (callsIn_wide.2 (kn.out _))).mono ?_
  rintro e w9 ⟨rfl,⟨n5,Fh⟩,rfl⟩
  dsimp only
  gi_wp2_with fail
  refine⟨trivial,?_⟩
  refine (CallsIn.inRound l (callsIn_wide.2 (ka.out _))).mono ?_
  rintro e w9 ⟨rfl,⟨n6,os6⟩,rfl⟩
  dsimp only
  cases nb<;>cases ab
  all_goals
   gi_wp2_with fail
   have hb2:=fun (u v:Value)=>(HB.out.setCell (p:=⟨Z,0,none⟩) (by dsimp only;omega) u).setCell (p:=⟨Z+1,0,none⟩) (by dsimp only;omega) v
   have hbx2:=fun (u v:Value)=>((Hb.out.adu (b:=Z) (i:=0) (v:=u) (by simp;omega)).adu (b:=Z+1) (i:=0) (v:=v) (by simp;omega))
   refine⟨(KeepsFrom.setCell _ _ _ _).trans ((KeepsFrom.setCell _ _ _ _).trans ((Grew.mk _ _ _).aV _)),(iC.set _ _ _ _ (fun _=>.inl rfl)).trans ((iC.set _ _ _ _ (fun _=>.inr rfl)).trans (iC.grew (Grew.mk _ _ _))),⟨⟨⟨(hb2 _ _).trans ((Grew.mk _ _ _).below.mono (hb2 _ _).size),(hbx2 _ _).grew (Grew.mk _ _ _)⟩,?_⟩,?_⟩⟩
   ·rw[List.map_append,show [(⟨i,hil⟩:Fin ps.length)].map Fin.val=[i] from rfl,HNS.out]
    exact dY ((Hn.out.set _).other (by omega) _) _ _
   ·rw[List.map_append,show [(⟨i,hil⟩:Fin ps.length)].map Fin.val=[i] from rfl,HAS.out]
    exact dY ((Ha.out.other (by omega) _).set _) _ _
 case done =>
  subst ha
  rintro D xs W hD hS ⟨⟨⟨hB,hb⟩,hn⟩,hap⟩ hK
  rw[hS] at hn hap
  obtain⟨nb,hnb⟩:∃o,nT ps q r (List.range ps.length)=o:=⟨_,rfl⟩
  obtain⟨ab,hab⟩:∃o,iF ps q r (List.range ps.length)=o:=⟨_,rfl⟩
  rw[hnb] at hn
  rw[hab] at hap
  have hrr:=HRR.out
  rw[hnb,hab] at hrr
  have c0:W.cell? ⟨w.heap.size,0,none⟩=some (.int .i64 q.1):=ag (hb 0 _ rfl) 0
  have c1:W.cell? ⟨w.heap.size,1,none⟩=some (.int .i64 q.2):=ag (hb 0 _ rfl) 1
  have c3:W.cell? ⟨Z,0,none⟩=_:=hn.cell
  have c4:W.cell? ⟨Z+1,0,none⟩=_:=hap.cell
  have l4:=hap.lt
  have l3:=hn.lt
  have l0:w.heap.size<W.heap.size:=by omega
  have XY:Grew w W:=Grew.of_below hB
  have HB:=hide hB
  have HW:=hide XY
  have Z8:=hide hrr
  have hKl:=ax hK
  have HK:=hide hK
  clear hB hb hn hap hS hnb hab hrr HRR XY hK
  gi_wp2_with fail
  refine⟨trivial,?_⟩
  refine (callsIn_wide.2 (k3.out _ HW.out)).mono ?_
  rintro e w9 ⟨rfl,⟨n5,Fh⟩,rfl⟩
  dsimp only
  have hK2:(grow (dr W n5) Fh).heap[D]?=some (.deferred (some [])):=(heap_grow_old _ _ hKl).trans HK.out
  have HK2:=hide hK2
  have hb5:Below w.heap.size w ((grow (dr W n5) Fh).putObj D (.deferred none)):=(HB.out.trans ((Grew.mk W n5 Fh).below.mono HB.out.size)).trans (belowK_b (w:=w) (Nat.le_refl _) _ D _ (.deferred none) (by omega) hK2 rfl rfl)
  have HB5:=hide hb5
  clear hK2 hb5
  by_cases h0:0<=at'
  ·rw[if_pos h0] at Z8
   have h0':¬ at'<0:=by omega
   cases ab
   all_goals
    obtain rfl:=Z8.out
    gi_wp2_with fail
    refine⟨by simp,.inl ⟨_,_,rfl,run_takeDeferred HK2.out,?_⟩⟩
    refine⟨.tuple #[.int .i64 _,.int .i64 0],by simp[results,Tryz.results210,go_sem];rfl,?_⟩
    exact aB.mk' rfl (Grew.of_below HB5.out)
  ·rw[if_neg h0] at Z8
   have h0':at'<0:=by omega
   cases nb
   all_goals
    obtain rfl:=Z8.out
    gi_wp2_with fail
    refine⟨by simp,.inl ⟨_,_,rfl,run_takeDeferred HK2.out,?_⟩⟩
    refine⟨.tuple #[.int .i64 _,.int .i64 0],by simp[results,Tryz.results210,go_sem];rfl,?_⟩
    exact aB.mk' rfl (Grew.of_below HB5.out)
 case stop=>exact fun _ _ _ _ _ _ h _=>h.elim
theorem XP (ps:List Pt)(A:Option Addr)(c:Nat)(q:Pt)(r:Int)(d:Int×Int)(w:World)(hr:Rd w w.heap.size 2 A (ps.map dU))(hc:ps.length<=100000000000000)(h:uy ps q r=d) :
  Calls Tryz.prog 210 #[.slice A ps.length c,pt q.1 q.2,.int .i64 r] w (aB w (.tuple #[.int .i64 d.1,.int .i64 d.2])):=by
 subst h
 unfold uy
 cases h:di ps&&(q.ok&&lu r)
 ·exact aag ps A c q r w hr hc h
 ·simp only[Bool.and_eq_true] at h
  exact XO ps A c q r w hr h.1 h.2.1 h.2.2
theorem uO (P:Program)(w:World)(a:Addr)(m:Mode)(f:Fn)(xs ys):(store a (.func f xs ys) m).run P w=stored P w a (.func f xs ys) m:=run_store P w a _ m rfl
attribute [local go_sem] uO
theorem aeo (ps:List Pt)(A:Option Addr)(c:Nat)(a b:Pt)(r:Bool)(w:World)(hr:Rd w w.heap.size 2 A (ps.map dU))(hl:ps.length<=100)(hok:ps.all Pt.ok=true)(ha:a.ok=true)(hb:b.ok=true)(h:vP ps a b=r) :
  Calls Tryz.prog 215 #[.slice A ps.length c,pt a.1 a.2,pt b.1 b.2] w (aB w (.bool r)):=by
 subst h
 unfold vP
 cases h:uo ps a b
 ·exact ab6 ps A c a b w hr hl hok ha hb h
 ·rw[Bool.true_and]
  exact Y5 ps A c a b w hr hl hok ha hb h
def AQ (ps qs:List Pt)(i:Nat):Bool:=vP ps (ai qs i) (ai qs (i+1))
def tV (ps qs:List Pt):Bool:=(List.range qs.length).all (AQ ps qs)
def sH (ps qs:List Pt):Bool×Int:=if (di ps&&di qs)=true then (tV ps qs,0) else (false,1)
theorem TF (ps qs:List Pt)(A A':Option Addr)(c c':Nat)(w:World)(hr:Rd w w.heap.size 2 A (ps.map dU))(hr':Rd w w.heap.size 2 A' (qs.map dU))(hc:ps.length<=100000000000000)(hc':qs.length<=100000000000000)(h:(di ps&&di qs)=false) :
  Calls Tryz.prog 211 #[.slice A ps.length c,.slice A' qs.length c'] w (aB w (.tuple #[.bool false,.int .i64 1])):=by
 have hm:=aQ
 obtain⟨u,hu⟩:∃u,di ps=u:=⟨_,rfl⟩
 obtain⟨v,hv⟩:∃u,di qs=u:=⟨_,rfl⟩
 rw[hu,hv] at h
 have k1:=hide (fun W (hg:Grew w W)=>jJ ps A c u W (hr.up hg) hc hu)
 have k2:=hide (fun W (hg:Grew w W)=>jJ qs A' c' v W (hr'.up hg) hc' hv)
 clear hu hv
 have hcase:u=false\/(u=true/\v=false):=by
  cases u
  ·exact .inl rfl
  ·cases v
   ·exact .inr ⟨rfl,rfl⟩
   ·simp at h
 clear h
 rcases hcase with rfl|⟨rfl,rfl⟩
 all_goals
  go_enter Tryz.func211,Tryz.ntmps211
  go_wp2_with (first|(go_at_call 88;with_reducible refine aT (k1.out _ gw) fun _ _=>?_;dsimp only)|(go_at_call 88;with_reducible refine aT (k2.out _ gw) fun _ _=>?_;dsimp only))
  refine bodyPost_ret (v:=.tuple #[.bool false,.int .i64 1]) (by simp[results,Tryz.results211,go_sem]) rfl ?_
  exact aB.mk' rfl gw
theorem OI (ps qs:List Pt)(A A':Option Addr)(c c':Nat)(w:World)(hr:Rd w w.heap.size 2 A (ps.map dU))(hr':Rd w w.heap.size 2 A' (qs.map dU))(hu:di ps=true)(hv:di qs=true) :
  Calls Tryz.prog 211 #[.slice A ps.length c,.slice A' qs.length c'] w (aB w (.tuple #[.bool (tV ps qs),.int .i64 0])):=by
 have hm:=aQ
 have hp:=jV hu
 have hq:=jV hv
 have k1:=hide (fun W (hg:Grew w W)=>jJ ps A c true W (hr.up hg) (by omega) hu)
 have k2:=hide (fun W (hg:Grew w W)=>jJ qs A' c' true W (hr'.up hg) (by omega) hv)
 have kh:=hide (fun (a b:Pt) (r:Bool) (ha:a.ok=true) (hb:b.ok=true) (h:vP ps a b=r) W (hg:Grew w W)=>aeo ps A c a b r W (hr.up hg) (by omega) hp.2 ha hb h)
 have HR:=hide hr'
 have uV:=hide hq.2
 have hl:qs.length<=24:=hq.1.2
 obtain⟨rr,hrr⟩:∃v,tV ps qs=v:=⟨_,rfl⟩
 rw[hrr]
 have HRR:=hide hrr
 clear hr hr' hu hv hp hq hrr
 refine (callsIn_wide (n:=13)).1 ?_
 refine callsIn_of_wp_marks Tryz.func211 rfl trivial ?_ rfl
 simp only[Tryz.ntmps211,List.size_toArray,List.length_cons,List.length_nil,Nat.reduceAdd,Nat.reduceSub,Array.replicate_succ,Array.replicate_zero,List.push_toArray,List.append_toArray,List.nil_append,List.cons_append]
 gi_wp2_with fail
 refine⟨trivial,?_⟩
 refine (callsIn_wide.2 (k1.out _ gw)).mono ?_
 rintro e w' ⟨rfl,⟨n1,os1⟩,rfl⟩
 dsimp only
 gi_wp2_with fail
 refine⟨trivial,?_⟩
 refine (callsIn_wide.2 (k2.out _ gw)).mono ?_
 rintro e w' ⟨rfl,hg1⟩
 obtain⟨bx,hbx⟩:∃bx:List Obj,bx=[.cells #[.bool false] 4 (0,0),.cells #[.int .i64 0] 31 (0,0)]:=⟨_,rfl⟩
 have hb1:Bx w' w.heap.size bx:=by rw[hbx];refine (Bx.lH _ w).1.grew ?_;simp only[List.foldl];exact Grew.trans gw hg1
 have hw1:Grew w w':=Grew.trans gw hg1
 have hz1:w.heap.size+2<=w'.heap.size:=by
  have:=hb1 1 _ (by rw[hbx];rfl)
  have:=ax this
  omega
 clear hg1
 subst hbx
 have Hb1:=hide hb1
 have Hw1:=hide hw1
 clear hb1 hw1
 dsimp only
 gi_wp2_with fail
 refine⟨trivial,?_⟩
 refine (callsIn_wide.2 (jY _ _ _ _)).mono ?_
 rintro e w'' ⟨rfl,rfl⟩
 dsimp only
 gi_wp2_with fail
 refine dJ ?_
 intro a0 W0 ha hW
 have um:Grew w' W0:=by rw[<-hW];exact gw
 have hg0:Grew w W0:=Hw1.out.trans um
 have hb0:=Hb1.out.grew um
 have hf0:W0.heap[w'.heap.size]?=some (.cells #[.func (.func 215) #[.slice A ps.length c] #[]] 275 (0,0)):=by rw[<-hW];exact (heap_alloc_old _ _ (by simp)).trans (heap_alloc_new _ _)
 have hk0:W0.heap[w'.heap.size+1]?=some (.cells #[.slice A' qs.length c'] 174 (0,0)):=by rw[<-hW];exact az _ _ _ (by simp)
 have hsz:W0.heap.size=w'.heap.size+2:=by rw[<-hW];simp
 clear hW um
 obtain⟨Z,hZ⟩:∃Z,w'.heap.size=Z:=⟨_,rfl⟩
 rw[hZ] at hf0 hk0 hsz hz1
 have ha2:a0.eval (.tmp 20)=.func (.func 153) #[] #[.pointer (some ⟨Z+1,0,none⟩)]:=by rw[<-ha,<-hZ];simp[Act.eval]
 refine wpIn_rangeFunc_ownH (n:=13) rfl (by omega) (gf:=153) (lb:=#[.pointer (some ⟨Z+1,0,none⟩)]) ha2 trivial (enters_of Tryz.func153 (by kernel_rfl) rfl)
  (gG 12 w.heap.size (fun _ _=>False) qs A' c' (Z+1) W0 (fun b _ hb=>hb.elim) hk0 (HR.out.grew hg0 (Nat.le_refl _)) (by omega) (by omega))
  (fun h k=>h.trans k) iC.bk (Below.refl _ _) (fun _=>rfl)
  (fun pre W=>((Below w.heap.size w W/\Bx W w.heap.size _)/\Boxed W Z 275 (.func (.func 215) #[.slice A ps.length c] #[]))/\∀i∈pre,AQ ps qs i.1=true)
  (fun e pre W=>((Below w.heap.size w W/\Boxed W w.heap.size 4 (.bool false))/\Boxed W (w.heap.size+1) 31 (.int .i64 0))/\(e=.ret/\rr=false))
  (OwnFrom.and (OwnFrom.and (OwnFrom.and (ownFrom_below (Nat.le_refl _) hg0.below.size) (Bx.own (by simp;omega))) (fun s X Y row h1 hg hr=>Own.from (boxed_own (β:=Unit) Z _ (fun _=>_)) _ () X Y row h1 hg hr)) (ownFrom_pure _))
  (fun q=>OwnFrom.and (OwnFrom.and (OwnFrom.and (ownFrom_below (Nat.le_refl _) hg0.below.size) (fun s X Y row h1 hg hr=>Own.from (boxed_own (β:=Unit) _ _ (fun _=>_)) _ () X Y row h1 hg hr)) (fun s X Y row h1 hg hr=>Own.from (boxed_own (β:=Unit) _ _ (fun _=>_)) _ () X Y row h1 hg hr)) (ownFrom_pure _))
  ⟨⟨⟨hg0.below,hb0⟩,hf0⟩,fun i hi=>by cases hi⟩
  (fun x a' W=>∃B,W.heap[B]?=some (.cells #[.int .i64 (ai qs x.1).1,.int .i64 (ai qs x.1).2,.int .i64 (ai qs (x.1+1)).1,.int .i64 (ai qs (x.1+1)).2] 206 (0,0))/\a'={ tmps:=((a0.tmps.setIfInBounds 21 (.int .i64 (x.1:Nat))).setIfInBounds 22 (.agg #[.int .i64 (ai qs x.1).1,.int .i64 (ai qs x.1).2,.int .i64 (ai qs (x.1+1)).1,.int .i64 (ai qs (x.1+1)).2])).setIfInBounds 8 (.pointer (some ⟨B,0,none⟩)),defers:=[] })
  (fun x a'=>by
   rintro s X Y row ⟨B,h1,h2⟩ hg hr
   exact⟨B,fE h1 hg (fun r e=>(hr r e).2),h2⟩)
  ?assign ?body ?done ?stop
 case assign =>
  rintro l pre x W K ⟨⟨⟨hB,hb⟩,hf⟩,hp⟩ hK
  rw[show CJ qs x=#[.int .i64 (x.1:Nat),.agg #[.int .i64 (ai qs x.1).1,.int .i64 (ai qs x.1).2,.int .i64 (ai qs (x.1+1)).1,.int .i64 (ai qs (x.1+1)).2]] from rfl,FN]
  subst ha
  simp only[List.setIfInBounds_toArray,List.set_cons_succ,List.set_cons_zero] at hK ⊢
  have vT:=hide hK
  have l1:=ax hf
  clear hK
  gi_wp2_with fail
  have hgg:Grew W (W.alloc (.cells #[.int .i64 (ai qs x.1).1,.int .i64 (ai qs x.1).2,.int .i64 (ai qs (x.1+1)).1,.int .i64 (ai qs (x.1+1)).2] 206)):=gw
  exact vT.out _ _ (hgg.aV _) (iC.grew hgg) ⟨⟨⟨hB.trans (hgg.below.mono hB.size),hb.grew hgg⟩,(hgg.below.block _ l1).trans hf⟩,hp⟩ ⟨W.heap.size,heap_alloc_new _ _,rfl⟩
 case body =>
  rintro l pre x a' W hl2 hlp ⟨⟨⟨hB,hb⟩,hf⟩,hp⟩ ⟨B,hx,rfl⟩ hlt
  subst ha
  obtain⟨i,hil⟩:=x
  dsimp only at hx
  simp only[List.setIfInBounds_toArray,List.set_cons_succ,List.set_cons_zero]
  have oa:=eu uV.out i
  have ob:=eu uV.out (i+1)
  obtain⟨o,ho⟩:∃o,vP ps (ai qs i) (ai qs (i+1))=o:=⟨_,rfl⟩
  have hoe:AQ ps qs i=o:=ho
  have hnext:o=true->∀i'∈pre++[(⟨i,hil⟩:Fin qs.length)],AQ ps qs i'.1=true:=fun hof i' hi'=>by
   rcases List.mem_append.1 hi' with h|h
   ·exact hp i' h
   ·obtain rfl:=List.mem_singleton.1 h
    rw[<-hof];exact hoe
  have hstop:o=false->rr=false:=fun hof=>by
   rw[<-HRR.out]
   refine List.all_eq_false.2 ⟨i,List.mem_range.2 hil,by rw[hoe,hof];simp⟩
  have kF:=hide hnext
  have qC:=hide hstop
  have ko:=hide (fun W' hg=>kh.out (ai qs i) (ai qs (i+1)) o oa ob ho W' hg)
  clear hnext hstop ho hoe hp hlt
  generalize ai qs i=a at *
  generalize ai qs (i+1)=b at *
  obtain⟨a1,a2⟩:=a
  obtain⟨b1,b2⟩:=b
  dsimp only at hx hb ⊢
  have c3:W.cell? ⟨Z,0,none⟩=_:=Boxed.cell hf
  have c1:W.cell? ⟨w.heap.size,0,none⟩=_:=(hb.box 0 rfl).cell
  have f1:W.frozen? ⟨w.heap.size,0,none⟩=_:=(hb.box 0 rfl).frozen
  have c2:W.cell? ⟨w.heap.size+1,0,none⟩=_:=(hb.box 1 rfl).cell
  have f2:W.frozen? ⟨w.heap.size+1,0,none⟩=_:=(hb.box 1 rfl).frozen
  have d0:W.cell? ⟨B,0,none⟩=some _:=ag hx 0
  have d1:W.cell? ⟨B,1,none⟩=some _:=ag hx 1
  have d2:W.cell? ⟨B,2,none⟩=some _:=ag hx 2
  have d3:W.cell? ⟨B,3,none⟩=some _:=ag hx 3
  have l2:=ax hf
  have l1:w.heap.size+1<W.heap.size:=by omega
  have l0:w.heap.size<W.heap.size:=by omega
  have lB:=ax hx
  have HB:=hide hB
  have Hb:=hide hb
  have Hf:=hide hf
  clear hB hb hx hf
  have hw2:=Grew.of_below HB.out
  have ko2:=hide (ko.out W hw2)
  clear ko hw2
  gi_wp2_with fail
  refine⟨trivial,?_⟩
  refine (CallsIn.inRound l (callsIn_wide.2 ko2.out)).mono ?_
  rintro e w' ⟨rfl,⟨n5,Fh⟩,rfl⟩
  dsimp only
  cases o
  ·have HS2:=hide (qC.out rfl)
   clear kF qC
   gi_wp2_with fail
   have hx1:Boxed W w.heap.size _ _:=Hb.out.box 0 rfl
   have hx2:Boxed W (w.heap.size+1) _ _:=Hb.out.box 1 rfl
   have hb2:=fun (u v:Value)=>(HB.out.setCell (p:=⟨w.heap.size,0,none⟩) (by simp) u).setCell (p:=⟨w.heap.size+1,0,none⟩) (by simp) v
   exact⟨(KeepsFrom.setCell _ _ _ _).trans ((KeepsFrom.setCell _ _ _ _).trans ((Grew.mk _ _ _).aV _)),⟨⟨(hb2 _ _).trans ((Grew.mk _ _ _).below.mono (hb2 _ _).size),dY ((hx1.set _).other (by simp) _) _ _⟩,dY ((hx2.other (by simp) _).set _) _ _⟩,rfl,HS2.out⟩
  ·have Ci:=hide (kF.out rfl)
   clear kF qC
   gi_wp2_with fail
   have hgg:Grew W (grow (dr W n5) Fh):=gw
   exact⟨hgg.aV _,iC.grew hgg,⟨⟨HB.out.trans (hgg.below.mono HB.out.size),Hb.out.grew hgg⟩,(hgg.below.block _ l2).trans Hf.out⟩,Ci.out⟩
 case done =>
  subst ha
  rintro D xs W hD hS ⟨⟨⟨hB,hb⟩,hf⟩,hp⟩ hK
  have b1:Boxed W w.heap.size _ _:=hb.box 0 rfl
  have c1:=b1.cell
  have f1:=b1.frozen
  have b2:Boxed W (w.heap.size+1) _ _:=hb.box 1 rfl
  have c2:=b2.cell
  have f2:=b2.frozen
  obtain rfl:rr=true:=by
   rw[<-HRR.out]
   refine List.all_eq_true.2 fun j hj=>?_
   have:j∈xs.map Fin.val:=by rw[hS];exact hj
   obtain⟨j',hj',rfl⟩:=List.mem_map.1 this
   exact hp j' hj'
  have HB:=hide hB
  clear hB hb hS hp b1 b2 hf
  gi_wp2_with fail
  have hK2:=(KeepsOthers.setCell (W.setCell ⟨w.heap.size,0,none⟩ (.bool true)) ⟨w.heap.size+1,0,none⟩ (.int .i64 0)).same D _ ((KeepsOthers.setCell W ⟨w.heap.size,0,none⟩ (.bool true)).same D _ hK rfl) rfl
  refine⟨by simp,.inl ⟨_,_,rfl,run_takeDeferred hK2,?_⟩⟩
  have hb5:=((HB.out.setCell (p:=⟨w.heap.size,0,none⟩) (by simp) (.bool true)).setCell (p:=⟨w.heap.size+1,0,none⟩) (by simp) (.int .i64 0)).trans (belowK_b (w:=w) (Nat.le_refl _) _ D _ (.deferred none) (by omega) hK2 rfl rfl)
  have e3:(((W.setCell ⟨w.heap.size,0,none⟩ (.bool true)).setCell ⟨w.heap.size+1,0,none⟩ (.int .i64 0)).putObj D (.deferred none)).cell? ⟨w.heap.size,0,none⟩=some (.bool true):=by
   rw[aU (by omega)]
   go_simp
  have e4:(((W.setCell ⟨w.heap.size,0,none⟩ (.bool true)).setCell ⟨w.heap.size+1,0,none⟩ (.int .i64 0)).putObj D (.deferred none)).cell? ⟨w.heap.size+1,0,none⟩=some (.int .i64 0):=by
   rw[aU (by omega)]
   go_simp
  refine⟨.tuple #[.bool true,.int .i64 0],by simp[results,Tryz.results211,go_sem,e3,e4],?_⟩
  exact aB.mk' rfl (Grew.of_below hb5)
 case stop =>
  subst ha
  rintro D e pre W hD ⟨k,hk,hr⟩ ⟨⟨⟨hB,hb1⟩,hb2⟩,rfl,rfl⟩ hK
  have c1:=hb1.cell
  have c2:=hb2.cell
  have HB:=hide hB
  clear hB hb1 hb2 hr hk HRR
  gi_wp2_with fail
  refine⟨by simp,.inl ⟨_,_,rfl,run_takeDeferred hK,?_⟩⟩
  have hb5:=HB.out.trans (belowK_b (w:=w) (Nat.le_refl _) _ D _ (.deferred none) (by omega) hK rfl rfl)
  have e3:=(aU (W:=W) (D:=D) (i:=0) (o:=.deferred none) (b:=w.heap.size) (by omega)).trans c1
  have e4:=(aU (W:=W) (D:=D) (i:=0) (o:=.deferred none) (b:=w.heap.size+1) (by omega)).trans c2
  refine⟨.tuple #[.bool false,.int .i64 0],by simp[results,Tryz.results211,go_sem,e3,e4],?_⟩
  exact aB.mk' rfl (Grew.of_below hb5)
theorem ZY (ps qs:List Pt)(A A':Option Addr)(c c':Nat)(d:Bool×Int)(w:World)(hr:Rd w w.heap.size 2 A (ps.map dU))(hr':Rd w w.heap.size 2 A' (qs.map dU))(hc:ps.length<=100000000000000)(hc':qs.length<=100000000000000)(h:sH ps qs=d) :
  Calls Tryz.prog 211 #[.slice A ps.length c,.slice A' qs.length c'] w (aB w (.tuple #[.bool d.1,.int .i64 d.2])):=by
 subst h
 unfold sH
 cases h:di ps&&di qs
 ·exact TF ps qs A A' c c' w hr hr' hc hc' h
 ·simp only[Bool.and_eq_true] at h
  exact OI ps qs A A' c c' w hr hr' h.1 h.2
end Go.Proofs.YtlkgjmnjhifehaaGreat
set_option maxHeartbeats 1600000
set_option maxRecDepth 100000
namespace Go.Proofs.YtlkgjmnjhifehaaGreat
open Go.RowKit Go.Sort
attribute [local go_sem] dC steadyUpon
attribute [local go_sem ↓] bQ bJ bg aZ aY aX aW
attribute [local go_sem] bH aN aK size_grow tape_grow cell?_grow' aF aC grow_grow bV bn dZ bZ bW bM aO cO bu bY bK
attribute [local irreducible] wpSteady
def FV.sh (f:FV):Value:=if f.kind=4 then .iface 148 (.agg #[.int .i64 f.x,.int .i64 f.y]) else if f.kind=3\/f.kind=6 then .iface 149 (.slice f.aA f.area.length f.ac) else .iface 151 (.agg #[.int .i64 f.x,.int .i64 f.y,.int .i64 f.dn])
theorem abC (f:FV)(w:World):Calls Tryz.prog 50 #[f.val] w (aB w f.sh):=by
 have hm:=aQ
 obtain⟨id,kind,x,y,dn,aA,ac,area,dep,sym,sA,sc,secs⟩:=f
 unfold FV.sh
 dsimp only
 have hk:kind=4\/kind=3\/kind=6\/(¬ kind=4/\¬ kind=3/\¬ kind=6):=by omega
 rcases hk with rfl|rfl|rfl|⟨h1,h2,h3⟩
 ·rw[if_pos rfl]
  go_enter Tryz.func50,Tryz.ntmps50
  go_wp2_with fail
  go_ret
  exact aB.mk' rfl gw
 ·rw[if_neg (by omega),if_pos (by omega)]
  go_enter Tryz.func50,Tryz.ntmps50
  go_wp2_with fail
  go_ret
  exact aB.mk' rfl gw
 ·rw[if_neg (by omega),if_pos (by omega)]
  go_enter Tryz.func50,Tryz.ntmps50
  go_wp2_with fail
  go_ret
  exact aB.mk' rfl gw
 ·rw[if_neg h1,if_neg (by omega)]
  go_enter Tryz.func50,Tryz.ntmps50
  go_wp2_with fail
  go_ret
  exact aB.mk' rfl gw
theorem Xz (p a b:Pt)(d:Int)(r:Bool×Int)(w:World)(h:kL p a b d=r) :
  Calls Tryz.prog 122 #[pt p.1 p.2,pt a.1 a.2,pt b.1 b.2,.int .i64 d] w (aB w (.tuple #[.bool r.1,.int .i64 r.2])):=by
 have:=Me p a b d w
 rwa [h] at this
def ni (x y r:Int)(p:Pt):Bool:=(kL p (x,y) (x,y) r).2==0&&(kL p (x,y) (x,y) r).1
def Ji (ps:List Pt)(p:Pt):Bool:=(KP ps p).2==0&&decide (0<=(KP ps p).1)
theorem uA (x y r:Int)(p:Pt)(o:Bool)(w:World)(h:ni x y r p=o) :
  Calls Tryz.prog 222 #[.agg #[.int .i64 x,.int .i64 y,.int .i64 r],pt p.1 p.2] w (aB w (.bool o)):=by
 have hm:=aQ
 unfold ni at h
 obtain⟨⟨n,e⟩,hn⟩:∃u,kL p (x,y) (x,y) r=u:=⟨_,rfl⟩
 have k1:=hide (fun W=>Xz p (x,y) (x,y) r (n,e) W hn)
 rw[hn] at h
 dsimp only at h k1
 clear hn
 obtain⟨p1,p2⟩:=p
 by_cases he:e=0
 ·subst he
  simp at h
  subst h
  go_enter Tryz.func222,Tryz.ntmps222
  go_wp2_with (go_at_call 122;with_reducible refine aT (k1.out _) fun _ _=>?_;dsimp only)
  go_ret
  exact aB.mk' rfl gw
 ·have he2:(e==0)=false:=by simpa using he
  rw[he2] at h
  subst h
  go_enter Tryz.func222,Tryz.ntmps222
  go_wp2_with (go_at_call 122;with_reducible refine aT (k1.out _) fun _ _=>?_;dsimp only)
  go_ret
  exact aB.mk' rfl gw
theorem zK (ps:List Pt)(A:Option Addr)(c:Nat)(p:Pt)(o:Bool)(w:World)(hr:Rd w w.heap.size 2 A (ps.map dU))(hc:ps.length<=100000000000000)(h:Ji ps p=o) :
  Calls Tryz.prog 206 #[.slice A ps.length c,pt p.1 p.2] w (aB w (.bool o)):=by
 have hm:=aQ
 unfold Ji at h
 obtain⟨⟨n,e⟩,hn⟩:∃u,KP ps p=u:=⟨_,rfl⟩
 have k1:=hide (fun W (hg:Grew w W)=>agF ps A c p (n,e) W (hr.up hg) hc hn)
 rw[hn] at h
 dsimp only at h k1
 clear hn hr
 obtain⟨p1,p2⟩:=p
 have hcase:(e=0/\0<=n)\/(e=0/\¬ 0<=n)\/e≠0:=by omega
 rcases hcase with⟨rfl,h1⟩|⟨rfl,h1⟩|h1
 all_goals
  first|(simp[h1] at h;subst h)|(rw[show (e==0)=false by simpa using h1,Bool.false_and] at h;subst h)
  go_enter Tryz.func206,Tryz.ntmps206
  go_wp2_with (go_at_call 209;with_reducible refine aT (k1.out _ gw) fun _ _=>?_;dsimp only)
  go_ret
  first|exact aB.mk' rfl gw|exact aB.mk' (by simp[h1]) gw
theorem xA (x y:Int)(p:Pt)(w:World) :
  Calls Tryz.prog 202 #[.agg #[.int .i64 x,.int .i64 y],pt p.1 p.2] w (aB w (.bool false)):=by
 go_enter Tryz.func202,Tryz.ntmps202
 go_wp2_with fail
 go_ret
 exact aB.mk' rfl gw
def BF (p:Pt)(r:Int)(q:Pt)(s:Int):Bool:=decide (r<=s)&&decide (dt p q q<=(s-r)*(s-r))
def qm (p:Pt)(r:Int)(q:Pt)(s:Int):Bool×Int:=if (p.ok&&(q.ok&&(lu r&&lu s)))=true then (BF p r q s,0) else (false,1)
theorem XB (p:Pt)(r:Int)(q:Pt)(s:Int)(o:Bool×Int)(w:World)(h:qm p r q s=o) :
  Calls Tryz.prog 123 #[pt p.1 p.2,.int .i64 r,pt q.1 q.2,.int .i64 s] w (aB w (.tuple #[.bool o.1,.int .i64 o.2])):=by
 have hm:=aQ
 obtain⟨v,hv⟩:∃v,[p,q].all Pt.ok=v:=⟨_,rfl⟩
 obtain⟨u,hu⟩:∃u,lu r=u:=⟨_,rfl⟩
 obtain⟨u2,hu2⟩:∃u,lu s=u:=⟨_,rfl⟩
 have k1:=hide (fun W=>uw r u W hu)
 have k2:=hide (fun W=>uw s u2 W hu2)
 have HV:=hide hv
 have e:qm p r q s=if (v&&(u&&u2))=true then (BF p r q s,0) else (false,1):=by
  unfold qm
  rw[hu,hu2,<-hv]
  simp only[List.all_cons,List.all_nil,Bool.and_true,Bool.and_assoc]
 rw[e] at h
 clear e
 have hcase:v=false\/(v=true/\u=false)\/(v=true/\u=true/\u2=false)\/(v=true/\u=true/\u2=true):=by
  cases v<;>cases u<;>cases u2<;>simp
 rcases hcase with rfl|⟨rfl,rfl⟩|⟨rfl,rfl,rfl⟩|⟨rfl,rfl,rfl⟩
 ·rw[if_neg (by simp)] at h
  subst h
  obtain⟨a1,a2⟩:=p
  obtain⟨b1,b2⟩:=q
  clear hv hu hu2
  go_enter Tryz.func123,Tryz.ntmps123
  go_wp2_with fail
  refine (iD _ _ _ _ false _ (Rd.xm _ (az _ _ _ (by simp[bQ])) rfl) rfl (by simp) HV.out).mono ?_
  rintro e w' ⟨rfl,⟨_,_⟩,rfl⟩
  dsimp only
  go_wp2_with fail
  go_ret2
  exact aB.mk' rfl gw
 ·rw[if_neg (by simp)] at h
  subst h
  obtain⟨a1,a2⟩:=p
  obtain⟨b1,b2⟩:=q
  clear hv hu hu2
  go_enter Tryz.func123,Tryz.ntmps123
  go_wp2_with fail
  refine (iD _ _ _ _ true _ (Rd.xm _ (az _ _ _ (by simp[bQ])) rfl) rfl (by simp) HV.out).mono ?_
  rintro e w' ⟨rfl,⟨_,_⟩,rfl⟩
  dsimp only
  go_wp2_with (go_at_call 143;with_reducible refine aT (k1.out _) fun _ _=>?_;dsimp only)
  go_ret2
  exact aB.mk' rfl gw
 ·rw[if_neg (by simp)] at h
  subst h
  obtain⟨a1,a2⟩:=p
  obtain⟨b1,b2⟩:=q
  clear hv hu hu2
  go_enter Tryz.func123,Tryz.ntmps123
  go_wp2_with fail
  refine (iD _ _ _ _ true _ (Rd.xm _ (az _ _ _ (by simp[bQ])) rfl) rfl (by simp) HV.out).mono ?_
  rintro e w' ⟨rfl,⟨_,_⟩,rfl⟩
  dsimp only
  go_wp2_with (first|(go_at_call 143;with_reducible refine aT (k1.out _) fun _ _=>?_;dsimp only)|(go_at_call 143;with_reducible refine aT (k2.out _) fun _ _=>?_;dsimp only))
  go_ret2
  exact aB.mk' rfl gw
 ·rw[if_pos (by rfl)] at h
  subst h
  simp only[List.all_cons,List.all_nil,Bool.and_true,Bool.and_eq_true] at hv
  have k3:=hide (fun W=>Ep p q W hv.1 hv.2)
  have p':=lh hv.1
  have q':=lh hv.2
  have k4:Hid (∀W,Calls Tryz.prog 146 #[pt (q.1-p.1) (q.2-p.2),pt (q.1-p.1) (q.2-p.2)] W (aB W (.int .i64 (dt p q q)))):=hide (fun W=>rW _ _ _ _ W (by omega) (by omega) (by omega) (by omega))
  have b1:=zk hu
  have b2:=zk hu2
  unfold BF
  generalize dt p q q=D at *
  obtain⟨a1,a2⟩:=p
  obtain⟨c1,c2⟩:=q
  dsimp only at *
  obtain⟨v1,hv1⟩:∃z,c1-a1=z:=⟨_,rfl⟩
  obtain⟨v2,hv2⟩:∃z,c2-a2=z:=⟨_,rfl⟩
  rw[hv1,hv2] at k3 k4
  clear hv hu hu2 hv1 hv2 p' q'
  by_cases hrs:r<=s
  ·have hb:=UD (d:=s-r) (by omega)
   rw[decide_eq_true hrs,Bool.true_and]
   go_enter Tryz.func123,Tryz.ntmps123
   go_wp2_with fail
   refine (iD _ _ _ _ true _ (Rd.xm _ (az _ _ _ (by simp[bQ])) rfl) rfl (by simp) HV.out).mono ?_
   rintro e w' ⟨rfl,⟨_,_⟩,rfl⟩
   dsimp only
   go_wp2_with (first|(go_at_call 143;with_reducible refine aT (k1.out _) fun _ _=>?_;dsimp only)|(go_at_call 143;with_reducible refine aT (k2.out _) fun _ _=>?_;dsimp only)|(go_at_call 145;with_reducible refine aT (k3.out _) fun _ _=>?_;dsimp only)|(go_at_call 146;with_reducible refine aT (k4.out _) fun _ _=>?_;dsimp only))
   go_ret2
   exact aB.mk' rfl gw
  ·rw[decide_eq_false hrs,Bool.false_and]
   go_enter Tryz.func123,Tryz.ntmps123
   go_wp2_with fail
   refine (iD _ _ _ _ true _ (Rd.xm _ (az _ _ _ (by simp[bQ])) rfl) rfl (by simp) HV.out).mono ?_
   rintro e w' ⟨rfl,⟨_,_⟩,rfl⟩
   dsimp only
   go_wp2_with (first|(go_at_call 143;with_reducible refine aT (k1.out _) fun _ _=>?_;dsimp only)|(go_at_call 143;with_reducible refine aT (k2.out _) fun _ _=>?_;dsimp only)|(go_at_call 145;with_reducible refine aT (k3.out _) fun _ _=>?_;dsimp only)|(go_at_call 146;with_reducible refine aT (k4.out _) fun _ _=>?_;dsimp only))
   go_ret2
   exact aB.mk' rfl gw
def uz (x y r:Int)(p:Pt)(s:Int):Bool:=(qm p s (x,y) r).2==0&&(qm p s (x,y) r).1
def uI (ps:List Pt)(p:Pt)(s:Int):Bool:=(uy ps p s).2==0&&(uy ps p s).1==1
def uJ (ps qs:List Pt):Bool:=(sH ps qs).2==0&&(sH ps qs).1
def yc (x y r:Int)(ps:List Pt):Bool:=ps.all (ni x y r)
theorem aaw (v:Value)(w:World):(Instr.typeAssert (.iface 151 v) 109 151 true).run Tryz.prog w=.ok (.tuple #[v,.bool true]) w:=by kernel_rfl
theorem aay (v:Value)(w:World):(Instr.typeAssert (.iface 149 v) 109 151 true).run Tryz.prog w=.ok (.tuple #[.agg #[.int .i64 0,.int .i64 0,.int .i64 0],.bool false]) w:=by kernel_rfl
theorem aat (v:Value)(w:World):(Instr.typeAssert (.iface 148 v) 109 151 true).run Tryz.prog w=.ok (.tuple #[.agg #[.int .i64 0,.int .i64 0,.int .i64 0],.bool false]) w:=by kernel_rfl
theorem aaz (v:Value)(w:World):(Instr.typeAssert (.iface 149 v) 109 149 true).run Tryz.prog w=.ok (.tuple #[v,.bool true]) w:=by kernel_rfl
theorem aau (v:Value)(w:World):(Instr.typeAssert (.iface 148 v) 109 149 true).run Tryz.prog w=.ok (.tuple #[.slice none 0 0,.bool false]) w:=by kernel_rfl
theorem aas (v:Value)(w:World):(Instr.typeAssert (.iface 148 v) 109 148 true).run Tryz.prog w=.ok (.tuple #[v,.bool true]) w:=by kernel_rfl
theorem aav (v:Value)(w:World):(Instr.typeAssert (.iface 151 v) 109 148 true).run Tryz.prog w=.ok (.tuple #[.agg #[.int .i64 0,.int .i64 0],.bool false]) w:=by kernel_rfl
theorem aax (v:Value)(w:World):(Instr.typeAssert (.iface 149 v) 109 148 true).run Tryz.prog w=.ok (.tuple #[.agg #[.int .i64 0,.int .i64 0],.bool false]) w:=by kernel_rfl
attribute [local go_sem] aaw aay aat aaz aau aas aav aax
theorem zl (x y r:Int)(p:Pt)(s:Int)(o:Bool)(w:World)(h:uz x y r p s=o) :
  Calls Tryz.prog 223 #[.agg #[.int .i64 x,.int .i64 y,.int .i64 r],.iface 151 (.agg #[.int .i64 p.1,.int .i64 p.2,.int .i64 s])] w (aB w (.bool o)):=by
 have hm:=aQ
 unfold uz at h
 obtain⟨⟨n,e⟩,hn⟩:∃u,qm p s (x,y) r=u:=⟨_,rfl⟩
 have k1:=hide (fun W=>XB p s (x,y) r (n,e) W hn)
 rw[hn] at h
 dsimp only at h k1
 clear hn
 obtain⟨p1,p2⟩:=p
 dsimp only at k1 ⊢
 have hcase:e=0\/(e==0)=false:=by by_cases h:e=0<;>simp[h]
 rcases hcase with rfl|h1
 ·simp at h
  subst h
  go_enter Tryz.func223,Tryz.ntmps223
  go_wp2_with (go_at_call 123;with_reducible refine aT (k1.out _) fun _ _=>?_;dsimp only)
  go_ret
  exact aB.mk' rfl gw
 ·rw[h1] at h
  subst h
  go_enter Tryz.func223,Tryz.ntmps223
  go_wp2_with (go_at_call 123;with_reducible refine aT (k1.out _) fun _ _=>?_;dsimp only)
  go_ret
  exact aB.mk' rfl gw
theorem zI (ps:List Pt)(A:Option Addr)(c:Nat)(p:Pt)(s:Int)(o:Bool)(w:World)(hr:Rd w w.heap.size 2 A (ps.map dU))(hc:ps.length<=100000000000000)(h:uI ps p s=o) :
  Calls Tryz.prog 207 #[.slice A ps.length c,.iface 151 (.agg #[.int .i64 p.1,.int .i64 p.2,.int .i64 s])] w (aB w (.bool o)):=by
 have hm:=aQ
 unfold uI at h
 obtain⟨⟨n,e⟩,hn⟩:∃u,uy ps p s=u:=⟨_,rfl⟩
 have k1:=hide (fun W (hg:Grew w W)=>XP ps A c p s (n,e) W (hr.up hg) hc hn)
 rw[hn] at h
 dsimp only at h k1
 clear hn hr
 obtain⟨p1,p2⟩:=p
 dsimp only at k1 ⊢
 have hcase:(e=0/\n=1)\/(e=0/\(n==1)=false)\/(e==0)=false:=by by_cases h:e=0<;>by_cases h2:n=1<;>simp[h,h2]
 rcases hcase with⟨rfl,rfl⟩|⟨rfl,h1⟩|h1
 ·simp at h
  subst h
  go_enter Tryz.func207,Tryz.ntmps207
  go_wp2_with (go_at_call 210;with_reducible refine aT (k1.out _ gw) fun _ _=>?_;dsimp only)
  go_ret
  exact aB.mk' rfl gw
 all_goals
  rw[h1] at h
  simp at h
  subst h
  go_enter Tryz.func207,Tryz.ntmps207
  go_wp2_with (go_at_call 210;with_reducible refine aT (k1.out _ gw) fun _ _=>?_;dsimp only)
  go_ret
  exact aB.mk' (by simp[h1]) gw
theorem zJ (ps:List Pt)(A:Option Addr)(c:Nat)(qs:List Pt)(A':Option Addr)(c':Nat)(o:Bool)(w:World)(hr:Rd w w.heap.size 2 A (ps.map dU))(hc:ps.length<=100000000000000)(hr':Rd w w.heap.size 2 A' (qs.map dU))(hc':qs.length<=100000000000000)(h:uJ ps qs=o) :
  Calls Tryz.prog 207 #[.slice A ps.length c,.iface 149 (.slice A' qs.length c')] w (aB w (.bool o)):=by
 have hm:=aQ
 unfold uJ at h
 obtain⟨⟨n,e⟩,hn⟩:∃u,sH ps qs=u:=⟨_,rfl⟩
 have k1:=hide (fun W (hg:Grew w W)=>ZY ps qs A A' c c' (n,e) W (hr.up hg) (hr'.up hg) hc hc' hn)
 rw[hn] at h
 dsimp only at h k1
 clear hn hr hr'
 have hcase:e=0\/(e==0)=false:=by by_cases h:e=0<;>simp[h]
 rcases hcase with rfl|h1
 ·simp at h
  subst h
  go_enter Tryz.func207,Tryz.ntmps207
  go_wp2_with (go_at_call 211;with_reducible refine aT (k1.out _ gw) fun _ _=>?_;dsimp only)
  go_ret
  exact aB.mk' rfl gw
 ·rw[h1] at h
  simp at h
  subst h
  go_enter Tryz.func207,Tryz.ntmps207
  go_wp2_with (go_at_call 211;with_reducible refine aT (k1.out _ gw) fun _ _=>?_;dsimp only)
  go_ret
  exact aB.mk' (by simp[h1]) gw
theorem Je (x y r:Int)(v:Value)(w:World) :
  Calls Tryz.prog 223 #[.agg #[.int .i64 x,.int .i64 y,.int .i64 r],.iface 148 v] w (aB w (.bool true)):=by
 have hm:=aQ
 go_enter Tryz.func223,Tryz.ntmps223
 go_wp2_with fail
 go_ret
 exact aB.mk' rfl gw
theorem Jq (A:Option Addr)(n c:Nat)(v:Value)(w:World) :
  Calls Tryz.prog 207 #[.slice A n c,.iface 148 v] w (aB w (.bool true)):=by
 have hm:=aQ
 go_enter Tryz.func207,Tryz.ntmps207
 go_wp2_with fail
 go_ret
 exact aB.mk' rfl gw
theorem FH (x y a b:Int)(w:World) :
  Calls Tryz.prog 203 #[.agg #[.int .i64 x,.int .i64 y],.iface 148 (.agg #[.int .i64 a,.int .i64 b])] w (aB w (.bool true)):=by
 have hm:=aQ
 go_enter Tryz.func203,Tryz.ntmps203
 go_wp2_with fail
 go_ret
 exact aB.mk' rfl gw
theorem xx (x y:Int)(v:Value)(w:World) :
  Calls Tryz.prog 203 #[.agg #[.int .i64 x,.int .i64 y],.iface 151 v] w (aB w (.bool false)):=by
 have hm:=aQ
 go_enter Tryz.func203,Tryz.ntmps203
 go_wp2_with fail
 go_ret
 exact aB.mk' rfl gw
theorem xy (x y:Int)(v:Value)(w:World) :
  Calls Tryz.prog 203 #[.agg #[.int .i64 x,.int .i64 y],.iface 149 v] w (aB w (.bool false)):=by
 have hm:=aQ
 go_enter Tryz.func203,Tryz.ntmps203
 go_wp2_with fail
 go_ret
 exact aB.mk' rfl gw
theorem Zi (x y r:Int)(B:Nat)(p:Pt)(o:Bool)(w:World)(hB:w.heap[B]?=some (.cells #[.int .i64 x,.int .i64 y,.int .i64 r] 151 (0,0)))(h:ni x y r p = !o) :
  Calls Tryz.prog 226 #[pt p.1 p.2,.pointer (some ⟨B,0,none⟩)] w (aB w (.bool o)):=by
 have k1:=hide (fun W=>uA x y r p (!o) W h)
 have c0:=ag hB 0
 have c1:=ag hB 1
 have c2:=ag hB 2
 have lB:=ax hB
 obtain⟨p1,p2⟩:=p
 clear h hB
 cases o
 all_goals
  go_enter Tryz.func226,Tryz.ntmps226
  go_wp2_with (go_at_call 222;with_reducible refine aT (k1.out _) fun _ _=>?_;dsimp only)
  go_ret
  exact aB.mk' (by rfl) gw
theorem SC (x y r:Int)(B:Nat)(ps:List Pt)(A:Option Addr)(c:Nat)(o:Bool)(w:World)(hB:w.heap[B]?=some (.cells #[.int .i64 x,.int .i64 y,.int .i64 r] 151 (0,0)))(hr:Rd w w.heap.size 2 A (ps.map dU))(hc:ps.length<=100000000000000)(h:ps.all (ni x y r)=o) :
  Calls Tryz.prog 227 #[.slice A ps.length c,.func (.func 226) #[] #[.pointer (some ⟨B,0,none⟩)]] w fun e w'=>aeQ ps.length o e/\Grew w w':=by
 have hm:=aQ
 have HR:=hide h
 have HB:=hide hB
 clear h
 go_enter Tryz.func227,Tryz.ntmps227
 go_wp2_with fail
 go_loopw [8] (fun i wr=>∃k:Nat,k<=ps.length/\i=.int .i64 k/\Grew w wr/\uN ((ps.take k).all (ni x y r)=true)) (fun i _=>ps.length-(intOf i).toNat)
 case atStart=>exact⟨0,by omega,rfl,gw,rfl⟩
 case round =>
  obtain⟨k,hk,rfl,hg,hall⟩:=hrel
  have HG:=hide hg
  have HA:=hide hall.stop
  clear hg hall
  by_cases hlt:k<ps.length
  ·obtain⟨p,hp⟩:∃p,ps[k]?=some p:=⟨_,List.getElem?_eq_getElem hlt⟩
   obtain⟨b,off,hA,hb,h0,h1⟩:=rD (hr.up HG.out) hp
   have hix:=aJ (cap:=c) Tryz.underlying149 Tryz.sizeOf28 hA.out hlt
   have hs:=rM (ni x y r) hp
   rw[HA.out,Bool.true_and] at hs
   have HP:=hide hp
   have HS:=hide hs
   obtain⟨u,hu⟩:∃u,ni x y r p = !u:=⟨!ni x y r p,by simp⟩
   have k1:=hide (fun W (hg:Grew wr W)=>Zi x y r B p u W (((HG.out.trans hg).heap (ax HB.out)).trans HB.out) hu)
   have HO:=hide hu
   clear hp hs hu hA
   obtain⟨p1,p2⟩:=p
   dsimp only at h0 h1
   cases u
   ·go_wp2_with (go_at_call 226;with_reducible refine aT (k1.out _ gw) fun _ _=>?_;dsimp only)
    go_roundw
    case rel=>exact⟨k+1,by omega,by go_num,HG.out.trans gw,by rw[HS.out];exact HO.out⟩
    case measure=>simp[intOf];omega
   ·go_wp2_with (go_at_call 226;with_reducible refine aT (k1.out _ gw) fun _ _=>?_;dsimp only)
    go_ret
    have e:ps.all (ni x y r)=false:=uK HP.out HO.out
    obtain rfl:o=false:=by rw[<-HR.out,e]
    exact⟨.inr ⟨k,by omega,rfl,rfl⟩,HG.out.trans gw⟩
  ·obtain rfl:k=ps.length:=by omega
   rw[List.take_length] at HA
   obtain rfl:o=true:=by rw[<-HR.out,HA.out]
   go_wp2_with fail
   go_ret
   exact⟨.inl ⟨rfl,rfl⟩,HG.out⟩
theorem SE (x y r:Int)(B:Nat)(ps:List Pt)(A:Option Addr)(c:Nat)(o:Bool)(w:World)(hB:w.heap[B]?=some (.cells #[.int .i64 x,.int .i64 y,.int .i64 r] 151 (0,0)))(hr:Rd w w.heap.size 2 A (ps.map dU))(hc:ps.length<=100000000000000)(h:ps.all (ni x y r) = !o) :
  Calls Tryz.prog 225 #[.slice A ps.length c,.func (.func 226) #[] #[.pointer (some ⟨B,0,none⟩)]] w (aB w (.bool o)):=by
 have hm:=aQ
 have k1:=hide (fun W (hg:Grew w W)=>SC x y r B ps A c (!o) W ((hg.heap (ax hB)).trans hB) (hr.up hg) hc h)
 clear h hr hB
 go_enter Tryz.func225,Tryz.ntmps225
 go_wp2_with fail
 refine (k1.out _ gw).mono ?_
 rintro e w' ⟨h,⟨⟨n1,os1⟩,rfl⟩⟩
 rcases h with⟨rfl,hr2⟩|⟨k,hk,rfl,hr2⟩
 ·obtain rfl:o=false:=by simpa using hr2
  dsimp only
  go_wp2_with fail
  go_ret
  exact aB.mk' rfl gw
 ·obtain rfl:o=true:=by simpa using hr2
  dsimp only
  have hk0:0<=(k:Int):=by omega
  go_wp2_with fail
  go_ret
  exact aB.mk' (by simp) gw
theorem zn (x y r:Int)(ps:List Pt)(A:Option Addr)(c:Nat)(o:Bool)(w:World)(hr:Rd w w.heap.size 2 A (ps.map dU))(hc:ps.length<=100000000000000)(h:yc x y r ps=o) :
  Calls Tryz.prog 223 #[.agg #[.int .i64 x,.int .i64 y,.int .i64 r],.iface 149 (.slice A ps.length c)] w (aB w (.bool o)):=by
 have hm:=aQ
 have k1:=hide (fun W (hg:Grew w W) hB=>SE x y r w.heap.size ps A c (!o) W hB (hr.up hg) hc (by rw[Bool.not_not];exact h))
 clear h hr
 cases o
 all_goals
  go_enter Tryz.func223,Tryz.ntmps223
  go_wp2_with fail
  refine (k1.out _ gw (heap_alloc_new _ _)).mono ?_
  rintro e w' ⟨rfl,⟨_,_⟩,rfl⟩
  dsimp only
  go_wp2_with fail
  go_ret
  exact aB.mk' (by rfl) gw
set_option maxHeartbeats 4000000
set_option maxRecDepth 100000
theorem IE (v : Value) (w : World) : (method 382 151 v "seamark/feature.holds").run Tryz.prog w = .ok (223, v) w := by kernel_rfl
theorem Io (v : Value) (w : World) : (nilAhead 382 151 v "seamark/feature.holds").run Tryz.prog w = .ok (some false) w := by kernel_rfl
theorem II (v : Value) (w : World) : (method 382 151 v "seamark/feature.covers").run Tryz.prog w = .ok (222, v) w := by kernel_rfl
theorem Iy (v : Value) (w : World) : (nilAhead 382 151 v "seamark/feature.covers").run Tryz.prog w = .ok (some false) w := by kernel_rfl
theorem IG (v : Value) (w : World) : (method 382 149 v "seamark/feature.holds").run Tryz.prog w = .ok (207, v) w := by kernel_rfl
theorem Ip (v : Value) (w : World) : (nilAhead 382 149 v "seamark/feature.holds").run Tryz.prog w = .ok (some false) w := by kernel_rfl
theorem IJ (v : Value) (w : World) : (method 382 149 v "seamark/feature.covers").run Tryz.prog w = .ok (206, v) w := by kernel_rfl
theorem Iz (v : Value) (w : World) : (nilAhead 382 149 v "seamark/feature.covers").run Tryz.prog w = .ok (some false) w := by kernel_rfl
theorem Eb (v : Value) (w : World) : (method 382 148 v "seamark/feature.holds").run Tryz.prog w = .ok (203, v) w := by kernel_rfl
theorem D8 (v : Value) (w : World) : (nilAhead 382 148 v "seamark/feature.holds").run Tryz.prog w = .ok (some false) w := by kernel_rfl
theorem Ee (v : Value) (w : World) : (method 382 148 v "seamark/feature.covers").run Tryz.prog w = .ok (202, v) w := by kernel_rfl
theorem Ea (v : Value) (w : World) : (nilAhead 382 148 v "seamark/feature.covers").run Tryz.prog w = .ok (some false) w := by kernel_rfl
attribute [local go_sem] IE Io II Iy IG Ip IJ Iz Eb D8 Ee Ea
theorem JM (f g:FV)(F:Value)(o:Bool)(w:World)(hf:f.rd w w.heap.size)(hg:g.rd w w.heap.size)(vf:bC f=true)(vg:bC g=true)(hk:f.kind≠4)
  (kf:Hid (∀W,Calls Tryz.prog 50 #[f.val] W (aB W F))) (kg:Hid (∀W,Calls Tryz.prog 50 #[g.val] W (aB W (.iface 151 (.agg #[.int .i64 g.x,.int .i64 g.y,.int .i64 g.dn])))))
  (kh:Hid (∀W,Grew w W->Calls Tryz.prog 223 #[.agg #[.int .i64 g.x,.int .i64 g.y,.int .i64 g.dn],F] W (aB W (.bool o)))) :
  Calls Tryz.prog 86 #[f.val,g.val] w (aB w (.tuple #[.bool (decide (g.dep<=f.dep)&&o),.int .i64 0])):=by
 have hm:=aQ
 have k1:=hide (fun W (h:Grew w W)=>dD f true W (hf.up h) vf)
 have k2:=hide (fun W (h:Grew w W)=>dD g true W (hg.up h) vg)
 clear hf hg vf vg
 by_cases hd:g.dep<=f.dep
 ·rw[decide_eq_true hd,Bool.true_and]
  go_enter Tryz.func86,Tryz.ntmps86
  go_wp2_with (first|(go_at_call 56;with_reducible refine aT (k1.out _ gw) fun _ _=>?_;dsimp only)|(go_at_call 56;with_reducible refine aT (k2.out _ gw) fun _ _=>?_;dsimp only))
  refine ay 17 [] [] hm (h:=?_)
  repeat (refine au (fun K hK=>?_);go_simp;first|(refine hK _ ?_;clear hK K)|(apply Exists.intro;refine⟨fun _=>?_,hK _ ?_⟩;(first|(go_at_call 50;first|with_reducible exact kf.out _|with_reducible exact kg.out _)|(go_at_call 223;with_reducible exact kh.out _ gw));clear hK K))
  refine kZ fun nq osq=>?_
  try simp only[Act.put,aG]
  try dsimp only
  go_wp2_with fail
  go_ret2
  exact aB.mk' rfl gw
 ·have hd2:decide (g.dep<=f.dep)=false:=decide_eq_false hd
  rw[hd2,Bool.false_and]
  go_enter Tryz.func86,Tryz.ntmps86
  go_wp2_with (first|(go_at_call 56;with_reducible refine aT (k1.out _ gw) fun _ _=>?_;dsimp only)|(go_at_call 56;with_reducible refine aT (k2.out _ gw) fun _ _=>?_;dsimp only))
  refine ay 17 [] [] hm (h:=?_)
  repeat (refine au (fun K hK=>?_);go_simp;first|(refine hK _ ?_;clear hK K)|(apply Exists.intro;refine⟨fun _=>?_,hK _ ?_⟩;(first|(go_at_call 50;first|with_reducible exact kf.out _|with_reducible exact kg.out _)|(go_at_call 223;with_reducible exact kh.out _ gw));clear hK K))
  refine kZ fun nq osq=>?_
  try simp only[Act.put,aG]
  try dsimp only
  go_wp2_with fail
  go_ret2
  exact aB.mk' rfl gw
theorem JO (f g:FV)(F:Value)(o:Bool)(w:World)(hf:f.rd w w.heap.size)(hg:g.rd w w.heap.size)(vf:bC f=true)(vg:bC g=true)(hk:f.kind≠4)
  (kf:Hid (∀W,Calls Tryz.prog 50 #[f.val] W (aB W F))) (kg:Hid (∀W,Calls Tryz.prog 50 #[g.val] W (aB W (.iface 149 (.slice g.aA g.area.length g.ac)))))
  (kh:Hid (∀W,Grew w W->Calls Tryz.prog 207 #[.slice g.aA g.area.length g.ac,F] W (aB W (.bool o)))) :
  Calls Tryz.prog 86 #[f.val,g.val] w (aB w (.tuple #[.bool (decide (g.dep<=f.dep)&&o),.int .i64 0])):=by
 have hm:=aQ
 have k1:=hide (fun W (h:Grew w W)=>dD f true W (hf.up h) vf)
 have k2:=hide (fun W (h:Grew w W)=>dD g true W (hg.up h) vg)
 clear hf hg vf vg
 by_cases hd:g.dep<=f.dep
 ·rw[decide_eq_true hd,Bool.true_and]
  go_enter Tryz.func86,Tryz.ntmps86
  go_wp2_with (first|(go_at_call 56;with_reducible refine aT (k1.out _ gw) fun _ _=>?_;dsimp only)|(go_at_call 56;with_reducible refine aT (k2.out _ gw) fun _ _=>?_;dsimp only))
  refine ay 17 [] [] hm (h:=?_)
  repeat (refine au (fun K hK=>?_);go_simp;first|(refine hK _ ?_;clear hK K)|(apply Exists.intro;refine⟨fun _=>?_,hK _ ?_⟩;(first|(go_at_call 50;first|with_reducible exact kf.out _|with_reducible exact kg.out _)|(go_at_call 207;with_reducible exact kh.out _ gw));clear hK K))
  refine kZ fun nq osq=>?_
  try simp only[Act.put,aG]
  try dsimp only
  go_wp2_with fail
  go_ret2
  exact aB.mk' rfl gw
 ·have hd2:decide (g.dep<=f.dep)=false:=decide_eq_false hd
  rw[hd2,Bool.false_and]
  go_enter Tryz.func86,Tryz.ntmps86
  go_wp2_with (first|(go_at_call 56;with_reducible refine aT (k1.out _ gw) fun _ _=>?_;dsimp only)|(go_at_call 56;with_reducible refine aT (k2.out _ gw) fun _ _=>?_;dsimp only))
  refine ay 17 [] [] hm (h:=?_)
  repeat (refine au (fun K hK=>?_);go_simp;first|(refine hK _ ?_;clear hK K)|(apply Exists.intro;refine⟨fun _=>?_,hK _ ?_⟩;(first|(go_at_call 50;first|with_reducible exact kf.out _|with_reducible exact kg.out _)|(go_at_call 207;with_reducible exact kh.out _ gw));clear hK K))
  refine kZ fun nq osq=>?_
  try simp only[Act.put,aG]
  try dsimp only
  go_wp2_with fail
  go_ret2
  exact aB.mk' rfl gw
theorem Hq (f g:FV)(F:Value)(o:Bool)(w:World)(hf:f.rd w w.heap.size)(hg:g.rd w w.heap.size)(vf:bC f=true)(vg:bC g=true)(hk:f.kind≠4)
  (kf:Hid (∀W,Calls Tryz.prog 50 #[f.val] W (aB W F))) (kg:Hid (∀W,Calls Tryz.prog 50 #[g.val] W (aB W (.iface 148 (.agg #[.int .i64 g.x,.int .i64 g.y])))))
  (kh:Hid (∀W,Grew w W->Calls Tryz.prog 203 #[.agg #[.int .i64 g.x,.int .i64 g.y],F] W (aB W (.bool o)))) :
  Calls Tryz.prog 86 #[f.val,g.val] w (aB w (.tuple #[.bool (decide (g.dep<=f.dep)&&o),.int .i64 0])):=by
 have hm:=aQ
 have k1:=hide (fun W (h:Grew w W)=>dD f true W (hf.up h) vf)
 have k2:=hide (fun W (h:Grew w W)=>dD g true W (hg.up h) vg)
 clear hf hg vf vg
 by_cases hd:g.dep<=f.dep
 ·rw[decide_eq_true hd,Bool.true_and]
  go_enter Tryz.func86,Tryz.ntmps86
  go_wp2_with (first|(go_at_call 56;with_reducible refine aT (k1.out _ gw) fun _ _=>?_;dsimp only)|(go_at_call 56;with_reducible refine aT (k2.out _ gw) fun _ _=>?_;dsimp only))
  refine ay 17 [] [] hm (h:=?_)
  repeat (refine au (fun K hK=>?_);go_simp;first|(refine hK _ ?_;clear hK K)|(apply Exists.intro;refine⟨fun _=>?_,hK _ ?_⟩;(first|(go_at_call 50;first|with_reducible exact kf.out _|with_reducible exact kg.out _)|(go_at_call 203;with_reducible exact kh.out _ gw));clear hK K))
  refine kZ fun nq osq=>?_
  try simp only[Act.put,aG]
  try dsimp only
  go_wp2_with fail
  go_ret2
  exact aB.mk' rfl gw
 ·have hd2:decide (g.dep<=f.dep)=false:=decide_eq_false hd
  rw[hd2,Bool.false_and]
  go_enter Tryz.func86,Tryz.ntmps86
  go_wp2_with (first|(go_at_call 56;with_reducible refine aT (k1.out _ gw) fun _ _=>?_;dsimp only)|(go_at_call 56;with_reducible refine aT (k2.out _ gw) fun _ _=>?_;dsimp only))
  refine ay 17 [] [] hm (h:=?_)
  repeat (refine au (fun K hK=>?_);go_simp;first|(refine hK _ ?_;clear hK K)|(apply Exists.intro;refine⟨fun _=>?_,hK _ ?_⟩;(first|(go_at_call 50;first|with_reducible exact kf.out _|with_reducible exact kg.out _)|(go_at_call 203;with_reducible exact kh.out _ gw));clear hK K))
  refine kZ fun nq osq=>?_
  try simp only[Act.put,aG]
  try dsimp only
  go_wp2_with fail
  go_ret2
  exact aB.mk' rfl gw
def eH (g f:FV):Bool:=if g.kind=4 then decide (f.kind=4) else if f.kind=4 then true else if g.kind=3\/g.kind=6 then (if f.kind=3\/f.kind=6 then uJ g.area f.area else uI g.area (f.x,f.y) f.dn) else (if f.kind=3\/f.kind=6 then yc g.x g.y g.dn f.area else uz g.x g.y g.dn (f.x,f.y) f.dn)
def DF (f g:FV):Bool:=decide (g.kind=4)&&(decide (g.x=f.x/\g.y=f.y)&&((qJ f.secs g.secs).2==0 && !(qJ f.secs g.secs).1))
def DI (f g:FV):Bool:=if f.kind=4 then DF f g else decide (g.dep<=f.dep)&&eH g f
def su (f g:FV):Bool×Int:=if (bC f&&bC g)=true then (DI f g,0) else (false,1)
theorem mV {f:FV}(h4:f.kind≠4)(h3:¬ (f.kind=3\/f.kind=6)):f.sh=.iface 151 (.agg #[.int .i64 f.x,.int .i64 f.y,.int .i64 f.dn]):=by unfold FV.sh;rw[if_neg h4,if_neg h3]
theorem lT {f:FV}(h3:f.kind=3\/f.kind=6):f.sh=.iface 149 (.slice f.aA f.area.length f.ac):=by unfold FV.sh;rw[if_neg (by omega),if_pos h3]
theorem nZ {f:FV}(h4:f.kind=4):f.sh=.iface 148 (.agg #[.int .i64 f.x,.int .i64 f.y]):=by unfold FV.sh;rw[if_pos h4]
theorem xk (f:FV)(v:Value)(w:World)(h:f.sh=v):Calls Tryz.prog 50 #[f.val] w (aB w v):=by
 have:=abC f w
 rwa [h] at this
theorem Js (f g:FV)(w:World)(hf:f.rd w w.heap.size)(hg:g.rd w w.heap.size)(vf:bC f=true)(vg:bC g=true)(hk:f.kind≠4) :
  Calls Tryz.prog 86 #[f.val,g.val] w (aB w (.tuple #[.bool (decide (g.dep<=f.dep)&&eH g f),.int .i64 0])):=by
 have kf:Hid (∀W,Calls Tryz.prog 50 #[f.val] W (aB W f.sh)):=hide (fun W=>xk f _ W rfl)
 by_cases g4:g.kind=4
 ·have e:eH g f=false:=by unfold eH;rw[if_pos g4,decide_eq_false hk]
  rw[e]
  refine Hq f g _ false w hf hg vf vg hk kf (hide (fun W=>xk g _ W (nZ g4))) (hide (fun W hgr=>?_))
  by_cases f3:f.kind=3\/f.kind=6
  ·rw[lT f3]
   exact xy _ _ _ W
  ·rw[mV hk f3]
   exact xx _ _ _ W
 ·by_cases g3:g.kind=3\/g.kind=6
  ·refine JO f g _ (eH g f) w hf hg vf vg hk kf (hide (fun W=>xk g _ W (lT g3))) (hide (fun W hgr=>?_))
   by_cases f3:f.kind=3\/f.kind=6
   ·rw[lT f3]
    exact zJ _ _ _ _ _ _ _ W ((hg.up hgr).area) hg.la ((hf.up hgr).area) hf.la (by unfold eH;rw[if_neg g4,if_neg hk,if_pos g3,if_pos f3])
   ·rw[mV hk f3]
    exact zI _ _ _ (f.x,f.y) _ _ W ((hg.up hgr).area) hg.la (by unfold eH;rw[if_neg g4,if_neg hk,if_pos g3,if_neg f3])
  ·refine JM f g _ (eH g f) w hf hg vf vg hk kf (hide (fun W=>xk g _ W (mV g4 g3))) (hide (fun W hgr=>?_))
   by_cases f3:f.kind=3\/f.kind=6
   ·rw[lT f3]
    exact zn _ _ _ _ _ _ _ W ((hf.up hgr).area) hf.la (by unfold eH;rw[if_neg g4,if_neg hk,if_neg g3,if_pos f3])
   ·rw[mV hk f3]
    exact zl _ _ _ (f.x,f.y) _ _ W (by unfold eH;rw[if_neg g4,if_neg hk,if_neg g3,if_neg f3])
theorem ZV (sa sb:List fH)(A A':Option Addr)(c c':Nat)(r:Bool×Int)(w:World)(hra:Rd w w.heap.size 6 A (sa.map fH.cells))(hrb:Rd w w.heap.size 6 A' (sb.map fH.cells))(hl:sa.length<=c)(hl':sb.length<=c')(hc:sa.length<=100000000000000)(hc':sb.length<=100000000000000)(h:qJ sa sb=r) :
  Calls Tryz.prog 105 #[.slice A sa.length c,.slice A' sb.length c'] w (aB w (.tuple #[.bool r.1,.int .i64 r.2])):=by
 have:=TD sa sb A A' c c' w hra hrb hl hl' hc hc'
 rwa [h] at this
theorem Jt (f g:FV)(r:Bool)(w:World)(hf:f.rd w w.heap.size)(hg:g.rd w w.heap.size)(vf:bC f=true)(vg:bC g=true)(hk:f.kind=4)(h:DF f g=r) :
  Calls Tryz.prog 86 #[f.val,g.val] w (aB w (.tuple #[.bool r,.int .i64 0])):=by
 have hm:=aQ
 have k1:=hide (fun W (h:Grew w W)=>dD f true W (hf.up h) vf)
 have k2:=hide (fun W (h:Grew w W)=>dD g true W (hg.up h) vg)
 obtain⟨⟨n,e⟩,hn⟩:∃u,qJ f.secs g.secs=u:=⟨_,rfl⟩
 have k3:=hide (fun W (h:Grew w W)=>ZV f.secs g.secs f.sA g.sA f.sc g.sc (n,e) W ((hf.up h).secs) ((hg.up h).secs) hf.lc hg.lc hf.ls hg.ls hn)
 unfold DF at h
 rw[hn] at h
 dsimp only at h k3
 clear hf hg vf vg hn
 obtain⟨fid,fk,fx,fy,fr,faA,fac,fa,fd,fs,fsA,fsc,fss⟩:=f
 obtain⟨gid,gk,gx,gy,gr,gaA,gac,ga,gd,gs,gsA,gsc,gss⟩:=g
 unfold FV.val at *
 dsimp only at *
 subst hk
 generalize fss.length=nf at *
 generalize gss.length=ng at *
 have hcase:gk≠4\/(gk=4/\gx≠fx)\/(gk=4/\gx=fx/\gy≠fy)\/(gk=4/\gx=fx/\gy=fy/\(e==0)=false)\/(gk=4/\gx=fx/\gy=fy/\e=0):=by
  by_cases h1:gk=4<;>by_cases h2:gx=fx<;>by_cases h3:gy=fy<;>by_cases h4:e=0<;>simp[h1,h2,h3,h4]
 rcases hcase with h1|⟨rfl,h2⟩|⟨rfl,rfl,h3⟩|⟨rfl,rfl,rfl,h4⟩|⟨rfl,rfl,rfl,rfl⟩
 ·obtain rfl:r=false:=by rw[<-h,decide_eq_false h1];rfl
  clear h
  go_enter Tryz.func86,Tryz.ntmps86
  go_wp2_with (first|(go_at_call 56;with_reducible refine aT (k1.out _ gw) fun _ _=>?_;dsimp only)|(go_at_call 56;with_reducible refine aT (k2.out _ gw) fun _ _=>?_;dsimp only))
  go_ret2
  exact aB.mk' rfl gw
 ·obtain rfl:r=false:=by rw[<-h,decide_eq_false (show ¬ (gx=fx/\gy=fy) from fun e=>h2 e.1)];simp
  clear h
  go_enter Tryz.func86,Tryz.ntmps86
  go_wp2_with (first|(go_at_call 56;with_reducible refine aT (k1.out _ gw) fun _ _=>?_;dsimp only)|(go_at_call 56;with_reducible refine aT (k2.out _ gw) fun _ _=>?_;dsimp only))
  go_ret2
  exact aB.mk' rfl gw
 ·obtain rfl:r=false:=by rw[<-h,decide_eq_false (show ¬ (gx=gx/\gy=fy) from fun e=>h3 e.2)];simp
  clear h
  go_enter Tryz.func86,Tryz.ntmps86
  go_wp2_with (first|(go_at_call 56;with_reducible refine aT (k1.out _ gw) fun _ _=>?_;dsimp only)|(go_at_call 56;with_reducible refine aT (k2.out _ gw) fun _ _=>?_;dsimp only))
  go_ret2
  exact aB.mk' rfl gw
 ·obtain rfl:r=false:=by rw[<-h,h4];simp
  clear h
  go_enter Tryz.func86,Tryz.ntmps86
  go_wp2_with (first|(go_at_call 56;with_reducible refine aT (k1.out _ gw) fun _ _=>?_;dsimp only)|(go_at_call 56;with_reducible refine aT (k2.out _ gw) fun _ _=>?_;dsimp only)|(go_at_call 105;with_reducible refine aT (k3.out _ gw) fun _ _=>?_;dsimp only))
  go_ret2
  exact aB.mk' rfl gw
 ·obtain rfl:r = !n:=by rw[<-h];simp
  clear h
  cases n
  all_goals
   go_enter Tryz.func86,Tryz.ntmps86
   go_wp2_with (first|(go_at_call 56;with_reducible refine aT (k1.out _ gw) fun _ _=>?_;dsimp only)|(go_at_call 56;with_reducible refine aT (k2.out _ gw) fun _ _=>?_;dsimp only)|(go_at_call 105;with_reducible refine aT (k3.out _ gw) fun _ _=>?_;dsimp only))
   go_ret2
   exact aB.mk' rfl gw
theorem OE (f g:FV)(w:World)(hf:f.rd w w.heap.size)(hg:g.rd w w.heap.size)(h:(bC f&&bC g)=false) :
  Calls Tryz.prog 86 #[f.val,g.val] w (aB w (.tuple #[.bool false,.int .i64 1])):=by
 have hm:=aQ
 obtain⟨a,ha⟩:∃u,bC f=u:=⟨_,rfl⟩
 obtain⟨b,hb⟩:∃u,bC g=u:=⟨_,rfl⟩
 have k1:=hide (fun W (h:Grew w W)=>dD f a W (hf.up h) ha)
 have k2:=hide (fun W (h:Grew w W)=>dD g b W (hg.up h) hb)
 rw[ha,hb] at h
 clear hf hg ha hb
 have hcase:a=false\/(a=true/\b=false):=by cases a<;>cases b<;>simp at h ⊢
 rcases hcase with rfl|⟨rfl,rfl⟩
 all_goals
  go_enter Tryz.func86,Tryz.ntmps86
  go_wp2_with (first|(go_at_call 56;with_reducible refine aT (k1.out _ gw) fun _ _=>?_;dsimp only)|(go_at_call 56;with_reducible refine aT (k2.out _ gw) fun _ _=>?_;dsimp only))
  go_ret2
  exact aB.mk' rfl gw
theorem Xx (f g:FV)(r:Bool×Int)(w:World)(hf:f.rd w w.heap.size)(hg:g.rd w w.heap.size)(h:su f g=r) :
  Calls Tryz.prog 86 #[f.val,g.val] w (aB w (.tuple #[.bool r.1,.int .i64 r.2])):=by
 unfold su at h
 subst h
 by_cases hv:(bC f&&bC g)=true
 ·rw[if_pos hv]
  have hv2:=hv
  rw[Bool.and_eq_true] at hv2
  unfold DI
  by_cases hk:f.kind=4
  ·rw[if_pos hk]
   exact Jt f g _ w hf hg hv2.1 hv2.2 hk rfl
  ·rw[if_neg hk]
   exact Js f g w hf hg hv2.1 hv2.2 hk
 ·rw[if_neg hv]
  exact OE f g w hf hg (by simpa using hv)
set_option maxHeartbeats 8000000
set_option maxRecDepth 100000
attribute [local go_sem] IE Io II Iy IG Ip IJ Iz Eb D8 Ee Ea
instance:Inhabited FV:=⟨⟨0,0,0,0,0,none,0,[],0,0,none,0,[]⟩⟩
structure mM (w:World) (B:Nat) (A:Option Addr) (fs:List FV):Prop where
 row:Rd w B 9 A (fs.map FV.cells)
 each:∀f,f∈fs->f.rd w B
theorem mM.up {w w':World}{A:Option Addr}{fs:List FV}(h:mM w w.heap.size A fs)(hg:Grew w w'):mM w' w'.heap.size A fs:=⟨h.row.up hg,fun f hf=>(h.each f hf).up hg⟩
theorem mM.nil (w:World)(B:Nat)(A:Option Addr):mM w B A []:=⟨Rd.nil _ _ _ _,fun f h=>by cases h⟩
def aP (fs:List FV)(k:Nat):FV:=fs.getD k default
theorem dA {fs:List FV}{k:Nat}(h:k<fs.length):fs[k]?=some (aP fs k):=by
 unfold aP
 rw[List.getD_eq_getElem?_getD,List.getElem?_eq_getElem h]
 rfl
theorem dL {fs:List FV}{k:Nat}(h:k<fs.length):aP fs k∈fs:=List.mem_of_getElem? (dA h)
structure Ua (w:World) (b o:Nat) (f:FV):Prop where
 c0:w.cell? ⟨b,o,none⟩=some (.int .i64 f.id)
 c1:w.cell? ⟨b,o+1,none⟩=some (.int .i64 f.kind)
 c2:w.cell? ⟨b,o+2,none⟩=some (.int .i64 f.x)
 c3:w.cell? ⟨b,o+3,none⟩=some (.int .i64 f.y)
 c4:w.cell? ⟨b,o+4,none⟩=some (.int .i64 f.dn)
 c5:w.cell? ⟨b,o+5,none⟩=some (.slice f.aA f.area.length f.ac)
 c6:w.cell? ⟨b,o+6,none⟩=some (.int .i64 f.dep)
 c7:w.cell? ⟨b,o+7,none⟩=some (.int .i64 f.sym)
 c8:w.cell? ⟨b,o+8,none⟩=some (.slice f.sA f.secs.length f.sc)
theorem vW {w:World}{B:Nat}{A:Option Addr}{fs:List FV}{k:Nat}(h:mM w B A fs)(hk:k<fs.length) :
  ∃b off,Hid (A=some ⟨b,off,none⟩)/\b<B/\Ua w b (off+k*9) (aP fs k):=by
 obtain⟨b,off,hA,hb,hc⟩:=h.row.at_ (k:=k) (x:=(aP fs k).cells) (by simp[dA hk])
 exact⟨b,off,hA,hb,hc 0 _ rfl,hc 1 _ rfl,hc 2 _ rfl,hc 3 _ rfl,hc 4 _ rfl,hc 5 _ rfl,hc 6 _ rfl,hc 7 _ rfl,hc 8 _ rfl⟩
def vK (fs:List FV)(k:Nat):Int:=if k=0 then 0 else (aP fs (k-1)).id
def Fv (fs:List FV)(k:Nat):Bool:=bC (aP fs k)&&decide (vK fs k<(aP fs k).id)
def upTo (fs:List FV)(k:Nat):Bool:=(List.range k).all (Fv fs)
def bG (fs:List FV):Bool:=upTo fs fs.length&&decide (fs.length<=300)
theorem QE {fs:List FV}{k:Nat}(h:upTo fs k=true):upTo fs (k+1)=Fv fs k:=by
 unfold upTo at h ⊢
 rw[List.range_succ,List.all_append,h]
 simp
theorem Yb {fs:List FV}{k n:Nat}(hk:k<n)(h:Fv fs k=false):upTo fs n=false:=by
 unfold upTo
 rw[List.all_eq_false]
 exact⟨k,List.mem_range.2 hk,by rw[h];simp⟩
theorem je (fs:List FV)(A:Option Addr)(c:Nat)(r:Bool)(w:World)(hr:mM w w.heap.size A fs)(hc:fs.length<=100000000000000)(h:bG fs=r) :
  Calls Tryz.prog 37 #[.slice A fs.length c] w (aB w (.bool r)):=by
 have hm:=aQ
 have HH:=hide h
 have HR:=hide hr
 clear h hr
 go_enter Tryz.func37,Tryz.ntmps37
 go_wp2_with fail
 go_loopw [3,8] (fun l i wr=>∃k:Nat,k<=fs.length/\i=.int .i64 k/\l=.int .i64 (vK fs k)/\Grew w wr/\uN (upTo fs k=true)) (fun _ i _=>fs.length-(intOf i).toNat)
 case atStart=>exact⟨0,by omega,rfl,rfl,gw,rfl⟩
 case round =>
  obtain⟨k,hk,rfl,rfl,hg,hall⟩:=hrel
  have HG:=hide hg
  have HA:=hide hall.stop
  clear hg hall
  by_cases hlt:k<fs.length
  ·obtain⟨b,off,hA,hb,fc⟩:=vW (HR.out.up HG.out) hlt
   have hfr:=HR.out.each _ (dL hlt)
   have hix:=aJ (cap:=c) Tryz.underlying23 Tryz.sizeOf65 hA.out hlt
   have hst:=QE HA.out
   unfold Fv at hst
   have KX:vK fs (k+1)=(aP fs k).id:=by unfold vK;rw[if_neg (by omega),Nat.add_sub_cancel]
   obtain⟨v,hv⟩:∃v,bC (aP fs k)=v:=⟨_,rfl⟩
   rw[hv] at hst
   have k1:=hide (fun W (hg:Grew w W)=>dD (aP fs k) v W (hfr.up hg) hv)
   obtain⟨l,hl⟩:∃l,vK fs k=l:=⟨_,rfl⟩
   rw[hl] at hst ⊢
   have hno:(v&&decide (l<(aP fs k).id))=false->r=false:=fun e=>by
    rw[<-HH.out]
    unfold bG
    rw[Yb hlt (by unfold Fv;rw[hv,hl];exact e)]
    rfl
   obtain⟨c0,c1,c2,c3,c4,c5,c6,c7,c8⟩:=fc
   clear hl hv hA hfr
   generalize aP fs k=f at *
   obtain⟨id,kind,x,y,dn,aA,ac,area,dep,sym,sA,sc,secs⟩:=f
   unfold FV.val at k1
   dsimp only at *
   generalize area.length=na at *
   generalize secs.length=ns at *
   have HST:=hide hst
   have XJ:=hide KX
   clear hst KX
   cases v
   ·have G6:=hide (hno (by simp))
    clear hno
    go_wp2_with (go_at_call 56;with_reducible refine aT (k1.out _ (HG.out.trans gw)) fun _ _=>?_;dsimp only)
    go_ret
    exact aB.mk' (by rw[G6.out];rfl) (HG.out.trans gw)
   ·by_cases hid:l<id
    ·have agb:¬ id<=l:=by omega
     clear hno
     go_wp2_with (go_at_call 56;with_reducible refine aT (k1.out _ (HG.out.trans gw)) fun _ _=>?_;dsimp only)
     go_roundw
     case rel=>exact⟨k+1,by omega,by go_num,by rw[XJ.out],HG.out.trans gw,show upTo fs (k+1)=true from (by rw[HST.out];simp[hid])⟩
     case measure=>simp[intOf];omega
    ·have agb:id<=l:=by omega
     have G6:=hide (hno (by simp[hid]))
     clear hno
     go_wp2_with (go_at_call 56;with_reducible refine aT (k1.out _ (HG.out.trans gw)) fun _ _=>?_;dsimp only)
     go_ret
     exact aB.mk' (by rw[G6.out];rfl) (HG.out.trans gw)
  ·obtain rfl:k=fs.length:=by omega
   have e:r=decide (fs.length<=300):=by
    rw[<-HH.out]
    unfold bG
    rw[HA.out]
    rfl
   have HE:=hide e
   clear e
   go_wp2_with fail
   go_ret
   exact aB.mk' (by rw[HE.out];exact dS (by rw[Bool.eq_iff_iff];simp;try omega)) HG.out
def iQ (f:FV)(p:Pt):Bool:=if f.kind=4 then false else if f.kind=3\/f.kind=6 then Ji f.area p else ni f.x f.y f.dn p
def kT (p:Pt)(l:Int)(f:FV):Int:=if (decide (f.dep<l)&&iQ f p)=true then f.dep else l
def o6 (fs:List FV)(p:Pt)(k:Nat):Int:=(fs.take k).foldl (kT p) 100000
def Hu (fs:List FV)(p:Pt):Int×Int:=if (bG fs&&p.ok)=true then (o6 fs p fs.length,0) else (0,1)
theorem Ht {fs:List FV}{p:Pt}{k:Nat}(h:k<fs.length):o6 fs p (k+1)=kT p (o6 fs p k) (aP fs k):=by
 unfold o6
 rw[List.take_add_one,dA h,List.foldl_append]
 rfl
theorem ZU (fs:List FV)(A:Option Addr)(c:Nat)(p:Pt)(r:Int×Int)(w:World)(hr:mM w w.heap.size A fs)(hc:fs.length<=100000000000000)(h:Hu fs p=r) :
  Calls Tryz.prog 15 #[.slice A fs.length c,pt p.1 p.2] w (aB w (.tuple #[.int .i64 r.1,.int .i64 r.2])):=by
 have hm:=aQ
 obtain⟨u,hu⟩:∃u,bG fs=u:=⟨_,rfl⟩
 obtain⟨v,hv⟩:∃u,p.ok=u:=⟨_,rfl⟩
 have k1:=hide (fun W (hg:Grew w W)=>je fs A c u W (hr.up hg) hc hu)
 have k2:=hide (fun W=>dP p.1 p.2 v W hv)
 unfold Hu at h
 rw[hu,hv] at h
 have HR:=hide hr
 clear hu hv hr
 obtain⟨p1,p2⟩:=p
 dsimp only at *
 have hcase:u=false\/(u=true/\v=false)\/(u=true/\v=true):=by cases u<;>cases v<;>simp
 rcases hcase with rfl|⟨rfl,rfl⟩|⟨rfl,rfl⟩
 ·rw[if_neg (by simp)] at h
  subst h
  go_enter Tryz.func15,Tryz.ntmps15
  go_wp2_with (first|(go_at_call 37;with_reducible refine aT (k1.out _ gw) fun _ _=>?_;dsimp only)|(go_at_call 49;with_reducible refine aT (k2.out _) fun _ _=>?_;dsimp only))
  go_ret2
  exact aB.mk' rfl gw
 ·rw[if_neg (by simp)] at h
  subst h
  go_enter Tryz.func15,Tryz.ntmps15
  go_wp2_with (first|(go_at_call 37;with_reducible refine aT (k1.out _ gw) fun _ _=>?_;dsimp only)|(go_at_call 49;with_reducible refine aT (k2.out _) fun _ _=>?_;dsimp only))
  go_ret2
  exact aB.mk' rfl gw
 ·rw[if_pos (by rfl)] at h
  subst h
  go_enter Tryz.func15,Tryz.ntmps15
  go_wp2_with (first|(go_at_call 37;with_reducible refine aT (k1.out _ gw) fun _ _=>?_;dsimp only)|(go_at_call 49;with_reducible refine aT (k2.out _) fun _ _=>?_;dsimp only))
  refine eG ?_
  intro W0 hW
  have hg0:Grew w W0:=by rw[<-hW];exact gw
  have hbp:W0.heap[w.heap.size]?=some (.cells #[.int .i64 p1,.int .i64 p2] 28 (0,0)):=by
   rw[<-hW]
   exact (Grew.heap (w:=w.alloc (.cells #[.int .i64 p1,.int .i64 p2] 28)) gw (by simp)).trans (heap_alloc_new _ _)
  have lQ:=hide hg0
  have MK:=hide hbp
  clear hW hg0 hbp k1 k2
  go_loopw [6,19] (fun l i wr=>∃k:Nat,k<=fs.length/\i=.int .i64 k/\l=.int .i64 (o6 fs (p1,p2) k)/\Grew W0 wr) (fun _ i _=>fs.length-(intOf i).toNat)
  case atStart=>exact⟨0,by omega,rfl,rfl,Grew.refl _⟩
  case round =>
   obtain⟨k,hk,rfl,rfl,hg⟩:=hrel
   have HG:=hide hg
   have bp:=(hg.heap (ax MK.out)).trans MK.out
   have d0:=ag bp 0
   have d1:=ag bp 1
   have lp:=ax bp
   clear hg bp
   by_cases hlt:k<fs.length
   ·obtain⟨b,off,hA,hb,fc⟩:=vW (HR.out.up (lQ.out.trans HG.out)) hlt
    have hfr:=(HR.out.up (lQ.out.trans HG.out)).each _ (dL hlt)
    have hix:=aJ (cap:=c) Tryz.underlying23 Tryz.sizeOf65 hA.out hlt
    have hst:=Ht (p:=(p1,p2)) hlt
    unfold kT at hst
    obtain⟨l,hl⟩:∃l,o6 fs (p1,p2) k=l:=⟨_,rfl⟩
    rw[hl] at hst ⊢
    obtain⟨o,ho⟩:∃o,iQ (aP fs k) (p1,p2)=o:=⟨_,rfl⟩
    rw[ho] at hst
    have TU:Hid ((∃x y,(aP fs k).sh=.iface 148 (.agg #[.int .i64 x,.int .i64 y])/\∀W,Grew wr W->Calls Tryz.prog 202 #[.agg #[.int .i64 x,.int .i64 y],pt p1 p2] W (aB W (.bool o)))\/((aP fs k).sh=.iface 149 (.slice (aP fs k).aA (aP fs k).area.length (aP fs k).ac)/\∀W,Grew wr W->Calls Tryz.prog 206 #[.slice (aP fs k).aA (aP fs k).area.length (aP fs k).ac,pt p1 p2] W (aB W (.bool o)))\/(∃x y r,(aP fs k).sh=.iface 151 (.agg #[.int .i64 x,.int .i64 y,.int .i64 r])/\∀W,Grew wr W->Calls Tryz.prog 222 #[.agg #[.int .i64 x,.int .i64 y,.int .i64 r],pt p1 p2] W (aB W (.bool o)))):=hide (by
     unfold iQ at ho
     by_cases h4:(aP fs k).kind=4
     ·rw[if_pos h4] at ho
      exact .inl ⟨_,_,nZ h4,fun W _=>by rw[<-ho];exact xA _ _ (p1,p2) W⟩
     ·rw[if_neg h4] at ho
      by_cases h3:(aP fs k).kind=3\/(aP fs k).kind=6
      ·rw[if_pos h3] at ho
       exact .inr (.inl ⟨lT h3,fun W hg=>zK _ _ _ (p1,p2) _ W (hfr.up hg).area hfr.la ho⟩)
      ·rw[if_neg h3] at ho
       exact .inr (.inr ⟨_,_,_,mV h4 h3,fun W _=>uA _ _ _ (p1,p2) _ W ho⟩))
    have kof:Hid (∀v W,(aP fs k).sh=v->Calls Tryz.prog 50 #[(aP fs k).val] W (aB W v)):=hide (fun v W e=>xk _ v W e)
    obtain⟨c0,c1,c2,c3,c4,c5,c6,c7,c8⟩:=fc
    clear hl ho hA hfr
    generalize aP fs k=f at *
    obtain⟨id,kind,x,y,dn,aA,ac,area,dep,sym,sA,sc,secs⟩:=f
    generalize FV.sh _=S at *
    unfold FV.val at kof
    dsimp only at *
    generalize area.length=na at *
    generalize secs.length=ns at *
    have HST:=hide hst
    clear hst
    by_cases hd:dep<l
    ·rcases TU.out with⟨x',y',rfl,kc⟩|⟨rfl,kc⟩|⟨x',y',r',rfl,kc⟩
     ·have KC:=hide kc
      have ko:=hide (fun W=>kof.out _ W rfl)
      clear kc kof TU
      cases o
      all_goals
       go_wp2_with fail
       refine ay 10 [] [] hm (h:=?_)
       repeat (refine au (fun K hK=>?_);go_simp;first|(refine hK _ ?_;clear hK K)|(apply Exists.intro;refine⟨fun _=>?_,hK _ ?_⟩;(first|(go_at_call 50;with_reducible exact ko.out _)|(go_at_call 202;with_reducible exact KC.out _ gw));clear hK K))
       refine kZ fun nq osq=>?_
       try simp only[Act.put,aG]
       try dsimp only
       go_wp2_with fail
       go_roundw
       case rel=>exact⟨k+1,by omega,by go_num,by rw[HST.out];simp[hd],HG.out.trans gw⟩
       case measure=>simp[intOf];omega
     ·have KC:=hide kc
      have ko:=hide (fun W=>kof.out _ W rfl)
      clear kc kof TU
      cases o
      all_goals
       go_wp2_with fail
       refine ay 10 [] [] hm (h:=?_)
       repeat (refine au (fun K hK=>?_);go_simp;first|(refine hK _ ?_;clear hK K)|(apply Exists.intro;refine⟨fun _=>?_,hK _ ?_⟩;(first|(go_at_call 50;with_reducible exact ko.out _)|(go_at_call 206;with_reducible exact KC.out _ gw));clear hK K))
       refine kZ fun nq osq=>?_
       try simp only[Act.put,aG]
       try dsimp only
       go_wp2_with fail
       go_roundw
       case rel=>exact⟨k+1,by omega,by go_num,by rw[HST.out];simp[hd],HG.out.trans gw⟩
       case measure=>simp[intOf];omega
     ·have KC:=hide kc
      have ko:=hide (fun W=>kof.out _ W rfl)
      clear kc kof TU
      cases o
      all_goals
       go_wp2_with fail
       refine ay 10 [] [] hm (h:=?_)
       repeat (refine au (fun K hK=>?_);go_simp;first|(refine hK _ ?_;clear hK K)|(apply Exists.intro;refine⟨fun _=>?_,hK _ ?_⟩;(first|(go_at_call 50;with_reducible exact ko.out _)|(go_at_call 222;with_reducible exact KC.out _ gw));clear hK K))
       refine kZ fun nq osq=>?_
       try simp only[Act.put,aG]
       try dsimp only
       go_wp2_with fail
       go_roundw
       case rel=>exact⟨k+1,by omega,by go_num,by rw[HST.out];simp[hd],HG.out.trans gw⟩
       case measure=>simp[intOf];omega
    ·have hd2:decide (dep<l)=false:=decide_eq_false hd
     clear kof TU
     go_wp2_with fail
     refine ay 10 [] [] hm (h:=?_)
     repeat (refine au (fun K hK=>?_);go_simp;refine hK _ ?_;clear hK K)
     refine kZ fun nq osq=>?_
     try simp only[Act.put,aG]
     try dsimp only
     go_wp2_with fail
     go_roundw
     case rel=>exact⟨k+1,by omega,by go_num,by rw[HST.out,hd2];simp,HG.out.trans gw⟩
     case measure=>simp[intOf];omega
   ·obtain rfl:k=fs.length:=by omega
    go_wp2_with fail
    go_ret2
    exact aB.mk' rfl (lQ.out.trans HG.out)
end Go.Proofs.YtlkgjmnjhifehaaGreat
