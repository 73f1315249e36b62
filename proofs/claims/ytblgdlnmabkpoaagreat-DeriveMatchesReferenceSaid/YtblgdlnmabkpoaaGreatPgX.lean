import Derived.Test.YtblgdlnmabkpoaaGreatPod
import Derived.Test.YtblgdlnmabkpoaaGreatFeA
/- Package poly: place, In, Area. Package poly: In, Area; the ways that a corner opens. Package poly: what a corner opens; the index of a corner; leads. -/
set_option linter.unusedSimpArgs false
set_option linter.unusedVariables false
set_option maxHeartbeats 4000000
set_option maxRecDepth 100000
namespace Go.Proofs.YtblgdlnmabkpoaaGreat
open Go.RowKit Go.Sort
attribute [local go_sem] Steady steadyUpon
attribute [local go_sem ↓] hs_dr lt_add_r lt_add_r2 lt_add_r3 lt_add_r4 lt_add_r5 lt_add_r6
attribute [local go_sem] cell?_gd frozen?_gd setCell_gd size_grow tape_grow cell?_grow' frozen?_grow' setCell_grow' grow_grow grow_dr grow_drew dr_dr dr_drew drew_dr dr_alloc dr_setCell dr_cell dr_frozen dr_tape dr_drawn
attribute [local irreducible] wpSteady
attribute [local go_sem] Oper.semAt_some
/-- Whether the ray from a place to the right crosses an edge. -/
def crossB (q a b:Pt):Bool :=
 if b.2<a.2 then decide (b.2≤q.2∧q.2<a.2)&&decide (0<tn b a q) else decide (a.2≤q.2∧q.2<b.2)&&decide (0<tn a b q)
def par (ps:List Pt)(q:Pt)(is:List Nat):Bool:=is.foldl (fun s i=>s ^^ crossB q (cor ps i) (cor ps (i+1))) false
theorem par_snoc (ps:List Pt)(q:Pt)(is:List Nat)(i:Nat):par ps q (is++[i])=(par ps q is ^^ crossB q (cor ps i) (cor ps (i+1))):=by unfold par;rw[List.foldl_append];rfl
def onAny (ps:List Pt)(q:Pt):Bool:=(List.range ps.length).any fun i=>onB q (cor ps i) (cor ps (i+1))
/-- Where a place is. -/
def placeOf (ps:List Pt)(q:Pt):Int:=if onAny ps q=true then 0 else if par ps q (List.range ps.length)=true then 1 else -1
theorem place_any (ps:List Pt)(A:Option Addr)(c:Nat)(q:Pt)(w:World)(hr:Rd w w.heap.size 2 A (ps.map encD))(hl:ps.length≤100)(hok:ps.all Pt.ok=true)(hq:q.ok=true) :
  Calls Tryz.prog 243 #[.slice A ps.length c,pt q.1 q.2] w (Ret w (.int .i64 (placeOf ps q))):=by
 have hm:=hmix
 have HR:=hide hr
 have HOK:=hide hok
 have HQ:=hide hq
 clear hr hok hq
 refine (callsIn_wide (n:=13)).1 ?_
 refine callsIn_of_wp_marks Tryz.func243 rfl trivial ?_ rfl
 simp only[Tryz.ntmps243,List.size_toArray,List.length_cons,List.length_nil,Nat.reduceAdd,Nat.reduceSub,Array.replicate_succ,Array.replicate_zero,List.push_toArray,List.append_toArray,List.nil_append,List.cons_append]
 gi_wp2_with fail
 refine⟨trivial,?_⟩
 refine (callsIn_wide.2 (edges_any _ _ _ _)).mono ?_
 rintro e w' ⟨rfl,rfl⟩
 dsimp only
 gi_wp2_with fail
 refine wpIn_name ?_
 intro a0 W0 ha hW
 obtain⟨bx,hbx⟩:∃bx:List Obj,bx=[.cells #[.int .i64 q.1,.int .i64 q.2] 26 (0,0),.cells #[.int .i64 0] 3 (0,0)]:=⟨_,rfl⟩
 have hg0:Grew w W0:=by rw[←hW];exact gw
 have hb0:Bx W0 w.heap.size bx:=by rw[←hW,hbx];refine (Bx.allocs _ w).1.grew ?_;simp only[List.foldl];exact (((Grew.refl _).alloc _).alloc _)
 have hb2:Boxed W0 (w.heap.size+2) 4 (.bool false):=by rw[←hW];exact (heap_alloc_old _ _ (by simp)).trans (heap_alloc_at _ _ _ (by simp))
 have hk0:W0.heap[w.heap.size+3]?=some (.cells #[.slice A ps.length c] 152 (0,0)):=by rw[←hW];exact heap_alloc_at _ _ _ (by simp)
 have hsz:w.heap.size+4≤W0.heap.size:=by rw[←hW];simp
 have hbl:bx.length=2:=by rw[hbx];rfl
 clear hW
 refine wpIn_rangeFunc_ownH (n:=13) rfl (by omega) (gf:=198) (lb:=#[.pointer (some ⟨w.heap.size+3,0,none⟩)]) (by rw[←ha];simp[Act.eval]) trivial (enters_of Tryz.func198 (by kernel_rfl) rfl)
  (edges1_stops 12 w.heap.size (fun b _=>b=w.heap.size+2) ps A c (w.heap.size+3) W0 (fun b _ hb=>by omega) hk0 (HR.out.grew hg0 (Nat.le_refl _)) (by omega) (by omega))
  (fun h k=>h.trans k) KpM.bk (Below.refl _ _) (fun _=>rfl)
  (fun pre W=>((Below w.heap.size w W∧Bx W w.heap.size bx)∧Boxed W (w.heap.size+2) 4 (.bool (par ps q (pre.map Fin.val))))∧∀i∈pre,onB q (cor ps i.1) (cor ps (i.1+1))=false)
  (fun e pre W=>(Below w.heap.size w W∧Boxed W (w.heap.size+1) 3 (.int .i64 0))∧e=.ret∧onAny ps q=true)
  (OwnFrom.and (OwnFrom.and (OwnFrom.and (ownFrom_below (Nat.le_refl _) hg0.below.size) (Bx.own (by omega))) (Own.from (boxed_own _ _ _) _)) (ownFrom_pure _))
  (fun q=>OwnFrom.and (OwnFrom.and (ownFrom_below (Nat.le_refl _) hg0.below.size) (Own.from (boxed_own _ _ _) _)) (ownFrom_pure _))
  ⟨⟨⟨hg0.below,hb0⟩,hb2⟩,fun i hi=>by cases hi⟩
  (fun x a' W=>∃B,W.heap[B]?=some (.cells #[.int .i64 (cor ps x.1).1,.int .i64 (cor ps x.1).2,.int .i64 (cor ps (x.1+1)).1,.int .i64 (cor ps (x.1+1)).2] 191 (0,0))∧a'={ tmps:=((a0.tmps.setIfInBounds 12 (.int .i64 (x.1:Nat))).setIfInBounds 13 (.agg #[.int .i64 (cor ps x.1).1,.int .i64 (cor ps x.1).2,.int .i64 (cor ps (x.1+1)).1,.int .i64 (cor ps (x.1+1)).2])).setIfInBounds 7 (.pointer (some ⟨B,0,none⟩)),defers:=[] })
  (fun x a'=>by
   rintro s X Y row ⟨B,h1,h2⟩ hg hr
   exact⟨B,cells_own h1 hg (fun r e=>(hr r e).2),h2⟩)
  ?assign ?body ?done ?stop
 case assign =>
  rintro l pre x W K ⟨⟨⟨hB,hb⟩,hbo⟩,hp⟩ hK
  rw[show encE ps x=#[.int .i64 (x.1:Nat),.agg #[.int .i64 (cor ps x.1).1,.int .i64 (cor ps x.1).2,.int .i64 (cor ps (x.1+1)).1,.int .i64 (cor ps (x.1+1)).2]] from rfl,asg2]
  subst ha
  simp only[List.setIfInBounds_toArray,List.set_cons_succ,List.set_cons_zero] at hK ⊢
  have hKK:=hide hK
  have hbl:=blk_lt hbo
  clear hK
  gi_wp2_with fail
  have hgg:Grew W (W.alloc (.cells #[.int .i64 (cor ps x.1).1,.int .i64 (cor ps x.1).2,.int .i64 (cor ps (x.1+1)).1,.int .i64 (cor ps (x.1+1)).2] 191)):=gw
  exact hKK.out _ _ (hgg.keepsFrom _) (KpM.grew hgg) ⟨⟨⟨hB.trans (hgg.below.mono hB.size),hb.grew hgg⟩,(hgg.below.block _ hbl).trans hbo⟩,hp⟩ ⟨W.heap.size,heap_alloc_new _ _,rfl⟩
 case body =>
  rintro l pre x a' W hl2 hlp ⟨⟨⟨hB,hb⟩,hbo⟩,hp⟩ ⟨B,hx,rfl⟩ hlt
  subst ha
  subst hbx
  obtain⟨i,hil⟩:=x
  dsimp only at hx
  simp only[List.setIfInBounds_toArray,List.set_cons_succ,List.set_cons_zero]
  have hpar:=par_snoc ps q (pre.map Fin.val) i
  obtain⟨pr,hpr⟩:∃p,par ps q (pre.map Fin.val)=p:=⟨_,rfl⟩
  rw[hpr] at hpar hbo
  have hon:=(fun (h:onB q (cor ps i) (cor ps (i+1))=true)=>(show onAny ps q=true from List.any_eq_true.2 ⟨i,List.mem_range.2 hil,h⟩))
  have oa:=cor_ok HOK.out i
  have ob:=cor_ok HOK.out (i+1)
  obtain⟨o,ho⟩:∃o,onB q (cor ps i) (cor ps (i+1))=o:=⟨_,rfl⟩
  have hnext:∀i'∈pre++[(⟨i,hil⟩:Fin ps.length)],o=false→onB q (cor ps i'.1) (cor ps (i'.1+1))=false:=fun i' hi' hof=>by
   rcases List.mem_append.1 hi' with h|h
   ·exact hp i' h
   ·obtain rfl:=List.mem_singleton.1 h
    rw[←hof];exact ho
  rw[ho] at hon
  have HNEXT:=hide hnext
  have HON:=hide hon
  have ko:=hide (fun W'=>on_v q (cor ps i) (cor ps (i+1)) o W' HQ.out oa ob ho)
  have k1:=hide (fun (t:Int) (h:tn (cor ps i) (cor ps (i+1)) q=t) W'=>turn_v (cor ps i) (cor ps (i+1)) q t W' oa ob HQ.out h)
  have k2:=hide (fun (t:Int) (h:tn (cor ps (i+1)) (cor ps i) q=t) W'=>turn_v (cor ps (i+1)) (cor ps i) q t W' ob oa HQ.out h)
  obtain⟨cb,hcb⟩:∃o,crossB q (cor ps i) (cor ps (i+1))=o:=⟨_,rfl⟩
  rw[hcb] at hpar
  have HCB:=hide hcb
  have HPAR:=hide hpar
  clear hnext hon ho hpr hpar hcb hp hlt
  unfold crossB at HCB
  generalize cor ps i=a at *
  generalize cor ps (i+1)=b at *
  obtain⟨a1,a2⟩:=a
  obtain⟨b1,b2⟩:=b
  obtain⟨x1,x2⟩:=q
  dsimp only at hx HCB hb ⊢
  have c0:W.cell? ⟨w.heap.size,0,none⟩=some (.int .i64 x1):=blk_cell (hb 0 _ rfl) 0
  have c1:W.cell? ⟨w.heap.size,1,none⟩=some (.int .i64 x2):=blk_cell (hb 0 _ rfl) 1
  have c2:W.cell? ⟨w.heap.size+2,0,none⟩=_:=hbo.cell
  have f2:W.frozen? ⟨w.heap.size+2,0,none⟩=_:=hbo.frozen
  have c3:W.cell? ⟨w.heap.size+1,0,none⟩=_:=(hb.box 1 rfl).cell
  have f3:W.frozen? ⟨w.heap.size+1,0,none⟩=_:=(hb.box 1 rfl).frozen
  have d0:W.cell? ⟨B,0,none⟩=some _:=blk_cell hx 0
  have d1:W.cell? ⟨B,1,none⟩=some _:=blk_cell hx 1
  have d2:W.cell? ⟨B,2,none⟩=some _:=blk_cell hx 2
  have d3:W.cell? ⟨B,3,none⟩=some _:=blk_cell hx 3
  have l2:=hbo.lt
  have l1:w.heap.size+1<W.heap.size:=by omega
  have l0:w.heap.size<W.heap.size:=by omega
  have lB:=blk_lt hx
  have HB:=hide hB
  have Hb:=hide hb
  have Hbo:=hide hbo
  clear hB hb hbo hx
  gi_wp2_with fail
  refine wpIn_region_qas 8 [⟨4,6,8,26,.agg #[.int .i64 0,.int .i64 0]⟩,⟨5,7,9,26,.agg #[.int .i64 0,.int .i64 0]⟩] [] hm (hZ:=(ZOk.cons Tryz.zeroValue26 Tryz.sizeOf26 (ZOk.cons Tryz.zeroValue26 Tryz.sizeOf26 ZOk.nil))) (h:=?_)
  repeat (refine wpSteady_step (fun K hK=>?_);go_simp;refine hK _ ?_;clear hK K)
  refine wpSteady_nil ?_
  refine⟨(StOk.cons (by rfl) (by simp[stOpnd,Act.eval,Value.cells,Value.oneCell']) (StOk.cons (by rfl) (by simp[stOpnd,Act.eval,Value.cells,Value.oneCell']) StOk.nil)),LyOk.nil,?_⟩
  rintro psq qsq Wq HWq HFq HBq
  obtain rfl:qsq=[]:=HBq
  obtain⟨p0,_,rfl,hp0,hb0,hn0,p1,_,rfl,hp1,hb1,hn1,rfl⟩:=HFq
  simp only[putAll,putB,Act.put,setA]
  simp[stOpnd,Act.eval,Value.cells] at hb0
  have gc0_0:Wq.cell? ⟨p0,0,none⟩=some _:=blk_cell hb0 0
  have gc0_1:Wq.cell? ⟨p0,1,none⟩=some _:=blk_cell hb0 1
  have gf0:=blk_frozen hb0
  have gl0:=blk_lt hb0
  simp[stOpnd,Act.eval,Value.cells] at hb1
  have gc1_0:Wq.cell? ⟨p1,0,none⟩=some _:=blk_cell hb1 0
  have gc1_1:Wq.cell? ⟨p1,1,none⟩=some _:=blk_cell hb1 1
  have gf1:=blk_frozen hb1
  have gl1:=blk_lt hb1
  have gn:p0≠p1:=by simpa using hn0
  have gm:p1≠p0:=fun e=>gn e.symm
  have gp0:=hide hp0
  have gp1:=hide hp1
  clear hb0 hn0 hp0 hb1 hn1 hp1
  have oc:=old_cell HWq
  have of:=old_frozen HWq
  have ol:=old_lt HWq
  replace HWq:=hide HWq
  have e0:Wq.cell? ⟨w.heap.size,0,none⟩=_:=(oc _ 0 l0).trans c0
  have e1:Wq.cell? ⟨w.heap.size,1,none⟩=_:=(oc _ 1 l0).trans c1
  have e2:Wq.cell? ⟨w.heap.size+2,0,none⟩=_:=(oc _ 0 l2).trans c2
  have e3:Wq.cell? ⟨w.heap.size+1,0,none⟩=_:=(oc _ 0 l1).trans c3
  have e4:Wq.frozen? ⟨w.heap.size+2,0,none⟩=_:=(of _ 0 l2).trans f2
  have e5:Wq.frozen? ⟨w.heap.size+1,0,none⟩=_:=(of _ 0 l1).trans f3
  have hgs:=HWq.out.below.size
  have m0:w.heap.size<Wq.heap.size:=by omega
  have m1:w.heap.size+1<Wq.heap.size:=by omega
  have m2:w.heap.size+2<Wq.heap.size:=by omega
  have gq0:=gp0.out
  have gq1:=gp1.out
  have GBQ:W.grownBy Wq (some (w.heap.size+2)):=gb_grew (gb_refl _ _) HWq.out
  have BQ:Boxed Wq (w.heap.size+2) 4 (.bool pr):=(HWq.out.below.block _ l2).trans Hbo.out
  have BR:Boxed Wq (w.heap.size+1) 3 (.int .i64 0):=(Hb.out.grew HWq.out).box 1 rfl
  have hn0:Hid (w.heap.size+2≠p0):=hide (by omega)
  have hn1:Hid (w.heap.size+2≠p1):=hide (by omega)
  have hgb:=hide GBQ
  have hbq:=hide BQ
  have hbr:=hide BR
  clear GBQ BQ BR c0 c1 c2 c3 f2 f3 d0 d1 d2 d3 oc of ol
  gi_wp2_with fail
  refine⟨trivial,?_⟩
  refine (CallsIn.inRound l (callsIn_wide.2 (ko.out _))).mono ?_
  rintro e w' ⟨rfl,⟨n5,os5⟩,rfl⟩
  dsimp only
  cases o
  ·have HN2:=hide (fun i' hi'=>HNEXT.out i' hi' rfl)
   clear HNEXT HON
   by_cases hs:b2<a2
   ·rw[if_pos hs] at HCB
    by_cases r1:b2≤x2
    ·by_cases r2:x2<a2
     ·obtain⟨t,ht⟩:∃t,tn (b1,b2) (a1,a2) (x1,x2)=t:=⟨_,rfl⟩
      have kt:=hide (k2.out t ht)
      rw[ht] at HCB
      clear ht
      by_cases r3:0<t
      ·obtain rfl:cb=true:=by rw[←HCB.out];simp[r1,r2,r3]
       rw[Bool.xor_true] at HPAR
       gi_wp2_with fail
       refine⟨trivial,?_⟩
       refine (CallsIn.inRound l (callsIn_wide.2 (kt.out _))).mono ?_
       rintro e w' ⟨rfl,⟨n6,os6⟩,rfl⟩
       dsimp only
       gi_wp2_with fail
       refine⟨gb_keeps (b:=w.heap.size+2) gbw ⟨_,Hbo.out,rfl⟩,gb_kpm (b:=w.heap.size+2) gbw (fun _=>rfl),⟨⟨gb_below (b:=w.heap.size+2) gbw HB.out (by omega),gb_bx (b:=w.heap.size+2) gbw Hb.out (.inr (by simp))⟩,?_⟩,HN2.out⟩
       rw[List.map_append,show [(⟨i,hil⟩:Fin ps.length)].map Fin.val=[i] from rfl,HPAR.out]
       exact (by repeat (with_reducible first|assumption|exact Hid.out (by assumption)|refine bxd_grow ?_ _ _|refine Boxed.set (v:=.bool pr) _ ?_|refine bxd_new ?_ (Hid.out (by assumption))|(refine bxd_grew ?_ (Hid.out (by assumption)))))
      ·obtain rfl:cb=false:=by rw[←HCB.out];simp[r1,r2,r3]
       rw[Bool.xor_false] at HPAR
       gi_wp2_with fail
       refine⟨trivial,?_⟩
       refine (CallsIn.inRound l (callsIn_wide.2 (kt.out _))).mono ?_
       rintro e w' ⟨rfl,⟨n6,os6⟩,rfl⟩
       dsimp only
       gi_wp2_with fail
       refine⟨gb_keeps (b:=w.heap.size+2) gbw ⟨_,Hbo.out,rfl⟩,gb_kpm (b:=w.heap.size+2) gbw (fun _=>rfl),⟨⟨gb_below (b:=w.heap.size+2) gbw HB.out (by omega),gb_bx (b:=w.heap.size+2) gbw Hb.out (.inr (by simp))⟩,?_⟩,HN2.out⟩
       rw[List.map_append,show [(⟨i,hil⟩:Fin ps.length)].map Fin.val=[i] from rfl,HPAR.out]
       exact (by repeat (with_reducible first|assumption|exact Hid.out (by assumption)|refine bxd_grow ?_ _ _|refine Boxed.set (v:=.bool pr) _ ?_|refine bxd_new ?_ (Hid.out (by assumption))|(refine bxd_grew ?_ (Hid.out (by assumption)))))
     ·obtain rfl:cb=false:=by rw[←HCB.out];simp[r1,r2]
      rw[Bool.xor_false] at HPAR
      gi_wp2_with fail
      refine⟨trivial,?_⟩
      gi_wp2_with fail
      refine⟨gb_keeps (b:=w.heap.size+2) gbw ⟨_,Hbo.out,rfl⟩,gb_kpm (b:=w.heap.size+2) gbw (fun _=>rfl),⟨⟨gb_below (b:=w.heap.size+2) gbw HB.out (by omega),gb_bx (b:=w.heap.size+2) gbw Hb.out (.inr (by simp))⟩,?_⟩,HN2.out⟩
      rw[List.map_append,show [(⟨i,hil⟩:Fin ps.length)].map Fin.val=[i] from rfl,HPAR.out]
      exact (by repeat (with_reducible first|assumption|exact Hid.out (by assumption)|refine bxd_grow ?_ _ _|refine Boxed.set (v:=.bool pr) _ ?_|refine bxd_new ?_ (Hid.out (by assumption))|(refine bxd_grew ?_ (Hid.out (by assumption)))))
    ·obtain rfl:cb=false:=by rw[←HCB.out];simp[r1]
     rw[Bool.xor_false] at HPAR
     gi_wp2_with fail
     refine⟨trivial,?_⟩
     gi_wp2_with fail
     refine⟨gb_keeps (b:=w.heap.size+2) gbw ⟨_,Hbo.out,rfl⟩,gb_kpm (b:=w.heap.size+2) gbw (fun _=>rfl),⟨⟨gb_below (b:=w.heap.size+2) gbw HB.out (by omega),gb_bx (b:=w.heap.size+2) gbw Hb.out (.inr (by simp))⟩,?_⟩,HN2.out⟩
     rw[List.map_append,show [(⟨i,hil⟩:Fin ps.length)].map Fin.val=[i] from rfl,HPAR.out]
     exact (by repeat (with_reducible first|assumption|exact Hid.out (by assumption)|refine bxd_grow ?_ _ _|refine Boxed.set (v:=.bool pr) _ ?_|refine bxd_new ?_ (Hid.out (by assumption))|(refine bxd_grew ?_ (Hid.out (by assumption)))))
   ·rw[if_neg hs] at HCB
    by_cases r1:a2≤x2
    ·by_cases r2:x2<b2
     ·obtain⟨t,ht⟩:∃t,tn (a1,a2) (b1,b2) (x1,x2)=t:=⟨_,rfl⟩
      have kt:=hide (k1.out t ht)
      rw[ht] at HCB
      clear ht
      by_cases r3:0<t
      ·obtain rfl:cb=true:=by rw[←HCB.out];simp[r1,r2,r3]
       rw[Bool.xor_true] at HPAR
       gi_wp2_with fail
       refine⟨trivial,?_⟩
       refine (CallsIn.inRound l (callsIn_wide.2 (kt.out _))).mono ?_
       rintro e w' ⟨rfl,⟨n6,os6⟩,rfl⟩
       dsimp only
       gi_wp2_with fail
       refine⟨gb_keeps (b:=w.heap.size+2) gbw ⟨_,Hbo.out,rfl⟩,gb_kpm (b:=w.heap.size+2) gbw (fun _=>rfl),⟨⟨gb_below (b:=w.heap.size+2) gbw HB.out (by omega),gb_bx (b:=w.heap.size+2) gbw Hb.out (.inr (by simp))⟩,?_⟩,HN2.out⟩
       rw[List.map_append,show [(⟨i,hil⟩:Fin ps.length)].map Fin.val=[i] from rfl,HPAR.out]
       exact (by repeat (with_reducible first|assumption|exact Hid.out (by assumption)|refine bxd_grow ?_ _ _|refine Boxed.set (v:=.bool pr) _ ?_|refine bxd_new ?_ (Hid.out (by assumption))|(refine bxd_grew ?_ (Hid.out (by assumption)))))
      ·obtain rfl:cb=false:=by rw[←HCB.out];simp[r1,r2,r3]
       rw[Bool.xor_false] at HPAR
       gi_wp2_with fail
       refine⟨trivial,?_⟩
       refine (CallsIn.inRound l (callsIn_wide.2 (kt.out _))).mono ?_
       rintro e w' ⟨rfl,⟨n6,os6⟩,rfl⟩
       dsimp only
       gi_wp2_with fail
       refine⟨gb_keeps (b:=w.heap.size+2) gbw ⟨_,Hbo.out,rfl⟩,gb_kpm (b:=w.heap.size+2) gbw (fun _=>rfl),⟨⟨gb_below (b:=w.heap.size+2) gbw HB.out (by omega),gb_bx (b:=w.heap.size+2) gbw Hb.out (.inr (by simp))⟩,?_⟩,HN2.out⟩
       rw[List.map_append,show [(⟨i,hil⟩:Fin ps.length)].map Fin.val=[i] from rfl,HPAR.out]
       exact (by repeat (with_reducible first|assumption|exact Hid.out (by assumption)|refine bxd_grow ?_ _ _|refine Boxed.set (v:=.bool pr) _ ?_|refine bxd_new ?_ (Hid.out (by assumption))|(refine bxd_grew ?_ (Hid.out (by assumption)))))
     ·obtain rfl:cb=false:=by rw[←HCB.out];simp[r1,r2]
      rw[Bool.xor_false] at HPAR
      gi_wp2_with fail
      refine⟨trivial,?_⟩
      gi_wp2_with fail
      refine⟨gb_keeps (b:=w.heap.size+2) gbw ⟨_,Hbo.out,rfl⟩,gb_kpm (b:=w.heap.size+2) gbw (fun _=>rfl),⟨⟨gb_below (b:=w.heap.size+2) gbw HB.out (by omega),gb_bx (b:=w.heap.size+2) gbw Hb.out (.inr (by simp))⟩,?_⟩,HN2.out⟩
      rw[List.map_append,show [(⟨i,hil⟩:Fin ps.length)].map Fin.val=[i] from rfl,HPAR.out]
      exact (by repeat (with_reducible first|assumption|exact Hid.out (by assumption)|refine bxd_grow ?_ _ _|refine Boxed.set (v:=.bool pr) _ ?_|refine bxd_new ?_ (Hid.out (by assumption))|(refine bxd_grew ?_ (Hid.out (by assumption)))))
    ·obtain rfl:cb=false:=by rw[←HCB.out];simp[r1]
     rw[Bool.xor_false] at HPAR
     gi_wp2_with fail
     refine⟨trivial,?_⟩
     gi_wp2_with fail
     refine⟨gb_keeps (b:=w.heap.size+2) gbw ⟨_,Hbo.out,rfl⟩,gb_kpm (b:=w.heap.size+2) gbw (fun _=>rfl),⟨⟨gb_below (b:=w.heap.size+2) gbw HB.out (by omega),gb_bx (b:=w.heap.size+2) gbw Hb.out (.inr (by simp))⟩,?_⟩,HN2.out⟩
     rw[List.map_append,show [(⟨i,hil⟩:Fin ps.length)].map Fin.val=[i] from rfl,HPAR.out]
     exact (by repeat (with_reducible first|assumption|exact Hid.out (by assumption)|refine bxd_grow ?_ _ _|refine Boxed.set (v:=.bool pr) _ ?_|refine bxd_new ?_ (Hid.out (by assumption))|(refine bxd_grew ?_ (Hid.out (by assumption)))))
  ·have HON2:=hide (HON.out rfl)
   clear HON HNEXT
   gi_wp2_with fail
   have hgs2:Grew (Wq.setCell ⟨w.heap.size+1,0,none⟩ (.int .i64 0)) (grow (dr (Wq.setCell ⟨w.heap.size+1,0,none⟩ (.int .i64 0)) n5) os5):=gw
   have hbs:=(HB.out.trans (HWq.out.below.mono HB.out.size)).setCell (p:=⟨w.heap.size+1,0,none⟩) (by simp) (.int .i64 0)
   exact⟨((HWq.out.keepsFrom _).trans (KeepsFrom.setCell _ _ _ _)).trans (hgs2.keepsFrom _),⟨hbs.trans (hgs2.below.mono hbs.size),bxd_grow (hbr.out.set _) _ _⟩,rfl,HON2.out⟩
 case done =>
  subst ha
  subst hbx
  rintro D xs W hD hS ⟨⟨⟨hB,hb⟩,hbo⟩,hp⟩ hK
  have b1:Boxed W (w.heap.size+1) _ _:=hb.box 1 rfl
  have c1:=b1.cell
  have f1:=b1.frozen
  have hpl:placeOf ps q=if par ps q (List.range ps.length)=true then 1 else -1:=by
   unfold placeOf
   rw[if_neg]
   unfold onAny
   rw[Bool.not_eq_true,List.any_eq_false]
   intro i hi
   rw[←hS] at hi
   obtain⟨j,hj,rfl⟩:=List.mem_map.1 hi
   rw[hp j hj]
   simp
  rw[hS] at hbo
  obtain⟨pr,hpr⟩:∃p,par ps q (List.range ps.length)=p:=⟨_,rfl⟩
  rw[hpr] at hbo hpl
  have c2:W.cell? ⟨w.heap.size+2,0,none⟩=_:=hbo.cell
  have HB:=hide hB
  have HPL:=hide hpl
  clear hB hb hS hp b1 hpr hpl hbo
  cases pr
  ·gi_wp2_with fail
   have hK2:=(KeepsOthers.setCell W ⟨w.heap.size+1,0,none⟩ (.int .i64 (-1))).same D _ hK rfl
   refine⟨by simp,.inl ⟨_,_,rfl,run_takeDeferred hK2,?_⟩⟩
   have hb5:=(HB.out.setCell (p:=⟨w.heap.size+1,0,none⟩) (by simp) (.int .i64 (-1))).trans (belowK_b (w:=w) (Nat.le_refl _) _ D _ (.deferred none) (by omega) hK2 rfl rfl)
   have e3:((W.setCell ⟨w.heap.size+1,0,none⟩ (.int .i64 (-1))).putObj D (.deferred none)).cell? ⟨w.heap.size+1,0,none⟩=some (.int .i64 (-1)):=by
    rw[putObj_cell (by omega)]
    go_simp
   refine⟨.int .i64 (-1),by simp[results,Tryz.results243,go_sem,e3],?_⟩
   exact Ret.mk' (ret_int HPL.out.symm) (Grew.of_below hb5)
  ·gi_wp2_with fail
   have hK2:=(KeepsOthers.setCell W ⟨w.heap.size+1,0,none⟩ (.int .i64 1)).same D _ hK rfl
   refine⟨by simp,.inl ⟨_,_,rfl,run_takeDeferred hK2,?_⟩⟩
   have hb5:=(HB.out.setCell (p:=⟨w.heap.size+1,0,none⟩) (by simp) (.int .i64 1)).trans (belowK_b (w:=w) (Nat.le_refl _) _ D _ (.deferred none) (by omega) hK2 rfl rfl)
   have e3:((W.setCell ⟨w.heap.size+1,0,none⟩ (.int .i64 1)).putObj D (.deferred none)).cell? ⟨w.heap.size+1,0,none⟩=some (.int .i64 1):=by
    rw[putObj_cell (by omega)]
    go_simp
   refine⟨.int .i64 1,by simp[results,Tryz.results243,go_sem,e3],?_⟩
   exact Ret.mk' (ret_int HPL.out.symm) (Grew.of_below hb5)
 case stop =>
  subst ha
  rintro D e pre W hD hr ⟨⟨hB,hb1⟩,rfl,hp⟩ hK
  have c3:W.cell? ⟨w.heap.size+1,0,none⟩=_:=hb1.cell
  have HB:=hide hB
  have HP:=hide hp
  clear hB hb1 hr hp
  gi_wp2_with fail
  refine⟨by simp,.inl ⟨_,_,rfl,run_takeDeferred hK,?_⟩⟩
  have hb5:=HB.out.trans (belowK_b (w:=w) (Nat.le_refl _) _ D _ (.deferred none) (by omega) hK rfl rfl)
  have e3:=(putObj_cell (W:=W) (D:=D) (i:=0) (o:=.deferred none) (b:=w.heap.size+1) (by omega)).trans c3
  refine⟨.int .i64 0,by simp[results,Tryz.results243,go_sem,e3],?_⟩
  exact Ret.mk' (ret_int (by unfold placeOf;rw[if_pos HP.out])) (Grew.of_below hb5)
end Go.Proofs.YtblgdlnmabkpoaaGreat
namespace Go.Proofs.YtblgdlnmabkpoaaGreat
open Go.RowKit Go.Sort
attribute [local go_sem] Steady steadyUpon
attribute [local go_sem ↓] hs_dr lt_add_r lt_add_r2 lt_add_r3 lt_add_r4 lt_add_r5 lt_add_r6
attribute [local go_sem] cell?_gd frozen?_gd setCell_gd size_grow tape_grow cell?_grow' frozen?_grow' setCell_grow' grow_grow grow_dr grow_drew dr_dr dr_drew drew_dr dr_alloc dr_setCell dr_cell dr_frozen dr_tape dr_drawn
attribute [local irreducible] wpSteady
theorem place_v (ps:List Pt)(A:Option Addr)(c:Nat)(q:Pt)(r:Int)(w:World)(hr:Rd w w.heap.size 2 A (ps.map encD))(hl:ps.length≤100)(hok:ps.all Pt.ok=true)(hq:q.ok=true)(h:placeOf ps q=r) :
  Calls Tryz.prog 243 #[.slice A ps.length c,pt q.1 q.2] w (Ret w (.int .i64 r)):=by
 have:=place_any ps A c q w hr hl hok hq
 rwa [h] at this
def inOf (ps:List Pt)(q:Pt):Int×Int:=if (q.ok&&PValid ps)=true then (placeOf ps q,0) else (0,1)
theorem In_any (ps:List Pt)(A:Option Addr)(c:Nat)(q:Pt)(w:World)(hr:Rd w w.heap.size 2 A (ps.map encD))(hc:ps.length≤100000000000000) :
  Calls Tryz.prog 240 #[pt q.1 q.2,.slice A ps.length c] w (Ret w (.tuple #[.int .i64 (inOf ps q).1,.int .i64 (inOf ps q).2])):=by
 have hm:=hmix
 unfold inOf
 obtain⟨u,hu⟩:∃u,q.ok=u:=⟨_,rfl⟩
 obtain⟨v,hv⟩:∃u,PValid ps=u:=⟨_,rfl⟩
 obtain⟨r,hr'⟩:∃u,placeOf ps q=u:=⟨_,rfl⟩
 have k1:=hide (fun W=>planeValid_v q.1 q.2 u W hu)
 have k2:=hide (fun W (hg:Grew w W)=>PValid_v ps A c v W (hr.up hg) hc hv)
 rw[hu,hv,hr']
 cases u
 ·clear hu hv hr'
  obtain⟨x1,x2⟩:=q
  go_enter Tryz.func240,Tryz.ntmps240
  go_wp2_with (first|(go_at_call 43;with_reducible refine crv (k1.out _) fun _ _=>?_;dsimp only)|(go_at_call 82;with_reducible refine crv (k2.out _ gw) fun _ _=>?_;dsimp only))
  go_ret2
  exact Ret.mk' rfl gw
 ·cases v
  ·clear hu hv hr'
   obtain⟨x1,x2⟩:=q
   go_enter Tryz.func240,Tryz.ntmps240
   go_wp2_with (first|(go_at_call 43;with_reducible refine crv (k1.out _) fun _ _=>?_;dsimp only)|(go_at_call 82;with_reducible refine crv (k2.out _ gw) fun _ _=>?_;dsimp only))
   go_ret2
   exact Ret.mk' rfl gw
  ·have hp:=pv_parts hv
   have k3:=hide (fun W (hg:Grew w W)=>place_v ps A c q r W (hr.up hg) (by omega) hp.2 hu hr')
   clear hu hv hr' hp
   obtain⟨x1,x2⟩:=q
   go_enter Tryz.func240,Tryz.ntmps240
   go_wp2_with (first|(go_at_call 43;with_reducible refine crv (k1.out _) fun _ _=>?_;dsimp only)|(go_at_call 82;with_reducible refine crv (k2.out _ gw) fun _ _=>?_;dsimp only)|(go_at_call 243;with_reducible refine crv (k3.out _ gw) fun _ _=>?_;dsimp only))
   go_ret2
   exact Ret.mk' rfl gw
theorem In_v (ps:List Pt)(A:Option Addr)(c:Nat)(q:Pt)(r:Int×Int)(w:World)(hr:Rd w w.heap.size 2 A (ps.map encD))(hc:ps.length≤100000000000000)(h:inOf ps q=r) :
  Calls Tryz.prog 240 #[pt q.1 q.2,.slice A ps.length c] w (Ret w (.tuple #[.int .i64 r.1,.int .i64 r.2])):=by
 have:=In_any ps A c q w hr hc
 rwa [h] at this
attribute [local go_sem] Oper.semAt_some
def opensOf (ps:List Pt)(i:Nat)(to:Pt):Bool :=
 if 0<tn (cor ps (i+ps.length-1)) (cor ps i) (cor ps (i+1)) then decide (0≤tn (cor ps i) (cor ps (i+1)) to)&&decide (0≤tn (cor ps i) to (cor ps (i+ps.length-1)))
 else decide (tn (cor ps i) (cor ps (i+ps.length-1)) to≤0)||decide (tn (cor ps i) to (cor ps (i+1))≤0)
theorem opens_v (ps:List Pt)(A:Option Addr)(c:Nat)(k:Nat)(to:Pt)(r:Bool)(w:World)(hr:Rd w w.heap.size 2 A (ps.map encD))(hl:ps.length≤100)(hok:ps.all Pt.ok=true)(hq:to.ok=true)(hlt:k<ps.length)(h:opensOf ps k to=r) :
  Calls Tryz.prog 248 #[.slice A ps.length c,.int .i64 k,pt to.1 to.2] w (Ret w (.bool r)):=by
 have hm:=hmix
 have hpos:0<ps.length:=by omega
 obtain⟨b,off,hA,hb,h0,h1⟩:=ptAt hr (cor_get hlt)
 have hix:=idx_run (cap:=c) Tryz.underlying152 Tryz.sizeOf26 hA.out hlt
 have hq1:=cor_mod (k+ps.length-1) hpos
 have hq2:=cor_mod (k+1) hpos
 have o1:=cor_ok hok (k+ps.length-1)
 have o2:=cor_ok hok k
 have o3:=cor_ok hok (k+1)
 have kc1:=hide (fun W' (hg:Grew w W')=>corner_v ps A c ((k:Int)-1) ((k+ps.length-1)%ps.length) _ W' (hr.up hg) (by omega) (by omega) (by rw[Int.natCast_emod,show ((k+ps.length-1:Nat):Int)=(k:Int)-1+(ps.length:Int) by omega]) hq1)
 have kc2:=hide (fun W' (hg:Grew w W')=>corner_v ps A c ((k:Int)+1) ((k+1)%ps.length) _ W' (hr.up hg) (by omega) (by omega) (by rw[Int.natCast_emod,Int.add_emod_right];rfl) hq2)
 unfold opensOf at h
 obtain⟨t0,e0⟩:∃t,tn (cor ps (k+ps.length-1)) (cor ps k) (cor ps (k+1))=t:=⟨_,rfl⟩
 obtain⟨t1,e1⟩:∃t,tn (cor ps k) (cor ps (k+1)) to=t:=⟨_,rfl⟩
 obtain⟨t2,e2⟩:∃t,tn (cor ps k) to (cor ps (k+ps.length-1))=t:=⟨_,rfl⟩
 obtain⟨t3,e3⟩:∃t,tn (cor ps k) (cor ps (k+ps.length-1)) to=t:=⟨_,rfl⟩
 obtain⟨t4,e4⟩:∃t,tn (cor ps k) to (cor ps (k+1))=t:=⟨_,rfl⟩
 rw[e0,e1,e2,e3,e4] at h
 have k0:=hide (fun W'=>turn_v _ _ _ t0 W' o1 o2 o3 e0)
 have k1:=hide (fun W'=>turn_v _ _ _ t1 W' o2 o3 hq e1)
 have k2:=hide (fun W'=>turn_v _ _ _ t2 W' o2 hq o1 e2)
 have k3:=hide (fun W'=>turn_v _ _ _ t3 W' o2 o1 hq e3)
 have k4:=hide (fun W'=>turn_v _ _ _ t4 W' o2 hq o3 e4)
 clear e0 e1 e2 e3 e4 hA hq1 hq2 o1 o2 o3
 generalize cor ps (k+ps.length-1)=qa at *
 generalize cor ps k=qb at *
 generalize cor ps (k+1)=qc at *
 obtain⟨a1,a2⟩:=qa
 obtain⟨b1,b2⟩:=qb
 obtain⟨c1,c2⟩:=qc
 obtain⟨x1,x2⟩:=to
 dsimp only at h0 h1
 have ew1:IntKind.i64.wrap ((k:Int)-1)=(k:Int)-1:=by unfold IntKind.wrap;simp[IntKind.bits,IntKind.signed];omega
 have ew2:IntKind.i64.wrap ((k:Int)+1)=(k:Int)+1:=by unfold IntKind.wrap;simp[IntKind.bits,IntKind.signed];omega
 have hcase:(decide (0<t0)=true∧decide (0≤t1)=true∧r=decide (0≤t2))∨(decide (0<t0)=true∧decide (0≤t1)=false∧r=false)∨(decide (0<t0)=false∧decide (t3≤0)=true∧r=true)∨(decide (0<t0)=false∧decide (t3≤0)=false∧r=decide (t4≤0)):=by
  by_cases g0:0<t0
  ·rw[if_pos g0] at h
   by_cases g1:0≤t1<;>simp[g0,g1] at h ⊢ <;> first|exact h.symm|exact h
  ·rw[if_neg g0] at h
   by_cases g1:t3≤0<;>simp[g0,g1] at h ⊢ <;> first|exact h.symm|exact h
 clear h hq
 rcases hcase with⟨g0,g1,g2⟩|⟨g0,g1,g2⟩|⟨g0,g1,g2⟩|⟨g0,g1,g2⟩
 all_goals
  subst g2
  go_enter Tryz.func248,Tryz.ntmps248
  go_wp2_with fail
  refine wp_region_qas 18 [⟨12,15,7,26,.agg #[.int .i64 0,.int .i64 0]⟩,⟨13,16,8,26,.agg #[.int .i64 0,.int .i64 0]⟩,⟨14,17,9,26,.agg #[.int .i64 0,.int .i64 0]⟩] [] hm (hZ:=(ZOk.cons Tryz.zeroValue26 Tryz.sizeOf26 (ZOk.cons Tryz.zeroValue26 Tryz.sizeOf26 (ZOk.cons Tryz.zeroValue26 Tryz.sizeOf26 ZOk.nil)))) (h:=?_)
  repeat (refine wpSteady_step (fun K hK=>?_);go_simp;first|(refine hK _ ?_;clear hK K)|(apply Exists.intro;refine⟨fun _=>?_,hK _ ?_⟩;(go_at_call 127;first|with_reducible exact kc1.out _ gw|with_reducible exact kc2.out _ gw);clear hK K))
  refine wpSteady_nil ?_
  refine⟨(StOk.cons (by rfl) (by simp[stOpnd,Act.eval,Value.cells,Value.oneCell']) (StOk.cons (by rfl) (by simp[stOpnd,Act.eval,Value.cells,Value.oneCell']) (StOk.cons (by rfl) (by simp[stOpnd,Act.eval,Value.cells,Value.oneCell']) StOk.nil))),LyOk.nil,?_⟩
  rintro psq qsq Wq HWq HFq HBq
  obtain rfl:qsq=[]:=HBq
  obtain⟨p0,_,rfl,hp0,hb0,hn0,p1,_,rfl,hp1,hb1,hn1,p2,_,rfl,hp2,hb2,hn2,rfl⟩:=HFq
  simp only[putAll,putB,Act.put,setA]
  simp[stOpnd,Act.eval,Value.cells] at hb0
  have gc0_0:Wq.cell? ⟨p0,0,none⟩=some _:=blk_cell hb0 0
  have gc0_1:Wq.cell? ⟨p0,1,none⟩=some _:=blk_cell hb0 1
  have gf0:=blk_frozen hb0
  have gl0:=blk_lt hb0
  simp[stOpnd,Act.eval,Value.cells] at hb1
  have gc1_0:Wq.cell? ⟨p1,0,none⟩=some _:=blk_cell hb1 0
  have gc1_1:Wq.cell? ⟨p1,1,none⟩=some _:=blk_cell hb1 1
  have gf1:=blk_frozen hb1
  have gl1:=blk_lt hb1
  simp[stOpnd,Act.eval,Value.cells] at hb2
  have gc2_0:Wq.cell? ⟨p2,0,none⟩=some _:=blk_cell hb2 0
  have gc2_1:Wq.cell? ⟨p2,1,none⟩=some _:=blk_cell hb2 1
  have gf2:=blk_frozen hb2
  have gl2:=blk_lt hb2
  have gp0:=hide hp0
  have gp1:=hide hp1
  have gp2:=hide hp2
  clear hb0 hn0 hp0 hb1 hn1 hp1 hb2 hn2 hp2
  have oc:=old_cell HWq
  have of:=old_frozen HWq
  have ol:=old_lt HWq
  replace HWq:=hide HWq
  have m0:Wq.cell? ⟨w.heap.size,0,none⟩=some (.int .i64 x1):=(oc _ _ (by simp)).trans (by go_simp)
  have m1:Wq.cell? ⟨w.heap.size,1,none⟩=some (.int .i64 x2):=(oc _ _ (by simp)).trans (by go_simp)
  have m2:w.heap.size<Wq.heap.size:=by rw[ol _ (by simp)];trivial
  clear oc of ol
  go_wp2_with (first|(go_at_call 126;with_reducible refine crv (k0.out _) fun _ _=>?_;dsimp only)|(go_at_call 126;with_reducible refine crv (k1.out _) fun _ _=>?_;dsimp only)|(go_at_call 126;with_reducible refine crv (k2.out _) fun _ _=>?_;dsimp only)|(go_at_call 126;with_reducible refine crv (k3.out _) fun _ _=>?_;dsimp only)|(go_at_call 126;with_reducible refine crv (k4.out _) fun _ _=>?_;dsimp only))
  go_ret
  exact Ret.mk' (ret_bool (by simp[*])) (Grew.trans gw (HWq.out.trans gw))
def IdxC (ps:List Pt)(a:Pt)(r:Int):Prop:=(r=-1∧∀i,i<ps.length→cor ps i≠a)∨(∃k:Nat,k<ps.length∧r=k∧cor ps k=a∧∀j,j<k→cor ps j≠a)
def NotTo (ps:List Pt)(a:Pt)(k:Nat):Prop:=∀j,j<k→cor ps j≠a
theorem Index_any (ps:List Pt)(A:Option Addr)(c:Nat)(a:Pt)(w:World)(hr:Rd w w.heap.size 2 A (ps.map encD))(hl:ps.length≤100) :
  Calls Tryz.prog 250 #[.slice A ps.length c,pt a.1 a.2] w fun e w'=>(∃r:Int,e=.returned (.int .i64 r)∧IdxC ps a r)∧Grew w w':=by
 have hm:=hmix
 obtain⟨x1,x2⟩:=a
 go_enter Tryz.func250,Tryz.ntmps250
 go_wp2_with fail
 go_loopw [8] (fun i wr=>∃k:Nat,k≤ps.length∧i=.int .i64 k∧Grew (w.alloc (.cells #[.int .i64 x1,.int .i64 x2] 26)) wr∧NotTo ps (x1,x2) k) (fun i _=>ps.length-(intOf i).toNat)
 case atStart=>exact⟨0,by omega,rfl,Grew.refl _,fun j hj=>by omega⟩
 case round =>
  obtain⟨k,hk,rfl,⟨⟨n,os⟩,rfl⟩,hn⟩:=hrel
  have HN:=hide hn
  clear hn
  by_cases hlt:k<ps.length
  ·obtain⟨b,off,hA,hb,h0,h1⟩:=ptAt hr (cor_get hlt)
   have hix:=idx_run (cap:=c) Tryz.underlying152 Tryz.sizeOf26 hA.out hlt
   obtain⟨⟨p1,p2⟩,hp⟩:∃p,cor ps k=p:=⟨_,rfl⟩
   rw[hp] at h0 h1
   have HP:=hide hp
   clear hp hA
   dsimp only at h0 h1
   have hcase:(p1=x1∧p2=x2)∨(x1≠p1)∨(x1=p1∧x2≠p2):=by omega
   rcases hcase with⟨rfl,rfl⟩|e1|⟨rfl,e1⟩
   ·go_wp2_with fail
    refine wp_region_qas 6 [] [] hm (h:=?_)
    repeat (refine wpSteady_step (fun K hK=>?_);go_simp;refine hK _ ?_;clear hK K)
    refine rq0 fun nq osq=>?_
    try simp only[Act.put,setA]
    try dsimp only
    go_wp2_with fail
    go_ret
    exact⟨⟨_,rfl,.inr ⟨k,hlt,rfl,HP.out,HN.out⟩⟩,gw⟩
   all_goals
    go_wp2_with fail
    refine wp_region_qas 6 [] [] hm (h:=?_)
    repeat (refine wpSteady_step (fun K hK=>?_);go_simp;refine hK _ ?_;clear hK K)
    refine rq0 fun nq osq=>?_
    try simp only[Act.put,setA]
    try dsimp only
    go_wp2_with fail
    go_roundw
    case rel =>
     refine⟨k+1,by omega,by go_num,gw,fun j hj=>?_⟩
     by_cases hjk:j=k
     ·subst hjk
      rw[HP.out]
      intro e
      injection e with e2 e3
      first|exact e1 e2.symm|exact e1 e3.symm
     ·exact HN.out j (by omega)
    case measure=>simp[intOf];omega
  ·obtain rfl:k=ps.length:=by omega
   go_wp2_with fail
   go_ret
   exact⟨⟨_,rfl,.inl ⟨rfl,HN.out⟩⟩,gw⟩
set_option maxHeartbeats 4000000
set_option maxRecDepth 100000
theorem range_find_some {f:Nat→Bool}{n k:Nat}(hk:k<n)(h:f k=true)(hn:∀j,j<k→f j=false):(List.range n).find? f=some k:=by
 rw[List.find?_eq_some_iff_append]
 refine⟨h,List.range k,(List.range n).drop (k+1),?_,fun j hj=>by rw[hn j (List.mem_range.1 hj)];rfl⟩
 have e:(List.range n).take k=List.range k:=by rw[List.take_range,Nat.min_eq_left (by omega)]
 have e2:(List.range n).drop k=k::(List.range n).drop (k+1):=by rw[List.drop_eq_getElem_cons (by simpa using hk),List.getElem_range]
 rw[←e2,←e,List.take_append_drop]
theorem range_find_none {f:Nat→Bool}{n:Nat}(hn:∀j,j<n→f j=false):(List.range n).find? f=none:=by
 rw[List.find?_eq_none]
 intro j hj
 rw[hn j (List.mem_range.1 hj)]
 simp
def edgeLeads (ps:List Pt)(to:Pt)(i:Nat):Bool:=decide (0≤tn (cor ps i) (cor ps (i+1)) to)
def leadsOf (ps:List Pt)(a to:Pt):Bool :=
 match (List.range ps.length).find? (fun i=>decide (cor ps i=a)) with
 | some i=>opensOf ps i to
 | none=>match (List.range ps.length).find? (fun i=>onB a (cor ps i) (cor ps (i+1))) with
  | some i=>edgeLeads ps to i
  | none=>true
theorem leadsOf_corner {ps:List Pt}{a to:Pt}{k:Nat}(hk:k<ps.length)(h:cor ps k=a)(hn:∀j,j<k→cor ps j≠a):leadsOf ps a to=opensOf ps k to:=by
 unfold leadsOf
 rw[range_find_some hk (by simpa using h) (fun j hj=>by simpa using hn j hj)]
theorem leadsOf_edge {ps:List Pt}{a to:Pt}{k:Nat}(hc:∀i,i<ps.length→cor ps i≠a)(hk:k<ps.length)(h:onB a (cor ps k) (cor ps (k+1))=true)(hn:∀j,j<k→onB a (cor ps j) (cor ps (j+1))=false):leadsOf ps a to=edgeLeads ps to k:=by
 unfold leadsOf
 rw[range_find_none (fun j hj=>by simpa using hc j hj)]
 dsimp only
 rw[range_find_some hk h hn]
theorem leadsOf_in {ps:List Pt}{a to:Pt}(hc:∀i,i<ps.length→cor ps i≠a)(hn:∀j,j<ps.length→onB a (cor ps j) (cor ps (j+1))=false):leadsOf ps a to=true:=by
 unfold leadsOf
 rw[range_find_none (fun j hj=>by simpa using hc j hj)]
 dsimp only
 rw[range_find_none hn]
/-- Where the loop was left: at the last of these edges. -/
def StopE (ps:List Pt)(a to:Pt)(is:List Nat)(v:Bool):Prop:=∃pre i,is=pre++[i]∧(∀j∈pre,onB a (cor ps j) (cor ps (j+1))=false)∧onB a (cor ps i) (cor ps (i+1))=true∧v=edgeLeads ps to i
theorem leads_any (ps:List Pt)(A:Option Addr)(c:Nat)(q to:Pt)(w:World)(hr:Rd w w.heap.size 2 A (ps.map encD))(hl:ps.length≤100)(hok:ps.all Pt.ok=true)(hq:q.ok=true)(hto:to.ok=true) :
  Calls Tryz.prog 247 #[.slice A ps.length c,pt q.1 q.2,pt to.1 to.2] w (Ret w (.bool (leadsOf ps q to))):=by
 have hm:=hmix
 have HR:=hide hr
 have HOK:=hide hok
 have HQ:=hide hq
 have HTO:=hide hto
 obtain⟨rr,hrr⟩:∃r,leadsOf ps q to=r:=⟨_,rfl⟩
 rw[hrr]
 have HRR:=hide hrr
 clear hr hok hq hto hrr
 refine (callsIn_wide (n:=13)).1 ?_
 refine callsIn_of_wp_marks Tryz.func247 rfl trivial ?_ rfl
 simp only[Tryz.ntmps247,List.size_toArray,List.length_cons,List.length_nil,Nat.reduceAdd,Nat.reduceSub,Array.replicate_succ,Array.replicate_zero,List.push_toArray,List.append_toArray,List.nil_append,List.cons_append]
 gi_wp2_with fail
 refine⟨trivial,?_⟩
 refine (callsIn_wide.2 (Index_any ps A c q _ (HR.out.up gw) hl)).mono ?_
 rintro e W1 ⟨⟨r,rfl,hidx⟩,hg1⟩
 obtain⟨bx,hbx⟩:∃bx:List Obj,bx=[.cells #[.int .i64 q.1,.int .i64 q.2] 26 (0,0),.cells #[.int .i64 to.1,.int .i64 to.2] 26 (0,0),.cells #[.bool false] 4 (0,0)]:=⟨_,rfl⟩
 have hbx0:=Bx.allocs bx w
 have hb1:Bx W1 w.heap.size bx:=by
  have h:=hbx0.1
  subst hbx
  exact h.grew hg1
 have hw1:Grew w W1:=by
  have h:=hbx0.2
  subst hbx
  exact h.trans hg1
 have hsz1:w.heap.size+3≤W1.heap.size:=by
  have:=hg1.below.size
  simp at this
  omega
 clear hg1 hbx0
 subst hbx
 have c0:W1.cell? ⟨w.heap.size,0,none⟩=some (.int .i64 q.1):=blk_cell (hb1 0 _ rfl) 0
 have c1:W1.cell? ⟨w.heap.size,1,none⟩=some (.int .i64 q.2):=blk_cell (hb1 0 _ rfl) 1
 have c2:W1.cell? ⟨w.heap.size+1,0,none⟩=some (.int .i64 to.1):=blk_cell (hb1 1 _ rfl) 0
 have c3:W1.cell? ⟨w.heap.size+1,1,none⟩=some (.int .i64 to.2):=blk_cell (hb1 1 _ rfl) 1
 have c4:W1.cell? ⟨w.heap.size+2,0,none⟩=some (.bool false):=(hb1.box 2 rfl).cell
 have f4:W1.frozen? ⟨w.heap.size+2,0,none⟩=false:=(hb1.box 2 rfl).frozen
 have m0:w.heap.size<W1.heap.size:=by omega
 have m1:w.heap.size+1<W1.heap.size:=by omega
 have m2:w.heap.size+2<W1.heap.size:=by omega
 have Hb1:=hide hb1
 have Hw1:=hide hw1
 clear hb1 hw1
 dsimp only
 rcases hidx with⟨rfl,hnc⟩|⟨k,hk,rfl,hck,hnc⟩
 ·have HNC:=hide hnc
  clear hnc
  gi_wp2_with fail
  refine⟨trivial,?_⟩
  refine (callsIn_wide.2 (edges_any _ _ _ _)).mono ?_
  rintro e w' ⟨rfl,rfl⟩
  dsimp only
  gi_wp2_with fail
  refine wpIn_name ?_
  intro a0 W0 ha hW
  have hg01:Grew W1 W0:=by rw[←hW];exact gw
  have hg0:Grew w W0:=Hw1.out.trans hg01
  have hb0:=Hb1.out.grew hg01
  have hk0:W0.heap[W1.heap.size]?=some (.cells #[.slice A ps.length c] 152 (0,0)):=by rw[←hW];exact heap_alloc_new _ _
  have hsz:W0.heap.size=W1.heap.size+1:=by rw[←hW];simp
  clear hW c0 c1 c2 c3 c4 f4 hg01
  have Hb0:=hide hb0
  have Hg0:=hide hg0
  refine wpIn_rangeFunc_ownH (n:=13) rfl (by omega) (gf:=198) (lb:=#[.pointer (some ⟨W1.heap.size,0,none⟩)]) (by rw[←ha];simp[Act.eval]) trivial (enters_of Tryz.func198 (by kernel_rfl) rfl)
   (edges1_stops 12 w.heap.size (fun _ _=>False) ps A c W1.heap.size W0 (fun b _ hb=>hb.elim) hk0 (HR.out.grew hg0 (Nat.le_refl _)) (by omega) (by omega))
   (fun h k=>h.trans k) KpM.bk (Below.refl _ _) (fun _=>rfl)
   (fun pre W=>(Below w.heap.size w W∧Bx W w.heap.size _)∧∀i∈pre,onB q (cor ps i.1) (cor ps (i.1+1))=false)
   (fun e pre W=>(Below w.heap.size w W∧∃v,Boxed W (w.heap.size+2) 4 (.bool v)∧StopE ps q to (pre.map Fin.val) v)∧e=.ret)
   (OwnFrom.and (OwnFrom.and (ownFrom_below (Nat.le_refl _) hg0.below.size) (Bx.own (by simp;omega))) (ownFrom_pure _))
   (fun q=>OwnFrom.and (OwnFrom.and (ownFrom_below (Nat.le_refl _) hg0.below.size) (fun s X Y row ⟨v,h1,h2⟩ hg hr=>⟨v,Own.from (boxed_own (β:=Unit) _ _ (fun _=>.bool v)) _ () X Y row h1 hg hr,h2⟩)) (ownFrom_pure _))
   ⟨⟨hg0.below,hb0⟩,fun i hi=>by cases hi⟩
   (fun x a' W=>∃B,W.heap[B]?=some (.cells #[.int .i64 (cor ps x.1).1,.int .i64 (cor ps x.1).2,.int .i64 (cor ps (x.1+1)).1,.int .i64 (cor ps (x.1+1)).2] 191 (0,0))∧a'={ tmps:=((a0.tmps.setIfInBounds 21 (.int .i64 (x.1:Nat))).setIfInBounds 22 (.agg #[.int .i64 (cor ps x.1).1,.int .i64 (cor ps x.1).2,.int .i64 (cor ps (x.1+1)).1,.int .i64 (cor ps (x.1+1)).2])).setIfInBounds 9 (.pointer (some ⟨B,0,none⟩)),defers:=[] })
   (fun x a'=>by
    rintro s X Y row ⟨B,h1,h2⟩ hg hr
    exact⟨B,cells_own h1 hg (fun r e=>(hr r e).2),h2⟩)
   ?assign ?body ?done ?stop
  case assign =>
   rintro l pre x W K ⟨⟨hB,hb⟩,hp⟩ hK
   rw[show encE ps x=#[.int .i64 (x.1:Nat),.agg #[.int .i64 (cor ps x.1).1,.int .i64 (cor ps x.1).2,.int .i64 (cor ps (x.1+1)).1,.int .i64 (cor ps (x.1+1)).2]] from rfl,asg2]
   subst ha
   simp only[List.setIfInBounds_toArray,List.set_cons_succ,List.set_cons_zero] at hK ⊢
   have hKK:=hide hK
   clear hK
   gi_wp2_with fail
   have hgg:Grew W (W.alloc (.cells #[.int .i64 (cor ps x.1).1,.int .i64 (cor ps x.1).2,.int .i64 (cor ps (x.1+1)).1,.int .i64 (cor ps (x.1+1)).2] 191)):=gw
   exact hKK.out _ _ (hgg.keepsFrom _) (KpM.grew hgg) ⟨⟨hB.trans (hgg.below.mono hB.size),hb.grew hgg⟩,hp⟩ ⟨W.heap.size,heap_alloc_new _ _,rfl⟩
  case body =>
   rintro l pre x a' W hl2 hlp ⟨⟨hB,hb⟩,hp⟩ ⟨B,hx,rfl⟩ hlt
   subst ha
   obtain⟨i,hil⟩:=x
   dsimp only at hx
   simp only[List.setIfInBounds_toArray,List.set_cons_succ,List.set_cons_zero]
   have oa:=cor_ok HOK.out i
   have ob:=cor_ok HOK.out (i+1)
   obtain⟨o,ho⟩:∃o,onB q (cor ps i) (cor ps (i+1))=o:=⟨_,rfl⟩
   obtain⟨t,ht⟩:∃o,tn (cor ps i) (cor ps (i+1)) to=o:=⟨_,rfl⟩
   have hle:edgeLeads ps to i=decide (0≤t):=by unfold edgeLeads;rw[ht]
   have hnext:o=false→∀i'∈pre++[(⟨i,hil⟩:Fin ps.length)],onB q (cor ps i'.1) (cor ps (i'.1+1))=false:=fun hof i' hi'=>by
    rcases List.mem_append.1 hi' with h|h
    ·exact hp i' h
    ·obtain rfl:=List.mem_singleton.1 h
     rw[←hof];exact ho
   have hstop:o=true→StopE ps q to ((pre++[(⟨i,hil⟩:Fin ps.length)]).map Fin.val) (decide (0≤t)):=fun hof=>by
    refine⟨pre.map Fin.val,i,by rw[List.map_append];rfl,fun j hj=>?_,by rw[ho,hof],hle.symm⟩
    obtain⟨j',hj',rfl⟩:=List.mem_map.1 hj
    exact hp j' hj'
   have HNEXT:=hide hnext
   have HSTOP:=hide hstop
   have ko:=hide (fun W'=>on_v q (cor ps i) (cor ps (i+1)) o W' HQ.out oa ob ho)
   have kt:=hide (fun W'=>turn_v (cor ps i) (cor ps (i+1)) to t W' oa ob HTO.out ht)
   clear hnext hstop ho ht hle hp hlt
   generalize cor ps i=a at *
   generalize cor ps (i+1)=b at *
   obtain⟨a1,a2⟩:=a
   obtain⟨b1,b2⟩:=b
   obtain⟨x1,x2⟩:=q
   obtain⟨y1,y2⟩:=to
   dsimp only at hx hb ⊢
   have c0:W.cell? ⟨w.heap.size,0,none⟩=some (.int .i64 x1):=blk_cell (hb 0 _ rfl) 0
   have c1:W.cell? ⟨w.heap.size,1,none⟩=some (.int .i64 x2):=blk_cell (hb 0 _ rfl) 1
   have c2:W.cell? ⟨w.heap.size+1,0,none⟩=some (.int .i64 y1):=blk_cell (hb 1 _ rfl) 0
   have c3:W.cell? ⟨w.heap.size+1,1,none⟩=some (.int .i64 y2):=blk_cell (hb 1 _ rfl) 1
   have c4:W.cell? ⟨w.heap.size+2,0,none⟩=_:=(hb.box 2 rfl).cell
   have f4:W.frozen? ⟨w.heap.size+2,0,none⟩=_:=(hb.box 2 rfl).frozen
   have d0:W.cell? ⟨B,0,none⟩=some _:=blk_cell hx 0
   have d1:W.cell? ⟨B,1,none⟩=some _:=blk_cell hx 1
   have d2:W.cell? ⟨B,2,none⟩=some _:=blk_cell hx 2
   have d3:W.cell? ⟨B,3,none⟩=some _:=blk_cell hx 3
   have l2:=(hb.box 2 rfl).lt
   have l1:w.heap.size+1<W.heap.size:=by omega
   have l0:w.heap.size<W.heap.size:=by omega
   have lB:=blk_lt hx
   have HB:=hide hB
   have Hb:=hide hb
   clear hB hb hx
   gi_wp2_with fail
   refine⟨trivial,?_⟩
   refine (CallsIn.inRound l (callsIn_wide.2 (ko.out _))).mono ?_
   rintro e w' ⟨rfl,⟨n5,os5⟩,rfl⟩
   dsimp only
   cases o
   ·have HN2:=hide (HNEXT.out rfl)
    clear HNEXT HSTOP
    gi_wp2_with fail
    have hgg:Grew W (grow (dr W n5) os5):=gw
    exact⟨hgg.keepsFrom _,KpM.grew hgg,⟨HB.out.trans (hgg.below.mono HB.out.size),Hb.out.grew hgg⟩,HN2.out⟩
   ·have HS2:=hide (HSTOP.out rfl)
    clear HNEXT HSTOP
    gi_wp2_with fail
    refine⟨trivial,?_⟩
    refine (CallsIn.inRound l (callsIn_wide.2 (kt.out _))).mono ?_
    rintro e w' ⟨rfl,⟨n6,os6⟩,rfl⟩
    dsimp only
    have hb2:Boxed W (w.heap.size+2) 4 (.bool false):=Hb.out.box 2 rfl
    have hbx2:=hide hb2
    clear hb2
    gi_wp2_with fail
    exact⟨gb_keeps (b:=w.heap.size+2) gbw ⟨_,hbx2.out,rfl⟩,⟨gb_below (b:=w.heap.size+2) gbw HB.out (by omega),_,(by repeat (with_reducible first|assumption|exact Hid.out (by assumption)|refine bxd_grow ?_ _ _|refine Boxed.set (v:=.bool false) _ ?_|refine bxd_new ?_ (Hid.out (by assumption))|(refine bxd_grew ?_ (Hid.out (by assumption))))),HS2.out⟩,rfl⟩
  case done =>
   subst ha
   rintro D xs W hD hS ⟨⟨hB,hb⟩,hp⟩ hK
   have b1:Boxed W (w.heap.size+2) _ _:=hb.box 2 rfl
   have c1:=b1.cell
   have f1:=b1.frozen
   have hno:∀j,j<ps.length→onB q (cor ps j) (cor ps (j+1))=false:=fun j hj=>by
    have:j∈xs.map Fin.val:=by rw[hS];exact List.mem_range.2 hj
    obtain⟨j',hj',rfl⟩:=List.mem_map.1 this
    exact hp j' hj'
   obtain rfl:rr=true:=by rw[←HRR.out,leadsOf_in HNC.out hno]
   have HB:=hide hB
   clear hB hb hS hp b1 hno
   gi_wp2_with fail
   have hK2:=(KeepsOthers.setCell W ⟨w.heap.size+2,0,none⟩ (.bool true)).same D _ hK rfl
   refine⟨by simp,.inl ⟨_,_,rfl,run_takeDeferred hK2,?_⟩⟩
   have hb5:=(HB.out.setCell (p:=⟨w.heap.size+2,0,none⟩) (by simp) (.bool true)).trans (belowK_b (w:=w) (Nat.le_refl _) _ D _ (.deferred none) (by omega) hK2 rfl rfl)
   have e3:((W.setCell ⟨w.heap.size+2,0,none⟩ (.bool true)).putObj D (.deferred none)).cell? ⟨w.heap.size+2,0,none⟩=some (.bool true):=by
    rw[putObj_cell (by omega)]
    go_simp
   refine⟨.bool true,by simp[results,Tryz.results247,go_sem,e3],?_⟩
   exact Ret.mk' rfl (Grew.of_below hb5)
  case stop =>
   subst ha
   rintro D e pre W hD ⟨k,hk,hr⟩ ⟨⟨hB,v,hb1,hst⟩,rfl⟩ hK
   have c3:W.cell? ⟨w.heap.size+2,0,none⟩=_:=hb1.cell
   obtain⟨pr,i,h1,h2,h3,rfl⟩:=hst
   rw[hr] at h1
   have hki:k=i+1∧pr=List.range i:=by
    cases k with
    | zero=>simp at h1
    | succ k =>
     rw[List.range_succ] at h1
     obtain⟨e1,e2⟩:=List.append_inj' h1 rfl
     injection e2 with e2
     exact⟨by rw[e2],by rw[←e1,e2]⟩
   obtain⟨rfl,rfl⟩:=hki
   have hres:=leadsOf_edge (to:=to) HNC.out (by omega:i<ps.length) h3 (fun j hj=>h2 j (List.mem_range.2 hj))
   obtain rfl:rr=edgeLeads ps to i:=by rw[←HRR.out,hres]
   have HB:=hide hB
   clear hB hb1 hr h1 h2 h3 hres hk HRR
   gi_wp2_with fail
   refine⟨by simp,.inl ⟨_,_,rfl,run_takeDeferred hK,?_⟩⟩
   have hb5:=HB.out.trans (belowK_b (w:=w) (Nat.le_refl _) _ D _ (.deferred none) (by omega) hK rfl rfl)
   have e3:=(putObj_cell (W:=W) (D:=D) (i:=0) (o:=.deferred none) (b:=w.heap.size+2) (by omega)).trans c3
   refine⟨.bool (edgeLeads ps to i),by simp[results,Tryz.results247,go_sem,e3],?_⟩
   exact Ret.mk' rfl (Grew.of_below hb5)
 ·have hres:leadsOf ps q to=opensOf ps k to:=leadsOf_corner hk hck hnc
  obtain⟨o,ho⟩:∃o,opensOf ps k to=o:=⟨_,rfl⟩
  have ko:=hide (fun W (hg:Grew w W)=>opens_v ps A c k to o W (HR.out.up hg) hl HOK.out HTO.out hk ho)
  rw[hres,ho] at HRR
  obtain rfl:o=rr:=HRR.out
  have hk0:(0:Int)≤(k:Int):=by omega
  clear hres ho hck hnc
  obtain⟨t1,t2⟩:=to
  dsimp only at c2 c3
  gi_wp2_with fail
  refine⟨trivial,?_⟩
  refine (callsIn_wide.2 (ko.out _ Hw1.out)).mono ?_
  rintro e w' ⟨rfl,⟨n5,os5⟩,rfl⟩
  dsimp only
  gi_wp2_with fail
  have hbx2:Boxed W1 (w.heap.size+2) 4 (.bool false):=Hb1.out.box 2 rfl
  have e3:(grow (dr (W1.setCell ⟨w.heap.size+1+1,0,none⟩ (.bool o)) n5) os5).cell? ⟨w.heap.size+1+1,0,none⟩=some (.bool o):=(bxd_grow (hbx2.set _) n5 os5).cell
  refine⟨.bool o,by simp[results,Tryz.results247,go_sem,e3],?_⟩
  exact Ret.mk' rfl (Grew.of_below (gb_below (b:=w.heap.size+2) gbw Hw1.out.below (by omega)))
set_option maxHeartbeats 32000000
set_option maxRecDepth 100000
theorem leads_v (ps:List Pt)(A:Option Addr)(c:Nat)(q to:Pt)(r:Bool)(w:World)(hr:Rd w w.heap.size 2 A (ps.map encD))(hl:ps.length≤100)(hok:ps.all Pt.ok=true)(hq:q.ok=true)(hto:to.ok=true)(h:leadsOf ps q to=r) :
  Calls Tryz.prog 247 #[.slice A ps.length c,pt q.1 q.2,pt to.1 to.2] w (Ret w (.bool r)):=by
 have:=leads_any ps A c q to w hr hl hok hq hto
 rwa [h] at this
theorem undef_ne {b:Bool}(h:some undef=some (Value.bool b)):False:=by simp[undef] at h
/-- What has asks of an edge. -/
def edgeHas (ps:List Pt)(a b:Pt)(i:Nat):Bool :=
 !(cutB a b (cor ps i) (cor ps (i+1))) && !(decide (cor ps i≠a)&&(decide (cor ps i≠b)&&(onB (cor ps i) a b && !(opensOf ps i a&&opensOf ps i b))))
def hasFst (ps:List Pt)(a b:Pt):Bool:=decide (0≤placeOf ps a)&&(decide (0≤placeOf ps b)&&(leadsOf ps a b&&leadsOf ps b a))
def hasOf (ps:List Pt)(a b:Pt):Bool:=hasFst ps a b&&(List.range ps.length).all (edgeHas ps a b)
theorem has_no (ps:List Pt)(A:Option Addr)(c:Nat)(a b:Pt)(w:World)(hr:Rd w w.heap.size 2 A (ps.map encD))(hl:ps.length≤100)(hok:ps.all Pt.ok=true)(ha:a.ok=true)(hb:b.ok=true)(h:hasFst ps a b=false) :
  Calls Tryz.prog 245 #[.slice A ps.length c,pt a.1 a.2,pt b.1 b.2] w (Ret w (.bool false)):=by
 have hm:=hmix
 unfold hasFst at h
 obtain⟨pa,hpa⟩:∃p,placeOf ps a=p:=⟨_,rfl⟩
 obtain⟨pb,hpb⟩:∃p,placeOf ps b=p:=⟨_,rfl⟩
 obtain⟨la,hla⟩:∃p,leadsOf ps a b=p:=⟨_,rfl⟩
 obtain⟨lb,hlb⟩:∃p,leadsOf ps b a=p:=⟨_,rfl⟩
 rw[hpa,hpb,hla,hlb] at h
 have k1:=hide (fun W (hg:Grew w W)=>place_v ps A c a pa W (hr.up hg) hl hok ha hpa)
 have k2:=hide (fun W (hg:Grew w W)=>place_v ps A c b pb W (hr.up hg) hl hok hb hpb)
 have k3:=hide (fun W (hg:Grew w W)=>leads_v ps A c a b la W (hr.up hg) hl hok ha hb hla)
 have k4:=hide (fun W (hg:Grew w W)=>leads_v ps A c b a lb W (hr.up hg) hl hok hb ha hlb)
 clear hpa hpb hla hlb ha hb hok
 obtain⟨a1,a2⟩:=a
 obtain⟨b1,b2⟩:=b
 have hcase:pa<0∨(¬ pa<0∧pb<0)∨(¬ pa<0∧¬ pb<0∧la=false)∨(¬ pa<0∧¬ pb<0∧la=true∧lb=false):=by
  by_cases h1:pa<0
  ·exact .inl h1
  ·by_cases h2:pb<0
   ·exact .inr (.inl ⟨h1,h2⟩)
   ·rw[show decide (0≤pa)=true by simp;omega,show decide (0≤pb)=true by simp;omega] at h
    cases la
    ·exact .inr (.inr (.inl ⟨h1,h2,rfl⟩))
    ·cases lb
     ·exact .inr (.inr (.inr ⟨h1,h2,rfl,rfl⟩))
     ·simp at h
 clear h
 rcases hcase with h1|⟨h1,h2⟩|⟨h1,h2,rfl⟩|⟨h1,h2,rfl,rfl⟩
 all_goals
  go_enter Tryz.func245,Tryz.ntmps245
  go_wp2_with (first|(go_at_call 243;with_reducible refine crv (k1.out _ gw) fun _ _=>?_;dsimp only)|(go_at_call 243;with_reducible refine crv (k2.out _ gw) fun _ _=>?_;dsimp only)|(go_at_call 247;with_reducible refine crv (k3.out _ gw) fun _ _=>?_;dsimp only)|(go_at_call 247;with_reducible refine crv (k4.out _ gw) fun _ _=>?_;dsimp only))
  refine bodyPost_ret (v:=.bool false) (by simp[results,Tryz.results245,go_sem]) rfl ?_
  exact Ret.mk' rfl gw
theorem has_yes (ps:List Pt)(A:Option Addr)(c:Nat)(q to:Pt)(w:World)(hr:Rd w w.heap.size 2 A (ps.map encD))(hl:ps.length≤100)(hok:ps.all Pt.ok=true)(hq:q.ok=true)(hto:to.ok=true)(h:hasFst ps q to=true) :
  Calls Tryz.prog 245 #[.slice A ps.length c,pt q.1 q.2,pt to.1 to.2] w (Ret w (.bool ((List.range ps.length).all (edgeHas ps q to)))):=by
 have hm:=hmix
 unfold hasFst at h
 simp only[Bool.and_eq_true,decide_eq_true_eq] at h
 obtain⟨pa,hpa⟩:∃p,placeOf ps q=p:=⟨_,rfl⟩
 obtain⟨pb,hpb⟩:∃p,placeOf ps to=p:=⟨_,rfl⟩
 have k1:=hide (fun W (hg:Grew w W)=>place_v ps A c q pa W (hr.up hg) hl hok hq hpa)
 have k2:=hide (fun W (hg:Grew w W)=>place_v ps A c to pb W (hr.up hg) hl hok hto hpb)
 have k3:=hide (fun W (hg:Grew w W)=>leads_v ps A c q to true W (hr.up hg) hl hok hq hto h.2.2.1)
 have k4:=hide (fun W (hg:Grew w W)=>leads_v ps A c to q true W (hr.up hg) hl hok hto hq h.2.2.2)
 have h1:¬ pa<0:=by rw[←hpa];omega
 have h2:¬ pb<0:=by rw[←hpb];omega
 have HR:=hide hr
 have HOK:=hide hok
 have HQ:=hide hq
 have HTO:=hide hto
 obtain⟨rr,hrr⟩:∃r,(List.range ps.length).all (edgeHas ps q to)=r:=⟨_,rfl⟩
 rw[hrr]
 have HRR:=hide hrr
 clear hr hok hq hto hrr h hpa hpb
 refine (callsIn_wide (n:=13)).1 ?_
 refine callsIn_of_wp_marks Tryz.func245 rfl trivial ?_ rfl
 simp only[Tryz.ntmps245,List.size_toArray,List.length_cons,List.length_nil,Nat.reduceAdd,Nat.reduceSub,Array.replicate_succ,Array.replicate_zero,List.push_toArray,List.append_toArray,List.nil_append,List.cons_append]
 gi_wp2_with fail
 refine⟨trivial,?_⟩
 refine (callsIn_wide.2 (k1.out _ gw)).mono ?_
 rintro e w' ⟨rfl,⟨n1,os1⟩,rfl⟩
 dsimp only
 gi_wp2_with fail
 refine⟨trivial,?_⟩
 refine (callsIn_wide.2 (k2.out _ gw)).mono ?_
 rintro e w' ⟨rfl,⟨n2,os2⟩,rfl⟩
 dsimp only
 gi_wp2_with fail
 refine⟨trivial,?_⟩
 refine (callsIn_wide.2 (k3.out _ gw)).mono ?_
 rintro e w' ⟨rfl,⟨n3,os3⟩,rfl⟩
 dsimp only
 gi_wp2_with fail
 refine⟨trivial,?_⟩
 refine (callsIn_wide.2 (k4.out _ gw)).mono ?_
 rintro e w' ⟨rfl,⟨n4,os4⟩,rfl⟩
 dsimp only
 gi_wp2_with fail
 refine⟨trivial,?_⟩
 refine (callsIn_wide.2 (edges_any _ _ _ _)).mono ?_
 rintro e w' ⟨rfl,rfl⟩
 dsimp only
 gi_wp2_with fail
 refine wpIn_name ?_
 intro a0 W0 ha hW
 obtain⟨bx,hbx⟩:∃bx:List Obj,bx=[.cells #[.slice A ps.length c] 152 (0,0),.cells #[.int .i64 q.1,.int .i64 q.2] 26 (0,0),.cells #[.int .i64 to.1,.int .i64 to.2] 26 (0,0),.cells #[.bool false] 4 (0,0)]:=⟨_,rfl⟩
 have hg0:Grew w W0:=by rw[←hW];exact gw
 have hb0:Bx W0 w.heap.size bx:=by rw[←hW,hbx];refine (Bx.allocs _ w).1.grew ?_;simp only[List.foldl];exact gw
 obtain⟨P0,hP0⟩:∃P0,w.heap.size+1+1+1+1+(os1.size+(os2.size+(os3.size+os4.size)))=P0:=⟨_,rfl⟩
 have hk0:W0.heap[P0]?=some (.cells #[.slice A ps.length c] 152 (0,0)):=by rw[←hW,←hP0];exact heap_alloc_at _ _ _ (by go_simp)
 have hlow:w.heap.size+4≤P0:=by omega
 have hPl:=blk_lt hk0
 clear hW
 have ha2:a0.eval (.tmp 36)=.func (.func 198) #[] #[.pointer (some ⟨P0,0,none⟩)]:=by rw[←ha,←hP0];simp[Act.eval];exact (hs_dr _ _).trans (by simp)
 subst hbx
 refine wpIn_rangeFunc_ownH (n:=13) rfl (by omega) (gf:=198) (lb:=#[.pointer (some ⟨P0,0,none⟩)]) ha2 trivial (enters_of Tryz.func198 (by kernel_rfl) rfl)
  (edges1_stops 12 w.heap.size (fun _ _=>False) ps A c P0 W0 (fun b _ hb=>hb.elim) hk0 (HR.out.grew hg0 (Nat.le_refl _)) (by omega) (by omega))
  (fun h k=>h.trans k) KpM.bk (Below.refl _ _) (fun _=>rfl)
  (fun pre W=>(Below w.heap.size w W∧Bx W w.heap.size _)∧∀i∈pre,edgeHas ps q to i.1=true)
  (fun e pre W=>(Below w.heap.size w W∧Boxed W (w.heap.size+3) 4 (.bool false))∧e=.ret∧rr=false)
  (OwnFrom.and (OwnFrom.and (ownFrom_below (Nat.le_refl _) hg0.below.size) (Bx.own (by simp;omega))) (ownFrom_pure _))
  (fun q=>OwnFrom.and (OwnFrom.and (ownFrom_below (Nat.le_refl _) hg0.below.size) (Own.from (boxed_own _ _ _) _)) (ownFrom_pure _))
  ⟨⟨hg0.below,hb0⟩,fun i hi=>by cases hi⟩
  (fun x a' W=>∃B,W.heap[B]?=some (.cells #[.int .i64 (cor ps x.1).1,.int .i64 (cor ps x.1).2,.int .i64 (cor ps (x.1+1)).1,.int .i64 (cor ps (x.1+1)).2] 191 (0,0))∧a'={ tmps:=(((a0.tmps.setIfInBounds 37 (.int .i64 (x.1:Nat))).setIfInBounds 38 (.agg #[.int .i64 (cor ps x.1).1,.int .i64 (cor ps x.1).2,.int .i64 (cor ps (x.1+1)).1,.int .i64 (cor ps (x.1+1)).2])).setIfInBounds 7 (.int .i64 (x.1:Nat))).setIfInBounds 8 (.pointer (some ⟨B,0,none⟩)),defers:=[] })
  (fun x a'=>by
   rintro s X Y row ⟨B,h1,h2⟩ hg hr
   exact⟨B,cells_own h1 hg (fun r e=>(hr r e).2),h2⟩)
  ?assign ?body ?done ?stop
 case assign =>
  rintro l pre x W K ⟨⟨hB,hb⟩,hp⟩ hK
  rw[show encE ps x=#[.int .i64 (x.1:Nat),.agg #[.int .i64 (cor ps x.1).1,.int .i64 (cor ps x.1).2,.int .i64 (cor ps (x.1+1)).1,.int .i64 (cor ps (x.1+1)).2]] from rfl,asg2]
  subst ha
  simp only[List.setIfInBounds_toArray,List.set_cons_succ,List.set_cons_zero] at hK ⊢
  have hKK:=hide hK
  clear hK
  gi_wp2_with fail
  have hgg:Grew W (W.alloc (.cells #[.int .i64 (cor ps x.1).1,.int .i64 (cor ps x.1).2,.int .i64 (cor ps (x.1+1)).1,.int .i64 (cor ps (x.1+1)).2] 191)):=gw
  exact hKK.out _ _ (hgg.keepsFrom _) (KpM.grew hgg) ⟨⟨hB.trans (hgg.below.mono hB.size),hb.grew hgg⟩,hp⟩ ⟨W.heap.size,heap_alloc_new _ _,rfl⟩
 case body =>
  rintro l pre x a' W hl2 hlp ⟨⟨hB,hb⟩,hp⟩ ⟨B,hx,rfl⟩ hlt
  subst ha
  obtain⟨i,hil⟩:=x
  dsimp only at hx
  simp only[List.setIfInBounds_toArray,List.set_cons_succ,List.set_cons_zero]
  have oa:=cor_ok HOK.out i
  have ob:=cor_ok HOK.out (i+1)
  obtain⟨t1,e1⟩:∃t,tn q to (cor ps i)=t:=⟨_,rfl⟩
  obtain⟨t2,e2⟩:∃t,tn q to (cor ps (i+1))=t:=⟨_,rfl⟩
  obtain⟨t3,e3⟩:∃t,tn (cor ps i) (cor ps (i+1)) q=t:=⟨_,rfl⟩
  obtain⟨t4,e4⟩:∃t,tn (cor ps i) (cor ps (i+1)) to=t:=⟨_,rfl⟩
  obtain⟨o,ho⟩:∃o,onB (cor ps i) q to=o:=⟨_,rfl⟩
  obtain⟨p1',hp1⟩:∃o,opensOf ps i q=o:=⟨_,rfl⟩
  obtain⟨p2',hp2⟩:∃o,opensOf ps i to=o:=⟨_,rfl⟩
  have kt1:=hide (fun W'=>turn_v _ _ _ t1 W' HQ.out HTO.out oa e1)
  have kt2:=hide (fun W'=>turn_v _ _ _ t2 W' HQ.out HTO.out ob e2)
  have kt3:=hide (fun W'=>turn_v _ _ _ t3 W' oa ob HQ.out e3)
  have kt4:=hide (fun W'=>turn_v _ _ _ t4 W' oa ob HTO.out e4)
  have ko:=hide (fun W'=>on_v (cor ps i) q to o W' oa HQ.out HTO.out ho)
  have kp1:=hide (fun W (hg:Grew w W)=>opens_v ps A c i q p1' W (HR.out.up hg) hl HOK.out HQ.out hil hp1)
  have kp2:=hide (fun W (hg:Grew w W)=>opens_v ps A c i to p2' W (HR.out.up hg) hl HOK.out HTO.out hil hp2)
  have b12:=mul_sg (e1 ▸ tn_bd q to (cor ps i)) (e2 ▸ tn_bd q to (cor ps (i+1)))
  have b34:=mul_sg (e3 ▸ tn_bd (cor ps i) (cor ps (i+1)) q) (e4 ▸ tn_bd (cor ps i) (cor ps (i+1)) to)
  have e12:IntKind.i64.wrap (t1*t2)=t1*t2:=by unfold IntKind.wrap;simp[IntKind.bits,IntKind.signed];omega
  have e34:IntKind.i64.wrap (t3*t4)=t3*t4:=by unfold IntKind.wrap;simp[IntKind.bits,IntKind.signed];omega
  have heh:edgeHas ps q to i=(!(decide (t1*t2<0)&&decide (t3*t4<0)) && !(decide (cor ps i≠q)&&(decide (cor ps i≠to)&&(o && !(p1'&&p2'))))):=by
   unfold edgeHas cutB
   rw[e1,e2,e3,e4,ho,hp1,hp2]
  have hnx:edgeHas ps q to i=true→∀i'∈pre++[(⟨i,hil⟩:Fin ps.length)],edgeHas ps q to i'.1=true:=fun hof i' hi'=>by
   rcases List.mem_append.1 hi' with h|h
   ·exact hp i' h
   ·obtain rfl:=List.mem_singleton.1 h
    exact hof
  have hst:edgeHas ps q to i=false→rr=false:=fun hof=>by
   rw[←HRR.out]
   exact List.all_eq_false.2 ⟨i,List.mem_range.2 hil,by rw[hof];simp⟩
  have HEH:=hide heh
  have HNX:=hide hnx
  have HST:=hide hst
  clear e1 e2 e3 e4 ho hp1 hp2 heh hnx hst hp hlt
  generalize cor ps i=a at *
  generalize cor ps (i+1)=b at *
  obtain⟨a1,a2⟩:=a
  obtain⟨b1,b2⟩:=b
  obtain⟨x1,x2⟩:=q
  obtain⟨y1,y2⟩:=to
  dsimp only at hx hb ⊢
  have c00:W.cell? ⟨w.heap.size,0,none⟩=some (.slice A ps.length c):=(hb.box 0 rfl).cell
  have c0:W.cell? ⟨w.heap.size+1,0,none⟩=some (.int .i64 x1):=blk_cell (hb 1 _ rfl) 0
  have c1:W.cell? ⟨w.heap.size+1,1,none⟩=some (.int .i64 x2):=blk_cell (hb 1 _ rfl) 1
  have c2:W.cell? ⟨w.heap.size+2,0,none⟩=some (.int .i64 y1):=blk_cell (hb 2 _ rfl) 0
  have c3:W.cell? ⟨w.heap.size+2,1,none⟩=some (.int .i64 y2):=blk_cell (hb 2 _ rfl) 1
  have c4:W.cell? ⟨w.heap.size+3,0,none⟩=_:=(hb.box 3 rfl).cell
  have f4:W.frozen? ⟨w.heap.size+3,0,none⟩=_:=(hb.box 3 rfl).frozen
  have d0:W.cell? ⟨B,0,none⟩=some _:=blk_cell hx 0
  have d1:W.cell? ⟨B,1,none⟩=some _:=blk_cell hx 1
  have d2:W.cell? ⟨B,2,none⟩=some _:=blk_cell hx 2
  have d3:W.cell? ⟨B,3,none⟩=some _:=blk_cell hx 3
  have l3:=(hb.box 3 rfl).lt
  have l2:w.heap.size+2<W.heap.size:=by omega
  have l1:w.heap.size+1<W.heap.size:=by omega
  have l0:w.heap.size<W.heap.size:=by omega
  have lB:=blk_lt hx
  have HB:=hide hB
  have Hb:=hide hb
  clear hB hb hx
  gi_wp2_with fail
  refine wpIn_region_qas 8 [⟨4,6,9,26,.agg #[.int .i64 0,.int .i64 0]⟩,⟨5,7,10,26,.agg #[.int .i64 0,.int .i64 0]⟩] [] hm (hZ:=(ZOk.cons Tryz.zeroValue26 Tryz.sizeOf26 (ZOk.cons Tryz.zeroValue26 Tryz.sizeOf26 ZOk.nil))) (h:=?_)
  repeat (refine wpSteady_step (fun K hK=>?_);go_simp;refine hK _ ?_;clear hK K)
  refine wpSteady_nil ?_
  refine⟨(StOk.cons (by rfl) (by simp[stOpnd,Act.eval,Value.cells,Value.oneCell']) (StOk.cons (by rfl) (by simp[stOpnd,Act.eval,Value.cells,Value.oneCell']) StOk.nil)),LyOk.nil,?_⟩
  rintro psq qsq Wq HWq HFq HBq
  obtain rfl:qsq=[]:=HBq
  obtain⟨p0,_,rfl,hp0,hb0,hn0,p1,_,rfl,hp1,hb1,hn1,rfl⟩:=HFq
  simp only[putAll,putB,Act.put,setA]
  simp[stOpnd,Act.eval,Value.cells] at hb0
  have gc0_0:Wq.cell? ⟨p0,0,none⟩=some _:=blk_cell hb0 0
  have gc0_1:Wq.cell? ⟨p0,1,none⟩=some _:=blk_cell hb0 1
  have gf0:=blk_frozen hb0
  have gl0:=blk_lt hb0
  simp[stOpnd,Act.eval,Value.cells] at hb1
  have gc1_0:Wq.cell? ⟨p1,0,none⟩=some _:=blk_cell hb1 0
  have gc1_1:Wq.cell? ⟨p1,1,none⟩=some _:=blk_cell hb1 1
  have gf1:=blk_frozen hb1
  have gl1:=blk_lt hb1
  have gn:p0≠p1:=by simpa using hn0
  have gm:p1≠p0:=fun e=>gn e.symm
  have gp0:=hide hp0
  have gp1:=hide hp1
  clear hb0 hn0 hp0 hb1 hn1 hp1
  have oc:=old_cell HWq
  have of:=old_frozen HWq
  have ol:=old_lt HWq
  replace HWq:=hide HWq
  have z00:Wq.cell? ⟨w.heap.size,0,none⟩=_:=(oc _ 0 l0).trans c00
  have z0:Wq.cell? ⟨w.heap.size+1,0,none⟩=_:=(oc _ 0 l1).trans c0
  have z1:Wq.cell? ⟨w.heap.size+1,1,none⟩=_:=(oc _ 1 l1).trans c1
  have z2:Wq.cell? ⟨w.heap.size+2,0,none⟩=_:=(oc _ 0 l2).trans c2
  have z3:Wq.cell? ⟨w.heap.size+2,1,none⟩=_:=(oc _ 1 l2).trans c3
  have z4:Wq.cell? ⟨w.heap.size+3,0,none⟩=_:=(oc _ 0 l3).trans c4
  have z5:Wq.frozen? ⟨w.heap.size+3,0,none⟩=_:=(of _ 0 l3).trans f4
  have hgs:=HWq.out.below.size
  have m0:w.heap.size<Wq.heap.size:=by omega
  have m1:w.heap.size+1<Wq.heap.size:=by omega
  have m2:w.heap.size+2<Wq.heap.size:=by omega
  have m3:w.heap.size+3<Wq.heap.size:=by omega
  have hww:Hid (Grew w Wq):=hide ((Grew.of_below HB.out).trans HWq.out)
  have hbr:Hid (Boxed Wq (w.heap.size+3) 4 (.bool false)):=hide ((Hb.out.grew HWq.out).box 3 rfl)
  have hb2q:Hid (Boxed W (w.heap.size+3) 4 (.bool false)):=hide (Hb.out.box 3 rfl)
  have hgb:Hid (W.grownBy Wq (some (w.heap.size+3))):=hide (gb_grew (gb_refl _ _) HWq.out)
  clear c00 c0 c1 c2 c3 c4 f4 d0 d1 d2 d3 oc of ol
  have hcut:(decide (t1*t2<0)=true∧decide (t3*t4<0)=true)∨((decide (t1*t2<0)&&decide (t3*t4<0))=false):=by
   cases decide (t1*t2<0)<;>cases decide (t3*t4<0)<;>simp
  rcases hcut with⟨u1,u2⟩|u
  ·have hr0:=HST.out (by rw[HEH.out,u1,u2];rfl)
   have HR0:=hide hr0
   clear hr0 HST HNX HEH
   gi_wp2_with fail
   refine wpIn_region_qas 22 [] [] hm (h:=?_)
   repeat (refine wpSteady_step (fun K hK=>?_);go_simp;first|(refine hK _ ?_;clear hK K)|(apply Exists.intro;refine⟨fun _=>?_,hK _ ?_⟩;(go_at_call 126;first|with_reducible exact kt1.out _|with_reducible exact kt2.out _|with_reducible exact kt3.out _|with_reducible exact kt4.out _);clear hK K))
   refine rqi0 fun nqz osqz=>?_
   try simp only[Act.put,setA]
   try dsimp only
   gi_wp2_with fail
   exact⟨gb_keeps (b:=w.heap.size+3) gbw ⟨_,hb2q.out,rfl⟩,⟨gb_below (b:=w.heap.size+3) gbw HB.out (by omega),(by repeat (with_reducible first|assumption|exact Hid.out (by assumption)|refine bxd_grow ?_ _ _|refine Boxed.set (v:=.bool false) _ ?_|refine bxd_new ?_ (Hid.out (by assumption))|(refine bxd_grew ?_ (Hid.out (by assumption)))))⟩,rfl,HR0.out⟩
  ·have hu:(decide (t1*t2<0)=true∧decide (t3*t4<0)=false)∨decide (t1*t2<0)=false:=by
    cases h1:decide (t1*t2<0)<;>cases h2:decide (t3*t4<0)<;>rw[h1,h2] at u<;>simp at u ⊢
   rw[u,Bool.not_false,Bool.true_and] at HEH
   clear u
   have hkk:(a1=x1∧a2=x2)∨((a1≠x1∨(a1=x1∧a2≠x2))∧a1=y1∧a2=y2)∨((a1≠x1∨(a1=x1∧a2≠x2))∧(a1≠y1∨(a1=y1∧a2≠y2))):=by omega
   have heq:∀ (z1 z2:Int),((a1,a2)≠((z1,z2):Pt))↔(a1≠z1∨(a1=z1∧a2≠z2)):=fun z1 z2=>by
    rw[Ne,Prod.mk.injEq]
    omega
   have ev:edgeHas ps (x1,x2) (y1,y2) i = !(decide (a1≠x1∨(a1=x1∧a2≠x2))&&(decide (a1≠y1∨(a1=y1∧a2≠y2))&&(o && !(p1'&&p2')))):=by
    rw[HEH.out]
    simp only[heq]
   clear HEH heq
   rcases hu with⟨u1,u2⟩|u1
   all_goals
    rcases hkk with⟨v1,v2⟩|⟨v1,v2,v3⟩|⟨v1,v2⟩
    ·have hv:edgeHas ps (x1,x2) (y1,y2) i=true:=by rw[ev,show decide (a1≠x1∨(a1=x1∧a2≠x2))=false by simp;omega];rfl
     have HN2:=hide (HNX.out hv)
     clear hv ev HNX HST
     subst v1 v2
     gi_wp2_with fail
     refine wpIn_region_qas 22 [] [] hm (h:=?_)
     repeat (refine wpSteady_step (fun K hK=>?_);go_simp;first|(refine hK _ ?_;clear hK K)|(apply Exists.intro;refine⟨fun _=>?_,hK _ ?_⟩;(go_at_call 126;first|with_reducible exact kt1.out _|with_reducible exact kt2.out _|with_reducible exact kt3.out _|with_reducible exact kt4.out _);clear hK K))
     refine rqi0 fun nqz osqz=>?_
     try simp only[Act.put,setA]
     try dsimp only
     gi_wp2_with fail
     all_goals repeat (refine⟨trivial,?_⟩;(try ((with_reducible refine (CallsIn.inRound l (callsIn_wide.2 (ko.out _))).mono ?_);rintro e w' ⟨rfl,⟨_,_⟩,rfl⟩;dsimp only));(try ((with_reducible refine (CallsIn.inRound l (callsIn_wide.2 (kp1.out _ (hww.out.trans gw)))).mono ?_);rintro e w' ⟨rfl,⟨_,_⟩,rfl⟩;dsimp only));(try ((with_reducible refine (CallsIn.inRound l (callsIn_wide.2 (kp2.out _ (hww.out.trans gw)))).mono ?_);rintro e w' ⟨rfl,⟨_,_⟩,rfl⟩;dsimp only));gi_wp2_with fail;try any_goals (exact (undef_ne (by assumption)).elim))
     all_goals exact⟨(HWq.out.trans gw).keepsFrom _,KpM.grew (HWq.out.trans gw),⟨HB.out.trans ((HWq.out.trans gw).below.mono HB.out.size),Hb.out.grew (HWq.out.trans gw)⟩,HN2.out⟩
    ·have hv:edgeHas ps (x1,x2) (y1,y2) i=true:=by rw[ev,show decide (a1≠y1∨(a1=y1∧a2≠y2))=false by simp;omega,Bool.false_and,Bool.and_false];rfl
     have HN2:=hide (HNX.out hv)
     clear hv ev HNX HST
     subst v2 v3
     rcases v1 with v1|⟨v1,v2⟩
     all_goals
      try subst v1
      gi_wp2_with fail
      refine wpIn_region_qas 22 [] [] hm (h:=?_)
      repeat (refine wpSteady_step (fun K hK=>?_);go_simp;first|(refine hK _ ?_;clear hK K)|(apply Exists.intro;refine⟨fun _=>?_,hK _ ?_⟩;(go_at_call 126;first|with_reducible exact kt1.out _|with_reducible exact kt2.out _|with_reducible exact kt3.out _|with_reducible exact kt4.out _);clear hK K))
      refine rqi0 fun nqz osqz=>?_
      try simp only[Act.put,setA]
      try dsimp only
      gi_wp2_with fail
      all_goals repeat (refine⟨trivial,?_⟩;(try ((with_reducible refine (CallsIn.inRound l (callsIn_wide.2 (ko.out _))).mono ?_);rintro e w' ⟨rfl,⟨_,_⟩,rfl⟩;dsimp only));(try ((with_reducible refine (CallsIn.inRound l (callsIn_wide.2 (kp1.out _ (hww.out.trans gw)))).mono ?_);rintro e w' ⟨rfl,⟨_,_⟩,rfl⟩;dsimp only));(try ((with_reducible refine (CallsIn.inRound l (callsIn_wide.2 (kp2.out _ (hww.out.trans gw)))).mono ?_);rintro e w' ⟨rfl,⟨_,_⟩,rfl⟩;dsimp only));gi_wp2_with fail;try any_goals (exact (undef_ne (by assumption)).elim))
      all_goals exact⟨(HWq.out.trans gw).keepsFrom _,KpM.grew (HWq.out.trans gw),⟨HB.out.trans ((HWq.out.trans gw).below.mono HB.out.size),Hb.out.grew (HWq.out.trans gw)⟩,HN2.out⟩
    ·rw[show decide (a1≠x1∨(a1=x1∧a2≠x2))=true by simpa using v1,show decide (a1≠y1∨(a1=y1∧a2≠y2))=true by simpa using v2,Bool.true_and,Bool.true_and] at ev
     have EV:=hide ev
     clear ev
     have hop:((o=false)∨(o=true∧p1'=true∧p2'=true))∨((o=true∧p1'=false)∨(o=true∧p1'=true∧p2'=false)):=by
      cases o<;>cases p1'<;>cases p2'<;>simp
     rcases hop with hop|hop
     ·have hv:edgeHas ps (x1,x2) (y1,y2) i=true:=by rw[EV.out];rcases hop with rfl|⟨rfl,rfl,rfl⟩<;>rfl
      have HN2:=hide (HNX.out hv)
      clear hv EV HNX HST
      rcases hop with rfl|⟨rfl,rfl,rfl⟩<;>rcases v1 with v1|⟨v1,v3⟩<;>rcases v2 with v2|⟨v2,v4⟩
      all_goals
       try subst v1
       try subst v2
       gi_wp2_with fail
       refine wpIn_region_qas 22 [] [] hm (h:=?_)
       repeat (refine wpSteady_step (fun K hK=>?_);go_simp;first|(refine hK _ ?_;clear hK K)|(apply Exists.intro;refine⟨fun _=>?_,hK _ ?_⟩;(go_at_call 126;first|with_reducible exact kt1.out _|with_reducible exact kt2.out _|with_reducible exact kt3.out _|with_reducible exact kt4.out _);clear hK K))
       refine rqi0 fun nqz osqz=>?_
       try simp only[Act.put,setA]
       try dsimp only
       gi_wp2_with fail
       all_goals repeat (refine⟨trivial,?_⟩;(try ((with_reducible refine (CallsIn.inRound l (callsIn_wide.2 (ko.out _))).mono ?_);rintro e w' ⟨rfl,⟨_,_⟩,rfl⟩;dsimp only));(try ((with_reducible refine (CallsIn.inRound l (callsIn_wide.2 (kp1.out _ (hww.out.trans gw)))).mono ?_);rintro e w' ⟨rfl,⟨_,_⟩,rfl⟩;dsimp only));(try ((with_reducible refine (CallsIn.inRound l (callsIn_wide.2 (kp2.out _ (hww.out.trans gw)))).mono ?_);rintro e w' ⟨rfl,⟨_,_⟩,rfl⟩;dsimp only));gi_wp2_with fail;try any_goals (exact (undef_ne (by assumption)).elim))
       all_goals exact⟨(HWq.out.trans gw).keepsFrom _,KpM.grew (HWq.out.trans gw),⟨HB.out.trans ((HWq.out.trans gw).below.mono HB.out.size),Hb.out.grew (HWq.out.trans gw)⟩,HN2.out⟩
     ·have hv:edgeHas ps (x1,x2) (y1,y2) i=false:=by rw[EV.out];rcases hop with⟨rfl,rfl⟩|⟨rfl,rfl,rfl⟩<;>simp
      have HR0:=hide (HST.out hv)
      clear hv EV HNX HST
      rcases hop with⟨rfl,rfl⟩|⟨rfl,rfl,rfl⟩<;>rcases v1 with v1|⟨v1,v3⟩<;>rcases v2 with v2|⟨v2,v4⟩
      all_goals
       try subst v1
       try subst v2
       gi_wp2_with fail
       refine wpIn_region_qas 22 [] [] hm (h:=?_)
       repeat (refine wpSteady_step (fun K hK=>?_);go_simp;first|(refine hK _ ?_;clear hK K)|(apply Exists.intro;refine⟨fun _=>?_,hK _ ?_⟩;(go_at_call 126;first|with_reducible exact kt1.out _|with_reducible exact kt2.out _|with_reducible exact kt3.out _|with_reducible exact kt4.out _);clear hK K))
       refine rqi0 fun nqz osqz=>?_
       try simp only[Act.put,setA]
       try dsimp only
       gi_wp2_with fail
       all_goals repeat (refine⟨trivial,?_⟩;(try ((with_reducible refine (CallsIn.inRound l (callsIn_wide.2 (ko.out _))).mono ?_);rintro e w' ⟨rfl,⟨_,_⟩,rfl⟩;dsimp only));(try ((with_reducible refine (CallsIn.inRound l (callsIn_wide.2 (kp1.out _ (hww.out.trans gw)))).mono ?_);rintro e w' ⟨rfl,⟨_,_⟩,rfl⟩;dsimp only));(try ((with_reducible refine (CallsIn.inRound l (callsIn_wide.2 (kp2.out _ (hww.out.trans gw)))).mono ?_);rintro e w' ⟨rfl,⟨_,_⟩,rfl⟩;dsimp only));gi_wp2_with fail;try any_goals (exact (undef_ne (by assumption)).elim))
       all_goals exact⟨gb_keeps (b:=w.heap.size+3) gbw ⟨_,hb2q.out,rfl⟩,⟨gb_below (b:=w.heap.size+3) gbw HB.out (by omega),(by repeat (with_reducible first|assumption|exact Hid.out (by assumption)|refine bxd_grow ?_ _ _|refine Boxed.set (v:=.bool false) _ ?_|refine bxd_new ?_ (Hid.out (by assumption))|(refine bxd_grew ?_ (Hid.out (by assumption)))))⟩,rfl,HR0.out⟩
 case done =>
  subst ha
  rintro D xs W hD hS ⟨⟨hB,hb⟩,hp⟩ hK
  have b1:Boxed W (w.heap.size+3) _ _:=hb.box 3 rfl
  have c1:=b1.cell
  have f1:=b1.frozen
  obtain rfl:rr=true:=by
   rw[←HRR.out,List.all_eq_true]
   intro j hj
   rw[←hS] at hj
   obtain⟨j',hj',rfl⟩:=List.mem_map.1 hj
   exact hp j' hj'
  have HB:=hide hB
  clear hB hb hS hp b1
  gi_wp2_with fail
  have hK2:=(KeepsOthers.setCell W ⟨w.heap.size+3,0,none⟩ (.bool true)).same D _ hK rfl
  refine⟨by simp,.inl ⟨_,_,rfl,run_takeDeferred hK2,?_⟩⟩
  have hb5:=(HB.out.setCell (p:=⟨w.heap.size+3,0,none⟩) (by simp) (.bool true)).trans (belowK_b (w:=w) (Nat.le_refl _) _ D _ (.deferred none) (by omega) hK2 rfl rfl)
  have e3:((W.setCell ⟨w.heap.size+3,0,none⟩ (.bool true)).putObj D (.deferred none)).cell? ⟨w.heap.size+3,0,none⟩=some (.bool true):=by
   rw[putObj_cell (by omega)]
   go_simp
  refine⟨.bool true,by simp[results,Tryz.results245,go_sem,e3],?_⟩
  exact Ret.mk' rfl (Grew.of_below hb5)
 case stop =>
  subst ha
  rintro D e pre W hD hr ⟨⟨hB,hb1⟩,rfl,rfl⟩ hK
  have c3:W.cell? ⟨w.heap.size+3,0,none⟩=_:=hb1.cell
  have HB:=hide hB
  clear hB hb1 hr
  gi_wp2_with fail
  refine⟨by simp,.inl ⟨_,_,rfl,run_takeDeferred hK,?_⟩⟩
  have hb5:=HB.out.trans (belowK_b (w:=w) (Nat.le_refl _) _ D _ (.deferred none) (by omega) hK rfl rfl)
  have e3:=(putObj_cell (W:=W) (D:=D) (i:=0) (o:=.deferred none) (b:=w.heap.size+3) (by omega)).trans c3
  refine⟨.bool false,by simp[results,Tryz.results245,go_sem,e3],?_⟩
  exact Ret.mk' rfl (Grew.of_below hb5)
set_option maxHeartbeats 8000000
set_option maxRecDepth 100000
def nearAll (ps:List Pt)(q:Pt)(r:Int)(is:List Nat):Bool:=is.any fun i=>nearB q (cor ps i) (cor ps (i+1)) r
def apartAll (ps:List Pt)(q:Pt)(r:Int)(is:List Nat):Bool:=is.all fun i=>apartB q (cor ps i) (cor ps (i+1)) r
def discVal (ps:List Pt)(q:Pt)(r:Int):Int :=
 if 0≤placeOf ps q then (if apartAll ps q r (List.range ps.length)=true then 1 else 0)
 else (if nearAll ps q r (List.range ps.length)=true then 0 else -1)
def discOf (ps:List Pt)(q:Pt)(r:Int):Int×Int:=if (PValid ps&&(q.ok&&distB r))=true then (discVal ps q r,0) else (0,1)
theorem Disc_no (ps:List Pt)(A:Option Addr)(c:Nat)(q:Pt)(r:Int)(w:World)(hr:Rd w w.heap.size 2 A (ps.map encD))(hc:ps.length≤100000000000000)(h:(PValid ps&&(q.ok&&distB r))=false) :
  Calls Tryz.prog 241 #[.slice A ps.length c,pt q.1 q.2,.int .i64 r] w (Ret w (.tuple #[.int .i64 0,.int .i64 1])):=by
 have hm:=hmix
 obtain⟨u,hu⟩:∃u,q.ok=u:=⟨_,rfl⟩
 obtain⟨v,hv⟩:∃u,PValid ps=u:=⟨_,rfl⟩
 rw[hu,hv] at h
 have k1:=hide (fun W=>planeValid_v q.1 q.2 u W hu)
 have k2:=hide (fun W (hg:Grew w W)=>PValid_v ps A c v W (hr.up hg) hc hv)
 clear hu hv
 obtain⟨x1,x2⟩:=q
 have hcase:v=false∨(v=true∧u=false)∨(v=true∧u=true∧r<0)∨(v=true∧u=true∧¬ r<0∧3000000<r):=by
  cases v
  ·exact .inl rfl
  ·cases u
   ·exact .inr (.inl ⟨rfl,rfl⟩)
   ·simp[distB] at h
    by_cases h1:r<0
    ·exact .inr (.inr (.inl ⟨rfl,rfl,h1⟩))
    ·exact .inr (.inr (.inr ⟨rfl,rfl,h1,by omega⟩))
 clear h
 rcases hcase with rfl|⟨rfl,rfl⟩|⟨rfl,rfl,h1⟩|⟨rfl,rfl,h1,h2⟩
 all_goals
  go_enter Tryz.func241,Tryz.ntmps241
  go_wp2_with (first|(go_at_call 43;with_reducible refine crv (k1.out _) fun _ _=>?_;dsimp only)|(go_at_call 82;with_reducible refine crv (k2.out _ gw) fun _ _=>?_;dsimp only))
  go_ret2
  exact Ret.mk' rfl gw
theorem Bx.setc {W:World}{n0 b i:Nat}{v:Value}{os:List Obj}(h:Bx W n0 os)(hb:n0+os.length≤b):Bx (W.setCell ⟨b,i,none⟩ v) n0 os:=fun j o ho=>(heap_setCell_other W ⟨b,i,none⟩ (n0+j) v (fun e=>by
  have:=(List.getElem?_eq_some_iff.1 ho).1
  dsimp only at e
  omega)).trans (h j o ho)
theorem nearAll_snoc (ps:List Pt)(q:Pt)(r:Int)(is:List Nat)(i:Nat):nearAll ps q r (is++[i])=(nearAll ps q r is||nearB q (cor ps i) (cor ps (i+1)) r):=by unfold nearAll;simp
theorem apartAll_snoc (ps:List Pt)(q:Pt)(r:Int)(is:List Nat)(i:Nat):apartAll ps q r (is++[i])=(apartAll ps q r is&&apartB q (cor ps i) (cor ps (i+1)) r):=by unfold apartAll;simp
theorem Near_ok (p a b:Pt)(d:Int)(r:Bool)(w:World)(hp:p.ok=true)(ha:a.ok=true)(hb:b.ok=true)(hd:distB d=true)(h:nearB p a b d=r) :
  Calls Tryz.prog 101 #[pt p.1 p.2,pt a.1 a.2,pt b.1 b.2,.int .i64 d] w (Ret w (.tuple #[.bool r,.int .i64 0])):=by
 have:=Near_any p a b d w
 have e:nearOf p a b d=(nearB p a b d,0):=by unfold nearOf;rw[hp,ha,hb,hd];rfl
 rw[e,h] at this
 exact this
theorem Apart_v (p a b:Pt)(d:Int)(r:Bool)(w:World)(hp:p.ok=true)(ha:a.ok=true)(hb:b.ok=true)(hd:distB d=true)(h:apartB p a b d=r) :
  Calls Tryz.prog 244 #[pt p.1 p.2,pt a.1 a.2,pt b.1 b.2,.int .i64 d] w (Ret w (.tuple #[.bool r,.int .i64 0])):=by
 have:=Apart_ok p a b d w hp ha hb (dist_bd hd)
 rwa [h] at this
theorem Disc_yes (ps:List Pt)(A:Option Addr)(c:Nat)(q:Pt)(r:Int)(w:World)(hr:Rd w w.heap.size 2 A (ps.map encD))(hv:PValid ps=true)(hu:q.ok=true)(hd:distB r=true) :
  Calls Tryz.prog 241 #[.slice A ps.length c,pt q.1 q.2,.int .i64 r] w (Ret w (.tuple #[.int .i64 (discVal ps q r),.int .i64 0])):=by
 have hm:=hmix
 have hp:=pv_parts hv
 have hdb:=dist_bd hd
 obtain⟨at',hat⟩:∃p,placeOf ps q=p:=⟨_,rfl⟩
 have k1:=hide (fun W=>planeValid_v q.1 q.2 true W hu)
 have k2:=hide (fun W (hg:Grew w W)=>PValid_v ps A c true W (hr.up hg) (by omega) hv)
 have k3:=hide (fun W (hg:Grew w W)=>place_v ps A c q at' W (hr.up hg) (by omega) hp.2 hu hat)
 have HR:=hide hr
 have HOK:=hide hp.2
 have HQ:=hide hu
 have HD:=hide hd
 have hl:ps.length≤24:=hp.1.2
 obtain⟨rr,hrr⟩:∃v,discVal ps q r=v:=⟨_,rfl⟩
 rw[hrr]
 unfold discVal at hrr
 rw[hat] at hrr
 have HRR:=hide hrr
 have h1:¬ r<0:=by omega
 have h2:¬ 3000000<r:=by omega
 clear hr hv hu hd hp hat hrr
 refine (callsIn_wide (n:=13)).1 ?_
 refine callsIn_of_wp_marks Tryz.func241 rfl trivial ?_ rfl
 simp only[Tryz.ntmps241,List.size_toArray,List.length_cons,List.length_nil,Nat.reduceAdd,Nat.reduceSub,Array.replicate_succ,Array.replicate_zero,List.push_toArray,List.append_toArray,List.nil_append,List.cons_append]
 gi_wp2_with fail
 refine⟨trivial,?_⟩
 refine (callsIn_wide.2 (k2.out _ gw)).mono ?_
 rintro e w' ⟨rfl,⟨n1,os1⟩,rfl⟩
 dsimp only
 gi_wp2_with fail
 refine⟨trivial,?_⟩
 refine (callsIn_wide.2 (k1.out _)).mono ?_
 rintro e w' ⟨rfl,hg1⟩
 obtain⟨bx,hbx⟩:∃bx:List Obj,bx=[.cells #[.int .i64 q.1,.int .i64 q.2] 26 (0,0),.cells #[.int .i64 r] 3 (0,0)]:=⟨_,rfl⟩
 have hb1:Bx w' w.heap.size bx:=by rw[hbx];refine (Bx.allocs _ w).1.grew ?_;simp only[List.foldl];exact Grew.trans gw hg1
 have hw1:Grew w w':=Grew.trans gw hg1
 have hz1:w.heap.size+2≤w'.heap.size:=by
  have:=hb1 1 _ (by rw[hbx];rfl)
  have:=blk_lt this
  omega
 clear hg1
 subst hbx
 have c0:w'.cell? ⟨w.heap.size,0,none⟩=some (.int .i64 q.1):=blk_cell (hb1 0 _ rfl) 0
 have c1:w'.cell? ⟨w.heap.size,1,none⟩=some (.int .i64 q.2):=blk_cell (hb1 0 _ rfl) 1
 have c2:w'.cell? ⟨w.heap.size+1,0,none⟩=some (.int .i64 r):=(hb1.box 1 rfl).cell
 have m0:w.heap.size<w'.heap.size:=by omega
 have m1:w.heap.size+1<w'.heap.size:=by omega
 have Hb1:=hide hb1
 have Hw1:=hide hw1
 clear hb1 hw1
 dsimp only
 gi_wp2_with fail
 refine⟨trivial,?_⟩
 refine (callsIn_wide.2 (edges_any _ _ _ _)).mono ?_
 rintro e w'' ⟨rfl,rfl⟩
 dsimp only
 gi_wp2_with fail
 refine wpIn_name ?_
 intro a0 W0 ha hW
 have hg01:Grew w' W0:=by rw[←hW];exact gw
 have hg0:Grew w W0:=Hw1.out.trans hg01
 have hb0:=Hb1.out.grew hg01
 have hn0:Boxed W0 w'.heap.size 4 (.bool false):=by rw[←hW];exact (heap_alloc_old _ _ (by simp;omega)).trans ((heap_alloc_old _ _ (by simp)).trans (heap_alloc_new _ _))
 have ha0:Boxed W0 (w'.heap.size+1) 4 (.bool true):=by rw[←hW];exact (heap_alloc_old _ _ (by simp)).trans (heap_alloc_at _ _ _ (by simp))
 have hk0:W0.heap[w'.heap.size+2]?=some (.cells #[.slice A ps.length c] 152 (0,0)):=by rw[←hW];exact heap_alloc_at _ _ _ (by simp)
 have hsz:W0.heap.size=w'.heap.size+3:=by rw[←hW];simp
 clear hW c0 c1 c2 hg01
 obtain⟨Z,hZ⟩:∃Z,w'.heap.size=Z:=⟨_,rfl⟩
 rw[hZ] at hn0 ha0 hk0 hsz hz1 m0 m1
 have ha2:a0.eval (.tmp 34)=.func (.func 198) #[] #[.pointer (some ⟨Z+2,0,none⟩)]:=by rw[←ha,←hZ];simp[Act.eval]
 refine wpIn_rangeFunc_ownH (n:=13) rfl (by omega) (gf:=198) (lb:=#[.pointer (some ⟨Z+2,0,none⟩)]) ha2 trivial (enters_of Tryz.func198 (by kernel_rfl) rfl)
  (edges1_stops 12 w.heap.size (fun b _=>b=Z∨b=Z+1) ps A c (Z+2) W0 (fun b _ hb=>by omega) hk0 (HR.out.grew hg0 (Nat.le_refl _)) (by omega) (by omega))
  (fun h k=>h.trans k) KpM.bk (Below.refl _ _) (fun _=>rfl)
  (fun pre W=>((Below w.heap.size w W∧Bx W w.heap.size _)∧Boxed W Z 4 (.bool (nearAll ps q r (pre.map Fin.val))))∧Boxed W (Z+1) 4 (.bool (apartAll ps q r (pre.map Fin.val))))
  (fun _ _ _=>False)
  (OwnFrom.and (OwnFrom.and (OwnFrom.and (ownFrom_below (Nat.le_refl _) hg0.below.size) (Bx.own (by simp;omega))) (Own.from (boxed_own _ _ _) _)) (Own.from (boxed_own _ _ _) _))
  (fun q=>ownFrom_pure _)
  ⟨⟨⟨hg0.below,hb0⟩,hn0⟩,ha0⟩
  (fun x a' W=>∃B,W.heap[B]?=some (.cells #[.int .i64 (cor ps x.1).1,.int .i64 (cor ps x.1).2,.int .i64 (cor ps (x.1+1)).1,.int .i64 (cor ps (x.1+1)).2] 191 (0,0))∧a'={ tmps:=((a0.tmps.setIfInBounds 35 (.int .i64 (x.1:Nat))).setIfInBounds 36 (.agg #[.int .i64 (cor ps x.1).1,.int .i64 (cor ps x.1).2,.int .i64 (cor ps (x.1+1)).1,.int .i64 (cor ps (x.1+1)).2])).setIfInBounds 11 (.pointer (some ⟨B,0,none⟩)),defers:=[] })
  (fun x a'=>by
   rintro s X Y row ⟨B,h1,h2⟩ hg hr
   exact⟨B,cells_own h1 hg (fun r e=>(hr r e).2),h2⟩)
  ?assign ?body ?done ?stop
 case assign =>
  rintro l pre x W K ⟨⟨⟨hB,hb⟩,hn⟩,hap⟩ hK
  rw[show encE ps x=#[.int .i64 (x.1:Nat),.agg #[.int .i64 (cor ps x.1).1,.int .i64 (cor ps x.1).2,.int .i64 (cor ps (x.1+1)).1,.int .i64 (cor ps (x.1+1)).2]] from rfl,asg2]
  subst ha
  simp only[List.setIfInBounds_toArray,List.set_cons_succ,List.set_cons_zero] at hK ⊢
  have hKK:=hide hK
  have l1:=blk_lt hn
  have l2:=blk_lt hap
  clear hK
  gi_wp2_with fail
  have hgg:Grew W (W.alloc (.cells #[.int .i64 (cor ps x.1).1,.int .i64 (cor ps x.1).2,.int .i64 (cor ps (x.1+1)).1,.int .i64 (cor ps (x.1+1)).2] 191)):=gw
  exact hKK.out _ _ (hgg.keepsFrom _) (KpM.grew hgg) ⟨⟨⟨hB.trans (hgg.below.mono hB.size),hb.grew hgg⟩,(hgg.below.block _ l1).trans hn⟩,(hgg.below.block _ l2).trans hap⟩ ⟨W.heap.size,heap_alloc_new _ _,rfl⟩
 case body =>
  rintro l pre x a' W hl2 hlp ⟨⟨⟨hB,hb⟩,hn⟩,hap⟩ ⟨B,hx,rfl⟩ hlt
  subst ha
  obtain⟨i,hil⟩:=x
  dsimp only at hx
  simp only[List.setIfInBounds_toArray,List.set_cons_succ,List.set_cons_zero]
  have oa:=cor_ok HOK.out i
  have ob:=cor_ok HOK.out (i+1)
  have hns:=nearAll_snoc ps q r (pre.map Fin.val) i
  have has:=apartAll_snoc ps q r (pre.map Fin.val) i
  obtain⟨nb,hnb⟩:∃o,nearAll ps q r (pre.map Fin.val)=o:=⟨_,rfl⟩
  obtain⟨ab,hab⟩:∃o,apartAll ps q r (pre.map Fin.val)=o:=⟨_,rfl⟩
  obtain⟨n',hn'⟩:∃o,nearB q (cor ps i) (cor ps (i+1)) r=o:=⟨_,rfl⟩
  obtain⟨a',ha'⟩:∃o,apartB q (cor ps i) (cor ps (i+1)) r=o:=⟨_,rfl⟩
  rw[hnb,hn'] at hns
  rw[hab,ha'] at has
  rw[hnb] at hn
  rw[hab] at hap
  have kn:=hide (fun W'=>Near_ok q (cor ps i) (cor ps (i+1)) r n' W' HQ.out oa ob HD.out hn')
  have ka:=hide (fun W'=>Apart_v q (cor ps i) (cor ps (i+1)) r a' W' HQ.out oa ob HD.out ha')
  have HNS:=hide hns
  have HAS:=hide has
  clear hns has hnb hab hn' ha' hlt
  generalize cor ps i=a at *
  generalize cor ps (i+1)=b at *
  obtain⟨a1,a2⟩:=a
  obtain⟨b1,b2⟩:=b
  obtain⟨x1,x2⟩:=q
  dsimp only at hx hb ⊢
  have c0:W.cell? ⟨w.heap.size,0,none⟩=some (.int .i64 x1):=blk_cell (hb 0 _ rfl) 0
  have c1:W.cell? ⟨w.heap.size,1,none⟩=some (.int .i64 x2):=blk_cell (hb 0 _ rfl) 1
  have c2:W.cell? ⟨w.heap.size+1,0,none⟩=some (.int .i64 r):=(hb.box 1 rfl).cell
  have c3:W.cell? ⟨Z,0,none⟩=_:=hn.cell
  have f3:W.frozen? ⟨Z,0,none⟩=_:=hn.frozen
  have c4:W.cell? ⟨Z+1,0,none⟩=_:=hap.cell
  have f4:W.frozen? ⟨Z+1,0,none⟩=_:=hap.frozen
  have d0:W.cell? ⟨B,0,none⟩=some _:=blk_cell hx 0
  have d1:W.cell? ⟨B,1,none⟩=some _:=blk_cell hx 1
  have d2:W.cell? ⟨B,2,none⟩=some _:=blk_cell hx 2
  have d3:W.cell? ⟨B,3,none⟩=some _:=blk_cell hx 3
  have l4:=hap.lt
  have l3:=hn.lt
  have l1:w.heap.size+1<W.heap.size:=by omega
  have l0:w.heap.size<W.heap.size:=by omega
  have lB:=blk_lt hx
  have HB:=hide hB
  have Hb:=hide hb
  have Hn:=hide hn
  have Ha:=hide hap
  clear hB hb hx hn hap
  gi_wp2_with fail
  refine⟨trivial,?_⟩
  refine (CallsIn.inRound l (callsIn_wide.2 (kn.out _))).mono ?_
  rintro e w9 ⟨rfl,⟨n5,os5⟩,rfl⟩
  dsimp only
  gi_wp2_with fail
  refine⟨trivial,?_⟩
  refine (CallsIn.inRound l (callsIn_wide.2 (ka.out _))).mono ?_
  rintro e w9 ⟨rfl,⟨n6,os6⟩,rfl⟩
  dsimp only
  cases nb<;>cases ab
  all_goals
   gi_wp2_with fail
   have hb2:=fun (u v:Value)=>(HB.out.setCell (p:=⟨Z,0,none⟩) (by dsimp only;omega) u).setCell (p:=⟨Z+1,0,none⟩) (by dsimp only;omega) v
   have hbx2:=fun (u v:Value)=>((Hb.out.setc (b:=Z) (i:=0) (v:=u) (by simp;omega)).setc (b:=Z+1) (i:=0) (v:=v) (by simp;omega))
   refine⟨(KeepsFrom.setCell _ _ _ _).trans ((KeepsFrom.setCell _ _ _ _).trans ((Grew.mk _ _ _).keepsFrom _)),(KpM.set _ _ _ _ (fun _=>.inl rfl)).trans ((KpM.set _ _ _ _ (fun _=>.inr rfl)).trans (KpM.grew (Grew.mk _ _ _))),⟨⟨⟨(hb2 _ _).trans ((Grew.mk _ _ _).below.mono (hb2 _ _).size),(hbx2 _ _).grew (Grew.mk _ _ _)⟩,?_⟩,?_⟩⟩
   ·rw[List.map_append,show [(⟨i,hil⟩:Fin ps.length)].map Fin.val=[i] from rfl,HNS.out]
    exact bxd_grow ((Hn.out.set _).other (by omega) _) _ _
   ·rw[List.map_append,show [(⟨i,hil⟩:Fin ps.length)].map Fin.val=[i] from rfl,HAS.out]
    exact bxd_grow ((Ha.out.other (by omega) _).set _) _ _
 case done =>
  subst ha
  rintro D xs W hD hS ⟨⟨⟨hB,hb⟩,hn⟩,hap⟩ hK
  rw[hS] at hn hap
  obtain⟨nb,hnb⟩:∃o,nearAll ps q r (List.range ps.length)=o:=⟨_,rfl⟩
  obtain⟨ab,hab⟩:∃o,apartAll ps q r (List.range ps.length)=o:=⟨_,rfl⟩
  rw[hnb] at hn
  rw[hab] at hap
  have hrr:=HRR.out
  rw[hnb,hab] at hrr
  have c0:W.cell? ⟨w.heap.size,0,none⟩=some (.int .i64 q.1):=blk_cell (hb 0 _ rfl) 0
  have c1:W.cell? ⟨w.heap.size,1,none⟩=some (.int .i64 q.2):=blk_cell (hb 0 _ rfl) 1
  have c3:W.cell? ⟨Z,0,none⟩=_:=hn.cell
  have c4:W.cell? ⟨Z+1,0,none⟩=_:=hap.cell
  have l4:=hap.lt
  have l3:=hn.lt
  have l0:w.heap.size<W.heap.size:=by omega
  have hwW:Grew w W:=Grew.of_below hB
  have HB:=hide hB
  have HW:=hide hwW
  have HRR2:=hide hrr
  have hKl:=blk_lt hK
  have HK:=hide hK
  clear hB hb hn hap hS hnb hab hrr HRR hwW hK
  gi_wp2_with fail
  refine⟨trivial,?_⟩
  refine (callsIn_wide.2 (k3.out _ HW.out)).mono ?_
  rintro e w9 ⟨rfl,⟨n5,os5⟩,rfl⟩
  dsimp only
  have hK2:(grow (dr W n5) os5).heap[D]?=some (.deferred (some [])):=(heap_grow_old _ _ hKl).trans HK.out
  have HK2:=hide hK2
  have hb5:Below w.heap.size w ((grow (dr W n5) os5).putObj D (.deferred none)):=(HB.out.trans ((Grew.mk W n5 os5).below.mono HB.out.size)).trans (belowK_b (w:=w) (Nat.le_refl _) _ D _ (.deferred none) (by omega) hK2 rfl rfl)
  have HB5:=hide hb5
  clear hK2 hb5
  by_cases h0:0≤at'
  ·rw[if_pos h0] at HRR2
   have h0':¬ at'<0:=by omega
   cases ab
   all_goals
    obtain rfl:=HRR2.out
    gi_wp2_with fail
    refine⟨by simp,.inl ⟨_,_,rfl,run_takeDeferred HK2.out,?_⟩⟩
    refine⟨.tuple #[.int .i64 _,.int .i64 0],by simp[results,Tryz.results241,go_sem];rfl,?_⟩
    exact Ret.mk' rfl (Grew.of_below HB5.out)
  ·rw[if_neg h0] at HRR2
   have h0':at'<0:=by omega
   cases nb
   all_goals
    obtain rfl:=HRR2.out
    gi_wp2_with fail
    refine⟨by simp,.inl ⟨_,_,rfl,run_takeDeferred HK2.out,?_⟩⟩
    refine⟨.tuple #[.int .i64 _,.int .i64 0],by simp[results,Tryz.results241,go_sem];rfl,?_⟩
    exact Ret.mk' rfl (Grew.of_below HB5.out)
 case stop=>exact fun _ _ _ _ _ _ h _=>h.elim
theorem Disc_v (ps:List Pt)(A:Option Addr)(c:Nat)(q:Pt)(r:Int)(d:Int×Int)(w:World)(hr:Rd w w.heap.size 2 A (ps.map encD))(hc:ps.length≤100000000000000)(h:discOf ps q r=d) :
  Calls Tryz.prog 241 #[.slice A ps.length c,pt q.1 q.2,.int .i64 r] w (Ret w (.tuple #[.int .i64 d.1,.int .i64 d.2])):=by
 subst h
 unfold discOf
 cases h:PValid ps&&(q.ok&&distB r)
 ·exact Disc_no ps A c q r w hr hc h
 ·simp only[Bool.and_eq_true] at h
  exact Disc_yes ps A c q r w hr h.1 h.2.1 h.2.2
theorem run_store_func' (P:Program)(w:World)(a:Addr)(m:Mode)(f:Fn)(xs ys):(store a (.func f xs ys) m).run P w=stored P w a (.func f xs ys) m:=run_store P w a _ m rfl
attribute [local go_sem] run_store_func'
theorem has_v (ps:List Pt)(A:Option Addr)(c:Nat)(a b:Pt)(r:Bool)(w:World)(hr:Rd w w.heap.size 2 A (ps.map encD))(hl:ps.length≤100)(hok:ps.all Pt.ok=true)(ha:a.ok=true)(hb:b.ok=true)(h:hasOf ps a b=r) :
  Calls Tryz.prog 245 #[.slice A ps.length c,pt a.1 a.2,pt b.1 b.2] w (Ret w (.bool r)):=by
 subst h
 unfold hasOf
 cases h:hasFst ps a b
 ·exact has_no ps A c a b w hr hl hok ha hb h
 ·rw[Bool.true_and]
  exact has_yes ps A c a b w hr hl hok ha hb h
def holdsE (ps qs:List Pt)(i:Nat):Bool:=hasOf ps (cor qs i) (cor qs (i+1))
def pholds (ps qs:List Pt):Bool:=(List.range qs.length).all (holdsE ps qs)
def pholdsOf (ps qs:List Pt):Bool×Int:=if (PValid ps&&PValid qs)=true then (pholds ps qs,0) else (false,1)
theorem PHolds_no (ps qs:List Pt)(A A':Option Addr)(c c':Nat)(w:World)(hr:Rd w w.heap.size 2 A (ps.map encD))(hr':Rd w w.heap.size 2 A' (qs.map encD))(hc:ps.length≤100000000000000)(hc':qs.length≤100000000000000)(h:(PValid ps&&PValid qs)=false) :
  Calls Tryz.prog 242 #[.slice A ps.length c,.slice A' qs.length c'] w (Ret w (.tuple #[.bool false,.int .i64 1])):=by
 have hm:=hmix
 obtain⟨u,hu⟩:∃u,PValid ps=u:=⟨_,rfl⟩
 obtain⟨v,hv⟩:∃u,PValid qs=u:=⟨_,rfl⟩
 rw[hu,hv] at h
 have k1:=hide (fun W (hg:Grew w W)=>PValid_v ps A c u W (hr.up hg) hc hu)
 have k2:=hide (fun W (hg:Grew w W)=>PValid_v qs A' c' v W (hr'.up hg) hc' hv)
 clear hu hv
 have hcase:u=false∨(u=true∧v=false):=by
  cases u
  ·exact .inl rfl
  ·cases v
   ·exact .inr ⟨rfl,rfl⟩
   ·simp at h
 clear h
 rcases hcase with rfl|⟨rfl,rfl⟩
 all_goals
  go_enter Tryz.func242,Tryz.ntmps242
  go_wp2_with (first|(go_at_call 82;with_reducible refine crv (k1.out _ gw) fun _ _=>?_;dsimp only)|(go_at_call 82;with_reducible refine crv (k2.out _ gw) fun _ _=>?_;dsimp only))
  refine bodyPost_ret (v:=.tuple #[.bool false,.int .i64 1]) (by simp[results,Tryz.results242,go_sem]) rfl ?_
  exact Ret.mk' rfl gw
theorem PHolds_yes (ps qs:List Pt)(A A':Option Addr)(c c':Nat)(w:World)(hr:Rd w w.heap.size 2 A (ps.map encD))(hr':Rd w w.heap.size 2 A' (qs.map encD))(hu:PValid ps=true)(hv:PValid qs=true) :
  Calls Tryz.prog 242 #[.slice A ps.length c,.slice A' qs.length c'] w (Ret w (.tuple #[.bool (pholds ps qs),.int .i64 0])):=by
 have hm:=hmix
 have hp:=pv_parts hu
 have hq:=pv_parts hv
 have k1:=hide (fun W (hg:Grew w W)=>PValid_v ps A c true W (hr.up hg) (by omega) hu)
 have k2:=hide (fun W (hg:Grew w W)=>PValid_v qs A' c' true W (hr'.up hg) (by omega) hv)
 have kh:=hide (fun (a b:Pt) (r:Bool) (ha:a.ok=true) (hb:b.ok=true) (h:hasOf ps a b=r) W (hg:Grew w W)=>has_v ps A c a b r W (hr.up hg) (by omega) hp.2 ha hb h)
 have HR:=hide hr'
 have HOK:=hide hq.2
 have hl:qs.length≤24:=hq.1.2
 obtain⟨rr,hrr⟩:∃v,pholds ps qs=v:=⟨_,rfl⟩
 rw[hrr]
 have HRR:=hide hrr
 clear hr hr' hu hv hp hq hrr
 refine (callsIn_wide (n:=13)).1 ?_
 refine callsIn_of_wp_marks Tryz.func242 rfl trivial ?_ rfl
 simp only[Tryz.ntmps242,List.size_toArray,List.length_cons,List.length_nil,Nat.reduceAdd,Nat.reduceSub,Array.replicate_succ,Array.replicate_zero,List.push_toArray,List.append_toArray,List.nil_append,List.cons_append]
 gi_wp2_with fail
 refine⟨trivial,?_⟩
 refine (callsIn_wide.2 (k1.out _ gw)).mono ?_
 rintro e w' ⟨rfl,⟨n1,os1⟩,rfl⟩
 dsimp only
 gi_wp2_with fail
 refine⟨trivial,?_⟩
 refine (callsIn_wide.2 (k2.out _ gw)).mono ?_
 rintro e w' ⟨rfl,hg1⟩
 obtain⟨bx,hbx⟩:∃bx:List Obj,bx=[.cells #[.bool false] 4 (0,0),.cells #[.int .i64 0] 29 (0,0)]:=⟨_,rfl⟩
 have hb1:Bx w' w.heap.size bx:=by rw[hbx];refine (Bx.allocs _ w).1.grew ?_;simp only[List.foldl];exact Grew.trans gw hg1
 have hw1:Grew w w':=Grew.trans gw hg1
 have hz1:w.heap.size+2≤w'.heap.size:=by
  have:=hb1 1 _ (by rw[hbx];rfl)
  have:=blk_lt this
  omega
 clear hg1
 subst hbx
 have Hb1:=hide hb1
 have Hw1:=hide hw1
 clear hb1 hw1
 dsimp only
 gi_wp2_with fail
 refine⟨trivial,?_⟩
 refine (callsIn_wide.2 (edges_any _ _ _ _)).mono ?_
 rintro e w'' ⟨rfl,rfl⟩
 dsimp only
 gi_wp2_with fail
 refine wpIn_name ?_
 intro a0 W0 ha hW
 have hg01:Grew w' W0:=by rw[←hW];exact gw
 have hg0:Grew w W0:=Hw1.out.trans hg01
 have hb0:=Hb1.out.grew hg01
 have hf0:W0.heap[w'.heap.size]?=some (.cells #[.func (.func 245) #[.slice A ps.length c] #[]] 159 (0,0)):=by rw[←hW];exact (heap_alloc_old _ _ (by simp)).trans (heap_alloc_new _ _)
 have hk0:W0.heap[w'.heap.size+1]?=some (.cells #[.slice A' qs.length c'] 152 (0,0)):=by rw[←hW];exact heap_alloc_at _ _ _ (by simp)
 have hsz:W0.heap.size=w'.heap.size+2:=by rw[←hW];simp
 clear hW hg01
 obtain⟨Z,hZ⟩:∃Z,w'.heap.size=Z:=⟨_,rfl⟩
 rw[hZ] at hf0 hk0 hsz hz1
 have ha2:a0.eval (.tmp 20)=.func (.func 198) #[] #[.pointer (some ⟨Z+1,0,none⟩)]:=by rw[←ha,←hZ];simp[Act.eval]
 refine wpIn_rangeFunc_ownH (n:=13) rfl (by omega) (gf:=198) (lb:=#[.pointer (some ⟨Z+1,0,none⟩)]) ha2 trivial (enters_of Tryz.func198 (by kernel_rfl) rfl)
  (edges1_stops 12 w.heap.size (fun _ _=>False) qs A' c' (Z+1) W0 (fun b _ hb=>hb.elim) hk0 (HR.out.grew hg0 (Nat.le_refl _)) (by omega) (by omega))
  (fun h k=>h.trans k) KpM.bk (Below.refl _ _) (fun _=>rfl)
  (fun pre W=>((Below w.heap.size w W∧Bx W w.heap.size _)∧Boxed W Z 159 (.func (.func 245) #[.slice A ps.length c] #[]))∧∀i∈pre,holdsE ps qs i.1=true)
  (fun e pre W=>((Below w.heap.size w W∧Boxed W w.heap.size 4 (.bool false))∧Boxed W (w.heap.size+1) 29 (.int .i64 0))∧(e=.ret∧rr=false))
  (OwnFrom.and (OwnFrom.and (OwnFrom.and (ownFrom_below (Nat.le_refl _) hg0.below.size) (Bx.own (by simp;omega))) (fun s X Y row h1 hg hr=>Own.from (boxed_own (β:=Unit) Z _ (fun _=>_)) _ () X Y row h1 hg hr)) (ownFrom_pure _))
  (fun q=>OwnFrom.and (OwnFrom.and (OwnFrom.and (ownFrom_below (Nat.le_refl _) hg0.below.size) (fun s X Y row h1 hg hr=>Own.from (boxed_own (β:=Unit) _ _ (fun _=>_)) _ () X Y row h1 hg hr)) (fun s X Y row h1 hg hr=>Own.from (boxed_own (β:=Unit) _ _ (fun _=>_)) _ () X Y row h1 hg hr)) (ownFrom_pure _))
  ⟨⟨⟨hg0.below,hb0⟩,hf0⟩,fun i hi=>by cases hi⟩
  (fun x a' W=>∃B,W.heap[B]?=some (.cells #[.int .i64 (cor qs x.1).1,.int .i64 (cor qs x.1).2,.int .i64 (cor qs (x.1+1)).1,.int .i64 (cor qs (x.1+1)).2] 191 (0,0))∧a'={ tmps:=((a0.tmps.setIfInBounds 21 (.int .i64 (x.1:Nat))).setIfInBounds 22 (.agg #[.int .i64 (cor qs x.1).1,.int .i64 (cor qs x.1).2,.int .i64 (cor qs (x.1+1)).1,.int .i64 (cor qs (x.1+1)).2])).setIfInBounds 8 (.pointer (some ⟨B,0,none⟩)),defers:=[] })
  (fun x a'=>by
   rintro s X Y row ⟨B,h1,h2⟩ hg hr
   exact⟨B,cells_own h1 hg (fun r e=>(hr r e).2),h2⟩)
  ?assign ?body ?done ?stop
 case assign =>
  rintro l pre x W K ⟨⟨⟨hB,hb⟩,hf⟩,hp⟩ hK
  rw[show encE qs x=#[.int .i64 (x.1:Nat),.agg #[.int .i64 (cor qs x.1).1,.int .i64 (cor qs x.1).2,.int .i64 (cor qs (x.1+1)).1,.int .i64 (cor qs (x.1+1)).2]] from rfl,asg2]
  subst ha
  simp only[List.setIfInBounds_toArray,List.set_cons_succ,List.set_cons_zero] at hK ⊢
  have hKK:=hide hK
  have l1:=blk_lt hf
  clear hK
  gi_wp2_with fail
  have hgg:Grew W (W.alloc (.cells #[.int .i64 (cor qs x.1).1,.int .i64 (cor qs x.1).2,.int .i64 (cor qs (x.1+1)).1,.int .i64 (cor qs (x.1+1)).2] 191)):=gw
  exact hKK.out _ _ (hgg.keepsFrom _) (KpM.grew hgg) ⟨⟨⟨hB.trans (hgg.below.mono hB.size),hb.grew hgg⟩,(hgg.below.block _ l1).trans hf⟩,hp⟩ ⟨W.heap.size,heap_alloc_new _ _,rfl⟩
 case body =>
  rintro l pre x a' W hl2 hlp ⟨⟨⟨hB,hb⟩,hf⟩,hp⟩ ⟨B,hx,rfl⟩ hlt
  subst ha
  obtain⟨i,hil⟩:=x
  dsimp only at hx
  simp only[List.setIfInBounds_toArray,List.set_cons_succ,List.set_cons_zero]
  have oa:=cor_ok HOK.out i
  have ob:=cor_ok HOK.out (i+1)
  obtain⟨o,ho⟩:∃o,hasOf ps (cor qs i) (cor qs (i+1))=o:=⟨_,rfl⟩
  have hoe:holdsE ps qs i=o:=ho
  have hnext:o=true→∀i'∈pre++[(⟨i,hil⟩:Fin qs.length)],holdsE ps qs i'.1=true:=fun hof i' hi'=>by
   rcases List.mem_append.1 hi' with h|h
   ·exact hp i' h
   ·obtain rfl:=List.mem_singleton.1 h
    rw[←hof];exact hoe
  have hstop:o=false→rr=false:=fun hof=>by
   rw[←HRR.out]
   refine List.all_eq_false.2 ⟨i,List.mem_range.2 hil,by rw[hoe,hof];simp⟩
  have HNEXT:=hide hnext
  have HSTOP:=hide hstop
  have ko:=hide (fun W' hg=>kh.out (cor qs i) (cor qs (i+1)) o oa ob ho W' hg)
  clear hnext hstop ho hoe hp hlt
  generalize cor qs i=a at *
  generalize cor qs (i+1)=b at *
  obtain⟨a1,a2⟩:=a
  obtain⟨b1,b2⟩:=b
  dsimp only at hx hb ⊢
  have c3:W.cell? ⟨Z,0,none⟩=_:=Boxed.cell hf
  have c1:W.cell? ⟨w.heap.size,0,none⟩=_:=(hb.box 0 rfl).cell
  have f1:W.frozen? ⟨w.heap.size,0,none⟩=_:=(hb.box 0 rfl).frozen
  have c2:W.cell? ⟨w.heap.size+1,0,none⟩=_:=(hb.box 1 rfl).cell
  have f2:W.frozen? ⟨w.heap.size+1,0,none⟩=_:=(hb.box 1 rfl).frozen
  have d0:W.cell? ⟨B,0,none⟩=some _:=blk_cell hx 0
  have d1:W.cell? ⟨B,1,none⟩=some _:=blk_cell hx 1
  have d2:W.cell? ⟨B,2,none⟩=some _:=blk_cell hx 2
  have d3:W.cell? ⟨B,3,none⟩=some _:=blk_cell hx 3
  have l2:=blk_lt hf
  have l1:w.heap.size+1<W.heap.size:=by omega
  have l0:w.heap.size<W.heap.size:=by omega
  have lB:=blk_lt hx
  have HB:=hide hB
  have Hb:=hide hb
  have Hf:=hide hf
  clear hB hb hx hf
  have hw2:=Grew.of_below HB.out
  have ko2:=hide (ko.out W hw2)
  clear ko hw2
  gi_wp2_with fail
  refine⟨trivial,?_⟩
  refine (CallsIn.inRound l (callsIn_wide.2 ko2.out)).mono ?_
  rintro e w' ⟨rfl,⟨n5,os5⟩,rfl⟩
  dsimp only
  cases o
  ·have HS2:=hide (HSTOP.out rfl)
   clear HNEXT HSTOP
   gi_wp2_with fail
   have hx1:Boxed W w.heap.size _ _:=Hb.out.box 0 rfl
   have hx2:Boxed W (w.heap.size+1) _ _:=Hb.out.box 1 rfl
   have hb2:=fun (u v:Value)=>(HB.out.setCell (p:=⟨w.heap.size,0,none⟩) (by simp) u).setCell (p:=⟨w.heap.size+1,0,none⟩) (by simp) v
   exact⟨(KeepsFrom.setCell _ _ _ _).trans ((KeepsFrom.setCell _ _ _ _).trans ((Grew.mk _ _ _).keepsFrom _)),⟨⟨(hb2 _ _).trans ((Grew.mk _ _ _).below.mono (hb2 _ _).size),bxd_grow ((hx1.set _).other (by simp) _) _ _⟩,bxd_grow ((hx2.other (by simp) _).set _) _ _⟩,rfl,HS2.out⟩
  ·have HN2:=hide (HNEXT.out rfl)
   clear HNEXT HSTOP
   gi_wp2_with fail
   have hgg:Grew W (grow (dr W n5) os5):=gw
   exact⟨hgg.keepsFrom _,KpM.grew hgg,⟨⟨HB.out.trans (hgg.below.mono HB.out.size),Hb.out.grew hgg⟩,(hgg.below.block _ l2).trans Hf.out⟩,HN2.out⟩
 case done =>
  subst ha
  rintro D xs W hD hS ⟨⟨⟨hB,hb⟩,hf⟩,hp⟩ hK
  have b1:Boxed W w.heap.size _ _:=hb.box 0 rfl
  have c1:=b1.cell
  have f1:=b1.frozen
  have b2:Boxed W (w.heap.size+1) _ _:=hb.box 1 rfl
  have c2:=b2.cell
  have f2:=b2.frozen
  obtain rfl:rr=true:=by
   rw[←HRR.out]
   refine List.all_eq_true.2 fun j hj=>?_
   have:j∈xs.map Fin.val:=by rw[hS];exact hj
   obtain⟨j',hj',rfl⟩:=List.mem_map.1 this
   exact hp j' hj'
  have HB:=hide hB
  clear hB hb hS hp b1 b2 hf
  gi_wp2_with fail
  have hK2:=(KeepsOthers.setCell (W.setCell ⟨w.heap.size,0,none⟩ (.bool true)) ⟨w.heap.size+1,0,none⟩ (.int .i64 0)).same D _ ((KeepsOthers.setCell W ⟨w.heap.size,0,none⟩ (.bool true)).same D _ hK rfl) rfl
  refine⟨by simp,.inl ⟨_,_,rfl,run_takeDeferred hK2,?_⟩⟩
  have hb5:=((HB.out.setCell (p:=⟨w.heap.size,0,none⟩) (by simp) (.bool true)).setCell (p:=⟨w.heap.size+1,0,none⟩) (by simp) (.int .i64 0)).trans (belowK_b (w:=w) (Nat.le_refl _) _ D _ (.deferred none) (by omega) hK2 rfl rfl)
  have e3:(((W.setCell ⟨w.heap.size,0,none⟩ (.bool true)).setCell ⟨w.heap.size+1,0,none⟩ (.int .i64 0)).putObj D (.deferred none)).cell? ⟨w.heap.size,0,none⟩=some (.bool true):=by
   rw[putObj_cell (by omega)]
   go_simp
  have e4:(((W.setCell ⟨w.heap.size,0,none⟩ (.bool true)).setCell ⟨w.heap.size+1,0,none⟩ (.int .i64 0)).putObj D (.deferred none)).cell? ⟨w.heap.size+1,0,none⟩=some (.int .i64 0):=by
   rw[putObj_cell (by omega)]
   go_simp
  refine⟨.tuple #[.bool true,.int .i64 0],by simp[results,Tryz.results242,go_sem,e3,e4],?_⟩
  exact Ret.mk' rfl (Grew.of_below hb5)
 case stop =>
  subst ha
  rintro D e pre W hD ⟨k,hk,hr⟩ ⟨⟨⟨hB,hb1⟩,hb2⟩,rfl,rfl⟩ hK
  have c1:=hb1.cell
  have c2:=hb2.cell
  have HB:=hide hB
  clear hB hb1 hb2 hr hk HRR
  gi_wp2_with fail
  refine⟨by simp,.inl ⟨_,_,rfl,run_takeDeferred hK,?_⟩⟩
  have hb5:=HB.out.trans (belowK_b (w:=w) (Nat.le_refl _) _ D _ (.deferred none) (by omega) hK rfl rfl)
  have e3:=(putObj_cell (W:=W) (D:=D) (i:=0) (o:=.deferred none) (b:=w.heap.size) (by omega)).trans c1
  have e4:=(putObj_cell (W:=W) (D:=D) (i:=0) (o:=.deferred none) (b:=w.heap.size+1) (by omega)).trans c2
  refine⟨.tuple #[.bool false,.int .i64 0],by simp[results,Tryz.results242,go_sem,e3,e4],?_⟩
  exact Ret.mk' rfl (Grew.of_below hb5)
theorem Holds_v (ps qs:List Pt)(A A':Option Addr)(c c':Nat)(d:Bool×Int)(w:World)(hr:Rd w w.heap.size 2 A (ps.map encD))(hr':Rd w w.heap.size 2 A' (qs.map encD))(hc:ps.length≤100000000000000)(hc':qs.length≤100000000000000)(h:pholdsOf ps qs=d) :
  Calls Tryz.prog 242 #[.slice A ps.length c,.slice A' qs.length c'] w (Ret w (.tuple #[.bool d.1,.int .i64 d.2])):=by
 subst h
 unfold pholdsOf
 cases h:PValid ps&&PValid qs
 ·exact PHolds_no ps qs A A' c c' w hr hr' hc hc' h
 ·simp only[Bool.and_eq_true] at h
  exact PHolds_yes ps qs A A' c c' w hr hr' h.1 h.2
end Go.Proofs.YtblgdlnmabkpoaaGreat

/- Package feature: lists; shapes; what covers and holds what. -/
set_option maxHeartbeats 1600000
set_option maxRecDepth 100000
namespace Go.Proofs.YtblgdlnmabkpoaaGreat
open Go.RowKit Go.Sort
attribute [local go_sem] Steady steadyUpon
attribute [local go_sem ↓] hs_dr lt_add_r lt_add_r2 lt_add_r3 lt_add_r4 lt_add_r5 lt_add_r6
attribute [local go_sem] cell?_gd frozen?_gd setCell_gd size_grow tape_grow cell?_grow' frozen?_grow' setCell_grow' grow_grow grow_dr grow_drew dr_dr dr_drew drew_dr dr_alloc dr_setCell dr_cell dr_frozen dr_tape dr_drawn
attribute [local irreducible] wpSteady
/-- The shape of a feature, as an interface value. -/
def FV.sh (f:FV):Value:=if f.kind=4 then .iface 118 (.agg #[.int .i64 f.x,.int .i64 f.y]) else if f.kind=3∨f.kind=6 then .iface 119 (.slice f.aA f.area.length f.ac) else .iface 121 (.agg #[.int .i64 f.x,.int .i64 f.y,.int .i64 f.rad])
theorem of_any (f:FV)(w:World):Calls Tryz.prog 64 #[f.val] w (Ret w f.sh):=by
 have hm:=hmix
 obtain⟨id,kind,x,y,rad,aA,ac,area,dep,sym,sA,sc,secs⟩:=f
 unfold FV.sh
 dsimp only
 have hk:kind=4∨kind=3∨kind=6∨(¬ kind=4∧¬ kind=3∧¬ kind=6):=by omega
 rcases hk with rfl|rfl|rfl|⟨h1,h2,h3⟩
 ·rw[if_pos rfl]
  go_enter Tryz.func64,Tryz.ntmps64
  go_wp2_with fail
  go_ret
  exact Ret.mk' rfl gw
 ·rw[if_neg (by omega),if_pos (by omega)]
  go_enter Tryz.func64,Tryz.ntmps64
  go_wp2_with fail
  go_ret
  exact Ret.mk' rfl gw
 ·rw[if_neg (by omega),if_pos (by omega)]
  go_enter Tryz.func64,Tryz.ntmps64
  go_wp2_with fail
  go_ret
  exact Ret.mk' rfl gw
 ·rw[if_neg h1,if_neg (by omega)]
  go_enter Tryz.func64,Tryz.ntmps64
  go_wp2_with fail
  go_ret
  exact Ret.mk' rfl gw
theorem Near_v (p a b:Pt)(d:Int)(r:Bool×Int)(w:World)(h:nearOf p a b d=r) :
  Calls Tryz.prog 101 #[pt p.1 p.2,pt a.1 a.2,pt b.1 b.2,.int .i64 d] w (Ret w (.tuple #[.bool r.1,.int .i64 r.2])):=by
 have:=Near_any p a b d w
 rwa [h] at this
/-- A disc has a place. -/
def coverD (x y r:Int)(p:Pt):Bool:=(nearOf p (x,y) (x,y) r).2==0&&(nearOf p (x,y) (x,y) r).1
def coverA (ps:List Pt)(p:Pt):Bool:=(inOf ps p).2==0&&decide (0≤(inOf ps p).1)
theorem discCovers_v (x y r:Int)(p:Pt)(o:Bool)(w:World)(h:coverD x y r p=o) :
  Calls Tryz.prog 252 #[.agg #[.int .i64 x,.int .i64 y,.int .i64 r],pt p.1 p.2] w (Ret w (.bool o)):=by
 have hm:=hmix
 unfold coverD at h
 obtain⟨⟨n,e⟩,hn⟩:∃u,nearOf p (x,y) (x,y) r=u:=⟨_,rfl⟩
 have k1:=hide (fun W=>Near_v p (x,y) (x,y) r (n,e) W hn)
 rw[hn] at h
 dsimp only at h k1
 clear hn
 obtain⟨p1,p2⟩:=p
 by_cases he:e=0
 ·subst he
  simp at h
  subst h
  go_enter Tryz.func252,Tryz.ntmps252
  go_wp2_with (go_at_call 101;with_reducible refine crv (k1.out _) fun _ _=>?_;dsimp only)
  go_ret
  exact Ret.mk' rfl gw
 ·have he2:(e==0)=false:=by simpa using he
  rw[he2] at h
  subst h
  go_enter Tryz.func252,Tryz.ntmps252
  go_wp2_with (go_at_call 101;with_reducible refine crv (k1.out _) fun _ _=>?_;dsimp only)
  go_ret
  exact Ret.mk' rfl gw
theorem areaCovers_v (ps:List Pt)(A:Option Addr)(c:Nat)(p:Pt)(o:Bool)(w:World)(hr:Rd w w.heap.size 2 A (ps.map encD))(hc:ps.length≤100000000000000)(h:coverA ps p=o) :
  Calls Tryz.prog 237 #[.slice A ps.length c,pt p.1 p.2] w (Ret w (.bool o)):=by
 have hm:=hmix
 unfold coverA at h
 obtain⟨⟨n,e⟩,hn⟩:∃u,inOf ps p=u:=⟨_,rfl⟩
 have k1:=hide (fun W (hg:Grew w W)=>In_v ps A c p (n,e) W (hr.up hg) hc hn)
 rw[hn] at h
 dsimp only at h k1
 clear hn hr
 obtain⟨p1,p2⟩:=p
 have hcase:(e=0∧0≤n)∨(e=0∧¬ 0≤n)∨e≠0:=by omega
 rcases hcase with⟨rfl,h1⟩|⟨rfl,h1⟩|h1
 all_goals
  first|(simp[h1] at h;subst h)|(rw[show (e==0)=false by simpa using h1,Bool.false_and] at h;subst h)
  go_enter Tryz.func237,Tryz.ntmps237
  go_wp2_with (go_at_call 240;with_reducible refine crv (k1.out _ gw) fun _ _=>?_;dsimp only)
  go_ret
  first|exact Ret.mk' rfl gw|exact Ret.mk' (by simp[h1]) gw
theorem lightCovers_v (x y:Int)(p:Pt)(w:World) :
  Calls Tryz.prog 233 #[.agg #[.int .i64 x,.int .i64 y],pt p.1 p.2] w (Ret w (.bool false)):=by
 go_enter Tryz.func233,Tryz.ntmps233
 go_wp2_with fail
 go_ret
 exact Ret.mk' rfl gw
/-- A disc in a disc. -/
def liesB (p:Pt)(r:Int)(q:Pt)(s:Int):Bool:=decide (r≤s)&&decide (dt p q q≤(s-r)*(s-r))
def liesOf (p:Pt)(r:Int)(q:Pt)(s:Int):Bool×Int:=if (p.ok&&(q.ok&&(distB r&&distB s)))=true then (liesB p r q s,0) else (false,1)
theorem Lies_v (p:Pt)(r:Int)(q:Pt)(s:Int)(o:Bool×Int)(w:World)(h:liesOf p r q s=o) :
  Calls Tryz.prog 102 #[pt p.1 p.2,.int .i64 r,pt q.1 q.2,.int .i64 s] w (Ret w (.tuple #[.bool o.1,.int .i64 o.2])):=by
 have hm:=hmix
 obtain⟨v,hv⟩:∃v,[p,q].all Pt.ok=v:=⟨_,rfl⟩
 obtain⟨u,hu⟩:∃u,distB r=u:=⟨_,rfl⟩
 obtain⟨u2,hu2⟩:∃u,distB s=u:=⟨_,rfl⟩
 have k1:=hide (fun W=>distance_v r u W hu)
 have k2:=hide (fun W=>distance_v s u2 W hu2)
 have HV:=hide hv
 have e:liesOf p r q s=if (v&&(u&&u2))=true then (liesB p r q s,0) else (false,1):=by
  unfold liesOf
  rw[hu,hu2,←hv]
  simp only[List.all_cons,List.all_nil,Bool.and_true,Bool.and_assoc]
 rw[e] at h
 clear e
 have hcase:v=false∨(v=true∧u=false)∨(v=true∧u=true∧u2=false)∨(v=true∧u=true∧u2=true):=by
  cases v<;>cases u<;>cases u2<;>simp
 rcases hcase with rfl|⟨rfl,rfl⟩|⟨rfl,rfl,rfl⟩|⟨rfl,rfl,rfl⟩
 ·rw[if_neg (by simp)] at h
  subst h
  obtain⟨a1,a2⟩:=p
  obtain⟨b1,b2⟩:=q
  clear hv hu hu2
  go_enter Tryz.func102,Tryz.ntmps102
  go_wp2_with fail
  refine (valids_v _ _ _ _ false _ (Rd.blkP _ (heap_alloc_at _ _ _ (by simp[hs_dr])) rfl) rfl (by simp) HV.out).mono ?_
  rintro e w' ⟨rfl,⟨_,_⟩,rfl⟩
  dsimp only
  go_wp2_with fail
  go_ret2
  exact Ret.mk' rfl gw
 ·rw[if_neg (by simp)] at h
  subst h
  obtain⟨a1,a2⟩:=p
  obtain⟨b1,b2⟩:=q
  clear hv hu hu2
  go_enter Tryz.func102,Tryz.ntmps102
  go_wp2_with fail
  refine (valids_v _ _ _ _ true _ (Rd.blkP _ (heap_alloc_at _ _ _ (by simp[hs_dr])) rfl) rfl (by simp) HV.out).mono ?_
  rintro e w' ⟨rfl,⟨_,_⟩,rfl⟩
  dsimp only
  go_wp2_with (go_at_call 145;with_reducible refine crv (k1.out _) fun _ _=>?_;dsimp only)
  go_ret2
  exact Ret.mk' rfl gw
 ·rw[if_neg (by simp)] at h
  subst h
  obtain⟨a1,a2⟩:=p
  obtain⟨b1,b2⟩:=q
  clear hv hu hu2
  go_enter Tryz.func102,Tryz.ntmps102
  go_wp2_with fail
  refine (valids_v _ _ _ _ true _ (Rd.blkP _ (heap_alloc_at _ _ _ (by simp[hs_dr])) rfl) rfl (by simp) HV.out).mono ?_
  rintro e w' ⟨rfl,⟨_,_⟩,rfl⟩
  dsimp only
  go_wp2_with (first|(go_at_call 145;with_reducible refine crv (k1.out _) fun _ _=>?_;dsimp only)|(go_at_call 145;with_reducible refine crv (k2.out _) fun _ _=>?_;dsimp only))
  go_ret2
  exact Ret.mk' rfl gw
 ·rw[if_pos (by rfl)] at h
  subst h
  simp only[List.all_cons,List.all_nil,Bool.and_true,Bool.and_eq_true] at hv
  have k3:=hide (fun W=>from_v p q W hv.1 hv.2)
  have p':=ok_bd hv.1
  have q':=ok_bd hv.2
  have k4:Hid (∀W,Calls Tryz.prog 148 #[pt (q.1-p.1) (q.2-p.2),pt (q.1-p.1) (q.2-p.2)] W (Ret W (.int .i64 (dt p q q)))):=hide (fun W=>vdot_any _ _ _ _ W (by omega) (by omega) (by omega) (by omega))
  have b1:=dist_bd hu
  have b2:=dist_bd hu2
  unfold liesB
  generalize dt p q q=D at *
  obtain⟨a1,a2⟩:=p
  obtain⟨c1,c2⟩:=q
  dsimp only at *
  obtain⟨v1,hv1⟩:∃z,c1-a1=z:=⟨_,rfl⟩
  obtain⟨v2,hv2⟩:∃z,c2-a2=z:=⟨_,rfl⟩
  rw[hv1,hv2] at k3 k4
  clear hv hu hu2 hv1 hv2 p' q'
  by_cases hrs:r≤s
  ·have hb:=sq_bd (d:=s-r) (by omega)
   rw[decide_eq_true hrs,Bool.true_and]
   go_enter Tryz.func102,Tryz.ntmps102
   go_wp2_with fail
   refine (valids_v _ _ _ _ true _ (Rd.blkP _ (heap_alloc_at _ _ _ (by simp[hs_dr])) rfl) rfl (by simp) HV.out).mono ?_
   rintro e w' ⟨rfl,⟨_,_⟩,rfl⟩
   dsimp only
   go_wp2_with (first|(go_at_call 145;with_reducible refine crv (k1.out _) fun _ _=>?_;dsimp only)|(go_at_call 145;with_reducible refine crv (k2.out _) fun _ _=>?_;dsimp only)|(go_at_call 147;with_reducible refine crv (k3.out _) fun _ _=>?_;dsimp only)|(go_at_call 148;with_reducible refine crv (k4.out _) fun _ _=>?_;dsimp only))
   go_ret2
   exact Ret.mk' rfl gw
  ·rw[decide_eq_false hrs,Bool.false_and]
   go_enter Tryz.func102,Tryz.ntmps102
   go_wp2_with fail
   refine (valids_v _ _ _ _ true _ (Rd.blkP _ (heap_alloc_at _ _ _ (by simp[hs_dr])) rfl) rfl (by simp) HV.out).mono ?_
   rintro e w' ⟨rfl,⟨_,_⟩,rfl⟩
   dsimp only
   go_wp2_with (first|(go_at_call 145;with_reducible refine crv (k1.out _) fun _ _=>?_;dsimp only)|(go_at_call 145;with_reducible refine crv (k2.out _) fun _ _=>?_;dsimp only)|(go_at_call 147;with_reducible refine crv (k3.out _) fun _ _=>?_;dsimp only)|(go_at_call 148;with_reducible refine crv (k4.out _) fun _ _=>?_;dsimp only))
   go_ret2
   exact Ret.mk' rfl gw
/-- What a shape holds. -/
def discHoldsD (x y r:Int)(p:Pt)(s:Int):Bool:=(liesOf p s (x,y) r).2==0&&(liesOf p s (x,y) r).1
def areaHoldsD (ps:List Pt)(p:Pt)(s:Int):Bool:=(discOf ps p s).2==0&&(discOf ps p s).1==1
def areaHoldsA (ps qs:List Pt):Bool:=(pholdsOf ps qs).2==0&&(pholdsOf ps qs).1
def discHoldsA (x y r:Int)(ps:List Pt):Bool:=ps.all (coverD x y r)
theorem ta_dd (v:Value)(w:World):(Instr.typeAssert (.iface 121 v) 94 121 true).run Tryz.prog w=.ok (.tuple #[v,.bool true]) w:=by kernel_rfl
theorem ta_ad (v:Value)(w:World):(Instr.typeAssert (.iface 119 v) 94 121 true).run Tryz.prog w=.ok (.tuple #[.agg #[.int .i64 0,.int .i64 0,.int .i64 0],.bool false]) w:=by kernel_rfl
theorem ta_ld (v:Value)(w:World):(Instr.typeAssert (.iface 118 v) 94 121 true).run Tryz.prog w=.ok (.tuple #[.agg #[.int .i64 0,.int .i64 0,.int .i64 0],.bool false]) w:=by kernel_rfl
theorem ta_aa (v:Value)(w:World):(Instr.typeAssert (.iface 119 v) 94 119 true).run Tryz.prog w=.ok (.tuple #[v,.bool true]) w:=by kernel_rfl
theorem ta_la (v:Value)(w:World):(Instr.typeAssert (.iface 118 v) 94 119 true).run Tryz.prog w=.ok (.tuple #[.slice none 0 0,.bool false]) w:=by kernel_rfl
theorem ta_ll (v:Value)(w:World):(Instr.typeAssert (.iface 118 v) 94 118 true).run Tryz.prog w=.ok (.tuple #[v,.bool true]) w:=by kernel_rfl
theorem ta_dl (v:Value)(w:World):(Instr.typeAssert (.iface 121 v) 94 118 true).run Tryz.prog w=.ok (.tuple #[.agg #[.int .i64 0,.int .i64 0],.bool false]) w:=by kernel_rfl
theorem ta_al (v:Value)(w:World):(Instr.typeAssert (.iface 119 v) 94 118 true).run Tryz.prog w=.ok (.tuple #[.agg #[.int .i64 0,.int .i64 0],.bool false]) w:=by kernel_rfl
attribute [local go_sem] ta_dd ta_ad ta_ld ta_aa ta_la ta_ll ta_dl ta_al
theorem discHoldsD_v (x y r:Int)(p:Pt)(s:Int)(o:Bool)(w:World)(h:discHoldsD x y r p s=o) :
  Calls Tryz.prog 253 #[.agg #[.int .i64 x,.int .i64 y,.int .i64 r],.iface 121 (.agg #[.int .i64 p.1,.int .i64 p.2,.int .i64 s])] w (Ret w (.bool o)):=by
 have hm:=hmix
 unfold discHoldsD at h
 obtain⟨⟨n,e⟩,hn⟩:∃u,liesOf p s (x,y) r=u:=⟨_,rfl⟩
 have k1:=hide (fun W=>Lies_v p s (x,y) r (n,e) W hn)
 rw[hn] at h
 dsimp only at h k1
 clear hn
 obtain⟨p1,p2⟩:=p
 dsimp only at k1 ⊢
 have hcase:e=0∨(e==0)=false:=by by_cases h:e=0<;>simp[h]
 rcases hcase with rfl|h1
 ·simp at h
  subst h
  go_enter Tryz.func253,Tryz.ntmps253
  go_wp2_with (go_at_call 102;with_reducible refine crv (k1.out _) fun _ _=>?_;dsimp only)
  go_ret
  exact Ret.mk' rfl gw
 ·rw[h1] at h
  subst h
  go_enter Tryz.func253,Tryz.ntmps253
  go_wp2_with (go_at_call 102;with_reducible refine crv (k1.out _) fun _ _=>?_;dsimp only)
  go_ret
  exact Ret.mk' rfl gw
theorem areaHoldsD_v (ps:List Pt)(A:Option Addr)(c:Nat)(p:Pt)(s:Int)(o:Bool)(w:World)(hr:Rd w w.heap.size 2 A (ps.map encD))(hc:ps.length≤100000000000000)(h:areaHoldsD ps p s=o) :
  Calls Tryz.prog 238 #[.slice A ps.length c,.iface 121 (.agg #[.int .i64 p.1,.int .i64 p.2,.int .i64 s])] w (Ret w (.bool o)):=by
 have hm:=hmix
 unfold areaHoldsD at h
 obtain⟨⟨n,e⟩,hn⟩:∃u,discOf ps p s=u:=⟨_,rfl⟩
 have k1:=hide (fun W (hg:Grew w W)=>Disc_v ps A c p s (n,e) W (hr.up hg) hc hn)
 rw[hn] at h
 dsimp only at h k1
 clear hn hr
 obtain⟨p1,p2⟩:=p
 dsimp only at k1 ⊢
 have hcase:(e=0∧n=1)∨(e=0∧(n==1)=false)∨(e==0)=false:=by by_cases h:e=0<;>by_cases h2:n=1<;>simp[h,h2]
 rcases hcase with⟨rfl,rfl⟩|⟨rfl,h1⟩|h1
 ·simp at h
  subst h
  go_enter Tryz.func238,Tryz.ntmps238
  go_wp2_with (go_at_call 241;with_reducible refine crv (k1.out _ gw) fun _ _=>?_;dsimp only)
  go_ret
  exact Ret.mk' rfl gw
 all_goals
  rw[h1] at h
  simp at h
  subst h
  go_enter Tryz.func238,Tryz.ntmps238
  go_wp2_with (go_at_call 241;with_reducible refine crv (k1.out _ gw) fun _ _=>?_;dsimp only)
  go_ret
  exact Ret.mk' (by simp[h1]) gw
theorem areaHoldsA_v (ps:List Pt)(A:Option Addr)(c:Nat)(qs:List Pt)(A':Option Addr)(c':Nat)(o:Bool)(w:World)(hr:Rd w w.heap.size 2 A (ps.map encD))(hc:ps.length≤100000000000000)(hr':Rd w w.heap.size 2 A' (qs.map encD))(hc':qs.length≤100000000000000)(h:areaHoldsA ps qs=o) :
  Calls Tryz.prog 238 #[.slice A ps.length c,.iface 119 (.slice A' qs.length c')] w (Ret w (.bool o)):=by
 have hm:=hmix
 unfold areaHoldsA at h
 obtain⟨⟨n,e⟩,hn⟩:∃u,pholdsOf ps qs=u:=⟨_,rfl⟩
 have k1:=hide (fun W (hg:Grew w W)=>Holds_v ps qs A A' c c' (n,e) W (hr.up hg) (hr'.up hg) hc hc' hn)
 rw[hn] at h
 dsimp only at h k1
 clear hn hr hr'
 have hcase:e=0∨(e==0)=false:=by by_cases h:e=0<;>simp[h]
 rcases hcase with rfl|h1
 ·simp at h
  subst h
  go_enter Tryz.func238,Tryz.ntmps238
  go_wp2_with (go_at_call 242;with_reducible refine crv (k1.out _ gw) fun _ _=>?_;dsimp only)
  go_ret
  exact Ret.mk' rfl gw
 ·rw[h1] at h
  simp at h
  subst h
  go_enter Tryz.func238,Tryz.ntmps238
  go_wp2_with (go_at_call 242;with_reducible refine crv (k1.out _ gw) fun _ _=>?_;dsimp only)
  go_ret
  exact Ret.mk' (by simp[h1]) gw
theorem lightHoldsD_v (x y:Int)(v:Value)(w:World) :
  Calls Tryz.prog 234 #[.agg #[.int .i64 x,.int .i64 y],.iface 121 v] w (Ret w (.bool false)):=by
 have hm:=hmix
 go_enter Tryz.func234,Tryz.ntmps234
 go_wp2_with fail
 go_ret
 exact Ret.mk' rfl gw
theorem lightHoldsA_v (x y:Int)(v:Value)(w:World) :
  Calls Tryz.prog 234 #[.agg #[.int .i64 x,.int .i64 y],.iface 119 v] w (Ret w (.bool false)):=by
 have hm:=hmix
 go_enter Tryz.func234,Tryz.ntmps234
 go_wp2_with fail
 go_ret
 exact Ret.mk' rfl gw
/-- The function that is handed to ContainsFunc: whether a disc lacks a place. -/
theorem disc1_v (x y r:Int)(B:Nat)(p:Pt)(o:Bool)(w:World)(hB:w.heap[B]?=some (.cells #[.int .i64 x,.int .i64 y,.int .i64 r] 121 (0,0)))(h:coverD x y r p = !o) :
  Calls Tryz.prog 256 #[pt p.1 p.2,.pointer (some ⟨B,0,none⟩)] w (Ret w (.bool o)):=by
 have k1:=hide (fun W=>discCovers_v x y r p (!o) W h)
 have c0:=blk_cell hB 0
 have c1:=blk_cell hB 1
 have c2:=blk_cell hB 2
 have lB:=blk_lt hB
 obtain⟨p1,p2⟩:=p
 clear h hB
 cases o
 all_goals
  go_enter Tryz.func256,Tryz.ntmps256
  go_wp2_with (go_at_call 252;with_reducible refine crv (k1.out _) fun _ _=>?_;dsimp only)
  go_ret
  exact Ret.mk' (by rfl) gw
theorem discIdx_v (x y r:Int)(B:Nat)(ps:List Pt)(A:Option Addr)(c:Nat)(o:Bool)(w:World)(hB:w.heap[B]?=some (.cells #[.int .i64 x,.int .i64 y,.int .i64 r] 121 (0,0)))(hr:Rd w w.heap.size 2 A (ps.map encD))(hc:ps.length≤100000000000000)(h:ps.all (coverD x y r)=o) :
  Calls Tryz.prog 257 #[.slice A ps.length c,.func (.func 256) #[] #[.pointer (some ⟨B,0,none⟩)]] w fun e w'=>IdxP ps.length o e∧Grew w w':=by
 have hm:=hmix
 have HR:=hide h
 have HB:=hide hB
 clear h
 go_enter Tryz.func257,Tryz.ntmps257
 go_wp2_with fail
 go_loopw [8] (fun i wr=>∃k:Nat,k≤ps.length∧i=.int .i64 k∧Grew w wr∧AppG ((ps.take k).all (coverD x y r)=true)) (fun i _=>ps.length-(intOf i).toNat)
 case atStart=>exact⟨0,by omega,rfl,gw,rfl⟩
 case round =>
  obtain⟨k,hk,rfl,hg,hall⟩:=hrel
  have HG:=hide hg
  have HA:=hide hall.stop
  clear hg hall
  by_cases hlt:k<ps.length
  ·obtain⟨p,hp⟩:∃p,ps[k]?=some p:=⟨_,List.getElem?_eq_getElem hlt⟩
   obtain⟨b,off,hA,hb,h0,h1⟩:=ptAt (hr.up HG.out) hp
   have hix:=idx_run (cap:=c) Tryz.underlying119 Tryz.sizeOf26 hA.out hlt
   have hs:=all_take_succ (coverD x y r) hp
   rw[HA.out,Bool.true_and] at hs
   have HP:=hide hp
   have HS:=hide hs
   obtain⟨u,hu⟩:∃u,coverD x y r p = !u:=⟨!coverD x y r p,by simp⟩
   have k1:=hide (fun W (hg:Grew wr W)=>disc1_v x y r B p u W (((HG.out.trans hg).heap (blk_lt HB.out)).trans HB.out) hu)
   have HO:=hide hu
   clear hp hs hu hA
   obtain⟨p1,p2⟩:=p
   dsimp only at h0 h1
   cases u
   ·go_wp2_with (go_at_call 256;with_reducible refine crv (k1.out _ gw) fun _ _=>?_;dsimp only)
    go_roundw
    case rel=>exact⟨k+1,by omega,by go_num,HG.out.trans gw,by rw[HS.out];exact HO.out⟩
    case measure=>simp[intOf];omega
   ·go_wp2_with (go_at_call 256;with_reducible refine crv (k1.out _ gw) fun _ _=>?_;dsimp only)
    go_ret
    have e:ps.all (coverD x y r)=false:=all_false_at HP.out HO.out
    obtain rfl:o=false:=by rw[←HR.out,e]
    exact⟨.inr ⟨k,by omega,rfl,rfl⟩,HG.out.trans gw⟩
  ·obtain rfl:k=ps.length:=by omega
   rw[List.take_length] at HA
   obtain rfl:o=true:=by rw[←HR.out,HA.out]
   go_wp2_with fail
   go_ret
   exact⟨.inl ⟨rfl,rfl⟩,HG.out⟩
theorem discCon_v (x y r:Int)(B:Nat)(ps:List Pt)(A:Option Addr)(c:Nat)(o:Bool)(w:World)(hB:w.heap[B]?=some (.cells #[.int .i64 x,.int .i64 y,.int .i64 r] 121 (0,0)))(hr:Rd w w.heap.size 2 A (ps.map encD))(hc:ps.length≤100000000000000)(h:ps.all (coverD x y r) = !o) :
  Calls Tryz.prog 255 #[.slice A ps.length c,.func (.func 256) #[] #[.pointer (some ⟨B,0,none⟩)]] w (Ret w (.bool o)):=by
 have hm:=hmix
 have k1:=hide (fun W (hg:Grew w W)=>discIdx_v x y r B ps A c (!o) W ((hg.heap (blk_lt hB)).trans hB) (hr.up hg) hc h)
 clear h hr hB
 go_enter Tryz.func255,Tryz.ntmps255
 go_wp2_with fail
 refine (k1.out _ gw).mono ?_
 rintro e w' ⟨h,⟨⟨n1,os1⟩,rfl⟩⟩
 rcases h with⟨rfl,hr2⟩|⟨k,hk,rfl,hr2⟩
 ·obtain rfl:o=false:=by simpa using hr2
  dsimp only
  go_wp2_with fail
  go_ret
  exact Ret.mk' rfl gw
 ·obtain rfl:o=true:=by simpa using hr2
  dsimp only
  have hk0:0≤(k:Int):=by omega
  go_wp2_with fail
  go_ret
  exact Ret.mk' (by simp) gw
theorem discHoldsA_v (x y r:Int)(ps:List Pt)(A:Option Addr)(c:Nat)(o:Bool)(w:World)(hr:Rd w w.heap.size 2 A (ps.map encD))(hc:ps.length≤100000000000000)(h:discHoldsA x y r ps=o) :
  Calls Tryz.prog 253 #[.agg #[.int .i64 x,.int .i64 y,.int .i64 r],.iface 119 (.slice A ps.length c)] w (Ret w (.bool o)):=by
 have hm:=hmix
 have k1:=hide (fun W (hg:Grew w W) hB=>discCon_v x y r w.heap.size ps A c (!o) W hB (hr.up hg) hc (by rw[Bool.not_not];exact h))
 clear h hr
 cases o
 all_goals
  go_enter Tryz.func253,Tryz.ntmps253
  go_wp2_with fail
  refine (k1.out _ gw (heap_alloc_new _ _)).mono ?_
  rintro e w' ⟨rfl,⟨_,_⟩,rfl⟩
  dsimp only
  go_wp2_with fail
  go_ret
  exact Ret.mk' (by rfl) gw
set_option maxHeartbeats 4000000
set_option maxRecDepth 100000
theorem mh_disc (v : Value) (w : World) : (method 354 121 v "seamark/feature.holds").run Tryz.prog w = .ok (253, v) w := by kernel_rfl
theorem nh_disc (v : Value) (w : World) : (nilAhead 354 121 v "seamark/feature.holds").run Tryz.prog w = .ok (some false) w := by kernel_rfl
theorem mc_disc (v : Value) (w : World) : (method 354 121 v "seamark/feature.covers").run Tryz.prog w = .ok (252, v) w := by kernel_rfl
theorem nc_disc (v : Value) (w : World) : (nilAhead 354 121 v "seamark/feature.covers").run Tryz.prog w = .ok (some false) w := by kernel_rfl
theorem mh_area (v : Value) (w : World) : (method 354 119 v "seamark/feature.holds").run Tryz.prog w = .ok (238, v) w := by kernel_rfl
theorem nh_area (v : Value) (w : World) : (nilAhead 354 119 v "seamark/feature.holds").run Tryz.prog w = .ok (some false) w := by kernel_rfl
theorem mc_area (v : Value) (w : World) : (method 354 119 v "seamark/feature.covers").run Tryz.prog w = .ok (237, v) w := by kernel_rfl
theorem nc_area (v : Value) (w : World) : (nilAhead 354 119 v "seamark/feature.covers").run Tryz.prog w = .ok (some false) w := by kernel_rfl
theorem mh_light (v : Value) (w : World) : (method 354 118 v "seamark/feature.holds").run Tryz.prog w = .ok (234, v) w := by kernel_rfl
theorem nh_light (v : Value) (w : World) : (nilAhead 354 118 v "seamark/feature.holds").run Tryz.prog w = .ok (some false) w := by kernel_rfl
theorem mc_light (v : Value) (w : World) : (method 354 118 v "seamark/feature.covers").run Tryz.prog w = .ok (233, v) w := by kernel_rfl
theorem nc_light (v : Value) (w : World) : (nilAhead 354 118 v "seamark/feature.covers").run Tryz.prog w = .ok (some false) w := by kernel_rfl
attribute [local go_sem] mh_disc nh_disc mc_disc nc_disc mh_area nh_area mc_area nc_area mh_light nh_light mc_light nc_light
theorem stands_disc (f g:FV)(F:Value)(o:Bool)(w:World)(hf:f.rd w w.heap.size)(hg:g.rd w w.heap.size)(vf:FValid f=true)(vg:FValid g=true)(hk:f.kind≠4)
  (kf:Hid (∀W,Calls Tryz.prog 64 #[f.val] W (Ret W F))) (kg:Hid (∀W,Calls Tryz.prog 64 #[g.val] W (Ret W (.iface 121 (.agg #[.int .i64 g.x,.int .i64 g.y,.int .i64 g.rad])))))
  (kh:Hid (∀W,Grew w W→Calls Tryz.prog 253 #[.agg #[.int .i64 g.x,.int .i64 g.y,.int .i64 g.rad],F] W (Ret W (.bool o)))) :
  Calls Tryz.prog 59 #[f.val,g.val] w (Ret w (.tuple #[.bool (decide (g.dep≤f.dep)&&o),.int .i64 0])):=by
 have hm:=hmix
 have k1:=hide (fun W (h:Grew w W)=>FValid_v f true W (hf.up h) vf)
 have k2:=hide (fun W (h:Grew w W)=>FValid_v g true W (hg.up h) vg)
 clear hf hg vf vg
 by_cases hd:g.dep≤f.dep
 ·rw[decide_eq_true hd,Bool.true_and]
  go_enter Tryz.func59,Tryz.ntmps59
  go_wp2_with (first|(go_at_call 63;with_reducible refine crv (k1.out _ gw) fun _ _=>?_;dsimp only)|(go_at_call 63;with_reducible refine crv (k2.out _ gw) fun _ _=>?_;dsimp only))
  refine wp_region_qas 17 [] [] hm (h:=?_)
  repeat (refine wpSteady_step (fun K hK=>?_);go_simp;first|(refine hK _ ?_;clear hK K)|(apply Exists.intro;refine⟨fun _=>?_,hK _ ?_⟩;(first|(go_at_call 64;first|with_reducible exact kf.out _|with_reducible exact kg.out _)|(go_at_call 253;with_reducible exact kh.out _ gw));clear hK K))
  refine rq0 fun nq osq=>?_
  try simp only[Act.put,setA]
  try dsimp only
  go_wp2_with fail
  go_ret2
  exact Ret.mk' rfl gw
 ·have hd2:decide (g.dep≤f.dep)=false:=decide_eq_false hd
  rw[hd2,Bool.false_and]
  go_enter Tryz.func59,Tryz.ntmps59
  go_wp2_with (first|(go_at_call 63;with_reducible refine crv (k1.out _ gw) fun _ _=>?_;dsimp only)|(go_at_call 63;with_reducible refine crv (k2.out _ gw) fun _ _=>?_;dsimp only))
  refine wp_region_qas 17 [] [] hm (h:=?_)
  repeat (refine wpSteady_step (fun K hK=>?_);go_simp;first|(refine hK _ ?_;clear hK K)|(apply Exists.intro;refine⟨fun _=>?_,hK _ ?_⟩;(first|(go_at_call 64;first|with_reducible exact kf.out _|with_reducible exact kg.out _)|(go_at_call 253;with_reducible exact kh.out _ gw));clear hK K))
  refine rq0 fun nq osq=>?_
  try simp only[Act.put,setA]
  try dsimp only
  go_wp2_with fail
  go_ret2
  exact Ret.mk' rfl gw
theorem stands_area (f g:FV)(F:Value)(o:Bool)(w:World)(hf:f.rd w w.heap.size)(hg:g.rd w w.heap.size)(vf:FValid f=true)(vg:FValid g=true)(hk:f.kind≠4)
  (kf:Hid (∀W,Calls Tryz.prog 64 #[f.val] W (Ret W F))) (kg:Hid (∀W,Calls Tryz.prog 64 #[g.val] W (Ret W (.iface 119 (.slice g.aA g.area.length g.ac)))))
  (kh:Hid (∀W,Grew w W→Calls Tryz.prog 238 #[.slice g.aA g.area.length g.ac,F] W (Ret W (.bool o)))) :
  Calls Tryz.prog 59 #[f.val,g.val] w (Ret w (.tuple #[.bool (decide (g.dep≤f.dep)&&o),.int .i64 0])):=by
 have hm:=hmix
 have k1:=hide (fun W (h:Grew w W)=>FValid_v f true W (hf.up h) vf)
 have k2:=hide (fun W (h:Grew w W)=>FValid_v g true W (hg.up h) vg)
 clear hf hg vf vg
 by_cases hd:g.dep≤f.dep
 ·rw[decide_eq_true hd,Bool.true_and]
  go_enter Tryz.func59,Tryz.ntmps59
  go_wp2_with (first|(go_at_call 63;with_reducible refine crv (k1.out _ gw) fun _ _=>?_;dsimp only)|(go_at_call 63;with_reducible refine crv (k2.out _ gw) fun _ _=>?_;dsimp only))
  refine wp_region_qas 17 [] [] hm (h:=?_)
  repeat (refine wpSteady_step (fun K hK=>?_);go_simp;first|(refine hK _ ?_;clear hK K)|(apply Exists.intro;refine⟨fun _=>?_,hK _ ?_⟩;(first|(go_at_call 64;first|with_reducible exact kf.out _|with_reducible exact kg.out _)|(go_at_call 238;with_reducible exact kh.out _ gw));clear hK K))
  refine rq0 fun nq osq=>?_
  try simp only[Act.put,setA]
  try dsimp only
  go_wp2_with fail
  go_ret2
  exact Ret.mk' rfl gw
 ·have hd2:decide (g.dep≤f.dep)=false:=decide_eq_false hd
  rw[hd2,Bool.false_and]
  go_enter Tryz.func59,Tryz.ntmps59
  go_wp2_with (first|(go_at_call 63;with_reducible refine crv (k1.out _ gw) fun _ _=>?_;dsimp only)|(go_at_call 63;with_reducible refine crv (k2.out _ gw) fun _ _=>?_;dsimp only))
  refine wp_region_qas 17 [] [] hm (h:=?_)
  repeat (refine wpSteady_step (fun K hK=>?_);go_simp;first|(refine hK _ ?_;clear hK K)|(apply Exists.intro;refine⟨fun _=>?_,hK _ ?_⟩;(first|(go_at_call 64;first|with_reducible exact kf.out _|with_reducible exact kg.out _)|(go_at_call 238;with_reducible exact kh.out _ gw));clear hK K))
  refine rq0 fun nq osq=>?_
  try simp only[Act.put,setA]
  try dsimp only
  go_wp2_with fail
  go_ret2
  exact Ret.mk' rfl gw
theorem stands_light (f g:FV)(F:Value)(o:Bool)(w:World)(hf:f.rd w w.heap.size)(hg:g.rd w w.heap.size)(vf:FValid f=true)(vg:FValid g=true)(hk:f.kind≠4)
  (kf:Hid (∀W,Calls Tryz.prog 64 #[f.val] W (Ret W F))) (kg:Hid (∀W,Calls Tryz.prog 64 #[g.val] W (Ret W (.iface 118 (.agg #[.int .i64 g.x,.int .i64 g.y])))))
  (kh:Hid (∀W,Grew w W→Calls Tryz.prog 234 #[.agg #[.int .i64 g.x,.int .i64 g.y],F] W (Ret W (.bool o)))) :
  Calls Tryz.prog 59 #[f.val,g.val] w (Ret w (.tuple #[.bool (decide (g.dep≤f.dep)&&o),.int .i64 0])):=by
 have hm:=hmix
 have k1:=hide (fun W (h:Grew w W)=>FValid_v f true W (hf.up h) vf)
 have k2:=hide (fun W (h:Grew w W)=>FValid_v g true W (hg.up h) vg)
 clear hf hg vf vg
 by_cases hd:g.dep≤f.dep
 ·rw[decide_eq_true hd,Bool.true_and]
  go_enter Tryz.func59,Tryz.ntmps59
  go_wp2_with (first|(go_at_call 63;with_reducible refine crv (k1.out _ gw) fun _ _=>?_;dsimp only)|(go_at_call 63;with_reducible refine crv (k2.out _ gw) fun _ _=>?_;dsimp only))
  refine wp_region_qas 17 [] [] hm (h:=?_)
  repeat (refine wpSteady_step (fun K hK=>?_);go_simp;first|(refine hK _ ?_;clear hK K)|(apply Exists.intro;refine⟨fun _=>?_,hK _ ?_⟩;(first|(go_at_call 64;first|with_reducible exact kf.out _|with_reducible exact kg.out _)|(go_at_call 234;with_reducible exact kh.out _ gw));clear hK K))
  refine rq0 fun nq osq=>?_
  try simp only[Act.put,setA]
  try dsimp only
  go_wp2_with fail
  go_ret2
  exact Ret.mk' rfl gw
 ·have hd2:decide (g.dep≤f.dep)=false:=decide_eq_false hd
  rw[hd2,Bool.false_and]
  go_enter Tryz.func59,Tryz.ntmps59
  go_wp2_with (first|(go_at_call 63;with_reducible refine crv (k1.out _ gw) fun _ _=>?_;dsimp only)|(go_at_call 63;with_reducible refine crv (k2.out _ gw) fun _ _=>?_;dsimp only))
  refine wp_region_qas 17 [] [] hm (h:=?_)
  repeat (refine wpSteady_step (fun K hK=>?_);go_simp;first|(refine hK _ ?_;clear hK K)|(apply Exists.intro;refine⟨fun _=>?_,hK _ ?_⟩;(first|(go_at_call 64;first|with_reducible exact kf.out _|with_reducible exact kg.out _)|(go_at_call 234;with_reducible exact kh.out _ gw));clear hK K))
  refine rq0 fun nq osq=>?_
  try simp only[Act.put,setA]
  try dsimp only
  go_wp2_with fail
  go_ret2
  exact Ret.mk' rfl gw
/-- What stands for what. -/
def shHolds (g f:FV):Bool:=if g.kind=4 then decide (f.kind=4) else if f.kind=4 then true else if g.kind=3∨g.kind=6 then (if f.kind=3∨f.kind=6 then areaHoldsA g.area f.area else areaHoldsD g.area (f.x,f.y) f.rad) else (if f.kind=3∨f.kind=6 then discHoldsA g.x g.y g.rad f.area else discHoldsD g.x g.y g.rad (f.x,f.y) f.rad)
def standL (f g:FV):Bool:=decide (g.kind=4)&&(decide (g.x=f.x∧g.y=f.y)&&((saferOf f.secs g.secs).2==0 && !(saferOf f.secs g.secs).1))
def standB (f g:FV):Bool:=if f.kind=4 then standL f g else decide (g.dep≤f.dep)&&shHolds g f
def standsOf (f g:FV):Bool×Int:=if (FValid f&&FValid g)=true then (standB f g,0) else (false,1)
theorem sh_disc {f:FV}(h4:f.kind≠4)(h3:¬ (f.kind=3∨f.kind=6)):f.sh=.iface 121 (.agg #[.int .i64 f.x,.int .i64 f.y,.int .i64 f.rad]):=by unfold FV.sh;rw[if_neg h4,if_neg h3]
theorem sh_area {f:FV}(h3:f.kind=3∨f.kind=6):f.sh=.iface 119 (.slice f.aA f.area.length f.ac):=by unfold FV.sh;rw[if_neg (by omega),if_pos h3]
theorem sh_light {f:FV}(h4:f.kind=4):f.sh=.iface 118 (.agg #[.int .i64 f.x,.int .i64 f.y]):=by unfold FV.sh;rw[if_pos h4]
theorem of_v (f:FV)(v:Value)(w:World)(h:f.sh=v):Calls Tryz.prog 64 #[f.val] w (Ret w v):=by
 have:=of_any f w
 rwa [h] at this
theorem Stands_shape (f g:FV)(w:World)(hf:f.rd w w.heap.size)(hg:g.rd w w.heap.size)(vf:FValid f=true)(vg:FValid g=true)(hk:f.kind≠4) :
  Calls Tryz.prog 59 #[f.val,g.val] w (Ret w (.tuple #[.bool (decide (g.dep≤f.dep)&&shHolds g f),.int .i64 0])):=by
 have kf:Hid (∀W,Calls Tryz.prog 64 #[f.val] W (Ret W f.sh)):=hide (fun W=>of_v f _ W rfl)
 by_cases g4:g.kind=4
 ·have e:shHolds g f=false:=by unfold shHolds;rw[if_pos g4,decide_eq_false hk]
  rw[e]
  refine stands_light f g _ false w hf hg vf vg hk kf (hide (fun W=>of_v g _ W (sh_light g4))) (hide (fun W hgr=>?_))
  by_cases f3:f.kind=3∨f.kind=6
  ·rw[sh_area f3]
   exact lightHoldsA_v _ _ _ W
  ·rw[sh_disc hk f3]
   exact lightHoldsD_v _ _ _ W
 ·by_cases g3:g.kind=3∨g.kind=6
  ·refine stands_area f g _ (shHolds g f) w hf hg vf vg hk kf (hide (fun W=>of_v g _ W (sh_area g3))) (hide (fun W hgr=>?_))
   by_cases f3:f.kind=3∨f.kind=6
   ·rw[sh_area f3]
    exact areaHoldsA_v _ _ _ _ _ _ _ W ((hg.up hgr).area) hg.la ((hf.up hgr).area) hf.la (by unfold shHolds;rw[if_neg g4,if_neg hk,if_pos g3,if_pos f3])
   ·rw[sh_disc hk f3]
    exact areaHoldsD_v _ _ _ (f.x,f.y) _ _ W ((hg.up hgr).area) hg.la (by unfold shHolds;rw[if_neg g4,if_neg hk,if_pos g3,if_neg f3])
  ·refine stands_disc f g _ (shHolds g f) w hf hg vf vg hk kf (hide (fun W=>of_v g _ W (sh_disc g4 g3))) (hide (fun W hgr=>?_))
   by_cases f3:f.kind=3∨f.kind=6
   ·rw[sh_area f3]
    exact discHoldsA_v _ _ _ _ _ _ _ W ((hf.up hgr).area) hf.la (by unfold shHolds;rw[if_neg g4,if_neg hk,if_neg g3,if_pos f3])
   ·rw[sh_disc hk f3]
    exact discHoldsD_v _ _ _ (f.x,f.y) _ _ W (by unfold shHolds;rw[if_neg g4,if_neg hk,if_neg g3,if_neg f3])
theorem Safer_v (sa sb:List Sec)(A A':Option Addr)(c c':Nat)(r:Bool×Int)(w:World)(hra:Rd w w.heap.size 6 A (sa.map Sec.cells))(hrb:Rd w w.heap.size 6 A' (sb.map Sec.cells))(hl:sa.length≤c)(hl':sb.length≤c')(hc:sa.length≤100000000000000)(hc':sb.length≤100000000000000)(h:saferOf sa sb=r) :
  Calls Tryz.prog 75 #[.slice A sa.length c,.slice A' sb.length c'] w (Ret w (.tuple #[.bool r.1,.int .i64 r.2])):=by
 have:=Safer_any sa sb A A' c c' w hra hrb hl hl' hc hc'
 rwa [h] at this
theorem Stands_light (f g:FV)(r:Bool)(w:World)(hf:f.rd w w.heap.size)(hg:g.rd w w.heap.size)(vf:FValid f=true)(vg:FValid g=true)(hk:f.kind=4)(h:standL f g=r) :
  Calls Tryz.prog 59 #[f.val,g.val] w (Ret w (.tuple #[.bool r,.int .i64 0])):=by
 have hm:=hmix
 have k1:=hide (fun W (h:Grew w W)=>FValid_v f true W (hf.up h) vf)
 have k2:=hide (fun W (h:Grew w W)=>FValid_v g true W (hg.up h) vg)
 obtain⟨⟨n,e⟩,hn⟩:∃u,saferOf f.secs g.secs=u:=⟨_,rfl⟩
 have k3:=hide (fun W (h:Grew w W)=>Safer_v f.secs g.secs f.sA g.sA f.sc g.sc (n,e) W ((hf.up h).secs) ((hg.up h).secs) hf.lc hg.lc hf.ls hg.ls hn)
 unfold standL at h
 rw[hn] at h
 dsimp only at h k3
 clear hf hg vf vg hn
 obtain⟨fid,fk,fx,fy,fr,faA,fac,fa,fd,fs,fsA,fsc,fss⟩:=f
 obtain⟨gid,gk,gx,gy,gr,gaA,gac,ga,gd,gs,gsA,gsc,gss⟩:=g
 unfold FV.val at *
 dsimp only at *
 subst hk
 generalize fss.length=nf at *
 generalize gss.length=ng at *
 have hcase:gk≠4∨(gk=4∧gx≠fx)∨(gk=4∧gx=fx∧gy≠fy)∨(gk=4∧gx=fx∧gy=fy∧(e==0)=false)∨(gk=4∧gx=fx∧gy=fy∧e=0):=by
  by_cases h1:gk=4<;>by_cases h2:gx=fx<;>by_cases h3:gy=fy<;>by_cases h4:e=0<;>simp[h1,h2,h3,h4]
 rcases hcase with h1|⟨rfl,h2⟩|⟨rfl,rfl,h3⟩|⟨rfl,rfl,rfl,h4⟩|⟨rfl,rfl,rfl,rfl⟩
 ·obtain rfl:r=false:=by rw[←h,decide_eq_false h1];rfl
  clear h
  go_enter Tryz.func59,Tryz.ntmps59
  go_wp2_with (first|(go_at_call 63;with_reducible refine crv (k1.out _ gw) fun _ _=>?_;dsimp only)|(go_at_call 63;with_reducible refine crv (k2.out _ gw) fun _ _=>?_;dsimp only))
  go_ret2
  exact Ret.mk' rfl gw
 ·obtain rfl:r=false:=by rw[←h,decide_eq_false (show ¬ (gx=fx∧gy=fy) from fun e=>h2 e.1)];simp
  clear h
  go_enter Tryz.func59,Tryz.ntmps59
  go_wp2_with (first|(go_at_call 63;with_reducible refine crv (k1.out _ gw) fun _ _=>?_;dsimp only)|(go_at_call 63;with_reducible refine crv (k2.out _ gw) fun _ _=>?_;dsimp only))
  go_ret2
  exact Ret.mk' rfl gw
 ·obtain rfl:r=false:=by rw[←h,decide_eq_false (show ¬ (gx=gx∧gy=fy) from fun e=>h3 e.2)];simp
  clear h
  go_enter Tryz.func59,Tryz.ntmps59
  go_wp2_with (first|(go_at_call 63;with_reducible refine crv (k1.out _ gw) fun _ _=>?_;dsimp only)|(go_at_call 63;with_reducible refine crv (k2.out _ gw) fun _ _=>?_;dsimp only))
  go_ret2
  exact Ret.mk' rfl gw
 ·obtain rfl:r=false:=by rw[←h,h4];simp
  clear h
  go_enter Tryz.func59,Tryz.ntmps59
  go_wp2_with (first|(go_at_call 63;with_reducible refine crv (k1.out _ gw) fun _ _=>?_;dsimp only)|(go_at_call 63;with_reducible refine crv (k2.out _ gw) fun _ _=>?_;dsimp only)|(go_at_call 75;with_reducible refine crv (k3.out _ gw) fun _ _=>?_;dsimp only))
  go_ret2
  exact Ret.mk' rfl gw
 ·obtain rfl:r = !n:=by rw[←h];simp
  clear h
  cases n
  all_goals
   go_enter Tryz.func59,Tryz.ntmps59
   go_wp2_with (first|(go_at_call 63;with_reducible refine crv (k1.out _ gw) fun _ _=>?_;dsimp only)|(go_at_call 63;with_reducible refine crv (k2.out _ gw) fun _ _=>?_;dsimp only)|(go_at_call 75;with_reducible refine crv (k3.out _ gw) fun _ _=>?_;dsimp only))
   go_ret2
   exact Ret.mk' rfl gw
theorem Stands_bad (f g:FV)(w:World)(hf:f.rd w w.heap.size)(hg:g.rd w w.heap.size)(h:(FValid f&&FValid g)=false) :
  Calls Tryz.prog 59 #[f.val,g.val] w (Ret w (.tuple #[.bool false,.int .i64 1])):=by
 have hm:=hmix
 obtain⟨a,ha⟩:∃u,FValid f=u:=⟨_,rfl⟩
 obtain⟨b,hb⟩:∃u,FValid g=u:=⟨_,rfl⟩
 have k1:=hide (fun W (h:Grew w W)=>FValid_v f a W (hf.up h) ha)
 have k2:=hide (fun W (h:Grew w W)=>FValid_v g b W (hg.up h) hb)
 rw[ha,hb] at h
 clear hf hg ha hb
 have hcase:a=false∨(a=true∧b=false):=by cases a<;>cases b<;>simp at h ⊢
 rcases hcase with rfl|⟨rfl,rfl⟩
 all_goals
  go_enter Tryz.func59,Tryz.ntmps59
  go_wp2_with (first|(go_at_call 63;with_reducible refine crv (k1.out _ gw) fun _ _=>?_;dsimp only)|(go_at_call 63;with_reducible refine crv (k2.out _ gw) fun _ _=>?_;dsimp only))
  go_ret2
  exact Ret.mk' rfl gw
theorem Stands_v (f g:FV)(r:Bool×Int)(w:World)(hf:f.rd w w.heap.size)(hg:g.rd w w.heap.size)(h:standsOf f g=r) :
  Calls Tryz.prog 59 #[f.val,g.val] w (Ret w (.tuple #[.bool r.1,.int .i64 r.2])):=by
 unfold standsOf at h
 subst h
 by_cases hv:(FValid f&&FValid g)=true
 ·rw[if_pos hv]
  have hv2:=hv
  rw[Bool.and_eq_true] at hv2
  unfold standB
  by_cases hk:f.kind=4
  ·rw[if_pos hk]
   exact Stands_light f g _ w hf hg hv2.1 hv2.2 hk rfl
  ·rw[if_neg hk]
   exact Stands_shape f g w hf hg hv2.1 hv2.2 hk
 ·rw[if_neg hv]
  exact Stands_bad f g w hf hg (by simpa using hv)
set_option maxHeartbeats 8000000
set_option maxRecDepth 100000
attribute [local go_sem] mh_disc nh_disc mc_disc nc_disc mh_area nh_area mc_area nc_area mh_light nh_light mc_light nc_light
instance:Inhabited FV:=⟨⟨0,0,0,0,0,none,0,[],0,0,none,0,[]⟩⟩
/-- A slice of features that reads as fs. -/
structure FRd (w:World) (B:Nat) (A:Option Addr) (fs:List FV):Prop where
 row:Rd w B 9 A (fs.map FV.cells)
 each:∀f,f∈fs→f.rd w B
theorem FRd.up {w w':World}{A:Option Addr}{fs:List FV}(h:FRd w w.heap.size A fs)(hg:Grew w w'):FRd w' w'.heap.size A fs:=⟨h.row.up hg,fun f hf=>(h.each f hf).up hg⟩
theorem FRd.nil (w:World)(B:Nat)(A:Option Addr):FRd w B A []:=⟨Rd.nil _ _ _ _,fun f h=>by cases h⟩
def fAt (fs:List FV)(k:Nat):FV:=fs.getD k default
theorem fAt_get {fs:List FV}{k:Nat}(h:k<fs.length):fs[k]?=some (fAt fs k):=by
 unfold fAt
 rw[List.getD_eq_getElem?_getD,List.getElem?_eq_getElem h]
 rfl
theorem fAt_mem {fs:List FV}{k:Nat}(h:k<fs.length):fAt fs k∈fs:=List.mem_of_getElem? (fAt_get h)
/-- A feature's cells, and where they lie. -/
structure FAt (w:World) (b o:Nat) (f:FV):Prop where
 c0:w.cell? ⟨b,o,none⟩=some (.int .i64 f.id)
 c1:w.cell? ⟨b,o+1,none⟩=some (.int .i64 f.kind)
 c2:w.cell? ⟨b,o+2,none⟩=some (.int .i64 f.x)
 c3:w.cell? ⟨b,o+3,none⟩=some (.int .i64 f.y)
 c4:w.cell? ⟨b,o+4,none⟩=some (.int .i64 f.rad)
 c5:w.cell? ⟨b,o+5,none⟩=some (.slice f.aA f.area.length f.ac)
 c6:w.cell? ⟨b,o+6,none⟩=some (.int .i64 f.dep)
 c7:w.cell? ⟨b,o+7,none⟩=some (.int .i64 f.sym)
 c8:w.cell? ⟨b,o+8,none⟩=some (.slice f.sA f.secs.length f.sc)
theorem featAt {w:World}{B:Nat}{A:Option Addr}{fs:List FV}{k:Nat}(h:FRd w B A fs)(hk:k<fs.length) :
  ∃b off,Hid (A=some ⟨b,off,none⟩)∧b<B∧FAt w b (off+k*9) (fAt fs k):=by
 obtain⟨b,off,hA,hb,hc⟩:=h.row.at_ (k:=k) (x:=(fAt fs k).cells) (by simp[fAt_get hk])
 exact⟨b,off,hA,hb,hc 0 _ rfl,hc 1 _ rfl,hc 2 _ rfl,hc 3 _ rfl,hc 4 _ rfl,hc 5 _ rfl,hc 6 _ rfl,hc 7 _ rfl,hc 8 _ rfl⟩
def lastId (fs:List FV)(k:Nat):Int:=if k=0 then 0 else (fAt fs (k-1)).id
def upOk (fs:List FV)(k:Nat):Bool:=FValid (fAt fs k)&&decide (lastId fs k<(fAt fs k).id)
def upTo (fs:List FV)(k:Nat):Bool:=(List.range k).all (upOk fs)
def FList (fs:List FV):Bool:=upTo fs fs.length&&decide (fs.length≤300)
theorem upTo_succ {fs:List FV}{k:Nat}(h:upTo fs k=true):upTo fs (k+1)=upOk fs k:=by
 unfold upTo at h ⊢
 rw[List.range_succ,List.all_append,h]
 simp
theorem upTo_no {fs:List FV}{k n:Nat}(hk:k<n)(h:upOk fs k=false):upTo fs n=false:=by
 unfold upTo
 rw[List.all_eq_false]
 exact⟨k,List.mem_range.2 hk,by rw[h];simp⟩
theorem FList_v (fs:List FV)(A:Option Addr)(c:Nat)(r:Bool)(w:World)(hr:FRd w w.heap.size A fs)(hc:fs.length≤100000000000000)(h:FList fs=r) :
  Calls Tryz.prog 41 #[.slice A fs.length c] w (Ret w (.bool r)):=by
 have hm:=hmix
 have HH:=hide h
 have HR:=hide hr
 clear h hr
 go_enter Tryz.func41,Tryz.ntmps41
 go_wp2_with fail
 go_loopw [3,8] (fun l i wr=>∃k:Nat,k≤fs.length∧i=.int .i64 k∧l=.int .i64 (lastId fs k)∧Grew w wr∧AppG (upTo fs k=true)) (fun _ i _=>fs.length-(intOf i).toNat)
 case atStart=>exact⟨0,by omega,rfl,rfl,gw,rfl⟩
 case round =>
  obtain⟨k,hk,rfl,rfl,hg,hall⟩:=hrel
  have HG:=hide hg
  have HA:=hide hall.stop
  clear hg hall
  by_cases hlt:k<fs.length
  ·obtain⟨b,off,hA,hb,fc⟩:=featAt (HR.out.up HG.out) hlt
   have hfr:=HR.out.each _ (fAt_mem hlt)
   have hix:=idx_run (cap:=c) Tryz.underlying22 Tryz.sizeOf54 hA.out hlt
   have hst:=upTo_succ HA.out
   unfold upOk at hst
   have hlid:lastId fs (k+1)=(fAt fs k).id:=by unfold lastId;rw[if_neg (by omega),Nat.add_sub_cancel]
   obtain⟨v,hv⟩:∃v,FValid (fAt fs k)=v:=⟨_,rfl⟩
   rw[hv] at hst
   have k1:=hide (fun W (hg:Grew w W)=>FValid_v (fAt fs k) v W (hfr.up hg) hv)
   obtain⟨l,hl⟩:∃l,lastId fs k=l:=⟨_,rfl⟩
   rw[hl] at hst ⊢
   have hno:(v&&decide (l<(fAt fs k).id))=false→r=false:=fun e=>by
    rw[←HH.out]
    unfold FList
    rw[upTo_no hlt (by unfold upOk;rw[hv,hl];exact e)]
    rfl
   obtain⟨c0,c1,c2,c3,c4,c5,c6,c7,c8⟩:=fc
   clear hl hv hA hfr
   generalize fAt fs k=f at *
   obtain⟨id,kind,x,y,rad,aA,ac,area,dep,sym,sA,sc,secs⟩:=f
   unfold FV.val at k1
   dsimp only at *
   generalize area.length=na at *
   generalize secs.length=ns at *
   have HST:=hide hst
   have HLID:=hide hlid
   clear hst hlid
   cases v
   ·have HNO:=hide (hno (by simp))
    clear hno
    go_wp2_with (go_at_call 63;with_reducible refine crv (k1.out _ (HG.out.trans gw)) fun _ _=>?_;dsimp only)
    go_ret
    exact Ret.mk' (by rw[HNO.out];rfl) (HG.out.trans gw)
   ·by_cases hid:l<id
    ·have hid2:¬ id≤l:=by omega
     clear hno
     go_wp2_with (go_at_call 63;with_reducible refine crv (k1.out _ (HG.out.trans gw)) fun _ _=>?_;dsimp only)
     go_roundw
     case rel=>exact⟨k+1,by omega,by go_num,by rw[HLID.out],HG.out.trans gw,show upTo fs (k+1)=true from (by rw[HST.out];simp[hid])⟩
     case measure=>simp[intOf];omega
    ·have hid2:id≤l:=by omega
     have HNO:=hide (hno (by simp[hid]))
     clear hno
     go_wp2_with (go_at_call 63;with_reducible refine crv (k1.out _ (HG.out.trans gw)) fun _ _=>?_;dsimp only)
     go_ret
     exact Ret.mk' (by rw[HNO.out];rfl) (HG.out.trans gw)
  ·obtain rfl:k=fs.length:=by omega
   have e:r=decide (fs.length≤300):=by
    rw[←HH.out]
    unfold FList
    rw[HA.out]
    rfl
   have HE:=hide e
   clear e
   go_wp2_with fail
   go_ret
   exact Ret.mk' (by rw[HE.out];exact ret_bool (by rw[Bool.eq_iff_iff];simp;try omega)) HG.out
/-- What covers a place; the least depth there. -/
def shCovers (f:FV)(p:Pt):Bool:=if f.kind=4 then false else if f.kind=3∨f.kind=6 then coverA f.area p else coverD f.x f.y f.rad p
def shownStep (p:Pt)(l:Int)(f:FV):Int:=if (decide (f.dep<l)&&shCovers f p)=true then f.dep else l
def shownTo (fs:List FV)(p:Pt)(k:Nat):Int:=(fs.take k).foldl (shownStep p) 100000
def shownOf (fs:List FV)(p:Pt):Int×Int:=if (FList fs&&p.ok)=true then (shownTo fs p fs.length,0) else (0,1)
theorem shownTo_succ {fs:List FV}{p:Pt}{k:Nat}(h:k<fs.length):shownTo fs p (k+1)=shownStep p (shownTo fs p k) (fAt fs k):=by
 unfold shownTo
 rw[List.take_add_one,fAt_get h,List.foldl_append]
 rfl
theorem Shown_v (fs:List FV)(A:Option Addr)(c:Nat)(p:Pt)(r:Int×Int)(w:World)(hr:FRd w w.heap.size A fs)(hc:fs.length≤100000000000000)(h:shownOf fs p=r) :
  Calls Tryz.prog 44 #[.slice A fs.length c,pt p.1 p.2] w (Ret w (.tuple #[.int .i64 r.1,.int .i64 r.2])):=by
 have hm:=hmix
 obtain⟨u,hu⟩:∃u,FList fs=u:=⟨_,rfl⟩
 obtain⟨v,hv⟩:∃u,p.ok=u:=⟨_,rfl⟩
 have k1:=hide (fun W (hg:Grew w W)=>FList_v fs A c u W (hr.up hg) hc hu)
 have k2:=hide (fun W=>planeValid_v p.1 p.2 v W hv)
 unfold shownOf at h
 rw[hu,hv] at h
 have HR:=hide hr
 clear hu hv hr
 obtain⟨p1,p2⟩:=p
 dsimp only at *
 have hcase:u=false∨(u=true∧v=false)∨(u=true∧v=true):=by cases u<;>cases v<;>simp
 rcases hcase with rfl|⟨rfl,rfl⟩|⟨rfl,rfl⟩
 ·rw[if_neg (by simp)] at h
  subst h
  go_enter Tryz.func44,Tryz.ntmps44
  go_wp2_with (first|(go_at_call 41;with_reducible refine crv (k1.out _ gw) fun _ _=>?_;dsimp only)|(go_at_call 43;with_reducible refine crv (k2.out _) fun _ _=>?_;dsimp only))
  go_ret2
  exact Ret.mk' rfl gw
 ·rw[if_neg (by simp)] at h
  subst h
  go_enter Tryz.func44,Tryz.ntmps44
  go_wp2_with (first|(go_at_call 41;with_reducible refine crv (k1.out _ gw) fun _ _=>?_;dsimp only)|(go_at_call 43;with_reducible refine crv (k2.out _) fun _ _=>?_;dsimp only))
  go_ret2
  exact Ret.mk' rfl gw
 ·rw[if_pos (by rfl)] at h
  subst h
  go_enter Tryz.func44,Tryz.ntmps44
  go_wp2_with (first|(go_at_call 41;with_reducible refine crv (k1.out _ gw) fun _ _=>?_;dsimp only)|(go_at_call 43;with_reducible refine crv (k2.out _) fun _ _=>?_;dsimp only))
  refine wp_name ?_
  intro W0 hW
  have hg0:Grew w W0:=by rw[←hW];exact gw
  have hbp:W0.heap[w.heap.size]?=some (.cells #[.int .i64 p1,.int .i64 p2] 26 (0,0)):=by
   rw[←hW]
   exact (Grew.heap (w:=w.alloc (.cells #[.int .i64 p1,.int .i64 p2] 26)) gw (by simp)).trans (heap_alloc_new _ _)
  have HG0:=hide hg0
  have HBP:=hide hbp
  clear hW hg0 hbp k1 k2
  go_loopw [6,19] (fun l i wr=>∃k:Nat,k≤fs.length∧i=.int .i64 k∧l=.int .i64 (shownTo fs (p1,p2) k)∧Grew W0 wr) (fun _ i _=>fs.length-(intOf i).toNat)
  case atStart=>exact⟨0,by omega,rfl,rfl,Grew.refl _⟩
  case round =>
   obtain⟨k,hk,rfl,rfl,hg⟩:=hrel
   have HG:=hide hg
   have bp:=(hg.heap (blk_lt HBP.out)).trans HBP.out
   have d0:=blk_cell bp 0
   have d1:=blk_cell bp 1
   have lp:=blk_lt bp
   clear hg bp
   by_cases hlt:k<fs.length
   ·obtain⟨b,off,hA,hb,fc⟩:=featAt (HR.out.up (HG0.out.trans HG.out)) hlt
    have hfr:=(HR.out.up (HG0.out.trans HG.out)).each _ (fAt_mem hlt)
    have hix:=idx_run (cap:=c) Tryz.underlying22 Tryz.sizeOf54 hA.out hlt
    have hst:=shownTo_succ (p:=(p1,p2)) hlt
    unfold shownStep at hst
    obtain⟨l,hl⟩:∃l,shownTo fs (p1,p2) k=l:=⟨_,rfl⟩
    rw[hl] at hst ⊢
    obtain⟨o,ho⟩:∃o,shCovers (fAt fs k) (p1,p2)=o:=⟨_,rfl⟩
    rw[ho] at hst
    have ksh:Hid ((∃x y,(fAt fs k).sh=.iface 118 (.agg #[.int .i64 x,.int .i64 y])∧∀W,Grew wr W→Calls Tryz.prog 233 #[.agg #[.int .i64 x,.int .i64 y],pt p1 p2] W (Ret W (.bool o)))∨((fAt fs k).sh=.iface 119 (.slice (fAt fs k).aA (fAt fs k).area.length (fAt fs k).ac)∧∀W,Grew wr W→Calls Tryz.prog 237 #[.slice (fAt fs k).aA (fAt fs k).area.length (fAt fs k).ac,pt p1 p2] W (Ret W (.bool o)))∨(∃x y r,(fAt fs k).sh=.iface 121 (.agg #[.int .i64 x,.int .i64 y,.int .i64 r])∧∀W,Grew wr W→Calls Tryz.prog 252 #[.agg #[.int .i64 x,.int .i64 y,.int .i64 r],pt p1 p2] W (Ret W (.bool o)))):=hide (by
     unfold shCovers at ho
     by_cases h4:(fAt fs k).kind=4
     ·rw[if_pos h4] at ho
      exact .inl ⟨_,_,sh_light h4,fun W _=>by rw[←ho];exact lightCovers_v _ _ (p1,p2) W⟩
     ·rw[if_neg h4] at ho
      by_cases h3:(fAt fs k).kind=3∨(fAt fs k).kind=6
      ·rw[if_pos h3] at ho
       exact .inr (.inl ⟨sh_area h3,fun W hg=>areaCovers_v _ _ _ (p1,p2) _ W (hfr.up hg).area hfr.la ho⟩)
      ·rw[if_neg h3] at ho
       exact .inr (.inr ⟨_,_,_,sh_disc h4 h3,fun W _=>discCovers_v _ _ _ (p1,p2) _ W ho⟩))
    have kof:Hid (∀v W,(fAt fs k).sh=v→Calls Tryz.prog 64 #[(fAt fs k).val] W (Ret W v)):=hide (fun v W e=>of_v _ v W e)
    obtain⟨c0,c1,c2,c3,c4,c5,c6,c7,c8⟩:=fc
    clear hl ho hA hfr
    generalize fAt fs k=f at *
    obtain⟨id,kind,x,y,rad,aA,ac,area,dep,sym,sA,sc,secs⟩:=f
    generalize FV.sh _=S at *
    unfold FV.val at kof
    dsimp only at *
    generalize area.length=na at *
    generalize secs.length=ns at *
    have HST:=hide hst
    clear hst
    by_cases hd:dep<l
    ·rcases ksh.out with⟨x',y',rfl,kc⟩|⟨rfl,kc⟩|⟨x',y',r',rfl,kc⟩
     ·have KC:=hide kc
      have ko:=hide (fun W=>kof.out _ W rfl)
      clear kc kof ksh
      cases o
      all_goals
       go_wp2_with fail
       refine wp_region_qas 10 [] [] hm (h:=?_)
       repeat (refine wpSteady_step (fun K hK=>?_);go_simp;first|(refine hK _ ?_;clear hK K)|(apply Exists.intro;refine⟨fun _=>?_,hK _ ?_⟩;(first|(go_at_call 64;with_reducible exact ko.out _)|(go_at_call 233;with_reducible exact KC.out _ gw));clear hK K))
       refine rq0 fun nq osq=>?_
       try simp only[Act.put,setA]
       try dsimp only
       go_wp2_with fail
       go_roundw
       case rel=>exact⟨k+1,by omega,by go_num,by rw[HST.out];simp[hd],HG.out.trans gw⟩
       case measure=>simp[intOf];omega
     ·have KC:=hide kc
      have ko:=hide (fun W=>kof.out _ W rfl)
      clear kc kof ksh
      cases o
      all_goals
       go_wp2_with fail
       refine wp_region_qas 10 [] [] hm (h:=?_)
       repeat (refine wpSteady_step (fun K hK=>?_);go_simp;first|(refine hK _ ?_;clear hK K)|(apply Exists.intro;refine⟨fun _=>?_,hK _ ?_⟩;(first|(go_at_call 64;with_reducible exact ko.out _)|(go_at_call 237;with_reducible exact KC.out _ gw));clear hK K))
       refine rq0 fun nq osq=>?_
       try simp only[Act.put,setA]
       try dsimp only
       go_wp2_with fail
       go_roundw
       case rel=>exact⟨k+1,by omega,by go_num,by rw[HST.out];simp[hd],HG.out.trans gw⟩
       case measure=>simp[intOf];omega
     ·have KC:=hide kc
      have ko:=hide (fun W=>kof.out _ W rfl)
      clear kc kof ksh
      cases o
      all_goals
       go_wp2_with fail
       refine wp_region_qas 10 [] [] hm (h:=?_)
       repeat (refine wpSteady_step (fun K hK=>?_);go_simp;first|(refine hK _ ?_;clear hK K)|(apply Exists.intro;refine⟨fun _=>?_,hK _ ?_⟩;(first|(go_at_call 64;with_reducible exact ko.out _)|(go_at_call 252;with_reducible exact KC.out _ gw));clear hK K))
       refine rq0 fun nq osq=>?_
       try simp only[Act.put,setA]
       try dsimp only
       go_wp2_with fail
       go_roundw
       case rel=>exact⟨k+1,by omega,by go_num,by rw[HST.out];simp[hd],HG.out.trans gw⟩
       case measure=>simp[intOf];omega
    ·have hd2:decide (dep<l)=false:=decide_eq_false hd
     clear kof ksh
     go_wp2_with fail
     refine wp_region_qas 10 [] [] hm (h:=?_)
     repeat (refine wpSteady_step (fun K hK=>?_);go_simp;refine hK _ ?_;clear hK K)
     refine rq0 fun nq osq=>?_
     try simp only[Act.put,setA]
     try dsimp only
     go_wp2_with fail
     go_roundw
     case rel=>exact⟨k+1,by omega,by go_num,by rw[HST.out,hd2];simp,HG.out.trans gw⟩
     case measure=>simp[intOf];omega
   ·obtain rfl:k=fs.length:=by omega
    go_wp2_with fail
    go_ret2
    exact Ret.mk' rfl (HG0.out.trans HG.out)
end Go.Proofs.YtblgdlnmabkpoaaGreat

