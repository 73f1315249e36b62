/- Package poly: twice the area. Package poly: simple. Package poly: Valid. -/
import Derived.Test.YtlkgjmnjhifehaaGreatPoa
set_option linter.unusedSimpArgs false
set_option linter.unusedVariables false
set_option maxHeartbeats 4000000
set_option maxRecDepth 100000
namespace Go.Proofs.YtlkgjmnjhifehaaGreat
open Go.RowKit Go.Sort
attribute [local go_sem] dA steadyUpon
attribute [local go_sem ↓] bU bI aX aW aV aU aT
attribute [local go_sem] bH aK aJ size_grow tape_grow cell?_grow' aF aB grow_grow bW aY dR cO bY bK aN cZ aZ bZ bJ
attribute [local irreducible] wpSteady
attribute [local go_sem] Oper.semAt_some
def FQ (a b:Pt):Int:=a.1*b.2-a.2*b.1
def xI (ps:List Pt)(is:List Nat):Int:=(is.map fun i=>FQ (ah ps i) (ah ps (i+1))).sum
def dW (ps:List Pt):Int:=xI ps (List.range ps.length)
theorem Gj (ps:List Pt)(is:List Nat)(i:Nat):xI ps (is++[i])=xI ps is+FQ (ah ps i) (ah ps (i+1)):=by unfold xI;simp
theorem Qm {a b:Pt}(ha:a.ok=true)(hb:b.ok=true):(-1000000000000<=a.1*b.2/\a.1*b.2<=1000000000000)/\(-1000000000000<=a.2*b.1/\a.2*b.1<=1000000000000):=by
 have:=lL ha
 have:=lL hb
 have h1:-1000000000000<=a.1*b.2/\a.1*b.2<=1000000000000:=jc 1000000 1000000 (by omega) (by omega)
 have h2:-1000000000000<=a.2*b.1/\a.2*b.1<=1000000000000:=jc 1000000 1000000 (by omega) (by omega)
 exact⟨h1,h2⟩
theorem eH {ps:List Pt}(h:ps.all Pt.ok=true)(i:Nat):(ah ps i).ok=true:=by
 unfold ah
 rcases Nat.eq_zero_or_pos ps.length with h0|h0
 ·obtain rfl:=List.length_eq_zero_iff.1 h0
  rfl
 ·rw[List.getD_eq_getElem?_getD,List.getElem?_eq_getElem (Nat.mod_lt _ h0)]
  exact List.all_eq_true.1 h _ (List.getElem_mem _)
theorem Pm {ps:List Pt}(h:ps.all Pt.ok=true):∀ (is:List Nat),-(2000000000000*(is.length:Int))<=xI ps is/\xI ps is<=2000000000000*(is.length:Int)
 | []=>by simp[xI]
 | i::is=>by
  have ih:=Pm h is
  have hb:=Qm (eH h i) (eH h (i+1))
  have e1:xI ps (i::is)=FQ (ah ps i) (ah ps (i+1))+xI ps is:=by unfold xI;simp
  rw[e1,List.length_cons]
  unfold FQ
  omega
theorem QR (ps:List Pt)(A:Option Addr)(c:Nat)(w:World)(hr:Rd w w.heap.size 2 A (ps.map dY))(hl:ps.length<=100)(hok:ps.all Pt.ok=true) :
  Calls Tryz.prog 112 #[.slice A ps.length c] w (aC w (.int .i64 (dW ps))):=by
 have hm:=aP
 have HR:=hide hr
 have vz:=hide hok
 clear hr hok
 refine (callsIn_wide (n:=9)).1 ?_
 refine callsIn_of_wp_marks Tryz.func112 rfl trivial ?_ rfl
 simp only[Tryz.ntmps112,List.size_toArray,List.length_cons,List.length_nil,Nat.reduceAdd,Nat.reduceSub,Array.replicate_succ,Array.replicate_zero,List.push_toArray,List.append_toArray,List.nil_append,List.cons_append]
 gi_wp2_with fail
 refine⟨trivial,?_⟩
 refine (callsIn_wide.2 (jY _ _ _ _)).mono ?_
 rintro e w' ⟨rfl,rfl⟩
 dsimp only
 gi_wp2_with fail
 refine dJ ?_
 intro a0 W0 ha hW
 have hg0:Grew w W0:=by rw[<-hW];exact gw
 have hb0:Boxed W0 w.heap.size 3 (.int .i64 0):=by rw[<-hW];exact (heap_alloc_old _ _ (by simp)).trans (heap_alloc_new _ _)
 have hk0:W0.heap[w.heap.size+1]?=some (.cells #[.slice A ps.length c] 174 (0,0)):=by rw[<-hW];exact az _ _ _ (by simp)
 have hsz:w.heap.size+2<=W0.heap.size:=by rw[<-hW];simp
 clear hW
 refine wpIn_rangeFunc_ownH (n:=9) rfl (by omega) (gf:=153) (lb:=#[.pointer (some ⟨w.heap.size+1,0,none⟩)]) (by rw[<-ha];simp[Act.eval]) trivial (enters_of Tryz.func153 (by kernel_rfl) rfl)
  (gU 8 w.heap.size (fun b _=>b=w.heap.size) ps A c (w.heap.size+1) W0 (fun b _ hb=>by omega) hk0 (HR.out.grew hg0 (Nat.le_refl _)) (by omega) (by omega))
  (fun h k=>h.trans k) gW.bk (Below.refl _ _) (fun _=>rfl)
  (fun pre W=>Below w.heap.size w W/\Boxed W w.heap.size 3 (.int .i64 (xI ps (pre.map Fin.val))))
  (fun _ _ _=>False)
  (OwnFrom.and (ownFrom_below (Nat.le_refl _) hg0.below.size) (Own.from (boxed_own _ _ _) _))
  (fun q=>ownFrom_pure _)
  ⟨hg0.below,hb0⟩
  (fun x a' W=>∃B,W.heap[B]?=some (.cells #[.int .i64 (ah ps x.1).1,.int .i64 (ah ps x.1).2,.int .i64 (ah ps (x.1+1)).1,.int .i64 (ah ps (x.1+1)).2] 206 (0,0))/\B≠w.heap.size/\a'={ tmps:=((a0.tmps.setIfInBounds 8 (.int .i64 (x.1:Nat))).setIfInBounds 9 (.agg #[.int .i64 (ah ps x.1).1,.int .i64 (ah ps x.1).2,.int .i64 (ah ps (x.1+1)).1,.int .i64 (ah ps (x.1+1)).2])).setIfInBounds 5 (.pointer (some ⟨B,0,none⟩)),defers:=[] })
  (fun x a'=>by
   rintro s X Y row ⟨B,h1,h2⟩ hg hr
   exact⟨B,fG h1 hg (fun r e=>(hr r e).2),h2⟩)
  ?assign ?body ?done ?stop
 case assign =>
  rintro l pre x W K ⟨hB,hb⟩ hK
  rw[show CQ ps x=#[.int .i64 (x.1:Nat),.agg #[.int .i64 (ah ps x.1).1,.int .i64 (ah ps x.1).2,.int .i64 (ah ps (x.1+1)).1,.int .i64 (ah ps (x.1+1)).2]] from rfl,FT]
  subst ha
  simp only[List.setIfInBounds_toArray,List.set_cons_succ,List.set_cons_zero] at hK ⊢
  have wu:=hide hK
  have hbl:=au hb
  clear hK
  gi_wp2_with fail
  exact wu.out _ _ ((KeepsOthers.alloc _ _).from _) (gW.grew (Grew.alloc (Grew.refl _) _)) ⟨hB.alloc hB.size _,(heap_alloc_old _ _ hbl).trans hb⟩ ⟨W.heap.size,heap_alloc_new _ _,by omega,rfl⟩
 case body =>
  rintro l pre x a' W hl2 _ ⟨hB,hb⟩ ⟨B,hx,hBne,rfl⟩ hlt
  subst ha
  have hbd:=Qm (eH vz.out x.1) (eH vz.out (x.1+1))
  have hsb:=Pm vz.out (pre.map Fin.val)
  rw[List.length_map] at hsb
  have hsn:=Gj ps (pre.map Fin.val) x.1
  unfold FQ at hsn
  obtain⟨s,hs⟩:∃s,xI ps (pre.map Fin.val)=s:=⟨_,rfl⟩
  obtain⟨a,ha⟩:∃s,ah ps x.1=s:=⟨_,rfl⟩
  obtain⟨b,hb'⟩:∃s,ah ps (x.1+1)=s:=⟨_,rfl⟩
  rw[ha,hb'] at hbd hsn
  rw[hs] at hsb hsn hb
  simp only[ha,hb'] at hx ⊢
  obtain⟨a1,a2⟩:=a
  obtain⟨b1,b2⟩:=b
  dsimp only at hbd hsn hx ⊢
  have c0:W.cell? ⟨w.heap.size,0,none⟩=_:=hb.cell
  have f0:W.frozen? ⟨w.heap.size,0,none⟩=_:=hb.frozen
  have c1:W.cell? ⟨B,0,none⟩=some _:=ag hx 0
  have c2:W.cell? ⟨B,1,none⟩=some _:=ag hx 1
  have c3:W.cell? ⟨B,2,none⟩=some _:=ag hx 2
  have c4:W.cell? ⟨B,3,none⟩=some _:=ag hx 3
  have Yo:=hide hsn
  have HB:=hide hB
  have Hb:=hide hb
  have hsl:s<=200000000000000/\-200000000000000<=s:=by omega
  clear hB hb hx hs ha hb' hsn hsb hlt
  simp only[List.setIfInBounds_toArray,List.set_cons_succ,List.set_cons_zero]
  gi_wp2_with fail
  refine⟨KeepsFrom.setCell _ _ _ _,gW.set _ _ _ _ (fun _=>rfl),HB.out.setCell (p:=⟨w.heap.size,0,none⟩) (by simp) _,?_⟩
  rw[List.map_append,show [x].map Fin.val=[x.1] from rfl,Yo.out]
  exact Hb.out.set _
 case done =>
  subst ha
  rintro D xs W hD hS ⟨hB,hb⟩ hK
  have c0:W.cell? ⟨w.heap.size,0,none⟩=_:=hb.cell
  have HB:=hide hB
  have HS:=hide hS
  clear hB hb hS
  gi_wp2_with fail
  refine⟨by simp,.inl ⟨_,_,rfl,run_takeDeferred hK,?_⟩⟩
  have hb5:=HB.out.trans (belowK_b (w:=w) (Nat.le_refl _) _ D _ (.deferred none) (by omega) hK rfl rfl)
  refine⟨.int .i64 (xI ps (xs.map Fin.val)),by simp[results,Tryz.results112,go_sem],?_⟩
  exact aC.mk' (l9 (by rw[HS.out];rfl)) (Grew.of_below hb5)
 case stop=>exact fun _ _ _ _ _ _ h _=>h.elim
theorem gW.own {β:Type}{M:Nat->TypeId->Prop}{B:Nat}{W:World}(h:W.heap.size<=B):OwnFrom B (fun (_:β) V=>gW M W V):=by
 intro s X Y row hs hg hr b cs T fr hM hb
 have h1:=hs b cs T fr hM hb
 rw[hg.block b (au h1) (fun e=>by have:=(hr _ e.symm).1;have:=au hb;omega)]
 exact h1
theorem nz {β:Type}{B b:Nat}{o:Obj}(h:b<B):OwnFrom B (fun (_:β) V=>V.heap[b]?=some o):=by
 intro s X Y row hs hg hr
 rw[hg.block b (au hs) (fun e=>by have:=(hr _ e.symm).1;omega)]
 exact hs
def nM (ps:List Pt)(i k:Nat):Bool:=decide (k<=i+1)||(decide (i=0/\k+1=ps.length) || !bC (ah ps i) (ah ps (i+1)) (ah ps k) (ah ps (k+1)))
def rowOk (ps:List Pt)(i:Nat):Bool:=(List.range ps.length).all (nM ps i)
def jh (ps:List Pt):Bool:=(List.range ps.length).all (rowOk ps)
theorem Np (ps:List Pt)(A:Option Addr)(c:Nat)(w:World)(hr:Rd w w.heap.size 2 A (ps.map dY))(hl:ps.length<=100)(hok:ps.all Pt.ok=true) :
  Calls Tryz.prog 111 #[.slice A ps.length c] w (aC w (.bool (jh ps))):=by
 have hm:=aP
 have HR:=hide hr
 have vz:=hide hok
 clear hr hok
 refine (callsIn_wide (n:=13)).1 ?_
 refine callsIn_of_wp_marks Tryz.func111 rfl trivial ?_ rfl
 simp only[Tryz.ntmps111,List.size_toArray,List.length_cons,List.length_nil,Nat.reduceAdd,Nat.reduceSub,Array.replicate_succ,Array.replicate_zero,List.push_toArray,List.append_toArray,List.nil_append,List.cons_append]
 gi_wp2_with fail
 refine⟨trivial,?_⟩
 refine (callsIn_wide.2 (jY _ _ _ _)).mono ?_
 rintro e w' ⟨rfl,rfl⟩
 dsimp only
 gi_wp2_with fail
 refine dJ ?_
 intro a0 W0 ha hW
 obtain⟨bx,hbx⟩:∃bx:List Obj,bx=[.cells #[.slice A ps.length c] 174 (0,0),.cells #[.bool false] 4 (0,0),.cells #[.int .i64 ps.length] 3 (0,0)]:=⟨_,rfl⟩
 have hg0:Grew w W0:=by rw[<-hW];exact gw
 have hb0:Bx W0 w.heap.size bx:=by rw[<-hW,hbx];exact (Bx.lT _ w).1.grew (Grew.alloc (Grew.refl _) _)
 have hk0:W0.heap[w.heap.size+3]?=some (.cells #[.slice A ps.length c] 174 (0,0)):=by rw[<-hW];exact az _ _ _ (by simp)
 have hsz:w.heap.size+4<=W0.heap.size:=by rw[<-hW];simp
 have hbl:bx.length=3:=by rw[hbx];rfl
 clear hW
 refine wpIn_rangeFunc_ownH (n:=13) rfl (by omega) (gf:=153) (lb:=#[.pointer (some ⟨w.heap.size+3,0,none⟩)]) (by rw[<-ha];simp[Act.eval]) trivial (enters_of Tryz.func153 (by kernel_rfl) rfl)
  (gU 12 w.heap.size (fun _ _=>False) ps A c (w.heap.size+3) W0 (fun b _ hb=>hb.elim) hk0 (HR.out.grew hg0 (Nat.le_refl _)) (by omega) (by omega))
  (fun h k=>h.trans k) gW.bk (Below.refl _ _) (fun _=>rfl)
  (fun pre W=>(Below w.heap.size w W/\Bx W w.heap.size bx)/\∀i∈pre,rowOk ps i.1=true)
  (fun q pre W=>(Below w.heap.size w W/\Boxed W (w.heap.size+1) 4 (.bool false))/\q=.ret/\jh ps=false)
  (OwnFrom.and (OwnFrom.and (ownFrom_below (Nat.le_refl _) hg0.below.size) (Bx.own (by omega))) (ownFrom_pure _))
  (fun q=>OwnFrom.and (OwnFrom.and (ownFrom_below (Nat.le_refl _) hg0.below.size) (Own.from (boxed_own _ _ _) _)) (ownFrom_pure _))
  ⟨⟨hg0.below,hb0⟩,fun i hi=>by cases hi⟩
  (fun x a' W=>∃B C,(W.heap[B]?=some (.cells #[.int .i64 (x.1:Nat)] 3 (0,0))/\W.heap[C]?=some (.cells #[.int .i64 (ah ps x.1).1,.int .i64 (ah ps x.1).2,.int .i64 (ah ps (x.1+1)).1,.int .i64 (ah ps (x.1+1)).2] 206 (0,0)))/\a'={ tmps:=(((a0.tmps.setIfInBounds 14 (.int .i64 (x.1:Nat))).setIfInBounds 15 (.agg #[.int .i64 (ah ps x.1).1,.int .i64 (ah ps x.1).2,.int .i64 (ah ps (x.1+1)).1,.int .i64 (ah ps (x.1+1)).2])).setIfInBounds 4 (.pointer (some ⟨B,0,none⟩))).setIfInBounds 5 (.pointer (some ⟨C,0,none⟩)),defers:=[] })
  (fun x a'=>by
   rintro s X Y row ⟨B,C,⟨h1,h3⟩,h2⟩ hg hr
   exact⟨B,C,⟨fG h1 hg (fun r e=>(hr r e).2),fG h3 hg (fun r e=>(hr r e).2)⟩,h2⟩)
  ?assign ?body ?done ?stop
 case assign =>
  rintro l pre x W K ⟨⟨hB,hb⟩,hp⟩ hK
  rw[show CQ ps x=#[.int .i64 (x.1:Nat),.agg #[.int .i64 (ah ps x.1).1,.int .i64 (ah ps x.1).2,.int .i64 (ah ps (x.1+1)).1,.int .i64 (ah ps (x.1+1)).2]] from rfl,FT]
  subst ha
  simp only[List.setIfInBounds_toArray,List.set_cons_succ,List.set_cons_zero] at hK ⊢
  have wu:=hide hK
  clear hK
  gi_wp2_with fail
  have hgg:Grew W ((W.alloc (.cells #[.int .i64 (x.1:Nat)] 3)).alloc (.cells #[.int .i64 (ah ps x.1).1,.int .i64 (ah ps x.1).2,.int .i64 (ah ps (x.1+1)).1,.int .i64 (ah ps (x.1+1)).2] 206)):=gw
  exact wu.out _ _ (hgg.aS _) (gW.grew hgg) ⟨⟨hB.trans (hgg.below.mono hB.size),hb.grew hgg⟩,hp⟩ ⟨W.heap.size,W.heap.size+1,⟨(heap_alloc_old _ _ (by simp)).trans (heap_alloc_new _ _),az _ _ _ (by simp)⟩,rfl⟩
 case body =>
  rintro l pre x a' W hl2 hlp ⟨⟨hB,hb⟩,hp⟩ ⟨B,C,⟨hx,hy⟩,rfl⟩ hlt
  subst ha
  subst hbx
  have c0:W.cell? ⟨w.heap.size,0,none⟩=some (.slice A ps.length c):=(hb.box 0 rfl).cell
  have hzl:=(hb.box 2 rfl).lt
  have HB:=hide hB
  have Hb:=hide hb
  have HP:=hide hp
  have HX:=hide hx
  have XY:=hide hy
  have HLP:=hide hlp
  clear hB hb hp hx hy hlp
  simp only[List.setIfInBounds_toArray,List.set_cons_succ,List.set_cons_zero]
  gi_wp2_with fail
  refine⟨trivial,?_⟩
  refine (CallsIn.inRound l (callsIn_wide.2 (jY _ _ _ _))).mono ?_
  rintro e w' ⟨rfl,rfl⟩
  dsimp only
  gi_wp2_with fail
  refine dJ ?_
  intro a1 W1 ha1 hW1
  have hg1:Grew W W1:=by rw[<-hW1];exact gw
  have hk1:W1.heap[W.heap.size]?=some (.cells #[.slice A ps.length c] 174 (0,0)):=by rw[<-hW1];exact heap_alloc_new _ _
  have hz1:W1.heap.size=W.heap.size+1:=by rw[<-hW1];simp
  have hB1:Below w.heap.size w W1:=HB.out.trans (hg1.below.mono HB.out.size)
  have hb1:=Hb.out.grew hg1
  have hx1:=(hg1.below.block _ (au HX.out)).trans HX.out
  have hy1:=(hg1.below.block _ (au XY.out)).trans XY.out
  have hBl:=au HX.out
  have hCl:=au XY.out
  have Yg:=HB.out.size
  obtain⟨r0,hlr⟩:=HLP.out
  have acd:=(hg1.below.block _ (au hlr)).trans hlr
  clear hW1
  have hWW:W0.heap.size<=W.heap.size:=Nat.le_of_lt (Nat.lt_of_le_of_lt hl2 (au hlr))
  refine wpIn_rangeFunc_ownN (n:=11) rfl acd (by omega) (gf:=153) (lb:=#[.pointer (some ⟨W.heap.size,0,none⟩)]) (by rw[<-ha1];simp[Act.eval]) trivial (enters_of Tryz.func153 (by kernel_rfl) rfl)
   ((gU 10 w.heap.size (fun _ _=>False) ps A c W.heap.size W1 (fun b _ hb=>hb.elim) hk1 (HR.out.below hB1) (by omega) (by omega)).inRound l)
   (fun h k=>h.trans k) gW.bk (Below.refl _ _) (fun _=>rfl)
   (fun pre2 V=>(((Below w.heap.size w V/\Bx V w.heap.size _)/\(KeepsFrom W0.heap.size W V/\gW (fun _ _=>False) W V))/\(V.heap[B]?=some (.cells #[.int .i64 (x.1:Nat)] 3 (0,0))/\V.heap[C]?=some (.cells #[.int .i64 (ah ps x.1).1,.int .i64 (ah ps x.1).2,.int .i64 (ah ps (x.1+1)).1,.int .i64 (ah ps (x.1+1)).2] 206 (0,0))))/\∀k∈pre2,nM ps x.1 k.1=true)
   (fun q pre2 V=>((Below w.heap.size w V/\Boxed V (w.heap.size+1) 4 (.bool false))/\KeepsFrom W0.heap.size W V)/\(q=.ret/\jh ps=false))
   (OwnFrom.and (OwnFrom.and (OwnFrom.and (OwnFrom.and (ownFrom_below (Nat.le_refl _) (by omega)) (Bx.own (by simp;omega))) (OwnFrom.and (ownFrom_keepsFrom (by omega)) (gW.own (by omega)))) (OwnFrom.and (nz (by omega)) (nz (by omega)))) (ownFrom_pure _))
   (fun q=>OwnFrom.and (OwnFrom.and (OwnFrom.and (ownFrom_below (Nat.le_refl _) (by omega)) (Own.from (boxed_own _ _ _) _)) (ownFrom_keepsFrom (by omega))) (ownFrom_pure _))
   ⟨⟨⟨⟨hB1,hb1⟩,hg1.aS _,gW.grew hg1⟩,hx1,hy1⟩,fun k hk=>by cases hk⟩
   (fun x2 a' V=>∃D,V.heap[D]?=some (.cells #[.int .i64 (ah ps x2.1).1,.int .i64 (ah ps x2.1).2,.int .i64 (ah ps (x2.1+1)).1,.int .i64 (ah ps (x2.1+1)).2] 206 (0,0))/\a'={ tmps:=(((a1.tmps.setIfInBounds 18 (.int .i64 (x2.1:Nat))).setIfInBounds 19 (.agg #[.int .i64 (ah ps x2.1).1,.int .i64 (ah ps x2.1).2,.int .i64 (ah ps (x2.1+1)).1,.int .i64 (ah ps (x2.1+1)).2])).setIfInBounds 6 (.int .i64 (x2.1:Nat))).setIfInBounds 7 (.pointer (some ⟨D,0,none⟩)),defers:=[] })
   (fun x2 a'=>by
    rintro s X Y row ⟨D,h1,h2⟩ hg hr
    exact⟨D,fG h1 hg (fun r e=>(hr r e).2),h2⟩)
   ?assign2 ?body2 ?done2 ?stop2
  case assign2 =>
   rintro l' pre2 x2 V K hI hK
   rw[show CQ ps x2=#[.int .i64 (x2.1:Nat),.agg #[.int .i64 (ah ps x2.1).1,.int .i64 (ah ps x2.1).2,.int .i64 (ah ps (x2.1+1)).1,.int .i64 (ah ps (x2.1+1)).2]] from rfl,FT]
   subst ha1
   simp only[List.setIfInBounds_toArray,List.set_cons_succ,List.set_cons_zero] at hK ⊢
   have wu:=hide hK
   have HI:=hide hI
   clear hK hI
   gi_wp2_with fail
   obtain⟨⟨⟨⟨i1,i2⟩,i3,i4⟩,i5,i6⟩,i7⟩:=HI.out
   have hgg:Grew V (V.alloc (.cells #[.int .i64 (ah ps x2.1).1,.int .i64 (ah ps x2.1).2,.int .i64 (ah ps (x2.1+1)).1,.int .i64 (ah ps (x2.1+1)).2] 206)):=gw
   exact wu.out _ _ (hgg.aS _) (gW.grew hgg) ⟨⟨⟨⟨i1.trans (hgg.below.mono i1.size),i2.grew hgg⟩,i3.trans (hgg.aS _),i4.trans (gW.grew hgg)⟩,(hgg.below.block _ (au i5)).trans i5,(hgg.below.block _ (au i6)).trans i6⟩,i7⟩ ⟨V.heap.size,heap_alloc_new _ _,rfl⟩
  case body2 =>
   rintro l' pre2 x2 a' V hl3 hlp ⟨⟨⟨⟨i1,i2⟩,i3,i4⟩,i5,i6⟩,i7⟩ ⟨D,hz,rfl⟩ hlt2
   subst ha1
   obtain⟨i,hil⟩:=x
   obtain⟨k,hkl⟩:=x2
   dsimp only at i5 i6 hz hlt2 i7
   have i8:=i2.box 1 rfl
   have c1:V.cell? ⟨B,0,none⟩=_:=ag i5 0
   have c2:V.cell? ⟨w.heap.size+2,0,none⟩=_:=(i2.box 2 rfl).cell
   have c3:V.cell? ⟨C,0,none⟩=some _:=ag i6 0
   have c4:V.cell? ⟨C,1,none⟩=some _:=ag i6 1
   have c5:V.cell? ⟨C,2,none⟩=some _:=ag i6 2
   have c6:V.cell? ⟨C,3,none⟩=some _:=ag i6 3
   have c7:V.cell? ⟨D,0,none⟩=some _:=ag hz 0
   have c8:V.cell? ⟨D,1,none⟩=some _:=ag hz 1
   have c9:V.cell? ⟨D,2,none⟩=some _:=ag hz 2
   have c10:V.cell? ⟨D,3,none⟩=some _:=ag hz 3
   have c11:V.cell? ⟨w.heap.size+1,0,none⟩=_:=i8.cell
   have f11:V.frozen? ⟨w.heap.size+1,0,none⟩=_:=i8.frozen
   have l11:=i8.lt
   have hBV:=au i5
   have hCV:=au i6
   have hDV:=au hz
   have hnV:=(i2.box 2 rfl).lt
   have KI:Hid ((((Below w.heap.size w V/\Bx V w.heap.size _)/\(KeepsFrom W0.heap.size W V/\gW (fun _ _=>False) W V))/\(V.heap[B]?=_/\V.heap[C]?=_))/\∀k∈pre2,nM ps i k.1=true):=hide ⟨⟨⟨⟨i1,i2⟩,i3,i4⟩,i5,i6⟩,i7⟩
   clear i1 i2 i3 i4 i5 i6 i7 i8 hz
   obtain⟨m,hmt⟩:∃m,bC (ah ps i) (ah ps (i+1)) (ah ps k) (ah ps (k+1))=m:=⟨_,rfl⟩
   have k9:=hide (fun W=>QJ (ah ps i) (ah ps (i+1)) (ah ps k) (ah ps (k+1)) W (eH vz.out _) (eH vz.out _) (eH vz.out _) (eH vz.out _))
   rw[hmt] at k9
   have hpk:nM ps i k=(decide (k<=i+1)||(decide (i=0/\k+1=ps.length) || !m)):=by unfold nM;rw[hmt]
   have HPK:=hide hpk
   clear hmt hpk
   have hcase:(decide ((k:Int)<=(i:Int)+1)=true/\k<=i+1)\/(decide ((k:Int)<=(i:Int)+1)=false/\((i:Int)==0)=true/\((k:Int)==(ps.length:Int)-1)=true/\i=0/\k+1=ps.length)\/(¬ k<=i+1/\¬ (i=0/\k+1=ps.length)/\decide ((k:Int)<=(i:Int)+1)=false/\((i:Int)==0)=false)\/(¬ k<=i+1/\¬ (i=0/\k+1=ps.length)/\decide ((k:Int)<=(i:Int)+1)=false/\((i:Int)==0)=true/\((k:Int)==(ps.length:Int)-1)=false):=by
    by_cases h1:k<=i+1
    ·exact .inl ⟨by simp;omega,h1⟩
    ·by_cases h2:i=0
     ·by_cases h3:k+1=ps.length
      ·exact .inr (.inl ⟨by simp;omega,by simp;omega,by simp;omega,h2,h3⟩)
      ·exact .inr (.inr (.inr ⟨h1,by omega,by simp;omega,by simp;omega,by simp;omega⟩))
     ·exact .inr (.inr (.inl ⟨h1,by omega,by simp;omega,by simp;omega⟩))
   simp only[List.setIfInBounds_toArray,List.set_cons_succ,List.set_cons_zero]
   have hiK:0<=(i:Int)/\(i:Int)<=100:=by omega
   have hkK:0<=(k:Int)/\(k:Int)<=100:=by omega
   have fin1:Hid (nM ps i k=true->∀k'∈pre2++[(⟨k,hkl⟩:Fin ps.length)],nM ps i k'.1=true):=hide fun hpp k' hk'=>by
    rcases List.mem_append.1 hk' with h|h
    ·exact KI.out.2 k' h
    ·obtain rfl:=List.mem_singleton.1 h
     exact hpp
   have fin2:Hid (nM ps i k=false->jh ps=false):=hide fun hpp=>by
    unfold jh
    refine List.all_eq_false.2 ⟨i,List.mem_range.2 hil,?_⟩
    rw[Bool.not_eq_true]
    exact List.all_eq_false.2 ⟨k,List.mem_range.2 hkl,by rw[hpp];simp⟩
   rcases hcase with⟨e1,e2⟩|⟨e1,e2,e3,e4,e5⟩|hcase
   ·have hp1:nM ps i k=true:=by rw[HPK.out];simp[e2]
    have HP1:=hide hp1
    clear hp1 e2
    gi_wp2_with fail
    exact⟨(Grew.refl _).aS _,gW.grew (Grew.refl _),KI.out.1,fin1.out HP1.out⟩
   ·have hp1:nM ps i k=true:=by rw[HPK.out];simp[e4,e5]
    have HP1:=hide hp1
    clear hp1 e4 e5
    gi_wp2_with fail
    exact⟨(Grew.refl _).aS _,gW.grew (Grew.refl _),KI.out.1,fin1.out HP1.out⟩
   ·have hp1:nM ps i k = !m:=by
     rw[HPK.out]
     rcases hcase with⟨a1,a2,_⟩|⟨a1,a2,_⟩<;>simp[a1,a2]
    have Ol:(decide ((k:Int)<=(i:Int)+1)=false/\((i:Int)==0)=false)\/(decide ((k:Int)<=(i:Int)+1)=false/\((i:Int)==0)=true/\((k:Int)==(ps.length:Int)-1)=false):=by
     rcases hcase with⟨_,_,a⟩|⟨_,_,a⟩
     ·exact .inl a
     ·exact .inr a
    have HP1:=hide hp1
    clear hp1 hcase
    rcases Ol with⟨e1,e2⟩|⟨e1,e2,e3⟩
    all_goals
     gi_wp2_with fail
     refine⟨trivial,?_⟩
     refine (CallsIn.inRound l' (CallsIn.inRound l (callsIn_wide.2 (k9.out _)))).mono ?_
     rintro e w' ⟨rfl,⟨n5,Gv⟩,rfl⟩
     dsimp only
     have hgg:Grew V (grow (dr V n5) Gv):=gw
     have MQ:=hide hgg
     clear hgg
     cases m
     ·gi_wp2_with fail
      obtain⟨⟨⟨⟨i1,i2⟩,i3,i4⟩,i5,i6⟩,i7⟩:=KI.out
      exact⟨MQ.out.aS _,gW.grew MQ.out,⟨⟨⟨i1.trans (MQ.out.below.mono i1.size),i2.grew MQ.out⟩,i3.trans (MQ.out.aS _),i4.trans (gW.grew MQ.out)⟩,(MQ.out.below.block _ (au i5)).trans i5,(MQ.out.below.block _ (au i6)).trans i6⟩,fin1.out (by rw[HP1.out];rfl)⟩
     ·gi_wp2_with fail
      obtain⟨⟨⟨⟨i1,i2⟩,i3,i4⟩,i5,i6⟩,i7⟩:=KI.out
      have hgs:Grew (V.setCell ⟨w.heap.size+1,0,none⟩ (.bool false)) (grow (dr (V.setCell ⟨w.heap.size+1,0,none⟩ (.bool false)) n5) Gv):=gw
      have hbs:=i1.setCell (p:=⟨w.heap.size+1,0,none⟩) (by simp) (.bool false)
      have hks:=KeepsFrom.setCell W0.heap.size V ⟨w.heap.size+1,0,none⟩ (.bool false)
      have agx:=KeepsFrom.setCell W1.heap.size V ⟨w.heap.size+1,0,none⟩ (.bool false)
      exact⟨agx.trans (hgs.aS _),⟨⟨hbs.trans (hgs.below.mono hbs.size),(hgs.below.block _ (by simp;omega)).trans ((i2.box 1 rfl).set _)⟩,(i3.trans hks).trans (hgs.aS _)⟩,rfl,fin2.out (by rw[HP1.out];rfl)⟩
  case done2 =>
   rintro xs V hS ⟨⟨⟨⟨i1,i2⟩,i3,i4⟩,i5,i6⟩,i7⟩
   subst ha1
   have hrow:rowOk ps x.1=true:=by
    unfold rowOk
    rw[<-hS,List.all_map,List.all_eq_true]
    exact fun k hk=>i7 k hk
   have Ac:=hide hrow
   have KI:=hide (And.intro (And.intro i1 i2) (And.intro i3 i4))
   clear i1 i2 i3 i4 i5 i6 i7 hS hrow
   gi_wp2_with fail
   refine⟨KI.out.2.1,KI.out.2.2,KI.out.1,fun i hi=>?_⟩
   rcases List.mem_append.1 hi with h|h
   ·exact HP.out i h
   ·obtain rfl:=List.mem_singleton.1 h
    exact Ac.out
  case stop2 =>
   rintro q pre2 V hS ⟨⟨⟨i1,i2⟩,i3⟩,rfl,i4⟩
   subst ha1
   have KI:=hide (And.intro (And.intro i1 i2) (And.intro i3 i4))
   clear i1 i2 i3 i4 hS
   gi_wp2_with fail
   exact⟨KI.out.2.1,KI.out.1,rfl,KI.out.2.2⟩
 case done =>
  subst ha
  subst hbx
  rintro D xs W hD hS ⟨⟨hB,hb⟩,hp⟩ hK
  have b1:Boxed W (w.heap.size+1) _ _:=hb.box 1 rfl
  have c1:=b1.cell
  have f1:=b1.frozen
  have HB:=hide hB
  have HS:=hide hS
  have HP:=hide hp
  clear hB hb hS hp b1
  gi_wp2_with fail
  have hK2:=(KeepsOthers.setCell W ⟨w.heap.size+1,0,none⟩ (.bool true)).same D _ hK rfl
  refine⟨by simp,.inl ⟨_,_,rfl,run_takeDeferred hK2,?_⟩⟩
  have hb5:=(HB.out.setCell (p:=⟨w.heap.size+1,0,none⟩) (by simp) (.bool true)).trans (belowK_b (w:=w) (Nat.le_refl _) _ D _ (.deferred none) (by omega) hK2 rfl rfl)
  have e3:((W.setCell ⟨w.heap.size+1,0,none⟩ (.bool true)).putObj D (.deferred none)).cell? ⟨w.heap.size+1,0,none⟩=some (.bool true):=by
   rw[bG (by omega)]
   go_simp
  refine⟨.bool true,by simp[results,Tryz.results111,go_sem,e3],?_⟩
  refine aC.mk' (dU ?_) (Grew.of_below hb5)
  unfold jh
  rw[<-HS.out,List.all_map]
  symm
  rw[List.all_eq_true]
  exact fun v hv=>HP.out v hv
 case stop =>
  subst ha
  rintro D q pre W hD hr ⟨⟨hB,hb1⟩,rfl,hp⟩ hK
  have c3:W.cell? ⟨w.heap.size+1,0,none⟩=_:=hb1.cell
  have HB:=hide hB
  have HP:=hide hp
  clear hB hb1 hr hp
  gi_wp2_with fail
  refine⟨by simp,.inl ⟨_,_,rfl,run_takeDeferred hK,?_⟩⟩
  have hb5:=HB.out.trans (belowK_b (w:=w) (Nat.le_refl _) _ D _ (.deferred none) (by omega) hK rfl rfl)
  have e3:=(bG (W:=W) (D:=D) (i:=0) (o:=.deferred none) (b:=w.heap.size+1) (by omega)).trans c3
  refine⟨.bool false,by simp[results,Tryz.results111,go_sem,e3],?_⟩
  exact aC.mk' (dU HP.out.symm) (Grew.of_below hb5)
end Go.Proofs.YtlkgjmnjhifehaaGreat
namespace Go.Proofs.YtlkgjmnjhifehaaGreat
open Go.RowKit Go.Sort
attribute [local go_sem] dA steadyUpon
attribute [local go_sem ↓] bU bI aX aW aV aU aT
attribute [local go_sem] bH aK aJ size_grow tape_grow cell?_grow' aF aB grow_grow bW aY dR cO bY bK aN cZ aZ bZ bJ
attribute [local irreducible] wpSteady
def mQ (ps:List Pt)(i:Nat):Bool := !((decide (0<i)&&decide (0<=ord (ah ps 0) (ah ps i)))||tn (ah ps (i+ps.length-1)) (ah ps i) (ah ps (i+1))==0)
def dm (ps:List Pt):Bool:=(decide (3<=ps.length/\ps.length<=24)&&ps.all Pt.ok)&&((List.range ps.length).all (mQ ps)&&(jh ps&&decide (0<dW ps)))
theorem YQ (a b:Pt)(r:Int)(w:World)(h:ord a b=r):Calls Tryz.prog 108 #[pt a.1 a.2,pt b.1 b.2] w (aC w (.int .i64 r)):=by
 have:=AX a b w
 rwa [h] at this
theorem UY (ps:List Pt)(A:Option Addr)(c:Nat)(r:Bool)(w:World)(hr:Rd w w.heap.size 2 A (ps.map dY))(hl:ps.length<=100)(hok:ps.all Pt.ok=true)(h:jh ps=r) :
  Calls Tryz.prog 111 #[.slice A ps.length c] w (aC w (.bool r)):=by
 have:=Np ps A c w hr hl hok
 rwa [h] at this
theorem Yz (ps:List Pt)(A:Option Addr)(c:Nat)(r:Int)(w:World)(hr:Rd w w.heap.size 2 A (ps.map dY))(hl:ps.length<=100)(hok:ps.all Pt.ok=true)(h:dW ps=r) :
  Calls Tryz.prog 112 #[.slice A ps.length c] w (aC w (.int .i64 r)):=by
 have:=QR ps A c w hr hl hok
 rwa [h] at this
theorem DY {f:Nat->Bool}{k:Nat}(h:(List.range k).all f=true)(hk:f k=true):(List.range (k+1)).all f=true:=by
 rw[List.range_succ,List.all_append,h]
 simpa using hk
theorem OV (ps:List Pt)(A:Option Addr)(c:Nat)(w:World)(hr:Rd w w.heap.size 2 A (ps.map dY))(hc:ps.length<=100000000000000) :
  Calls Tryz.prog 88 #[.slice A ps.length c] w (aC w (.bool (dm ps))):=by
 have hm:=aP
 obtain⟨r,hrr⟩:∃r,dm ps=r:=⟨_,rfl⟩
 rw[hrr]
 by_cases h3:ps.length<3
 ·obtain rfl:r=false:=by
   rw[<-hrr];unfold dm
   rw[show decide (3<=ps.length/\ps.length<=24)=false by simp;omega]
   rfl
  clear hrr
  go_enter Tryz.func88,Tryz.ntmps88
  go_wp2_with fail
  go_ret
  exact aC.mk' rfl gw
 ·by_cases h24:24<ps.length
  ·obtain rfl:r=false:=by
    rw[<-hrr];unfold dm
    rw[show decide (3<=ps.length/\ps.length<=24)=false by simp;omega]
    rfl
   clear hrr
   go_enter Tryz.func88,Tryz.ntmps88
   go_wp2_with fail
   go_ret
   exact aC.mk' rfl gw
  ·cases hok:ps.all Pt.ok
   ·obtain rfl:r=false:=by
     rw[<-hrr];unfold dm
     rw[hok,Bool.and_false]
     rfl
    have k1:=hide (fun W (hg:Grew w W)=>Uz ps A c true W (hr.up hg) hc hok)
    clear hrr hok
    go_enter Tryz.func88,Tryz.ntmps88
    go_wp2_with (go_at_call 107;with_reducible refine aQ (k1.out _ gw) fun _ _=>?_;dsimp only)
    go_ret
    exact aC.mk' rfl gw
   ·have k1:=hide (fun W (hg:Grew w W)=>Uz ps A c false W (hr.up hg) hc hok)
    have hrv:r=((List.range ps.length).all (mQ ps)&&(jh ps&&decide (0<dW ps))):=by
     rw[<-hrr];unfold dm
     rw[hok,show decide (3<=ps.length/\ps.length<=24)=true by simp;omega]
     rfl
    have HRV:=hide hrv
    have vz:=hide hok
    obtain⟨sm,hsm⟩:∃s,jh ps=s:=⟨_,rfl⟩
    obtain⟨tw,htw⟩:∃s,dW ps=s:=⟨_,rfl⟩
    have k2:=hide (fun W (hg:Grew w W)=>UY ps A c sm W (hr.up hg) (by omega) vz.out hsm)
    have k3:=hide (fun W (hg:Grew w W)=>Yz ps A c tw W (hr.up hg) (by omega) vz.out htw)
    rw[hsm,htw] at HRV
    clear hrr hrv hok hsm htw
    go_enter Tryz.func88,Tryz.ntmps88
    go_wp2_with (go_at_call 107;with_reducible refine aQ (k1.out _ gw) fun _ _=>?_;dsimp only)
    go_loopw [22] (fun i wr=>∃k:Nat,k<=ps.length/\i=.int .i64 k/\Grew w wr/\wW ((List.range k).all (mQ ps)=true)) (fun i _=>ps.length-(intOf i).toNat)
    case atStart=>exact⟨0,by omega,rfl,gw,rfl⟩
    case round =>
     obtain⟨k,hk,rfl,hg,hall⟩:=hrel
     have HG:=hide hg
     have HA:=hide hall.stop
     clear hg hall
     by_cases hlt:k<ps.length
     ·have hpos:0<ps.length:=by omega
      obtain⟨b,off,hA,hb,h0,h1⟩:=ug (hr.up HG.out) (gV hlt)
      obtain⟨b',off',hA',hb',g0,g1⟩:=ug (hr.up HG.out) (gV hpos)
      have hix:=aO (cap:=c) Tryz.underlying174 Tryz.sizeOf28 hA.out hlt
      have hix0:=oI (cap:=c) Tryz.underlying174 Tryz.sizeOf28 hA'.out hpos
      simp only[Nat.zero_mul,Nat.add_zero] at g0 g1
      have hq1:=zO (k+ps.length-1) hpos
      have hq2:=zO (k+1) hpos
      have o1:=eH vz.out (k+ps.length-1)
      have o2:=eH vz.out k
      have o3:=eH vz.out (k+1)
      have kc1:=hide (fun W' (hg:Grew w W')=>wJ ps A c ((k:Int)-1) ((k+ps.length-1)%ps.length) _ W' (hr.up hg) (by omega) (by omega) (by rw[Int.natCast_emod,show ((k+ps.length-1:Nat):Int)=(k:Int)-1+(ps.length:Int) by omega]) hq1)
      have kc2:=hide (fun W' (hg:Grew w W')=>wJ ps A c ((k:Int)+1) ((k+1)%ps.length) _ W' (hr.up hg) (by omega) (by omega) (by rw[Int.natCast_emod,Int.add_emod_right];rfl) hq2)
      obtain⟨tt,htt⟩:∃t,tn (ah ps (k+ps.length-1)) (ah ps k) (ah ps (k+1))=t:=⟨_,rfl⟩
      obtain⟨oo,hoo⟩:∃o,ord (ah ps 0) (ah ps k)=o:=⟨_,rfl⟩
      have kt:=hide (fun W'=>nK _ _ _ tt W' o1 o2 o3 htt)
      have ko:=hide (fun W'=>YQ (ah ps 0) (ah ps k) oo W' hoo)
      have hvk:mQ ps k = !((decide (0<k)&&decide (0<=oo))||tt==0):=by unfold mQ;rw[htt,hoo]
      generalize ah ps (k+ps.length-1)=qa at *
      generalize ah ps k=qb at *
      generalize ah ps (k+1)=qc at *
      generalize ah ps 0=qd at *
      obtain⟨a1,a2⟩:=qa
      obtain⟨b1,b2⟩:=qb
      obtain⟨c1,c2⟩:=qc
      obtain⟨d1,d2⟩:=qd
      dsimp only at h0 h1 g0 g1
      have ew1:IntKind.i64.wrap ((k:Int)-1)=(k:Int)-1:=by unfold IntKind.wrap;simp[IntKind.bits,IntKind.signed];omega
      have ew2:IntKind.i64.wrap ((k:Int)+1)=(k:Int)+1:=by unfold IntKind.wrap;simp[IntKind.bits,IntKind.signed];omega
      have HVK:=hide hvk
      have hcase:(decide (0<k)=true/\decide (0<=oo)=true)\/(decide (0<k)=true/\decide (0<=oo)=false)\/decide (0<k)=false:=by
       cases decide (0<k)<;>cases decide (0<=oo)<;>simp
      clear hq1 hq2 o1 o2 o3 htt hoo hvk hA hA'
      rcases hcase with⟨e1,e2⟩|⟨e1,e2⟩|e1
      ·have hvf:mQ ps k=false:=by rw[HVK.out,e1,e2];rfl
       obtain rfl:r=false:=by
        rw[HRV.out,List.all_eq_false.2 ⟨k,List.mem_range.2 hlt,by rw[hvf];simp⟩]
        rfl
       have e1':0<k:=by simpa using e1
       clear hvf e1
       go_wp2_with fail
       refine ay 29 [] [] hm (h:=?_)
       repeat (refine ax (fun K hK=>?_);go_simp;first|(refine hK _ ?_;clear hK K)|(apply Exists.intro;refine⟨fun _=>?_,hK _ ?_⟩;(first|(go_at_call 108;with_reducible exact ko.out _)|(go_at_call 110;first|with_reducible exact kc1.out _ (HG.out.trans gw)|with_reducible exact kc2.out _ (HG.out.trans gw))|(go_at_call 109;with_reducible exact kt.out _));clear hK K))
       refine lU fun nq osq=>?_
       try simp only[Act.put,aG]
       try dsimp only
       go_wp2_with fail
       go_ret
       exact aC.mk' rfl (HG.out.trans gw)
      all_goals
       have hvt:mQ ps k = !(tt==0):=by
        rw[HVK.out,e1]
        try rw[e2]
        rfl
       have HVT:=hide hvt
       clear hvt
       first
        | have e1':0<k:=by simpa using e1
        | have e1':¬ 0<k:=by simpa using e1
       clear e1
       by_cases ht0:tt=0
       ·obtain rfl:r=false:=by
         rw[HRV.out,List.all_eq_false.2 ⟨k,List.mem_range.2 hlt,by rw[HVT.out,ht0];simp⟩]
         rfl
        subst ht0
        go_wp2_with fail
        refine ay 29 [] [] hm (h:=?_)
        repeat (refine ax (fun K hK=>?_);go_simp;first|(refine hK _ ?_;clear hK K)|(apply Exists.intro;refine⟨fun _=>?_,hK _ ?_⟩;(first|(go_at_call 108;with_reducible exact ko.out _)|(go_at_call 110;first|with_reducible exact kc1.out _ (HG.out.trans gw)|with_reducible exact kc2.out _ (HG.out.trans gw))|(go_at_call 109;with_reducible exact kt.out _));clear hK K))
        refine lU fun nq osq=>?_
        try simp only[Act.put,aG]
        try dsimp only
        go_wp2_with fail
        go_ret
        exact aC.mk' rfl (HG.out.trans gw)
       ·have ht1:(tt==0)=false:=by simpa using ht0
        have hvt:mQ ps k=true:=by rw[HVT.out,ht1];rfl
        have ahb:=hide hvt
        clear hvt ht0 HVT
        go_wp2_with fail
        refine ay 29 [] [] hm (h:=?_)
        repeat (refine ax (fun K hK=>?_);go_simp;first|(refine hK _ ?_;clear hK K)|(apply Exists.intro;refine⟨fun _=>?_,hK _ ?_⟩;(first|(go_at_call 108;with_reducible exact ko.out _)|(go_at_call 110;first|with_reducible exact kc1.out _ (HG.out.trans gw)|with_reducible exact kc2.out _ (HG.out.trans gw))|(go_at_call 109;with_reducible exact kt.out _));clear hK K))
        refine lU fun nq osq=>?_
        try simp only[Act.put,aG]
        try dsimp only
        go_wp2_with fail
        go_roundw
        case rel=>exact⟨k+1,by omega,by go_num,HG.out.trans gw,DY HA.out ahb.out⟩
        case measure=>simp[intOf];omega
     ·obtain rfl:k=ps.length:=by omega
      rw[HA.out,Bool.true_and] at HRV
      cases sm
      ·obtain rfl:r=false:=HRV.out
       go_wp2_with (first|(go_at_call 111;with_reducible refine aQ (k2.out _ (HG.out.trans gw)) fun _ _=>?_;dsimp only)|(go_at_call 112;with_reducible refine aQ (k3.out _ (HG.out.trans gw)) fun _ _=>?_;dsimp only))
       go_ret
       exact aC.mk' rfl (HG.out.trans gw)
      ·rw[Bool.true_and] at HRV
       have hrd:decide (0<tw)=r:=HRV.out.symm
       go_wp2_with (first|(go_at_call 111;with_reducible refine aQ (k2.out _ (HG.out.trans gw)) fun _ _=>?_;dsimp only)|(go_at_call 112;with_reducible refine aQ (k3.out _ (HG.out.trans gw)) fun _ _=>?_;dsimp only))
       go_ret
       exact aC.mk' (dU (by simp[*])) (HG.out.trans gw)
theorem jJ (ps:List Pt)(A:Option Addr)(c:Nat)(r:Bool)(w:World)(hr:Rd w w.heap.size 2 A (ps.map dY))(hc:ps.length<=100000000000000)(h:dm ps=r) :
  Calls Tryz.prog 88 #[.slice A ps.length c] w (aC w (.bool r)):=by
 have:=OV ps A c w hr hc
 rwa [h] at this
theorem jH {ps:List Pt}(h:dm ps=true):(3<=ps.length/\ps.length<=24)/\ps.all Pt.ok=true:=by
 unfold dm at h
 simp only[Bool.and_eq_true,decide_eq_true_eq] at h
 exact h.1
end Go.Proofs.YtlkgjmnjhifehaaGreat
