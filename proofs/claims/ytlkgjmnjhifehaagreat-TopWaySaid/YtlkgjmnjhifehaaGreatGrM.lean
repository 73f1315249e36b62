/- Package grid: Least, walked (of a valid grid, and a box within it). -/
import Derived.Test.YtlkgjmnjhifehaaGreatGrY
import Derived.Test.YtlkgjmnjhifehaaGreatGrV
import Derived.Test.YtlkgjmnjhifehaaGreatSpb
import Derived.Test.YtlkgjmnjhifehaaGreatBoQ
import Derived.Lib.MinMax
import Derived.Sort.CutIn
set_option linter.unusedSimpArgs false
set_option linter.unusedVariables false
set_option maxHeartbeats 16000000
set_option maxRecDepth 100000
namespace Go.Proofs.YtlkgjmnjhifehaaGreat
open Go.RowKit Go.Sort Go.Lib
attribute [local go_sem] dA steadyUpon
attribute [local go_sem ↓] bU bI aX aW aV aU aT
attribute [local go_sem] bH aK aJ size_grow tape_grow cell?_grow' aF aB grow_grow bW aY dR cO bY bK aN cZ aZ bZ bJ
attribute [local irreducible] wpSteady
attribute [local go_sem] Oper.semAt_some
theorem Qx {cx cy sz:Int}{gw gh c:Nat}(hf:fA cx cy sz gw gh=true)(hc:c<gw*gh) :
  okB (cellAt cx cy sz gw c)=true/\(cellAt cx cy sz gw c).1.1<(cellAt cx cy sz gw c).1.2/\(cellAt cx cy sz gw c).2.1<(cellAt cx cy sz gw c).2.2 /\
  ∀p,inB (cellAt cx cy sz gw c) p->inB (allB cx cy sz gw gh) p/\p.ok=true:=by
 unfold fA qf at hf
 rw[Bool.and_eq_true,Bool.and_eq_true,decide_eq_true_eq] at hf
 obtain⟨⟨h1,h2,h3⟩,h4,h5⟩:=hf
 unfold okB wK at h4
 unfold okB allB at h5
 rw[decide_eq_true_eq] at h4 h5
 dsimp only at h4 h5
 have hgw:0<gw:=by omega
 have hi:c%gw<gw:=Nat.mod_lt _ hgw
 have hj:c / gw<gh:=by
  rw[Nat.div_lt_iff_lt_mul hgw]
  rw[Nat.mul_comm]
  exact hc
 have m1:0<=((c%gw:Nat):Int)*sz:=Int.mul_nonneg (Int.natCast_nonneg _) (by omega)
 have m2:0<=((c / gw:Nat):Int)*sz:=Int.mul_nonneg (Int.natCast_nonneg _) (by omega)
 have m3:((c%gw:Nat):Int)*sz+sz<=(gw:Int)*sz:=by
  have:(((c%gw:Nat):Int)+1)*sz<=(gw:Int)*sz:=Int.mul_le_mul_of_nonneg_right (by omega) (by omega)
  rw[Int.add_mul,Int.one_mul] at this
  exact this
 have m4:((c / gw:Nat):Int)*sz+sz<=(gh:Int)*sz:=by
  have:(((c / gw:Nat):Int)+1)*sz<=(gh:Int)*sz:=Int.mul_le_mul_of_nonneg_right (by omega) (by omega)
  rw[Int.add_mul,Int.one_mul] at this
  exact this
 unfold cellAt okB allB inB Pt.ok lh
 dsimp only
 generalize ((c%gw:Nat):Int)*sz=X at *
 generalize ((c / gw:Nat):Int)*sz=Y at *
 generalize (gw:Int)*sz=Z at *
 generalize (gh:Int)*sz=T at *
 refine⟨by rw[decide_eq_true_eq];omega,by omega,by omega,fun p hp=>⟨by omega,by rw[decide_eq_true_eq];omega⟩⟩
def KE (cell:Nat->B4)(cs:List Int)(b:B4)(d:Int)(k:Nat):Int:=if qo (cell k) b=true then min d (xH cs k) else d
def nX (cell:Nat->B4)(cs:List Int)(b:B4)(k:Nat):Int:=(List.range k).foldl (KE cell cs b) 100000
theorem Es (cell:Nat->B4)(cs:List Int)(b:B4)(k:Nat):nX cell cs b (k+1)=KE cell cs b (nX cell cs b k) k:=by
 unfold nX
 rw[List.range_succ,List.foldl_append]
 rfl
def FM (cell:Nat->B4)(cs:List Int)(b:B4)(ks:List Nat):Int×Nat:=ks.foldl (fun s k=>(if qo (cell k) b=true then min s.1 (xH cs s.2) else s.1,s.2+1)) (100000,0)
theorem Be (cell:Nat->B4)(cs:List Int)(b:B4)(ks:List Nat)(k:Nat):FM cell cs b (ks++[k])=(if qo (cell k) b=true then min (FM cell cs b ks).1 (xH cs (FM cell cs b ks).2) else (FM cell cs b ks).1,(FM cell cs b ks).2+1):=by
 unfold FM
 rw[List.foldl_append]
 rfl
theorem KF (cell:Nat->B4)(cs:List Int)(b:B4):∀ks:List Nat,(FM cell cs b ks.reverse).2=ks.length
 | []=>rfl
 | k::ks=>by
  rw[List.reverse_cons,Be]
  dsimp only
  rw[KF cell cs b ks]
  rfl
theorem V4 (cell:Nat->B4)(cs:List Int)(b:B4)(ks:List Nat):(FM cell cs b ks).2=ks.length:=by
 have:=KF cell cs b ks.reverse
 rwa [List.reverse_reverse,List.length_reverse] at this
theorem Eo (cell:Nat->B4)(cs:List Int)(b:B4):∀n,FM cell cs b (List.range n)=(nX cell cs b n,n)
 | 0=>rfl
 | n+1=>by
  rw[List.range_succ,Be,Eo cell cs b n,Es]
  rfl
theorem aak (cx cy sz:Int)(nw nh:Nat)(A:Option Addr)(c:Nat)(cs:List Int)(b:B4)(w:World)(hr:Rd w w.heap.size 1 A (cs.map encZ))(hv:rQ ⟨cx,cy,sz,nw,nh,A,c,cs⟩=true)(hb:okB b=true)(hin:nJ b (allB cx cy sz nw nh)=(true,0)) :
  Calls Tryz.prog 14 #[.agg #[.int .i64 cx,.int .i64 cy,.int .i64 sz,.int .i64 nw,.int .i64 nh,.slice A cs.length c],vk b] w (aC w (.tuple #[.int .i64 (nX (cellAt cx cy sz nw) cs b (nw*nh)),.int .i64 0])):=by
 have hm:=aP
 have hv2:=hv
 unfold rQ at hv2
 rw[Bool.and_eq_true,Bool.and_eq_true,decide_eq_true_eq] at hv2
 obtain⟨hf,hln,_⟩:=hv2
 dsimp only at hf hln
 have hsd:(1<=sz/\sz<=100000)/\(1<=nw/\nw<=64)/\(1<=nh/\nh<=64):=by
  unfold fA qf at hf
  rw[Bool.and_eq_true,decide_eq_true_eq] at hf
  omega
 have hcn:(-1000000<=cx/\cx<=1000000)/\(-1000000<=cy/\cy<=1000000):=by
  unfold fA okB wK at hf
  rw[Bool.and_eq_true,Bool.and_eq_true,decide_eq_true_eq] at hf
  dsimp only at hf
  omega
 have hcl:cs.length=nw*nh:=by exact_mod_cast hln
 have hn4:nw*nh<=4096:=Nat.mul_le_mul hsd.2.1.2 hsd.2.2.2
 have hfb:wG cx cy sz nw nh=allB cx cy sz nw nh:=by
  unfold wG
  unfold fA at hf
  rw[Bool.and_eq_true,Bool.and_eq_true] at hf
  rw[if_pos (by rw[hf.1,hf.2.1];rfl)]
 have k1:=hide (fun W (hg:Grew w W)=>MN ⟨cx,cy,sz,nw,nh,A,c,cs⟩ true W (hr.up hg) (show cs.length<=100000000000000 by omega) hv)
 have k2:=hide (fun W=>jM b true W hb)
 have k3:=hide (fun W=>Dt ⟨cx,cy,sz,nw,nh,A,c,cs⟩ W (allB cx cy sz nw nh) true hfb hf)
 have k4:=hide (fun W=>FX b (allB cx cy sz nw nh) W)
 have k5:=hide (fun W=>Hm ⟨cx,cy,sz,nw,nh,A,c,cs⟩ W)
 have k6:=hide (fun W i (hi:i<nw*nh)=>TT (cellAt cx cy sz nw i) b _ W (Qx hf hi).1 hb rfl)
 rw[hin] at k4
 unfold Gr.val at k1 k3 k5
 dsimp only at k1 k3 k4 k5
 obtain⟨r,hrr⟩:∃r,allB cx cy sz nw nh=r:=⟨_,rfl⟩
 rw[hrr] at k3 k4
 have HR:=hide hr
 have HCL:=hide hcl
 obtain⟨b0,hb0⟩:∃b',b'=b:=⟨b,rfl⟩
 rw[<-hb0] at k2 k4 k6 ⊢
 clear hr hv hb hin hf hln hfb hrr hb0
 obtain⟨⟨r1,r2⟩,⟨r3,r4⟩⟩:=r
 obtain⟨⟨b1,b2⟩,⟨b3,b4⟩⟩:=b0
 try dsimp only at k2 k3 k4 ⊢
 obtain⟨nc,hnc⟩:∃n,cs.length=n:=⟨_,rfl⟩
 rw[hnc] at k1 k3 k5 hcl ⊢
 have TZ:=hide hnc
 have HNL:=hide hcl
 clear hnc hcl
 refine (callsIn_wide (n:=13)).1 ?_
 refine callsIn_of_wp_marks Tryz.func14 rfl trivial ?_ rfl
 simp only[Tryz.ntmps14,List.size_toArray,List.length_cons,List.length_nil,Nat.reduceAdd,Nat.reduceSub,Array.replicate_succ,Array.replicate_zero,List.push_toArray,List.append_toArray,List.nil_append,List.cons_append]
 gi_wp2_with fail
 refine⟨trivial,?_⟩
 refine (callsIn_wide.2 (k1.out _ gw)).mono ?_
 rintro e w1 ⟨rfl,hg1⟩
 obtain⟨gb,hgb⟩:∃g:Obj,g=.cells #[.int .i64 cx,.int .i64 cy,.int .i64 sz,.int .i64 (nw:Int),.int .i64 (nh:Int),.slice A nc c] 41 (0,0):=⟨_,rfl⟩
 obtain⟨bo,Fq⟩:∃g:Obj,g=.cells #[.int .i64 b1,.int .i64 b2,.int .i64 b3,.int .i64 b4] 50 (0,0):=⟨_,rfl⟩
 have hb1:Bx w1 w.heap.size [gb,bo]:=by rw[hgb,Fq];refine (Bx.lT _ w).1.grew ?_;simp only[List.foldl];exact Grew.trans gw hg1
 have hw1:Grew w w1:=Grew.trans gw hg1
 have X3:=hide hgb
 have HBO:=hide Fq
 have Hb1:=hide hb1
 have Hw1:=hide hw1
 have hq:w1.heap[w.heap.size+1]?=some (.cells #[.int .i64 b1,.int .i64 b2,.int .i64 b3,.int .i64 b4] 50 (0,0)):=hb1 1 _ (by rw[<-Fq];rfl)
 have q0:=ag hq 0
 have q1:=ag hq 1
 have q2:=ag hq 2
 have q3:=ag hq 3
 have lq:=au hq
 clear hq hb1 hw1 hg1 hgb Fq
 dsimp only
 gi_wp2_with fail
 refine⟨trivial,?_⟩
 refine (callsIn_wide.2 (k2.out _)).mono ?_
 rintro e w2 ⟨rfl,hg2⟩
 have hw2:Grew w1 w2:=Grew.trans gw hg2
 have Hw2:=hide hw2
 have hq:w2.heap[w.heap.size]?=some (.cells #[.int .i64 cx,.int .i64 cy,.int .i64 sz,.int .i64 (nw:Int),.int .i64 (nh:Int),.slice A nc c] 41 (0,0)):=(Hb1.out.grew hw2) 0 _ (by rw[<-X3.out];rfl)
 clear hw2 hg2 q0 q1 q2 q3 lq
 have q0:=ag hq 0
 have q1:=ag hq 1
 have q2:=ag hq 2
 have q3:=ag hq 3
 have q4:=ag hq 4
 have q5:=ag hq 5
 have lq:=au hq
 clear hq
 dsimp only
 gi_wp2_with fail
 refine⟨trivial,?_⟩
 refine (callsIn_wide.2 (k3.out _)).mono ?_
 rintro e w3 ⟨rfl,hg3⟩
 have hw3:Grew w2 w3:=Grew.trans gw hg3
 have Hw3:=hide hw3
 have hq:w3.heap[w.heap.size+1]?=some (.cells #[.int .i64 b1,.int .i64 b2,.int .i64 b3,.int .i64 b4] 50 (0,0)):=((Hb1.out.grew Hw2.out).grew hw3) 1 _ (by rw[<-HBO.out];rfl)
 clear hw3 hg3 q0 q1 q2 q3 q4 q5 lq
 have q0:=ag hq 0
 have q1:=ag hq 1
 have q2:=ag hq 2
 have q3:=ag hq 3
 have lq:=au hq
 clear hq
 dsimp only
 gi_wp2_with fail
 refine⟨trivial,?_⟩
 refine (callsIn_wide.2 (k4.out _)).mono ?_
 rintro e w4 ⟨rfl,hg4⟩
 have hw4:Grew w3 w4:=Grew.trans gw hg4
 have Hw4:=hide hw4
 have hq:w4.heap[w.heap.size]?=some (.cells #[.int .i64 cx,.int .i64 cy,.int .i64 sz,.int .i64 (nw:Int),.int .i64 (nh:Int),.slice A nc c] 41 (0,0)):=(((Hb1.out.grew Hw2.out).grew Hw3.out).grew hw4) 0 _ (by rw[<-X3.out];rfl)
 clear hw4 hg4 q0 q1 q2 q3 lq
 have q0:=ag hq 0
 have q1:=ag hq 1
 have q2:=ag hq 2
 have q3:=ag hq 3
 have q4:=ag hq 4
 have q5:=ag hq 5
 have lq:=au hq
 clear hq
 dsimp only
 gi_wp2_with fail
 refine⟨trivial,?_⟩
 refine (callsIn_wide.2 (k5.out _)).mono ?_
 rintro e w5 ⟨rfl,hw5⟩
 dsimp only
 gi_wp2_with fail
 refine dJ ?_
 intro a0 W0 ha hW
 have agi:=hw5
 subst hW
 obtain⟨P,hP⟩:∃P,w4.heap.size=P:=⟨_,rfl⟩
 have hg5:Grew w4 w5:=by rw[<-hw5];exact gw
 have hp0:w5.heap[P]?=some (.cells #[.int .i64 100000] 3 (0,0)):=by rw[<-hw5,<-hP];exact (heap_alloc_old _ _ (by simp;omega)).trans ((heap_alloc_old _ _ (by simp)).trans (heap_alloc_new _ _))
 have hp1:w5.heap[P+1]?=some (.cells #[.int .i64 0] 3 (0,0)):=by rw[<-hw5,<-hP];exact (heap_alloc_old _ _ (by simp)).trans (az _ _ _ (by simp))
 have hk0:w5.heap[P+1+1]?=some (.cells #[.int .i64 cx,.int .i64 cy,.int .i64 sz,.int .i64 (nw:Int),.int .i64 (nh:Int),.slice A nc c] 41 (0,0)):=by rw[<-hw5,<-hP];exact az _ _ _ (by simp)
 have hsz:w5.heap.size=P+1+1+1:=by rw[<-hw5,<-hP];simp
 have hg0:Grew w w5:=(((Hw1.out.trans Hw2.out).trans Hw3.out).trans Hw4.out).trans hg5
 have hb0:=(((Hb1.out.grew Hw2.out).grew Hw3.out).grew Hw4.out).grew hg5
 have hgp:w.heap.size+2<=P:=by
  have h1:=au (((((Hb1.out.grew Hw2.out).grew Hw3.out).grew Hw4.out)) 1 _ (by rfl))
  omega
 have ha2:a0.eval (.tmp 37)=.func (.func 76) #[] #[.pointer (some ⟨P+1+1,0,none⟩)]:=by rw[<-ha,<-hP];simp[Act.eval]
 have lN:=hide hg0
 have HB0:=hide hb0
 have HK0:=hide hk0
 have HPP:=hide hP
 clear hw5 agi hg5 hg0 hb0 hk0 q0 q1 q2 q3 q4 q5 lq
 rw[hP] at ha
 clear hP
 obtain⟨st,hst⟩:∃f:List (Fin (nw*nh))->Int×Nat,f=fun pre=>FM (cellAt cx cy sz nw) cs ((b1,b2),(b3,b4)) (pre.map Fin.val):=⟨_,rfl⟩
 have Sz:st []=(100000,0):=by rw[hst];rfl
 have Yo:Hid (∀pre x,st (pre++[x])=(if qo (cellAt cx cy sz nw x.1) ((b1,b2),(b3,b4))=true then min (st pre).1 (xH cs (st pre).2) else (st pre).1,(st pre).2+1)):=hide (fun pre x=>by rw[hst];dsimp only;rw[List.map_append,List.map_singleton,Be])
 have HSC:Hid (∀pre,(st pre).2=pre.length):=hide (fun pre=>by rw[hst];dsimp only;rw[V4,List.length_map])
 have HSE:Hid (∀xs,xs.map Fin.val=List.range (nw*nh)->st xs=(nX (cellAt cx cy sz nw) cs ((b1,b2),(b3,b4)) (nw*nh),nw*nh)):=hide (fun xs h=>by rw[hst];dsimp only;rw[h,Eo])
 clear hst
 refine wpIn_rangeFunc_ownH (n:=13) rfl (by omega) (gf:=76) (lb:=#[.pointer (some ⟨P+1+1,0,none⟩)]) ha2 trivial (enters_of Tryz.func76 (by kernel_rfl) rfl)
  (zU 12 w.heap.size nw nh (P+1+1) (fun b _=>b=P\/b=P+1) cx cy sz (.slice A nc c) w5 (fun b _ hb=>by omega) HK0.out hsd.2.1 hsd.2.2 hsd.1 hcn.1 hcn.2)
  (fun h k=>h.trans k) gW.bk (Below.refl _ _) (fun _=>rfl)
  (fun pre W=>(Below w.heap.size w W/\Bx W w.heap.size [gb,bo])/\(Boxed W P 3 (.int .i64 (st pre).1)/\Boxed W (P+1) 3 (.int .i64 ((st pre).2:Int))))
  (fun _ _ _=>False)
  (OwnFrom.and (OwnFrom.and (ownFrom_below (Nat.le_refl _) lN.out.below.size) (Bx.own (by simp;omega))) (OwnFrom.and (Own.from (boxed_own _ _ _) _) (Own.from (boxed_own _ _ _) _)))
  (fun q=>ownFrom_pure _)
  ⟨⟨lN.out.below,HB0.out⟩,by rw[Sz];exact hp0,by rw[Sz];exact hp1⟩
  (fun x a' W=>∃B,W.heap[B]?=some (.cells #[.int .i64 (cellAt cx cy sz nw x.1).1.1,.int .i64 (cellAt cx cy sz nw x.1).1.2,.int .i64 (cellAt cx cy sz nw x.1).2.1,.int .i64 (cellAt cx cy sz nw x.1).2.2] 50 (0,0))/\(B≠P/\B≠P+1)/\a'={ tmps:=(a0.tmps.setIfInBounds 38 (vk (cellAt cx cy sz nw x.1))).setIfInBounds 12 (.pointer (some ⟨B,0,none⟩)),defers:=[] })
  (fun x a'=>by
   rintro s X Y row ⟨B,h1,h2⟩ hg hr
   exact⟨B,fG h1 hg (fun r e=>(hr r e).2),h2⟩)
  ?assign ?body ?done ?stop
 case assign =>
  rintro l pre x W K ⟨⟨hB,hb⟩,hp,hc⟩ hK
  rw[show Qj cx cy sz nw (nw*nh) x=#[vk (cellAt cx cy sz nw x.1)] from rfl,L9]
  subst ha
  simp only[List.setIfInBounds_toArray,List.set_cons_succ,List.set_cons_zero] at hK ⊢
  have wu:=hide hK
  have hlp:=au hp
  have hlc:=au hc
  clear hK
  gi_wp2_with fail
  have hgg:Grew W (W.alloc (.cells #[.int .i64 (cellAt cx cy sz nw x.1).1.1,.int .i64 (cellAt cx cy sz nw x.1).1.2,.int .i64 (cellAt cx cy sz nw x.1).2.1,.int .i64 (cellAt cx cy sz nw x.1).2.2] 50)):=gw
  exact wu.out _ _ (hgg.aS _) (gW.grew hgg) ⟨⟨hB.trans (hgg.below.mono hB.size),hb.grew hgg⟩,eF hp hgg,eF hc hgg⟩ ⟨W.heap.size,heap_alloc_new _ _,⟨by omega,by omega⟩,rfl⟩
 case body =>
  rintro l pre x a' W hl2 ⟨r0,hlr⟩ ⟨⟨hB,hb⟩,hp,hc⟩ ⟨B,hx,hBne,rfl⟩ hlt
  subst ha
  have hjl:pre.length<nw*nh:=hlt
  obtain⟨bb,hbb⟩:∃b',cellAt cx cy sz nw x.1=b':=⟨_,rfl⟩
  have hsn:=Yo.out pre x
  have hsc:=HSC.out pre
  have k7:=hide (fun W=>k6.out W x.1 x.2)
  obtain⟨⟨d,j⟩,hd⟩:∃s,st pre=s:=⟨_,rfl⟩
  rw[hd] at hsn hsc hp hc
  dsimp only at hsn hsc hp hc
  rw[<-hsc] at hjl
  rw[hbb] at hsn hx k7
  simp only[hbb]
  obtain⟨⟨⟨⟨m1,m2⟩,⟨m3,m4⟩⟩,e0⟩,hmb⟩:∃r,Ej bb ((b1,b2),(b3,b4))=r:=⟨_,rfl⟩
  rw[hmb] at k7
  have hcase:(qo bb ((b1,b2),(b3,b4))=true/\e0=0)\/(qo bb ((b1,b2),(b3,b4))=false/\e0=4):=by
   unfold Ej at hmb
   split at hmb
   ·rename_i h
    simp only[Prod.mk.injEq] at hmb
    exact .inl ⟨h,hmb.2.symm⟩
   ·rename_i h
    simp only[Prod.mk.injEq] at hmb
    exact .inr ⟨by simpa using h,hmb.2.symm⟩
  have Sm:Grew w W:=Grew.of_below hB
  obtain⟨⟨x1,x2⟩,⟨x3,x4⟩⟩:=bb
  dsimp only at hx k7 ⊢
  have HB:=hide hB
  have Hb:=hide hb
  have HP:=hide hp
  have HC:=hide hc
  have aao:=hide hsn
  have hq:W.heap[w.heap.size+1]?=some (.cells #[.int .i64 b1,.int .i64 b2,.int .i64 b3,.int .i64 b4] 50 (0,0)):=hb 1 _ (by rw[<-HBO.out];rfl)
  have q0:=ag hq 0
  have q1:=ag hq 1
  have q2:=ag hq 2
  have q3:=ag hq 3
  have lq:=au hq
  have e0':=ag hx 0
  have e1':=ag hx 1
  have e2':=ag hx 2
  have e3':=ag hx 3
  have lx:=au hx
  have HWW:=hide Sm
  have hj4:j<4096:=by omega
  clear hB hb hp hc hsn hq hx hd hsc hmb hbb hlt hl2 hlr Sm
  simp only[List.setIfInBounds_toArray,List.set_cons_succ,List.set_cons_zero]
  gi_wp2_with fail
  refine⟨trivial,?_⟩
  refine (CallsIn.inRound l (callsIn_wide.2 (k7.out _))).mono ?_
  rintro e W2 ⟨rfl,hg2⟩
  have hG2:Hid (Grew W W2):=hide (Grew.trans gw hg2)
  clear hg2 q0 q1 q2 q3 lq e0' e1' e2' e3' lx
  dsimp only
  rcases hcase with⟨hme,rfl⟩|⟨hme,rfl⟩
  ·have HN:=aao.out
   rw[if_pos hme] at HN
   have Ht:=hide HN
   clear HN aao hme
   gi_upto_region 12 with fail
   refine dJ ?_
   intro a9 W9 ha9 hW9
   have KW:Grew W W9:=hG2.out.trans (by rw[<-hW9];exact gw)
   clear hW9
   subst ha9
   have hp9:=eF HP.out KW
   have Yi:=eF HC.out KW
   have c0:W9.cell? ⟨P,0,none⟩=_:=hp9.cell
   have f0:W9.frozen? ⟨P,0,none⟩=_:=hp9.frozen
   have c1:W9.cell? ⟨P+1,0,none⟩=_:=Yi.cell
   have lp:=au hp9
   have lc:=au Yi
   have hq:W9.heap[w.heap.size]?=some (.cells #[.int .i64 cx,.int .i64 cy,.int .i64 sz,.int .i64 (nw:Int),.int .i64 (nh:Int),.slice A nc c] 41 (0,0)):=(Hb.out.grew KW) 0 _ (by rw[<-X3.out];rfl)
   have g5:=ag hq 5
   have lg:=au hq
   have hjn:j<nc:=by rw[HNL.out];exact hjl
   obtain⟨bz,oz,hA,hbz,hcz⟩:=Hz (HR.out.up (HWW.out.trans KW)) (k:=j) (by rw[TZ.out];exact hjn)
   have hix:=aO (cap:=c) Tryz.underlying39 Tryz.sizeOf3 hA.out hjn
   rw[Nat.mul_one] at hix
   generalize xH cs j=z at *
   have Um:=hide KW
   have HP9:=hide hp9
   have HC9:=hide Yi
   clear KW hp9 Yi hq hA
   refine dn 7 [] [] hm (h:=?_)
   repeat (refine ax (fun K hK=>?_);go_simp;refine hK _ ?_;clear hK K)
   refine AB fun nq osq=>?_
   try simp only[Act.put,aG]
   try dsimp only
   gi_upto_region 13 with fail
   refine dJ ?_
   intro a10 dO agL aeO
   have hgY:Grew (W9.setCell ⟨P,0,none⟩ (.int .i64 (min d z))) dO:=by rw[<-aeO];exact Grew.mk _ _ _
   have ael:Boxed dO P 3 (.int .i64 (min d z)):=eF (HP9.out.set _) hgY
   have WW:Boxed dO (P+1) 3 (.int .i64 (j:Int)):=eF (jR HC9.out (show P+1≠P by omega)) hgY
   have hkf:KeepsFrom w5.heap.size W dO:=(Um.out.aS _).trans ((KeepsFrom.setCell _ _ _ _).trans (hgY.aS _))
   have aey:gW (fun b _=>b=P\/b=P+1) W9 (W9.setCell ⟨P,0,none⟩ (.int .i64 (min d z))):=gW.set _ _ _ _ (fun _=>Or.inl rfl)
   have hkp:gW (fun b _=>b=P\/b=P+1) W dO:=(gW.grew Um.out).trans (aey.trans (gW.grew hgY))
   have aco:Below w.heap.size w (W9.setCell ⟨P,0,none⟩ (.int .i64 (min d z))):=(HB.out.trans (Um.out.below.mono HB.out.size)).setCell (p:=⟨P,0,none⟩) (by simp;omega) _
   have hbl:Below w.heap.size w dO:=aco.trans (hgY.below.mono aco.size)
   have aa5:Bx dO w.heap.size [gb,bo]:=(wC (jf (iC W9 (some P)) 0 (.int .i64 (min d z))) (Hb.out.grew Um.out) (.inr (by simp;omega))).grew hgY
   clear aeO hgY aey aco
   subst agL
   have d0:dO.cell? ⟨P+1,0,none⟩=_:=WW.cell
   have df:dO.frozen? ⟨P+1,0,none⟩=_:=WW.frozen
   have ld:=au WW
   have ahp:=hide ael
   have ahH:=hide WW
   have HKF:=hide hkf
   have HKP:=hide hkp
   have HBL:=hide hbl
   have mF:=hide aa5
   clear ael WW hkf hkp hbl aa5 c0 f0 c1 g5 hcz hix
   gi_wp2_with fail
   refine⟨HKF.out.trans (KeepsFrom.setCell _ _ _ _),HKP.out.trans (gW.set _ _ _ _ (fun _=>.inr rfl)),⟨HBL.out.setCell (p:=⟨P+1,0,none⟩) (by simp;omega) _,wC (jf (iC _ _) 0 _) mF.out (.inr (by simp;omega))⟩,?_,?_⟩
   ·rw[Ht.out]
    exact jR ahp.out (by omega)
   ·rw[Ht.out]
    exact ahH.out.set _
  ·have HN:=aao.out
   rw[if_neg (by rw[hme];simp)] at HN
   have Ht:=hide HN
   clear HN aao hme
   gi_upto_region 13 with fail
   refine dJ ?_
   intro a9 W9 ha9 hW9
   have KW:Grew W W9:=hG2.out.trans (by rw[<-hW9];exact gw)
   clear hW9
   subst ha9
   have Yi:=eF HC.out KW
   have d0:W9.cell? ⟨P+1,0,none⟩=_:=Yi.cell
   have df:W9.frozen? ⟨P+1,0,none⟩=_:=Yi.frozen
   have ld:=au Yi
   have Um:=hide KW
   have HC9:=hide Yi
   clear KW Yi
   gi_wp2_with fail
   refine⟨(Um.out.aS _).trans (KeepsFrom.setCell _ _ _ _),(gW.grew Um.out).trans (gW.set _ _ _ _ (fun _=>.inr rfl)),⟨(HB.out.trans (Um.out.below.mono HB.out.size)).setCell (p:=⟨P+1,0,none⟩) (by simp;omega) _,wC (jf (iC _ _) 0 _) (Hb.out.grew Um.out) (.inr (by simp;omega))⟩,?_,?_⟩
   ·rw[Ht.out]
    exact jR (eF HP.out Um.out) (by omega)
   ·rw[Ht.out]
    exact HC9.out.set _
 case done =>
  subst ha
  rintro D xs W hD hS ⟨⟨hB,hb⟩,hp,hc⟩ hK
  rw[HSE.out xs hS] at hp
  dsimp only at hp
  have c0:W.cell? ⟨P,0,none⟩=_:=hp.cell
  have lp:=au hp
  have HB:=hide hB
  have HK:=hide hK
  clear hB hb hp hc hK hS
  gi_wp2_with fail
  refine⟨by simp,.inl ⟨_,_,rfl,run_takeDeferred HK.out,?_⟩⟩
  have hb5:=HB.out.trans (belowK_b (w:=w) (Nat.le_refl _) _ D _ (.deferred none) (by omega) HK.out rfl rfl)
  refine⟨.tuple #[.int .i64 (nX (cellAt cx cy sz nw) cs ((b1,b2),(b3,b4)) (nw*nh)),.int .i64 0],by simp[results,Tryz.results14,go_sem],?_⟩
  exact aC.mk' rfl (Grew.of_below hb5)
 case stop=>exact fun _ _ _ _ _ _ h _=>h.elim
end Go.Proofs.YtlkgjmnjhifehaaGreat
