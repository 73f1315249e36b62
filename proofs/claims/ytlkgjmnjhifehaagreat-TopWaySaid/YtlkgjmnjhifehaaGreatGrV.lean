
import Derived.Test.YtlkgjmnjhifehaaGreatPov
import Derived.Test.YtlkgjmnjhifehaaGreatGrX
import Derived.Test.YtlkgjmnjhifehaaGreatGrY
set_option linter.unusedSimpArgs false
set_option linter.unusedVariables false
set_option maxHeartbeats 4000000
set_option maxRecDepth 100000
namespace Go.Proofs.YtlkgjmnjhifehaaGreat
open Go.RowKit Go.Sort
attribute [local go_sem] dA steadyUpon
attribute [local go_sem ↓] bU bI aX aW aV aU aT
attribute [local go_sem] bH aK aJ size_grow tape_grow cell?_grow' aF aB grow_grow bW aY dR cO bY bK aN cZ aZ bZ bJ
attribute [local irreducible] wpSteady
def Kz (s t:Int×Int):(Int×Int)×Int:=if max s.1 t.1<=min s.2 t.2 then ((max s.1 t.1,min s.2 t.2),0) else ((0,0),4)
theorem XT (s t:Int×Int)(r:(Int×Int)×Int)(w:World)(hs:vS s=true)(ht:vS t=true)(h:Kz s t=r) :
  Calls Tryz.prog 85 #[pt s.1 s.2,pt t.1 t.2] w (aC w (.tuple #[pt r.1.1 r.1.2,.int .i64 r.2])):=by
 have hm:=aP
 have k1:=hide (fun W=>qM s.1 s.2 true W hs)
 have k2:=hide (fun W=>qM t.1 t.2 true W ht)
 unfold Kz at h
 obtain⟨s1,s2⟩:=s
 obtain⟨t1,t2⟩:=t
 clear hs ht
 dsimp only at *
 obtain⟨a,ha⟩:∃a,max s1 t1=a:=⟨_,rfl⟩
 obtain⟨b,hb⟩:∃b,min s2 t2=b:=⟨_,rfl⟩
 rw[ha,hb] at h
 have HA:=hide ha
 have HB:=hide hb
 have HH:=hide h
 clear h ha hb
 by_cases h1:s1<=t1<;>by_cases h2:s2<=t2
 all_goals
  first|(have e1:a=t1:=by have:=HA.out;omega)|(have e1:a=s1:=by have:=HA.out;omega)
  first|(have e2:b=s2:=by have:=HB.out;omega)|(have e2:b=t2:=by have:=HB.out;omega)
  subst e1 e2
  have m1:=HA.out
  have m2:=HB.out
  by_cases h3:a<=b
  ·have hr:=HH.out
   rw[if_pos h3] at hr
   subst hr
   clear HH HA HB
   go_enter Tryz.func85,Tryz.ntmps85
   go_wp2_with ((go_at_call 104;first|with_reducible refine (k1.out _).mono ?_|with_reducible refine (k2.out _).mono ?_);rintro e w' ⟨rfl,⟨_,_⟩,rfl⟩;dsimp only)
   all_goals refine bodyPost_ret (v:=.tuple #[pt a b,.int .i64 0]) (by simp[results,Tryz.results85,go_sem]<;>omega) rfl ?_
   all_goals exact aC.mk' rfl gw
  ·have hr:=HH.out
   rw[if_neg h3] at hr
   subst hr
   clear HH HA HB
   go_enter Tryz.func85,Tryz.ntmps85
   go_wp2_with ((go_at_call 104;first|with_reducible refine (k1.out _).mono ?_|with_reducible refine (k2.out _).mono ?_);rintro e w' ⟨rfl,⟨_,_⟩,rfl⟩;dsimp only)
   all_goals refine bodyPost_ret (v:=.tuple #[pt 0 0,.int .i64 4]) (by simp[results,Tryz.results85,go_sem]<;>omega) rfl ?_
   all_goals exact aC.mk' rfl gw
def qo (a b:B4):Bool:=decide (max a.1.1 b.1.1<=min a.1.2 b.1.2)&&decide (max a.2.1 b.2.1<=min a.2.2 b.2.2)
def Ej (a b:B4):B4×Int:=if qo a b=true then (((max a.1.1 b.1.1,min a.1.2 b.1.2),(max a.2.1 b.2.1,min a.2.2 b.2.2)),0) else (((0,0),(0,0)),4)
theorem Vx {b:B4}(h:okB b=true):vS b.1=true/\vS b.2=true:=by
 unfold okB at h
 rw[decide_eq_true_eq] at h
 unfold vS
 rw[decide_eq_true_eq,decide_eq_true_eq]
 omega
theorem XF (a b:B4)(r:B4×Int)(w:World)(ha:okB a=true)(hb:okB b=true)(h:Ej a b=r) :
  Calls Tryz.prog 84 #[vk a,vk b,.func (.func 85) #[] #[]] w (aC w (.tuple #[vk r.1,.int .i64 r.2])):=by
 have hm:=aP
 have k1:=hide (fun W=>jM a true W ha)
 have k2:=hide (fun W=>jM b true W hb)
 obtain⟨a1,a2⟩:=Vx ha
 obtain⟨b1,b2⟩:=Vx hb
 obtain⟨⟨⟨x1,x2⟩,e⟩,hx⟩:∃u,Kz a.1 b.1=u:=⟨_,rfl⟩
 obtain⟨⟨⟨y1,y2⟩,f⟩,hy⟩:∃u,Kz a.2 b.2=u:=⟨_,rfl⟩
 have k3:=hide (fun W=>XT a.1 b.1 ((x1,x2),e) W a1 b1 hx)
 have k4:=hide (fun W=>XT a.2 b.2 ((y1,y2),f) W a2 b2 hy)
 have hcase:(e=0/\f=0/\r=(((x1,x2),(y1,y2)),0))\/(e=0/\f=4/\r=(((0,0),(0,0)),4))\/(e=4/\f=0/\r=(((0,0),(0,0)),4))\/(e=4/\f=4/\r=(((0,0),(0,0)),4)):=by
  unfold Ej qo at h
  unfold Kz at hx hy
  split at hx<;>split at hy<;>rename_i h1 h2<;>simp only[Prod.mk.injEq] at hx hy<;>obtain⟨⟨rfl,rfl⟩,rfl⟩:=hx<;>obtain⟨⟨rfl,rfl⟩,rfl⟩:=hy
  ·rw[if_pos (by rw[decide_eq_true h1,decide_eq_true h2];rfl)] at h
   exact .inl ⟨rfl,rfl,h.symm⟩
  ·rw[if_neg (by rw[decide_eq_false h2];simp)] at h
   exact .inr (.inl ⟨rfl,rfl,h.symm⟩)
  ·rw[if_neg (by rw[decide_eq_false h1];simp)] at h
   exact .inr (.inr (.inl ⟨rfl,rfl,h.symm⟩))
  ·rw[if_neg (by rw[decide_eq_false h1];simp)] at h
   exact .inr (.inr (.inr ⟨rfl,rfl,h.symm⟩))
 clear ha hb a1 a2 b1 b2 hx hy h
 obtain⟨⟨a1,a2⟩,⟨a3,a4⟩⟩:=a
 obtain⟨⟨b1,b2⟩,⟨b3,b4⟩⟩:=b
 dsimp only at *
 rcases hcase with⟨rfl,rfl,rfl⟩|⟨rfl,rfl,rfl⟩|⟨rfl,rfl,rfl⟩|⟨rfl,rfl,rfl⟩
 ·go_enter Tryz.func84,Tryz.ntmps84
  go_wp2_with (first|((go_at_call 46;first|with_reducible refine (k1.out _).mono ?_|with_reducible refine (k2.out _).mono ?_);rintro e w' ⟨rfl,⟨_,_⟩,rfl⟩;dsimp only)|((go_at_call 85;first|with_reducible refine (k3.out _).mono ?_|with_reducible refine (k4.out _).mono ?_);rintro e w' ⟨rfl,⟨_,_⟩,rfl⟩;dsimp only))
  all_goals refine bodyPost_ret (v:=.tuple #[vk ((x1,x2),(y1,y2)),.int .i64 0]) (by simp[results,Tryz.results84,go_sem]) rfl ?_
  all_goals exact aC.mk' rfl gw
 all_goals
  go_enter Tryz.func84,Tryz.ntmps84
  go_wp2_with (first|((go_at_call 46;first|with_reducible refine (k1.out _).mono ?_|with_reducible refine (k2.out _).mono ?_);rintro e w' ⟨rfl,⟨_,_⟩,rfl⟩;dsimp only)|((go_at_call 85;first|with_reducible refine (k3.out _).mono ?_|with_reducible refine (k4.out _).mono ?_);rintro e w' ⟨rfl,⟨_,_⟩,rfl⟩;dsimp only))
  all_goals refine bodyPost_ret (v:=.tuple #[vk ((0,0),(0,0)),.int .i64 4]) (by simp[results,Tryz.results84,go_sem]) rfl ?_
  all_goals exact aC.mk' rfl gw
theorem TT (a b:B4)(r:B4×Int)(w:World)(ha:okB a=true)(hb:okB b=true)(h:Ej a b=r) :
  Calls Tryz.prog 48 #[vk a,vk b] w (aC w (.tuple #[vk r.1,.int .i64 r.2])):=by
 have k1:=hide (fun W=>XF a b r W ha hb h)
 clear ha hb h
 obtain⟨⟨a1,a2⟩,⟨a3,a4⟩⟩:=a
 obtain⟨⟨b1,b2⟩,⟨b3,b4⟩⟩:=b
 obtain⟨⟨⟨j1,j2⟩,⟨j3,j4⟩⟩,e⟩:=r
 dsimp only at *
 go_enter Tryz.func48,Tryz.ntmps48
 go_wp2_with (go_at_call 84;with_reducible refine aQ (k1.out _) fun _ _=>?_;dsimp only)
 refine bodyPost_ret (v:=.tuple #[vk ((j1,j2),(j3,j4)),.int .i64 e]) (by simp[results,Tryz.results48,go_sem]) rfl ?_
 exact aC.mk' rfl gw
end Go.Proofs.YtlkgjmnjhifehaaGreat
set_option maxHeartbeats 4000000
set_option maxRecDepth 100000
namespace Go.Proofs.YtlkgjmnjhifehaaGreat
open Go.RowKit Go.Sort Go.Lib
attribute [local go_sem] dA steadyUpon
attribute [local go_sem ↓] bU bI aX aW aV aU aT
attribute [local go_sem] bH aK aJ size_grow tape_grow cell?_grow' aF aB grow_grow bW aY dR cO bY bK aN cZ aZ bZ bJ
attribute [local irreducible] wpSteady
def Ip (g:Gr)(need fr to:Int):Prop:=vT g need=true/\(0<=fr/\fr<g.cs.length)/\(0<=to/\to<g.cs.length)
theorem QH (g:Gr)(need fr to:Int)(w:World)(hr:Rd w w.heap.size 1 g.A (g.cs.map encZ))(hc:g.cs.length<=100000000000000)(h:¬ Ip g need fr to) :
  Calls Tryz.prog 11 #[g.val,.int .i64 need,.int .i64 fr,.int .i64 to] w (aC w (.tuple #[.slice none 0 0,.int .i64 1])):=by
 have hm:=aP
 obtain⟨o,ho⟩:∃o,vT g need=o:=⟨_,rfl⟩
 have k1:=hide (fun W (hg:Grew w W)=>PT g need o W (hr.up hg) hc ho)
 unfold Ip at h
 rw[ho] at h
 clear hr ho
 obtain⟨cx,cy,sz,fV,gK,A,c,cs⟩:=g
 unfold Gr.val at *
 dsimp only at *
 generalize cs.length=n at *
 have hcase:o=false\/(o=true/\fr<0)\/(o=true/\¬ fr<0/\(n:Int)<=fr)\/(o=true/\¬ fr<0/\¬ (n:Int)<=fr/\to<0)\/(o=true/\¬ fr<0/\¬ (n:Int)<=fr/\¬ to<0/\(n:Int)<=to):=by
  cases o
  ·exact .inl rfl
  ·simp only[true_and] at h
   simp
   omega
 clear h
 rcases hcase with rfl|⟨rfl,h1⟩|⟨rfl,h1,h2⟩|⟨rfl,h1,h2,h3⟩|⟨rfl,h1,h2,h3,h4⟩
 all_goals
  go_enter Tryz.func11,Tryz.ntmps11
  go_wp2_with (go_at_call 41;with_reducible refine aQ (k1.out _ gw) fun _ _=>?_;dsimp only)
  go_ret2
  exact aC.mk' rfl gw
set_option maxHeartbeats 8000000
set_option maxRecDepth 100000
theorem Rl (x y:Int)(w:World)(h:lh x y=true):Calls Tryz.prog 79 #[pt x y] w (aC w (.bool true)):=by
 have hm:=aP
 unfold lh at h
 rw[decide_eq_true_eq] at h
 obtain⟨⟨h1,h2⟩,h3,h4⟩:=h
 have e1:decide (-1000000<=x)=true:=decide_eq_true h1
 have e2:decide (x<=1000000)=true:=decide_eq_true h2
 have e3:decide (-1000000<=y)=true:=decide_eq_true h3
 have e4:decide (y<=1000000)=true:=decide_eq_true h4
 go_enter Tryz.func79,Tryz.ntmps79
 go_wp2_with fail
 go_ret
 exact aC.mk' (by simp[*]) gw
theorem wF {cx cy sz w h:Int}(hf:fA cx cy sz w h=true):((1<=sz/\sz<=100000)/\(1<=w/\w<=64)/\(1<=h/\h<=64))/\lh cx cy=true/\cx+w*sz<=1000000/\cy+h*sz<=1000000:=by
 unfold fA qf at hf
 rw[Bool.and_eq_true,Bool.and_eq_true,decide_eq_true_eq] at hf
 obtain⟨h1,h4,h5⟩:=hf
 unfold okB wK at h4
 unfold okB allB at h5
 rw[decide_eq_true_eq] at h4 h5
 dsimp only at h4 h5
 refine⟨h1,?_,by omega,by omega⟩
 unfold lh
 rw[decide_eq_true_eq]
 omega
theorem ND (cx cy sz w1 h0:Int)(w:World)(hf:fA cx cy sz w1 h0=true):Calls Tryz.prog 44 #[pt cx cy,.int .i64 sz,.int .i64 w1,.int .i64 h0] w (aC w (.bool true)):=by
 have hm:=aP
 obtain⟨⟨⟨h1,h2⟩,⟨h3,h4⟩,h5,h6⟩,hp,h7,h8⟩:=wF hf
 have k1:=hide (fun W=>Rl cx cy W hp)
 have hb:(-1000000<=cx/\cx<=1000000)/\(-1000000<=cy/\cy<=1000000):=by unfold lh at hp;rwa [decide_eq_true_eq] at hp
 have p1:=xn (a:=w1) (b:=sz) ⟨h3,h4⟩ ⟨h1,h2⟩
 have p2:=xn (a:=h0) (b:=sz) ⟨h5,h6⟩ ⟨h1,h2⟩
 rw[Int.mul_comm] at p1 p2 h7 h8
 have hw1:IntKind.i64.wrap (sz*w1)=sz*w1:=by unfold IntKind.wrap;simp[IntKind.bits,IntKind.signed];omega
 have hw2:IntKind.i64.wrap (sz*h0)=sz*h0:=by unfold IntKind.wrap;simp[IntKind.bits,IntKind.signed];omega
 have hw3:IntKind.i64.wrap (cx+sz*w1)=cx+sz*w1:=by unfold IntKind.wrap;simp[IntKind.bits,IntKind.signed];omega
 have hw4:IntKind.i64.wrap (cy+sz*h0)=cy+sz*h0:=by unfold IntKind.wrap;simp[IntKind.bits,IntKind.signed];omega
 have e1:decide (cx+sz*w1<=1000000)=true:=decide_eq_true h7
 have e2:decide (cy+sz*h0<=1000000)=true:=decide_eq_true h8
 clear hf hp
 go_enter Tryz.func44,Tryz.ntmps44
 go_wp2_with (go_at_call 79;with_reducible refine aQ (k1.out _) fun _ _=>?_;dsimp only)
 go_ret
 exact aC.mk' (by simp[*]) gw
theorem Xm {cs:List Int}{k:Nat}(h:cs.any pU=false)(hk:k<cs.length):0<=xH cs k/\xH cs k<=100000:=by
 have:=List.any_eq_false.1 h _ (Ph hk)
 unfold pU at this
 rw[decide_eq_true_eq] at this
 omega
theorem NG (g:Gr)(w:World)(hr:Rd w w.heap.size 1 g.A (g.cs.map encZ))(h:rQ g=true) :
  Calls Tryz.prog 12 #[g.val] w (aC w (.bool true)):=by
 have hm:=aP
 unfold rQ at h
 rw[Bool.and_eq_true,Bool.and_eq_true,decide_eq_true_eq,Bool.not_eq_true'] at h
 obtain⟨hf,hn,hv⟩:=h
 have k1:=hide (fun W=>ND g.cx g.cy g.sz g.w g.h W hf)
 have hs:=Pv hf
 have hp:=xn hs.2.1 (b:=g.h) (by omega)
 have hp2:=jc 64 64 (a:=g.w) (b:=g.h) (by omega) (by omega)
 have HR:=hide hr
 have HV:=hide hv
 obtain⟨cx,cy,sz,fV,gK,A,c,cs⟩:=g
 unfold Gr.val at *
 dsimp only at *
 obtain⟨n,hN⟩:∃n,cs.length=n:=⟨_,rfl⟩
 have HN:=hide hN
 rw[hN] at hn ⊢
 have hw1:IntKind.i64.wrap (fV*gK)=(n:Int):=by rw[hn];unfold IntKind.wrap;simp[IntKind.bits,IntKind.signed];omega
 have hnl:n<=4096:=by omega
 have HNN:=hide hn
 clear hr hf hs hp hp2 hv hN hn
 go_enter Tryz.func12,Tryz.ntmps12
 go_wp2_with (go_at_call 44;with_reducible refine aQ (k1.out _) fun _ _=>?_;dsimp only)
 refine fC ?_
 intro W4 hW
 have hg4:Grew w W4:=by rw[<-hW];exact gw
 have hg0:Grew (w.alloc (.cells #[.int .i64 cx,.int .i64 cy,.int .i64 sz,.int .i64 fV,.int .i64 gK,.slice A n c] 41)) W4:=by rw[<-hW];exact gw
 have hb4:W4.heap[w.heap.size]?=some (.cells #[.int .i64 cx,.int .i64 cy,.int .i64 sz,.int .i64 fV,.int .i64 gK,.slice A n c] 41 (0,0)):=(hg0.heap (by simp)).trans (heap_alloc_new _ _)
 have qK:=hide hg4
 have HB4:=hide hb4
 clear hW hg4 hb4 hg0
 go_loopw [4] (fun i wr=>∃k:Nat,k<=n/\i=.int .i64 k/\Hid (Grew W4 wr)) (fun i _=>n-(intOf i).toNat)
 case atStart=>exact⟨0,by omega,rfl,hide (Grew.refl _)⟩
 case round =>
  obtain⟨k,hk,rfl,hG⟩:=hrel
  have bg:=(hG.out.heap (au HB4.out)).trans HB4.out
  have e5:=ag bg 5
  have lg:=au bg
  clear bg
  by_cases hlt:k<n
  ·obtain⟨b1,o1,hA,hb1,hc1⟩:=Hz (HR.out.up (qK.out.trans hG.out)) (k:=k) (by rw[HN.out];exact hlt)
   have hd:=Xm HV.out (k:=k) (by rw[HN.out];exact hlt)
   have ix1:=aO (cap:=c) Tryz.underlying39 Tryz.sizeOf3 hA.out hlt
   rw[Nat.mul_one] at ix1
   generalize xH cs k=x at *
   obtain⟨h1,h2⟩:=hd
   have n1:¬ x<0:=by omega
   have n2:¬ 100000<x:=by omega
   clear hA
   go_wp2_with fail
   go_roundw
   case rel=>exact⟨k+1,by omega,by go_num,hide (hG.out.trans gw)⟩
   case measure=>simp[intOf];omega
  ·obtain rfl:k=n:=by omega
   go_wp2_with fail
   go_ret
   exact aC.mk' rfl (qK.out.trans (hG.out.trans gw))
theorem Rn (cx cy sz:Int)(nw nh k:Nat)(A:Option Addr)(n c:Nat)(w:World)(hf:fA cx cy sz nw nh=true)(hk:k<nw*nh) :
  Calls Tryz.prog 13 #[.agg #[.int .i64 cx,.int .i64 cy,.int .i64 sz,.int .i64 nw,.int .i64 nh,.slice A n c],.int .i64 k] w (aC w (vk (cellAt cx cy sz nw k))):=by
 have hm:=aP
 obtain⟨⟨hs,hw,hh⟩,hp,h7,h8⟩:=wF hf
 have hb:(-1000000<=cx/\cx<=1000000)/\(-1000000<=cy/\cy<=1000000):=by unfold lh at hp;rwa [decide_eq_true_eq] at hp
 have hgw:0<nw:=by omega
 have hkl:k<4096:=by
  have:nw*nh<=64*64:=Nat.mul_le_mul (by omega) (by omega)
  omega
 have hi:k%nw<nw:=Nat.mod_lt _ hgw
 have hj:k / nw<nh:=by
  rw[Nat.div_lt_iff_lt_mul hgw,Nat.mul_comm]
  exact hk
 have p1:=Dy (i:=k%nw) (sz:=sz) (by omega) hs
 have p2:=Dy (i:=k / nw) (sz:=sz) (by omega) hs
 have er:(k:Int).tmod (nw:Int)=((k%nw:Nat):Int):=by rw[Int.tmod_eq_emod_of_nonneg (by omega)];rfl
 have eq:(k:Int).tdiv (nw:Int)=((k / nw:Nat):Int):=by rw[Int.tdiv_eq_ediv_of_nonneg (by omega)];rfl
 have hne:¬ (nw:Int)=0:=by omega
 have hne2:¬ nw=0:=by omega
 unfold cellAt
 have hd1:((k%nw:Nat):Int)<=4096/\0<=((k%nw:Nat):Int):=⟨by omega,Int.natCast_nonneg _⟩
 have hd2:((k / nw:Nat):Int)<=4096/\0<=((k / nw:Nat):Int):=⟨by omega,Int.natCast_nonneg _⟩
 have hkk:((k:Int)<=4096/\0<=(k:Int)):=by omega
 clear hf hp h7 h8 hi hj hk
 generalize ((k%nw:Nat):Int)=I at *
 generalize ((k / nw:Nat):Int)=J at *
 obtain⟨X,hX⟩:∃X,I*sz=X:=⟨_,rfl⟩
 obtain⟨Y,hY⟩:∃Y,J*sz=Y:=⟨_,rfl⟩
 rw[hX] at p1 ⊢
 rw[hY] at p2 ⊢
 have hw1:IntKind.i64.wrap (I*sz)=X:=by rw[hX];unfold IntKind.wrap;simp[IntKind.bits,IntKind.signed];omega
 have hw2:IntKind.i64.wrap (J*sz)=Y:=by rw[hY];unfold IntKind.wrap;simp[IntKind.bits,IntKind.signed];omega
 have hw3:IntKind.i64.wrap (cx+X)=cx+X:=by unfold IntKind.wrap;simp[IntKind.bits,IntKind.signed];omega
 have hw4:IntKind.i64.wrap (cy+Y)=cy+Y:=by unfold IntKind.wrap;simp[IntKind.bits,IntKind.signed];omega
 have hw5:IntKind.i64.wrap (cx+X+sz)=cx+X+sz:=by unfold IntKind.wrap;simp[IntKind.bits,IntKind.signed];omega
 have hw6:IntKind.i64.wrap (cy+Y+sz)=cy+Y+sz:=by unfold IntKind.wrap;simp[IntKind.bits,IntKind.signed];omega
 have hw7:IntKind.i64.wrap I=I:=by unfold IntKind.wrap;simp[IntKind.bits,IntKind.signed];omega
 have hw8:IntKind.i64.wrap J=J:=by unfold IntKind.wrap;simp[IntKind.bits,IntKind.signed];omega
 clear hX hY hd1 hd2
 go_enter Tryz.func13,Tryz.ntmps13
 go_wp2_with fail
 refine ay 12 [] [] hm (h:=?_)
 repeat (refine ax (fun K hK=>?_);go_simp;refine hK _ ?_;clear hK K)
 refine lU fun nq osq=>?_
 try simp only[Act.put,aG]
 try dsimp only
 go_wp2_with fail
 refine ay 12 [] [] hm (h:=?_)
 repeat (refine ax (fun K hK=>?_);go_simp;refine hK _ ?_;clear hK K)
 refine lU fun nqb abO=>?_
 try simp only[Act.put,aG]
 try dsimp only
 go_wp2_with fail
 refine bodyPost_ret (v:=vk ((cx+X,cx+X+sz),(cy+Y,cy+Y+sz))) (by simp[results,Tryz.results13,go_sem]) rfl ?_
 exact aC.mk' rfl gw
end Go.Proofs.YtlkgjmnjhifehaaGreat
