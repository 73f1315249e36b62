
import Derived.Test.YtlkgjmnjhifehaaGreatGrX
import Derived.Test.YtlkgjmnjhifehaaGreatSvX
import Derived.Test.YtlkgjmnjhifehaaGreatPon
set_option linter.unusedSimpArgs false
set_option linter.unusedVariables false
set_option maxHeartbeats 16000000
set_option maxRecDepth 100000
namespace Go.Proofs.YtlkgjmnjhifehaaGreat
open Go.RowKit Go.Sort Go.Lib
attribute [local go_sem] dA steadyUpon
attribute [local go_sem ↓] bU bI aX aW aV aU aT
attribute [local go_sem] bH aK aJ size_grow tape_grow cell?_grow' aF aB grow_grow bW aY dR cO bY bK aN cZ aZ bZ bJ
attribute [local irreducible] wpSteady
attribute [local go_sem] Oper.semAt_some
def jm (gw gh c:Nat):List Nat:=(if c / gw=0 then [] else [c-gw])++((if c%gw=0 then [] else [c-1])++((if c%gw=gw-1 then [] else [c+1])++(if c / gw<gh-1 then [c+gw] else [])))
def encI (N:Nat)(i:Fin N):Array Value:=#[.int .i64 ((i.1:Nat):Int)]
theorem GY (g:Gr)(c:Int)(w:World) :
  Calls Tryz.prog 43 #[g.val,.int .i64 c] w fun e w'=>e=.returned (.func (.func 78) #[] #[.pointer (some ⟨w.heap.size+1,0,none⟩),.pointer (some ⟨w.heap.size,0,none⟩)])/\(w.alloc (.cells #[.int .i64 g.cx,.int .i64 g.cy,.int .i64 g.sz,.int .i64 g.w,.int .i64 g.h,.slice g.A g.cs.length g.c] 41 (0,0))).alloc (.cells #[.int .i64 c] 3 (0,0))=w':=by
 obtain⟨cx,cy,sz,fV,gK,A,cc,cs⟩:=g
 unfold Gr.val
 dsimp only
 generalize cs.length=n at *
 go_enter Tryz.func43,Tryz.ntmps43
 go_wp2
 go_ret
 exact⟨by simp,rfl⟩
def NF (l Bc Bg:Nat)(x y:Int)(ok:Bool)(a:Act):Prop:=∃f:Nat->Value,a={ tmps:=#[.func (.yield l) #[] #[],.pointer (some ⟨Bc,0,none⟩),.pointer (some ⟨Bg,0,none⟩),f 3,.int .i64 x,.int .i64 y,.bool ok,f 7,f 8,f 9,f 10,f 11,f 12,f 13,f 14,f 15,f 16,f 17,f 18,f 19,f 20,f 21,f 22,f 23,f 24,f 25,f 26,f 27,f 28,f 29,f 30,f 31,f 32,f 33,f 34,f 35,f 36,f 37,f 38,f 39,f 40,f 41,f 42,f 43,f 44,f 45,f 46,f 47,f 48,f 49,f 50,f 51,f 52,f 53,f 54,f 55,f 56,f 57,f 58,f 59,f 60,f 61,f 62,f 63],defers:=[] }
theorem NF.of {l Bc Bg:Nat}{x y:Int}{ok:Bool}{a:Act}(h:a={ tmps:=#[.func (.yield l) #[] #[],.pointer (some ⟨Bc,0,none⟩),.pointer (some ⟨Bg,0,none⟩),a.tmps.toList.getD 3 undef,.int .i64 x,.int .i64 y,.bool ok,a.tmps.toList.getD 7 undef,a.tmps.toList.getD 8 undef,a.tmps.toList.getD 9 undef,a.tmps.toList.getD 10 undef,a.tmps.toList.getD 11 undef,a.tmps.toList.getD 12 undef,a.tmps.toList.getD 13 undef,a.tmps.toList.getD 14 undef,a.tmps.toList.getD 15 undef,a.tmps.toList.getD 16 undef,a.tmps.toList.getD 17 undef,a.tmps.toList.getD 18 undef,a.tmps.toList.getD 19 undef,a.tmps.toList.getD 20 undef,a.tmps.toList.getD 21 undef,a.tmps.toList.getD 22 undef,a.tmps.toList.getD 23 undef,a.tmps.toList.getD 24 undef,a.tmps.toList.getD 25 undef,a.tmps.toList.getD 26 undef,a.tmps.toList.getD 27 undef,a.tmps.toList.getD 28 undef,a.tmps.toList.getD 29 undef,a.tmps.toList.getD 30 undef,a.tmps.toList.getD 31 undef,a.tmps.toList.getD 32 undef,a.tmps.toList.getD 33 undef,a.tmps.toList.getD 34 undef,a.tmps.toList.getD 35 undef,a.tmps.toList.getD 36 undef,a.tmps.toList.getD 37 undef,a.tmps.toList.getD 38 undef,a.tmps.toList.getD 39 undef,a.tmps.toList.getD 40 undef,a.tmps.toList.getD 41 undef,a.tmps.toList.getD 42 undef,a.tmps.toList.getD 43 undef,a.tmps.toList.getD 44 undef,a.tmps.toList.getD 45 undef,a.tmps.toList.getD 46 undef,a.tmps.toList.getD 47 undef,a.tmps.toList.getD 48 undef,a.tmps.toList.getD 49 undef,a.tmps.toList.getD 50 undef,a.tmps.toList.getD 51 undef,a.tmps.toList.getD 52 undef,a.tmps.toList.getD 53 undef,a.tmps.toList.getD 54 undef,a.tmps.toList.getD 55 undef,a.tmps.toList.getD 56 undef,a.tmps.toList.getD 57 undef,a.tmps.toList.getD 58 undef,a.tmps.toList.getD 59 undef,a.tmps.toList.getD 60 undef,a.tmps.toList.getD 61 undef,a.tmps.toList.getD 62 undef,a.tmps.toList.getD 63 undef],defers:=[] }):NF l Bc Bg x y ok a:=⟨fun i=>a.tmps.toList.getD i undef,h⟩
def NSt (gw gh c Bc Bg:Nat)(vb vg:Obj)(J Jx:List (Fin (gw*gh))->World->Prop)(ok:Bool)(L:List Nat)(W:World):Prop :=
 (ok=true/\∃pre:List (Fin (gw*gh)),pre.map Fin.val=L/\J pre W/\W.heap[Bc]?=some vb/\W.heap[Bg]?=some vg)\/(ok=false/\∃ (pre:List (Fin (gw*gh))) (k:Nat),pre.map Fin.val=(jm gw gh c).take k/\Jx pre W)
def NP (l gw gh c Bc Bg:Nat)(x y:Int)(vb vg:Obj)(J Jx:List (Fin (gw*gh))->World->Prop)(L:List Nat)(e:Exit)(a:Act)(W:World):Prop:=e=.normal/\∃ok,NF l Bc Bg x y ok a/\NSt gw gh c Bc Bg vb vg J Jx ok L W
theorem II {gw gh c:Nat}(h:c<gw*gh)(hw:1<=gw):c / gw<gh/\c%gw<gw/\c=gw*(c / gw)+c%gw:=by
 refine⟨Nat.div_lt_of_lt_mul h,Nat.mod_lt _ (by omega),(Nat.div_add_mod c gw).symm⟩
theorem PU {gw gh c:Nat}(h:c<gw*gh)(hy:c / gw<gh-1):c+gw<gw*gh:=by
 have h1:=Nat.div_add_mod c gw
 generalize c / gw=q at *
 have h2:q+1+1<=gh:=by omega
 have h3:gw*(q+1+1)<=gw*gh:=Nat.mul_le_mul_left _ h2
 rcases Nat.eq_zero_or_pos gw with rfl|hp
 ·simp at h
 ·have h4:=Nat.mod_lt c hp
  rw[Nat.mul_add,Nat.mul_add] at h3
  omega
theorem Ed {gw gh c:Nat}(h:c<gw*gh)(hx:c%gw≠gw-1)(hw:1<=gw):c+1<gw*gh:=by
 have h1:=Nat.div_add_mod c gw
 have h2:=Nat.mod_lt c hw
 have h3:=II h hw
 have h4:gw*(c / gw+1)<=gw*gh:=Nat.mul_le_mul_left _ (by omega)
 rw[Nat.mul_add] at h4
 omega
theorem PW {gw c:Nat}(hy:c / gw≠0):gw<=c:=by
 rcases Nat.lt_or_ge c gw with h|h
 ·exact absurd (Nat.div_eq_of_lt h) hy
 ·exact h
theorem PV {gw c:Nat}(hx:c%gw≠0):1<=c:=by
 rcases Nat.eq_zero_or_pos c with h|h
 ·subst h;simp at hx
 ·exact h
theorem Bd {l a b:List Nat}(h:l=a++b):a=l.take a.length:=by rw[h,List.take_left]
theorem BM (n K gw gh c Bc Bg:Nat)(M:Nat->TypeId->Prop)(cx cy sz:Int)(gsl:Value)(w:World)(hM:∀b T,M b T->b≠Bc/\b≠Bg)(hBc:w.heap[Bc]?=some (.cells #[.int .i64 (c:Int)] 3 (0,0)))
  (hBg:w.heap[Bg]?=some (.cells #[.int .i64 cx,.int .i64 cy,.int .i64 sz,.int .i64 (gw:Int),.int .i64 (gh:Int),gsl] 41 (0,0))) (hw:1<=gw/\gw<=64) (hh:1<=gh/\gh<=64) (hc:c<gw*gh) :
  SeqStopsK Fence.wide n Tryz.prog 78 #[.pointer (some ⟨Bc,0,none⟩),.pointer (some ⟨Bg,0,none⟩)] (encI (gw*gh)) (gW M) (fun xs=>xs.map Fin.val=jm gw gh c) (fun pre=>∃k,pre.map Fin.val=(jm gw gh c).take k) 4 w:=by
 intro l J Jx W hW hJ hJx hY h0
 have hm:=aP
 have aeQ:W.heap[Bc]?=some _:=(hW.block Bc (au hBc)).trans hBc
 have Om:W.heap[Bg]?=some _:=(hW.block Bg (au hBg)).trans hBg
 have SK:Hid (∀T,¬ M Bc T):=hide (fun T h=>(hM Bc T h).1 rfl)
 have KY:Hid (∀T,¬ M Bg T):=hide (fun T h=>(hM Bg T h).2 rfl)
 have HJ:=hide hJ
 have HJx:=hide hJx
 have HY:=hide hY
 have H0:=hide h0
 have hcl:c<4096:=by
  have:gw*gh<=64*64:=Nat.mul_le_mul hw.2 hh.2
  omega
 have hbd:=II hc hw.1
 have HC:=hide hc
 have HBc:=hide aeQ
 have HBg:=hide Om
 clear hM hJ hJx hY h0 hW hBc hBg aeQ Om hc
 refine callsIn_of_wp Tryz.func78 rfl trivial ?_ rfl
 simp only[Tryz.ntmps78,List.size_toArray,List.length_cons,List.length_nil,Nat.reduceAdd,Nat.reduceSub,Array.replicate_succ,Array.replicate_zero,List.push_toArray,List.append_toArray,List.nil_append,List.cons_append]
 obtain⟨x,hx⟩:∃x,c%gw=x:=⟨_,rfl⟩
 obtain⟨y,hy⟩:∃y,c / gw=y:=⟨_,rfl⟩
 have ajl:Int.tmod (c:Int) (gw:Int)=(x:Int):=by rw[<-hx,Int.natCast_emod,Int.tmod_eq_emod_of_nonneg (by omega)]
 have ajo:Int.tdiv (c:Int) (gw:Int)=(y:Int):=by rw[<-hy,Int.natCast_ediv,Int.tdiv_eq_ediv_of_nonneg (by omega)]
 have hne:¬ (gw:Int)=0:=by omega
 have hne2:¬ gw=0:=by omega
 have hxl:x<gw:=by omega
 have hyl:y<gh:=by omega
 have HX:=hide hx
 have XY:=hide hy
 have c0:=ag HBc.out 0
 have g3:=ag HBg.out 3
 have g4:=ag HBg.out 4
 have lc:=au HBc.out
 have lg:=au HBg.out
 clear hx hy hbd
 refine wpIn_seq ?_
 refine kL 10 [] [] hm (h:=?_)
 repeat (refine ax (fun K hK=>?_);go_simp;refine hK _ ?_;clear hK K)
 refine U4 fun nq osq=>?_
 try simp only[Act.put,aG]
 try dsimp only
 have hlist:Hid (jm gw gh c=((((([]:List Nat)++(if y=0 then [] else [c-gw]))++(if x=0 then [] else [c-1]))++(if x=gw-1 then [] else [c+1]))++(if y<gh-1 then [c+gw] else []))):=hide (by unfold jm;rw[HX.out,XY.out,List.nil_append,List.append_assoc,List.append_assoc])
 have hJ1:=HJ.out _ _ _ none H0.out ((Grew.mk W nq osq).grownBy none) (fun r hr=>by cases hr)
 have hc1:=((Grew.mk W nq osq).heap lc).trans HBc.out
 have hg1:=((Grew.mk W nq osq).heap lg).trans HBg.out
 have HJ1:=hide hJ1
 have O3:=hide hc1
 have jE:=hide hg1
 clear hJ1 hc1 hg1 c0 g3 g4 lc lg HBc HBg H0
 obtain⟨W1,hW1⟩:∃W1,Sort.grow (dr W nq) osq=W1:=⟨_,rfl⟩
 rw[hW1] at HJ1 O3 jE
 show Code.wpIn Fence.wide n Tryz.prog _ _ _ _
 rw[hW1]
 clear hW1
 obtain⟨L0,hL0⟩:∃L:List Nat,L=[]:=⟨_,rfl⟩
 obtain⟨L1,hL1⟩:∃L:List Nat,L=L0++(if y=0 then [] else [c-gw]):=⟨_,rfl⟩
 obtain⟨L2,hL2⟩:∃L:List Nat,L=L1++(if x=0 then [] else [c-1]):=⟨_,rfl⟩
 obtain⟨L3,hL3⟩:∃L:List Nat,L=L2++(if x=gw-1 then [] else [c+1]):=⟨_,rfl⟩
 obtain⟨L4,hL4⟩:∃L:List Nat,L=L3++(if y<gh-1 then [c+gw] else []):=⟨_,rfl⟩
 have Zi:Hid (jm gw gh c=L4):=hide (by rw[hL4,hL3,hL2,hL1,hL0];exact hlist.out)
 have HL0:=hide hL0
 have HL1:=hide hL1
 have HL2:=hide hL2
 have HL3:=hide hL3
 have HL4:=hide hL4
 clear hL0 hL1 hL2 hL3 hL4 hlist
 refine wpIn_seq (wpIn_mono (Q:=NP l gw gh c Bc Bg (x:Int) (y:Int) (.cells #[.int .i64 (c:Int)] 3 (0,0)) (.cells #[.int .i64 cx,.int .i64 cy,.int .i64 sz,.int .i64 (gw:Int),.int .i64 (gh:Int),gsl] 41 (0,0)) J Jx L1) ?h0 ?k0)
 case h0 =>
  have c0:=ag O3.out 0
  have g3:=ag jE.out 3
  have g4:=ag jE.out 4
  have lc:=au O3.out
  have lg:=au jE.out
  have CG:=HJ1
  have hpre:([]:List (Fin (gw*gh))).map Fin.val=L0:=HL0.out.symm
  obtain⟨pre,hpe⟩:∃p,p=([]:List (Fin (gw*gh))):=⟨_,rfl⟩
  rw[<-hpe] at CG hpre
  clear hpe
  have kW:=hide hpre
  have lV:pre.length<=0:=by have:=congrArg List.length hpre;rw[HL0.out] at this;simpa using this
  clear hpre
  by_cases hs:y=0
  ·have e1:((y:Int)==0)=true:=by simp;omega
   have HL:Hid (pre.map Fin.val=L1):=hide (by rw[HL1.out,kW.out,if_pos hs,List.append_nil])
   have HS:=hide hs
   clear hs
   gi_wp2_with fail
   try (refine⟨fun _ _=>trivial,?_⟩;gi_wp2_with fail)
   exact⟨rfl,true,NF.of rfl,.inl ⟨rfl,pre,HL.out,CG.out,O3.out,jE.out⟩⟩
  ·have e1:((y:Int)==0)=false:=by simp;omega
   have hml:c-gw<gw*gh:=by have:=HC.out;omega
   have Oh:((c-gw:Nat):Int)=(c:Int)-(gw:Int):=by have:=PW (gw:=gw) (c:=c) (by rw[XY.out];exact hs);omega
   have HL:Hid ((pre++[(⟨c-gw,hml⟩:Fin (gw*gh))]).map Fin.val=L1):=hide (by rw[HL1.out,List.map_append,kW.out,if_neg hs];rfl)
   have HLT:Hid ((pre++[(⟨c-gw,hml⟩:Fin (gw*gh))]).map Fin.val=(jm gw gh c).take ((pre++[(⟨c-gw,hml⟩:Fin (gw*gh))]).map Fin.val).length):=hide (by
    rw[HL.out,Zi.out]
    exact Bd (b:=(if x=0 then [] else [c-1])++(if x=gw-1 then [] else [c+1])++(if y<gh-1 then [c+gw] else [])) (by rw[HL4.out,HL3.out,HL2.out];try simp only[List.append_assoc]))
   have HS:=hide hs
   clear hs
   obtain⟨Zp,YB,ZX,ZR,hy1,hR1⟩:=HY.out _ ⟨c-gw,hml⟩ _ CG.out (by omega)
   rw[show encI (gw*gh) ⟨c-gw,hml⟩=#[.int .i64 ((c-gw:Nat):Int)] from rfl,Oh] at hy1
   have HR1:=hide hR1
   clear hR1 Oh
   gi_wp2_with fail
   try (refine⟨fun _ _=>trivial,?_⟩;gi_wp2_with fail)
   refine⟨(fun h=>by cases h),?_⟩
   refine HR1.out.mono ?_
   rintro e W3 (⟨rfl,hJ3,hk3⟩|⟨rfl,hJx3⟩)
   ·have hc3:=hk3 _ _ _ _ (SK.out _) O3.out
    have hg3:=hk3 _ _ _ _ (KY.out _) jE.out
    have MM:=hide hJ3
    have Ua:=hide hc3
    have vF:=hide hg3
    clear hJ3 hk3 hc3 hg3 hy1 c0 g3 g4 lc lg
    dsimp only
    gi_wp2_with fail
    try (refine⟨fun _ _=>trivial,?_⟩;gi_wp2_with fail)
    exact⟨rfl,true,NF.of rfl,.inl ⟨rfl,_,HL.out,MM.out,Ua.out,vF.out⟩⟩
   ·have HX3:=hide hJx3
    clear hJx3 hy1 c0 g3 g4 lc lg
    dsimp only
    gi_wp2_with fail
    try (refine⟨fun _ _=>trivial,?_⟩;gi_wp2_with fail)
    exact⟨rfl,false,NF.of rfl,.inr ⟨rfl,_,_,HLT.out,HX3.out⟩⟩
 case k0 =>
 rintro e a' W2 ⟨rfl,ok,⟨f,rfl⟩,hst⟩
 show Code.wpIn Fence.wide n Tryz.prog _ _ _ _
 refine wpIn_seq (wpIn_mono (Q:=NP l gw gh c Bc Bg (x:Int) (y:Int) (.cells #[.int .i64 (c:Int)] 3 (0,0)) (.cells #[.int .i64 cx,.int .i64 cy,.int .i64 sz,.int .i64 (gw:Int),.int .i64 (gh:Int),gsl] 41 (0,0)) J Jx L2) ?h1 ?k1)
 case h1 =>
  rcases hst with⟨rfl,pre,hpre,KZ,hck,hgk⟩|⟨rfl,pre,kk,hpre,KZ⟩
  rotate_left
  ·have kW:=hide hpre
   have HXX:=hide KZ
   clear hpre KZ
   gi_wp2_with fail
   all_goals first
    | exact (rZ (by assumption)).elim
    | (refine⟨fun _ _=>trivial,?_⟩;gi_wp2_with fail;exact⟨rfl,false,NF.of rfl,.inr ⟨rfl,pre,kk,kW.out,HXX.out⟩⟩)
  have c0:=ag hck 0
  have g3:=ag hgk 3
  have g4:=ag hgk 4
  have lc:=au hck
  have lg:=au hgk
  have CG:=hide KZ
  have O3:=hide hck
  have jE:=hide hgk
  have kW:=hide hpre
  have lV:pre.length<=1:=by
   have h9:=congrArg List.length hpre
   rw[List.length_map,HL1.out,HL0.out] at h9
   rw[h9]
   repeat (first|split|simp)
  clear hpre KZ hck hgk
  by_cases hs:x=0
  ·have e1:((x:Int)==0)=true:=by simp;omega
   have HL:Hid (pre.map Fin.val=L2):=hide (by rw[HL2.out,kW.out,if_pos hs,List.append_nil])
   have HS:=hide hs
   clear hs
   gi_wp2_with fail
   try (refine⟨fun _ _=>trivial,?_⟩;gi_wp2_with fail)
   exact⟨rfl,true,NF.of rfl,.inl ⟨rfl,pre,HL.out,CG.out,O3.out,jE.out⟩⟩
  ·have e1:((x:Int)==0)=false:=by simp;omega
   have hml:c-1<gw*gh:=by have:=HC.out;omega
   have Oh:((c-1:Nat):Int)=(c:Int)-1:=by have:=PV (gw:=gw) (c:=c) (by rw[HX.out];exact hs);omega
   have HL:Hid ((pre++[(⟨c-1,hml⟩:Fin (gw*gh))]).map Fin.val=L2):=hide (by rw[HL2.out,List.map_append,kW.out,if_neg hs];rfl)
   have HLT:Hid ((pre++[(⟨c-1,hml⟩:Fin (gw*gh))]).map Fin.val=(jm gw gh c).take ((pre++[(⟨c-1,hml⟩:Fin (gw*gh))]).map Fin.val).length):=hide (by
    rw[HL.out,Zi.out]
    exact Bd (b:=(if x=gw-1 then [] else [c+1])++(if y<gh-1 then [c+gw] else [])) (by rw[HL4.out,HL3.out];try simp only[List.append_assoc]))
   have HS:=hide hs
   clear hs
   obtain⟨Zp,YB,ZX,ZR,hy1,hR1⟩:=HY.out _ ⟨c-1,hml⟩ _ CG.out (by omega)
   rw[show encI (gw*gh) ⟨c-1,hml⟩=#[.int .i64 ((c-1:Nat):Int)] from rfl,Oh] at hy1
   have HR1:=hide hR1
   clear hR1 Oh
   gi_wp2_with fail
   try (refine⟨fun _ _=>trivial,?_⟩;gi_wp2_with fail)
   refine⟨(fun h=>by cases h),?_⟩
   refine HR1.out.mono ?_
   rintro e W3 (⟨rfl,hJ3,hk3⟩|⟨rfl,hJx3⟩)
   ·have hc3:=hk3 _ _ _ _ (SK.out _) O3.out
    have hg3:=hk3 _ _ _ _ (KY.out _) jE.out
    have MM:=hide hJ3
    have Ua:=hide hc3
    have vF:=hide hg3
    clear hJ3 hk3 hc3 hg3 hy1 c0 g3 g4 lc lg
    dsimp only
    gi_wp2_with fail
    try (refine⟨fun _ _=>trivial,?_⟩;gi_wp2_with fail)
    exact⟨rfl,true,NF.of rfl,.inl ⟨rfl,_,HL.out,MM.out,Ua.out,vF.out⟩⟩
   ·have HX3:=hide hJx3
    clear hJx3 hy1 c0 g3 g4 lc lg
    dsimp only
    gi_wp2_with fail
    try (refine⟨fun _ _=>trivial,?_⟩;gi_wp2_with fail)
    exact⟨rfl,false,NF.of rfl,.inr ⟨rfl,_,_,HLT.out,HX3.out⟩⟩
 case k1 =>
 rintro e a' W3 ⟨rfl,ok,⟨f,rfl⟩,hst⟩
 show Code.wpIn Fence.wide n Tryz.prog _ _ _ _
 refine wpIn_seq (wpIn_mono (Q:=NP l gw gh c Bc Bg (x:Int) (y:Int) (.cells #[.int .i64 (c:Int)] 3 (0,0)) (.cells #[.int .i64 cx,.int .i64 cy,.int .i64 sz,.int .i64 (gw:Int),.int .i64 (gh:Int),gsl] 41 (0,0)) J Jx L3) ?h2 ?k2)
 case h2 =>
  rcases hst with⟨rfl,pre,hpre,KZ,hck,hgk⟩|⟨rfl,pre,kk,hpre,KZ⟩
  rotate_left
  ·have kW:=hide hpre
   have HXX:=hide KZ
   clear hpre KZ
   gi_wp2_with fail
   all_goals first
    | exact (rZ (by assumption)).elim
    | (refine⟨fun _ _=>trivial,?_⟩;gi_wp2_with fail;exact⟨rfl,false,NF.of rfl,.inr ⟨rfl,pre,kk,kW.out,HXX.out⟩⟩)
  have c0:=ag hck 0
  have g3:=ag hgk 3
  have g4:=ag hgk 4
  have lc:=au hck
  have lg:=au hgk
  have CG:=hide KZ
  have O3:=hide hck
  have jE:=hide hgk
  have kW:=hide hpre
  have lV:pre.length<=2:=by
   have h9:=congrArg List.length hpre
   rw[List.length_map,HL2.out,HL1.out,HL0.out] at h9
   rw[h9]
   repeat (first|split|simp)
  clear hpre KZ hck hgk
  by_cases hs:x=gw-1
  ·have e1:((x:Int)==(gw:Int)-1)=true:=by simp;omega
   have HL:Hid (pre.map Fin.val=L3):=hide (by rw[HL3.out,kW.out,if_pos hs,List.append_nil])
   have HS:=hide hs
   clear hs
   gi_wp2_with fail
   try (refine⟨fun _ _=>trivial,?_⟩;gi_wp2_with fail)
   exact⟨rfl,true,NF.of rfl,.inl ⟨rfl,pre,HL.out,CG.out,O3.out,jE.out⟩⟩
  ·have e1:((x:Int)==(gw:Int)-1)=false:=by simp;omega
   have hml:c+1<gw*gh:=Ed HC.out (by rw[HX.out];exact hs) hw.1
   have Oh:((c+1:Nat):Int)=(c:Int)+1:=by omega
   have HL:Hid ((pre++[(⟨c+1,hml⟩:Fin (gw*gh))]).map Fin.val=L3):=hide (by rw[HL3.out,List.map_append,kW.out,if_neg hs];rfl)
   have HLT:Hid ((pre++[(⟨c+1,hml⟩:Fin (gw*gh))]).map Fin.val=(jm gw gh c).take ((pre++[(⟨c+1,hml⟩:Fin (gw*gh))]).map Fin.val).length):=hide (by
    rw[HL.out,Zi.out]
    exact Bd (b:=(if y<gh-1 then [c+gw] else [])) (by rw[HL4.out];try simp only[List.append_assoc]))
   have HS:=hide hs
   clear hs
   obtain⟨Zp,YB,ZX,ZR,hy1,hR1⟩:=HY.out _ ⟨c+1,hml⟩ _ CG.out (by omega)
   rw[show encI (gw*gh) ⟨c+1,hml⟩=#[.int .i64 ((c+1:Nat):Int)] from rfl,Oh] at hy1
   have HR1:=hide hR1
   clear hR1 Oh
   gi_wp2_with fail
   try (refine⟨fun _ _=>trivial,?_⟩;gi_wp2_with fail)
   refine⟨(fun h=>by cases h),?_⟩
   refine HR1.out.mono ?_
   rintro e W3 (⟨rfl,hJ3,hk3⟩|⟨rfl,hJx3⟩)
   ·have hc3:=hk3 _ _ _ _ (SK.out _) O3.out
    have hg3:=hk3 _ _ _ _ (KY.out _) jE.out
    have MM:=hide hJ3
    have Ua:=hide hc3
    have vF:=hide hg3
    clear hJ3 hk3 hc3 hg3 hy1 c0 g3 g4 lc lg
    dsimp only
    gi_wp2_with fail
    try (refine⟨fun _ _=>trivial,?_⟩;gi_wp2_with fail)
    exact⟨rfl,true,NF.of rfl,.inl ⟨rfl,_,HL.out,MM.out,Ua.out,vF.out⟩⟩
   ·have HX3:=hide hJx3
    clear hJx3 hy1 c0 g3 g4 lc lg
    dsimp only
    gi_wp2_with fail
    try (refine⟨fun _ _=>trivial,?_⟩;gi_wp2_with fail)
    exact⟨rfl,false,NF.of rfl,.inr ⟨rfl,_,_,HLT.out,HX3.out⟩⟩
 case k2 =>
 rintro e a' W4 ⟨rfl,ok,⟨f,rfl⟩,hst⟩
 show Code.wpIn Fence.wide n Tryz.prog _ _ _ _
 rcases hst with⟨rfl,pre,hpre,KZ,hck,hgk⟩|⟨rfl,pre,kk,hpre,KZ⟩
 rotate_left
 ·have kW:=hide hpre
  have HXX:=hide KZ
  clear hpre KZ
  gi_wp2_with fail
  go_end0
  exact⟨⟨_,rfl⟩,.inr ⟨pre,⟨kk,kW.out⟩,HXX.out⟩⟩
 have c0:=ag hck 0
 have g3:=ag hgk 3
 have g4:=ag hgk 4
 have lc:=au hck
 have lg:=au hgk
 have CG:=hide KZ
 have kW:=hide hpre
 have lV:pre.length<=3:=by
  have h9:=congrArg List.length hpre
  rw[List.length_map,HL3.out,HL2.out,HL1.out,HL0.out] at h9
  rw[h9]
  repeat (first|split|simp)
 clear hpre KZ hck hgk
 by_cases hs:y<gh-1
 ·have e1:(y:Int)<(gh:Int)-1:=by omega
  have hml:c+gw<gw*gh:=PU HC.out (by rw[XY.out];exact hs)
  have Oh:((c+gw:Nat):Int)=(c:Int)+(gw:Int):=by omega
  have HL:Hid ((pre++[(⟨c+gw,hml⟩:Fin (gw*gh))]).map Fin.val=jm gw gh c):=hide (by rw[Zi.out,HL4.out,List.map_append,kW.out,if_pos hs];rfl)
  have HLT:Hid ((pre++[(⟨c+gw,hml⟩:Fin (gw*gh))]).map Fin.val=(jm gw gh c).take (jm gw gh c).length):=hide (by rw[List.take_length];exact HL.out)
  clear hs
  obtain⟨Zp,YB,ZX,ZR,hy1,hR1⟩:=HY.out _ ⟨c+gw,hml⟩ _ CG.out (by omega)
  rw[show encI (gw*gh) ⟨c+gw,hml⟩=#[.int .i64 ((c+gw:Nat):Int)] from rfl,Oh] at hy1
  have HR1:=hide hR1
  clear hR1 Oh
  gi_wp2_with fail
  refine⟨(fun h=>by cases h),?_⟩
  refine HR1.out.mono ?_
  rintro e W5 (⟨rfl,hJ3,-⟩|⟨rfl,hJx3⟩)
  ·have MM:=hide hJ3
   clear hJ3 hy1 c0 g3 g4 lc lg
   dsimp only
   gi_wp2_with fail
   go_end0
   exact⟨⟨_,rfl⟩,.inl ⟨_,HL.out,MM.out⟩⟩
  ·have HX3:=hide hJx3
   clear hJx3 hy1 c0 g3 g4 lc lg
   dsimp only
   gi_wp2_with fail
   go_end0
   exact⟨⟨_,rfl⟩,.inr ⟨_,⟨_,HLT.out⟩,HX3.out⟩⟩
 ·have e1:¬ ((y:Int)<(gh:Int)-1):=by omega
  have HL:Hid (pre.map Fin.val=jm gw gh c):=hide (by rw[Zi.out,HL4.out,kW.out,if_neg hs,List.append_nil])
  clear hs
  gi_wp2_with fail
  go_end0
  exact⟨⟨_,rfl⟩,.inl ⟨_,HL.out,CG.out⟩⟩
set_option maxHeartbeats 16000000
set_option maxRecDepth 100000
def cellAt (cx cy sz:Int)(gw k:Nat):B4:=((cx+((k%gw:Nat):Int)*sz,cx+((k%gw:Nat):Int)*sz+sz),(cy+((k / gw:Nat):Int)*sz,cy+((k / gw:Nat):Int)*sz+sz))
def Qj (cx cy sz:Int)(gw N:Nat)(i:Fin N):Array Value:=#[vk (cellAt cx cy sz gw i.1)]
theorem Hm (g:Gr)(w:World) :
  Calls Tryz.prog 38 #[g.val] w fun e w'=>e=.returned (.func (.func 76) #[] #[.pointer (some ⟨w.heap.size,0,none⟩)])/\w.alloc (.cells #[.int .i64 g.cx,.int .i64 g.cy,.int .i64 g.sz,.int .i64 g.w,.int .i64 g.h,.slice g.A g.cs.length g.c] 41 (0,0))=w':=by
 obtain⟨cx,cy,sz,fV,gK,A,cc,cs⟩:=g
 unfold Gr.val
 dsimp only
 generalize cs.length=n at *
 go_enter Tryz.func38,Tryz.ntmps38
 go_wp2
 go_ret
 exact⟨by simp,rfl⟩
theorem ZL {gw gh i j:Nat}(hi:i<gw)(hj:j<gh):j*gw+i<gw*gh/\(j*gw+i)%gw=i/\(j*gw+i) / gw=j:=by
 have h1:(j+1)*gw<=gh*gw:=Nat.mul_le_mul_right _ hj
 rw[Nat.add_mul,Nat.one_mul,Nat.mul_comm gh gw] at h1
 refine⟨by omega,?_,?_⟩
 ·rw[Nat.add_comm,Nat.add_mul_mod_self_right,Nat.mod_eq_of_lt hi]
 ·rw[Nat.add_comm,Nat.add_mul_div_right _ _ (by omega),Nat.div_eq_of_lt hi,Nat.zero_add]
theorem Dy {i:Nat}{sz:Int}(hi:i<64)(hs:1<=sz/\sz<=100000):0<=(i:Int)*sz/\(i:Int)*sz<=6400000:=by
 have h:=jc 64 100000 (a:=(i:Int)) (b:=sz) (by omega) (by omega)
 have h2:0<=(i:Int)*sz:=Int.mul_nonneg (by omega) (by omega)
 omega
theorem zU (n K gw gh Bg:Nat)(M:Nat->TypeId->Prop)(cx cy sz:Int)(gsl:Value)(w:World)(hM:∀b T,M b T->b≠Bg)
  (hBg:w.heap[Bg]?=some (.cells #[.int .i64 cx,.int .i64 cy,.int .i64 sz,.int .i64 (gw:Int),.int .i64 (gh:Int),gsl] 41 (0,0))) (hw:1<=gw/\gw<=64) (hh:1<=gh/\gh<=64) (hs:1<=sz/\sz<=100000)
  (hx:-1000000<=cx/\cx<=1000000) (hy:-1000000<=cy/\cy<=1000000) :
  SeqStopsK Fence.wide n Tryz.prog 76 #[.pointer (some ⟨Bg,0,none⟩)] (Qj cx cy sz gw (gw*gh)) (gW M) (fun xs=>xs.map Fin.val=List.range (gw*gh)) (fun pre=>∃k,k<=gw*gh/\pre.map Fin.val=List.range k) (gw*gh) w:=by
 intro l J Jx W hW hJ hJx hY h0
 have hm:=aP
 have Om:W.heap[Bg]?=some _:=(hW.block Bg (au hBg)).trans hBg
 have KY:Hid (∀T,¬ M Bg T):=hide (fun T h=>hM Bg T h rfl)
 have HJ:=hide hJ
 have HJx:=hide hJx
 have HY:=hide hY
 have H0:=hide h0
 have HBg:=hide Om
 have g4:=ag Om 4
 have lg0:=au Om
 clear hM hJ hJx hY h0 hW hBg Om
 refine callsIn_of_wp Tryz.func76 rfl trivial ?_ rfl
 simp only[Tryz.ntmps76,List.size_toArray,List.length_cons,List.length_nil,Nat.reduceAdd,Nat.reduceSub,Array.replicate_succ,Array.replicate_zero,List.push_toArray,List.append_toArray,List.nil_append,List.cons_append]
 gi_wp2_with fail
 gi_loopw [9] (fun jv wr=>∃ (j:Nat) (pre:List (Fin (gw*gh))),j<=gh/\jv=.int .i64 j/\pre.map Fin.val=List.range (j*gw)/\J pre wr/\wr.heap[Bg]?=some (.cells #[.int .i64 cx,.int .i64 cy,.int .i64 sz,.int .i64 (gw:Int),.int .i64 (gh:Int),gsl] 41 (0,0))) (fun i _=>gh-(intOf i).toNat)
 case atStart=>exact⟨0,[],by omega,rfl,by simp,H0.out,HBg.out⟩
 case round =>
  obtain⟨j,pre,hj,rfl,hpre,hJ,hgb⟩:=hrel
  clear g4 lg0
  have kW:=hide hpre
  have CG:=hide hJ
  have X3:=hide hgb
  have g3:=ag hgb 3
  have lg:=au hgb
  clear hpre hJ hgb
  by_cases hlt:j<gh
  ·gi_wp2_with fail
   gi_loopw [14] (fun iv wr=>∃ (i:Nat) (pre:List (Fin (gw*gh))),i<=gw/\iv=.int .i64 i/\pre.map Fin.val=List.range (j*gw+i)/\J pre wr/\wr.heap[Bg]?=some (.cells #[.int .i64 cx,.int .i64 cy,.int .i64 sz,.int .i64 (gw:Int),.int .i64 (gh:Int),gsl] 41 (0,0))) (fun i _=>gw-(intOf i).toNat)
   case atStart=>exact⟨0,pre,by omega,rfl,by simpa using kW.out,CG.out,X3.out⟩
   case round =>
    obtain⟨i,pre2,hi,rfl,aa1,hJ2,SG⟩:=hrel
    have ac2:=hide aa1
    have HJ2:=hide hJ2
    have afz:=hide SG
    have q0:=ag SG 0
    have q1:=ag SG 1
    have q2:=ag SG 2
    have Uf:=au SG
    clear aa1 hJ2 SG g3 lg
    by_cases SB:i<gw
    ·obtain⟨hb1,hb2,hb3⟩:=ZL SB hlt
     have lV:pre2.length<gw*gh:=by
      have h9:=congrArg List.length ac2.out
      rw[List.length_map,List.length_range] at h9
      omega
     have henc:Qj cx cy sz gw (gw*gh) ⟨j*gw+i,hb1⟩=#[.agg #[.int .i64 (cx+(i:Int)*sz),.int .i64 (cx+(i:Int)*sz+sz),.int .i64 (cy+(j:Int)*sz),.int .i64 (cy+(j:Int)*sz+sz)]]:=by
      show #[vk ((cx+(((j*gw+i)%gw:Nat):Int)*sz,cx+(((j*gw+i)%gw:Nat):Int)*sz+sz),(cy+(((j*gw+i) / gw:Nat):Int)*sz,cy+(((j*gw+i) / gw:Nat):Int)*sz+sz))]=_
      rw[hb2,hb3]
     have p1:=Dy (i:=i) (by omega) hs
     have p2:=Dy (i:=j) (by omega) hs
     have w1:IntKind.i64.wrap ((i:Int)*sz)=(i:Int)*sz:=by unfold IntKind.wrap;simp[IntKind.bits,IntKind.signed];omega
     have w2:IntKind.i64.wrap ((j:Int)*sz)=(j:Int)*sz:=by unfold IntKind.wrap;simp[IntKind.bits,IntKind.signed];omega
     have w3:IntKind.i64.wrap (cx+(i:Int)*sz)=cx+(i:Int)*sz:=by unfold IntKind.wrap;simp[IntKind.bits,IntKind.signed];omega
     have w4:IntKind.i64.wrap (cy+(j:Int)*sz)=cy+(j:Int)*sz:=by unfold IntKind.wrap;simp[IntKind.bits,IntKind.signed];omega
     have w5:IntKind.i64.wrap (cx+(i:Int)*sz+sz)=cx+(i:Int)*sz+sz:=by unfold IntKind.wrap;simp[IntKind.bits,IntKind.signed];omega
     have w6:IntKind.i64.wrap (cy+(j:Int)*sz+sz)=cy+(j:Int)*sz+sz:=by unfold IntKind.wrap;simp[IntKind.bits,IntKind.signed];omega
     have adf:=hide henc
     have O1:=hide lV
     have F7:Hid ((pre2++[(⟨j*gw+i,hb1⟩:Fin (gw*gh))]).map Fin.val=List.range (j*gw+(i+1))):=hide (by rw[List.map_append,ac2.out,show j*gw+(i+1)=(j*gw+i)+1 from rfl,List.range_succ];rfl)
     clear henc lV p1 p2
     gi_wp2_with fail
     refine kL 18 [] [] hm (h:=?_)
     repeat (refine ax (fun K hK=>?_);go_simp;refine hK _ ?_;clear hK K)
     refine U4 fun nq osq=>?_
     try simp only[Act.put,aG]
     try dsimp only
     have EC:=HJ.out _ _ _ none HJ2.out ((Grew.mk wr nq osq).grownBy none) (fun r hr=>by cases hr)
     have hg5:=((Grew.mk wr nq osq).heap Uf).trans afz.out
     have vC:=hide hg5
     have r1:=ag hg5 2
     have lg5:=au hg5
     obtain⟨Zp,YB,ZX,ZR,hy1,hR1⟩:=HY.out _ ⟨j*gw+i,hb1⟩ _ EC O1.out
     rw[adf.out] at hy1
     have HR1:=hide hR1
     clear hR1 EC hg5 q0 q1 q2 Uf
     gi_wp2_with fail
     refine⟨(fun h=>by cases h),?_⟩
     refine HR1.out.mono ?_
     rintro e W3 (⟨rfl,hJ3,hk3⟩|⟨rfl,hJx3⟩)
     ·have hg3:=hk3 _ _ _ _ (KY.out _) vC.out
      have MM:=hide hJ3
      have vF:=hide hg3
      clear hJ3 hk3 hg3 hy1 r1 lg5
      dsimp only
      gi_wp2_with fail
      go_roundw
      case rel=>exact⟨i+1,_,by omega,by go_num,F7.out,MM.out,vF.out⟩
      case measure=>simp[intOf];omega
     ·have HX:=hide hJx3
      clear hJx3 hy1 r1 lg5
      dsimp only
      gi_wp2_with fail
      refine bodyPost_ret (results_none rfl _ _ _) rfl ?_
      exact⟨⟨_,rfl⟩,.inr ⟨_,⟨j*gw+(i+1),hb1,F7.out⟩,HX.out⟩⟩
    ·obtain rfl:i=gw:=by omega
     gi_wp2_with fail
     exact⟨⟨j+1,pre2,by omega,by go_num,ac2.out.trans (congrArg List.range (by rw[Nat.add_mul,Nat.one_mul])),HJ2.out,afz.out⟩,by simp[intOf];omega⟩
  ·obtain rfl:j=gh:=by omega
   gi_wp2
   go_end0
   exact⟨⟨_,rfl⟩,.inl ⟨_,kW.out.trans (by rw[Nat.mul_comm]),CG.out⟩⟩
end Go.Proofs.YtlkgjmnjhifehaaGreat
set_option maxHeartbeats 4000000
set_option maxRecDepth 100000
namespace Go.Proofs.YtlkgjmnjhifehaaGreat
open Go.RowKit Go.Sort
attribute [local go_sem] dA steadyUpon
attribute [local go_sem ↓] bU bI aX aW aV aU aT
attribute [local go_sem] bH aK aJ size_grow tape_grow cell?_grow' aF aB grow_grow bW aY dR cO bY bK aN cZ aZ bZ bJ
attribute [local irreducible] wpSteady
attribute [local go_sem] aaL aaN aaI aaO aaJ aaH aaK aaM
theorem YX (v : Value) (w : World) : (method 382 151 v "seamark/feature.touches").run Tryz.prog w = .ok (224, v) w := by kernel_rfl
theorem YU (v : Value) (w : World) : (nilAhead 382 151 v "seamark/feature.touches").run Tryz.prog w = .ok (some false) w := by kernel_rfl
theorem YY (v : Value) (w : World) : (method 382 149 v "seamark/feature.touches").run Tryz.prog w = .ok (208, v) w := by kernel_rfl
theorem YV (v : Value) (w : World) : (nilAhead 382 149 v "seamark/feature.touches").run Tryz.prog w = .ok (some false) w := by kernel_rfl
theorem VI (v : Value) (w : World) : (method 382 148 v "seamark/feature.touches").run Tryz.prog w = .ok (204, v) w := by kernel_rfl
theorem Vz (v : Value) (w : World) : (nilAhead 382 148 v "seamark/feature.touches").run Tryz.prog w = .ok (some false) w := by kernel_rfl
attribute [local go_sem] YX YU YY YV VI Vz
def qF (ps:List Pt)(p:Pt)(s:Int):Bool:=(qC ps p s).2==0&&decide (0<=(qC ps p s).1)
def uO (ps qs:List Pt):Bool:=(sJ ps qs).2==0&&(sJ ps qs).1
def qg (f:FV)(qs:List Pt):Bool:=if f.kind=4 then false else if f.kind=3\/f.kind=6 then uO f.area qs else qF qs (f.x,f.y) f.dC
def oC (f g:FV):Bool×Int:=if (bf f&&bf g)=true then (qg f g.area,0) else (false,1)
theorem Js (ps:List Pt)(A:Option Addr)(c:Nat)(p:Pt)(s:Int)(o:Bool)(w:World)(hr:Rd w w.heap.size 2 A (ps.map dY))(hc:ps.length<=100000000000000)(h:qF ps p s=o) :
  Calls Tryz.prog 208 #[.slice A ps.length c,.iface 151 (.agg #[.int .i64 p.1,.int .i64 p.2,.int .i64 s])] w (aC w (.bool o)):=by
 have hm:=aP
 unfold qF at h
 obtain⟨⟨n,e⟩,hn⟩:∃u,qC ps p s=u:=⟨_,rfl⟩
 have k1:=hide (fun W (hg:Grew w W)=>Ya ps A c p s (n,e) W (hr.up hg) hc hn)
 rw[hn] at h
 dsimp only at h k1
 clear hn hr
 obtain⟨p1,p2⟩:=p
 dsimp only at k1 ⊢
 have hcase:(e=0/\0<=n)\/(e=0/\¬ 0<=n)\/(e==0)=false:=by by_cases h:e=0<;>by_cases h2:0<=n<;>simp[h,h2]
 rcases hcase with⟨rfl,h1⟩|⟨rfl,h1⟩|h1
 ·simp[h1] at h
  subst h
  go_enter Tryz.func208,Tryz.ntmps208
  go_wp2_with (go_at_call 210;with_reducible refine aQ (k1.out _ gw) fun _ _=>?_;dsimp only)
  go_ret
  exact aC.mk' (by simp[h1]) gw
 all_goals
  simp[h1] at h
  subst h
  go_enter Tryz.func208,Tryz.ntmps208
  go_wp2_with (go_at_call 210;with_reducible refine aQ (k1.out _ gw) fun _ _=>?_;dsimp only)
  go_ret
  exact aC.mk' (by simp[h1]) gw
theorem Jt (ps:List Pt)(A:Option Addr)(c:Nat)(qs:List Pt)(A':Option Addr)(c':Nat)(o:Bool)(w:World)(hr:Rd w w.heap.size 2 A (ps.map dY))(hc:ps.length<=100000000000000)(hr':Rd w w.heap.size 2 A' (qs.map dY))(hc':qs.length<=100000000000000)(h:uO ps qs=o) :
  Calls Tryz.prog 208 #[.slice A ps.length c,.iface 149 (.slice A' qs.length c')] w (aC w (.bool o)):=by
 have hm:=aP
 unfold uO at h
 obtain⟨⟨n,e⟩,hn⟩:∃u,sJ ps qs=u:=⟨_,rfl⟩
 have k1:=hide (fun W (hg:Grew w W)=>aad ps qs A A' c c' (n,e) W (hr.up hg) (hr'.up hg) hc hc' hn)
 rw[hn] at h
 dsimp only at h k1
 clear hn hr hr'
 have hcase:e=0\/(e==0)=false:=by by_cases h:e=0<;>simp[h]
 rcases hcase with rfl|h1
 ·simp at h
  subst h
  go_enter Tryz.func208,Tryz.ntmps208
  go_wp2_with (go_at_call 212;with_reducible refine aQ (k1.out _ gw) fun _ _=>?_;dsimp only)
  go_ret
  exact aC.mk' rfl gw
 ·rw[h1] at h
  simp at h
  subst h
  go_enter Tryz.func208,Tryz.ntmps208
  go_wp2_with (go_at_call 212;with_reducible refine aQ (k1.out _ gw) fun _ _=>?_;dsimp only)
  go_ret
  exact aC.mk' (by simp[h1]) gw
theorem Jk (ps:List Pt)(A:Option Addr)(c:Nat)(x y r:Int)(o:Bool)(w:World)(hr:Rd w w.heap.size 2 A (ps.map dY))(hc:ps.length<=100000000000000)(h:qF ps (x,y) r=o) :
  Calls Tryz.prog 224 #[.agg #[.int .i64 x,.int .i64 y,.int .i64 r],.iface 149 (.slice A ps.length c)] w (aC w (.bool o)):=by
 have hm:=aP
 have k1:=hide (fun W (hg:Grew w W)=>Js ps A c (x,y) r o W (hr.up hg) hc h)
 dsimp only at k1
 clear hr h
 go_enter Tryz.func224,Tryz.ntmps224
 go_wp2_with (go_at_call 208;with_reducible refine aQ (k1.out _ gw) fun _ _=>?_;dsimp only)
 go_ret
 exact aC.mk' rfl gw
theorem IZ (x y:Int)(s:Value)(w:World):Calls Tryz.prog 204 #[.agg #[.int .i64 x,.int .i64 y],s] w (aC w (.bool false)):=by
 have hm:=aP
 go_enter Tryz.func204,Tryz.ntmps204
 go_wp2_with fail
 go_ret
 exact aC.mk' rfl gw
theorem UK (f g:FV)(F:Value)(o:Bool)(w:World)(hf:f.rd w w.heap.size)(hg:g.rd w w.heap.size)(vf:bf f=true)(vg:bf g=true)
  (kf:Hid (∀W,Calls Tryz.prog 50 #[f.val] W (aC W (.iface 151 (.agg #[.int .i64 f.x,.int .i64 f.y,.int .i64 f.dC]))))) (kg:Hid (∀W,Calls Tryz.prog 50 #[g.val] W (aC W F)))
  (kh:Hid (∀W,Grew w W->Calls Tryz.prog 224 #[.agg #[.int .i64 f.x,.int .i64 f.y,.int .i64 f.dC],F] W (aC W (.bool o)))) :
  Calls Tryz.prog 40 #[f.val,g.val] w (aC w (.tuple #[.bool o,.int .i64 0])):=by
 have hm:=aP
 have k1:=hide (fun W (h:Grew w W)=>dE f true W (hf.up h) vf)
 have k2:=hide (fun W (h:Grew w W)=>dE g true W (hg.up h) vg)
 clear hf hg vf vg
 go_enter Tryz.func40,Tryz.ntmps40
 go_wp2_with (first|(go_at_call 56;with_reducible refine aQ (k1.out _ gw) fun _ _=>?_;dsimp only)|(go_at_call 56;with_reducible refine aQ (k2.out _ gw) fun _ _=>?_;dsimp only))
 refine ay 10 [] [] hm (h:=?_)
 repeat (refine ax (fun K hK=>?_);go_simp;first|(refine hK _ ?_;clear hK K)|(apply Exists.intro;refine⟨fun _=>?_,hK _ ?_⟩;(first|(go_at_call 50;first|with_reducible exact kf.out _|with_reducible exact kg.out _)|(go_at_call 224;with_reducible exact kh.out _ gw));clear hK K))
 refine lU fun nq osq=>?_
 try simp only[Act.put,aG]
 try dsimp only
 go_wp2_with fail
 go_ret2
 exact aC.mk' rfl gw
theorem UL (f g:FV)(F:Value)(o:Bool)(w:World)(hf:f.rd w w.heap.size)(hg:g.rd w w.heap.size)(vf:bf f=true)(vg:bf g=true)
  (kf:Hid (∀W,Calls Tryz.prog 50 #[f.val] W (aC W (.iface 149 (.slice f.aA f.area.length f.ac))))) (kg:Hid (∀W,Calls Tryz.prog 50 #[g.val] W (aC W F)))
  (kh:Hid (∀W,Grew w W->Calls Tryz.prog 208 #[.slice f.aA f.area.length f.ac,F] W (aC W (.bool o)))) :
  Calls Tryz.prog 40 #[f.val,g.val] w (aC w (.tuple #[.bool o,.int .i64 0])):=by
 have hm:=aP
 have k1:=hide (fun W (h:Grew w W)=>dE f true W (hf.up h) vf)
 have k2:=hide (fun W (h:Grew w W)=>dE g true W (hg.up h) vg)
 clear hf hg vf vg
 go_enter Tryz.func40,Tryz.ntmps40
 go_wp2_with (first|(go_at_call 56;with_reducible refine aQ (k1.out _ gw) fun _ _=>?_;dsimp only)|(go_at_call 56;with_reducible refine aQ (k2.out _ gw) fun _ _=>?_;dsimp only))
 refine ay 10 [] [] hm (h:=?_)
 repeat (refine ax (fun K hK=>?_);go_simp;first|(refine hK _ ?_;clear hK K)|(apply Exists.intro;refine⟨fun _=>?_,hK _ ?_⟩;(first|(go_at_call 50;first|with_reducible exact kf.out _|with_reducible exact kg.out _)|(go_at_call 208;with_reducible exact kh.out _ gw));clear hK K))
 refine lU fun nq osq=>?_
 try simp only[Act.put,aG]
 try dsimp only
 go_wp2_with fail
 go_ret2
 exact aC.mk' rfl gw
theorem QX (f g:FV)(F:Value)(o:Bool)(w:World)(hf:f.rd w w.heap.size)(hg:g.rd w w.heap.size)(vf:bf f=true)(vg:bf g=true)
  (kf:Hid (∀W,Calls Tryz.prog 50 #[f.val] W (aC W (.iface 148 (.agg #[.int .i64 f.x,.int .i64 f.y]))))) (kg:Hid (∀W,Calls Tryz.prog 50 #[g.val] W (aC W F)))
  (kh:Hid (∀W,Grew w W->Calls Tryz.prog 204 #[.agg #[.int .i64 f.x,.int .i64 f.y],F] W (aC W (.bool o)))) :
  Calls Tryz.prog 40 #[f.val,g.val] w (aC w (.tuple #[.bool o,.int .i64 0])):=by
 have hm:=aP
 have k1:=hide (fun W (h:Grew w W)=>dE f true W (hf.up h) vf)
 have k2:=hide (fun W (h:Grew w W)=>dE g true W (hg.up h) vg)
 clear hf hg vf vg
 go_enter Tryz.func40,Tryz.ntmps40
 go_wp2_with (first|(go_at_call 56;with_reducible refine aQ (k1.out _ gw) fun _ _=>?_;dsimp only)|(go_at_call 56;with_reducible refine aQ (k2.out _ gw) fun _ _=>?_;dsimp only))
 refine ay 10 [] [] hm (h:=?_)
 repeat (refine ax (fun K hK=>?_);go_simp;first|(refine hK _ ?_;clear hK K)|(apply Exists.intro;refine⟨fun _=>?_,hK _ ?_⟩;(first|(go_at_call 50;first|with_reducible exact kf.out _|with_reducible exact kg.out _)|(go_at_call 204;with_reducible exact kh.out _ gw));clear hK K))
 refine lU fun nq osq=>?_
 try simp only[Act.put,aG]
 try dsimp only
 go_wp2_with fail
 go_ret2
 exact aC.mk' rfl gw
theorem XP (f g:FV)(r:Bool×Int)(w:World)(hf:f.rd w w.heap.size)(hg:g.rd w w.heap.size)(hk:g.kind=3)(h:oC f g=r) :
  Calls Tryz.prog 40 #[f.val,g.val] w (aC w (.tuple #[.bool r.1,.int .i64 r.2])):=by
 unfold oC at h
 subst h
 by_cases hv:(bf f&&bf g)=true
 ·rw[if_pos hv]
  rw[Bool.and_eq_true] at hv
  have kg:Hid (∀W,Calls Tryz.prog 50 #[g.val] W (aC W (.iface 149 (.slice g.aA g.area.length g.ac)))):=hide (fun W=>xK g _ W (lY (.inl hk)))
  by_cases f4:f.kind=4
  ·refine QX f g _ _ w hf hg hv.1 hv.2 (hide (fun W=>xK f _ W (oD f4))) kg (hide (fun W hgr=>?_))
   have e:qg f g.area=false:=by unfold qg;rw[if_pos f4]
   rw[e]
   exact IZ _ _ _ W
  ·by_cases f3:f.kind=3\/f.kind=6
   ·exact UL f g _ _ w hf hg hv.1 hv.2 (hide (fun W=>xK f _ W (lY f3))) kg (hide (fun W hgr=>Jt _ _ _ _ _ _ _ W ((hf.up hgr).area) hf.la ((hg.up hgr).area) hg.la (by unfold qg;rw[if_neg f4,if_pos f3])))
   ·exact UK f g _ _ w hf hg hv.1 hv.2 (hide (fun W=>xK f _ W (mX f4 f3))) kg (hide (fun W hgr=>Jk _ _ _ _ _ _ _ W ((hg.up hgr).area) hg.la (by unfold qg;rw[if_neg f4,if_neg f3])))
 ·rw[if_neg hv]
  obtain⟨a,ha⟩:∃u,bf f=u:=⟨_,rfl⟩
  obtain⟨b,hb⟩:∃u,bf g=u:=⟨_,rfl⟩
  have hm:=aP
  have k1:=hide (fun W (h:Grew w W)=>dE f a W (hf.up h) ha)
  have k2:=hide (fun W (h:Grew w W)=>dE g b W (hg.up h) hb)
  rw[ha,hb] at hv
  clear hf hg ha hb hk
  have hcase:a=false\/(a=true/\b=false):=by cases a<;>cases b<;>simp at hv ⊢
  rcases hcase with rfl|⟨rfl,rfl⟩
  all_goals
   go_enter Tryz.func40,Tryz.ntmps40
   go_wp2_with (first|(go_at_call 56;with_reducible refine aQ (k1.out _ gw) fun _ _=>?_;dsimp only)|(go_at_call 56;with_reducible refine aQ (k2.out _ gw) fun _ _=>?_;dsimp only))
   go_ret2
   exact aC.mk' rfl gw
end Go.Proofs.YtlkgjmnjhifehaaGreat
set_option maxHeartbeats 4000000
set_option maxRecDepth 100000
namespace Go.Proofs.YtlkgjmnjhifehaaGreat
open Go.RowKit Go.Sort Go.Lib
attribute [local go_sem] dA steadyUpon
attribute [local go_sem ↓] bU bI aX aW aV aU aT
attribute [local go_sem] bH aK aJ size_grow tape_grow cell?_grow' aF aB grow_grow bW aY dR cO bY bK aN cZ aZ bZ bJ
attribute [local irreducible] wpSteady
def lQ (A:Option Addr)(c:Nat)(b:B4):FV:=⟨1,3,0,0,0,A,c,(kP b).1,0,0,none,0,[]⟩
theorem QV (f:FV)(A:Option Addr)(c:Nat)(b:B4):oC f (lQ A c b)=oC f (lQ none 0 b):=rfl
def Ak (b:B4)(f:FV):Bool:=(oC f (lQ none 0 b)).2==0&&(oC f (lQ none 0 b)).1
def stepD (b:B4)(d:Int)(f:FV):Int:=if d<=f.dep then d else if Ak b f=true then f.dep else d
def xZ (fs:List FV)(b:B4):Int:=fs.foldl (stepD b) 100000
def zK (fs:List FV)(b:B4)(k:Nat):Int:=xZ (fs.take k) b
theorem Ot {fs:List FV}{b:B4}{k:Nat}(h:k<fs.length):zK fs b (k+1)=stepD b (zK fs b k) (bF fs k):=by
 unfold zK xZ
 rw[List.take_add_one,dI h,List.foldl_append]
 rfl
def gridOf (fs:List FV)(cx cy sz:Int)(gw gh:Nat):List Int:=(List.range (gw*gh)).map fun k=>xZ fs (cellAt cx cy sz gw k)
def afJ (w:World)(cx cy sz gw gh:Int)(cs:List Int)(e:Ending)(w':World):Prop:=∃A c,e=.returned (.tuple #[Gr.val ⟨cx,cy,sz,gw,gh,A,c,cs⟩,.int .i64 0])/\cs.length<=c/\Rd w' w'.heap.size 1 A (cs.map encZ)/\Grew w w'
theorem acu {W w1:World}{n₀ n₁ B i:Nat}{t:TypeId}{cs:Array Value}{v v':Value}{xs ys:List Int}
  (hv:W.heap[B]?=some (.cells cs t (0,0))) (hrow:OZ W n₀ v xs) (hB:n₁<=B) (hBn:B<n₀) (h01:n₁<=n₀) (hown':OZ w1 n₀ v' ys) (hgrow:W.grownBy w1 v.ownBlock) :
  w1.heap[B]?=some (.cells cs t (0,0))/\(w1.setCell ⟨B,i,none⟩ v').heap[B]?=some (.cells (cs.setIfInBounds i v') t (0,0))/\OZ (w1.setCell ⟨B,i,none⟩ v') n₀ v' ys/\KeepsOthers W (w1.setCell ⟨B,i,none⟩ v')/\Below n₁ W (w1.setCell ⟨B,i,none⟩ v') /\
  ∀b,b≠B->b<n₀->b<W.heap.size->(w1.setCell ⟨B,i,none⟩ v').heap[b]?=W.heap[b]?:=by
 have hne:∀b,b<n₀->some b≠v.ownBlock:=fun b hb e=>by have:=(World.ownsRow.lt hrow b e.symm).1;omega
 have hv1:w1.heap[B]?=some (.cells cs t (0,0)):=(hgrow.block B (au hv) (hne B hBn)).trans hv
 have hcell:∀j o,v.ownBlock=some j->W.heap[j]?=some o->∃cs,o=.cells cs 3 (0,0):=by
  intro j o ej hj
  rcases hrow.2 with⟨rfl,_⟩|⟨g,cap,cur,rfl,_,hgb,_⟩
  ·simp[Value.ownBlock] at ej
  ·obtain rfl:g=j:=by simpa[Value.ownBlock] using ej
   rw[hgb] at hj
   injection hj with hj
   exact⟨cur,hj.symm⟩
 refine⟨hv1,?_,?_,?_,?_,?_⟩
 ·simp[World.setCell,Array.getElem?_modify,hv1]
 ·refine World.ownsRow.kept hown' (row:=some B) (jf (iC _ _) i v') (.inr fun e=>?_)
  have:=(World.ownsRow.lt hown' B e).1
  omega
 ·refine (KeepsOthers.of_grownBy hgrow fun j o ej hj=>?_).trans (KeepsOthers.setCell _ _ _)
  obtain⟨cs,rfl⟩:=hcell j o ej hj
  rfl
 ·refine ((Below.refl n₁ W).grown hgrow (Nat.le_trans hB (Nat.le_of_lt (au hv))) fun j ej=>?_).setCell (p:=⟨B,i,none⟩) hB v'
  exact Nat.le_trans h01 (World.ownsRow.lt hrow j ej).1
 ·intro b hbB hb hbs
  rw[Below.heap_setCell w1 ⟨B,i,none⟩ v' b hbB]
  exact hgrow.block b hbs (hne b hb)
theorem acs {β:Type}{B b base:Nat}{T:TypeId}(k:Value->Array Value)(xs:β->List Int):OwnFrom B (fun (s:β) W=>∃v,W.heap[b]?=some (.cells (k v) T (0,0))/\OZ W base v (xs s)):=by
 rintro s X Y row ⟨v,h1,h2⟩ hg hr
 refine⟨v,fG h1 hg (fun r e=>(hr r e).2),World.ownsRow.kept h2 hg ?_⟩
 rcases h2.2 with⟨rfl,_⟩|⟨g,cap,cur,rfl,_,hgb,_⟩
 ·exact .inl rfl
 ·refine .inr fun e'=>?_
  obtain⟨o,ho,hc⟩:=(hr g (by simpa[Value.ownBlock] using e'.symm)).2
  rw[hgb] at ho
  cases ho
  cases hc
theorem aaj (fs:List FV)(A:Option Addr)(c:Nat)(cx cy sz fV gK:Int)(w:World)(hr:nI w w.heap.size A fs)(hc:fs.length<=100000000000000)(h:(fA cx cy sz fV gK&&bQ fs)=false) :
  Calls Tryz.prog 10 #[.slice A fs.length c,pt cx cy,.int .i64 sz,.int .i64 fV,.int .i64 gK] w (aC w (.tuple #[Gr.val ⟨0,0,0,0,0,none,0,[]⟩,.int .i64 1])):=by
 have hm:=aP
 obtain⟨o,ho⟩:∃o,fA cx cy sz fV gK=o:=⟨_,rfl⟩
 obtain⟨u,hu⟩:∃u,bQ fs=u:=⟨_,rfl⟩
 obtain⟨r,hfr⟩:∃r,wG cx cy sz fV gK=r:=⟨_,rfl⟩
 have k1:=hide (fun W=>Dt ⟨cx,cy,sz,fV,gK,none,0,[]⟩ W r o hfr ho)
 have k2:=hide (fun W (hg:Grew w W)=>iO fs A c u W (hr.up hg) hc hu)
 rw[ho,hu] at h
 unfold Gr.val at k1 ⊢
 obtain⟨⟨r1,r2⟩,⟨r3,r4⟩⟩:=r
 dsimp only[List.length_nil] at k1 ⊢
 clear hr ho hu hfr
 generalize fs.length=n at *
 cases o
 ·go_enter Tryz.func10,Tryz.ntmps10
  go_wp2_with (first|(go_at_call 36;with_reducible refine aQ (k1.out _) fun _ _=>?_;dsimp only)|(go_at_call 37;with_reducible refine aQ (k2.out _ gw) fun _ _=>?_;dsimp only))
  refine bodyPost_ret (v:=.tuple #[.agg #[.int .i64 0,.int .i64 0,.int .i64 0,.int .i64 0,.int .i64 0,.slice none 0 0],.int .i64 1]) (by simp[results,Tryz.results10,go_sem]) rfl ?_
  exact aC.mk' rfl gw
 ·obtain rfl:u=false:=h
  go_enter Tryz.func10,Tryz.ntmps10
  go_wp2_with (first|(go_at_call 36;with_reducible refine aQ (k1.out _) fun _ _=>?_;dsimp only)|(go_at_call 37;with_reducible refine aQ (k2.out _ gw) fun _ _=>?_;dsimp only))
  refine bodyPost_ret (v:=.tuple #[.agg #[.int .i64 0,.int .i64 0,.int .i64 0,.int .i64 0,.int .i64 0,.slice none 0 0],.int .i64 1]) (by simp[results,Tryz.results10,go_sem]) rfl ?_
  exact aC.mk' rfl gw
set_option maxHeartbeats 16000000
set_option maxRecDepth 100000
attribute [local go_sem] Oper.semAt_some
def cellsOf (fs:List FV)(cx cy sz:Int)(nw nh:Nat)(pre:List (Fin (nw*nh))):List Int:=pre.map fun i=>xZ fs (cellAt cx cy sz nw i.1)
def st6 (W:World)(b:Nat)(v0 v1 v2 v3 v4 v5:Value):World:=(((((W.setCell ⟨b,0,none⟩ v0).setCell ⟨b,1,none⟩ v1).setCell ⟨b,2,none⟩ v2).setCell ⟨b,3,none⟩ v3).setCell ⟨b,4,none⟩ v4).setCell ⟨b,5,none⟩ v5
theorem abA {W:World}{b:Nat}{c0 c1 c2 c3 c4 c5 v0 v1 v2 v3 v4 v5:Value}{T:TypeId}(h:W.heap[b]?=some (.cells #[c0,c1,c2,c3,c4,c5] T (0,0))):(st6 W b v0 v1 v2 v3 v4 v5).heap[b]?=some (.cells #[v0,v1,v2,v3,v4,v5] T (0,0)):=by
 simp[st6,World.setCell,Array.getElem?_modify,h]
theorem abz (W:World)(b:Nat)(v0 v1 v2 v3 v4 v5:Value):W.grownBy (st6 W b v0 v1 v2 v3 v4 v5) (some b):=jf (jf (jf (jf (jf (jf (iC _ _) 0 v0) 1 v1) 2 v2) 3 v3) 4 v4) 5 v5
theorem Bx.left {W:World}{n:Nat}{a b:List Obj}(h:Bx W n (a++b)):Bx W n a:=fun i o ho=>h i o (by rw[List.getElem?_append_left (List.getElem?_eq_some_iff.1 ho).1];exact ho)
theorem MG (fs:List FV)(A:Option Addr)(c:Nat)(cx cy sz:Int)(nw nh:Nat)(w:World)(hr:nI w w.heap.size A fs)(hf:fA cx cy sz nw nh=true)(hl:bQ fs=true) :
  Calls Tryz.prog 10 #[.slice A fs.length c,pt cx cy,.int .i64 sz,.int .i64 nw,.int .i64 nh] w (afJ w cx cy sz nw nh (gridOf fs cx cy sz nw nh)):=by
 have hm:=aP
 have hfl:fs.length<=300:=by
  unfold bQ at hl
  rw[Bool.and_eq_true,decide_eq_true_eq] at hl
  exact hl.2
 have hsd:(1<=sz/\sz<=100000)/\(1<=nw/\nw<=64)/\(1<=nh/\nh<=64):=by
  unfold fA qf at hf
  rw[Bool.and_eq_true,decide_eq_true_eq] at hf
  omega
 have hcn:(-1000000<=cx/\cx<=1000000)/\(-1000000<=cy/\cy<=1000000):=by
  unfold fA okB wK at hf
  rw[Bool.and_eq_true,Bool.and_eq_true,decide_eq_true_eq] at hf
  dsimp only at hf
  omega
 obtain⟨r,hfr⟩:∃r,wG cx cy sz nw nh=r:=⟨_,rfl⟩
 have k1:=hide (fun W=>Dt ⟨cx,cy,sz,nw,nh,none,0,[]⟩ W r true hfr hf)
 have k2:=hide (fun W (hg:Grew w W)=>iO fs A c true W (hr.up hg) (by omega) hl)
 have k3:=hide (fun W=>Hm ⟨cx,cy,sz,nw,nh,none,0,[]⟩ W)
 have HR:=hide hr
 unfold Gr.val at k1 k3
 obtain⟨⟨r1,r2⟩,⟨r3,r4⟩⟩:=r
 dsimp only[List.length_nil] at k1 k3 ⊢
 clear hr hf hl hfr
 obtain⟨nl,hnl⟩:∃n,fs.length=n:=⟨_,rfl⟩
 rw[hnl] at k2 hfl ⊢
 refine (callsIn_wide (n:=13)).1 ?_
 refine callsIn_of_wp_marks Tryz.func10 rfl trivial ?_ rfl
 simp only[Tryz.ntmps10,List.size_toArray,List.length_cons,List.length_nil,Nat.reduceAdd,Nat.reduceSub,Array.replicate_succ,Array.replicate_zero,List.push_toArray,List.append_toArray,List.nil_append,List.cons_append]
 gi_wp2_with fail
 refine⟨trivial,?_⟩
 refine (callsIn_wide.2 (k1.out _)).mono ?_
 rintro e w1 ⟨rfl,hg1⟩
 obtain⟨gb,hgb⟩:∃g:Obj,g=.cells #[.int .i64 cx,.int .i64 cy,.int .i64 sz,.int .i64 nw,.int .i64 nh,.slice none 0 0] 41 (0,0):=⟨_,rfl⟩
 obtain⟨bx,hbx⟩:∃bx:List Obj,bx=[.cells #[.slice A nl c] 23 (0,0),.cells #[.int .i64 cx,.int .i64 cy] 28 (0,0),.cells #[.int .i64 0,.int .i64 0,.int .i64 0,.int .i64 0,.int .i64 0,.slice none 0 0] 41 (0,0)]:=⟨_,rfl⟩
 have hb1:Bx w1 w.heap.size (bx++[gb]):=by rw[hbx,hgb];refine (Bx.lT _ w).1.grew ?_;simp only[List.foldl,List.cons_append,List.nil_append];exact Grew.trans gw hg1
 have hw1:Grew w w1:=Grew.trans gw hg1
 have hbl:bx.length=3:=by rw[hbx];rfl
 have hz1:w.heap.size+4<=w1.heap.size:=by
  have:=au (hb1 3 _ (by rw[hbx,hgb];rfl))
  omega
 have q0:=ag (hb1 0 _ (by rw[hbx];rfl)) 0
 have hb3:w1.heap[w.heap.size+1+1+1]?=_:=hb1 3 _ (by rw[hbx,hgb];rfl)
 have lq0:w.heap.size<w1.heap.size:=by omega
 rw[Nat.add_zero] at q0
 have Hb1:=hide (Bx.left hb1)
 have HB3:=hide hb3
 have Hw1:=hide hw1
 clear hb1 hw1 hg1
 dsimp only
 gi_wp2_with fail
 refine⟨trivial,?_⟩
 refine (callsIn_wide.2 (k2.out _ gw)).mono ?_
 rintro e w2 ⟨rfl,hg2⟩
 dsimp only
 have hw2:Grew w1 w2:=Grew.trans gw hg2
 have hz2:=hw2.below.size
 have q3:=(hw2.heap (by omega)).trans hb3
 have lq3:w.heap.size+1+1+1<w2.heap.size:=by omega
 have e0:=ag q3 0
 have e1:=ag q3 1
 have e2:=ag q3 2
 have e3:=ag q3 3
 have e4:=ag q3 4
 have e5:=ag q3 5
 have HW2:=hide hw2
 clear hw2 hg2 q0 hb3 lq0 q3
 gi_wp2_with fail
 refine⟨trivial,?_⟩
 refine (callsIn_wide.2 (k3.out _)).mono ?_
 rintro e w3 ⟨rfl,hw3⟩
 dsimp only
 gi_wp2_with fail
 refine dJ ?_
 intro a0 W0 ha hW
 subst hW
 have hg3:Grew w2 w3:=by rw[<-hw3];exact gw
 have hg0:Grew w w3:=(Hw1.out.trans HW2.out).trans hg3
 have hb0:=(Hb1.out.grew HW2.out).grew hg3
 have aeH:w3.heap[w.heap.size+1+1+1]?=some (.cells #[.int .i64 cx,.int .i64 cy,.int .i64 sz,.int .i64 (nw:Int),.int .i64 (nh:Int),.slice none 0 0] 41 (0,0)):=((HW2.out.trans hg3).heap (by omega)).trans HB3.out
 have hk0:w3.heap[w2.heap.size]?=some (.cells #[.int .i64 cx,.int .i64 cy,.int .i64 sz,.int .i64 (nw:Int),.int .i64 (nh:Int),.slice none 0 0] 41 (0,0)):=by rw[<-hw3];exact heap_alloc_new _ _
 have hsz:w3.heap.size=w2.heap.size+1:=by rw[<-hw3];simp
 have lN:=hide hg0
 have HB0:=hide hb0
 have HK0:=hide hk0
 have ahE:=hide aeH
 clear hw3 hg3 hg0 hb0 hk0 aeH e0 e1 e2 e3 e4 e5 lq3
 obtain⟨Z,hZ⟩:∃Z,w2.heap.size=Z:=⟨_,rfl⟩
 rw[hZ] at hsz HK0 hz2
 have ha2:a0.eval (.tmp 43)=.func (.func 76) #[] #[.pointer (some ⟨Z,0,none⟩)]:=by rw[<-ha,<-hZ];simp[Act.eval]
 have HZ:=hide hZ
 clear hZ
 refine wpIn_rangeFunc_ownH (n:=13) rfl (by omega) (gf:=76) (lb:=#[.pointer (some ⟨Z,0,none⟩)]) ha2 trivial (enters_of Tryz.func76 (by kernel_rfl) rfl)
  (zU 12 w.heap.size nw nh Z (fun b _=>b=w.heap.size+1+1+1\/Z+1<=b) cx cy sz (.slice none 0 0) w3 (fun b _ hb=>by omega) HK0.out hsd.2.1 hsd.2.2 hsd.1 hcn.1 hcn.2)
  (fun h k=>h.trans k) gW.bk (Below.refl _ _) (fun _=>rfl)
  (fun pre W=>(Below w.heap.size w W/\Bx W w.heap.size bx)/\∃v,W.heap[w.heap.size+1+1+1]?=some (.cells #[.int .i64 cx,.int .i64 cy,.int .i64 sz,.int .i64 (nw:Int),.int .i64 (nh:Int),v] 41 (0,0))/\OZ W (Z+1) v (cellsOf fs cx cy sz nw nh pre))
  (fun _ _ _=>False)
  (OwnFrom.and (OwnFrom.and (ownFrom_below (Nat.le_refl _) lN.out.below.size) (Bx.own (by omega))) (acs (fun v=>#[.int .i64 cx,.int .i64 cy,.int .i64 sz,.int .i64 (nw:Int),.int .i64 (nh:Int),v]) (fun pre=>cellsOf fs cx cy sz nw nh pre)))
  (fun q=>ownFrom_pure _)
  ⟨⟨lN.out.below,HB0.out⟩,_,ahE.out,OZ.nil _ _⟩
  (fun x a' W=>∃B,W.heap[B]?=some (.cells #[.int .i64 (cellAt cx cy sz nw x.1).1.1,.int .i64 (cellAt cx cy sz nw x.1).1.2,.int .i64 (cellAt cx cy sz nw x.1).2.1,.int .i64 (cellAt cx cy sz nw x.1).2.2] 50 (0,0))/\a'={ tmps:=(a0.tmps.setIfInBounds 44 (vk (cellAt cx cy sz nw x.1))).setIfInBounds 15 (.pointer (some ⟨B,0,none⟩)),defers:=[] })
  (fun x a'=>by
   rintro s X Y row ⟨B,h1,h2⟩ hg hr
   exact⟨B,fG h1 hg (fun r e=>(hr r e).2),h2⟩)
  ?assign ?body ?done ?stop
 case assign =>
  rintro l pre x W K ⟨⟨hB,hb⟩,v,hgv,Qa⟩ hK
  rw[show Qj cx cy sz nw (nw*nh) x=#[vk (cellAt cx cy sz nw x.1)] from rfl,L9]
  subst ha
  simp only[List.setIfInBounds_toArray,List.set_cons_succ,List.set_cons_zero] at hK ⊢
  have wu:=hide hK
  clear hK
  gi_wp2_with fail
  have hgg:Grew W (W.alloc (.cells #[.int .i64 (cellAt cx cy sz nw x.1).1.1,.int .i64 (cellAt cx cy sz nw x.1).1.2,.int .i64 (cellAt cx cy sz nw x.1).2.1,.int .i64 (cellAt cx cy sz nw x.1).2.2] 50)):=gw
  exact wu.out _ _ (hgg.aS _) (gW.grew hgg) ⟨⟨hB.trans (hgg.below.mono hB.size),hb.grew hgg⟩,v,(hgg.heap (au hgv)).trans hgv,Qa.grew hgg⟩ ⟨W.heap.size,heap_alloc_new _ _,rfl⟩
 case body =>
  rintro l pre x a' W hl2 ⟨r0,hlr⟩ ⟨⟨hB,hb⟩,v,hgv,Qa⟩ ⟨B,hx,rfl⟩ hlt
  subst ha
  have HWW:=hide (Nat.le_of_lt (Nat.lt_of_le_of_lt hl2 (au hlr)))
  obtain⟨b,hbb⟩:∃b,cellAt cx cy sz nw x.1=b:=⟨_,rfl⟩
  have hsn:Hid (cellsOf fs cx cy sz nw nh (pre++[x])=cellsOf fs cx cy sz nw nh pre++[xZ fs b]):=hide (by unfold cellsOf;rw[List.map_append,<-hbb];rfl)
  have hol:(cellsOf fs cx cy sz nw nh pre).length<=4096:=by
   unfold cellsOf
   rw[List.length_map]
   have:nw*nh<=64*64:=Nat.mul_le_mul hsd.2.1.2 hsd.2.2.2
   omega
  rw[hbb] at hx
  simp only[hbb]
  obtain⟨out,hout⟩:∃o,cellsOf fs cx cy sz nw nh pre=o:=⟨_,rfl⟩
  rw[hout] at Qa hol
  have Yo:Hid (cellsOf fs cx cy sz nw nh (pre++[x])=out++[xZ fs b]):=hide (by rw[hsn.out,hout])
  obtain⟨⟨b1,b2⟩,⟨b3,b4⟩⟩:=b
  dsimp only at hx ⊢
  obtain⟨Av,cv,rfl,hcv⟩:=Qa.slice
  have HB:=hide hB
  have Hb:=hide hb
  have HX:=hide hx
  have HGV:=hide hgv
  have HOZ:=hide Qa
  have x0:=ag hx 0
  have x1:=ag hx 1
  have x2:=ag hx 2
  have x3:=ag hx 3
  have lx:=au hx
  clear hB hb hx hgv Qa hsn hout hbb hlt hl2 hlr
  simp only[List.setIfInBounds_toArray,List.set_cons_succ,List.set_cons_zero]
  gi_wp2_with fail
  refine⟨trivial,?_⟩
  refine (CallsIn.inRound l (callsIn_wide.2 (MC ((b1,b2),(b3,b4)) _))).mono ?_
  rintro e W2 ⟨vr,rfl,hown,hgr⟩
  obtain⟨Ar,cr,rfl,hcr,hrd⟩:=Rd.iE (f:=dY) ni hown rfl
  dsimp only
  have hRW:Hid (Grew w W2):=hide ((Grew.of_below HB.out).trans hgr)
  have hcell:Hid ((lQ Ar cr ((b1,b2),(b3,b4))).rd W2 W2.heap.size):=hide ⟨hrd,Rd.nil _ _ _ _,by unfold lQ kP dh;dsimp only;(repeat' split)<;>simp,by simp[lQ],by simp[lQ]⟩
  have hl0:w.heap.size<W.heap.size:=by have:=HB.out.size;have:=(au (HB3.out));have:=HGV.out;have:=au this;omega
  have q0:W2.cell? ⟨w.heap.size,0,none⟩=some (.slice A nl c):=ag ((hgr.heap hl0).trans (Hb.out 0 _ (by rw[hbx];rfl))) 0
  have lq0:w.heap.size<W2.heap.size:=Nat.lt_of_lt_of_le hl0 hgr.below.size
  have JH:=hide hgr
  clear hgr hrd hown x0 x1 x2 x3 lx hcr
  obtain⟨na,hna⟩:∃n,(kP ((b1,b2),(b3,b4))).1.length=n:=⟨_,rfl⟩
  obtain⟨re,hre⟩:∃n,(kP ((b1,b2),(b3,b4))).2=n:=⟨_,rfl⟩
  rw[hna,hre]
  clear hre
  have HNA:=hide hna
  clear hna
  gi_wp2_with fail
  refine dJ ?_
  intro a1 W3 ha1 hW
  have hg3:Grew W2 W3:=by rw[<-hW];exact gw
  have hbc:W3.heap[W2.heap.size]?=some (.cells #[.int .i64 1,.int .i64 3,.int .i64 0,.int .i64 0,.int .i64 0,.slice Ar na cr,.int .i64 0,.int .i64 0,.slice none 0 0] 65 (0,0)):=by rw[<-hW];exact heap_alloc_new _ _
  have vF:=hide hg3
  have CJ:=hide hbc
  clear hW hg3 hbc q0 lq0
  subst ha1
  gi_loopw [19,54] (fun d i wr=>∃k:Nat,k<=nl/\i=.int .i64 k/\d=.int .i64 (zK fs ((b1,b2),(b3,b4)) k)/\Hid (Grew W3 wr)) (fun _ i _=>nl-(intOf i).toNat)
  case atStart=>exact⟨0,by omega,rfl,by simp[zK,xZ],hide (Grew.refl _)⟩
  case round =>
   obtain⟨k,hk,rfl,rfl,hG⟩:=hrel
   by_cases hk2:k<nl
   ·have hlt:k<fs.length:=by rw[hnl];exact hk2
    have hgw:Grew w wr:=(hRW.out.trans vF.out).trans hG.out
    obtain⟨b0,off,hA',hb0,fc⟩:=yD (HR.out.up hgw) hlt
    have hfr:=(HR.out.up hgw).each _ (dQ hlt)
    have hix:=aO (cap:=c) Tryz.underlying23 Tryz.sizeOf65 hA'.out hlt
    rw[hnl] at hix
    have hstep:=Ot (b:=((b1,b2),(b3,b4))) hlt
    obtain⟨dd,hdd⟩:∃d,zK fs ((b1,b2),(b3,b4)) k=d:=⟨_,rfl⟩
    obtain⟨o,ho⟩:∃o,oC (bF fs k) (lQ Ar cr ((b1,b2),(b3,b4)))=o:=⟨_,rfl⟩
    have ht:Ak ((b1,b2),(b3,b4)) (bF fs k)=(o.2==0&&o.1):=by unfold Ak;rw[<-QV _ Ar cr,ho]
    have hcv:(lQ Ar cr ((b1,b2),(b3,b4))).val=.agg #[.int .i64 1,.int .i64 3,.int .i64 0,.int .i64 0,.int .i64 0,.slice Ar na cr,.int .i64 0,.int .i64 0,.slice none 0 0]:=by rw[<-HNA.out];rfl
    have k5:Hid (∀W',Grew wr W'->Calls Tryz.prog 40 #[(bF fs k).val,.agg #[.int .i64 1,.int .i64 3,.int .i64 0,.int .i64 0,.int .i64 0,.slice Ar na cr,.int .i64 0,.int .i64 0,.slice none 0 0]] W' (aC W' (.tuple #[.bool o.1,.int .i64 o.2]))):=hide (fun W' hg=>by
     have h:=XP (bF fs k) (lQ Ar cr ((b1,b2),(b3,b4))) o W' (hfr.up hg) (hcell.out.up ((vF.out.trans hG.out).trans hg)) rfl ho
     rwa [hcv] at h)
    unfold stepD at hstep
    rw[ht,hdd] at hstep
    rw[hdd]
    have TY:=hide hstep
    have g0:=ag ((hG.out.heap (au CJ.out)).trans CJ.out) 0
    have g1:=ag ((hG.out.heap (au CJ.out)).trans CJ.out) 1
    have g2:=ag ((hG.out.heap (au CJ.out)).trans CJ.out) 2
    have g3:=ag ((hG.out.heap (au CJ.out)).trans CJ.out) 3
    have g4:=ag ((hG.out.heap (au CJ.out)).trans CJ.out) 4
    have g5:=ag ((hG.out.heap (au CJ.out)).trans CJ.out) 5
    have g6:=ag ((hG.out.heap (au CJ.out)).trans CJ.out) 6
    have g7:=ag ((hG.out.heap (au CJ.out)).trans CJ.out) 7
    have g8:=ag ((hG.out.heap (au CJ.out)).trans CJ.out) 8
    have lg:W2.heap.size<wr.heap.size:=au ((hG.out.heap (au CJ.out)).trans CJ.out)
    obtain⟨x0,x1,x2,x3,x4,x5,x6,x7,x8⟩:=fc
    clear ho ht hcv hstep hfr hA' hdd hgw
    generalize bF fs k=f at *
    obtain⟨id,kind,x,y,dC,aA,ac,area,dep,sym,sA,sc,secs⟩:=f
    unfold FV.val at k5
    obtain⟨o1,o2⟩:=o
    dsimp only at *
    generalize area.length=na2 at *
    generalize secs.length=nn at *
    have hcase:dd<=dep\/(¬ dd<=dep/\o2=0/\o1=true)\/(¬ dd<=dep/\o2=0/\o1=false)\/(¬ dd<=dep/\(o2==0)=false):=by by_cases h1:dd<=dep<;>by_cases h2:o2=0<;>cases o1<;>simp[h1,h2]
    rcases hcase with h1|⟨h1,rfl,rfl⟩|⟨h1,rfl,rfl⟩|⟨h1,h2⟩
    ·gi_wp2_with fail
     go_roundw
     case rel=>exact⟨k+1,by omega,by go_num,by rw[TY.out,if_pos h1],hide (hG.out.trans gw)⟩
     case measure=>simp[intOf];omega
    all_goals
     gi_wp2_with fail
     refine⟨trivial,?_⟩
     refine (CallsIn.inRound l (callsIn_wide.2 (k5.out _ gw))).mono ?_
     rintro e W4 ⟨rfl,hg4⟩
     dsimp only
     have qK:Hid (Grew W3 W4):=hide (hG.out.trans (Grew.trans gw hg4))
     have gd:=ag ((hg4.heap (by simp)).trans (heap_alloc_new wr _)) 6
     have ld:wr.heap.size<W4.heap.size:=Nat.lt_of_lt_of_le (by simp) hg4.below.size
     clear hg4 x0 x1 x2 x3 x4 x5 x6 x7 x8 g0 g1 g2 g3 g4 g5 g6 g7 g8 hix
     gi_wp2_with fail
     go_roundw
     case rel=>exact⟨k+1,by omega,by go_num,by rw[TY.out,if_neg (show ¬ dd<=dep by omega)];first|rfl|(simp;done)|(simp[*];done),qK⟩
     case measure=>simp[intOf];omega
   ·obtain rfl:k=nl:=by omega
    have hgw:Grew W wr:=(JH.out.trans vF.out).trans hG.out
    have hgv:=(hgw.heap (au HGV.out)).trans HGV.out
    have g0:=ag hgv 5
    have lgv:w.heap.size+1+1+1<wr.heap.size:=au hgv
    have Qa:=HOZ.out.grew hgw
    have acj:xZ fs ((b1,b2),(b3,b4))=zK fs ((b1,b2),(b3,b4)) k:=by unfold zK;rw[<-hnl,List.take_length]
    obtain⟨dd,hdd⟩:∃d,zK fs ((b1,b2),(b3,b4)) k=d:=⟨_,rfl⟩
    have ahh:Hid (cellsOf fs cx cy sz nw nh (pre++[x])=out++[dd]):=hide (by rw[Yo.out,acj,hdd])
    rw[hdd]
    have akH:=hide acj
    have afq:=hide Qa
    have HGW:=hide hgw
    have ahC:=hide hgv
    have hzl:Z+1<=wr.heap.size:=by have:=HWW.out;have:=hgw.below.size;omega
    clear acj hdd Qa hgw hgv
    gi_wp2_with (gi_at_builtin;refine kH.stop ?_)
    refine kH.go ?_
    refine xP rfl (.tmp 77) (.tmp 79) rfl (Z+1) _ out rfl (afq.out.grew gw) wr.heap.size dd rfl (ag (heap_alloc_new wr _) 0) (by omega) (by simp;omega) ?_
    intro v' w4 hown' hgrow _
    obtain⟨A4,c4,rfl,hc4⟩:=hown'.slice
    obtain⟨n2,hn2⟩:∃n,(out++[dd]).length=n:=⟨_,rfl⟩
    rw[hn2] at hown' ⊢
    have Dz:=hide hn2
    clear hn2
    have hXg:Grew W (wr.alloc (.cells #[.int .i64 dd] 3)):=HGW.out.trans gw
    have hzw:w.heap.size+4<=Z:=by omega
    obtain⟨z1,z2,z3,z4,z5,z6⟩:=acu (i:=5) (n₁:=w.heap.size) ((heap_alloc_old wr _ lgv).trans ahC.out) (afq.out.grew gw) (by omega) (by omega) (by omega) hown' hgrow
    have y1:=ag z1 5
    have f1:w4.frozen? ⟨w.heap.size+1+1+1,5,none⟩=false:=by simp[World.frozen?,z1]
    have ly1:=au z1
    have Z2:=hide z2
    have Z3:=hide z3
    have Z4:=hide z4
    have Z5:=hide z5
    have Z6:=hide z6
    have HXG:=hide hXg
    clear z1 z2 z3 z4 z5 z6 hown' hgrow hXg g0 hc4
    gi_wp2_with fail
    refine⟨(HXG.out.aS _).trans (Z4.out.from _),fun b cs T fr hM hb=>?_,⟨⟨(HB.out.trans (HXG.out.below.mono HB.out.size)).trans Z5.out,fun i o ho=>?_⟩,_,Z2.out,?_⟩⟩
    ·have hbl:=au hb
     rw[Z6.out b (fun e=>hM (.inl e)) (Nat.lt_of_not_le fun e=>hM (.inr e)) (Nat.lt_of_lt_of_le hbl HXG.out.below.size)]
     exact (HXG.out.heap hbl).trans hb
    ·have h0:=Hb.out i o ho
     have hi:=(List.getElem?_eq_some_iff.1 ho).1
     rw[Z6.out (w.heap.size+i) (by omega) (by omega) (Nat.lt_of_lt_of_le (au h0) HXG.out.below.size)]
     exact (HXG.out.heap (au h0)).trans h0
    ·rw[ahh.out]
     exact Z3.out
 case done =>
  subst ha
  rintro D xs W hD hS ⟨⟨hB,hb⟩,v,hgv,Qa⟩ hK
  have hcs:cellsOf fs cx cy sz nw nh xs=gridOf fs cx cy sz nw nh:=by
   unfold cellsOf gridOf
   rw[<-hS,List.map_map]
   rfl
  rw[hcs] at Qa
  have hgl:(gridOf fs cx cy sz nw nh).length<=4096:=by
   unfold gridOf
   rw[List.length_map,List.length_range]
   have:nw*nh<=64*64:=Nat.mul_le_mul hsd.2.1.2 hsd.2.2.2
   omega
  generalize gridOf fs cx cy sz nw nh=out at *
  obtain⟨Av,cv,rfl,hcv⟩:=Qa.slice
  have h2:W.heap[w.heap.size+1+1]?=some (.cells #[.int .i64 0,.int .i64 0,.int .i64 0,.int .i64 0,.int .i64 0,.slice none 0 0] 41 (0,0)):=hb 2 _ (by rw[hbx];rfl)
  have e0:=ag hgv 0
  have e1:=ag hgv 1
  have e2:=ag hgv 2
  have e3:=ag hgv 3
  have e4:=ag hgv 4
  have e5:=ag hgv 5
  have d0:=ag h2 0
  have d1:=ag h2 1
  have d2:=ag h2 2
  have d3:=ag h2 3
  have d4:=ag h2 4
  have d5:=ag h2 5
  have r0:W.frozen? ⟨w.heap.size+1+1,0,none⟩=false:=by simp[World.frozen?,h2]
  have r1:W.frozen? ⟨w.heap.size+1+1,1,none⟩=false:=by simp[World.frozen?,h2]
  have r2:W.frozen? ⟨w.heap.size+1+1,2,none⟩=false:=by simp[World.frozen?,h2]
  have r3:W.frozen? ⟨w.heap.size+1+1,3,none⟩=false:=by simp[World.frozen?,h2]
  have r4:W.frozen? ⟨w.heap.size+1+1,4,none⟩=false:=by simp[World.frozen?,h2]
  have r5:W.frozen? ⟨w.heap.size+1+1,5,none⟩=false:=by simp[World.frozen?,h2]
  have l2:=au h2
  have lgv:=au hgv
  have HB:=hide hB
  have HOZ:=hide Qa
  have HGV:=hide hgv
  have H2:=hide h2
  have HK:=hide hK
  clear hB hb hgv Qa hK h2 hS hcs
  gi_wp2_with fail
  show bodyPostM _ _ _ _ _ _ _ (st6 W (w.heap.size+1+1) (.int .i64 cx) (.int .i64 cy) (.int .i64 sz) (.int .i64 (nw:Int)) (.int .i64 (nh:Int)) (.slice Av out.length cv))
  have h6:=abA (v0:=.int .i64 cx) (v1:=.int .i64 cy) (v2:=.int .i64 sz) (v3:=.int .i64 (nw:Int)) (v4:=.int .i64 (nh:Int)) (v5:=.slice Av out.length cv) H2.out
  have Yh:=abz W (w.heap.size+1+1) (.int .i64 cx) (.int .i64 cy) (.int .i64 sz) (.int .i64 (nw:Int)) (.int .i64 (nh:Int)) (.slice Av out.length cv)
  generalize st6 W (w.heap.size+1+1) (.int .i64 cx) (.int .i64 cy) (.int .i64 sz) (.int .i64 (nw:Int)) (.int .i64 (nh:Int)) (.slice Av out.length cv)=W6 at *
  have hzw:w.heap.size+4<=w3.heap.size:=by omega
  have hK6:W6.heap[D]?=some (.deferred (some [])):=(Yh.block D (au HK.out) (fun e=>by injection e with e;omega)).trans HK.out
  have hB6:Below w.heap.size w W6:=gz Yh HB.out (by omega)
  have agp:OZ W6 (Z+1) (.slice Av out.length cv) out:=World.ownsRow.kept HOZ.out Yh (.inr fun e=>by have:=(World.ownsRow.lt HOZ.out _ e).1;omega)
  refine⟨by simp,.inl ⟨_,_,rfl,run_takeDeferred hK6,?_⟩⟩
  have hb5:=hB6.trans (belowK_b (w:=w) (Nat.le_refl _) _ D _ (.deferred none) (by omega) hK6 rfl rfl)
  obtain⟨A9,c9,e9,hrd⟩:=OZ.rd (show OZ (W6.putObj D (.deferred none)) (Z+1) (.slice Av out.length cv) out from ownsRow_putObj agp (.deferred none) hK6 rfl)
  injection e9 with e9 _ e9'
  subst e9 e9'
  have p0:=(bG (o:=.deferred none) (show w.heap.size+1+1≠D by omega)).trans (ag h6 0)
  have p1:=(bG (o:=.deferred none) (show w.heap.size+1+1≠D by omega)).trans (ag h6 1)
  have p2:=(bG (o:=.deferred none) (show w.heap.size+1+1≠D by omega)).trans (ag h6 2)
  have p3:=(bG (o:=.deferred none) (show w.heap.size+1+1≠D by omega)).trans (ag h6 3)
  have p4:=(bG (o:=.deferred none) (show w.heap.size+1+1≠D by omega)).trans (ag h6 4)
  have p5:=(bG (o:=.deferred none) (show w.heap.size+1+1≠D by omega)).trans (ag h6 5)
  refine⟨.tuple #[.agg #[.int .i64 cx,.int .i64 cy,.int .i64 sz,.int .i64 (nw:Int),.int .i64 (nh:Int),.slice Av out.length cv],.int .i64 0],by simp[results,Tryz.results10,go_sem,p0,p1,p2,p3,p4,p5],?_⟩
  exact⟨Av,cv,rfl,hcv,hrd,Grew.of_below hb5⟩
 case stop=>exact fun _ _ _ _ _ _ h _=>h.elim
end Go.Proofs.YtlkgjmnjhifehaaGreat
