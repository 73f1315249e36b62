
import Derived.Test.YtlkgjmnjhifehaaGreatGrX
import Derived.Test.YtlkgjmnjhifehaaGreatSvX
import Derived.Test.YtlkgjmnjhifehaaGreatPon
set_option linter.unusedSimpArgs false
set_option linter.unusedVariables false
set_option maxHeartbeats 16000000
set_option maxRecDepth 100000
namespace Go.Proofs.YtlkgjmnjhifehaaGreat
open Go.RowKit Go.Sort Go.Lib
attribute [local go_sem] dC steadyUpon
attribute [local go_sem ↓] bQ bJ bg aZ aY aX aW
attribute [local go_sem] bH aN aK size_grow tape_grow cell?_grow' aF aC grow_grow bV bn dZ bZ bW bM aO cO bu bY bK
attribute [local irreducible] wpSteady
attribute [local go_sem] Oper.semAt_some
def jl (gw gh c:Nat):List Nat:=(if c / gw=0 then [] else [c-gw])++((if c%gw=0 then [] else [c-1])++((if c%gw=gw-1 then [] else [c+1])++(if c / gw<gh-1 then [c+gw] else [])))
def encI (N:Nat)(i:Fin N):Array Value:=#[.int .i64 ((i.1:Nat):Int)]
theorem GI (g:Gr)(c:Int)(w:World) :
  Calls Tryz.prog 43 #[g.val,.int .i64 c] w fun e w'=>e=.returned (.func (.func 78) #[] #[.pointer (some ⟨w.heap.size+1,0,none⟩),.pointer (some ⟨w.heap.size,0,none⟩)])/\(w.alloc (.cells #[.int .i64 g.cx,.int .i64 g.cy,.int .i64 g.sz,.int .i64 g.w,.int .i64 g.h,.slice g.A g.cs.length g.c] 41 (0,0))).alloc (.cells #[.int .i64 c] 3 (0,0))=w':=by
 obtain⟨cx,cy,sz,gZ,iG,A,cc,cs⟩:=g
 unfold Gr.val
 dsimp only
 generalize cs.length=n at *
 go_enter Tryz.func43,Tryz.ntmps43
 go_wp2
 go_ret
 exact⟨by simp,rfl⟩
def NF (l Bc Bg:Nat)(x y:Int)(ok:Bool)(a:Act):Prop:=∃f:Nat->Value,a={ tmps:=#[.func (.yield l) #[] #[],.pointer (some ⟨Bc,0,none⟩),.pointer (some ⟨Bg,0,none⟩),f 3,.int .i64 x,.int .i64 y,.bool ok,f 7,f 8,f 9,f 10,f 11,f 12,f 13,f 14,f 15,f 16,f 17,f 18,f 19,f 20,f 21,f 22,f 23,f 24,f 25,f 26,f 27,f 28,f 29,f 30,f 31,f 32,f 33,f 34,f 35,f 36,f 37,f 38,f 39,f 40,f 41,f 42,f 43,f 44,f 45,f 46,f 47,f 48,f 49,f 50,f 51,f 52,f 53,f 54,f 55,f 56,f 57,f 58,f 59,f 60,f 61,f 62,f 63],defers:=[] }
theorem NF.of {l Bc Bg:Nat}{x y:Int}{ok:Bool}{a:Act}(h:a={ tmps:=#[.func (.yield l) #[] #[],.pointer (some ⟨Bc,0,none⟩),.pointer (some ⟨Bg,0,none⟩),a.tmps.toList.getD 3 undef,.int .i64 x,.int .i64 y,.bool ok,a.tmps.toList.getD 7 undef,a.tmps.toList.getD 8 undef,a.tmps.toList.getD 9 undef,a.tmps.toList.getD 10 undef,a.tmps.toList.getD 11 undef,a.tmps.toList.getD 12 undef,a.tmps.toList.getD 13 undef,a.tmps.toList.getD 14 undef,a.tmps.toList.getD 15 undef,a.tmps.toList.getD 16 undef,a.tmps.toList.getD 17 undef,a.tmps.toList.getD 18 undef,a.tmps.toList.getD 19 undef,a.tmps.toList.getD 20 undef,a.tmps.toList.getD 21 undef,a.tmps.toList.getD 22 undef,a.tmps.toList.getD 23 undef,a.tmps.toList.getD 24 undef,a.tmps.toList.getD 25 undef,a.tmps.toList.getD 26 undef,a.tmps.toList.getD 27 undef,a.tmps.toList.getD 28 undef,a.tmps.toList.getD 29 undef,a.tmps.toList.getD 30 undef,a.tmps.toList.getD 31 undef,a.tmps.toList.getD 32 undef,a.tmps.toList.getD 33 undef,a.tmps.toList.getD 34 undef,a.tmps.toList.getD 35 undef,a.tmps.toList.getD 36 undef,a.tmps.toList.getD 37 undef,a.tmps.toList.getD 38 undef,a.tmps.toList.getD 39 undef,a.tmps.toList.getD 40 undef,a.tmps.toList.getD 41 undef,a.tmps.toList.getD 42 undef,a.tmps.toList.getD 43 undef,a.tmps.toList.getD 44 undef,a.tmps.toList.getD 45 undef,a.tmps.toList.getD 46 undef,a.tmps.toList.getD 47 undef,a.tmps.toList.getD 48 undef,a.tmps.toList.getD 49 undef,a.tmps.toList.getD 50 undef,a.tmps.toList.getD 51 undef,a.tmps.toList.getD 52 undef,a.tmps.toList.getD 53 undef,a.tmps.toList.getD 54 undef,a.tmps.toList.getD 55 undef,a.tmps.toList.getD 56 undef,a.tmps.toList.getD 57 undef,a.tmps.toList.getD 58 undef,a.tmps.toList.getD 59 undef,a.tmps.toList.getD 60 undef,a.tmps.toList.getD 61 undef,a.tmps.toList.getD 62 undef,a.tmps.toList.getD 63 undef],defers:=[] }):NF l Bc Bg x y ok a:=⟨fun i=>a.tmps.toList.getD i undef,h⟩
def NSt (gw gh c Bc Bg:Nat)(vb vg:Obj)(J Jx:List (Fin (gw*gh))->World->Prop)(ok:Bool)(L:List Nat)(W:World):Prop :=
 (ok=true/\∃pre:List (Fin (gw*gh)),pre.map Fin.val=L/\J pre W/\W.heap[Bc]?=some vb/\W.heap[Bg]?=some vg)\/(ok=false/\∃ (pre:List (Fin (gw*gh))) (k:Nat),pre.map Fin.val=(jl gw gh c).take k/\Jx pre W)
def NP (l gw gh c Bc Bg:Nat)(x y:Int)(vb vg:Obj)(J Jx:List (Fin (gw*gh))->World->Prop)(L:List Nat)(e:Exit)(a:Act)(W:World):Prop:=e=.normal/\∃ok,NF l Bc Bg x y ok a/\NSt gw gh c Bc Bg vb vg J Jx ok L W
theorem Iu {gw gh c:Nat}(h:c<gw*gh)(hw:1<=gw):c / gw<gh/\c%gw<gw/\c=gw*(c / gw)+c%gw:=by
 refine⟨Nat.div_lt_of_lt_mul h,Nat.mod_lt _ (by omega),(Nat.div_add_mod c gw).symm⟩
theorem PI {gw gh c:Nat}(h:c<gw*gh)(hy:c / gw<gh-1):c+gw<gw*gh:=by
 have h1:=Nat.div_add_mod c gw
 generalize c / gw=q at *
 have h2:q+1+1<=gh:=by omega
 have h3:gw*(q+1+1)<=gw*gh:=Nat.mul_le_mul_left _ h2
 rcases Nat.eq_zero_or_pos gw with rfl|hp
 ·simp at h
 ·have h4:=Nat.mod_lt c hp
  rw[Nat.mul_add,Nat.mul_add] at h3
  omega
theorem D9 {gw gh c:Nat}(h:c<gw*gh)(hx:c%gw≠gw-1)(hw:1<=gw):c+1<gw*gh:=by
 have h1:=Nat.div_add_mod c gw
 have h2:=Nat.mod_lt c hw
 have h3:=Iu h hw
 have h4:gw*(c / gw+1)<=gw*gh:=Nat.mul_le_mul_left _ (by omega)
 rw[Nat.mul_add] at h4
 omega
theorem PL {gw c:Nat}(hy:c / gw≠0):gw<=c:=by
 rcases Nat.lt_or_ge c gw with h|h
 ·exact absurd (Nat.div_eq_of_lt h) hy
 ·exact h
theorem PK {gw c:Nat}(hx:c%gw≠0):1<=c:=by
 rcases Nat.eq_zero_or_pos c with h|h
 ·subst h;simp at hx
 ·exact h
theorem AA {l a b:List Nat}(h:l=a++b):a=l.take a.length:=by rw[h,List.take_left]
theorem BB (n K gw gh c Bc Bg:Nat)(M:Nat->TypeId->Prop)(cx cy sz:Int)(gsl:Value)(w:World)(hM:∀b T,M b T->b≠Bc/\b≠Bg)(hBc:w.heap[Bc]?=some (.cells #[.int .i64 (c:Int)] 3 (0,0)))
  (hBg:w.heap[Bg]?=some (.cells #[.int .i64 cx,.int .i64 cy,.int .i64 sz,.int .i64 (gw:Int),.int .i64 (gh:Int),gsl] 41 (0,0))) (hw:1<=gw/\gw<=64) (hh:1<=gh/\gh<=64) (hc:c<gw*gh) :
  SeqStopsK Fence.wide n Tryz.prog 78 #[.pointer (some ⟨Bc,0,none⟩),.pointer (some ⟨Bg,0,none⟩)] (encI (gw*gh)) (iC M) (fun xs=>xs.map Fin.val=jl gw gh c) (fun pre=>∃k,pre.map Fin.val=(jl gw gh c).take k) 4 w:=by
 intro l J Jx W hW hJ hJx hY h0
 have hm:=aQ
 have aeq:W.heap[Bc]?=some _:=(hW.block Bc (ax hBc)).trans hBc
 have Ob:W.heap[Bg]?=some _:=(hW.block Bg (ax hBg)).trans hBg
 have Sm:Hid (∀T,¬ M Bc T):=hide (fun T h=>(hM Bc T h).1 rfl)
 have La:Hid (∀T,¬ M Bg T):=hide (fun T h=>(hM Bg T h).2 rfl)
 have HJ:=hide hJ
 have HJx:=hide hJx
 have HY:=hide hY
 have H0:=hide h0
 have hcl:c<4096:=by
  have:gw*gh<=64*64:=Nat.mul_le_mul hw.2 hh.2
  omega
 have hbd:=Iu hc hw.1
 have HC:=hide hc
 have HBc:=hide aeq
 have HBg:=hide Ob
 clear hM hJ hJx hY h0 hW hBc hBg aeq Ob hc
 refine callsIn_of_wp Tryz.func78 rfl trivial ?_ rfl
 simp only[Tryz.ntmps78,List.size_toArray,List.length_cons,List.length_nil,Nat.reduceAdd,Nat.reduceSub,Array.replicate_succ,Array.replicate_zero,List.push_toArray,List.append_toArray,List.nil_append,List.cons_append]
 obtain⟨x,hx⟩:∃x,c%gw=x:=⟨_,rfl⟩
 obtain⟨y,hy⟩:∃y,c / gw=y:=⟨_,rfl⟩
 have aiQ:Int.tmod (c:Int) (gw:Int)=(x:Int):=by rw[<-hx,Int.natCast_emod,Int.tmod_eq_emod_of_nonneg (by omega)]
 have aiT:Int.tdiv (c:Int) (gw:Int)=(y:Int):=by rw[<-hy,Int.natCast_ediv,Int.tdiv_eq_ediv_of_nonneg (by omega)]
 have hne:¬ (gw:Int)=0:=by omega
 have hne2:¬ gw=0:=by omega
 have hxl:x<gw:=by omega
 have hyl:y<gh:=by omega
 have HX:=hide hx
 have XG:=hide hy
 have c0:=ag HBc.out 0
 have g3:=ag HBg.out 3
 have g4:=ag HBg.out 4
 have lc:=ax HBc.out
 have lg:=ax HBg.out
 clear hx hy hbd
 refine wpIn_seq ?_
 refine kG 10 [] [] hm (h:=?_)
 repeat (refine au (fun K hK=>?_);go_simp;refine hK _ ?_;clear hK K)
 refine UN fun nq osq=>?_
 try simp only[Act.put,aG]
 try dsimp only
 have hlist:Hid (jl gw gh c=((((([]:List Nat)++(if y=0 then [] else [c-gw]))++(if x=0 then [] else [c-1]))++(if x=gw-1 then [] else [c+1]))++(if y<gh-1 then [c+gw] else []))):=hide (by unfold jl;rw[HX.out,XG.out,List.nil_append,List.append_assoc,List.append_assoc])
 have hJ1:=HJ.out _ _ _ none H0.out ((Grew.mk W nq osq).grownBy none) (fun r hr=>by cases hr)
 have hc1:=((Grew.mk W nq osq).heap lc).trans HBc.out
 have hg1:=((Grew.mk W nq osq).heap lg).trans HBg.out
 have HJ1:=hide hJ1
 have OQ:=hide hc1
 have iI:=hide hg1
 clear hJ1 hc1 hg1 c0 g3 g4 lc lg HBc HBg H0
 obtain⟨W1,hW1⟩:∃W1,Sort.grow (dr W nq) osq=W1:=⟨_,rfl⟩
 rw[hW1] at HJ1 OQ iI
 show Code.wpIn Fence.wide n Tryz.prog _ _ _ _
 rw[hW1]
 clear hW1
 obtain⟨L0,hL0⟩:∃L:List Nat,L=[]:=⟨_,rfl⟩
 obtain⟨L1,hL1⟩:∃L:List Nat,L=L0++(if y=0 then [] else [c-gw]):=⟨_,rfl⟩
 obtain⟨L2,hL2⟩:∃L:List Nat,L=L1++(if x=0 then [] else [c-1]):=⟨_,rfl⟩
 obtain⟨L3,hL3⟩:∃L:List Nat,L=L2++(if x=gw-1 then [] else [c+1]):=⟨_,rfl⟩
 obtain⟨L4,hL4⟩:∃L:List Nat,L=L3++(if y<gh-1 then [c+gw] else []):=⟨_,rfl⟩
 have Y6:Hid (jl gw gh c=L4):=hide (by rw[hL4,hL3,hL2,hL1,hL0];exact hlist.out)
 have HL0:=hide hL0
 have MB:=hide hL1
 have HL2:=hide hL2
 have HL3:=hide hL3
 have HL4:=hide hL4
 clear hL0 hL1 hL2 hL3 hL4 hlist
 refine wpIn_seq (wpIn_mono (Q:=NP l gw gh c Bc Bg (x:Int) (y:Int) (.cells #[.int .i64 (c:Int)] 3 (0,0)) (.cells #[.int .i64 cx,.int .i64 cy,.int .i64 sz,.int .i64 (gw:Int),.int .i64 (gh:Int),gsl] 41 (0,0)) J Jx L1) ?h0 ?k0)
 case h0 =>
  have c0:=ag OQ.out 0
  have g3:=ag iI.out 3
  have g4:=ag iI.out 4
  have lc:=ax OQ.out
  have lg:=ax iI.out
  have Cj:=HJ1
  have hpre:([]:List (Fin (gw*gh))).map Fin.val=L0:=HL0.out.symm
  obtain⟨pre,hpe⟩:∃p,p=([]:List (Fin (gw*gh))):=⟨_,rfl⟩
  rw[<-hpe] at Cj hpre
  clear hpe
  have kR:=hide hpre
  have lL:pre.length<=0:=by have:=congrArg List.length hpre;rw[HL0.out] at this;simpa using this
  clear hpre
  by_cases hs:y=0
  ·have e1:((y:Int)==0)=true:=by simp;omega
   have HL:Hid (pre.map Fin.val=L1):=hide (by rw[MB.out,kR.out,if_pos hs,List.append_nil])
   have HS:=hide hs
   clear hs
   gi_wp2_with fail
   try (refine⟨fun _ _=>trivial,?_⟩;gi_wp2_with fail)
   exact⟨rfl,true,NF.of rfl,.inl ⟨rfl,pre,HL.out,Cj.out,OQ.out,iI.out⟩⟩
  ·have e1:((y:Int)==0)=false:=by simp;omega
   have hml:c-gw<gw*gh:=by have:=HC.out;omega
   have N8:((c-gw:Nat):Int)=(c:Int)-(gw:Int):=by have:=PL (gw:=gw) (c:=c) (by rw[XG.out];exact hs);omega
   have HL:Hid ((pre++[(⟨c-gw,hml⟩:Fin (gw*gh))]).map Fin.val=L1):=hide (by rw[MB.out,List.map_append,kR.out,if_neg hs];rfl)
   have HLT:Hid ((pre++[(⟨c-gw,hml⟩:Fin (gw*gh))]).map Fin.val=(jl gw gh c).take ((pre++[(⟨c-gw,hml⟩:Fin (gw*gh))]).map Fin.val).length):=hide (by
    rw[HL.out,Y6.out]
    exact AA (b:=(if x=0 then [] else [c-1])++(if x=gw-1 then [] else [c+1])++(if y<gh-1 then [c+gw] else [])) (by rw[HL4.out,HL3.out,HL2.out];try simp only[List.append_assoc]))
   have HS:=hide hs
   clear hs
   obtain⟨Zd,Ye,ZJ,ZF,hy1,hR1⟩:=HY.out _ ⟨c-gw,hml⟩ _ Cj.out (by omega)
   rw[show encI (gw*gh) ⟨c-gw,hml⟩=#[.int .i64 ((c-gw:Nat):Int)] from rfl,N8] at hy1
   have HR1:=hide hR1
   clear hR1 N8
   gi_wp2_with fail
   try (refine⟨fun _ _=>trivial,?_⟩;gi_wp2_with fail)
   refine⟨(fun h=>by cases h),?_⟩
   refine HR1.out.mono ?_
   rintro e W3 (⟨rfl,hJ3,hk3⟩|⟨rfl,hJx3⟩)
   ·have hc3:=hk3 _ _ _ _ (Sm.out _) OQ.out
    have hg3:=hk3 _ _ _ _ (La.out _) iI.out
    have MF:=hide hJ3
    have TN:=hide hc3
    have rU:=hide hg3
    clear hJ3 hk3 hc3 hg3 hy1 c0 g3 g4 lc lg
    dsimp only
    gi_wp2_with fail
    try (refine⟨fun _ _=>trivial,?_⟩;gi_wp2_with fail)
    exact⟨rfl,true,NF.of rfl,.inl ⟨rfl,_,HL.out,MF.out,TN.out,rU.out⟩⟩
   ·have HX3:=hide hJx3
    clear hJx3 hy1 c0 g3 g4 lc lg
    dsimp only
    gi_wp2_with fail
    try (refine⟨fun _ _=>trivial,?_⟩;gi_wp2_with fail)
    exact⟨rfl,false,NF.of rfl,.inr ⟨rfl,_,_,HLT.out,HX3.out⟩⟩
 case k0 =>
 rintro e a' W2 ⟨rfl,ok,⟨f,rfl⟩,hst⟩
 show Code.wpIn Fence.wide n Tryz.prog _ _ _ _
 refine wpIn_seq (wpIn_mono (Q:=NP l gw gh c Bc Bg (x:Int) (y:Int) (.cells #[.int .i64 (c:Int)] 3 (0,0)) (.cells #[.int .i64 cx,.int .i64 cy,.int .i64 sz,.int .i64 (gw:Int),.int .i64 (gh:Int),gsl] 41 (0,0)) J Jx L2) ?h1 ?k1)
 case h1 =>
  rcases hst with⟨rfl,pre,hpre,Lc,hck,hgk⟩|⟨rfl,pre,kk,hpre,Lc⟩
  rotate_left
  ·have kR:=hide hpre
   have HXX:=hide Lc
   clear hpre Lc
   gi_wp2_with fail
   all_goals first
    | exact (rX (by assumption)).elim
    | (refine⟨fun _ _=>trivial,?_⟩;gi_wp2_with fail;exact⟨rfl,false,NF.of rfl,.inr ⟨rfl,pre,kk,kR.out,HXX.out⟩⟩)
  have c0:=ag hck 0
  have g3:=ag hgk 3
  have g4:=ag hgk 4
  have lc:=ax hck
  have lg:=ax hgk
  have Cj:=hide Lc
  have OQ:=hide hck
  have iI:=hide hgk
  have kR:=hide hpre
  have lL:pre.length<=1:=by
   have h9:=congrArg List.length hpre
   rw[List.length_map,MB.out,HL0.out] at h9
   rw[h9]
   repeat (first|split|simp)
  clear hpre Lc hck hgk
  by_cases hs:x=0
  ·have e1:((x:Int)==0)=true:=by simp;omega
   have HL:Hid (pre.map Fin.val=L2):=hide (by rw[HL2.out,kR.out,if_pos hs,List.append_nil])
   have HS:=hide hs
   clear hs
   gi_wp2_with fail
   try (refine⟨fun _ _=>trivial,?_⟩;gi_wp2_with fail)
   exact⟨rfl,true,NF.of rfl,.inl ⟨rfl,pre,HL.out,Cj.out,OQ.out,iI.out⟩⟩
  ·have e1:((x:Int)==0)=false:=by simp;omega
   have hml:c-1<gw*gh:=by have:=HC.out;omega
   have N8:((c-1:Nat):Int)=(c:Int)-1:=by have:=PK (gw:=gw) (c:=c) (by rw[HX.out];exact hs);omega
   have HL:Hid ((pre++[(⟨c-1,hml⟩:Fin (gw*gh))]).map Fin.val=L2):=hide (by rw[HL2.out,List.map_append,kR.out,if_neg hs];rfl)
   have HLT:Hid ((pre++[(⟨c-1,hml⟩:Fin (gw*gh))]).map Fin.val=(jl gw gh c).take ((pre++[(⟨c-1,hml⟩:Fin (gw*gh))]).map Fin.val).length):=hide (by
    rw[HL.out,Y6.out]
    exact AA (b:=(if x=gw-1 then [] else [c+1])++(if y<gh-1 then [c+gw] else [])) (by rw[HL4.out,HL3.out];try simp only[List.append_assoc]))
   have HS:=hide hs
   clear hs
   obtain⟨Zd,Ye,ZJ,ZF,hy1,hR1⟩:=HY.out _ ⟨c-1,hml⟩ _ Cj.out (by omega)
   rw[show encI (gw*gh) ⟨c-1,hml⟩=#[.int .i64 ((c-1:Nat):Int)] from rfl,N8] at hy1
   have HR1:=hide hR1
   clear hR1 N8
   gi_wp2_with fail
   try (refine⟨fun _ _=>trivial,?_⟩;gi_wp2_with fail)
   refine⟨(fun h=>by cases h),?_⟩
   refine HR1.out.mono ?_
   rintro e W3 (⟨rfl,hJ3,hk3⟩|⟨rfl,hJx3⟩)
   ·have hc3:=hk3 _ _ _ _ (Sm.out _) OQ.out
    have hg3:=hk3 _ _ _ _ (La.out _) iI.out
    have MF:=hide hJ3
    have TN:=hide hc3
    have rU:=hide hg3
    clear hJ3 hk3 hc3 hg3 hy1 c0 g3 g4 lc lg
    dsimp only
    gi_wp2_with fail
    try (refine⟨fun _ _=>trivial,?_⟩;gi_wp2_with fail)
    exact⟨rfl,true,NF.of rfl,.inl ⟨rfl,_,HL.out,MF.out,TN.out,rU.out⟩⟩
   ·have HX3:=hide hJx3
    clear hJx3 hy1 c0 g3 g4 lc lg
    dsimp only
    gi_wp2_with fail
    try (refine⟨fun _ _=>trivial,?_⟩;gi_wp2_with fail)
    exact⟨rfl,false,NF.of rfl,.inr ⟨rfl,_,_,HLT.out,HX3.out⟩⟩
 case k1 =>
 rintro e a' W3 ⟨rfl,ok,⟨f,rfl⟩,hst⟩
 show Code.wpIn Fence.wide n Tryz.prog _ _ _ _
 refine wpIn_seq (wpIn_mono (Q:=NP l gw gh c Bc Bg (x:Int) (y:Int) (.cells #[.int .i64 (c:Int)] 3 (0,0)) (.cells #[.int .i64 cx,.int .i64 cy,.int .i64 sz,.int .i64 (gw:Int),.int .i64 (gh:Int),gsl] 41 (0,0)) J Jx L3) ?h2 ?k2)
 case h2 =>
  rcases hst with⟨rfl,pre,hpre,Lc,hck,hgk⟩|⟨rfl,pre,kk,hpre,Lc⟩
  rotate_left
  ·have kR:=hide hpre
   have HXX:=hide Lc
   clear hpre Lc
   gi_wp2_with fail
   all_goals first
    | exact (rX (by assumption)).elim
    | (refine⟨fun _ _=>trivial,?_⟩;gi_wp2_with fail;exact⟨rfl,false,NF.of rfl,.inr ⟨rfl,pre,kk,kR.out,HXX.out⟩⟩)
  have c0:=ag hck 0
  have g3:=ag hgk 3
  have g4:=ag hgk 4
  have lc:=ax hck
  have lg:=ax hgk
  have Cj:=hide Lc
  have OQ:=hide hck
  have iI:=hide hgk
  have kR:=hide hpre
  have lL:pre.length<=2:=by
   have h9:=congrArg List.length hpre
   rw[List.length_map,HL2.out,MB.out,HL0.out] at h9
   rw[h9]
   repeat (first|split|simp)
  clear hpre Lc hck hgk
  by_cases hs:x=gw-1
  ·have e1:((x:Int)==(gw:Int)-1)=true:=by simp;omega
   have HL:Hid (pre.map Fin.val=L3):=hide (by rw[HL3.out,kR.out,if_pos hs,List.append_nil])
   have HS:=hide hs
   clear hs
   gi_wp2_with fail
   try (refine⟨fun _ _=>trivial,?_⟩;gi_wp2_with fail)
   exact⟨rfl,true,NF.of rfl,.inl ⟨rfl,pre,HL.out,Cj.out,OQ.out,iI.out⟩⟩
  ·have e1:((x:Int)==(gw:Int)-1)=false:=by simp;omega
   have hml:c+1<gw*gh:=D9 HC.out (by rw[HX.out];exact hs) hw.1
   have N8:((c+1:Nat):Int)=(c:Int)+1:=by omega
   have HL:Hid ((pre++[(⟨c+1,hml⟩:Fin (gw*gh))]).map Fin.val=L3):=hide (by rw[HL3.out,List.map_append,kR.out,if_neg hs];rfl)
   have HLT:Hid ((pre++[(⟨c+1,hml⟩:Fin (gw*gh))]).map Fin.val=(jl gw gh c).take ((pre++[(⟨c+1,hml⟩:Fin (gw*gh))]).map Fin.val).length):=hide (by
    rw[HL.out,Y6.out]
    exact AA (b:=(if y<gh-1 then [c+gw] else [])) (by rw[HL4.out];try simp only[List.append_assoc]))
   have HS:=hide hs
   clear hs
   obtain⟨Zd,Ye,ZJ,ZF,hy1,hR1⟩:=HY.out _ ⟨c+1,hml⟩ _ Cj.out (by omega)
   rw[show encI (gw*gh) ⟨c+1,hml⟩=#[.int .i64 ((c+1:Nat):Int)] from rfl,N8] at hy1
   have HR1:=hide hR1
   clear hR1 N8
   gi_wp2_with fail
   try (refine⟨fun _ _=>trivial,?_⟩;gi_wp2_with fail)
   refine⟨(fun h=>by cases h),?_⟩
   refine HR1.out.mono ?_
   rintro e W3 (⟨rfl,hJ3,hk3⟩|⟨rfl,hJx3⟩)
   ·have hc3:=hk3 _ _ _ _ (Sm.out _) OQ.out
    have hg3:=hk3 _ _ _ _ (La.out _) iI.out
    have MF:=hide hJ3
    have TN:=hide hc3
    have rU:=hide hg3
    clear hJ3 hk3 hc3 hg3 hy1 c0 g3 g4 lc lg
    dsimp only
    gi_wp2_with fail
    try (refine⟨fun _ _=>trivial,?_⟩;gi_wp2_with fail)
    exact⟨rfl,true,NF.of rfl,.inl ⟨rfl,_,HL.out,MF.out,TN.out,rU.out⟩⟩
   ·have HX3:=hide hJx3
    clear hJx3 hy1 c0 g3 g4 lc lg
    dsimp only
    gi_wp2_with fail
    try (refine⟨fun _ _=>trivial,?_⟩;gi_wp2_with fail)
    exact⟨rfl,false,NF.of rfl,.inr ⟨rfl,_,_,HLT.out,HX3.out⟩⟩
 case k2 =>
 rintro e a' W4 ⟨rfl,ok,⟨f,rfl⟩,hst⟩
 show Code.wpIn Fence.wide n Tryz.prog _ _ _ _
 rcases hst with⟨rfl,pre,hpre,Lc,hck,hgk⟩|⟨rfl,pre,kk,hpre,Lc⟩
 rotate_left
 ·have kR:=hide hpre
  have HXX:=hide Lc
  clear hpre Lc
  gi_wp2_with fail
  go_end0
  exact⟨⟨_,rfl⟩,.inr ⟨pre,⟨kk,kR.out⟩,HXX.out⟩⟩
 have c0:=ag hck 0
 have g3:=ag hgk 3
 have g4:=ag hgk 4
 have lc:=ax hck
 have lg:=ax hgk
 have Cj:=hide Lc
 have kR:=hide hpre
 have lL:pre.length<=3:=by
  have h9:=congrArg List.length hpre
  rw[List.length_map,HL3.out,HL2.out,MB.out,HL0.out] at h9
  rw[h9]
  repeat (first|split|simp)
 clear hpre Lc hck hgk
 by_cases hs:y<gh-1
 ·have e1:(y:Int)<(gh:Int)-1:=by omega
  have hml:c+gw<gw*gh:=PI HC.out (by rw[XG.out];exact hs)
  have N8:((c+gw:Nat):Int)=(c:Int)+(gw:Int):=by omega
  have HL:Hid ((pre++[(⟨c+gw,hml⟩:Fin (gw*gh))]).map Fin.val=jl gw gh c):=hide (by rw[Y6.out,HL4.out,List.map_append,kR.out,if_pos hs];rfl)
  have HLT:Hid ((pre++[(⟨c+gw,hml⟩:Fin (gw*gh))]).map Fin.val=(jl gw gh c).take (jl gw gh c).length):=hide (by rw[List.take_length];exact HL.out)
  clear hs
  obtain⟨Zd,Ye,ZJ,ZF,hy1,hR1⟩:=HY.out _ ⟨c+gw,hml⟩ _ Cj.out (by omega)
  rw[show encI (gw*gh) ⟨c+gw,hml⟩=#[.int .i64 ((c+gw:Nat):Int)] from rfl,N8] at hy1
  have HR1:=hide hR1
  clear hR1 N8
  gi_wp2_with fail
  refine⟨(fun h=>by cases h),?_⟩
  refine HR1.out.mono ?_
  rintro e W5 (⟨rfl,hJ3,-⟩|⟨rfl,hJx3⟩)
  ·have MF:=hide hJ3
   clear hJ3 hy1 c0 g3 g4 lc lg
   dsimp only
   gi_wp2_with fail
   go_end0
   exact⟨⟨_,rfl⟩,.inl ⟨_,HL.out,MF.out⟩⟩
  ·have HX3:=hide hJx3
   clear hJx3 hy1 c0 g3 g4 lc lg
   dsimp only
   gi_wp2_with fail
   go_end0
   exact⟨⟨_,rfl⟩,.inr ⟨_,⟨_,HLT.out⟩,HX3.out⟩⟩
 ·have e1:¬ ((y:Int)<(gh:Int)-1):=by omega
  have HL:Hid (pre.map Fin.val=jl gw gh c):=hide (by rw[Y6.out,HL4.out,kR.out,if_neg hs,List.append_nil])
  clear hs
  gi_wp2_with fail
  go_end0
  exact⟨⟨_,rfl⟩,.inl ⟨_,HL.out,Cj.out⟩⟩
set_option maxHeartbeats 16000000
set_option maxRecDepth 100000
def cellAt (cx cy sz:Int)(gw k:Nat):B4:=((cx+((k%gw:Nat):Int)*sz,cx+((k%gw:Nat):Int)*sz+sz),(cy+((k / gw:Nat):Int)*sz,cy+((k / gw:Nat):Int)*sz+sz))
def WL (cx cy sz:Int)(gw N:Nat)(i:Fin N):Array Value:=#[Xk (cellAt cx cy sz gw i.1)]
theorem Tj (g:Gr)(w:World) :
  Calls Tryz.prog 38 #[g.val] w fun e w'=>e=.returned (.func (.func 76) #[] #[.pointer (some ⟨w.heap.size,0,none⟩)])/\w.alloc (.cells #[.int .i64 g.cx,.int .i64 g.cy,.int .i64 g.sz,.int .i64 g.w,.int .i64 g.h,.slice g.A g.cs.length g.c] 41 (0,0))=w':=by
 obtain⟨cx,cy,sz,gZ,iG,A,cc,cs⟩:=g
 unfold Gr.val
 dsimp only
 generalize cs.length=n at *
 go_enter Tryz.func38,Tryz.ntmps38
 go_wp2
 go_ret
 exact⟨by simp,rfl⟩
theorem Zy {gw gh i j:Nat}(hi:i<gw)(hj:j<gh):j*gw+i<gw*gh/\(j*gw+i)%gw=i/\(j*gw+i) / gw=j:=by
 have h1:(j+1)*gw<=gh*gw:=Nat.mul_le_mul_right _ hj
 rw[Nat.add_mul,Nat.one_mul,Nat.mul_comm gh gw] at h1
 refine⟨by omega,?_,?_⟩
 ·rw[Nat.add_comm,Nat.add_mul_mod_self_right,Nat.mod_eq_of_lt hi]
 ·rw[Nat.add_comm,Nat.add_mul_div_right _ _ (by omega),Nat.div_eq_of_lt hi,Nat.zero_add]
theorem Qn {i:Nat}{sz:Int}(hi:i<64)(hs:1<=sz/\sz<=100000):0<=(i:Int)*sz/\(i:Int)*sz<=6400000:=by
 have h:=jy 64 100000 (a:=(i:Int)) (b:=sz) (by omega) (by omega)
 have h2:0<=(i:Int)*sz:=Int.mul_nonneg (by omega) (by omega)
 omega
theorem Jk (n K gw gh Bg:Nat)(M:Nat->TypeId->Prop)(cx cy sz:Int)(gsl:Value)(w:World)(hM:∀b T,M b T->b≠Bg)
  (hBg:w.heap[Bg]?=some (.cells #[.int .i64 cx,.int .i64 cy,.int .i64 sz,.int .i64 (gw:Int),.int .i64 (gh:Int),gsl] 41 (0,0))) (hw:1<=gw/\gw<=64) (hh:1<=gh/\gh<=64) (hs:1<=sz/\sz<=100000)
  (hx:-1000000<=cx/\cx<=1000000) (hy:-1000000<=cy/\cy<=1000000) :
  SeqStopsK Fence.wide n Tryz.prog 76 #[.pointer (some ⟨Bg,0,none⟩)] (WL cx cy sz gw (gw*gh)) (iC M) (fun xs=>xs.map Fin.val=List.range (gw*gh)) (fun pre=>∃k,k<=gw*gh/\pre.map Fin.val=List.range k) (gw*gh) w:=by
 intro l J Jx W hW hJ hJx hY h0
 have hm:=aQ
 have Ob:W.heap[Bg]?=some _:=(hW.block Bg (ax hBg)).trans hBg
 have La:Hid (∀T,¬ M Bg T):=hide (fun T h=>hM Bg T h rfl)
 have HJ:=hide hJ
 have HJx:=hide hJx
 have HY:=hide hY
 have H0:=hide h0
 have HBg:=hide Ob
 have g4:=ag Ob 4
 have lg0:=ax Ob
 clear hM hJ hJx hY h0 hW hBg Ob
 refine callsIn_of_wp Tryz.func76 rfl trivial ?_ rfl
 simp only[Tryz.ntmps76,List.size_toArray,List.length_cons,List.length_nil,Nat.reduceAdd,Nat.reduceSub,Array.replicate_succ,Array.replicate_zero,List.push_toArray,List.append_toArray,List.nil_append,List.cons_append]
 gi_wp2_with fail
 gi_loopw [9] (fun jv wr=>∃ (j:Nat) (pre:List (Fin (gw*gh))),j<=gh/\jv=.int .i64 j/\pre.map Fin.val=List.range (j*gw)/\J pre wr/\wr.heap[Bg]?=some (.cells #[.int .i64 cx,.int .i64 cy,.int .i64 sz,.int .i64 (gw:Int),.int .i64 (gh:Int),gsl] 41 (0,0))) (fun i _=>gh-(intOf i).toNat)
 case atStart=>exact⟨0,[],by omega,rfl,by simp,H0.out,HBg.out⟩
 case round =>
  obtain⟨j,pre,hj,rfl,hpre,hJ,hgb⟩:=hrel
  clear g4 lg0
  have kR:=hide hpre
  have Cj:=hide hJ
  have HGB:=hide hgb
  have g3:=ag hgb 3
  have lg:=ax hgb
  clear hpre hJ hgb
  by_cases hlt:j<gh
  ·gi_wp2_with fail
   gi_loopw [14] (fun iv wr=>∃ (i:Nat) (pre:List (Fin (gw*gh))),i<=gw/\iv=.int .i64 i/\pre.map Fin.val=List.range (j*gw+i)/\J pre wr/\wr.heap[Bg]?=some (.cells #[.int .i64 cx,.int .i64 cy,.int .i64 sz,.int .i64 (gw:Int),.int .i64 (gh:Int),gsl] 41 (0,0))) (fun i _=>gw-(intOf i).toNat)
   case atStart=>exact⟨0,pre,by omega,rfl,by simpa using kR.out,Cj.out,HGB.out⟩
   case round =>
    obtain⟨i,pre2,hi,rfl,aaN,hJ2,RY⟩:=hrel
    have acO:=hide aaN
    have HJ2:=hide hJ2
    have ae6:=hide RY
    have q0:=ag RY 0
    have q1:=ag RY 1
    have q2:=ag RY 2
    have TT:=ax RY
    clear aaN hJ2 RY g3 lg
    by_cases RU:i<gw
    ·obtain⟨hb1,hb2,hb3⟩:=Zy RU hlt
     have lL:pre2.length<gw*gh:=by
      have h9:=congrArg List.length acO.out
      rw[List.length_map,List.length_range] at h9
      omega
     have henc:WL cx cy sz gw (gw*gh) ⟨j*gw+i,hb1⟩=#[.agg #[.int .i64 (cx+(i:Int)*sz),.int .i64 (cx+(i:Int)*sz+sz),.int .i64 (cy+(j:Int)*sz),.int .i64 (cy+(j:Int)*sz+sz)]]:=by
      show #[Xk ((cx+(((j*gw+i)%gw:Nat):Int)*sz,cx+(((j*gw+i)%gw:Nat):Int)*sz+sz),(cy+(((j*gw+i) / gw:Nat):Int)*sz,cy+(((j*gw+i) / gw:Nat):Int)*sz+sz))]=_
      rw[hb2,hb3]
     have p1:=Qn (i:=i) (by omega) hs
     have p2:=Qn (i:=j) (by omega) hs
     have w1:IntKind.i64.wrap ((i:Int)*sz)=(i:Int)*sz:=by unfold IntKind.wrap;simp[IntKind.bits,IntKind.signed];omega
     have w2:IntKind.i64.wrap ((j:Int)*sz)=(j:Int)*sz:=by unfold IntKind.wrap;simp[IntKind.bits,IntKind.signed];omega
     have w3:IntKind.i64.wrap (cx+(i:Int)*sz)=cx+(i:Int)*sz:=by unfold IntKind.wrap;simp[IntKind.bits,IntKind.signed];omega
     have w4:IntKind.i64.wrap (cy+(j:Int)*sz)=cy+(j:Int)*sz:=by unfold IntKind.wrap;simp[IntKind.bits,IntKind.signed];omega
     have w5:IntKind.i64.wrap (cx+(i:Int)*sz+sz)=cx+(i:Int)*sz+sz:=by unfold IntKind.wrap;simp[IntKind.bits,IntKind.signed];omega
     have w6:IntKind.i64.wrap (cy+(j:Int)*sz+sz)=cy+(j:Int)*sz+sz:=by unfold IntKind.wrap;simp[IntKind.bits,IntKind.signed];omega
     have ac0:=hide henc
     have OM:=hide lL
     have FU:Hid ((pre2++[(⟨j*gw+i,hb1⟩:Fin (gw*gh))]).map Fin.val=List.range (j*gw+(i+1))):=hide (by rw[List.map_append,acO.out,show j*gw+(i+1)=(j*gw+i)+1 from rfl,List.range_succ];rfl)
     clear henc lL p1 p2
     gi_wp2_with fail
     refine kG 18 [] [] hm (h:=?_)
     repeat (refine au (fun K hK=>?_);go_simp;refine hK _ ?_;clear hK K)
     refine UN fun nq osq=>?_
     try simp only[Act.put,aG]
     try dsimp only
     have Em:=HJ.out _ _ _ none HJ2.out ((Grew.mk wr nq osq).grownBy none) (fun r hr=>by cases hr)
     have hg5:=((Grew.mk wr nq osq).heap TT).trans ae6.out
     have uX:=hide hg5
     have r1:=ag hg5 2
     have lg5:=ax hg5
     obtain⟨Zd,Ye,ZJ,ZF,hy1,hR1⟩:=HY.out _ ⟨j*gw+i,hb1⟩ _ Em OM.out
     rw[ac0.out] at hy1
     have HR1:=hide hR1
     clear hR1 Em hg5 q0 q1 q2 TT
     gi_wp2_with fail
     refine⟨(fun h=>by cases h),?_⟩
     refine HR1.out.mono ?_
     rintro e W3 (⟨rfl,hJ3,hk3⟩|⟨rfl,hJx3⟩)
     ·have hg3:=hk3 _ _ _ _ (La.out _) uX.out
      have MF:=hide hJ3
      have rU:=hide hg3
      clear hJ3 hk3 hg3 hy1 r1 lg5
      dsimp only
      gi_wp2_with fail
      go_roundw
      case rel=>exact⟨i+1,_,by omega,by go_num,FU.out,MF.out,rU.out⟩
      case measure=>simp[intOf];omega
     ·have HX:=hide hJx3
      clear hJx3 hy1 r1 lg5
      dsimp only
      gi_wp2_with fail
      refine bodyPost_ret (results_none rfl _ _ _) rfl ?_
      exact⟨⟨_,rfl⟩,.inr ⟨_,⟨j*gw+(i+1),hb1,FU.out⟩,HX.out⟩⟩
    ·obtain rfl:i=gw:=by omega
     gi_wp2_with fail
     exact⟨⟨j+1,pre2,by omega,by go_num,acO.out.trans (congrArg List.range (by rw[Nat.add_mul,Nat.one_mul])),HJ2.out,ae6.out⟩,by simp[intOf];omega⟩
  ·obtain rfl:j=gh:=by omega
   gi_wp2
   go_end0
   exact⟨⟨_,rfl⟩,.inl ⟨_,kR.out.trans (by rw[Nat.mul_comm]),Cj.out⟩⟩
end Go.Proofs.YtlkgjmnjhifehaaGreat
set_option maxHeartbeats 4000000
set_option maxRecDepth 100000
namespace Go.Proofs.YtlkgjmnjhifehaaGreat
open Go.RowKit Go.Sort
attribute [local go_sem] dC steadyUpon
attribute [local go_sem ↓] bQ bJ bg aZ aY aX aW
attribute [local go_sem] bH aN aK size_grow tape_grow cell?_grow' aF aC grow_grow bV bn dZ bZ bW bM aO cO bu bY bK
attribute [local irreducible] wpSteady
attribute [local go_sem] aaw aay aat aaz aau aas aav aax
theorem YE (v : Value) (w : World) : (method 382 151 v "seamark/feature.touches").run Tryz.prog w = .ok (224, v) w := by kernel_rfl
theorem YA (v : Value) (w : World) : (nilAhead 382 151 v "seamark/feature.touches").run Tryz.prog w = .ok (some false) w := by kernel_rfl
theorem YF (v : Value) (w : World) : (method 382 149 v "seamark/feature.touches").run Tryz.prog w = .ok (208, v) w := by kernel_rfl
theorem YB (v : Value) (w : World) : (nilAhead 382 149 v "seamark/feature.touches").run Tryz.prog w = .ok (some false) w := by kernel_rfl
theorem Vr (v : Value) (w : World) : (method 382 148 v "seamark/feature.touches").run Tryz.prog w = .ok (204, v) w := by kernel_rfl
theorem Vg (v : Value) (w : World) : (nilAhead 382 148 v "seamark/feature.touches").run Tryz.prog w = .ok (some false) w := by kernel_rfl
attribute [local go_sem] YE YA YF YB Vr Vg
def uH (ps:List Pt)(p:Pt)(s:Int):Bool:=(uy ps p s).2==0&&decide (0<=(uy ps p s).1)
def yj (ps qs:List Pt):Bool:=(vG ps qs).2==0&&(vG ps qs).1
def vC (f:FV)(qs:List Pt):Bool:=if f.kind=4 then false else if f.kind=3\/f.kind=6 then yj f.area qs else uH qs (f.x,f.y) f.dn
def pU (f g:FV):Bool×Int:=if (bC f&&bC g)=true then (vC f g.area,0) else (false,1)
theorem Jo (ps:List Pt)(A:Option Addr)(c:Nat)(p:Pt)(s:Int)(o:Bool)(w:World)(hr:Rd w w.heap.size 2 A (ps.map dU))(hc:ps.length<=100000000000000)(h:uH ps p s=o) :
  Calls Tryz.prog 208 #[.slice A ps.length c,.iface 151 (.agg #[.int .i64 p.1,.int .i64 p.2,.int .i64 s])] w (aB w (.bool o)):=by
 have hm:=aQ
 unfold uH at h
 obtain⟨⟨n,e⟩,hn⟩:∃u,uy ps p s=u:=⟨_,rfl⟩
 have k1:=hide (fun W (hg:Grew w W)=>XP ps A c p s (n,e) W (hr.up hg) hc hn)
 rw[hn] at h
 dsimp only at h k1
 clear hn hr
 obtain⟨p1,p2⟩:=p
 dsimp only at k1 ⊢
 have hcase:(e=0/\0<=n)\/(e=0/\¬ 0<=n)\/(e==0)=false:=by by_cases h:e=0<;>by_cases h2:0<=n<;>simp[h,h2]
 rcases hcase with⟨rfl,h1⟩|⟨rfl,h1⟩|h1
 ·simp[h1] at h
  subst h
  go_enter Tryz.func208,Tryz.ntmps208
  go_wp2_with (go_at_call 210;with_reducible refine aT (k1.out _ gw) fun _ _=>?_;dsimp only)
  go_ret
  exact aB.mk' (by simp[h1]) gw
 all_goals
  simp[h1] at h
  subst h
  go_enter Tryz.func208,Tryz.ntmps208
  go_wp2_with (go_at_call 210;with_reducible refine aT (k1.out _ gw) fun _ _=>?_;dsimp only)
  go_ret
  exact aB.mk' (by simp[h1]) gw
theorem Jp (ps:List Pt)(A:Option Addr)(c:Nat)(qs:List Pt)(A':Option Addr)(c':Nat)(o:Bool)(w:World)(hr:Rd w w.heap.size 2 A (ps.map dU))(hc:ps.length<=100000000000000)(hr':Rd w w.heap.size 2 A' (qs.map dU))(hc':qs.length<=100000000000000)(h:yj ps qs=o) :
  Calls Tryz.prog 208 #[.slice A ps.length c,.iface 149 (.slice A' qs.length c')] w (aB w (.bool o)):=by
 have hm:=aQ
 unfold yj at h
 obtain⟨⟨n,e⟩,hn⟩:∃u,vG ps qs=u:=⟨_,rfl⟩
 have k1:=hide (fun W (hg:Grew w W)=>ZQ ps qs A A' c c' (n,e) W (hr.up hg) (hr'.up hg) hc hc' hn)
 rw[hn] at h
 dsimp only at h k1
 clear hn hr hr'
 have hcase:e=0\/(e==0)=false:=by by_cases h:e=0<;>simp[h]
 rcases hcase with rfl|h1
 ·simp at h
  subst h
  go_enter Tryz.func208,Tryz.ntmps208
  go_wp2_with (go_at_call 212;with_reducible refine aT (k1.out _ gw) fun _ _=>?_;dsimp only)
  go_ret
  exact aB.mk' rfl gw
 ·rw[h1] at h
  simp at h
  subst h
  go_enter Tryz.func208,Tryz.ntmps208
  go_wp2_with (go_at_call 212;with_reducible refine aT (k1.out _ gw) fun _ _=>?_;dsimp only)
  go_ret
  exact aB.mk' (by simp[h1]) gw
theorem Jd (ps:List Pt)(A:Option Addr)(c:Nat)(x y r:Int)(o:Bool)(w:World)(hr:Rd w w.heap.size 2 A (ps.map dU))(hc:ps.length<=100000000000000)(h:uH ps (x,y) r=o) :
  Calls Tryz.prog 224 #[.agg #[.int .i64 x,.int .i64 y,.int .i64 r],.iface 149 (.slice A ps.length c)] w (aB w (.bool o)):=by
 have hm:=aQ
 have k1:=hide (fun W (hg:Grew w W)=>Jo ps A c (x,y) r o W (hr.up hg) hc h)
 dsimp only at k1
 clear hr h
 go_enter Tryz.func224,Tryz.ntmps224
 go_wp2_with (go_at_call 208;with_reducible refine aT (k1.out _ gw) fun _ _=>?_;dsimp only)
 go_ret
 exact aB.mk' rfl gw
theorem IL (x y:Int)(s:Value)(w:World):Calls Tryz.prog 204 #[.agg #[.int .i64 x,.int .i64 y],s] w (aB w (.bool false)):=by
 have hm:=aQ
 go_enter Tryz.func204,Tryz.ntmps204
 go_wp2_with fail
 go_ret
 exact aB.mk' rfl gw
theorem Uw (f g:FV)(F:Value)(o:Bool)(w:World)(hf:f.rd w w.heap.size)(hg:g.rd w w.heap.size)(vf:bC f=true)(vg:bC g=true)
  (kf:Hid (∀W,Calls Tryz.prog 50 #[f.val] W (aB W (.iface 151 (.agg #[.int .i64 f.x,.int .i64 f.y,.int .i64 f.dn]))))) (kg:Hid (∀W,Calls Tryz.prog 50 #[g.val] W (aB W F)))
  (kh:Hid (∀W,Grew w W->Calls Tryz.prog 224 #[.agg #[.int .i64 f.x,.int .i64 f.y,.int .i64 f.dn],F] W (aB W (.bool o)))) :
  Calls Tryz.prog 40 #[f.val,g.val] w (aB w (.tuple #[.bool o,.int .i64 0])):=by
 have hm:=aQ
 have k1:=hide (fun W (h:Grew w W)=>dD f true W (hf.up h) vf)
 have k2:=hide (fun W (h:Grew w W)=>dD g true W (hg.up h) vg)
 clear hf hg vf vg
 go_enter Tryz.func40,Tryz.ntmps40
 go_wp2_with (first|(go_at_call 56;with_reducible refine aT (k1.out _ gw) fun _ _=>?_;dsimp only)|(go_at_call 56;with_reducible refine aT (k2.out _ gw) fun _ _=>?_;dsimp only))
 refine ay 10 [] [] hm (h:=?_)
 repeat (refine au (fun K hK=>?_);go_simp;first|(refine hK _ ?_;clear hK K)|(apply Exists.intro;refine⟨fun _=>?_,hK _ ?_⟩;(first|(go_at_call 50;first|with_reducible exact kf.out _|with_reducible exact kg.out _)|(go_at_call 224;with_reducible exact kh.out _ gw));clear hK K))
 refine kZ fun nq osq=>?_
 try simp only[Act.put,aG]
 try dsimp only
 go_wp2_with fail
 go_ret2
 exact aB.mk' rfl gw
theorem Ux (f g:FV)(F:Value)(o:Bool)(w:World)(hf:f.rd w w.heap.size)(hg:g.rd w w.heap.size)(vf:bC f=true)(vg:bC g=true)
  (kf:Hid (∀W,Calls Tryz.prog 50 #[f.val] W (aB W (.iface 149 (.slice f.aA f.area.length f.ac))))) (kg:Hid (∀W,Calls Tryz.prog 50 #[g.val] W (aB W F)))
  (kh:Hid (∀W,Grew w W->Calls Tryz.prog 208 #[.slice f.aA f.area.length f.ac,F] W (aB W (.bool o)))) :
  Calls Tryz.prog 40 #[f.val,g.val] w (aB w (.tuple #[.bool o,.int .i64 0])):=by
 have hm:=aQ
 have k1:=hide (fun W (h:Grew w W)=>dD f true W (hf.up h) vf)
 have k2:=hide (fun W (h:Grew w W)=>dD g true W (hg.up h) vg)
 clear hf hg vf vg
 go_enter Tryz.func40,Tryz.ntmps40
 go_wp2_with (first|(go_at_call 56;with_reducible refine aT (k1.out _ gw) fun _ _=>?_;dsimp only)|(go_at_call 56;with_reducible refine aT (k2.out _ gw) fun _ _=>?_;dsimp only))
 refine ay 10 [] [] hm (h:=?_)
 repeat (refine au (fun K hK=>?_);go_simp;first|(refine hK _ ?_;clear hK K)|(apply Exists.intro;refine⟨fun _=>?_,hK _ ?_⟩;(first|(go_at_call 50;first|with_reducible exact kf.out _|with_reducible exact kg.out _)|(go_at_call 208;with_reducible exact kh.out _ gw));clear hK K))
 refine kZ fun nq osq=>?_
 try simp only[Act.put,aG]
 try dsimp only
 go_wp2_with fail
 go_ret2
 exact aB.mk' rfl gw
theorem QK (f g:FV)(F:Value)(o:Bool)(w:World)(hf:f.rd w w.heap.size)(hg:g.rd w w.heap.size)(vf:bC f=true)(vg:bC g=true)
  (kf:Hid (∀W,Calls Tryz.prog 50 #[f.val] W (aB W (.iface 148 (.agg #[.int .i64 f.x,.int .i64 f.y]))))) (kg:Hid (∀W,Calls Tryz.prog 50 #[g.val] W (aB W F)))
  (kh:Hid (∀W,Grew w W->Calls Tryz.prog 204 #[.agg #[.int .i64 f.x,.int .i64 f.y],F] W (aB W (.bool o)))) :
  Calls Tryz.prog 40 #[f.val,g.val] w (aB w (.tuple #[.bool o,.int .i64 0])):=by
 have hm:=aQ
 have k1:=hide (fun W (h:Grew w W)=>dD f true W (hf.up h) vf)
 have k2:=hide (fun W (h:Grew w W)=>dD g true W (hg.up h) vg)
 clear hf hg vf vg
 go_enter Tryz.func40,Tryz.ntmps40
 go_wp2_with (first|(go_at_call 56;with_reducible refine aT (k1.out _ gw) fun _ _=>?_;dsimp only)|(go_at_call 56;with_reducible refine aT (k2.out _ gw) fun _ _=>?_;dsimp only))
 refine ay 10 [] [] hm (h:=?_)
 repeat (refine au (fun K hK=>?_);go_simp;first|(refine hK _ ?_;clear hK K)|(apply Exists.intro;refine⟨fun _=>?_,hK _ ?_⟩;(first|(go_at_call 50;first|with_reducible exact kf.out _|with_reducible exact kg.out _)|(go_at_call 204;with_reducible exact kh.out _ gw));clear hK K))
 refine kZ fun nq osq=>?_
 try simp only[Act.put,aG]
 try dsimp only
 go_wp2_with fail
 go_ret2
 exact aB.mk' rfl gw
theorem Xw (f g:FV)(r:Bool×Int)(w:World)(hf:f.rd w w.heap.size)(hg:g.rd w w.heap.size)(hk:g.kind=3)(h:pU f g=r) :
  Calls Tryz.prog 40 #[f.val,g.val] w (aB w (.tuple #[.bool r.1,.int .i64 r.2])):=by
 unfold pU at h
 subst h
 by_cases hv:(bC f&&bC g)=true
 ·rw[if_pos hv]
  rw[Bool.and_eq_true] at hv
  have kg:Hid (∀W,Calls Tryz.prog 50 #[g.val] W (aB W (.iface 149 (.slice g.aA g.area.length g.ac)))):=hide (fun W=>xk g _ W (lT (.inl hk)))
  by_cases f4:f.kind=4
  ·refine QK f g _ _ w hf hg hv.1 hv.2 (hide (fun W=>xk f _ W (nZ f4))) kg (hide (fun W hgr=>?_))
   have e:vC f g.area=false:=by unfold vC;rw[if_pos f4]
   rw[e]
   exact IL _ _ _ W
  ·by_cases f3:f.kind=3\/f.kind=6
   ·exact Ux f g _ _ w hf hg hv.1 hv.2 (hide (fun W=>xk f _ W (lT f3))) kg (hide (fun W hgr=>Jp _ _ _ _ _ _ _ W ((hf.up hgr).area) hf.la ((hg.up hgr).area) hg.la (by unfold vC;rw[if_neg f4,if_pos f3])))
   ·exact Uw f g _ _ w hf hg hv.1 hv.2 (hide (fun W=>xk f _ W (mV f4 f3))) kg (hide (fun W hgr=>Jd _ _ _ _ _ _ _ W ((hg.up hgr).area) hg.la (by unfold vC;rw[if_neg f4,if_neg f3])))
 ·rw[if_neg hv]
  obtain⟨a,ha⟩:∃u,bC f=u:=⟨_,rfl⟩
  obtain⟨b,hb⟩:∃u,bC g=u:=⟨_,rfl⟩
  have hm:=aQ
  have k1:=hide (fun W (h:Grew w W)=>dD f a W (hf.up h) ha)
  have k2:=hide (fun W (h:Grew w W)=>dD g b W (hg.up h) hb)
  rw[ha,hb] at hv
  clear hf hg ha hb hk
  have hcase:a=false\/(a=true/\b=false):=by cases a<;>cases b<;>simp at hv ⊢
  rcases hcase with rfl|⟨rfl,rfl⟩
  all_goals
   go_enter Tryz.func40,Tryz.ntmps40
   go_wp2_with (first|(go_at_call 56;with_reducible refine aT (k1.out _ gw) fun _ _=>?_;dsimp only)|(go_at_call 56;with_reducible refine aT (k2.out _ gw) fun _ _=>?_;dsimp only))
   go_ret2
   exact aB.mk' rfl gw
end Go.Proofs.YtlkgjmnjhifehaaGreat
set_option maxHeartbeats 4000000
set_option maxRecDepth 100000
namespace Go.Proofs.YtlkgjmnjhifehaaGreat
open Go.RowKit Go.Sort Go.Lib
attribute [local go_sem] dC steadyUpon
attribute [local go_sem ↓] bQ bJ bg aZ aY aX aW
attribute [local go_sem] bH aN aK size_grow tape_grow cell?_grow' aF aC grow_grow bV bn dZ bZ bW bM aO cO bu bY bK
attribute [local irreducible] wpSteady
def qy (A:Option Addr)(c:Nat)(b:B4):FV:=⟨1,3,0,0,0,A,c,(l9 b).1,0,0,none,0,[]⟩
theorem QI (f:FV)(A:Option Addr)(c:Nat)(b:B4):pU f (qy A c b)=pU f (qy none 0 b):=rfl
def MO (b:B4)(f:FV):Bool:=(pU f (qy none 0 b)).2==0&&(pU f (qy none 0 b)).1
def stepD (b:B4)(d:Int)(f:FV):Int:=if d<=f.dep then d else if MO b f=true then f.dep else d
def Cc (fs:List FV)(b:B4):Int:=fs.foldl (stepD b) 100000
def zo (fs:List FV)(b:B4)(k:Nat):Int:=Cc (fs.take k) b
theorem Oh {fs:List FV}{b:B4}{k:Nat}(h:k<fs.length):zo fs b (k+1)=stepD b (zo fs b k) (aP fs k):=by
 unfold zo Cc
 rw[List.take_add_one,dA h,List.foldl_append]
 rfl
def gridOf (fs:List FV)(cx cy sz:Int)(gw gh:Nat):List Int:=(List.range (gw*gh)).map fun k=>Cc fs (cellAt cx cy sz gw k)
def afi (w:World)(cx cy sz gw gh:Int)(cs:List Int)(e:Ending)(w':World):Prop:=∃A c,e=.returned (.tuple #[Gr.val ⟨cx,cy,sz,gw,gh,A,c,cs⟩,.int .i64 0])/\cs.length<=c/\Rd w' w'.heap.size 1 A (cs.map encZ)/\Grew w w'
theorem aca {W w1:World}{n₀ n₁ B i:Nat}{t:TypeId}{cs:Array Value}{v v':Value}{xs ys:List Int}
  (hv:W.heap[B]?=some (.cells cs t (0,0))) (hrow:OZ W n₀ v xs) (hB:n₁<=B) (hBn:B<n₀) (h01:n₁<=n₀) (hown':OZ w1 n₀ v' ys) (hgrow:W.grownBy w1 v.ownBlock) :
  w1.heap[B]?=some (.cells cs t (0,0))/\(w1.setCell ⟨B,i,none⟩ v').heap[B]?=some (.cells (cs.setIfInBounds i v') t (0,0))/\OZ (w1.setCell ⟨B,i,none⟩ v') n₀ v' ys/\KeepsOthers W (w1.setCell ⟨B,i,none⟩ v')/\Below n₁ W (w1.setCell ⟨B,i,none⟩ v') /\
  ∀b,b≠B->b<n₀->b<W.heap.size->(w1.setCell ⟨B,i,none⟩ v').heap[b]?=W.heap[b]?:=by
 have hne:∀b,b<n₀->some b≠v.ownBlock:=fun b hb e=>by have:=(World.ownsRow.lt hrow b e.symm).1;omega
 have hv1:w1.heap[B]?=some (.cells cs t (0,0)):=(hgrow.block B (ax hv) (hne B hBn)).trans hv
 have hcell:∀j o,v.ownBlock=some j->W.heap[j]?=some o->∃cs,o=.cells cs 3 (0,0):=by
  intro j o ej hj
  rcases hrow.2 with⟨rfl,_⟩|⟨g,cap,cur,rfl,_,hgb,_⟩
  ·simp[Value.ownBlock] at ej
  ·obtain rfl:g=j:=by simpa[Value.ownBlock] using ej
   rw[hgb] at hj
   injection hj with hj
   exact⟨cur,hj.symm⟩
 refine⟨hv1,?_,?_,?_,?_,?_⟩
 ·simp[World.setCell,Array.getElem?_modify,hv1]
 ·refine World.ownsRow.kept hown' (row:=some B) (jQ (jo _ _) i v') (.inr fun e=>?_)
  have:=(World.ownsRow.lt hown' B e).1
  omega
 ·refine (KeepsOthers.of_grownBy hgrow fun j o ej hj=>?_).trans (KeepsOthers.setCell _ _ _)
  obtain⟨cs,rfl⟩:=hcell j o ej hj
  rfl
 ·refine ((Below.refl n₁ W).grown hgrow (Nat.le_trans hB (Nat.le_of_lt (ax hv))) fun j ej=>?_).setCell (p:=⟨B,i,none⟩) hB v'
  exact Nat.le_trans h01 (World.ownsRow.lt hrow j ej).1
 ·intro b hbB hb hbs
  rw[Below.heap_setCell w1 ⟨B,i,none⟩ v' b hbB]
  exact hgrow.block b hbs (hne b hb)
theorem ab9 {β:Type}{B b base:Nat}{T:TypeId}(k:Value->Array Value)(xs:β->List Int):OwnFrom B (fun (s:β) W=>∃v,W.heap[b]?=some (.cells (k v) T (0,0))/\OZ W base v (xs s)):=by
 rintro s X Y row ⟨v,h1,h2⟩ hg hr
 refine⟨v,fE h1 hg (fun r e=>(hr r e).2),World.ownsRow.kept h2 hg ?_⟩
 rcases h2.2 with⟨rfl,_⟩|⟨g,cap,cur,rfl,_,hgb,_⟩
 ·exact .inl rfl
 ·refine .inr fun e'=>?_
  obtain⟨o,ho,hc⟩:=(hr g (by simpa[Value.ownBlock] using e'.symm)).2
  rw[hgb] at ho
  cases ho
  cases hc
set_option maxHeartbeats 16000000
set_option maxRecDepth 100000
attribute [local go_sem] Oper.semAt_some
def cellsOf (fs:List FV)(cx cy sz:Int)(nw nh:Nat)(pre:List (Fin (nw*nh))):List Int:=pre.map fun i=>Cc fs (cellAt cx cy sz nw i.1)
def st6 (W:World)(b:Nat)(v0 v1 v2 v3 v4 v5:Value):World:=(((((W.setCell ⟨b,0,none⟩ v0).setCell ⟨b,1,none⟩ v1).setCell ⟨b,2,none⟩ v2).setCell ⟨b,3,none⟩ v3).setCell ⟨b,4,none⟩ v4).setCell ⟨b,5,none⟩ v5
theorem abk {W:World}{b:Nat}{c0 c1 c2 c3 c4 c5 v0 v1 v2 v3 v4 v5:Value}{T:TypeId}(h:W.heap[b]?=some (.cells #[c0,c1,c2,c3,c4,c5] T (0,0))):(st6 W b v0 v1 v2 v3 v4 v5).heap[b]?=some (.cells #[v0,v1,v2,v3,v4,v5] T (0,0)):=by
 simp[st6,World.setCell,Array.getElem?_modify,h]
theorem abj (W:World)(b:Nat)(v0 v1 v2 v3 v4 v5:Value):W.grownBy (st6 W b v0 v1 v2 v3 v4 v5) (some b):=jQ (jQ (jQ (jQ (jQ (jQ (jo _ _) 0 v0) 1 v1) 2 v2) 3 v3) 4 v4) 5 v5
theorem Bx.left {W:World}{n:Nat}{a b:List Obj}(h:Bx W n (a++b)):Bx W n a:=fun i o ho=>h i o (by rw[List.getElem?_append_left (List.getElem?_eq_some_iff.1 ho).1];exact ho)
theorem XA (fs:List FV)(A:Option Addr)(c:Nat)(cx cy sz:Int)(nw nh:Nat)(w:World)(hr:mM w w.heap.size A fs)(hf:lV cx cy sz nw nh=true)(hl:bG fs=true) :
  Calls Tryz.prog 10 #[.slice A fs.length c,pt cx cy,.int .i64 sz,.int .i64 nw,.int .i64 nh] w (afi w cx cy sz nw nh (gridOf fs cx cy sz nw nh)):=by
 have hm:=aQ
 have hfl:fs.length<=300:=by
  unfold bG at hl
  rw[Bool.and_eq_true,decide_eq_true_eq] at hl
  exact hl.2
 have hsd:(1<=sz/\sz<=100000)/\(1<=nw/\nw<=64)/\(1<=nh/\nh<=64):=by
  unfold lV xI at hf
  rw[Bool.and_eq_true,decide_eq_true_eq] at hf
  omega
 have hcn:(-1000000<=cx/\cx<=1000000)/\(-1000000<=cy/\cy<=1000000):=by
  unfold lV okB BU at hf
  rw[Bool.and_eq_true,Bool.and_eq_true,decide_eq_true_eq] at hf
  dsimp only at hf
  omega
 obtain⟨r,hfr⟩:∃r,Et cx cy sz nw nh=r:=⟨_,rfl⟩
 have k1:=hide (fun W=>P6 ⟨cx,cy,sz,nw,nh,none,0,[]⟩ W r true hfr hf)
 have k2:=hide (fun W (hg:Grew w W)=>je fs A c true W (hr.up hg) (by omega) hl)
 have k3:=hide (fun W=>Tj ⟨cx,cy,sz,nw,nh,none,0,[]⟩ W)
 have HR:=hide hr
 unfold Gr.val at k1 k3
 obtain⟨⟨r1,r2⟩,⟨r3,r4⟩⟩:=r
 dsimp only[List.length_nil] at k1 k3 ⊢
 clear hr hf hl hfr
 obtain⟨nl,hnl⟩:∃n,fs.length=n:=⟨_,rfl⟩
 rw[hnl] at k2 hfl ⊢
 refine (callsIn_wide (n:=13)).1 ?_
 refine callsIn_of_wp_marks Tryz.func10 rfl trivial ?_ rfl
 simp only[Tryz.ntmps10,List.size_toArray,List.length_cons,List.length_nil,Nat.reduceAdd,Nat.reduceSub,Array.replicate_succ,Array.replicate_zero,List.push_toArray,List.append_toArray,List.nil_append,List.cons_append]
 gi_wp2_with fail
 refine⟨trivial,?_⟩
 refine (callsIn_wide.2 (k1.out _)).mono ?_
 rintro e w1 ⟨rfl,hg1⟩
 obtain⟨gb,hgb⟩:∃g:Obj,g=.cells #[.int .i64 cx,.int .i64 cy,.int .i64 sz,.int .i64 nw,.int .i64 nh,.slice none 0 0] 41 (0,0):=⟨_,rfl⟩
 obtain⟨bx,hbx⟩:∃bx:List Obj,bx=[.cells #[.slice A nl c] 23 (0,0),.cells #[.int .i64 cx,.int .i64 cy] 28 (0,0),.cells #[.int .i64 0,.int .i64 0,.int .i64 0,.int .i64 0,.int .i64 0,.slice none 0 0] 41 (0,0)]:=⟨_,rfl⟩
 have hb1:Bx w1 w.heap.size (bx++[gb]):=by rw[hbx,hgb];refine (Bx.lH _ w).1.grew ?_;simp only[List.foldl,List.cons_append,List.nil_append];exact Grew.trans gw hg1
 have hw1:Grew w w1:=Grew.trans gw hg1
 have hbl:bx.length=3:=by rw[hbx];rfl
 have hz1:w.heap.size+4<=w1.heap.size:=by
  have:=ax (hb1 3 _ (by rw[hbx,hgb];rfl))
  omega
 have q0:=ag (hb1 0 _ (by rw[hbx];rfl)) 0
 have hb3:w1.heap[w.heap.size+1+1+1]?=_:=hb1 3 _ (by rw[hbx,hgb];rfl)
 have lq0:w.heap.size<w1.heap.size:=by omega
 rw[Nat.add_zero] at q0
 have Hb1:=hide (Bx.left hb1)
 have HB3:=hide hb3
 have Hw1:=hide hw1
 clear hb1 hw1 hg1
 dsimp only
 gi_wp2_with fail
 refine⟨trivial,?_⟩
 refine (callsIn_wide.2 (k2.out _ gw)).mono ?_
 rintro e w2 ⟨rfl,hg2⟩
 dsimp only
 have hw2:Grew w1 w2:=Grew.trans gw hg2
 have hz2:=hw2.below.size
 have q3:=(hw2.heap (by omega)).trans hb3
 have lq3:w.heap.size+1+1+1<w2.heap.size:=by omega
 have e0:=ag q3 0
 have e1:=ag q3 1
 have e2:=ag q3 2
 have e3:=ag q3 3
 have e4:=ag q3 4
 have e5:=ag q3 5
 have HW2:=hide hw2
 clear hw2 hg2 q0 hb3 lq0 q3
 gi_wp2_with fail
 refine⟨trivial,?_⟩
 refine (callsIn_wide.2 (k3.out _)).mono ?_
 rintro e w3 ⟨rfl,hw3⟩
 dsimp only
 gi_wp2_with fail
 refine dJ ?_
 intro a0 W0 ha hW
 subst hW
 have hg3:Grew w2 w3:=by rw[<-hw3];exact gw
 have hg0:Grew w w3:=(Hw1.out.trans HW2.out).trans hg3
 have hb0:=(Hb1.out.grew HW2.out).grew hg3
 have aek:w3.heap[w.heap.size+1+1+1]?=some (.cells #[.int .i64 cx,.int .i64 cy,.int .i64 sz,.int .i64 (nw:Int),.int .i64 (nh:Int),.slice none 0 0] 41 (0,0)):=((HW2.out.trans hg3).heap (by omega)).trans HB3.out
 have hk0:w3.heap[w2.heap.size]?=some (.cells #[.int .i64 cx,.int .i64 cy,.int .i64 sz,.int .i64 (nw:Int),.int .i64 (nh:Int),.slice none 0 0] 41 (0,0)):=by rw[<-hw3];exact heap_alloc_new _ _
 have hsz:w3.heap.size=w2.heap.size+1:=by rw[<-hw3];simp
 have lQ:=hide hg0
 have HB0:=hide hb0
 have HK0:=hide hk0
 have aha:=hide aek
 clear hw3 hg3 hg0 hb0 hk0 aek e0 e1 e2 e3 e4 e5 lq3
 obtain⟨Z,hZ⟩:∃Z,w2.heap.size=Z:=⟨_,rfl⟩
 rw[hZ] at hsz HK0 hz2
 have ha2:a0.eval (.tmp 43)=.func (.func 76) #[] #[.pointer (some ⟨Z,0,none⟩)]:=by rw[<-ha,<-hZ];simp[Act.eval]
 have HZ:=hide hZ
 clear hZ
 refine wpIn_rangeFunc_ownH (n:=13) rfl (by omega) (gf:=76) (lb:=#[.pointer (some ⟨Z,0,none⟩)]) ha2 trivial (enters_of Tryz.func76 (by kernel_rfl) rfl)
  (Jk 12 w.heap.size nw nh Z (fun b _=>b=w.heap.size+1+1+1\/Z+1<=b) cx cy sz (.slice none 0 0) w3 (fun b _ hb=>by omega) HK0.out hsd.2.1 hsd.2.2 hsd.1 hcn.1 hcn.2)
  (fun h k=>h.trans k) iC.bk (Below.refl _ _) (fun _=>rfl)
  (fun pre W=>(Below w.heap.size w W/\Bx W w.heap.size bx)/\∃v,W.heap[w.heap.size+1+1+1]?=some (.cells #[.int .i64 cx,.int .i64 cy,.int .i64 sz,.int .i64 (nw:Int),.int .i64 (nh:Int),v] 41 (0,0))/\OZ W (Z+1) v (cellsOf fs cx cy sz nw nh pre))
  (fun _ _ _=>False)
  (OwnFrom.and (OwnFrom.and (ownFrom_below (Nat.le_refl _) lQ.out.below.size) (Bx.own (by omega))) (ab9 (fun v=>#[.int .i64 cx,.int .i64 cy,.int .i64 sz,.int .i64 (nw:Int),.int .i64 (nh:Int),v]) (fun pre=>cellsOf fs cx cy sz nw nh pre)))
  (fun q=>ownFrom_pure _)
  ⟨⟨lQ.out.below,HB0.out⟩,_,aha.out,OZ.nil _ _⟩
  (fun x a' W=>∃B,W.heap[B]?=some (.cells #[.int .i64 (cellAt cx cy sz nw x.1).1.1,.int .i64 (cellAt cx cy sz nw x.1).1.2,.int .i64 (cellAt cx cy sz nw x.1).2.1,.int .i64 (cellAt cx cy sz nw x.1).2.2] 50 (0,0))/\a'={ tmps:=(a0.tmps.setIfInBounds 44 (Xk (cellAt cx cy sz nw x.1))).setIfInBounds 15 (.pointer (some ⟨B,0,none⟩)),defers:=[] })
  (fun x a'=>by
   rintro s X Y row ⟨B,h1,h2⟩ hg hr
   exact⟨B,fE h1 hg (fun r e=>(hr r e).2),h2⟩)
  ?assign ?body ?done ?stop
 case assign =>
  rintro l pre x W K ⟨⟨hB,hb⟩,v,hgv,PW⟩ hK
  rw[show WL cx cy sz nw (nw*nh) x=#[Xk (cellAt cx cy sz nw x.1)] from rfl,L6]
  subst ha
  simp only[List.setIfInBounds_toArray,List.set_cons_succ,List.set_cons_zero] at hK ⊢
  have vT:=hide hK
  clear hK
  gi_wp2_with fail
  have hgg:Grew W (W.alloc (.cells #[.int .i64 (cellAt cx cy sz nw x.1).1.1,.int .i64 (cellAt cx cy sz nw x.1).1.2,.int .i64 (cellAt cx cy sz nw x.1).2.1,.int .i64 (cellAt cx cy sz nw x.1).2.2] 50)):=gw
  exact vT.out _ _ (hgg.aV _) (iC.grew hgg) ⟨⟨hB.trans (hgg.below.mono hB.size),hb.grew hgg⟩,v,(hgg.heap (ax hgv)).trans hgv,PW.grew hgg⟩ ⟨W.heap.size,heap_alloc_new _ _,rfl⟩
 case body =>
  rintro l pre x a' W hl2 ⟨r0,hlr⟩ ⟨⟨hB,hb⟩,v,hgv,PW⟩ ⟨B,hx,rfl⟩ hlt
  subst ha
  have HWW:=hide (Nat.le_of_lt (Nat.lt_of_le_of_lt hl2 (ax hlr)))
  obtain⟨b,hbb⟩:∃b,cellAt cx cy sz nw x.1=b:=⟨_,rfl⟩
  have hsn:Hid (cellsOf fs cx cy sz nw nh (pre++[x])=cellsOf fs cx cy sz nw nh pre++[Cc fs b]):=hide (by unfold cellsOf;rw[List.map_append,<-hbb];rfl)
  have hol:(cellsOf fs cx cy sz nw nh pre).length<=4096:=by
   unfold cellsOf
   rw[List.length_map]
   have:nw*nh<=64*64:=Nat.mul_le_mul hsd.2.1.2 hsd.2.2.2
   omega
  rw[hbb] at hx
  simp only[hbb]
  obtain⟨out,hout⟩:∃o,cellsOf fs cx cy sz nw nh pre=o:=⟨_,rfl⟩
  rw[hout] at PW hol
  have HSN:Hid (cellsOf fs cx cy sz nw nh (pre++[x])=out++[Cc fs b]):=hide (by rw[hsn.out,hout])
  obtain⟨⟨b1,b2⟩,⟨b3,b4⟩⟩:=b
  dsimp only at hx ⊢
  obtain⟨Av,cv,rfl,hcv⟩:=PW.slice
  have HB:=hide hB
  have Hb:=hide hb
  have HX:=hide hx
  have HGV:=hide hgv
  have HOZ:=hide PW
  have x0:=ag hx 0
  have x1:=ag hx 1
  have x2:=ag hx 2
  have x3:=ag hx 3
  have lx:=ax hx
  clear hB hb hx hgv PW hsn hout hbb hlt hl2 hlr
  simp only[List.setIfInBounds_toArray,List.set_cons_succ,List.set_cons_zero]
  gi_wp2_with fail
  refine⟨trivial,?_⟩
  refine (CallsIn.inRound l (callsIn_wide.2 (Md ((b1,b2),(b3,b4)) _))).mono ?_
  rintro e W2 ⟨vr,rfl,hown,hgr⟩
  obtain⟨Ar,cr,rfl,hcr,hrd⟩:=Rd.ik (f:=dU) mZ hown rfl
  dsimp only
  have hRW:Hid (Grew w W2):=hide ((Grew.of_below HB.out).trans hgr)
  have hcell:Hid ((qy Ar cr ((b1,b2),(b3,b4))).rd W2 W2.heap.size):=hide ⟨hrd,Rd.nil _ _ _ _,by unfold qy l9 dQ;dsimp only;(repeat' split)<;>simp,by simp[qy],by simp[qy]⟩
  have hl0:w.heap.size<W.heap.size:=by have:=HB.out.size;have:=(ax (HB3.out));have:=HGV.out;have:=ax this;omega
  have q0:W2.cell? ⟨w.heap.size,0,none⟩=some (.slice A nl c):=ag ((hgr.heap hl0).trans (Hb.out 0 _ (by rw[hbx];rfl))) 0
  have lq0:w.heap.size<W2.heap.size:=Nat.lt_of_lt_of_le hl0 hgr.below.size
  have JF:=hide hgr
  clear hgr hrd hown x0 x1 x2 x3 lx hcr
  obtain⟨na,hna⟩:∃n,(l9 ((b1,b2),(b3,b4))).1.length=n:=⟨_,rfl⟩
  obtain⟨re,hre⟩:∃n,(l9 ((b1,b2),(b3,b4))).2=n:=⟨_,rfl⟩
  rw[hna,hre]
  clear hre
  have HNA:=hide hna
  clear hna
  gi_wp2_with fail
  refine dJ ?_
  intro a1 W3 ha1 hW
  have hg3:Grew W2 W3:=by rw[<-hW];exact gw
  have hbc:W3.heap[W2.heap.size]?=some (.cells #[.int .i64 1,.int .i64 3,.int .i64 0,.int .i64 0,.int .i64 0,.slice Ar na cr,.int .i64 0,.int .i64 0,.slice none 0 0] 65 (0,0)):=by rw[<-hW];exact heap_alloc_new _ _
  have rU:=hide hg3
  have Cm:=hide hbc
  clear hW hg3 hbc q0 lq0
  subst ha1
  gi_loopw [19,54] (fun d i wr=>∃k:Nat,k<=nl/\i=.int .i64 k/\d=.int .i64 (zo fs ((b1,b2),(b3,b4)) k)/\Hid (Grew W3 wr)) (fun _ i _=>nl-(intOf i).toNat)
  case atStart=>exact⟨0,by omega,rfl,by simp[zo,Cc],hide (Grew.refl _)⟩
  case round =>
   obtain⟨k,hk,rfl,rfl,hG⟩:=hrel
   by_cases hk2:k<nl
   ·have hlt:k<fs.length:=by rw[hnl];exact hk2
    have hgw:Grew w wr:=(hRW.out.trans rU.out).trans hG.out
    obtain⟨b0,off,hA',hb0,fc⟩:=vW (HR.out.up hgw) hlt
    have hfr:=(HR.out.up hgw).each _ (dL hlt)
    have hix:=aJ (cap:=c) Tryz.underlying23 Tryz.sizeOf65 hA'.out hlt
    rw[hnl] at hix
    have hstep:=Oh (b:=((b1,b2),(b3,b4))) hlt
    obtain⟨dd,hdd⟩:∃d,zo fs ((b1,b2),(b3,b4)) k=d:=⟨_,rfl⟩
    obtain⟨o,ho⟩:∃o,pU (aP fs k) (qy Ar cr ((b1,b2),(b3,b4)))=o:=⟨_,rfl⟩
    have ht:MO ((b1,b2),(b3,b4)) (aP fs k)=(o.2==0&&o.1):=by unfold MO;rw[<-QI _ Ar cr,ho]
    have hcv:(qy Ar cr ((b1,b2),(b3,b4))).val=.agg #[.int .i64 1,.int .i64 3,.int .i64 0,.int .i64 0,.int .i64 0,.slice Ar na cr,.int .i64 0,.int .i64 0,.slice none 0 0]:=by rw[<-HNA.out];rfl
    have k5:Hid (∀W',Grew wr W'->Calls Tryz.prog 40 #[(aP fs k).val,.agg #[.int .i64 1,.int .i64 3,.int .i64 0,.int .i64 0,.int .i64 0,.slice Ar na cr,.int .i64 0,.int .i64 0,.slice none 0 0]] W' (aB W' (.tuple #[.bool o.1,.int .i64 o.2]))):=hide (fun W' hg=>by
     have h:=Xw (aP fs k) (qy Ar cr ((b1,b2),(b3,b4))) o W' (hfr.up hg) (hcell.out.up ((rU.out.trans hG.out).trans hg)) rfl ho
     rwa [hcv] at h)
    unfold stepD at hstep
    rw[ht,hdd] at hstep
    rw[hdd]
    have OL:=hide hstep
    have g0:=ag ((hG.out.heap (ax Cm.out)).trans Cm.out) 0
    have g1:=ag ((hG.out.heap (ax Cm.out)).trans Cm.out) 1
    have g2:=ag ((hG.out.heap (ax Cm.out)).trans Cm.out) 2
    have g3:=ag ((hG.out.heap (ax Cm.out)).trans Cm.out) 3
    have g4:=ag ((hG.out.heap (ax Cm.out)).trans Cm.out) 4
    have g5:=ag ((hG.out.heap (ax Cm.out)).trans Cm.out) 5
    have g6:=ag ((hG.out.heap (ax Cm.out)).trans Cm.out) 6
    have g7:=ag ((hG.out.heap (ax Cm.out)).trans Cm.out) 7
    have g8:=ag ((hG.out.heap (ax Cm.out)).trans Cm.out) 8
    have lg:W2.heap.size<wr.heap.size:=ax ((hG.out.heap (ax Cm.out)).trans Cm.out)
    obtain⟨x0,x1,x2,x3,x4,x5,x6,x7,x8⟩:=fc
    clear ho ht hcv hstep hfr hA' hdd hgw
    generalize aP fs k=f at *
    obtain⟨id,kind,x,y,dn,aA,ac,area,dep,sym,sA,sc,secs⟩:=f
    unfold FV.val at k5
    obtain⟨o1,o2⟩:=o
    dsimp only at *
    generalize area.length=na2 at *
    generalize secs.length=nn at *
    have hcase:dd<=dep\/(¬ dd<=dep/\o2=0/\o1=true)\/(¬ dd<=dep/\o2=0/\o1=false)\/(¬ dd<=dep/\(o2==0)=false):=by by_cases h1:dd<=dep<;>by_cases h2:o2=0<;>cases o1<;>simp[h1,h2]
    rcases hcase with h1|⟨h1,rfl,rfl⟩|⟨h1,rfl,rfl⟩|⟨h1,h2⟩
    ·gi_wp2_with fail
     go_roundw
     case rel=>exact⟨k+1,by omega,by go_num,by rw[OL.out,if_pos h1],hide (hG.out.trans gw)⟩
     case measure=>simp[intOf];omega
    all_goals
     gi_wp2_with fail
     refine⟨trivial,?_⟩
     refine (CallsIn.inRound l (callsIn_wide.2 (k5.out _ gw))).mono ?_
     rintro e W4 ⟨rfl,hg4⟩
     dsimp only
     have sW:Hid (Grew W3 W4):=hide (hG.out.trans (Grew.trans gw hg4))
     have gd:=ag ((hg4.heap (by simp)).trans (heap_alloc_new wr _)) 6
     have ld:wr.heap.size<W4.heap.size:=Nat.lt_of_lt_of_le (by simp) hg4.below.size
     clear hg4 x0 x1 x2 x3 x4 x5 x6 x7 x8 g0 g1 g2 g3 g4 g5 g6 g7 g8 hix
     gi_wp2_with fail
     go_roundw
     case rel=>exact⟨k+1,by omega,by go_num,by rw[OL.out,if_neg (show ¬ dd<=dep by omega)];first|rfl|(simp;done)|(simp[*];done),sW⟩
     case measure=>simp[intOf];omega
   ·obtain rfl:k=nl:=by omega
    have hgw:Grew W wr:=(JF.out.trans rU.out).trans hG.out
    have hgv:=(hgw.heap (ax HGV.out)).trans HGV.out
    have g0:=ag hgv 5
    have lgv:w.heap.size+1+1+1<wr.heap.size:=ax hgv
    have PW:=HOZ.out.grew hgw
    have abZ:Cc fs ((b1,b2),(b3,b4))=zo fs ((b1,b2),(b3,b4)) k:=by unfold zo;rw[<-hnl,List.take_length]
    obtain⟨dd,hdd⟩:∃d,zo fs ((b1,b2),(b3,b4)) k=d:=⟨_,rfl⟩
    have agP:Hid (cellsOf fs cx cy sz nw nh (pre++[x])=out++[dd]):=hide (by rw[HSN.out,abZ,hdd])
    rw[hdd]
    have akl:=hide abZ
    have aeX:=hide PW
    have HGW:=hide hgw
    have ag8:=hide hgv
    have hzl:Z+1<=wr.heap.size:=by have:=HWW.out;have:=hgw.below.size;omega
    clear abZ hdd PW hgw hgv
    gi_wp2_with (gi_at_builtin;refine jD.stop ?_)
    refine jD.go ?_
    refine xu rfl (.tmp 77) (.tmp 79) rfl (Z+1) _ out rfl (aeX.out.grew gw) wr.heap.size dd rfl (ag (heap_alloc_new wr _) 0) (by omega) (by simp;omega) ?_
    intro v' w4 hown' hgrow _
    obtain⟨A4,c4,rfl,hc4⟩:=hown'.slice
    obtain⟨n2,hn2⟩:∃n,(out++[dd]).length=n:=⟨_,rfl⟩
    rw[hn2] at hown' ⊢
    have Ci:=hide hn2
    clear hn2
    have hXg:Grew W (wr.alloc (.cells #[.int .i64 dd] 3)):=HGW.out.trans gw
    have hzw:w.heap.size+4<=Z:=by omega
    obtain⟨z1,z2,z3,z4,z5,z6⟩:=aca (i:=5) (n₁:=w.heap.size) ((heap_alloc_old wr _ lgv).trans ag8.out) (aeX.out.grew gw) (by omega) (by omega) (by omega) hown' hgrow
    have y1:=ag z1 5
    have f1:w4.frozen? ⟨w.heap.size+1+1+1,5,none⟩=false:=by simp[World.frozen?,z1]
    have ly1:=ax z1
    have Z2:=hide z2
    have Z3:=hide z3
    have Z4:=hide z4
    have Z5:=hide z5
    have Z6:=hide z6
    have HXG:=hide hXg
    clear z1 z2 z3 z4 z5 z6 hown' hgrow hXg g0 hc4
    gi_wp2_with fail
    refine⟨(HXG.out.aV _).trans (Z4.out.from _),fun b cs T fr hM hb=>?_,⟨⟨(HB.out.trans (HXG.out.below.mono HB.out.size)).trans Z5.out,fun i o ho=>?_⟩,_,Z2.out,?_⟩⟩
    ·have hbl:=ax hb
     rw[Z6.out b (fun e=>hM (.inl e)) (Nat.lt_of_not_le fun e=>hM (.inr e)) (Nat.lt_of_lt_of_le hbl HXG.out.below.size)]
     exact (HXG.out.heap hbl).trans hb
    ·have h0:=Hb.out i o ho
     have hi:=(List.getElem?_eq_some_iff.1 ho).1
     rw[Z6.out (w.heap.size+i) (by omega) (by omega) (Nat.lt_of_lt_of_le (ax h0) HXG.out.below.size)]
     exact (HXG.out.heap (ax h0)).trans h0
    ·rw[agP.out]
     exact Z3.out
 case done =>
  subst ha
  rintro D xs W hD hS ⟨⟨hB,hb⟩,v,hgv,PW⟩ hK
  have hcs:cellsOf fs cx cy sz nw nh xs=gridOf fs cx cy sz nw nh:=by
   unfold cellsOf gridOf
   rw[<-hS,List.map_map]
   rfl
  rw[hcs] at PW
  have hgl:(gridOf fs cx cy sz nw nh).length<=4096:=by
   unfold gridOf
   rw[List.length_map,List.length_range]
   have:nw*nh<=64*64:=Nat.mul_le_mul hsd.2.1.2 hsd.2.2.2
   omega
  generalize gridOf fs cx cy sz nw nh=out at *
  obtain⟨Av,cv,rfl,hcv⟩:=PW.slice
  have h2:W.heap[w.heap.size+1+1]?=some (.cells #[.int .i64 0,.int .i64 0,.int .i64 0,.int .i64 0,.int .i64 0,.slice none 0 0] 41 (0,0)):=hb 2 _ (by rw[hbx];rfl)
  have e0:=ag hgv 0
  have e1:=ag hgv 1
  have e2:=ag hgv 2
  have e3:=ag hgv 3
  have e4:=ag hgv 4
  have e5:=ag hgv 5
  have d0:=ag h2 0
  have d1:=ag h2 1
  have d2:=ag h2 2
  have d3:=ag h2 3
  have d4:=ag h2 4
  have d5:=ag h2 5
  have r0:W.frozen? ⟨w.heap.size+1+1,0,none⟩=false:=by simp[World.frozen?,h2]
  have r1:W.frozen? ⟨w.heap.size+1+1,1,none⟩=false:=by simp[World.frozen?,h2]
  have r2:W.frozen? ⟨w.heap.size+1+1,2,none⟩=false:=by simp[World.frozen?,h2]
  have r3:W.frozen? ⟨w.heap.size+1+1,3,none⟩=false:=by simp[World.frozen?,h2]
  have r4:W.frozen? ⟨w.heap.size+1+1,4,none⟩=false:=by simp[World.frozen?,h2]
  have r5:W.frozen? ⟨w.heap.size+1+1,5,none⟩=false:=by simp[World.frozen?,h2]
  have l2:=ax h2
  have lgv:=ax hgv
  have HB:=hide hB
  have HOZ:=hide PW
  have HGV:=hide hgv
  have H2:=hide h2
  have HK:=hide hK
  clear hB hb hgv PW hK h2 hS hcs
  gi_wp2_with fail
  show bodyPostM _ _ _ _ _ _ _ (st6 W (w.heap.size+1+1) (.int .i64 cx) (.int .i64 cy) (.int .i64 sz) (.int .i64 (nw:Int)) (.int .i64 (nh:Int)) (.slice Av out.length cv))
  have h6:=abk (v0:=.int .i64 cx) (v1:=.int .i64 cy) (v2:=.int .i64 sz) (v3:=.int .i64 (nw:Int)) (v4:=.int .i64 (nh:Int)) (v5:=.slice Av out.length cv) H2.out
  have RZ:=abj W (w.heap.size+1+1) (.int .i64 cx) (.int .i64 cy) (.int .i64 sz) (.int .i64 (nw:Int)) (.int .i64 (nh:Int)) (.slice Av out.length cv)
  generalize st6 W (w.heap.size+1+1) (.int .i64 cx) (.int .i64 cy) (.int .i64 sz) (.int .i64 (nw:Int)) (.int .i64 (nh:Int)) (.slice Av out.length cv)=W6 at *
  have hzw:w.heap.size+4<=w3.heap.size:=by omega
  have hK6:W6.heap[D]?=some (.deferred (some [])):=(RZ.block D (ax HK.out) (fun e=>by injection e with e;omega)).trans HK.out
  have hB6:Below w.heap.size w W6:=gq RZ HB.out (by omega)
  have afY:OZ W6 (Z+1) (.slice Av out.length cv) out:=World.ownsRow.kept HOZ.out RZ (.inr fun e=>by have:=(World.ownsRow.lt HOZ.out _ e).1;omega)
  refine⟨by simp,.inl ⟨_,_,rfl,run_takeDeferred hK6,?_⟩⟩
  have hb5:=hB6.trans (belowK_b (w:=w) (Nat.le_refl _) _ D _ (.deferred none) (by omega) hK6 rfl rfl)
  obtain⟨A9,c9,e9,hrd⟩:=OZ.rd (show OZ (W6.putObj D (.deferred none)) (Z+1) (.slice Av out.length cv) out from ownsRow_putObj afY (.deferred none) hK6 rfl)
  injection e9 with e9 _ e9'
  subst e9 e9'
  have p0:=(aU (o:=.deferred none) (show w.heap.size+1+1≠D by omega)).trans (ag h6 0)
  have p1:=(aU (o:=.deferred none) (show w.heap.size+1+1≠D by omega)).trans (ag h6 1)
  have p2:=(aU (o:=.deferred none) (show w.heap.size+1+1≠D by omega)).trans (ag h6 2)
  have p3:=(aU (o:=.deferred none) (show w.heap.size+1+1≠D by omega)).trans (ag h6 3)
  have p4:=(aU (o:=.deferred none) (show w.heap.size+1+1≠D by omega)).trans (ag h6 4)
  have p5:=(aU (o:=.deferred none) (show w.heap.size+1+1≠D by omega)).trans (ag h6 5)
  refine⟨.tuple #[.agg #[.int .i64 cx,.int .i64 cy,.int .i64 sz,.int .i64 (nw:Int),.int .i64 (nh:Int),.slice Av out.length cv],.int .i64 0],by simp[results,Tryz.results10,go_sem,p0,p1,p2,p3,p4,p5],?_⟩
  exact⟨Av,cv,rfl,hcv,hrd,Grew.of_below hb5⟩
 case stop=>exact fun _ _ _ _ _ _ h _=>h.elim
end Go.Proofs.YtlkgjmnjhifehaaGreat
