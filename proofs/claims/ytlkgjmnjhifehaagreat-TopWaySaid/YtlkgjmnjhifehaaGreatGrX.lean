
import Derived.Test.YtlkgjmnjhifehaaGreatOwZ
import Derived.Test.YtlkgjmnjhifehaaGreatFeE
import Derived.Laws.IdiomCopy
import Derived.OwnWalk
import Derived.Test.YtlkgjmnjhifehaaGreatKitN
import Derived.Test.YtlkgjmnjhifehaaGreatPov
set_option linter.unusedSimpArgs false
set_option linter.unusedVariables false
set_option maxHeartbeats 8000000
set_option maxRecDepth 100000
namespace Go.Proofs.YtlkgjmnjhifehaaGreat
open Go.RowKit Go.Sort Go.Lib
attribute [local go_sem] dA steadyUpon
attribute [local go_sem ↓] bU bI aX aW aV aU aT
attribute [local go_sem] bH aK aJ size_grow tape_grow cell?_grow' aF aB grow_grow bW aY dR cO bY bK aN cZ aZ bZ bJ
attribute [local irreducible] wpSteady
theorem Ux {P:Program}{ops:Array Oper}{Q:Exit->Act->World->Prop}{l:List Oper}{a:Act}{w:World}(h:∀W0,w=W0->wpList P ops Q l a W0):wpList P ops Q l a w:=h _ rfl
theorem TG (n:Nat)(h:n<=1000000)(w:World):Calls Tryz.prog 101 #[.int .u64 1,.int .u64 (n:Int)] w (aC w (.tuple #[.int .u64 0,.int .u64 (n:Int)])):=by
 have hm:=aP
 have k1:=hide (fun W=>Bz 1 n (by omega) (by omega) W)
 have e1:((1*n / 18446744073709551616:Nat):Int)=0:=by omega
 have e2:((1*n%18446744073709551616:Nat):Int)=(n:Int):=by omega
 rw[e1,e2] at k1
 have k2:Hid (∀W,Calls Tryz.prog 131 #[.int .u64 1,.int .u64 (n:Int)] W (aC W (.tuple #[.int .u64 0,.int .u64 (n:Int)]))):=hide (fun W=>k1.out W)
 clear k1 e1 e2
 go_enter Tryz.func101,Tryz.ntmps101
 go_wp2_with (go_at_call 131;with_reducible refine aQ (k2.out _) fun _ _=>?_;dsimp only)
 go_ret2
 exact aC.mk' rfl gw
theorem Gu {w:World}{b b':Nat}{e:TypeId}{m n:Nat}{v:Value}{xs:List Value}(h:w.ownsRow b e m v n xs)(hle:b'<=b):w.ownsRow b' e m v n xs:=by
 refine⟨h.1,?_⟩
 rcases h.2 with hn|⟨g,cap,cur,rfl,hb,rest⟩
 ·exact .inl hn
 ·exact .inr ⟨g,cap,cur,rfl,by omega,rest⟩
theorem adF:(Tryz.prog.info? 3).map (·.size)=some 1:=by kernel_rfl
theorem Gt {W:World}{base g n cap:Nat}{xs:List Value}(h:W.ownsRow base 3 1 (.slice (some ⟨g,0,none⟩) n cap) n xs)(o k:Nat)(cs:List Value)(hl:cs.length=k)(ho:o+k<=n)(a:Addr)(sLen sCap dLen:Nat)
  (hn:k=Nat.min sLen dLen) (hsrc:∀j v,cs[j]?=some v->W.cell? (a.add j)=some v) (h1:∀v∈cs,v.oneCell'=true) :
  ∀ty dc,(Builtin.copy_ #[39,39] ty #[.slice (some ⟨g,o,none⟩) dLen dc,.slice (some a) sLen sCap]).run Tryz.prog W=.ok (goInt (k:Int)) (W.setCells g o cs):=fun ty dc=>by
 have:=run_copy_cells W 39 39 ty 3 g o dLen dc a sLen sCap cs Tryz.underlying39 adF (by rw[hl,hn]) hsrc
  (fun j hj=>by
   have hx:(xs[o+j]?).isSome=true:=by rw[List.getElem?_eq_getElem (by have:=h.1;omega)];rfl
   rw[h.cellAt (o+j) (by omega)]
   exact hx) (fun j hj=>h.frozenAt _) h1
 rw[hl] at this
 exact this
theorem D8 {base g n cap:Nat}{e:TypeId}:∀ (vs:List Value) (xs:List Value) (w:World) (o:Nat),w.ownsRow base e 1 (.slice (some ⟨g,0,none⟩) n cap) n xs->o+vs.length<=n->(w.setCells g o vs).ownsRow base e 1 (.slice (some ⟨g,0,none⟩) n cap) n (xs.take o++vs++xs.drop (o+vs.length))
 | [],xs,_,o,h,_=>by
  rw[show xs.take o++[]++xs.drop (o+([]:List Value).length)=xs by simp]
  exact h
 | v::vs,xs,w,o,h,hl=>by
  rw[List.length_cons] at hl
  have hx:=h.1
  have:=D8 vs _ _ (o+1) (h.stored o v).1 (by omega)
  have h1:(xs.set o v).take (o+1)=xs.take o++[v]:=by
   rw[List.take_add_one,List.take_set_of_le (by omega),List.getElem?_set_self (by omega)]
   rfl
  have h2:(xs.set o v).drop (o+1+vs.length)=xs.drop (o+(vs.length+1)):=by
   rw[List.drop_set_of_lt (by omega),show o+1+vs.length=o+(vs.length+1) by omega]
  rw[h1,h2] at this
  rw[List.length_cons]
  simpa[World.setCells] using this
theorem Va (n b:Nat)(w:World)(hb:w.heap[b]?=some (.cells #[.int .i64 (-1)] 3 (0,0)))(h0:0<n)(hn:n<=100000) :
  Calls Tryz.prog 77 #[.slice (some ⟨b,0,none⟩) 1 1,.int .i64 (n:Int)] w fun e w'=>∃g,e=.returned (.slice (some ⟨g,0,none⟩) n n)/\w'.ownsRow w.heap.size 3 1 (.slice (some ⟨g,0,none⟩) n n) n (List.replicate n (.int .i64 (-1)))/\Grew w w':=by
 have hm:=aP
 obtain⟨i0,hi,hz0,hz1,hz2⟩:=Uu
 have k1:=hide (fun W=>TG n (by omega) W)
 have HB:=hide hb
 have hbl:=au hb
 clear hb
 go_enter Tryz.func77,Tryz.ntmps77
 go_wp2_with (first|(go_at_call 101;with_reducible refine aQ (k1.out _) fun _ _=>?_;dsimp only)|(at_make;refine kH.stop ?_))
 refine kH.go ?_
 refine Ux ?_
 intro W0 hW
 have hg0:Grew w W0:=by rw[<-hW];exact gw
 have lN:=hide hg0
 clear hW k1 hg0
 refine wpList_make_full _ rfl (.tmp 29) (.tmp 29) 39 rfl W0.heap.size 3 i0 _ 1 Tryz.underlying39 hi hz0 hz1 .i64 .i64 (n:Int) (n:Int) n rfl rfl rfl rfl (by rw[hz2];omega) (by unfold maxLen;omega) (Nat.le_refl _) ?_
 intro w1 hown hgb
 have hg1:Grew W0 w1:=Grew.of_below ((Grew.refl W0).below.grown hgb (Nat.le_refl _) (fun q hq=>by cases hq))
 obtain⟨L0,hL0⟩:∃L,(madeCells (Value.int .i64 0).cells (n*1)).toList=L:=⟨_,rfl⟩
 rw[hL0] at hown
 obtain⟨g,hg⟩:∃g,W0.heap.size=g:=⟨_,rfl⟩
 have hr0:∀ty dc,(Builtin.copy_ #[39,39] ty #[.slice (some ⟨g,0,none⟩) n dc,.slice (some ⟨b,0,none⟩) 1 1]).run Tryz.prog w1=.ok (goInt 1) (w1.setCells g 0 [.int .i64 (-1)]):=by
  rw[hg] at hown
  refine fun ty dc=>Gt hown 0 1 [.int .i64 (-1)] rfl (by omega) ⟨b,0,none⟩ 1 1 n (by simp only[Nat.min_def];split<;>omega) (fun j v hj=>?_) (fun v hv=>?_) ty dc
  ·rw[rV,Nat.zero_add,ag (((lN.out.trans hg1).heap hbl).trans HB.out)]
   simpa using hj
  ·simp at hv
   subst hv
   rfl
 have hown2:(w1.setCells g 0 [.int .i64 (-1)]).ownsRow g 3 1 (.slice (some ⟨g,0,none⟩) n n) n (.int .i64 (-1)::L0.drop 1):=by
  rw[hg] at hown
  have:=D8 [.int .i64 (-1)] _ _ 0 hown (by simp;omega)
  simpa using this
 have aeD:Grew W0 (w1.setCells g 0 [.int .i64 (-1)]):=Grew.of_below (hg1.below.grown (kR [.int .i64 (-1)] w1 0 (iC w1 (some g))) hg1.below.size (fun q hq=>by injection hq with hq;omega))
 have hgw:w.heap.size<=g:=by rw[<-hg];exact lN.out.below.size
 rw[hg]
 have HO2:=hide hown2
 have HR2:=hide aeD
 have hr1:=hr0 3 n
 have HG:=hide hg
 clear hown hgb hg1 hL0 hown2 aeD hr0 hg
 go_wp2_with fail
 go_loopw [8] (fun i wr=>∃ (m:Nat) (L:List Value),1<=m/\m<=n/\i=.int .i64 m/\Hid (wr.ownsRow g 3 1 (.slice (some ⟨g,0,none⟩) n n) n L)/\Hid (L.take m=List.replicate m (.int .i64 (-1)))/\Hid (Grew W0 wr)) (fun i _=>n-(intOf i).toNat)
 case atStart=>exact⟨1,_,Nat.le_refl _,h0,rfl,HO2,hide rfl,HR2⟩
 case round =>
  obtain⟨m,L,hm1,hmn,rfl,hO,hT,hG⟩:=hrel
  by_cases hlt:m<n
  ·obtain⟨k,hk⟩:∃k,k=Nat.min m (n-m):=⟨_,rfl⟩
   have hk1:1<=k:=by rw[hk];simp only[Nat.min_def];split<;>omega
   have hk2:m+k<=n:=by rw[hk];simp only[Nat.min_def];split<;>omega
   have Qb:k<=m:=by rw[hk];exact Nat.min_le_left _ _
   have hLl:=hO.out.1
   have hcp:Hid (∀W,Grew wr W->∀ty dc,(Builtin.copy_ #[39,39] ty #[.slice (some ⟨g,m,none⟩) (n-m) dc,.slice (some ⟨g,0,none⟩) m n]).run Tryz.prog W=.ok (goInt (k:Int)) (W.setCells g m (List.replicate k (.int .i64 (-1))))):=hide (fun W hgW ty dc=>by
    refine Gt (aI hO.out hgW) m k (List.replicate k (.int .i64 (-1))) (List.length_replicate ..) hk2 ⟨g,0,none⟩ m n (n-m) hk (fun j v hj=>?_) (fun v hv=>?_) ty dc
    ·have hjk:j<k:=by have:=(List.getElem?_eq_some_iff.1 hj).1;simpa using this
     have e1:L[j]?=(L.take m)[j]?:=by rw[List.getElem?_take_of_lt (by omega)]
     rw[rV,Nat.zero_add,(aI hO.out hgW).cellAt j (by omega),e1,hT.out]
     rw[List.getElem?_replicate] at hj ⊢
     rw[if_pos hjk] at hj
     rw[if_pos (by omega)]
     exact hj
    ·rw[(List.mem_replicate.1 hv).2]
     rfl)
   have hO2:Hid (∀W,Grew wr W->(W.setCells g m (List.replicate k (.int .i64 (-1)))).ownsRow g 3 1 (.slice (some ⟨g,0,none⟩) n n) n (L.take m++List.replicate k (.int .i64 (-1))++L.drop (m+k))):=hide (fun W hgW=>by
    have:=D8 (List.replicate k (.int .i64 (-1))) _ _ m (aI hO.out hgW) (by simp;omega)
    rw[List.length_replicate] at this
    exact this)
   have hT2:Hid ((L.take m++List.replicate k (Value.int .i64 (-1))++L.drop (m+k)).take (m+k)=List.replicate (m+k) (Value.int .i64 (-1))):=hide (by
    rw[hT.out,List.replicate_append_replicate,List.take_append_of_le_length (by simp),List.take_of_length_le (by simp)])
   have hf1:(m:Int)<=(n:Int):=by omega
   have hf2:¬ (n=m):=by omega
   have hf3:(0:Int)<=(m:Int):=by omega
   have hf4:m<=n:=by omega
   have hwr:IntKind.i64.wrap ((m:Int)+(k:Int))=(m:Int)+(k:Int):=by unfold IntKind.wrap;simp[IntKind.bits,IntKind.signed];omega
   clear hk hLl
   go_wp2_with fail
   have hr5:=hcp.out wr.drew gw 3 (n-m)
   refine wp_region_held_drew (S:=(fun _=>True)) hm ?_ (fun hHeld=>?_)
   ·trivial
   refine tk 0 ?_
   refine tk 1 ?_
   refine tk 2 ?_
   refine tk 3 ?_
   refine tk 4 ?_
   refine tk 5 ?_
   try simp only[Act.put,aG,bT]
   refine tk 6 ?_
   try simp only[Act.put,aG,bT]
   refine wpAnyH_ready (rs:=[7]) (by kernel_rfl) (by simp) ?_
   refine AllReadyH.cons (o:=_) rfl (fun K hK=>?_) AllReadyH.nil
   go_simp
   skip
   refine hK.out _ _ ?_ (fun hHeld=>?_)
   ·trivial
   clear hK K
   try simp only[Act.put,aG,bT]
   refine tk 8 ?_
   try simp only[Act.put,aG,bT]
   refine tk 9 ?_
   try simp only[Act.put,aG,bT]
   refine wpAnyH_done (by kernel_rfl) ?_ _
   go_wp2_with fail
   go_roundw
   case rel=>exact⟨m+k,_,by omega,hk2,by go_num,hide (hO2.out _ gw),hT2,hide (Grew.of_below ((hG.out.trans (Grew.drew (Grew.refl wr))).below.grown (kR _ _ m (iC _ (some g))) (hG.out.trans (Grew.drew (Grew.refl wr))).below.size (fun q hq=>by injection hq with hq;have:=HG.out;omega)))⟩
   case measure=>simp[intOf];omega
  ·obtain rfl:m=n:=by omega
   have hL:L=List.replicate m (.int .i64 (-1)):=by rw[<-hT.out,List.take_of_length_le (by have:=hO.out.1;omega)]
   subst hL
   have hb5:=Gu hO.out hgw
   have HF:=hide hb5
   have HFG:=hide (lN.out.trans hG.out)
   clear hb5
   go_wp2_with fail
   go_ret
   exact⟨g,rfl,HF.out,HFG.out⟩
set_option maxHeartbeats 16000000
set_option maxRecDepth 100000
structure Gr where
 cx:Int
 cy:Int
 sz:Int
 w:Int
 h:Int
 A:Option Addr
 c:Nat
 cs:List Int
abbrev Gr.val (g:Gr):Value:=.agg #[.int .i64 g.cx,.int .i64 g.cy,.int .i64 g.sz,.int .i64 g.w,.int .i64 g.h,.slice g.A g.cs.length g.c]
def qf (sz w h:Int):Bool:=decide ((1<=sz/\sz<=100000)/\(1<=w/\w<=64)/\(1<=h/\h<=64))
def wK (cx cy:Int):B4:=((cx,cx),(cy,cy))
def allB (cx cy sz w h:Int):B4:=((cx,cx+w*sz),(cy,cy+h*sz))
def fA (cx cy sz w h:Int):Bool:=qf sz w h&&(okB (wK cx cy)&&okB (allB cx cy sz w h))
def wG (cx cy sz w h:Int):B4:=if (qf sz w h&&okB (wK cx cy))=true then allB cx cy sz w h else ((0,0),(0,0))
theorem xn {a b:Int}(ha:1<=a/\a<=64)(hb:1<=b/\b<=100000):1<=a*b/\a*b<=6400000:=by
 have h:=jc 64 100000 (a:=a) (b:=b) (by omega) (by omega)
 have h2:1*1<=a*b:=Int.mul_le_mul ha.1 hb.1 (by omega) (by omega)
 omega
theorem Dt (g:Gr)(w:World)(r:B4)(o:Bool)(h1:wG g.cx g.cy g.sz g.w g.h=r)(h2:fA g.cx g.cy g.sz g.w g.h=o) :
  Calls Tryz.prog 36 #[g.val] w (aC w (.tuple #[vk r,.bool o])):=by
 have hm:=aP
 obtain⟨cx,cy,sz,fV,gK,A,c,cs⟩:=g
 unfold Gr.val
 dsimp only at *
 generalize cs.length=n at *
 have hcase:sz<1\/(¬ sz<1/\100000<sz)\/(¬ sz<1/\¬ 100000<sz/\fV<1)\/(¬ sz<1/\¬ 100000<sz/\¬ fV<1/\64<fV)\/(¬ sz<1/\¬ 100000<sz/\¬ fV<1/\¬ 64<fV/\gK<1)\/(¬ sz<1/\¬ 100000<sz/\¬ fV<1/\¬ 64<fV/\¬ gK<1/\64<gK)\/(¬ sz<1/\¬ 100000<sz/\¬ fV<1/\¬ 64<fV/\¬ gK<1/\¬ 64<gK):=by omega
 have hbad:¬ ((1<=sz/\sz<=100000)/\(1<=fV/\fV<=64)/\(1<=gK/\gK<=64))->r=((0,0),(0,0))/\o=false:=fun h=>by
  unfold wG qf at h1
  unfold fA qf at h2
  rw[decide_eq_false h] at h1 h2
  exact⟨by rw[<-h1];rfl,by rw[<-h2];rfl⟩
 rcases hcase with e|⟨e1,e⟩|⟨e1,e2,e⟩|⟨e1,e2,e3,e⟩|⟨e1,e2,e3,e4,e⟩|⟨e1,e2,e3,e4,e5,e⟩|⟨e1,e2,e3,e4,e5,e⟩
 case inr.inr.inr.inr.inr.inr =>
  have hs:qf sz fV gK=true:=decide_eq_true (by omega)
  have p1:=xn (a:=fV) (b:=sz) (by omega) (by omega)
  have p2:=xn (a:=gK) (b:=sz) (by omega) (by omega)
  unfold wG at h1
  unfold fA at h2
  rw[hs,Bool.true_and] at h1 h2
  obtain⟨u,hu⟩:∃u,okB (wK cx cy)=u:=⟨_,rfl⟩
  have k1:=hide (fun W=>jM (wK cx cy) u W hu)
  rw[hu] at h1 h2
  clear hbad hs
  cases u
  ·simp at h1 h2
   subst h1 h2
   clear hu
   simp only[wK] at k1
   go_enter Tryz.func36,Tryz.ntmps36
   go_wp2_with (go_at_call 46;with_reducible refine aQ (k1.out _) fun _ _=>?_;dsimp only)
   refine bodyPost_ret (v:=.tuple #[.agg #[.int .i64 0,.int .i64 0,.int .i64 0,.int .i64 0],.bool false]) (by simp[results,Tryz.results36,go_sem]) rfl ?_
   exact aC.mk' rfl gw
  ·simp only[if_true,Bool.true_and] at h1 h2
   have k2:=hide (fun W=>jM (allB cx cy sz fV gK) o W h2)
   have hb:(-1000000<=cx/\cx<=1000000)/\(-1000000<=cy/\cy<=1000000):=by
    unfold okB wK at hu
    rw[decide_eq_true_eq] at hu
    dsimp only at hu
    omega
   subst h1
   clear hu h2
   simp only[allB] at k2 ⊢
   simp only[wK] at k1
   have hw1:IntKind.i64.wrap (fV*sz)=fV*sz:=by unfold IntKind.wrap;simp[IntKind.bits,IntKind.signed];omega
   have hw2:IntKind.i64.wrap (gK*sz)=gK*sz:=by unfold IntKind.wrap;simp[IntKind.bits,IntKind.signed];omega
   have hw3:IntKind.i64.wrap (cx+fV*sz)=cx+fV*sz:=by unfold IntKind.wrap;simp[IntKind.bits,IntKind.signed];omega
   have hw4:IntKind.i64.wrap (cy+gK*sz)=cy+gK*sz:=by unfold IntKind.wrap;simp[IntKind.bits,IntKind.signed];omega
   go_enter Tryz.func36,Tryz.ntmps36
   go_wp2_with (go_at_call 46;with_reducible refine aQ (k1.out _) fun _ _=>?_;dsimp only)
   refine fC ?_
   intro W0 hW
   have hg0:Grew (((w.alloc (.cells #[.int .i64 cx,.int .i64 cy,.int .i64 sz,.int .i64 fV,.int .i64 gK,.slice A n c] 41)).alloc (.cells #[.int .i64 0,.int .i64 0,.int .i64 0,.int .i64 0] 50)).alloc (.cells #[.int .i64 cx,.int .i64 (cx+fV*sz),.int .i64 cy,.int .i64 (cy+gK*sz)] 50)) W0:=by rw[<-hW];exact gw
   have hg1:Grew w W0:=Grew.trans gw hg0
   have hb1:W0.heap[w.heap.size+1]?=some (.cells #[.int .i64 0,.int .i64 0,.int .i64 0,.int .i64 0] 50 (0,0)):=(hg0.heap (by simp)).trans ((heap_alloc_old _ _ (by simp)).trans (az _ _ _ (by simp)))
   have hb2:W0.heap[w.heap.size+1+1]?=some (.cells #[.int .i64 cx,.int .i64 (cx+fV*sz),.int .i64 cy,.int .i64 (cy+gK*sz)] 50 (0,0)):=(hg0.heap (by simp)).trans (az _ _ _ (by simp))
   have jE:=hide hg1
   have a0:=ag hb2 0
   have a1:=ag hb2 1
   have a2:=ag hb2 2
   have a3:=ag hb2 3
   have z0:=ag hb1 0
   have z1:=ag hb1 1
   have z2:=ag hb1 2
   have z3:=ag hb1 3
   have zf:=bM hb1
   have l2:=au hb2
   have l1:=au hb1
   have l0:w.heap.size<W0.heap.size:=by omega
   have hbz:=hide hb1
   clear hW hg0 hg1 hb1 hb2
   refine ay 3 [] [] hm (h:=?_)
   repeat (refine ax (fun K hK=>?_);go_simp;first|(refine hK _ ?_;clear hK K)|(apply Exists.intro;refine⟨fun _=>?_,hK _ ?_⟩;(go_at_call 46;with_reducible exact k2.out _);clear hK K))
   refine lU fun nq osq=>?_
   try simp only[Act.put,aG]
   try dsimp only
   go_wp2_with fail
   refine bodyPost_ret (v:=.tuple #[.agg #[.int .i64 cx,.int .i64 (cx+fV*sz),.int .i64 cy,.int .i64 (cy+gK*sz)],.bool o]) (by simp[results,Tryz.results36,go_sem,l1,l0,z0,z1,z2,z3]) rfl ?_
   exact aC.mk' rfl (Grew.of_below (jE.out.below.grown (mZ (eY (eY (eY (eY (iC W0 (some (w.heap.size+1))))))) (Grew.mk _ nq osq)) jE.out.below.size (fun q hq=>by injection hq with hq;omega)))
 all_goals
  obtain⟨rfl,rfl⟩:=hbad (by omega)
  clear hbad h1 h2
  go_enter Tryz.func36,Tryz.ntmps36
  go_wp2_with fail
  refine bodyPost_ret (v:=.tuple #[.agg #[.int .i64 0,.int .i64 0,.int .i64 0,.int .i64 0],.bool false]) (by simp[results,Tryz.results36,go_sem]) rfl ?_
  exact aC.mk' rfl gw
def pU (d:Int):Bool:=decide (d<0\/100000<d)
theorem Yq (d:Int)(r:Bool)(w:World)(h:pU d=r):Calls Tryz.prog 80 #[.int .i64 d] w (aC w (.bool r)):=by
 have hm:=aP
 have hcase:(d<0/\r=true)\/(¬ d<0/\100000<d/\r=true)\/(¬ d<0/\¬ 100000<d/\r=false):=by
  rw[<-h]
  unfold pU
  simp
  omega
 clear h
 rcases hcase with⟨h1,rfl⟩|⟨h1,h2,rfl⟩|⟨h1,h2,rfl⟩
 all_goals
  go_enter Tryz.func80,Tryz.ntmps80
  go_wp2_with fail
  go_ret
  exact aC.mk' (by simp[*]) gw
def xH (zs:List Int)(k:Nat):Int:=zs.getD k 0
theorem yK {zs:List Int}{k:Nat}(h:k<zs.length):zs[k]?=some (xH zs k):=by
 unfold xH
 rw[List.getD_eq_getElem?_getD,List.getElem?_eq_getElem h]
 rfl
theorem Ph {zs:List Int}{k:Nat}(h:k<zs.length):xH zs k∈zs:=List.mem_of_getElem? (yK h)
theorem Hz {w:World}{B:Nat}{A:Option Addr}{zs:List Int}{k:Nat}(h:Rd w B 1 A (zs.map encZ))(hk:k<zs.length) :
  ∃b off,Hid (A=some ⟨b,off,none⟩)/\b<B/\w.cell? ⟨b,off+k,none⟩=some (.int .i64 (xH zs k)):=by
 obtain⟨b,off,hA,hb,hc⟩:=h.at_ (k:=k) (x:=encZ (xH zs k)) (by simp[yK hk])
 have:=hc 0 _ rfl
 rw[Nat.mul_one,Nat.add_zero] at this
 exact⟨b,off,hA,hb,this⟩
def ag2 (P:Int->Bool)(zs:List Int)(e:Ending):Prop:=(e=.returned (.int .i64 (-1))/\∀m,m<zs.length->P (xH zs m)=false)\/(∃k:Nat,k<zs.length/\e=.returned (.int .i64 k)/\P (xH zs k)=true)
theorem QO (zs:List Int)(A:Option Addr)(c:Nat)(w:World)(hr:Rd w w.heap.size 1 A (zs.map encZ))(hc:zs.length<=1000000) :
  Calls Tryz.prog 102 #[.slice A zs.length c,.func (.func 80) #[] #[]] w fun e w'=>ag2 pU zs e/\Grew w w':=by
 have hm:=aP
 have HR:=hide hr
 clear hr
 go_enter Tryz.func102,Tryz.ntmps102
 go_wp2_with fail
 go_loopw [8] (fun i wr=>∃m:Nat,m<=zs.length/\i=.int .i64 m/\Grew w wr/\wW (∀j,j<m->pU (xH zs j)=false)) (fun i _=>zs.length-(intOf i).toNat)
 case atStart=>exact⟨0,by omega,rfl,gw,fun j hj=>by omega⟩
 case round =>
  obtain⟨m,hmm,rfl,hg,hall⟩:=hrel
  have HG:=hide hg
  have HA:=hide hall.stop
  clear hg hall
  by_cases hlt:m<zs.length
  ·obtain⟨b,off,hA,hb,fc⟩:=Hz (HR.out.up HG.out) hlt
   have hix:=aO (cap:=c) Tryz.underlying39 Tryz.sizeOf3 hA.out hlt
   rw[Nat.mul_one] at hix
   obtain⟨u,hu⟩:∃u,pU (xH zs m)=u:=⟨_,rfl⟩
   have k1:=hide (fun W=>Yq (xH zs m) u W hu)
   have HU:=hide hu
   clear hu hA
   cases u
   ·go_wp2_with (go_at_call 80;with_reducible refine aQ (k1.out _) fun _ _=>?_;dsimp only)
    go_roundw
    case rel=>exact⟨m+1,by omega,by go_num,HG.out.trans gw,show ∀j,j<m+1->pU (xH zs j)=false from (fun j hj=>by
     by_cases e:j=m
     ·rw[e];exact HU.out
     ·exact HA.out j (by omega))⟩
    case measure=>simp[intOf];omega
   ·go_wp2_with (go_at_call 80;with_reducible refine aQ (k1.out _) fun _ _=>?_;dsimp only)
    go_ret
    exact⟨.inr ⟨m,by omega,rfl,HU.out⟩,HG.out.trans gw⟩
  ·obtain rfl:m=zs.length:=by omega
   go_wp2_with fail
   go_ret
   exact⟨.inl ⟨rfl,HA.out⟩,HG.out⟩
theorem QP (zs:List Int)(A:Option Addr)(c:Nat)(r:Bool)(w:World)(hr:Rd w w.heap.size 1 A (zs.map encZ))(hc:zs.length<=1000000)(h:zs.any pU=r) :
  Calls Tryz.prog 81 #[.slice A zs.length c,.func (.func 80) #[] #[]] w (aC w (.bool r)):=by
 have hm:=aP
 have k1:=hide (fun W (hg:Grew w W)=>QO zs A c W (hr.up hg) hc)
 have HH:=hide h
 clear h hr
 go_enter Tryz.func81,Tryz.ntmps81
 go_wp2_with fail
 refine (k1.out _ gw).mono ?_
 rintro e w' ⟨h,⟨⟨n1,os1⟩,rfl⟩⟩
 rcases h with⟨rfl,hr2⟩|⟨k,hk,rfl,hr2⟩
 ·obtain rfl:r=false:=by
   rw[<-HH.out,List.any_eq_false]
   intro z hz
   obtain⟨k,hk⟩:=List.getElem?_of_mem hz
   have hl:=(List.getElem?_eq_some_iff.1 hk).1
   rw[yK hl] at hk
   injection hk with hk
   rw[<-hk,hr2 k hl]
   simp
  clear hr2
  dsimp only
  go_wp2_with fail
  go_ret
  exact aC.mk' rfl gw
 ·obtain rfl:r=true:=by
   rw[<-HH.out,List.any_eq_true]
   exact⟨_,Ph hk,hr2⟩
  clear hr2
  dsimp only
  have hk0:0<=(k:Int):=by omega
  go_wp2_with fail
  go_ret
  exact aC.mk' (by simp) gw
def rQ (g:Gr):Bool:=fA g.cx g.cy g.sz g.w g.h&&(decide ((g.cs.length:Int)=g.w*g.h) && !g.cs.any pU)
theorem Pv {g:Gr}(h:fA g.cx g.cy g.sz g.w g.h=true):(1<=g.sz/\g.sz<=100000)/\(1<=g.w/\g.w<=64)/\(1<=g.h/\g.h<=64):=by
 unfold fA qf at h
 rw[Bool.and_eq_true,decide_eq_true_eq] at h
 exact h.1
theorem MN (g:Gr)(r:Bool)(w:World)(hr:Rd w w.heap.size 1 g.A (g.cs.map encZ))(hc:g.cs.length<=100000000000000)(h:rQ g=r) :
  Calls Tryz.prog 45 #[g.val] w (aC w (.bool r)):=by
 have hm:=aP
 obtain⟨o,ho⟩:∃o,fA g.cx g.cy g.sz g.w g.h=o:=⟨_,rfl⟩
 obtain⟨b,hb⟩:∃o,wG g.cx g.cy g.sz g.w g.h=o:=⟨_,rfl⟩
 have k1:=hide (fun W=>Dt g W b o hb ho)
 unfold rQ at h
 rw[ho] at h
 cases o
 ·simp at h
  subst h
  clear hr ho hb
  obtain⟨cx,cy,sz,fV,gK,A,c,cs⟩:=g
  obtain⟨⟨b1,b2⟩,b3,b4⟩:=b
  unfold Gr.val at *
  dsimp only at *
  generalize cs.length=n at *
  go_enter Tryz.func45,Tryz.ntmps45
  go_wp2_with (go_at_call 36;with_reducible refine aQ (k1.out _) fun _ _=>?_;dsimp only)
  go_ret
  exact aC.mk' rfl gw
 ·have hs:=Pv ho
  have hp:=xn hs.2.1 (b:=g.h) (by omega)
  rw[Bool.true_and] at h
  by_cases hn:(g.cs.length:Int)=g.w*g.h
  ·rw[decide_eq_true hn,Bool.true_and] at h
   obtain⟨u,hu⟩:∃u,g.cs.any pU=u:=⟨_,rfl⟩
   have hp2:=jc 64 64 (a:=g.w) (b:=g.h) (by omega) (by omega)
   have k2:=hide (fun W (hg:Grew w W)=>QP g.cs g.A g.c u W (hr.up hg) (by omega) hu)
   rw[hu] at h
   subst h
   have hw1:IntKind.i64.wrap (g.w*g.h)=g.w*g.h:=by unfold IntKind.wrap;simp[IntKind.bits,IntKind.signed];omega
   have heq:g.w*g.h=(g.cs.length:Int):=hn.symm
   clear hr ho hb hu hn hs hp hp2
   obtain⟨cx,cy,sz,fV,gK,A,c,cs⟩:=g
   obtain⟨⟨b1,b2⟩,b3,b4⟩:=b
   unfold Gr.val at *
   dsimp only at *
   generalize cs.length=n at *
   go_enter Tryz.func45,Tryz.ntmps45
   go_wp2_with (first|(go_at_call 36;with_reducible refine aQ (k1.out _) fun _ _=>?_;dsimp only)|(go_at_call 81;with_reducible refine aQ (k2.out _ gw) fun _ _=>?_;dsimp only))
   go_ret
   exact aC.mk' (by simp) gw
  ·rw[decide_eq_false hn] at h
   simp at h
   subst h
   have hp2:=jc 64 64 (a:=g.w) (b:=g.h) (by omega) (by omega)
   have hw1:IntKind.i64.wrap (g.w*g.h)=g.w*g.h:=by unfold IntKind.wrap;simp[IntKind.bits,IntKind.signed];omega
   have heq:((g.cs.length:Int)==g.w*g.h)=false:=by simpa using hn
   have hne:=hn
   clear hr ho hb hn hs hp hp2
   obtain⟨cx,cy,sz,fV,gK,A,c,cs⟩:=g
   obtain⟨⟨b1,b2⟩,b3,b4⟩:=b
   unfold Gr.val at *
   dsimp only at *
   generalize cs.length=n at *
   go_enter Tryz.func45,Tryz.ntmps45
   go_wp2_with (go_at_call 36;with_reducible refine aQ (k1.out _) fun _ _=>?_;dsimp only)
   go_ret
   exact aC.mk' rfl gw
def vT (g:Gr)(need:Int):Bool:=rQ g&&decide (0<=need/\need<=100000)
theorem PT (g:Gr)(need:Int)(r:Bool)(w:World)(hr:Rd w w.heap.size 1 g.A (g.cs.map encZ))(hc:g.cs.length<=100000000000000)(h:vT g need=r) :
  Calls Tryz.prog 41 #[g.val,.int .i64 need] w (aC w (.bool r)):=by
 have hm:=aP
 obtain⟨o,ho⟩:∃o,rQ g=o:=⟨_,rfl⟩
 have k1:=hide (fun W (hg:Grew w W)=>MN g o W (hr.up hg) hc ho)
 unfold vT at h
 rw[ho] at h
 clear hr ho
 obtain⟨cx,cy,sz,fV,gK,A,c,cs⟩:=g
 unfold Gr.val at *
 dsimp only at *
 generalize cs.length=n at *
 have hcase:(o=false/\r=false)\/(o=true/\need<0/\r=false)\/(o=true/\¬ need<0/\100000<need/\r=false)\/(o=true/\¬ need<0/\¬ 100000<need/\r=true):=by
  rw[<-h]
  cases o<;>simp
  omega
 clear h
 rcases hcase with⟨rfl,rfl⟩|⟨rfl,h1,rfl⟩|⟨rfl,h1,h2,rfl⟩|⟨rfl,h1,h2,rfl⟩
 ·go_enter Tryz.func41,Tryz.ntmps41
  go_wp2_with (go_at_call 45;with_reducible refine aQ (k1.out _ gw) fun _ _=>?_;dsimp only)
  go_ret
  exact aC.mk' rfl gw
 ·have e1:decide (0<=need)=false:=decide_eq_false (by omega)
  go_enter Tryz.func41,Tryz.ntmps41
  go_wp2_with (go_at_call 45;with_reducible refine aQ (k1.out _ gw) fun _ _=>?_;dsimp only)
  go_ret
  exact aC.mk' (by simp[e1]) gw
 ·have e1:decide (0<=need)=true:=decide_eq_true (by omega)
  have e2:decide (need<=100000)=false:=decide_eq_false (by omega)
  go_enter Tryz.func41,Tryz.ntmps41
  go_wp2_with (go_at_call 45;with_reducible refine aQ (k1.out _ gw) fun _ _=>?_;dsimp only)
  go_ret
  exact aC.mk' (by simp[e2]) gw
 ·have e1:decide (0<=need)=true:=decide_eq_true (by omega)
  have e2:decide (need<=100000)=true:=decide_eq_true (by omega)
  go_enter Tryz.func41,Tryz.ntmps41
  go_wp2_with (go_at_call 45;with_reducible refine aQ (k1.out _ gw) fun _ _=>?_;dsimp only)
  go_ret
  exact aC.mk' (by simp[e2]) gw
end Go.Proofs.YtlkgjmnjhifehaaGreat
