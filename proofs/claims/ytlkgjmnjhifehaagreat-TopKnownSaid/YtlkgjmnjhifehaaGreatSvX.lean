
import Derived.Test.YtlkgjmnjhifehaaGreatPoa
import Derived.Test.YtlkgjmnjhifehaaGreatRegV
import Derived.Test.YtlkgjmnjhifehaaGreatPgX
import Derived.Test.YtlkgjmnjhifehaaGreatFeE
set_option linter.unusedSimpArgs false
set_option linter.unusedVariables false
set_option maxHeartbeats 8000000
set_option maxRecDepth 100000
namespace Go.Proofs.YtlkgjmnjhifehaaGreat
open Go.RowKit Go.Sort Go.Lib
attribute [local go_sem] dC steadyUpon
attribute [local go_sem ↓] bQ bJ bg aZ aY aX aW
attribute [local go_sem] bH aN aK size_grow tape_grow cell?_grow' aF aC grow_grow bV bn dZ bZ bW bM aO cO bu bY bK
attribute [local irreducible] wpSteady
attribute [local go_sem] Oper.semAt_some
structure So where
 id:Int
 x:Int
 y:Int
 dn:Int
 lo:Int
 hi:Int
 tm:Int
instance:Inhabited So:=⟨⟨0,0,0,0,0,0,0⟩⟩
abbrev So.val (s:So):Value:=.agg #[.int .i64 s.id,.int .i64 s.x,.int .i64 s.y,.int .i64 s.dn,.int .i64 s.lo,.int .i64 s.hi,.int .i64 s.tm]
def So.cells (s:So):List Value:=[.int .i64 s.id,.int .i64 s.x,.int .i64 s.y,.int .i64 s.dn,.int .i64 s.lo,.int .i64 s.hi,.int .i64 s.tm]
structure SAt (W:World) (b o:Nat) (s:So):Prop where
 c0:W.cell? ⟨b,o,none⟩=some (.int .i64 s.id)
 c1:W.cell? ⟨b,o+1,none⟩=some (.int .i64 s.x)
 c2:W.cell? ⟨b,o+2,none⟩=some (.int .i64 s.y)
 c3:W.cell? ⟨b,o+3,none⟩=some (.int .i64 s.dn)
 c4:W.cell? ⟨b,o+4,none⟩=some (.int .i64 s.lo)
 c5:W.cell? ⟨b,o+5,none⟩=some (.int .i64 s.hi)
 c6:W.cell? ⟨b,o+6,none⟩=some (.int .i64 s.tm)
def fU (ss:List So)(k:Nat):So:=ss.getD k default
theorem kU {ss:List So}{k:Nat}(h:k<ss.length):ss[k]?=some (fU ss k):=by
 unfold fU
 rw[List.getD_eq_getElem?_getD,List.getElem?_eq_getElem h]
 rfl
theorem CV {ss:List So}{k:Nat}(h:k<ss.length):fU ss k∈ss:=List.mem_of_getElem? (kU h)
theorem Yg {w:World}{B:Nat}{A:Option Addr}{ss:List So}{k:Nat}(h:Rd w B 7 A (ss.map So.cells))(hk:k<ss.length) :
  ∃b off,Hid (A=some ⟨b,off,none⟩)/\b<B/\SAt w b (off+k*7) (fU ss k):=by
 obtain⟨b,off,hA,hb,hc⟩:=h.at_ (k:=k) (x:=(fU ss k).cells) (by simp[kU hk])
 exact⟨b,off,hA,hb,hc 0 _ rfl,hc 1 _ rfl,hc 2 _ rfl,hc 3 _ rfl,hc 4 _ rfl,hc 5 _ rfl,hc 6 _ rfl⟩
def AO (x y:So):Bool:=decide (x.tm<y.tm\/(x.tm=y.tm/\x.id<y.id))
def kD (x:So)(ss:List So)(k:Nat):List Nat:=(List.range k).filter fun i=>AO x (fU ss i)
theorem VK {x:So}{ss:List So}{k:Nat}(h:AO x (fU ss k)=true):kD x ss (k+1)=kD x ss k++[k]:=by
 unfold kD
 rw[List.range_succ,List.filter_append]
 simp[h]
theorem YK {x:So}{ss:List So}{k:Nat}(h:AO x (fU ss k)=false):kD x ss (k+1)=kD x ss k:=by
 unfold kD
 rw[List.range_succ,List.filter_append]
 simp[h]
theorem VM (x:So)(ss:List So)(k:Nat):(kD x ss k).length<=k:=by
 unfold kD
 have:=List.length_filter_le (fun i=>AO x (fU ss i)) (List.range k)
 simpa using this
def encS (ss:List So)(i:Fin ss.length):Array Value:=#[(fU ss i.1).val]
theorem Rx (A:Option Addr)(n c:Nat)(s:So)(w:World) :
  Calls Tryz.prog 60 #[.slice A n c,s.val] w fun e w'=>e=.returned (.func (.func 90) #[] #[.pointer (some ⟨w.heap.size,0,none⟩),.pointer (some ⟨w.heap.size+1,0,none⟩)])/\(w.alloc (.cells #[.slice A n c] 22 (0,0))).alloc (.cells #[.int .i64 s.id,.int .i64 s.x,.int .i64 s.y,.int .i64 s.dn,.int .i64 s.lo,.int .i64 s.hi,.int .i64 s.tm] 61 (0,0))=w':=by
 obtain⟨s0,s1,s2,s3,s4,s5,s6⟩:=s
 dsimp only
 go_enter Tryz.func60,Tryz.ntmps60
 go_wp2
 go_ret
 exact⟨by simp,rfl⟩
theorem IP (n K:Nat)(M:Nat->TypeId->Prop)(ss:List So)(A:Option Addr)(c B B2:Nat)(x:So)(w:World)(hM:∀b T,M b T->(K<=b/\b<w.heap.size)/\(b≠B/\b≠B2))(hB:w.heap[B]?=some (.cells #[.slice A ss.length c] 22 (0,0)))
  (hB2:w.heap[B2]?=some (.cells #[.int .i64 x.id,.int .i64 x.x,.int .i64 x.y,.int .i64 x.dn,.int .i64 x.lo,.int .i64 x.hi,.int .i64 x.tm] 61 (0,0))) (hr:Rd w K 7 A (ss.map So.cells)) (hK:K<=w.heap.size) (hl:ss.length<=1000000) :
  SeqStopsK Fence.wide n Tryz.prog 90 #[.pointer (some ⟨B,0,none⟩),.pointer (some ⟨B2,0,none⟩)] (encS ss) (iC M) (fun xs=>xs.map Fin.val=kD x ss ss.length) (fun pre=>∃k,k<=ss.length/\pre.map Fin.val=kD x ss k) ss.length w:=by
 intro l J Jx W hW hJ hJx hY h0
 have hm:=aQ
 have HR:=hide ((hr.below (hW.mono hK)))
 have hBW:W.heap[B]?=some _:=(hW.block B (ax hB)).trans hB
 have hBW2:W.heap[B2]?=some _:=(hW.block B2 (ax hB2)).trans hB2
 have c0:W.cell? ⟨B,0,none⟩=some (.slice A ss.length c):=by rw[ag hBW];rfl
 have c1:W.cell? ⟨B2,0,none⟩=some (.int .i64 x.id):=by rw[ag hBW2];rfl
 have c2:W.cell? ⟨B2,6,none⟩=some (.int .i64 x.tm):=by rw[ag hBW2];rfl
 have hMK:Hid (∀b T,b<K->¬ M b T):=hide (fun b T hb h=>by have:=(hM b T h).1.1;omega)
 have Sm:Hid (∀T,¬ M B T):=hide (fun T h=>(hM B T h).2.1 rfl)
 have La:Hid (∀T,¬ M B2 T):=hide (fun T h=>(hM B2 T h).2.2 rfl)
 have hMW:Hid (∀b T,w.heap.size<=b->¬ M b T):=hide (fun b T hb h=>by have:=(hM b T h).1.2;omega)
 have hKW:K<=W.heap.size:=Nat.le_trans hK hW.size
 have XY:=hW.size
 have HJ:=hide hJ
 have HJx:=hide hJx
 have HY:=hide hY
 have H0:=hide h0
 clear hr hM hJ hJx hY h0 hW hB hBW hB2 hBW2
 refine callsIn_of_wp Tryz.func90 rfl trivial ?_ rfl
 simp only[Tryz.ntmps90,List.size_toArray,List.length_cons,List.length_nil,Nat.reduceAdd,Nat.reduceSub,Array.replicate_succ,Array.replicate_zero,List.push_toArray,List.append_toArray,List.nil_append,List.cons_append]
 gi_wp2_with fail
 gi_loopw [8] (fun i wr=>∃ (k:Nat) (pre:List (Fin ss.length)),k<=ss.length/\i=.int .i64 k/\pre.map Fin.val=kD x ss k/\J pre wr/\Rd wr K 7 A (ss.map So.cells)/\wr.cell? ⟨B,0,none⟩=some (.slice A ss.length c)/\(wr.cell? ⟨B2,0,none⟩=some (.int .i64 x.id)/\wr.cell? ⟨B2,6,none⟩=some (.int .i64 x.tm))/\W.heap.size<=wr.heap.size) (fun i _=>ss.length-(intOf i).toNat)
 case atStart=>exact⟨0,[],by omega,rfl,rfl,H0.out,HR.out,c0,⟨c1,c2⟩,Nat.le_refl _⟩
 case round =>
  obtain⟨k,pre,hk,rfl,hpre,hJ,hrd,hcB,⟨ab5,Sj⟩,hsz⟩:=hrel
  have lL:pre.length<=k:=by have:=congrArg List.length hpre;have:=VM x ss k;simp only[List.length_map] at *;omega
  have kR:=hide hpre
  clear c0 c1 c2 hpre
  by_cases hlt:k<ss.length
  ·obtain⟨b,off,hA,hb,fc⟩:=Yg hrd hlt
   have hix:=aJ (cap:=c) Tryz.underlying22 Tryz.sizeOf61 hA.out hlt
   have hbw:b<wr.heap.size:=by omega
   have hBw:B<wr.heap.size:=cell_lt hcB
   have hBw2:B2<wr.heap.size:=cell_lt ab5
   obtain⟨u,hu⟩:∃u,AO x (fU ss k)=u:=⟨_,rfl⟩
   have HU:=hide hu
   obtain⟨f,hf⟩:∃f,fU ss k=f:=⟨_,rfl⟩
   have HFK:=hide hf
   rw[hf] at fc hu
   obtain⟨z,hz,hzu⟩:∃z:Int,((sg (f.tm-x.tm)≠0/\z=sg (f.tm-x.tm))\/(sg (f.tm-x.tm)=0/\z=sg (f.id-x.id)))/\decide (0<z)=u:=by
    unfold AO at hu
    rcases dN (f.tm-x.tm) with⟨h,e⟩|⟨h,e⟩|⟨h,e⟩
    ·refine⟨sg (f.tm-x.tm),.inl ⟨by omega,rfl⟩,?_⟩
     rw[<-hu,Bool.eq_iff_iff,decide_eq_true_eq,decide_eq_true_eq]
     omega
    ·refine⟨sg (f.id-x.id),.inr ⟨by omega,rfl⟩,?_⟩
     rw[<-hu,Bool.eq_iff_iff,decide_eq_true_eq,decide_eq_true_eq]
     rcases dN (f.id-x.id) with⟨h',e'⟩|⟨h',e'⟩|⟨h',e'⟩<;>omega
    ·refine⟨sg (f.tm-x.tm),.inl ⟨by omega,rfl⟩,?_⟩
     rw[<-hu,Bool.eq_iff_iff,decide_eq_true_eq,decide_eq_true_eq]
     omega
   have k1:=hide (fun W=>gW f.tm x.tm W)
   have k2:=hide (fun W=>gW f.id x.id W)
   have HZ:=hide hz
   obtain⟨d0,d1,d2,d3,d4,d5,d6⟩:=fc
   have Fb:=hide hrd
   have OM:=hide lL
   have Cj:=hide hJ
   have ZZ:=hide hcB
   have acD:=hide ab5
   have Jy:=hide Sj
   clear hrd hJ lL hf hu hA hz
   obtain⟨f0,f1,f2,f3,f4,f5,f6⟩:=f
   dsimp only at d0 d1 d2 d3 d4 d5 d6 k1 k2 HZ
   generalize sg (f6-x.tm)=zx at *
   generalize sg (f0-x.id)=zy at *
   gi_wp2_with fail
   refine V.Dv 10 [] [] hm (h:=?_)
   repeat (refine au (fun K hK=>?_);go_simp;first|(refine hK _ ?_;clear hK K)|(apply Exists.intro;refine⟨fun _=>?_,hK _ ?_⟩;(go_at_call 65;first|with_reducible exact k1.out _|with_reducible exact k2.out _);clear hK K))
   refine dW ?_
   refine⟨jf.nil,nR.nil,?_⟩
   rintro psq FB Wq ⟨⟨nq,osq⟩,rfl⟩ FT FW
   obtain rfl:psq=[]:=FT
   obtain rfl:FB=[]:=FW
   simp only[putAll,putB,Act.put,aG]
   try dsimp only
   intro fq hfq
   obtain⟨fq,rfl⟩:∃f,fq=f+9:=⟨fq-9,by simp at hfq;omega⟩
   clear hfq
   refine wpAnyIn_ready (rs:=[10]) (by kernel_rfl) (by simp) ?_
   refine AllReadyIn.cons (o:=_) rfl (fun K hK=>?_) AllReadyIn.nil
   go_simp
   refine hK _ _ ?_
   clear hK K
   refine wpAnyIn_ready (rs:=[11]) (by kernel_rfl) (by simp) ?_
   refine AllReadyIn.cons (o:=_) rfl (fun K hK=>?_) AllReadyIn.nil
   go_simp
   refine⟨trivial,(fun h=>by cases h),?_⟩
   refine (callsIn_wide.2 (uM zx zy z _ _ HZ.out (by go_simp) (by go_simp) (by go_simp))).mono ?_
   rintro e w6 ⟨rfl,RZ⟩
   have hg5:Grew wr w6:=Grew.trans gw RZ
   have hbx:w6.heap[wr.heap.size]?=some (.cells #[.int .i64 f0,.int .i64 f1,.int .i64 f2,.int .i64 f3,.int .i64 f4,.int .i64 f5,.int .i64 f6] 61 (0,0)) :=
    (Grew.heap (w:=wr.alloc (.cells #[.int .i64 f0,.int .i64 f1,.int .i64 f2,.int .i64 f3,.int .i64 f4,.int .i64 f5,.int .i64 f6] 61)) (Grew.trans gw RZ) (by simp)).trans (heap_alloc_new _ _)
   dsimp only
   refine hK _ _ ?_
   clear hK K RZ d0 d1 d2 d3 d4 d5 d6 hcB ab5 Sj
   have mG:=hide hbx
   have d0:=ag hbx 0
   have d1:=ag hbx 1
   have d2:=ag hbx 2
   have d3:=ag hbx 3
   have d4:=ag hbx 4
   have d5:=ag hbx 5
   have d6:=ag hbx 6
   have lbx:=ax hbx
   clear hbx
   cases u
   ·have hzn:decide (0<z)=false:=hzu
    have FU:Hid (pre.map Fin.val=kD x ss (k+1)):=hide (by rw[kR.out,YK HU.out])
    have Em:=HJ.out _ _ _ none Cj.out (hg5.grownBy none) (fun r hr=>by cases hr)
    have HJ5:=hide Em
    have uX:=hide hg5
    clear Em hg5
    refine wpAnyIn_ready (rs:=[12]) (by kernel_rfl) (by simp) ?_
    refine AllReadyIn.cons (o:=_) rfl (fun K hK=>?_) AllReadyIn.nil
    go_simp
    refine hK _ _ ?_
    clear hK K
    refine wpAnyIn_ready (rs:=[13]) (by kernel_rfl) (by simp) ?_
    refine AllReadyIn.cons (o:=_) rfl (fun K hK=>?_) AllReadyIn.nil
    go_simp
    refine hK _ _ ?_
    clear hK K
    refine wpAnyIn_ready (rs:=[14,15]) (by kernel_rfl) (by simp) ?_
    refine AllReadyIn.cons (o:=_) rfl (fun K hK=>?_) (AllReadyIn.cons (o:=_) rfl (fun K hK=>?_) AllReadyIn.nil)
    all_goals
     go_simp
     refine hK _ _ ?_
     clear hK K
    ·skip
     refine wpAnyIn_ready (rs:=[15]) (by kernel_rfl) (by simp) ?_
     refine AllReadyIn.cons (o:=_) rfl (fun K hK=>?_) AllReadyIn.nil
     go_simp
     refine hK _ _ ?_
     clear hK K
     refine wpAnyIn_ready (rs:=[16]) (by kernel_rfl) (by simp) ?_
     refine AllReadyIn.cons (o:=_) rfl (fun K hK=>?_) AllReadyIn.nil
     go_simp
     refine⟨(fun _ _=>trivial),hK _ _ ?_⟩
     clear hK K
     refine wpAnyIn_ready (rs:=[17]) (by kernel_rfl) (by simp) ?_
     refine AllReadyIn.cons (o:=_) rfl (fun K hK=>?_) AllReadyIn.nil
     go_simp
     refine hK _ _ ?_
     clear hK K
     refine wpAnyIn_ready (rs:=[18]) (by kernel_rfl) (by simp) ?_
     refine AllReadyIn.cons (o:=_) rfl (fun K hK=>?_) AllReadyIn.nil
     go_simp
     refine hK _ _ ?_
     clear hK K
     refine wpAnyIn_done (by kernel_rfl) ?_ _
     gi_wp2_with fail
     go_roundw
     case rel=>exact⟨k+1,pre,by omega,by go_num,FU.out,HJ5.out,Fb.out.grew uX.out (by omega),(uX.out.below.cell (p:=⟨B,0,none⟩) hBw).trans ZZ.out,⟨(uX.out.below.cell (p:=⟨B2,0,none⟩) hBw2).trans acD.out,(uX.out.below.cell (p:=⟨B2,6,none⟩) hBw2).trans Jy.out⟩,by have:=uX.out.below.size;omega⟩
     case measure=>simp[intOf];omega
    ·skip
     refine wpAnyIn_ready (rs:=[14]) (by kernel_rfl) (by simp) ?_
     refine AllReadyIn.cons (o:=_) rfl (fun K hK=>?_) AllReadyIn.nil
     go_simp
     refine hK _ _ ?_
     clear hK K
     refine wpAnyIn_ready (rs:=[16]) (by kernel_rfl) (by simp) ?_
     refine AllReadyIn.cons (o:=_) rfl (fun K hK=>?_) AllReadyIn.nil
     go_simp
     refine⟨(fun _ _=>trivial),hK _ _ ?_⟩
     clear hK K
     refine wpAnyIn_ready (rs:=[17]) (by kernel_rfl) (by simp) ?_
     refine AllReadyIn.cons (o:=_) rfl (fun K hK=>?_) AllReadyIn.nil
     go_simp
     refine hK _ _ ?_
     clear hK K
     refine wpAnyIn_ready (rs:=[18]) (by kernel_rfl) (by simp) ?_
     refine AllReadyIn.cons (o:=_) rfl (fun K hK=>?_) AllReadyIn.nil
     go_simp
     refine hK _ _ ?_
     clear hK K
     refine wpAnyIn_done (by kernel_rfl) ?_ _
     gi_wp2_with fail
     go_roundw
     case rel=>exact⟨k+1,pre,by omega,by go_num,FU.out,HJ5.out,Fb.out.grew uX.out (by omega),(uX.out.below.cell (p:=⟨B,0,none⟩) hBw).trans ZZ.out,⟨(uX.out.below.cell (p:=⟨B2,0,none⟩) hBw2).trans acD.out,(uX.out.below.cell (p:=⟨B2,6,none⟩) hBw2).trans Jy.out⟩,by have:=uX.out.below.size;omega⟩
     case measure=>simp[intOf];omega
   ·have hzn:decide (0<z)=true:=hzu
    have hk0:=HU.out
    have FU:Hid ((pre++[(⟨k,hlt⟩:Fin ss.length)]).map Fin.val=kD x ss (k+1)):=hide (by rw[List.map_append,kR.out,VK hk0];rfl)
    have henc:encS ss ⟨k,hlt⟩=#[.agg #[.int .i64 f0,.int .i64 f1,.int .i64 f2,.int .i64 f3,.int .i64 f4,.int .i64 f5,.int .i64 f6]]:=by
     show #[(fU ss k).val]=_
     rw[HFK.out]
    have Em:=HJ.out _ _ _ none Cj.out (hg5.grownBy none) (fun r hr=>by cases hr)
    obtain⟨Zd,Ye,ZJ,ZF,hy1,hR1⟩:=HY.out _ ⟨k,hlt⟩ _ Em (by have:=OM.out;omega)
    rw[henc] at hy1
    have HR1:=hide hR1
    have HR5:=hide (Fb.out.grew hg5 (by omega))
    have HC5:=hide ((hg5.below.cell (p:=⟨B,0,none⟩) hBw).trans ZZ.out)
    have HC6:=hide ((hg5.below.cell (p:=⟨B2,0,none⟩) hBw2).trans acD.out)
    have HC7:=hide ((hg5.below.cell (p:=⟨B2,6,none⟩) hBw2).trans Jy.out)
    clear hR1 hg5 Em henc
    refine wpAnyIn_ready (rs:=[12]) (by kernel_rfl) (by simp) ?_
    refine AllReadyIn.cons (o:=_) rfl (fun K hK=>?_) AllReadyIn.nil
    go_simp
    refine hK _ _ ?_
    clear hK K
    refine wpAnyIn_ready (rs:=[13]) (by kernel_rfl) (by simp) ?_
    refine AllReadyIn.cons (o:=_) rfl (fun K hK=>?_) AllReadyIn.nil
    go_simp
    refine hK _ _ ?_
    clear hK K
    refine wpAnyIn_ready (rs:=[14,15]) (by kernel_rfl) (by simp) ?_
    refine AllReadyIn.cons (o:=_) rfl (fun K hK=>?_) (AllReadyIn.cons (o:=_) rfl (fun K hK=>?_) AllReadyIn.nil)
    all_goals
     go_simp
     refine hK _ _ ?_
     clear hK K
    refine wpAnyIn_ready (rs:=[15]) (by kernel_rfl) (by simp) ?_
    refine AllReadyIn.cons (o:=_) rfl (fun K hK=>?_) AllReadyIn.nil
    go_simp
    refine hK _ _ ?_
    clear hK K
    rotate_left
    refine wpAnyIn_ready (rs:=[14]) (by kernel_rfl) (by simp) ?_
    refine AllReadyIn.cons (o:=_) rfl (fun K hK=>?_) AllReadyIn.nil
    go_simp
    refine hK _ _ ?_
    clear hK K
    all_goals
     refine wpAnyIn_ready (rs:=[16]) (by kernel_rfl) (by simp) ?_
     refine AllReadyIn.cons (o:=_) rfl (fun K hK=>?_) AllReadyIn.nil
     go_simp
     refine⟨(fun h=>by cases h),?_⟩
     refine HR1.out.mono ?_
     rintro e W3 (⟨rfl,hJ3,hk3⟩|⟨rfl,hJx3⟩)
     ·have uk:=HR5.out.kpm hk3 hMK.out
      have hc3:=hk3.cell Sm.out HC5.out
      have hc4:=hk3.cell La.out HC6.out
      have hc5:=hk3.cell La.out HC7.out
      have hb3:=ax (hk3 _ _ _ _ (hMW.out _ _ (by omega)) mG.out)
      have MF:=hide hJ3
      have TN:=hide hc3
      have HC4:=hide hc4
      have HC8:=hide hc5
      have JA:=hide uk
      clear hJ3 hc3 hc4 hc5 uk hk3 hy1
      dsimp only
      refine hK _ _ ?_
      clear hK K
      refine wpAnyIn_ready (rs:=[17]) (by kernel_rfl) (by simp) ?_
      refine AllReadyIn.cons (o:=_) rfl (fun K hK=>?_) AllReadyIn.nil
      go_simp
      refine hK _ _ ?_
      clear hK K
      refine wpAnyIn_ready (rs:=[18]) (by kernel_rfl) (by simp) ?_
      refine AllReadyIn.cons (o:=_) rfl (fun K hK=>?_) AllReadyIn.nil
      go_simp
      refine hK _ _ ?_
      clear hK K
      refine wpAnyIn_done (by kernel_rfl) ?_ _
      gi_wp2_with fail
      go_roundw
      case rel=>exact⟨k+1,_,by omega,by go_num,FU.out,MF.out,JA.out,TN.out,⟨HC4.out,HC8.out⟩,by omega⟩
      case measure=>simp[intOf];omega
     ·have HX:=hide hJx3
      clear hJx3 hy1
      dsimp only
      refine hK _ _ ?_
      clear hK K
      refine wpAnyIn_ready (rs:=[17]) (by kernel_rfl) (by simp) ?_
      refine AllReadyIn.cons (o:=_) rfl (fun K hK=>?_) AllReadyIn.nil
      go_simp
      refine hK _ _ ?_
      clear hK K
      refine wpAnyIn_ready (rs:=[18]) (by kernel_rfl) (by simp) ?_
      refine AllReadyIn.cons (o:=_) rfl (fun K hK=>?_) AllReadyIn.nil
      go_simp
      refine hK _ _ ?_
      clear hK K
      refine wpAnyIn_done (by kernel_rfl) ?_ _
      gi_wp2_with fail
      refine bodyPost_ret (results_none rfl _ _ _) rfl ?_
      exact⟨⟨_,rfl⟩,.inr ⟨_,⟨k+1,by omega,FU.out⟩,HX.out⟩⟩
  ·obtain rfl:k=ss.length:=by omega
   gi_wp2
   go_end0
   exact⟨⟨_,rfl⟩,.inl ⟨_,kR.out,hJ⟩⟩
end Go.Proofs.YtlkgjmnjhifehaaGreat
set_option maxHeartbeats 4000000
set_option maxRecDepth 100000
namespace Go.Proofs.YtlkgjmnjhifehaaGreat
open Go.RowKit Go.Sort Go.Lib
attribute [local go_sem] dC steadyUpon
attribute [local go_sem ↓] bQ bJ bg aZ aY aX aW
attribute [local go_sem] bH aN aK size_grow tape_grow cell?_grow' aF aC grow_grow bV bn dZ bZ bW bM aO cO bu bY bK
attribute [local irreducible] wpSteady
def uY (s:So):FV:={ id:=s.id,kind:=1,x:=s.x,y:=s.y,dn:=s.dn,aA:=none,ac:=0,area:=[],dep:=s.lo,sym:=0,sA:=none,sc:=0,secs:=[] }
theorem Ac (s:So)(w:World)(B:Nat):(uY s).rd w B:=⟨Rd.nil _ _ _ _,Rd.nil _ _ _ _,by simp[uY],by simp[uY],by simp[uY]⟩
theorem oZ (s:So):(uY s).val=.agg #[.int .i64 s.id,.int .i64 1,.int .i64 s.x,.int .i64 s.y,.int .i64 s.dn,.slice none 0 0,.int .i64 s.lo,.int .i64 0,.slice none 0 0]:=rfl
theorem sD (s:So)(w:World):Calls Tryz.prog 30 #[s.val] w (aB w (uY s).val):=by
 have hm:=aQ
 rw[oZ]
 obtain⟨s0,s1,s2,s3,s4,s5,s6⟩:=s
 dsimp only
 go_enter Tryz.func30,Tryz.ntmps30
 go_wp2_with fail
 refine bodyPost_ret (v:=.agg #[.int .i64 s0,.int .i64 1,.int .i64 s1,.int .i64 s2,.int .i64 s3,.slice none 0 0,.int .i64 s4,.int .i64 0,.slice none 0 0]) (by simp[results,Tryz.results30,go_sem]) rfl ?_
 exact aB.mk' rfl gw
def MZ (s:So):Bool:=bC (uY s)&&(decide (s.lo<=s.hi)&&(decide (s.hi<=100000)&&(decide (0<=s.tm)&&decide (s.tm<=10000000))))
theorem abM (s:So)(r:Bool)(w:World)(h:MZ s=r):Calls Tryz.prog 58 #[s.val] w (aB w (.bool r)):=by
 have hm:=aQ
 have k1:=hide (fun W=>sD s W)
 obtain⟨o,ho⟩:∃o,bC (uY s)=o:=⟨_,rfl⟩
 have k2:=hide (fun W=>dD (uY s) o W (Ac s W _) ho)
 unfold MZ at h
 rw[ho] at h
 clear ho
 rw[oZ] at k1 k2
 obtain⟨s0,s1,s2,s3,s4,s5,s6⟩:=s
 dsimp only at *
 have hcase:o=false\/(o=true/\s5<s4)\/(o=true/\¬ s5<s4/\100000<s5)\/(o=true/\¬ s5<s4/\¬ 100000<s5/\s6<0)\/(o=true/\¬ s5<s4/\¬ 100000<s5/\¬ s6<0/\10000000<s6)\/(o=true/\¬ s5<s4/\¬ 100000<s5/\¬ s6<0/\¬ 10000000<s6):=by
  cases o
  ·exact .inl rfl
  ·simp;omega
 rcases hcase with rfl|⟨rfl,h1⟩|⟨rfl,h1,h2⟩|⟨rfl,h1,h2,h3⟩|⟨rfl,h1,h2,h3,h4⟩|⟨rfl,h1,h2,h3,h4⟩
 ·subst h
  go_enter Tryz.func58,Tryz.ntmps58
  go_wp2_with (first|(go_at_call 30;with_reducible refine aT (k1.out _) fun _ _=>?_;dsimp only)|(go_at_call 56;with_reducible refine aT (k2.out _) fun _ _=>?_;dsimp only))
  go_ret
  exact aB.mk' rfl gw
 ·obtain rfl:r=false:=by rw[<-h];simp;omega
  clear h
  have e1:decide (s4<=s5)=false:=by simp;omega
  go_enter Tryz.func58,Tryz.ntmps58
  go_wp2_with (first|(go_at_call 30;with_reducible refine aT (k1.out _) fun _ _=>?_;dsimp only)|(go_at_call 56;with_reducible refine aT (k2.out _) fun _ _=>?_;dsimp only))
  go_ret
  exact aB.mk' (by simp) gw
 ·obtain rfl:r=false:=by rw[<-h];simp;omega
  clear h
  have e1:decide (s4<=s5)=true:=by simp;omega
  have e2:decide (s5<=100000)=false:=by simp;omega
  go_enter Tryz.func58,Tryz.ntmps58
  go_wp2_with (first|(go_at_call 30;with_reducible refine aT (k1.out _) fun _ _=>?_;dsimp only)|(go_at_call 56;with_reducible refine aT (k2.out _) fun _ _=>?_;dsimp only))
  go_ret
  exact aB.mk' (by simp) gw
 ·obtain rfl:r=false:=by rw[<-h];simp;omega
  clear h
  have e1:decide (s4<=s5)=true:=by simp;omega
  have e2:decide (s5<=100000)=true:=by simp;omega
  have e3:decide (0<=s6)=false:=by simp;omega
  go_enter Tryz.func58,Tryz.ntmps58
  go_wp2_with (first|(go_at_call 30;with_reducible refine aT (k1.out _) fun _ _=>?_;dsimp only)|(go_at_call 56;with_reducible refine aT (k2.out _) fun _ _=>?_;dsimp only))
  go_ret
  exact aB.mk' (by simp) gw
 ·obtain rfl:r=false:=by rw[<-h];simp;omega
  clear h
  have e1:decide (s4<=s5)=true:=by simp;omega
  have e2:decide (s5<=100000)=true:=by simp;omega
  have e3:decide (0<=s6)=true:=by simp;omega
  have e4:decide (s6<=10000000)=false:=by simp;omega
  go_enter Tryz.func58,Tryz.ntmps58
  go_wp2_with (first|(go_at_call 30;with_reducible refine aT (k1.out _) fun _ _=>?_;dsimp only)|(go_at_call 56;with_reducible refine aT (k2.out _) fun _ _=>?_;dsimp only))
  go_ret
  exact aB.mk' (by simp) gw
 ·obtain rfl:r=true:=by rw[<-h];simp;omega
  clear h
  have e1:decide (s4<=s5)=true:=by simp;omega
  have e2:decide (s5<=100000)=true:=by simp;omega
  have e3:decide (0<=s6)=true:=by simp;omega
  have e4:decide (s6<=10000000)=true:=by simp;omega
  go_enter Tryz.func58,Tryz.ntmps58
  go_wp2_with (first|(go_at_call 30;with_reducible refine aT (k1.out _) fun _ _=>?_;dsimp only)|(go_at_call 56;with_reducible refine aT (k2.out _) fun _ _=>?_;dsimp only))
  go_ret
  exact aB.mk' (by simp) gw
end Go.Proofs.YtlkgjmnjhifehaaGreat
set_option maxHeartbeats 4000000
set_option maxRecDepth 100000
namespace Go.Proofs.YtlkgjmnjhifehaaGreat
open Go.RowKit Go.Sort
attribute [local go_sem] dC steadyUpon
attribute [local go_sem ↓] bQ bJ bg aZ aY aX aW
attribute [local go_sem] bH aN aK size_grow tape_grow cell?_grow' aF aC grow_grow bV bn dZ bZ bW bM aO cO bu bY bK
attribute [local irreducible] wpSteady
attribute [local go_sem] IE Io II Iy IG Ip IJ Iz Eb D8 Ee Ea
def lN (f:FV)(p:Pt):Bool×Int:=if (bC f&&p.ok)=true then (iQ f p,0) else (false,1)
def mY (f g:FV):Bool×Int:=if (bC f&&bC g)=true then (eH f g,0) else (false,1)
theorem WZ (f:FV)(p:Pt)(o:Bool)(w:World)(hf:f.rd w w.heap.size)(vf:bC f=true)(vp:p.ok=true)
  (kf:Hid (∀W,Calls Tryz.prog 50 #[f.val] W (aB W (.iface 151 (.agg #[.int .i64 f.x,.int .i64 f.y,.int .i64 f.dn])))))
  (kh:Hid (∀W,Grew w W->Calls Tryz.prog 222 #[.agg #[.int .i64 f.x,.int .i64 f.y,.int .i64 f.dn],pt p.1 p.2] W (aB W (.bool o)))) :
  Calls Tryz.prog 51 #[f.val,pt p.1 p.2] w (aB w (.tuple #[.bool o,.int .i64 0])):=by
 have hm:=aQ
 have k1:=hide (fun W (h:Grew w W)=>dD f true W (hf.up h) vf)
 have k2:=hide (fun W=>dP p.1 p.2 true W vp)
 clear hf vf vp
 obtain⟨p1,p2⟩:=p
 dsimp only at k2 kh ⊢
 go_enter Tryz.func51,Tryz.ntmps51
 go_wp2_with (first|(go_at_call 56;with_reducible refine aT (k1.out _ gw) fun _ _=>?_;dsimp only)|(go_at_call 49;with_reducible refine aT (k2.out _) fun _ _=>?_;dsimp only))
 refine ay 6 [] [] hm (h:=?_)
 repeat (refine au (fun K hK=>?_);go_simp;first|(refine hK _ ?_;clear hK K)|(apply Exists.intro;refine⟨fun _=>?_,hK _ ?_⟩;(first|(go_at_call 50;with_reducible exact kf.out _)|(go_at_call 222;with_reducible exact kh.out _ gw));clear hK K))
 refine kZ fun nq osq=>?_
 try simp only[Act.put,aG]
 try dsimp only
 go_wp2_with fail
 go_ret2
 exact aB.mk' rfl gw
theorem Xa (f:FV)(p:Pt)(o:Bool)(w:World)(hf:f.rd w w.heap.size)(vf:bC f=true)(vp:p.ok=true)
  (kf:Hid (∀W,Calls Tryz.prog 50 #[f.val] W (aB W (.iface 149 (.slice f.aA f.area.length f.ac)))))
  (kh:Hid (∀W,Grew w W->Calls Tryz.prog 206 #[.slice f.aA f.area.length f.ac,pt p.1 p.2] W (aB W (.bool o)))) :
  Calls Tryz.prog 51 #[f.val,pt p.1 p.2] w (aB w (.tuple #[.bool o,.int .i64 0])):=by
 have hm:=aQ
 have k1:=hide (fun W (h:Grew w W)=>dD f true W (hf.up h) vf)
 have k2:=hide (fun W=>dP p.1 p.2 true W vp)
 clear hf vf vp
 obtain⟨p1,p2⟩:=p
 dsimp only at k2 kh ⊢
 go_enter Tryz.func51,Tryz.ntmps51
 go_wp2_with (first|(go_at_call 56;with_reducible refine aT (k1.out _ gw) fun _ _=>?_;dsimp only)|(go_at_call 49;with_reducible refine aT (k2.out _) fun _ _=>?_;dsimp only))
 refine ay 6 [] [] hm (h:=?_)
 repeat (refine au (fun K hK=>?_);go_simp;first|(refine hK _ ?_;clear hK K)|(apply Exists.intro;refine⟨fun _=>?_,hK _ ?_⟩;(first|(go_at_call 50;with_reducible exact kf.out _)|(go_at_call 206;with_reducible exact kh.out _ gw));clear hK K))
 refine kZ fun nq osq=>?_
 try simp only[Act.put,aG]
 try dsimp only
 go_wp2_with fail
 go_ret2
 exact aB.mk' rfl gw
theorem SQ (f:FV)(p:Pt)(o:Bool)(w:World)(hf:f.rd w w.heap.size)(vf:bC f=true)(vp:p.ok=true)
  (kf:Hid (∀W,Calls Tryz.prog 50 #[f.val] W (aB W (.iface 148 (.agg #[.int .i64 f.x,.int .i64 f.y])))))
  (kh:Hid (∀W,Grew w W->Calls Tryz.prog 202 #[.agg #[.int .i64 f.x,.int .i64 f.y],pt p.1 p.2] W (aB W (.bool o)))) :
  Calls Tryz.prog 51 #[f.val,pt p.1 p.2] w (aB w (.tuple #[.bool o,.int .i64 0])):=by
 have hm:=aQ
 have k1:=hide (fun W (h:Grew w W)=>dD f true W (hf.up h) vf)
 have k2:=hide (fun W=>dP p.1 p.2 true W vp)
 clear hf vf vp
 obtain⟨p1,p2⟩:=p
 dsimp only at k2 kh ⊢
 go_enter Tryz.func51,Tryz.ntmps51
 go_wp2_with (first|(go_at_call 56;with_reducible refine aT (k1.out _ gw) fun _ _=>?_;dsimp only)|(go_at_call 49;with_reducible refine aT (k2.out _) fun _ _=>?_;dsimp only))
 refine ay 6 [] [] hm (h:=?_)
 repeat (refine au (fun K hK=>?_);go_simp;first|(refine hK _ ?_;clear hK K)|(apply Exists.intro;refine⟨fun _=>?_,hK _ ?_⟩;(first|(go_at_call 50;with_reducible exact kf.out _)|(go_at_call 202;with_reducible exact kh.out _ gw));clear hK K))
 refine kZ fun nq osq=>?_
 try simp only[Act.put,aG]
 try dsimp only
 go_wp2_with fail
 go_ret2
 exact aB.mk' rfl gw
theorem Fg (f:FV)(p:Pt)(r:Bool×Int)(w:World)(hf:f.rd w w.heap.size)(h:lN f p=r) :
  Calls Tryz.prog 51 #[f.val,pt p.1 p.2] w (aB w (.tuple #[.bool r.1,.int .i64 r.2])):=by
 unfold lN at h
 subst h
 by_cases hv:(bC f&&p.ok)=true
 ·rw[if_pos hv]
  rw[Bool.and_eq_true] at hv
  by_cases f4:f.kind=4
  ·refine SQ f p _ w hf hv.1 hv.2 (hide (fun W=>xk f _ W (nZ f4))) (hide (fun W hgr=>?_))
   have e:iQ f p=false:=by unfold iQ;rw[if_pos f4]
   rw[e]
   exact xA _ _ p W
  ·by_cases f3:f.kind=3\/f.kind=6
   ·exact Xa f p _ w hf hv.1 hv.2 (hide (fun W=>xk f _ W (lT f3))) (hide (fun W hgr=>zK _ _ _ p _ W (hf.up hgr).area hf.la (by unfold iQ;rw[if_neg f4,if_pos f3])))
   ·exact WZ f p _ w hf hv.1 hv.2 (hide (fun W=>xk f _ W (mV f4 f3))) (hide (fun W hgr=>uA _ _ _ p _ W (by unfold iQ;rw[if_neg f4,if_neg f3])))
 ·rw[if_neg hv]
  obtain⟨a,ha⟩:∃u,bC f=u:=⟨_,rfl⟩
  obtain⟨b,hb⟩:∃u,p.ok=u:=⟨_,rfl⟩
  have hm:=aQ
  have k1:=hide (fun W (h:Grew w W)=>dD f a W (hf.up h) ha)
  have k2:=hide (fun W=>dP p.1 p.2 b W hb)
  rw[ha,hb] at hv
  clear hf ha hb
  obtain⟨p1,p2⟩:=p
  dsimp only at k2 ⊢
  have hcase:a=false\/(a=true/\b=false):=by cases a<;>cases b<;>simp at hv ⊢
  rcases hcase with rfl|⟨rfl,rfl⟩
  all_goals
   go_enter Tryz.func51,Tryz.ntmps51
   go_wp2_with (first|(go_at_call 56;with_reducible refine aT (k1.out _ gw) fun _ _=>?_;dsimp only)|(go_at_call 49;with_reducible refine aT (k2.out _) fun _ _=>?_;dsimp only))
   go_ret2
   exact aB.mk' rfl gw
theorem V6 (f g:FV)(F:Value)(o:Bool)(w:World)(hf:f.rd w w.heap.size)(hg:g.rd w w.heap.size)(vf:bC f=true)(vg:bC g=true)
  (kf:Hid (∀W,Calls Tryz.prog 50 #[f.val] W (aB W (.iface 151 (.agg #[.int .i64 f.x,.int .i64 f.y,.int .i64 f.dn]))))) (kg:Hid (∀W,Calls Tryz.prog 50 #[g.val] W (aB W F)))
  (kh:Hid (∀W,Grew w W->Calls Tryz.prog 223 #[.agg #[.int .i64 f.x,.int .i64 f.y,.int .i64 f.dn],F] W (aB W (.bool o)))) :
  Calls Tryz.prog 20 #[f.val,g.val] w (aB w (.tuple #[.bool o,.int .i64 0])):=by
 have hm:=aQ
 have k1:=hide (fun W (h:Grew w W)=>dD f true W (hf.up h) vf)
 have k2:=hide (fun W (h:Grew w W)=>dD g true W (hg.up h) vg)
 clear hf hg vf vg
 go_enter Tryz.func20,Tryz.ntmps20
 go_wp2_with (first|(go_at_call 56;with_reducible refine aT (k1.out _ gw) fun _ _=>?_;dsimp only)|(go_at_call 56;with_reducible refine aT (k2.out _ gw) fun _ _=>?_;dsimp only))
 refine ay 10 [] [] hm (h:=?_)
 repeat (refine au (fun K hK=>?_);go_simp;first|(refine hK _ ?_;clear hK K)|(apply Exists.intro;refine⟨fun _=>?_,hK _ ?_⟩;(first|(go_at_call 50;first|with_reducible exact kf.out _|with_reducible exact kg.out _)|(go_at_call 223;with_reducible exact kh.out _ gw));clear hK K))
 refine kZ fun nq osq=>?_
 try simp only[Act.put,aG]
 try dsimp only
 go_wp2_with fail
 go_ret2
 exact aB.mk' rfl gw
theorem V7 (f g:FV)(F:Value)(o:Bool)(w:World)(hf:f.rd w w.heap.size)(hg:g.rd w w.heap.size)(vf:bC f=true)(vg:bC g=true)
  (kf:Hid (∀W,Calls Tryz.prog 50 #[f.val] W (aB W (.iface 149 (.slice f.aA f.area.length f.ac))))) (kg:Hid (∀W,Calls Tryz.prog 50 #[g.val] W (aB W F)))
  (kh:Hid (∀W,Grew w W->Calls Tryz.prog 207 #[.slice f.aA f.area.length f.ac,F] W (aB W (.bool o)))) :
  Calls Tryz.prog 20 #[f.val,g.val] w (aB w (.tuple #[.bool o,.int .i64 0])):=by
 have hm:=aQ
 have k1:=hide (fun W (h:Grew w W)=>dD f true W (hf.up h) vf)
 have k2:=hide (fun W (h:Grew w W)=>dD g true W (hg.up h) vg)
 clear hf hg vf vg
 go_enter Tryz.func20,Tryz.ntmps20
 go_wp2_with (first|(go_at_call 56;with_reducible refine aT (k1.out _ gw) fun _ _=>?_;dsimp only)|(go_at_call 56;with_reducible refine aT (k2.out _ gw) fun _ _=>?_;dsimp only))
 refine ay 10 [] [] hm (h:=?_)
 repeat (refine au (fun K hK=>?_);go_simp;first|(refine hK _ ?_;clear hK K)|(apply Exists.intro;refine⟨fun _=>?_,hK _ ?_⟩;(first|(go_at_call 50;first|with_reducible exact kf.out _|with_reducible exact kg.out _)|(go_at_call 207;with_reducible exact kh.out _ gw));clear hK K))
 refine kZ fun nq osq=>?_
 try simp only[Act.put,aG]
 try dsimp only
 go_wp2_with fail
 go_ret2
 exact aB.mk' rfl gw
theorem RV (f g:FV)(F:Value)(o:Bool)(w:World)(hf:f.rd w w.heap.size)(hg:g.rd w w.heap.size)(vf:bC f=true)(vg:bC g=true)
  (kf:Hid (∀W,Calls Tryz.prog 50 #[f.val] W (aB W (.iface 148 (.agg #[.int .i64 f.x,.int .i64 f.y]))))) (kg:Hid (∀W,Calls Tryz.prog 50 #[g.val] W (aB W F)))
  (kh:Hid (∀W,Grew w W->Calls Tryz.prog 203 #[.agg #[.int .i64 f.x,.int .i64 f.y],F] W (aB W (.bool o)))) :
  Calls Tryz.prog 20 #[f.val,g.val] w (aB w (.tuple #[.bool o,.int .i64 0])):=by
 have hm:=aQ
 have k1:=hide (fun W (h:Grew w W)=>dD f true W (hf.up h) vf)
 have k2:=hide (fun W (h:Grew w W)=>dD g true W (hg.up h) vg)
 clear hf hg vf vg
 go_enter Tryz.func20,Tryz.ntmps20
 go_wp2_with (first|(go_at_call 56;with_reducible refine aT (k1.out _ gw) fun _ _=>?_;dsimp only)|(go_at_call 56;with_reducible refine aT (k2.out _ gw) fun _ _=>?_;dsimp only))
 refine ay 10 [] [] hm (h:=?_)
 repeat (refine au (fun K hK=>?_);go_simp;first|(refine hK _ ?_;clear hK K)|(apply Exists.intro;refine⟨fun _=>?_,hK _ ?_⟩;(first|(go_at_call 50;first|with_reducible exact kf.out _|with_reducible exact kg.out _)|(go_at_call 203;with_reducible exact kh.out _ gw));clear hK K))
 refine kZ fun nq osq=>?_
 try simp only[Act.put,aG]
 try dsimp only
 go_wp2_with fail
 go_ret2
 exact aB.mk' rfl gw
theorem MG (f g:FV)(r:Bool×Int)(w:World)(hf:f.rd w w.heap.size)(hg:g.rd w w.heap.size)(h:mY f g=r) :
  Calls Tryz.prog 20 #[f.val,g.val] w (aB w (.tuple #[.bool r.1,.int .i64 r.2])):=by
 unfold mY at h
 subst h
 by_cases hv:(bC f&&bC g)=true
 ·rw[if_pos hv]
  rw[Bool.and_eq_true] at hv
  have kg:Hid (∀W,Calls Tryz.prog 50 #[g.val] W (aB W g.sh)):=hide (fun W=>xk g _ W rfl)
  by_cases f4:f.kind=4
  ·refine RV f g _ _ w hf hg hv.1 hv.2 (hide (fun W=>xk f _ W (nZ f4))) kg (hide (fun W hgr=>?_))
   by_cases g4:g.kind=4
   ·have e:eH f g=true:=by unfold eH;rw[if_pos f4,decide_eq_true g4]
    rw[e,nZ g4]
    exact FH _ _ _ _ W
   ·have e:eH f g=false:=by unfold eH;rw[if_pos f4,decide_eq_false g4]
    rw[e]
    by_cases g3:g.kind=3\/g.kind=6
    ·rw[lT g3]
     exact xy _ _ _ W
    ·rw[mV g4 g3]
     exact xx _ _ _ W
  ·by_cases f3:f.kind=3\/f.kind=6
   ·refine V7 f g _ _ w hf hg hv.1 hv.2 (hide (fun W=>xk f _ W (lT f3))) kg (hide (fun W hgr=>?_))
    by_cases g4:g.kind=4
    ·have e:eH f g=true:=by unfold eH;rw[if_neg f4,if_pos g4]
     rw[e,nZ g4]
     exact Jq _ _ _ _ W
    ·by_cases g3:g.kind=3\/g.kind=6
     ·rw[lT g3]
      exact zJ _ _ _ _ _ _ _ W ((hf.up hgr).area) hf.la ((hg.up hgr).area) hg.la (by unfold eH;rw[if_neg f4,if_neg g4,if_pos f3,if_pos g3])
     ·rw[mV g4 g3]
      exact zI _ _ _ (g.x,g.y) _ _ W ((hf.up hgr).area) hf.la (by unfold eH;rw[if_neg f4,if_neg g4,if_pos f3,if_neg g3])
   ·refine V6 f g _ _ w hf hg hv.1 hv.2 (hide (fun W=>xk f _ W (mV f4 f3))) kg (hide (fun W hgr=>?_))
    by_cases g4:g.kind=4
    ·have e:eH f g=true:=by unfold eH;rw[if_neg f4,if_pos g4]
     rw[e,nZ g4]
     exact Je _ _ _ _ W
    ·by_cases g3:g.kind=3\/g.kind=6
     ·rw[lT g3]
      exact zn _ _ _ _ _ _ _ W ((hg.up hgr).area) hg.la (by unfold eH;rw[if_neg f4,if_neg g4,if_neg f3,if_pos g3])
     ·rw[mV g4 g3]
      exact zl _ _ _ (g.x,g.y) _ _ W (by unfold eH;rw[if_neg f4,if_neg g4,if_neg f3,if_neg g3])
 ·rw[if_neg hv]
  obtain⟨a,ha⟩:∃u,bC f=u:=⟨_,rfl⟩
  obtain⟨b,hb⟩:∃u,bC g=u:=⟨_,rfl⟩
  have hm:=aQ
  have k1:=hide (fun W (h:Grew w W)=>dD f a W (hf.up h) ha)
  have k2:=hide (fun W (h:Grew w W)=>dD g b W (hg.up h) hb)
  rw[ha,hb] at hv
  clear hf hg ha hb
  have hcase:a=false\/(a=true/\b=false):=by cases a<;>cases b<;>simp at hv ⊢
  rcases hcase with rfl|⟨rfl,rfl⟩
  all_goals
   go_enter Tryz.func20,Tryz.ntmps20
   go_wp2_with (first|(go_at_call 56;with_reducible refine aT (k1.out _ gw) fun _ _=>?_;dsimp only)|(go_at_call 56;with_reducible refine aT (k2.out _ gw) fun _ _=>?_;dsimp only))
   go_ret2
   exact aB.mk' rfl gw
end Go.Proofs.YtlkgjmnjhifehaaGreat
set_option maxHeartbeats 8000000
set_option maxRecDepth 100000
namespace Go.Proofs.YtlkgjmnjhifehaaGreat
open Go.RowKit Go.Sort Go.Lib
attribute [local go_sem] dC steadyUpon
attribute [local go_sem ↓] bQ bJ bg aZ aY aX aW
attribute [local go_sem] bH aN aK size_grow tape_grow cell?_grow' aF aC grow_grow bV bn dZ bZ bW bM aO cO bu bY bK
attribute [local irreducible] wpSteady
attribute [local go_sem] Oper.semAt_some
def BJ (y x:So):Bool:=(mY (uY y) (uY x)).1
def qg (ss:List So)(x:So):Bool:=(kD x ss ss.length).any fun i=>BJ (fU ss i) x
structure FQ (W:World) (R K:Nat) (A:Option Addr) (c:Nat) (ss:List So):Prop where
 box:W.cell? ⟨R,0,none⟩=some (.slice A ss.length c)
 row:Rd W K 7 A (ss.map So.cells)
 lo:R<K
 hi:K<=W.heap.size
theorem FQ.up {W W':World}{R K:Nat}{A:Option Addr}{c:Nat}{ss:List So}(h:FQ W R K A c ss)(hg:Grew W W'):FQ W' R K A c ss :=
 ⟨(hg.below.cell (p:=⟨R,0,none⟩) (Nat.lt_of_lt_of_le h.lo h.hi)).trans h.box,h.row.grew hg h.hi,h.lo,Nat.le_trans h.hi hg.below.size⟩
theorem FQ.gb {W W':World}{R K g:Nat}{A:Option Addr}{c:Nat}{ss:List So}(h:FQ W R K A c ss)(hg:W.grownBy W' (some g))(hK:K<=g):FQ W' R K A c ss :=
 ⟨hg.cell h.box (by have:=h.lo;simp;omega),h.row.keep (fun b i hb=>World.cell?_of_block (a:=⟨b,i,none⟩) (hg.block b (Nat.lt_of_lt_of_le hb h.hi) (by simp;omega))),h.lo,Nat.le_trans h.hi hg.size⟩
theorem Yn {ss:List So}{x:So}{i:Nat}(h:i∈kD x ss ss.length)(hh:BJ (fU ss i) x=true):qg ss x=true:=by
 unfold qg
 rw[List.any_eq_true]
 exact⟨i,h,hh⟩
theorem VL {x:So}{ss:List So}{k:Nat}(hk:k<=ss.length){i:Nat}(h:i∈kD x ss k):i∈kD x ss ss.length:=by
 unfold kD at *
 rw[List.mem_filter,List.mem_range] at *
 exact⟨by omega,h.2⟩
theorem UR (ss:List So)(x:So)(A:Option Addr)(c R K:Nat)(r:Bool)(w:World)(hE:FQ w R K A c ss)(hl:ss.length<=1000)(h:qg ss x=r) :
  Calls Tryz.prog 59 #[x.val,.pointer (some ⟨R,0,none⟩)] w (aB w (.bool r)):=by
 have hm:=aQ
 have HE:=hide hE
 have HRR:=hide h
 have cR:=hE.box
 have lR:R<w.heap.size:=Nat.lt_of_lt_of_le hE.lo hE.hi
 have hRow:=hide (hE.row.mono hE.hi)
 clear hE h
 refine (callsIn_wide (n:=13)).1 ?_
 refine callsIn_of_wp_marks Tryz.func59 rfl trivial ?_ rfl
 simp only[Tryz.ntmps59,List.size_toArray,List.length_cons,List.length_nil,Nat.reduceAdd,Nat.reduceSub,Array.replicate_succ,Array.replicate_zero,List.push_toArray,List.append_toArray,List.nil_append,List.cons_append]
 gi_wp2_with fail
 refine⟨trivial,?_⟩
 refine (callsIn_wide.2 (Rx A ss.length c x _)).mono ?_
 rintro e W1 ⟨rfl,hW1⟩
 dsimp only
 gi_wp2_with fail
 obtain⟨bx,hbx⟩:∃bx:List Obj,bx=[.cells #[.int .i64 x.id,.int .i64 x.x,.int .i64 x.y,.int .i64 x.dn,.int .i64 x.lo,.int .i64 x.hi,.int .i64 x.tm] 61 (0,0),.cells #[.bool false] 4 (0,0),.cells #[.slice A ss.length c] 22 (0,0),.cells #[.int .i64 x.id,.int .i64 x.x,.int .i64 x.y,.int .i64 x.dn,.int .i64 x.lo,.int .i64 x.hi,.int .i64 x.tm] 61 (0,0)]:=⟨_,rfl⟩
 have hbx0:=Bx.lH bx w
 have hb0:Bx W1 w.heap.size bx:=by
  have h:=hbx0.1
  subst hbx
  rw[<-hW1]
  exact h
 have hg0:Grew w W1:=by
  have h:=hbx0.2
  subst hbx
  rw[<-hW1]
  exact h
 have hsz:W1.heap.size=w.heap.size+4:=by rw[<-hW1];simp
 clear hbx0 hW1
 subst hbx
 simp only[World.mr]
 refine dJ ?_
 intro a0 W0 ha hW
 subst hW
 have hk2:W1.heap[w.heap.size+1+1]?=some (.cells #[.slice A ss.length c] 22 (0,0)):=hb0 2 _ rfl
 have hk3:W1.heap[w.heap.size+1+1+1]?=some (.cells #[.int .i64 x.id,.int .i64 x.x,.int .i64 x.y,.int .i64 x.dn,.int .i64 x.lo,.int .i64 x.hi,.int .i64 x.tm] 61 (0,0)):=hb0 3 _ rfl
 have Hb0:=hide hb0
 have Hg0:=hide hg0
 refine wpIn_rangeFunc_ownH (n:=13) rfl (by omega) (gf:=90) (lb:=#[.pointer (some ⟨w.heap.size+1+1,0,none⟩),.pointer (some ⟨w.heap.size+1+1+1,0,none⟩)]) (by rw[<-ha];simp[Act.eval]) trivial (enters_of Tryz.func90 (by kernel_rfl) rfl)
  (IP 12 w.heap.size (fun _ _=>False) ss A c (w.heap.size+1+1) (w.heap.size+1+1+1) x W1 (fun b _ hb=>hb.elim) hk2 hk3 (hRow.out.grew hg0 (Nat.le_refl _)) (by omega) (by omega))
  (fun h k=>h.trans k) iC.bk (Below.refl _ _) (fun _=>rfl)
  (fun pre W=>(Below w.heap.size w W/\Bx W w.heap.size _)/\∀i∈pre,BJ (fU ss i.1) x=false)
  (fun e pre W=>(Below w.heap.size w W/\Boxed W (w.heap.size+1) 4 (.bool true))/\(e=.ret/\∃i∈pre,BJ (fU ss i.1) x=true))
  (OwnFrom.and (OwnFrom.and (ownFrom_below (Nat.le_refl _) hg0.below.size) (Bx.own (by simp;omega))) (ownFrom_pure _))
  (fun q=>OwnFrom.and (OwnFrom.and (ownFrom_below (Nat.le_refl _) hg0.below.size) (Own.from (boxed_own (β:=_) _ _ (fun _=>.bool true)) _)) (ownFrom_pure _))
  ⟨⟨hg0.below,hb0⟩,fun i hi=>by cases hi⟩
  (fun y a' W=>∃B,W.heap[B]?=some (.cells #[.int .i64 (fU ss y.1).id,.int .i64 (fU ss y.1).x,.int .i64 (fU ss y.1).y,.int .i64 (fU ss y.1).dn,.int .i64 (fU ss y.1).lo,.int .i64 (fU ss y.1).hi,.int .i64 (fU ss y.1).tm] 61 (0,0))/\a'={ tmps:=(a0.tmps.setIfInBounds 11 (fU ss y.1).val).setIfInBounds 4 (.pointer (some ⟨B,0,none⟩)),defers:=[] })
  (fun y a'=>by
   rintro s X Y row ⟨B,h1,h2⟩ hg hr
   exact⟨B,fE h1 hg (fun r e=>(hr r e).2),h2⟩)
  ?assign ?body ?done ?stop
 case assign =>
  rintro l pre y W K ⟨⟨hB,hb⟩,hp⟩ hK
  rw[show encS ss y=#[(fU ss y.1).val] from rfl,L6]
  subst ha
  simp only[List.setIfInBounds_toArray,List.set_cons_succ,List.set_cons_zero] at hK ⊢
  have vT:=hide hK
  clear hK
  gi_wp2_with fail
  have hgg:Grew W (W.alloc (.cells #[.int .i64 (fU ss y.1).id,.int .i64 (fU ss y.1).x,.int .i64 (fU ss y.1).y,.int .i64 (fU ss y.1).dn,.int .i64 (fU ss y.1).lo,.int .i64 (fU ss y.1).hi,.int .i64 (fU ss y.1).tm] 61)):=gw
  exact vT.out _ _ (hgg.aV _) (iC.grew hgg) ⟨⟨hB.trans (hgg.below.mono hB.size),hb.grew hgg⟩,hp⟩ ⟨W.heap.size,heap_alloc_new _ _,rfl⟩
 case body =>
  rintro l pre y a' W hl2 hlp ⟨⟨hB,hb⟩,hp⟩ ⟨B,hx,rfl⟩ hlt
  subst ha
  obtain⟨i,hil⟩:=y
  dsimp only at hx
  simp only[List.setIfInBounds_toArray,List.set_cons_succ,List.set_cons_zero]
  obtain⟨o,ho⟩:∃o,mY (uY (fU ss i)) (uY x)=o:=⟨_,rfl⟩
  have hoo:BJ (fU ss i) x=o.1:=by unfold BJ;rw[ho]
  have hnext:o.1=false->∀i'∈pre++[(⟨i,hil⟩:Fin ss.length)],BJ (fU ss i'.1) x=false:=fun hof i' hi'=>by
   rcases List.mem_append.1 hi' with h|h
   ·exact hp i' h
   ·obtain rfl:=List.mem_singleton.1 h
    rw[hoo,hof]
  have hyes:o.1=true->∃i'∈pre++[(⟨i,hil⟩:Fin ss.length)],BJ (fU ss i'.1) x=true:=fun hof=>⟨⟨i,hil⟩,by simp,by rw[hoo,hof]⟩
  have kF:=hide hnext
  have Jz:=hide hyes
  have HOO:=hide hoo
  have k1:=hide (fun W=>sD (fU ss i) W)
  have k2:=hide (fun W=>sD x W)
  have k3:=hide (fun W=>MG (uY (fU ss i)) (uY x) o W (Ac _ _ _) (Ac _ _ _) ho)
  clear hnext hyes ho hoo hp hlt
  generalize fU ss i=y at *
  obtain⟨y0,y1,y2,y3,y4,y5,y6⟩:=y
  obtain⟨x0,x1,x2,x3,x4,x5,x6⟩:=x
  obtain⟨o1,o2⟩:=o
  rw[oZ] at k1 k2
  rw[oZ,oZ] at k3
  dsimp only at hx hb k1 k2 k3 HOO kF Jz ⊢
  have c0:W.cell? ⟨w.heap.size,0,none⟩=_:=ag (hb 0 _ rfl) 0
  have c1:W.cell? ⟨w.heap.size,1,none⟩=_:=ag (hb 0 _ rfl) 1
  have c2:W.cell? ⟨w.heap.size,2,none⟩=_:=ag (hb 0 _ rfl) 2
  have c3:W.cell? ⟨w.heap.size,3,none⟩=_:=ag (hb 0 _ rfl) 3
  have c4:W.cell? ⟨w.heap.size,4,none⟩=_:=ag (hb 0 _ rfl) 4
  have c5:W.cell? ⟨w.heap.size,5,none⟩=_:=ag (hb 0 _ rfl) 5
  have c6:W.cell? ⟨w.heap.size,6,none⟩=_:=ag (hb 0 _ rfl) 6
  have d0:W.cell? ⟨B,0,none⟩=some _:=ag hx 0
  have d1:W.cell? ⟨B,1,none⟩=some _:=ag hx 1
  have d2:W.cell? ⟨B,2,none⟩=some _:=ag hx 2
  have d3:W.cell? ⟨B,3,none⟩=some _:=ag hx 3
  have d4:W.cell? ⟨B,4,none⟩=some _:=ag hx 4
  have d5:W.cell? ⟨B,5,none⟩=some _:=ag hx 5
  have d6:W.cell? ⟨B,6,none⟩=some _:=ag hx 6
  have lb1:=(hb.box 1 rfl).lt
  have l0:w.heap.size<W.heap.size:=by omega
  have lB:=ax hx
  have HB:=hide hB
  have Hb:=hide hb
  clear hB hb hx
  gi_wp2_with fail
  refine dm 10 [] [] hm (h:=?_)
  repeat (refine au (fun K hK=>?_);go_simp;first|(refine hK _ ?_;clear hK K)|(apply Exists.intro;refine⟨fun _=>?_,hK _ ?_⟩;(first|(go_at_call 30;first|with_reducible exact k1.out _|with_reducible exact k2.out _)|(go_at_call 20;with_reducible exact k3.out _));clear hK K))
  refine CE fun nq osq=>?_
  try simp only[Act.put,aG]
  try dsimp only
  cases o1
  ·have Ci:=hide (kF.out rfl)
   clear kF Jz
   gi_wp2_with fail
   have hgg:Grew W (grow (dr W nq) osq):=gw
   exact⟨hgg.aV _,iC.grew hgg,⟨HB.out.trans (hgg.below.mono HB.out.size),Hb.out.grew hgg⟩,Ci.out⟩
  ·have HY2:=hide (Jz.out rfl)
   have hbx2:=hide (Hb.out.box 1 rfl)
   have f1:W.frozen? ⟨w.heap.size+1,0,none⟩=_:=hbx2.out.frozen
   have e1:W.cell? ⟨w.heap.size+1,0,none⟩=_:=hbx2.out.cell
   clear kF Jz
   gi_wp2_with fail
   exact⟨jW (b:=w.heap.size+1) sK ⟨_,hbx2.out,rfl⟩,⟨gq (b:=w.heap.size+1) sK HB.out (by omega),(by repeat (with_reducible first|assumption|exact Hid.out (by assumption)|refine dY ?_ _ _|refine Boxed.set (v:=.bool false) _ ?_|refine lX ?_ (Hid.out (by assumption))|(refine dM ?_ (Hid.out (by assumption)))))⟩,rfl,HY2.out⟩
 case done =>
  subst ha
  rintro D xs W hD hS ⟨⟨hB,hb⟩,hp⟩ hK
  have b1:Boxed W (w.heap.size+1) _ _:=hb.box 1 rfl
  have c1:=b1.cell
  have f1:=b1.frozen
  obtain rfl:r=false:=by
   rw[<-HRR.out]
   unfold qg
   rw[List.any_eq_false]
   intro i hi
   rw[<-hS] at hi
   obtain⟨j,hj,rfl⟩:=List.mem_map.1 hi
   rw[hp j hj]
   simp
  have HB:=hide hB
  clear hB hb hS hp b1
  gi_wp2_with fail
  have hK2:=(KeepsOthers.setCell W ⟨w.heap.size+1,0,none⟩ (.bool false)).same D _ hK rfl
  refine⟨by simp,.inl ⟨_,_,rfl,run_takeDeferred hK2,?_⟩⟩
  have hb5:=(HB.out.setCell (p:=⟨w.heap.size+1,0,none⟩) (by simp) (.bool false)).trans (belowK_b (w:=w) (Nat.le_refl _) _ D _ (.deferred none) (by omega) hK2 rfl rfl)
  have e3:((W.setCell ⟨w.heap.size+1,0,none⟩ (.bool false)).putObj D (.deferred none)).cell? ⟨w.heap.size+1,0,none⟩=some (.bool false):=by
   rw[aU (by omega)]
   go_simp
  refine⟨.bool false,by simp[results,Tryz.results59,go_sem,e3],?_⟩
  exact aB.mk' rfl (Grew.of_below hb5)
 case stop =>
  subst ha
  rintro D e pre W hD ⟨k,hk,hr⟩ ⟨⟨hB,hb1⟩,rfl,i,hi,hhi⟩ hK
  have c3:W.cell? ⟨w.heap.size+1,0,none⟩=_:=hb1.cell
  obtain rfl:r=true:=by
   rw[<-HRR.out]
   exact Yn (VL hk (by rw[<-hr];exact List.mem_map_of_mem hi)) hhi
  have HB:=hide hB
  clear hB hb1 hr hi hhi hk HRR
  gi_wp2_with fail
  refine⟨by simp,.inl ⟨_,_,rfl,run_takeDeferred hK,?_⟩⟩
  have hb5:=HB.out.trans (belowK_b (w:=w) (Nat.le_refl _) _ D _ (.deferred none) (by omega) hK rfl rfl)
  have e3:=(aU (W:=W) (D:=D) (i:=0) (o:=.deferred none) (b:=w.heap.size+1) (by omega)).trans c3
  refine⟨.bool true,by simp[results,Tryz.results59,go_sem,e3],?_⟩
  exact aB.mk' rfl (Grew.of_below hb5)
end Go.Proofs.YtlkgjmnjhifehaaGreat
set_option maxHeartbeats 8000000
set_option maxRecDepth 100000
namespace Go.Proofs.YtlkgjmnjhifehaaGreat
open Go.RowKit Go.Sort Go.Lib
attribute [local go_sem] dC steadyUpon
attribute [local go_sem ↓] bQ bJ bg aZ aY aX aW
attribute [local go_sem] bH aN aK size_grow tape_grow cell?_grow' aF aC grow_grow bV bn dZ bZ bW bM aO cO bu bY bK
attribute [local irreducible] wpSteady
theorem adt:(Tryz.prog.info? 61).map (fun i=>(i.zero,i.size,i.bytes))=some (some (.agg #[.int .i64 0,.int .i64 0,.int .i64 0,.int .i64 0,.int .i64 0,.int .i64 0,.int .i64 0]),7,56):=by kernel_rfl
theorem Hr {z:Value}{n b:Nat}(h:(Tryz.prog.info? 61).map (fun i=>(i.zero,i.size,i.bytes))=some (some z,n,b)):∃i,Tryz.prog.info? 61=some i/\i.zero=some z/\i.size=n/\i.bytes=b:=by
 cases hi:Tryz.prog.info? 61 with
 | none=>rw[hi] at h;simp at h
 | some i =>
  rw[hi] at h
  simp at h
  exact⟨i,rfl,h.1,h.2.1,h.2.2⟩
theorem Aa (f:So):f.cells.length=7:=rfl
theorem abl (fs:List So):∀u∈fs.flatMap So.cells,u.oneCell'=true:=by
 intro u hu
 obtain⟨s,_,hs⟩:=List.mem_flatMap.1 hu
 simp[So.cells] at hs
 rcases hs with rfl|rfl|rfl|rfl|rfl|rfl|rfl<;>rfl
theorem Ih {w:World}{base g n cap k:Nat}{fs:List So}(h:w.ownsRow base 61 7 (.slice (some ⟨g,0,none⟩) n cap) n (fs.flatMap So.cells))(hn:n=fs.length)(hk:k<fs.length):SAt w g (k*7) (fU fs k)/\∀j,w.frozen? ⟨g,j,none⟩=false:=by
 have hc:∀ (j:Nat) (v:Value),j<7->(fU fs k).cells[j]?=some v->w.cell? ⟨g,k*7+j,none⟩=some v:=fun j v hj hv=>by
  rw[h.cellAt (k*7+j) (by omega)]
  exact (gV So.cells 7 Aa fs k j v hj).2 ⟨_,kU hk,hv⟩
 exact⟨⟨hc 0 _ (by omega) rfl,hc 1 _ (by omega) rfl,hc 2 _ (by omega) rfl,hc 3 _ (by omega) rfl,hc 4 _ (by omega) rfl,hc 5 _ (by omega) rfl,hc 6 _ (by omega) rfl⟩,fun j=>h.frozenAt j⟩
abbrev adz (W:World)(g o:Nat)(f:So):World:=((((((W.setCell ⟨g,o,none⟩ (.int .i64 f.id)).setCell ⟨g,o+1,none⟩ (.int .i64 f.x)).setCell ⟨g,o+2,none⟩ (.int .i64 f.y)).setCell ⟨g,o+3,none⟩ (.int .i64 f.dn)).setCell ⟨g,o+4,none⟩ (.int .i64 f.lo)).setCell ⟨g,o+5,none⟩ (.int .i64 f.hi)).setCell ⟨g,o+6,none⟩ (.int .i64 f.tm)
theorem GK (f:So):∀ (l:List So) (i:Nat),(((((((l.flatMap So.cells).set (i*7) (.int .i64 f.id)).set (i*7+1) (.int .i64 f.x)).set (i*7+2) (.int .i64 f.y)).set (i*7+3) (.int .i64 f.dn)).set (i*7+4) (.int .i64 f.lo)).set (i*7+5) (.int .i64 f.hi)).set (i*7+6) (.int .i64 f.tm)=(l.set i f).flatMap So.cells
 | [],i=>by simp
 | a::l,0=>by simp[So.cells]
 | a::l,i+1=>by
  have ih:=GK f l i
  rw[List.set_cons_succ,List.flatMap_cons,List.flatMap_cons,<-ih]
  rw[show (i+1)*7=i*7+7 by omega]
  simp[So.cells,show ∀j,i*7+7+j=(i*7+j)+1+1+1+1+1+1+1 by intro j;omega]
theorem U8 {w:World}{base g n cap i:Nat}{fs:List So}(h:w.ownsRow base 61 7 (.slice (some ⟨g,0,none⟩) n cap) n (fs.flatMap So.cells))(f:So):(adz w g (i*7) f).ownsRow base 61 7 (.slice (some ⟨g,0,none⟩) n cap) n ((fs.set i f).flatMap So.cells):=by
 rw[<-GK]
 exact (((((((h.stored _ _).1.stored _ _).1.stored _ _).1.stored _ _).1.stored _ _).1.stored _ _).1.stored _ _).1
theorem Y9 {w W:World}{g o:Nat}{f:So}(h:w.grownBy W (some g)):w.grownBy (adz W g o f) (some g) :=
 eX (eX (eX (eX (eX (eX (eX h))))))
theorem OU (fs:List So)(A:Option Addr)(c:Nat)(w:World)(hr:Rd w w.heap.size 7 A (fs.map So.cells))(hl:fs.length<=1000) :
  Calls Tryz.prog 62 #[.slice A fs.length c] w fun e w'=>∃v,e=.returned v/\w'.ownsRow w.heap.size 61 7 v fs.length (fs.flatMap So.cells)/\Grew w w':=by
 have hm:=aQ
 obtain⟨i0,hi,hz0,hz1,hz2⟩:=Hr adt
 have hrx:=hr.reads Aa (by omega)
 cases A with
 | none =>
  have h0:fs=[]:=by
   rcases hr with h|⟨b,off,h,_⟩
   ·simpa using h
   ·cases h
  subst h0
  have hnil:∀W,(binOp .eql 22 (.slice none 0 c) (.slice none 0 0)).run Tryz.prog W=.ok (.bool true) W:=fun W=>by rw[Lib.run_eql_slice_nil (P:=Tryz.prog) W 22 _ _ _ _ _ _ Tryz.underlying22];rfl
  clear hr hrx
  dsimp only[List.length_nil]
  go_enter Tryz.func62,Tryz.ntmps62
  go_wp2_with fail
  go_ret
  exact⟨_,rfl,World.ownsRow_nil _ _ _ _,gw⟩
 | some a =>
  have hnil:∀W,(binOp .eql 22 (.slice (some a) fs.length c) (.slice none 0 0)).run Tryz.prog W=.ok (.bool false) W:=fun W=>by rw[Lib.run_eql_slice_nil (P:=Tryz.prog) W 22 _ _ _ _ _ _ Tryz.underlying22];rfl
  have HR:=hide hrx
  clear hrx hr
  go_enter Tryz.func62,Tryz.ntmps62
  go_wp2_with (at_builtin;refine jD.stop ?_)
  refine jD.go ?_
  have FM:=World.ownsRow_lit (base:=w.heap.size) (e:=61) (size:=7) w #[] 0 (Nat.le_refl _) (by unfold maxLen;omega) rfl
  refine fK _ rfl (.tmp 5) (.tmp 6) _ rfl w.heap.size 61 i0 _ 7 56 Tryz.underlying22 hi hz0 hz1 hz2 rfl (by omega) _ 0 [] rfl FM w.heap.size (some a) fs.length c (fs.flatMap So.cells) rfl (HR.out.alloc (Nat.le_refl _) _) (abl _) (by simp only[maxLen];omega) (by omega) (by simp) ?_
  intro v' w1 hown1 hg1 _
  rw[Nat.zero_add,List.nil_append] at hown1
  have hb0:Below w.heap.size w (w.alloc (.cells #[] 61)):=(Grew.alloc (Grew.refl w) _).below
  have hb1:Below w.heap.size w w1:=hb0.grown hg1 hb0.size fun q hq=>(FM.lt q hq).1
  have HO:=hide hown1
  have HB:=hide hb1
  clear FM hown1 hg1 hb0 hb1
  go_wp2_with fail
  go_ret
  exact⟨_,rfl,HO.out,Grew.of_below HB.out⟩
def nV (P:So->Bool)(fs:List So)(j:Nat):List So:=(fs.take j).filter fun f => !P f
structure l7 (P:So->Bool) (fs:List So) (j i:Nat) (dk:List So):Prop where
 size:dk.length=fs.length
 lt:i<j
 len:(nV P fs j).length=i
 low:∀m,m<i->dk[m]?=(nV P fs j)[m]?
 high:∀m,j<=m->dk[m]?=fs[m]?
theorem ui {P:So->Bool}{fs:List So}{j:Nat}(h:j<fs.length):nV P fs (j+1)=if P (fU fs j)=true then nV P fs j else nV P fs j++[fU fs j]:=by
 unfold nV
 rw[List.take_add_one,kU h,List.filter_append]
 by_cases hp:P (fU fs j)=true
 ·simp[hp]
 ·simp[hp]
theorem BG {P:So->Bool}{fs:List So}{j:Nat}(h:∀m,m<j->P (fU fs m)=false)(hj:j<=fs.length):nV P fs j=fs.take j:=by
 unfold nV
 rw[List.filter_eq_self]
 intro f hf
 obtain⟨m,hm,e⟩:=List.getElem_of_mem hf
 rw[List.length_take] at hm
 rw[List.getElem_take] at e
 have:=h m (by omega)
 unfold fU at this
 rw[List.getD_eq_getElem?_getD,List.getElem?_eq_getElem (by omega)] at this
 simp only[Option.getD_some] at this
 rw[e] at this
 simp[this]
theorem vN (P:So->Bool)(fs:List So):nV P fs fs.length=fs.filter fun f => !P f:=by unfold nV;rw[List.take_length]
theorem l7.start {P:So->Bool}{fs:List So}{k:Nat}(h:∀m,m<k->P (fU fs m)=false)(hk:k<fs.length)(hp:P (fU fs k)=true):l7 P fs (k+1) k fs:=by
 have e:=ui (P:=P) hk
 rw[if_pos hp,BG h (by omega)] at e
 refine⟨rfl,by omega,by rw[e,List.length_take];omega,fun m hm=>?_,fun m _=>rfl⟩
 rw[e,List.getElem?_take,if_pos hm]
theorem l7.skip {P:So->Bool}{fs dk:List So}{j i:Nat}(h:l7 P fs j i dk)(hj:j<fs.length)(hp:P (fU fs j)=true):l7 P fs (j+1) i dk:=by
 have e:=ui (P:=P) hj
 rw[if_pos hp] at e
 have:=h.lt
 exact⟨h.size,by omega,by rw[e];exact h.len,fun m hm=>by rw[e];exact h.low m hm,fun m hm=>h.high m (by omega)⟩
theorem l7.keep {P:So->Bool}{fs dk:List So}{j i:Nat}(h:l7 P fs j i dk)(hj:j<fs.length)(hp:P (fU fs j)=false):l7 P fs (j+1) (i+1) (dk.set i (fU fs j)):=by
 have e:=ui (P:=P) hj
 rw[if_neg (by simp[hp])] at e
 have hl:=h.len
 have hs:=h.size
 have hlt:=h.lt
 refine⟨by rw[List.length_set];exact hs,by omega,by rw[e,List.length_append];simp[hl],fun m hm=>?_,fun m hm=>?_⟩
 ·rw[e]
  by_cases N8:m=i
  ·subst N8
   rw[List.getElem?_set_self (by omega),List.getElem?_append_right (by omega),hl]
   simp
  ·rw[List.getElem?_set_ne (by omega),h.low m (by omega),List.getElem?_append_left (by omega)]
 ·rw[List.getElem?_set_ne (by omega)]
  exact h.high m (by omega)
theorem l7.done {P:So->Bool}{fs dk:List So}{i:Nat}(h:l7 P fs fs.length i dk):dk.take i=fs.filter (fun f => !P f)/\(fs.filter fun f => !P f).length=i:=by
 have hl:=h.len
 have hs:=h.size
 have hlt:=h.lt
 rw[vN] at hl
 refine⟨?_,hl⟩
 apply List.ext_getElem?
 intro m
 rw[List.getElem?_take]
 by_cases hm:m<i
 ·rw[if_pos hm,h.low m hm,vN]
 ·rw[if_neg hm,List.getElem?_eq_none (by omega)]
theorem DD:∀ (l:List So) (i:Nat),(l.flatMap So.cells).take (i*7)=(l.take i).flatMap So.cells
 | [],i=>by simp
 | a::l,0=>by simp
 | a::l,i+1=>by
  rw[List.take_succ_cons,List.flatMap_cons,List.flatMap_cons,<-DD l i,List.take_append,Aa,show (i+1)*7-7=i*7 by omega,List.take_of_length_le (by rw[Aa];omega)]
theorem Ot (w:World)(b o n c:Nat)(hn:0<n)(hc:∀j,j<n*7->(w.cell? ⟨b,o+j,none⟩).isSome=true)(hf:∀j,j<n*7->w.frozen? ⟨b,o+j,none⟩=false) :
  ∃zs:List Value,∀ty,(Builtin.clear_ #[22] ty #[.slice (some ⟨b,o,none⟩) n c]).run Tryz.prog w=.ok (.tuple #[]) (w.setCells b o zs):=by
 refine⟨(Builtin.zeroCells #[.int .i64 0,.int .i64 0,.int .i64 0,.int .i64 0,.int .i64 0,.int .i64 0,.int .i64 0] n).toList,fun ty=>?_⟩
 have hl:(Builtin.zeroCells #[.int .i64 0,.int .i64 0,.int .i64 0,.int .i64 0,.int .i64 0,.int .i64 0,.int .i64 0] n).toList.length=n*7:=by simp[Builtin.zeroCells]
 have h1:∀v∈(Builtin.zeroCells #[.int .i64 0,.int .i64 0,.int .i64 0,.int .i64 0,.int .i64 0,.int .i64 0,.int .i64 0] n).toList,v.oneCell'=true:=by
  intro v hv
  simp[Builtin.zeroCells] at hv
  obtain⟨a,ha,rfl⟩:=hv
  have:a%7=0\/a%7=1\/a%7=2\/a%7=3\/a%7=4\/a%7=5\/a%7=6:=by omega
  rcases this with h|h|h|h|h|h|h<;>simp[h,Value.oneCell']
 have hst:=run_storeCells_cells (P:=Tryz.prog) b o (Builtin.zeroCells #[.int .i64 0,.int .i64 0,.int .i64 0,.int .i64 0,.int .i64 0,.int .i64 0,.int .i64 0] n).toList 0 w (by rw[hl];simpa using hc) (by rw[hl];simpa using hf) h1
 simp only[Nat.add_zero] at hst
 obtain⟨m,rfl⟩:∃m,n=m+1:=⟨n-1,by omega⟩
 simp[Builtin.clear_,run_underlying Tryz.underlying22,Tryz.zeroValue61,Value.cells,hst]
def aeI (P:So->Bool)(fs:List So)(e:Ending):Prop:=(e=.returned (.int .i64 (-1))/\∀m,m<fs.length->P (fU fs m)=false)\/(∃k:Nat,k<fs.length/\e=.returned (.int .i64 k)/\P (fU fs k)=true/\∀m,m<k->P (fU fs m)=false)
theorem UT (fs:List So)(A:Option Addr)(c R K:Nat)(B:Option Addr)(d:Nat)(ss:List So)(w:World)(hE:FQ w R K B d ss)(hss:ss.length<=1000)(hr:Rd w w.heap.size 7 A (fs.map So.cells))(hc:fs.length<=1000) :
  Calls Tryz.prog 92 #[.slice A fs.length c,.func (.func 59) #[] #[.pointer (some ⟨R,0,none⟩)]] w fun e w'=>aeI (qg ss) fs e/\Grew w w':=by
 have hm:=aQ
 have HR:=hide hr
 have HE:=hide hE
 clear hr hE
 go_enter Tryz.func92,Tryz.ntmps92
 go_wp2_with fail
 go_loopw [8] (fun i wr=>∃m:Nat,m<=fs.length/\i=.int .i64 m/\Grew w wr/\uN (∀j,j<m->qg ss (fU fs j)=false)) (fun i _=>fs.length-(intOf i).toNat)
 case atStart=>exact⟨0,by omega,rfl,gw,fun j hj=>by omega⟩
 case round =>
  obtain⟨m,hmm,rfl,hg,hall⟩:=hrel
  have HG:=hide hg
  have HA:=hide hall.stop
  clear hg hall
  by_cases hlt:m<fs.length
  ·obtain⟨b,off,hA,hb,fc⟩:=Yg (HR.out.up HG.out) hlt
   have hix:=aJ (cap:=c) Tryz.underlying22 Tryz.sizeOf61 hA.out hlt
   obtain⟨u,hu⟩:∃u,qg ss (fU fs m)=u:=⟨_,rfl⟩
   have k1:=hide (fun W (hg:Grew w W)=>UR ss (fU fs m) B d R K u W (HE.out.up hg) hss hu)
   have HU:=hide hu
   obtain⟨c0,c1,c2,c3,c4,c5,c6⟩:=fc
   clear hu hA
   cases u
   ·go_wp2_with (go_at_call 59;with_reducible refine aT (k1.out _ (HG.out.trans gw)) fun _ _=>?_;dsimp only)
    go_roundw
    case rel=>exact⟨m+1,by omega,by go_num,HG.out.trans gw,show ∀j,j<m+1->qg ss (fU fs j)=false from (fun j hj=>by
     by_cases e:j=m
     ·rw[e];exact HU.out
     ·exact HA.out j (by omega))⟩
    case measure=>simp[intOf];omega
   ·go_wp2_with (go_at_call 59;with_reducible refine aT (k1.out _ (HG.out.trans gw)) fun _ _=>?_;dsimp only)
    go_ret
    exact⟨.inr ⟨m,by omega,rfl,HU.out,HA.out⟩,HG.out.trans gw⟩
  ·obtain rfl:m=fs.length:=by omega
   go_wp2_with fail
   go_ret
   exact⟨.inl ⟨rfl,HA.out⟩,HG.out⟩
theorem UU (fs:List So)(v:Value)(base R K:Nat)(B:Option Addr)(d:Nat)(ss:List So)(w:World)(hE:FQ w R K B d ss)(hss:ss.length<=1000)(hKb:K<=base)(hb:base<=w.heap.size)(hown:w.ownsRow base 61 7 v fs.length (fs.flatMap So.cells))(hc:fs.length<=1000) :
  Calls Tryz.prog 61 #[v,.func (.func 59) #[] #[.pointer (some ⟨R,0,none⟩)]] w fun e w'=>∃v',e=.returned v'/\w'.ownsRow base 61 7 v' (fs.filter fun f => !qg ss f).length ((fs.filter fun f => !qg ss f).flatMap So.cells)/\w.grownBy w' v.ownBlock:=by
 have hm:=aQ
 obtain⟨A,c,rfl,hcl,hr⟩:=Rd.ik Aa hown rfl
 have k1:=hide (fun W (hg:Grew w W)=>UT fs A c R K B d ss W (hE.up hg) hss (hr.up hg) hc)
 have HO:=hide hown
 have HE:=hide hE
 clear hown hE hr
 go_enter Tryz.func61,Tryz.ntmps61
 go_wp2_with fail
 refine (k1.out _ gw).mono ?_
 rintro e w' ⟨h,⟨⟨n1,os1⟩,rfl⟩⟩
 rcases h with⟨rfl,hn⟩|⟨i,hi,rfl,h1,h2⟩
 ·have he:(fs.filter fun f => !qg ss f)=fs:=by
   have:=vN (qg ss) fs
   rw[BG hn (Nat.le_refl _),List.take_length] at this
   exact this.symm
  have HQ:=hide he
  clear he hn
  dsimp only
  go_wp2_with fail
  go_ret
  refine⟨_,rfl,?_,?_⟩
  ·rw[HQ.out]
   exact aH HO.out gw
  ·exact Grew.grownBy gw _
 ·obtain⟨g,rfl⟩:∃g,A=some ⟨g,0,none⟩:=by
   rcases HO.out.2 with⟨h',h0⟩|⟨g',cap',cur,h',_⟩
   ·omega
   ·simp only[Value.slice.injEq] at h'
    exact⟨g',h'.1⟩
  have hst:=hide (l7.start h2 hi h1)
  have hg0:=(HO.out.lt g rfl)
  have hi0:0<=(i:Int):=by omega
  have hi1:¬ (i:Int)=-1:=by omega
  have hKg:K<=g:=by omega
  clear h1 h2 k1
  dsimp only
  go_wp2_with fail
  go_loopw [5,6] (fun a j wr=>∃ (i j':Nat) (dk:List So),a=.int .i64 i/\j=.int .i64 j'/\j'<=fs.length/\Hid (l7 (qg ss) fs j' i dk)/\wr.ownsRow base 61 7 (.slice (some ⟨g,0,none⟩) fs.length c) fs.length (dk.flatMap So.cells)/\w.grownBy wr (some g)) (fun _ j _=>fs.length-(intOf j).toNat)
  case atStart=>exact⟨i,i+1,fs,rfl,by go_num,by omega,hst,aH HO.out gw,Grew.grownBy gw _⟩
  case round =>
   obtain⟨i,j,dk,rfl,rfl,hj,hI,hown,hgb⟩:=hrel
   have HW:=hide hown
   have HB:=hide hgb
   have hij:=hI.out.lt
   have hdl:=hI.out.size
   have hz:=hgb.size
   have lg:g<wr.heap.size:=by omega
   clear hst
   by_cases hlt:j<fs.length
   ·obtain⟨fc,hf⟩:=Ih hown hdl.symm (k:=j) (by omega)
    have hfj:fU dk j=fU fs j:=by
     unfold fU
     rw[List.getD_eq_getElem?_getD,hI.out.high j (Nat.le_refl _),<-List.getD_eq_getElem?_getD]
    obtain⟨c0,c1,c2,c3,c4,c5,c6⟩:=fc
    rw[hfj] at c0 c1 c2 c3 c4 c5 c6
    obtain⟨d0,d1,d2,d3,d4,d5,d6⟩:=(Ih hown hdl.symm (k:=i) (by omega)).1
    have hix:=aJ (cap:=c) (k:=j) (len:=fs.length) Tryz.underlying22 Tryz.sizeOf61 (A:=some ⟨g,0,none⟩) rfl hlt
    have hix2:=aJ (cap:=c) (k:=i) (len:=fs.length) Tryz.underlying22 Tryz.sizeOf61 (A:=some ⟨g,0,none⟩) rfl (by omega)
    obtain⟨u,hu⟩:∃u,qg ss (fU fs j)=u:=⟨_,rfl⟩
    have kc:=hide (fun W (hg:Grew wr W)=>UR ss (fU fs j) B d R K u W ((HE.out.gb HB.out (by omega)).up hg) hss hu)
    have HU:=hide hu
    rw[Nat.zero_add] at hix hix2
    clear hfj hown hgb hu
    generalize fU dk i=old at *
    obtain⟨f,Wl⟩:∃f,fU fs j=f:=⟨_,rfl⟩
    rw[Wl] at c0 c1 c2 c3 c4 c5 c6 kc
    have HF:=hide Wl
    clear Wl
    cases u
    ·go_wp2_with (go_at_call 59;with_reducible refine aT (kc.out _ gw) fun _ _=>?_;dsimp only)
     go_roundw
     case rel=>exact⟨i+1,j+1,dk.set i f,by go_num,by go_num,by omega,hide (by rw[<-HF.out];exact hI.out.keep hlt HU.out),aH (U8 HW.out f) gw,mX (Y9 (f:=f) HB.out) gw⟩
     case measure=>simp[intOf];omega
    ·go_wp2_with (go_at_call 59;with_reducible refine aT (kc.out _ gw) fun _ _=>?_;dsimp only)
     go_roundw
     case rel=>exact⟨i,j+1,dk,rfl,by go_num,by omega,hide (hI.out.skip hlt HU.out),aH HW.out gw,mX HB.out gw⟩
     case measure=>simp[intOf];omega
   ·obtain rfl:j=fs.length:=by omega
    obtain⟨zs,Si⟩:=Ot wr g (i*7) (fs.length-i) (c-i) (by omega) (fun t ht=>by
     have:=hown.cellAt (i*7+t) (by omega)
     rw[this,List.getElem?_eq_getElem (by rw[hown.1];omega)]
     rfl) (fun t ht=>hown.frozenAt _)
    obtain⟨hq1,hq2⟩:=hI.out.done
    have HQ:=hide hq1
    have Z9:=hide hq2
    clear hown hgb hq1 hq2
    go_wp2
    go_ret
    refine⟨_,rfl,?_,?_⟩
    ·rw[Z9.out,<-HQ.out,<-DD]
     exact yL zs _ _ (Nat.le_refl _) (DY HW.out (by omega))
    ·exact kM zs _ _ HB.out
def gY (ss:List So):List So:=ss.filter fun x => !qg ss x
def aeH (w:World)(xs:List So)(e:Ending)(w':World):Prop:=∃v',e=.returned v'/\w'.ownsRow w.heap.size 61 7 v' xs.length (xs.flatMap So.cells)/\Grew w w'
theorem own_base {w:World}{b b':Nat}{e:TypeId}{m n:Nat}{v:Value}{xs:List Value}(h:w.ownsRow b e m v n xs)(hle:b'<=b):w.ownsRow b' e m v n xs:=by
 refine⟨h.1,?_⟩
 rcases h.2 with hn|⟨g,cap,cur,rfl,hb,rest⟩
 ·exact .inl hn
 ·exact .inr ⟨g,cap,cur,rfl,by omega,rest⟩
theorem AY (ss:List So)(fs:List FV)(A A':Option Addr)(c c':Nat)(w:World)(hr:Rd w w.heap.size 7 A (ss.map So.cells))(hl:ss.length<=1000) :
  Calls Tryz.prog 26 #[.agg #[.slice A ss.length c,.slice A' fs.length c']] w (aeH w (gY ss)):=by
 have hm:=aQ
 obtain⟨W0,hW0⟩:∃W0,w.alloc (.cells #[.slice A ss.length c,.slice A' fs.length c'] 25)=W0:=⟨_,rfl⟩
 have hg0:Grew w W0:=by rw[<-hW0];exact gw
 have hs0:W0.heap.size=w.heap.size+1:=by rw[<-hW0];simp
 have hb0:W0.heap[w.heap.size]?=some (.cells #[.slice A ss.length c,.slice A' fs.length c'] 25 (0,0)):=by rw[<-hW0];exact heap_alloc_new _ _
 have hE:FQ W0 w.heap.size (w.heap.size+1) A c ss:=⟨ag hb0 0,(hr.grew hg0 (Nat.le_refl _)).mono (by omega),by omega,by omega⟩
 have c0:=ag hb0 0
 have l0:=ax hb0
 have k1:=hide (OU ss A c W0 (hr.up hg0) hl)
 have HE:=hide hE
 have lQ:=hide hg0
 clear hr hE hb0 hg0
 go_enter Tryz.func26,Tryz.ntmps26
 go_wp2_with fail
 refine k1.out.mono ?_
 rintro e w1 ⟨v1,rfl,hown,hg1⟩
 obtain⟨B1,c1,rfl,hcl⟩:=jR hown
 have k2:=hide (fun W (hg:Grew w1 W)=>UU ss (.slice B1 ss.length c1) W0.heap.size w.heap.size (w.heap.size+1) A c ss W ((HE.out.up hg1).up hg) hl (by omega) (Nat.le_trans hg1.below.size hg.below.size) (aH hown hg) hl)
 have iI:=hide hg1
 have HO:=hide hown
 clear hg1 hown k1 c0
 dsimp only
 go_wp2_with fail
 refine (k2.out _ gw).mono ?_
 rintro e w2 ⟨v2,rfl,hown2,hgb⟩
 obtain⟨B2,c2,rfl,Si⟩:=jR hown2
 have hlow:∀q,(Value.slice B1 ss.length c1).ownBlock=some q->W0.heap.size<=q:=fun q hq=>by
  rcases HO.out.2 with⟨h',_⟩|⟨g',cap',cur,h',hbb,_⟩
  ·rw[h'] at hq;cases hq
  ·rw[h'] at hq
   injection hq with hq
   simp at hq
   omega
 have hbel:Below W0.heap.size W0 w2:=iI.out.below.grown hgb iI.out.below.size hlow
 have HB:=hide (Grew.of_below hbel)
 have HR:=hide (own_base hown2 (show w.heap.size<=W0.heap.size by omega))
 clear hgb hown2 hlow hbel k2
 dsimp only
 go_wp2_with fail
 go_ret
 exact⟨_,rfl,HR.out,lQ.out.trans HB.out⟩
end Go.Proofs.YtlkgjmnjhifehaaGreat
set_option maxHeartbeats 8000000
set_option maxRecDepth 100000
namespace Go.Proofs.YtlkgjmnjhifehaaGreat
open Go.RowKit Go.Sort
attribute [local go_sem] dC steadyUpon
attribute [local go_sem ↓] bQ bJ bg aZ aY aX aW
attribute [local go_sem] bH aN aK size_grow tape_grow cell?_grow' aF aC grow_grow bV bn dZ bZ bW bM aO cO bu bY bK
attribute [local irreducible] wpSteady
def CO (fs:List FV):Prop:=fs.Pairwise fun f g=>f.id<g.id
def posOf (fs:List FV)(n:Int):Nat:=(fs.filter fun f=>decide (f.id<n)).length
def qX (fs:List FV)(n:Int):Bool:=fs.any fun f=>decide (f.id=n)
theorem H8 {fs:List FV}(h:CO fs){i j:Nat}(hij:i<j)(hj:j<fs.length):(aP fs i).id<(aP fs j).id:=by
 have h1:=dA (fs:=fs) (k:=i) (by omega)
 have h2:=dA hj
 have h3:=List.getElem?_eq_some_iff.1 h1
 have h4:=List.getElem?_eq_some_iff.1 h2
 have:=List.pairwise_iff_getElem.1 h i j (by omega) hj hij
 rw[h3.2,h4.2] at this
 exact this
theorem pos_eq {fs:List FV}{n:Int}{a:Nat}(ha:a<=fs.length)(h1:∀k,k<a->(aP fs k).id<n)(h2:∀k,a<=k->k<fs.length->n<=(aP fs k).id):posOf fs n=a:=by
 unfold posOf
 conv=>lhs;rw[<-List.take_append_drop a fs]
 rw[List.filter_append,List.length_append]
 have e1:(fs.take a).filter (fun f=>decide (f.id<n))=fs.take a:=by
  rw[List.filter_eq_self]
  intro f hf
  obtain⟨k,hk⟩:=List.getElem?_of_mem hf
  rw[List.getElem?_take] at hk
  split at hk
  ·rename_i hka
   have:=dA (fs:=fs) (k:=k) (by omega)
   rw[this] at hk
   injection hk with hk
   rw[<-hk]
   exact decide_eq_true (h1 k hka)
  ·cases hk
 have e2:(fs.drop a).filter (fun f=>decide (f.id<n))=[]:=by
  rw[List.filter_eq_nil_iff]
  intro f hf
  obtain⟨k,hk⟩:=List.getElem?_of_mem hf
  rw[List.getElem?_drop] at hk
  have hl:=(List.getElem?_eq_some_iff.1 hk).1
  rw[dA hl] at hk
  injection hk with hk
  rw[<-hk]
  have:=h2 (a+k) (by omega) hl
  simp
  omega
 rw[e1,e2,List.length_take]
 simp
 omega
theorem abY {fs:List FV}{n:Int}{k:Nat}(hk:k<fs.length)(h:(aP fs k).id=n):qX fs n=true:=by
 unfold qX
 rw[List.any_eq_true]
 exact⟨_,dL hk,decide_eq_true h⟩
theorem We {fs:List FV}{n:Int}(h:∀k,k<fs.length->(aP fs k).id≠n):qX fs n=false:=by
 unfold qX
 rw[List.any_eq_false]
 intro f hf
 obtain⟨k,hk⟩:=List.getElem?_of_mem hf
 have hl:=(List.getElem?_eq_some_iff.1 hk).1
 rw[dA hl] at hk
 injection hk with hk
 have:=h k hl
 rw[hk] at this
 simpa using this
theorem aes (f:FV)(w:World):Calls Tryz.prog 28 #[f.val] w (aB w (.int .i64 f.id)):=by
 have hm:=aQ
 obtain⟨id,kind,x,y,dn,aA,ac,area,dep,sym,sA,sc,secs⟩:=f
 unfold FV.val
 dsimp only
 generalize area.length=na at *
 generalize secs.length=ns at *
 go_enter Tryz.func28,Tryz.ntmps28
 go_wp2_with fail
 go_ret
 exact aB.mk' rfl gw
theorem P9 (f:FV)(n:Int)(K:Nat)(w:World)(hK:w.cell? ⟨K,0,none⟩=some (.func (.func 28) #[] #[])):Calls Tryz.prog 64 #[f.val,.int .i64 n,.pointer (some ⟨K,0,none⟩)] w (aB w (.int .i64 (sg (f.id-n)))):=by
 have hm:=aQ
 have k1:=hide (fun W=>aes f W)
 have k2:=hide (fun W=>gW f.id n W)
 have lK:=cell_lt hK
 obtain⟨id,kind,x,y,dn,aA,ac,area,dep,sym,sA,sc,secs⟩:=f
 unfold FV.val at *
 dsimp only at *
 generalize area.length=na at *
 generalize secs.length=ns at *
 generalize sg (id-n)=z at *
 go_enter Tryz.func64,Tryz.ntmps64
 go_wp2_with (first|(go_at_call 28;with_reducible refine aT (k1.out _) fun _ _=>?_;dsimp only)|(go_at_call 65;with_reducible refine aT (k2.out _) fun _ _=>?_;dsimp only))
 go_ret
 exact aB.mk' rfl gw
theorem aeC (fs:List FV)(n:Int)(K:Nat)(A:Option Addr)(c:Nat)(w:World)(hr:Rd w w.heap.size 9 A (fs.map FV.cells))(hc:fs.length<=1000)(hs:CO fs)(hK:w.cell? ⟨K,0,none⟩=some (.func (.func 28) #[] #[])) :
  Calls Tryz.prog 63 #[.slice A fs.length c,.int .i64 n,.func (.func 64) #[] #[.pointer (some ⟨K,0,none⟩)]] w (aB w (.tuple #[.int .i64 (posOf fs n),.bool (qX fs n)])):=by
 have hm:=aQ
 have HR:=hide hr
 have HM:=hide (fun i j=>@H8 fs hs i j)
 have HKc:=hide hK
 have lK:=cell_lt hK
 clear hr hs hK
 obtain⟨P0,hP0⟩:∃p,posOf fs n=p:=⟨_,rfl⟩
 obtain⟨O0,hO0⟩:∃p,qX fs n=p:=⟨_,rfl⟩
 rw[hP0,hO0]
 have HP0:=hide hP0
 have HO0:=hide hO0
 clear hP0 hO0
 go_enter Tryz.func63,Tryz.ntmps63
 go_wp2_with fail
 go_loopw [9,10] (fun i j wr=>∃a b:Nat,i=.int .i64 a/\j=.int .i64 b/\a<=b/\b<=fs.length/\Grew w wr/\uN ((∀k,k<a->(aP fs k).id<n)/\(∀k,b<=k->k<fs.length->n<=(aP fs k).id))) (fun i j _=>(intOf j-intOf i).toNat)
 case atStart=>exact⟨0,fs.length,rfl,rfl,by omega,by omega,gw,show _/\_ from ⟨fun k h=>by omega,fun k h1 h2=>by omega⟩⟩
 case round =>
  obtain⟨a,b,rfl,rfl,hab,hbN,hg,hinv⟩:=hrel
  have HG:=hide hg
  have HI:=hide hinv.stop
  have hcK:=(hg.below.cell (p:=⟨K,0,none⟩) lK).trans HKc.out
  have HCK:=hide hcK
  clear hg hinv hcK
  by_cases hlt:a<b
  ·obtain⟨k,hk⟩:∃k:Nat,((a:Int)+(b:Int)) / 2=(k:Int):=⟨(a+b) / 2,by omega⟩
   have hk1:a<=k/\k<b:=by omega
   have hkl:k<fs.length:=by omega
   obtain⟨bb,off,hA,hbb,fc⟩:=rowAt (HR.out.up HG.out) hkl
   have hix:=aJ (cap:=c) Tryz.underlying23 Tryz.sizeOf65 hA.out hkl
   have kf:=hide (fun W (h:Grew wr W)=>P9 (aP fs k) n K W ((h.below.cell (p:=⟨K,0,none⟩) (cell_lt HCK.out)).trans HCK.out))
   have hsg:=dN ((aP fs k).id-n)
   obtain⟨g,hgg⟩:∃g,sg ((aP fs k).id-n)=g:=⟨_,rfl⟩
   rw[hgg] at kf hsg
   obtain⟨F,hF⟩:∃F,aP fs k=F:=⟨_,rfl⟩
   rw[hF] at kf hsg fc
   have HS:=hide hsg
   have HF:=hide hF
   obtain⟨c0,c1,c2,c3,c4,c5,c6,c7,c8⟩:=fc
   have lbb:bb<wr.heap.size:=by have:=HG.out.below.size;omega
   clear hA hgg hsg hF
   obtain⟨id,kind,x,y,dn,aA,ac,area,dep,sym,sA,sc,secs⟩:=F
   unfold FV.val at kf
   dsimp only at *
   generalize area.length=na at *
   generalize secs.length=ns at *
   by_cases hg0:g<0
   ·go_wp2_with (go_at_call 64;with_reducible refine aT (kf.out _ gw) fun _ _=>?_;dsimp only)
    go_roundw
    case rel=>exact⟨k+1,b,by go_num,rfl,by omega,hbN,HG.out.trans gw,show _/\_ from ⟨fun x hx=>by
     have h9:=HS.out
     have h8:=congrArg FV.id HF.out
     dsimp only at h8
     rcases Nat.lt_or_ge x k with h|h
     ·have:=HM.out x k h hkl;omega
     ·obtain rfl:x=k:=by omega
      omega,HI.out.2⟩⟩
    case measure=>simp[intOf];omega
   ·go_wp2_with (go_at_call 64;with_reducible refine aT (kf.out _ gw) fun _ _=>?_;dsimp only)
    go_roundw
    case rel=>exact⟨a,k,rfl,by go_num,by omega,by omega,HG.out.trans gw,show _/\_ from ⟨HI.out.1,fun x hx hxl=>by
     have h9:=HS.out
     have h8:=congrArg FV.id HF.out
     dsimp only at h8
     rcases Nat.lt_or_ge k x with h|h
     ·have:=HM.out k x h hxl;omega
     ·obtain rfl:x=k:=by omega
      omega⟩⟩
    case measure=>simp[intOf];omega
  ·obtain rfl:a=b:=by omega
   have hpa:P0=a:=by rw[<-HP0.out];exact pos_eq hbN HI.out.1 HI.out.2
   subst hpa
   by_cases hn:P0<fs.length
   ·obtain⟨bb,off,hA,hbb,fc⟩:=rowAt (HR.out.up HG.out) hn
    have hix:=aJ (cap:=c) Tryz.underlying23 Tryz.sizeOf65 hA.out hn
    have kf:=hide (fun W (h:Grew wr W)=>P9 (aP fs P0) n K W ((h.below.cell (p:=⟨K,0,none⟩) (cell_lt HCK.out)).trans HCK.out))
    have hsg:=dN ((aP fs P0).id-n)
    obtain⟨g,hgg⟩:∃g,sg ((aP fs P0).id-n)=g:=⟨_,rfl⟩
    rw[hgg] at kf hsg
    have hO:(g==0)=O0:=by
     rw[<-HO0.out]
     by_cases h0:g=0
     ·rw[h0,abY hn (by omega)];rfl
     ·rw[We (n:=n) fun k hk=>?_]
      ·simpa using h0
      ·rcases Nat.lt_trichotomy k P0 with h|rfl|h
       ·have:=HI.out.1 k h;omega
       ·omega
       ·have:=HM.out P0 k h hk
        have:=HI.out.2 P0 (Nat.le_refl _) hn
        omega
    obtain⟨F,hF⟩:∃F,aP fs P0=F:=⟨_,rfl⟩
    rw[hF] at kf hsg fc
    obtain⟨c0,c1,c2,c3,c4,c5,c6,c7,c8⟩:=fc
    have lbb:bb<wr.heap.size:=by have:=HG.out.below.size;omega
    clear hA hgg hsg hF
    subst hO
    obtain⟨id,kind,x,y,dn,aA,ac,area,dep,sym,sA,sc,secs⟩:=F
    unfold FV.val at kf
    dsimp only at *
    generalize area.length=na at *
    generalize secs.length=ns at *
    go_wp2_with (go_at_call 64;with_reducible refine aT (kf.out _ gw) fun _ _=>?_;dsimp only)
    go_ret2
    exact⟨rfl,HG.out.trans gw⟩
   ·have hO:false=O0:=by
     rw[<-HO0.out]
     exact (We fun k hk=>by have:=HI.out.1 k (by omega);omega).symm
    subst hO
    go_wp2_with fail
    go_ret2
    exact⟨rfl,HG.out.trans gw⟩
theorem WI (fs:List FV)(n:Int)(A:Option Addr)(c:Nat)(w:World)(hr:Rd w w.heap.size 9 A (fs.map FV.cells))(hc:fs.length<=1000)(hs:CO fs) :
  Calls Tryz.prog 27 #[.slice A fs.length c,.func (.func 28) #[] #[],.int .i64 n] w (aB w (.tuple #[.int .i64 (posOf fs n),.bool (qX fs n)])):=by
 have hm:=aQ
 have hg1:Grew w (w.alloc (.cells #[.func (.func 28) #[] #[]] 77 (0,0))):=gw
 have kb:=hide (aeC fs n w.heap.size A c _ (hr.up hg1) hc hs (ag (heap_alloc_new _ _) 0))
 generalize posOf fs n=P0 at *
 generalize qX fs n=O0 at *
 clear hr hs hg1
 go_enter Tryz.func27,Tryz.ntmps27
 go_wp2_with (go_at_call 63;with_reducible refine aT (kb.out) fun _ _=>?_;dsimp only)
 go_ret2
 exact aB.mk' rfl gw
end Go.Proofs.YtlkgjmnjhifehaaGreat
