
import Derived.Test.YtlkgjmnjhifehaaGreatPoa
import Derived.Test.YtlkgjmnjhifehaaGreatRegV
import Derived.Test.YtlkgjmnjhifehaaGreatPgX
import Derived.Test.YtlkgjmnjhifehaaGreatFeE
set_option linter.unusedSimpArgs false
set_option linter.unusedVariables false
set_option maxHeartbeats 8000000
set_option maxRecDepth 100000
namespace Go.Proofs.YtlkgjmnjhifehaaGreat
open Go.RowKit Go.Sort Go.Lib
attribute [local go_sem] dA steadyUpon
attribute [local go_sem ↓] bU bI aX aW aV aU aT
attribute [local go_sem] bH aK aJ size_grow tape_grow cell?_grow' aF aB grow_grow bW aY dR cO bY bK aN cZ aZ bZ bJ
attribute [local irreducible] wpSteady
attribute [local go_sem] Oper.semAt_some
structure So where
 id:Int
 x:Int
 y:Int
 dC:Int
 lo:Int
 hi:Int
 tm:Int
instance:Inhabited So:=⟨⟨0,0,0,0,0,0,0⟩⟩
abbrev So.val (s:So):Value:=.agg #[.int .i64 s.id,.int .i64 s.x,.int .i64 s.y,.int .i64 s.dC,.int .i64 s.lo,.int .i64 s.hi,.int .i64 s.tm]
def So.cells (s:So):List Value:=[.int .i64 s.id,.int .i64 s.x,.int .i64 s.y,.int .i64 s.dC,.int .i64 s.lo,.int .i64 s.hi,.int .i64 s.tm]
structure SAt (W:World) (b o:Nat) (s:So):Prop where
 c0:W.cell? ⟨b,o,none⟩=some (.int .i64 s.id)
 c1:W.cell? ⟨b,o+1,none⟩=some (.int .i64 s.x)
 c2:W.cell? ⟨b,o+2,none⟩=some (.int .i64 s.y)
 c3:W.cell? ⟨b,o+3,none⟩=some (.int .i64 s.dC)
 c4:W.cell? ⟨b,o+4,none⟩=some (.int .i64 s.lo)
 c5:W.cell? ⟨b,o+5,none⟩=some (.int .i64 s.hi)
 c6:W.cell? ⟨b,o+6,none⟩=some (.int .i64 s.tm)
def gI (ss:List So)(k:Nat):So:=ss.getD k default
theorem l7 {ss:List So}{k:Nat}(h:k<ss.length):ss[k]?=some (gI ss k):=by
 unfold gI
 rw[List.getD_eq_getElem?_getD,List.getElem?_eq_getElem h]
 rfl
theorem Ie {ss:List So}{k:Nat}(h:k<ss.length):gI ss k∈ss:=List.mem_of_getElem? (l7 h)
theorem abC {w:World}{B:Nat}{A:Option Addr}{ss:List So}{k:Nat}(h:Rd w B 7 A (ss.map So.cells))(hk:k<ss.length) :
  ∃b off,Hid (A=some ⟨b,off,none⟩)/\b<B/\SAt w b (off+k*7) (gI ss k):=by
 obtain⟨b,off,hA,hb,hc⟩:=h.at_ (k:=k) (x:=(gI ss k).cells) (by simp[l7 hk])
 exact⟨b,off,hA,hb,hc 0 _ rfl,hc 1 _ rfl,hc 2 _ rfl,hc 3 _ rfl,hc 4 _ rfl,hc 5 _ rfl,hc 6 _ rfl⟩
def Bf (x y:So):Bool:=decide (x.tm<y.tm\/(x.tm=y.tm/\x.id<y.id))
def kG (x:So)(ss:List So)(k:Nat):List Nat:=(List.range k).filter fun i=>Bf x (gI ss i)
theorem V5 {x:So}{ss:List So}{k:Nat}(h:Bf x (gI ss k)=true):kG x ss (k+1)=kG x ss k++[k]:=by
 unfold kG
 rw[List.range_succ,List.filter_append]
 simp[h]
theorem Y3 {x:So}{ss:List So}{k:Nat}(h:Bf x (gI ss k)=false):kG x ss (k+1)=kG x ss k:=by
 unfold kG
 rw[List.range_succ,List.filter_append]
 simp[h]
theorem V7 (x:So)(ss:List So)(k:Nat):(kG x ss k).length<=k:=by
 unfold kG
 have:=List.length_filter_le (fun i=>Bf x (gI ss i)) (List.range k)
 simpa using this
def encS (ss:List So)(i:Fin ss.length):Array Value:=#[(gI ss i.1).val]
theorem RU (A:Option Addr)(n c:Nat)(s:So)(w:World) :
  Calls Tryz.prog 60 #[.slice A n c,s.val] w fun e w'=>e=.returned (.func (.func 90) #[] #[.pointer (some ⟨w.heap.size,0,none⟩),.pointer (some ⟨w.heap.size+1,0,none⟩)])/\(w.alloc (.cells #[.slice A n c] 22 (0,0))).alloc (.cells #[.int .i64 s.id,.int .i64 s.x,.int .i64 s.y,.int .i64 s.dC,.int .i64 s.lo,.int .i64 s.hi,.int .i64 s.tm] 61 (0,0))=w':=by
 obtain⟨s0,s1,s2,s3,s4,s5,s6⟩:=s
 dsimp only
 go_enter Tryz.func60,Tryz.ntmps60
 go_wp2
 go_ret
 exact⟨by simp,rfl⟩
theorem I5 (n K:Nat)(M:Nat->TypeId->Prop)(ss:List So)(A:Option Addr)(c B B2:Nat)(x:So)(w:World)(hM:∀b T,M b T->(K<=b/\b<w.heap.size)/\(b≠B/\b≠B2))(hB:w.heap[B]?=some (.cells #[.slice A ss.length c] 22 (0,0)))
  (hB2:w.heap[B2]?=some (.cells #[.int .i64 x.id,.int .i64 x.x,.int .i64 x.y,.int .i64 x.dC,.int .i64 x.lo,.int .i64 x.hi,.int .i64 x.tm] 61 (0,0))) (hr:Rd w K 7 A (ss.map So.cells)) (hK:K<=w.heap.size) (hl:ss.length<=1000000) :
  SeqStopsK Fence.wide n Tryz.prog 90 #[.pointer (some ⟨B,0,none⟩),.pointer (some ⟨B2,0,none⟩)] (encS ss) (gW M) (fun xs=>xs.map Fin.val=kG x ss ss.length) (fun pre=>∃k,k<=ss.length/\pre.map Fin.val=kG x ss k) ss.length w:=by
 intro l J Jx W hW hJ hJx hY h0
 have hm:=aP
 have HR:=hide ((hr.below (hW.mono hK)))
 have hBW:W.heap[B]?=some _:=(hW.block B (au hB)).trans hB
 have hBW2:W.heap[B2]?=some _:=(hW.block B2 (au hB2)).trans hB2
 have c0:W.cell? ⟨B,0,none⟩=some (.slice A ss.length c):=by rw[ag hBW];rfl
 have c1:W.cell? ⟨B2,0,none⟩=some (.int .i64 x.id):=by rw[ag hBW2];rfl
 have c2:W.cell? ⟨B2,6,none⟩=some (.int .i64 x.tm):=by rw[ag hBW2];rfl
 have hMK:Hid (∀b T,b<K->¬ M b T):=hide (fun b T hb h=>by have:=(hM b T h).1.1;omega)
 have SK:Hid (∀T,¬ M B T):=hide (fun T h=>(hM B T h).2.1 rfl)
 have KY:Hid (∀T,¬ M B2 T):=hide (fun T h=>(hM B2 T h).2.2 rfl)
 have hMW:Hid (∀b T,w.heap.size<=b->¬ M b T):=hide (fun b T hb h=>by have:=(hM b T h).1.2;omega)
 have hKW:K<=W.heap.size:=Nat.le_trans hK hW.size
 have Sm:=hW.size
 have HJ:=hide hJ
 have HJx:=hide hJx
 have HY:=hide hY
 have H0:=hide h0
 clear hr hM hJ hJx hY h0 hW hB hBW hB2 hBW2
 refine callsIn_of_wp Tryz.func90 rfl trivial ?_ rfl
 simp only[Tryz.ntmps90,List.size_toArray,List.length_cons,List.length_nil,Nat.reduceAdd,Nat.reduceSub,Array.replicate_succ,Array.replicate_zero,List.push_toArray,List.append_toArray,List.nil_append,List.cons_append]
 gi_wp2_with fail
 gi_loopw [8] (fun i wr=>∃ (k:Nat) (pre:List (Fin ss.length)),k<=ss.length/\i=.int .i64 k/\pre.map Fin.val=kG x ss k/\J pre wr/\Rd wr K 7 A (ss.map So.cells)/\wr.cell? ⟨B,0,none⟩=some (.slice A ss.length c)/\(wr.cell? ⟨B2,0,none⟩=some (.int .i64 x.id)/\wr.cell? ⟨B2,6,none⟩=some (.int .i64 x.tm))/\W.heap.size<=wr.heap.size) (fun i _=>ss.length-(intOf i).toNat)
 case atStart=>exact⟨0,[],by omega,rfl,rfl,H0.out,HR.out,c0,⟨c1,c2⟩,Nat.le_refl _⟩
 case round =>
  obtain⟨k,pre,hk,rfl,hpre,hJ,hrd,hcB,⟨acn,SH⟩,hsz⟩:=hrel
  have lV:pre.length<=k:=by have:=congrArg List.length hpre;have:=V7 x ss k;simp only[List.length_map] at *;omega
  have kW:=hide hpre
  clear c0 c1 c2 hpre
  by_cases hlt:k<ss.length
  ·obtain⟨b,off,hA,hb,fc⟩:=abC hrd hlt
   have hix:=aO (cap:=c) Tryz.underlying22 Tryz.sizeOf61 hA.out hlt
   have hbw:b<wr.heap.size:=by omega
   have hBw:B<wr.heap.size:=cell_lt hcB
   have hBw2:B2<wr.heap.size:=cell_lt acn
   obtain⟨u,hu⟩:∃u,Bf x (gI ss k)=u:=⟨_,rfl⟩
   have HU:=hide hu
   obtain⟨f,hf⟩:∃f,gI ss k=f:=⟨_,rfl⟩
   have HFK:=hide hf
   rw[hf] at fc hu
   obtain⟨z,hz,hzu⟩:∃z:Int,((sg (f.tm-x.tm)≠0/\z=sg (f.tm-x.tm))\/(sg (f.tm-x.tm)=0/\z=sg (f.id-x.id)))/\decide (0<z)=u:=by
    unfold Bf at hu
    rcases dN (f.tm-x.tm) with⟨h,e⟩|⟨h,e⟩|⟨h,e⟩
    ·refine⟨sg (f.tm-x.tm),.inl ⟨by omega,rfl⟩,?_⟩
     rw[<-hu,Bool.eq_iff_iff,decide_eq_true_eq,decide_eq_true_eq]
     omega
    ·refine⟨sg (f.id-x.id),.inr ⟨by omega,rfl⟩,?_⟩
     rw[<-hu,Bool.eq_iff_iff,decide_eq_true_eq,decide_eq_true_eq]
     rcases dN (f.id-x.id) with⟨h',e'⟩|⟨h',e'⟩|⟨h',e'⟩<;>omega
    ·refine⟨sg (f.tm-x.tm),.inl ⟨by omega,rfl⟩,?_⟩
     rw[<-hu,Bool.eq_iff_iff,decide_eq_true_eq,decide_eq_true_eq]
     omega
   have k1:=hide (fun W=>ik f.tm x.tm W)
   have k2:=hide (fun W=>ik f.id x.id W)
   have HZ:=hide hz
   obtain⟨d0,d1,d2,d3,d4,d5,d6⟩:=fc
   have FZ:=hide hrd
   have O1:=hide lV
   have CG:=hide hJ
   have HcB:=hide hcB
   have acS:=hide acn
   have JC:=hide SH
   clear hrd hJ lV hf hu hA hz
   obtain⟨f0,f1,f2,f3,f4,f5,f6⟩:=f
   dsimp only at d0 d1 d2 d3 d4 d5 d6 k1 k2 HZ
   generalize sg (f6-x.tm)=zx at *
   generalize sg (f0-x.id)=zy at *
   gi_wp2_with fail
   refine V.DD 10 [] [] hm (h:=?_)
   repeat (refine ax (fun K hK=>?_);go_simp;first|(refine hK _ ?_;clear hK K)|(apply Exists.intro;refine⟨fun _=>?_,hK _ ?_⟩;(go_at_call 65;first|with_reducible exact k1.out _|with_reducible exact k2.out _);clear hK K))
   refine dZ ?_
   refine⟨ja.nil,nT.nil,?_⟩
   rintro psq FI Wq ⟨⟨nq,osq⟩,rfl⟩ F6 F8
   obtain rfl:psq=[]:=F6
   obtain rfl:FI=[]:=F8
   simp only[putAll,putB,Act.put,aG]
   try dsimp only
   intro fq hfq
   obtain⟨fq,rfl⟩:∃f,fq=f+9:=⟨fq-9,by simp at hfq;omega⟩
   clear hfq
   refine wpAnyIn_ready (rs:=[10]) (by kernel_rfl) (by simp) ?_
   refine AllReadyIn.cons (o:=_) rfl (fun K hK=>?_) AllReadyIn.nil
   go_simp
   refine hK _ _ ?_
   clear hK K
   refine wpAnyIn_ready (rs:=[11]) (by kernel_rfl) (by simp) ?_
   refine AllReadyIn.cons (o:=_) rfl (fun K hK=>?_) AllReadyIn.nil
   go_simp
   refine⟨trivial,(fun h=>by cases h),?_⟩
   refine (callsIn_wide.2 (uU zx zy z _ _ HZ.out (by go_simp) (by go_simp) (by go_simp))).mono ?_
   rintro e w6 ⟨rfl,Yh⟩
   have hg5:Grew wr w6:=Grew.trans gw Yh
   have hbx:w6.heap[wr.heap.size]?=some (.cells #[.int .i64 f0,.int .i64 f1,.int .i64 f2,.int .i64 f3,.int .i64 f4,.int .i64 f5,.int .i64 f6] 61 (0,0)) :=
    (Grew.heap (w:=wr.alloc (.cells #[.int .i64 f0,.int .i64 f1,.int .i64 f2,.int .i64 f3,.int .i64 f4,.int .i64 f5,.int .i64 f6] 61)) (Grew.trans gw Yh) (by simp)).trans (heap_alloc_new _ _)
   dsimp only
   refine hK _ _ ?_
   clear hK K Yh d0 d1 d2 d3 d4 d5 d6 hcB acn SH
   have mF:=hide hbx
   have d0:=ag hbx 0
   have d1:=ag hbx 1
   have d2:=ag hbx 2
   have d3:=ag hbx 3
   have d4:=ag hbx 4
   have d5:=ag hbx 5
   have d6:=ag hbx 6
   have lbx:=au hbx
   clear hbx
   cases u
   ·have hzn:decide (0<z)=false:=hzu
    have F7:Hid (pre.map Fin.val=kG x ss (k+1)):=hide (by rw[kW.out,Y3 HU.out])
    have EC:=HJ.out _ _ _ none CG.out (hg5.grownBy none) (fun r hr=>by cases hr)
    have HJ5:=hide EC
    have vC:=hide hg5
    clear EC hg5
    refine wpAnyIn_ready (rs:=[12]) (by kernel_rfl) (by simp) ?_
    refine AllReadyIn.cons (o:=_) rfl (fun K hK=>?_) AllReadyIn.nil
    go_simp
    refine hK _ _ ?_
    clear hK K
    refine wpAnyIn_ready (rs:=[13]) (by kernel_rfl) (by simp) ?_
    refine AllReadyIn.cons (o:=_) rfl (fun K hK=>?_) AllReadyIn.nil
    go_simp
    refine hK _ _ ?_
    clear hK K
    refine wpAnyIn_ready (rs:=[14,15]) (by kernel_rfl) (by simp) ?_
    refine AllReadyIn.cons (o:=_) rfl (fun K hK=>?_) (AllReadyIn.cons (o:=_) rfl (fun K hK=>?_) AllReadyIn.nil)
    all_goals
     go_simp
     refine hK _ _ ?_
     clear hK K
    ·skip
     refine wpAnyIn_ready (rs:=[15]) (by kernel_rfl) (by simp) ?_
     refine AllReadyIn.cons (o:=_) rfl (fun K hK=>?_) AllReadyIn.nil
     go_simp
     refine hK _ _ ?_
     clear hK K
     refine wpAnyIn_ready (rs:=[16]) (by kernel_rfl) (by simp) ?_
     refine AllReadyIn.cons (o:=_) rfl (fun K hK=>?_) AllReadyIn.nil
     go_simp
     refine⟨(fun _ _=>trivial),hK _ _ ?_⟩
     clear hK K
     refine wpAnyIn_ready (rs:=[17]) (by kernel_rfl) (by simp) ?_
     refine AllReadyIn.cons (o:=_) rfl (fun K hK=>?_) AllReadyIn.nil
     go_simp
     refine hK _ _ ?_
     clear hK K
     refine wpAnyIn_ready (rs:=[18]) (by kernel_rfl) (by simp) ?_
     refine AllReadyIn.cons (o:=_) rfl (fun K hK=>?_) AllReadyIn.nil
     go_simp
     refine hK _ _ ?_
     clear hK K
     refine wpAnyIn_done (by kernel_rfl) ?_ _
     gi_wp2_with fail
     go_roundw
     case rel=>exact⟨k+1,pre,by omega,by go_num,F7.out,HJ5.out,FZ.out.grew vC.out (by omega),(vC.out.below.cell (p:=⟨B,0,none⟩) hBw).trans HcB.out,⟨(vC.out.below.cell (p:=⟨B2,0,none⟩) hBw2).trans acS.out,(vC.out.below.cell (p:=⟨B2,6,none⟩) hBw2).trans JC.out⟩,by have:=vC.out.below.size;omega⟩
     case measure=>simp[intOf];omega
    ·skip
     refine wpAnyIn_ready (rs:=[14]) (by kernel_rfl) (by simp) ?_
     refine AllReadyIn.cons (o:=_) rfl (fun K hK=>?_) AllReadyIn.nil
     go_simp
     refine hK _ _ ?_
     clear hK K
     refine wpAnyIn_ready (rs:=[16]) (by kernel_rfl) (by simp) ?_
     refine AllReadyIn.cons (o:=_) rfl (fun K hK=>?_) AllReadyIn.nil
     go_simp
     refine⟨(fun _ _=>trivial),hK _ _ ?_⟩
     clear hK K
     refine wpAnyIn_ready (rs:=[17]) (by kernel_rfl) (by simp) ?_
     refine AllReadyIn.cons (o:=_) rfl (fun K hK=>?_) AllReadyIn.nil
     go_simp
     refine hK _ _ ?_
     clear hK K
     refine wpAnyIn_ready (rs:=[18]) (by kernel_rfl) (by simp) ?_
     refine AllReadyIn.cons (o:=_) rfl (fun K hK=>?_) AllReadyIn.nil
     go_simp
     refine hK _ _ ?_
     clear hK K
     refine wpAnyIn_done (by kernel_rfl) ?_ _
     gi_wp2_with fail
     go_roundw
     case rel=>exact⟨k+1,pre,by omega,by go_num,F7.out,HJ5.out,FZ.out.grew vC.out (by omega),(vC.out.below.cell (p:=⟨B,0,none⟩) hBw).trans HcB.out,⟨(vC.out.below.cell (p:=⟨B2,0,none⟩) hBw2).trans acS.out,(vC.out.below.cell (p:=⟨B2,6,none⟩) hBw2).trans JC.out⟩,by have:=vC.out.below.size;omega⟩
     case measure=>simp[intOf];omega
   ·have hzn:decide (0<z)=true:=hzu
    have hk0:=HU.out
    have F7:Hid ((pre++[(⟨k,hlt⟩:Fin ss.length)]).map Fin.val=kG x ss (k+1)):=hide (by rw[List.map_append,kW.out,V5 hk0];rfl)
    have henc:encS ss ⟨k,hlt⟩=#[.agg #[.int .i64 f0,.int .i64 f1,.int .i64 f2,.int .i64 f3,.int .i64 f4,.int .i64 f5,.int .i64 f6]]:=by
     show #[(gI ss k).val]=_
     rw[HFK.out]
    have EC:=HJ.out _ _ _ none CG.out (hg5.grownBy none) (fun r hr=>by cases hr)
    obtain⟨Zp,YB,ZX,ZR,hy1,hR1⟩:=HY.out _ ⟨k,hlt⟩ _ EC (by have:=O1.out;omega)
    rw[henc] at hy1
    have HR1:=hide hR1
    have HR5:=hide (FZ.out.grew hg5 (by omega))
    have HC5:=hide ((hg5.below.cell (p:=⟨B,0,none⟩) hBw).trans HcB.out)
    have HC6:=hide ((hg5.below.cell (p:=⟨B2,0,none⟩) hBw2).trans acS.out)
    have HC7:=hide ((hg5.below.cell (p:=⟨B2,6,none⟩) hBw2).trans JC.out)
    clear hR1 hg5 EC henc
    refine wpAnyIn_ready (rs:=[12]) (by kernel_rfl) (by simp) ?_
    refine AllReadyIn.cons (o:=_) rfl (fun K hK=>?_) AllReadyIn.nil
    go_simp
    refine hK _ _ ?_
    clear hK K
    refine wpAnyIn_ready (rs:=[13]) (by kernel_rfl) (by simp) ?_
    refine AllReadyIn.cons (o:=_) rfl (fun K hK=>?_) AllReadyIn.nil
    go_simp
    refine hK _ _ ?_
    clear hK K
    refine wpAnyIn_ready (rs:=[14,15]) (by kernel_rfl) (by simp) ?_
    refine AllReadyIn.cons (o:=_) rfl (fun K hK=>?_) (AllReadyIn.cons (o:=_) rfl (fun K hK=>?_) AllReadyIn.nil)
    all_goals
     go_simp
     refine hK _ _ ?_
     clear hK K
    refine wpAnyIn_ready (rs:=[15]) (by kernel_rfl) (by simp) ?_
    refine AllReadyIn.cons (o:=_) rfl (fun K hK=>?_) AllReadyIn.nil
    go_simp
    refine hK _ _ ?_
    clear hK K
    rotate_left
    refine wpAnyIn_ready (rs:=[14]) (by kernel_rfl) (by simp) ?_
    refine AllReadyIn.cons (o:=_) rfl (fun K hK=>?_) AllReadyIn.nil
    go_simp
    refine hK _ _ ?_
    clear hK K
    all_goals
     refine wpAnyIn_ready (rs:=[16]) (by kernel_rfl) (by simp) ?_
     refine AllReadyIn.cons (o:=_) rfl (fun K hK=>?_) AllReadyIn.nil
     go_simp
     refine⟨(fun h=>by cases h),?_⟩
     refine HR1.out.mono ?_
     rintro e W3 (⟨rfl,hJ3,hk3⟩|⟨rfl,hJx3⟩)
     ·have xM:=HR5.out.kpm hk3 hMK.out
      have hc3:=hk3.cell SK.out HC5.out
      have hc4:=hk3.cell KY.out HC6.out
      have hc5:=hk3.cell KY.out HC7.out
      have hb3:=au (hk3 _ _ _ _ (hMW.out _ _ (by omega)) mF.out)
      have MM:=hide hJ3
      have Ua:=hide hc3
      have HC4:=hide hc4
      have HC8:=hide hc5
      have JE:=hide xM
      clear hJ3 hc3 hc4 hc5 xM hk3 hy1
      dsimp only
      refine hK _ _ ?_
      clear hK K
      refine wpAnyIn_ready (rs:=[17]) (by kernel_rfl) (by simp) ?_
      refine AllReadyIn.cons (o:=_) rfl (fun K hK=>?_) AllReadyIn.nil
      go_simp
      refine hK _ _ ?_
      clear hK K
      refine wpAnyIn_ready (rs:=[18]) (by kernel_rfl) (by simp) ?_
      refine AllReadyIn.cons (o:=_) rfl (fun K hK=>?_) AllReadyIn.nil
      go_simp
      refine hK _ _ ?_
      clear hK K
      refine wpAnyIn_done (by kernel_rfl) ?_ _
      gi_wp2_with fail
      go_roundw
      case rel=>exact⟨k+1,_,by omega,by go_num,F7.out,MM.out,JE.out,Ua.out,⟨HC4.out,HC8.out⟩,by omega⟩
      case measure=>simp[intOf];omega
     ·have HX:=hide hJx3
      clear hJx3 hy1
      dsimp only
      refine hK _ _ ?_
      clear hK K
      refine wpAnyIn_ready (rs:=[17]) (by kernel_rfl) (by simp) ?_
      refine AllReadyIn.cons (o:=_) rfl (fun K hK=>?_) AllReadyIn.nil
      go_simp
      refine hK _ _ ?_
      clear hK K
      refine wpAnyIn_ready (rs:=[18]) (by kernel_rfl) (by simp) ?_
      refine AllReadyIn.cons (o:=_) rfl (fun K hK=>?_) AllReadyIn.nil
      go_simp
      refine hK _ _ ?_
      clear hK K
      refine wpAnyIn_done (by kernel_rfl) ?_ _
      gi_wp2_with fail
      refine bodyPost_ret (results_none rfl _ _ _) rfl ?_
      exact⟨⟨_,rfl⟩,.inr ⟨_,⟨k+1,by omega,F7.out⟩,HX.out⟩⟩
  ·obtain rfl:k=ss.length:=by omega
   gi_wp2
   go_end0
   exact⟨⟨_,rfl⟩,.inl ⟨_,kW.out,hJ⟩⟩
end Go.Proofs.YtlkgjmnjhifehaaGreat
set_option maxHeartbeats 4000000
set_option maxRecDepth 100000
namespace Go.Proofs.YtlkgjmnjhifehaaGreat
open Go.RowKit Go.Sort Go.Lib
attribute [local go_sem] dA steadyUpon
attribute [local go_sem ↓] bU bI aX aW aV aU aT
attribute [local go_sem] bH aK aJ size_grow tape_grow cell?_grow' aF aB grow_grow bW aY dR cO bY bK aN cZ aZ bZ bJ
attribute [local irreducible] wpSteady
def Ae (s:So):FV:={ id:=s.id,kind:=1,x:=s.x,y:=s.y,dC:=s.dC,aA:=none,ac:=0,area:=[],dep:=s.lo,sym:=0,sA:=none,sc:=0,secs:=[] }
theorem DT (s:So)(w:World)(B:Nat):(Ae s).rd w B:=⟨Rd.nil _ _ _ _,Rd.nil _ _ _ _,by simp[Ae],by simp[Ae],by simp[Ae]⟩
theorem tX (s:So):(Ae s).val=.agg #[.int .i64 s.id,.int .i64 1,.int .i64 s.x,.int .i64 s.y,.int .i64 s.dC,.slice none 0 0,.int .i64 s.lo,.int .i64 0,.slice none 0 0]:=rfl
theorem sH (s:So)(w:World):Calls Tryz.prog 30 #[s.val] w (aC w (Ae s).val):=by
 have hm:=aP
 rw[tX]
 obtain⟨s0,s1,s2,s3,s4,s5,s6⟩:=s
 dsimp only
 go_enter Tryz.func30,Tryz.ntmps30
 go_wp2_with fail
 refine bodyPost_ret (v:=.agg #[.int .i64 s0,.int .i64 1,.int .i64 s1,.int .i64 s2,.int .i64 s3,.slice none 0 0,.int .i64 s4,.int .i64 0,.slice none 0 0]) (by simp[results,Tryz.results30,go_sem]) rfl ?_
 exact aC.mk' rfl gw
def Nl (s:So):Bool:=bf (Ae s)&&(decide (s.lo<=s.hi)&&(decide (s.hi<=100000)&&(decide (0<=s.tm)&&decide (s.tm<=10000000))))
theorem ab4 (s:So)(r:Bool)(w:World)(h:Nl s=r):Calls Tryz.prog 58 #[s.val] w (aC w (.bool r)):=by
 have hm:=aP
 have k1:=hide (fun W=>sH s W)
 obtain⟨o,ho⟩:∃o,bf (Ae s)=o:=⟨_,rfl⟩
 have k2:=hide (fun W=>dE (Ae s) o W (DT s W _) ho)
 unfold Nl at h
 rw[ho] at h
 clear ho
 rw[tX] at k1 k2
 obtain⟨s0,s1,s2,s3,s4,s5,s6⟩:=s
 dsimp only at *
 have hcase:o=false\/(o=true/\s5<s4)\/(o=true/\¬ s5<s4/\100000<s5)\/(o=true/\¬ s5<s4/\¬ 100000<s5/\s6<0)\/(o=true/\¬ s5<s4/\¬ 100000<s5/\¬ s6<0/\10000000<s6)\/(o=true/\¬ s5<s4/\¬ 100000<s5/\¬ s6<0/\¬ 10000000<s6):=by
  cases o
  ·exact .inl rfl
  ·simp;omega
 rcases hcase with rfl|⟨rfl,h1⟩|⟨rfl,h1,h2⟩|⟨rfl,h1,h2,h3⟩|⟨rfl,h1,h2,h3,h4⟩|⟨rfl,h1,h2,h3,h4⟩
 ·subst h
  go_enter Tryz.func58,Tryz.ntmps58
  go_wp2_with (first|(go_at_call 30;with_reducible refine aQ (k1.out _) fun _ _=>?_;dsimp only)|(go_at_call 56;with_reducible refine aQ (k2.out _) fun _ _=>?_;dsimp only))
  go_ret
  exact aC.mk' rfl gw
 ·obtain rfl:r=false:=by rw[<-h];simp;omega
  clear h
  have e1:decide (s4<=s5)=false:=by simp;omega
  go_enter Tryz.func58,Tryz.ntmps58
  go_wp2_with (first|(go_at_call 30;with_reducible refine aQ (k1.out _) fun _ _=>?_;dsimp only)|(go_at_call 56;with_reducible refine aQ (k2.out _) fun _ _=>?_;dsimp only))
  go_ret
  exact aC.mk' (by simp) gw
 ·obtain rfl:r=false:=by rw[<-h];simp;omega
  clear h
  have e1:decide (s4<=s5)=true:=by simp;omega
  have e2:decide (s5<=100000)=false:=by simp;omega
  go_enter Tryz.func58,Tryz.ntmps58
  go_wp2_with (first|(go_at_call 30;with_reducible refine aQ (k1.out _) fun _ _=>?_;dsimp only)|(go_at_call 56;with_reducible refine aQ (k2.out _) fun _ _=>?_;dsimp only))
  go_ret
  exact aC.mk' (by simp) gw
 ·obtain rfl:r=false:=by rw[<-h];simp;omega
  clear h
  have e1:decide (s4<=s5)=true:=by simp;omega
  have e2:decide (s5<=100000)=true:=by simp;omega
  have e3:decide (0<=s6)=false:=by simp;omega
  go_enter Tryz.func58,Tryz.ntmps58
  go_wp2_with (first|(go_at_call 30;with_reducible refine aQ (k1.out _) fun _ _=>?_;dsimp only)|(go_at_call 56;with_reducible refine aQ (k2.out _) fun _ _=>?_;dsimp only))
  go_ret
  exact aC.mk' (by simp) gw
 ·obtain rfl:r=false:=by rw[<-h];simp;omega
  clear h
  have e1:decide (s4<=s5)=true:=by simp;omega
  have e2:decide (s5<=100000)=true:=by simp;omega
  have e3:decide (0<=s6)=true:=by simp;omega
  have e4:decide (s6<=10000000)=false:=by simp;omega
  go_enter Tryz.func58,Tryz.ntmps58
  go_wp2_with (first|(go_at_call 30;with_reducible refine aQ (k1.out _) fun _ _=>?_;dsimp only)|(go_at_call 56;with_reducible refine aQ (k2.out _) fun _ _=>?_;dsimp only))
  go_ret
  exact aC.mk' (by simp) gw
 ·obtain rfl:r=true:=by rw[<-h];simp;omega
  clear h
  have e1:decide (s4<=s5)=true:=by simp;omega
  have e2:decide (s5<=100000)=true:=by simp;omega
  have e3:decide (0<=s6)=true:=by simp;omega
  have e4:decide (s6<=10000000)=true:=by simp;omega
  go_enter Tryz.func58,Tryz.ntmps58
  go_wp2_with (first|(go_at_call 30;with_reducible refine aQ (k1.out _) fun _ _=>?_;dsimp only)|(go_at_call 56;with_reducible refine aQ (k2.out _) fun _ _=>?_;dsimp only))
  go_ret
  exact aC.mk' (by simp) gw
end Go.Proofs.YtlkgjmnjhifehaaGreat
set_option maxHeartbeats 4000000
set_option maxRecDepth 100000
namespace Go.Proofs.YtlkgjmnjhifehaaGreat
open Go.RowKit Go.Sort
attribute [local go_sem] dA steadyUpon
attribute [local go_sem ↓] bU bI aX aW aV aU aT
attribute [local go_sem] bH aK aJ size_grow tape_grow cell?_grow' aF aB grow_grow bW aY dR cO bY bK aN cZ aZ bZ bJ
attribute [local irreducible] wpSteady
attribute [local go_sem] IU IC IW IK IV IE IX IL Eg Ec Em Ee
def lW (f:FV)(p:Pt):Bool×Int:=if (bf f&&p.ok)=true then (fP f p,0) else (false,1)
def zF (f g:FV):Bool×Int:=if (bf f&&bf g)=true then (eX f g,0) else (false,1)
theorem Xu (f:FV)(p:Pt)(o:Bool)(w:World)(hf:f.rd w w.heap.size)(vf:bf f=true)(vp:p.ok=true)
  (kf:Hid (∀W,Calls Tryz.prog 50 #[f.val] W (aC W (.iface 151 (.agg #[.int .i64 f.x,.int .i64 f.y,.int .i64 f.dC])))))
  (kh:Hid (∀W,Grew w W->Calls Tryz.prog 222 #[.agg #[.int .i64 f.x,.int .i64 f.y,.int .i64 f.dC],pt p.1 p.2] W (aC W (.bool o)))) :
  Calls Tryz.prog 51 #[f.val,pt p.1 p.2] w (aC w (.tuple #[.bool o,.int .i64 0])):=by
 have hm:=aP
 have k1:=hide (fun W (h:Grew w W)=>dE f true W (hf.up h) vf)
 have k2:=hide (fun W=>dP p.1 p.2 true W vp)
 clear hf vf vp
 obtain⟨p1,p2⟩:=p
 dsimp only at k2 kh ⊢
 go_enter Tryz.func51,Tryz.ntmps51
 go_wp2_with (first|(go_at_call 56;with_reducible refine aQ (k1.out _ gw) fun _ _=>?_;dsimp only)|(go_at_call 49;with_reducible refine aQ (k2.out _) fun _ _=>?_;dsimp only))
 refine ay 6 [] [] hm (h:=?_)
 repeat (refine ax (fun K hK=>?_);go_simp;first|(refine hK _ ?_;clear hK K)|(apply Exists.intro;refine⟨fun _=>?_,hK _ ?_⟩;(first|(go_at_call 50;with_reducible exact kf.out _)|(go_at_call 222;with_reducible exact kh.out _ gw));clear hK K))
 refine lU fun nq osq=>?_
 try simp only[Act.put,aG]
 try dsimp only
 go_wp2_with fail
 go_ret2
 exact aC.mk' rfl gw
theorem Xv (f:FV)(p:Pt)(o:Bool)(w:World)(hf:f.rd w w.heap.size)(vf:bf f=true)(vp:p.ok=true)
  (kf:Hid (∀W,Calls Tryz.prog 50 #[f.val] W (aC W (.iface 149 (.slice f.aA f.area.length f.ac)))))
  (kh:Hid (∀W,Grew w W->Calls Tryz.prog 206 #[.slice f.aA f.area.length f.ac,pt p.1 p.2] W (aC W (.bool o)))) :
  Calls Tryz.prog 51 #[f.val,pt p.1 p.2] w (aC w (.tuple #[.bool o,.int .i64 0])):=by
 have hm:=aP
 have k1:=hide (fun W (h:Grew w W)=>dE f true W (hf.up h) vf)
 have k2:=hide (fun W=>dP p.1 p.2 true W vp)
 clear hf vf vp
 obtain⟨p1,p2⟩:=p
 dsimp only at k2 kh ⊢
 go_enter Tryz.func51,Tryz.ntmps51
 go_wp2_with (first|(go_at_call 56;with_reducible refine aQ (k1.out _ gw) fun _ _=>?_;dsimp only)|(go_at_call 49;with_reducible refine aQ (k2.out _) fun _ _=>?_;dsimp only))
 refine ay 6 [] [] hm (h:=?_)
 repeat (refine ax (fun K hK=>?_);go_simp;first|(refine hK _ ?_;clear hK K)|(apply Exists.intro;refine⟨fun _=>?_,hK _ ?_⟩;(first|(go_at_call 50;with_reducible exact kf.out _)|(go_at_call 206;with_reducible exact kh.out _ gw));clear hK K))
 refine lU fun nq osq=>?_
 try simp only[Act.put,aG]
 try dsimp only
 go_wp2_with fail
 go_ret2
 exact aC.mk' rfl gw
theorem Tn (f:FV)(p:Pt)(o:Bool)(w:World)(hf:f.rd w w.heap.size)(vf:bf f=true)(vp:p.ok=true)
  (kf:Hid (∀W,Calls Tryz.prog 50 #[f.val] W (aC W (.iface 148 (.agg #[.int .i64 f.x,.int .i64 f.y])))))
  (kh:Hid (∀W,Grew w W->Calls Tryz.prog 202 #[.agg #[.int .i64 f.x,.int .i64 f.y],pt p.1 p.2] W (aC W (.bool o)))) :
  Calls Tryz.prog 51 #[f.val,pt p.1 p.2] w (aC w (.tuple #[.bool o,.int .i64 0])):=by
 have hm:=aP
 have k1:=hide (fun W (h:Grew w W)=>dE f true W (hf.up h) vf)
 have k2:=hide (fun W=>dP p.1 p.2 true W vp)
 clear hf vf vp
 obtain⟨p1,p2⟩:=p
 dsimp only at k2 kh ⊢
 go_enter Tryz.func51,Tryz.ntmps51
 go_wp2_with (first|(go_at_call 56;with_reducible refine aQ (k1.out _ gw) fun _ _=>?_;dsimp only)|(go_at_call 49;with_reducible refine aQ (k2.out _) fun _ _=>?_;dsimp only))
 refine ay 6 [] [] hm (h:=?_)
 repeat (refine ax (fun K hK=>?_);go_simp;first|(refine hK _ ?_;clear hK K)|(apply Exists.intro;refine⟨fun _=>?_,hK _ ?_⟩;(first|(go_at_call 50;with_reducible exact kf.out _)|(go_at_call 202;with_reducible exact kh.out _ gw));clear hK K))
 refine lU fun nq osq=>?_
 try simp only[Act.put,aG]
 try dsimp only
 go_wp2_with fail
 go_ret2
 exact aC.mk' rfl gw
theorem Fp (f:FV)(p:Pt)(r:Bool×Int)(w:World)(hf:f.rd w w.heap.size)(h:lW f p=r) :
  Calls Tryz.prog 51 #[f.val,pt p.1 p.2] w (aC w (.tuple #[.bool r.1,.int .i64 r.2])):=by
 unfold lW at h
 subst h
 by_cases hv:(bf f&&p.ok)=true
 ·rw[if_pos hv]
  rw[Bool.and_eq_true] at hv
  by_cases f4:f.kind=4
  ·refine Tn f p _ w hf hv.1 hv.2 (hide (fun W=>xK f _ W (oD f4))) (hide (fun W hgr=>?_))
   have e:fP f p=false:=by unfold fP;rw[if_pos f4]
   rw[e]
   exact xW _ _ p W
  ·by_cases f3:f.kind=3\/f.kind=6
   ·exact Xv f p _ w hf hv.1 hv.2 (hide (fun W=>xK f _ W (lY f3))) (hide (fun W hgr=>zY _ _ _ p _ W (hf.up hgr).area hf.la (by unfold fP;rw[if_neg f4,if_pos f3])))
   ·exact Xu f p _ w hf hv.1 hv.2 (hide (fun W=>xK f _ W (mX f4 f3))) (hide (fun W hgr=>uH _ _ _ p _ W (by unfold fP;rw[if_neg f4,if_neg f3])))
 ·rw[if_neg hv]
  obtain⟨a,ha⟩:∃u,bf f=u:=⟨_,rfl⟩
  obtain⟨b,hb⟩:∃u,p.ok=u:=⟨_,rfl⟩
  have hm:=aP
  have k1:=hide (fun W (h:Grew w W)=>dE f a W (hf.up h) ha)
  have k2:=hide (fun W=>dP p.1 p.2 b W hb)
  rw[ha,hb] at hv
  clear hf ha hb
  obtain⟨p1,p2⟩:=p
  dsimp only at k2 ⊢
  have hcase:a=false\/(a=true/\b=false):=by cases a<;>cases b<;>simp at hv ⊢
  rcases hcase with rfl|⟨rfl,rfl⟩
  all_goals
   go_enter Tryz.func51,Tryz.ntmps51
   go_wp2_with (first|(go_at_call 56;with_reducible refine aQ (k1.out _ gw) fun _ _=>?_;dsimp only)|(go_at_call 49;with_reducible refine aQ (k2.out _) fun _ _=>?_;dsimp only))
   go_ret2
   exact aC.mk' rfl gw
theorem WI (f g:FV)(F:Value)(o:Bool)(w:World)(hf:f.rd w w.heap.size)(hg:g.rd w w.heap.size)(vf:bf f=true)(vg:bf g=true)
  (kf:Hid (∀W,Calls Tryz.prog 50 #[f.val] W (aC W (.iface 151 (.agg #[.int .i64 f.x,.int .i64 f.y,.int .i64 f.dC]))))) (kg:Hid (∀W,Calls Tryz.prog 50 #[g.val] W (aC W F)))
  (kh:Hid (∀W,Grew w W->Calls Tryz.prog 223 #[.agg #[.int .i64 f.x,.int .i64 f.y,.int .i64 f.dC],F] W (aC W (.bool o)))) :
  Calls Tryz.prog 20 #[f.val,g.val] w (aC w (.tuple #[.bool o,.int .i64 0])):=by
 have hm:=aP
 have k1:=hide (fun W (h:Grew w W)=>dE f true W (hf.up h) vf)
 have k2:=hide (fun W (h:Grew w W)=>dE g true W (hg.up h) vg)
 clear hf hg vf vg
 go_enter Tryz.func20,Tryz.ntmps20
 go_wp2_with (first|(go_at_call 56;with_reducible refine aQ (k1.out _ gw) fun _ _=>?_;dsimp only)|(go_at_call 56;with_reducible refine aQ (k2.out _ gw) fun _ _=>?_;dsimp only))
 refine ay 10 [] [] hm (h:=?_)
 repeat (refine ax (fun K hK=>?_);go_simp;first|(refine hK _ ?_;clear hK K)|(apply Exists.intro;refine⟨fun _=>?_,hK _ ?_⟩;(first|(go_at_call 50;first|with_reducible exact kf.out _|with_reducible exact kg.out _)|(go_at_call 223;with_reducible exact kh.out _ gw));clear hK K))
 refine lU fun nq osq=>?_
 try simp only[Act.put,aG]
 try dsimp only
 go_wp2_with fail
 go_ret2
 exact aC.mk' rfl gw
theorem WJ (f g:FV)(F:Value)(o:Bool)(w:World)(hf:f.rd w w.heap.size)(hg:g.rd w w.heap.size)(vf:bf f=true)(vg:bf g=true)
  (kf:Hid (∀W,Calls Tryz.prog 50 #[f.val] W (aC W (.iface 149 (.slice f.aA f.area.length f.ac))))) (kg:Hid (∀W,Calls Tryz.prog 50 #[g.val] W (aC W F)))
  (kh:Hid (∀W,Grew w W->Calls Tryz.prog 207 #[.slice f.aA f.area.length f.ac,F] W (aC W (.bool o)))) :
  Calls Tryz.prog 20 #[f.val,g.val] w (aC w (.tuple #[.bool o,.int .i64 0])):=by
 have hm:=aP
 have k1:=hide (fun W (h:Grew w W)=>dE f true W (hf.up h) vf)
 have k2:=hide (fun W (h:Grew w W)=>dE g true W (hg.up h) vg)
 clear hf hg vf vg
 go_enter Tryz.func20,Tryz.ntmps20
 go_wp2_with (first|(go_at_call 56;with_reducible refine aQ (k1.out _ gw) fun _ _=>?_;dsimp only)|(go_at_call 56;with_reducible refine aQ (k2.out _ gw) fun _ _=>?_;dsimp only))
 refine ay 10 [] [] hm (h:=?_)
 repeat (refine ax (fun K hK=>?_);go_simp;first|(refine hK _ ?_;clear hK K)|(apply Exists.intro;refine⟨fun _=>?_,hK _ ?_⟩;(first|(go_at_call 50;first|with_reducible exact kf.out _|with_reducible exact kg.out _)|(go_at_call 207;with_reducible exact kh.out _ gw));clear hK K))
 refine lU fun nq osq=>?_
 try simp only[Act.put,aG]
 try dsimp only
 go_wp2_with fail
 go_ret2
 exact aC.mk' rfl gw
theorem SC (f g:FV)(F:Value)(o:Bool)(w:World)(hf:f.rd w w.heap.size)(hg:g.rd w w.heap.size)(vf:bf f=true)(vg:bf g=true)
  (kf:Hid (∀W,Calls Tryz.prog 50 #[f.val] W (aC W (.iface 148 (.agg #[.int .i64 f.x,.int .i64 f.y]))))) (kg:Hid (∀W,Calls Tryz.prog 50 #[g.val] W (aC W F)))
  (kh:Hid (∀W,Grew w W->Calls Tryz.prog 203 #[.agg #[.int .i64 f.x,.int .i64 f.y],F] W (aC W (.bool o)))) :
  Calls Tryz.prog 20 #[f.val,g.val] w (aC w (.tuple #[.bool o,.int .i64 0])):=by
 have hm:=aP
 have k1:=hide (fun W (h:Grew w W)=>dE f true W (hf.up h) vf)
 have k2:=hide (fun W (h:Grew w W)=>dE g true W (hg.up h) vg)
 clear hf hg vf vg
 go_enter Tryz.func20,Tryz.ntmps20
 go_wp2_with (first|(go_at_call 56;with_reducible refine aQ (k1.out _ gw) fun _ _=>?_;dsimp only)|(go_at_call 56;with_reducible refine aQ (k2.out _ gw) fun _ _=>?_;dsimp only))
 refine ay 10 [] [] hm (h:=?_)
 repeat (refine ax (fun K hK=>?_);go_simp;first|(refine hK _ ?_;clear hK K)|(apply Exists.intro;refine⟨fun _=>?_,hK _ ?_⟩;(first|(go_at_call 50;first|with_reducible exact kf.out _|with_reducible exact kg.out _)|(go_at_call 203;with_reducible exact kh.out _ gw));clear hK K))
 refine lU fun nq osq=>?_
 try simp only[Act.put,aG]
 try dsimp only
 go_wp2_with fail
 go_ret2
 exact aC.mk' rfl gw
theorem X8 (f g:FV)(r:Bool×Int)(w:World)(hf:f.rd w w.heap.size)(hg:g.rd w w.heap.size)(h:zF f g=r) :
  Calls Tryz.prog 20 #[f.val,g.val] w (aC w (.tuple #[.bool r.1,.int .i64 r.2])):=by
 unfold zF at h
 subst h
 by_cases hv:(bf f&&bf g)=true
 ·rw[if_pos hv]
  rw[Bool.and_eq_true] at hv
  have kg:Hid (∀W,Calls Tryz.prog 50 #[g.val] W (aC W g.sh)):=hide (fun W=>xK g _ W rfl)
  by_cases f4:f.kind=4
  ·refine SC f g _ _ w hf hg hv.1 hv.2 (hide (fun W=>xK f _ W (oD f4))) kg (hide (fun W hgr=>?_))
   by_cases g4:g.kind=4
   ·have e:eX f g=true:=by unfold eX;rw[if_pos f4,decide_eq_true g4]
    rw[e,oD g4]
    exact FN _ _ _ _ W
   ·have e:eX f g=false:=by unfold eX;rw[if_pos f4,decide_eq_false g4]
    rw[e]
    by_cases g3:g.kind=3\/g.kind=6
    ·rw[lY g3]
     exact xU _ _ _ W
    ·rw[mX g4 g3]
     exact xR _ _ _ W
  ·by_cases f3:f.kind=3\/f.kind=6
   ·refine WJ f g _ _ w hf hg hv.1 hv.2 (hide (fun W=>xK f _ W (lY f3))) kg (hide (fun W hgr=>?_))
    by_cases g4:g.kind=4
    ·have e:eX f g=true:=by unfold eX;rw[if_neg f4,if_pos g4]
     rw[e,oD g4]
     exact Ju _ _ _ _ W
    ·by_cases g3:g.kind=3\/g.kind=6
     ·rw[lY g3]
      exact zX _ _ _ _ _ _ _ W ((hf.up hgr).area) hf.la ((hg.up hgr).area) hg.la (by unfold eX;rw[if_neg f4,if_neg g4,if_pos f3,if_pos g3])
     ·rw[mX g4 g3]
      exact zW _ _ _ (g.x,g.y) _ _ W ((hf.up hgr).area) hf.la (by unfold eX;rw[if_neg f4,if_neg g4,if_pos f3,if_neg g3])
   ·refine WI f g _ _ w hf hg hv.1 hv.2 (hide (fun W=>xK f _ W (mX f4 f3))) kg (hide (fun W hgr=>?_))
    by_cases g4:g.kind=4
    ·have e:eX f g=true:=by unfold eX;rw[if_neg f4,if_pos g4]
     rw[e,oD g4]
     exact Jl _ _ _ _ W
    ·by_cases g3:g.kind=3\/g.kind=6
     ·rw[lY g3]
      exact zJ _ _ _ _ _ _ _ W ((hg.up hgr).area) hg.la (by unfold eX;rw[if_neg f4,if_neg g4,if_neg f3,if_pos g3])
     ·rw[mX g4 g3]
      exact zI _ _ _ (g.x,g.y) _ _ W (by unfold eX;rw[if_neg f4,if_neg g4,if_neg f3,if_neg g3])
 ·rw[if_neg hv]
  obtain⟨a,ha⟩:∃u,bf f=u:=⟨_,rfl⟩
  obtain⟨b,hb⟩:∃u,bf g=u:=⟨_,rfl⟩
  have hm:=aP
  have k1:=hide (fun W (h:Grew w W)=>dE f a W (hf.up h) ha)
  have k2:=hide (fun W (h:Grew w W)=>dE g b W (hg.up h) hb)
  rw[ha,hb] at hv
  clear hf hg ha hb
  have hcase:a=false\/(a=true/\b=false):=by cases a<;>cases b<;>simp at hv ⊢
  rcases hcase with rfl|⟨rfl,rfl⟩
  all_goals
   go_enter Tryz.func20,Tryz.ntmps20
   go_wp2_with (first|(go_at_call 56;with_reducible refine aQ (k1.out _ gw) fun _ _=>?_;dsimp only)|(go_at_call 56;with_reducible refine aQ (k2.out _ gw) fun _ _=>?_;dsimp only))
   go_ret2
   exact aC.mk' rfl gw
end Go.Proofs.YtlkgjmnjhifehaaGreat
set_option maxHeartbeats 8000000
set_option maxRecDepth 100000
namespace Go.Proofs.YtlkgjmnjhifehaaGreat
open Go.RowKit Go.Sort Go.Lib
attribute [local go_sem] dA steadyUpon
attribute [local go_sem ↓] bU bI aX aW aV aU aT
attribute [local go_sem] bH aK aJ size_grow tape_grow cell?_grow' aF aB grow_grow bW aY dR cO bY bK aN cZ aZ bZ bJ
attribute [local irreducible] wpSteady
attribute [local go_sem] Oper.semAt_some
def BX (y x:So):Bool:=(zF (Ae y) (Ae x)).1
def qj (ss:List So)(x:So):Bool:=(kG x ss ss.length).any fun i=>BX (gI ss i) x
structure FY (W:World) (R K:Nat) (A:Option Addr) (c:Nat) (ss:List So):Prop where
 box:W.cell? ⟨R,0,none⟩=some (.slice A ss.length c)
 row:Rd W K 7 A (ss.map So.cells)
 lo:R<K
 hi:K<=W.heap.size
theorem FY.up {W W':World}{R K:Nat}{A:Option Addr}{c:Nat}{ss:List So}(h:FY W R K A c ss)(hg:Grew W W'):FY W' R K A c ss :=
 ⟨(hg.below.cell (p:=⟨R,0,none⟩) (Nat.lt_of_lt_of_le h.lo h.hi)).trans h.box,h.row.grew hg h.hi,h.lo,Nat.le_trans h.hi hg.below.size⟩
theorem FY.gb {W W':World}{R K g:Nat}{A:Option Addr}{c:Nat}{ss:List So}(h:FY W R K A c ss)(hg:W.grownBy W' (some g))(hK:K<=g):FY W' R K A c ss :=
 ⟨hg.cell h.box (by have:=h.lo;simp;omega),h.row.keep (fun b i hb=>World.cell?_of_block (a:=⟨b,i,none⟩) (hg.block b (Nat.lt_of_lt_of_le hb h.hi) (by simp;omega))),h.lo,Nat.le_trans h.hi hg.size⟩
theorem YI {ss:List So}{x:So}{i:Nat}(h:i∈kG x ss ss.length)(hh:BX (gI ss i) x=true):qj ss x=true:=by
 unfold qj
 rw[List.any_eq_true]
 exact⟨i,h,hh⟩
theorem V6 {x:So}{ss:List So}{k:Nat}(hk:k<=ss.length){i:Nat}(h:i∈kG x ss k):i∈kG x ss ss.length:=by
 unfold kG at *
 rw[List.mem_filter,List.mem_range] at *
 exact⟨by omega,h.2⟩
theorem U7 (ss:List So)(x:So)(A:Option Addr)(c R K:Nat)(r:Bool)(w:World)(hE:FY w R K A c ss)(hl:ss.length<=1000)(h:qj ss x=r) :
  Calls Tryz.prog 59 #[x.val,.pointer (some ⟨R,0,none⟩)] w (aC w (.bool r)):=by
 have hm:=aP
 have HE:=hide hE
 have HRR:=hide h
 have cR:=hE.box
 have lR:R<w.heap.size:=Nat.lt_of_lt_of_le hE.lo hE.hi
 have hRow:=hide (hE.row.mono hE.hi)
 clear hE h
 refine (callsIn_wide (n:=13)).1 ?_
 refine callsIn_of_wp_marks Tryz.func59 rfl trivial ?_ rfl
 simp only[Tryz.ntmps59,List.size_toArray,List.length_cons,List.length_nil,Nat.reduceAdd,Nat.reduceSub,Array.replicate_succ,Array.replicate_zero,List.push_toArray,List.append_toArray,List.nil_append,List.cons_append]
 gi_wp2_with fail
 refine⟨trivial,?_⟩
 refine (callsIn_wide.2 (RU A ss.length c x _)).mono ?_
 rintro e W1 ⟨rfl,hW1⟩
 dsimp only
 gi_wp2_with fail
 obtain⟨bx,hbx⟩:∃bx:List Obj,bx=[.cells #[.int .i64 x.id,.int .i64 x.x,.int .i64 x.y,.int .i64 x.dC,.int .i64 x.lo,.int .i64 x.hi,.int .i64 x.tm] 61 (0,0),.cells #[.bool false] 4 (0,0),.cells #[.slice A ss.length c] 22 (0,0),.cells #[.int .i64 x.id,.int .i64 x.x,.int .i64 x.y,.int .i64 x.dC,.int .i64 x.lo,.int .i64 x.hi,.int .i64 x.tm] 61 (0,0)]:=⟨_,rfl⟩
 have hbx0:=Bx.lT bx w
 have hb0:Bx W1 w.heap.size bx:=by
  have h:=hbx0.1
  subst hbx
  rw[<-hW1]
  exact h
 have hg0:Grew w W1:=by
  have h:=hbx0.2
  subst hbx
  rw[<-hW1]
  exact h
 have hsz:W1.heap.size=w.heap.size+4:=by rw[<-hW1];simp
 clear hbx0 hW1
 subst hbx
 simp only[World.mG]
 refine dJ ?_
 intro a0 W0 ha hW
 subst hW
 have hk2:W1.heap[w.heap.size+1+1]?=some (.cells #[.slice A ss.length c] 22 (0,0)):=hb0 2 _ rfl
 have hk3:W1.heap[w.heap.size+1+1+1]?=some (.cells #[.int .i64 x.id,.int .i64 x.x,.int .i64 x.y,.int .i64 x.dC,.int .i64 x.lo,.int .i64 x.hi,.int .i64 x.tm] 61 (0,0)):=hb0 3 _ rfl
 have Hb0:=hide hb0
 have Hg0:=hide hg0
 refine wpIn_rangeFunc_ownH (n:=13) rfl (by omega) (gf:=90) (lb:=#[.pointer (some ⟨w.heap.size+1+1,0,none⟩),.pointer (some ⟨w.heap.size+1+1+1,0,none⟩)]) (by rw[<-ha];simp[Act.eval]) trivial (enters_of Tryz.func90 (by kernel_rfl) rfl)
  (I5 12 w.heap.size (fun _ _=>False) ss A c (w.heap.size+1+1) (w.heap.size+1+1+1) x W1 (fun b _ hb=>hb.elim) hk2 hk3 (hRow.out.grew hg0 (Nat.le_refl _)) (by omega) (by omega))
  (fun h k=>h.trans k) gW.bk (Below.refl _ _) (fun _=>rfl)
  (fun pre W=>(Below w.heap.size w W/\Bx W w.heap.size _)/\∀i∈pre,BX (gI ss i.1) x=false)
  (fun e pre W=>(Below w.heap.size w W/\Boxed W (w.heap.size+1) 4 (.bool true))/\(e=.ret/\∃i∈pre,BX (gI ss i.1) x=true))
  (OwnFrom.and (OwnFrom.and (ownFrom_below (Nat.le_refl _) hg0.below.size) (Bx.own (by simp;omega))) (ownFrom_pure _))
  (fun q=>OwnFrom.and (OwnFrom.and (ownFrom_below (Nat.le_refl _) hg0.below.size) (Own.from (boxed_own (β:=_) _ _ (fun _=>.bool true)) _)) (ownFrom_pure _))
  ⟨⟨hg0.below,hb0⟩,fun i hi=>by cases hi⟩
  (fun y a' W=>∃B,W.heap[B]?=some (.cells #[.int .i64 (gI ss y.1).id,.int .i64 (gI ss y.1).x,.int .i64 (gI ss y.1).y,.int .i64 (gI ss y.1).dC,.int .i64 (gI ss y.1).lo,.int .i64 (gI ss y.1).hi,.int .i64 (gI ss y.1).tm] 61 (0,0))/\a'={ tmps:=(a0.tmps.setIfInBounds 11 (gI ss y.1).val).setIfInBounds 4 (.pointer (some ⟨B,0,none⟩)),defers:=[] })
  (fun y a'=>by
   rintro s X Y row ⟨B,h1,h2⟩ hg hr
   exact⟨B,fG h1 hg (fun r e=>(hr r e).2),h2⟩)
  ?assign ?body ?done ?stop
 case assign =>
  rintro l pre y W K ⟨⟨hB,hb⟩,hp⟩ hK
  rw[show encS ss y=#[(gI ss y.1).val] from rfl,L9]
  subst ha
  simp only[List.setIfInBounds_toArray,List.set_cons_succ,List.set_cons_zero] at hK ⊢
  have wu:=hide hK
  clear hK
  gi_wp2_with fail
  have hgg:Grew W (W.alloc (.cells #[.int .i64 (gI ss y.1).id,.int .i64 (gI ss y.1).x,.int .i64 (gI ss y.1).y,.int .i64 (gI ss y.1).dC,.int .i64 (gI ss y.1).lo,.int .i64 (gI ss y.1).hi,.int .i64 (gI ss y.1).tm] 61)):=gw
  exact wu.out _ _ (hgg.aS _) (gW.grew hgg) ⟨⟨hB.trans (hgg.below.mono hB.size),hb.grew hgg⟩,hp⟩ ⟨W.heap.size,heap_alloc_new _ _,rfl⟩
 case body =>
  rintro l pre y a' W hl2 hlp ⟨⟨hB,hb⟩,hp⟩ ⟨B,hx,rfl⟩ hlt
  subst ha
  obtain⟨i,hil⟩:=y
  dsimp only at hx
  simp only[List.setIfInBounds_toArray,List.set_cons_succ,List.set_cons_zero]
  obtain⟨o,ho⟩:∃o,zF (Ae (gI ss i)) (Ae x)=o:=⟨_,rfl⟩
  have hoo:BX (gI ss i) x=o.1:=by unfold BX;rw[ho]
  have hnext:o.1=false->∀i'∈pre++[(⟨i,hil⟩:Fin ss.length)],BX (gI ss i'.1) x=false:=fun hof i' hi'=>by
   rcases List.mem_append.1 hi' with h|h
   ·exact hp i' h
   ·obtain rfl:=List.mem_singleton.1 h
    rw[hoo,hof]
  have hyes:o.1=true->∃i'∈pre++[(⟨i,hil⟩:Fin ss.length)],BX (gI ss i'.1) x=true:=fun hof=>⟨⟨i,hil⟩,by simp,by rw[hoo,hof]⟩
  have mO:=hide hnext
  have JD:=hide hyes
  have HOO:=hide hoo
  have k1:=hide (fun W=>sH (gI ss i) W)
  have k2:=hide (fun W=>sH x W)
  have k3:=hide (fun W=>X8 (Ae (gI ss i)) (Ae x) o W (DT _ _ _) (DT _ _ _) ho)
  clear hnext hyes ho hoo hp hlt
  generalize gI ss i=y at *
  obtain⟨y0,y1,y2,y3,y4,y5,y6⟩:=y
  obtain⟨x0,x1,x2,x3,x4,x5,x6⟩:=x
  obtain⟨o1,o2⟩:=o
  rw[tX] at k1 k2
  rw[tX,tX] at k3
  dsimp only at hx hb k1 k2 k3 HOO mO JD ⊢
  have c0:W.cell? ⟨w.heap.size,0,none⟩=_:=ag (hb 0 _ rfl) 0
  have c1:W.cell? ⟨w.heap.size,1,none⟩=_:=ag (hb 0 _ rfl) 1
  have c2:W.cell? ⟨w.heap.size,2,none⟩=_:=ag (hb 0 _ rfl) 2
  have c3:W.cell? ⟨w.heap.size,3,none⟩=_:=ag (hb 0 _ rfl) 3
  have c4:W.cell? ⟨w.heap.size,4,none⟩=_:=ag (hb 0 _ rfl) 4
  have c5:W.cell? ⟨w.heap.size,5,none⟩=_:=ag (hb 0 _ rfl) 5
  have c6:W.cell? ⟨w.heap.size,6,none⟩=_:=ag (hb 0 _ rfl) 6
  have d0:W.cell? ⟨B,0,none⟩=some _:=ag hx 0
  have d1:W.cell? ⟨B,1,none⟩=some _:=ag hx 1
  have d2:W.cell? ⟨B,2,none⟩=some _:=ag hx 2
  have d3:W.cell? ⟨B,3,none⟩=some _:=ag hx 3
  have d4:W.cell? ⟨B,4,none⟩=some _:=ag hx 4
  have d5:W.cell? ⟨B,5,none⟩=some _:=ag hx 5
  have d6:W.cell? ⟨B,6,none⟩=some _:=ag hx 6
  have lb1:=(hb.box 1 rfl).lt
  have l0:w.heap.size<W.heap.size:=by omega
  have lB:=au hx
  have HB:=hide hB
  have Hb:=hide hb
  clear hB hb hx
  gi_wp2_with fail
  refine dn 10 [] [] hm (h:=?_)
  repeat (refine ax (fun K hK=>?_);go_simp;first|(refine hK _ ?_;clear hK K)|(apply Exists.intro;refine⟨fun _=>?_,hK _ ?_⟩;(first|(go_at_call 30;first|with_reducible exact k1.out _|with_reducible exact k2.out _)|(go_at_call 20;with_reducible exact k3.out _));clear hK K))
  refine AB fun nq osq=>?_
  try simp only[Act.put,aG]
  try dsimp only
  cases o1
  ·have Dz:=hide (mO.out rfl)
   clear mO JD
   gi_wp2_with fail
   have hgg:Grew W (grow (dr W nq) osq):=gw
   exact⟨hgg.aS _,gW.grew hgg,⟨HB.out.trans (hgg.below.mono HB.out.size),Hb.out.grew hgg⟩,Dz.out⟩
  ·have HY2:=hide (JD.out rfl)
   have hbx2:=hide (Hb.out.box 1 rfl)
   have f1:W.frozen? ⟨w.heap.size+1,0,none⟩=_:=hbx2.out.frozen
   have e1:W.cell? ⟨w.heap.size+1,0,none⟩=_:=hbx2.out.cell
   clear mO JD
   gi_wp2_with fail
   exact⟨jV (b:=w.heap.size+1) sV ⟨_,hbx2.out,rfl⟩,⟨gz (b:=w.heap.size+1) sV HB.out (by omega),(by repeat (with_reducible first|assumption|exact Hid.out (by assumption)|refine eu ?_ _ _|refine Boxed.set (v:=.bool false) _ ?_|refine jR ?_ (Hid.out (by assumption))|(refine eF ?_ (Hid.out (by assumption)))))⟩,rfl,HY2.out⟩
 case done =>
  subst ha
  rintro D xs W hD hS ⟨⟨hB,hb⟩,hp⟩ hK
  have b1:Boxed W (w.heap.size+1) _ _:=hb.box 1 rfl
  have c1:=b1.cell
  have f1:=b1.frozen
  obtain rfl:r=false:=by
   rw[<-HRR.out]
   unfold qj
   rw[List.any_eq_false]
   intro i hi
   rw[<-hS] at hi
   obtain⟨j,hj,rfl⟩:=List.mem_map.1 hi
   rw[hp j hj]
   simp
  have HB:=hide hB
  clear hB hb hS hp b1
  gi_wp2_with fail
  have hK2:=(KeepsOthers.setCell W ⟨w.heap.size+1,0,none⟩ (.bool false)).same D _ hK rfl
  refine⟨by simp,.inl ⟨_,_,rfl,run_takeDeferred hK2,?_⟩⟩
  have hb5:=(HB.out.setCell (p:=⟨w.heap.size+1,0,none⟩) (by simp) (.bool false)).trans (belowK_b (w:=w) (Nat.le_refl _) _ D _ (.deferred none) (by omega) hK2 rfl rfl)
  have e3:((W.setCell ⟨w.heap.size+1,0,none⟩ (.bool false)).putObj D (.deferred none)).cell? ⟨w.heap.size+1,0,none⟩=some (.bool false):=by
   rw[bG (by omega)]
   go_simp
  refine⟨.bool false,by simp[results,Tryz.results59,go_sem,e3],?_⟩
  exact aC.mk' rfl (Grew.of_below hb5)
 case stop =>
  subst ha
  rintro D e pre W hD ⟨k,hk,hr⟩ ⟨⟨hB,hb1⟩,rfl,i,hi,hhi⟩ hK
  have c3:W.cell? ⟨w.heap.size+1,0,none⟩=_:=hb1.cell
  obtain rfl:r=true:=by
   rw[<-HRR.out]
   exact YI (V6 hk (by rw[<-hr];exact List.mem_map_of_mem hi)) hhi
  have HB:=hide hB
  clear hB hb1 hr hi hhi hk HRR
  gi_wp2_with fail
  refine⟨by simp,.inl ⟨_,_,rfl,run_takeDeferred hK,?_⟩⟩
  have hb5:=HB.out.trans (belowK_b (w:=w) (Nat.le_refl _) _ D _ (.deferred none) (by omega) hK rfl rfl)
  have e3:=(bG (W:=W) (D:=D) (i:=0) (o:=.deferred none) (b:=w.heap.size+1) (by omega)).trans c3
  refine⟨.bool true,by simp[results,Tryz.results59,go_sem,e3],?_⟩
  exact aC.mk' rfl (Grew.of_below hb5)
end Go.Proofs.YtlkgjmnjhifehaaGreat
set_option maxHeartbeats 8000000
set_option maxRecDepth 100000
namespace Go.Proofs.YtlkgjmnjhifehaaGreat
open Go.RowKit Go.Sort Go.Lib
attribute [local go_sem] dA steadyUpon
attribute [local go_sem ↓] bU bI aX aW aV aU aT
attribute [local go_sem] bH aK aJ size_grow tape_grow cell?_grow' aF aB grow_grow bW aY dR cO bY bK aN cZ aZ bZ bJ
attribute [local irreducible] wpSteady
theorem adJ:(Tryz.prog.info? 61).map (fun i=>(i.zero,i.size,i.bytes))=some (some (.agg #[.int .i64 0,.int .i64 0,.int .i64 0,.int .i64 0,.int .i64 0,.int .i64 0,.int .i64 0]),7,56):=by kernel_rfl
theorem Ia {z:Value}{n b:Nat}(h:(Tryz.prog.info? 61).map (fun i=>(i.zero,i.size,i.bytes))=some (some z,n,b)):∃i,Tryz.prog.info? 61=some i/\i.zero=some z/\i.size=n/\i.bytes=b:=by
 cases hi:Tryz.prog.info? 61 with
 | none=>rw[hi] at h;simp at h
 | some i =>
  rw[hi] at h
  simp at h
  exact⟨i,rfl,h.1,h.2.1,h.2.2⟩
theorem Au (f:So):f.cells.length=7:=rfl
theorem abB (fs:List So):∀u∈fs.flatMap So.cells,u.oneCell'=true:=by
 intro u hu
 obtain⟨s,_,hs⟩:=List.mem_flatMap.1 hu
 simp[So.cells] at hs
 rcases hs with rfl|rfl|rfl|rfl|rfl|rfl|rfl<;>rfl
theorem Iu {w:World}{base g n cap k:Nat}{fs:List So}(h:w.ownsRow base 61 7 (.slice (some ⟨g,0,none⟩) n cap) n (fs.flatMap So.cells))(hn:n=fs.length)(hk:k<fs.length):SAt w g (k*7) (gI fs k)/\∀j,w.frozen? ⟨g,j,none⟩=false:=by
 have hc:∀ (j:Nat) (v:Value),j<7->(gI fs k).cells[j]?=some v->w.cell? ⟨g,k*7+j,none⟩=some v:=fun j v hj hv=>by
  rw[h.cellAt (k*7+j) (by omega)]
  exact (ig So.cells 7 Au fs k j v hj).2 ⟨_,l7 hk,hv⟩
 exact⟨⟨hc 0 _ (by omega) rfl,hc 1 _ (by omega) rfl,hc 2 _ (by omega) rfl,hc 3 _ (by omega) rfl,hc 4 _ (by omega) rfl,hc 5 _ (by omega) rfl,hc 6 _ (by omega) rfl⟩,fun j=>h.frozenAt j⟩
abbrev adO (W:World)(g o:Nat)(f:So):World:=((((((W.setCell ⟨g,o,none⟩ (.int .i64 f.id)).setCell ⟨g,o+1,none⟩ (.int .i64 f.x)).setCell ⟨g,o+2,none⟩ (.int .i64 f.y)).setCell ⟨g,o+3,none⟩ (.int .i64 f.dC)).setCell ⟨g,o+4,none⟩ (.int .i64 f.lo)).setCell ⟨g,o+5,none⟩ (.int .i64 f.hi)).setCell ⟨g,o+6,none⟩ (.int .i64 f.tm)
theorem GZ (f:So):∀ (l:List So) (i:Nat),(((((((l.flatMap So.cells).set (i*7) (.int .i64 f.id)).set (i*7+1) (.int .i64 f.x)).set (i*7+2) (.int .i64 f.y)).set (i*7+3) (.int .i64 f.dC)).set (i*7+4) (.int .i64 f.lo)).set (i*7+5) (.int .i64 f.hi)).set (i*7+6) (.int .i64 f.tm)=(l.set i f).flatMap So.cells
 | [],i=>by simp
 | a::l,0=>by simp[So.cells]
 | a::l,i+1=>by
  have ih:=GZ f l i
  rw[List.set_cons_succ,List.flatMap_cons,List.flatMap_cons,<-ih]
  rw[show (i+1)*7=i*7+7 by omega]
  simp[So.cells,show ∀j,i*7+7+j=(i*7+j)+1+1+1+1+1+1+1 by intro j;omega]
theorem Vr {w:World}{base g n cap i:Nat}{fs:List So}(h:w.ownsRow base 61 7 (.slice (some ⟨g,0,none⟩) n cap) n (fs.flatMap So.cells))(f:So):(adO w g (i*7) f).ownsRow base 61 7 (.slice (some ⟨g,0,none⟩) n cap) n ((fs.set i f).flatMap So.cells):=by
 rw[<-GZ]
 exact (((((((h.stored _ _).1.stored _ _).1.stored _ _).1.stored _ _).1.stored _ _).1.stored _ _).1.stored _ _).1
theorem Zl {w W:World}{g o:Nat}{f:So}(h:w.grownBy W (some g)):w.grownBy (adO W g o f) (some g) :=
 eY (eY (eY (eY (eY (eY (eY h))))))
theorem O5 (fs:List So)(A:Option Addr)(c:Nat)(w:World)(hr:Rd w w.heap.size 7 A (fs.map So.cells))(hl:fs.length<=1000) :
  Calls Tryz.prog 62 #[.slice A fs.length c] w fun e w'=>∃v,e=.returned v/\w'.ownsRow w.heap.size 61 7 v fs.length (fs.flatMap So.cells)/\Grew w w':=by
 have hm:=aP
 obtain⟨i0,hi,hz0,hz1,hz2⟩:=Ia adJ
 have hrx:=hr.reads Au (by omega)
 cases A with
 | none =>
  have h0:fs=[]:=by
   rcases hr with h|⟨b,off,h,_⟩
   ·simpa using h
   ·cases h
  subst h0
  have hnil:∀W,(binOp .eql 22 (.slice none 0 c) (.slice none 0 0)).run Tryz.prog W=.ok (.bool true) W:=fun W=>by rw[Lib.run_eql_slice_nil (P:=Tryz.prog) W 22 _ _ _ _ _ _ Tryz.underlying22];rfl
  clear hr hrx
  dsimp only[List.length_nil]
  go_enter Tryz.func62,Tryz.ntmps62
  go_wp2_with fail
  go_ret
  exact⟨_,rfl,World.ownsRow_nil _ _ _ _,gw⟩
 | some a =>
  have hnil:∀W,(binOp .eql 22 (.slice (some a) fs.length c) (.slice none 0 0)).run Tryz.prog W=.ok (.bool false) W:=fun W=>by rw[Lib.run_eql_slice_nil (P:=Tryz.prog) W 22 _ _ _ _ _ _ Tryz.underlying22];rfl
  have HR:=hide hrx
  clear hrx hr
  go_enter Tryz.func62,Tryz.ntmps62
  go_wp2_with (at_builtin;refine kH.stop ?_)
  refine kH.go ?_
  have Oi:=World.ownsRow_lit (base:=w.heap.size) (e:=61) (size:=7) w #[] 0 (Nat.le_refl _) (by unfold maxLen;omega) rfl
  refine iw _ rfl (.tmp 5) (.tmp 6) _ rfl w.heap.size 61 i0 _ 7 56 Tryz.underlying22 hi hz0 hz1 hz2 rfl (by omega) _ 0 [] rfl Oi w.heap.size (some a) fs.length c (fs.flatMap So.cells) rfl (HR.out.alloc (Nat.le_refl _) _) (abB _) (by simp only[maxLen];omega) (by omega) (by simp) ?_
  intro v' w1 hown1 hg1 _
  rw[Nat.zero_add,List.nil_append] at hown1
  have hb0:Below w.heap.size w (w.alloc (.cells #[] 61)):=(Grew.alloc (Grew.refl w) _).below
  have hb1:Below w.heap.size w w1:=hb0.grown hg1 hb0.size fun q hq=>(Oi.lt q hq).1
  have HO:=hide hown1
  have HB:=hide hb1
  clear Oi hown1 hg1 hb0 hb1
  go_wp2_with fail
  go_ret
  exact⟨_,rfl,HO.out,Grew.of_below HB.out⟩
def nY (P:So->Bool)(fs:List So)(j:Nat):List So:=(fs.take j).filter fun f => !P f
structure mf (P:So->Bool) (fs:List So) (j i:Nat) (dk:List So):Prop where
 size:dk.length=fs.length
 lt:i<j
 len:(nY P fs j).length=i
 low:∀m,m<i->dk[m]?=(nY P fs j)[m]?
 high:∀m,j<=m->dk[m]?=fs[m]?
theorem uy {P:So->Bool}{fs:List So}{j:Nat}(h:j<fs.length):nY P fs (j+1)=if P (gI fs j)=true then nY P fs j else nY P fs j++[gI fs j]:=by
 unfold nY
 rw[List.take_add_one,l7 h,List.filter_append]
 by_cases hp:P (gI fs j)=true
 ·simp[hp]
 ·simp[hp]
theorem BP {P:So->Bool}{fs:List So}{j:Nat}(h:∀m,m<j->P (gI fs m)=false)(hj:j<=fs.length):nY P fs j=fs.take j:=by
 unfold nY
 rw[List.filter_eq_self]
 intro f hf
 obtain⟨m,hm,e⟩:=List.getElem_of_mem hf
 rw[List.length_take] at hm
 rw[List.getElem_take] at e
 have:=h m (by omega)
 unfold gI at this
 rw[List.getD_eq_getElem?_getD,List.getElem?_eq_getElem (by omega)] at this
 simp only[Option.getD_some] at this
 rw[e] at this
 simp[this]
theorem vY (P:So->Bool)(fs:List So):nY P fs fs.length=fs.filter fun f => !P f:=by unfold nY;rw[List.take_length]
theorem mf.start {P:So->Bool}{fs:List So}{k:Nat}(h:∀m,m<k->P (gI fs m)=false)(hk:k<fs.length)(hp:P (gI fs k)=true):mf P fs (k+1) k fs:=by
 have e:=uy (P:=P) hk
 rw[if_pos hp,BP h (by omega)] at e
 refine⟨rfl,by omega,by rw[e,List.length_take];omega,fun m hm=>?_,fun m _=>rfl⟩
 rw[e,List.getElem?_take,if_pos hm]
theorem mf.skip {P:So->Bool}{fs dk:List So}{j i:Nat}(h:mf P fs j i dk)(hj:j<fs.length)(hp:P (gI fs j)=true):mf P fs (j+1) i dk:=by
 have e:=uy (P:=P) hj
 rw[if_pos hp] at e
 have:=h.lt
 exact⟨h.size,by omega,by rw[e];exact h.len,fun m hm=>by rw[e];exact h.low m hm,fun m hm=>h.high m (by omega)⟩
theorem mf.keep {P:So->Bool}{fs dk:List So}{j i:Nat}(h:mf P fs j i dk)(hj:j<fs.length)(hp:P (gI fs j)=false):mf P fs (j+1) (i+1) (dk.set i (gI fs j)):=by
 have e:=uy (P:=P) hj
 rw[if_neg (by simp[hp])] at e
 have hl:=h.len
 have hs:=h.size
 have hlt:=h.lt
 refine⟨by rw[List.length_set];exact hs,by omega,by rw[e,List.length_append];simp[hl],fun m hm=>?_,fun m hm=>?_⟩
 ·rw[e]
  by_cases Oh:m=i
  ·subst Oh
   rw[List.getElem?_set_self (by omega),List.getElem?_append_right (by omega),hl]
   simp
  ·rw[List.getElem?_set_ne (by omega),h.low m (by omega),List.getElem?_append_left (by omega)]
 ·rw[List.getElem?_set_ne (by omega)]
  exact h.high m (by omega)
theorem mf.done {P:So->Bool}{fs dk:List So}{i:Nat}(h:mf P fs fs.length i dk):dk.take i=fs.filter (fun f => !P f)/\(fs.filter fun f => !P f).length=i:=by
 have hl:=h.len
 have hs:=h.size
 have hlt:=h.lt
 rw[vY] at hl
 refine⟨?_,hl⟩
 apply List.ext_getElem?
 intro m
 rw[List.getElem?_take]
 by_cases hm:m<i
 ·rw[if_pos hm,h.low m hm,vY]
 ·rw[if_neg hm,List.getElem?_eq_none (by omega)]
theorem DL:∀ (l:List So) (i:Nat),(l.flatMap So.cells).take (i*7)=(l.take i).flatMap So.cells
 | [],i=>by simp
 | a::l,0=>by simp
 | a::l,i+1=>by
  rw[List.take_succ_cons,List.flatMap_cons,List.flatMap_cons,<-DL l i,List.take_append,Au,show (i+1)*7-7=i*7 by omega,List.take_of_length_le (by rw[Au];omega)]
theorem OD (w:World)(b o n c:Nat)(hn:0<n)(hc:∀j,j<n*7->(w.cell? ⟨b,o+j,none⟩).isSome=true)(hf:∀j,j<n*7->w.frozen? ⟨b,o+j,none⟩=false) :
  ∃zs:List Value,∀ty,(Builtin.clear_ #[22] ty #[.slice (some ⟨b,o,none⟩) n c]).run Tryz.prog w=.ok (.tuple #[]) (w.setCells b o zs):=by
 refine⟨(Builtin.zeroCells #[.int .i64 0,.int .i64 0,.int .i64 0,.int .i64 0,.int .i64 0,.int .i64 0,.int .i64 0] n).toList,fun ty=>?_⟩
 have hl:(Builtin.zeroCells #[.int .i64 0,.int .i64 0,.int .i64 0,.int .i64 0,.int .i64 0,.int .i64 0,.int .i64 0] n).toList.length=n*7:=by simp[Builtin.zeroCells]
 have h1:∀v∈(Builtin.zeroCells #[.int .i64 0,.int .i64 0,.int .i64 0,.int .i64 0,.int .i64 0,.int .i64 0,.int .i64 0] n).toList,v.oneCell'=true:=by
  intro v hv
  simp[Builtin.zeroCells] at hv
  obtain⟨a,ha,rfl⟩:=hv
  have:a%7=0\/a%7=1\/a%7=2\/a%7=3\/a%7=4\/a%7=5\/a%7=6:=by omega
  rcases this with h|h|h|h|h|h|h<;>simp[h,Value.oneCell']
 have hst:=run_storeCells_cells (P:=Tryz.prog) b o (Builtin.zeroCells #[.int .i64 0,.int .i64 0,.int .i64 0,.int .i64 0,.int .i64 0,.int .i64 0,.int .i64 0] n).toList 0 w (by rw[hl];simpa using hc) (by rw[hl];simpa using hf) h1
 simp only[Nat.add_zero] at hst
 obtain⟨m,rfl⟩:∃m,n=m+1:=⟨n-1,by omega⟩
 simp[Builtin.clear_,run_underlying Tryz.underlying22,Tryz.zeroValue61,Value.cells,hst]
def ae9 (P:So->Bool)(fs:List So)(e:Ending):Prop:=(e=.returned (.int .i64 (-1))/\∀m,m<fs.length->P (gI fs m)=false)\/(∃k:Nat,k<fs.length/\e=.returned (.int .i64 k)/\P (gI fs k)=true/\∀m,m<k->P (gI fs m)=false)
theorem U8 (fs:List So)(A:Option Addr)(c R K:Nat)(B:Option Addr)(d:Nat)(ss:List So)(w:World)(hE:FY w R K B d ss)(hss:ss.length<=1000)(hr:Rd w w.heap.size 7 A (fs.map So.cells))(hc:fs.length<=1000) :
  Calls Tryz.prog 92 #[.slice A fs.length c,.func (.func 59) #[] #[.pointer (some ⟨R,0,none⟩)]] w fun e w'=>ae9 (qj ss) fs e/\Grew w w':=by
 have hm:=aP
 have HR:=hide hr
 have HE:=hide hE
 clear hr hE
 go_enter Tryz.func92,Tryz.ntmps92
 go_wp2_with fail
 go_loopw [8] (fun i wr=>∃m:Nat,m<=fs.length/\i=.int .i64 m/\Grew w wr/\wW (∀j,j<m->qj ss (gI fs j)=false)) (fun i _=>fs.length-(intOf i).toNat)
 case atStart=>exact⟨0,by omega,rfl,gw,fun j hj=>by omega⟩
 case round =>
  obtain⟨m,hmm,rfl,hg,hall⟩:=hrel
  have HG:=hide hg
  have HA:=hide hall.stop
  clear hg hall
  by_cases hlt:m<fs.length
  ·obtain⟨b,off,hA,hb,fc⟩:=abC (HR.out.up HG.out) hlt
   have hix:=aO (cap:=c) Tryz.underlying22 Tryz.sizeOf61 hA.out hlt
   obtain⟨u,hu⟩:∃u,qj ss (gI fs m)=u:=⟨_,rfl⟩
   have k1:=hide (fun W (hg:Grew w W)=>U7 ss (gI fs m) B d R K u W (HE.out.up hg) hss hu)
   have HU:=hide hu
   obtain⟨c0,c1,c2,c3,c4,c5,c6⟩:=fc
   clear hu hA
   cases u
   ·go_wp2_with (go_at_call 59;with_reducible refine aQ (k1.out _ (HG.out.trans gw)) fun _ _=>?_;dsimp only)
    go_roundw
    case rel=>exact⟨m+1,by omega,by go_num,HG.out.trans gw,show ∀j,j<m+1->qj ss (gI fs j)=false from (fun j hj=>by
     by_cases e:j=m
     ·rw[e];exact HU.out
     ·exact HA.out j (by omega))⟩
    case measure=>simp[intOf];omega
   ·go_wp2_with (go_at_call 59;with_reducible refine aQ (k1.out _ (HG.out.trans gw)) fun _ _=>?_;dsimp only)
    go_ret
    exact⟨.inr ⟨m,by omega,rfl,HU.out,HA.out⟩,HG.out.trans gw⟩
  ·obtain rfl:m=fs.length:=by omega
   go_wp2_with fail
   go_ret
   exact⟨.inl ⟨rfl,HA.out⟩,HG.out⟩
theorem U9 (fs:List So)(v:Value)(base R K:Nat)(B:Option Addr)(d:Nat)(ss:List So)(w:World)(hE:FY w R K B d ss)(hss:ss.length<=1000)(hKb:K<=base)(hb:base<=w.heap.size)(hown:w.ownsRow base 61 7 v fs.length (fs.flatMap So.cells))(hc:fs.length<=1000) :
  Calls Tryz.prog 61 #[v,.func (.func 59) #[] #[.pointer (some ⟨R,0,none⟩)]] w fun e w'=>∃v',e=.returned v'/\w'.ownsRow base 61 7 v' (fs.filter fun f => !qj ss f).length ((fs.filter fun f => !qj ss f).flatMap So.cells)/\w.grownBy w' v.ownBlock:=by
 have hm:=aP
 obtain⟨A,c,rfl,hcl,hr⟩:=Rd.iE Au hown rfl
 have k1:=hide (fun W (hg:Grew w W)=>U8 fs A c R K B d ss W (hE.up hg) hss (hr.up hg) hc)
 have HO:=hide hown
 have HE:=hide hE
 clear hown hE hr
 go_enter Tryz.func61,Tryz.ntmps61
 go_wp2_with fail
 refine (k1.out _ gw).mono ?_
 rintro e w' ⟨h,⟨⟨n1,os1⟩,rfl⟩⟩
 rcases h with⟨rfl,hn⟩|⟨i,hi,rfl,h1,h2⟩
 ·have he:(fs.filter fun f => !qj ss f)=fs:=by
   have:=vY (qj ss) fs
   rw[BP hn (Nat.le_refl _),List.take_length] at this
   exact this.symm
  have HQ:=hide he
  clear he hn
  dsimp only
  go_wp2_with fail
  go_ret
  refine⟨_,rfl,?_,?_⟩
  ·rw[HQ.out]
   exact aI HO.out gw
  ·exact Grew.grownBy gw _
 ·obtain⟨g,rfl⟩:∃g,A=some ⟨g,0,none⟩:=by
   rcases HO.out.2 with⟨h',h0⟩|⟨g',cap',cur,h',_⟩
   ·omega
   ·simp only[Value.slice.injEq] at h'
    exact⟨g',h'.1⟩
  have hst:=hide (mf.start h2 hi h1)
  have hg0:=(HO.out.lt g rfl)
  have hi0:0<=(i:Int):=by omega
  have hi1:¬ (i:Int)=-1:=by omega
  have hKg:K<=g:=by omega
  clear h1 h2 k1
  dsimp only
  go_wp2_with fail
  go_loopw [5,6] (fun a j wr=>∃ (i j':Nat) (dk:List So),a=.int .i64 i/\j=.int .i64 j'/\j'<=fs.length/\Hid (mf (qj ss) fs j' i dk)/\wr.ownsRow base 61 7 (.slice (some ⟨g,0,none⟩) fs.length c) fs.length (dk.flatMap So.cells)/\w.grownBy wr (some g)) (fun _ j _=>fs.length-(intOf j).toNat)
  case atStart=>exact⟨i,i+1,fs,rfl,by go_num,by omega,hst,aI HO.out gw,Grew.grownBy gw _⟩
  case round =>
   obtain⟨i,j,dk,rfl,rfl,hj,hI,hown,hgb⟩:=hrel
   have HW:=hide hown
   have HB:=hide hgb
   have hij:=hI.out.lt
   have hdl:=hI.out.size
   have hz:=hgb.size
   have lg:g<wr.heap.size:=by omega
   clear hst
   by_cases hlt:j<fs.length
   ·obtain⟨fc,hf⟩:=Iu hown hdl.symm (k:=j) (by omega)
    have hfj:gI dk j=gI fs j:=by
     unfold gI
     rw[List.getD_eq_getElem?_getD,hI.out.high j (Nat.le_refl _),<-List.getD_eq_getElem?_getD]
    obtain⟨c0,c1,c2,c3,c4,c5,c6⟩:=fc
    rw[hfj] at c0 c1 c2 c3 c4 c5 c6
    obtain⟨d0,d1,d2,d3,d4,d5,d6⟩:=(Iu hown hdl.symm (k:=i) (by omega)).1
    have hix:=aO (cap:=c) (k:=j) (len:=fs.length) Tryz.underlying22 Tryz.sizeOf61 (A:=some ⟨g,0,none⟩) rfl hlt
    have hix2:=aO (cap:=c) (k:=i) (len:=fs.length) Tryz.underlying22 Tryz.sizeOf61 (A:=some ⟨g,0,none⟩) rfl (by omega)
    obtain⟨u,hu⟩:∃u,qj ss (gI fs j)=u:=⟨_,rfl⟩
    have kc:=hide (fun W (hg:Grew wr W)=>U7 ss (gI fs j) B d R K u W ((HE.out.gb HB.out (by omega)).up hg) hss hu)
    have HU:=hide hu
    rw[Nat.zero_add] at hix hix2
    clear hfj hown hgb hu
    generalize gI dk i=old at *
    obtain⟨f,WR⟩:∃f,gI fs j=f:=⟨_,rfl⟩
    rw[WR] at c0 c1 c2 c3 c4 c5 c6 kc
    have HF:=hide WR
    clear WR
    cases u
    ·go_wp2_with (go_at_call 59;with_reducible refine aQ (kc.out _ gw) fun _ _=>?_;dsimp only)
     go_roundw
     case rel=>exact⟨i+1,j+1,dk.set i f,by go_num,by go_num,by omega,hide (by rw[<-HF.out];exact hI.out.keep hlt HU.out),aI (Vr HW.out f) gw,mZ (Zl (f:=f) HB.out) gw⟩
     case measure=>simp[intOf];omega
    ·go_wp2_with (go_at_call 59;with_reducible refine aQ (kc.out _ gw) fun _ _=>?_;dsimp only)
     go_roundw
     case rel=>exact⟨i,j+1,dk,rfl,by go_num,by omega,hide (hI.out.skip hlt HU.out),aI HW.out gw,mZ HB.out gw⟩
     case measure=>simp[intOf];omega
   ·obtain rfl:j=fs.length:=by omega
    obtain⟨zs,WV⟩:=OD wr g (i*7) (fs.length-i) (c-i) (by omega) (fun t ht=>by
     have:=hown.cellAt (i*7+t) (by omega)
     rw[this,List.getElem?_eq_getElem (by rw[hown.1];omega)]
     rfl) (fun t ht=>hown.frozenAt _)
    obtain⟨hq1,hq2⟩:=hI.out.done
    have HQ:=hide hq1
    have HQ2:=hide hq2
    clear hown hgb hq1 hq2
    go_wp2
    go_ret
    refine⟨_,rfl,?_,?_⟩
    ·rw[HQ2.out,<-HQ.out,<-DL]
     exact yU zs _ _ (Nat.le_refl _) (D7 HW.out (by omega))
    ·exact kR zs _ _ HB.out
def jC (ss:List So):List So:=ss.filter fun x => !qj ss x
def ae8 (w:World)(xs:List So)(e:Ending)(w':World):Prop:=∃v',e=.returned v'/\w'.ownsRow w.heap.size 61 7 v' xs.length (xs.flatMap So.cells)/\Grew w w'
theorem own_base {w:World}{b b':Nat}{e:TypeId}{m n:Nat}{v:Value}{xs:List Value}(h:w.ownsRow b e m v n xs)(hle:b'<=b):w.ownsRow b' e m v n xs:=by
 refine⟨h.1,?_⟩
 rcases h.2 with hn|⟨g,cap,cur,rfl,hb,rest⟩
 ·exact .inl hn
 ·exact .inr ⟨g,cap,cur,rfl,by omega,rest⟩
theorem G8 (ss:List So)(fs:List FV)(A A':Option Addr)(c c':Nat)(w:World)(hr:Rd w w.heap.size 7 A (ss.map So.cells))(hl:ss.length<=1000) :
  Calls Tryz.prog 26 #[.agg #[.slice A ss.length c,.slice A' fs.length c']] w (ae8 w (jC ss)):=by
 have hm:=aP
 obtain⟨W0,hW0⟩:∃W0,w.alloc (.cells #[.slice A ss.length c,.slice A' fs.length c'] 25)=W0:=⟨_,rfl⟩
 have hg0:Grew w W0:=by rw[<-hW0];exact gw
 have hs0:W0.heap.size=w.heap.size+1:=by rw[<-hW0];simp
 have hb0:W0.heap[w.heap.size]?=some (.cells #[.slice A ss.length c,.slice A' fs.length c'] 25 (0,0)):=by rw[<-hW0];exact heap_alloc_new _ _
 have hE:FY W0 w.heap.size (w.heap.size+1) A c ss:=⟨ag hb0 0,(hr.grew hg0 (Nat.le_refl _)).mono (by omega),by omega,by omega⟩
 have c0:=ag hb0 0
 have l0:=au hb0
 have k1:=hide (O5 ss A c W0 (hr.up hg0) hl)
 have HE:=hide hE
 have lN:=hide hg0
 clear hr hE hb0 hg0
 go_enter Tryz.func26,Tryz.ntmps26
 go_wp2_with fail
 refine k1.out.mono ?_
 rintro e w1 ⟨v1,rfl,hown,hg1⟩
 obtain⟨B1,c1,rfl,hcl⟩:=kS hown
 have k2:=hide (fun W (hg:Grew w1 W)=>U9 ss (.slice B1 ss.length c1) W0.heap.size w.heap.size (w.heap.size+1) A c ss W ((HE.out.up hg1).up hg) hl (by omega) (Nat.le_trans hg1.below.size hg.below.size) (aI hown hg) hl)
 have jE:=hide hg1
 have HO:=hide hown
 clear hg1 hown k1 c0
 dsimp only
 go_wp2_with fail
 refine (k2.out _ gw).mono ?_
 rintro e w2 ⟨v2,rfl,hown2,hgb⟩
 obtain⟨B2,c2,rfl,WV⟩:=kS hown2
 have hlow:∀q,(Value.slice B1 ss.length c1).ownBlock=some q->W0.heap.size<=q:=fun q hq=>by
  rcases HO.out.2 with⟨h',_⟩|⟨g',cap',cur,h',hbb,_⟩
  ·rw[h'] at hq;cases hq
  ·rw[h'] at hq
   injection hq with hq
   simp at hq
   omega
 have hbel:Below W0.heap.size W0 w2:=jE.out.below.grown hgb jE.out.below.size hlow
 have HB:=hide (Grew.of_below hbel)
 have HR:=hide (own_base hown2 (show w.heap.size<=W0.heap.size by omega))
 clear hgb hown2 hlow hbel k2
 dsimp only
 go_wp2_with fail
 go_ret
 exact⟨_,rfl,HR.out,lN.out.trans HB.out⟩
end Go.Proofs.YtlkgjmnjhifehaaGreat
set_option maxHeartbeats 8000000
set_option maxRecDepth 100000
namespace Go.Proofs.YtlkgjmnjhifehaaGreat
open Go.RowKit Go.Sort
attribute [local go_sem] dA steadyUpon
attribute [local go_sem ↓] bU bI aX aW aV aU aT
attribute [local go_sem] bH aK aJ size_grow tape_grow cell?_grow' aF aB grow_grow bW aY dR cO bY bK aN cZ aZ bZ bJ
attribute [local irreducible] wpSteady
def CS (fs:List FV):Prop:=fs.Pairwise fun f g=>f.id<g.id
def posOf (fs:List FV)(n:Int):Nat:=(fs.filter fun f=>decide (f.id<n)).length
def ry (fs:List FV)(n:Int):Bool:=fs.any fun f=>decide (f.id=n)
theorem Ik {fs:List FV}(h:CS fs){i j:Nat}(hij:i<j)(hj:j<fs.length):(bF fs i).id<(bF fs j).id:=by
 have h1:=dI (fs:=fs) (k:=i) (by omega)
 have h2:=dI hj
 have h3:=List.getElem?_eq_some_iff.1 h1
 have h4:=List.getElem?_eq_some_iff.1 h2
 have:=List.pairwise_iff_getElem.1 h i j (by omega) hj hij
 rw[h3.2,h4.2] at this
 exact this
theorem pos_eq {fs:List FV}{n:Int}{a:Nat}(ha:a<=fs.length)(h1:∀k,k<a->(bF fs k).id<n)(h2:∀k,a<=k->k<fs.length->n<=(bF fs k).id):posOf fs n=a:=by
 unfold posOf
 conv=>lhs;rw[<-List.take_append_drop a fs]
 rw[List.filter_append,List.length_append]
 have e1:(fs.take a).filter (fun f=>decide (f.id<n))=fs.take a:=by
  rw[List.filter_eq_self]
  intro f hf
  obtain⟨k,hk⟩:=List.getElem?_of_mem hf
  rw[List.getElem?_take] at hk
  split at hk
  ·rename_i hka
   have:=dI (fs:=fs) (k:=k) (by omega)
   rw[this] at hk
   injection hk with hk
   rw[<-hk]
   exact decide_eq_true (h1 k hka)
  ·cases hk
 have e2:(fs.drop a).filter (fun f=>decide (f.id<n))=[]:=by
  rw[List.filter_eq_nil_iff]
  intro f hf
  obtain⟨k,hk⟩:=List.getElem?_of_mem hf
  rw[List.getElem?_drop] at hk
  have hl:=(List.getElem?_eq_some_iff.1 hk).1
  rw[dI hl] at hk
  injection hk with hk
  rw[<-hk]
  have:=h2 (a+k) (by omega) hl
  simp
  omega
 rw[e1,e2,List.length_take]
 simp
 omega
theorem ach {fs:List FV}{n:Int}{k:Nat}(hk:k<fs.length)(h:(bF fs k).id=n):ry fs n=true:=by
 unfold ry
 rw[List.any_eq_true]
 exact⟨_,dQ hk,decide_eq_true h⟩
theorem WN {fs:List FV}{n:Int}(h:∀k,k<fs.length->(bF fs k).id≠n):ry fs n=false:=by
 unfold ry
 rw[List.any_eq_false]
 intro f hf
 obtain⟨k,hk⟩:=List.getElem?_of_mem hf
 have hl:=(List.getElem?_eq_some_iff.1 hk).1
 rw[dI hl] at hk
 injection hk with hk
 have:=h k hl
 rw[hk] at this
 simpa using this
theorem aeT (f:FV)(w:World):Calls Tryz.prog 28 #[f.val] w (aC w (.int .i64 f.id)):=by
 have hm:=aP
 obtain⟨id,kind,x,y,dC,aA,ac,area,dep,sym,sA,sc,secs⟩:=f
 unfold FV.val
 dsimp only
 generalize area.length=na at *
 generalize secs.length=ns at *
 go_enter Tryz.func28,Tryz.ntmps28
 go_wp2_with fail
 go_ret
 exact aC.mk' rfl gw
theorem Qg (f:FV)(n:Int)(K:Nat)(w:World)(hK:w.cell? ⟨K,0,none⟩=some (.func (.func 28) #[] #[])):Calls Tryz.prog 64 #[f.val,.int .i64 n,.pointer (some ⟨K,0,none⟩)] w (aC w (.int .i64 (sg (f.id-n)))):=by
 have hm:=aP
 have k1:=hide (fun W=>aeT f W)
 have k2:=hide (fun W=>ik f.id n W)
 have lK:=cell_lt hK
 obtain⟨id,kind,x,y,dC,aA,ac,area,dep,sym,sA,sc,secs⟩:=f
 unfold FV.val at *
 dsimp only at *
 generalize area.length=na at *
 generalize secs.length=ns at *
 generalize sg (id-n)=z at *
 go_enter Tryz.func64,Tryz.ntmps64
 go_wp2_with (first|(go_at_call 28;with_reducible refine aQ (k1.out _) fun _ _=>?_;dsimp only)|(go_at_call 65;with_reducible refine aQ (k2.out _) fun _ _=>?_;dsimp only))
 go_ret
 exact aC.mk' rfl gw
theorem ae2 (fs:List FV)(n:Int)(K:Nat)(A:Option Addr)(c:Nat)(w:World)(hr:Rd w w.heap.size 9 A (fs.map FV.cells))(hc:fs.length<=1000)(hs:CS fs)(hK:w.cell? ⟨K,0,none⟩=some (.func (.func 28) #[] #[])) :
  Calls Tryz.prog 63 #[.slice A fs.length c,.int .i64 n,.func (.func 64) #[] #[.pointer (some ⟨K,0,none⟩)]] w (aC w (.tuple #[.int .i64 (posOf fs n),.bool (ry fs n)])):=by
 have hm:=aP
 have HR:=hide hr
 have HM:=hide (fun i j=>@Ik fs hs i j)
 have HKc:=hide hK
 have lK:=cell_lt hK
 clear hr hs hK
 obtain⟨P0,hP0⟩:∃p,posOf fs n=p:=⟨_,rfl⟩
 obtain⟨O0,hO0⟩:∃p,ry fs n=p:=⟨_,rfl⟩
 rw[hP0,hO0]
 have HP0:=hide hP0
 have HO0:=hide hO0
 clear hP0 hO0
 go_enter Tryz.func63,Tryz.ntmps63
 go_wp2_with fail
 go_loopw [9,10] (fun i j wr=>∃a b:Nat,i=.int .i64 a/\j=.int .i64 b/\a<=b/\b<=fs.length/\Grew w wr/\wW ((∀k,k<a->(bF fs k).id<n)/\(∀k,b<=k->k<fs.length->n<=(bF fs k).id))) (fun i j _=>(intOf j-intOf i).toNat)
 case atStart=>exact⟨0,fs.length,rfl,rfl,by omega,by omega,gw,show _/\_ from ⟨fun k h=>by omega,fun k h1 h2=>by omega⟩⟩
 case round =>
  obtain⟨a,b,rfl,rfl,hab,hbN,hg,hinv⟩:=hrel
  have HG:=hide hg
  have HI:=hide hinv.stop
  have hcK:=(hg.below.cell (p:=⟨K,0,none⟩) lK).trans HKc.out
  have HCK:=hide hcK
  clear hg hinv hcK
  by_cases hlt:a<b
  ·obtain⟨k,hk⟩:∃k:Nat,((a:Int)+(b:Int)) / 2=(k:Int):=⟨(a+b) / 2,by omega⟩
   have hk1:a<=k/\k<b:=by omega
   have hkl:k<fs.length:=by omega
   obtain⟨bb,off,hA,hbb,fc⟩:=rowAt (HR.out.up HG.out) hkl
   have hix:=aO (cap:=c) Tryz.underlying23 Tryz.sizeOf65 hA.out hkl
   have kf:=hide (fun W (h:Grew wr W)=>Qg (bF fs k) n K W ((h.below.cell (p:=⟨K,0,none⟩) (cell_lt HCK.out)).trans HCK.out))
   have hsg:=dN ((bF fs k).id-n)
   obtain⟨g,hgg⟩:∃g,sg ((bF fs k).id-n)=g:=⟨_,rfl⟩
   rw[hgg] at kf hsg
   obtain⟨F,hF⟩:∃F,bF fs k=F:=⟨_,rfl⟩
   rw[hF] at kf hsg fc
   have HS:=hide hsg
   have HF:=hide hF
   obtain⟨c0,c1,c2,c3,c4,c5,c6,c7,c8⟩:=fc
   have lbb:bb<wr.heap.size:=by have:=HG.out.below.size;omega
   clear hA hgg hsg hF
   obtain⟨id,kind,x,y,dC,aA,ac,area,dep,sym,sA,sc,secs⟩:=F
   unfold FV.val at kf
   dsimp only at *
   generalize area.length=na at *
   generalize secs.length=ns at *
   by_cases hg0:g<0
   ·go_wp2_with (go_at_call 64;with_reducible refine aQ (kf.out _ gw) fun _ _=>?_;dsimp only)
    go_roundw
    case rel=>exact⟨k+1,b,by go_num,rfl,by omega,hbN,HG.out.trans gw,show _/\_ from ⟨fun x hx=>by
     have h9:=HS.out
     have h8:=congrArg FV.id HF.out
     dsimp only at h8
     rcases Nat.lt_or_ge x k with h|h
     ·have:=HM.out x k h hkl;omega
     ·obtain rfl:x=k:=by omega
      omega,HI.out.2⟩⟩
    case measure=>simp[intOf];omega
   ·go_wp2_with (go_at_call 64;with_reducible refine aQ (kf.out _ gw) fun _ _=>?_;dsimp only)
    go_roundw
    case rel=>exact⟨a,k,rfl,by go_num,by omega,by omega,HG.out.trans gw,show _/\_ from ⟨HI.out.1,fun x hx hxl=>by
     have h9:=HS.out
     have h8:=congrArg FV.id HF.out
     dsimp only at h8
     rcases Nat.lt_or_ge k x with h|h
     ·have:=HM.out k x h hxl;omega
     ·obtain rfl:x=k:=by omega
      omega⟩⟩
    case measure=>simp[intOf];omega
  ·obtain rfl:a=b:=by omega
   have hpa:P0=a:=by rw[<-HP0.out];exact pos_eq hbN HI.out.1 HI.out.2
   subst hpa
   by_cases hn:P0<fs.length
   ·obtain⟨bb,off,hA,hbb,fc⟩:=rowAt (HR.out.up HG.out) hn
    have hix:=aO (cap:=c) Tryz.underlying23 Tryz.sizeOf65 hA.out hn
    have kf:=hide (fun W (h:Grew wr W)=>Qg (bF fs P0) n K W ((h.below.cell (p:=⟨K,0,none⟩) (cell_lt HCK.out)).trans HCK.out))
    have hsg:=dN ((bF fs P0).id-n)
    obtain⟨g,hgg⟩:∃g,sg ((bF fs P0).id-n)=g:=⟨_,rfl⟩
    rw[hgg] at kf hsg
    have hO:(g==0)=O0:=by
     rw[<-HO0.out]
     by_cases h0:g=0
     ·rw[h0,ach hn (by omega)];rfl
     ·rw[WN (n:=n) fun k hk=>?_]
      ·simpa using h0
      ·rcases Nat.lt_trichotomy k P0 with h|rfl|h
       ·have:=HI.out.1 k h;omega
       ·omega
       ·have:=HM.out P0 k h hk
        have:=HI.out.2 P0 (Nat.le_refl _) hn
        omega
    obtain⟨F,hF⟩:∃F,bF fs P0=F:=⟨_,rfl⟩
    rw[hF] at kf hsg fc
    obtain⟨c0,c1,c2,c3,c4,c5,c6,c7,c8⟩:=fc
    have lbb:bb<wr.heap.size:=by have:=HG.out.below.size;omega
    clear hA hgg hsg hF
    subst hO
    obtain⟨id,kind,x,y,dC,aA,ac,area,dep,sym,sA,sc,secs⟩:=F
    unfold FV.val at kf
    dsimp only at *
    generalize area.length=na at *
    generalize secs.length=ns at *
    go_wp2_with (go_at_call 64;with_reducible refine aQ (kf.out _ gw) fun _ _=>?_;dsimp only)
    go_ret2
    exact⟨rfl,HG.out.trans gw⟩
   ·have hO:false=O0:=by
     rw[<-HO0.out]
     exact (WN fun k hk=>by have:=HI.out.1 k (by omega);omega).symm
    subst hO
    go_wp2_with fail
    go_ret2
    exact⟨rfl,HG.out.trans gw⟩
theorem Xg (fs:List FV)(n:Int)(A:Option Addr)(c:Nat)(w:World)(hr:Rd w w.heap.size 9 A (fs.map FV.cells))(hc:fs.length<=1000)(hs:CS fs) :
  Calls Tryz.prog 27 #[.slice A fs.length c,.func (.func 28) #[] #[],.int .i64 n] w (aC w (.tuple #[.int .i64 (posOf fs n),.bool (ry fs n)])):=by
 have hm:=aP
 have hg1:Grew w (w.alloc (.cells #[.func (.func 28) #[] #[]] 77 (0,0))):=gw
 have kb:=hide (ae2 fs n w.heap.size A c _ (hr.up hg1) hc hs (ag (heap_alloc_new _ _) 0))
 generalize posOf fs n=P0 at *
 generalize ry fs n=O0 at *
 clear hr hs hg1
 go_enter Tryz.func27,Tryz.ntmps27
 go_wp2_with (go_at_call 63;with_reducible refine aQ (kb.out) fun _ _=>?_;dsimp only)
 go_ret2
 exact aC.mk' rfl gw
end Go.Proofs.YtlkgjmnjhifehaaGreat
