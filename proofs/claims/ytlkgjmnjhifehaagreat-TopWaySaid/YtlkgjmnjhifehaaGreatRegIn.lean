/- XReg's theorem on a drawn region, inside a round of a range over a function. Written by wip/bin/mk_regin.py out of XReg. -/
import Derived.Test.YtlkgjmnjhifehaaGreatReg
import Derived.RangeFuncNested
import Derived.RangeFuncBound
import Derived.RangeFuncCalls
import Derived.RangeFuncLeaves
import Derived.RangeFuncWrites
import Derived.OwnWalkIn
import Derived.TacticsInMore
import Derived.LoopNIn
import Derived.LoopIn
set_option linter.unusedSimpArgs false
set_option linter.unusedVariables false
namespace Go.Proofs.YtlkgjmnjhifehaaGreat
open Go.RowKit Go.Sort
def Df (ops:Array Oper):Bool:=ops.all fun o=>match o.op with | .defer _=>false|_=>true
theorem uk {ops:Array Oper}(h:Df ops=true)(j:Nat)(o:Oper)(c:Call)(ho:ops[j]?=some o):o.op≠.defer c:=by
 intro e
 have:=Array.all_eq_true_iff_forall_mem.1 h o (Array.mem_of_getElem? ho)
 simp[e] at this
section
variable {P:Program} {ops:Array Oper} {lw nn:Nat} {w0:World} {a0:Act} {m:Nat} {di:List AL} {dF:List BL} {v:Nat->Value} {af:Act} {Q:Exit->Act->World->Prop}
theorem Fb (C:iq ops m di dF):∀ (tl:List Oper) (k:Nat) (listed:Array Bool) (a:Act) (W:World) (fuel:Nat),m<=k->(∀i,tl[i]?=ops[k+i]?)->listed.size=ops.size ->
  (∀j,listed.getD j false=true↔(j<k/\j<ops.size))->tl.length<=fuel->wpListIn (Fence.wide.inRound lw) nn P ops Q tl a W->wpAnyIn (Fence.wide.inRound lw) nn P .any ops Q fuel listed a W
 | [],k,listed,a,W,fuel,_,ht,hs,hl,_,h=>by
  have hnone:ops[k]?=none:=by simpa using (ht 0).symm
  have hkn:ops.size<=k:=by simpa using hnone
  have hr:Region.ready .any ops listed=[]:=by
   cases hc:Region.ready .any ops listed with
   | nil=>rfl
   | cons i rest =>
    have hi:i∈Region.ready .any ops listed:=by rw[hc];simp
    have h1:=gX hi
    have h2:=(hl i).2 ⟨by omega,h1.1⟩
    have hs':i<listed.size:=by rw[hs];exact h1.1
    have h3:=h1.2
    simp[hs'] at h2 h3
    rw[h2] at h3
    cases h3
  cases fuel with
  | zero=>exact⟨hr,h⟩
  | succ f=>exact⟨fun _=>h,fun i hi=>by rw[hr] at hi;cases hi⟩
 | o::tl,k,listed,a,W,0,_,_,_,_,hf,_=>by simp at hf
 | o::tl,k,listed,a,W,fuel+1,hmk,ht,hs,hl,hf,h=>by
  have h0:ops[k]?=some o:=by simpa using (ht 0).symm
  have hk:k<ops.size:=(Array.getElem?_eq_some_iff.1 h0).1
  have vZ:listed.getD k false=false:=by
   cases hc:listed.getD k false with
   | false=>rfl
   | true=>have:=(hl k).1 hc;omega
  have hks:k<listed.size:=by omega
  have hkr:k∈Region.ready .any ops listed:=by
   refine mem_ready.2 ⟨by simp[hks] at vZ ⊢;exact vZ,o,h0,fun e he hb=>?_⟩
   have:=C.lex k o e h0 he hb
   exact (hl e.on).2 ⟨this,by omega⟩
  refine⟨fun hn=>(by rw[hn] at hkr;cases hkr),fun i hi=>?_⟩
  have hil:=gX hi
  have hik:i=k:=by
   have BZ:listed.getD i false=false:=by
    have his:i<listed.size:=by omega
    have:=hil.2
    simp[his] at this ⊢
    exact this
   rcases Nat.lt_trichotomy i k with h1|h1|h1
   ·rw[(hl i).2 ⟨h1,hil.1⟩] at BZ
    cases BZ
   ·exact h1
   ·obtain⟨f,hf⟩:=C.tl i _ (by omega) (Array.getElem?_eq_getElem hil.1) k h1
    have:=jL (fun a b ha hb=>(hl b).2 (by have:=(hl a).1 ha;have:=lS C hb;omega)) f (.inl hi) hf
    rw[vZ] at this
    cases this
  subst hik
  have next:∀a' W',wpListIn (Fence.wide.inRound lw) nn P ops Q tl a' W'->wpAnyIn (Fence.wide.inRound lw) nn P .any ops Q fuel (listed.setIfInBounds i true) a' W':=fun a' W' h'=>by
   refine Fb C tl (i+1) _ a' W' fuel (by omega) (fun q=>by have:=ht (q+1);simpa[Nat.add_assoc,Nat.add_comm 1 q] using this) (by simp[hs]) ?_ (by simpa using hf) h'
   intro j
   by_cases hji:i=j
   ·subst hji
    rw[dX hks]
    simp[hk]
   ·rw[ai hji,hl j]
    omega
  unfold wpOpIn
  simp only[h0]
  unfold wpListIn at h
  by_cases hw:Region.wanted o (yielded ops a.tmps)=true
  ·rw[if_pos hw] at h ⊢
   exact Oper.wpIn_mono next h
  ·rw[if_neg hw] at h ⊢
   exact⟨h.1,next _ _ h.2⟩
theorem Hq (C:iq ops m di dF):∀ (tl:List Oper) (k:Nat) (listed:Array Bool) (a:Act) (W:World) (fuel:Nat),m<=k->(∀i,tl[i]?=ops[k+i]?)->listed.size=ops.size ->
  (∀j,listed.getD j false=true↔(j<k/\j<ops.size))->tl.length<=fuel->wpListIn Fence.wide nn P ops Q tl a W->wpAnyIn Fence.wide nn P .any ops Q fuel listed a W
 | [],k,listed,a,W,fuel,_,ht,hs,hl,_,h=>by
  have hnone:ops[k]?=none:=by simpa using (ht 0).symm
  have hkn:ops.size<=k:=by simpa using hnone
  have hr:Region.ready .any ops listed=[]:=by
   cases hc:Region.ready .any ops listed with
   | nil=>rfl
   | cons i rest =>
    have hi:i∈Region.ready .any ops listed:=by rw[hc];simp
    have h1:=gX hi
    have h2:=(hl i).2 ⟨by omega,h1.1⟩
    have hs':i<listed.size:=by rw[hs];exact h1.1
    have h3:=h1.2
    simp[hs'] at h2 h3
    rw[h2] at h3
    cases h3
  cases fuel with
  | zero=>exact⟨hr,h⟩
  | succ f=>exact⟨fun _=>h,fun i hi=>by rw[hr] at hi;cases hi⟩
 | o::tl,k,listed,a,W,0,_,_,_,_,hf,_=>by simp at hf
 | o::tl,k,listed,a,W,fuel+1,hmk,ht,hs,hl,hf,h=>by
  have h0:ops[k]?=some o:=by simpa using (ht 0).symm
  have hk:k<ops.size:=(Array.getElem?_eq_some_iff.1 h0).1
  have vZ:listed.getD k false=false:=by
   cases hc:listed.getD k false with
   | false=>rfl
   | true=>have:=(hl k).1 hc;omega
  have hks:k<listed.size:=by omega
  have hkr:k∈Region.ready .any ops listed:=by
   refine mem_ready.2 ⟨by simp[hks] at vZ ⊢;exact vZ,o,h0,fun e he hb=>?_⟩
   have:=C.lex k o e h0 he hb
   exact (hl e.on).2 ⟨this,by omega⟩
  refine⟨fun hn=>(by rw[hn] at hkr;cases hkr),fun i hi=>?_⟩
  have hil:=gX hi
  have hik:i=k:=by
   have BZ:listed.getD i false=false:=by
    have his:i<listed.size:=by omega
    have:=hil.2
    simp[his] at this ⊢
    exact this
   rcases Nat.lt_trichotomy i k with h1|h1|h1
   ·rw[(hl i).2 ⟨h1,hil.1⟩] at BZ
    cases BZ
   ·exact h1
   ·obtain⟨f,hf⟩:=C.tl i _ (by omega) (Array.getElem?_eq_getElem hil.1) k h1
    have:=jL (fun a b ha hb=>(hl b).2 (by have:=(hl a).1 ha;have:=lS C hb;omega)) f (.inl hi) hf
    rw[vZ] at this
    cases this
  subst hik
  have next:∀a' W',wpListIn Fence.wide nn P ops Q tl a' W'->wpAnyIn Fence.wide nn P .any ops Q fuel (listed.setIfInBounds i true) a' W':=fun a' W' h'=>by
   refine Hq C tl (i+1) _ a' W' fuel (by omega) (fun q=>by have:=ht (q+1);simpa[Nat.add_assoc,Nat.add_comm 1 q] using this) (by simp[hs]) ?_ (by simpa using hf) h'
   intro j
   by_cases hji:i=j
   ·subst hji
    rw[dX hks]
    simp[hk]
   ·rw[ai hji,hl j]
    omega
  unfold wpOpIn
  simp only[h0]
  unfold wpListIn at h
  by_cases hw:Region.wanted o (yielded ops a.tmps)=true
  ·rw[if_pos hw] at h ⊢
   exact Oper.wpIn_mono next h
  ·rw[if_neg hw] at h ⊢
   exact⟨h.1,next _ _ h.2⟩
theorem TM (C:iq ops m di dF)(hnd:∀ (j:Nat) (o:Oper) c,ops[j]?=some o->o.op≠.defer c)(hmn:m<=ops.size)(tl:List Oper)(htl:∀i,tl[i]?=ops[m+i]?)(hsl:∀x∈di,x.d<a0.tmps.size)(hZ:qI P di)(hS:ja ops af di)(Je:af=dS ops a0 (qv ops v m))
  (hv:∀i o,i<m->ops[i]?=some o->oH o=true->YS P ops w0 o (v i) (dS ops a0 (qv ops v i))) (hL:nT P ops af dF) (hQ:∀ps qs W,Grew w0 W->nD ops w0 W af di ps->jS w0 W af dF qs->wpListIn (Fence.wide.inRound lw) nn P ops Q tl (putB dF qs (putAll di ps af)) W) :
  ∀ (fuel:Nat) (vals:Nat->Option Value) (π:Nat->Nat) (listed:Array Bool) (a:Act) (W:World),Inv P ops m w0 a0 di dF v af vals π listed a W->cnt (fun j=>listed.getD j false) ops.size<=fuel ->
   wpAnyIn (Fence.wide.inRound lw) nn P .any ops Q fuel listed a W:=by
 have WA:tl.length=ops.size-m:=by
  have h1:∀i,i<tl.length↔m+i<ops.size:=fun i=>by
   have:=htl i
   constructor
   ·intro h
    rw[List.getElem?_eq_getElem h] at this
    exact (Array.getElem?_eq_some_iff.1 this.symm).1
   ·intro h
    rw[Array.getElem?_eq_getElem h] at this
    exact (List.getElem?_eq_some_iff.1 this).1
  have h2:=h1 (ops.size-m)
  have h3:=h1 tl.length
  by_cases hlt:tl.length<ops.size-m
  ·omega
  ·by_cases hgt:ops.size-m<tl.length<;>omega
 have hfin:∀ (fuel:Nat) (vals:Nat->Option Value) (π:Nat->Nat) (listed:Array Bool) (a:Act) (W:World),Inv P ops m w0 a0 di dF v af vals π listed a W->cnt (fun j=>listed.getD j false) ops.size<=fuel ->
   (∀j,j<m->listed.getD j false=true)->wpAnyIn (Fence.wide.inRound lw) nn P .any ops Q fuel listed a W:=by
  intro fuel vals π listed a W I hc hall
  have hlist:∀j,listed.getD j false=true↔(j<m/\j<ops.size):=fun j=>by
   by_cases hj:j<m
   ·simp only[hall j hj,hj,true_and,true_iff]
    omega
   ·have:=I.main j (by omega)
    rw[this]
    simp[hj]
  refine Fb C tl m listed a W fuel (Nat.le_refl _) htl I.size hlist ?_ (zC C I hall Je hQ)
  rw[WA]
  have:∀n,m<=n->cnt (fun j=>listed.getD j false) n=n-m:=by
   intro n
   induction n with
   | zero=>intro h;simp[cnt]
   | succ n ih =>
    intro h
    unfold cnt
    by_cases hn:m<=n
    ·rw[ih hn,I.main n hn]
     simp
     omega
    ·have hmn:m=n+1:=by omega
     rw[if_pos (hall n (by omega))]
     have hz:∀q,q<=n->cnt (fun j=>listed.getD j false) q=0:=by
      intro q
      induction q with
      | zero=>intro _;rfl
      | succ q ihq=>intro hq;unfold cnt;rw[ihq (by omega),if_pos (hall q (by omega))]
     rw[hz n (Nat.le_refl _)]
     omega
  rw[this _ hmn] at hc
  exact hc
 intro fuel
 induction fuel with
 | zero =>
  intro vals π listed a W I hc
  have hall:=wM _ (by omega:cnt (fun j=>listed.getD j false) ops.size=0)
  exact hfin 0 vals π listed a W I hc fun j hj=>hall j (by omega)
 | succ fuel ih =>
  intro vals π listed a W I hc
  by_cases hall:∀j,j<m->listed.getD j false=true
  ·exact hfin _ vals π listed a W I hc hall
  have hmain:∀i,i∈Region.ready .any ops listed->i<m:=fun i hr=>by
   rcases Nat.lt_or_ge i m with h|h
   ·exact h
   ·exact (hall fun j hj=>(C.tl i _ h (Array.getElem?_eq_getElem (gX hr).1) j (by omega)).elim fun f hf=>jL I.down f (.inl hr) hf).elim
  refine⟨fun h0=>?_,fun i hr=>?_⟩
  ·exfalso
   refine hall fun j=>?_
   induction j using Nat.strongRecOn with
   | ind k ihk =>
    intro hk
    by_cases hl:listed.getD k false=true
    ·exact hl
    ·exfalso
     have hkn:k<ops.size:=by omega
     have:k∈Region.ready .any ops listed:=by
      refine mem_ready.2 ⟨?_,ops[k],Array.getElem?_eq_getElem hkn,fun e he hb=>?_⟩
      ·have hs:k<listed.size:=by rw[I.size];exact hkn
       simp[hs] at hl ⊢
       exact hl
      ·have hlt:=C.lex k _ e (Array.getElem?_eq_getElem hkn) he hb
       exact ihk e.on hlt (by omega)
     rw[h0] at this
     cases this
  have him:=hmain i hr
  have hlt:=(gX hr).1
  have hoff:=mJ I hr
  have his:i<listed.size:=by rw[I.size];exact hlt
  have hcnt:cnt (fun j=>(listed.setIfInBounds i true).getD j false) ops.size<=fuel:=by
   have:=zS (f:=fun j=>listed.getD j false) (g:=fun j=>(listed.setIfInBounds i true).getD j false) hoff (dX his) (fun j hj=>ai (fun e=>hj e.symm)) ops.size hlt
   omega
  have ho:ops[i]?=some ops[i]:=Array.getElem?_eq_getElem hlt
  generalize ops[i]=o at ho
  unfold wpOpIn
  simp only[ho]
  cases hq:oH o with
  | true =>
   have hag:=agree C I him hr ho hq
   have hex:execOp a.eval o=execOp (dS ops a0 (qv ops v i)).eval o:=by rw[I.act];exact kV (C.y9 i o · · ho) hag
   have hwa:Region.wanted o (yielded ops a.tmps)=Region.wanted o (yielded ops (dS ops a0 (qv ops v i)).tmps):=by rw[I.act];exact pI hag
   have hqa:iR ops i=true:=by simp[iR,ho,hq]
   have step:∀W',Grew W W'->wpAnyIn (Fence.wide.inRound lw) nn P .any ops Q fuel (listed.setIfInBounds i true) (a.put o.dst (v i)) W':=by
    intro W' hg
    have hnb:∀y∈dF,i≠y.j:=by
     rintro y hy rfl
     have:=Jq C hy
     rw[this] at hqa
     cases hqa
    refine ih _ π _ _ _ (gY C I him hr ho (fun _=>rfl) (I.grew.trans hg) ?_ ?_ ?_ ?_) hcnt
    rotate_left
    rotate_left
    ·intro y hy hl
     rw[ai (hnb y hy)] at hl
     obtain⟨h1,h2,h3⟩:=I.bl y hy hl
     refine⟨by unfold upd;rw[if_neg (fun e=>hnb y hy e.symm)];exact h1,h2,?_⟩
     rw[hg.heap (Array.getElem?_eq_some_iff.1 h3).1]
     exact h3
    ·intro x hx y hy hl hl'
     rw[ai (hnb y hy)] at hl'
     by_cases hix:i=x.j
     ·obtain⟨oj,ok,hj,hk,aj,_⟩:=C.al x hx
      rw[<-hix,ho] at hj
      injection hj with hj
      rw[hj] at hq
      simp[oH,aj] at hq
     ·rw[ai hix] at hl
      exact I.inb x hx y hy hl hl'
    ·intro x hx hl
     obtain⟨oj,ok,hj,hk,aj,_,_,ak,_,_,hb⟩:=C.al x hx
     have hji:i≠x.j:=by
      rintro rfl
      rw[ho] at hj
      injection hj with hj
      rw[hj] at hq
      simp[oH,aj] at hq
     have hki:i≠x.k:=by
      rintro rfl
      rw[ho] at hk
      injection hk with hk
      rw[hk] at hq
      simp[oH,ak] at hq
     rw[ai hji] at hl
     rw[ai hki]
     obtain⟨h1,h2,h3⟩:=I.al x hx hl
     refine⟨by unfold upd;rw[if_neg (fun e=>hji e.symm)];exact h1,h2,?_⟩
     rw[hg.heap (Array.getElem?_eq_some_iff.1 h3).1]
     exact h3
    ·intro x hx y hy hl hl' e
     have hne:∀z∈di,i≠z.j:=by
      intro z hz e'
      obtain⟨oj,_,hj,_,aj,_⟩:=C.al z hz
      rw[<-e',ho] at hj
      injection hj with hj
      rw[hj] at hq
      simp[oH,aj] at hq
     rw[ai (hne x hx)] at hl
     rw[ai (hne y hy)] at hl'
     exact I.inj x hx y hy hl hl' e
   rw[hwa]
   rcases hv i o him ho hq with⟨hw,hst⟩|⟨hw,hu⟩
   ·rw[if_pos hw]
    refine⟨fun _ _=>trivial,?_⟩
    show Oper.uponIn _ _ _ _ _ _ _ ((Oper.semAt (some lw) _ _).run _ _)
    rw[Oper.semAt_some _ _ _ (fun c=>hnd i o c ho)]
    obtain⟨p,hp⟩:=I.grew
    have hs:=hst p
    rw[<-hp,<-hex] at hs
    generalize (execOp a.eval o).run P W=r at hs
    cases r with
    | ok n w' =>
     cases n<;>simp only[steadyUpon] at hs<;>simp only[Oper.uponIn]
     case value u=>obtain⟨rfl,rfl⟩:=hs;exact step _ (Grew.refl _)
     case skip=>obtain⟨rfl,e⟩:=hs;rw[<-e];exact step _ (Grew.refl _)
     case enter f args =>
      obtain⟨rfl,hc⟩:=hs
      exact⟨fun h=>by simp[Fence.inRound,Fence.wide] at h,CallsIn.inRound lw (callsIn_wide.2 (hc.mono fun e w'' ⟨he,hg⟩=>by subst he;exact step _ hg))⟩
    | halt x w'=>simp only[steadyUpon] at hs
   ·rw[if_neg (by rw[hw];simp),<-hu]
    exact⟨fun _ _=>trivial,step _ (Grew.refl _)⟩
  | false =>
   rcases C.nq i o him ho hq with⟨x,hx,hjk⟩|⟨y,hy,rfl⟩
   rotate_left
   ·
    obtain⟨_,ob,hob,_,gb,db,hlk⟩:=C.bl y hy
    obtain rfl:ob=o:=by rw[hob] at ho;injection ho
    rw[if_pos (by simp[Region.wanted,gb])]
    have hex:execOp a.eval ob=execOp af.eval ob:=by
     rw[I.act,Je]
     refine kV (C.y9 y.j ob · · hob) fun t ht j hj hd=>?_
     obtain⟨hbj,hqj⟩:=hlk t ht j hj hd
     rw[I.on j hj hqj (dD hr hbj)]
     have hjm:j<m:=Nat.lt_trans (lS C hbj) him
     simp[qv,hjm,hqj]
    refine⟨fun _ _=>trivial,?_⟩
    show Oper.uponIn _ _ _ _ _ _ _ ((Oper.semAt (some lw) _ _).run _ _)
    rw[Oper.semAt_some _ _ _ (fun c=>hnd _ _ c hob),hex,hL y hy ob hob W]
    simp only[Oper.uponIn]
    refine ih _ (fun n=>if n=y.j then W.heap.size else π n) _ _ _ (gY C I him hr hob (fun h=>by simp[iR,hob,hq] at h) (I.grew.alloc _) ?_ ?_ ?_ ?_) hcnt
    ·intro x hx hl
     obtain⟨n1,n2⟩:=gB C hx hy
     rw[ai (fun e=>n1 e.symm)] at hl
     rw[ai (fun e=>n2 e.symm)]
     obtain⟨h1,h2,h3⟩:=I.al x hx hl
     refine⟨by unfold upd;rw[if_neg n1,if_neg n1];exact h1,by rw[if_neg n1];exact h2,?_⟩
     rw[if_neg n1,heap_alloc_old W _ (Array.getElem?_eq_some_iff.1 h3).1]
     exact h3
    ·intro x hx z hz hl hl' e
     have n1:=(gB C hx hy).1
     have n2:=(gB C hz hy).1
     rw[ai (fun e=>n1 e.symm)] at hl
     rw[ai (fun e=>n2 e.symm)] at hl'
     rw[if_neg n1,if_neg n2] at e
     exact I.inj x hx z hz hl hl' e
    ·intro z hz hl
     by_cases rP:z.j=y.j
     ·obtain rfl:=LY C.bnd hz hy rP
      refine⟨by unfold upd;simp,?_,?_⟩
      ·rw[if_pos rfl]
       exact I.grew.below.size
      ·rw[if_pos rfl]
       exact heap_alloc_new W _
     ·rw[ai (fun e=>rP e.symm)] at hl
      obtain⟨h1,h2,h3⟩:=I.bl z hz hl
      refine⟨by unfold upd;rw[if_neg rP,if_neg rP];exact h1,by rw[if_neg rP];exact h2,?_⟩
      rw[if_neg rP,heap_alloc_old W _ (Array.getElem?_eq_some_iff.1 h3).1]
      exact h3
    ·intro x hx z hz hl hl'
     have n1:=(gB C hx hy).1
     rw[ai (fun e=>n1 e.symm)] at hl
     rw[if_neg n1]
     by_cases rP:z.j=y.j
     ·rw[if_pos rP]
      have:=(Array.getElem?_eq_some_iff.1 (I.al x hx hl).2.2).1
      omega
     ·rw[if_neg rP]
      rw[ai (fun e=>rP e.symm)] at hl'
      exact I.inb x hx z hz hl hl'
   obtain⟨oj,ok,hj,hk,aj,gj,dj,ak,gk,dk,hb⟩:=C.al x hx
   rcases hjk with rfl|rfl
   ·
    obtain rfl:oj=o:=by rw[hj] at ho;injection ho
    rw[if_pos (by simp[Region.wanted,gj])]
    refine⟨fun _ _=>trivial,?_⟩
    show Oper.uponIn _ _ _ _ _ _ _ ((Oper.semAt (some lw) _ _).run _ _)
    rw[Oper.semAt_some _ _ _ (fun c=>hnd _ _ c hj),o8 aj ((hZ x hx).1 W)]
    simp only[Oper.uponIn]
    have hxk:listed.getD x.k false=false:=by
     cases h:listed.getD x.k false with
     | false=>rfl
     | true=>rw[I.down _ _ h hb] at hoff;cases hoff
    refine ih _ (fun n=>if n=x.j then W.heap.size else π n) _ _ _ (gY C I him hr hj (fun h=>by simp[iR,hj,hq] at h) (I.grew.alloc _) ?_ ?_ ?_ ?_) hcnt
    rotate_left
    rotate_left
    ·intro z hz hl
     have n1:=(gB C hx hz).1
     rw[ai n1] at hl
     obtain⟨h1,h2,h3⟩:=I.bl z hz hl
     refine⟨by unfold upd;rw[if_neg (fun e=>n1 e.symm),if_neg (fun e=>n1 e.symm)];exact h1,by rw[if_neg (fun e=>n1 e.symm)];exact h2,?_⟩
     rw[if_neg (fun e=>n1 e.symm),heap_alloc_old W _ (Array.getElem?_eq_some_iff.1 h3).1]
     exact h3
    ·intro y hy z hz hl hl'
     have n1:=(gB C hx hz).1
     rw[ai n1] at hl'
     have n3:¬ z.j=x.j:=fun e=>n1 e.symm
     by_cases hyx:y.j=x.j
     ·rw[if_pos hyx,if_neg n3]
      have:=(Array.getElem?_eq_some_iff.1 (I.bl z hz hl').2.2).1
      omega
     ·rw[if_neg hyx,if_neg n3]
      rw[ai (fun e=>hyx e.symm)] at hl
      exact I.inb y hy z hz hl hl'
    ·intro y hy hl
     rw[ai (jW C hx hy)]
     by_cases hyx:y.j=x.j
     ·obtain rfl:=wQ C.nd hy hx hyx
      rw[hxk]
      refine⟨by unfold upd;simp,?_,?_⟩
      ·rw[if_pos rfl]
       exact I.grew.below.size
      ·rw[if_pos rfl]
       simpa using heap_alloc_new W (.cells y.z.cells y.T)
     ·rw[ai (fun e=>hyx e.symm)] at hl
      obtain⟨h1,h2,h3⟩:=I.al y hy hl
      refine⟨by unfold upd;rw[if_neg hyx,if_neg hyx];exact h1,by rw[if_neg hyx];exact h2,?_⟩
      rw[if_neg hyx,heap_alloc_old W _ (Array.getElem?_eq_some_iff.1 h3).1]
      exact h3
    ·intro y hy z hz hl hl' e
     by_cases hyx:y.j=x.j<;>by_cases hzx:z.j=x.j
     ·rw[hyx,hzx]
     ·exfalso
      rw[if_pos hyx,if_neg hzx] at e
      rw[ai (fun e=>hzx e.symm)] at hl'
      have:=(Array.getElem?_eq_some_iff.1 (I.al z hz hl').2.2).1
      omega
     ·exfalso
      rw[if_neg hyx,if_pos hzx] at e
      rw[ai (fun e=>hyx e.symm)] at hl
      have:=(Array.getElem?_eq_some_iff.1 (I.al y hy hl).2.2).1
      omega
     ·rw[if_neg hyx,if_neg hzx] at e
      rw[ai (fun e=>hyx e.symm)] at hl
      rw[ai (fun e=>hzx e.symm)] at hl'
      exact I.inj y hy z hz hl hl' e
   ·
    obtain rfl:ok=o:=by rw[hk] at ho;injection ho
    have hjl:listed.getD x.j false=true:=dD hr hb
    obtain⟨h1,h2,h3⟩:=I.al x hx hjl
    rw[hoff] at h3
    simp only[Bool.false_eq_true,if_false] at h3
    have hjs:x.j<ops.size:=(Array.getElem?_eq_some_iff.1 hj).1
    have Oe:a.eval (.tmp x.d)=.pointer (some ⟨π x.j,0,none⟩):=by
     rw[I.act]
     exact Aa C.Lr hjs (by simp[dG,hj,dj]) h1 (hsl x hx)
    have hval:a.eval (bV ops x.k)=af.eval (bV ops x.k):=by
     rw[I.act,Je]
     refine qH fun t ht j hjn hd=>?_
     obtain⟨hbj,hqj⟩:=C.st x hx t ht j hjn hd
     rw[I.on j hjn hqj (dD hr hbj)]
     have hjm:j<m:=Nat.lt_trans (lS C hbj) him
     simp[qv,hjm,hqj]
    rw[if_pos (by simp[Region.wanted,gk])]
    refine⟨fun _ _=>trivial,?_⟩
    show Oper.uponIn _ _ _ _ _ _ _ ((Oper.semAt (some lw) _ _).run _ _)
    rw[Oper.semAt_some _ _ _ (fun c=>hnd _ _ c hk),o7 ak Oe hval ((hZ x hx).2 W) (hS x hx).1 (hS x hx).2 h3]
    simp only[Oper.uponIn]
    refine ih _ π _ _ _ (gY C I him hr hk (fun h=>by simp[iR,hk,hq] at h) (I.grew.setRow h2 _) ?_ ?_ ?_ ?_) hcnt
    rotate_left
    rotate_left
    ·intro z hz hl
     obtain⟨n1,n2⟩:=gB C hx hz
     rw[ai n2] at hl
     obtain⟨g1,g2,g3⟩:=I.bl z hz hl
     refine⟨by unfold upd;rw[if_neg (fun e=>n2 e.symm)];exact g1,g2,?_⟩
     rw[gZ (I.inb x hx z hz hjl hl)]
     exact g3
    ·intro y hy z hz hl hl'
     rw[ai (gB C hx hz).2] at hl'
     rw[ai (fun e=>jW C hy hx e.symm)] at hl
     exact I.inb y hy z hz hl hl'
    ·intro y hy hl
     rw[ai (fun e=>jW C hy hx e.symm)] at hl
     obtain⟨g1,g2,g3⟩:=I.al y hy hl
     refine⟨by unfold upd;rw[if_neg (jW C hy hx)];exact g1,g2,?_⟩
     by_cases hyx:y.j=x.j
     ·obtain rfl:=wQ C.nd hy hx hyx
      rw[dX his,if_pos rfl]
      exact lC h3
     ·have hk':x.k≠y.k:=fun e=>hyx (by rw[Me C hy hx e.symm])
      rw[ai hk',gZ (fun e=>hyx (I.inj y hy x hx hl hjl e.symm))]
      exact g3
    ·intro y hy z hz hl hl' e
     rw[ai (fun e=>jW C hy hx e.symm)] at hl
     rw[ai (fun e=>jW C hz hx e.symm)] at hl'
     exact I.inj y hy z hz hl hl' e
theorem AB {w0 w:World}{l tl:List Oper}{a:Act}(h:∀n os,wpListIn (Fence.wide.inRound lw) nn P l.toArray Q tl a (Sort.grow (dr w n) os)):wpSteady P l.toArray w0 (fun af=>ja l.toArray af []/\nT P l.toArray af []/\∀ps qs W,Grew w W->nD l.toArray w W af [] ps->jS w W af [] qs->wpListIn (Fence.wide.inRound lw) nn P l.toArray Q tl (putB [] qs (putAll [] ps af)) W) [] a:=by
 refine dZ ⟨(fun _ h=>by cases h),(fun _ h=>by cases h),?_⟩
 rintro ps qs W ⟨⟨n,os⟩,rfl⟩ hF hB
 obtain rfl:ps=[]:=hF
 obtain rfl:qs=[]:=hB
 exact h n os
theorem dn {id:Nat}{w:World}{l qs tl:List Oper}(m:Nat)(di:List AL)(dF:List BL)(hm:P.follows .mixedOrders=true)(hB:(Vd l.toArray m di dF&&decide (m<=l.length))=true:=by kernel_rfl)(hnd:Df l.toArray=true:=by kernel_rfl)(Zc:(l.take m).filter oH=qs:=by simp only[List.take,List.filter,oH];rfl)(htl:l.drop m=tl:=by simp only[List.drop];rfl)(hZ:qI P di:=by exact qI.nil)(hsl:∀x∈di,x.d<a0.tmps.size:=by simp)
  (h:wpSteady P l.toArray w.drew (fun af=>ja l.toArray af di/\nT P l.toArray af dF/\∀ps qs W,Grew w W->nD l.toArray w W af di ps->jS w W af dF qs->wpListIn (Fence.wide.inRound lw) nn P l.toArray Q tl (putB dF qs (putAll di ps af)) W) qs a0):(Code.region id l.toArray true).wpIn (Fence.wide.inRound lw) nn P Q a0 w:=by
 rw[Bool.and_eq_true,decide_eq_true_eq] at hB
 have C:=tC hB.1
 have hml:=hB.2
 subst Zc
 subst htl
 have e0:dS l.toArray a0 (qv l.toArray (fun _=>undef) 0)=a0:=by
  have:∀ (ks:List Nat) (a:Act),putsOf l.toArray (qv l.toArray (fun _=>undef) 0) ks a=a:=by
   intro ks
   induction ks with
   | nil=>intro a;rfl
   | cons k ks ih=>intro a;unfold putsOf;simp only[qv,Nat.not_lt_zero,false_and,if_false];exact ih a
  exact this _ _
 rw[<-e0] at h
 have htk:∀i,i<(l.take m).length->(l.take m)[i]?=l.toArray[0+i]?:=fun i hi=>by
  rw[List.length_take] at hi
  rw[List.getElem?_take_of_lt (by omega)]
  simp
 obtain⟨v,_,hv,hS,hL,hQ⟩:=kX C.Lr (l.take m) 0 _ htk h
 have hlen:(l.take m).length=m:=by rw[List.length_take];omega
 simp only[Nat.zero_add,hlen] at hv hS hL hQ
 have hl0:∀j,(Array.replicate l.toArray.size false).getD j false=false:=by intro j;by_cases h:j<l.length<;>simp[h]
 refine wpIn_region_any hm (TM (v:=v) C (uk hnd) (by simpa using hml) (l.drop m) (fun i=>by simp) hsl hZ hS rfl (fun i o him ho hq=>hv i o (by rw[List.getElem?_take_of_lt him];simpa using ho) hq) hL (fun ps qs W hg hf hb=>hQ ps qs W ((Grew.drew (Grew.refl w)).trans hg) (qB di ps hf) (oJ dF qs hb)) _ (fun _=>none) (fun _=>0) _ _ _ ?_ ?_)
 ·refine⟨by simp,fun j _=>hl0 j,?_,fun _ _=>rfl,?_,Grew.refl _,?_,?_,?_,?_,?_⟩
  ·have:∀ (ks:List Nat) (a:Act),putsOf l.toArray (fun _=>none) ks a=a:=by
    intro ks
    induction ks with
    | nil=>intro a;rfl
    | cons k ks ih=>intro a;unfold putsOf;exact ih a
   exact (this _ _).symm
  ·intro j _ _ h
   rw[hl0] at h
   cases h
  ·intro k j h
   rw[hl0] at h
   cases h
  ·intro x _ h
   rw[hl0] at h
   cases h
  ·intro x _ y _ h
   rw[hl0] at h
   cases h
  ·intro x _ h
   rw[hl0] at h
   cases h
  ·intro x _ y _ h
   rw[hl0] at h
   cases h
 ·exact cnt_le _ _
theorem Fe (C:iq ops m di dF)(hnd:∀ (j:Nat) (o:Oper) c,ops[j]?=some o->o.op≠.defer c)(hmn:m<=ops.size)(tl:List Oper)(htl:∀i,tl[i]?=ops[m+i]?)(hsl:∀x∈di,x.d<a0.tmps.size)(hZ:qI P di)(hS:ja ops af di)(Je:af=dS ops a0 (qv ops v m))
  (hv:∀i o,i<m->ops[i]?=some o->oH o=true->YS P ops w0 o (v i) (dS ops a0 (qv ops v i))) (hL:nT P ops af dF) (hQ:∀ps qs W,Grew w0 W->nD ops w0 W af di ps->jS w0 W af dF qs->wpListIn Fence.wide nn P ops Q tl (putB dF qs (putAll di ps af)) W) :
  ∀ (fuel:Nat) (vals:Nat->Option Value) (π:Nat->Nat) (listed:Array Bool) (a:Act) (W:World),Inv P ops m w0 a0 di dF v af vals π listed a W->cnt (fun j=>listed.getD j false) ops.size<=fuel ->
   wpAnyIn Fence.wide nn P .any ops Q fuel listed a W:=by
 have WA:tl.length=ops.size-m:=by
  have h1:∀i,i<tl.length↔m+i<ops.size:=fun i=>by
   have:=htl i
   constructor
   ·intro h
    rw[List.getElem?_eq_getElem h] at this
    exact (Array.getElem?_eq_some_iff.1 this.symm).1
   ·intro h
    rw[Array.getElem?_eq_getElem h] at this
    exact (List.getElem?_eq_some_iff.1 this).1
  have h2:=h1 (ops.size-m)
  have h3:=h1 tl.length
  by_cases hlt:tl.length<ops.size-m
  ·omega
  ·by_cases hgt:ops.size-m<tl.length<;>omega
 have hfin:∀ (fuel:Nat) (vals:Nat->Option Value) (π:Nat->Nat) (listed:Array Bool) (a:Act) (W:World),Inv P ops m w0 a0 di dF v af vals π listed a W->cnt (fun j=>listed.getD j false) ops.size<=fuel ->
   (∀j,j<m->listed.getD j false=true)->wpAnyIn Fence.wide nn P .any ops Q fuel listed a W:=by
  intro fuel vals π listed a W I hc hall
  have hlist:∀j,listed.getD j false=true↔(j<m/\j<ops.size):=fun j=>by
   by_cases hj:j<m
   ·simp only[hall j hj,hj,true_and,true_iff]
    omega
   ·have:=I.main j (by omega)
    rw[this]
    simp[hj]
  refine Hq C tl m listed a W fuel (Nat.le_refl _) htl I.size hlist ?_ (zC C I hall Je hQ)
  rw[WA]
  have:∀n,m<=n->cnt (fun j=>listed.getD j false) n=n-m:=by
   intro n
   induction n with
   | zero=>intro h;simp[cnt]
   | succ n ih =>
    intro h
    unfold cnt
    by_cases hn:m<=n
    ·rw[ih hn,I.main n hn]
     simp
     omega
    ·have hmn:m=n+1:=by omega
     rw[if_pos (hall n (by omega))]
     have hz:∀q,q<=n->cnt (fun j=>listed.getD j false) q=0:=by
      intro q
      induction q with
      | zero=>intro _;rfl
      | succ q ihq=>intro hq;unfold cnt;rw[ihq (by omega),if_pos (hall q (by omega))]
     rw[hz n (Nat.le_refl _)]
     omega
  rw[this _ hmn] at hc
  exact hc
 intro fuel
 induction fuel with
 | zero =>
  intro vals π listed a W I hc
  have hall:=wM _ (by omega:cnt (fun j=>listed.getD j false) ops.size=0)
  exact hfin 0 vals π listed a W I hc fun j hj=>hall j (by omega)
 | succ fuel ih =>
  intro vals π listed a W I hc
  by_cases hall:∀j,j<m->listed.getD j false=true
  ·exact hfin _ vals π listed a W I hc hall
  have hmain:∀i,i∈Region.ready .any ops listed->i<m:=fun i hr=>by
   rcases Nat.lt_or_ge i m with h|h
   ·exact h
   ·exact (hall fun j hj=>(C.tl i _ h (Array.getElem?_eq_getElem (gX hr).1) j (by omega)).elim fun f hf=>jL I.down f (.inl hr) hf).elim
  refine⟨fun h0=>?_,fun i hr=>?_⟩
  ·exfalso
   refine hall fun j=>?_
   induction j using Nat.strongRecOn with
   | ind k ihk =>
    intro hk
    by_cases hl:listed.getD k false=true
    ·exact hl
    ·exfalso
     have hkn:k<ops.size:=by omega
     have:k∈Region.ready .any ops listed:=by
      refine mem_ready.2 ⟨?_,ops[k],Array.getElem?_eq_getElem hkn,fun e he hb=>?_⟩
      ·have hs:k<listed.size:=by rw[I.size];exact hkn
       simp[hs] at hl ⊢
       exact hl
      ·have hlt:=C.lex k _ e (Array.getElem?_eq_getElem hkn) he hb
       exact ihk e.on hlt (by omega)
     rw[h0] at this
     cases this
  have him:=hmain i hr
  have hlt:=(gX hr).1
  have hoff:=mJ I hr
  have his:i<listed.size:=by rw[I.size];exact hlt
  have hcnt:cnt (fun j=>(listed.setIfInBounds i true).getD j false) ops.size<=fuel:=by
   have:=zS (f:=fun j=>listed.getD j false) (g:=fun j=>(listed.setIfInBounds i true).getD j false) hoff (dX his) (fun j hj=>ai (fun e=>hj e.symm)) ops.size hlt
   omega
  have ho:ops[i]?=some ops[i]:=Array.getElem?_eq_getElem hlt
  generalize ops[i]=o at ho
  unfold wpOpIn
  simp only[ho]
  cases hq:oH o with
  | true =>
   have hag:=agree C I him hr ho hq
   have hex:execOp a.eval o=execOp (dS ops a0 (qv ops v i)).eval o:=by rw[I.act];exact kV (C.y9 i o · · ho) hag
   have hwa:Region.wanted o (yielded ops a.tmps)=Region.wanted o (yielded ops (dS ops a0 (qv ops v i)).tmps):=by rw[I.act];exact pI hag
   have hqa:iR ops i=true:=by simp[iR,ho,hq]
   have step:∀W',Grew W W'->wpAnyIn Fence.wide nn P .any ops Q fuel (listed.setIfInBounds i true) (a.put o.dst (v i)) W':=by
    intro W' hg
    have hnb:∀y∈dF,i≠y.j:=by
     rintro y hy rfl
     have:=Jq C hy
     rw[this] at hqa
     cases hqa
    refine ih _ π _ _ _ (gY C I him hr ho (fun _=>rfl) (I.grew.trans hg) ?_ ?_ ?_ ?_) hcnt
    rotate_left
    rotate_left
    ·intro y hy hl
     rw[ai (hnb y hy)] at hl
     obtain⟨h1,h2,h3⟩:=I.bl y hy hl
     refine⟨by unfold upd;rw[if_neg (fun e=>hnb y hy e.symm)];exact h1,h2,?_⟩
     rw[hg.heap (Array.getElem?_eq_some_iff.1 h3).1]
     exact h3
    ·intro x hx y hy hl hl'
     rw[ai (hnb y hy)] at hl'
     by_cases hix:i=x.j
     ·obtain⟨oj,ok,hj,hk,aj,_⟩:=C.al x hx
      rw[<-hix,ho] at hj
      injection hj with hj
      rw[hj] at hq
      simp[oH,aj] at hq
     ·rw[ai hix] at hl
      exact I.inb x hx y hy hl hl'
    ·intro x hx hl
     obtain⟨oj,ok,hj,hk,aj,_,_,ak,_,_,hb⟩:=C.al x hx
     have hji:i≠x.j:=by
      rintro rfl
      rw[ho] at hj
      injection hj with hj
      rw[hj] at hq
      simp[oH,aj] at hq
     have hki:i≠x.k:=by
      rintro rfl
      rw[ho] at hk
      injection hk with hk
      rw[hk] at hq
      simp[oH,ak] at hq
     rw[ai hji] at hl
     rw[ai hki]
     obtain⟨h1,h2,h3⟩:=I.al x hx hl
     refine⟨by unfold upd;rw[if_neg (fun e=>hji e.symm)];exact h1,h2,?_⟩
     rw[hg.heap (Array.getElem?_eq_some_iff.1 h3).1]
     exact h3
    ·intro x hx y hy hl hl' e
     have hne:∀z∈di,i≠z.j:=by
      intro z hz e'
      obtain⟨oj,_,hj,_,aj,_⟩:=C.al z hz
      rw[<-e',ho] at hj
      injection hj with hj
      rw[hj] at hq
      simp[oH,aj] at hq
     rw[ai (hne x hx)] at hl
     rw[ai (hne y hy)] at hl'
     exact I.inj x hx y hy hl hl' e
   rw[hwa]
   rcases hv i o him ho hq with⟨hw,hst⟩|⟨hw,hu⟩
   ·rw[if_pos hw]
    refine⟨fun _ _=>trivial,?_⟩
    show Oper.uponIn _ _ _ _ _ _ _ ((execOp _ _).run _ _)
    skip
    obtain⟨p,hp⟩:=I.grew
    have hs:=hst p
    rw[<-hp,<-hex] at hs
    generalize (execOp a.eval o).run P W=r at hs
    cases r with
    | ok n w' =>
     cases n<;>simp only[steadyUpon] at hs<;>simp only[Oper.uponIn]
     case value u=>obtain⟨rfl,rfl⟩:=hs;exact step _ (Grew.refl _)
     case skip=>obtain⟨rfl,e⟩:=hs;rw[<-e];exact step _ (Grew.refl _)
     case enter f args =>
      obtain⟨rfl,hc⟩:=hs
      exact⟨fun h=>by simp[Fence.wide] at h,callsIn_wide.2 (hc.mono fun e w'' ⟨he,hg⟩=>by subst he;exact step _ hg)⟩
    | halt x w'=>simp only[steadyUpon] at hs
   ·rw[if_neg (by rw[hw];simp),<-hu]
    exact⟨fun _ _=>trivial,step _ (Grew.refl _)⟩
  | false =>
   rcases C.nq i o him ho hq with⟨x,hx,hjk⟩|⟨y,hy,rfl⟩
   rotate_left
   ·
    obtain⟨_,ob,hob,_,gb,db,hlk⟩:=C.bl y hy
    obtain rfl:ob=o:=by rw[hob] at ho;injection ho
    rw[if_pos (by simp[Region.wanted,gb])]
    have hex:execOp a.eval ob=execOp af.eval ob:=by
     rw[I.act,Je]
     refine kV (C.y9 y.j ob · · hob) fun t ht j hj hd=>?_
     obtain⟨hbj,hqj⟩:=hlk t ht j hj hd
     rw[I.on j hj hqj (dD hr hbj)]
     have hjm:j<m:=Nat.lt_trans (lS C hbj) him
     simp[qv,hjm,hqj]
    refine⟨fun _ _=>trivial,?_⟩
    show Oper.uponIn _ _ _ _ _ _ _ ((execOp _ _).run _ _)
    rw[hex,hL y hy ob hob W]
    simp only[Oper.uponIn]
    refine ih _ (fun n=>if n=y.j then W.heap.size else π n) _ _ _ (gY C I him hr hob (fun h=>by simp[iR,hob,hq] at h) (I.grew.alloc _) ?_ ?_ ?_ ?_) hcnt
    ·intro x hx hl
     obtain⟨n1,n2⟩:=gB C hx hy
     rw[ai (fun e=>n1 e.symm)] at hl
     rw[ai (fun e=>n2 e.symm)]
     obtain⟨h1,h2,h3⟩:=I.al x hx hl
     refine⟨by unfold upd;rw[if_neg n1,if_neg n1];exact h1,by rw[if_neg n1];exact h2,?_⟩
     rw[if_neg n1,heap_alloc_old W _ (Array.getElem?_eq_some_iff.1 h3).1]
     exact h3
    ·intro x hx z hz hl hl' e
     have n1:=(gB C hx hy).1
     have n2:=(gB C hz hy).1
     rw[ai (fun e=>n1 e.symm)] at hl
     rw[ai (fun e=>n2 e.symm)] at hl'
     rw[if_neg n1,if_neg n2] at e
     exact I.inj x hx z hz hl hl' e
    ·intro z hz hl
     by_cases rP:z.j=y.j
     ·obtain rfl:=LY C.bnd hz hy rP
      refine⟨by unfold upd;simp,?_,?_⟩
      ·rw[if_pos rfl]
       exact I.grew.below.size
      ·rw[if_pos rfl]
       exact heap_alloc_new W _
     ·rw[ai (fun e=>rP e.symm)] at hl
      obtain⟨h1,h2,h3⟩:=I.bl z hz hl
      refine⟨by unfold upd;rw[if_neg rP,if_neg rP];exact h1,by rw[if_neg rP];exact h2,?_⟩
      rw[if_neg rP,heap_alloc_old W _ (Array.getElem?_eq_some_iff.1 h3).1]
      exact h3
    ·intro x hx z hz hl hl'
     have n1:=(gB C hx hy).1
     rw[ai (fun e=>n1 e.symm)] at hl
     rw[if_neg n1]
     by_cases rP:z.j=y.j
     ·rw[if_pos rP]
      have:=(Array.getElem?_eq_some_iff.1 (I.al x hx hl).2.2).1
      omega
     ·rw[if_neg rP]
      rw[ai (fun e=>rP e.symm)] at hl'
      exact I.inb x hx z hz hl hl'
   obtain⟨oj,ok,hj,hk,aj,gj,dj,ak,gk,dk,hb⟩:=C.al x hx
   rcases hjk with rfl|rfl
   ·
    obtain rfl:oj=o:=by rw[hj] at ho;injection ho
    rw[if_pos (by simp[Region.wanted,gj])]
    refine⟨fun _ _=>trivial,?_⟩
    show Oper.uponIn _ _ _ _ _ _ _ ((execOp _ _).run _ _)
    rw[o8 aj ((hZ x hx).1 W)]
    simp only[Oper.uponIn]
    have hxk:listed.getD x.k false=false:=by
     cases h:listed.getD x.k false with
     | false=>rfl
     | true=>rw[I.down _ _ h hb] at hoff;cases hoff
    refine ih _ (fun n=>if n=x.j then W.heap.size else π n) _ _ _ (gY C I him hr hj (fun h=>by simp[iR,hj,hq] at h) (I.grew.alloc _) ?_ ?_ ?_ ?_) hcnt
    rotate_left
    rotate_left
    ·intro z hz hl
     have n1:=(gB C hx hz).1
     rw[ai n1] at hl
     obtain⟨h1,h2,h3⟩:=I.bl z hz hl
     refine⟨by unfold upd;rw[if_neg (fun e=>n1 e.symm),if_neg (fun e=>n1 e.symm)];exact h1,by rw[if_neg (fun e=>n1 e.symm)];exact h2,?_⟩
     rw[if_neg (fun e=>n1 e.symm),heap_alloc_old W _ (Array.getElem?_eq_some_iff.1 h3).1]
     exact h3
    ·intro y hy z hz hl hl'
     have n1:=(gB C hx hz).1
     rw[ai n1] at hl'
     have n3:¬ z.j=x.j:=fun e=>n1 e.symm
     by_cases hyx:y.j=x.j
     ·rw[if_pos hyx,if_neg n3]
      have:=(Array.getElem?_eq_some_iff.1 (I.bl z hz hl').2.2).1
      omega
     ·rw[if_neg hyx,if_neg n3]
      rw[ai (fun e=>hyx e.symm)] at hl
      exact I.inb y hy z hz hl hl'
    ·intro y hy hl
     rw[ai (jW C hx hy)]
     by_cases hyx:y.j=x.j
     ·obtain rfl:=wQ C.nd hy hx hyx
      rw[hxk]
      refine⟨by unfold upd;simp,?_,?_⟩
      ·rw[if_pos rfl]
       exact I.grew.below.size
      ·rw[if_pos rfl]
       simpa using heap_alloc_new W (.cells y.z.cells y.T)
     ·rw[ai (fun e=>hyx e.symm)] at hl
      obtain⟨h1,h2,h3⟩:=I.al y hy hl
      refine⟨by unfold upd;rw[if_neg hyx,if_neg hyx];exact h1,by rw[if_neg hyx];exact h2,?_⟩
      rw[if_neg hyx,heap_alloc_old W _ (Array.getElem?_eq_some_iff.1 h3).1]
      exact h3
    ·intro y hy z hz hl hl' e
     by_cases hyx:y.j=x.j<;>by_cases hzx:z.j=x.j
     ·rw[hyx,hzx]
     ·exfalso
      rw[if_pos hyx,if_neg hzx] at e
      rw[ai (fun e=>hzx e.symm)] at hl'
      have:=(Array.getElem?_eq_some_iff.1 (I.al z hz hl').2.2).1
      omega
     ·exfalso
      rw[if_neg hyx,if_pos hzx] at e
      rw[ai (fun e=>hyx e.symm)] at hl
      have:=(Array.getElem?_eq_some_iff.1 (I.al y hy hl).2.2).1
      omega
     ·rw[if_neg hyx,if_neg hzx] at e
      rw[ai (fun e=>hyx e.symm)] at hl
      rw[ai (fun e=>hzx e.symm)] at hl'
      exact I.inj y hy z hz hl hl' e
   ·
    obtain rfl:ok=o:=by rw[hk] at ho;injection ho
    have hjl:listed.getD x.j false=true:=dD hr hb
    obtain⟨h1,h2,h3⟩:=I.al x hx hjl
    rw[hoff] at h3
    simp only[Bool.false_eq_true,if_false] at h3
    have hjs:x.j<ops.size:=(Array.getElem?_eq_some_iff.1 hj).1
    have Oe:a.eval (.tmp x.d)=.pointer (some ⟨π x.j,0,none⟩):=by
     rw[I.act]
     exact Aa C.Lr hjs (by simp[dG,hj,dj]) h1 (hsl x hx)
    have hval:a.eval (bV ops x.k)=af.eval (bV ops x.k):=by
     rw[I.act,Je]
     refine qH fun t ht j hjn hd=>?_
     obtain⟨hbj,hqj⟩:=C.st x hx t ht j hjn hd
     rw[I.on j hjn hqj (dD hr hbj)]
     have hjm:j<m:=Nat.lt_trans (lS C hbj) him
     simp[qv,hjm,hqj]
    rw[if_pos (by simp[Region.wanted,gk])]
    refine⟨fun _ _=>trivial,?_⟩
    show Oper.uponIn _ _ _ _ _ _ _ ((execOp _ _).run _ _)
    rw[o7 ak Oe hval ((hZ x hx).2 W) (hS x hx).1 (hS x hx).2 h3]
    simp only[Oper.uponIn]
    refine ih _ π _ _ _ (gY C I him hr hk (fun h=>by simp[iR,hk,hq] at h) (I.grew.setRow h2 _) ?_ ?_ ?_ ?_) hcnt
    rotate_left
    rotate_left
    ·intro z hz hl
     obtain⟨n1,n2⟩:=gB C hx hz
     rw[ai n2] at hl
     obtain⟨g1,g2,g3⟩:=I.bl z hz hl
     refine⟨by unfold upd;rw[if_neg (fun e=>n2 e.symm)];exact g1,g2,?_⟩
     rw[gZ (I.inb x hx z hz hjl hl)]
     exact g3
    ·intro y hy z hz hl hl'
     rw[ai (gB C hx hz).2] at hl'
     rw[ai (fun e=>jW C hy hx e.symm)] at hl
     exact I.inb y hy z hz hl hl'
    ·intro y hy hl
     rw[ai (fun e=>jW C hy hx e.symm)] at hl
     obtain⟨g1,g2,g3⟩:=I.al y hy hl
     refine⟨by unfold upd;rw[if_neg (jW C hy hx)];exact g1,g2,?_⟩
     by_cases hyx:y.j=x.j
     ·obtain rfl:=wQ C.nd hy hx hyx
      rw[dX his,if_pos rfl]
      exact lC h3
     ·have hk':x.k≠y.k:=fun e=>hyx (by rw[Me C hy hx e.symm])
      rw[ai hk',gZ (fun e=>hyx (I.inj y hy x hx hl hjl e.symm))]
      exact g3
    ·intro y hy z hz hl hl' e
     rw[ai (fun e=>jW C hy hx e.symm)] at hl
     rw[ai (fun e=>jW C hz hx e.symm)] at hl'
     exact I.inj y hy z hz hl hl' e
theorem U4 {w0 w:World}{l tl:List Oper}{a:Act}(h:∀n os,wpListIn Fence.wide nn P l.toArray Q tl a (Sort.grow (dr w n) os)):wpSteady P l.toArray w0 (fun af=>ja l.toArray af []/\nT P l.toArray af []/\∀ps qs W,Grew w W->nD l.toArray w W af [] ps->jS w W af [] qs->wpListIn Fence.wide nn P l.toArray Q tl (putB [] qs (putAll [] ps af)) W) [] a:=by
 refine dZ ⟨(fun _ h=>by cases h),(fun _ h=>by cases h),?_⟩
 rintro ps qs W ⟨⟨n,os⟩,rfl⟩ hF hB
 obtain rfl:ps=[]:=hF
 obtain rfl:qs=[]:=hB
 exact h n os
theorem kL {id:Nat}{w:World}{l qs tl:List Oper}(m:Nat)(di:List AL)(dF:List BL)(hm:P.follows .mixedOrders=true)(hB:(Vd l.toArray m di dF&&decide (m<=l.length))=true:=by kernel_rfl)(hnd:Df l.toArray=true:=by kernel_rfl)(Zc:(l.take m).filter oH=qs:=by simp only[List.take,List.filter,oH];rfl)(htl:l.drop m=tl:=by simp only[List.drop];rfl)(hZ:qI P di:=by exact qI.nil)(hsl:∀x∈di,x.d<a0.tmps.size:=by simp)
  (h:wpSteady P l.toArray w.drew (fun af=>ja l.toArray af di/\nT P l.toArray af dF/\∀ps qs W,Grew w W->nD l.toArray w W af di ps->jS w W af dF qs->wpListIn Fence.wide nn P l.toArray Q tl (putB dF qs (putAll di ps af)) W) qs a0):(Code.region id l.toArray true).wpIn Fence.wide nn P Q a0 w:=by
 rw[Bool.and_eq_true,decide_eq_true_eq] at hB
 have C:=tC hB.1
 have hml:=hB.2
 subst Zc
 subst htl
 have e0:dS l.toArray a0 (qv l.toArray (fun _=>undef) 0)=a0:=by
  have:∀ (ks:List Nat) (a:Act),putsOf l.toArray (qv l.toArray (fun _=>undef) 0) ks a=a:=by
   intro ks
   induction ks with
   | nil=>intro a;rfl
   | cons k ks ih=>intro a;unfold putsOf;simp only[qv,Nat.not_lt_zero,false_and,if_false];exact ih a
  exact this _ _
 rw[<-e0] at h
 have htk:∀i,i<(l.take m).length->(l.take m)[i]?=l.toArray[0+i]?:=fun i hi=>by
  rw[List.length_take] at hi
  rw[List.getElem?_take_of_lt (by omega)]
  simp
 obtain⟨v,_,hv,hS,hL,hQ⟩:=kX C.Lr (l.take m) 0 _ htk h
 have hlen:(l.take m).length=m:=by rw[List.length_take];omega
 simp only[Nat.zero_add,hlen] at hv hS hL hQ
 have hl0:∀j,(Array.replicate l.toArray.size false).getD j false=false:=by intro j;by_cases h:j<l.length<;>simp[h]
 refine wpIn_region_any hm (Fe (v:=v) C (uk hnd) (by simpa using hml) (l.drop m) (fun i=>by simp) hsl hZ hS rfl (fun i o him ho hq=>hv i o (by rw[List.getElem?_take_of_lt him];simpa using ho) hq) hL (fun ps qs W hg hf hb=>hQ ps qs W ((Grew.drew (Grew.refl w)).trans hg) (qB di ps hf) (oJ dF qs hb)) _ (fun _=>none) (fun _=>0) _ _ _ ?_ ?_)
 ·refine⟨by simp,fun j _=>hl0 j,?_,fun _ _=>rfl,?_,Grew.refl _,?_,?_,?_,?_,?_⟩
  ·have:∀ (ks:List Nat) (a:Act),putsOf l.toArray (fun _=>none) ks a=a:=by
    intro ks
    induction ks with
    | nil=>intro a;rfl
    | cons k ks ih=>intro a;unfold putsOf;exact ih a
   exact (this _ _).symm
  ·intro j _ _ h
   rw[hl0] at h
   cases h
  ·intro k j h
   rw[hl0] at h
   cases h
  ·intro x _ h
   rw[hl0] at h
   cases h
  ·intro x _ y _ h
   rw[hl0] at h
   cases h
  ·intro x _ h
   rw[hl0] at h
   cases h
  ·intro x _ y _ h
   rw[hl0] at h
   cases h
 ·exact cnt_le _ _
end
end Go.Proofs.YtlkgjmnjhifehaaGreat
