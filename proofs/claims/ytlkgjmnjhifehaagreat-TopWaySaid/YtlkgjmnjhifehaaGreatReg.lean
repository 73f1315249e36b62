/- A region that draws its order, whose operations read, call functions that only lay new blocks, lay new variables and store into these: one walk of its reading operations serves every. -/
import Derived.Test.YtlkgjmnjhifehaaGreatKit
set_option linter.unusedSimpArgs false
set_option linter.unusedVariables false
namespace Go.Proofs.YtlkgjmnjhifehaaGreat
open Go.RowKit Go.Sort
def steadyUpon (P:Program)(w:World)(v:Value):Result Next->Prop
 | .ok (.value u) w'=>w'=w/\u=v
 | .ok .skip w'=>w'=w/\v=undef
 | .ok (.enter f args) w'=>w'=w/\Calls P f args w (aC w v)
 | _=>False
def dA (P:Program)(o:Oper)(a:Act)(w0:World)(v:Value):Prop :=
 ∀p:GrownBy,steadyUpon P (Sort.grow (dr w0 p.n) p.os) v ((execOp a.eval o).run P (Sort.grow (dr w0 p.n) p.os))
def wpSteady (P:Program)(ops:Array Oper)(w0:World)(Q:Act->Prop):List Oper->Act->Prop
 | [],a=>Q a
 | o::rest,a=>if Region.wanted o (yielded ops a.tmps) then ∃v,dA P o a w0 v/\wpSteady P ops w0 Q rest (a.put o.dst v) else wpSteady P ops w0 Q rest (a.put o.dst undef)
theorem dZ {P:Program}{ops:Array Oper}{w0:World}{Q:Act->Prop}{a:Act}(h:Q a):wpSteady P ops w0 Q [] a:=h
theorem ax {P:Program}{ops:Array Oper}{w0:World}{Q:Act->Prop}{a:Act}{o:Oper}{rest:List Oper}
  (h:∀K:Act->Prop,(∀a,wpSteady P ops w0 Q rest a->K a)->if Region.wanted o (yielded ops a.tmps) then ∃v,dA P o a w0 v/\K (a.put o.dst v) else K (a.put o.dst undef)):wpSteady P ops w0 Q (o::rest) a :=
 h _ (fun _ h=>h)
def oH (o:Oper):Bool:=match o.op with | .alloc _=>false | .store _ _ _=>false | .buildSlice _ _ _=>false|_=>true
structure AL where
 j:Nat
 k:Nat
 d:Tmp
 T:TypeId
 z:Value
structure BL where
 j:Nat
 d:Tmp
 n:Nat
 e:TypeId
 cs:Act->Array Value
def isBS (o:Oper):Bool:=match o.op with | .buildSlice _ _ _=>true|_=>false
def dG (ops:Array Oper)(k:Nat):Option Tmp:=(ops[k]?).bind (·.dst)
def Af (ops:Array Oper)(k j:Nat):Bool:=match ops[k]? with|some o=>o.after.any fun e=>Region.binds .any e&&e.on==j|none=>false
def befT (ops:Array Oper):Nat->Nat->Nat->Bool
 | 0,k,j=>Af ops k j
 | f+1,k,j=>Af ops k j||(List.range k).any fun i=>Af ops k i&&befT ops f i j
def UE (ops:Array Oper)(k:Nat)(t:Tmp):Bool:=(List.range ops.size).all fun j=>match ops[j]? with
 | some o=>o.dst != some t||(Af ops k j&&oH o)
 | none=>true
def MZ (ops:Array Oper)(k:Nat)(t:Tmp):Bool:=(List.range ops.size).all fun j=>match ops[j]? with
 | some o=>o.dst != some t||(Af ops k j&&oH o)||Af ops j k
 | none=>true
def abQ (ops:Array Oper)(k:Nat)(x:Operand):Bool:=match x with | .tmp t=>UE ops k t|_=>true
def isAlloc (o:Oper)(T:TypeId):Bool:=match o.op with | .alloc U=>U==T|_=>false
def isStoreTo (o:Oper)(T:TypeId)(d:Tmp):Bool:=match o.op with | .store U (.tmp e) _=>U==T&&e==d|_=>false
def bV (ops:Array Oper)(k:Nat):Operand:=match ops[k]? with|some o=>(match o.op with | .store _ _ y=>y|_=>.const undef)|none=>.const undef
def FW (ops:Array Oper)(x:AL):Bool:=match ops[x.j]?,ops[x.k]? with
 | some oj,some ok=>isAlloc oj x.T&&oj.guard.isNone&&oj.dst==some x.d&&isStoreTo ok x.T x.d&&ok.guard.isNone&&ok.dst.isNone&&Af ops x.k x.j&&abQ ops x.k (bV ops x.k)
 | _,_=>false
def ZT (ops:Array Oper)(y:BL):Bool:=match ops[y.j]? with
 | some o=>isBS o&&o.guard.isNone&&o.dst==some y.d&&(o.looksAt ops).all (UE ops y.j)
 | none=>false
def opOk (ops:Array Oper)(m:Nat)(di:List AL)(dF:List BL)(k:Nat):Bool:=match ops[k]? with
 | some o=>(o.after.all fun e => !Region.binds .any e||decide (e.on<k)) &&
   ((List.range ops.size).all fun j=>j==k||(match o.dst,dG ops j with|some d,some e=>d != e|_,_=>true)) &&
   (if k<m then (if oH o then (o.looksAt ops).all (MZ ops k) else (di.any fun x=>x.j==k||x.k==k)||dF.any fun y=>y.j==k) else (List.range k).all fun j=>befT ops ops.size k j)
 | none=>true
def Vd (ops:Array Oper)(m:Nat)(di:List AL)(dF:List BL):Bool:=Region.noSelect ops&&((List.range ops.size).all (opOk ops m di dF))&&di.all (fun x=>FW ops x&&decide (x.j<m/\x.k<m))&&decide ((di.map (·.j)).Nodup)&&(dF.all (fun y=>ZT ops y&&decide (y.j<m))&&decide ((dF.map (·.j)).Nodup))
section
variable {P:Program} {ops:Array Oper} {w0:World} {a0:Act}
def putsOf (ops:Array Oper)(vals:Nat->Option Value):List Nat->Act->Act
 | [],a=>a
 | k::l,a=>putsOf ops vals l (match vals k with|some v=>a.put (dG ops k) v|none=>a)
def dS (ops:Array Oper)(a0:Act)(vals:Nat->Option Value):Act:=putsOf ops vals (List.range ops.size) a0
def upd (vals:Nat->Option Value)(i:Nat)(v:Value):Nat->Option Value:=fun j=>if j=i then some v else vals j
theorem o9 {vals kM:Nat->Option Value}:∀ (l:List Nat) (a:Act),(∀j∈l,dG ops j≠none->vals j=kM j)->putsOf ops vals l a=putsOf ops kM l a
 | [],_,_=>rfl
 | k::l,a,h=>by
  unfold putsOf
  have e:(match vals k with|some v=>a.put (dG ops k) v|none=>a)=(match kM k with|some v=>a.put (dG ops k) v|none=>a):=by
   cases hd:dG ops k with
   | none=>cases vals k<;>cases kM k<;>rfl
   | some d=>rw[h k (by simp) (by rw[hd];simp)]
  rw[e]
  exact o9 l _ fun j hj=>h j (by simp[hj])
theorem yt {vals:Nat->Option Value}{d:Option Tmp}{v:Value}:∀ (l:List Nat) (a:Act),(∀j∈l,vals j≠none->∀t,d=some t->dG ops j≠some t) ->
  putsOf ops vals l (a.put d v)=(putsOf ops vals l a).put d v
 | [],_,_=>rfl
 | k::l,a,h=>by
  unfold putsOf
  cases hv:vals k with
  | none=>exact yt l a fun j hj=>h j (by simp[hj])
  | some u =>
   simp only[]
   rw[Act.put_comm a v u (h k (by simp) (by rw[hv];simp))]
   exact yt l _ fun j hj=>h j (by simp[hj])
theorem DZ {vals:Nat->Option Value}{i:Nat}{v:Value}(hn:vals i=none):∀ (l:List Nat) (a:Act),i∈l->l.Nodup->(∀j∈l,j≠i->∀t,dG ops i=some t->dG ops j≠some t) ->
  putsOf ops (upd vals i v) l a=(putsOf ops vals l a).put (dG ops i) v
 | [],_,h,_,_=>by cases h
 | k::l,a,h,hnd,hd=>by
  by_cases hk:k=i
  ·subst hk
   have hkl:k ∉ l:=(List.nodup_cons.1 hnd).1
   unfold putsOf
   simp only[upd,if_pos,hn]
   have hne:∀j,j∈l->j≠k:=fun j hj e=>hkl (by rw[<-e];exact hj)
   have e:putsOf ops (upd vals k v) l (a.put (dG ops k) v)=putsOf ops vals l (a.put (dG ops k) v) :=
    o9 l _ fun j hj _=>if_neg (hne j hj)
   rw[e]
   exact yt l a fun j hj _=>hd j (by simp[hj]) (hne j hj)
  ·have hil:i∈l:=by
    rcases List.mem_cons.1 h with h|h
    ·exact absurd h.symm hk
    ·exact h
   unfold putsOf
   have e:upd vals i v k=vals k:=if_neg hk
   rw[e]
   exact DZ hn l _ hil (List.nodup_cons.1 hnd).2 fun j hj=>hd j (by simp[hj])
theorem BI {vals kM:Nat->Option Value}{t:Tmp}:∀ (l:List Nat) (a a':Act),a.tmps[t]?=a'.tmps[t]?->(∀j∈l,dG ops j=some t->vals j=kM j) ->
  (putsOf ops vals l a).tmps[t]?=(putsOf ops kM l a').tmps[t]?
 | [],_,_,h,_=>h
 | k::l,a,a',h,hv=>by
  unfold putsOf
  refine BI l _ _ ?_ fun j hj=>hv j (by simp[hj])
  cases hd:dG ops k with
  | none=>cases vals k<;>cases kM k<;>exact h
  | some d =>
   by_cases hdt:d=t
   ·subst hdt
    rw[hv k (by simp) hd]
    cases kM k with
    | none=>exact h
    | some u =>
     have hs:d<a.tmps.size↔d<a'.tmps.size:=by
      have h1:(a.tmps[d]?).isSome=decide (d<a.tmps.size):=by by_cases hx:d<a.tmps.size<;>simp[hx]
      have h2:(a'.tmps[d]?).isSome=decide (d<a'.tmps.size):=by by_cases hx:d<a'.tmps.size<;>simp[hx]
      rw[h,h2] at h1
      simpa using h1.symm
     simp only[Act.put,Array.getElem?_setIfInBounds]
     by_cases h1:d<a.tmps.size
     ·simp[h1,hs.1 h1]
     ·simp[h1,show ¬ d<a'.tmps.size from fun e=>h1 (hs.2 e)]
   ·cases vals k<;>cases kM k<;>simp only[Act.put,Array.getElem?_setIfInBounds_ne hdt]<;>exact h
theorem Ff {vals kM:Nat->Option Value}{t:Tmp}(h:∀j,j<ops.size->dG ops j=some t->vals j=kM j):(dS ops a0 vals).tmps[t]?=(dS ops a0 kM).tmps[t]? :=
 BI _ _ _ rfl fun j hj=>h j (List.mem_range.1 hj)
theorem qH {vals kM:Nat->Option Value}{x:Operand}(h:∀t,x=.tmp t->∀j,j<ops.size->dG ops j=some t->vals j=kM j):(dS ops a0 vals).eval x=(dS ops a0 kM).eval x:=by
 cases x with
 | tmp t =>
  have:=Ff (a0:=a0) (h t rfl)
  simp only[Act.eval]
  rw[Array.getD_eq_getD_getElem?,Array.getD_eq_getD_getElem?,this]
 | _=>rfl
theorem kV {vals kM:Nat->Option Value}{o:Oper}(hs:∀cs b,o.op≠.select cs b)(h:∀t,t∈o.looksAt ops->∀j,j<ops.size->dG ops j=some t->vals j=kM j) :
  execOp (dS ops a0 vals).eval o=execOp (dS ops a0 kM).eval o :=
 execOp_congr o hs fun x hx=>qH fun t ht=>h t (List.mem_append_left _ (List.mem_filterMap.2 ⟨.tmp t,by subst ht;simpa using hx,rfl⟩))
theorem pI {vals kM:Nat->Option Value}{o:Oper}(h:∀t,t∈o.looksAt ops->∀j,j<ops.size->dG ops j=some t->vals j=kM j) :
  Region.wanted o (yielded ops (dS ops a0 vals).tmps)=Region.wanted o (yielded ops (dS ops a0 kM).tmps):=by
 unfold Region.wanted
 cases hg:o.guard with
 | none=>rfl
 | some gw =>
  obtain⟨g,want⟩:=gw
  have hy:yielded ops (dS ops a0 vals).tmps g=yielded ops (dS ops a0 kM).tmps g:=by
   unfold yielded
   cases ht:(ops[g]?).bind (·.dst) with
   | none=>rfl
   | some t =>
    have:=Ff (a0:=a0) (h t (by simp[Oper.looksAt,hg,ht]))
    simp only[Option.bind_some,this]
  simp only[hy]
end
section
variable {P:Program} {ops:Array Oper} {w0:World} {a0:Act}
def iR (ops:Array Oper)(j:Nat):Bool:=match ops[j]? with|some o=>oH o|none=>false
def qv (ops:Array Oper)(v:Nat->Value)(k:Nat):Nat->Option Value:=fun j=>if j<k/\iR ops j=true then some (v j) else none
def YS (P:Program)(ops:Array Oper)(w0:World)(o:Oper)(u:Value)(a:Act):Prop :=
 (Region.wanted o (yielded ops a.tmps)=true/\dA P o a w0 u)\/(Region.wanted o (yielded ops a.tmps)=false/\u=undef)
def Distinct (ops:Array Oper):Prop:=∀i j,i≠j->∀t,dG ops i=some t->dG ops j≠some t
theorem pO {vals:Nat->Option Value}{i:Nat}{v:Value}(hD:Distinct ops)(hn:vals i=none)(hi:i<ops.size):dS ops a0 (upd vals i v)=(dS ops a0 vals).put (dG ops i) v :=
 DZ hn _ _ (List.mem_range.2 hi) List.nodup_range fun j _ hj t ht=>hD i j (fun e=>hj e.symm) t ht
theorem kX (hD:Distinct ops){Q:Act->Prop}:∀ (l:List Oper) (k:Nat) (v:Nat->Value),(∀i,i<l.length->l[i]?=ops[k+i]?)->wpSteady P ops w0 Q (l.filter oH) (dS ops a0 (qv ops v k)) ->
  ∃v':Nat->Value,(∀j,j<k->v' j=v j)/\(∀i o,l[i]?=some o->oH o=true->YS P ops w0 o (v' (k+i)) (dS ops a0 (qv ops v' (k+i))))/\Q (dS ops a0 (qv ops v' (k+l.length)))
 | [],k,v,_,h=>⟨v,fun _ _=>rfl,fun i o h=>by simp at h,h⟩
 | o::l,k,v,hl,h=>by
  have h0:ops[k]?=some o:=by simpa using (hl 0 (by simp)).symm
  have hk:k<ops.size:=(Array.getElem?_eq_some_iff.1 h0).1
  have hl':∀i,i<l.length->l[i]?=ops[k+1+i]?:=fun i hi=>by have:=hl (i+1) (by simpa using hi);simpa[Nat.add_assoc,Nat.add_comm 1 i] using this
  by_cases hq:oH o=true
  ·rw[List.filter_cons_of_pos hq] at h
   have key:∃u,YS P ops w0 o u (dS ops a0 (qv ops v k))/\wpSteady P ops w0 Q (l.filter oH) ((dS ops a0 (qv ops v k)).put o.dst u):=by
    unfold wpSteady at h
    by_cases hw:Region.wanted o (yielded ops (dS ops a0 (qv ops v k)).tmps)=true
    ·rw[if_pos hw] at h
     obtain⟨u,h1,h2⟩:=h
     exact⟨u,.inl ⟨hw,h1⟩,h2⟩
    ·rw[if_neg hw] at h
     exact⟨undef,.inr ⟨by simpa using hw,rfl⟩,h⟩
   obtain⟨u,hy,h2⟩:=key
   have hfun:qv ops (fun j=>if j=k then u else v j) (k+1)=upd (qv ops v k) k u:=by
    funext j
    unfold qv upd
    by_cases hj:j=k
    ·subst hj
     simp[iR,h0,hq]
    ·have e:(j<k+1)↔(j<k):=by omega
     simp[hj,e]
   have hdst:dG ops k=o.dst:=by simp[dG,h0]
   rw[<-hdst,<-pO hD (by simp[qv]) hk,<-hfun] at h2
   obtain⟨v',g1,g2,g3⟩:=kX hD l (k+1) _ hl' h2
   have hle:∀j,j<k->v' j=v j:=fun j hj=>by rw[g1 j (by omega),if_neg (by omega)]
   have hu:v' k=u:=by rw[g1 k (by omega),if_pos rfl]
   refine⟨v',hle,?_,by rw[List.length_cons,show k+(l.length+1)=k+1+l.length from by omega];exact g3⟩
   intro i o' hi hq'
   cases i with
   | zero =>
    simp only[List.getElem?_cons_zero,Option.some.injEq] at hi
    subst hi
    have e:qv ops v' (k+0)=qv ops v k:=by
     funext j
     unfold qv
     by_cases hj:j<k
     ·simp[hj,hle j hj]
     ·simp[hj]
    rw[e,Nat.add_zero,hu]
    exact hy
   | succ i =>
    simp only[List.getElem?_cons_succ] at hi
    have:=g2 i o' hi hq'
    rw[show k+1+i=k+(i+1) from by omega] at this
    exact this
  ·rw[List.filter_cons_of_neg hq] at h
   have hfun:qv ops v (k+1)=qv ops v k:=by
    funext j
    unfold qv
    by_cases hj:j=k
    ·subst hj
     simp[iR,h0,hq]
    ·have e:(j<k+1)↔(j<k):=by omega
     simp[e]
   rw[<-hfun] at h
   obtain⟨v',g1,g2,g3⟩:=kX hD l (k+1) v hl' h
   refine⟨v',fun j hj=>g1 j (by omega),?_,by rw[List.length_cons,show k+(l.length+1)=k+1+l.length from by omega];exact g3⟩
   intro i o' hi hq'
   cases i with
   | zero =>
    simp only[List.getElem?_cons_zero,Option.some.injEq] at hi
    subst hi
    exact absurd hq' hq
   | succ i =>
    simp only[List.getElem?_cons_succ] at hi
    have:=g2 i o' hi hq'
    rw[show k+1+i=k+(i+1) from by omega] at this
    exact this
end
section
variable {P:Program} {ops:Array Oper} {w0:World} {a0:Act} {di:List AL} {dF:List BL}
structure iq (ops:Array Oper) (m:Nat) (di:List AL) (dF:List BL):Prop where
 y9:∀ (j:Nat) (o:Oper) cs b,ops[j]?=some o->o.op≠.select cs b
 lex:∀k o e,ops[k]?=some o->e∈o.after->Region.binds .any e=true->e.on<k
 Lr:Distinct ops
 q:∀k o,k<m->ops[k]?=some o->oH o=true->∀t,t∈o.looksAt ops->∀j,j<ops.size->dG ops j=some t->(Af ops k j=true/\iR ops j=true)\/Af ops j k=true
 nq:∀k o,k<m->ops[k]?=some o->oH o=false->(∃x∈di,x.j=k\/x.k=k)\/∃y∈dF,y.j=k
 al:∀x∈di,∃oj ok,ops[x.j]?=some oj/\ops[x.k]?=some ok/\oj.op=.alloc x.T/\oj.guard=none/\oj.dst=some x.d/\ok.op=.store x.T (.tmp x.d) (bV ops x.k)/\ok.guard=none/\ok.dst=none/\Af ops x.k x.j=true
 st:∀x∈di,∀t,bV ops x.k=.tmp t->∀j,j<ops.size->dG ops j=some t->Af ops x.k j=true/\iR ops j=true
 nd:(di.map (·.j)).Nodup
 tl:∀k o,m<=k->ops[k]?=some o->∀j,j<k->∃f,befT ops f k j=true
 XM:∀x∈di,x.j<m/\x.k<m
 bl:∀y∈dF,y.j<m/\∃o,ops[y.j]?=some o/\isBS o=true/\o.guard=none/\o.dst=some y.d/\∀t,t∈o.looksAt ops->∀j,j<ops.size->dG ops j=some t->Af ops y.j j=true/\iR ops j=true
 bnd:(dF.map (·.j)).Nodup
theorem tN {k:Nat}{t:Tmp}(h:UE ops k t=true):∀j,j<ops.size->dG ops j=some t->Af ops k j=true/\iR ops j=true:=by
 intro j hj hd
 have:=List.all_eq_true.1 h j (List.mem_range.2 hj)
 have ho:ops[j]?=some ops[j]:=Array.getElem?_eq_getElem hj
 simp only[ho] at this
 have hdd:ops[j].dst=some t:=by simpa[dG,ho] using hd
 simp[hdd] at this
 exact⟨this.1,by simp[iR,ho,this.2]⟩
theorem BF {k:Nat}{t:Tmp}(h:MZ ops k t=true):∀j,j<ops.size->dG ops j=some t->(Af ops k j=true/\iR ops j=true)\/Af ops j k=true:=by
 intro j hj hd
 have:=List.all_eq_true.1 h j (List.mem_range.2 hj)
 have ho:ops[j]?=some ops[j]:=Array.getElem?_eq_getElem hj
 simp only[ho] at this
 have hdd:ops[j].dst=some t:=by simpa[dG,ho] using hd
 simp[hdd] at this
 exact this.imp (fun h=>⟨h.1,by simp[iR,ho,h.2]⟩) id
theorem tC {m:Nat}(h:Vd ops m di dF=true):iq ops m di dF:=by
 simp only[Vd,Bool.and_eq_true,decide_eq_true_eq] at h
 obtain⟨⟨⟨⟨h1,h2⟩,h3⟩,h4⟩,h5,h6⟩:=h
 have hop:∀k o,ops[k]?=some o->opOk ops m di dF k=true:=fun k o ho=>List.all_eq_true.1 h2 k (List.mem_range.2 (Array.getElem?_eq_some_iff.1 ho).1)
 have WY:∀x∈di,FW ops x=true/\x.j<m/\x.k<m:=fun x hx=>by have:=List.all_eq_true.1 h3 x hx;simpa using this
 have hal:∀x∈di,FW ops x=true:=fun x hx=>(WY x hx).1
 refine⟨fun j o cs b ho=>Region.noSelect_spec h1 j o cs b ho,?_,?_,?_,?_,?_,?_,h4,?_,fun x hx=>(WY x hx).2,?_,h6⟩
 ·intro k o e ho he hb
  have:=hop k o ho
  simp only[opOk,ho,Bool.and_eq_true] at this
  have:=Array.all_eq_true_iff_forall_mem.1 this.1.1 e he
  simpa[hb] using this
 ·intro i j hij t hi hj
  cases ho:ops[i]? with
  | none=>simp[dG,ho] at hi
  | some o =>
   have:=hop i o ho
   simp only[opOk,ho,Bool.and_eq_true] at this
   have hjs:j<ops.size:=by
    rcases Nat.lt_or_ge j ops.size with h|h
    ·exact h
    ·simp[dG,Array.getElem?_eq_none h] at hj
   have:=List.all_eq_true.1 this.1.2 j (List.mem_range.2 hjs)
   have hd:o.dst=some t:=by simpa[dG,ho] using hi
   simp[hd,hj] at this
   exact hij this.symm
 ·intro k o Qb ho hq t ht
  have:=hop k o ho
  simp only[opOk,ho,Bool.and_eq_true,hq,if_true,if_pos Qb] at this
  exact BF (List.all_eq_true.1 this.2 t ht)
 ·intro k o Qb ho hq
  have:=hop k o ho
  simp only[opOk,ho,Bool.and_eq_true,hq,if_pos Qb] at this
  have h7:=this.2
  simp only[Bool.false_eq_true,if_false,Bool.or_eq_true] at h7
  rcases h7 with h7|h7
  ·obtain⟨x,hx,hk⟩:=List.any_eq_true.1 h7
   exact .inl ⟨x,hx,by simpa using hk⟩
  ·obtain⟨y,hy,hk⟩:=List.any_eq_true.1 h7
   exact .inr ⟨y,hy,by simpa using hk⟩
 ·intro x hx
  have:=hal x hx
  unfold FW at this
  cases hj:ops[x.j]? with
  | none=>simp[hj] at this
  | some oj =>
   cases hk:ops[x.k]? with
   | none=>simp[hj,hk] at this
   | some ok =>
    simp only[hj,hk,Bool.and_eq_true] at this
    obtain⟨⟨⟨⟨⟨⟨⟨a1,a2⟩,a3⟩,a4⟩,a5⟩,a6⟩,a7⟩,a8⟩:=this
    refine⟨oj,ok,rfl,rfl,?_,by simpa using a2,by simpa using a3,?_,by simpa using a5,by simpa using a6,a7⟩
    ·unfold isAlloc at a1
     split at a1
     ·rename_i U hU;rw[hU];simp at a1;rw[a1]
     ·cases a1
    ·unfold isStoreTo at a4
     split at a4
     ·rename_i U e y hU
      simp at a4
      have:bV ops x.k=y:=by simp[bV,hk,hU]
      rw[hU,a4.1,a4.2,this]
     ·cases a4
 ·intro x hx t ht
  have:=hal x hx
  unfold FW at this
  cases hj:ops[x.j]? with
  | none=>simp[hj] at this
  | some oj =>
   cases hk:ops[x.k]? with
   | none=>simp[hj,hk] at this
   | some ok =>
    simp only[hj,hk,Bool.and_eq_true] at this
    have h8:=this.2
    rw[ht] at h8
    exact tN h8
 ·intro k o hmk ho j hj
  have:=hop k o ho
  simp only[opOk,ho,Bool.and_eq_true,if_neg (Nat.not_lt.2 hmk)] at this
  exact⟨_,List.all_eq_true.1 this.2 j (List.mem_range.2 hj)⟩
 ·intro y hy
  have h7:=List.all_eq_true.1 h5 y hy
  rw[Bool.and_eq_true,decide_eq_true_eq] at h7
  refine⟨h7.2,?_⟩
  have h8:=h7.1
  unfold ZT at h8
  cases ho:ops[y.j]? with
  | none=>simp[ho] at h8
  | some o =>
   simp only[ho,Bool.and_eq_true] at h8
   exact⟨o,rfl,h8.1.1.1,by simpa using h8.1.1.2,by simpa using h8.1.2,fun t ht=>tN (List.all_eq_true.1 h8.2 t ht)⟩
def cnt (f:Nat->Bool):Nat->Nat
 | 0=>0
 | n+1=>cnt f n+(if f n then 0 else 1)
theorem LQ {f g:Nat->Bool}:∀n,(∀j,j<n->f j=g j)->cnt f n=cnt g n
 | 0,_=>rfl
 | n+1,h=>by unfold cnt;rw[LQ n fun j hj=>h j (by omega),h n (by omega)]
theorem zS {f g:Nat->Bool}{i:Nat}(hf:f i=false)(hg:g i=true)(hs:∀j,j≠i->g j=f j):∀n,i<n->cnt g n+1=cnt f n
 | 0,h=>by omega
 | n+1,h=>by
  unfold cnt
  by_cases hi:i=n
  ·subst hi
   rw[LQ (f:=g) (g:=f) i fun j hj=>hs j (by omega),hf,hg]
   simp
  ·have:=zS hf hg hs n (by omega)
   rw[hs n (fun e=>hi e.symm)]
   omega
theorem wM {f:Nat->Bool}:∀n,cnt f n=0->∀j,j<n->f j=true
 | 0,_,j,hj=>by omega
 | n+1,h,j,hj=>by
  unfold cnt at h
  by_cases hjn:j=n
  ·subst hjn
   by_cases hf:f j=true
   ·exact hf
   ·simp[hf] at h
  ·exact wM n (by omega) j (by omega)
end
section
variable {P:Program} {ops:Array Oper} {w0:World} {a0:Act} {di:List AL} {dF:List BL}
theorem Grew.setRow {a w:World}(h:Grew a w){p:Nat}(hp:a.heap.size<=p)(cs:Array Value):Grew a (w.setRow p cs):=by
 obtain⟨⟨n,os⟩,rfl⟩:=h
 refine⟨⟨n,os.modify (p-a.heap.size) fun | .cells _ elem frozen=>.cells cs elem frozen|o=>o⟩,?_⟩
 simp only[World.setRow,Sort.grow]
 rw[modify_append_right _ _ _ _ (by exact hp)]
 rfl
theorem lC {w:World}{p:Nat}{cs cs':Array Value}{T:TypeId}(h:w.heap[p]?=some (.cells cs T (0,0))):(w.setRow p cs').heap[p]?=some (.cells cs' T (0,0)):=by
 simp[World.setRow,Array.getElem?_modify,h]
theorem gZ {w:World}{p q:Nat}{cs':Array Value}(h:p≠q):(w.setRow p cs').heap[q]?=w.heap[q]?:=by
 simp[World.setRow,Array.getElem?_modify,h]
theorem o8 {o:Oper}{ρ:Operand->Value}{T:TypeId}{z:Value}{W:World}(ho:o.op=.alloc T)(hz:(zeroValue T).run P W=.ok z W) :
  (execOp ρ o).run P W=.ok (.value (.pointer (some ⟨W.heap.size,0,none⟩))) (W.alloc (.cells z.cells T)):=by
 unfold execOp
 rw[ho]
 simp[Instr.alloc,hz,newVar,newRow,go_sem]
theorem o7 {o:Oper}{ρ:Operand->Value}{T:TypeId}{x y:Operand}{z v:Value}{p:Nat}{W:World}(ho:o.op=.store T x y)(hx:ρ x=.pointer (some ⟨p,0,none⟩))(hy:ρ y=v)
  (hs:(sizeOf T).run P W=.ok z.cells.size W) (hz:v.cells.size=z.cells.size) (h1:∀u∈v.cells.toList,u.oneCell'=true) (hp:W.heap[p]?=some (.cells z.cells T (0,0))) :
  (execOp ρ o).run P W=.ok .skip (W.setRow p v.cells):=by
 have hst:=run_storeCells_at P p 0 T v.cells.toList 0 z.cells W hp (by simp[hz]) h1
 have e:(z.cells.toList.take (0+0)++v.cells.toList++z.cells.toList.drop (0+0+v.cells.toList.length)).toArray=v.cells:=by
  simp[hz]
  rw[List.drop_eq_nil_of_le (by simp)]
  simp
 rw[e] at hst
 unfold execOp
 rw[ho]
 simp[Instr.storeAt,Instr.sureAddr,storeVar,hx,hy,hs,hz,hst]
def nD (ops:Array Oper)(w0 W:World)(af:Act):List AL->List Nat->Prop
 | [],ps=>ps=[]
 | x::di,ps=>∃p ps',ps=p::ps'/\w0.heap.size<=p/\W.heap[p]?=some (.cells (af.eval (bV ops x.k)).cells x.T (0,0))/\p ∉ ps'/\nD ops w0 W af di ps'
def jS (w0 W:World)(af:Act):List BL->List Nat->Prop
 | [],ps=>ps=[]
 | y::dF,ps=>∃p ps',ps=p::ps'/\w0.heap.size<=p/\W.heap[p]?=some (.cells (y.cs af) y.e (0,0))/\jS w0 W af dF ps'
def putB:List BL->List Nat->Act->Act
 | y::dF,p::ps,a=>putB dF ps (a.put (some y.d) (.slice (some ⟨p,0,none⟩) y.n y.n))
 | _,_,a=>a
def nT (P:Program)(ops:Array Oper)(af:Act)(dF:List BL):Prop:=∀y∈dF,∀o,ops[y.j]?=some o->∀W:World,(execOp af.eval o).run P W=.ok (.value (.slice (some ⟨W.heap.size,0,none⟩) y.n y.n)) (W.alloc (.cells (y.cs af) y.e))
def putAll:List AL->List Nat->Act->Act
 | x::di,p::ps,a=>putAll di ps (a.put (some x.d) (.pointer (some ⟨p,0,none⟩)))
 | _,_,a=>a
def ja (ops:Array Oper)(af:Act)(di:List AL):Prop:=∀x∈di,(af.eval (bV ops x.k)).cells.size=x.z.cells.size/\∀u∈(af.eval (bV ops x.k)).cells.toList,u.oneCell'=true
def qI (P:Program)(di:List AL):Prop:=∀x∈di,(∀W,(zeroValue x.T).run P W=.ok x.z W)/\(∀W,(sizeOf x.T).run P W=.ok x.z.cells.size W)
structure Inv (P:Program) (ops:Array Oper) (m:Nat) (w0:World) (a0:Act) (di:List AL) (dF:List BL) (v:Nat->Value) (af:Act) (vals:Nat->Option Value) (π:Nat->Nat) (listed:Array Bool) (a:Act) (W:World):Prop where
 size:listed.size=ops.size
 main:∀j,m<=j->listed.getD j false=false
 act:a=dS ops a0 vals
 off:∀j,listed.getD j false=false->vals j=none
 on:∀j,j<ops.size->iR ops j=true->listed.getD j false=true->vals j=some (v j)
 grew:Grew w0 W
 down:∀k j,listed.getD k false=true->Af ops k j=true->listed.getD j false=true
 al:∀x∈di,listed.getD x.j false=true->vals x.j=some (.pointer (some ⟨π x.j,0,none⟩))/\w0.heap.size<=π x.j /\
  W.heap[π x.j]?=some (.cells (if listed.getD x.k false=true then (af.eval (bV ops x.k)).cells else x.z.cells) x.T (0,0))
 inj:∀x∈di,∀y∈di,listed.getD x.j false=true->listed.getD y.j false=true->π x.j=π y.j->x.j=y.j
 bl:∀y∈dF,listed.getD y.j false=true->vals y.j=some (.slice (some ⟨π y.j,0,none⟩) y.n y.n)/\w0.heap.size<=π y.j/\W.heap[π y.j]?=some (.cells (y.cs af) y.e (0,0))
 inb:∀x∈di,∀y∈dF,listed.getD x.j false=true->listed.getD y.j false=true->π x.j≠π y.j
theorem dX {listed:Array Bool}{i:Nat}(h:i<listed.size):(listed.setIfInBounds i true).getD i false=true:=by simp[h]
theorem ai {listed:Array Bool}{i j:Nat}(h:i≠j):(listed.setIfInBounds i true).getD j false=listed.getD j false:=by simp[Array.getElem?_setIfInBounds_ne h]
theorem dD {listed:Array Bool}{i j:Nat}(h:i∈Region.ready .any ops listed)(hb:Af ops i j=true):listed.getD j false=true:=by
 obtain⟨_,o,ho,hall⟩:=mem_ready.1 h
 unfold Af at hb
 simp only[ho] at hb
 obtain⟨e,he⟩:=Array.any_eq_true.1 hb
 obtain⟨he1,he2⟩:=he
 simp at he2
 have:=hall _ (Array.getElem_mem he1) he2.1
 rwa [he2.2] at this
end
section
variable {P:Program} {ops:Array Oper} {w0:World} {a0:Act} {m:Nat} {di:List AL} {dF:List BL} {v:Nat->Value} {af:Act} {vals:Nat->Option Value} {π:Nat->Nat} {listed:Array Bool} {a:Act} {W:World}
theorem lS (C:iq ops m di dF){i j:Nat}(hb:Af ops i j=true):j<i:=by
 unfold Af at hb
 cases ho:ops[i]? with
 | none=>simp[ho] at hb
 | some o =>
  simp only[ho] at hb
  obtain⟨e,he1,he2⟩:=Array.any_eq_true.1 hb
  simp at he2
  have:=C.lex i o _ ho (Array.getElem_mem he1) he2.1
  omega
theorem gX {i:Nat}(hr:i∈Region.ready .any ops listed):i<ops.size/\listed.getD i true=false:=by
 obtain⟨h,o,ho,_⟩:=mem_ready.1 hr
 exact⟨(Array.getElem?_eq_some_iff.1 ho).1,h⟩
theorem jL {i j:Nat}(hd:∀k j,listed.getD k false=true->Af ops k j=true->listed.getD j false=true):∀ (f:Nat),(i∈Region.ready .any ops listed\/listed.getD i false=true)->befT ops f i j=true->listed.getD j false=true
 | 0,h,hb=>h.elim (fun h=>dD h hb) (fun h=>hd _ _ h hb)
 | f+1,h,hb=>by
  unfold befT at hb
  rw[Bool.or_eq_true] at hb
  rcases hb with hb|hb
  ·exact h.elim (fun h=>dD h hb) (fun h=>hd _ _ h hb)
  ·obtain⟨q,_,hq⟩:=List.any_eq_true.1 hb
   rw[Bool.and_eq_true] at hq
   exact jL hd f (.inr (h.elim (fun h=>dD h hq.1) (fun h=>hd _ _ h hq.1))) hq.2
theorem mJ (I:Inv P ops m w0 a0 di dF v af vals π listed a W){i:Nat}(hr:i∈Region.ready .any ops listed):listed.getD i false=false:=by
 have h:=gX hr
 have hs:i<listed.size:=by rw[I.size];exact h.1
 have:=h.2
 simp[hs] at this ⊢
 exact this
theorem agree (C:iq ops m di dF)(I:Inv P ops m w0 a0 di dF v af vals π listed a W){i:Nat}{o:Oper}(him:i<m)(hr:i∈Region.ready .any ops listed)(ho:ops[i]?=some o)(hq:oH o=true) :
  ∀t,t∈o.looksAt ops->∀j,j<ops.size->dG ops j=some t->vals j=qv ops v i j:=by
 intro t ht j hj hd
 rcases C.q i o him ho hq t ht j hj hd with⟨hb,hqj⟩|hb
 ·rw[I.on j hj hqj (dD hr hb)]
  simp[qv,lS C hb,hqj]
 ·have hoff:listed.getD j false=false:=by
   cases hc:listed.getD j false with
   | false=>rfl
   | true=>have h1:=I.down j i hc hb;rw[mJ I hr] at h1;cases h1
  rw[I.off j hoff]
  have:=lS C hb
  simp[qv,show ¬ j<i by omega]
theorem gY (C:iq ops m di dF)(I:Inv P ops m w0 a0 di dF v af vals π listed a W){i:Nat}{o:Oper}{u:Value}{π':Nat->Nat}{W':World}(him:i<m)(hr:i∈Region.ready .any ops listed)(ho:ops[i]?=some o)
  (hon:iR ops i=true->u=v i) (hg:Grew w0 W')
  (hal:∀x∈di,(listed.setIfInBounds i true).getD x.j false=true->upd vals i u x.j=some (.pointer (some ⟨π' x.j,0,none⟩))/\w0.heap.size<=π' x.j /\
   W'.heap[π' x.j]?=some (.cells (if (listed.setIfInBounds i true).getD x.k false=true then (af.eval (bV ops x.k)).cells else x.z.cells) x.T (0,0)))
  (hinj:∀x∈di,∀y∈di,(listed.setIfInBounds i true).getD x.j false=true->(listed.setIfInBounds i true).getD y.j false=true->π' x.j=π' y.j->x.j=y.j)
  (hbl:∀y∈dF,(listed.setIfInBounds i true).getD y.j false=true->upd vals i u y.j=some (.slice (some ⟨π' y.j,0,none⟩) y.n y.n)/\w0.heap.size<=π' y.j/\W'.heap[π' y.j]?=some (.cells (y.cs af) y.e (0,0)))
  (acg:∀x∈di,∀y∈dF,(listed.setIfInBounds i true).getD x.j false=true->(listed.setIfInBounds i true).getD y.j false=true->π' x.j≠π' y.j) :
  Inv P ops m w0 a0 di dF v af (upd vals i u) π' (listed.setIfInBounds i true) (a.put o.dst u) W':=by
 have hlt:=(gX hr).1
 have hoff:=mJ I hr
 have his:i<listed.size:=by rw[I.size];exact hlt
 have hdst:dG ops i=o.dst:=by simp[dG,ho]
 refine⟨by simp[I.size],fun j hj=>by rw[ai (by omega)];exact I.main j hj,?_,?_,?_,hg,?_,hal,hinj,hbl,acg⟩
 ·rw[pO C.Lr (I.off i hoff) hlt,hdst,I.act]
 ·intro j hj
  by_cases hji:i=j
  ·subst hji
   rw[dX his] at hj
   cases hj
  ·rw[ai hji] at hj
   unfold upd
   rw[if_neg (fun e=>hji e.symm)]
   exact I.off j hj
 ·intro j hj hq hl
  by_cases hji:i=j
  ·subst hji
   unfold upd
   rw[if_pos rfl,hon hq]
  ·rw[ai hji] at hl
   unfold upd
   rw[if_neg (fun e=>hji e.symm)]
   exact I.on j hj hq hl
 ·intro k j hk hb
  by_cases hki:i=k
  ·subst hki
   exact getD_set_true (dD hr hb)
  ·rw[ai hki] at hk
   exact getD_set_true (I.down k j hk hb)
theorem jW (C:iq ops m di dF){x y:AL}(hx:x∈di)(hy:y∈di):x.j≠y.k:=by
 obtain⟨oj,_,hj,_,aj,_⟩:=C.al x hx
 obtain⟨_,ok,_,hk,_,_,_,ak,_⟩:=C.al y hy
 intro e
 rw[e,hk] at hj
 injection hj with hj
 rw[<-hj,ak] at aj
 cases aj
theorem wQ:∀ {di:List AL},(di.map (·.j)).Nodup->∀ {x y:AL},x∈di->y∈di->x.j=y.j->x=y
 | [],_,_,_,hx,_,_=>by cases hx
 | z::di,h,x,y,hx,hy,e=>by
  rw[List.map_cons,List.nodup_cons] at h
  rcases List.mem_cons.1 hx with hx1|hx1<;>rcases List.mem_cons.1 hy with hy1|hy1
  ·rw[hx1,hy1]
  ·exact (h.1 (List.mem_map.2 ⟨y,hy1,by rw[<-e,hx1]⟩)).elim
  ·exact (h.1 (List.mem_map.2 ⟨x,hx1,by rw[e,hy1]⟩)).elim
  ·exact wQ h.2 hx1 hy1 e
theorem Me (C:iq ops m di dF){x y:AL}(hx:x∈di)(hy:y∈di)(e:x.k=y.k):x=y:=by
 obtain⟨oj,ok,hj,hk,_,_,dj,ak,_⟩:=C.al x hx
 obtain⟨oj',ok',hj',hk',_,_,dj',ak',_⟩:=C.al y hy
 rw[e,hk'] at hk
 injection hk with hk
 rw[<-hk,ak'] at ak
 injection ak with _ ak _
 injection ak with ak
 refine wQ C.nd hx hy ?_
 by_cases h:x.j=y.j
 ·exact h
 ·exact absurd (by simp[dG,hj',dj',ak]) (C.Lr x.j y.j h x.d (by simp[dG,hj,dj]))
end
section
variable {P:Program} {ops:Array Oper} {w0:World} {a0:Act} {m:Nat} {di:List AL} {dF:List BL} {v:Nat->Value} {af:Act} {Q:Exit->Act->World->Prop}
theorem Bj {w0 W:World}{π:Nat->Nat}:∀ (di:List AL),(di.map (·.j)).Nodup ->
  (∀x∈di,w0.heap.size<=π x.j/\W.heap[π x.j]?=some (.cells (af.eval (bV ops x.k)).cells x.T (0,0)))->(∀x∈di,∀y∈di,π x.j=π y.j->x.j=y.j) ->
  nD ops w0 W af di (di.map fun x=>π x.j)
 | [],_,_,_=>rfl
 | x::di,hnd,h,hi=>by
  rw[List.map_cons,List.nodup_cons] at hnd
  refine⟨π x.j,di.map fun x=>π x.j,rfl,(h x (by simp)).1,(h x (by simp)).2,?_,Bj di hnd.2 (fun y hy=>h y (by simp[hy])) fun y hy z hz=>hi y (by simp[hy]) z (by simp[hz])⟩
  intro hm
  obtain⟨y,hy,e⟩:=List.mem_map.1 hm
  exact hnd.1 (List.mem_map.2 ⟨y,hy,hi y (by simp[hy]) x (by simp) e⟩)
def updAll (π:Nat->Nat):List AL->(Nat->Option Value)->(Nat->Option Value)
 | [],vals=>vals
 | x::di,vals=>updAll π di (upd vals x.j (.pointer (some ⟨π x.j,0,none⟩)))
theorem kN {π:Nat->Nat}:∀ (di:List AL) (vals:Nat->Option Value) (i:Nat),(∀x∈di,x.j≠i)->updAll π di vals i=vals i
 | [],_,_,_=>rfl
 | x::di,vals,i,h=>by
  unfold updAll
  rw[kN di _ i fun y hy=>h y (by simp[hy])]
  exact if_neg fun e=>h x (by simp) e.symm
theorem Aj {π:Nat->Nat}:∀ (di:List AL) (vals:Nat->Option Value),(di.map (·.j)).Nodup->∀x∈di,updAll π di vals x.j=some (.pointer (some ⟨π x.j,0,none⟩))
 | [],_,_,_,h=>by cases h
 | y::di,vals,hnd,x,h=>by
  rw[List.map_cons,List.nodup_cons] at hnd
  unfold updAll
  rcases List.mem_cons.1 h with rfl|h
  ·rw[kN di _ _ fun z hz e=>hnd.1 (List.mem_map.2 ⟨z,hz,e⟩)]
   exact if_pos rfl
  ·exact Aj di _ hnd.2 x h
theorem AQ (hD:Distinct ops){π:Nat->Nat}:∀ (di:List AL) (vals:Nat->Option Value),(di.map (·.j)).Nodup->(∀x∈di,vals x.j=none/\x.j<ops.size/\dG ops x.j=some x.d) ->
  dS ops a0 (updAll π di vals)=putAll di (di.map fun x=>π x.j) (dS ops a0 vals)
 | [],_,_,_=>rfl
 | x::di,vals,hnd,h=>by
  rw[List.map_cons,List.nodup_cons] at hnd
  obtain⟨h1,h2,h3⟩:=h x (by simp)
  unfold updAll
  rw[List.map_cons]
  unfold putAll
  rw[AQ hD di _ hnd.2,pO hD h1 h2,h3]
  intro y hy
  obtain⟨g1,g2,g3⟩:=h y (by simp[hy])
  refine⟨?_,g2,g3⟩
  unfold upd
  rw[if_neg (fun e=>hnd.1 (List.mem_map.2 ⟨y,hy,e⟩))]
  exact g1
def updB (π:Nat->Nat):List BL->(Nat->Option Value)->(Nat->Option Value)
 | [],vals=>vals
 | y::dF,vals=>updB π dF (upd vals y.j (.slice (some ⟨π y.j,0,none⟩) y.n y.n))
theorem oh {π:Nat->Nat}:∀ (dF:List BL) (vals:Nat->Option Value) (i:Nat),(∀y∈dF,y.j≠i)->updB π dF vals i=vals i
 | [],_,_,_=>rfl
 | y::dF,vals,i,h=>by
  unfold updB
  rw[oh dF _ i fun z hz=>h z (by simp[hz])]
  exact if_neg fun e=>h y (by simp) e.symm
theorem H5 {π:Nat->Nat}:∀ (dF:List BL) (vals:Nat->Option Value),(dF.map (·.j)).Nodup->∀y∈dF,updB π dF vals y.j=some (.slice (some ⟨π y.j,0,none⟩) y.n y.n)
 | [],_,_,_,h=>by cases h
 | z::dF,vals,hnd,y,h=>by
  rw[List.map_cons,List.nodup_cons] at hnd
  unfold updB
  rcases List.mem_cons.1 h with rfl|h
  ·rw[oh dF _ _ fun u hu e=>hnd.1 (List.mem_map.2 ⟨u,hu,e⟩)]
   exact if_pos rfl
  ·exact H5 dF _ hnd.2 y h
theorem Il (hD:Distinct ops){π:Nat->Nat}:∀ (dF:List BL) (vals:Nat->Option Value),(dF.map (·.j)).Nodup->(∀y∈dF,vals y.j=none/\y.j<ops.size/\dG ops y.j=some y.d) ->
  dS ops a0 (updB π dF vals)=putB dF (dF.map fun y=>π y.j) (dS ops a0 vals)
 | [],_,_,_=>rfl
 | y::dF,vals,hnd,h=>by
  rw[List.map_cons,List.nodup_cons] at hnd
  obtain⟨h1,h2,h3⟩:=h y (by simp)
  unfold updB
  rw[List.map_cons]
  unfold putB
  rw[Il hD dF _ hnd.2,pO hD h1 h2,h3]
  intro z hz
  obtain⟨g1,g2,g3⟩:=h z (by simp[hz])
  refine⟨?_,g2,g3⟩
  unfold upd
  rw[if_neg (fun e=>hnd.1 (List.mem_map.2 ⟨z,hz,e⟩))]
  exact g1
theorem yC {w0 W:World}{π:Nat->Nat}:∀ (dF:List BL),(∀y∈dF,w0.heap.size<=π y.j/\W.heap[π y.j]?=some (.cells (y.cs af) y.e (0,0)))->jS w0 W af dF (dF.map fun y=>π y.j)
 | [],_=>rfl
 | y::dF,h=>⟨π y.j,dF.map fun y=>π y.j,rfl,(h y (by simp)).1,(h y (by simp)).2,yC dF fun z hz=>h z (by simp[hz])⟩
theorem gB (C:iq ops m di dF){x:AL}{y:BL}(hx:x∈di)(hy:y∈dF):x.j≠y.j/\x.k≠y.j:=by
 obtain⟨oj,ok,hj,hk,aj,_,_,ak,_⟩:=C.al x hx
 obtain⟨_,o,ho,hb,_⟩:=C.bl y hy
 refine⟨fun e=>?_,fun e=>?_⟩
 ·rw[e,ho] at hj
  injection hj with hj
  rw[hj] at hb
  simp[isBS,aj] at hb
 ·rw[e,ho] at hk
  injection hk with hk
  rw[hk] at hb
  simp[isBS,ak] at hb
theorem Jq (C:iq ops m di dF){y:BL}(hy:y∈dF):iR ops y.j=false:=by
 obtain⟨_,o,ho,hb,_⟩:=C.bl y hy
 unfold isBS at hb
 split at hb
 ·rename_i h
  simp[iR,ho,oH,h]
 ·cases hb
theorem zC (C:iq ops m di dF){R:Act->World->Prop}{vals:Nat->Option Value}{π:Nat->Nat}{listed:Array Bool}{a:Act}{W:World}(I:Inv P ops m w0 a0 di dF v af vals π listed a W)(hall:∀j,j<m->listed.getD j false=true)
  (Je:af=dS ops a0 (qv ops v m)) (hQ:∀ps qs W,Grew w0 W->nD ops w0 W af di ps->jS w0 W af dF qs->R (putB dF qs (putAll di ps af)) W):R a W:=by
 have hfr:nD ops w0 W af di (di.map fun x=>π x.j):=by
  refine Bj di C.nd ?_ ?_
  ·intro x hx
   have h:=I.al x hx (hall _ (C.XM x hx).1)
   rw[hall _ (C.XM x hx).2,if_pos rfl] at h
   exact h.2
  ·intro x hx y hy e
   exact I.inj x hx y hy (hall _ (C.XM x hx).1) (hall _ (C.XM y hy).1) e
 have hfb:jS w0 W af dF (dF.map fun y=>π y.j):=yC dF fun y hy=>(I.bl y hy (hall _ (C.bl y hy).1)).2
 have:=hQ _ _ W I.grew hfr hfb
 rw[Je,<-AQ C.Lr di _ C.nd,<-Il C.Lr dF _ C.bnd] at this
 ·rw[I.act]
  have e:dS ops a0 (updB π dF (updAll π di (qv ops v m)))=dS ops a0 vals:=by
   refine o9 _ _ fun j hj hd=>?_
   have hjs:=List.mem_range.1 hj
   by_cases hjm:j<m
   ·cases hq:iR ops j with
    | true =>
     rw[I.on j hjs hq (hall j hjm),oh dF _ j (fun y hy e=>by rw[<-e,Jq C hy] at hq;cases hq),kN di _ j]
     ·simp[qv,hjm,hq]
     ·intro x hx e
      obtain⟨oj,_,hj',_,aj,_⟩:=C.al x hx
      rw[e] at hj'
      simp[iR,hj',oH,aj] at hq
    | false =>
     have ho:ops[j]?=some ops[j]:=Array.getElem?_eq_getElem hjs
     rcases C.nq j _ hjm ho (by simpa[iR,ho] using hq) with⟨x,hx,hjk⟩|⟨y,hy,rfl⟩
     rotate_left
     ·rw[H5 dF _ C.bnd y hy]
      exact (I.bl y hy (hall _ hjm)).1.symm
     rcases hjk with rfl|rfl
     ·rw[oh dF _ _ (fun y hy e=>(gB C hx hy).1 e.symm),Aj di _ C.nd x hx]
      exact (I.al x hx (hall _ hjm)).1.symm
     ·obtain⟨_,ok,_,hk,_,_,_,_,_,dk,_⟩:=C.al x hx
      exact absurd (by simp[dG,hk,dk]) hd
   ·rw[I.off j (I.main j (by omega)),oh dF _ j (fun y hy e=>by have:=(C.bl y hy).1;omega),kN di _ j]
    ·simp[qv,hjm]
    ·intro x hx e
     have:=(C.XM x hx).1
     omega
  rw[<-e]
  exact this
 ·intro y hy
  obtain⟨_,o,ho,_,_,dy,_⟩:=C.bl y hy
  refine⟨?_,(Array.getElem?_eq_some_iff.1 ho).1,by simp[dG,ho,dy]⟩
  rw[kN di _ _ (fun x hx=>(gB C hx hy).1)]
  simp[qv,Jq C hy]
 ·intro x hx
  obtain⟨oj,_,hj,_,aj,_,dj,_⟩:=C.al x hx
  refine⟨?_,(Array.getElem?_eq_some_iff.1 hj).1,by simp[dG,hj,dj]⟩
  simp[qv,iR,hj,oH,aj]
theorem Mc (C:iq ops m di dF):∀ (tl:List Oper) (k:Nat) (listed:Array Bool) (a:Act) (W:World) (fuel:Nat),m<=k->(∀i,tl[i]?=ops[k+i]?)->listed.size=ops.size ->
  (∀j,listed.getD j false=true↔(j<k/\j<ops.size))->tl.length<=fuel->wpList P ops Q tl a W->wpAny P .any ops Q fuel listed a W
 | [],k,listed,a,W,fuel,_,ht,hs,hl,_,h=>by
  have hnone:ops[k]?=none:=by simpa using (ht 0).symm
  have hkn:ops.size<=k:=by simpa using hnone
  have hr:Region.ready .any ops listed=[]:=by
   cases hc:Region.ready .any ops listed with
   | nil=>rfl
   | cons i rest =>
    have hi:i∈Region.ready .any ops listed:=by rw[hc];simp
    have h1:=gX hi
    have h2:=(hl i).2 ⟨by omega,h1.1⟩
    have hs':i<listed.size:=by rw[hs];exact h1.1
    have h3:=h1.2
    simp[hs'] at h2 h3
    rw[h2] at h3
    cases h3
  cases fuel with
  | zero=>exact⟨hr,h⟩
  | succ f=>exact⟨fun _=>h,fun i hi=>by rw[hr] at hi;cases hi⟩
 | o::tl,k,listed,a,W,0,_,_,_,_,hf,_=>by simp at hf
 | o::tl,k,listed,a,W,fuel+1,hmk,ht,hs,hl,hf,h=>by
  have h0:ops[k]?=some o:=by simpa using (ht 0).symm
  have hk:k<ops.size:=(Array.getElem?_eq_some_iff.1 h0).1
  have vZ:listed.getD k false=false:=by
   cases hc:listed.getD k false with
   | false=>rfl
   | true=>have:=(hl k).1 hc;omega
  have hks:k<listed.size:=by omega
  have hkr:k∈Region.ready .any ops listed:=by
   refine mem_ready.2 ⟨by simp[hks] at vZ ⊢;exact vZ,o,h0,fun e he hb=>?_⟩
   have:=C.lex k o e h0 he hb
   exact (hl e.on).2 ⟨this,by omega⟩
  refine⟨fun hn=>(by rw[hn] at hkr;cases hkr),fun i hi=>?_⟩
  have hil:=gX hi
  have hik:i=k:=by
   have BZ:listed.getD i false=false:=by
    have his:i<listed.size:=by omega
    have:=hil.2
    simp[his] at this ⊢
    exact this
   rcases Nat.lt_trichotomy i k with h1|h1|h1
   ·rw[(hl i).2 ⟨h1,hil.1⟩] at BZ
    cases BZ
   ·exact h1
   ·obtain⟨f,hf⟩:=C.tl i _ (by omega) (Array.getElem?_eq_getElem hil.1) k h1
    have:=jL (fun a b ha hb=>(hl b).2 (by have:=(hl a).1 ha;have:=lS C hb;omega)) f (.inl hi) hf
    rw[vZ] at this
    cases this
  subst hik
  have next:∀a' W',wpList P ops Q tl a' W'->wpAny P .any ops Q fuel (listed.setIfInBounds i true) a' W':=fun a' W' h'=>by
   refine Mc C tl (i+1) _ a' W' fuel (by omega) (fun q=>by have:=ht (q+1);simpa[Nat.add_assoc,Nat.add_comm 1 q] using this) (by simp[hs]) ?_ (by simpa using hf) h'
   intro j
   by_cases hji:i=j
   ·subst hji
    rw[dX hks]
    simp[hk]
   ·rw[ai hji,hl j]
    omega
  unfold wpOp
  simp only[h0]
  unfold wpList at h
  by_cases hw:Region.wanted o (yielded ops a.tmps)=true
  ·rw[if_pos hw] at h ⊢
   exact h.imp (Oper.wp_mono next) id
  ·rw[if_neg hw] at h ⊢
   exact next _ _ h
end
section
variable {P:Program} {ops:Array Oper} {w0:World} {a0:Act} {m:Nat} {di:List AL} {dF:List BL} {v:Nat->Value} {af:Act} {Q:Exit->Act->World->Prop}
theorem Grew.heap {w w':World}(h:Grew w w'){k:Nat}(hk:k<w.heap.size):w'.heap[k]?=w.heap[k]?:=h.below.block k hk
theorem Ve (a:Act)(d:Option Tmp)(u:Value):(a.put d u).tmps.size=a.tmps.size:=by cases d<;>simp[Act.put]
theorem BJ {vals:Nat->Option Value}:∀ (l:List Nat) (a:Act),(putsOf ops vals l a).tmps.size=a.tmps.size
 | [],_=>rfl
 | k::l,a=>by
  unfold putsOf
  rw[BJ l]
  cases vals k with
  | none=>rfl
  | some u=>exact Ve _ _ _
theorem Aa (hD:Distinct ops){vals:Nat->Option Value}{j:Nat}{d:Tmp}{u:Value}(hj:j<ops.size)(hd:dG ops j=some d)(hu:vals j=some u)(hs:d<a0.tmps.size):(dS ops a0 vals).eval (.tmp d)=u:=by
 have e:vals=upd (fun k=>if k=j then none else vals k) j u:=by
  funext k
  unfold upd
  by_cases hk:k=j
  ·subst hk;simp[hu]
  ·simp[hk]
 rw[e,pO hD (by simp) hj,hd]
 have hsz:d<(dS ops a0 fun k=>if k=j then none else vals k).tmps.size:=by unfold dS;rw[BJ];exact hs
 simp[Act.eval,Act.put,hsz]
theorem LY:∀ {dF:List BL},(dF.map (·.j)).Nodup->∀ {x y:BL},x∈dF->y∈dF->x.j=y.j->x=y
 | [],_,_,_,hx,_,_=>by cases hx
 | z::dF,h,x,y,hx,hy,e=>by
  rw[List.map_cons,List.nodup_cons] at h
  rcases List.mem_cons.1 hx with hx1|hx1<;>rcases List.mem_cons.1 hy with hy1|hy1
  ·rw[hx1,hy1]
  ·exact (h.1 (List.mem_map.2 ⟨y,hy1,by rw[<-e,hx1]⟩)).elim
  ·exact (h.1 (List.mem_map.2 ⟨x,hx1,by rw[e,hy1]⟩)).elim
  ·exact LY h.2 hx1 hy1 e
theorem ZZ (C:iq ops m di dF)(hmn:m<=ops.size)(tl:List Oper)(htl:∀i,tl[i]?=ops[m+i]?)(hsl:∀x∈di,x.d<a0.tmps.size)(hZ:qI P di)(hS:ja ops af di)(Je:af=dS ops a0 (qv ops v m))
  (hv:∀i o,i<m->ops[i]?=some o->oH o=true->YS P ops w0 o (v i) (dS ops a0 (qv ops v i))) (hL:nT P ops af dF) (hQ:∀ps qs W,Grew w0 W->nD ops w0 W af di ps->jS w0 W af dF qs->wpList P ops Q tl (putB dF qs (putAll di ps af)) W) :
  ∀ (fuel:Nat) (vals:Nat->Option Value) (π:Nat->Nat) (listed:Array Bool) (a:Act) (W:World),Inv P ops m w0 a0 di dF v af vals π listed a W->cnt (fun j=>listed.getD j false) ops.size<=fuel ->
   wpAny P .any ops Q fuel listed a W:=by
 have WA:tl.length=ops.size-m:=by
  have h1:∀i,i<tl.length↔m+i<ops.size:=fun i=>by
   have:=htl i
   constructor
   ·intro h
    rw[List.getElem?_eq_getElem h] at this
    exact (Array.getElem?_eq_some_iff.1 this.symm).1
   ·intro h
    rw[Array.getElem?_eq_getElem h] at this
    exact (List.getElem?_eq_some_iff.1 this).1
  have h2:=h1 (ops.size-m)
  have h3:=h1 tl.length
  by_cases hlt:tl.length<ops.size-m
  ·omega
  ·by_cases hgt:ops.size-m<tl.length<;>omega
 have hfin:∀ (fuel:Nat) (vals:Nat->Option Value) (π:Nat->Nat) (listed:Array Bool) (a:Act) (W:World),Inv P ops m w0 a0 di dF v af vals π listed a W->cnt (fun j=>listed.getD j false) ops.size<=fuel ->
   (∀j,j<m->listed.getD j false=true)->wpAny P .any ops Q fuel listed a W:=by
  intro fuel vals π listed a W I hc hall
  have hlist:∀j,listed.getD j false=true↔(j<m/\j<ops.size):=fun j=>by
   by_cases hj:j<m
   ·simp only[hall j hj,hj,true_and,true_iff]
    omega
   ·have:=I.main j (by omega)
    rw[this]
    simp[hj]
  refine Mc C tl m listed a W fuel (Nat.le_refl _) htl I.size hlist ?_ (zC C I hall Je hQ)
  rw[WA]
  have:∀n,m<=n->cnt (fun j=>listed.getD j false) n=n-m:=by
   intro n
   induction n with
   | zero=>intro h;simp[cnt]
   | succ n ih =>
    intro h
    unfold cnt
    by_cases hn:m<=n
    ·rw[ih hn,I.main n hn]
     simp
     omega
    ·have hmn:m=n+1:=by omega
     rw[if_pos (hall n (by omega))]
     have hz:∀q,q<=n->cnt (fun j=>listed.getD j false) q=0:=by
      intro q
      induction q with
      | zero=>intro _;rfl
      | succ q ihq=>intro hq;unfold cnt;rw[ihq (by omega),if_pos (hall q (by omega))]
     rw[hz n (Nat.le_refl _)]
     omega
  rw[this _ hmn] at hc
  exact hc
 intro fuel
 induction fuel with
 | zero =>
  intro vals π listed a W I hc
  have hall:=wM _ (by omega:cnt (fun j=>listed.getD j false) ops.size=0)
  exact hfin 0 vals π listed a W I hc fun j hj=>hall j (by omega)
 | succ fuel ih =>
  intro vals π listed a W I hc
  by_cases hall:∀j,j<m->listed.getD j false=true
  ·exact hfin _ vals π listed a W I hc hall
  have hmain:∀i,i∈Region.ready .any ops listed->i<m:=fun i hr=>by
   rcases Nat.lt_or_ge i m with h|h
   ·exact h
   ·exact (hall fun j hj=>(C.tl i _ h (Array.getElem?_eq_getElem (gX hr).1) j (by omega)).elim fun f hf=>jL I.down f (.inl hr) hf).elim
  refine⟨fun h0=>?_,fun i hr=>?_⟩
  ·exfalso
   refine hall fun j=>?_
   induction j using Nat.strongRecOn with
   | ind k ihk =>
    intro hk
    by_cases hl:listed.getD k false=true
    ·exact hl
    ·exfalso
     have hkn:k<ops.size:=by omega
     have:k∈Region.ready .any ops listed:=by
      refine mem_ready.2 ⟨?_,ops[k],Array.getElem?_eq_getElem hkn,fun e he hb=>?_⟩
      ·have hs:k<listed.size:=by rw[I.size];exact hkn
       simp[hs] at hl ⊢
       exact hl
      ·have hlt:=C.lex k _ e (Array.getElem?_eq_getElem hkn) he hb
       exact ihk e.on hlt (by omega)
     rw[h0] at this
     cases this
  have him:=hmain i hr
  have hlt:=(gX hr).1
  have hoff:=mJ I hr
  have his:i<listed.size:=by rw[I.size];exact hlt
  have hcnt:cnt (fun j=>(listed.setIfInBounds i true).getD j false) ops.size<=fuel:=by
   have:=zS (f:=fun j=>listed.getD j false) (g:=fun j=>(listed.setIfInBounds i true).getD j false) hoff (dX his) (fun j hj=>ai (fun e=>hj e.symm)) ops.size hlt
   omega
  have ho:ops[i]?=some ops[i]:=Array.getElem?_eq_getElem hlt
  generalize ops[i]=o at ho
  unfold wpOp
  simp only[ho]
  cases hq:oH o with
  | true =>
   have hag:=agree C I him hr ho hq
   have hex:execOp a.eval o=execOp (dS ops a0 (qv ops v i)).eval o:=by rw[I.act];exact kV (C.y9 i o · · ho) hag
   have hwa:Region.wanted o (yielded ops a.tmps)=Region.wanted o (yielded ops (dS ops a0 (qv ops v i)).tmps):=by rw[I.act];exact pI hag
   have hqa:iR ops i=true:=by simp[iR,ho,hq]
   have step:∀W',Grew W W'->wpAny P .any ops Q fuel (listed.setIfInBounds i true) (a.put o.dst (v i)) W':=by
    intro W' hg
    have hnb:∀y∈dF,i≠y.j:=by
     rintro y hy rfl
     have:=Jq C hy
     rw[this] at hqa
     cases hqa
    refine ih _ π _ _ _ (gY C I him hr ho (fun _=>rfl) (I.grew.trans hg) ?_ ?_ ?_ ?_) hcnt
    rotate_left
    rotate_left
    ·intro y hy hl
     rw[ai (hnb y hy)] at hl
     obtain⟨h1,h2,h3⟩:=I.bl y hy hl
     refine⟨by unfold upd;rw[if_neg (fun e=>hnb y hy e.symm)];exact h1,h2,?_⟩
     rw[hg.heap (Array.getElem?_eq_some_iff.1 h3).1]
     exact h3
    ·intro x hx y hy hl hl'
     rw[ai (hnb y hy)] at hl'
     by_cases hix:i=x.j
     ·obtain⟨oj,ok,hj,hk,aj,_⟩:=C.al x hx
      rw[<-hix,ho] at hj
      injection hj with hj
      rw[hj] at hq
      simp[oH,aj] at hq
     ·rw[ai hix] at hl
      exact I.inb x hx y hy hl hl'
    ·intro x hx hl
     obtain⟨oj,ok,hj,hk,aj,_,_,ak,_,_,hb⟩:=C.al x hx
     have hji:i≠x.j:=by
      rintro rfl
      rw[ho] at hj
      injection hj with hj
      rw[hj] at hq
      simp[oH,aj] at hq
     have hki:i≠x.k:=by
      rintro rfl
      rw[ho] at hk
      injection hk with hk
      rw[hk] at hq
      simp[oH,ak] at hq
     rw[ai hji] at hl
     rw[ai hki]
     obtain⟨h1,h2,h3⟩:=I.al x hx hl
     refine⟨by unfold upd;rw[if_neg (fun e=>hji e.symm)];exact h1,h2,?_⟩
     rw[hg.heap (Array.getElem?_eq_some_iff.1 h3).1]
     exact h3
    ·intro x hx y hy hl hl' e
     have hne:∀z∈di,i≠z.j:=by
      intro z hz e'
      obtain⟨oj,_,hj,_,aj,_⟩:=C.al z hz
      rw[<-e',ho] at hj
      injection hj with hj
      rw[hj] at hq
      simp[oH,aj] at hq
     rw[ai (hne x hx)] at hl
     rw[ai (hne y hy)] at hl'
     exact I.inj x hx y hy hl hl' e
   rw[hwa]
   rcases hv i o him ho hq with⟨hw,hst⟩|⟨hw,hu⟩
   ·rw[if_pos hw]
    left
    obtain⟨p,hp⟩:=I.grew
    have hs:=hst p
    rw[<-hp,<-hex] at hs
    unfold Oper.wp
    generalize (execOp a.eval o).run P W=r at hs
    cases r with
    | ok n w' =>
     cases n<;>simp only[steadyUpon] at hs<;>simp only[Oper.upon]
     case value u=>obtain⟨rfl,rfl⟩:=hs;exact step _ (Grew.refl _)
     case skip=>obtain⟨rfl,e⟩:=hs;rw[<-e];exact step _ (Grew.refl _)
     case enter f args =>
      obtain⟨rfl,hc⟩:=hs
      exact hc.mono fun e w'' ⟨he,hg⟩=>by subst he;exact step _ hg
    | halt x w'=>simp only[steadyUpon] at hs
   ·rw[if_neg (by rw[hw];simp),<-hu]
    exact step _ (Grew.refl _)
  | false =>
   rcases C.nq i o him ho hq with⟨x,hx,hjk⟩|⟨y,hy,rfl⟩
   rotate_left
   ·
    obtain⟨_,ob,hob,_,gb,db,hlk⟩:=C.bl y hy
    obtain rfl:ob=o:=by rw[hob] at ho;injection ho
    rw[if_pos (by simp[Region.wanted,gb])]
    have hex:execOp a.eval ob=execOp af.eval ob:=by
     rw[I.act,Je]
     refine kV (C.y9 y.j ob · · hob) fun t ht j hj hd=>?_
     obtain⟨hbj,hqj⟩:=hlk t ht j hj hd
     rw[I.on j hj hqj (dD hr hbj)]
     have hjm:j<m:=Nat.lt_trans (lS C hbj) him
     simp[qv,hjm,hqj]
    left
    unfold Oper.wp
    rw[hex,hL y hy ob hob W]
    simp only[Oper.upon]
    refine ih _ (fun n=>if n=y.j then W.heap.size else π n) _ _ _ (gY C I him hr hob (fun h=>by simp[iR,hob,hq] at h) (I.grew.alloc _) ?_ ?_ ?_ ?_) hcnt
    ·intro x hx hl
     obtain⟨n1,n2⟩:=gB C hx hy
     rw[ai (fun e=>n1 e.symm)] at hl
     rw[ai (fun e=>n2 e.symm)]
     obtain⟨h1,h2,h3⟩:=I.al x hx hl
     refine⟨by unfold upd;rw[if_neg n1,if_neg n1];exact h1,by rw[if_neg n1];exact h2,?_⟩
     rw[if_neg n1,heap_alloc_old W _ (Array.getElem?_eq_some_iff.1 h3).1]
     exact h3
    ·intro x hx z hz hl hl' e
     have n1:=(gB C hx hy).1
     have n2:=(gB C hz hy).1
     rw[ai (fun e=>n1 e.symm)] at hl
     rw[ai (fun e=>n2 e.symm)] at hl'
     rw[if_neg n1,if_neg n2] at e
     exact I.inj x hx z hz hl hl' e
    ·intro z hz hl
     by_cases rP:z.j=y.j
     ·obtain rfl:=LY C.bnd hz hy rP
      refine⟨by unfold upd;simp,?_,?_⟩
      ·rw[if_pos rfl]
       exact I.grew.below.size
      ·rw[if_pos rfl]
       exact heap_alloc_new W _
     ·rw[ai (fun e=>rP e.symm)] at hl
      obtain⟨h1,h2,h3⟩:=I.bl z hz hl
      refine⟨by unfold upd;rw[if_neg rP,if_neg rP];exact h1,by rw[if_neg rP];exact h2,?_⟩
      rw[if_neg rP,heap_alloc_old W _ (Array.getElem?_eq_some_iff.1 h3).1]
      exact h3
    ·intro x hx z hz hl hl'
     have n1:=(gB C hx hy).1
     rw[ai (fun e=>n1 e.symm)] at hl
     rw[if_neg n1]
     by_cases rP:z.j=y.j
     ·rw[if_pos rP]
      have:=(Array.getElem?_eq_some_iff.1 (I.al x hx hl).2.2).1
      omega
     ·rw[if_neg rP]
      rw[ai (fun e=>rP e.symm)] at hl'
      exact I.inb x hx z hz hl hl'
   obtain⟨oj,ok,hj,hk,aj,gj,dj,ak,gk,dk,hb⟩:=C.al x hx
   rcases hjk with rfl|rfl
   ·
    obtain rfl:oj=o:=by rw[hj] at ho;injection ho
    rw[if_pos (by simp[Region.wanted,gj])]
    left
    unfold Oper.wp
    rw[o8 aj ((hZ x hx).1 W)]
    simp only[Oper.upon]
    have hxk:listed.getD x.k false=false:=by
     cases h:listed.getD x.k false with
     | false=>rfl
     | true=>rw[I.down _ _ h hb] at hoff;cases hoff
    refine ih _ (fun n=>if n=x.j then W.heap.size else π n) _ _ _ (gY C I him hr hj (fun h=>by simp[iR,hj,hq] at h) (I.grew.alloc _) ?_ ?_ ?_ ?_) hcnt
    rotate_left
    rotate_left
    ·intro z hz hl
     have n1:=(gB C hx hz).1
     rw[ai n1] at hl
     obtain⟨h1,h2,h3⟩:=I.bl z hz hl
     refine⟨by unfold upd;rw[if_neg (fun e=>n1 e.symm),if_neg (fun e=>n1 e.symm)];exact h1,by rw[if_neg (fun e=>n1 e.symm)];exact h2,?_⟩
     rw[if_neg (fun e=>n1 e.symm),heap_alloc_old W _ (Array.getElem?_eq_some_iff.1 h3).1]
     exact h3
    ·intro y hy z hz hl hl'
     have n1:=(gB C hx hz).1
     rw[ai n1] at hl'
     have n3:¬ z.j=x.j:=fun e=>n1 e.symm
     by_cases hyx:y.j=x.j
     ·rw[if_pos hyx,if_neg n3]
      have:=(Array.getElem?_eq_some_iff.1 (I.bl z hz hl').2.2).1
      omega
     ·rw[if_neg hyx,if_neg n3]
      rw[ai (fun e=>hyx e.symm)] at hl
      exact I.inb y hy z hz hl hl'
    ·intro y hy hl
     rw[ai (jW C hx hy)]
     by_cases hyx:y.j=x.j
     ·obtain rfl:=wQ C.nd hy hx hyx
      rw[hxk]
      refine⟨by unfold upd;simp,?_,?_⟩
      ·rw[if_pos rfl]
       exact I.grew.below.size
      ·rw[if_pos rfl]
       simpa using heap_alloc_new W (.cells y.z.cells y.T)
     ·rw[ai (fun e=>hyx e.symm)] at hl
      obtain⟨h1,h2,h3⟩:=I.al y hy hl
      refine⟨by unfold upd;rw[if_neg hyx,if_neg hyx];exact h1,by rw[if_neg hyx];exact h2,?_⟩
      rw[if_neg hyx,heap_alloc_old W _ (Array.getElem?_eq_some_iff.1 h3).1]
      exact h3
    ·intro y hy z hz hl hl' e
     by_cases hyx:y.j=x.j<;>by_cases hzx:z.j=x.j
     ·rw[hyx,hzx]
     ·exfalso
      rw[if_pos hyx,if_neg hzx] at e
      rw[ai (fun e=>hzx e.symm)] at hl'
      have:=(Array.getElem?_eq_some_iff.1 (I.al z hz hl').2.2).1
      omega
     ·exfalso
      rw[if_neg hyx,if_pos hzx] at e
      rw[ai (fun e=>hyx e.symm)] at hl
      have:=(Array.getElem?_eq_some_iff.1 (I.al y hy hl).2.2).1
      omega
     ·rw[if_neg hyx,if_neg hzx] at e
      rw[ai (fun e=>hyx e.symm)] at hl
      rw[ai (fun e=>hzx e.symm)] at hl'
      exact I.inj y hy z hz hl hl' e
   ·
    obtain rfl:ok=o:=by rw[hk] at ho;injection ho
    have hjl:listed.getD x.j false=true:=dD hr hb
    obtain⟨h1,h2,h3⟩:=I.al x hx hjl
    rw[hoff] at h3
    simp only[Bool.false_eq_true,if_false] at h3
    have hjs:x.j<ops.size:=(Array.getElem?_eq_some_iff.1 hj).1
    have Oe:a.eval (.tmp x.d)=.pointer (some ⟨π x.j,0,none⟩):=by
     rw[I.act]
     exact Aa C.Lr hjs (by simp[dG,hj,dj]) h1 (hsl x hx)
    have hval:a.eval (bV ops x.k)=af.eval (bV ops x.k):=by
     rw[I.act,Je]
     refine qH fun t ht j hjn hd=>?_
     obtain⟨hbj,hqj⟩:=C.st x hx t ht j hjn hd
     rw[I.on j hjn hqj (dD hr hbj)]
     have hjm:j<m:=Nat.lt_trans (lS C hbj) him
     simp[qv,hjm,hqj]
    rw[if_pos (by simp[Region.wanted,gk])]
    left
    unfold Oper.wp
    rw[o7 ak Oe hval ((hZ x hx).2 W) (hS x hx).1 (hS x hx).2 h3]
    simp only[Oper.upon]
    refine ih _ π _ _ _ (gY C I him hr hk (fun h=>by simp[iR,hk,hq] at h) (I.grew.setRow h2 _) ?_ ?_ ?_ ?_) hcnt
    rotate_left
    rotate_left
    ·intro z hz hl
     obtain⟨n1,n2⟩:=gB C hx hz
     rw[ai n2] at hl
     obtain⟨g1,g2,g3⟩:=I.bl z hz hl
     refine⟨by unfold upd;rw[if_neg (fun e=>n2 e.symm)];exact g1,g2,?_⟩
     rw[gZ (I.inb x hx z hz hjl hl)]
     exact g3
    ·intro y hy z hz hl hl'
     rw[ai (gB C hx hz).2] at hl'
     rw[ai (fun e=>jW C hy hx e.symm)] at hl
     exact I.inb y hy z hz hl hl'
    ·intro y hy hl
     rw[ai (fun e=>jW C hy hx e.symm)] at hl
     obtain⟨g1,g2,g3⟩:=I.al y hy hl
     refine⟨by unfold upd;rw[if_neg (jW C hy hx)];exact g1,g2,?_⟩
     by_cases hyx:y.j=x.j
     ·obtain rfl:=wQ C.nd hy hx hyx
      rw[dX his,if_pos rfl]
      exact lC h3
     ·have hk':x.k≠y.k:=fun e=>hyx (by rw[Me C hy hx e.symm])
      rw[ai hk',gZ (fun e=>hyx (I.inj y hy x hx hl hjl e.symm))]
      exact g3
    ·intro y hy z hz hl hl' e
     rw[ai (fun e=>jW C hy hx e.symm)] at hl
     rw[ai (fun e=>jW C hz hx e.symm)] at hl'
     exact I.inj y hy z hz hl hl' e
theorem qB {w W:World}{a:Act}:∀ (di:List AL) (ps:List Nat),nD ops w.drew W a di ps->nD ops w W a di ps
 | [],_,h=>h
 | _::di,_,⟨p,ps',h1,h2,h3,h4,h5⟩=>⟨p,ps',h1,h2,h3,h4,qB di ps' h5⟩
theorem oJ {w W:World}{a:Act}:∀ (dF:List BL) (ps:List Nat),jS w.drew W a dF ps->jS w W a dF ps
 | [],_,h=>h
 | _::dF,_,⟨p,ps',h1,h2,h3,h5⟩=>⟨p,ps',h1,h2,h3,oJ dF ps' h5⟩
theorem cnt_le (f:Nat->Bool):∀n,cnt f n<=n
 | 0=>Nat.le_refl _
 | n+1=>by unfold cnt;have:=cnt_le f n;split<;>omega
theorem lU {w0 w:World}{l tl:List Oper}{a:Act}(h:∀n os,wpList P l.toArray Q tl a (Sort.grow (dr w n) os)):wpSteady P l.toArray w0 (fun af=>ja l.toArray af []/\nT P l.toArray af []/\∀ps qs W,Grew w W->nD l.toArray w W af [] ps->jS w W af [] qs->wpList P l.toArray Q tl (putB [] qs (putAll [] ps af)) W) [] a:=by
 refine dZ ⟨(fun _ h=>by cases h),(fun _ h=>by cases h),?_⟩
 rintro ps qs W ⟨⟨n,os⟩,rfl⟩ hF hB
 obtain rfl:ps=[]:=hF
 obtain rfl:qs=[]:=hB
 exact h n os
theorem ay {id:Nat}{w:World}{l qs tl:List Oper}(m:Nat)(di:List AL)(dF:List BL)(hm:P.follows .mixedOrders=true)(hB:(Vd l.toArray m di dF&&decide (m<=l.length))=true:=by kernel_rfl)(Zc:(l.take m).filter oH=qs:=by simp only[List.take,List.filter,oH];rfl)(htl:l.drop m=tl:=by simp only[List.drop];rfl)(hZ:qI P di:=by exact qI.nil)(hsl:∀x∈di,x.d<a0.tmps.size:=by simp)
  (h:wpSteady P l.toArray w.drew (fun af=>ja l.toArray af di/\nT P l.toArray af dF/\∀ps qs W,Grew w W->nD l.toArray w W af di ps->jS w W af dF qs->wpList P l.toArray Q tl (putB dF qs (putAll di ps af)) W) qs a0):(Code.region id l.toArray true).wp P Q a0 w:=by
 rw[Bool.and_eq_true,decide_eq_true_eq] at hB
 have C:=tC hB.1
 have hml:=hB.2
 subst Zc
 subst htl
 have e0:dS l.toArray a0 (qv l.toArray (fun _=>undef) 0)=a0:=by
  have:∀ (ks:List Nat) (a:Act),putsOf l.toArray (qv l.toArray (fun _=>undef) 0) ks a=a:=by
   intro ks
   induction ks with
   | nil=>intro a;rfl
   | cons k ks ih=>intro a;unfold putsOf;simp only[qv,Nat.not_lt_zero,false_and,if_false];exact ih a
  exact this _ _
 rw[<-e0] at h
 have htk:∀i,i<(l.take m).length->(l.take m)[i]?=l.toArray[0+i]?:=fun i hi=>by
  rw[List.length_take] at hi
  rw[List.getElem?_take_of_lt (by omega)]
  simp
 obtain⟨v,_,hv,hS,hL,hQ⟩:=kX C.Lr (l.take m) 0 _ htk h
 have hlen:(l.take m).length=m:=by rw[List.length_take];omega
 simp only[Nat.zero_add,hlen] at hv hS hL hQ
 have hl0:∀j,(Array.replicate l.toArray.size false).getD j false=false:=by intro j;by_cases h:j<l.length<;>simp[h]
 refine wp_region_any hm (ZZ (v:=v) C (by simpa using hml) (l.drop m) (fun i=>by simp) hsl hZ hS rfl (fun i o him ho hq=>hv i o (by rw[List.getElem?_take_of_lt him];simpa using ho) hq) hL (fun ps qs W hg hf hb=>hQ ps qs W ((Grew.drew (Grew.refl w)).trans hg) (qB di ps hf) (oJ dF qs hb)) _ (fun _=>none) (fun _=>0) _ _ _ ?_ ?_)
 ·refine⟨by simp,fun j _=>hl0 j,?_,fun _ _=>rfl,?_,Grew.refl _,?_,?_,?_,?_,?_⟩
  ·have:∀ (ks:List Nat) (a:Act),putsOf l.toArray (fun _=>none) ks a=a:=by
    intro ks
    induction ks with
    | nil=>intro a;rfl
    | cons k ks ih=>intro a;unfold putsOf;exact ih a
   exact (this _ _).symm
  ·intro j _ _ h
   rw[hl0] at h
   cases h
  ·intro k j h
   rw[hl0] at h
   cases h
  ·intro x _ h
   rw[hl0] at h
   cases h
  ·intro x _ y _ h
   rw[hl0] at h
   cases h
  ·intro x _ h
   rw[hl0] at h
   cases h
  ·intro x _ y _ h
   rw[hl0] at h
   cases h
 ·exact cnt_le _ _
theorem qI.nil:qI P []:=fun _ h=>by cases h
theorem qI.cons {x:AL}(h1:∀W,(zeroValue x.T).run P W=.ok x.z W)(h2:∀W,(sizeOf x.T).run P W=.ok x.z.cells.size W)(h:qI P di):qI P (x::di):=by
 intro y hy
 rcases List.mem_cons.1 hy with rfl|hy
 ·exact⟨h1,h2⟩
 ·exact h y hy
theorem nT.nil:nT P ops af []:=fun _ h=>by cases h
theorem nT.cons {y:BL}{o:Oper}(ho:ops[y.j]?=some o)(h1:∀W:World,(execOp af.eval o).run P W=.ok (.value (.slice (some ⟨W.heap.size,0,none⟩) y.n y.n)) (W.alloc (.cells (y.cs af) y.e)))(h:nT P ops af dF):nT P ops af (y::dF):=by
 intro z hz
 rcases List.mem_cons.1 hz with rfl|hz
 ·intro o' ho' W
  rw[ho] at ho'
  injection ho' with ho'
  rw[<-ho']
  exact h1 W
 ·exact h z hz
theorem ja.nil:ja ops af []:=fun _ h=>by cases h
theorem ja.cons {x:AL}(h1:(af.eval (bV ops x.k)).cells.size=x.z.cells.size)(h2:∀u∈(af.eval (bV ops x.k)).cells.toList,u.oneCell'=true)(h:ja ops af di):ja ops af (x::di):=by
 intro y hy
 rcases List.mem_cons.1 hy with rfl|hy
 ·exact⟨h1,h2⟩
 ·exact h y hy
theorem ag {w:World}{p:Nat}{cs:Array Value}{T:TypeId}(h:w.heap[p]?=some (.cells cs T (0,0)))(i:Nat):w.cell? ⟨p,i,none⟩=cs[i]?:=cell_of_row w p i cs T (0,0) h
theorem bM {w:World}{p:Nat}{cs:Array Value}{T:TypeId}(h:w.heap[p]?=some (.cells cs T (0,0)))(i:Nat):w.frozen? ⟨p,i,none⟩=false:=by simp[World.frozen?,h]
theorem au {w:World}{p:Nat}{o:Obj}(h:w.heap[p]?=some o):p<w.heap.size:=(Array.getElem?_eq_some_iff.1 h).1
theorem iW {w w':World}(h:Grew w w'):∀b i,b<w.heap.size->w'.cell? ⟨b,i,none⟩=w.cell? ⟨b,i,none⟩:=fun b i hb=>h.below.cell (p:=⟨b,i,none⟩) hb
theorem jw {w w':World}(h:Grew w w'):∀b i,b<w.heap.size->w'.frozen? ⟨b,i,none⟩=w.frozen? ⟨b,i,none⟩:=fun b i hb=>h.below.frozen (p:=⟨b,i,none⟩) hb
theorem rH {w w':World}(h:Grew w w'):∀b,b<w.heap.size->(b<w'.heap.size)=True:=fun b hb=>by have:=h.below.size;simp;omega
end
end Go.Proofs.YtlkgjmnjhifehaaGreat
