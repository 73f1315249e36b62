/- Regions that draw, in a wide fence: settled operations ahead of all others; what is left is left in any order. Printed by bin/mk_regv.py. -/
import Derived.Test.YtlkgjmnjhifehaaGreatRegIn
set_option linter.unusedSimpArgs false
set_option linter.unusedVariables false
namespace Go.Proofs.YtlkgjmnjhifehaaGreat.V
open Go.RowKit Go.Sort Go.Proofs.YtlkgjmnjhifehaaGreat
def opOkV (ops:Array Oper)(m:Nat)(di:List AL)(dF:List BL)(k:Nat):Bool:=match ops[k]? with
 | some o=>(o.after.all fun e => !Region.binds .any e||decide (e.on<k)) &&
   ((List.range ops.size).all fun j=>j==k||(match o.dst,dG ops j with|some d,some e=>d != e|_,_=>true)) &&
   (if k<m then (if oH o then (o.looksAt ops).all (MZ ops k) else (di.any fun x=>x.j==k||x.k==k)||dF.any fun y=>y.j==k) else (List.range m).all fun j=>befT ops ops.size k j)
 | none=>true
def abN (ops:Array Oper)(m:Nat)(di:List AL)(dF:List BL):Bool:=Region.noSelect ops&&((List.range ops.size).all (opOkV ops m di dF))&&di.all (fun x=>FW ops x&&decide (x.j<m/\x.k<m))&&decide ((di.map (·.j)).Nodup)&&(dF.all (fun y=>ZT ops y&&decide (y.j<m))&&decide ((dF.map (·.j)).Nodup))
section
variable {P:Program} {ops:Array Oper} {w0:World} {a0:Act} {m:Nat} {di:List AL} {dF:List BL} {v:Nat->Value} {af:Act} {vals:Nat->Option Value} {π:Nat->Nat} {listed:Array Bool} {a:Act} {W:World}
structure iq (ops:Array Oper) (m:Nat) (di:List AL) (dF:List BL):Prop where
 y9:∀ (j:Nat) (o:Oper) cs b,ops[j]?=some o->o.op≠.select cs b
 lex:∀k o e,ops[k]?=some o->e∈o.after->Region.binds .any e=true->e.on<k
 Lr:Distinct ops
 q:∀k o,k<m->ops[k]?=some o->oH o=true->∀t,t∈o.looksAt ops->∀j,j<ops.size->dG ops j=some t->(Af ops k j=true/\iR ops j=true)\/Af ops j k=true
 nq:∀k o,k<m->ops[k]?=some o->oH o=false->(∃x∈di,x.j=k\/x.k=k)\/∃y∈dF,y.j=k
 al:∀x∈di,∃oj ok,ops[x.j]?=some oj/\ops[x.k]?=some ok/\oj.op=.alloc x.T/\oj.guard=none/\oj.dst=some x.d/\ok.op=.store x.T (.tmp x.d) (bV ops x.k)/\ok.guard=none/\ok.dst=none/\Af ops x.k x.j=true
 st:∀x∈di,∀t,bV ops x.k=.tmp t->∀j,j<ops.size->dG ops j=some t->Af ops x.k j=true/\iR ops j=true
 nd:(di.map (·.j)).Nodup
 tl:∀k o,m<=k->ops[k]?=some o->∀j,j<m->∃f,befT ops f k j=true
 XM:∀x∈di,x.j<m/\x.k<m
 bl:∀y∈dF,y.j<m/\∃o,ops[y.j]?=some o/\isBS o=true/\o.guard=none/\o.dst=some y.d/\∀t,t∈o.looksAt ops->∀j,j<ops.size->dG ops j=some t->Af ops y.j j=true/\iR ops j=true
 bnd:(dF.map (·.j)).Nodup
theorem tC (h:abN ops m di dF=true):iq ops m di dF:=by
 simp only[abN,Bool.and_eq_true,decide_eq_true_eq] at h
 obtain⟨⟨⟨⟨h1,h2⟩,h3⟩,h4⟩,h5,h6⟩:=h
 have hop:∀k o,ops[k]?=some o->opOkV ops m di dF k=true:=fun k o ho=>List.all_eq_true.1 h2 k (List.mem_range.2 (Array.getElem?_eq_some_iff.1 ho).1)
 have WY:∀x∈di,FW ops x=true/\x.j<m/\x.k<m:=fun x hx=>by have:=List.all_eq_true.1 h3 x hx;simpa using this
 have hal:∀x∈di,FW ops x=true:=fun x hx=>(WY x hx).1
 refine⟨fun j o cs b ho=>Region.noSelect_spec h1 j o cs b ho,?_,?_,?_,?_,?_,?_,h4,?_,fun x hx=>(WY x hx).2,?_,h6⟩
 ·intro k o e ho he hb
  have:=hop k o ho
  simp only[opOkV,ho,Bool.and_eq_true] at this
  have:=Array.all_eq_true_iff_forall_mem.1 this.1.1 e he
  simpa[hb] using this
 ·intro i j hij t hi hj
  cases ho:ops[i]? with
  | none=>simp[dG,ho] at hi
  | some o =>
   have:=hop i o ho
   simp only[opOkV,ho,Bool.and_eq_true] at this
   have hjs:j<ops.size:=by
    rcases Nat.lt_or_ge j ops.size with h|h
    ·exact h
    ·simp[dG,Array.getElem?_eq_none h] at hj
   have:=List.all_eq_true.1 this.1.2 j (List.mem_range.2 hjs)
   have hd:o.dst=some t:=by simpa[dG,ho] using hi
   simp[hd,hj] at this
   exact hij this.symm
 ·intro k o Qb ho hq t ht
  have:=hop k o ho
  simp only[opOkV,ho,Bool.and_eq_true,hq,if_true,if_pos Qb] at this
  exact BF (List.all_eq_true.1 this.2 t ht)
 ·intro k o Qb ho hq
  have:=hop k o ho
  simp only[opOkV,ho,Bool.and_eq_true,hq,if_pos Qb] at this
  have h7:=this.2
  simp only[Bool.false_eq_true,if_false,Bool.or_eq_true] at h7
  rcases h7 with h7|h7
  ·obtain⟨x,hx,hk⟩:=List.any_eq_true.1 h7
   exact .inl ⟨x,hx,by simpa using hk⟩
  ·obtain⟨y,hy,hk⟩:=List.any_eq_true.1 h7
   exact .inr ⟨y,hy,by simpa using hk⟩
 ·intro x hx
  have:=hal x hx
  unfold FW at this
  cases hj:ops[x.j]? with
  | none=>simp[hj] at this
  | some oj =>
   cases hk:ops[x.k]? with
   | none=>simp[hj,hk] at this
   | some ok =>
    simp only[hj,hk,Bool.and_eq_true] at this
    obtain⟨⟨⟨⟨⟨⟨⟨a1,a2⟩,a3⟩,a4⟩,a5⟩,a6⟩,a7⟩,a8⟩:=this
    refine⟨oj,ok,rfl,rfl,?_,by simpa using a2,by simpa using a3,?_,by simpa using a5,by simpa using a6,a7⟩
    ·unfold isAlloc at a1
     split at a1
     ·rename_i U hU;rw[hU];simp at a1;rw[a1]
     ·cases a1
    ·unfold isStoreTo at a4
     split at a4
     ·rename_i U e y hU
      simp at a4
      have:bV ops x.k=y:=by simp[bV,hk,hU]
      rw[hU,a4.1,a4.2,this]
     ·cases a4
 ·intro x hx t ht
  have:=hal x hx
  unfold FW at this
  cases hj:ops[x.j]? with
  | none=>simp[hj] at this
  | some oj =>
   cases hk:ops[x.k]? with
   | none=>simp[hj,hk] at this
   | some ok =>
    simp only[hj,hk,Bool.and_eq_true] at this
    have h8:=this.2
    rw[ht] at h8
    exact tN h8
 ·intro k o hmk ho j hj
  have:=hop k o ho
  simp only[opOkV,ho,Bool.and_eq_true,if_neg (Nat.not_lt.2 hmk)] at this
  exact⟨_,List.all_eq_true.1 this.2 j (List.mem_range.2 hj)⟩
 ·intro y hy
  have h7:=List.all_eq_true.1 h5 y hy
  rw[Bool.and_eq_true,decide_eq_true_eq] at h7
  refine⟨h7.2,?_⟩
  have h8:=h7.1
  unfold ZT at h8
  cases ho:ops[y.j]? with
  | none=>simp[ho] at h8
  | some o =>
   simp only[ho,Bool.and_eq_true] at h8
   exact⟨o,rfl,h8.1.1.1,by simpa using h8.1.1.2,by simpa using h8.1.2,fun t ht=>tN (List.all_eq_true.1 h8.2 t ht)⟩
theorem lS (C:iq ops m di dF){i j:Nat}(hb:Af ops i j=true):j<i:=by
 unfold Af at hb
 cases ho:ops[i]? with
 | none=>simp[ho] at hb
 | some o =>
  simp only[ho] at hb
  obtain⟨e,he1,he2⟩:=Array.any_eq_true.1 hb
  simp at he2
  have:=C.lex i o _ ho (Array.getElem_mem he1) he2.1
  omega
theorem agree (C:iq ops m di dF)(I:Inv P ops m w0 a0 di dF v af vals π listed a W){i:Nat}{o:Oper}(him:i<m)(hr:i∈Region.ready .any ops listed)(ho:ops[i]?=some o)(hq:oH o=true) :
  ∀t,t∈o.looksAt ops->∀j,j<ops.size->dG ops j=some t->vals j=qv ops v i j:=by
 intro t ht j hj hd
 rcases C.q i o him ho hq t ht j hj hd with⟨hb,hqj⟩|hb
 ·rw[I.on j hj hqj (dD hr hb)]
  simp[qv,lS C hb,hqj]
 ·have hoff:listed.getD j false=false:=by
   cases hc:listed.getD j false with
   | false=>rfl
   | true=>have h1:=I.down j i hc hb;rw[mJ I hr] at h1;cases h1
  rw[I.off j hoff]
  have:=lS C hb
  simp[qv,show ¬ j<i by omega]
theorem gY (C:iq ops m di dF)(I:Inv P ops m w0 a0 di dF v af vals π listed a W){i:Nat}{o:Oper}{u:Value}{π':Nat->Nat}{W':World}(him:i<m)(hr:i∈Region.ready .any ops listed)(ho:ops[i]?=some o)
  (hon:iR ops i=true->u=v i) (hg:Grew w0 W')
  (hal:∀x∈di,(listed.setIfInBounds i true).getD x.j false=true->upd vals i u x.j=some (.pointer (some ⟨π' x.j,0,none⟩))/\w0.heap.size<=π' x.j /\
   W'.heap[π' x.j]?=some (.cells (if (listed.setIfInBounds i true).getD x.k false=true then (af.eval (bV ops x.k)).cells else x.z.cells) x.T (0,0)))
  (hinj:∀x∈di,∀y∈di,(listed.setIfInBounds i true).getD x.j false=true->(listed.setIfInBounds i true).getD y.j false=true->π' x.j=π' y.j->x.j=y.j)
  (hbl:∀y∈dF,(listed.setIfInBounds i true).getD y.j false=true->upd vals i u y.j=some (.slice (some ⟨π' y.j,0,none⟩) y.n y.n)/\w0.heap.size<=π' y.j/\W'.heap[π' y.j]?=some (.cells (y.cs af) y.e (0,0)))
  (acg:∀x∈di,∀y∈dF,(listed.setIfInBounds i true).getD x.j false=true->(listed.setIfInBounds i true).getD y.j false=true->π' x.j≠π' y.j) :
  Inv P ops m w0 a0 di dF v af (upd vals i u) π' (listed.setIfInBounds i true) (a.put o.dst u) W':=by
 have hlt:=(gX hr).1
 have hoff:=mJ I hr
 have his:i<listed.size:=by rw[I.size];exact hlt
 have hdst:dG ops i=o.dst:=by simp[dG,ho]
 refine⟨by simp[I.size],fun j hj=>by rw[ai (by omega)];exact I.main j hj,?_,?_,?_,hg,?_,hal,hinj,hbl,acg⟩
 ·rw[pO C.Lr (I.off i hoff) hlt,hdst,I.act]
 ·intro j hj
  by_cases hji:i=j
  ·subst hji
   rw[dX his] at hj
   cases hj
  ·rw[ai hji] at hj
   unfold upd
   rw[if_neg (fun e=>hji e.symm)]
   exact I.off j hj
 ·intro j hj hq hl
  by_cases hji:i=j
  ·subst hji
   unfold upd
   rw[if_pos rfl,hon hq]
  ·rw[ai hji] at hl
   unfold upd
   rw[if_neg (fun e=>hji e.symm)]
   exact I.on j hj hq hl
 ·intro k j hk hb
  by_cases hki:i=k
  ·subst hki
   exact getD_set_true (dD hr hb)
  ·rw[ai hki] at hk
   exact getD_set_true (I.down k j hk hb)
theorem jW (C:iq ops m di dF){x y:AL}(hx:x∈di)(hy:y∈di):x.j≠y.k:=by
 obtain⟨oj,_,hj,_,aj,_⟩:=C.al x hx
 obtain⟨_,ok,_,hk,_,_,_,ak,_⟩:=C.al y hy
 intro e
 rw[e,hk] at hj
 injection hj with hj
 rw[<-hj,ak] at aj
 cases aj
theorem Me (C:iq ops m di dF){x y:AL}(hx:x∈di)(hy:y∈di)(e:x.k=y.k):x=y:=by
 obtain⟨oj,ok,hj,hk,_,_,dj,ak,_⟩:=C.al x hx
 obtain⟨oj',ok',hj',hk',_,_,dj',ak',_⟩:=C.al y hy
 rw[e,hk'] at hk
 injection hk with hk
 rw[<-hk,ak'] at ak
 injection ak with _ ak _
 injection ak with ak
 refine wQ C.nd hx hy ?_
 by_cases h:x.j=y.j
 ·exact h
 ·exact absurd (by simp[dG,hj',dj',ak]) (C.Lr x.j y.j h x.d (by simp[dG,hj,dj]))
theorem gB (C:iq ops m di dF){x:AL}{y:BL}(hx:x∈di)(hy:y∈dF):x.j≠y.j/\x.k≠y.j:=by
 obtain⟨oj,ok,hj,hk,aj,_,_,ak,_⟩:=C.al x hx
 obtain⟨_,o,ho,hb,_⟩:=C.bl y hy
 refine⟨fun e=>?_,fun e=>?_⟩
 ·rw[e,ho] at hj
  injection hj with hj
  rw[hj] at hb
  simp[isBS,aj] at hb
 ·rw[e,ho] at hk
  injection hk with hk
  rw[hk] at hb
  simp[isBS,ak] at hb
theorem Jq (C:iq ops m di dF){y:BL}(hy:y∈dF):iR ops y.j=false:=by
 obtain⟨_,o,ho,hb,_⟩:=C.bl y hy
 unfold isBS at hb
 split at hb
 ·rename_i h
  simp[iR,ho,oH,h]
 ·cases hb
theorem zC (C:iq ops m di dF){R:Act->World->Prop}{vals:Nat->Option Value}{π:Nat->Nat}{listed:Array Bool}{a:Act}{W:World}(I:Inv P ops m w0 a0 di dF v af vals π listed a W)(hall:∀j,j<m->listed.getD j false=true)
  (Je:af=dS ops a0 (qv ops v m)) (hQ:∀ps qs W,Grew w0 W->nD ops w0 W af di ps->jS w0 W af dF qs->R (putB dF qs (putAll di ps af)) W):R a W:=by
 have hfr:nD ops w0 W af di (di.map fun x=>π x.j):=by
  refine Bj di C.nd ?_ ?_
  ·intro x hx
   have h:=I.al x hx (hall _ (C.XM x hx).1)
   rw[hall _ (C.XM x hx).2,if_pos rfl] at h
   exact h.2
  ·intro x hx y hy e
   exact I.inj x hx y hy (hall _ (C.XM x hx).1) (hall _ (C.XM y hy).1) e
 have hfb:jS w0 W af dF (dF.map fun y=>π y.j):=yC dF fun y hy=>(I.bl y hy (hall _ (C.bl y hy).1)).2
 have:=hQ _ _ W I.grew hfr hfb
 rw[Je,<-AQ C.Lr di _ C.nd,<-Il C.Lr dF _ C.bnd] at this
 ·rw[I.act]
  have e:dS ops a0 (updB π dF (updAll π di (qv ops v m)))=dS ops a0 vals:=by
   refine o9 _ _ fun j hj hd=>?_
   have hjs:=List.mem_range.1 hj
   by_cases hjm:j<m
   ·cases hq:iR ops j with
    | true =>
     rw[I.on j hjs hq (hall j hjm),oh dF _ j (fun y hy e=>by rw[<-e,Jq C hy] at hq;cases hq),kN di _ j]
     ·simp[qv,hjm,hq]
     ·intro x hx e
      obtain⟨oj,_,hj',_,aj,_⟩:=C.al x hx
      rw[e] at hj'
      simp[iR,hj',oH,aj] at hq
    | false =>
     have ho:ops[j]?=some ops[j]:=Array.getElem?_eq_getElem hjs
     rcases C.nq j _ hjm ho (by simpa[iR,ho] using hq) with⟨x,hx,hjk⟩|⟨y,hy,rfl⟩
     rotate_left
     ·rw[H5 dF _ C.bnd y hy]
      exact (I.bl y hy (hall _ hjm)).1.symm
     rcases hjk with rfl|rfl
     ·rw[oh dF _ _ (fun y hy e=>(gB C hx hy).1 e.symm),Aj di _ C.nd x hx]
      exact (I.al x hx (hall _ hjm)).1.symm
     ·obtain⟨_,ok,_,hk,_,_,_,_,_,dk,_⟩:=C.al x hx
      exact absurd (by simp[dG,hk,dk]) hd
   ·rw[I.off j (I.main j (by omega)),oh dF _ j (fun y hy e=>by have:=(C.bl y hy).1;omega),kN di _ j]
    ·simp[qv,hjm]
    ·intro x hx e
     have:=(C.XM x hx).1
     omega
  rw[<-e]
  exact this
 ·intro y hy
  obtain⟨_,o,ho,_,_,dy,_⟩:=C.bl y hy
  refine⟨?_,(Array.getElem?_eq_some_iff.1 ho).1,by simp[dG,ho,dy]⟩
  rw[kN di _ _ (fun x hx=>(gB C hx hy).1)]
  simp[qv,Jq C hy]
 ·intro x hx
  obtain⟨oj,_,hj,_,aj,_,dj,_⟩:=C.al x hx
  refine⟨?_,(Array.getElem?_eq_some_iff.1 hj).1,by simp[dG,hj,dj]⟩
  simp[qv,iR,hj,oH,aj]
variable {nn:Nat} {Q:Exit->Act->World->Prop}
theorem Fe (C:iq ops m di dF)(hnd:∀ (j:Nat) (o:Oper) c,ops[j]?=some o->o.op≠.defer c)(hmn:m<=ops.size)(hsl:∀x∈di,x.d<a0.tmps.size)(hZ:qI P di)(hS:ja ops af di)(Je:af=dS ops a0 (qv ops v m))
  (hv:∀i o,i<m->ops[i]?=some o->oH o=true->YS P ops w0 o (v i) (dS ops a0 (qv ops v i))) (hL:nT P ops af dF) (hQ:∀ps qs W,Grew w0 W->nD ops w0 W af di ps->jS w0 W af dF qs->∀fuel,ops.size-m<=fuel->wpAnyIn Fence.wide nn P .any ops Q fuel ((List.range ops.size).map fun j=>decide (j<m)).toArray (putB dF qs (putAll di ps af)) W) :
  ∀ (fuel:Nat) (vals:Nat->Option Value) (π:Nat->Nat) (listed:Array Bool) (a:Act) (W:World),Inv P ops m w0 a0 di dF v af vals π listed a W->cnt (fun j=>listed.getD j false) ops.size<=fuel ->
   wpAnyIn Fence.wide nn P .any ops Q fuel listed a W:=by
 have hfin:∀ (fuel:Nat) (vals:Nat->Option Value) (π:Nat->Nat) (listed:Array Bool) (a:Act) (W:World),Inv P ops m w0 a0 di dF v af vals π listed a W->cnt (fun j=>listed.getD j false) ops.size<=fuel ->
   (∀j,j<m->listed.getD j false=true)->wpAnyIn Fence.wide nn P .any ops Q fuel listed a W:=by
  intro fuel vals π listed a W I hc hall
  have hlist:∀j,listed.getD j false=true↔(j<m/\j<ops.size):=fun j=>by
   by_cases hj:j<m
   ·simp only[hall j hj,hj,true_and,true_iff]
    omega
   ·have:=I.main j (by omega)
    rw[this]
    simp[hj]
  have hL2:listed=((List.range ops.size).map fun j=>decide (j<m)).toArray:=by
   refine Array.ext (by simp[I.size]) fun q h1 h2=>?_
   have h3:=hlist q
   rw[I.size] at h1
   have h4:listed.getD q false=listed[q]:=by simp[Array.getD,I.size,h1]
   rw[h4] at h3
   simp only[List.getElem_toArray,List.getElem_map,List.getElem_range]
   rw[Bool.eq_iff_iff,h3,decide_eq_true_eq]
   exact⟨fun h=>h.1,fun h=>⟨h,h1⟩⟩
  have hcc:ops.size-m<=fuel:=by
   have:∀n,m<=n->cnt (fun j=>listed.getD j false) n=n-m:=by
    intro n
    induction n with
    | zero=>intro h;simp[cnt]
    | succ n ih =>
     intro h
     unfold cnt
     by_cases hn:m<=n
     ·rw[ih hn,I.main n hn]
      simp
      omega
     ·have hmn:m=n+1:=by omega
      rw[if_pos (hall n (by omega))]
      have hz:∀q,q<=n->cnt (fun j=>listed.getD j false) q=0:=by
       intro q
       induction q with
       | zero=>intro _;rfl
       | succ q ihq=>intro hq;unfold cnt;rw[ihq (by omega),if_pos (hall q (by omega))]
      rw[hz n (Nat.le_refl _)]
      omega
   rw[this _ hmn] at hc
   exact hc
  have h9:=zC C I hall Je (R:=fun a W=>∀fuel,ops.size-m<=fuel->wpAnyIn Fence.wide nn P .any ops Q fuel ((List.range ops.size).map fun j=>decide (j<m)).toArray a W) hQ fuel hcc
  rw[hL2]
  exact h9
 intro fuel
 induction fuel with
 | zero =>
  intro vals π listed a W I hc
  have hall:=wM _ (by omega:cnt (fun j=>listed.getD j false) ops.size=0)
  exact hfin 0 vals π listed a W I hc fun j hj=>hall j (by omega)
 | succ fuel ih =>
  intro vals π listed a W I hc
  by_cases hall:∀j,j<m->listed.getD j false=true
  ·exact hfin _ vals π listed a W I hc hall
  have hmain:∀i,i∈Region.ready .any ops listed->i<m:=fun i hr=>by
   rcases Nat.lt_or_ge i m with h|h
   ·exact h
   ·exact (hall fun j hj=>(C.tl i _ h (Array.getElem?_eq_getElem (gX hr).1) j (by omega)).elim fun f hf=>jL I.down f (.inl hr) hf).elim
  refine⟨fun h0=>?_,fun i hr=>?_⟩
  ·exfalso
   refine hall fun j=>?_
   induction j using Nat.strongRecOn with
   | ind k ihk =>
    intro hk
    by_cases hl:listed.getD k false=true
    ·exact hl
    ·exfalso
     have hkn:k<ops.size:=by omega
     have:k∈Region.ready .any ops listed:=by
      refine mem_ready.2 ⟨?_,ops[k],Array.getElem?_eq_getElem hkn,fun e he hb=>?_⟩
      ·have hs:k<listed.size:=by rw[I.size];exact hkn
       simp[hs] at hl ⊢
       exact hl
      ·have hlt:=C.lex k _ e (Array.getElem?_eq_getElem hkn) he hb
       exact ihk e.on hlt (by omega)
     rw[h0] at this
     cases this
  have him:=hmain i hr
  have hlt:=(gX hr).1
  have hoff:=mJ I hr
  have his:i<listed.size:=by rw[I.size];exact hlt
  have hcnt:cnt (fun j=>(listed.setIfInBounds i true).getD j false) ops.size<=fuel:=by
   have:=zS (f:=fun j=>listed.getD j false) (g:=fun j=>(listed.setIfInBounds i true).getD j false) hoff (dX his) (fun j hj=>ai (fun e=>hj e.symm)) ops.size hlt
   omega
  have ho:ops[i]?=some ops[i]:=Array.getElem?_eq_getElem hlt
  generalize ops[i]=o at ho
  unfold wpOpIn
  simp only[ho]
  cases hq:oH o with
  | true =>
   have hag:=agree C I him hr ho hq
   have hex:execOp a.eval o=execOp (dS ops a0 (qv ops v i)).eval o:=by rw[I.act];exact kV (C.y9 i o · · ho) hag
   have hwa:Region.wanted o (yielded ops a.tmps)=Region.wanted o (yielded ops (dS ops a0 (qv ops v i)).tmps):=by rw[I.act];exact pI hag
   have hqa:iR ops i=true:=by simp[iR,ho,hq]
   have step:∀W',Grew W W'->wpAnyIn Fence.wide nn P .any ops Q fuel (listed.setIfInBounds i true) (a.put o.dst (v i)) W':=by
    intro W' hg
    have hnb:∀y∈dF,i≠y.j:=by
     rintro y hy rfl
     have:=Jq C hy
     rw[this] at hqa
     cases hqa
    refine ih _ π _ _ _ (gY C I him hr ho (fun _=>rfl) (I.grew.trans hg) ?_ ?_ ?_ ?_) hcnt
    rotate_left
    rotate_left
    ·intro y hy hl
     rw[ai (hnb y hy)] at hl
     obtain⟨h1,h2,h3⟩:=I.bl y hy hl
     refine⟨by unfold upd;rw[if_neg (fun e=>hnb y hy e.symm)];exact h1,h2,?_⟩
     rw[hg.heap (Array.getElem?_eq_some_iff.1 h3).1]
     exact h3
    ·intro x hx y hy hl hl'
     rw[ai (hnb y hy)] at hl'
     by_cases hix:i=x.j
     ·obtain⟨oj,ok,hj,hk,aj,_⟩:=C.al x hx
      rw[<-hix,ho] at hj
      injection hj with hj
      rw[hj] at hq
      simp[oH,aj] at hq
     ·rw[ai hix] at hl
      exact I.inb x hx y hy hl hl'
    ·intro x hx hl
     obtain⟨oj,ok,hj,hk,aj,_,_,ak,_,_,hb⟩:=C.al x hx
     have hji:i≠x.j:=by
      rintro rfl
      rw[ho] at hj
      injection hj with hj
      rw[hj] at hq
      simp[oH,aj] at hq
     have hki:i≠x.k:=by
      rintro rfl
      rw[ho] at hk
      injection hk with hk
      rw[hk] at hq
      simp[oH,ak] at hq
     rw[ai hji] at hl
     rw[ai hki]
     obtain⟨h1,h2,h3⟩:=I.al x hx hl
     refine⟨by unfold upd;rw[if_neg (fun e=>hji e.symm)];exact h1,h2,?_⟩
     rw[hg.heap (Array.getElem?_eq_some_iff.1 h3).1]
     exact h3
    ·intro x hx y hy hl hl' e
     have hne:∀z∈di,i≠z.j:=by
      intro z hz e'
      obtain⟨oj,_,hj,_,aj,_⟩:=C.al z hz
      rw[<-e',ho] at hj
      injection hj with hj
      rw[hj] at hq
      simp[oH,aj] at hq
     rw[ai (hne x hx)] at hl
     rw[ai (hne y hy)] at hl'
     exact I.inj x hx y hy hl hl' e
   rw[hwa]
   rcases hv i o him ho hq with⟨hw,hst⟩|⟨hw,hu⟩
   ·rw[if_pos hw]
    refine⟨fun _ _=>trivial,?_⟩
    show Oper.uponIn _ _ _ _ _ _ _ ((execOp _ _).run _ _)
    skip
    obtain⟨p,hp⟩:=I.grew
    have hs:=hst p
    rw[<-hp,<-hex] at hs
    generalize (execOp a.eval o).run P W=r at hs
    cases r with
    | ok n w' =>
     cases n<;>simp only[steadyUpon] at hs<;>simp only[Oper.uponIn]
     case value u=>obtain⟨rfl,rfl⟩:=hs;exact step _ (Grew.refl _)
     case skip=>obtain⟨rfl,e⟩:=hs;rw[<-e];exact step _ (Grew.refl _)
     case enter f args =>
      obtain⟨rfl,hc⟩:=hs
      exact⟨fun h=>by simp[Fence.wide] at h,callsIn_wide.2 (hc.mono fun e w'' ⟨he,hg⟩=>by subst he;exact step _ hg)⟩
    | halt x w'=>simp only[steadyUpon] at hs
   ·rw[if_neg (by rw[hw];simp),<-hu]
    exact⟨fun _ _=>trivial,step _ (Grew.refl _)⟩
  | false =>
   rcases C.nq i o him ho hq with⟨x,hx,hjk⟩|⟨y,hy,rfl⟩
   rotate_left
   ·
    obtain⟨_,ob,hob,_,gb,db,hlk⟩:=C.bl y hy
    obtain rfl:ob=o:=by rw[hob] at ho;injection ho
    rw[if_pos (by simp[Region.wanted,gb])]
    have hex:execOp a.eval ob=execOp af.eval ob:=by
     rw[I.act,Je]
     refine kV (C.y9 y.j ob · · hob) fun t ht j hj hd=>?_
     obtain⟨hbj,hqj⟩:=hlk t ht j hj hd
     rw[I.on j hj hqj (dD hr hbj)]
     have hjm:j<m:=Nat.lt_trans (lS C hbj) him
     simp[qv,hjm,hqj]
    refine⟨fun _ _=>trivial,?_⟩
    show Oper.uponIn _ _ _ _ _ _ _ ((execOp _ _).run _ _)
    rw[hex,hL y hy ob hob W]
    simp only[Oper.uponIn]
    refine ih _ (fun n=>if n=y.j then W.heap.size else π n) _ _ _ (gY C I him hr hob (fun h=>by simp[iR,hob,hq] at h) (I.grew.alloc _) ?_ ?_ ?_ ?_) hcnt
    ·intro x hx hl
     obtain⟨n1,n2⟩:=gB C hx hy
     rw[ai (fun e=>n1 e.symm)] at hl
     rw[ai (fun e=>n2 e.symm)]
     obtain⟨h1,h2,h3⟩:=I.al x hx hl
     refine⟨by unfold upd;rw[if_neg n1,if_neg n1];exact h1,by rw[if_neg n1];exact h2,?_⟩
     rw[if_neg n1,heap_alloc_old W _ (Array.getElem?_eq_some_iff.1 h3).1]
     exact h3
    ·intro x hx z hz hl hl' e
     have n1:=(gB C hx hy).1
     have n2:=(gB C hz hy).1
     rw[ai (fun e=>n1 e.symm)] at hl
     rw[ai (fun e=>n2 e.symm)] at hl'
     rw[if_neg n1,if_neg n2] at e
     exact I.inj x hx z hz hl hl' e
    ·intro z hz hl
     by_cases rP:z.j=y.j
     ·obtain rfl:=LY C.bnd hz hy rP
      refine⟨by unfold upd;simp,?_,?_⟩
      ·rw[if_pos rfl]
       exact I.grew.below.size
      ·rw[if_pos rfl]
       exact heap_alloc_new W _
     ·rw[ai (fun e=>rP e.symm)] at hl
      obtain⟨h1,h2,h3⟩:=I.bl z hz hl
      refine⟨by unfold upd;rw[if_neg rP,if_neg rP];exact h1,by rw[if_neg rP];exact h2,?_⟩
      rw[if_neg rP,heap_alloc_old W _ (Array.getElem?_eq_some_iff.1 h3).1]
      exact h3
    ·intro x hx z hz hl hl'
     have n1:=(gB C hx hy).1
     rw[ai (fun e=>n1 e.symm)] at hl
     rw[if_neg n1]
     by_cases rP:z.j=y.j
     ·rw[if_pos rP]
      have:=(Array.getElem?_eq_some_iff.1 (I.al x hx hl).2.2).1
      omega
     ·rw[if_neg rP]
      rw[ai (fun e=>rP e.symm)] at hl'
      exact I.inb x hx z hz hl hl'
   obtain⟨oj,ok,hj,hk,aj,gj,dj,ak,gk,dk,hb⟩:=C.al x hx
   rcases hjk with rfl|rfl
   ·
    obtain rfl:oj=o:=by rw[hj] at ho;injection ho
    rw[if_pos (by simp[Region.wanted,gj])]
    refine⟨fun _ _=>trivial,?_⟩
    show Oper.uponIn _ _ _ _ _ _ _ ((execOp _ _).run _ _)
    rw[o8 aj ((hZ x hx).1 W)]
    simp only[Oper.uponIn]
    have hxk:listed.getD x.k false=false:=by
     cases h:listed.getD x.k false with
     | false=>rfl
     | true=>rw[I.down _ _ h hb] at hoff;cases hoff
    refine ih _ (fun n=>if n=x.j then W.heap.size else π n) _ _ _ (gY C I him hr hj (fun h=>by simp[iR,hj,hq] at h) (I.grew.alloc _) ?_ ?_ ?_ ?_) hcnt
    rotate_left
    rotate_left
    ·intro z hz hl
     have n1:=(gB C hx hz).1
     rw[ai n1] at hl
     obtain⟨h1,h2,h3⟩:=I.bl z hz hl
     refine⟨by unfold upd;rw[if_neg (fun e=>n1 e.symm),if_neg (fun e=>n1 e.symm)];exact h1,by rw[if_neg (fun e=>n1 e.symm)];exact h2,?_⟩
     rw[if_neg (fun e=>n1 e.symm),heap_alloc_old W _ (Array.getElem?_eq_some_iff.1 h3).1]
     exact h3
    ·intro y hy z hz hl hl'
     have n1:=(gB C hx hz).1
     rw[ai n1] at hl'
     have n3:¬ z.j=x.j:=fun e=>n1 e.symm
     by_cases hyx:y.j=x.j
     ·rw[if_pos hyx,if_neg n3]
      have:=(Array.getElem?_eq_some_iff.1 (I.bl z hz hl').2.2).1
      omega
     ·rw[if_neg hyx,if_neg n3]
      rw[ai (fun e=>hyx e.symm)] at hl
      exact I.inb y hy z hz hl hl'
    ·intro y hy hl
     rw[ai (jW C hx hy)]
     by_cases hyx:y.j=x.j
     ·obtain rfl:=wQ C.nd hy hx hyx
      rw[hxk]
      refine⟨by unfold upd;simp,?_,?_⟩
      ·rw[if_pos rfl]
       exact I.grew.below.size
      ·rw[if_pos rfl]
       simpa using heap_alloc_new W (.cells y.z.cells y.T)
     ·rw[ai (fun e=>hyx e.symm)] at hl
      obtain⟨h1,h2,h3⟩:=I.al y hy hl
      refine⟨by unfold upd;rw[if_neg hyx,if_neg hyx];exact h1,by rw[if_neg hyx];exact h2,?_⟩
      rw[if_neg hyx,heap_alloc_old W _ (Array.getElem?_eq_some_iff.1 h3).1]
      exact h3
    ·intro y hy z hz hl hl' e
     by_cases hyx:y.j=x.j<;>by_cases hzx:z.j=x.j
     ·rw[hyx,hzx]
     ·exfalso
      rw[if_pos hyx,if_neg hzx] at e
      rw[ai (fun e=>hzx e.symm)] at hl'
      have:=(Array.getElem?_eq_some_iff.1 (I.al z hz hl').2.2).1
      omega
     ·exfalso
      rw[if_neg hyx,if_pos hzx] at e
      rw[ai (fun e=>hyx e.symm)] at hl
      have:=(Array.getElem?_eq_some_iff.1 (I.al y hy hl).2.2).1
      omega
     ·rw[if_neg hyx,if_neg hzx] at e
      rw[ai (fun e=>hyx e.symm)] at hl
      rw[ai (fun e=>hzx e.symm)] at hl'
      exact I.inj y hy z hz hl hl' e
   ·
    obtain rfl:ok=o:=by rw[hk] at ho;injection ho
    have hjl:listed.getD x.j false=true:=dD hr hb
    obtain⟨h1,h2,h3⟩:=I.al x hx hjl
    rw[hoff] at h3
    simp only[Bool.false_eq_true,if_false] at h3
    have hjs:x.j<ops.size:=(Array.getElem?_eq_some_iff.1 hj).1
    have Oe:a.eval (.tmp x.d)=.pointer (some ⟨π x.j,0,none⟩):=by
     rw[I.act]
     exact Aa C.Lr hjs (by simp[dG,hj,dj]) h1 (hsl x hx)
    have hval:a.eval (bV ops x.k)=af.eval (bV ops x.k):=by
     rw[I.act,Je]
     refine qH fun t ht j hjn hd=>?_
     obtain⟨hbj,hqj⟩:=C.st x hx t ht j hjn hd
     rw[I.on j hjn hqj (dD hr hbj)]
     have hjm:j<m:=Nat.lt_trans (lS C hbj) him
     simp[qv,hjm,hqj]
    rw[if_pos (by simp[Region.wanted,gk])]
    refine⟨fun _ _=>trivial,?_⟩
    show Oper.uponIn _ _ _ _ _ _ _ ((execOp _ _).run _ _)
    rw[o7 ak Oe hval ((hZ x hx).2 W) (hS x hx).1 (hS x hx).2 h3]
    simp only[Oper.uponIn]
    refine ih _ π _ _ _ (gY C I him hr hk (fun h=>by simp[iR,hk,hq] at h) (I.grew.setRow h2 _) ?_ ?_ ?_ ?_) hcnt
    rotate_left
    rotate_left
    ·intro z hz hl
     obtain⟨n1,n2⟩:=gB C hx hz
     rw[ai n2] at hl
     obtain⟨g1,g2,g3⟩:=I.bl z hz hl
     refine⟨by unfold upd;rw[if_neg (fun e=>n2 e.symm)];exact g1,g2,?_⟩
     rw[gZ (I.inb x hx z hz hjl hl)]
     exact g3
    ·intro y hy z hz hl hl'
     rw[ai (gB C hx hz).2] at hl'
     rw[ai (fun e=>jW C hy hx e.symm)] at hl
     exact I.inb y hy z hz hl hl'
    ·intro y hy hl
     rw[ai (fun e=>jW C hy hx e.symm)] at hl
     obtain⟨g1,g2,g3⟩:=I.al y hy hl
     refine⟨by unfold upd;rw[if_neg (jW C hy hx)];exact g1,g2,?_⟩
     by_cases hyx:y.j=x.j
     ·obtain rfl:=wQ C.nd hy hx hyx
      rw[dX his,if_pos rfl]
      exact lC h3
     ·have hk':x.k≠y.k:=fun e=>hyx (by rw[Me C hy hx e.symm])
      rw[ai hk',gZ (fun e=>hyx (I.inj y hy x hx hl hjl e.symm))]
      exact g3
    ·intro y hy z hz hl hl' e
     rw[ai (fun e=>jW C hy hx e.symm)] at hl
     rw[ai (fun e=>jW C hz hx e.symm)] at hl'
     exact I.inj y hy z hz hl hl' e
theorem DD {id:Nat}{w:World}{l qs:List Oper}(m:Nat)(di:List AL)(dF:List BL)(hm:P.follows .mixedOrders=true)(hB:(abN l.toArray m di dF&&decide (m<=l.length))=true:=by kernel_rfl)(hnd:Df l.toArray=true:=by kernel_rfl)(Zc:(l.take m).filter oH=qs:=by simp only[List.take,List.filter,oH];rfl)  (hZ:qI P di:=by exact qI.nil)(hsl:∀x∈di,x.d<a0.tmps.size:=by simp)
  (h:wpSteady P l.toArray w.drew (fun af=>ja l.toArray af di/\nT P l.toArray af dF/\∀ps qs W,Grew w W->nD l.toArray w W af di ps->jS w W af dF qs->∀fuel,l.length-m<=fuel->wpAnyIn Fence.wide nn P .any l.toArray Q fuel ((List.range l.length).map fun j=>decide (j<m)).toArray (putB dF qs (putAll di ps af)) W) qs a0):(Code.region id l.toArray true).wpIn Fence.wide nn P Q a0 w:=by
 rw[Bool.and_eq_true,decide_eq_true_eq] at hB
 have C:=tC hB.1
 have hml:=hB.2
 subst Zc
 have e0:dS l.toArray a0 (qv l.toArray (fun _=>undef) 0)=a0:=by
  have:∀ (ks:List Nat) (a:Act),putsOf l.toArray (qv l.toArray (fun _=>undef) 0) ks a=a:=by
   intro ks
   induction ks with
   | nil=>intro a;rfl
   | cons k ks ih=>intro a;unfold putsOf;simp only[qv,Nat.not_lt_zero,false_and,if_false];exact ih a
  exact this _ _
 rw[<-e0] at h
 have htk:∀i,i<(l.take m).length->(l.take m)[i]?=l.toArray[0+i]?:=fun i hi=>by
  rw[List.length_take] at hi
  rw[List.getElem?_take_of_lt (by omega)]
  simp
 obtain⟨v,_,hv,hS,hL,hQ⟩:=kX C.Lr (l.take m) 0 _ htk h
 have hlen:(l.take m).length=m:=by rw[List.length_take];omega
 simp only[Nat.zero_add,hlen] at hv hS hL hQ
 have hl0:∀j,(Array.replicate l.toArray.size false).getD j false=false:=by intro j;by_cases h:j<l.length<;>simp[h]
 refine wpIn_region_any hm (Fe (v:=v) C (uk hnd) (by simpa using hml) hsl hZ hS rfl (fun i o him ho hq=>hv i o (by rw[List.getElem?_take_of_lt him];simpa using ho) hq) hL (fun ps qs W hg hf hb=>hQ ps qs W ((Grew.drew (Grew.refl w)).trans hg) (qB di ps hf) (oJ dF qs hb)) _ (fun _=>none) (fun _=>0) _ _ _ ?_ ?_)
 ·refine⟨by simp,fun j _=>hl0 j,?_,fun _ _=>rfl,?_,Grew.refl _,?_,?_,?_,?_,?_⟩
  ·have:∀ (ks:List Nat) (a:Act),putsOf l.toArray (fun _=>none) ks a=a:=by
    intro ks
    induction ks with
    | nil=>intro a;rfl
    | cons k ks ih=>intro a;unfold putsOf;exact ih a
   exact (this _ _).symm
  ·intro j _ _ h
   rw[hl0] at h
   cases h
  ·intro k j h
   rw[hl0] at h
   cases h
  ·intro x _ h
   rw[hl0] at h
   cases h
  ·intro x _ y _ h
   rw[hl0] at h
   cases h
  ·intro x _ h
   rw[hl0] at h
   cases h
  ·intro x _ y _ h
   rw[hl0] at h
   cases h
 ·exact cnt_le _ _
end
end Go.Proofs.YtlkgjmnjhifehaaGreat.V
