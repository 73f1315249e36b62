/- Winding numbers: along segments that meet no edge they do not change; the pairs of crossings of two ways. Segments that do not meet are separated by a line; what holds for all great. -/
import Derived.Test.YtlkgjmnjhifehaaGreatToQ
set_option linter.unusedSimpArgs false
set_option linter.unusedVariables false
namespace Go.Proofs.YtlkgjmnjhifehaaGreat
def rF (b:Bool):Int:=if b=true then 1 else 0
theorem XG:rF true=1:=rfl
theorem E8:rF false=0:=rfl
def tq (u v:Pt):Int:=if u.2<=v.2 then 1 else -1
def cw (q u v:Pt):Int:=tq u v*rF (bu q u v)
def sumN (f:Nat->Int):Nat->Int
 | 0=>0
 | n+1=>sumN f n+f n
def wn (ps:List Pt)(q:Pt):Int:=sumN (fun i=>cw q (ah ps i) (ah ps (i+1))) ps.length
theorem dw {f g:Nat->Int}:∀n,(∀i,i<n->f i=g i)->sumN f n=sumN g n
 | 0,_=>rfl
 | n+1,h=>by unfold sumN;rw[dw n (fun i hi=>h i (by omega)),h n (by omega)]
theorem mW (f g:Nat->Int):∀n,sumN (fun i=>f i+g i) n=sumN f n+sumN g n
 | 0=>rfl
 | n+1=>by unfold sumN;rw[mW f g n];omega
theorem mV (c:Int)(f:Nat->Int):∀n,sumN (fun i=>c*f i) n=c*sumN f n
 | 0=>by simp[sumN]
 | n+1=>by unfold sumN;rw[mV c f n,Int.mul_add]
theorem Ap (c:Int)(f:Nat->Int)(n:Nat):sumN (fun i=>f i*c) n=sumN f n*c:=by
 rw[Int.mul_comm,<-mV]
 exact dw n fun i _=>Int.mul_comm _ _
theorem Am:∀n,sumN (fun _=>0) n=0
 | 0=>rfl
 | n+1=>by unfold sumN;rw[Am n];rfl
theorem wZ (f:Nat->Nat->Int)(m:Nat):∀n,sumN (fun i=>sumN (fun k=>f i k) m) n=sumN (fun k=>sumN (fun i=>f i k) n) m
 | 0=>(Am m).symm
 | n+1=>by
  have:=wZ f m n
  show sumN (fun i=>sumN (fun k=>f i k) m) n+sumN (fun k=>f n k) m=_
  rw[this,<-mW]
  rfl
theorem pX (f:Nat->Int):∀n,sumN (fun i=>f (i+1)-f i) n=f n-f 0
 | 0=>by simp[sumN]
 | n+1=>by unfold sumN;rw[pX f n];omega
theorem uI {q u v:Pt}(h:u.2=v.2):bu q u v=false:=by
 rw[dL (by omega),decide_eq_false (show ¬ (u.2<=q.2/\q.2<v.2) by omega)]
 rfl
theorem rD (q u v:Pt):cw q v u=-cw q u v:=by
 unfold cw
 rw[fU]
 unfold tq
 rcases Int.lt_trichotomy u.2 v.2 with h|h|h
 ·rw[if_neg (by omega),if_pos (by omega)];omega
 ·rw[uI h,E8];simp
 ·rw[if_pos (by omega),if_neg (by omega)];omega
theorem zL {q u v:Pt}(h:u.2<=v.2):cw q u v=rF (bu q u v):=by
 unfold cw tq
 rw[if_pos h,Int.one_mul]
theorem ZV {a b u v:Bool}(h:(a ^^ b)=(u ^^ v))(h1:a=true->u=false)(h2:b=true->v=false):rF a-rF b=rF v-rF u:=by
 cases a<;>cases b<;>cases u<;>cases v<;>simp_all [rF]
theorem Dv {a b u v:Pt}(hab:a.2<=b.2)(hm:bC a b u v=false):cw a u v-cw b u v=rF (jG a b v)-rF (jG a b u):=by
 have up:∀u v:Pt,u.2<=v.2->bC a b u v=false->cw a u v-cw b u v=rF (jG a b v)-rF (jG a b u):=by
  intro u v huv hm
  rw[zL huv,zL huv]
  refine ZV (EJ hab huv hm) (fun h=>?_) (fun h=>?_)
  ·rw[dL huv] at h
   simp only[Bool.and_eq_true,decide_eq_true_eq] at h
   unfold jG
   rw[decide_eq_false (show ¬ (a.2<u.2/\u.2<=b.2) by omega)]
   rfl
  ·rw[dL huv] at h
   simp only[Bool.and_eq_true,decide_eq_true_eq] at h
   unfold jG
   rw[decide_eq_false (show ¬ (a.2<v.2/\v.2<=b.2) by omega)]
   rfl
 rcases Int.le_total u.2 v.2 with h|h
 ·exact up u v h hm
 ·have:=up v u h (by rw[qX];exact hm)
  rw[rD a u v,rD b u v] at this
  omega
theorem mP {ps:List Pt}{a b:Pt}(h:∀i,i<ps.length->bC a b (ah ps i) (ah ps (i+1))=false):wn ps a=wn ps b:=by
 have go:∀a b:Pt,a.2<=b.2->(∀i,i<ps.length->bC a b (ah ps i) (ah ps (i+1))=false)->wn ps a=wn ps b:=by
  intro a b hab h
  have e:wn ps a=sumN (fun i=>cw b (ah ps i) (ah ps (i+1))+(rF (jG a b (ah ps (i+1)))-rF (jG a b (ah ps i)))) ps.length:=by
   refine dw _ fun i hi=>?_
   have:=Dv hab (h i hi)
   omega
  rw[e,mW,pX (fun i=>rF (jG a b (ah ps i)))]
  rw[uK]
  show sumN _ _+_=wn ps b
  unfold wn
  omega
 rcases Int.le_total a.2 b.2 with hab|hab
 ·exact go a b hab h
 ·exact (go b a hab (fun i hi=>by rw[qY];exact h i hi)).symm
theorem Dx {d:Int}(hd:0<d)(u v:Pt):tq (sc d u) (sc d v)=tq u v:=by
 unfold tq
 have:(sc d u).2<=(sc d v).2↔u.2<=v.2:=jo hd
 by_cases h:u.2<=v.2
 ·rw[if_pos (this.2 h),if_pos h]
 ·rw[if_neg (fun x=>h (this.1 x)),if_neg h]
theorem aba {d:Int}(hd:0<d)(q u v:Pt):cw (sc d q) (sc d u) (sc d v)=cw q u v:=by
 unfold cw
 rw[G9 hd,Dx hd]
theorem qL {d:Int}(hd:0<d)(ps:List Pt)(q:Pt):wn (ps.map (sc d)) (sc d q)=wn ps q:=by
 unfold wn
 rw[List.length_map]
 exact dw _ fun i _=>by rw[aH,aH,aba hd]
theorem aaF {qs:List Pt}{q u v:Pt}(huv:u.2<=v.2)(h:bu q u v=true)(hm:∀k,k<qs.length->bC u v (ah qs k) (ah qs (k+1))=false) :
  sumN (fun k=>cw (zz q u v) (sc (v.2-u.2) (ah qs k)) (sc (v.2-u.2) (ah qs (k+1)))) qs.length=wn qs u:=by
 obtain⟨a1,a2,_⟩:=iQ huv h
 have hd:0<v.2-u.2:=by omega
 have hz:=O6 a1 a2
 have hpc:=mP (ps:=qs.map (sc (v.2-u.2))) (a:=sc (v.2-u.2) u) (b:=zz q u v) (fun k hk=>by
  rw[List.length_map] at hk
  rw[aH,aH]
  exact sF ((zh hd).2 (by omega)) hz (by rw[zk hd];exact hm k hk))
 rw[qL hd] at hpc
 rw[hpc]
 unfold wn
 rw[List.length_map]
 exact dw _ fun k _=>by rw[aH,aH]
def gE (q a b c d:Pt):Bool:=bu (zz q (lo a b) (hi a b)) (sc ((hi a b).2-(lo a b).2) c) (sc ((hi a b).2-(lo a b).2) d)
theorem Dq (q a b c d:Pt):gE q a b (lo c d) (hi c d)=gE q a b c d:=by
 unfold gE
 rcases Ep c d with⟨e,f,_⟩|⟨e,f,_⟩<;>rw[e,f]
 exact fU _ _ _
theorem Vp {q a b c d:Pt}(hm:bC a b c d=false):rF (bu q a b)*rF (bu q c d)=rF (bu q a b)*rF (gE q a b c d)+rF (bu q c d)*rF (gE q c d a b):=by
 have l1:=xw a b
 have l2:=xw c d
 cases hp:bu q a b
 ·cases hq:bu q c d
  ·simp[rF]
  ·have hh:gE q c d a b=false:=by
    cases hh:gE q c d a b
    ·rfl
    ·rw[<-Dq] at hh
     rw[<-jy] at hq
     obtain⟨c1,c2,c3⟩:=iQ l2 hq
     have:=Hy l1 (by omega) c3 hh
     rw[jy,hp] at this
     cases this
   rw[hh]
   simp[rF]
 ·cases hq:bu q c d
  ·have hg:gE q a b c d=false:=by
    cases hg:gE q a b c d
    ·rfl
    ·rw[<-Dq] at hg
     rw[<-jy] at hp
     obtain⟨c1,c2,c3⟩:=iQ l1 hp
     have:=Hy l2 (by omega) c3 hg
     rw[jy,hq] at this
     cases this
   rw[hg]
   simp[rF]
  ·have:=Ur l1 l2 (by rw[jy];exact hp) (by rw[jy];exact hq) (by rw[nO,Ei];exact hm)
   have e1:=Dq q a b c d
   have e2:=Dq q c d a b
   unfold gE at e1 e2 ⊢
   rw[e1,e2] at this
   revert this
   generalize bu (zz q (lo a b) (hi a b)) _ _=g
   generalize bu (zz q (lo c d) (hi c d)) _ _=h
   cases g<;>cases h<;>decide
theorem pairs {ps qs:List Pt}{q:Pt}{α β:Int}(hm:∀i,i<ps.length->∀k,k<qs.length->bC (ah ps i) (ah ps (i+1)) (ah qs k) (ah qs (k+1))=false)(h1:∀i,wn qs (ah ps i)=β)(h2:∀k,wn ps (ah qs k)=α) :
  wn ps q*wn qs q=wn ps q*β+wn qs q*α:=by
 let P:Nat->Int:=fun i=>tq (ah ps i) (ah ps (i+1))
 let Q:Nat->Int:=fun k=>tq (ah qs k) (ah qs (k+1))
 let p:Nat->Int:=fun i=>rF (bu q (ah ps i) (ah ps (i+1)))
 let r:Nat->Int:=fun k=>rF (bu q (ah qs k) (ah qs (k+1)))
 let g:Nat->Nat->Int:=fun i k=>rF (gE q (ah ps i) (ah ps (i+1)) (ah qs k) (ah qs (k+1)))
 let h:Nat->Nat->Int:=fun i k=>rF (gE q (ah qs k) (ah qs (k+1)) (ah ps i) (ah ps (i+1)))
 have hpr:∀i,i<ps.length->∀k,k<qs.length->(P i*p i)*(Q k*r k)=(P i*p i)*(Q k*g i k)+(Q k*r k)*(P i*h i k):=by
  intro i hi k hk
  have:=Vp (q:=q) (hm i hi k hk)
  have e:p i*r k=p i*g i k+r k*h i k:=this
  have e2:(P i*p i)*(Q k*r k)=(P i*Q k)*(p i*r k):=by grind
  rw[e2,e]
  grind
 have s1:∀i,i<ps.length->(P i*p i)*sumN (fun k=>Q k*g i k) qs.length=(P i*p i)*β:=by
  intro i hi
  cases hc:bu q (ah ps i) (ah ps (i+1))
  ·have:p i=0:=by show rF _=0;rw[hc];rfl
   rw[this]
   simp
  ·congr 1
   have hl:=xw (ah ps i) (ah ps (i+1))
   have hcl:bu q (lo (ah ps i) (ah ps (i+1))) (Go.Proofs.YtlkgjmnjhifehaaGreat.hi (ah ps i) (ah ps (i+1)))=true:=by rw[jy];exact hc
   have hd:0<(Go.Proofs.YtlkgjmnjhifehaaGreat.hi (ah ps i) (ah ps (i+1))).2-(lo (ah ps i) (ah ps (i+1))).2:=by
    obtain⟨x,y,_⟩:=iQ hl hcl
    omega
   have:=aaF (qs:=qs) hl hcl (fun k hk=>by rw[nO];exact hm i hi k hk)
   have e:sumN (fun k=>Q k*g i k) qs.length=sumN (fun k=>cw (zz q (lo (ah ps i) (ah ps (i+1))) (Go.Proofs.YtlkgjmnjhifehaaGreat.hi (ah ps i) (ah ps (i+1)))) (sc ((Go.Proofs.YtlkgjmnjhifehaaGreat.hi (ah ps i) (ah ps (i+1))).2-(lo (ah ps i) (ah ps (i+1))).2) (ah qs k)) (sc ((Go.Proofs.YtlkgjmnjhifehaaGreat.hi (ah ps i) (ah ps (i+1))).2-(lo (ah ps i) (ah ps (i+1))).2) (ah qs (k+1)))) qs.length :=
    dw _ fun k _=>by
     unfold cw
     rw[Dx hd]
     rfl
   rw[e,this]
   rcases Ep (ah ps i) (ah ps (i+1)) with⟨e,_,_⟩|⟨e,_,_⟩<;>rw[e]<;>exact h1 _
 have s2:∀k,k<qs.length->(Q k*r k)*sumN (fun i=>P i*h i k) ps.length=(Q k*r k)*α:=by
  intro k hk
  cases hc:bu q (ah qs k) (ah qs (k+1))
  ·have:r k=0:=by show rF _=0;rw[hc];rfl
   rw[this]
   simp
  ·congr 1
   have hl:=xw (ah qs k) (ah qs (k+1))
   have hcl:bu q (lo (ah qs k) (ah qs (k+1))) (Go.Proofs.YtlkgjmnjhifehaaGreat.hi (ah qs k) (ah qs (k+1)))=true:=by rw[jy];exact hc
   have hd:0<(Go.Proofs.YtlkgjmnjhifehaaGreat.hi (ah qs k) (ah qs (k+1))).2-(lo (ah qs k) (ah qs (k+1))).2:=by
    obtain⟨x,y,_⟩:=iQ hl hcl
    omega
   have:=aaF (qs:=ps) hl hcl (fun i hi=>by rw[nO,iG];exact hm i hi k hk)
   have e:sumN (fun i=>P i*h i k) ps.length=sumN (fun i=>cw (zz q (lo (ah qs k) (ah qs (k+1))) (Go.Proofs.YtlkgjmnjhifehaaGreat.hi (ah qs k) (ah qs (k+1)))) (sc ((Go.Proofs.YtlkgjmnjhifehaaGreat.hi (ah qs k) (ah qs (k+1))).2-(lo (ah qs k) (ah qs (k+1))).2) (ah ps i)) (sc ((Go.Proofs.YtlkgjmnjhifehaaGreat.hi (ah qs k) (ah qs (k+1))).2-(lo (ah qs k) (ah qs (k+1))).2) (ah ps (i+1)))) ps.length :=
    dw _ fun i _=>by
     unfold cw
     rw[Dx hd]
     rfl
   rw[e,this]
   rcases Ep (ah qs k) (ah qs (k+1)) with⟨e,_,_⟩|⟨e,_,_⟩<;>rw[e]<;>exact h2 _
 have eP:wn ps q=sumN (fun i=>P i*p i) ps.length:=rfl
 have eQ:wn qs q=sumN (fun k=>Q k*r k) qs.length:=rfl
 have e1:wn ps q*wn qs q=sumN (fun i=>sumN (fun k=>(P i*p i)*(Q k*r k)) qs.length) ps.length:=by
  rw[eP,eQ,<-Ap]
  exact dw _ fun i _=>(mV _ _ _).symm
 rw[e1]
 have e2:sumN (fun i=>sumN (fun k=>(P i*p i)*(Q k*r k)) qs.length) ps.length=sumN (fun i=>sumN (fun k=>(P i*p i)*(Q k*g i k)) qs.length) ps.length+sumN (fun i=>sumN (fun k=>(Q k*r k)*(P i*h i k)) qs.length) ps.length:=by
  rw[<-mW]
  refine dw _ fun i hi=>?_
  rw[<-mW]
  exact dw _ fun k hk=>hpr i hi k hk
 rw[e2,wZ (fun i k=>(Q k*r k)*(P i*h i k))]
 have e3:sumN (fun i=>sumN (fun k=>(P i*p i)*(Q k*g i k)) qs.length) ps.length=wn ps q*β:=by
  rw[eP,<-Ap]
  refine dw _ fun i hi=>?_
  rw[mV]
  exact s1 i hi
 have e4:sumN (fun k=>sumN (fun i=>(Q k*r k)*(P i*h i k)) ps.length) qs.length=wn qs q*α:=by
  rw[eQ,<-Ap]
  refine dw _ fun k hk=>?_
  rw[mV]
  exact s2 k hk
 rw[e3,e4]
def ev (α β γ:Int)(p:Pt):Int:=α*p.1+β*p.2+γ
def Sep (a b c d:Pt):Prop:=∃ α β γ,ev α β γ a<0/\ev α β γ b<0/\0<ev α β γ c/\0<ev α β γ d
theorem Sep.adG {a b c d:Pt}(h:Sep a b c d):Sep b a c d:=by
 obtain⟨α,β,γ,h1,h2,h3,h4⟩:=h
 exact⟨α,β,γ,h2,h1,h3,h4⟩
theorem Sep.swap2 {a b c d:Pt}(h:Sep a b c d):Sep a b d c:=by
 obtain⟨α,β,γ,h1,h2,h3,h4⟩:=h
 exact⟨α,β,γ,h1,h2,h4,h3⟩
theorem Sep.symm {a b c d:Pt}(h:Sep a b c d):Sep c d a b:=by
 obtain⟨α,β,γ,h1,h2,h3,h4⟩:=h
 have e:∀p,ev (-α) (-β) (-γ) p=-ev α β γ p:=fun p=>by unfold ev;grind
 exact⟨-α,-β,-γ,by rw[e];omega,by rw[e];omega,by rw[e];omega,by rw[e];omega⟩
theorem yZ {q u v:Pt}(h:eG q u v=true):∃k m:Int,0<=k/\k<=m/\0<m/\m*(q.1-u.1)=k*(v.1-u.1)/\m*(q.2-u.2)=k*(v.2-u.2):=by
 rw[dB] at h
 obtain⟨h0,h1,h2⟩:=h
 have hc:(v.1-u.1)*(q.2-u.2)=(v.2-u.2)*(q.1-u.1):=by unfold cr at h0;omega
 by_cases hz:u.1=v.1/\u.2=v.2
 ·refine⟨0,1,by omega,by omega,by omega,?_,?_⟩<;>omega
 ·rcases Int.le_total u.1 v.1 with a1|a1<;>rcases Int.le_total u.2 v.2 with a2|a2
  ·exact⟨(q.1-u.1)+(q.2-u.2),(v.1-u.1)+(v.2-u.2),by omega,by omega,by omega,by grind,by grind⟩
  ·exact⟨(q.1-u.1)-(q.2-u.2),(v.1-u.1)-(v.2-u.2),by omega,by omega,by omega,by grind,by grind⟩
  ·exact⟨-(q.1-u.1)+(q.2-u.2),-(v.1-u.1)+(v.2-u.2),by omega,by omega,by omega,by grind,by grind⟩
  ·exact⟨-(q.1-u.1)-(q.2-u.2),-(v.1-u.1)-(v.2-u.2),by omega,by omega,by omega,by grind,by grind⟩
theorem aeV {α β γ:Int}{q u v:Pt}(h:eG q u v=true):∃k m:Int,0<=k/\k<=m/\0<m/\m*ev α β γ q=(m-k)*ev α β γ u+k*ev α β γ v:=by
 obtain⟨k,m,h1,h2,h3,e1,e2⟩:=yZ h
 refine⟨k,m,h1,h2,h3,?_⟩
 have:m*ev α β γ q=(m-k)*ev α β γ u+k*ev α β γ v+(α*(m*(q.1-u.1)-k*(v.1-u.1))+β*(m*(q.2-u.2)-k*(v.2-u.2))):=by unfold ev;grind
 rw[this,e1,e2]
 grind
theorem mM {α β γ:Int}{q u v:Pt}(h:eG q u v=true)(hu:ev α β γ u<0)(hv:ev α β γ v<0):ev α β γ q<0:=by
 obtain⟨k,m,h1,h2,h3,e⟩:=aeV (α:=α) (β:=β) (γ:=γ) h
 have x:=qU (Int.le_of_lt hv) h1
 rw[Int.mul_comm] at x
 have y:=qU (Int.le_of_lt hu) (show 0<=m-k by omega)
 rw[Int.mul_comm] at y
 rcases Int.lt_or_le 0 k with hk|hk
 ·have:=(gJ hk).2 hv
  exact (gJ h3).1 (by omega)
 ·have:=(gJ (show 0<m-k by omega)).2 hu
  exact (gJ h3).1 (by omega)
theorem xC {α β γ:Int}{q u v:Pt}(h:eG q u v=true)(hu:0<ev α β γ u)(hv:0<ev α β γ v):0<ev α β γ q:=by
 have e:∀p,ev (-α) (-β) (-γ) p=-ev α β γ p:=fun p=>by unfold ev;grind
 have:=mM (α:=-α) (β:=-β) (γ:=-γ) h (by rw[e];omega) (by rw[e];omega)
 rw[e] at this
 omega
theorem Sep.mY {a b c d:Pt}(h:Sep a b c d):bC a b c d=false:=by
 obtain⟨α,β,γ,h1,h2,h3,h4⟩:=h
 cases hm:bC a b c d
 ·rfl
 ·exfalso
  unfold bC at hm
  simp only[Bool.or_eq_true] at hm
  rcases hm with hm|hm|hm|hm|hm
  ·have hc:=ed.1 hm
   have i1:cr c d a-cr c d b=cr a b d-cr a b c:=by unfold cr;grind
   have i2:cr c d a*ev α β γ b-cr c d b*ev α β γ a=cr a b d*ev α β γ c-cr a b c*ev α β γ d:=by unfold cr ev;grind
   generalize cr c d a=A at *
   generalize cr c d b=B at *
   generalize cr a b c=U at *
   generalize cr a b d=V at *
   generalize ev α β γ a=x at *
   generalize ev α β γ b=y at *
   generalize ev α β γ c=z at *
   generalize ev α β γ d=t at *
   rcases hc.2 with⟨p1,p2⟩|⟨p1,p2⟩
   ·have q1:=Int.mul_pos (show 0 < -A by omega) (show 0 < -y by omega)
    have q2:=Int.mul_pos p2 (show 0 < -x by omega)
    rw[Int.neg_mul_neg] at q1
    rw[Int.mul_neg] at q2
    have q3:=Int.mul_pos (show 0 < -V by omega) h3
    have q4:=Int.mul_pos (show 0<U by omega) h4
    rw[Int.neg_mul] at q3
    omega
   ·have q1:=Int.mul_pos p1 (show 0 < -y by omega)
    have q2:=Int.mul_pos (show 0 < -B by omega) (show 0 < -x by omega)
    rw[Int.neg_mul_neg] at q2
    rw[Int.mul_neg] at q1
    have q3:=Int.mul_pos (show 0<V by omega) h3
    have q4:=Int.mul_pos (show 0 < -U by omega) h4
    rw[Int.neg_mul] at q4
    omega
  ·have:=xC hm h3 h4
   omega
  ·have:=xC hm h3 h4
   omega
  ·have:=mM hm h1 h2
   omega
  ·have:=mM hm h1 h2
   omega
theorem Sep.left {a b c d:Pt}(h1:0<cr a b c)(h2:0<cr a b d):Sep a b c d:=by
 have e:∀t p,ev (-2*(b.2-a.2)) (2*(b.1-a.1)) (-2*(b.1-a.1)*a.2+2*(b.2-a.2)*a.1-t) p=2*cr a b p-t:=fun t p=>by unfold ev cr;grind
 have ea:cr a b a=0:=by unfold cr;grind
 have eb:cr a b b=0:=by unfold cr;grind
 refine⟨-2*(b.2-a.2),2*(b.1-a.1),-2*(b.1-a.1)*a.2+2*(b.2-a.2)*a.1-1,?_,?_,?_,?_⟩
 ·rw[e,ea];omega
 ·rw[e,eb];omega
 ·rw[e];omega
 ·rw[e];omega
theorem Sep.right {a b c d:Pt}(h1:cr a b c<0)(h2:cr a b d<0):Sep a b c d:=by
 refine (Sep.left ?_ ?_).adG
 ·rw[nZ];omega
 ·rw[nZ];omega
def al (a b p:Pt):Int:=(b.1-a.1)*(p.1-a.1)+(b.2-a.2)*(p.2-a.2)
theorem QF {a b p:Pt}(h:cr a b p=0)(h1:0<=al a b p)(h2:al a b p<=al a b b)(hne:a≠b):eG p a b=true:=by
 have hL:0<al a b b:=by
  have:al a b b=jb a b:=rfl
  rw[this]
  exact xe fun e=>hne e.symm
 have e1:al a b b*(p.1-a.1)=al a b p*(b.1-a.1):=by unfold al;unfold cr at h;grind
 have e2:al a b b*(p.2-a.2)=al a b p*(b.2-a.2):=by unfold al;unfold cr at h;grind
 have btw:∀x y:Int,al a b b*x=al a b p*y->(0<=y->0<=x/\x<=y)/\(y<=0->y<=x/\x<=0):=by
  intro x y e
  constructor
  ·intro hy
   have p1:=Int.mul_nonneg h1 hy
   have p2:=Int.mul_le_mul_of_nonneg_right h2 hy
   constructor
   ·rcases Int.lt_or_le x 0 with h|h
    ·have:=(gJ hL).2 h
     omega
    ·exact h
   ·exact (jo hL).1 (by omega)
  ·intro hy
   have p1:=qU hy h1
   rw[Int.mul_comm] at p1
   have p2:=Int.mul_le_mul_of_nonneg_right h2 (show 0<=-y by omega)
   rw[Int.mul_neg,Int.mul_neg] at p2
   constructor
   ·exact (jo hL).1 (by omega)
   ·rcases Int.lt_or_le 0 x with h|h
    ·have:=(iF hL).2 h
     omega
    ·exact h
 have b1:=btw _ _ e1
 have b2:=btw _ _ e2
 rw[dB]
 refine⟨h,?_,?_⟩
 ·rcases Int.le_total 0 (b.1-a.1) with h3|h3
  ·have:=b1.1 h3;omega
  ·have:=b1.2 h3;omega
 ·rcases Int.le_total 0 (b.2-a.2) with h3|h3
  ·have:=b2.1 h3;omega
  ·have:=b2.2 h3;omega
theorem DV {a b c d:Pt}(hne:a≠b)(hc:cr a b c=0)(hd:cr a b d=0)(hm:bC a b c d=false):Sep a b c d:=by
 obtain⟨_,ha,_,hcn,hdn⟩:=mi hm
 have hL:0<al a b b:=by
  have:al a b b=jb a b:=rfl
  rw[this]
  exact xe fun e=>hne e.symm
 have c1:al a b c<0\/al a b b<al a b c:=by
  rcases Int.lt_or_le (al a b c) 0 with h|h
  ·exact .inl h
  ·rcases Int.lt_or_le (al a b b) (al a b c) with h2|h2
   ·exact .inr h2
   ·rw[QF hc h h2 hne] at hcn;cases hcn
 have d1:al a b d<0\/al a b b<al a b d:=by
  rcases Int.lt_or_le (al a b d) 0 with h|h
  ·exact .inl h
  ·rcases Int.lt_or_le (al a b b) (al a b d) with h2|h2
   ·exact .inr h2
   ·rw[QF hd h h2 hne] at hdn;cases hdn
 have e:∀s t p,ev (s*(b.1-a.1)) (s*(b.2-a.2)) (s*(-(b.1-a.1)*a.1-(b.2-a.2)*a.2)-t) p=s*al a b p-t:=fun s t p=>by unfold ev al;grind
 have ea:al a b a=0:=by unfold al;grind
 have opp:∀c d:Pt,cr a b c=0->cr a b d=0->al a b c<0->al a b b<al a b d->eG a c d=false->False:=by
  intro c d hc hd x y hn
  have hcd:c≠d:=fun e=>by rw[e] at x;omega
  have z1:cr c d a=0:=by
   have:al a b b*cr c d a=0:=by
    have:al a b b*cr c d a=al a b c*cr a b d-al a b d*cr a b c:=by unfold al cr;grind
    rw[this,hc,hd];simp
   exact (nH hL).1 this
  have k1:al a b b*al c d a=-al a b c*(al a b d-al a b c):=by unfold al;unfold cr at hc hd;grind
  have k2:al a b b*al c d d=(al a b d-al a b c)*(al a b d-al a b c):=by unfold al;unfold cr at hc hd;grind
  have x1:=Int.mul_pos (show 0 < -al a b c by omega) (show 0<al a b d-al a b c by omega)
  have w1:0<al c d a:=(iF hL).1 (by omega)
  have x2:=Int.mul_pos (show 0<al a b d by omega) (show 0<al a b d-al a b c by omega)
  have w2:al c d a<=al c d d:=by
   refine (jo hL).1 ?_
   rw[k1,k2]
   have:(al a b d-al a b c)*(al a b d-al a b c)=al a b d*(al a b d-al a b c)+-al a b c*(al a b d-al a b c):=by grind
   omega
  rw[QF z1 (by omega) w2 hcd] at hn
  cases hn
 rcases c1 with c1|c1<;>rcases d1 with d1|d1
 ·refine⟨(-2)*(b.1-a.1),(-2)*(b.2-a.2),(-2)*(-(b.1-a.1)*a.1-(b.2-a.2)*a.2)-1,?_,?_,?_,?_⟩
  ·rw[e,ea];omega
  ·rw[e];omega
  ·rw[e];omega
  ·rw[e];omega
 ·exact (opp c d hc hd c1 d1 ha).elim
 ·exact (opp d c hd hc d1 c1 (by rw[jI];exact ha)).elim
 ·refine⟨2*(b.1-a.1),2*(b.2-a.2),2*(-(b.1-a.1)*a.1-(b.2-a.2)*a.2)-(2*al a b b+1),?_,?_,?_,?_⟩
  ·rw[e,ea];omega
  ·rw[e];omega
  ·rw[e];omega
  ·rw[e];omega
theorem CY {a b c d:Pt}(hc:cr a b c=0)(hd:cr a b d≠0)(hcn:eG c a b=false):Sep a b c d:=by
 have hne:a≠b:=fun e=>hd (by rw[e];unfold cr;grind)
 have hL:0<al a b b:=by
  have:al a b b=jb a b:=rfl
  rw[this]
  exact xe fun e=>hne e.symm
 have k1:al a b b*cr c d a=al a b c*cr a b d:=by unfold al;unfold cr at hc ⊢;grind
 have k2:al a b b*cr c d b=(al a b c-al a b b)*cr a b d:=by unfold al;unfold cr at hc ⊢;grind
 have c1:al a b c<0\/al a b b<al a b c:=by
  rcases Int.lt_or_le (al a b c) 0 with h|h
  ·exact .inl h
  ·rcases Int.lt_or_le (al a b b) (al a b c) with h2|h2
   ·exact .inr h2
   ·rw[QF hc h h2 hne] at hcn;cases hcn
 have pp:∀x y:Int,0<x->0<y->0<x*y:=fun x y=>Int.mul_pos
 have pn:∀x y:Int,0<x->y<0->x*y<0:=fun x y hx hy=>(gJ hx).2 hy
 have np:∀x y:Int,x<0->0<y->x*y<0:=fun x y hx hy=>by rw[Int.mul_comm];exact pn y x hy hx
 have nn:∀x y:Int,x<0->y<0->0<x*y:=fun x y hx hy=>by have:=pp (-x) (-y) (by omega) (by omega);rwa [Int.neg_mul_neg] at this
 rcases Int.lt_or_gt_of_ne hd with d1|d1<;>rcases c1 with c1|c1
 ·exact (Sep.left ((iF hL).1 (by rw[k1];exact nn _ _ c1 d1)) ((iF hL).1 (by rw[k2];exact nn _ _ (by omega) d1))).symm
 ·exact (Sep.right ((gJ hL).1 (by rw[k1];exact pn _ _ (by omega) d1)) ((gJ hL).1 (by rw[k2];exact pn _ _ (by omega) d1))).symm
 ·exact (Sep.right ((gJ hL).1 (by rw[k1];exact np _ _ c1 d1)) ((gJ hL).1 (by rw[k2];exact np _ _ (by omega) d1))).symm
 ·exact (Sep.left ((iF hL).1 (by rw[k1];exact pp _ _ (by omega) d1)) ((iF hL).1 (by rw[k2];exact pp _ _ (by omega) d1))).symm
theorem rG {a b c d:Pt}(hm:bC a b c d=false):Sep a b c d:=by
 obtain⟨hc,ha,hb,hcn,hdn⟩:=mi hm
 by_cases u0:cr a b c=0
 ·by_cases v0:cr a b d=0
  ·by_cases hab:a=b
   ·subst hab
    by_cases a0:cr c d a=0
    ·by_cases hcd:c=d
     ·subst hcd
      have hne:a≠c:=fun e=>by rw[e,kQ] at ha;cases ha
      have hs:=xe (p:=a) (q:=c) fun e=>hne e.symm
      have e:∀p,ev (2*(c.1-a.1)) (2*(c.2-a.2)) (2*(-(c.1-a.1)*a.1-(c.2-a.2)*a.2)-jb a c) p=2*al a c p-jb a c:=fun p=>by unfold ev al;grind
      have e1:al a c a=0:=by unfold al;grind
      have e2:al a c c=jb a c:=rfl
      exact⟨2*(c.1-a.1),2*(c.2-a.2),2*(-(c.1-a.1)*a.1-(c.2-a.2)*a.2)-jb a c,by rw[e,e1];omega,by rw[e,e1];omega,by rw[e,e2];omega,by rw[e,e2];omega⟩
     ·exact (DV hcd a0 a0 (by rw[iG];exact hm)).symm
    ·rcases Int.lt_or_gt_of_ne a0 with h|h
     ·exact (Sep.right h h).symm
     ·exact (Sep.left h h).symm
   ·exact DV hab u0 v0 hm
  ·exact CY u0 v0 hcn
 ·by_cases v0:cr a b d=0
  ·exact (CY v0 u0 hdn).swap2
  ·by_cases a0:cr c d a=0
   ·by_cases b0:cr c d b=0
    ·by_cases hcd:c=d
     ·subst hcd
      rcases Int.lt_or_gt_of_ne u0 with h|h
      ·exact Sep.right h h
      ·exact Sep.left h h
     ·exact (DV hcd a0 b0 (by rw[iG];exact hm)).symm
    ·exact (CY a0 b0 ha).symm
   ·by_cases b0:cr c d b=0
    ·exact (CY b0 a0 hb).swap2.symm
    ·
     have hcut:¬ (((cr a b c<0/\0<cr a b d)\/(0<cr a b c/\cr a b d<0))/\((cr c d a<0/\0<cr c d b)\/(0<cr c d a/\cr c d b<0))):=fun h=>by
      rw[ed.2 h] at hc
      cases hc
     rcases Int.lt_or_gt_of_ne u0 with u1|u1<;>rcases Int.lt_or_gt_of_ne v0 with v1|v1
     ·exact Sep.right u1 v1
     ·rcases Int.lt_or_gt_of_ne a0 with a1|a1<;>rcases Int.lt_or_gt_of_ne b0 with b1|b1
      ·exact (Sep.right a1 b1).symm
      ·exact absurd ⟨.inl ⟨u1,v1⟩,.inl ⟨a1,b1⟩⟩ hcut
      ·exact absurd ⟨.inl ⟨u1,v1⟩,.inr ⟨a1,b1⟩⟩ hcut
      ·exact (Sep.left a1 b1).symm
     ·rcases Int.lt_or_gt_of_ne a0 with a1|a1<;>rcases Int.lt_or_gt_of_ne b0 with b1|b1
      ·exact (Sep.right a1 b1).symm
      ·exact absurd ⟨.inr ⟨u1,v1⟩,.inl ⟨a1,b1⟩⟩ hcut
      ·exact absurd ⟨.inr ⟨u1,v1⟩,.inr ⟨a1,b1⟩⟩ hcut
      ·exact (Sep.left a1 b1).symm
     ·exact Sep.left u1 v1
def Ev (P:Int->Prop):Prop:=∃N0:Int,∀N,N0<=N->P N
theorem Ev.mono {P Q:Int->Prop}(h:Ev P)(hi:∀N,P N->Q N):Ev Q:=by
 obtain⟨N0,h⟩:=h
 exact⟨N0,fun N hN=>hi N (h N hN)⟩
theorem Ev.and {P Q:Int->Prop}(h:Ev P)(k:Ev Q):Ev fun N=>P N/\Q N:=by
 obtain⟨N0,h⟩:=h
 obtain⟨N1,k⟩:=k
 exact⟨max N0 N1,fun N hN=>⟨h N (by omega),k N (by omega)⟩⟩
theorem Ev.const {p:Prop}(h:p):Ev fun _=>p:=⟨0,fun _ _=>h⟩
theorem Ev.ge (M:Int):Ev fun N=>M<=N:=⟨M,fun _ h=>h⟩
theorem Ev.all {P:Nat->Int->Prop}:∀n:Nat,(∀i,i<n->Ev (P i))->Ev fun N=>∀i,i<n->P i N
 | 0,_=>⟨0,fun _ _ i hi=>by omega⟩
 | n+1,h=>((Ev.all n (fun i hi=>h i (by omega))).and (h n (by omega))).mono fun N ⟨a,b⟩ i hi=>by
  by_cases e:i=n
  ·subst e;exact b
  ·exact a i (by omega)
theorem Ev.kF {A:Int}(h:0<A)(B:Int):Ev fun N=>0<N*A+B:=by
 refine⟨B.natAbs+1,fun N hN=>?_⟩
 have:=Int.mul_le_mul_of_nonneg_left (show (1:Int)<=A by omega) (show 0<=N by omega)
 omega
theorem Ev.Rq {A:Int}(h:0<A)(B C:Int):Ev fun N=>0<N*N*A+N*B+C:=by
 refine⟨B.natAbs+C.natAbs+2,fun N hN=>?_⟩
 have h1:=Int.mul_le_mul_of_nonneg_left (show (1:Int)<=A by omega) (show 0<=N by omega)
 have h2:C.natAbs+1<=N*A+B:=by omega
 have h3:=Int.mul_le_mul_of_nonneg_left h2 (show 0<=N by omega)
 have h4:=Int.mul_le_mul_of_nonneg_right (show (1:Int)<=N by omega) (show (0:Int)<=C.natAbs+1 by omega)
 have e:N*N*A+N*B+C=N*(N*A+B)+C:=by grind
 omega
theorem Ev.ad1 {A B:Int}{f:Int->Int}(h:0<A)(e:∀N,f N=N*A+B):Ev fun N=>0<f N:=(Ev.kF h B).mono fun N h=>by rw[e];exact h
theorem Ev.aaQ {A B C:Int}{f:Int->Int}(h:0<A)(e:∀N,f N=N*N*A+N*B+C):Ev fun N=>0<f N:=(Ev.Rq h B C).mono fun N h=>by rw[e];exact h
def nr (N:Int)(p m:Pt):Pt:=(N*p.1+m.1,N*p.2+m.2)
theorem G5 (α β γ N:Int)(p m:Pt):ev α β (N*γ) (nr N p m)=N*ev α β γ p+(α*m.1+β*m.2):=by unfold ev nr;grind
theorem Sep.near {a b c d:Pt}(h:Sep a b c d)(m1 m2 m3 m4:Pt):Ev fun N=>Sep (nr N a m1) (nr N b m2) (nr N c m3) (nr N d m4):=by
 obtain⟨α,β,γ,h1,h2,h3,h4⟩:=h
 have e1:=Ev.kF (show 0 < -ev α β γ a by omega) (-(α*m1.1+β*m1.2))
 have e2:=Ev.kF (show 0 < -ev α β γ b by omega) (-(α*m2.1+β*m2.2))
 have e3:=Ev.kF h3 (α*m3.1+β*m3.2)
 have e4:=Ev.kF h4 (α*m4.1+β*m4.2)
 refine ((e1.and e2).and (e3.and e4)).mono fun N h=>?_
 obtain⟨⟨h1,h2⟩,h3,h4⟩:=h
 refine⟨α,β,N*γ,?_,?_,?_,?_⟩
 ·rw[G5];rw[Int.mul_neg] at h1;omega
 ·rw[G5];rw[Int.mul_neg] at h2;omega
 ·rw[G5];omega
 ·rw[G5];omega
def mv (a b c:Pt):Pt:=if 0<cr a b c then (2*b.1-a.1-c.1,2*b.2-a.2-c.2) else (a.1+c.1-2*b.1,a.2+c.2-2*b.2)
theorem jP (N:Int)(p:Pt):nr N p (0,0)=sc N p:=by unfold nr sc;simp
section
variable {a b c d:Pt} (h1:cr a b c≠0) (h2:cr b c d≠0)
theorem UZ (a b c d:Pt)(h1:cr a b c≠0)(h2:cr b c d≠0):Ev fun N=>Sep (nr N b (mv a b c)) (nr N c (mv b c d)) (sc N b) (sc N c):=by
 have e1:∀N,cr (sc N b) (sc N c) (nr N b (mv a b c))=N*(if 0<cr a b c then -cr a b c else cr a b c):=by
  intro N
  unfold mv
  split<;>(unfold nr sc cr;grind)
 have e2:∀N,cr (sc N b) (sc N c) (nr N c (mv b c d))=N*(if 0<cr b c d then -cr b c d else cr b c d):=by
  intro N
  unfold mv
  split<;>(unfold nr sc cr;grind)
 refine (Ev.ge 1).mono fun N hN=>(Sep.right ?_ ?_).symm
 ·rw[e1,gJ (show 0<N by omega)]
  split<;>omega
 ·rw[e2,gJ (show 0<N by omega)]
  split<;>omega
theorem Q9 (a b c d:Pt)(h1:cr a b c≠0):Ev fun N=>Sep (nr N b (mv a b c)) (nr N c (mv b c d)) (sc N a) (sc N b):=by
 obtain⟨m,hm⟩:∃m,mv b c d=m:=⟨_,rfl⟩
 rw[hm]
 unfold mv
 by_cases ht:0<cr a b c
 ·rw[if_pos ht]
  have e1:∀N,cr (nr N b (2*b.1-a.1-c.1,2*b.2-a.2-c.2)) (nr N c m) (sc N b)=N*cr a b c+(-(m.1*(2*b.2-a.2-c.2)-m.2*(2*b.1-a.1-c.1))):=by intro N;unfold nr sc cr;grind
  have e2:∀N,cr (nr N b (2*b.1-a.1-c.1,2*b.2-a.2-c.2)) (nr N c m) (sc N a)=N*N*cr a b c+N*(cr a b c-((m.1-(2*b.1-a.1-c.1))*(b.2-a.2)-(m.2-(2*b.2-a.2-c.2))*(b.1-a.1)))+(-(m.1*(2*b.2-a.2-c.2)-m.2*(2*b.1-a.1-c.1))):=by intro N;unfold nr sc cr;grind
  exact ((Ev.ad1 ht e1).and (Ev.aaQ ht e2)).mono fun N h=>Sep.left h.2 h.1
 ·rw[if_neg ht]
  have hn:0 < -cr a b c:=by omega
  have e1:∀N,cr (sc N a) (sc N b) (nr N b (a.1+c.1-2*b.1,a.2+c.2-2*b.2))=-(N*-cr a b c):=by intro N;unfold nr sc cr;grind
  have e2:∀N,cr (sc N a) (sc N b) (nr N c m)=-(N*N*-cr a b c+N*(-((b.1-a.1)*m.2-(b.2-a.2)*m.1))+0):=by intro N;unfold nr sc cr;grind
  refine ((Ev.ge 1).and (Ev.Rq hn (-((b.1-a.1)*m.2-(b.2-a.2)*m.1)) 0)).mono fun N h=>(Sep.right ?_ ?_).symm
  ·rw[e1]
   have:=(iF (show 0<N by omega)).2 hn
   omega
  ·rw[e2]
   omega
theorem Q8 (a b c d:Pt)(h2:cr b c d≠0):Ev fun N=>Sep (nr N b (mv a b c)) (nr N c (mv b c d)) (sc N c) (sc N d):=by
 obtain⟨m,hm⟩:∃m,mv a b c=m:=⟨_,rfl⟩
 rw[hm]
 unfold mv
 by_cases ht:0<cr b c d
 ·rw[if_pos ht]
  have e1:∀N,cr (nr N b m) (nr N c (2*c.1-b.1-d.1,2*c.2-b.2-d.2)) (sc N c)=N*cr b c d+(m.1*(2*c.2-b.2-d.2)-m.2*(2*c.1-b.1-d.1)):=by intro N;unfold nr sc cr;grind
  have e2:∀N,cr (nr N b m) (nr N c (2*c.1-b.1-d.1,2*c.2-b.2-d.2)) (sc N d)=N*N*cr b c d+N*(cr b c d+(((2*c.1-b.1-d.1)-m.1)*(d.2-c.2)-((2*c.2-b.2-d.2)-m.2)*(d.1-c.1)))+(m.1*(2*c.2-b.2-d.2)-m.2*(2*c.1-b.1-d.1)):=by intro N;unfold nr sc cr;grind
  exact ((Ev.ad1 ht e1).and (Ev.aaQ ht e2)).mono fun N h=>Sep.left h.1 h.2
 ·rw[if_neg ht]
  have hn:0 < -cr b c d:=by omega
  have e1:∀N,cr (sc N c) (sc N d) (nr N c (b.1+d.1-2*c.1,b.2+d.2-2*c.2))=-(N*-cr b c d):=by intro N;unfold nr sc cr;grind
  have e2:∀N,cr (sc N c) (sc N d) (nr N b m)=-(N*N*-cr b c d+N*(-((d.1-c.1)*m.2-(d.2-c.2)*m.1))+0):=by intro N;unfold nr sc cr;grind
  refine ((Ev.ge 1).and (Ev.Rq hn (-((d.1-c.1)*m.2-(d.2-c.2)*m.1)) 0)).mono fun N h=>(Sep.right ?_ ?_).symm
  ·rw[e2]
   omega
  ·rw[e1]
   have:=(iF (show 0<N by omega)).2 hn
   omega
end
structure Simp (ps:List Pt):Prop where
 len:3<=ps.length
 vw:∀i,cr (ah ps i) (ah ps (i+1)) (ah ps (i+2))≠0
 far:∀i k,i<ps.length->k<ps.length->k≠i->k≠(i+1)%ps.length->i≠(k+1)%ps.length->bC (ah ps i) (ah ps (i+1)) (ah ps k) (ah ps (k+1))=false
theorem fE {ps:List Pt}{i k:Nat}(h:i%ps.length=k%ps.length):ah ps i=ah ps k:=by rw[dV,h,<-dV]
theorem Jo (ps:List Pt)(i:Nat):ah ps (i+ps.length)=ah ps i:=fE (Nat.add_mod_right _ _)
theorem YL {ps:List Pt}(h:dm ps=true):Simp ps:=by
 have hp:=jH h
 refine⟨by omega,fun i=>?_,fun i k hi hk h1 h2 h3=>?_⟩
 ·have hv:=PI h (i:=(i+1)%ps.length) (Nat.mod_lt _ (by omega))
  unfold mQ tn at hv
  simp only[Bool.not_eq_true',Bool.or_eq_false_iff,beq_eq_false_iff_ne,ne_eq,CX] at hv
  have e1:ah ps ((i+1)%ps.length+ps.length-1)=ah ps i:=fE (by
   rw[show (i+1)%ps.length+ps.length-1=(i+1)%ps.length+(ps.length-1) by omega,Nat.mod_add_mod,show i+1+(ps.length-1)=i+ps.length by omega,Nat.add_mod_right])
  have e2:ah ps ((i+1)%ps.length)=ah ps (i+1):=(dV _ _).symm
  have e3:ah ps ((i+1)%ps.length+1)=ah ps (i+2):=fE (by rw[Nat.mod_add_mod])
  rw[e1,e2,e3] at hv
  exact hv.2
 ·have go:∀i k,i<k->k<ps.length->k≠(i+1)%ps.length->i≠(k+1)%ps.length->bC (ah ps i) (ah ps (i+1)) (ah ps k) (ah ps (k+1))=false:=by
   intro i k hik hk h2 h3
   have hs:jh ps=true:=by
    unfold dm at h
    simp only[Bool.and_eq_true] at h
    exact h.2.2.1
   unfold jh at hs
   have h4:=List.all_eq_true.1 hs i (List.mem_range.2 (by omega))
   unfold rowOk at h4
   have h5:=List.all_eq_true.1 h4 k (List.mem_range.2 hk)
   unfold nM at h5
   rw[Nat.mod_eq_of_lt (by omega)] at h2
   have h6:¬ (i=0/\k+1=ps.length):=fun ⟨a,b⟩=>h3 (by rw[b,Nat.mod_self,a])
   simpa[show ¬ k<=i+1 by omega,h6] using h5
  rcases Nat.lt_trichotomy i k with h9|h9|h9
  ·exact go i k h9 hk h2 h3
  ·exact absurd h9.symm h1
  ·rw[<-iG]
   exact go k i h9 hi h3 h2
theorem Simp.sc {ps:List Pt}(h:Simp ps){d:Int}(hd:0<d):Simp (ps.map (sc d)):=by
 refine⟨by rw[List.length_map];exact h.len,fun i=>?_,fun i k=>?_⟩
 ·rw[aH,aH,aH,wI]
  intro h0
  exact h.vw i ((nH (yF hd)).1 h0)
 ·rw[List.length_map,aH,aH,aH,aH,zk hd]
  exact h.far i k
def side (N:Int)(ps:List Pt):List Pt:=(List.range ps.length).map fun i=>nr N (ah ps i) (mv (ah ps (i+ps.length-1)) (ah ps i) (ah ps (i+1)))
theorem ji (N:Int)(ps:List Pt):(side N ps).length=ps.length:=by unfold side;simp
theorem wL {ps:List Pt}(h:0<ps.length)(N:Int)(i:Nat):ah (side N ps) (i+1)=nr N (ah ps (i+1)) (mv (ah ps i) (ah ps (i+1)) (ah ps (i+2))):=by
 have hj:(i+1)%ps.length<ps.length:=Nat.mod_lt _ h
 rw[show ah (side N ps) (i+1)=ah (side N ps) ((i+1)%ps.length) by rw[dV,ji]]
 have:(side N ps)[(i+1)%ps.length]?=some (ah (side N ps) ((i+1)%ps.length)):=gV (by rw[ji];exact hj)
 unfold side at this ⊢
 rw[List.getElem?_map,List.getElem?_range hj,Option.map_some] at this
 have:=Option.some.inj this
 rw[<-this]
 have e1:ah ps ((i+1)%ps.length+ps.length-1)=ah ps i:=fE (by
  rw[show (i+1)%ps.length+ps.length-1=(i+1)%ps.length+(ps.length-1) by omega,Nat.mod_add_mod,show i+1+(ps.length-1)=i+ps.length by omega,Nat.add_mod_right])
 have e2:ah ps ((i+1)%ps.length)=ah ps (i+1):=(dV _ _).symm
 have e3:ah ps ((i+1)%ps.length+1)=ah ps (i+2):=fE (by rw[Nat.mod_add_mod])
 rw[e1,e2,e3]
theorem JV {ps:List Pt}(h:Simp ps):Ev fun N=>∀i,i<ps.length->∀k,k<ps.length->Sep (ah (side N ps) (i+1)) (ah (side N ps) (i+2)) (sc N (ah ps k)) (sc N (ah ps (k+1))):=by
 have hl:=h.len
 refine Ev.all ps.length (P:=fun i N=>∀k,k<ps.length->Sep (ah (side N ps) (i+1)) (ah (side N ps) (i+2)) (sc N (ah ps k)) (sc N (ah ps (k+1)))) fun i hi=>?_
 refine Ev.all ps.length (P:=fun k N=>Sep (ah (side N ps) (i+1)) (ah (side N ps) (i+2)) (sc N (ah ps k)) (sc N (ah ps (k+1)))) fun k hk=>?_
 have e1:=fun N=>wL (ps:=ps) (by omega) N i
 have e2:=fun N=>wL (ps:=ps) (by omega) N (i+1)
 have b1:=h.vw i
 have b2:=h.vw (i+1)
 by_cases c1:k=(i+1)%ps.length
 ·have f1:ah ps k=ah ps (i+1):=by rw[c1,<-dV]
  have f2:ah ps (k+1)=ah ps (i+2):=fE (by rw[c1,Nat.mod_add_mod])
  rw[f1,f2]
  refine (UZ _ _ _ _ b1 b2).mono fun N hN=>?_
  rw[e1,e2]
  exact hN
 by_cases c2:k=i
 ·rw[c2]
  refine (Q9 _ (ah ps (i+1)) _ (ah ps (i+3)) b1).mono fun N hN=>?_
  rw[e1,e2]
  exact hN
 by_cases c3:k=(i+2)%ps.length
 ·have f1:ah ps k=ah ps (i+2):=by rw[c3,<-dV]
  have f2:ah ps (k+1)=ah ps (i+3):=fE (by rw[c3,Nat.mod_add_mod])
  rw[f1,f2]
  refine (Q8 (ah ps i) (ah ps (i+1)) _ _ b2).mono fun N hN=>?_
  rw[e1,e2]
  exact hN
 have f1:ah ps ((i+1)%ps.length)=ah ps (i+1):=(dV _ _).symm
 have f2:ah ps ((i+1)%ps.length+1)=ah ps (i+2):=fE (by rw[Nat.mod_add_mod])
 have hm:=h.far ((i+1)%ps.length) k (Nat.mod_lt _ (by omega)) hk c1 (by rw[Nat.mod_add_mod];exact c3) (fun e=>c2 (by
  have:(i+1)%ps.length=(k+1)%ps.length:=e
  rcases Nat.lt_or_ge (i+1) ps.length with x|x<;>rcases Nat.lt_or_ge (k+1) ps.length with y|y
  ·rw[Nat.mod_eq_of_lt x,Nat.mod_eq_of_lt y] at this;omega
  ·rw[Nat.mod_eq_of_lt x,show k+1=ps.length by omega,Nat.mod_self] at this;omega
  ·rw[Nat.mod_eq_of_lt y,show i+1=ps.length by omega,Nat.mod_self] at this;omega
  ·omega))
 rw[f1,f2] at hm
 refine ((rG hm).near (mv (ah ps i) (ah ps (i+1)) (ah ps (i+2))) (mv (ah ps (i+1)) (ah ps (i+2)) (ah ps (i+3))) (0,0) (0,0)).mono fun N hN=>?_
 rw[jP,jP] at hN
 rw[e1,e2]
 exact hN
theorem rX {ps qs:List Pt}(hn:0<qs.length)(hm:∀i,i<ps.length->∀k,k<qs.length->bC (ah ps i) (ah ps (i+1)) (ah qs k) (ah qs (k+1))=false):∀k,wn ps (ah qs k)=wn ps (ah qs 0):=by
 have go:∀k,k<qs.length->wn ps (ah qs k)=wn ps (ah qs 0):=by
  intro k
  induction k with
  | zero=>intro _;rfl
  | succ k ih =>
   intro hk
   rw[<-ih (by omega)]
   exact (mP fun i hi=>by rw[iG];exact hm i hi k (by omega)).symm
 intro k
 rw[dV]
 exact go _ (Nat.mod_lt _ hn)
theorem xh {ps:List Pt}(h:Simp ps):Ev fun N=>∀i,i<ps.length->∀k,k<(side N ps).length->bC (ah (ps.map (sc N)) i) (ah (ps.map (sc N)) (i+1)) (ah (side N ps) k) (ah (side N ps) (k+1))=false:=by
 have hl:=h.len
 refine (JV h).mono fun N hN i hi k hk=>?_
 rw[ji] at hk
 rw[aH,aH,iG]
 obtain⟨k',hk',e⟩:∃k',k'<ps.length/\(k'+1)%ps.length=k:=by
  rcases Nat.eq_zero_or_pos k with h0|h0
  ·exact⟨ps.length-1,by omega,by rw[show ps.length-1+1=ps.length by omega,Nat.mod_self,h0]⟩
  ·exact⟨k-1,by omega,by rw[show k-1+1=k by omega,Nat.mod_eq_of_lt hk]⟩
 have f1:ah (side N ps) k=ah (side N ps) (k'+1):=fE (by rw[ji,<-e,Nat.mod_mod])
 have f2:ah (side N ps) (k+1)=ah (side N ps) (k'+2):=fE (by rw[ji,<-e,Nat.mod_add_mod])
 rw[f1,f2]
 exact (hN k' hk' i hi).mY
def gp (q:Pt)(up:Bool)(p:Pt):Int:=if up=true then rF (decide (p.2<=q.2)) else 0
theorem EL {α β γ:Int}{q a b:Pt}(ha:ev α β γ a<0)(hb:ev α β γ b<0)(hq:0<ev α β γ q):cw q a b=gp q (decide (α<0)) a-gp q (decide (α<0)) b:=by
 have up:∀a b:Pt,ev α β γ a<0->ev α β γ b<0->a.2<=b.2->cw q a b=gp q (decide (α<0)) a-gp q (decide (α<0)) b:=by
  intro a b ha hb hab
  rw[zL hab,dL hab]
  have key:(b.2-a.2)*ev α β γ q=(b.2-q.2)*ev α β γ a+(q.2-a.2)*ev α β γ b+-α*cr a b q:=by unfold ev cr;grind
  by_cases h:a.2<=q.2/\q.2<b.2
  ·have k1:=Int.mul_pos (show 0<b.2-a.2 by omega) hq
   have k2:=(gJ (show 0<b.2-q.2 by omega)).2 ha
   have k3:=qU (Int.le_of_lt hb) (show 0<=q.2-a.2 by omega)
   rw[Int.mul_comm] at k3
   have k4:0 < -α*cr a b q:=by omega
   rw[decide_eq_true h,Bool.true_and]
   unfold gp
   rcases Int.lt_trichotomy α 0 with h1|h1|h1
   ·rw[Int.mul_comm] at k4
    have:=uh k4 (by omega)
    rw[decide_eq_true h1,decide_eq_true this,decide_eq_true h.1,decide_eq_false (show ¬ b.2<=q.2 by omega)]
    rfl
   ·rw[h1] at k4
    simp at k4
   ·have k5:¬ 0<cr a b q:=fun h9=>by
     have:=Int.mul_pos h1 h9
     rw[Int.neg_mul] at k4
     omega
    rw[decide_eq_false (show ¬ α<0 by omega),decide_eq_false k5]
    rfl
  ·rw[decide_eq_false h,Bool.false_and]
   unfold gp
   split
   ·rw[show decide (a.2<=q.2)=decide (b.2<=q.2) by rw[decide_eq_decide];omega,E8]
    omega
   ·rfl
 rcases Int.le_total a.2 b.2 with h|h
 ·exact up a b ha hb h
 ·have:=up b a hb ha h
  rw[rD]
  omega
theorem Ro {α β γ:Int}{q a b c d:Pt}(ha:ev α β γ a<0)(hb:ev α β γ b<0)(hc:ev α β γ c<0)(hd:ev α β γ d<0)(hq:0<ev α β γ q):cw q a b-cw q d c=cw q a d-cw q b c:=by
 rw[EL ha hb hq,EL hd hc hq,EL ha hd hq,EL hb hc hq]
 omega
theorem qp {q c d:Pt}(h:eG q c d=false):bC c d q q=false:=by
 unfold bC
 have h1:lG c d q q=false:=by
  cases hc:lG c d q q
  ·rfl
  ·rw[ed] at hc
   omega
 have h2:∀p,eG p q q=true->p=q:=by
  intro p hp
  rw[dB] at hp
  apply Prod.ext<;>omega
 have h3:eG c q q=false:=by
  cases hc:eG c q q
  ·rfl
  ·rw[<-h2 _ hc,kQ] at h
   cases h
 have h4:eG d q q=false:=by
  cases hc:eG d q q
  ·rfl
  ·rw[<-h2 _ hc,nN] at h
   cases h
 rw[h1,h,h3,h4]
 rfl
def kC (ps:List Pt)(q:Pt):Prop:=∀i,eG q (ah ps i) (ah ps (i+1))=false
theorem pq {ps:List Pt}{d:Int}(hd:0<d){q:Pt}:kC (ps.map (sc d)) (sc d q)↔kC ps q:=by
 unfold kC
 simp only[aH,mg hd]
theorem rC {α β γ:Int}{p:Pt}(h:ev α β γ p<0)(m:Pt):Ev fun N=>ev α β (N*γ) (nr N p m)<0 :=
 (Ev.kF (show 0 < -ev α β γ p by omega) (-(α*m.1+β*m.2))).mono fun N h=>by rw[G5];rw[Int.mul_neg] at h;omega
theorem Lh {α β γ:Int}{p:Pt}(h:0<ev α β γ p)(m:Pt):Ev fun N=>0<ev α β (N*γ) (nr N p m) :=
 (Ev.kF h (α*m.1+β*m.2)).mono fun N h=>by rw[G5];omega
theorem CW {ps:List Pt}(h:Simp ps){q:Pt}(hq:kC ps q):Ev fun N=>wn (side N ps) (sc N q)=wn ps q:=by
 have hl:=h.len
 have hx:Ev fun N=>∀i,i<ps.length->cw (sc N q) (sc N (ah ps (i+1))) (sc N (ah ps (i+2)))-cw (sc N q) (ah (side N ps) (i+1)) (ah (side N ps) (i+2))=cw (sc N q) (sc N (ah ps (i+1))) (ah (side N ps) (i+1))-cw (sc N q) (sc N (ah ps (i+2))) (ah (side N ps) (i+2)):=by
  refine Ev.all ps.length (P:=fun i N=>cw (sc N q) (sc N (ah ps (i+1))) (sc N (ah ps (i+2)))-cw (sc N q) (ah (side N ps) (i+1)) (ah (side N ps) (i+2))=cw (sc N q) (sc N (ah ps (i+1))) (ah (side N ps) (i+1))-cw (sc N q) (sc N (ah ps (i+2))) (ah (side N ps) (i+2))) fun i hi=>?_
  obtain⟨α,β,γ,h1,h2,h3,_⟩:=rG (qp (hq (i+1)))
  refine (((rC h1 (0,0)).and (rC h2 (0,0))).and (((rC h1 (mv (ah ps i) (ah ps (i+1)) (ah ps (i+2)))).and (rC h2 (mv (ah ps (i+1)) (ah ps (i+2)) (ah ps (i+3))))).and (Lh h3 (0,0)))).mono fun N hN=>?_
  obtain⟨⟨k1,k2⟩,⟨k3,k4⟩,k5⟩:=hN
  rw[jP] at k1 k2 k5
  rw[wL (by omega) N i,wL (by omega) N (i+1)]
  exact Ro k1 k2 k4 k3 k5
 refine (hx.and (Ev.ge 1)).mono fun N ⟨hN,h1⟩=>?_
 have hsh:∀ (rs:List Pt) (q:Pt),rs.length=ps.length->wn rs q=sumN (fun i=>cw q (ah rs (i+1)) (ah rs (i+2))) rs.length:=by
  intro rs q hr
  have:=pX (fun i=>cw q (ah rs i) (ah rs (i+1))) rs.length
  have e:sumN (fun i=>cw q (ah rs (i+1)) (ah rs (i+1+1))-cw q (ah rs i) (ah rs (i+1))) rs.length+wn rs q=sumN (fun i=>cw q (ah rs (i+1)) (ah rs (i+2))) rs.length:=by
   unfold wn
   rw[<-mW]
   exact dw _ fun i _=>by show cw q (ah rs (i+2-1)) (ah rs (i+2))-_+_=_;rw[show i+2-1=i+1 by omega];omega
  have e2:ah rs rs.length=ah rs 0:=uK rs
  have e3:ah rs (rs.length+1)=ah rs (0+1):=by rw[Nat.add_comm,<-Jo rs (0+1)]
  rw[e2,e3] at this
  omega
 have w1:wn ps q=sumN (fun i=>cw (sc N q) (sc N (ah ps (i+1))) (sc N (ah ps (i+2)))) ps.length:=by
  rw[hsh ps q rfl]
  exact dw _ fun i _=>(aba (by omega) _ _ _).symm
 have w2:=hsh (side N ps) (sc N q) (ji N ps)
 rw[ji] at w2
 rw[w1,w2]
 have t:=pX (fun i=>-cw (sc N q) (sc N (ah ps (i+1))) (ah (side N ps) (i+1))) ps.length
 have e:sumN (fun i=>-cw (sc N q) (sc N (ah ps (i+1+1))) (ah (side N ps) (i+1+1)) - -cw (sc N q) (sc N (ah ps (i+1))) (ah (side N ps) (i+1))) ps.length+sumN (fun i=>cw (sc N q) (ah (side N ps) (i+1)) (ah (side N ps) (i+2))) ps.length=sumN (fun i=>cw (sc N q) (sc N (ah ps (i+1))) (sc N (ah ps (i+2)))) ps.length:=by
  rw[<-mW]
  refine dw _ fun i hi=>?_
  have:=hN i hi
  show -cw (sc N q) (sc N (ah ps (i+2))) (ah (side N ps) (i+2)) - -cw (sc N q) (sc N (ah ps (i+1))) (ah (side N ps) (i+1))+cw (sc N q) (ah (side N ps) (i+1)) (ah (side N ps) (i+2))=_
  omega
 have e2:ah ps (ps.length+1)=ah ps (0+1):=by rw[Nat.add_comm,<-Jo ps (0+1)]
 have e3:ah (side N ps) (ps.length+1)=ah (side N ps) (0+1):=by
  have:=Jo (side N ps) (0+1)
  rw[ji] at this
  rw[<-this]
  congr 1
  omega
 rw[e2,e3] at t
 omega
theorem Ev.list {A:Type}{P:A->Int->Prop}:∀l:List A,(∀a,a∈l->Ev (P a))->Ev fun N=>∀a,a∈l->P a N
 | [],_=>⟨0,fun _ _ a ha=>by cases ha⟩
 | a::l,h=>((h a (List.mem_cons_self ..)).and (Ev.list l fun b hb=>h b (List.mem_cons_of_mem _ hb))).mono fun N ⟨x,y⟩ b hb=>by
  rcases List.mem_cons.1 hb with rfl|hb
  ·exact x
  ·exact y b hb
theorem Yr {ps:List Pt}(h:Simp ps)(l:List Pt)(hq:∀q,q∈l->kC ps q):∃K,∀q,q∈l->wn ps q*wn ps q=wn ps q*K:=by
 have hl:=h.len
 obtain⟨N0,hN⟩:=((xh h).and (Ev.ge 1)).and (Ev.list l fun q hx=>CW h (hq q hx))
 obtain⟨⟨hm,h1⟩,a⟩:=hN N0 (Int.le_refl _)
 have hm':∀i,i<(ps.map (sc N0)).length->∀k,k<(side N0 ps).length->bC (ah (ps.map (sc N0)) i) (ah (ps.map (sc N0)) (i+1)) (ah (side N0 ps) k) (ah (side N0 ps) (k+1))=false:=by
  intro i hi
  rw[List.length_map] at hi
  exact hm i hi
 have hα:=rX (ps:=ps.map (sc N0)) (qs:=side N0 ps) (by rw[ji];omega) hm'
 have hβ:=rX (ps:=side N0 ps) (qs:=ps.map (sc N0)) (by rw[List.length_map];omega) (fun i hi k hk=>by rw[iG];exact hm' k hk i hi)
 refine⟨wn (side N0 ps) (ah (ps.map (sc N0)) 0)+wn (ps.map (sc N0)) (ah (side N0 ps) 0),fun q hx=>?_⟩
 have:=pairs (q:=sc N0 q) hm' hβ hα
 rw[a q hx,qL (by omega)] at this
 rw[this,Int.mul_add]
theorem yM {f g:Nat->Int}{i:Nat}:∀n,i<n->(∀k,k<n->k≠i->f k=g k)->sumN f n=sumN g n+(f i-g i)
 | n+1,hi,h=>by
  unfold sumN
  by_cases e:i=n
  ·subst e
   rw[dw i (fun k hk=>h k (by omega) (by omega))]
   omega
  ·rw[yM n (by omega) (fun k hk hne=>h k (by omega) hne),h n (by omega) (fun x=>e x.symm)]
   omega
def md (a b:Pt):Pt:=(a.1+b.1,a.2+b.2)
def Ql (N:Int)(ps:List Pt):List Pt:=(ps.map (sc 2)).map (sc N)
theorem Jm (N:Int)(ps:List Pt):(Ql N ps).length=ps.length:=by unfold Ql;simp
theorem xE (N:Int)(ps:List Pt)(i:Nat):ah (Ql N ps) i=sc N (sc 2 (ah ps i)):=by unfold Ql;rw[aH,aH]
theorem Simp.Ql {ps:List Pt}(h:Simp ps){N:Int}(hN:0<N):Simp (Ql N ps):=(h.sc (d:=2) (by omega)).sc hN
def xr (a b f:Pt):Int:=(b.1-a.1)*f.2-(b.2-a.2)*f.1
theorem Oz (N:Int)(a b f:Pt):cr (sc N (sc 2 a)) (sc N (sc 2 b)) (nr N (md a b) f)=(2*N)*xr a b f:=by unfold cr sc nr md xr;grind
theorem YZ {ps:List Pt}(h:Simp ps){i k:Nat}(hi:i<ps.length)(hk:k<ps.length)(hne:k≠i):Sep (md (ah ps i) (ah ps (i+1))) (md (ah ps i) (ah ps (i+1))) (sc 2 (ah ps k)) (sc 2 (ah ps (k+1))):=by
 have hl:=h.len
 have adj:∀c d:Pt,cr (sc 2 c) (sc 2 d) (md (ah ps i) (ah ps (i+1)))≠0->Sep (md (ah ps i) (ah ps (i+1))) (md (ah ps i) (ah ps (i+1))) (sc 2 c) (sc 2 d):=by
  intro c d h0
  refine (rG (qp ?_)).symm
  cases ho:eG (md (ah ps i) (ah ps (i+1))) (sc 2 c) (sc 2 d)
  ·rfl
  ·exact absurd (dB.1 ho).1 h0
 by_cases c1:k=(i+1)%ps.length
 ·have f1:ah ps k=ah ps (i+1):=by rw[c1,<-dV]
  have f2:ah ps (k+1)=ah ps (i+2):=fE (by rw[c1,Nat.mod_add_mod])
  rw[f1,f2]
  refine adj _ _ ?_
  have e:cr (sc 2 (ah ps (i+1))) (sc 2 (ah ps (i+2))) (md (ah ps i) (ah ps (i+1)))=2*cr (ah ps i) (ah ps (i+1)) (ah ps (i+2)):=by unfold cr sc md;grind
  have:=h.vw i
  omega
 by_cases c2:i=(k+1)%ps.length
 ·have f1:ah ps i=ah ps (k+1):=by rw[c2,<-dV]
  have f2:ah ps (i+1)=ah ps (k+2):=fE (by rw[c2,Nat.mod_add_mod])
  rw[f1,f2] at adj ⊢
  refine adj _ _ ?_
  have e:cr (sc 2 (ah ps k)) (sc 2 (ah ps (k+1))) (md (ah ps (k+1)) (ah ps (k+2)))=2*cr (ah ps k) (ah ps (k+1)) (ah ps (k+2)):=by unfold cr sc md;grind
  have:=h.vw k
  omega
 ·obtain⟨α,β,γ,h1,h2,h3,h4⟩:=rG (h.far i k hi hk hne c1 c2)
  have e0:ev α β (2*γ) (md (ah ps i) (ah ps (i+1)))=ev α β γ (ah ps i)+ev α β γ (ah ps (i+1)):=by unfold ev md;grind
  have e1:∀p,ev α β (2*γ) (sc 2 p)=2*ev α β γ p:=by intro p;unfold ev sc;grind
  exact⟨α,β,2*γ,by rw[e0];omega,by rw[e0];omega,by rw[e1];omega,by rw[e1];omega⟩
theorem Gz {ps:List Pt}(h:Simp ps){i:Nat}(hi:i<ps.length)(f g:Pt):Ev fun N=>∀k,k<ps.length->k≠i->Sep (nr N (md (ah ps i) (ah ps (i+1))) f) (nr N (md (ah ps i) (ah ps (i+1))) g) (sc N (sc 2 (ah ps k))) (sc N (sc 2 (ah ps (k+1)))):=by
 refine Ev.all ps.length (P:=fun k N=>k≠i->Sep (nr N (md (ah ps i) (ah ps (i+1))) f) (nr N (md (ah ps i) (ah ps (i+1))) g) (sc N (sc 2 (ah ps k))) (sc N (sc 2 (ah ps (k+1))))) fun k hk=>?_
 by_cases e:k=i
 ·exact⟨0,fun _ _ hx=>absurd e hx⟩
 ·refine ((YZ h hi hk e).near f g (0,0) (0,0)).mono fun N hN _=>?_
  rw[jP,jP] at hN
  exact hN
theorem uj {ps:List Pt}(hn:0<ps.length){q:Pt}(h:∀i,i<ps.length->eG q (ah ps i) (ah ps (i+1))=false):kC ps q:=by
 intro i
 have:=h (i%ps.length) (Nat.mod_lt _ hn)
 rwa [<-dV,fE (ps:=ps) (i:=i%ps.length+1) (k:=i+1) (by rw[Nat.mod_add_mod])] at this
theorem PR {q c d:Pt}(h:eG q c d=true):bC q q c d=true:=by unfold bC;rw[h];simp
theorem PX {ps:List Pt}(h:Simp ps){i:Nat}(hi:i<ps.length){f:Pt}(hf:xr (ah ps i) (ah ps (i+1)) f≠0):Ev fun N=>kC (Ql N ps) (nr N (md (ah ps i) (ah ps (i+1))) f):=by
 have hl:=h.len
 refine ((Gz h hi f f).and (Ev.ge 1)).mono fun N ⟨hN,h1⟩=>uj (by rw[Jm];omega) fun k hk=>?_
 rw[Jm] at hk
 rw[xE,xE]
 by_cases e:k=i
 ·rw[e]
  cases ho:eG (nr N (md (ah ps i) (ah ps (i+1))) f) (sc N (sc 2 (ah ps i))) (sc N (sc 2 (ah ps (i+1))))
  ·rfl
  ·have:=(dB.1 ho).1
   rw[Oz,nH (by omega)] at this
   exact absurd this hf
 ·cases ho:eG (nr N (md (ah ps i) (ah ps (i+1))) f) (sc N (sc 2 (ah ps k))) (sc N (sc 2 (ah ps (k+1))))
  ·rfl
  ·have:=(hN k hk e).mY
   rw[PR ho] at this
   cases this
theorem mid_step {ps:List Pt}(h:Simp ps){i:Nat}(hi:i<ps.length)(hne:(ah ps i).2≠(ah ps (i+1)).2) :
  Ev fun N=>wn (Ql N ps) (nr N (md (ah ps i) (ah ps (i+1))) (-1,0))=wn (Ql N ps) (nr N (md (ah ps i) (ah ps (i+1))) (1,0))+tq (ah ps i) (ah ps (i+1)):=by
 refine ((Gz h hi (-1,0) (1,0)).and (Ev.ge 1)).mono fun N ⟨hN,h1⟩=>?_
 unfold wn
 rw[Jm]
 have qA:(nr N (md (ah ps i) (ah ps (i+1))) (-1,0)).2=(nr N (md (ah ps i) (ah ps (i+1))) (1,0)).2:=rfl
 have hs:∀w,jG (nr N (md (ah ps i) (ah ps (i+1))) (-1,0)) (nr N (md (ah ps i) (ah ps (i+1))) (1,0)) w=false:=by
  intro w
  unfold jG
  rw[qA,decide_eq_false (by omega)]
  rfl
 rw[yM ps.length hi (g:=fun k=>cw (nr N (md (ah ps i) (ah ps (i+1))) (1,0)) (ah (Ql N ps) k) (ah (Ql N ps) (k+1))) (fun k hk e=>by
  have:=Dv (Int.le_of_eq qA) (hN k hk e).mY
  rw[hs,hs] at this
  rw[xE,xE]
  omega)]
 congr 1
 rw[xE,xE]
 have key:∀a b:Pt,a.2<b.2->cw (nr N (md a b) (-1,0)) (sc N (sc 2 a)) (sc N (sc 2 b))-cw (nr N (md a b) (1,0)) (sc N (sc 2 a)) (sc N (sc 2 b))=1:=by
  intro a b hab
  have g1:(sc N (sc 2 a)).2<=(nr N (md a b) (-1,0)).2/\(nr N (md a b) (-1,0)).2<(sc N (sc 2 b)).2:=by
   have x:=(zh (show 0<N by omega)).2 hab
   unfold nr sc md
   dsimp only
   constructor
   ·have:N*(a.2+b.2)=N*a.2+N*b.2:=Int.mul_add ..
    have:N*(2*a.2)=2*(N*a.2):=by grind
    omega
   ·have:N*(a.2+b.2)=N*a.2+N*b.2:=Int.mul_add ..
    have:N*(2*b.2)=2*(N*b.2):=by grind
    omega
  have g2:(sc N (sc 2 a)).2<=(nr N (md a b) (1,0)).2/\(nr N (md a b) (1,0)).2<(sc N (sc 2 b)).2:=g1
  rw[zL (by omega),zL (by omega),dL (by omega),dL (by omega),Oz,Oz,decide_eq_true g1,decide_eq_true g2]
  have x1:0<2*N*xr a b (-1,0):=(iF (by omega)).2 (by unfold xr;dsimp only;omega)
  have x2:2*N*xr a b (1,0)<0:=(gJ (by omega)).2 (by unfold xr;dsimp only;omega)
  rw[decide_eq_true x1,decide_eq_false (show ¬ 0<2*N*xr a b (1,0) by omega)]
  rfl
 rcases Int.lt_trichotomy (ah ps i).2 (ah ps (i+1)).2 with h9|h9|h9
 ·rw[key _ _ h9]
  unfold tq
  rw[if_pos (by omega)]
 ·exact absurd h9 hne
 ·have:=key _ _ h9
  rw[rD _ (sc N (sc 2 (ah ps i))),rD _ (sc N (sc 2 (ah ps i))),show md (ah ps (i+1)) (ah ps i)=md (ah ps i) (ah ps (i+1)) by unfold md;rw[Int.add_comm,Int.add_comm (ah ps (i+1)).2]] at this
  unfold tq
  rw[if_neg (by omega)]
  omega
theorem adH {ps:List Pt}(h:Simp ps):∃i,i<ps.length/\(ah ps i).2≠(ah ps (i+1)).2:=by
 have hl:=h.len
 by_cases h0:(ah ps 0).2=(ah ps 1).2
 ·by_cases h1:(ah ps 1).2=(ah ps 2).2
  ·refine absurd ?_ (h.vw 0)
   unfold cr
   rw[<-h0.trans h1,<-h0]
   grind
  ·exact⟨1,by omega,h1⟩
 ·exact⟨0,by omega,h0⟩
theorem Ls (a b:Pt):tq a b=1\/tq a b=-1:=by unfold tq;split<;>simp
theorem Nc {x K:Int}(h:x*x=x*K):x=0\/x=K:=by
 by_cases e:x=0
 ·exact .inl e
 ·exact .inr (Int.eq_of_mul_eq_mul_left e h)
theorem CV {ps:List Pt}(h:Simp ps)(l:List Pt)(hq:∀q,q∈l->kC ps q):∃K,(K=1\/K=-1)/\∀q,q∈l->wn ps q=0\/wn ps q=K:=by
 obtain⟨i,hi,hne⟩:=adH h
 have x1:xr (ah ps i) (ah ps (i+1)) (-1,0)≠0:=by unfold xr;dsimp only;omega
 have x2:xr (ah ps i) (ah ps (i+1)) (1,0)≠0:=by unfold xr;dsimp only;omega
 obtain⟨N,hN⟩:=((PX h hi x1).and (PX h hi x2)).and ((mid_step h hi hne).and (Ev.ge 1))
 obtain⟨⟨o1,o2⟩,st,h1⟩:=hN N (Int.le_refl _)
 have hd:=Ls (ah ps i) (ah ps (i+1))
 obtain⟨K,hK⟩:=Yr (h.Ql (show 0<N by omega)) (nr N (md (ah ps i) (ah ps (i+1))) (-1,0)::nr N (md (ah ps i) (ah ps (i+1))) (1,0)::l.map fun q=>sc N (sc 2 q)) (by
  intro q hx
  rcases List.mem_cons.1 hx with rfl|hx
  ·exact o1
  rcases List.mem_cons.1 hx with rfl|hx
  ·exact o2
  obtain⟨r,hr,rfl⟩:=List.mem_map.1 hx
  exact (pq (by omega)).2 ((pq (by omega)).2 (hq r hr)))
 have a1:=Nc (hK _ (List.mem_cons_self ..))
 have a2:=Nc (hK _ (List.mem_cons_of_mem _ (List.mem_cons_self ..)))
 refine⟨K,by omega,fun q hx=>?_⟩
 have a3:=Nc (hK (sc N (sc 2 q)) (List.mem_cons_of_mem _ (List.mem_cons_of_mem _ (List.mem_map.2 ⟨q,hx,rfl⟩))))
 have e:wn (Ql N ps) (sc N (sc 2 q))=wn ps q:=by unfold Ql;rw[qL (by omega),qL (by omega)]
 rw[e] at a3
 exact a3
theorem abr {ps:List Pt}(h:Simp ps):∃K,(K=1\/K=-1)/\∀q,kC ps q->wn ps q=0\/wn ps q=K:=by
 by_cases hx:∃q,kC ps q/\wn ps q=-1
 ·obtain⟨q,o,e⟩:=hx
  refine⟨-1,.inr rfl,fun r hr=>?_⟩
  obtain⟨K,hK,ha⟩:=CV h [q,r] (by simp;exact⟨o,hr⟩)
  have a1:=ha q (by simp)
  have a2:=ha r (by simp)
  omega
 ·refine⟨1,.inl rfl,fun r hr=>?_⟩
  obtain⟨K,hK,ha⟩:=CV h [r] (by simp;exact hr)
  have a2:=ha r (by simp)
  have:wn ps r≠-1:=fun e=>hx ⟨r,hr,e⟩
  omega
theorem Vm (ps:List Pt)(q:Pt):∀n,rF (par ps q (List.range n))=sumN (fun i=>cw q (ah ps i) (ah ps (i+1))) n%2
 | 0=>by simp[par,sumN,rF]
 | n+1=>by
  have ih:=Vm ps q n
  rw[List.range_succ,sQ]
  unfold sumN
  have hd:=Ls (ah ps n) (ah ps (n+1))
  have e:cw q (ah ps n) (ah ps (n+1))=tq (ah ps n) (ah ps (n+1))*rF (bu q (ah ps n) (ah ps (n+1))):=rfl
  rw[e]
  revert ih
  generalize sumN (fun i=>cw q (ah ps i) (ah ps (i+1))) n=s
  cases par ps q (List.range n)<;>cases bu q (ah ps n) (ah ps (n+1))<;>simp only[XG,E8,Bool.false_bne,Bool.bne_false,Bool.bne_true,Bool.not_false,Bool.not_true,Bool.xor_false,Bool.xor_true,Bool.false_xor,Bool.true_xor]<;>intro ih<;>omega
theorem fF {ps:List Pt}(hn:0<ps.length){q:Pt}:fM ps q=false↔kC ps q:=by
 unfold fM
 rw[List.any_eq_false]
 constructor
 ·intro h
  exact uj hn fun i hi=>by simpa using h i (List.mem_range.2 hi)
 ·intro h i hi
  rw[h i]
  simp
theorem jk {ps:List Pt}(h:Simp ps)(q:Pt):placeOf ps q=if fM ps q=true then 0 else if wn ps q=0 then -1 else 1:=by
 have hl:=h.len
 unfold placeOf
 cases ho:fM ps q
 ·rw[if_neg (show ¬ (false=true) by simp),if_neg (show ¬ (false=true) by simp)]
  obtain⟨K,hK,ha⟩:=abr h
  have hw:=ha q ((fF (by omega)).1 ho)
  have hp:=Vm ps q ps.length
  have e:sumN (fun i=>cw q (ah ps i) (ah ps (i+1))) ps.length=wn ps q:=rfl
  rw[e] at hp
  cases hb:par ps q (List.range ps.length)
  ·rw[hb,E8] at hp
   rw[if_neg (show ¬ (false=true) by simp),if_pos (by omega)]
  ·rw[hb,XG] at hp
   rw[if_pos rfl,if_neg (by omega)]
 ·rfl
def uA (z a b:Pt):Prop:=eG z a b=true/\z≠a/\z≠b
theorem sU {z a b:Pt}(h:uA z a b):∃k m:Int,0<k/\k<m/\m*(z.1-a.1)=k*(b.1-a.1)/\m*(z.2-a.2)=k*(b.2-a.2):=by
 obtain⟨h,h1,h2⟩:=h
 obtain⟨k,m,k1,k2,k3,e1,e2⟩:=yZ h
 refine⟨k,m,?_,?_,e1,e2⟩
 ·rcases Int.lt_or_le 0 k with x|x
  ·exact x
  ·rw[show k=0 by omega,Int.zero_mul] at e1 e2
   have a1:=(nH k3).1 e1
   have a2:=(nH k3).1 e2
   exact absurd (Prod.ext (by omega) (by omega)) h1
 ·rcases Int.lt_or_le k m with x|x
  ·exact x
  ·rw[show k=m by omega] at e1 e2
   have a1:=Int.eq_of_mul_eq_mul_left (by omega) e1
   have a2:=Int.eq_of_mul_eq_mul_left (by omega) e2
   exact absurd (Prod.ext (by omega) (by omega)) h2
theorem Ob {z a b:Pt}(h:uA z a b):a≠b:=by
 obtain⟨h,h1,h2⟩:=h
 intro e
 rw[e,dB] at h
 exact h2 (Prod.ext (by omega) (by omega))
theorem KO {z a b:Pt}(h:uA z a b):uA z b a:=⟨by rw[jI];exact h.1,h.2.2,h.2.1⟩
theorem Y7 {z a b:Pt}(h:uA z a b)(hab:a.2<b.2):a.2<z.2/\z.2<b.2:=by
 obtain⟨k,m,h1,h2,_,e2⟩:=sU h
 constructor
 ·have:=Int.mul_pos h1 (show 0<b.2-a.2 by omega)
  rw[<-e2] at this
  have:=(iF (show 0<m by omega)).1 this
  omega
 ·have h3:=Int.mul_pos (show 0<m-k by omega) (show 0<b.2-a.2 by omega)
  have:(m-k)*(b.2-a.2)=m*(b.2-z.2):=by grind
  rw[this] at h3
  have:=(iF (show 0<m by omega)).1 h3
  omega
theorem P7 {z a b:Pt}(h:uA z a b)(hab:a.1<b.1):a.1<z.1/\z.1<b.1:=by
 obtain⟨k,m,h1,h2,e1,_⟩:=sU h
 constructor
 ·have:=Int.mul_pos h1 (show 0<b.1-a.1 by omega)
  rw[<-e1] at this
  have:=(iF (show 0<m by omega)).1 this
  omega
 ·have h3:=Int.mul_pos (show 0<m-k by omega) (show 0<b.1-a.1 by omega)
  have:(m-k)*(b.1-a.1)=m*(b.1-z.1):=by grind
  rw[this] at h3
  have:=(iF (show 0<m by omega)).1 h3
  omega
theorem jO {z a b:Pt}(h:eG z a b=true):cr a b z=0:=(dB.1 h).1
theorem EN (N:Int)(a b z f:Pt)(h:cr a b z=0):cr (sc N a) (sc N b) (nr N z f)=N*xr a b f:=by
 have e:cr (sc N a) (sc N b) (nr N z f)=N*N*cr a b z+N*xr a b f:=by unfold cr sc nr xr;grind
 rw[e,h]
 omega
section
variable {ps:List Pt} (h:Simp ps) {i:Nat} (hi:i<ps.length) {z:Pt} (hz:uA z (ah ps i) (ah ps (i+1)))
include h hi hz
theorem adD {k:Nat}(hk:k<ps.length)(hne:k≠i):Sep z z (ah ps k) (ah ps (k+1)):=by
 have hl:=h.len
 have adj:∀c d:Pt,cr c d z≠0->Sep z z c d:=by
  intro c d h0
  refine (rG (qp ?_)).symm
  cases ho:eG z c d
  ·rfl
  ·exact absurd (dB.1 ho).1 h0
 obtain⟨s,m,s1,s2,e1,e2⟩:=sU hz
 by_cases c1:k=(i+1)%ps.length
 ·have f1:ah ps k=ah ps (i+1):=by rw[c1,<-dV]
  have f2:ah ps (k+1)=ah ps (i+2):=fE (by rw[c1,Nat.mod_add_mod])
  rw[f1,f2]
  refine adj _ _ fun h0=>?_
  have e:m*cr (ah ps (i+1)) (ah ps (i+2)) z=(m-s)*cr (ah ps i) (ah ps (i+1)) (ah ps (i+2)):=by unfold cr;grind
  rw[h0,Int.mul_zero] at e
  exact h.vw i ((nH (show 0<m-s by omega)).1 e.symm)
 by_cases c2:i=(k+1)%ps.length
 ·have f1:ah ps i=ah ps (k+1):=by rw[c2,<-dV]
  have f2:ah ps (i+1)=ah ps (k+2):=fE (by rw[c2,Nat.mod_add_mod])
  rw[f1,f2] at e1 e2
  refine adj _ _ fun h0=>?_
  have e:m*cr (ah ps k) (ah ps (k+1)) z=s*cr (ah ps k) (ah ps (k+1)) (ah ps (k+2)):=by unfold cr;grind
  rw[h0,Int.mul_zero] at e
  exact h.vw k ((nH s1).1 e.symm)
 ·obtain⟨α,β,γ,h1,h2,h3,h4⟩:=rG (h.far i k hi hk hne c1 c2)
  exact⟨α,β,γ,mM hz.1 h1 h2,mM hz.1 h1 h2,h3,h4⟩
theorem CU (f g:Pt):Ev fun N=>∀k,k<ps.length->k≠i->Sep (nr N z f) (nr N z g) (sc N (ah ps k)) (sc N (ah ps (k+1))):=by
 refine Ev.all ps.length (P:=fun k N=>k≠i->Sep (nr N z f) (nr N z g) (sc N (ah ps k)) (sc N (ah ps (k+1)))) fun k hk=>?_
 by_cases e:k=i
 ·exact⟨0,fun _ _ hx=>absurd e hx⟩
 ·refine ((adD h hi hz hk e).near f g (0,0) (0,0)).mono fun N hN _=>?_
  rw[jP,jP] at hN
  exact hN
theorem O8 {f:Pt}(hf:xr (ah ps i) (ah ps (i+1)) f≠0):Ev fun N=>kC (ps.map (sc N)) (nr N z f):=by
 have hl:=h.len
 refine ((CU h hi hz f f).and (Ev.ge 1)).mono fun N ⟨hN,h1⟩=>uj (by rw[List.length_map];omega) fun k hk=>?_
 rw[List.length_map] at hk
 rw[aH,aH]
 by_cases e:k=i
 ·rw[e]
  cases ho:eG (nr N z f) (sc N (ah ps i)) (sc N (ah ps (i+1)))
  ·rfl
  ·have:=(dB.1 ho).1
   rw[EN _ _ _ _ _ (jO hz.1),nH (by omega)] at this
   exact absurd this hf
 ·cases ho:eG (nr N z f) (sc N (ah ps k)) (sc N (ah ps (k+1)))
  ·rfl
  ·have:=(hN k hk e).mY
   rw[PR ho] at this
   cases this
theorem Ut {f g:Pt}(hfg:(0<xr (ah ps i) (ah ps (i+1)) f/\0<xr (ah ps i) (ah ps (i+1)) g)\/(xr (ah ps i) (ah ps (i+1)) f<0/\xr (ah ps i) (ah ps (i+1)) g<0)) :
  Ev fun N=>wn (ps.map (sc N)) (nr N z f)=wn (ps.map (sc N)) (nr N z g):=by
 refine ((CU h hi hz f g).and (Ev.ge 1)).mono fun N ⟨hN,h1⟩=>mP fun k hk=>?_
 rw[List.length_map] at hk
 rw[aH,aH]
 by_cases e:k=i
 ·rw[e]
  refine Sep.mY (Sep.symm ?_)
  rcases hfg with⟨a,b⟩|⟨a,b⟩
  ·exact Sep.left (by rw[EN _ _ _ _ _ (jO hz.1),iF (by omega)];exact a) (by rw[EN _ _ _ _ _ (jO hz.1),iF (by omega)];exact b)
  ·exact Sep.right (by rw[EN _ _ _ _ _ (jO hz.1),gJ (by omega)];exact a) (by rw[EN _ _ _ _ _ (jO hz.1),gJ (by omega)];exact b)
 ·exact (hN k hk e).mY
theorem O9 (hne:(ah ps i).2≠(ah ps (i+1)).2):Ev fun N=>wn (ps.map (sc N)) (nr N z (-1,0))=wn (ps.map (sc N)) (nr N z (1,0))+tq (ah ps i) (ah ps (i+1)):=by
 refine ((CU h hi hz (-1,0) (1,0)).and (Ev.ge 1)).mono fun N ⟨hN,h1⟩=>?_
 unfold wn
 rw[List.length_map]
 have qA:(nr N z (-1,0)).2=(nr N z (1,0)).2:=rfl
 have hs:∀w,jG (nr N z (-1,0)) (nr N z (1,0)) w=false:=by
  intro w
  unfold jG
  rw[qA,decide_eq_false (by omega)]
  rfl
 rw[yM ps.length hi (g:=fun k=>cw (nr N z (1,0)) (ah (ps.map (sc N)) k) (ah (ps.map (sc N)) (k+1))) (fun k hk e=>by
  have:=Dv (Int.le_of_eq qA) (hN k hk e).mY
  rw[hs,hs] at this
  rw[aH,aH]
  omega)]
 congr 1
 rw[aH,aH]
 have key:∀a b:Pt,uA z a b->a.2<b.2->cw (nr N z (-1,0)) (sc N a) (sc N b)-cw (nr N z (1,0)) (sc N a) (sc N b)=1:=by
  intro a b hz hab
  have hlt:=Y7 hz hab
  have g1:(sc N a).2<=(nr N z (-1,0)).2/\(nr N z (-1,0)).2<(sc N b).2:=by
   have x:=(zh (show 0<N by omega)).2 hlt.1
   have y:=(zh (show 0<N by omega)).2 hlt.2
   unfold nr sc
   dsimp only
   omega
  have g2:(sc N a).2<=(nr N z (1,0)).2/\(nr N z (1,0)).2<(sc N b).2:=g1
  rw[zL (by omega),zL (by omega),dL (by omega),dL (by omega),EN _ _ _ _ _ (jO hz.1),EN _ _ _ _ _ (jO hz.1),decide_eq_true g1,decide_eq_true g2]
  have x1:0<N*xr a b (-1,0):=(iF (by omega)).2 (by unfold xr;dsimp only;omega)
  have x2:N*xr a b (1,0)<0:=(gJ (by omega)).2 (by unfold xr;dsimp only;omega)
  rw[decide_eq_true x1,decide_eq_false (show ¬ 0<N*xr a b (1,0) by omega)]
  rfl
 rcases Int.lt_trichotomy (ah ps i).2 (ah ps (i+1)).2 with h9|h9|h9
 ·rw[key _ _ hz h9]
  unfold tq
  rw[if_pos (by omega)]
 ·exact absurd h9 hne
 ·have:=key _ _ (KO hz) h9
  rw[rD _ (sc N (ah ps i)),rD _ (sc N (ah ps i))] at this
  unfold tq
  rw[if_neg (by omega)]
  omega
theorem O7 (heq:(ah ps i).2=(ah ps (i+1)).2):Ev fun N=>wn (ps.map (sc N)) (nr N z (0,1))=wn (ps.map (sc N)) (nr N z (0,-1))+(if (ah ps i).1<(ah ps (i+1)).1 then 1 else -1):=by
 refine ((CU h hi hz (0,-1) (0,1)).and (Ev.ge 1)).mono fun N ⟨hN,h1⟩=>?_
 have hle:(nr N z (0,-1)).2<=(nr N z (0,1)).2:=by unfold nr;dsimp only;omega
 have hon:=(dB.1 hz.1).2.2
 let s:Nat->Int:=fun k=>rF (jG (nr N z (0,-1)) (nr N z (0,1)) (sc N (ah ps k)))
 have hs:∀p:Pt,p.2=z.2->rF (jG (nr N z (0,-1)) (nr N z (0,1)) (sc N p))=if z.1<p.1 then 1 else 0:=by
  intro p hp
  unfold jG
  have g:(nr N z (0,-1)).2<(sc N p).2/\(sc N p).2<=(nr N z (0,1)).2:=by unfold nr sc;dsimp only;rw[hp];omega
  have e:cr (nr N z (0,-1)) (nr N z (0,1)) (sc N p)=-(N*(2*(p.1-z.1))):=by unfold cr nr sc;grind
  rw[decide_eq_true g,e,Bool.true_and]
  by_cases hx:z.1<p.1
  ·have:=(iF (show 0<N by omega)).2 (show 0<2*(p.1-z.1) by omega)
   rw[if_pos hx,decide_eq_true (by omega)]
   rfl
  ·have:¬ 0<N*(2*(p.1-z.1)):=fun hy=>by
    have:=(iF (show 0<N by omega)).1 hy
    omega
   rw[if_neg hx,decide_eq_false (by omega)]
   rfl
 have e0:sumN (fun k=>cw (nr N z (0,-1)) (sc N (ah ps k)) (sc N (ah ps (k+1)))-cw (nr N z (0,1)) (sc N (ah ps k)) (sc N (ah ps (k+1)))) ps.length=sumN (fun k=>s (k+1)-s k) ps.length+((cw (nr N z (0,-1)) (sc N (ah ps i)) (sc N (ah ps (i+1)))-cw (nr N z (0,1)) (sc N (ah ps i)) (sc N (ah ps (i+1))))-(s (i+1)-s i)) :=
  yM (f:=fun k=>cw (nr N z (0,-1)) (sc N (ah ps k)) (sc N (ah ps (k+1)))-cw (nr N z (0,1)) (sc N (ah ps k)) (sc N (ah ps (k+1)))) ps.length hi fun k hk e=>Dv hle (hN k hk e).mY
 have f1:∀q:Pt,cw q (sc N (ah ps i)) (sc N (ah ps (i+1)))=0:=by
  intro q
  unfold cw
  rw[uI (by unfold sc;dsimp only;rw[heq]),E8,Int.mul_zero]
 have f2:s ps.length=s 0:=by show rF _=rF _;rw[uK]
 rw[pX s,f2,f1,f1] at e0
 have e1:sumN (fun k=>cw (nr N z (0,-1)) (sc N (ah ps k)) (sc N (ah ps (k+1)))-cw (nr N z (0,1)) (sc N (ah ps k)) (sc N (ah ps (k+1)))) ps.length+wn (ps.map (sc N)) (nr N z (0,1))=wn (ps.map (sc N)) (nr N z (0,-1)):=by
  unfold wn
  rw[List.length_map,<-mW]
  exact dw _ fun k _=>by rw[aH,aH];omega
 have a1:s i=if z.1<(ah ps i).1 then 1 else 0:=hs _ (by omega)
 have a2:s (i+1)=if z.1<(ah ps (i+1)).1 then 1 else 0:=hs _ (by omega)
 by_cases hlt:(ah ps i).1<(ah ps (i+1)).1
 ·have:=P7 hz hlt
  rw[if_neg (by omega)] at a1
  rw[if_pos (by omega)] at a2
  rw[if_pos hlt]
  omega
 ·have hne:=Ob hz
  have hlt2:(ah ps (i+1)).1<(ah ps i).1:=by
   rcases Int.lt_trichotomy (ah ps i).1 (ah ps (i+1)).1 with x|x|x
   ·exact absurd x hlt
   ·exact absurd (Prod.ext x heq) hne
   ·exact x
  have:=P7 (KO hz) hlt2
  rw[if_pos (by omega)] at a1
  rw[if_neg (by omega)] at a2
  rw[if_neg hlt]
  omega
theorem Us {f g:Pt}(hf:0<xr (ah ps i) (ah ps (i+1)) f)(hg:xr (ah ps i) (ah ps (i+1)) g<0):Ev fun N=>wn (ps.map (sc N)) (nr N z f)=wn (ps.map (sc N)) (nr N z g)+1:=by
 have join:∀ (l r:Pt),0<xr (ah ps i) (ah ps (i+1)) l->xr (ah ps i) (ah ps (i+1)) r<0->(Ev fun N=>wn (ps.map (sc N)) (nr N z l)=wn (ps.map (sc N)) (nr N z r)+1)->Ev fun N=>wn (ps.map (sc N)) (nr N z f)=wn (ps.map (sc N)) (nr N z g)+1:=by
  intro l r hl hr he
  refine ((Ut h hi hz (.inl ⟨hf,hl⟩)).and ((Ut h hi hz (.inr ⟨hg,hr⟩)).and he)).mono fun N ⟨a,b,c⟩=>?_
  rw[a,b,c]
 have hne:=Ob hz
 rcases Int.lt_trichotomy (ah ps i).2 (ah ps (i+1)).2 with h9|h9|h9
 ·refine join (-1,0) (1,0) (by unfold xr;dsimp only;omega) (by unfold xr;dsimp only;omega) ((O9 h hi hz (by omega)).mono fun N hN=>?_)
  rw[hN]
  unfold tq
  rw[if_pos (by omega)]
 ·rcases Int.lt_trichotomy (ah ps i).1 (ah ps (i+1)).1 with x|x|x
  ·refine join (0,1) (0,-1) (by unfold xr;dsimp only;omega) (by unfold xr;dsimp only;omega) ((O7 h hi hz h9).mono fun N hN=>?_)
   rw[hN,if_pos x]
  ·exact absurd (Prod.ext x h9) hne
  ·refine join (0,-1) (0,1) (by unfold xr;dsimp only;omega) (by unfold xr;dsimp only;omega) ((O7 h hi hz h9).mono fun N hN=>?_)
   rw[hN,if_neg (by omega)]
   omega
 ·refine join (1,0) (-1,0) (by unfold xr;dsimp only;omega) (by unfold xr;dsimp only;omega) ((O9 h hi hz (by omega)).mono fun N hN=>?_)
  rw[hN]
  unfold tq
  rw[if_neg (by omega)]
  omega
end
theorem LU {h B:Int}:∀T:Nat,(∀t:Nat,t<T->h*t<B)->sumN (fun t=>rF (decide (h*(t:Int)<B))) T=T
 | 0,_=>rfl
 | T+1,hx=>by
  unfold sumN
  rw[LU T (fun t ht=>hx t (by omega)),decide_eq_true (hx T (by omega)),XG]
  omega
theorem Qo {h B:Int}(hh:0<h):∀T:Nat,0<=B->B<=h*T->B<=h*sumN (fun t=>rF (decide (h*(t:Int)<B))) T/\h*sumN (fun t=>rF (decide (h*(t:Int)<B))) T<=B+h
 | 0,h0,h1=>by
  unfold sumN
  simp only[Int.mul_zero,Int.natCast_zero] at *
  omega
 | T+1,h0,h1=>by
  by_cases c:h*T<B
  ·have:=LU (h:=h) (B:=B) (T+1) (fun t ht=>by
    have:=(jo hh).2 (show (t:Int)<=T by omega)
    omega)
   rw[this]
   have e:h*((T+1:Nat):Int)=h*T+h:=by grind
   omega
  ·have ih:=Qo hh T h0 (by omega)
   unfold sumN
   rw[decide_eq_false c,E8,Int.add_zero]
   exact ih
theorem yf (f:Nat->Int)(m:Nat):∀n,sumN f (m+n)=sumN f m+sumN (fun k=>f (m+k)) n
 | 0=>by simp[sumN]
 | n+1=>by
  show sumN f (m+n)+f (m+n)=_
  rw[yf f m n]
  show _=_+(sumN (fun k=>f (m+k)) n+f (m+n))
  omega
theorem pW {f:Nat->Int}(n:Nat)(h:∀i,i<n->f i=0):sumN f n=0:=(dw n h).trans (Am n)
def at' (X s t:Nat):Pt:=((t:Int)-X,(s:Int)-X)
def zZ (X:Nat)(u v:Pt):Int:=sumN (fun s=>sumN (fun t=>cw (at' X s t) u v) (2*X)) (2*X)
def FO (X:Nat)(p:Pt):Prop:=(-(X:Int)<=p.1/\p.1<=X)/\(-(X:Int)<=p.2/\p.2<=X)
theorem adL {X:Nat}{u v:Pt}(hu:FO X u)(hv:FO X v){k:Nat}(hk:(k:Int)<v.2-u.2) :
  (v.1-u.1)*k+(v.2-u.2)*(u.1+X)<=(v.2-u.2)*sumN (fun t=>cw ((t:Int)-X,u.2+k) u v) (2*X) /\
  (v.2-u.2)*sumN (fun t=>cw ((t:Int)-X,u.2+k) u v) (2*X)<=(v.1-u.1)*k+(v.2-u.2)*(u.1+X)+(v.2-u.2):=by
 unfold FO at hu hv
 have e:sumN (fun t=>cw ((t:Int)-X,u.2+k) u v) (2*X)=sumN (fun t=>rF (decide ((v.2-u.2)*(t:Int)<(v.1-u.1)*k+(v.2-u.2)*(u.1+X)))) (2*X):=by
  refine dw _ fun t _=>?_
  rw[zL (by omega),dL (by omega)]
  rw[show decide (u.2<=((t:Int)-X,u.2+(k:Int)).2/\((t:Int)-X,u.2+(k:Int)).2<v.2)=true by rw[decide_eq_true_eq];dsimp only;omega,Bool.true_and]
  congr 1
  rw[decide_eq_decide]
  have:cr u v ((t:Int)-X,u.2+(k:Int))=(v.1-u.1)*k+(v.2-u.2)*(u.1+X)-(v.2-u.2)*(t:Int):=by unfold cr;grind
  rw[this]
  omega
 rw[e]
 have e2:(v.1-u.1)*k+(v.2-u.2)*(u.1+X)=(v.2-u.2-k)*(u.1+X)+k*(v.1+X):=by grind
 refine Qo (by omega) _ ?_ ?_
 ·rw[e2]
  have:=Int.mul_nonneg (show 0<=v.2-u.2-k by omega) (show 0<=u.1+X by omega)
  have:=Int.mul_nonneg (show (0:Int)<=k by omega) (show 0<=v.1+X by omega)
  omega
 ·rw[e2]
  have a1:=Int.mul_le_mul_of_nonneg_left (show u.1+X<=2*X by omega) (show 0<=v.2-u.2-k by omega)
  have a2:=Int.mul_le_mul_of_nonneg_left (show v.1+X<=2*X by omega) (show (0:Int)<=k by omega)
  have e3:(v.2-u.2)*((2*X:Nat):Int)=(v.2-u.2-k)*(2*X)+k*(2*X):=by grind
  omega
theorem abe {X:Nat}{u v:Pt}(hu:FO X u)(hv:FO X v):∀k:Nat,(k:Int)<=v.2-u.2 ->
  (v.1-u.1)*(k*(k-1))+2*((v.2-u.2)*k*(u.1+X))<=2*((v.2-u.2)*sumN (fun j=>sumN (fun t=>cw ((t:Int)-X,u.2+j) u v) (2*X)) k) /\
  2*((v.2-u.2)*sumN (fun j=>sumN (fun t=>cw ((t:Int)-X,u.2+j) u v) (2*X)) k)<=(v.1-u.1)*(k*(k-1))+2*((v.2-u.2)*k*(u.1+X))+2*((v.2-u.2)*k)
 | 0,_=>by simp[sumN]
 | k+1,hk=>by
  have ih:=abe hu hv k (by omega)
  have hr:=adL hu hv (k:=k) (by omega)
  unfold sumN
  revert ih hr
  generalize sumN (fun j=>sumN (fun t=>cw ((t:Int)-X,u.2+j) u v) (2*X)) k=G
  generalize sumN (fun t=>cw ((t:Int)-X,u.2+k) u v) (2*X)=r
  intro ih hr
  have e1:(v.1-u.1)*(((k+1:Nat):Int)*((k+1:Nat)-1))+2*((v.2-u.2)*((k+1:Nat):Int)*(u.1+X))=(v.1-u.1)*((k:Int)*(k-1))+2*((v.2-u.2)*k*(u.1+X))+2*((v.1-u.1)*k+(v.2-u.2)*(u.1+X)):=by
   rw[show ((k+1:Nat):Int)=(k:Int)+1 by omega]
   grind
  have e2:(v.2-u.2)*(G+r)=(v.2-u.2)*G+(v.2-u.2)*r:=Int.mul_add ..
  have e3:(v.2-u.2)*((k+1:Nat):Int)=(v.2-u.2)*k+(v.2-u.2):=by
   rw[show ((k+1:Nat):Int)=(k:Int)+1 by omega]
   grind
  rw[e1,e2,e3]
  omega
theorem XN {X:Nat}{u v:Pt}(hu:FO X u)(hv:FO X v)(h:u.2<v.2) :
  (v.2-u.2)*(u.1+v.1+2*X)-(v.1-u.1)<=2*zZ X u v/\2*zZ X u v<=(v.2-u.2)*(u.1+v.1+2*X)-(v.1-u.1)+2*(v.2-u.2):=by
 have hu':=hu
 have hv':=hv
 unfold FO at hu' hv'
 obtain⟨a,ha⟩:∃a:Nat,(a:Int)=u.2+X:=⟨(u.2+X).toNat,by omega⟩
 obtain⟨m,hm⟩:∃m:Nat,(m:Int)=v.2-u.2:=⟨(v.2-u.2).toNat,by omega⟩
 obtain⟨r,hr⟩:∃r:Nat,a+(m+r)=2*X:=⟨2*X-a-m,by omega⟩
 have e:zZ X u v=sumN (fun j=>sumN (fun t=>cw ((t:Int)-X,u.2+j) u v) (2*X)) m:=by
  unfold zZ
  obtain⟨T,hT⟩:∃T,2*X=T:=⟨_,rfl⟩
  rw[hT] at hr ⊢
  conv=>lhs;arg 2;rw[<-hr]
  rw[yf,yf]
  have z:∀s:Nat,¬ (u.2<=(s:Int)-X/\(s:Int)-X<v.2)->sumN (fun t=>cw (at' X s t) u v) T=0:=by
   intro s hs
   refine pW _ fun t _=>?_
   rw[zL (by omega),dL (by omega)]
   rw[show decide (u.2<=(at' X s t).2/\(at' X s t).2<v.2)=false by rw[decide_eq_false_iff_not];exact hs]
   rfl
  rw[pW a (fun s hs=>z s (by omega)),pW r (fun s hs=>z _ (by omega)),Int.zero_add,Int.add_zero]
  refine dw _ fun j _=>dw _ fun t _=>?_
  have:at' X (a+j) t=((t:Int)-X,u.2+(j:Int)):=Prod.ext rfl (by show ((a+j:Nat):Int)-X=_;dsimp only;omega)
  rw[this]
 have hc:=abe hu hv m (by omega)
 rw[<-e,hm] at hc
 have hpos:0<v.2-u.2:=by omega
 have e1:(v.1-u.1)*((v.2-u.2)*(v.2-u.2-1))+2*((v.2-u.2)*(v.2-u.2)*(u.1+X))=(v.2-u.2)*((v.2-u.2)*(u.1+v.1+2*X)-(v.1-u.1)):=by grind
 have e2:2*((v.2-u.2)*zZ X u v)=(v.2-u.2)*(2*zZ X u v):=by grind
 have e3:(v.2-u.2)*((v.2-u.2)*(u.1+v.1+2*X)-(v.1-u.1))+2*((v.2-u.2)*(v.2-u.2))=(v.2-u.2)*((v.2-u.2)*(u.1+v.1+2*X)-(v.1-u.1)+2*(v.2-u.2)):=by grind
 rw[e1,e2,e3] at hc
 exact⟨(jo hpos).1 hc.1,(jo hpos).1 hc.2⟩
theorem ae6 {X:Nat}{u v:Pt}(hu:FO X u)(hv:FO X v):-(6*X:Int)<=2*zZ X u v-(v.2-u.2)*(u.1+v.1+2*X)/\2*zZ X u v-(v.2-u.2)*(u.1+v.1+2*X)<=6*X:=by
 have hu':=hu
 have hv':=hv
 unfold FO at hu' hv'
 rcases Int.lt_trichotomy u.2 v.2 with h|h|h
 ·have:=XN hu hv h
  omega
 ·have e:zZ X u v=0:=pW _ fun s _=>pW _ fun t _=>by
   unfold cw
   rw[uI h,E8,Int.mul_zero]
  rw[e,show v.2-u.2=0 by omega,Int.zero_mul]
  omega
 ·have e:zZ X u v=-zZ X v u:=by
   unfold zZ
   rw[show -sumN (fun s=>sumN (fun t=>cw (at' X s t) v u) (2*X)) (2*X)=-1*sumN (fun s=>sumN (fun t=>cw (at' X s t) v u) (2*X)) (2*X) by omega,<-mV]
   refine dw _ fun s _=>?_
   rw[<-mV]
   refine dw _ fun t _=>?_
   rw[rD]
   omega
  have:=XN hv hu h
  have e2:(v.2-u.2)*(u.1+v.1+2*X)=-((u.2-v.2)*(v.1+u.1+2*X)):=by grind
  rw[e,e2]
  omega
def Md (X:Nat)(ps:List Pt):Int:=sumN (fun s=>sumN (fun t=>wn ps (at' X s t)) (2*X)) (2*X)
theorem acN (X:Nat)(ps:List Pt):Md X ps=sumN (fun i=>zZ X (ah ps i) (ah ps (i+1))) ps.length:=by
 have e:∀s,sumN (fun t=>wn ps (at' X s t)) (2*X)=sumN (fun i=>sumN (fun t=>cw (at' X s t) (ah ps i) (ah ps (i+1))) (2*X)) ps.length:=fun s=>wZ (fun t i=>cw (at' X s t) (ah ps i) (ah ps (i+1))) _ _
 unfold Md
 rw[dw _ fun s _=>e s]
 exact wZ (fun s i=>sumN (fun t=>cw (at' X s t) (ah ps i) (ah ps (i+1))) (2*X)) _ _
theorem Gi {f g:Nat->Int}{C:Int}:∀n:Nat,(∀i,i<n->-C<=f i-g i/\f i-g i<=C)->-(n*C)<=sumN f n-sumN g n/\sumN f n-sumN g n<=n*C
 | 0,_=>by simp[sumN]
 | n+1,h=>by
  have ih:=Gi n (fun i hi=>h i (by omega))
  have:=h n (by omega)
  unfold sumN
  have e:((n+1:Nat):Int)*C=n*C+C:=by grind
  omega
theorem UO (ps:List Pt):∀n,xI ps (List.range n)=sumN (fun i=>FQ (ah ps i) (ah ps (i+1))) n
 | 0=>rfl
 | n+1=>by rw[List.range_succ,Gj,UO ps n];rfl
theorem H6 (ps:List Pt):dW ps=sumN (fun i=>FQ (ah ps i) (ah ps (i+1))) ps.length:=UO ps _
theorem UD (d:Int)(ps:List Pt):dW (ps.map (sc d))=d*d*dW ps:=by
 rw[H6,H6,List.length_map,<-mV]
 refine dw _ fun i _=>?_
 rw[aH,aH]
 unfold FQ sc
 grind
theorem TI {X:Nat}{ps:List Pt}(hX:∀i,FO X (ah ps i)):-(ps.length*(6*X):Int)<=2*Md X ps-dW ps/\2*Md X ps-dW ps<=ps.length*(6*X):=by
 have e:dW ps=sumN (fun i=>((ah ps (i+1)).2-(ah ps i).2)*((ah ps i).1+(ah ps (i+1)).1+2*X)) ps.length:=by
  have t:=pX (fun i=>(ah ps i).1*(ah ps i).2+2*X*(ah ps i).2) ps.length
  rw[uK] at t
  have:sumN (fun i=>((ah ps (i+1)).2-(ah ps i).2)*((ah ps i).1+(ah ps (i+1)).1+2*X)) ps.length=dW ps+sumN (fun i=>((ah ps (i+1)).1*(ah ps (i+1)).2+2*X*(ah ps (i+1)).2)-((ah ps i).1*(ah ps i).2+2*X*(ah ps i).2)) ps.length:=by
   rw[H6,<-mW]
   refine dw _ fun i _=>?_
   unfold FQ
   grind
  rw[this,t]
  omega
 rw[e,acN,<-mV]
 exact Gi (f:=fun i=>2*zZ X (ah ps i) (ah ps (i+1))) _ fun i _=>ae6 (hX _) (hX _)
theorem Z7 {X:Nat}{ps qs:List Pt}(h:∀x,wn qs x<=wn ps x):Md X qs<=Md X ps:=by
 have mono:∀ (f g:Nat->Int),(∀i,f i<=g i)->∀n,sumN f n<=sumN g n:=by
  intro f g hfg n
  induction n with
  | zero=>exact Int.le_refl _
  | succ n ih=>unfold sumN;have:=hfg n;omega
 exact mono _ _ (fun s=>mono _ _ (fun t=>h _) _) _
theorem ab6 {X N:Nat}{p:Pt}(h:FO X p):FO (N*X) (sc N p):=by
 unfold FO sc at *
 have hN:(0:Int)<=N:=by omega
 have e:((N*X:Nat):Int)=(N:Int)*X:=Int.natCast_mul ..
 dsimp only
 rw[e]
 have a1:=Int.mul_le_mul_of_nonneg_left h.1.1 hN
 have a2:=Int.mul_le_mul_of_nonneg_left h.1.2 hN
 have a3:=Int.mul_le_mul_of_nonneg_left h.2.1 hN
 have a4:=Int.mul_le_mul_of_nonneg_left h.2.2 hN
 rw[Int.mul_neg] at a1 a3
 omega
theorem CB {X:Nat}{ps:List Pt}(hX:∀i,FO X (ah ps i))(N:Nat):-(ps.length*(6*(N*X)):Int)<=2*Md (N*X) (ps.map (sc N))-N*N*dW ps/\2*Md (N*X) (ps.map (sc N))-N*N*dW ps<=ps.length*(6*(N*X)):=by
 have:=TI (X:=N*X) (ps:=ps.map (sc N)) (fun i=>by rw[aH];exact ab6 (hX i))
 rw[UD,List.length_map,Int.natCast_mul] at this
 exact this
theorem QE {X:Nat}{ps qs:List Pt}(hp:∀i,FO X (ah ps i))(hq:∀i,FO X (ah qs i))(h:∀N:Nat,0<N->∀x,wn (qs.map (sc N)) x<=wn (ps.map (sc N)) x):dW qs<=dW ps:=by
 rcases Int.lt_or_le (dW ps) (dW qs) with hlt|hle
 ·exfalso
  obtain⟨N,hN⟩:∃N:Nat,N=(ps.length+qs.length)*(6*X)+1:=⟨_,rfl⟩
  have a:=(CB hp N).2
  have b:=(CB hq N).1
  have c:=Z7 (X:=N*X) (h N (by omega))
  have d:(N:Int)*N*dW ps+(N:Int)*N<=(N:Int)*N*dW qs:=by
   have:=Int.mul_le_mul_of_nonneg_left (show dW ps+1<=dW qs by omega) (show (0:Int)<=N*N from Int.mul_nonneg (by omega) (by omega))
   rw[Int.mul_add,Int.mul_one] at this
   exact this
  have e:(N:Int)*N<=N*((ps.length+qs.length)*(6*X)):=by
   have:(N:Int)*((ps.length+qs.length)*(6*X))=ps.length*(6*(N*X))+qs.length*(6*(N*X)):=by grind
   rw[this]
   omega
  have f:=(jo (show (0:Int)<N by omega)).1 e
  have g:(N:Int)=(ps.length+qs.length)*(6*X)+1:=by rw[hN];push_cast;rfl
  omega
 ·exact hle
def JG (M:Int)(q:Pt):Pt:=(M*M*q.1+M,M*M*q.2+1)
theorem Vf (q u v:Pt):Ev fun M=>bu (JG M q) (sc (M*M) u) (sc (M*M) v)=bu q u v/\eG (JG M q) (sc (M*M) u) (sc (M*M) v)=false:=by
 have up:∀u v:Pt,u.2<=v.2->Ev fun M=>bu (JG M q) (sc (M*M) u) (sc (M*M) v)=bu q u v/\eG (JG M q) (sc (M*M) u) (sc (M*M) v)=false:=by
  intro u v huv
  have hsm:∀M:Int,2<=M->∀x y:Int,(M*M*x<=M*M*y+1↔x<=y)/\(M*M*y+1<M*M*x↔y<x)/\(M*M*y+1<=M*M*x↔y<x):=by
   intro M hM x y
   have Yj:4<=M*M:=Int.mul_le_mul hM hM (by omega) (by omega)
   have lo:∀x y:Int,x<=y->M*M*x<=M*M*y:=fun x y h=>Int.mul_le_mul_of_nonneg_left h (by omega)
   have st:∀x y:Int,x<y->M*M*x+M*M<=M*M*y:=fun x y h=>by
    have:=lo (x+1) y (by omega)
    rw[Int.mul_add,Int.mul_one] at this
    exact this
   refine⟨⟨fun h=>?_,fun h=>?_⟩,⟨fun h=>?_,fun h=>?_⟩,⟨fun h=>?_,fun h=>?_⟩⟩
   ·rcases Int.lt_or_le y x with c|c
    ·have:=st _ _ c;omega
    ·exact c
   ·have:=lo _ _ h;omega
   ·rcases Int.lt_or_le y x with c|c
    ·exact c
    ·have:=lo _ _ c;omega
   ·have:=st _ _ h;omega
   ·rcases Int.lt_or_le y x with c|c
    ·exact c
    ·have:=lo _ _ c;omega
   ·have:=st _ _ h;omega
  have hcr:∀M:Int,cr (sc (M*M) u) (sc (M*M) v) (JG M q)=M*M*(M*M*cr u v q+M*(-(v.2-u.2))+(v.1-u.1)):=by intro M;unfold cr sc JG;grind
  by_cases hs:u.2<=q.2/\q.2<v.2
  ·have main:Ev fun M=>2<=M/\((0<cr u v q/\0<M*M*cr u v q+M*(-(v.2-u.2))+(v.1-u.1))\/(cr u v q<=0/\M*M*cr u v q+M*(-(v.2-u.2))+(v.1-u.1)<0)):=by
    refine (Ev.ge 2).and ?_
    rcases Int.lt_trichotomy (cr u v q) 0 with c|c|c
    ·refine (Ev.Rq (show 0 < -cr u v q by omega) (v.2-u.2) (-(v.1-u.1))).mono fun M hM=>.inr ⟨by omega,?_⟩
     have e:M*M*-cr u v q+M*(v.2-u.2)+-(v.1-u.1)=-(M*M*cr u v q+M*(-(v.2-u.2))+(v.1-u.1)):=by grind
     omega
    ·refine (Ev.kF (show 0<v.2-u.2 by omega) (-(v.1-u.1))).mono fun M hM=>.inr ⟨by omega,?_⟩
     rw[c,Int.mul_zero,Int.mul_neg]
     omega
    ·exact (Ev.Rq c (-(v.2-u.2)) (v.1-u.1)).mono fun M hM=>.inl ⟨c,hM⟩
   refine main.mono fun M ⟨hM,hx⟩=>?_
   have Yj:0<M*M:=Int.mul_pos (by omega) (by omega)
   have k:=hsm M hM
   have hd:(sc (M*M) u).2<=(JG M q).2/\(JG M q).2<(sc (M*M) v).2:=⟨(k _ _).1.2 hs.1,(k _ _).2.1.2 hs.2⟩
   constructor
   ·rw[dL (by omega),dL huv,decide_eq_true hd,decide_eq_true hs]
    congr 1
    rw[decide_eq_decide,hcr,iF Yj]
    omega
   ·cases ho:eG (JG M q) (sc (M*M) u) (sc (M*M) v)
    ·rfl
    ·have:=jO ho
     rw[hcr,nH Yj] at this
     omega
  ·refine (Ev.ge 2).mono fun M hM=>?_
   have k:=hsm M hM
   constructor
   ·rw[dL ((jo (Int.mul_pos (by omega) (by omega))).2 huv),dL huv,decide_eq_false hs]
    rw[decide_eq_false (fun hd=>hs ⟨(k _ _).1.1 hd.1,(k _ _).2.1.1 hd.2⟩)]
    rfl
   ·cases ho:eG (JG M q) (sc (M*M) u) (sc (M*M) v)
    ·rfl
    ·have:=(dB.1 ho).2.2
     have hle:(sc (M*M) u).2<=(sc (M*M) v).2:=(jo (Int.mul_pos (by omega) (by omega))).2 huv
     rw[Int.min_eq_left hle,Int.max_eq_right hle] at this
     exact absurd ⟨(k _ _).1.1 this.1,(k _ _).2.2.1 this.2⟩ hs
 rcases Int.le_total u.2 v.2 with h|h
 ·exact up u v h
 ·refine (up v u h).mono fun M hM=>?_
  rw[<-fU (JG M q),<-fU q,<-jI]
  exact hM
theorem NI {ps:List Pt}(hn:0<ps.length)(q:Pt):Ev fun M=>0<M*M/\kC (ps.map (sc (M*M))) (JG M q)/\wn (ps.map (sc (M*M))) (JG M q)=wn ps q:=by
 refine ((Ev.ge 1).and (Ev.all ps.length (P:=fun i M=>bu (JG M q) (sc (M*M) (ah ps i)) (sc (M*M) (ah ps (i+1)))=bu q (ah ps i) (ah ps (i+1))/\eG (JG M q) (sc (M*M) (ah ps i)) (sc (M*M) (ah ps (i+1)))=false) fun i _=>Vf q _ _)).mono fun M ⟨h1,h2⟩=>?_
 have Yj:0<M*M:=Int.mul_pos (by omega) (by omega)
 refine⟨Yj,uj (by rw[List.length_map];exact hn) fun i hi=>?_,?_⟩
 ·rw[List.length_map] at hi
  rw[aH,aH]
  exact (h2 i hi).2
 ·unfold wn
  rw[List.length_map]
  refine dw _ fun i hi=>?_
  rw[aH,aH]
  unfold cw
  rw[(h2 i hi).1,Dx Yj]
theorem NH {ps:List Pt}(h:dm ps=true)(i:Nat):FO 1000000 (ah ps i):=by
 have:=lL (eH (jH h).2 i)
 unfold FO
 omega
theorem lJ (a b:Int)(p:Pt):sc a (sc b p)=sc (a*b) p:=by unfold sc;dsimp only;rw[Int.mul_assoc,Int.mul_assoc]
theorem nP (a b:Int)(ps:List Pt):(ps.map (sc b)).map (sc a)=ps.map (sc (a*b)):=by
 rw[List.map_map]
 exact List.map_congr_left fun p _=>lJ a b p
theorem abt {ps:List Pt}(h:Simp ps):∃K,(K=1\/K=-1)/\∀d,0<d->∀q,kC (ps.map (sc d)) q->wn (ps.map (sc d)) q=0\/wn (ps.map (sc d)) q=K:=by
 by_cases hx:∃d q,0<d/\kC (ps.map (sc d)) q/\wn (ps.map (sc d)) q=-1
 ·obtain⟨d,q,hd,o,e⟩:=hx
  refine⟨-1,.inr rfl,fun c hc r hr=>?_⟩
  have o1:=(pq hc).2 o
  have o2:=(pq hd).2 hr
  have w1:=qL hc (ps.map (sc d)) q
  have w2:=qL hd (ps.map (sc c)) r
  rw[nP] at o1 o2 w1 w2
  rw[Int.mul_comm] at o2 w2
  obtain⟨K,hK,ha⟩:=CV (h.sc (d:=c*d) (Int.mul_pos hc hd)) [sc c q,sc d r] (by simp;exact⟨o1,o2⟩)
  have a1:=ha _ (List.mem_cons_self ..)
  have a2:=ha _ (List.mem_cons_of_mem _ (List.mem_cons_self ..))
  omega
 ·refine⟨1,.inl rfl,fun c hc r hr=>?_⟩
  obtain⟨K,hK,ha⟩:=CV (h.sc hc) [r] (by simp;exact hr)
  have a2:=ha r (by simp)
  have:wn (ps.map (sc c)) r≠-1:=fun e=>hx ⟨c,r,hc,hr,e⟩
  omega
structure Poly (ps:List Pt):Prop extends Simp ps where
 one:∀d,0<d->∀q,kC (ps.map (sc d)) q->wn (ps.map (sc d)) q=0\/wn (ps.map (sc d)) q=1
theorem yg (ps:List Pt):ps.map (sc 1)=ps:=by
 have:∀p:Pt,sc 1 p=p:=fun p=>by unfold sc;rw[Int.one_mul,Int.one_mul]
 rw[List.map_congr_left (fun p _=>this p),List.map_id']
theorem Poly.at1 {ps:List Pt}(h:Poly ps){q:Pt}(hq:kC ps q):wn ps q=0\/wn ps q=1:=by
 have:=h.one 1 (by omega) q
 rw[yg] at this
 exact this hq
theorem Poly.sc {ps:List Pt}(h:Poly ps){d:Int}(hd:0<d):Poly (ps.map (sc d)):=by
 refine⟨h.toSimp.sc hd,fun c hc q=>?_⟩
 rw[nP]
 exact h.one _ (Int.mul_pos hc hd) q
theorem uf {ps:List Pt}(h:dm ps=true):Poly ps:=by
 have hs:=YL h
 have hl:=hs.len
 obtain⟨K,hK,ha⟩:=abt hs
 rcases hK with rfl|rfl
 ·exact⟨hs,ha⟩
 ·exfalso
  have htw:0<dW ps:=by
   unfold dm at h
   simp only[Bool.and_eq_true,decide_eq_true_eq] at h
   exact h.2.2.2
  have c1:∀ (p:Pt) i,ah [p] i=p:=by
   intro p i
   unfold ah
   rw[show [p].length=1 from rfl,Nat.mod_one]
   rfl
  have hle:dW ps<=dW [((0:Int),(0:Int))]:=QE (X:=1000000) (ps:=[((0:Int),(0:Int))]) (fun i=>by
   rw[c1]
   unfold FO
   simp) (NH h) (fun N hN x=>by
   have e:wn ([((0:Int),(0:Int))].map (Go.Proofs.YtlkgjmnjhifehaaGreat.sc N)) x=0:=by
    show sumN (fun i=>cw x (ah [Go.Proofs.YtlkgjmnjhifehaaGreat.sc N (0,0)] i) (ah [Go.Proofs.YtlkgjmnjhifehaaGreat.sc N (0,0)] (i+1))) 1=0
    unfold sumN sumN cw
    rw[c1,c1,uI rfl]
    simp[rF]
   rw[e]
   obtain⟨M,hM⟩:=NI (ps:=ps.map (Go.Proofs.YtlkgjmnjhifehaaGreat.sc N)) (by rw[List.length_map];omega) x
   obtain⟨Yj,hoff,hw⟩:=hM M (Int.le_refl _)
   rw[nP] at hoff hw
   have:=ha _ (Int.mul_pos Yj (by omega)) _ hoff
   omega)
  have e2:dW [((0:Int),(0:Int))]=0:=by decide
  omega
theorem adE {ps:List Pt}(h:Poly ps)(i:Nat){z:Pt}(hz:uA z (ah ps i) (ah ps (i+1))){f:Pt}(hf:0<xr (ah ps i) (ah ps (i+1)) f):Ev fun N=>kC (ps.map (sc N)) (nr N z f)/\wn (ps.map (sc N)) (nr N z f)=1:=by
 have hl:=h.len
 have e1:ah ps (i%ps.length)=ah ps i:=(dV _ _).symm
 have e2:ah ps (i%ps.length+1)=ah ps (i+1):=fE (Nat.mod_add_mod _ _ _)
 have hi:i%ps.length<ps.length:=Nat.mod_lt _ (by omega)
 rw[<-e1,<-e2] at hz hf
 have hg:xr (ah ps (i%ps.length)) (ah ps (i%ps.length+1)) (-f.1,-f.2)<0:=by
  have:xr (ah ps (i%ps.length)) (ah ps (i%ps.length+1)) (-f.1,-f.2)=-xr (ah ps (i%ps.length)) (ah ps (i%ps.length+1)) f:=by unfold xr;grind
  omega
 refine ((Us h.toSimp hi hz hf hg).and ((O8 h.toSimp hi hz (f:=f) (by omega)).and ((O8 h.toSimp hi hz (f:=(-f.1,-f.2)) (by omega)).and (Ev.ge 1)))).mono fun N ⟨a,b,c,d⟩=>⟨b,?_⟩
 have:=h.one N (by omega) _ b
 have:=h.one N (by omega) _ c
 omega
theorem JI {ps:List Pt}(h:Poly ps)(i:Nat){z:Pt}(hz:uA z (ah ps i) (ah ps (i+1))){f:Pt}(hf:xr (ah ps i) (ah ps (i+1)) f<0):Ev fun N=>kC (ps.map (sc N)) (nr N z f)/\wn (ps.map (sc N)) (nr N z f)=0:=by
 have hl:=h.len
 have e1:ah ps (i%ps.length)=ah ps i:=(dV _ _).symm
 have e2:ah ps (i%ps.length+1)=ah ps (i+1):=fE (Nat.mod_add_mod _ _ _)
 have hi:i%ps.length<ps.length:=Nat.mod_lt _ (by omega)
 rw[<-e1,<-e2] at hz hf
 have hg:0<xr (ah ps (i%ps.length)) (ah ps (i%ps.length+1)) (-f.1,-f.2):=by
  have:xr (ah ps (i%ps.length)) (ah ps (i%ps.length+1)) (-f.1,-f.2)=-xr (ah ps (i%ps.length)) (ah ps (i%ps.length+1)) f:=by unfold xr;grind
  omega
 refine ((Us h.toSimp hi hz hg hf).and ((O8 h.toSimp hi hz (f:=f) (by omega)).and ((O8 h.toSimp hi hz (f:=(-f.1,-f.2)) (by omega)).and (Ev.ge 1)))).mono fun N ⟨a,b,c,d⟩=>⟨b,?_⟩
 have:=h.one N (by omega) _ b
 have:=h.one N (by omega) _ c
 omega
def kF (α β:Int)(v:Pt):Int:=α*v.1+β*v.2
def df (a c:Pt):Pt:=(a.1-c.1,a.2-c.2)
theorem DW {α β N:Int}{a c f g:Pt}(hN:0<=N)(hf:kF α β f<0)(hg:kF α β g<0)(ha:0<=kF α β (df a c)):Sep (nr N c f) (nr N c g) (sc N a) (sc N c):=by
 have e1:∀f,ev (2*α) (2*β) (-(2*(α*(N*c.1)+β*(N*c.2)))+1) (nr N c f)=2*kF α β f+1:=by intro f;unfold ev nr kF;grind
 have e2:ev (2*α) (2*β) (-(2*(α*(N*c.1)+β*(N*c.2)))+1) (sc N a)=2*(N*kF α β (df a c))+1:=by unfold ev sc kF df;grind
 have e3:ev (2*α) (2*β) (-(2*(α*(N*c.1)+β*(N*c.2)))+1) (sc N c)=1:=by unfold ev sc;grind
 refine⟨2*α,2*β,-(2*(α*(N*c.1)+β*(N*c.2)))+1,?_,?_,?_,?_⟩
 ·rw[e1];omega
 ·rw[e1];omega
 ·rw[e2]
  have:=Int.mul_nonneg hN ha
  omega
 ·rw[e3];omega
section
variable {ps:List Pt} (h:Simp ps) {i:Nat} (hi:i<ps.length)
include h hi
theorem Tq (f g:Pt):Ev fun N=>∀k,k<ps.length->k≠i->k≠(i+1)%ps.length->Sep (nr N (ah ps (i+1)) f) (nr N (ah ps (i+1)) g) (sc N (ah ps k)) (sc N (ah ps (k+1))):=by
 have hl:=h.len
 refine Ev.all ps.length (P:=fun k N=>k≠i->k≠(i+1)%ps.length->Sep (nr N (ah ps (i+1)) f) (nr N (ah ps (i+1)) g) (sc N (ah ps k)) (sc N (ah ps (k+1)))) fun k hk=>?_
 by_cases c0:k=i
 ·exact⟨0,fun _ _ hx=>absurd c0 hx⟩
 by_cases c1:k=(i+1)%ps.length
 ·exact⟨0,fun _ _ _ hx=>absurd c1 hx⟩
 have hs:Sep (ah ps (i+1)) (ah ps (i+1)) (ah ps k) (ah ps (k+1)):=by
  by_cases c2:i=(k+1)%ps.length
  ·have f2:ah ps (i+1)=ah ps (k+2):=fE (by rw[c2,Nat.mod_add_mod])
   rw[f2]
   refine (rG (qp ?_)).symm
   cases ho:eG (ah ps (k+2)) (ah ps k) (ah ps (k+1))
   ·rfl
   ·exact absurd (jO ho) (h.vw k)
  ·obtain⟨α,β,γ,h1,h2,h3,h4⟩:=rG (h.far i k hi hk c0 c1 c2)
   exact⟨α,β,γ,h2,h2,h3,h4⟩
 refine (hs.near f g (0,0) (0,0)).mono fun N hN _ _=>?_
 rw[jP,jP] at hN
 exact hN
theorem Xw {α1 β1 α2 β2:Int}{f g:Pt}(f1:kF α1 β1 f<0)(g1:kF α1 β1 g<0)(a1:0<=kF α1 β1 (df (ah ps i) (ah ps (i+1))))(f2:kF α2 β2 f<0)(g2:kF α2 β2 g<0)(b2:0<=kF α2 β2 (df (ah ps (i+2)) (ah ps (i+1)))) :
  Ev fun N=>kC (ps.map (sc N)) (nr N (ah ps (i+1)) f)/\wn (ps.map (sc N)) (nr N (ah ps (i+1)) f)=wn (ps.map (sc N)) (nr N (ah ps (i+1)) g):=by
 have hl:=h.len
 refine ((Tq h hi f g).and (Ev.ge 1)).mono fun N ⟨hN,h1⟩=>?_
 have key:∀k,k<ps.length->Sep (nr N (ah ps (i+1)) f) (nr N (ah ps (i+1)) g) (sc N (ah ps k)) (sc N (ah ps (k+1))):=by
  intro k hk
  by_cases c0:k=i
  ·rw[c0]
   exact DW (by omega) f1 g1 a1
  by_cases c1:k=(i+1)%ps.length
  ·have f1:ah ps k=ah ps (i+1):=by rw[c1,<-dV]
   have e2:ah ps (k+1)=ah ps (i+2):=fE (by rw[c1,Nat.mod_add_mod])
   rw[f1,e2]
   exact (DW (by omega) f2 g2 b2).swap2
  exact hN k hk c0 c1
 refine⟨uj (by rw[List.length_map];omega) fun k hk=>?_,mP fun k hk=>?_⟩
 ·rw[List.length_map] at hk
  rw[aH,aH]
  cases ho:eG (nr N (ah ps (i+1)) f) (sc N (ah ps k)) (sc N (ah ps (k+1)))
  ·rfl
  ·obtain⟨α,β,γ,x1,x2,x3,x4⟩:=key k hk
   have:=xC ho x3 x4
   omega
 ·rw[List.length_map] at hk
  rw[aH,aH]
  exact (key k hk).mY
theorem ZA {z:Pt}(hz:uA z (ah ps (i+1)) (ah ps (i+2))){α β:Int}{f g:Pt}(f1:kF α β f<0)(b1:kF α β (df (ah ps (i+2)) (ah ps (i+1)))<0)(a1:0<=kF α β (df (ah ps i) (ah ps (i+1))))
  (hs:(0<xr (ah ps (i+1)) (ah ps (i+2)) f/\0<xr (ah ps (i+1)) (ah ps (i+2)) g)\/(xr (ah ps (i+1)) (ah ps (i+2)) f<0/\xr (ah ps (i+1)) (ah ps (i+2)) g<0)) :
  Ev fun N=>wn (ps.map (sc N)) (nr N (ah ps (i+1)) f)=wn (ps.map (sc N)) (nr N z g):=by
 have hl:=h.len
 obtain⟨s,m,s1,s2,e1,e2⟩:=sU hz
 have agE:Ev fun N=>∀k,k<ps.length->k≠i->k≠(i+1)%ps.length->Sep (nr N (ah ps (i+1)) f) (nr N z g) (sc N (ah ps k)) (sc N (ah ps (k+1))):=by
  refine Ev.all ps.length (P:=fun k N=>k≠i->k≠(i+1)%ps.length->Sep (nr N (ah ps (i+1)) f) (nr N z g) (sc N (ah ps k)) (sc N (ah ps (k+1)))) fun k hk=>?_
  by_cases c0:k=i
  ·exact⟨0,fun _ _ hx=>absurd c0 hx⟩
  by_cases c1:k=(i+1)%ps.length
  ·exact⟨0,fun _ _ _ hx=>absurd c1 hx⟩
  have hsp:Sep (ah ps (i+1)) z (ah ps k) (ah ps (k+1)):=by
   by_cases c2:k=(i+2)%ps.length
   ·have g1:ah ps k=ah ps (i+2):=by rw[c2,<-dV]
    have g2:ah ps (k+1)=ah ps (i+3):=fE (by rw[c2,Nat.mod_add_mod])
    rw[g1,g2]
    have hb:=h.vw (i+1)
    have x1:cr (ah ps (i+2)) (ah ps (i+3)) (ah ps (i+1))=cr (ah ps (i+1)) (ah ps (i+1+1)) (ah ps (i+1+2)):=by unfold cr;grind
    have x2:m*cr (ah ps (i+2)) (ah ps (i+3)) z=(m-s)*cr (ah ps (i+1)) (ah ps (i+1+1)) (ah ps (i+1+2)):=by unfold cr;grind
    rcases Int.lt_trichotomy (cr (ah ps (i+1)) (ah ps (i+1+1)) (ah ps (i+1+2))) 0 with c|c|c
    ·have:=(gJ (show 0<m-s by omega)).2 c
     rw[<-x2] at this
     exact (Sep.right (by omega) ((gJ (by omega)).1 this)).symm
    ·exact absurd c hb
    ·have:=(iF (show 0<m-s by omega)).2 c
     rw[<-x2] at this
     exact (Sep.left (by omega) ((iF (by omega)).1 this)).symm
   ·have g1:ah ps ((i+1)%ps.length)=ah ps (i+1):=(dV _ _).symm
    have g2:ah ps ((i+1)%ps.length+1)=ah ps (i+2):=fE (by rw[Nat.mod_add_mod])
    have hm:=h.far ((i+1)%ps.length) k (Nat.mod_lt _ (by omega)) hk c1 (by rw[Nat.mod_add_mod];exact c2) (fun e=>c0 (by
     have:(i+1)%ps.length=(k+1)%ps.length:=e
     rcases Nat.lt_or_ge (i+1) ps.length with x|x<;>rcases Nat.lt_or_ge (k+1) ps.length with y|y
     ·rw[Nat.mod_eq_of_lt x,Nat.mod_eq_of_lt y] at this;omega
     ·rw[Nat.mod_eq_of_lt x,show k+1=ps.length by omega,Nat.mod_self] at this;omega
     ·rw[Nat.mod_eq_of_lt y,show i+1=ps.length by omega,Nat.mod_self] at this;omega
     ·omega))
    rw[g1,g2] at hm
    obtain⟨α,β,γ,h1,h2,h3,h4⟩:=rG hm
    exact⟨α,β,γ,h1,mM hz.1 h1 h2,h3,h4⟩
  refine (hsp.near f g (0,0) (0,0)).mono fun N hN _ _=>?_
  rw[jP,jP] at hN
  exact hN
 have hzl:kF α β (df z (ah ps (i+1)))<0:=by
  have:m*kF α β (df z (ah ps (i+1)))=s*kF α β (df (ah ps (i+2)) (ah ps (i+1))):=by unfold kF df;grind
  have h2:=(gJ s1).2 b1
  rw[<-this] at h2
  exact (gJ (by omega)).1 h2
 refine (agE.and ((Ev.ge 1).and (Ev.kF (show 0 < -kF α β (df z (ah ps (i+1))) by omega) (-kF α β g)))).mono fun N ⟨hN,h1,hb⟩=>mP fun k hk=>?_
 rw[List.length_map] at hk
 rw[aH,aH]
 by_cases c0:k=i
 ·rw[c0]
  refine Sep.mY ?_
  have hg:kF α β ((nr N (df z (ah ps (i+1))) g))<0:=by
   have:kF α β ((nr N (df z (ah ps (i+1))) g))=N*kF α β (df z (ah ps (i+1)))+kF α β g:=by unfold kF nr df;grind
   rw[this]
   rw[Int.mul_neg] at hb
   omega
  have:=DW (N:=N) (c:=ah ps (i+1)) (by omega) f1 hg a1
  have e:nr N (ah ps (i+1)) (nr N (df z (ah ps (i+1))) g)=nr N z g:=by unfold nr df;apply Prod.ext<;>grind
  rw[e] at this
  exact this
 by_cases c1:k=(i+1)%ps.length
 ·have g1:ah ps k=ah ps (i+1):=by rw[c1,<-dV]
  have g2:ah ps (k+1)=ah ps (i+2):=fE (by rw[c1,Nat.mod_add_mod])
  rw[g1,g2]
  have hc:cr (ah ps (i+1)) (ah ps (i+2)) (ah ps (i+1))=0:=by unfold cr;grind
  refine Sep.mY (Sep.symm ?_)
  rcases hs with⟨a,b⟩|⟨a,b⟩
  ·exact Sep.left (by rw[EN _ _ _ _ _ hc,iF (by omega)];exact a) (by rw[EN _ _ _ _ _ (jO hz.1),iF (by omega)];exact b)
  ·exact Sep.right (by rw[EN _ _ _ _ _ hc,gJ (by omega)];exact a) (by rw[EN _ _ _ _ _ (jO hz.1),gJ (by omega)];exact b)
 exact (hN k hk c0 c1).mY
theorem ZB {z:Pt}(hz:uA z (ah ps (i+1)) (ah ps (i+2))){σ:Int}{f g:Pt}
  (hf:if 0<σ*cr (ah ps i) (ah ps (i+1)) (ah ps (i+2)) then σ*xr (ah ps (i+1)) (ah ps (i+2)) f<0\/σ*xr (ah ps i) (ah ps (i+1)) f<0 else σ*cr (ah ps i) (ah ps (i+1)) (ah ps (i+2))<0/\σ*xr (ah ps (i+1)) (ah ps (i+2)) f<0/\σ*xr (ah ps i) (ah ps (i+1)) f<0)
  (hg:σ*xr (ah ps (i+1)) (ah ps (i+2)) g<0) (hσ:σ=1\/σ=-1) :
  Ev fun N=>kC (ps.map (sc N)) (nr N (ah ps (i+1)) f)/\wn (ps.map (sc N)) (nr N (ah ps (i+1)) f)=wn (ps.map (sc N)) (nr N z g):=by
 obtain⟨a,ha⟩:∃a,ah ps i=a:=⟨_,rfl⟩
 obtain⟨c,hc⟩:∃c,ah ps (i+1)=c:=⟨_,rfl⟩
 obtain⟨b,hb⟩:∃b,ah ps (i+2)=b:=⟨_,rfl⟩
 have same:=@Xw ps h i hi
 have mid:=@ZA ps h i hi
 rw[ha,hc,hb] at same
 rw[ha,hc,hb] at mid
 rw[hc,hb] at hz
 rw[ha,hc,hb] at hf
 rw[hc,hb] at hg
 rw[hc]
 let ea:Int:=σ*-(b.2-c.2)
 let eb:Int:=σ*(b.1-c.1)
 let ka:Int:=σ*(a.2-c.2)
 let kb:Int:=σ*-(a.1-c.1)
 have e_f:∀v,kF ea eb v=σ*xr c b v:=fun v=>by show kF (σ*-(b.2-c.2)) (σ*(b.1-c.1)) v=_;unfold kF xr;grind
 have k_f:∀v,kF ka kb v=σ*xr a c v:=fun v=>by show kF (σ*(a.2-c.2)) (σ*-(a.1-c.1)) v=_;unfold kF xr;grind
 have e_b:kF ea eb (df b c)=0:=by rw[e_f];unfold xr df;grind
 have e_a:kF ea eb (df a c)=σ*cr a c b:=by rw[e_f];unfold xr df cr;grind
 have k_a:kF ka kb (df a c)=0:=by rw[k_f];unfold xr df;grind
 have k_b:kF ka kb (df b c)=σ*cr a c b:=by rw[k_f];unfold xr df cr;grind
 obtain⟨D,hD⟩:∃D,σ*cr a c b=D:=⟨_,rfl⟩
 rw[hD] at e_a k_b hf
 have aaU:∀ (α β:Int) (u v:Pt),kF α β (u.1+v.1,u.2+v.2)=kF α β u+kF α β v:=fun α β u v=>by unfold kF;grind
 have V8:∀ (α β:Int) (u v:Pt),kF α β (u.1-v.1,u.2-v.2)=kF α β u-kF α β v:=fun α β u v=>by unfold kF;grind
 have aaT:∀ (α β:Int) (u v:Pt),kF α β (-u.1-v.1,-u.2-v.2)=-kF α β u-kF α β v:=fun α β u v=>by unfold kF;grind
 have sgn:∀f g:Pt,kF ea eb f<0->kF ea eb g<0->(0<xr c b f/\0<xr c b g)\/(xr c b f<0/\xr c b g<0):=by
  intro f g h1 h2
  rw[e_f] at h1 h2
  rcases hσ with rfl|rfl<;>omega
 by_cases hw:0<D
 ·rw[if_pos hw] at hf
  have x0:kF ea eb ((df b c).1-(df a c).1,(df b c).2-(df a c).2)<0:=by rw[V8,e_b,e_a];omega
  have m0:=mid hz (α:=2*ea-ka) (β:=2*eb-kb) (f:=((df b c).1-(df a c).1,(df b c).2-(df a c).2)) (g:=g)
  have l2:∀v,kF (2*ea-ka) (2*eb-kb) v=2*kF ea eb v-kF ka kb v:=fun v=>by unfold kF;grind
  have m1:=m0 (by rw[l2,V8,V8,e_b,e_a,k_b,k_a];omega) (by rw[l2,e_b,k_b];omega) (by rw[l2,e_a,k_a];omega) (sgn _ _ x0 (by rw[e_f];exact hg))
  have step:∀f,kF ea eb f<0->Ev fun N=>kC (ps.map (sc N)) (nr N c f)/\wn (ps.map (sc N)) (nr N c f)=wn (ps.map (sc N)) (nr N z g):=by
   intro f hf
   refine ((same hf x0 (by omega) hf x0 (by omega)).and m1).mono fun N ⟨⟨x,y⟩,w⟩=>⟨x,y.trans w⟩
  rcases hf with hf|hf
  ·exact step f (by rw[e_f];exact hf)
  ·have y0:kF ea eb (-(df b c).1-(df a c).1,-(df b c).2-(df a c).2)<0:=by rw[aaT,e_b,e_a];omega
   have y1:kF ka kb (-(df b c).1-(df a c).1,-(df b c).2-(df a c).2)<0:=by rw[aaT,k_b,k_a];omega
   have hf':kF ka kb f<0:=by rw[k_f];exact hf
   refine ((same hf' y1 (by omega) hf' y1 (by omega)).and (step _ y0)).mono fun N ⟨⟨x,y⟩,_,w⟩=>⟨x,y.trans w⟩
 ·rw[if_neg hw] at hf
  obtain⟨d0,f1,f2⟩:=hf
  rw[<-e_f] at f1
  rw[<-k_f] at f2
  have x0:kF ea eb ((df b c).1+(df a c).1,(df b c).2+(df a c).2)<0:=by rw[aaU,e_b,e_a];omega
  have x1:kF ka kb ((df b c).1+(df a c).1,(df b c).2+(df a c).2)<0:=by rw[aaU,k_b,k_a];omega
  have m1:=mid hz (α:=ka) (β:=kb) (f:=((df b c).1+(df a c).1,(df b c).2+(df a c).2)) (g:=g) x1 (by omega) (by omega) (sgn _ _ x0 (by rw[e_f];exact hg))
  refine ((same f2 x1 (by omega) f1 x0 (by omega)).and m1).mono fun N ⟨⟨x,y⟩,w⟩=>⟨x,y.trans w⟩
end
def xJ (a c b f:Pt):Prop:=if 0<cr a c b then xr c b f<0\/xr a c f<0 else xr c b f<0/\xr a c f<0
def NW (a c b f:Pt):Prop:=if 0<cr a c b then 0<xr c b f/\0<xr a c f else 0<xr c b f\/0<xr a c f
theorem IQ {c b:Pt}(h:c≠b):uA (md c b) (sc 2 c) (sc 2 b):=by
 refine⟨?_,fun e=>?_,fun e=>?_⟩
 ·rw[dB]
  refine⟨by unfold cr sc md;grind,?_,?_⟩<;>(unfold sc md;dsimp only;omega)
 ·have h1:=congrArg Prod.fst e
  have h2:=congrArg Prod.snd e
  unfold md sc at h1 h2
  dsimp only at h1 h2
  exact h (Prod.ext (by omega) (by omega))
 ·have h1:=congrArg Prod.fst e
  have h2:=congrArg Prod.snd e
  unfold md sc at h1 h2
  dsimp only at h1 h2
  exact h (Prod.ext (by omega) (by omega))
theorem Uw (a b f:Pt):xr (sc 2 a) (sc 2 b) (sc 2 f)=4*xr a b f:=by unfold xr sc;grind
theorem Jr {ps:List Pt}(h:Simp ps)(i:Nat):ah ps (i+1)≠ah ps (i+2):=by
 intro e
 refine h.vw i ?_
 unfold cr
 rw[e]
 grind
theorem sq_pos {c b:Pt}(h:c≠b):0<(b.1-c.1)*(b.1-c.1)+(b.2-c.2)*(b.2-c.2):=by
 have sq:∀x:Int,0<=x*x:=fun x=>by
  rcases Int.le_total 0 x with h|h
  ·exact Int.mul_nonneg h h
  ·have:=Int.mul_nonneg (show 0<=-x by omega) (show 0<=-x by omega)
   rw[Int.neg_mul_neg] at this
   exact this
 have s1:=sq (b.1-c.1)
 have s2:=sq (b.2-c.2)
 rcases Int.lt_or_le 0 ((b.1-c.1)*(b.1-c.1)+(b.2-c.2)*(b.2-c.2)) with x|x
 ·exact x
 ·have e1:=Int.mul_eq_zero.1 (show (b.1-c.1)*(b.1-c.1)=0 by omega)
  have e2:=Int.mul_eq_zero.1 (show (b.2-c.2)*(b.2-c.2)=0 by omega)
  exact absurd (Prod.ext (by omega) (by omega)) h
theorem abX (N:Int)(c f:Pt):nr N (sc 2 c) (sc 2 f)=sc 2 (nr N c f):=by unfold nr sc;apply Prod.ext<;>grind
theorem He {ps:List Pt}(h:Poly ps){i:Nat}(hi:i<ps.length){σ v:Int}(hσ:σ=1\/σ=-1){f:Pt}
  (hf:if 0<σ*cr (ah ps i) (ah ps (i+1)) (ah ps (i+2)) then σ*xr (ah ps (i+1)) (ah ps (i+2)) f<0\/σ*xr (ah ps i) (ah ps (i+1)) f<0 else σ*xr (ah ps (i+1)) (ah ps (i+2)) f<0/\σ*xr (ah ps i) (ah ps (i+1)) f<0)
  (hv:∀g,σ*xr (sc 2 (ah ps (i+1))) (sc 2 (ah ps (i+2))) g<0->Ev fun N=>wn ((ps.map (sc 2)).map (sc N)) (nr N (md (ah ps (i+1)) (ah ps (i+2))) g)=v) :
  Ev fun N=>kC (ps.map (sc N)) (nr N (ah ps (i+1)) f)/\wn (ps.map (sc N)) (nr N (ah ps (i+1)) f)=v:=by
 have hb:=h.vw i
 have hne:=Jr h.toSimp i
 have hx:=ZB (ps:=ps.map (sc 2)) (h.toSimp.sc (by omega)) (i:=i) (by rw[List.length_map];exact hi) (z:=md (ah ps (i+1)) (ah ps (i+2)))
 rw[aH,aH,aH] at hx
 have e4:cr (sc 2 (ah ps i)) (sc 2 (ah ps (i+1))) (sc 2 (ah ps (i+2)))=4*cr (ah ps i) (ah ps (i+1)) (ah ps (i+2)):=by rw[wI];rfl
 have hy:=hx (IQ hne) (σ:=σ) (f:=sc 2 f) (g:=sc σ ((ah ps (i+2)).2-(ah ps (i+1)).2,-((ah ps (i+2)).1-(ah ps (i+1)).1))) (by
  rw[e4,Uw,Uw]
  rcases hσ with rfl|rfl
  ·split
   ·rw[if_pos (by omega)] at hf
    omega
   ·rw[if_neg (by omega)] at hf
    omega
  ·split
   ·rw[if_pos (by omega)] at hf
    omega
   ·rw[if_neg (by omega)] at hf
    omega) (by
  have:=sq_pos hne
  have e:σ*xr (sc 2 (ah ps (i+1))) (sc 2 (ah ps (i+2))) (sc σ ((ah ps (i+2)).2-(ah ps (i+1)).2,-((ah ps (i+2)).1-(ah ps (i+1)).1)))=σ*σ*(-2*(((ah ps (i+2)).1-(ah ps (i+1)).1)*((ah ps (i+2)).1-(ah ps (i+1)).1)+((ah ps (i+2)).2-(ah ps (i+1)).2)*((ah ps (i+2)).2-(ah ps (i+1)).2))):=by unfold xr sc;grind
  rw[e]
  rcases hσ with rfl|rfl<;>omega) hσ
 have hz:=hv (sc σ ((ah ps (i+2)).2-(ah ps (i+1)).2,-((ah ps (i+2)).1-(ah ps (i+1)).1))) (by
  have:=sq_pos hne
  have e:σ*xr (sc 2 (ah ps (i+1))) (sc 2 (ah ps (i+2))) (sc σ ((ah ps (i+2)).2-(ah ps (i+1)).2,-((ah ps (i+2)).1-(ah ps (i+1)).1)))=σ*σ*(-2*(((ah ps (i+2)).1-(ah ps (i+1)).1)*((ah ps (i+2)).1-(ah ps (i+1)).1)+((ah ps (i+2)).2-(ah ps (i+1)).2)*((ah ps (i+2)).2-(ah ps (i+1)).2))):=by unfold xr sc;grind
  rw[e]
  rcases hσ with rfl|rfl<;>omega)
 refine (hy.and hz).mono fun N ⟨⟨o,w⟩,v⟩=>?_
 rw[v] at w
 rw[abX,nP,Int.mul_comm,<-nP] at o w
 rw[qL (by omega)] at w
 exact⟨(pq (by omega)).1 o,w⟩
theorem Qn {ps:List Pt}(h:Poly ps){i:Nat}(hi:i<ps.length){f:Pt}(hf:xJ (ah ps i) (ah ps (i+1)) (ah ps (i+2)) f):Ev fun N=>kC (ps.map (sc N)) (nr N (ah ps (i+1)) f)/\wn (ps.map (sc N)) (nr N (ah ps (i+1)) f)=0:=by
 refine He h hi (σ:=1) (.inl rfl) ?_ fun g hg=>?_
 ·unfold xJ at hf
  split
  ·rw[if_pos (by omega)] at hf;omega
  ·rw[if_neg (by omega)] at hf;omega
 ·have hz:=IQ (Jr h.toSimp i)
  have:=JI (ps:=ps.map (sc 2)) (h.sc (by omega)) (i+1) (z:=md (ah ps (i+1)) (ah ps (i+2))) (f:=g)
  rw[aH,aH,show i+1+1=i+2 from rfl] at this
  exact (this hz (by omega)).mono fun N hN=>hN.2
theorem Xy {ps:List Pt}(h:Poly ps){i:Nat}(hi:i<ps.length){f:Pt}(hf:NW (ah ps i) (ah ps (i+1)) (ah ps (i+2)) f):Ev fun N=>kC (ps.map (sc N)) (nr N (ah ps (i+1)) f)/\wn (ps.map (sc N)) (nr N (ah ps (i+1)) f)=1:=by
 have hb:=h.vw i
 refine He h hi (σ:=-1) (.inr rfl) ?_ fun g hg=>?_
 ·unfold NW at hf
  split
  ·rw[if_neg (by omega)] at hf;omega
  ·rw[if_pos (by omega)] at hf;omega
 ·have hz:=IQ (Jr h.toSimp i)
  have:=adE (ps:=ps.map (sc 2)) (h.sc (by omega)) (i+1) (z:=md (ah ps (i+1)) (ah ps (i+2))) (f:=g)
  rw[aH,aH,show i+1+1=i+2 from rfl] at this
  exact (this hz (by omega)).mono fun N hN=>hN.2
theorem IM {a b c:Pt}(h:cr a b c≠0):xJ a b c (mv a b c):=by
 unfold xJ mv
 by_cases hc:0<cr a b c
 ·rw[if_pos hc,if_pos hc]
  have e:xr b c (2*b.1-a.1-c.1,2*b.2-a.2-c.2)=-cr a b c:=by unfold xr cr;grind
  left
  omega
 ·rw[if_neg hc,if_neg hc]
  have e1:xr b c (a.1+c.1-2*b.1,a.2+c.2-2*b.2)=cr a b c:=by unfold xr cr;grind
  have e2:xr a b (a.1+c.1-2*b.1,a.2+c.2-2*b.2)=cr a b c:=by unfold xr cr;grind
  omega
theorem JW {ps:List Pt}(h:Poly ps):Ev fun N=>∀k,wn (ps.map (sc N)) (ah (side N ps) k)=0:=by
 have hl:=h.len
 have h0:=Qn h (i:=0) (by omega) (IM (h.vw 0))
 refine ((xh h.toSimp).and h0).mono fun N ⟨hm,_,hw⟩ k=>?_
 have:=rX (ps:=ps.map (sc N)) (qs:=side N ps) (by rw[ji];omega) (fun i hi k hk=>hm i (by rw[List.length_map] at hi;exact hi) k hk)
 rw[this k,<-this (0+1),wL (by omega)]
 exact hw
theorem U0 {ps:List Pt}(h:Poly ps){y:Pt}(hy:kC ps y)(hw:wn ps y=1):Ev fun N=>∀k,wn (side N ps) (sc N (ah ps k))=1:=by
 have hl:=h.len
 refine (((xh h.toSimp).and (JW h)).and ((CW h.toSimp hy).and (Ev.ge 1))).mono fun N ⟨⟨hm,ho⟩,hs,h1⟩ k=>?_
 have hm':∀i,i<(ps.map (sc N)).length->∀k,k<(side N ps).length->bC (ah (ps.map (sc N)) i) (ah (ps.map (sc N)) (i+1)) (ah (side N ps) k) (ah (side N ps) (k+1))=false:=by
  intro i hi
  rw[List.length_map] at hi
  exact hm i hi
 have hβ:=rX (ps:=side N ps) (qs:=ps.map (sc N)) (by rw[List.length_map];omega) (fun i hi k hk=>by rw[iG];exact hm' k hk i hi)
 have:=pairs (q:=sc N y) hm' hβ ho
 rw[hs,qL (by omega),hw] at this
 have e:=hβ k
 rw[aH] at e
 rw[e]
 omega
theorem YD {ps:List Pt}(h:Poly ps){y:Pt}(hy:kC ps y)(hw:wn ps y=1){d:Pt}(hd:0<=placeOf ps d):Ev fun N=>wn (side N ps) (sc N d)=1:=by
 have hl:=h.len
 rw[jk h.toSimp] at hd
 cases ho:fM ps d
 ·have hof:=(fF (by omega)).1 ho
  rw[ho,if_neg (by simp)] at hd
  have:wn ps d=1:=by
   have:=h.at1 hof
   split at hd<;>omega
  exact (CW h.toSimp hof).mono fun N hN=>hN.trans this
 ·unfold fM at ho
  obtain⟨j,hj,hon⟩:=List.any_eq_true.1 ho
  have hj:=List.mem_range.1 hj
  refine (((xh h.toSimp).and (U0 h hy hw)).and (Ev.ge 1)).mono fun N ⟨⟨hm,h1⟩,hN⟩=>?_
  rw[<-h1 j]
  refine (mP fun k hk=>?_).symm
  have:=hm j hj k hk
  rw[aH,aH] at this
  exact tV (by rw[mg (by omega)];exact hon) this
theorem yw {u v:Pt}{s r:Int}(hs:0<=s)(hr:0<=r):eG (s*u.1+r*v.1,s*u.2+r*v.2) (sc (s+r) u) (sc (s+r) v)=true:=by
 have key:∀x y:Int,min ((s+r)*x) ((s+r)*y)<=s*x+r*y/\s*x+r*y<=max ((s+r)*x) ((s+r)*y):=by
  intro x y
  have e1:(s+r)*x=s*x+r*x:=Int.add_mul ..
  have e2:(s+r)*y=s*y+r*y:=Int.add_mul ..
  rcases Int.le_total x y with h|h
  ·have a:=Int.mul_le_mul_of_nonneg_left h hs
   have b:=Int.mul_le_mul_of_nonneg_left h hr
   omega
  ·have a:=Int.mul_le_mul_of_nonneg_left h hs
   have b:=Int.mul_le_mul_of_nonneg_left h hr
   omega
 rw[dB]
 exact⟨by unfold cr sc;grind,key _ _,key _ _⟩
theorem BN {a b c d:Pt}(h:bC a b c d=true):∃t:Int,0<t/\∃z,eG z (sc t a) (sc t b)=true/\eG z (sc t c) (sc t d)=true:=by
 have one:∀p:Pt,sc 1 p=p:=fun p=>by unfold sc;rw[Int.one_mul,Int.one_mul]
 unfold bC at h
 simp only[Bool.or_eq_true] at h
 rcases h with h|h|h|h|h
 ·rw[ed] at h
  have e:cr c d a-cr c d b=cr a b d-cr a b c:=by unfold cr;grind
  obtain⟨h1,h2⟩:=h
  have i1:-cr c d b*a.1+cr c d a*b.1=cr a b d*c.1+-cr a b c*d.1:=by unfold cr;grind
  have i2:-cr c d b*a.2+cr c d a*b.2=cr a b d*c.2+-cr a b c*d.2:=by unfold cr;grind
  rcases h2 with⟨x,y⟩|⟨x,y⟩
  ·rcases h1 with⟨p,q⟩|⟨p,q⟩
   ·omega
   ·have m1:=yw (u:=a) (v:=b) (s:=cr c d b) (r:=-cr c d a) (by omega) (by omega)
    have m2:=yw (u:=c) (v:=d) (s:=-cr a b d) (r:=cr a b c) (by omega) (by omega)
    refine⟨cr c d b+-cr c d a,by omega,_,m1,?_⟩
    rw[show -cr a b d+cr a b c=cr c d b+-cr c d a by omega] at m2
    rw[show (cr c d b*a.1+-cr c d a*b.1,cr c d b*a.2+-cr c d a*b.2)=(-cr a b d*c.1+cr a b c*d.1,-cr a b d*c.2+cr a b c*d.2) from Prod.ext (by simp only[Int.neg_mul] at *;omega) (by simp only[Int.neg_mul] at *;omega)]
    exact m2
  ·rcases h1 with⟨p,q⟩|⟨p,q⟩
   ·have m1:=yw (u:=a) (v:=b) (s:=-cr c d b) (r:=cr c d a) (by omega) (by omega)
    have m2:=yw (u:=c) (v:=d) (s:=cr a b d) (r:=-cr a b c) (by omega) (by omega)
    refine⟨-cr c d b+cr c d a,by omega,_,m1,?_⟩
    rw[show cr a b d+-cr a b c=-cr c d b+cr c d a by omega] at m2
    rw[i1,i2]
    exact m2
   ·omega
 ·exact⟨1,by omega,a,by rw[one,one];exact kQ _ _,by rw[one,one];exact h⟩
 ·exact⟨1,by omega,b,by rw[one,one];exact nN _ _,by rw[one,one];exact h⟩
 ·exact⟨1,by omega,c,by rw[one,one];exact h,by rw[one,one];exact kQ _ _⟩
 ·exact⟨1,by omega,d,by rw[one,one];exact h,by rw[one,one];exact nN _ _⟩
theorem YC {ps:List Pt}(h:Poly ps):∃S,0<S/\∃y,kC (ps.map (sc S)) y/\wn (ps.map (sc S)) y=1:=by
 have hl:=h.len
 have hb:=h.vw 0
 have hl0:NW (ah ps 0) (ah ps (0+1)) (ah ps (0+2)) (-(mv (ah ps 0) (ah ps (0+1)) (ah ps (0+2))).1,-(mv (ah ps 0) (ah ps (0+1)) (ah ps (0+2))).2):=by
  revert hb
  generalize ah ps 0=a
  generalize ah ps (0+1)=b
  generalize ah ps (0+2)=c
  intro hb
  unfold NW mv
  by_cases hc:0<cr a b c
  ·rw[if_pos hc,if_pos hc]
   have e1:xr b c (-(2*b.1-a.1-c.1,2*b.2-a.2-c.2).1,-(2*b.1-a.1-c.1,2*b.2-a.2-c.2).2)=cr a b c:=by unfold xr cr;grind
   have e2:xr a b (-(2*b.1-a.1-c.1,2*b.2-a.2-c.2).1,-(2*b.1-a.1-c.1,2*b.2-a.2-c.2).2)=cr a b c:=by unfold xr cr;grind
   omega
  ·rw[if_neg hc,if_neg hc]
   have e1:xr b c (-(a.1+c.1-2*b.1,a.2+c.2-2*b.2).1,-(a.1+c.1-2*b.1,a.2+c.2-2*b.2).2)=-cr a b c:=by unfold xr cr;grind
   left
   omega
 obtain⟨N,hN⟩:=(Xy h (i:=0) (by omega) hl0).and (Ev.ge 1)
 obtain⟨⟨o,w⟩,h1⟩:=hN N (Int.le_refl _)
 exact⟨N,by omega,_,o,w⟩
theorem Sep.sc {a b c d:Pt}(h:Sep a b c d){t:Int}(ht:0<t):Sep (sc t a) (sc t b) (sc t c) (sc t d):=by
 obtain⟨α,β,γ,h1,h2,h3,h4⟩:=h
 have e:∀p,ev α β (t*γ) (Go.Proofs.YtlkgjmnjhifehaaGreat.sc t p)=t*ev α β γ p:=fun p=>by unfold ev Go.Proofs.YtlkgjmnjhifehaaGreat.sc;grind
 exact⟨α,β,t*γ,by rw[e];exact (gJ ht).2 h1,by rw[e];exact (gJ ht).2 h2,by rw[e];exact (iF ht).2 h3,by rw[e];exact (iF ht).2 h4⟩
theorem Nq {ps:List Pt}(h:Poly ps):Ev fun N=>∀i,i<ps.length->∀t:Int,0<t->∀z,eG z (sc t (ah (side N ps) (i+1))) (sc t (ah (side N ps) (i+2)))=true->placeOf (ps.map (sc (t*N))) z=-1:=by
 have hl:=h.len
 refine (((JV h.toSimp).and (JW h)).and (Ev.ge 1)).mono fun N ⟨⟨hs,ho⟩,h1⟩ i hi t ht z hz=>?_
 have hN:0<t*N:=Int.mul_pos ht (by omega)
 have hp:Poly (ps.map (sc (t*N))):=h.sc hN
 have hoff:kC (ps.map (sc (t*N))) z:=uj (by rw[List.length_map];omega) fun k hk=>by
  rw[List.length_map] at hk
  rw[aH,aH,<-lJ,<-lJ]
  obtain⟨α,β,γ,x1,x2,x3,x4⟩:=(hs i hi k hk).sc ht
  have x0:=mM hz x1 x2
  cases hc:eG z (sc t (sc N (ah ps k))) (sc t (sc N (ah ps (k+1))))
  ·rfl
  ·have:=xC hc x3 x4
   omega
 have hw:wn (ps.map (sc (t*N))) z=0:=by
  rw[<-nP,<-ho (i+1),<-qL ht (ps.map (sc N)) (ah (side N ps) (i+1))]
  refine (mP fun k hk=>?_).symm
  rw[List.length_map,List.length_map] at hk
  refine tV hz ?_
  rw[aH,aH,aH,aH]
  exact ((hs i hi k hk).sc ht).mY
 rw[jk hp.toSimp,(fF (by rw[List.length_map];omega)).2 hoff,if_neg (by simp),if_pos hw]
theorem inside {ps qs:List Pt}(hp:Poly ps)(hn:0<qs.length)(hin:∀d:Int,0<d->∀k,k<qs.length->∀z,eG z (sc d (ah qs k)) (sc d (ah qs (k+1)))=true->0<=placeOf (ps.map (sc d)) z){x:Pt}(hx:kC ps x)(hw:wn ps x=0):wn qs x=0:=by
 have hl:=hp.len
 obtain⟨S,hS,y,hy,hyw⟩:=YC hp
 have hp1:=hp.sc hS
 have hx1:kC (ps.map (sc S)) (sc S x):=(pq hS).2 hx
 have hw1:wn (ps.map (sc S)) (sc S x)=0:=by rw[qL hS];exact hw
 have hd:0<=placeOf (ps.map (sc S)) (sc S (ah qs 0)):=hin S hS 0 hn _ (kQ _ _)
 obtain⟨N,hN⟩:=((Nq hp1).and (YD hp1 hy hyw hd)).and ((CW hp1.toSimp hx1).and (Ev.ge 1))
 obtain⟨⟨a1,a2⟩,a3,a4⟩:=hN N (Int.le_refl _)
 have hNS:0<N*S:=Int.mul_pos (by omega) hS
 have hm:∀i,i<(side N (ps.map (sc S))).length->∀k,k<(qs.map (sc (N*S))).length->bC (ah (side N (ps.map (sc S))) i) (ah (side N (ps.map (sc S))) (i+1)) (ah (qs.map (sc (N*S))) k) (ah (qs.map (sc (N*S))) (k+1))=false:=by
  intro i hi k hk
  rw[ji,List.length_map] at hi
  rw[List.length_map] at hk
  obtain⟨i',hi',e⟩:∃i',i'<ps.length/\(i'+1)%ps.length=i:=by
   rcases Nat.eq_zero_or_pos i with h0|h0
   ·exact⟨ps.length-1,by omega,by rw[show ps.length-1+1=ps.length by omega,Nat.mod_self,h0]⟩
   ·exact⟨i-1,by omega,by rw[show i-1+1=i by omega,Nat.mod_eq_of_lt hi]⟩
  have f1:ah (side N (ps.map (sc S))) i=ah (side N (ps.map (sc S))) (i'+1):=fE (by rw[ji,List.length_map,<-e,Nat.mod_mod])
  have f2:ah (side N (ps.map (sc S))) (i+1)=ah (side N (ps.map (sc S))) (i'+2):=fE (by rw[ji,List.length_map,<-e,Nat.mod_add_mod])
  rw[f1,f2,aH,aH]
  cases hc:bC (ah (side N (ps.map (sc S))) (i'+1)) (ah (side N (ps.map (sc S))) (i'+2)) (sc (N*S) (ah qs k)) (sc (N*S) (ah qs (k+1)))
  ·rfl
  ·obtain⟨t,ht,z,z1,z2⟩:=BN hc
   have b1:=a1 i' (by rw[List.length_map];exact hi') t ht z z1
   rw[lJ,lJ] at z2
   have b2:=hin (t*(N*S)) (Int.mul_pos ht hNS) k hk z z2
   rw[nP,Int.mul_assoc] at b1
   omega
 have hα:=rX (ps:=side N (ps.map (sc S))) (qs:=qs.map (sc (N*S))) (by rw[List.length_map];omega) hm
 have hβ:=rX (ps:=qs.map (sc (N*S))) (qs:=side N (ps.map (sc S))) (by rw[ji,List.length_map];omega) (fun i hi k hk=>by rw[iG];exact hm k hk i hi)
 have:=pairs (q:=sc (N*S) x) hm hβ hα
 rw[qL hNS,<-lJ,a3,hw1,aH,<-lJ,a2] at this
 omega
def ln (p v:Pt)(j:Int):Pt:=(p.1+j*v.1,p.2+j*v.2)
theorem BH (t:Int)(p v:Pt)(j:Int):sc t (ln p v j)=ln (sc t p) v (t*j):=by unfold sc ln;apply Prod.ext<;>grind
theorem aaR (N:Int)(p v:Pt):nr N p v=ln (sc N p) v 1:=by unfold nr sc ln;apply Prod.ext<;>grind
theorem adV {z p v:Pt}{e f:Int}(h:eG z (ln p v e) (ln p v f)=true):∃m s:Int,0<m/\sc m z=ln (sc m p) v s/\min (m*e) (m*f)<=s/\s<=max (m*e) (m*f):=by
 obtain⟨k,m,h1,h2,h3,e1,e2⟩:=yZ h
 refine⟨m,m*e+k*(f-e),h3,?_,?_⟩
 ·unfold ln at e1 e2
  unfold sc ln
  apply Prod.ext<;>grind
 ·rcases Int.le_total e f with c|c
  ·have a:=Int.mul_nonneg h1 (show 0<=f-e by omega)
   have b:=Int.mul_le_mul_of_nonneg_right h2 (show 0<=f-e by omega)
   have d:m*(f-e)=m*f-m*e:=by grind
   omega
  ·have a:=Int.mul_nonneg h1 (show 0<=e-f by omega)
   have b:=Int.mul_le_mul_of_nonneg_right h2 (show 0<=e-f by omega)
   have d:m*(e-f)=m*e-m*f:=by grind
   have d2:k*(f-e)=-(k*(e-f)):=by grind
   omega
theorem uM (p x e f j:Int)(h:min e f<=j/\j<=max e f):min (p+e*x) (p+f*x)<=p+j*x/\p+j*x<=max (p+e*x) (p+f*x):=by
 rcases Int.le_total 0 x with hx|hx
 ·have a:∀u v:Int,u<=v->u*x<=v*x:=fun u v h=>Int.mul_le_mul_of_nonneg_right h hx
  rcases Int.le_total e f with c|c
  ·have:=a e j (by omega);have:=a j f (by omega);omega
  ·have:=a f j (by omega);have:=a j e (by omega);omega
 ·have a:∀u v:Int,u<=v->v*x<=u*x:=fun u v h=>Int.mul_le_mul_of_nonpos_right h hx
  rcases Int.le_total e f with c|c
  ·have:=a e j (by omega);have:=a j f (by omega);omega
  ·have:=a f j (by omega);have:=a j e (by omega);omega
theorem Ci {p x e f j:Int}(hx:x≠0)(h:min (p+e*x) (p+f*x)<=p+j*x/\p+j*x<=max (p+e*x) (p+f*x)):min e f<=j/\j<=max e f:=by
 have key:∀x:Int,0<x->∀u v:Int,u*x<=v*x->u<=v:=fun x hx u v h=>Int.le_of_mul_le_mul_right h hx
 rcases Int.lt_trichotomy x 0 with c|c|c
 ·have a:∀u v:Int,u*x<=v*x->v<=u:=fun u v h=>key (-x) (by omega) v u (by rw[Int.mul_neg,Int.mul_neg];omega)
  rcases Int.le_total (p+e*x) (p+f*x) with d|d
  ·have:=a e j (by omega);have:=a j f (by omega);omega
  ·have:=a f j (by omega);have:=a j e (by omega);omega
 ·exact absurd c hx
 ·have a:=key x c
  rcases Int.le_total (p+e*x) (p+f*x) with d|d
  ·have:=a e j (by omega);have:=a j f (by omega);omega
  ·have:=a f j (by omega);have:=a j e (by omega);omega
theorem C9 {p v:Pt}(hv:v≠(0,0)){e f j:Int}:eG (ln p v j) (ln p v e) (ln p v f)=true↔min e f<=j/\j<=max e f:=by
 rw[dB]
 constructor
 ·rintro⟨_,h1,h2⟩
  by_cases hx:v.1=0
  ·by_cases hy:v.2=0
   ·exact absurd (Prod.ext hx hy) hv
   ·exact Ci hy h2
  ·exact Ci hx h1
 ·intro h
  exact⟨by unfold cr ln;grind,uM _ _ _ _ _ h,uM _ _ _ _ _ h⟩
theorem aeZ (T s:Int)(u w y v:Pt):cr (sc T u) (sc T w) (ln (sc T y) v s)=T*((T-s)*cr u w y+s*cr u w (ln y v 1)):=by unfold cr sc ln;grind
theorem SQ {ps:List Pt}{y v:Pt}(hv:v≠(0,0))(H1:∀i,i<ps.length->¬ ((cr (ah ps i) (ah ps (i+1)) y<0/\0<cr (ah ps i) (ah ps (i+1)) (ln y v 1))\/(0<cr (ah ps i) (ah ps (i+1)) y/\cr (ah ps i) (ah ps (i+1)) (ln y v 1)<0)))
  (H2:∀i,i<ps.length->cr (ah ps i) (ah ps (i+1)) y=0->cr (ah ps i) (ah ps (i+1)) (ln y v 1)=0->∃e f,ah ps i=ln y v e/\ah ps (i+1)=ln y v f) (H3:∀i,i<ps.length->eG (ln y v 1) (ah ps i) (ah ps (i+1))=false) {N:Int} (hN:1<=N) :
  ∀i,i<ps.length->bC (nr N y v) (sc N (ln y v 1)) (sc N (ah ps i)) (sc N (ah ps (i+1)))=false:=by
 intro i hi
 have H1:=H1 i hi
 have H2:=H2 i hi
 have H3:=H3 i hi
 revert H1 H2 H3
 generalize ah ps i=u
 generalize ah ps (i+1)=w
 intro H1 H2 H3
 cases hm:bC (nr N y v) (sc N (ln y v 1)) (sc N u) (sc N w)
 ·rfl
 ·exfalso
  obtain⟨t,ht,z,z1,z2⟩:=BN hm
  rw[aaR,BH,BH,BH,lJ] at z1
  obtain⟨m,s,hmp,ez,s1,s2⟩:=adV z1
  have z3:eG (sc m z) (sc m (sc t (sc N u))) (sc m (sc t (sc N w)))=true:=by rw[mg hmp];exact z2
  rw[ez,lJ,lJ,lJ,lJ,lJ] at z3
  obtain⟨T,hT⟩:∃T,m*(t*N)=T:=⟨_,rfl⟩
  have hmt:0<m*t:=Int.mul_pos hmp ht
  have hTp:m*t<=T:=by
   rw[<-hT,<-Int.mul_assoc]
   have:=Int.mul_le_mul_of_nonneg_left hN (Int.le_of_lt hmt)
   omega
  rw[Int.mul_one,Int.mul_one,hT] at s1 s2
  rw[Int.mul_assoc,hT] at z3
  have hs:0<s:=by omega
  have hsT:s<=T:=by omega
  have h0:=jO z3
  rw[aeZ,nH (by omega)] at h0
  by_cases e:s=T
  ·rw[e] at z3
   have:ln (sc T y) v T=sc T (ln y v 1):=by rw[BH,Int.mul_one]
   rw[this,mg (by omega),H3] at z3
   cases z3
  ·have hs2:0<T-s:=by omega
   obtain⟨G0,hG0⟩:∃g,cr u w y=g:=⟨_,rfl⟩
   obtain⟨G1,hG1⟩:∃g,cr u w (ln y v 1)=g:=⟨_,rfl⟩
   rw[hG0,hG1] at H1 h0 H2
   rcases Int.lt_trichotomy G0 0 with c|c|c
   ·have:=(gJ hs2).2 c
    have:=(iF (x:=G1) hs).1 (by omega)
    omega
   ·rw[c,Int.mul_zero,Int.zero_add,nH hs] at h0
    obtain⟨e,f,hu,hw⟩:=H2 c h0
    rw[hu,hw,BH,BH,C9 hv] at z3
    have b:min e f<=1/\1<=max e f:=by
     constructor
     ·rcases Int.lt_or_le 1 (min e f) with x|x
      ·have:=(jo (show 0<T by omega)).2 (show 1<=e by omega)
       have:=(jo (show 0<T by omega)).2 (show 1<=f by omega)
       omega
      ·exact x
     ·rcases Int.lt_or_le (max e f) 1 with x|x
      ·have:=(jo (show 0<T by omega)).2 (show e<=0 by omega)
       have:=(jo (show 0<T by omega)).2 (show f<=0 by omega)
       omega
      ·exact x
    rw[hu,hw,(C9 hv).2 b] at H3
    cases H3
   ·have:=(iF hs2).2 c
    have:=(gJ (x:=G1) hs).1 (by omega)
    omega
def Ku (ps:List Pt)(y v:Pt):Prop:=Ev fun N=>kC (ps.map (sc N)) (nr N y v)/\wn (ps.map (sc N)) (nr N y v)=0
theorem VF {ps:List Pt}(hn:0<ps.length){y:Pt}(hy:kC ps y)(f:Pt):Ev fun N=>wn (ps.map (sc N)) (nr N y f)=wn ps y:=by
 have:Ev fun N=>∀i,i<ps.length->Sep (nr N y f) (sc N y) (sc N (ah ps i)) (sc N (ah ps (i+1))):=by
  refine Ev.all ps.length (P:=fun i N=>Sep (nr N y f) (sc N y) (sc N (ah ps i)) (sc N (ah ps (i+1)))) fun i hi=>?_
  refine ((rG (qp (hy i))).symm.near f (0,0) (0,0) (0,0)).mono fun N hN=>?_
  rw[jP,jP,jP] at hN
  exact hN
 refine (this.and (Ev.ge 1)).mono fun N ⟨hN,h1⟩=>?_
 rw[<-qL (show 0<N by omega) ps y]
 refine mP fun i hi=>?_
 rw[List.length_map] at hi
 rw[aH,aH]
 exact (hN i hi).mY
theorem OB {ps:List Pt}(hn:0<ps.length)(k:Nat):∃i,i<ps.length/\ah ps i=ah ps (k+ps.length-1)/\ah ps (i+1)=ah ps k/\ah ps (i+2)=ah ps (k+1):=by
 refine⟨(k+ps.length-1)%ps.length,Nat.mod_lt _ hn,(dV _ _).symm,fE ?_,fE ?_⟩
 ·rw[Nat.mod_add_mod,show k+ps.length-1+1=k+ps.length by omega,Nat.add_mod_right]
 ·rw[Nat.mod_add_mod,show k+ps.length-1+2=k+1+ps.length by omega,Nat.add_mod_right]
theorem LP {ps:List Pt}(h:Simp ps)(k:Nat):cr (ah ps (k+ps.length-1)) (ah ps k) (ah ps (k+1))≠0:=by
 have hl:=h.len
 obtain⟨i,hi,e1,e2,e3⟩:=OB (ps:=ps) (by omega) k
 rw[<-e1,<-e2,<-e3]
 exact h.vw i
theorem Iw {ps:List Pt}(h:Poly ps)(k:Nat){v:Pt}(hv:xJ (ah ps (k+ps.length-1)) (ah ps k) (ah ps (k+1)) v):Ku ps (ah ps k) v:=by
 have hl:=h.len
 obtain⟨i,hi,e1,e2,e3⟩:=OB (ps:=ps) (by omega) k
 rw[<-e1,<-e2,<-e3] at hv
 rw[<-e2]
 exact Qn h hi hv
theorem acK {a c b f:Pt}(hD:cr a c b≠0)(h1:¬ xJ a c b f)(h2:¬ NW a c b f):Ev fun N=>eG (nr N c f) (sc N c) (sc N b)=true\/eG (nr N c f) (sc N a) (sc N c)=true:=by
 have i1:xr a c f*(b.1-c.1)+xr c b f*(a.1-c.1)=cr a c b*f.1:=by unfold xr cr;grind
 have i2:xr a c f*(b.2-c.2)+xr c b f*(a.2-c.2)=cr a c b*f.2:=by unfold xr cr;grind
 have fwd:∀p D X:Pt->Int,True:=fun _ _ _=>trivial
 have key:∀ (p:Pt) (D X:Int),0<D->0<=X->X*(p.1-c.1)=D*f.1->X*(p.2-c.2)=D*f.2->Ev fun N=>eG (nr N c f) (sc N c) (sc N p)=true:=by
  intro p D X hD hX e1 e2
  refine ((Ev.kF hD (-X)).and (Ev.ge 1)).mono fun N ⟨hN,_⟩=>?_
  have:=yw (u:=c) (v:=p) (s:=N*D-X) (r:=X) (by omega) hX
  rw[<-mg hD,lJ,lJ]
  rw[show N*D-X+X=D*N by rw[Int.mul_comm];omega] at this
  have e:sc D (nr N c f)=((N*D-X)*c.1+X*p.1,(N*D-X)*c.2+X*p.2):=by unfold sc nr;apply Prod.ext<;>grind
  rw[e]
  exact this
 unfold xJ at h1
 unfold NW at h2
 by_cases hc:0<cr a c b
 ·rw[if_pos hc] at h1 h2
  by_cases x:xr c b f=0
  ·rw[x,Int.zero_mul,Int.add_zero] at i1 i2
   exact (key b _ _ hc (by omega) i1 i2).mono fun N hN=>.inl hN
  ·have y:xr a c f=0:=by omega
   rw[y,Int.zero_mul,Int.zero_add] at i1 i2
   exact (key a _ _ hc (by omega) i1 i2).mono fun N hN=>.inr (by rw[jI];exact hN)
 ·rw[if_neg hc] at h1 h2
  by_cases x:xr c b f=0
  ·rw[x,Int.zero_mul,Int.add_zero] at i1 i2
   exact (key b (-cr a c b) (-xr a c f) (by omega) (by omega) (by rw[Int.neg_mul,Int.neg_mul,i1]) (by rw[Int.neg_mul,Int.neg_mul,i2])).mono fun N hN=>.inl hN
  ·have y:xr a c f=0:=by omega
   rw[y,Int.zero_mul,Int.zero_add] at i1 i2
   exact (key a (-cr a c b) (-xr c b f) (by omega) (by omega) (by rw[Int.neg_mul,Int.neg_mul,i1]) (by rw[Int.neg_mul,Int.neg_mul,i2])).mono fun N hN=>.inr (by rw[jI];exact hN)
theorem Xx {ps:List Pt}(h:Poly ps)(k:Nat){v:Pt}(ho:Ku ps (ah ps k) v):xJ (ah ps (k+ps.length-1)) (ah ps k) (ah ps (k+1)) v:=by
 have hl:=h.len
 obtain⟨i,hi,e1,e2,e3⟩:=OB (ps:=ps) (by omega) k
 rw[<-e1,<-e2,<-e3]
 rw[<-e2] at ho
 by_cases hr:xJ (ah ps i) (ah ps (i+1)) (ah ps (i+2)) v
 ·exact hr
 ·exfalso
  by_cases hw:NW (ah ps i) (ah ps (i+1)) (ah ps (i+2)) v
  ·obtain⟨N,hN⟩:=ho.and (Xy h hi hw)
   obtain⟨⟨_,a⟩,_,b⟩:=hN N (Int.le_refl _)
   omega
  ·obtain⟨N,hN⟩:=ho.and (acK (h.vw i) hr hw)
   obtain⟨⟨a,_⟩,b⟩:=hN N (Int.le_refl _)
   have a1:=a (i+1)
   have a2:=a i
   rw[aH,aH] at a1 a2
   rw[a2] at b
   rw[show i+1+1=i+2 from rfl] at a1
   rw[a1] at b
   rcases b with b|b<;>cases b
theorem ab5 {y u w v:Pt}(hy:uA y u w)(hx:xr u w v=0):Ev fun N=>eG (nr N y v) (sc N u) (sc N w)=true:=by
 obtain⟨s,m,s1,s2,e1,e2⟩:=sU hy
 have hL:=sq_pos (Ob hy)
 obtain⟨L,hLe⟩:∃L,(w.1-u.1)*(w.1-u.1)+(w.2-u.2)*(w.2-u.2)=L:=⟨_,rfl⟩
 obtain⟨X,hX⟩:∃X,(w.1-u.1)*v.1+(w.2-u.2)*v.2=X:=⟨_,rfl⟩
 rw[hLe] at hL
 have p1:L*v.1=X*(w.1-u.1):=by
  have:L*v.1=X*(w.1-u.1)-(w.2-u.2)*xr u w v:=by rw[<-hLe,<-hX];unfold xr;grind
  rw[this,hx]
  omega
 have p2:L*v.2=X*(w.2-u.2):=by
  have:L*v.2=X*(w.2-u.2)+(w.1-u.1)*xr u w v:=by rw[<-hLe,<-hX];unfold xr;grind
  rw[this,hx]
  omega
 refine ((Ev.kF (Int.mul_pos hL s1) (m*X)).and ((Ev.kF (Int.mul_pos hL (show 0<m-s by omega)) (-(m*X))).and (Ev.ge 1))).mono fun N ⟨h1,h2,h3⟩=>?_
 have:=yw (u:=u) (v:=w) (s:=N*(L*(m-s))+-(m*X)) (r:=N*(L*s)+m*X) (by omega) (by omega)
 have hmL:0<m*L:=Int.mul_pos (by omega) hL
 rw[<-mg hmL,lJ,lJ]
 rw[show N*(L*(m-s))+-(m*X)+(N*(L*s)+m*X)=m*L*N by grind] at this
 have e:sc (m*L) (nr N y v)=((N*(L*(m-s))+-(m*X))*u.1+(N*(L*s)+m*X)*w.1,(N*(L*(m-s))+-(m*X))*u.2+(N*(L*s)+m*X)*w.2):=by
  unfold sc nr
  apply Prod.ext
  ·show m*L*(N*y.1+v.1)=_
   have:m*L*(N*y.1+v.1)=N*L*(m*(y.1-u.1))+N*L*m*u.1+m*(L*v.1):=by grind
   rw[this,e1,p1]
   grind
  ·show m*L*(N*y.2+v.2)=_
   have:m*L*(N*y.2+v.2)=N*L*(m*(y.2-u.2))+N*L*m*u.2+m*(L*v.2):=by grind
   rw[this,e2,p2]
   grind
 rw[e]
 exact this
theorem Wl {ps:List Pt}(h:Poly ps)(k:Nat){y v:Pt}(hy:uA y (ah ps k) (ah ps (k+1)))(ho:Ku ps y v):xr (ah ps k) (ah ps (k+1)) v<0:=by
 rcases Int.lt_trichotomy (xr (ah ps k) (ah ps (k+1)) v) 0 with c|c|c
 ·exact c
 ·exfalso
  obtain⟨N,hN⟩:=ho.and (ab5 hy c)
  obtain⟨⟨a,_⟩,b⟩:=hN N (Int.le_refl _)
  have:=a k
  rw[aH,aH,b] at this
  cases this
 ·exfalso
  obtain⟨N,hN⟩:=ho.and (adE h k hy c)
  obtain⟨⟨_,a⟩,_,b⟩:=hN N (Int.le_refl _)
  omega
theorem yT {ps:List Pt}(h:Simp ps){d:Int}(hd:0<d)(q:Pt):placeOf (ps.map (sc d)) (sc d q)=placeOf ps q:=by
 have hl:=h.len
 rw[jk h,jk (h.sc hd),qL hd]
 have:fM (ps.map (sc d)) (sc d q)=fM ps q:=by
  cases h1:fM ps q
  ·exact (fF (by rw[List.length_map];omega)).2 ((pq hd).2 ((fF (by omega)).1 h1))
  ·cases h2:fM (ps.map (sc d)) (sc d q)
   ·rw[(fF (by omega)).2 ((pq hd).1 ((fF (by rw[List.length_map];omega)).1 h2))] at h1
    cases h1
   ·rfl
 rw[this]
theorem leaves {ps:List Pt}(h:Poly ps){y v:Pt}(hv:v≠(0,0))(H1:∀i,i<ps.length->¬ ((cr (ah ps i) (ah ps (i+1)) y<0/\0<cr (ah ps i) (ah ps (i+1)) (ln y v 1))\/(0<cr (ah ps i) (ah ps (i+1)) y/\cr (ah ps i) (ah ps (i+1)) (ln y v 1)<0)))
  (H2:∀i,i<ps.length->cr (ah ps i) (ah ps (i+1)) y=0->cr (ah ps i) (ah ps (i+1)) (ln y v 1)=0->∃e f,ah ps i=ln y v e/\ah ps (i+1)=ln y v f) (hy:0<=placeOf ps y) (hz:placeOf ps (ln y v 1)<0):Ku ps y v/\fM ps y=true:=by
 have hl:=h.len
 have hoff:kC ps (ln y v 1):=by
  rw[jk h.toSimp] at hz
  cases ho:fM ps (ln y v 1)
  ·exact (fF (by omega)).1 ho
  ·rw[ho,if_pos rfl] at hz
   omega
 have hw0:wn ps (ln y v 1)=0:=by
  rw[jk h.toSimp,(fF (by omega)).2 hoff,if_neg (by simp)] at hz
  split at hz
  ·assumption
  ·omega
 have hout:Ku ps y v:=by
  refine (Ev.ge 1).mono fun N hN=>?_
  have hf:=SQ hv H1 H2 (fun i _=>hoff i) hN
  constructor
  ·refine uj (by rw[List.length_map];omega) fun i hi=>?_
   rw[List.length_map] at hi
   rw[aH,aH]
   exact (mi (hf i hi)).2.1
  ·rw[<-hw0,<-qL (show 0<N by omega) ps (ln y v 1)]
   refine mP fun i hi=>?_
   rw[List.length_map] at hi
   rw[aH,aH]
   exact hf i hi
 refine⟨hout,?_⟩
 cases ho:fM ps y
 ·exfalso
  have hyo:=(fF (by omega)).1 ho
  obtain⟨N,hN⟩:=hout.and (VF (by omega) hyo v)
  obtain⟨⟨_,a⟩,b⟩:=hN N (Int.le_refl _)
  rw[jk h.toSimp,ho,if_neg (by simp),if_pos (by omega)] at hy
  omega
 ·rfl
theorem ivt {P:Nat->Prop}:∀K:Nat,P 0->¬ P K->∃j,j<K/\P j/\¬ P (j+1)
 | 0,h0,h1=>absurd h0 h1
 | K+1,h0,h1=>by
  by_cases h:P K
  ·exact⟨K,by omega,h,h1⟩
  ·obtain⟨j,a,b⟩:=ivt K h0 h
   exact⟨j,by omega,b⟩
theorem least {P:Nat->Prop}:∀n:Nat,(∃i,i<n/\P i)->∃i,i<n/\P i/\∀j,j<i->¬ P j
 | 0,h=>by obtain⟨i,hi,_⟩:=h;omega
 | n+1,h=>by
  by_cases hx:∃i,i<n/\P i
  ·obtain⟨i,a,b⟩:=least n hx
   exact⟨i,by omega,b⟩
  ·obtain⟨i,hi,hp⟩:=h
   have:i=n:=by
    rcases Nat.lt_or_ge i n with c|c
    ·exact absurd ⟨i,c,hp⟩ hx
    ·omega
   subst this
   exact⟨i,by omega,hp,fun j hj hpj=>hx ⟨j,hj,hpj⟩⟩
theorem ES (E:Nat->Int):∀n:Nat,∃D:Int,0<D/\∀i,i<n->E i≠0->E i ∣ D
 | 0=>⟨1,by omega,fun i hi=>by omega⟩
 | n+1=>by
  obtain⟨D,hD,h⟩:=ES E n
  by_cases e:E n=0
  ·refine⟨D,hD,fun i hi hne=>?_⟩
   by_cases c:i=n
   ·rw[c] at hne
    exact absurd e hne
   ·exact h i (by omega) hne
  ·refine⟨D*(E n*E n),Int.mul_pos hD ?_,fun i hi hne=>?_⟩
   ·rcases Int.lt_or_le (E n) 0 with c|c
    ·have:=Int.mul_pos (show 0 < -E n by omega) (show 0 < -E n by omega)
     rwa [Int.neg_mul_neg] at this
    ·exact Int.mul_pos (by omega) (by omega)
   ·by_cases c:i=n
    ·rw[c]
     exact⟨D*E n,by grind⟩
    ·obtain⟨r,hr⟩:=h i (by omega) hne
     exact⟨r*(E n*E n),by rw[hr];grind⟩
theorem PY (p v:Pt)(j k:Int):ln (ln p v j) v k=ln p v (j+k):=by unfold ln;apply Prod.ext<;>grind
theorem Vt {ps:List Pt}{k:Nat}{to:Pt}(h:xJ (ah ps (k+ps.length-1)) (ah ps k) (ah ps (k+1)) (df to (ah ps k))):iY ps k to=false:=by
 unfold iY tn
 simp only[Aw,Int.not_lt.symm]
 revert h
 generalize ah ps (k+ps.length-1)=a
 generalize ah ps k=c
 generalize ah ps (k+1)=b
 intro h
 have e1:xr c b (df to c)=cr c b to:=by unfold xr df cr;grind
 have e2:xr a c (df to c)=cr c to a:=by unfold xr df cr;grind
 have e3:cr c a to=-cr c to a:=by unfold cr;grind
 have e4:cr c to b=-cr c b to:=by unfold cr;grind
 unfold xJ at h
 rw[e1,e2] at h
 by_cases hc:0<cr a c b
 ·rw[if_pos hc] at h ⊢
  rw[Bool.and_eq_false_iff,decide_eq_false_iff_not,decide_eq_false_iff_not,vN,vN]
  omega
 ·rw[if_neg hc] at h ⊢
  rw[Bool.or_eq_false_iff,decide_eq_false_iff_not,decide_eq_false_iff_not,e3,e4]
  omega
theorem RG {ps:List Pt}{k:Nat}{to:Pt}(h:¬ xJ (ah ps (k+ps.length-1)) (ah ps k) (ah ps (k+1)) (df to (ah ps k))):iY ps k to=true:=by
 unfold iY tn
 simp only[Aw,Int.not_lt.symm]
 revert h
 generalize ah ps (k+ps.length-1)=a
 generalize ah ps k=c
 generalize ah ps (k+1)=b
 intro h
 have e1:xr c b (df to c)=cr c b to:=by unfold xr df cr;grind
 have e2:xr a c (df to c)=cr c to a:=by unfold xr df cr;grind
 have e3:cr c a to=-cr c to a:=by unfold cr;grind
 have e4:cr c to b=-cr c b to:=by unfold cr;grind
 unfold xJ at h
 rw[e1,e2] at h
 by_cases hc:0<cr a c b
 ·rw[if_pos hc] at h ⊢
  rw[Bool.and_eq_true,decide_eq_true_eq,decide_eq_true_eq,vN,vN]
  omega
 ·rw[if_neg hc] at h ⊢
  rw[Bool.or_eq_true,decide_eq_true_eq,decide_eq_true_eq,e3,e4]
  omega
theorem PD {D p q:Int}(hD:0<D)(hp:0<p)(hq:0<q){a c b v u:Pt}(e1:q*u.1=p*v.1)(e2:q*u.2=p*v.2):xJ (sc D a) (sc D c) (sc D b) v↔xJ a c b u:=by
 have x:∀s t:Pt,xr (sc D s) (sc D t) v=D*xr s t v:=fun s t=>by unfold xr sc;grind
 have y:∀s t:Pt,q*xr s t u=p*xr s t v:=fun s t=>by
  have:q*xr s t u=(t.1-s.1)*(q*u.2)-(t.2-s.2)*(q*u.1):=by unfold xr;grind
  rw[this,e1,e2]
  unfold xr
  grind
 have z:∀s t:Pt,xr s t v<0↔xr s t u<0:=fun s t=>(gJ hp).symm.trans (by rw[<-y,gJ hq])
 unfold xJ
 rw[wI,x,x]
 simp only[iF (yF hD),gJ hD,z]
theorem Xr (D j:Int)(u w a v:Pt):cr (sc D u) (sc D w) (ln (sc D a) v j)=D*(D*cr u w a+j*xr u w v):=by unfold cr sc ln xr;grind
theorem YN {u w a v:Pt}(hne:u≠w)(hA:cr u w a=0)(hX:xr u w v=0):(u.1-a.1)*v.2-(u.2-a.2)*v.1=0/\(w.1-a.1)*v.2-(w.2-a.2)*v.1=0:=by
 have k1:((u.1-a.1)*v.2-(u.2-a.2)*v.1)*(w.1-u.1)=(u.1-a.1)*xr u w v+v.1*cr u w a:=by unfold xr cr;grind
 have k2:((u.1-a.1)*v.2-(u.2-a.2)*v.1)*(w.2-u.2)=(u.2-a.2)*xr u w v+v.2*cr u w a:=by unfold xr cr;grind
 rw[hA,hX,Int.mul_zero,Int.mul_zero,Int.add_zero] at k1 k2
 have h1:(u.1-a.1)*v.2-(u.2-a.2)*v.1=0:=by
  rcases Int.mul_eq_zero.1 k1 with h|h
  ·exact h
  ·rcases Int.mul_eq_zero.1 k2 with h2|h2
   ·exact h2
   ·exact absurd (Prod.ext (by omega) (by omega)) hne
 refine⟨h1,?_⟩
 have:(w.1-a.1)*v.2-(w.2-a.2)*v.1=((u.1-a.1)*v.2-(u.2-a.2)*v.1)+xr u w v:=by unfold xr;grind
 rw[this,h1,hX]
 rfl
theorem Kw {D r:Int}{u a v:Pt}(hD:D=(v.1*v.1+v.2*v.2)*r)(h:(u.1-a.1)*v.2-(u.2-a.2)*v.1=0):sc D u=ln (sc D a) v (r*((u.1-a.1)*v.1+(u.2-a.2)*v.2)):=by
 unfold sc ln
 apply Prod.ext
 ·show D*u.1=D*a.1+r*((u.1-a.1)*v.1+(u.2-a.2)*v.2)*v.1
  have:D*u.1-(D*a.1+r*((u.1-a.1)*v.1+(u.2-a.2)*v.2)*v.1)=r*v.2*((u.1-a.1)*v.2-(u.2-a.2)*v.1):=by rw[hD];grind
  rw[h,Int.mul_zero] at this
  omega
 ·show D*u.2=D*a.2+r*((u.1-a.1)*v.1+(u.2-a.2)*v.2)*v.2
  have:D*u.2-(D*a.2+r*((u.1-a.1)*v.1+(u.2-a.2)*v.2)*v.2)=-(r*v.1*((u.1-a.1)*v.2-(u.2-a.2)*v.1)):=by rw[hD];grind
  rw[h,Int.mul_zero] at this
  omega
theorem Jg {ps:List Pt}(h:Simp ps)(i:Nat):ah ps i≠ah ps (i+1):=by
 intro e
 refine h.vw i ?_
 unfold cr
 rw[e]
 grind
theorem exit {ps:List Pt}(h:Poly ps){a b:Pt}(ha:0<=placeOf ps a){d:Int}(hd:0<d){z:Pt}(hz:eG z (sc d a) (sc d b)=true)(hp:placeOf (ps.map (sc d)) z<0) :
  ∃D j:Int,0<D/\0<=j/\j<D/\Ku (ps.map (sc D)) (ln (sc D a) (df b a) j) (df b a)/\fM (ps.map (sc D)) (ln (sc D a) (df b a) j)=true:=by
 have hl:=h.len
 obtain⟨v,hv⟩:∃v,df b a=v:=⟨_,rfl⟩
 rw[hv]
 obtain⟨k,m,k1,k2,k3,e1,e2⟩:=yZ hz
 have hzl:sc m z=ln (sc (m*d) a) v (k*d):=by
  rw[<-hv]
  unfold sc at e1 e2 ⊢
  unfold ln df
  dsimp only at e1 e2 ⊢
  apply Prod.ext<;>grind
 by_cases hv0:v=(0,0)
 ·exfalso
  have:z=sc d a:=by
   rw[hv0] at hzl
   have h1:=congrArg Prod.fst hzl
   have h2:=congrArg Prod.snd hzl
   unfold sc ln at h1 h2
   dsimp only at h1 h2
   rw[Int.mul_zero,Int.add_zero,Int.mul_assoc] at h1 h2
   unfold sc
   exact Prod.ext (Int.eq_of_mul_eq_mul_left (by omega) h1) (Int.eq_of_mul_eq_mul_left (by omega) h2)
  rw[this,yT h.toSimp hd] at hp
  omega
 obtain⟨D0,hD0,hdiv⟩:=ES (fun i=>if i<ps.length then xr (ah ps i) (ah ps (i+1)) v else v.1*v.1+v.2*v.2) (ps.length+1)
 have hX:∀i,i<ps.length->xr (ah ps i) (ah ps (i+1)) v≠0->xr (ah ps i) (ah ps (i+1)) v ∣ D0:=by
  intro i hi
  have:=hdiv i (by omega)
  rwa [if_pos hi] at this
 have hV:(v.1*v.1+v.2*v.2) ∣ D0:=by
  have:=hdiv ps.length (by omega)
  rw[if_neg (by omega)] at this
  have hpos:=sq_pos (c:=((0:Int),(0:Int))) (b:=v) (fun e=>hv0 e.symm)
  dsimp only at hpos
  rw[Int.sub_zero,Int.sub_zero] at hpos
  exact this (by omega)
 obtain⟨D,hDe⟩:∃D,D0*(m*d)=D:=⟨_,rfl⟩
 have hmd:0<m*d:=Int.mul_pos k3 hd
 have hD:0<D:=by rw[<-hDe];exact Int.mul_pos hD0 hmd
 obtain⟨K,hK⟩:∃K:Nat,(K:Int)=D0*(k*d):=⟨(D0*(k*d)).toNat,Int.toNat_of_nonneg (Int.mul_nonneg (by omega) (Int.mul_nonneg k1 (by omega)))⟩
 have hKD:(K:Int)<=D:=by
  rw[hK,<-hDe]
  exact Int.mul_le_mul_of_nonneg_left (Int.mul_le_mul_of_nonneg_right k2 (by omega)) (by omega)
 obtain⟨j,hj,y1,y2⟩:=ivt (P:=fun j:Nat=>0<=placeOf (ps.map (sc D)) (ln (sc D a) v j)) K (by
  have:ln (sc D a) v ((0:Nat):Int)=sc D a:=by unfold ln;apply Prod.ext<;>grind
  rw[this,yT h.toSimp hD]
  exact ha) (by
  have e:ln (sc D a) v (K:Int)=sc (D0*m) z:=by rw[<-lJ,hzl,BH,lJ,hDe,hK]
  rw[e,show D=D0*m*d by rw[<-hDe,Int.mul_assoc],<-nP,yT (h.toSimp.sc hd) (Int.mul_pos hD0 k3)]
  omega)
 have hy2:ln (ln (sc D a) v j) v 1=ln (sc D a) v ((j+1:Nat):Int):=by rw[PY];rfl
 obtain⟨r,hr⟩:=hV
 have hlv:=leaves (ps:=ps.map (sc D)) (h.sc hD) (y:=ln (sc D a) v j) (v:=v) hv0 (by
  intro i hi
  rw[List.length_map] at hi
  rw[hy2,aH,aH,Xr,Xr,gJ hD,iF hD,gJ hD,iF hD]
  by_cases hx:xr (ah ps i) (ah ps (i+1)) v=0
  ·rw[hx,Int.mul_zero,Int.mul_zero]
   omega
  ·obtain⟨s,hs⟩:=hX i hi hx
   have e:∀j:Int,D*cr (ah ps i) (ah ps (i+1)) a+j*xr (ah ps i) (ah ps (i+1)) v=xr (ah ps i) (ah ps (i+1)) v*(s*(m*d)*cr (ah ps i) (ah ps (i+1)) a+j):=by intro j;rw[<-hDe,hs];grind
   rw[e,e]
   generalize s*(m*d)*cr (ah ps i) (ah ps (i+1)) a=t
   rcases Int.lt_trichotomy (xr (ah ps i) (ah ps (i+1)) v) 0 with c|c|c
   ·have n1:∀x:Int,xr (ah ps i) (ah ps (i+1)) v*x<0↔0<x:=fun x=>by
     rw[<-iF (show 0 < -xr (ah ps i) (ah ps (i+1)) v by omega),Int.neg_mul]
     omega
    have n2:∀x:Int,0<xr (ah ps i) (ah ps (i+1)) v*x↔x<0:=fun x=>by
     rw[<-gJ (show 0 < -xr (ah ps i) (ah ps (i+1)) v by omega),Int.neg_mul]
     omega
    rw[n1,n1,n2,n2]
    omega
   ·exact absurd c hx
   ·rw[gJ c,iF c,gJ c,iF c]
    omega) (by
  intro i hi g0 g1
  rw[List.length_map] at hi
  rw[aH,aH,Xr,nH hD] at g0
  rw[hy2,aH,aH,Xr,nH hD] at g1
  have ex:((j+1:Nat):Int)*xr (ah ps i) (ah ps (i+1)) v=j*xr (ah ps i) (ah ps (i+1)) v+xr (ah ps i) (ah ps (i+1)) v:=by rw[show ((j+1:Nat):Int)=(j:Int)+1 from rfl];grind
  have hx0:xr (ah ps i) (ah ps (i+1)) v=0:=by omega
  rw[hx0,Int.mul_zero,Int.add_zero,nH hD] at g0
  obtain⟨p1,p2⟩:=YN (Jg h.toSimp i) g0 hx0
  have hDr:D=(v.1*v.1+v.2*v.2)*(r*(m*d)):=by rw[<-hDe,hr];grind
  rw[aH,aH,Kw hDr p1,Kw hDr p2]
  refine⟨r*(m*d)*(((ah ps i).1-a.1)*v.1+((ah ps i).2-a.2)*v.2)-j,r*(m*d)*(((ah ps (i+1)).1-a.1)*v.1+((ah ps (i+1)).2-a.2)*v.2)-j,?_,?_⟩
  ·rw[PY];congr 1;omega
  ·rw[PY];congr 1;omega) y1 (by rw[hy2];omega)
 exact⟨D,j,hD,by omega,by omega,hlv⟩
theorem SI {ps:List Pt}(h:Poly ps){a b:Pt}(hh:wo ps a b=true){d:Int}(hd:0<d){z:Pt}(hz:eG z (sc d a) (sc d b)=true):0<=placeOf (ps.map (sc d)) z:=by
 have hl:=h.len
 unfold wo uC at hh
 simp only[Bool.and_eq_true,decide_eq_true_eq] at hh
 obtain⟨⟨ha,hb,hla,hlb⟩,hE⟩:=hh
 rcases Int.lt_or_le (placeOf (ps.map (sc d)) z) 0 with hp|hp
 ·exfalso
  obtain⟨D,j,hD,hj0,hjD,ho,hon⟩:=exit h ha hd hz hp
  obtain⟨v,hv⟩:∃v,df b a=v:=⟨_,rfl⟩
  rw[hv] at ho hon
  have Sv:v.1=b.1-a.1:=by rw[<-hv];rfl
  have Su:v.2=b.2-a.2:=by rw[<-hv];rfl
  have hY:∀k,sc D (ah ps k)=ln (sc D a) v j->D*(ah ps k).1=D*a.1+j*v.1/\D*(ah ps k).2=D*a.2+j*v.2:=fun k e=>⟨congrArg Prod.fst e,congrArg Prod.snd e⟩
  have hcase:∀k,k<ps.length->sc D (ah ps k)=ln (sc D a) v j->iY ps k b=false:=by
   intro k hk e
   have hx:=Xx (h.sc hD) k (v:=v) (by rw[aH,e];exact ho)
   rw[List.length_map,aH,aH,aH] at hx
   obtain⟨q1,q2⟩:=hY k e
   refine Vt ((PD hD (p:=D-j) (q:=D) (by omega) hD ?_ ?_).1 hx)
   ·unfold df;dsimp only;rw[Sv] at q1 ⊢;grind
   ·unfold df;dsimp only;rw[Su] at q2 ⊢;grind
  by_cases hc:∃k,k<ps.length/\sc D (ah ps k)=ln (sc D a) v j
  ·by_cases j0:j=0
   ·have ea:ln (sc D a) v j=sc D a:=by rw[j0];unfold ln;apply Prod.ext<;>grind
    have inj:∀k,sc D (ah ps k)=sc D a↔ah ps k=a:=by
     intro k
     constructor
     ·intro e
      exact Prod.ext (Int.eq_of_mul_eq_mul_left (by omega) (congrArg Prod.fst e)) (Int.eq_of_mul_eq_mul_left (by omega) (congrArg Prod.snd e))
     ·intro e
      rw[e]
    obtain⟨k,hk,hka,hmin⟩:=least (P:=fun k=>ah ps k=a) ps.length (by
     obtain⟨k,hk,e⟩:=hc
     exact⟨k,hk,(inj k).1 (e.trans ea)⟩)
    rw[vV hk hka hmin,hcase k hk (by rw[ea,inj];exact hka)] at hla
    cases hla
   ·obtain⟨k,hk,e⟩:=hc
    have hE:=List.all_eq_true.1 hE k (List.mem_range.2 hk)
    unfold iZ at hE
    rw[hcase k hk e] at hE
    obtain⟨q1,q2⟩:=hY k e
    have hva:v≠(0,0):=by
     intro e0
     rw[e0] at ho hon
     obtain⟨N,hN⟩:=ho.and (Ev.ge 1)
     obtain⟨⟨o,_⟩,h1⟩:=hN N (Int.le_refl _)
     rw[jP] at o
     have:=(pq (by omega)).1 o
     rw[(fF (by rw[List.length_map];omega)).2 this] at hon
     cases hon
    have c1:ah ps k≠a:=by
     intro e2
     rw[e2] at q1 q2
     have z1:j*v.1=0:=by omega
     have z2:j*v.2=0:=by omega
     exact hva (Prod.ext ((nH (by omega)).1 z1) ((nH (by omega)).1 z2))
    have c2:ah ps k≠b:=by
     intro e2
     rw[e2] at q1 q2
     have z1:(D-j)*v.1=0:=by rw[Sv] at q1 ⊢;grind
     have z2:(D-j)*v.2=0:=by rw[Su] at q2 ⊢;grind
     exact hva (Prod.ext ((nH (by omega)).1 z1) ((nH (by omega)).1 z2))
    have c3:eG (ah ps k) a b=true:=by
     rw[<-mg hD,e]
     have f1:sc D a=ln (sc D a) v 0:=by unfold ln;apply Prod.ext<;>grind
     have f2:sc D b=ln (sc D a) v D:=by unfold ln sc;apply Prod.ext<;>(dsimp only;grind)
     rw[f2]
     conv=>lhs;arg 2;rw[f1]
     exact (C9 hva).2 (by omega)
    rw[decide_eq_true c1,decide_eq_true c2,c3,Bool.and_false] at hE
    simp at hE
  ·
   unfold fM at hon
   obtain⟨i,hi,hon⟩:=List.any_eq_true.1 hon
   have hi:=List.mem_range.1 hi
   rw[List.length_map] at hi
   rw[aH,aH] at hon
   have nc:∀k,sc D (ah ps k)≠ln (sc D a) v j:=by
    intro k e
    exact hc ⟨k%ps.length,Nat.mod_lt _ (by omega),by rw[<-dV];exact e⟩
   have edge:∀i,eG (ln (sc D a) v j) (sc D (ah ps i)) (sc D (ah ps (i+1)))=true->uA (ln (sc D a) v j) (sc D (ah ps i)) (sc D (ah ps (i+1)))/\xr (ah ps i) (ah ps (i+1)) v<0:=by
    intro i hon
    have hins:uA (ln (sc D a) v j) (sc D (ah ps i)) (sc D (ah ps (i+1))):=⟨hon,fun e=>nc i e.symm,fun e=>nc (i+1) e.symm⟩
    have hx:=Wl (h.sc hD) i (y:=ln (sc D a) v j) (v:=v) (by rw[aH,aH];exact hins) ho
    rw[aH,aH] at hx
    have e:xr (sc D (ah ps i)) (sc D (ah ps (i+1))) v=D*xr (ah ps i) (ah ps (i+1)) v:=by unfold xr sc;grind
    rw[e,gJ hD] at hx
    exact⟨hins,hx⟩
   by_cases j0:j=0
   ·have ea:ln (sc D a) v j=sc D a:=by rw[j0];unfold ln;apply Prod.ext<;>grind
    rw[ea] at hon nc edge
    obtain⟨k,hk,hka,hmin⟩:=least (P:=fun k=>eG a (ah ps k) (ah ps (k+1))=true) ps.length ⟨i,hi,by rw[<-mg hD];exact hon⟩
    rw[zq (fun k _ e=>nc k (by rw[e])) hk hka (fun j hj=>by simpa using hmin j hj)] at hla
    unfold jZ at hla
    rw[decide_eq_true_eq] at hla
    have hx:=(edge k (by rw[mg hD];exact hka)).2
    have e:cr (ah ps k) (ah ps (k+1)) b=cr (ah ps k) (ah ps (k+1)) a+xr (ah ps k) (ah ps (k+1)) v:=by unfold cr xr;rw[Sv,Su];grind
    rw[jO hka] at e
    have:tn (ah ps k) (ah ps (k+1)) b<0:=vN.2 (by omega)
    omega
   ·obtain⟨hins,hx⟩:=edge i hon
    have hE:=List.all_eq_true.1 hE i (List.mem_range.2 hi)
    unfold iZ at hE
    have hcut:lG a b (ah ps i) (ah ps (i+1))=true:=by
     have g0:=jO hins.1
     rw[Xr,nH hD] at g0
     have x1:=(gJ (show 0<j by omega)).2 hx
     have hA:0<cr (ah ps i) (ah ps (i+1)) a:=(iF hD).1 (by omega)
     have hB:cr (ah ps i) (ah ps (i+1)) b<0:=by
      have e:D*cr (ah ps i) (ah ps (i+1)) b=(D-j)*xr (ah ps i) (ah ps (i+1)) v:=by
       have:cr (ah ps i) (ah ps (i+1)) b=cr (ah ps i) (ah ps (i+1)) a+xr (ah ps i) (ah ps (i+1)) v:=by unfold cr xr;rw[Sv,Su];grind
       rw[this]
       grind
      have:=(gJ (show 0<D-j by omega)).2 hx
      rw[<-e] at this
      exact (gJ hD).1 this
     obtain⟨s,m,s1,s2,e1,e2⟩:=sU hins
     have ajD:cr a b (ah ps (i+1))-cr a b (ah ps i)=-xr (ah ps i) (ah ps (i+1)) v:=by unfold cr xr;rw[Sv,Su];grind
     have hzero:(m-s)*cr a b (ah ps i)+s*cr a b (ah ps (i+1))=0:=by
      have hD0:D*((m-s)*cr a b (ah ps i)+s*cr a b (ah ps (i+1)))=(b.1-a.1)*(s*((sc D (ah ps (i+1))).2-(sc D (ah ps i)).2)-m*((ln (sc D a) v j).2-(sc D (ah ps i)).2))-(b.2-a.2)*(s*((sc D (ah ps (i+1))).1-(sc D (ah ps i)).1)-m*((ln (sc D a) v j).1-(sc D (ah ps i)).1)):=by
       unfold cr sc ln
       dsimp only
       rw[Sv,Su]
       grind
      rw[e1,e2,Int.sub_self,Int.sub_self,Int.mul_zero,Int.mul_zero] at hD0
      exact (nH hD).1 (by omega)
     rw[ed]
     have n1:cr a b (ah ps i)<0:=by
      rcases Int.lt_or_le (cr a b (ah ps i)) 0 with c|c
      ·exact c
      ·have t1:=Int.mul_nonneg (show 0<=m-s by omega) c
       have t2:=(iF s1).2 (show 0<cr a b (ah ps (i+1)) by omega)
       omega
     have n2:0<cr a b (ah ps (i+1)):=by
      rcases Int.lt_or_le 0 (cr a b (ah ps (i+1))) with c|c
      ·exact c
      ·have t1:=qU c (show 0<=s by omega)
       have t2:=(gJ (show 0<m-s by omega)).2 n1
       rw[Int.mul_comm] at t1
       omega
     exact⟨.inl ⟨n1,n2⟩,.inr ⟨hA,hB⟩⟩
    rw[hcut] at hE
    simp at hE
 ·exact hp
def BG (ps:List Pt)(a b:Pt):Prop:=∀d:Int,0<d->∀z,eG z (sc d a) (sc d b)=true->0<=placeOf (ps.map (sc d)) z
theorem BG.symm {ps:List Pt}{a b:Pt}(h:BG ps a b):BG ps b a:=fun d hd z hz=>h d hd z (by rw[jI];exact hz)
theorem Dc {ps:List Pt}(h:Poly ps){a b:Pt}(hne:a≠b)(hin:BG ps a b){d j:Int}(hj:0<=j)(hjd:j<d):¬ Ku (ps.map (sc d)) (ln (sc d a) (df b a) j) (df b a):=by
 intro ho
 have hl:=h.len
 have hv:df b a≠(0,0):=by
  intro e
  have e1:=congrArg Prod.fst e
  have e2:=congrArg Prod.snd e
  unfold df at e1 e2
  dsimp only at e1 e2
  exact hne (Prod.ext (by omega) (by omega))
 obtain⟨N,hN⟩:=ho.and (Ev.ge 1)
 obtain⟨⟨o,w⟩,h1⟩:=hN N (Int.le_refl _)
 have hNd:0<N*d:=Int.mul_pos (by omega) (by omega)
 rw[nP,aaR,BH,PY,lJ] at o w
 have hz:=hin (N*d) hNd (ln (sc (N*d) a) (df b a) (N*j+1)) (by
  have f1:sc (N*d) a=ln (sc (N*d) a) (df b a) 0:=by unfold ln;apply Prod.ext<;>grind
  have f2:sc (N*d) b=ln (sc (N*d) a) (df b a) (N*d):=by unfold ln sc df;apply Prod.ext<;>(dsimp only;grind)
  rw[f2]
  conv=>lhs;arg 2;rw[f1]
  have a1:=Int.mul_nonneg (show 0<=N by omega) hj
  have a2:=Int.mul_le_mul_of_nonneg_left (show j+1<=d by omega) (show 0<=N by omega)
  rw[Int.mul_add,Int.mul_one] at a2
  exact (C9 hv).2 (by omega))
 rw[jk (h.toSimp.sc hNd),(fF (by rw[List.length_map];omega)).2 o,if_neg (by simp),if_pos w] at hz
 omega
theorem aeY {D:Int}{a b c v:Pt}{j:Int}(hv:v=df b a)(e:sc D c=ln (sc D a) v j):D*(df b c).1=(D-j)*v.1/\D*(df b c).2=(D-j)*v.2:=by
 have e1:=congrArg Prod.fst e
 have e2:=congrArg Prod.snd e
 subst hv
 unfold sc ln df at *
 dsimp only at *
 constructor<;>grind
theorem abT {z a b:Pt}(h:eG z a b=true)(h1:z≠b):∃m s:Int,0<m/\0<=s/\s<m/\sc m z=ln (sc m a) (df b a) s:=by
 obtain⟨k,m,k1,k2,k3,e1,e2⟩:=yZ h
 refine⟨m,k,k3,k1,?_,?_⟩
 ·rcases Int.lt_or_le k m with c|c
  ·exact c
  ·exfalso
   rw[show k=m by omega] at e1 e2
   have a1:=Int.eq_of_mul_eq_mul_left (by omega) e1
   have a2:=Int.eq_of_mul_eq_mul_left (by omega) e2
   exact h1 (Prod.ext (by omega) (by omega))
 ·unfold sc ln df
  apply Prod.ext<;>(dsimp only;grind)
theorem AY {ps:List Pt}(h:Poly ps){a b:Pt}(hne:a≠b)(hin:BG ps a b)(k:Nat)(hk:eG (ah ps k) a b=true)(hkb:ah ps k≠b):iY ps k b=true:=by
 refine RG fun hr=>?_
 obtain⟨m,s,hm,hs,hsm,e⟩:=abT hk hkb
 refine Dc h hne hin hs hsm ?_
 rw[<-e]
 have:=Iw (h.sc hm) k (v:=df b a)
 rw[List.length_map,aH,aH,aH] at this
 obtain⟨q1,q2⟩:=aeY rfl e
 exact this ((PD hm (p:=m-s) (q:=m) (by omega) hm q1 q2).2 hr)
theorem GL {ps:List Pt}(h:Poly ps){a b:Pt}(hne:a≠b)(hin:BG ps a b):leadsOf ps a b=true:=by
 have hl:=h.len
 unfold leadsOf
 split
 ·rename_i k hk
  have hka:=List.find?_some hk
  rw[decide_eq_true_eq] at hka
  exact AY h hne hin k (by rw[hka];exact kQ _ _) (by rw[hka];exact hne)
 ·rename_i hnone
  rw[List.find?_eq_none] at hnone
  split
  ·rename_i k hk
   have hka:=List.find?_some hk
   unfold jZ
   rw[decide_eq_true_eq]
   rcases Int.lt_or_le (tn (ah ps k) (ah ps (k+1)) b) 0 with c|c
   ·exfalso
    have hc:=vN.1 c
    have nc:∀i,a≠ah ps i:=by
     intro i e
     have:=hnone (i%ps.length) (List.mem_range.2 (Nat.mod_lt _ (by omega)))
     rw[<-dV] at this
     exact this (by rw[e];simp)
    have hx:xr (ah ps k) (ah ps (k+1)) (df b a)<0:=by
     have e:cr (ah ps k) (ah ps (k+1)) b=cr (ah ps k) (ah ps (k+1)) a+xr (ah ps k) (ah ps (k+1)) (df b a):=by unfold cr xr df;grind
     rw[jO hka] at e
     omega
    have ho:=JI h k (z:=a) ⟨hka,nc _,nc _⟩ hx
    have:=Dc h hne hin (d:=1) (j:=0) (by omega) (by omega)
    rw[yg] at this
    have e:ln (sc 1 a) (df b a) 0=a:=by unfold ln sc;apply Prod.ext<;>(dsimp only;grind)
    rw[e] at this
    exact this ho
   ·exact c
  ·rfl
theorem Tf {a b u w:Pt}(h:lG a b u w=true):∃d r:Int,0<r/\r<d/\uA (ln (sc d a) (df b a) r) (sc d u) (sc d w)/\xr u w (df b a)≠0:=by
 rw[ed] at h
 obtain⟨h1,h2⟩:=h
 have e:cr u w a-cr u w b=cr a b w-cr a b u:=by unfold cr;grind
 have ex:xr u w (df b a)=cr u w b-cr u w a:=by unfold xr df cr;grind
 have main:∀A B C E:Int,0<A->0<B->0<C->0<E->A+B=C+E->((A=cr u w a/\B=-cr u w b/\C=-cr a b u/\E=cr a b w)\/(A=-cr u w a/\B=cr u w b/\C=cr a b u/\E=-cr a b w))->uA (ln (sc (B+A) a) (df b a) A) (sc (B+A) u) (sc (B+A) w):=by
  intro A B C E hA hB hC hE hs hx
  have hz:ln (sc (B+A) a) (df b a) A=(E*u.1+C*w.1,E*u.2+C*w.2):=by
   have i1:-cr u w b*a.1+cr u w a*b.1=cr a b w*u.1+-cr a b u*w.1:=by unfold cr;grind
   have i2:-cr u w b*a.2+cr u w a*b.2=cr a b w*u.2+-cr a b u*w.2:=by unfold cr;grind
   unfold ln sc df
   rcases hx with⟨x1,x2,x3,x4⟩|⟨x1,x2,x3,x4⟩
   ·rw[<-x1,<-x2,<-x3,<-x4] at i1 i2
    apply Prod.ext<;>(dsimp only;grind)
   ·have n1:cr u w a=-A:=by omega
    have n2:cr a b w=-E:=by omega
    rw[<-x2,<-x3,n1,n2] at i1 i2
    apply Prod.ext<;>(dsimp only;grind)
  have hon:=yw (u:=u) (v:=w) (s:=E) (r:=C) (by omega) (by omega)
  have hBA:0<B+A:=by omega
  rw[show E+C=B+A by omega,<-hz] at hon
  have aa3:cr (sc (B+A) a) (sc (B+A) b) (ln (sc (B+A) a) (df b a) A)=0:=by unfold cr sc ln df;grind
  refine⟨hon,fun e0=>?_,fun e0=>?_⟩
  ·rw[e0,wI,nH (yF hBA)] at aa3
   omega
  ·rw[e0,wI,nH (yF hBA)] at aa3
   omega
 rcases h2 with⟨x,y⟩|⟨x,y⟩
 ·rcases h1 with⟨p,q⟩|⟨p,q⟩
  ·omega
  ·exact⟨cr u w b+-cr u w a,-cr u w a,by omega,by omega,main _ _ (cr a b u) (-cr a b w) (by omega) (by omega) (by omega) (by omega) (by omega) (.inr ⟨rfl,rfl,rfl,rfl⟩),by omega⟩
 ·rcases h1 with⟨p,q⟩|⟨p,q⟩
  ·exact⟨-cr u w b+cr u w a,cr u w a,by omega,by omega,main _ _ (-cr a b u) (cr a b w) (by omega) (by omega) (by omega) (by omega) (by omega) (.inl ⟨rfl,rfl,rfl,rfl⟩),by omega⟩
  ·omega
theorem Y2 (d:Int)(a b:Pt)(r:Int):ln (sc d a) (df b a) r=ln (sc d b) (df a b) (d-r):=by unfold ln sc df;apply Prod.ext<;>(dsimp only;grind)
theorem abq (u w a b:Pt):xr u w (df a b)=-xr u w (df b a):=by unfold xr df;grind
theorem Jd {ps:List Pt}(h:Poly ps){a b:Pt}(hne:a≠b)(hin:BG ps a b):wo ps a b=true:=by
 have hl:=h.len
 have one:∀p:Pt,sc 1 p=p:=fun p=>by unfold sc;rw[Int.one_mul,Int.one_mul]
 have pa:0<=placeOf ps a:=by
  have:=hin 1 (by omega) a (by rw[one,one];exact kQ _ _)
  rwa [yg] at this
 have pb:0<=placeOf ps b:=by
  have:=hin 1 (by omega) b (by rw[one,one];exact nN _ _)
  rwa [yg] at this
 unfold wo uC
 rw[decide_eq_true pa,decide_eq_true pb,GL h hne hin,GL h (fun e=>hne e.symm) hin.symm]
 simp only[Bool.true_and]
 rw[List.all_eq_true]
 intro i hi
 unfold iZ
 have hcut:lG a b (ah ps i) (ah ps (i+1))=false:=by
  cases hc:lG a b (ah ps i) (ah ps (i+1))
  ·rfl
  ·exfalso
   obtain⟨d,r,r0,rd,hins,hx⟩:=Tf hc
   have hd:0<d:=by omega
   have e:∀f,xr (sc d (ah ps i)) (sc d (ah ps (i+1))) f=d*xr (ah ps i) (ah ps (i+1)) f:=fun f=>by unfold xr sc;grind
   rcases Int.lt_or_le (xr (ah ps i) (ah ps (i+1)) (df b a)) 0 with c|c
   ·have ho:=JI (h.sc hd) i (z:=ln (sc d a) (df b a) r) (f:=df b a) (by rw[aH,aH];exact hins) (by rw[aH,aH,e,gJ hd];exact c)
    exact Dc h hne hin (by omega) rd ho
   ·have ho:=JI (h.sc hd) i (z:=ln (sc d a) (df b a) r) (f:=df a b) (by rw[aH,aH];exact hins) (by rw[aH,aH,e,gJ hd,abq];omega)
    rw[Y2] at ho
    exact Dc h (fun e=>hne e.symm) hin.symm (show 0<=d-r by omega) (show d-r<d by omega) ho
 rw[hcut]
 cases ho:eG (ah ps i) a b
 ·simp
 ·by_cases c1:ah ps i=a
  ·simp[c1]
  ·by_cases c2:ah ps i=b
   ·simp[c2]
   ·rw[AY h hne hin i ho c2,AY h (fun e=>hne e.symm) hin.symm i (by rw[jI];exact ho) c1]
    simp
def Sub (ps qs:List Pt):Prop:=∀d:Int,0<d->∀z,0<=placeOf (qs.map (sc d)) z->0<=placeOf (ps.map (sc d)) z
theorem Vw {ps:List Pt}{q:Pt}{i:Nat}(hi:i<ps.length)(h:eG q (ah ps i) (ah ps (i+1))=true):placeOf ps q=0:=by
 unfold placeOf fM
 rw[if_pos (List.any_eq_true.2 ⟨i,List.mem_range.2 hi,h⟩)]
theorem GU {ps qs:List Pt}(hp:Poly ps)(hq:Poly qs):ui ps qs=true↔Sub ps qs:=by
 have hl:=hp.len
 have hl2:=hq.len
 unfold ui Bi
 rw[List.all_eq_true]
 constructor
 ·intro h d hd z hz
  have hseg:∀k,k<qs.length->BG ps (ah qs k) (ah qs (k+1)):=fun k hk d hd z hz=>SI hp (h k (List.mem_range.2 hk)) hd hz
  rcases Int.lt_or_le (placeOf (ps.map (sc d)) z) 0 with c|c
  ·exfalso
   have hps:=hp.sc hd
   have Zc:=hq.sc hd
   rw[jk hps.toSimp] at c
   have o1:kC (ps.map (sc d)) z:=by
    cases ho:fM (ps.map (sc d)) z
    ·exact (fF (by rw[List.length_map];omega)).1 ho
    ·rw[ho,if_pos rfl] at c
     omega
   rw[(fF (by rw[List.length_map];omega)).2 o1,if_neg (by simp)] at c
   have w1:wn (ps.map (sc d)) z=0:=by
    split at c
    ·assumption
    ·omega
   have w2:=inside hps (qs:=qs.map (sc d)) (by rw[List.length_map];omega) (fun t ht k hk y hy=>by
    rw[List.length_map] at hk
    rw[aH,aH,lJ,lJ] at hy
    rw[nP]
    exact hseg k hk _ (Int.mul_pos ht hd) y hy) o1 w1
   rw[jk Zc.toSimp] at hz
   cases ho:fM (qs.map (sc d)) z
   ·rw[ho,if_neg (by simp),if_pos w2] at hz
    omega
   ·unfold fM at ho
    obtain⟨k,hk,hon⟩:=List.any_eq_true.1 ho
    have hk:=List.mem_range.1 hk
    rw[List.length_map] at hk
    rw[aH,aH] at hon
    have:=hseg k hk d hd z hon
    rw[jk hps.toSimp,(fF (by rw[List.length_map];omega)).2 o1,if_neg (by simp),if_pos w1] at this
    omega
  ·exact c
 ·intro h k hk
  have hk:=List.mem_range.1 hk
  refine Jd hp (Jg hq.toSimp k) fun d hd z hz=>h d hd z ?_
  rw[Vw (i:=k) (by rw[List.length_map];exact hk) (by rw[aH,aH];exact hz)]
  exact Int.le_refl _
theorem Sub.refl (ps:List Pt):Sub ps ps:=fun _ _ _ h=>h
theorem Sub.trans {ps qs rs:List Pt}(h1:Sub ps qs)(h2:Sub qs rs):Sub ps rs:=fun d hd z hz=>h1 d hd z (h2 d hd z hz)
theorem Sub.wn {ps qs:List Pt}(hp:Poly ps)(hq:Poly qs)(h:Sub ps qs){d:Int}(hd:0<d)(x:Pt):wn (qs.map (sc d)) x<=wn (ps.map (sc d)) x:=by
 have hl:=hp.len
 have hl2:=hq.len
 obtain⟨M,hM⟩:=(NI (ps:=ps.map (sc d)) (by rw[List.length_map];omega) x).and (NI (ps:=qs.map (sc d)) (by rw[List.length_map];omega) x)
 obtain⟨⟨Yj,o1,w1⟩,_,o2,w2⟩:=hM M (Int.le_refl _)
 rw[<-w1,<-w2]
 rw[nP] at o1 o2 ⊢
 rw[nP]
 have hd2:0<M*M*d:=Int.mul_pos Yj hd
 have v1:=hp.one _ hd2 _ o1
 have v2:=hq.one _ hd2 _ o2
 have:=h _ hd2 (JG M x)
 rw[jk (hp.toSimp.sc hd2),jk (hq.toSimp.sc hd2),(fF (by rw[List.length_map];omega)).2 o1,(fF (by rw[List.length_map];omega)).2 o2] at this
 simp only[Bool.false_eq_true,if_false] at this
 by_cases c1:Go.Proofs.YtlkgjmnjhifehaaGreat.wn (ps.map (sc (M*M*d))) (JG M x)=0
 ·by_cases c2:Go.Proofs.YtlkgjmnjhifehaaGreat.wn (qs.map (sc (M*M*d))) (JG M x)=0
  ·omega
  ·rw[if_neg c2,if_pos c1] at this
   omega
 ·omega
theorem Sub.area {ps qs:List Pt}(hp:dm ps=true)(hq:dm qs=true)(h:Sub ps qs):dW qs<=dW ps :=
 QE (NH hp) (NH hq) fun N hN x=>h.wn (uf hp) (uf hq) (by omega) x
theorem UW {ps:List Pt}(h:Poly ps){z:Pt}(hz:placeOf ps z=0):∃f,Ku ps z f:=by
 have hl:=h.len
 have ho:fM ps z=true:=by
  cases ho:fM ps z
  ·unfold placeOf at hz
   rw[ho] at hz
   simp only[Bool.false_eq_true,if_false] at hz
   split at hz<;>omega
  ·rfl
 unfold fM at ho
 obtain⟨i,hi,hon⟩:=List.any_eq_true.1 ho
 by_cases c1:z=ah ps i
 ·exact⟨_,by rw[c1];exact Iw h i (IM (LP h.toSimp i))⟩
 ·by_cases c2:z=ah ps (i+1)
  ·exact⟨_,by rw[c2];exact Iw h (i+1) (IM (LP h.toSimp (i+1)))⟩
  ·refine⟨((ah ps (i+1)).2-(ah ps i).2,-((ah ps (i+1)).1-(ah ps i).1)),JI h i ⟨hon,c1,c2⟩ ?_⟩
   have:=sq_pos (Jg h.toSimp i)
   have e:xr (ah ps i) (ah ps (i+1)) ((ah ps (i+1)).2-(ah ps i).2,-((ah ps (i+1)).1-(ah ps i).1))=-(((ah ps (i+1)).1-(ah ps i).1)*((ah ps (i+1)).1-(ah ps i).1)+((ah ps (i+1)).2-(ah ps i).2)*((ah ps (i+1)).2-(ah ps i).2)):=by unfold xr;grind
   omega
theorem Gs {ps:List Pt}(h:Simp ps){z:Pt}(h1:kC ps z)(h2:wn ps z=0):placeOf ps z=-1:=by
 have hl:=h.len
 rw[jk h,(fF (by omega)).2 h1,if_neg (by simp),if_pos h2]
end Go.Proofs.YtlkgjmnjhifehaaGreat
