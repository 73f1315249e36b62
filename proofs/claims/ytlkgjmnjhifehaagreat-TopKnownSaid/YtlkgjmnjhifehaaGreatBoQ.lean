/- A polygon and the rectangle of its box: the laws. A polygon and the rectangle of its box: which places are in them. -/
import Derived.Test.YtlkgjmnjhifehaaGreatToQ
import Derived.Test.YtlkgjmnjhifehaaGreatPov
import Derived.Test.YtlkgjmnjhifehaaGreatPgX
set_option linter.unusedSimpArgs false
set_option linter.unusedVariables false
namespace Go.Proofs.YtlkgjmnjhifehaaGreat
theorem JZ (p:Pt->Pt->Bool)(ps:List Pt):∀k,∃j,j<=k/\selTo p ps k=ai ps j
 | 0=>⟨0,by omega,rfl⟩
 | k+1=>by
  obtain⟨j,hj,e⟩:=JZ p ps k
  unfold selTo
  split
  ·exact⟨k+1,by omega,rfl⟩
  ·exact⟨j,by omega,e⟩
theorem qf {p:Pt->Pt->Bool}{f:Pt->Int}(hp:∀x m,p x m=true->f x<=f m)(hn:∀x m,p x m=false->f m<=f x)(ps:List Pt):∀k j,j<=k->f (selTo p ps k)<=f (ai ps j)
 | 0,j,h=>by
  obtain rfl:j=0:=by omega
  exact Int.le_refl _
 | k+1,j,h=>by
  unfold selTo
  by_cases hj:j=k+1
  ·subst hj
   split
   ·exact Int.le_refl _
   ·rename_i h1
    exact hn _ _ (by simpa using h1)
  ·have ih:=qf hp hn ps k j (by omega)
   split
   ·rename_i h1
    have:=hp _ _ h1
    omega
   ·exact ih
theorem Vz:(∀x m,minS x m=true->x.1<=m.1)/\(∀x m,minS x m=false->m.1<=x.1):=by
 constructor
 ·intro x m h
  unfold minS ord at h
  rw[decide_eq_true_eq] at h
  rcases dN (x.1-m.1) with⟨a,e⟩|⟨a,e⟩|⟨a,e⟩<;>simp[e] at h<;>omega
 ·intro x m h
  unfold minS ord at h
  rw[decide_eq_false_iff_not] at h
  rcases dN (x.1-m.1) with⟨a,e⟩|⟨a,e⟩|⟨a,e⟩<;>simp[e] at h<;>omega
theorem VF:(∀x m,maxS x m=true->-x.1<=-m.1)/\(∀x m,maxS x m=false->-m.1<=-x.1):=by
 constructor
 ·intro x m h
  unfold maxS ord at h
  rw[decide_eq_true_eq] at h
  rcases dN (x.1-m.1) with⟨a,e⟩|⟨a,e⟩|⟨a,e⟩<;>simp[e] at h<;>omega
 ·intro x m h
  unfold maxS ord at h
  rw[decide_eq_false_iff_not] at h
  rcases dN (x.1-m.1) with⟨a,e⟩|⟨a,e⟩|⟨a,e⟩<;>simp[e] at h<;>omega
theorem Vy:(∀x m,rF x m=true->x.2<=m.2)/\(∀x m,rF x m=false->m.2<=x.2):=by
 constructor
 ·intro x m h
  unfold rF ND at h
  rw[decide_eq_true_eq,vF] at h
  omega
 ·intro x m h
  unfold rF ND at h
  rw[decide_eq_false_iff_not,vF] at h
  omega
theorem VE:(∀x m,rG x m=true->-x.2<=-m.2)/\(∀x m,rG x m=false->-m.2<=-x.2):=by
 constructor
 ·intro x m h
  unfold rG ND at h
  rw[decide_eq_true_eq,Ad] at h
  omega
 ·intro x m h
  unfold rG ND at h
  rw[decide_eq_false_iff_not,Ad] at h
  omega
def inB (b:B4)(q:Pt):Prop:=(b.1.1<=q.1/\q.1<=b.1.2)/\(b.2.1<=q.2/\q.2<=b.2.2)
theorem uG {ps:List Pt}(h:0<ps.length)(i:Nat):inB (qA ps) (ai ps i):=by
 have hm:i%ps.length<=ps.length-1:=by have:=Nat.mod_lt i h;omega
 have e:ai ps i=ai ps (i%ps.length):=by unfold ai;rw[Nat.mod_mod]
 rw[e]
 have a:=qf (f:=fun p=>p.1) Vz.1 Vz.2 ps _ _ hm
 have b:=qf (f:=fun p=>-p.1) VF.1 VF.2 ps _ _ hm
 have c:=qf (f:=fun p=>p.2) Vy.1 Vy.2 ps _ _ hm
 have d:=qf (f:=fun p=>-p.2) VE.1 VE.2 ps _ _ hm
 unfold inB qA
 dsimp only at *
 omega
theorem acv {ps:List Pt}(h:0<ps.length):(∃j,j<ps.length/\(qA ps).1.1=(ai ps j).1)/\(∃j,j<ps.length/\(qA ps).1.2=(ai ps j).1)/\(∃j,j<ps.length/\(qA ps).2.1=(ai ps j).2)/\(∃j,j<ps.length/\(qA ps).2.2=(ai ps j).2):=by
 have g:=fun p=>JZ p ps (ps.length-1)
 obtain⟨j1,h1,e1⟩:=g minS
 obtain⟨j2,h2,e2⟩:=g maxS
 obtain⟨j3,h3,e3⟩:=g rF
 obtain⟨j4,h4,e4⟩:=g rG
 unfold qA
 dsimp only
 exact⟨⟨j1,by omega,by rw[e1]⟩,⟨j2,by omega,by rw[e2]⟩,⟨j3,by omega,by rw[e3]⟩,⟨j4,by omega,by rw[e4]⟩⟩
theorem EP {ps:List Pt}(h:di ps=true):(qA ps).1.1<(qA ps).1.2/\(qA ps).2.1<(qA ps).2.2:=by
 have hp:=jV h
 have hv:=Po h (i:=0) (by omega)
 unfold pR tn at hv
 simp only[Nat.lt_irrefl,decide_false,Bool.false_and,Bool.false_or,Bool.not_eq_true',beq_eq_false_iff_ne,ne_eq,Hy] at hv
 have a:=uG (ps:=ps) (by omega) (0+ps.length-1)
 have b:=uG (ps:=ps) (by omega) 0
 have c:=uG (ps:=ps) (by omega) (0+1)
 unfold inB at a b c
 constructor
 ·rcases Int.lt_or_le (qA ps).1.1 (qA ps).1.2 with h1|h1
  ·exact h1
  ·refine absurd ?_ hv
   have x1:(ai ps 0).1=(ai ps (0+ps.length-1)).1:=by omega
   have x2:(ai ps (0+1)).1=(ai ps (0+ps.length-1)).1:=by omega
   unfold cr
   rw[x1,x2]
   grind
 ·rcases Int.lt_or_le (qA ps).2.1 (qA ps).2.2 with h1|h1
  ·exact h1
  ·refine absurd ?_ hv
   have x1:(ai ps 0).2=(ai ps (0+ps.length-1)).2:=by omega
   have x2:(ai ps (0+1)).2=(ai ps (0+ps.length-1)).2:=by omega
   unfold cr
   rw[x1,x2]
   grind
theorem ZE {ps:List Pt}(h:di ps=true):okB (qA ps)=true:=by
 have hp:=jV h
 have hw:=EP h
 obtain⟨⟨i1,l1,e1⟩,⟨i2,l2,e2⟩,⟨i3,l3,e3⟩,⟨i4,l4,e4⟩⟩:=acv (ps:=ps) (by omega)
 have o1:=lh (eu hp.2 i1)
 have o2:=lh (eu hp.2 i2)
 have o3:=lh (eu hp.2 i3)
 have o4:=lh (eu hp.2 i4)
 unfold okB
 rw[decide_eq_true_eq]
 omega
theorem Nq {ps:List Pt}(h:di ps=true):l9 (qA ps)=(dQ (qA ps),0):=by
 have hw:=EP h
 unfold l9
 rw[if_pos (ZE h),if_neg (by omega)]
section
variable {b:B4} (hx:b.1.1<b.1.2) (hy:b.2.1<b.2.2)
theorem rc0 (b:B4):ai (dQ b) 0=(b.1.1,b.2.1):=rfl
theorem rc1 (b:B4):ai (dQ b) 1=(b.1.2,b.2.1):=rfl
theorem Yp (b:B4):ai (dQ b) 2=(b.1.2,b.2.2):=rfl
theorem Yo (b:B4):ai (dQ b) 3=(b.1.1,b.2.2):=rfl
theorem rc4 (b:B4):ai (dQ b) 4=(b.1.1,b.2.1):=by simp[ai,dQ]
theorem rc5 (b:B4):ai (dQ b) 5=(b.1.2,b.2.1):=by simp[ai,dQ]
theorem rc6 (b:B4):ai (dQ b) 6=(b.1.2,b.2.2):=by simp[ai,dQ]
theorem Np {P:Nat->Prop}(h0:P 0)(h1:P 1)(h2:P 2)(h3:P 3):∀i,i<(dQ b).length->P i:=by
 intro i hi
 have:i<4:=hi
 match i,this with
 | 0,_=>exact h0
 | 1,_=>exact h1
 | 2,_=>exact h2
 | 3,_=>exact h3
include hx hy in
theorem QX:∀i,i<(dQ b).length->0<cr (ai (dQ b) (i+(dQ b).length-1)) (ai (dQ b) i) (ai (dQ b) (i+1)):=by
 have hp:=Int.mul_pos (show 0<b.1.2-b.1.1 by omega) (show 0<b.2.2-b.2.1 by omega)
 rw[show (dQ b).length=4 from rfl]
 intro i hi
 have h4:i<4:=hi
 match i,h4 with
 | 0,_ =>
  show 0<cr (ai (dQ b) 3) (ai (dQ b) 0) (ai (dQ b) 1)
  rw[Yo,rc0,rc1]
  unfold cr;dsimp only;grind
 | 1,_ =>
  show 0<cr (ai (dQ b) 4) (ai (dQ b) 1) (ai (dQ b) 2)
  rw[rc4,rc1,Yp]
  unfold cr;dsimp only;grind
 | 2,_ =>
  show 0<cr (ai (dQ b) 5) (ai (dQ b) 2) (ai (dQ b) 3)
  rw[rc5,Yp,Yo]
  unfold cr;dsimp only;grind
 | 3,_ =>
  show 0<cr (ai (dQ b) 6) (ai (dQ b) 3) (ai (dQ b) 4)
  rw[rc6,Yo,rc4]
  unfold cr;dsimp only;grind
theorem aez (b:B4)(q:Pt):cr (b.1.1,b.2.1) (b.1.2,b.2.1) q=(b.1.2-b.1.1)*(q.2-b.2.1):=by unfold cr;dsimp only;grind
theorem WV (b:B4)(q:Pt):cr (b.1.2,b.2.1) (b.1.2,b.2.2) q=(b.2.2-b.2.1)*(b.1.2-q.1):=by unfold cr;dsimp only;grind
theorem aaX (b:B4)(q:Pt):cr (b.1.2,b.2.2) (b.1.1,b.2.2) q=(b.1.2-b.1.1)*(b.2.2-q.2):=by unfold cr;dsimp only;grind
theorem aaW (b:B4)(q:Pt):cr (b.1.1,b.2.2) (b.1.1,b.2.1) q=(b.2.2-b.2.1)*(q.1-b.1.1):=by unfold cr;dsimp only;grind
include hx hy in
theorem Gg {q:Pt}(hq:inB b q):∀i,i<(dQ b).length->0<=cr (ai (dQ b) i) (ai (dQ b) (i+1)) q:=by
 unfold inB at hq
 refine Np ?_ ?_ ?_ ?_
 ·rw[rc0,rc1,aez]
  exact Int.mul_nonneg (by omega) (by omega)
 ·rw[rc1,Yp,WV]
  exact Int.mul_nonneg (by omega) (by omega)
 ·rw[Yp,Yo,aaX]
  exact Int.mul_nonneg (by omega) (by omega)
 ·rw[Yo,rc4,aaW]
  exact Int.mul_nonneg (by omega) (by omega)
theorem acr (a b c:Pt):cr b c a=cr a b c:=by unfold cr;grind
include hx hy in
end
theorem Ae {x:Int}:0<=sg x↔0<=x:=by rcases dN x with⟨h,e⟩|⟨h,e⟩|⟨h,e⟩<;>rw[e]<;>omega
section
variable {ps:List Pt} (hn:0<ps.length) (ht:∀i,i<ps.length->0<cr (ai ps (i+ps.length-1)) (ai ps i) (ai ps (i+1)))
include ht in
theorem xO {i:Nat}(hi:i<ps.length){to:Pt}(hl:∀i,i<ps.length->0<=cr (ai ps i) (ai ps (i+1)) to):ja ps i to=true:=by
 unfold ja
 have h0:0<tn (ai ps (i+ps.length-1)) (ai ps i) (ai ps (i+1)):=Ad.2 (ht i hi)
 rw[if_pos h0]
 have h1:0<=tn (ai ps i) (ai ps (i+1)) to:=Ae.2 (hl i hi)
 have h2:0<=tn (ai ps i) to (ai ps (i+ps.length-1)):=by
  refine Ae.2 ?_
  rw[acr]
  have hj:(i+ps.length-1)%ps.length<ps.length:=Nat.mod_lt _ (by omega)
  have:=hl _ hj
  have e1:ai ps ((i+ps.length-1)%ps.length)=ai ps (i+ps.length-1):=by unfold ai;rw[Nat.mod_mod]
  have e2:ai ps ((i+ps.length-1)%ps.length+1)=ai ps i:=by
   unfold ai
   rw[Nat.mod_add_mod,show i+ps.length-1+1=i+ps.length by omega,Nat.add_mod_right]
  rw[e1,e2] at this
  exact this
 rw[decide_eq_true h1,decide_eq_true h2]
 rfl
include ht in
theorem Eg {a to:Pt}(hl:∀i,i<ps.length->0<=cr (ai ps i) (ai ps (i+1)) to):leadsOf ps a to=true:=by
 unfold leadsOf
 split
 ·rename_i i h
  exact xO ht (List.mem_range.1 (List.mem_of_find?_eq_some h)) hl
 ·split
  ·rename_i i h
   unfold jZ
   rw[decide_eq_true_eq]
   exact Ae.2 (hl i (List.mem_range.1 (List.mem_of_find?_eq_some h)))
  ·rfl
include ht in
theorem Wv {a b:Pt}(ha:∀i,i<ps.length->0<=cr (ai ps i) (ai ps (i+1)) a)(hb:∀i,i<ps.length->0<=cr (ai ps i) (ai ps (i+1)) b)(pa:0<=placeOf ps a)(pb:0<=placeOf ps b):vP ps a b=true:=by
 unfold vP uo
 rw[decide_eq_true pa,decide_eq_true pb,Eg ht hb,Eg ht ha]
 simp only[Bool.true_and]
 rw[List.all_eq_true]
 intro i hi
 rw[List.mem_range] at hi
 unfold jb
 rw[xO ht hi ha,xO ht hi hb]
 have hc:lM a b (ai ps i) (ai ps (i+1))=false:=by
  cases h:lM a b (ai ps i) (ai ps (i+1))
  ·rfl
  ·have h2:=(eY.1 h).2
   have h3:=ha i hi
   have h4:=hb i hi
   omega
 rw[hc]
 simp
end
section
variable {b:B4} (hx:b.1.1<b.1.2) (hy:b.2.1<b.2.2)
include hx hy in
theorem DR (q:Pt):0<=placeOf (dQ b) q↔inB b q:=by
 have c1:bT q (b.1.1,b.2.1) (b.1.2,b.2.1)=false:=by
  rw[dI (show ((b.1.1,b.2.1):Pt).2<=((b.1.2,b.2.1):Pt).2 from Int.le_refl _),Bool.and_eq_false_iff]
  exact .inl (decide_eq_false (by dsimp only;omega))
 have c2:bT q (b.1.2,b.2.1) (b.1.2,b.2.2)=(decide (b.2.1<=q.2/\q.2<b.2.2)&&decide (q.1<b.1.2)):=by
  rw[dI (Int.le_of_lt hy),WV,Bool.eq_iff_iff]
  simp only[Bool.and_eq_true,decide_eq_true_eq]
  constructor
  ·rintro⟨h1,h2⟩
   refine⟨h1,?_⟩
   rw[Int.mul_comm] at h2
   have:=tN h2 (show 0<b.2.2-b.2.1 by omega)
   omega
  ·rintro⟨h1,h2⟩
   exact⟨h1,Int.mul_pos (by omega) (by omega)⟩
 have c3:bT q (b.1.2,b.2.2) (b.1.1,b.2.2)=false:=by
  rw[dI (show ((b.1.2,b.2.2):Pt).2<=((b.1.1,b.2.2):Pt).2 from Int.le_refl _),Bool.and_eq_false_iff]
  exact .inl (decide_eq_false (by dsimp only;omega))
 have c4:bT q (b.1.1,b.2.2) (b.1.1,b.2.1)=(decide (b.2.1<=q.2/\q.2<b.2.2)&&decide (q.1<b.1.1)):=by
  rw[iL,dI (Int.le_of_lt hy),nX,aaW,Bool.eq_iff_iff]
  simp only[Bool.and_eq_true,decide_eq_true_eq]
  constructor
  ·rintro⟨h1,h2⟩
   refine⟨h1,?_⟩
   have:=oQ (x:=q.1-b.1.1) (y:=b.2.2-b.2.1) (by rw[Int.mul_comm];omega) (by omega)
   omega
  ·rintro⟨h1,h2⟩
   refine⟨h1,?_⟩
   have:=Int.mul_pos (show 0<b.2.2-b.2.1 by omega) (show 0 < -(q.1-b.1.1) by omega)
   rw[Int.mul_neg] at this
   omega
 have NY:par (dQ b) q (List.range (dQ b).length)=(decide (b.2.1<=q.2/\q.2<b.2.2)&&decide (b.1.1<=q.1/\q.1<b.1.2)):=by
  show ((((false ^^ bT q (ai (dQ b) 0) (ai (dQ b) 1)) ^^ bT q (ai (dQ b) 1) (ai (dQ b) 2)) ^^ bT q (ai (dQ b) 2) (ai (dQ b) 3)) ^^ bT q (ai (dQ b) 3) (ai (dQ b) 4))=_
  rw[rc0,rc1,Yp,Yo,rc4,c1,c2,c3,c4]
  by_cases h1:q.1<b.1.1
  ·rw[decide_eq_true h1,decide_eq_true (show q.1<b.1.2 by omega),decide_eq_false (show ¬ (b.1.1<=q.1/\q.1<b.1.2) by omega)]
   cases decide (b.2.1<=q.2/\q.2<b.2.2)<;>rfl
  ·by_cases h2:q.1<b.1.2
   ·rw[decide_eq_false h1,decide_eq_true h2,decide_eq_true (show (b.1.1<=q.1/\q.1<b.1.2) by omega)]
    cases decide (b.2.1<=q.2/\q.2<b.2.2)<;>rfl
   ·rw[decide_eq_false h1,decide_eq_false h2,decide_eq_false (show ¬ (b.1.1<=q.1/\q.1<b.1.2) by omega)]
    cases decide (b.2.1<=q.2/\q.2<b.2.2)<;>rfl
 have hon:gK (dQ b) q=true->inB b q:=by
  intro h
  unfold gK at h
  rw[List.any_eq_true] at h
  obtain⟨i,hi,ho⟩:=h
  have h4:i<4:=List.mem_range.1 hi
  have ho2:=(dw.1 ho).2
  unfold inB
  match i,h4 with
  | 0,_=>rw[rc0,rc1] at ho2;dsimp only at ho2;omega
  | 1,_=>rw[rc1,Yp] at ho2;dsimp only at ho2;omega
  | 2,_=>rw[Yp,Yo] at ho2;dsimp only at ho2;omega
  | 3,_=>rw[Yo,rc4] at ho2;dsimp only at ho2;omega
 constructor
 ·intro h
  rcases oC (dQ b) q with⟨e,f⟩|⟨e,g,f⟩|⟨e,g,f⟩
  ·exact hon e
  ·rw[NY] at g
   simp only[Bool.and_eq_true,decide_eq_true_eq] at g
   unfold inB
   omega
  ·omega
 ·intro h
  rcases oC (dQ b) q with⟨e,f⟩|⟨e,g,f⟩|⟨e,g,f⟩
  ·omega
  ·omega
  ·exfalso
   unfold gK at e
   rw[List.any_eq_false] at e
   unfold inB at h
   by_cases h1:q.1=b.1.2
   ·refine e 1 (List.mem_range.2 (show 1<4 by omega)) ?_
    rw[rc1,Yp,dw,WV]
    refine⟨by rw[h1,Int.sub_self,Int.mul_zero],?_⟩
    dsimp only
    omega
   ·by_cases h2:q.2=b.2.2
    ·refine e 2 (List.mem_range.2 (show 2<4 by omega)) ?_
     rw[Yp,Yo,dw,aaX]
     refine⟨by rw[h2,Int.sub_self,Int.mul_zero],?_⟩
     dsimp only
     omega
    ·rw[NY,decide_eq_true (show b.2.1<=q.2/\q.2<b.2.2 by omega),decide_eq_true (show b.1.1<=q.1/\q.1<b.1.2 by omega)] at g
     cases g
end
theorem Nl {ps:List Pt}(h:di ps=true):tV (dQ (qA ps)) ps=true:=by
 obtain⟨hx,hy⟩:=EP h
 have hn:0<ps.length:=by have:=jV h;omega
 unfold tV
 rw[List.all_eq_true]
 intro i _
 unfold AQ
 exact Wv (QX hx hy) (Gg hx hy (uG hn i)) (Gg hx hy (uG hn (i+1))) ((DR hx hy _).2 (uG hn i)) ((DR hx hy _).2 (uG hn (i+1)))
end Go.Proofs.YtlkgjmnjhifehaaGreat
