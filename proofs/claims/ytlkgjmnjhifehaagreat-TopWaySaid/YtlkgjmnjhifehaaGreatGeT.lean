/- One feature stands for another one. What a disc and a polygon cover at each scale; which one holds which (plain geometry). Which feature stands for which, in plain words: what it covers. -/
import Derived.Test.YtlkgjmnjhifehaaGreatPgX
import Derived.Test.YtlkgjmnjhifehaaGreatRuI
import Derived.Test.YtlkgjmnjhifehaaGreatJoN
import Derived.Test.YtlkgjmnjhifehaaGreatSgX
set_option linter.unusedSimpArgs false
set_option linter.unusedVariables false
namespace Go.Proofs.YtlkgjmnjhifehaaGreat
def JF (c:Pt)(r d:Int)(z:Pt):Prop:=jb (sc d c) z<=(d*r)*(d*r)
theorem vJ {x y:Int}(hy:0<=y)(h:x*x<=y*y):x<=y:=by
 rcases Int.lt_or_le y x with h1|h1
 ·have:=Int.mul_pos (show 0<x-y by omega) (show 0<x+y by omega)
  have e:(x-y)*(x+y)=x*x-y*y:=by grind
  omega
 ·exact h1
theorem Xj (a b c e:Int):(a*c+b*e)*(a*c+b*e)+(a*e-b*c)*(a*e-b*c)=(a*a+b*b)*(c*c+e*e):=by grind
theorem UN (a b:Int):0<=a*a+b*b:=by
 have:=sq_nonneg a
 have:=sq_nonneg b
 omega
theorem acD {a b c e P Q:Int}(hP:0<=P)(hQ:0<=Q)(h1:a*a+b*b<=P*P)(h2:c*c+e*e<=Q*Q):a*c+b*e<=P*Q:=by
 refine vJ (Int.mul_nonneg hP hQ) ?_
 have h3:=Xj a b c e
 have h4:=sq_nonneg (a*e-b*c)
 have h5:(a*a+b*b)*(c*c+e*e)<=(P*P)*(Q*Q):=Int.mul_le_mul h1 h2 (UN _ _) (sq_nonneg P)
 have h6:(P*Q)*(P*Q)=(P*P)*(Q*Q):=by grind
 omega
theorem acC {a b c e A:Int}(hA:a*a+b*b=A)(hw:c*c+e*e<A):a*c+b*e<A:=by
 rcases Int.lt_or_le (a*c+b*e) A with h|h
 ·exact h
 ·exfalso
  have h0:=UN c e
  have h3:=Xj a b c e
  have h4:=sq_nonneg (a*e-b*c)
  have h5:A*A<=(a*c+b*e)*(a*c+b*e):=Int.mul_le_mul h h (by omega) (by omega)
  have h6:A*(c*c+e*e)<A*A:=Int.mul_lt_mul_of_pos_left hw (by omega)
  rw[hA] at h3
  omega
theorem af2 {a b c e P Q:Int}(hP:0<=P)(hQ:0<=Q)(h1:a*a+b*b<=P*P)(h2:c*c+e*e<=Q*Q):(a+c)*(a+c)+(b+e)*(b+e)<=(P+Q)*(P+Q):=by
 have h3:=acD hP hQ h1 h2
 have e1:(a+c)*(a+c)+(b+e)*(b+e)=(a*a+b*b)+2*(a*c+b*e)+(c*c+e*e):=by grind
 have e2:(P+Q)*(P+Q)=P*P+2*(P*Q)+Q*Q:=by grind
 omega
theorem Dw {c c':Pt}{r s d:Int}{z:Pt}(hd:0<d)(hr:0<=r)(hrs:r<=s)(hcc:jb c' c<=(s-r)*(s-r))(h:JF c r d z):JF c' s d z:=by
 unfold JF at *
 have h1:(z.1-d*c.1)*(z.1-d*c.1)+(z.2-d*c.2)*(z.2-d*c.2)<=(d*r)*(d*r):=h
 have h2:(d*(c.1-c'.1))*(d*(c.1-c'.1))+(d*(c.2-c'.2))*(d*(c.2-c'.2))<=(d*(s-r))*(d*(s-r)):=by
  have e1:(d*(c.1-c'.1))*(d*(c.1-c'.1))+(d*(c.2-c'.2))*(d*(c.2-c'.2))=(d*d)*jb c' c:=by unfold jb;grind
  have e2:(d*(s-r))*(d*(s-r))=(d*d)*((s-r)*(s-r)):=by grind
  rw[e1,e2]
  exact Int.mul_le_mul_of_nonneg_left hcc (sq_nonneg d)
 have h3:=af2 (Int.mul_nonneg (by omega) hr) (Int.mul_nonneg (by omega) (by omega)) h1 h2
 have e3:d*r+d*(s-r)=d*s:=by grind
 rw[e3] at h3
 have e4:jb (sc d c') z=(z.1-d*c.1+d*(c.1-c'.1))*(z.1-d*c.1+d*(c.1-c'.1))+(z.2-d*c.2+d*(c.2-c'.2))*(z.2-d*c.2+d*(c.2-c'.2)):=by unfold jb sc;grind
 rw[e4]
 exact h3
theorem add_lt {A B P Q U:Int}(hA:0<=A)(hB:0<=B)(hU:0<=U)(h1:P*P<A*A*U)(h2:Q*Q<B*B*U):(P+Q)*(P+Q)<(A+B)*(A+B)*U:=by
 have h3:P*Q<=A*B*U:=by
  refine vJ (Int.mul_nonneg (Int.mul_nonneg hA hB) hU) ?_
  have e1:(P*Q)*(P*Q)=(P*P)*(Q*Q):=by grind
  have e2:(A*B*U)*(A*B*U)=(A*A*U)*(B*B*U):=by grind
  rw[e1,e2]
  exact Int.mul_le_mul (Int.le_of_lt h1) (Int.le_of_lt h2) (sq_nonneg Q) (Int.mul_nonneg (sq_nonneg A) hU)
 have e1:(P+Q)*(P+Q)=P*P+2*(P*Q)+Q*Q:=by grind
 have e2:(A+B)*(A+B)*U=A*A*U+2*(A*B*U)+B*B*U:=by grind
 omega
theorem acP {A B P Q U:Int}(hP:0<=P)(hQ:0<=Q)(hU:0<=U)(h1:A*A*U<=P*P)(h2:B*B*U<=Q*Q):(A+B)*(A+B)*U<=(P+Q)*(P+Q):=by
 have h3:A*B*U<=P*Q:=by
  refine vJ (Int.mul_nonneg hP hQ) ?_
  have e1:(P*Q)*(P*Q)=(P*P)*(Q*Q):=by grind
  have e2:(A*B*U)*(A*B*U)=(A*A*U)*(B*B*U):=by grind
  rw[e1,e2]
  exact Int.mul_le_mul h1 h2 (Int.mul_nonneg (sq_nonneg B) hU) (sq_nonneg P)
 have e1:(P+Q)*(P+Q)=P*P+2*(P*Q)+Q*Q:=by grind
 have e2:(A+B)*(A+B)*U=A*A*U+2*(A*B*U)+B*B*U:=by grind
 omega
theorem Zq {c c':Pt}{r s:Int}(hr:0<=r)(hs:0<=s)(h:∀d z,0<d->JF c r d z->JF c' s d z):r<=s/\jb c' c<=(s-r)*(s-r):=by
 unfold JF at h
 have hrs:r<=s:=by
  by_cases ha:0<=c.1-c'.1
  ·have h1:=h 1 (c.1+r,c.2) (by omega) (by unfold jb sc;dsimp only;grind)
   have e:jb (sc 1 c') (c.1+r,c.2)=((c.1-c'.1)+r)*((c.1-c'.1)+r)+(c.2-c'.2)*(c.2-c'.2):=by unfold jb sc;dsimp only;grind
   rw[e,Int.one_mul] at h1
   have:=sq_nonneg (c.2-c'.2)
   have:=vJ hs (show ((c.1-c'.1)+r)*((c.1-c'.1)+r)<=s*s by omega)
   omega
  ·have h1:=h 1 (c.1-r,c.2) (by omega) (by unfold jb sc;dsimp only;grind)
   have e:jb (sc 1 c') (c.1-r,c.2)=(r-(c.1-c'.1))*(r-(c.1-c'.1))+(c.2-c'.2)*(c.2-c'.2):=by unfold jb sc;dsimp only;grind
   rw[e,Int.one_mul] at h1
   have:=sq_nonneg (c.2-c'.2)
   have:=vJ hs (show (r-(c.1-c'.1))*(r-(c.1-c'.1))<=s*s by omega)
   omega
 refine⟨hrs,?_⟩
 rcases Int.lt_or_le ((s-r)*(s-r)) (jb c' c) with hlt|hle
 ·exfalso
  obtain⟨m,hm⟩:∃m,s-r=m:=⟨_,rfl⟩
  obtain⟨U,hU⟩:∃U,jb c' c=U:=⟨_,rfl⟩
  rw[hm,hU] at hlt
  have hm0:0<=m:=by omega
  have hmm:=sq_nonneg m
  have hU1:1<=U:=by omega
  obtain⟨N,hN⟩:∃N,N=2*m+2:=⟨_,rfl⟩
  have hNN:(N*m+1)*(N*m+1)<N*N*U:=by
   have h1:N*N*(m*m+1)<=N*N*U:=Int.mul_le_mul_of_nonneg_left (by omega) (sq_nonneg N)
   have e1:N*N*(m*m+1)=(N*m)*(N*m)+N*N:=by grind
   have e2:(N*m+1)*(N*m+1)=(N*m)*(N*m)+2*(N*m)+1:=by grind
   have e3:N*N=2*(N*m)+2*N:=by rw[hN];grind
   omega
  have hk:∃j,j<(N*U*r+1).toNat/\((j:Int)*j*U<=(N*U*r)*(N*U*r))/\¬ (((j+1:Nat):Int)*((j+1:Nat):Int)*U<=(N*U*r)*(N*U*r)):=by
   refine ivt (P:=fun j=>(j:Int)*j*U<=(N*U*r)*(N*U*r)) _ ?_ ?_
   ·show ((0:Nat):Int)*((0:Nat):Int)*U<=_
    have:=sq_nonneg (N*U*r)
    simp
    exact this
   ·have hd0:0<=N*U*r:=Int.mul_nonneg (Int.mul_nonneg (by omega) (by omega)) hr
    have ej:(((N*U*r+1).toNat:Nat):Int)=N*U*r+1:=by omega
    rw[ej]
    intro h9
    have h1:(N*U*r+1)*(N*U*r+1)*1<=(N*U*r+1)*(N*U*r+1)*U:=Int.mul_le_mul_of_nonneg_left hU1 (sq_nonneg _)
    have e2:(N*U*r+1)*(N*U*r+1)=(N*U*r)*(N*U*r)+2*(N*U*r)+1:=by grind
    omega
  obtain⟨j,_,hj1,hj2⟩:=hk
  obtain⟨k,hkj⟩:∃k:Int,k=(j:Int):=⟨_,rfl⟩
  have hk0:0<=k:=by omega
  rw[<-hkj] at hj1
  rw[show ((j+1:Nat):Int)=k+1 by omega] at hj2
  have hd:0<N*U:=Int.mul_pos (by omega) (by omega)
  obtain⟨d,hdd⟩:∃d,N*U=d:=⟨_,rfl⟩
  rw[hdd] at hj1 hj2 hd
  have eU:U=(c.1-c'.1)*(c.1-c'.1)+(c.2-c'.2)*(c.2-c'.2):=by rw[<-hU];unfold jb;grind
  have h1:=h d (d*c.1+k*(c.1-c'.1),d*c.2+k*(c.2-c'.2)) hd (by
   have e:jb (sc d c) (d*c.1+k*(c.1-c'.1),d*c.2+k*(c.2-c'.2))=k*k*U:=by rw[eU];unfold jb sc;dsimp only;grind
   rw[e]
   exact hj1)
  have e1:jb (sc d c') (d*c.1+k*(c.1-c'.1),d*c.2+k*(c.2-c'.2))=(d+k)*(d+k)*U:=by rw[eU];unfold jb sc;dsimp only;grind
  rw[e1] at h1
  have hA:(d*m+U)*(d*m+U)<d*d*U:=by
   have e2:(d*m+U)*(d*m+U)=(U*U)*((N*m+1)*(N*m+1)):=by rw[<-hdd];grind
   have e3:d*d*U=(U*U)*(N*N*U):=by rw[<-hdd];grind
   rw[e2,e3]
   exact Int.mul_lt_mul_of_pos_left hNN (Int.mul_pos (by omega) (by omega))
  have hB:(d*r)*(d*r)<(k+1)*(k+1)*U:=by omega
  have hC:=add_lt (by omega) (by omega) (by omega) hA hB
  have hD:=acP (A:=d+k) (B:=1) (P:=d*s) (Q:=U) (U:=U) (Int.mul_nonneg (by omega) hs) (by omega) (by omega) h1 (by
   have:1*U<=U*U:=Int.mul_le_mul_of_nonneg_right hU1 (by omega)
   omega)
  have e4:d*m+U+d*r=d*s+U:=by rw[<-hm];grind
  have e5:d+(k+1)=d+k+1:=by omega
  rw[e4,e5] at hC
  omega
 ·exact hle
theorem XJ {d:Int}(hd:0<d){p a b:Pt}{r:Int}(h:apartB p a b r=true):apartB (sc d p) (sc d a) (sc d b) (d*r)=true:=by
 have hdd:0<d*d:=Int.mul_pos hd hd
 have e1:dt (sc d a) (sc d b) (sc d p)=(d*d)*dt a b p:=by unfold dt sc;dsimp only;grind
 have e2:dt (sc d a) (sc d p) (sc d p)=(d*d)*dt a p p:=by unfold dt sc;dsimp only;grind
 have e3:dt (sc d b) (sc d p) (sc d p)=(d*d)*dt b p p:=by unfold dt sc;dsimp only;grind
 have e4:dt (sc d a) (sc d b) (sc d b)=(d*d)*dt a b b:=by unfold dt sc;dsimp only;grind
 have e5:cr (sc d a) (sc d b) (sc d p)=(d*d)*cr a b p:=by unfold cr sc;dsimp only;grind
 have mono:∀ {x y:Int},x<=y->(d*d)*x<=(d*d)*y:=fun h=>Int.mul_le_mul_of_nonneg_left h (Int.le_of_lt hdd)
 have aaS:∀ {x y:Int},x<y->(d*d)*x<(d*d)*y:=fun h=>Int.mul_lt_mul_of_pos_left h hdd
 unfold apartB oM at *
 rw[e1,e2,e3,e4,e5]
 by_cases c1:dt a b p<=0
 ·rw[if_pos c1] at h
  have c1':=mono c1
  rw[Int.mul_zero] at c1'
  rw[if_pos c1']
  rw[decide_eq_true_eq] at h ⊢
  dsimp only at h ⊢
  have:=mono (show r*r<=dt a p p by omega)
  have e:d*r*(d*r)=(d*d)*(r*r):=by grind
  omega
 ·have c1':=aaS (show 0<dt a b p by omega)
  rw[Int.mul_zero] at c1'
  rw[if_neg c1] at h
  rw[if_neg (by omega)]
  by_cases c2:dt a b b<=dt a b p
  ·rw[if_pos c2] at h
   rw[if_pos (mono c2)]
   rw[decide_eq_true_eq] at h ⊢
   dsimp only at h ⊢
   have:=mono (show r*r<=dt b p p by omega)
   have e:d*r*(d*r)=(d*d)*(r*r):=by grind
   omega
  ·have c2':=aaS (show dt a b p<dt a b b by omega)
   rw[if_neg c2] at h
   rw[if_neg (by omega)]
   rw[decide_eq_true_eq] at h ⊢
   dsimp only at h ⊢
   rw[show ((cr a b p).natAbs:Int)*((cr a b p).natAbs:Int)=cr a b p*cr a b p from Int.natAbs_mul_self] at h
   rw[show (((d*d)*cr a b p).natAbs:Int)*(((d*d)*cr a b p).natAbs:Int)=((d*d)*cr a b p)*((d*d)*cr a b p) from Int.natAbs_mul_self]
   have:=Int.mul_le_mul_of_nonneg_left h (sq_nonneg (d*d))
   have e:d*r*(d*r)*((d*d)*dt a b b)=(d*d)*(d*d)*(r*r*dt a b b):=by grind
   have e':(d*d)*cr a b p*((d*d)*cr a b p)=(d*d)*(d*d)*(cr a b p*cr a b p):=by grind
   rw[e,e']
   exact this
theorem Zu {ps:List Pt}(hp:Simp ps){c:Pt}{r d:Int}(hd:0<d)(h:iM ps c r=1):iM (ps.map (sc d)) (sc d c) (d*r)=1:=by
 unfold iM at *
 rw[yT hp hd]
 by_cases h0:0<=placeOf ps c
 ·rw[if_pos h0] at h ⊢
  have ha:iK ps c r (List.range ps.length)=true:=by
   cases hx:iK ps c r (List.range ps.length)
   ·rw[hx] at h;simp at h
   ·rfl
  rw[if_pos ?_]
  unfold iK at *
  rw[List.all_eq_true] at *
  intro i hi
  rw[List.length_map] at hi
  rw[aH,aH]
  exact XJ hd (ha i hi)
 ·rw[if_neg h0] at h
  split at h<;>cases h
theorem Xl {ps:List Pt}(hp:Simp ps){c:Pt}{r d:Int}{z:Pt}(hd:0<d)(h:iM ps c r=1)(hz:JF c r d z):0<=placeOf (ps.map (sc d)) z :=
 (Lp (at':=sc d c) (r:=d*r) hz).1 (Zu hp hd h)
theorem YW {p u v:Pt}{r:Int}(h:apartB p u v r=false):∃m z,0<m/\eG z (sc m u) (sc m v)=true/\jb (sc m p) z<(m*r)*(m*r):=by
 unfold apartB oM at h
 rw[decide_eq_false_iff_not] at h
 by_cases c1:dt u v p<=0
 ·rw[if_pos c1] at h
  dsimp only at h
  refine⟨1,sc 1 u,by omega,kQ _ _,?_⟩
  have e:jb (sc 1 p) (sc 1 u)=dt u p p:=by unfold jb dt sc;dsimp only;grind
  rw[e]
  have e2:1*r*(1*r)=r*r:=by grind
  omega
 ·rw[if_neg c1] at h
  by_cases c2:dt u v v<=dt u v p
  ·rw[if_pos c2] at h
   dsimp only at h
   refine⟨1,sc 1 v,by omega,nN _ _,?_⟩
   have e:jb (sc 1 p) (sc 1 v)=dt v p p:=by unfold jb dt sc;dsimp only;grind
   rw[e]
   have e2:1*r*(1*r)=r*r:=by grind
   omega
  ·rw[if_neg c2] at h
   dsimp only at h
   rw[show ((cr u v p).natAbs:Int)*((cr u v p).natAbs:Int)=cr u v p*cr u v p from Int.natAbs_mul_self] at h
   obtain⟨L,hL⟩:∃L,dt u v v=L:=⟨_,rfl⟩
   obtain⟨k,hk⟩:∃k,dt u v p=k:=⟨_,rfl⟩
   rw[hL] at h c2
   rw[hk] at c1 c2
   have hL0:0<L:=by omega
   refine⟨L,(L*u.1+k*(v.1-u.1),L*u.2+k*(v.2-u.2)),hL0,?_,?_⟩
   ·rw[dB]
    have x1:=uM (L*u.1) (v.1-u.1) 0 L k ⟨by omega,by omega⟩
    have x2:=uM (L*u.2) (v.2-u.2) 0 L k ⟨by omega,by omega⟩
    have y1:L*u.1+L*(v.1-u.1)=L*v.1:=by grind
    have y2:L*u.2+L*(v.2-u.2)=L*v.2:=by grind
    rw[y1,Int.zero_mul,Int.add_zero] at x1
    rw[y2,Int.zero_mul,Int.add_zero] at x2
    refine⟨?_,x1,x2⟩
    unfold cr sc
    dsimp only
    grind
   ·have e:jb (sc L p) (L*u.1+k*(v.1-u.1),L*u.2+k*(v.2-u.2))=L*(cr u v p*cr u v p):=by
     rw[<-hL,<-hk]
     unfold jb sc cr dt
     dsimp only
     grind
    rw[e]
    have e2:L*r*(L*r)=L*(r*r*L):=by grind
    rw[e2]
    exact Int.mul_lt_mul_of_pos_left (by omega) hL0
theorem S9 {ps:List Pt}(hp:Poly ps){c:Pt}{r:Int}(h:∀d z,0<d->JF c r d z->0<=placeOf (ps.map (sc d)) z):iM ps c r=1:=by
 have h0:0<=placeOf ps c:=by
  have h1:=h 1 c (by omega) (by
   unfold JF
   have e:jb (sc 1 c) c=0:=by unfold jb sc;dsimp only;grind
   rw[e]
   exact sq_nonneg _)
  rwa [yg] at h1
 unfold iM
 rw[if_pos h0]
 have ha:iK ps c r (List.range ps.length)=true:=by
  cases hx:iK ps c r (List.range ps.length)
  ·exfalso
   unfold iK at hx
   rw[List.all_eq_false] at hx
   obtain⟨i,hi,hx⟩:=hx
   have hi:=List.mem_range.1 hi
   obtain⟨m,z,hm,hon,hlt⟩:=YW (by simpa using hx)
   have hpm:=hp.sc hm
   have hz:placeOf (ps.map (sc m)) z=0:=Vw (i:=i) (by rw[List.length_map];exact hi) (by rw[aH,aH];exact hon)
   obtain⟨f,hf⟩:=UW hpm hz
   obtain⟨M,hM⟩:=Ev.and (Ev.and hf (Ev.Rq (A:=(m*r)*(m*r)-jb (sc m c) z) (by omega) (-2*((z.1-m*c.1)*f.1+(z.2-m*c.2)*f.2)) (-(f.1*f.1+f.2*f.2)))) (Ev.ge 1)
   obtain⟨⟨⟨o1,o2⟩,hq⟩,h1⟩:=hM M (Int.le_refl _)
   have hD:JF c r (M*m) (nr M z f):=by
    unfold JF
    have e:(M*m*r)*(M*m*r)-jb (sc (M*m) c) (nr M z f)=M*M*((m*r)*(m*r)-jb (sc m c) z)+M*(-2*((z.1-m*c.1)*f.1+(z.2-m*c.2)*f.2))+-(f.1*f.1+f.2*f.2):=by
     unfold jb sc nr
     dsimp only
     grind
    omega
   have hin:=h (M*m) _ (Int.mul_pos (by omega) hm) hD
   have hout:=Gs (hpm.toSimp.sc (d:=M) (by omega)) o1 o2
   rw[nP] at hout
   omega
  ·rfl
 rw[if_pos ha]
theorem ZY {ps:List Pt}(hp:Simp ps){c:Pt}{r d:Int}(hr:0<=r)(h:∀p∈ps,jb c p<=r*r)(hd:0<d){z:Pt}(hz:0<=placeOf (ps.map (sc d)) z):JF c r d z:=by
 unfold JF
 rcases Int.lt_or_le ((d*r)*(d*r)) (jb (sc d c) z) with hlt|hle
 ·exfalso
  obtain⟨x,hx⟩:∃x,z.1-d*c.1=x:=⟨_,rfl⟩
  obtain⟨y,hy⟩:∃x,z.2-d*c.2=x:=⟨_,rfl⟩
  obtain⟨A,hA⟩:∃A,x*x+y*y=A:=⟨_,rfl⟩
  have eA:jb (sc d c) z=A:=by rw[<-hA,<-hx,<-hy];rfl
  rw[eA] at hlt
  obtain⟨γ,hγ⟩:∃g,g=-(2*(x*(d*c.1)+y*(d*c.2)))-(2*A-1):=⟨_,rfl⟩
  have hl:=hp.len
  have Zf:∀i,ev (2*x) (2*y) γ (ah (ps.map (sc d)) i)<0:=by
   intro i
   rw[aH]
   have hm:ah ps i∈ps:=by
    rw[dV]
    exact List.mem_of_getElem? (gV (Nat.mod_lt _ (by omega)))
   have hq:=h _ hm
   generalize ah ps i=q at *
   have hw:(d*(q.1-c.1))*(d*(q.1-c.1))+(d*(q.2-c.2))*(d*(q.2-c.2))<A:=by
    have e1:(d*(q.1-c.1))*(d*(q.1-c.1))+(d*(q.2-c.2))*(d*(q.2-c.2))=(d*d)*jb c q:=by unfold jb;grind
    have e2:(d*r)*(d*r)=(d*d)*(r*r):=by grind
    have:=Int.mul_le_mul_of_nonneg_left hq (sq_nonneg d)
    omega
   have hdl:=acC hA hw
   have e:ev (2*x) (2*y) γ (sc d q)=2*(x*(d*(q.1-c.1))+y*(d*(q.2-c.2)))-(2*A-1):=by rw[hγ];unfold ev sc;dsimp only;grind
   rw[e]
   omega
  have hez:0<ev (2*x) (2*y) γ z:=by
   have e:ev (2*x) (2*y) γ z=2*(x*(z.1-d*c.1)+y*(z.2-d*c.2))-(2*A-1):=by rw[hγ];unfold ev;grind
   rw[e,hx,hy,hA]
   omega
  have hoff:kC (ps.map (sc d)) z:=by
   intro i
   cases ho:eG z (ah (ps.map (sc d)) i) (ah (ps.map (sc d)) (i+1))
   ·rfl
   ·have:=mM ho (Zf i) (Zf (i+1))
    omega
  have hw:wn (ps.map (sc d)) z=0:=by
   unfold wn
   rw[dw (g:=fun i=>(fun i=>-gp z (decide (2*x<0)) (ah (ps.map (sc d)) i)) (i+1)-(fun i=>-gp z (decide (2*x<0)) (ah (ps.map (sc d)) i)) i) _ (fun i _=>by rw[EL (Zf i) (Zf (i+1)) hez];dsimp only;omega)]
   refine (pX (fun i=>-gp z (decide (2*x<0)) (ah (ps.map (sc d)) i)) _).trans ?_
   rw[uK]
   omega
  have:=Gs (hp.sc hd) hoff hw
  omega
 ·exact hle
open Go.RowKit Go.Sort
def Yb (f:FV)(d:Int)(z:Pt):Prop:=if f.kind=4 then False else if f.kind=3\/f.kind=6 then 0<=placeOf (f.area.map (sc d)) z else JF (f.x,f.y) f.dC d z
theorem pK {f:FV}(h:bf f=true):(1<=f.id/\f.id<=100000)/\(0<=f.dep/\f.dep<=100000)/\(0<=f.dC/\f.dC<=100000):=by
 unfold bf wP at h
 rw[Bool.and_eq_true,decide_eq_true_eq] at h
 omega
theorem iP {f:FV}(h:bf f=true):(f.kind=4/\lh f.x f.y=true/\fK f.secs=true/\f.dep=0)\/((f.kind=3\/f.kind=6)/\dm f.area=true)\/((f.kind=1\/f.kind=2\/f.kind=5)/\lh f.x f.y=true/\f.area=[]/\f.secs=[]):=by
 unfold bf at h
 rw[Bool.and_eq_true] at h
 have h:=h.2
 by_cases c1:Ey f.kind=true
 ·rw[if_pos c1] at h
  unfold Ey at c1
  unfold Oq at h
  simp only[Bool.and_eq_true,decide_eq_true_eq,List.length_eq_zero_iff] at h c1
  exact .inr (.inr ⟨c1,h.1,h.2.2.1,h.2.2.2⟩)
 ·rw[if_neg c1] at h
  by_cases c3:f.kind=3
  ·rw[if_pos c3] at h
   unfold Bv at h
   rw[Bool.and_eq_true] at h
   exact .inr (.inl ⟨.inl c3,h.1⟩)
  ·rw[if_neg c3] at h
   by_cases c6:f.kind=6
   ·rw[if_pos c6] at h
    unfold Bv at h
    rw[Bool.and_eq_true,Bool.and_eq_true] at h
    exact .inr (.inl ⟨.inr c6,h.2.1⟩)
   ·rw[if_neg c6] at h
    by_cases c4:f.kind=4
    ·rw[if_pos c4] at h
     unfold I4 at h
     simp only[Bool.and_eq_true,decide_eq_true_eq] at h
     exact .inl ⟨c4,h.1,h.2.1,h.2.2.2.1⟩
    ·rw[if_neg c4] at h
     cases h
theorem AP {r:Int}(h:0<=r/\r<=100000):lM r=true:=by unfold lM;rw[decide_eq_true_eq];omega
theorem Jh (p q:Pt):dt p q q=jb q p:=by unfold dt jb;grind
theorem VG {p a:Pt}{r:Int}:o6 p a a r=true↔jb a p<=r*r:=by
 refine⟨Gx,fun h=>?_⟩
 unfold o6 oM
 rw[decide_eq_true_eq]
 have e:dt a a p=0:=by unfold dt;grind
 rw[if_pos (by omega)]
 have e2:dt a p p=jb a p:=by unfold dt jb;grind
 rw[e2]
 dsimp only
 omega
theorem yG {x y r:Int}{p:Pt}(hr:0<=r/\r<=100000)(ho:lh x y=true):mr x y r p=true↔p.ok=true/\jb (x,y) p<=r*r:=by
 unfold mr kD
 by_cases hp:p.ok=true
 ·rw[if_pos (by rw[hp,AP hr,show Pt.ok (x,y)=true from ho];rfl)]
  simp[VG,hp]
 ·rw[if_neg (by simp only[Bool.and_eq_true];exact fun h=>hp h.1)]
  simp[hp]
theorem WC {f g:FV}(vf:bf f=true)(vg:bf g=true)(hf:f.kind≠4)(hg:g.kind≠4):eX g f=true↔∀d z,0<d->Yb f d z->Yb g d z:=by
 have rf:=(pK vf).2.2
 have rg:=(pK vg).2.2
 unfold eX Yb
 rw[if_neg hg,if_neg hf]
 rcases iP vg with⟨a,_⟩|⟨kg,pg⟩|⟨kg,og,_⟩
 ·exact absurd a hg
 ·rw[if_pos kg]
  have Pg:=uf pg
  rcases iP vf with⟨a,_⟩|⟨kf,pf⟩|⟨kf,of,_⟩
  ·exact absurd a hf
  ·rw[if_pos kf]
   have Pf:=uf pf
   unfold uQ sO
   rw[if_pos (by rw[pg,pf];rfl)]
   simp only[if_neg hf,if_neg hg,if_pos kg,if_pos kf]
   rw[show ((0:Int)==0&&ui g.area f.area)=ui g.area f.area by simp,GU Pg Pf]
   exact⟨fun h d z hd hz=>h d hd z hz,fun h d hd z hz=>h d z hd hz⟩
  ·have nf:¬ (f.kind=3\/f.kind=6):=by omega
   rw[if_neg nf]
   simp only[if_neg hf,if_neg hg,if_pos kg,if_neg nf]
   unfold uP qC
   rw[if_pos (by rw[pg,AP rf,show Pt.ok (f.x,f.y)=true from of];rfl)]
   rw[show ((0:Int)==0&&iM g.area (f.x,f.y) f.dC==1)=(iM g.area (f.x,f.y) f.dC==1) by simp,beq_iff_eq]
   exact⟨fun h d z hd hz=>Xl Pg.toSimp hd h hz,fun h=>S9 Pg h⟩
 ·have ng':¬ (g.kind=3\/g.kind=6):=by omega
  rw[if_neg ng']
  rcases iP vf with⟨a,_⟩|⟨kf,pf⟩|⟨kf,of,_⟩
  ·exact absurd a hf
  ·rw[if_pos kf]
   have Pf:=uf pf
   simp only[if_neg hf,if_neg hg,if_neg ng',if_pos kf]
   unfold yE
   rw[List.all_eq_true]
   have pok:∀p∈f.area,p.ok=true:=by
    unfold dm at pf
    simp only[Bool.and_eq_true] at pf
    exact List.all_eq_true.1 pf.1.2
   constructor
   ·intro h d z hd hz
    exact ZY Pf.toSimp rg.1 (fun p hp=>((yG rg og).1 (h p hp)).2) hd hz
   ·intro h p hp
    rw[yG rg og]
    refine⟨pok p hp,?_⟩
    obtain⟨k,hk,rfl⟩:∃k,k<f.area.length/\ah f.area k=p:=by
     obtain⟨k,hk,e⟩:=List.getElem_of_mem hp
     refine⟨k,hk,?_⟩
     have a:=gV hk
     rw[List.getElem?_eq_getElem hk,e] at a
     injection a with a
     exact a.symm
    have h1:=h 1 (ah f.area k) (by omega) (by
     rw[yg,Vw hk (kQ _ _)]
     exact Int.le_refl _)
    unfold JF at h1
    have e:jb (sc 1 (g.x,g.y)) (ah f.area k)=jb (g.x,g.y) (ah f.area k):=by unfold jb sc;dsimp only;grind
    rw[e,Int.one_mul] at h1
    exact h1
  ·have nf:¬ (f.kind=3\/f.kind=6):=by omega
   rw[if_neg nf]
   simp only[if_neg hf,if_neg hg,if_neg ng',if_neg nf]
   unfold uG qw
   rw[if_pos (by rw[AP rf,AP rg,show Pt.ok (f.x,f.y)=true from of,show Pt.ok (g.x,g.y)=true from og];rfl)]
   rw[show ((0:Int)==0&&BO (f.x,f.y) f.dC (g.x,g.y) g.dC)=BO (f.x,f.y) f.dC (g.x,g.y) g.dC by simp]
   unfold BO
   rw[Bool.and_eq_true,decide_eq_true_eq,decide_eq_true_eq,Jh]
   exact⟨fun h d z hd hz=>Dw hd rf.1 h.1 h.2 hz,fun h=>Zq rf.1 rg.1 h⟩
theorem RP {f g:FV}(vf:bf f=true)(vg:bf g=true)(hf:f.kind=4):DN f g=true↔g.kind=4/\(g.x=f.x/\g.y=f.y)/\(iL g.secs f.secs 1).1=true:=by
 unfold DN
 simp only[Bool.and_eq_true,decide_eq_true_eq]
 refine and_congr_right fun hg=>and_congr_right fun _=>?_
 rcases iP vf with⟨_,_,lf,_⟩|⟨a,_⟩|⟨a,_⟩
 ·rcases iP vg with⟨_,_,lg,_⟩|⟨a,_⟩|⟨a,_⟩
  ·have h0:(iL g.secs f.secs 1).2=0:=by rw[qy (by rw[lf,lg];rfl)]
   unfold qQ
   rw[h0]
   simp
  ·omega
  ·omega
 ·omega
 ·omega
theorem GG {f g:FV}:je f g=true↔bf f=true/\bf g=true/\DR f g=true:=by
 unfold je sG
 by_cases h:(bf f&&bf g)=true
 ·rw[if_pos h]
  rw[Bool.and_eq_true] at h
  simp[h.1,h.2]
 ·rw[if_neg h]
  rw[Bool.and_eq_true] at h
  simp
  intro a b
  exact absurd ⟨a,b⟩ h
theorem xu {f g:FV}(hf:f.kind=4):je f g=true↔bf f=true/\bf g=true/\g.kind=4/\(g.x=f.x/\g.y=f.y)/\(iL g.secs f.secs 1).1=true:=by
 rw[GG]
 refine and_congr_right fun vf=>and_congr_right fun vg=>?_
 unfold DR
 rw[if_pos hf]
 exact RP vf vg hf
theorem pF {f g:FV}(hf:f.kind≠4):je f g=true↔bf f=true/\bf g=true/\g.kind≠4/\g.dep<=f.dep/\∀d z,0<d->Yb f d z->Yb g d z:=by
 rw[GG]
 refine and_congr_right fun vf=>and_congr_right fun vg=>?_
 unfold DR
 rw[if_neg hf,Bool.and_eq_true,decide_eq_true_eq]
 by_cases hg:g.kind=4
 ·have:eX g f=false:=by
   unfold eX
   rw[if_pos hg,decide_eq_false hf]
  rw[this]
  simp[hg]
 ·rw[WC vf vg hf hg]
  exact⟨fun h=>⟨hg,h.1,h.2⟩,fun h=>⟨h.2.1,h.2.2⟩⟩
theorem qZ {f:FV}(vf:bf f=true)(hf:f.kind=4):fK f.secs=true:=by
 rcases iP vf with⟨_,_,lf,_⟩|⟨a,_⟩|⟨a,_⟩
 ·exact lf
 ·omega
 ·omega
theorem RN {f g h:FV}(h1:je f g=true)(h2:je g h=true):je f h=true:=by
 by_cases hf:f.kind=4
 ·rw[xu hf] at h1 ⊢
  obtain⟨vf,vg,kg,e,s⟩:=h1
  rw[xu kg] at h2
  obtain⟨_,vh,kh,e',s'⟩:=h2
  exact⟨vf,vh,kh,⟨e'.1.trans e.1,e'.2.trans e.2⟩,KT (qZ vh kh) (qZ vg kg) (qZ vf hf) rfl s' s⟩
 ·rw[pF hf] at h1 ⊢
  obtain⟨vf,vg,kg,e,s⟩:=h1
  rw[pF kg] at h2
  obtain⟨_,vh,kh,e',s'⟩:=h2
  exact⟨vf,vh,kh,Int.le_trans e' e,fun d z hd hz=>s' d z hd (s d z hd hz)⟩
theorem zi {f:FV}(v:bf f=true):je f f=true:=by
 by_cases hf:f.kind=4
 ·rw[xu hf]
  exact⟨v,v,hf,⟨rfl,rfl⟩,by rw[Og (qZ v hf) rfl]⟩
 ·rw[pF hf]
  exact⟨v,v,hf,Int.le_refl _,fun d z _ h=>h⟩
theorem Xt {f:FV}{p:Pt}(v:bf f=true)(hp:p.ok=true):fP f p=true↔Yb f 1 p:=by
 have rf:=(pK v).2.2
 unfold fP Yb
 by_cases h4:f.kind=4
 ·rw[if_pos h4,if_pos h4]
  simp
 ·rw[if_neg h4,if_neg h4]
  rcases iP v with⟨a,_⟩|⟨kf,pf⟩|⟨kf,of,_⟩
  ·exact absurd a h4
  ·rw[if_pos kf,if_pos kf]
   unfold EO I7
   rw[if_pos (by rw[hp,pf];rfl),yg]
   simp
  ·have nf:¬ (f.kind=3\/f.kind=6):=by omega
   rw[if_neg nf,if_neg nf,yG rf of]
   unfold JF
   have e:jb (sc 1 (f.x,f.y)) p=jb (f.x,f.y) p:=by unfold jb sc;dsimp only;grind
   rw[e,Int.one_mul]
   exact⟨fun h=>h.2,fun h=>⟨hp,h⟩⟩
theorem Y0 {f g:FV}{p:Pt}(h:je f g=true)(hp:p.ok=true)(hc:fP f p=true):fP g p=true/\g.dep<=f.dep:=by
 have hf:f.kind≠4:=fun e=>by
  unfold fP at hc
  rw[if_pos e] at hc
  cases hc
 rw[pF hf] at h
 obtain⟨vf,vg,_,e,s⟩:=h
 exact⟨(Xt vg hp).2 (s 1 p (by omega) ((Xt vf hp).1 hc)),e⟩
end Go.Proofs.YtlkgjmnjhifehaaGreat
