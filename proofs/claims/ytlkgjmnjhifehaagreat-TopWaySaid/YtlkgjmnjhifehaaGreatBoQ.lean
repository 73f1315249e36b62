/- A polygon and the rectangle of its box: the laws. A polygon and the rectangle of its box: which places are in them. -/
import Derived.Test.YtlkgjmnjhifehaaGreatToQ
import Derived.Test.YtlkgjmnjhifehaaGreatPov
import Derived.Test.YtlkgjmnjhifehaaGreatPgX
set_option linter.unusedSimpArgs false
set_option linter.unusedVariables false
namespace Go.Proofs.YtlkgjmnjhifehaaGreat
theorem J3 (p:Pt->Pt->Bool)(ps:List Pt):∀k,∃j,j<=k/\selTo p ps k=ah ps j
 | 0=>⟨0,by omega,rfl⟩
 | k+1=>by
  obtain⟨j,hj,e⟩:=J3 p ps k
  unfold selTo
  split
  ·exact⟨k+1,by omega,rfl⟩
  ·exact⟨j,by omega,e⟩
theorem qi {p:Pt->Pt->Bool}{f:Pt->Int}(hp:∀x m,p x m=true->f x<=f m)(hn:∀x m,p x m=false->f m<=f x)(ps:List Pt):∀k j,j<=k->f (selTo p ps k)<=f (ah ps j)
 | 0,j,h=>by
  obtain rfl:j=0:=by omega
  exact Int.le_refl _
 | k+1,j,h=>by
  unfold selTo
  by_cases hj:j=k+1
  ·subst hj
   split
   ·exact Int.le_refl _
   ·rename_i h1
    exact hn _ _ (by simpa using h1)
  ·have ih:=qi hp hn ps k j (by omega)
   split
   ·rename_i h1
    have:=hp _ _ h1
    omega
   ·exact ih
theorem VP:(∀x m,minS x m=true->x.1<=m.1)/\(∀x m,minS x m=false->m.1<=x.1):=by
 constructor
 ·intro x m h
  unfold minS ord at h
  rw[decide_eq_true_eq] at h
  rcases dN (x.1-m.1) with⟨a,e⟩|⟨a,e⟩|⟨a,e⟩<;>simp[e] at h<;>omega
 ·intro x m h
  unfold minS ord at h
  rw[decide_eq_false_iff_not] at h
  rcases dN (x.1-m.1) with⟨a,e⟩|⟨a,e⟩|⟨a,e⟩<;>simp[e] at h<;>omega
theorem VW:(∀x m,maxS x m=true->-x.1<=-m.1)/\(∀x m,maxS x m=false->-m.1<=-x.1):=by
 constructor
 ·intro x m h
  unfold maxS ord at h
  rw[decide_eq_true_eq] at h
  rcases dN (x.1-m.1) with⟨a,e⟩|⟨a,e⟩|⟨a,e⟩<;>simp[e] at h<;>omega
 ·intro x m h
  unfold maxS ord at h
  rw[decide_eq_false_iff_not] at h
  rcases dN (x.1-m.1) with⟨a,e⟩|⟨a,e⟩|⟨a,e⟩<;>simp[e] at h<;>omega
theorem VO:(∀x m,rJ x m=true->x.2<=m.2)/\(∀x m,rJ x m=false->m.2<=x.2):=by
 constructor
 ·intro x m h
  unfold rJ NS at h
  rw[decide_eq_true_eq,vN] at h
  omega
 ·intro x m h
  unfold rJ NS at h
  rw[decide_eq_false_iff_not,vN] at h
  omega
theorem VV:(∀x m,rM x m=true->-x.2<=-m.2)/\(∀x m,rM x m=false->-m.2<=-x.2):=by
 constructor
 ·intro x m h
  unfold rM NS at h
  rw[decide_eq_true_eq,Aw] at h
  omega
 ·intro x m h
  unfold rM NS at h
  rw[decide_eq_false_iff_not,Aw] at h
  omega
def inB (b:B4)(q:Pt):Prop:=(b.1.1<=q.1/\q.1<=b.1.2)/\(b.2.1<=q.2/\q.2<=b.2.2)
theorem uN {ps:List Pt}(h:0<ps.length)(i:Nat):inB (qE ps) (ah ps i):=by
 have hm:i%ps.length<=ps.length-1:=by have:=Nat.mod_lt i h;omega
 have e:ah ps i=ah ps (i%ps.length):=by unfold ah;rw[Nat.mod_mod]
 rw[e]
 have a:=qi (f:=fun p=>p.1) VP.1 VP.2 ps _ _ hm
 have b:=qi (f:=fun p=>-p.1) VW.1 VW.2 ps _ _ hm
 have c:=qi (f:=fun p=>p.2) VO.1 VO.2 ps _ _ hm
 have d:=qi (f:=fun p=>-p.2) VV.1 VV.2 ps _ _ hm
 unfold inB qE
 dsimp only at *
 omega
theorem acM {ps:List Pt}(h:0<ps.length):(∃j,j<ps.length/\(qE ps).1.1=(ah ps j).1)/\(∃j,j<ps.length/\(qE ps).1.2=(ah ps j).1)/\(∃j,j<ps.length/\(qE ps).2.1=(ah ps j).2)/\(∃j,j<ps.length/\(qE ps).2.2=(ah ps j).2):=by
 have g:=fun p=>J3 p ps (ps.length-1)
 obtain⟨j1,h1,e1⟩:=g minS
 obtain⟨j2,h2,e2⟩:=g maxS
 obtain⟨j3,h3,e3⟩:=g rJ
 obtain⟨j4,h4,e4⟩:=g rM
 unfold qE
 dsimp only
 exact⟨⟨j1,by omega,by rw[e1]⟩,⟨j2,by omega,by rw[e2]⟩,⟨j3,by omega,by rw[e3]⟩,⟨j4,by omega,by rw[e4]⟩⟩
theorem EY {ps:List Pt}(h:dm ps=true):(qE ps).1.1<(qE ps).1.2/\(qE ps).2.1<(qE ps).2.2:=by
 have hp:=jH h
 have hv:=PI h (i:=0) (by omega)
 unfold mQ tn at hv
 simp only[Nat.lt_irrefl,decide_false,Bool.false_and,Bool.false_or,Bool.not_eq_true',beq_eq_false_iff_ne,ne_eq,CX] at hv
 have a:=uN (ps:=ps) (by omega) (0+ps.length-1)
 have b:=uN (ps:=ps) (by omega) 0
 have c:=uN (ps:=ps) (by omega) (0+1)
 unfold inB at a b c
 constructor
 ·rcases Int.lt_or_le (qE ps).1.1 (qE ps).1.2 with h1|h1
  ·exact h1
  ·refine absurd ?_ hv
   have x1:(ah ps 0).1=(ah ps (0+ps.length-1)).1:=by omega
   have x2:(ah ps (0+1)).1=(ah ps (0+ps.length-1)).1:=by omega
   unfold cr
   rw[x1,x2]
   grind
 ·rcases Int.lt_or_le (qE ps).2.1 (qE ps).2.2 with h1|h1
  ·exact h1
  ·refine absurd ?_ hv
   have x1:(ah ps 0).2=(ah ps (0+ps.length-1)).2:=by omega
   have x2:(ah ps (0+1)).2=(ah ps (0+ps.length-1)).2:=by omega
   unfold cr
   rw[x1,x2]
   grind
theorem ZQ {ps:List Pt}(h:dm ps=true):okB (qE ps)=true:=by
 have hp:=jH h
 have hw:=EY h
 obtain⟨⟨i1,l1,e1⟩,⟨i2,l2,e2⟩,⟨i3,l3,e3⟩,⟨i4,l4,e4⟩⟩:=acM (ps:=ps) (by omega)
 have o1:=lL (eH hp.2 i1)
 have o2:=lL (eH hp.2 i2)
 have o3:=lL (eH hp.2 i3)
 have o4:=lL (eH hp.2 i4)
 unfold okB
 rw[decide_eq_true_eq]
 omega
theorem NC {ps:List Pt}(h:dm ps=true):kP (qE ps)=(dh (qE ps),0):=by
 have hw:=EY h
 unfold kP
 rw[if_pos (ZQ h),if_neg (by omega)]
theorem Ea {a b:Pt}(h:a.1<b.1\/(a.1=b.1/\a.2<b.2)):¬ 0<=ord a b:=by
 unfold ord
 rcases dN (a.1-b.1) with⟨h1,e⟩|⟨h1,e⟩|⟨h1,e⟩<;>rcases dN (a.2-b.2) with⟨k,f⟩|⟨k,f⟩|⟨k,f⟩<;>simp[e,f]<;>omega
section
variable {b:B4} (hx:b.1.1<b.1.2) (hy:b.2.1<b.2.2)
theorem YJ (b:B4):ah (dh b) 0=(b.1.1,b.2.1):=rfl
theorem Ue (b:B4):ah (dh b) 1=(b.1.2,b.2.1):=rfl
theorem Rk (b:B4):ah (dh b) 2=(b.1.2,b.2.2):=rfl
theorem Rj (b:B4):ah (dh b) 3=(b.1.1,b.2.2):=rfl
theorem rc4 (b:B4):ah (dh b) 4=(b.1.1,b.2.1):=by simp[ah,dh]
theorem rc5 (b:B4):ah (dh b) 5=(b.1.2,b.2.1):=by simp[ah,dh]
theorem rc6 (b:B4):ah (dh b) 6=(b.1.2,b.2.2):=by simp[ah,dh]
theorem Nz {P:Nat->Prop}(h0:P 0)(h1:P 1)(h2:P 2)(h3:P 3):∀i,i<(dh b).length->P i:=by
 intro i hi
 have:i<4:=hi
 match i,this with
 | 0,_=>exact h0
 | 1,_=>exact h1
 | 2,_=>exact h2
 | 3,_=>exact h3
include hx hy in
theorem Gp:∀i,i<(dh b).length->0<cr (ah (dh b) (i+(dh b).length-1)) (ah (dh b) i) (ah (dh b) (i+1)):=by
 have hp:=Int.mul_pos (show 0<b.1.2-b.1.1 by omega) (show 0<b.2.2-b.2.1 by omega)
 rw[show (dh b).length=4 from rfl]
 intro i hi
 have h4:i<4:=hi
 match i,h4 with
 | 0,_ =>
  show 0<cr (ah (dh b) 3) (ah (dh b) 0) (ah (dh b) 1)
  rw[Rj,YJ,Ue]
  unfold cr;dsimp only;grind
 | 1,_ =>
  show 0<cr (ah (dh b) 4) (ah (dh b) 1) (ah (dh b) 2)
  rw[rc4,Ue,Rk]
  unfold cr;dsimp only;grind
 | 2,_ =>
  show 0<cr (ah (dh b) 5) (ah (dh b) 2) (ah (dh b) 3)
  rw[rc5,Rk,Rj]
  unfold cr;dsimp only;grind
 | 3,_ =>
  show 0<cr (ah (dh b) 6) (ah (dh b) 3) (ah (dh b) 4)
  rw[rc6,Rj,rc4]
  unfold cr;dsimp only;grind
theorem Xp (b:B4)(q:Pt):cr (b.1.1,b.2.1) (b.1.2,b.2.1) q=(b.1.2-b.1.1)*(q.2-b.2.1):=by unfold cr;dsimp only;grind
theorem LJ (b:B4)(q:Pt):cr (b.1.2,b.2.1) (b.1.2,b.2.2) q=(b.2.2-b.2.1)*(b.1.2-q.1):=by unfold cr;dsimp only;grind
theorem abd (b:B4)(q:Pt):cr (b.1.2,b.2.2) (b.1.1,b.2.2) q=(b.1.2-b.1.1)*(b.2.2-q.2):=by unfold cr;dsimp only;grind
theorem abb (b:B4)(q:Pt):cr (b.1.1,b.2.2) (b.1.1,b.2.1) q=(b.2.2-b.2.1)*(q.1-b.1.1):=by unfold cr;dsimp only;grind
include hx hy in
theorem Gq {q:Pt}(hq:inB b q):∀i,i<(dh b).length->0<=cr (ah (dh b) i) (ah (dh b) (i+1)) q:=by
 unfold inB at hq
 refine Nz ?_ ?_ ?_ ?_
 ·rw[YJ,Ue,Xp]
  exact Int.mul_nonneg (by omega) (by omega)
 ·rw[Ue,Rk,LJ]
  exact Int.mul_nonneg (by omega) (by omega)
 ·rw[Rk,Rj,abd]
  exact Int.mul_nonneg (by omega) (by omega)
 ·rw[Rj,rc4,abb]
  exact Int.mul_nonneg (by omega) (by omega)
theorem acI (a b c:Pt):cr b c a=cr a b c:=by unfold cr;grind
include hx hy in
theorem Nw (hok:okB b=true):dm (dh b)=true:=by
 have ho:=hok
 unfold okB at ho
 rw[decide_eq_true_eq] at ho
 have hall:(dh b).all Pt.ok=true:=by
  unfold dh
  simp only[List.all_cons,List.all_nil,Bool.and_true,Bool.and_eq_true,Pt.ok,lh,decide_eq_true_eq]
  omega
 have hp:=Int.mul_pos (show 0<b.1.2-b.1.1 by omega) (show 0<b.2.2-b.2.1 by omega)
 have aed:∀i,i<(dh b).length->mQ (dh b) i=true:=by
  intro i hi
  have ht:=Gp hx hy i hi
  unfold mQ tn
  have hz:(sg (cr (ah (dh b) (i+(dh b).length-1)) (ah (dh b) i) (ah (dh b) (i+1)))==0)=false:=by
   rw[beq_eq_false_iff_ne,ne_eq,CX]
   omega
  rw[hz,Bool.or_false]
  clear hz ht
  have h4:i<4:=hi
  match i,h4 with
  | 0,_=>rfl
  | 1,_=>rw[YJ,Ue,decide_eq_false (Ea (.inl hx)),Bool.and_false];rfl
  | 2,_=>rw[YJ,Rk,decide_eq_false (Ea (.inl hx)),Bool.and_false];rfl
  | 3,_=>rw[YJ,Rj,decide_eq_false (Ea (a:=(b.1.1,b.2.1)) (b:=(b.1.1,b.2.2)) (.inr ⟨rfl,hy⟩)),Bool.and_false];rfl
 have Y9:jh (dh b)=true:=by
  have m1:bC (b.1.1,b.2.1) (b.1.2,b.2.1) (b.1.2,b.2.2) (b.1.1,b.2.2)=false:=by
   have q1:=Xp b (b.1.2,b.2.2)
   have q2:=Xp b (b.1.1,b.2.2)
   dsimp only at q1 q2
   have no:∀p1 p2 a1 y c1:Int,p2≠y->eG (p1,p2) (a1,y) (c1,y)=false:=fun p1 p2 a1 y c1 h=>by
    cases ho:eG (p1,p2) (a1,y) (c1,y)
    ·rfl
    ·have:=(dB.1 ho).2
     dsimp only at this
     omega
   unfold bC
   rw[no _ _ _ _ _ (by omega),no _ _ _ _ _ (by omega),no _ _ _ _ _ (by omega),no _ _ _ _ _ (by omega)]
   cases hc:lG (b.1.1,b.2.1) (b.1.2,b.2.1) (b.1.2,b.2.2) (b.1.1,b.2.2)
   ·rfl
   ·have:=(ed.1 hc).1
    rw[q1,q2] at this
    omega
  have m2:bC (b.1.2,b.2.1) (b.1.2,b.2.2) (b.1.1,b.2.2) (b.1.1,b.2.1)=false:=by
   have q1:=LJ b (b.1.1,b.2.2)
   have q2:=LJ b (b.1.1,b.2.1)
   dsimp only at q1 q2
   have no:∀p1 p2 a1 y c1:Int,p1≠y->eG (p1,p2) (y,a1) (y,c1)=false:=fun p1 p2 a1 y c1 h=>by
    cases ho:eG (p1,p2) (y,a1) (y,c1)
    ·rfl
    ·have:=(dB.1 ho).2
     dsimp only at this
     omega
   unfold bC
   rw[no _ _ _ _ _ (by omega),no _ _ _ _ _ (by omega),no _ _ _ _ _ (by omega),no _ _ _ _ _ (by omega)]
   cases hc:lG (b.1.2,b.2.1) (b.1.2,b.2.2) (b.1.1,b.2.2) (b.1.1,b.2.1)
   ·rfl
   ·have:=(ed.1 hc).1
    rw[q1,q2] at this
    omega
  unfold jh
  rw[List.all_eq_true]
  intro i hi
  rw[List.mem_range] at hi
  unfold rowOk
  rw[List.all_eq_true]
  intro k hk
  rw[List.mem_range] at hk
  have i4:i<4:=hi
  have k4:k<4:=hk
  unfold nM
  by_cases h1:k<=i+1
  ·rw[decide_eq_true h1];rfl
  ·by_cases h2:i=0/\k=2
   ·obtain⟨rfl,rfl⟩:=h2
    show (_||(_ || !bC (ah (dh b) 0) (ah (dh b) 1) (ah (dh b) 2) (ah (dh b) 3)))=true
    rw[YJ,Ue,Rk,Rj,m1]
    simp
   ·by_cases h3:i=1/\k=3
    ·obtain⟨rfl,rfl⟩:=h3
     show (_||(_ || !bC (ah (dh b) 1) (ah (dh b) 2) (ah (dh b) 3) (ah (dh b) 4)))=true
     rw[Ue,Rk,Rj,rc4,m2]
     simp
    ·have:i=0/\k+1=(dh b).length:=by
      show i=0/\k+1=4
      omega
     rw[decide_eq_true this]
     simp
 have htw:0<dW (dh b):=by
  have:dW (dh b)=2*((b.1.2-b.1.1)*(b.2.2-b.2.1)):=by
   show xI (dh b) [0,1,2,3]=_
   unfold xI FQ
   simp only[List.map_cons,List.map_nil,List.sum_cons,List.sum_nil,Nat.zero_add,Nat.reduceAdd,YJ,Ue,Rk,Rj,rc4]
   grind
  omega
 unfold dm
 rw[hall,Y9,decide_eq_true htw]
 have:(List.range (dh b).length).all (mQ (dh b))=true:=by
  rw[List.all_eq_true]
  exact fun i hi=>aed i (List.mem_range.1 hi)
 rw[this]
 rfl
end
theorem Az {x:Int}:0<=sg x↔0<=x:=by rcases dN x with⟨h,e⟩|⟨h,e⟩|⟨h,e⟩<;>rw[e]<;>omega
section
variable {ps:List Pt} (hn:0<ps.length) (ht:∀i,i<ps.length->0<cr (ah ps (i+ps.length-1)) (ah ps i) (ah ps (i+1)))
include ht in
theorem yu {i:Nat}(hi:i<ps.length){to:Pt}(hl:∀i,i<ps.length->0<=cr (ah ps i) (ah ps (i+1)) to):iY ps i to=true:=by
 unfold iY
 have h0:0<tn (ah ps (i+ps.length-1)) (ah ps i) (ah ps (i+1)):=Aw.2 (ht i hi)
 rw[if_pos h0]
 have h1:0<=tn (ah ps i) (ah ps (i+1)) to:=Az.2 (hl i hi)
 have h2:0<=tn (ah ps i) to (ah ps (i+ps.length-1)):=by
  refine Az.2 ?_
  rw[acI]
  have hj:(i+ps.length-1)%ps.length<ps.length:=Nat.mod_lt _ (by omega)
  have:=hl _ hj
  have e1:ah ps ((i+ps.length-1)%ps.length)=ah ps (i+ps.length-1):=by unfold ah;rw[Nat.mod_mod]
  have e2:ah ps ((i+ps.length-1)%ps.length+1)=ah ps i:=by
   unfold ah
   rw[Nat.mod_add_mod,show i+ps.length-1+1=i+ps.length by omega,Nat.add_mod_right]
  rw[e1,e2] at this
  exact this
 rw[decide_eq_true h1,decide_eq_true h2]
 rfl
include ht in
theorem Et {a to:Pt}(hl:∀i,i<ps.length->0<=cr (ah ps i) (ah ps (i+1)) to):leadsOf ps a to=true:=by
 unfold leadsOf
 split
 ·rename_i i h
  exact yu ht (List.mem_range.1 (List.mem_of_find?_eq_some h)) hl
 ·split
  ·rename_i i h
   unfold jZ
   rw[decide_eq_true_eq]
   exact Az.2 (hl i (List.mem_range.1 (List.mem_of_find?_eq_some h)))
  ·rfl
include ht in
theorem WX {a b:Pt}(ha:∀i,i<ps.length->0<=cr (ah ps i) (ah ps (i+1)) a)(hb:∀i,i<ps.length->0<=cr (ah ps i) (ah ps (i+1)) b)(pa:0<=placeOf ps a)(pb:0<=placeOf ps b):wo ps a b=true:=by
 unfold wo uC
 rw[decide_eq_true pa,decide_eq_true pb,Et ht hb,Et ht ha]
 simp only[Bool.true_and]
 rw[List.all_eq_true]
 intro i hi
 rw[List.mem_range] at hi
 unfold iZ
 rw[yu ht hi ha,yu ht hi hb]
 have hc:lG a b (ah ps i) (ah ps (i+1))=false:=by
  cases h:lG a b (ah ps i) (ah ps (i+1))
  ·rfl
  ·have h2:=(ed.1 h).2
   have h3:=ha i hi
   have h4:=hb i hi
   omega
 rw[hc]
 simp
end
section
variable {b:B4} (hx:b.1.1<b.1.2) (hy:b.2.1<b.2.2)
include hx hy in
theorem yj (q:Pt):0<=placeOf (dh b) q↔inB b q:=by
 have c1:bu q (b.1.1,b.2.1) (b.1.2,b.2.1)=false:=by
  rw[dL (show ((b.1.1,b.2.1):Pt).2<=((b.1.2,b.2.1):Pt).2 from Int.le_refl _),Bool.and_eq_false_iff]
  exact .inl (decide_eq_false (by dsimp only;omega))
 have c2:bu q (b.1.2,b.2.1) (b.1.2,b.2.2)=(decide (b.2.1<=q.2/\q.2<b.2.2)&&decide (q.1<b.1.2)):=by
  rw[dL (Int.le_of_lt hy),LJ,Bool.eq_iff_iff]
  simp only[Bool.and_eq_true,decide_eq_true_eq]
  constructor
  ·rintro⟨h1,h2⟩
   refine⟨h1,?_⟩
   rw[Int.mul_comm] at h2
   have:=uh h2 (show 0<b.2.2-b.2.1 by omega)
   omega
  ·rintro⟨h1,h2⟩
   exact⟨h1,Int.mul_pos (by omega) (by omega)⟩
 have c3:bu q (b.1.2,b.2.2) (b.1.1,b.2.2)=false:=by
  rw[dL (show ((b.1.2,b.2.2):Pt).2<=((b.1.1,b.2.2):Pt).2 from Int.le_refl _),Bool.and_eq_false_iff]
  exact .inl (decide_eq_false (by dsimp only;omega))
 have c4:bu q (b.1.1,b.2.2) (b.1.1,b.2.1)=(decide (b.2.1<=q.2/\q.2<b.2.2)&&decide (q.1<b.1.1)):=by
  rw[fU,dL (Int.le_of_lt hy),nZ,abb,Bool.eq_iff_iff]
  simp only[Bool.and_eq_true,decide_eq_true_eq]
  constructor
  ·rintro⟨h1,h2⟩
   refine⟨h1,?_⟩
   have:=oQ (x:=q.1-b.1.1) (y:=b.2.2-b.2.1) (by rw[Int.mul_comm];omega) (by omega)
   omega
  ·rintro⟨h1,h2⟩
   refine⟨h1,?_⟩
   have:=Int.mul_pos (show 0<b.2.2-b.2.1 by omega) (show 0 < -(q.1-b.1.1) by omega)
   rw[Int.mul_neg] at this
   omega
 have Jb:par (dh b) q (List.range (dh b).length)=(decide (b.2.1<=q.2/\q.2<b.2.2)&&decide (b.1.1<=q.1/\q.1<b.1.2)):=by
  show ((((false ^^ bu q (ah (dh b) 0) (ah (dh b) 1)) ^^ bu q (ah (dh b) 1) (ah (dh b) 2)) ^^ bu q (ah (dh b) 2) (ah (dh b) 3)) ^^ bu q (ah (dh b) 3) (ah (dh b) 4))=_
  rw[YJ,Ue,Rk,Rj,rc4,c1,c2,c3,c4]
  by_cases h1:q.1<b.1.1
  ·rw[decide_eq_true h1,decide_eq_true (show q.1<b.1.2 by omega),decide_eq_false (show ¬ (b.1.1<=q.1/\q.1<b.1.2) by omega)]
   cases decide (b.2.1<=q.2/\q.2<b.2.2)<;>rfl
  ·by_cases h2:q.1<b.1.2
   ·rw[decide_eq_false h1,decide_eq_true h2,decide_eq_true (show (b.1.1<=q.1/\q.1<b.1.2) by omega)]
    cases decide (b.2.1<=q.2/\q.2<b.2.2)<;>rfl
   ·rw[decide_eq_false h1,decide_eq_false h2,decide_eq_false (show ¬ (b.1.1<=q.1/\q.1<b.1.2) by omega)]
    cases decide (b.2.1<=q.2/\q.2<b.2.2)<;>rfl
 have hon:fM (dh b) q=true->inB b q:=by
  intro h
  unfold fM at h
  rw[List.any_eq_true] at h
  obtain⟨i,hi,ho⟩:=h
  have h4:i<4:=List.mem_range.1 hi
  have ho2:=(dB.1 ho).2
  unfold inB
  match i,h4 with
  | 0,_=>rw[YJ,Ue] at ho2;dsimp only at ho2;omega
  | 1,_=>rw[Ue,Rk] at ho2;dsimp only at ho2;omega
  | 2,_=>rw[Rk,Rj] at ho2;dsimp only at ho2;omega
  | 3,_=>rw[Rj,rc4] at ho2;dsimp only at ho2;omega
 constructor
 ·intro h
  rcases jl (dh b) q with⟨e,f⟩|⟨e,g,f⟩|⟨e,g,f⟩
  ·exact hon e
  ·rw[Jb] at g
   simp only[Bool.and_eq_true,decide_eq_true_eq] at g
   unfold inB
   omega
  ·omega
 ·intro h
  rcases jl (dh b) q with⟨e,f⟩|⟨e,g,f⟩|⟨e,g,f⟩
  ·omega
  ·omega
  ·exfalso
   unfold fM at e
   rw[List.any_eq_false] at e
   unfold inB at h
   by_cases h1:q.1=b.1.2
   ·refine e 1 (List.mem_range.2 (show 1<4 by omega)) ?_
    rw[Ue,Rk,dB,LJ]
    refine⟨by rw[h1,Int.sub_self,Int.mul_zero],?_⟩
    dsimp only
    omega
   ·by_cases h2:q.2=b.2.2
    ·refine e 2 (List.mem_range.2 (show 2<4 by omega)) ?_
     rw[Rk,Rj,dB,abd]
     refine⟨by rw[h2,Int.sub_self,Int.mul_zero],?_⟩
     dsimp only
     omega
    ·rw[Jb,decide_eq_true (show b.2.1<=q.2/\q.2<b.2.2 by omega),decide_eq_true (show b.1.1<=q.1/\q.1<b.1.2 by omega)] at g
     cases g
end
theorem Ny {ps:List Pt}(h:dm ps=true):ui (dh (qE ps)) ps=true:=by
 obtain⟨hx,hy⟩:=EY h
 have hn:0<ps.length:=by have:=jH h;omega
 unfold ui
 rw[List.all_eq_true]
 intro i _
 unfold Bi
 exact WX (Gp hx hy) (Gq hx hy (uN hn i)) (Gq hx hy (uN hn (i+1))) ((yj hx hy _).2 (uN hn i)) ((yj hx hy _).2 (uN hn (i+1)))
end Go.Proofs.YtlkgjmnjhifehaaGreat
