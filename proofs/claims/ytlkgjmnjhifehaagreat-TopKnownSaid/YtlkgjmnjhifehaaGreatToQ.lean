/- Where a place is does not change along a segment that meets no edge: the parity of the crossings. Discs: a segment that meets an edge brings its ends near it. Two polygons that touch, in. -/
import Derived.Test.YtlkgjmnjhifehaaGreatPgX
set_option linter.unusedSimpArgs false
set_option linter.unusedVariables false
namespace Go.Proofs.YtlkgjmnjhifehaaGreat
theorem oQ {x y:Int}(h:x*y<0)(hy:0<y):x<0:=by
 rcases Int.lt_or_le x 0 with h1|h1
 ·exact h1
 ·have:=Int.mul_nonneg h1 (Int.le_of_lt hy)
  omega
theorem tN {x y:Int}(h:0<x*y)(hy:0<y):0<x:=by
 rcases Int.lt_or_le 0 x with h1|h1
 ·exact h1
 ·have:=Int.mul_nonneg (show 0<=-x by omega) (Int.le_of_lt hy)
  rw[Int.neg_mul] at this
  omega
theorem wJ {x y:Int}(h:x*y=0)(hy:0<y):x=0:=by
 rcases Int.mul_eq_zero.1 h with h|h
 ·exact h
 ·omega
theorem qM {x y:Int}(hx:x<=0)(hy:0<=y):x*y<=0:=by
 have:=Int.mul_nonneg (show 0<=-x by omega) hy
 rw[Int.neg_mul] at this
 omega
theorem Ad {x:Int}:0<sg x↔0<x:=by rcases dN x with⟨h,e⟩|⟨h,e⟩|⟨h,e⟩<;>rw[e]<;>omega
theorem vF {x:Int}:sg x<0↔x<0:=by rcases dN x with⟨h,e⟩|⟨h,e⟩|⟨h,e⟩<;>rw[e]<;>omega
theorem Hy {x:Int}:sg x=0↔x=0:=by rcases dN x with⟨h,e⟩|⟨h,e⟩|⟨h,e⟩<;>rw[e]<;>omega
theorem UK {x y:Int}:sg x*sg y<0↔(x<0/\0<y)\/(0<x/\y<0):=by
 rcases dN x with⟨h,e⟩|⟨h,e⟩|⟨h,e⟩<;>rcases dN y with⟨k,f⟩|⟨k,f⟩|⟨k,f⟩<;>rw[e,f]<;>omega
theorem nX (a b p:Pt):cr b a p=- cr a b p:=by unfold cr;grind
theorem dw {p a b:Pt}:eF p a b=true↔cr a b p=0/\(min a.1 b.1<=p.1/\p.1<=max a.1 b.1)/\(min a.2 b.2<=p.2/\p.2<=max a.2 b.2):=by
 unfold eF tn
 rw[decide_eq_true_eq,Hy]
theorem jG (p a b:Pt):eF p b a=eF p a b:=by
 rw[Bool.eq_iff_iff,dw,dw,nX,Int.min_comm,Int.max_comm,Int.min_comm b.2,Int.max_comm b.2]
 omega
theorem eY {a b c d:Pt}:lM a b c d=true↔((cr a b c<0/\0<cr a b d)\/(0<cr a b c/\cr a b d<0))/\((cr c d a<0/\0<cr c d b)\/(0<cr c d a/\cr c d b<0)):=by
 unfold lM tn
 rw[Bool.and_eq_true,decide_eq_true_eq,decide_eq_true_eq,UK,UK]
theorem Oj (a b c d:Pt):lM b a c d=lM a b c d:=by
 rw[Bool.eq_iff_iff,eY,eY,nX a b c,nX a b d]
 omega
theorem Oi (a b c d:Pt):lM a b d c=lM a b c d:=by
 rw[Bool.eq_iff_iff,eY,eY,nX c d a,nX c d b]
 omega
theorem SH (a b c d:Pt):lM c d a b=lM a b c d:=by unfold lM;rw[Bool.and_comm]
theorem qQ (a b c d:Pt):bI b a c d=bI a b c d:=by
 unfold bI
 rw[Oj,jG c a b,jG d a b]
 cases lM a b c d<;>cases eF a c d<;>cases eF b c d<;>rfl
theorem qP (a b c d:Pt):bI a b d c=bI a b c d:=by
 unfold bI
 rw[Oi,jG a c d,jG b c d]
 cases lM a b c d<;>cases eF a c d<;>cases eF b c d<;>cases eF c a b<;>cases eF d a b<;>rfl
theorem jP (a b c d:Pt):bI c d a b=bI a b c d:=by
 unfold bI
 rw[SH]
 cases lM a b c d<;>cases eF a c d<;>cases eF b c d<;>cases eF c a b<;>cases eF d a b<;>rfl
theorem qj {a b u v:Pt}(h:bI a b u v=false):lM a b u v=false/\eF a u v=false/\eF b u v=false/\eF u a b=false/\eF v a b=false:=by
 unfold bI at h
 simpa using h
theorem iL (q a b:Pt):bT q b a=bT q a b:=by
 unfold bT
 rcases Int.lt_trichotomy a.2 b.2 with h|h|h
 ·rw[if_pos h,if_neg (by omega)]
 ·rw[if_neg (by omega),if_neg (by omega),h]
  have:∀x y:Bool,(decide (b.2<=q.2/\q.2<b.2)&&x)=(decide (b.2<=q.2/\q.2<b.2)&&y):=by
   intro x y
   rw[show decide (b.2<=q.2/\q.2<b.2)=false by simp]
   rfl
  exact this _ _
 ·rw[if_neg (by omega),if_pos h]
theorem dI {q u v:Pt}(h:u.2<=v.2):bT q u v=(decide (u.2<=q.2/\q.2<v.2)&&decide (0<cr u v q)):=by
 unfold bT
 rw[if_neg (by omega)]
 congr 1
 rw[decide_eq_decide]
 exact Ad
theorem idU (a b u v:Pt):cr a b u*(v.2-u.2)=-cr u v a*(b.2-u.2)+cr u v b*(a.2-u.2):=by unfold cr;grind
theorem idV (a b u v:Pt):cr a b v*(v.2-u.2)=cr u v a*(v.2-b.2)-cr u v b*(v.2-a.2):=by unfold cr;grind
theorem xw {p u v:Pt}(h:cr u v p=0)(h1:u.2<=p.2)(h2:p.2<=v.2)(h3:u.2<v.2):eF p u v=true:=by
 rw[dw]
 refine⟨h,?_,by omega⟩
 have e:(p.1-u.1)*(v.2-u.2)=(v.1-u.1)*(p.2-u.2):=by unfold cr at h;grind
 have e2:(v.1-p.1)*(v.2-u.2)=(v.1-u.1)*(v.2-p.2):=by unfold cr at h;grind
 rcases Int.le_total u.1 v.1 with h4|h4
 ·have a1:=Int.mul_nonneg (show 0<=v.1-u.1 by omega) (show 0<=p.2-u.2 by omega)
  have a2:=Int.mul_nonneg (show 0<=v.1-u.1 by omega) (show 0<=v.2-p.2 by omega)
  rw[<-e] at a1
  rw[<-e2] at a2
  have b1:¬ p.1-u.1<0:=fun hn=>by
   have:=Int.mul_pos (show 0 < -(p.1-u.1) by omega) (show 0<v.2-u.2 by omega)
   rw[Int.neg_mul] at this
   omega
  have b2:¬ v.1-p.1<0:=fun hn=>by
   have:=Int.mul_pos (show 0 < -(v.1-p.1) by omega) (show 0<v.2-u.2 by omega)
   rw[Int.neg_mul] at this
   omega
  omega
 ·have a1:=qM (show v.1-u.1<=0 by omega) (show 0<=p.2-u.2 by omega)
  have a2:=qM (show v.1-u.1<=0 by omega) (show 0<=v.2-p.2 by omega)
  rw[<-e] at a1
  rw[<-e2] at a2
  have b1:¬ 0<p.1-u.1:=fun hn=>by
   have:=Int.mul_pos hn (show 0<v.2-u.2 by omega)
   omega
  have b2:¬ 0<v.1-p.1:=fun hn=>by
   have:=Int.mul_pos hn (show 0<v.2-u.2 by omega)
   omega
  omega
def jF (a b w:Pt):Bool:=decide (a.2<w.2/\w.2<=b.2)&&decide (cr a b w<0)
theorem adD {A B U V u a v b:Int}(iU:U*(v-u)=-A*(b-u)+B*(a-u))(iV:V*(v-u)=A*(v-b)-B*(v-a))(h1:u<=a)(h2:a<v)(h3:v<=b)(hA:0<A)(hV:0<V):B<0/\U<0:=by
 have e1:=Int.mul_pos hV (show 0<v-u by omega)
 have e2:=Int.mul_nonneg (Int.le_of_lt hA) (show 0<=b-v by omega)
 have e3:A*(v-b)=-(A*(b-v)):=by grind
 have hB:B<0:=oQ (y:=v-a) (by omega) (by omega)
 have e4:=Int.mul_pos hA (show 0<b-u by omega)
 have e5:=qM (Int.le_of_lt hB) (show 0<=a-u by omega)
 rw[Int.neg_mul] at iU
 exact⟨hB,oQ (y:=v-u) (by omega) (by omega)⟩
theorem adC {A B U V u a v b:Int}(iU:U*(v-u)=-A*(b-u)+B*(a-u))(iV:V*(v-u)=A*(v-b)-B*(v-a))(h1:u<=a)(h2:a<=b)(h3:b<v)(hA:0<A)(hB:B<0):0<V/\(U<0\/(b=u/\a=u)):=by
 have e1:=Int.mul_pos hA (show 0<v-b by omega)
 have e2:=qM (Int.le_of_lt hB) (show 0<=v-a by omega)
 have hV:0<V:=tN (y:=v-u) (by omega) (by omega)
 refine⟨hV,?_⟩
 by_cases hbu:b=u
 ·exact .inr ⟨hbu,by omega⟩
 ·have e4:=Int.mul_pos hA (show 0<b-u by omega)
  have e5:=qM (Int.le_of_lt hB) (show 0<=a-u by omega)
  rw[Int.neg_mul] at iU
  exact .inl (oQ (y:=v-u) (by omega) (by omega))
theorem adB {A B U V u a v b:Int}(iU:U*(v-u)=-A*(b-u)+B*(a-u))(iV:V*(v-u)=A*(v-b)-B*(v-a))(h1:a<u)(h2:u<=b)(h3:b<v)(hB:0<B)(hU:0<U):A<0/\V<0:=by
 have e1:=Int.mul_pos hU (show 0<v-u by omega)
 have e2:=Int.mul_pos hB (show 0<u-a by omega)
 have e3:B*(a-u)=-(B*(u-a)):=by grind
 rw[Int.neg_mul] at iU
 have hbu:¬ b=u:=fun e=>by rw[e,Int.sub_self,Int.mul_zero] at iU;omega
 have hA:A<0:=oQ (y:=b-u) (by omega) (by omega)
 have e4:=qM (Int.le_of_lt hA) (show 0<=v-b by omega)
 have e5:=Int.mul_pos hB (show 0<v-a by omega)
 exact⟨hA,oQ (y:=v-u) (by omega) (by omega)⟩
theorem Iq {A B U x y z:Int}(h:U*x=-A*y+B*z):-U*x=- -A*y+-B*z:=by grind
theorem CZ {A B V x y z:Int}(h:V*x=A*y-B*z):-V*x=-A*y - -B*z:=by grind
theorem Ey {a b u v:Pt}(hab:a.2<=b.2)(huv:u.2<=v.2)(hm:bI a b u v=false):(bT a u v ^^ bT b u v)=(jF a b u ^^ jF a b v):=by
 obtain⟨hc,ha,hb,hu,hv⟩:=qj hm
 have hc':¬ (((cr a b u<0/\0<cr a b v)\/(0<cr a b u/\cr a b v<0))/\((cr u v a<0/\0<cr u v b)\/(0<cr u v a/\cr u v b<0))):=fun h=>by
  rw[eY.2 h] at hc
  cases hc
 have iU:=idU a b u v
 have iV:=idV a b u v
 have iA:=idU u v a b
 have iB:=idV u v a b
 rw[dI huv,dI huv]
 unfold jF
 have oa:u.2<=a.2->a.2<=v.2->u.2<v.2->cr u v a≠0:=fun h1 h2 h3 e=>by rw[xw e h1 h2 h3] at ha;cases ha
 have ob:u.2<=b.2->b.2<=v.2->u.2<v.2->cr u v b≠0:=fun h1 h2 h3 e=>by rw[xw e h1 h2 h3] at hb;cases hb
 have ou:a.2<=u.2->u.2<=b.2->a.2<b.2->cr a b u≠0:=fun h1 h2 h3 e=>by rw[xw e h1 h2 h3] at hu;cases hu
 have ov:a.2<=v.2->v.2<=b.2->a.2<b.2->cr a b v≠0:=fun h1 h2 h3 e=>by rw[xw e h1 h2 h3] at hv;cases hv
 have hcases:(v.2<=a.2)\/(b.2<u.2)\/(u.2<=a.2/\a.2<v.2/\v.2<=b.2)\/(u.2<=a.2/\b.2<v.2)\/(a.2<u.2/\v.2<=b.2)\/(a.2<u.2/\u.2<=b.2/\b.2<v.2):=by omega
 obtain⟨A,hA⟩:∃x,cr u v a=x:=⟨_,rfl⟩
 obtain⟨B,hB⟩:∃x,cr u v b=x:=⟨_,rfl⟩
 obtain⟨U,hU⟩:∃x,cr a b u=x:=⟨_,rfl⟩
 obtain⟨V,hV⟩:∃x,cr a b v=x:=⟨_,rfl⟩
 rcases hcases with h|h|⟨h1,h2,h3⟩|⟨h1,h2⟩|⟨h1,h2⟩|⟨h1,h2,h3⟩
 ·rw[show decide (u.2<=a.2/\a.2<v.2)=false by simp;omega,show decide (u.2<=b.2/\b.2<v.2)=false by simp;omega,show decide (a.2<u.2/\u.2<=b.2)=false by simp;omega,show decide (a.2<v.2/\v.2<=b.2)=false by simp;omega]
  rfl
 ·rw[show decide (u.2<=a.2/\a.2<v.2)=false by simp;omega,show decide (u.2<=b.2/\b.2<v.2)=false by simp;omega,show decide (a.2<u.2/\u.2<=b.2)=false by simp;omega,show decide (a.2<v.2/\v.2<=b.2)=false by simp;omega]
  rfl
 ·rw[show decide (u.2<=a.2/\a.2<v.2)=true by simp;omega,show decide (u.2<=b.2/\b.2<v.2)=false by simp;omega,show decide (a.2<u.2/\u.2<=b.2)=false by simp;omega,show decide (a.2<v.2/\v.2<=b.2)=true by simp;omega]
  have a0:=oa h1 (by omega) (by omega)
  have v0:=ov (by omega) h3 (by omega)
  rw[hA] at a0
  rw[hV] at v0
  rw[hA,hB,hU,hV] at hc'
  rw[hA,hV]
  rw[hU,hA,hB] at iU
  rw[hV,hA,hB] at iV
  have key:(0<A↔V<0):=by
   constructor
   ·intro h
    rcases Int.lt_trichotomy V 0 with h9|h9|h9
    ·exact h9
    ·exact absurd h9 v0
    ·obtain⟨x,y⟩:=adD iU iV h1 h2 h3 h h9
     exact absurd ⟨.inl ⟨y,h9⟩,.inr ⟨h,x⟩⟩ hc'
   ·intro h
    rcases Int.lt_trichotomy 0 A with h9|h9|h9
    ·exact h9
    ·exact absurd h9.symm a0
    ·obtain⟨x,y⟩:=adD (Iq iU) (CZ iV) h1 h2 h3 (show 0 < -A by omega) (show 0 < -V by omega)
     exact absurd ⟨.inr ⟨by omega,h⟩,.inl ⟨h9,by omega⟩⟩ hc'
  simp[key]
 ·rw[show decide (u.2<=a.2/\a.2<v.2)=true by simp;omega,show decide (u.2<=b.2/\b.2<v.2)=true by simp;omega,show decide (a.2<u.2/\u.2<=b.2)=false by simp;omega,show decide (a.2<v.2/\v.2<=b.2)=false by simp;omega]
  have a0:=oa h1 (by omega) (by omega)
  have b0:=ob (by omega) (by omega) (by omega)
  have qw:u.2=a.2->b.2=a.2->(0<cr u v a/\cr u v b<0)\/(cr u v a<0/\0<cr u v b)->False:=by
   intro e1 e2 e3
   have x1:cr u v a=(v.2-u.2)*(u.1-a.1):=by unfold cr;rw[e1];grind
   have x2:cr u v b=(v.2-u.2)*(u.1-b.1):=by unfold cr;rw[e2,e1];grind
   have y0:cr a b u=0:=by unfold cr;rw[e1,e2];grind
   have hp:0<v.2-u.2:=by omega
   have hon:eF u a b=true:=by
    rw[dw]
    refine⟨y0,?_,by omega⟩
    rw[x1,x2,Int.mul_comm,Int.mul_comm (v.2-u.2)] at e3
    rcases e3 with⟨q1,q2⟩|⟨q1,q2⟩
    ·have:=tN q1 hp
     have:=oQ q2 hp
     omega
    ·have:=oQ q1 hp
     have:=tN q2 hp
     omega
   rw[hon] at hu
   cases hu
  rw[hA] at a0 qw
  rw[hB] at b0 qw
  rw[hA,hB,hU,hV] at hc'
  rw[hA,hB]
  rw[hU,hA,hB] at iU
  rw[hV,hA,hB] at iV
  have key:(0<A↔0<B):=by
   constructor
   ·intro h
    rcases Int.lt_trichotomy 0 B with h9|h9|h9
    ·exact h9
    ·exact absurd h9.symm b0
    ·obtain⟨x,y|⟨y1,y2⟩⟩:=adC iU iV h1 hab h2 h h9
     ·exact absurd ⟨.inl ⟨y,x⟩,.inr ⟨h,h9⟩⟩ hc'
     ·exact absurd (qw (by omega) (by omega) (.inl ⟨h,h9⟩)) id
   ·intro h
    rcases Int.lt_trichotomy 0 A with h9|h9|h9
    ·exact h9
    ·exact absurd h9.symm a0
    ·obtain⟨x,y|⟨y1,y2⟩⟩:=adC (Iq iU) (CZ iV) h1 hab h2 (show 0 < -A by omega) (show -B<0 by omega)
     ·exact absurd ⟨.inr ⟨by omega,by omega⟩,.inl ⟨h9,h⟩⟩ hc'
     ·exact absurd (qw (by omega) (by omega) (.inr ⟨h9,h⟩)) id
  simp[key]
 ·rw[show decide (u.2<=a.2/\a.2<v.2)=false by simp;omega,show decide (u.2<=b.2/\b.2<v.2)=false by simp;omega,show decide (a.2<u.2/\u.2<=b.2)=true by simp;omega,show decide (a.2<v.2/\v.2<=b.2)=true by simp;omega]
  have u0:=ou (by omega) (by omega) (by omega)
  have v0:=ov (by omega) (by omega) (by omega)
  have qw:b.2=u.2->v.2=u.2->(0<cr a b u/\cr a b v<0)\/(cr a b u<0/\0<cr a b v)->False:=by
   intro e1 e2 e3
   have x1:cr a b u=(b.2-a.2)*(b.1-u.1):=by unfold cr;rw[e1];grind
   have x2:cr a b v=(b.2-a.2)*(b.1-v.1):=by unfold cr;rw[e2,e1];grind
   have y0:cr u v b=0:=by unfold cr;rw[e1,e2];grind
   have hp:0<b.2-a.2:=by omega
   have hon:eF b u v=true:=by
    rw[dw]
    refine⟨y0,?_,by omega⟩
    rw[x1,x2,Int.mul_comm,Int.mul_comm (b.2-a.2)] at e3
    rcases e3 with⟨q1,q2⟩|⟨q1,q2⟩
    ·have:=tN q1 hp
     have:=oQ q2 hp
     omega
    ·have:=oQ q1 hp
     have:=tN q2 hp
     omega
   rw[hon] at hb
   cases hb
  rw[hU] at u0 qw
  rw[hV] at v0 qw
  rw[hA,hB,hU,hV] at hc'
  rw[hU,hV]
  rw[hU,hA,hV] at iA
  rw[hU,hV,hB] at iB
  have aew:∀A B U V:Int,A*(b.2-a.2)=-U*(v.2-a.2)+V*(u.2-a.2)->B*(b.2-a.2)=U*(b.2-v.2)-V*(b.2-u.2)->U<0->0<V->0<A/\(B<0\/(b.2=u.2/\v.2=u.2)):=by
   intro A B U V iA iB hU hV
   have e1:=Int.mul_pos hV (show 0<u.2-a.2 by omega)
   have e2:=qM (Int.le_of_lt hU) (show 0<=v.2-a.2 by omega)
   rw[Int.neg_mul] at iA
   refine⟨tN (y:=b.2-a.2) (by omega) (by omega),?_⟩
   by_cases hbu:b.2=u.2
   ·exact .inr ⟨hbu,by omega⟩
   ·have e3:=Int.mul_pos hV (show 0<b.2-u.2 by omega)
    have e4:=qM (Int.le_of_lt hU) (show 0<=b.2-v.2 by omega)
    exact .inl (oQ (y:=b.2-a.2) (by omega) (by omega))
  have key:(U<0↔V<0):=by
   constructor
   ·intro h
    rcases Int.lt_trichotomy V 0 with h9|h9|h9
    ·exact h9
    ·exact absurd h9 v0
    ·obtain⟨x,y|⟨y1,y2⟩⟩:=aew A B U V iA iB h h9
     ·exact absurd ⟨.inl ⟨h,h9⟩,.inr ⟨x,y⟩⟩ hc'
     ·exact absurd (qw (by omega) (by omega) (.inr ⟨h,h9⟩)) id
   ·intro h
    rcases Int.lt_trichotomy U 0 with h9|h9|h9
    ·exact h9
    ·exact absurd h9 u0
    ·obtain⟨x,y|⟨y1,y2⟩⟩:=aew (-A) (-B) (-U) (-V) (Iq iA) (CZ iB) (by omega) (by omega)
     ·exact absurd ⟨.inr ⟨h9,h⟩,.inl ⟨by omega,by omega⟩⟩ hc'
     ·exact absurd (qw (by omega) (by omega) (.inl ⟨h9,h⟩)) id
  simp[key]
 ·rw[show decide (u.2<=a.2/\a.2<v.2)=false by simp;omega,show decide (u.2<=b.2/\b.2<v.2)=true by simp;omega,show decide (a.2<u.2/\u.2<=b.2)=true by simp;omega,show decide (a.2<v.2/\v.2<=b.2)=false by simp;omega]
  have b0:=ob (by omega) (by omega) (by omega)
  have u0:=ou (by omega) (by omega) (by omega)
  rw[hB] at b0
  rw[hU] at u0
  rw[hA,hB,hU,hV] at hc'
  rw[hB,hU]
  rw[hU,hA,hB] at iU
  rw[hV,hA,hB] at iV
  have key:(0<B↔U<0):=by
   constructor
   ·intro h
    rcases Int.lt_trichotomy U 0 with h9|h9|h9
    ·exact h9
    ·exact absurd h9 u0
    ·obtain⟨x,y⟩:=adB iU iV h1 h2 h3 h h9
     exact absurd ⟨.inr ⟨h9,y⟩,.inl ⟨x,h⟩⟩ hc'
   ·intro h
    rcases Int.lt_trichotomy 0 B with h9|h9|h9
    ·exact h9
    ·exact absurd h9.symm b0
    ·obtain⟨x,y⟩:=adB (Iq iU) (CZ iV) h1 h2 h3 (show 0 < -B by omega) (show 0 < -U by omega)
     exact absurd ⟨.inl ⟨h,by omega⟩,.inr ⟨by omega,h9⟩⟩ hc'
  simp[key]
theorem Sz {a b u v:Pt}(hab:a.2<=b.2)(hm:bI a b u v=false):(bT a u v ^^ bT b u v)=(jF a b u ^^ jF a b v):=by
 rcases Int.le_total u.2 v.2 with h|h
 ·exact Ey hab h hm
 ·rw[<-iL a u v,<-iL b u v,Bool.xor_comm (jF a b u)]
  exact Ey hab h (by rw[qP];exact hm)
theorem Ie {ps:List Pt}{a b:Pt}(hab:a.2<=b.2):∀n,(∀i,i<n->bI a b (ai ps i) (ai ps (i+1))=false)->(par ps a (List.range n) ^^ par ps b (List.range n))=(jF a b (ai ps 0) ^^ jF a b (ai ps n))
 | 0,_=>by simp[par]
 | n+1,h=>by
  have ih:=Ie hab n (fun i hi=>h i (by omega))
  have he:=Sz hab (h n (by omega))
  rw[List.range_succ,yK,yK]
  revert ih he
  generalize par ps a (List.range n)=x1
  generalize par ps b (List.range n)=x2
  generalize bT a (ai ps n) (ai ps (n+1))=x3
  generalize bT b (ai ps n) (ai ps (n+1))=x4
  generalize jF a b (ai ps 0)=x5
  generalize jF a b (ai ps n)=x6
  generalize jF a b (ai ps (n+1))=x7
  revert x1 x2 x3 x4 x5 x6 x7
  decide
theorem uD (ps:List Pt):ai ps ps.length=ai ps 0:=by unfold ai;rw[Nat.mod_self,Nat.zero_mod]
theorem Q7 {ps:List Pt}{a b:Pt}(h:∀i,i<ps.length->bI a b (ai ps i) (ai ps (i+1))=false):par ps a (List.range ps.length)=par ps b (List.range ps.length):=by
 rcases Int.le_total a.2 b.2 with hab|hab
 ·have:=Ie hab ps.length h
  rw[uD,Bool.xor_self] at this
  simpa using this
 ·have:=Ie (ps:=ps) hab ps.length (fun i hi=>by rw[qQ];exact h i hi)
  rw[uD,Bool.xor_self] at this
  have:par ps b (List.range ps.length)=par ps a (List.range ps.length):=by simpa using this
  exact this.symm
def jg (p q:Pt):Int:=(q.1-p.1)*(q.1-p.1)+(q.2-p.2)*(q.2-p.2)
theorem sq_nonneg (x:Int):0<=x*x:=by
 rcases Int.le_total 0 x with h|h
 ·exact Int.mul_nonneg h h
 ·have:=Int.mul_nonneg (show 0<=-x by omega) (show 0<=-x by omega)
  rw[Int.neg_mul_neg] at this
  exact this
theorem O6 {x y:Int}(h:-y<=x/\x<=y):x*x<=y*y:=by
 have h1:=Int.mul_nonneg (show 0<=y-x by omega) (show 0<=y+x by omega)
 have e:(y-x)*(y+x)=y*y-x*x:=by grind
 omega
theorem O5 {x y:Int}(h:-y<x/\x<y):x*x<y*y:=by
 have h1:=Int.mul_pos (show 0<y-x by omega) (show 0<y+x by omega)
 have e:(y-x)*(y+x)=y*y-x*x:=by grind
 omega
theorem MR (p q:Pt):0<=jg p q:=by
 unfold jg
 have h1:=sq_nonneg (q.1-p.1)
 have h2:=sq_nonneg (q.2-p.2)
 omega
theorem wO {p q:Pt}(h:q≠p):0<jg p q:=by
 unfold jg
 have h1:=sq_nonneg (q.1-p.1)
 have h2:=sq_nonneg (q.2-p.2)
 by_cases e:q.1=p.1
 ·have e2:q.2≠p.2:=fun e2=>h (Prod.ext e e2)
  have:0<(q.2-p.2)*(q.2-p.2):=by
   rcases Int.lt_or_lt_of_ne e2 with h3|h3
   ·have:=Int.mul_pos (show 0 < -(q.2-p.2) by omega) (show 0 < -(q.2-p.2) by omega)
    rwa [Int.neg_mul_neg] at this
   ·exact Int.mul_pos (by omega) (by omega)
  omega
 ·have:0<(q.1-p.1)*(q.1-p.1):=by
   rcases Int.lt_or_lt_of_ne e with h3|h3
   ·have:=Int.mul_pos (show 0 < -(q.1-p.1) by omega) (show 0 < -(q.1-p.1) by omega)
    rwa [Int.neg_mul_neg] at this
   ·exact Int.mul_pos (by omega) (by omega)
  omega
theorem zZ (p u v:Pt):0<(oL p u v).2.2:=by
 unfold oL
 split
 ·exact Int.zero_lt_one
 ·split
  ·exact Int.zero_lt_one
  ·dsimp only
   omega
theorem O4 (p u v:Pt){k m:Int}(hk:0<=k)(PX:k<=m):m*m*((oL p u v).1*(oL p u v).2.1)<=((m*(p.1-u.1)-k*(v.1-u.1))*(m*(p.1-u.1)-k*(v.1-u.1))+(m*(p.2-u.2)-k*(v.2-u.2))*(m*(p.2-u.2)-k*(v.2-u.2)))*(oL p u v).2.2:=by
 unfold oL
 have hm:0<=m:=by omega
 have hL:0<=dt u v v:=by
  unfold dt
  have h1:=sq_nonneg (v.1-u.1)
  have h2:=sq_nonneg (v.2-u.2)
  omega
 have hkL:=Int.mul_nonneg (Int.mul_nonneg hk hk) hL
 split
 ·rename_i h
  dsimp only
  have e:((m*(p.1-u.1)-k*(v.1-u.1))*(m*(p.1-u.1)-k*(v.1-u.1))+(m*(p.2-u.2)-k*(v.2-u.2))*(m*(p.2-u.2)-k*(v.2-u.2)))=m*m*dt u p p+2*(m*k*-dt u v p)+k*k*dt u v v:=by unfold dt;grind
  have h1:=Int.mul_nonneg (Int.mul_nonneg hm hk) (show 0<=-dt u v p by omega)
  rw[e,Int.mul_one,Int.mul_one]
  omega
 ·split
  ·rename_i h0 h
   dsimp only
   have e:((m*(p.1-u.1)-k*(v.1-u.1))*(m*(p.1-u.1)-k*(v.1-u.1))+(m*(p.2-u.2)-k*(v.2-u.2))*(m*(p.2-u.2)-k*(v.2-u.2)))=m*m*dt v p p+2*(m*(m-k)*(dt u v p-dt u v v))+(m-k)*(m-k)*dt u v v:=by unfold dt;grind
   have h1:=Int.mul_nonneg (Int.mul_nonneg hm (show 0<=m-k by omega)) (show 0<=dt u v p-dt u v v by omega)
   have h2:=Int.mul_nonneg (Int.mul_nonneg (show 0<=m-k by omega) (show 0<=m-k by omega)) hL
   rw[e,Int.mul_one,Int.mul_one]
   omega
  ·dsimp only
   have en:((cr u v p).natAbs:Int)*((cr u v p).natAbs:Int)=cr u v p*cr u v p:=Int.natAbs_mul_self
   rw[en]
   have e:((m*(p.1-u.1)-k*(v.1-u.1))*(m*(p.1-u.1)-k*(v.1-u.1))+(m*(p.2-u.2)-k*(v.2-u.2))*(m*(p.2-u.2)-k*(v.2-u.2)))*dt u v v=m*m*(cr u v p*cr u v p)+(m*dt u v p-k*dt u v v)*(m*dt u v p-k*dt u v v):=by unfold dt cr;grind
   have h1:=sq_nonneg (m*dt u v p-k*dt u v v)
   rw[e]
   omega
theorem Rw {m x y:Int}(hm:0<m)(h:m*m*x<=m*m*y):x<=y:=by
 rcases Int.lt_or_le y x with h1|h1
 ·have:=Int.mul_lt_mul_of_pos_left h1 (Int.mul_pos hm hm)
  omega
 ·exact h1
theorem J3 (p:Pt){q u v:Pt}(h:eF q u v=true):(oL p u v).1*(oL p u v).2.1<=jg p q*(oL p u v).2.2:=by
 rw[dw] at h
 obtain⟨h0,h1,h2⟩:=h
 have hc:(v.1-u.1)*(q.2-u.2)=(v.2-u.2)*(q.1-u.1):=by unfold cr at h0;omega
 have key:∃k m:Int,0<=k/\k<=m/\0<m/\m*(q.1-u.1)=k*(v.1-u.1)/\m*(q.2-u.2)=k*(v.2-u.2):=by
  by_cases hz:u.1=v.1/\u.2=v.2
  ·refine⟨0,1,by omega,by omega,by omega,?_,?_⟩<;>omega
  ·rcases Int.le_total u.1 v.1 with a1|a1<;>rcases Int.le_total u.2 v.2 with a2|a2
   ·exact⟨(q.1-u.1)+(q.2-u.2),(v.1-u.1)+(v.2-u.2),by omega,by omega,by omega,by grind,by grind⟩
   ·exact⟨(q.1-u.1)-(q.2-u.2),(v.1-u.1)-(v.2-u.2),by omega,by omega,by omega,by grind,by grind⟩
   ·exact⟨-(q.1-u.1)+(q.2-u.2),-(v.1-u.1)+(v.2-u.2),by omega,by omega,by omega,by grind,by grind⟩
   ·exact⟨-(q.1-u.1)-(q.2-u.2),-(v.1-u.1)-(v.2-u.2),by omega,by omega,by omega,by grind,by grind⟩
 obtain⟨k,m,hk,PX,hm,e1,e2⟩:=key
 have:=O4 p u v hk PX
 refine Rw hm ?_
 have e:(m*(p.1-u.1)-k*(v.1-u.1))*(m*(p.1-u.1)-k*(v.1-u.1))+(m*(p.2-u.2)-k*(v.2-u.2))*(m*(p.2-u.2)-k*(v.2-u.2))=m*m*jg p q:=by
  rw[<-e1,<-e2]
  unfold jg
  grind
 rw[e,Int.mul_assoc (m*m)] at this
 exact this
theorem kK (u v:Pt):eF u u v=true:=by
 rw[dw]
 refine⟨by unfold cr;grind,by omega,by omega⟩
theorem nM (u v:Pt):eF v u v=true:=by
 rw[dw]
 refine⟨by unfold cr;grind,by omega,by omega⟩
theorem abz {p o q:Pt}(h:eF q p o=true):jg p q<=jg p o/\(q≠o->jg p q<jg p o):=by
 rw[dw] at h
 obtain⟨_,h1,h2⟩:=h
 have a:∀x y z:Int,min x z<=y->y<=max x z->(y-x)*(y-x)<=(z-x)*(z-x)/\(y≠z->(y-x)*(y-x)<(z-x)*(z-x)):=by
  intro x y z h1 h2
  rcases Int.le_total x z with h|h
  ·refine⟨O6 (by omega),fun hne=>O5 (by omega)⟩
  ·have e1:(z-x)*(z-x)=(x-z)*(x-z):=by grind
   rw[e1]
   refine⟨O6 (by omega),fun hne=>O5 (by omega)⟩
 have a1:=a p.1 q.1 o.1 (by omega) (by omega)
 have a2:=a p.2 q.2 o.2 (by omega) (by omega)
 unfold jg
 refine⟨by omega,fun hne=>?_⟩
 by_cases e:q.1=o.1
 ·have:=a2.2 (fun e2=>hne (Prod.ext e e2))
  omega
 ·have:=a1.2 e
  omega
theorem Gs {p o u v:Pt}(h:bI p o u v=true):(oL p u v).1*(oL p u v).2.1<=jg p o*(oL p u v).2.2/\(eF o u v=false->o≠p->(oL p u v).1*(oL p u v).2.1<jg p o*(oL p u v).2.2):=by
 have h3:=zZ p u v
 have mono:∀q:Pt,eF q u v=true->eF q p o=true->(oL p u v).1*(oL p u v).2.1<=jg p o*(oL p u v).2.2/\(eF o u v=false->o≠p->(oL p u v).1*(oL p u v).2.1<jg p o*(oL p u v).2.2):=by
  intro q h1 h2
  have a:=J3 p h1
  obtain⟨b1,b2⟩:=abz h2
  have c:=Int.mul_le_mul_of_nonneg_right b1 (Int.le_of_lt h3)
  refine⟨by omega,fun ho _=>?_⟩
  have:=b2 (fun e=>by rw[<-e,h1] at ho;cases ho)
  have c:=Int.mul_lt_mul_of_pos_right this h3
  omega
 unfold bI at h
 simp only[Bool.or_eq_true] at h
 rcases h with h|h|h|h|h
 ·rw[eY] at h
  have hAB:cr u v p-cr u v o=cr p o v-cr p o u:=by unfold cr;grind
  have i1:(cr p o v-cr p o u)*(p.1-u.1)+cr p o u*(v.1-u.1)=-cr u v p*(o.1-p.1):=by unfold cr;grind
  have i2:(cr p o v-cr p o u)*(p.2-u.2)+cr p o u*(v.2-u.2)=-cr u v p*(o.2-p.2):=by unfold cr;grind
  obtain⟨A,hA⟩:∃x,cr u v p=x:=⟨_,rfl⟩
  obtain⟨B,hB⟩:∃x,cr u v o=x:=⟨_,rfl⟩
  obtain⟨U,hU⟩:∃x,cr p o u=x:=⟨_,rfl⟩
  obtain⟨V,hV⟩:∃x,cr p o v=x:=⟨_,rfl⟩
  rw[hA,hB,hU,hV] at h
  rw[hA,hB,hU,hV] at hAB
  rw[hA,hU,hV] at i1 i2
  have hop:0<jg p o:=wO fun e=>by rw[e] at hB;omega
  have key:∃k m:Int,0<=k/\k<=m/\0<m/\(A*A<m*m)/\(m*(p.1-u.1)-k*(v.1-u.1))*(m*(p.1-u.1)-k*(v.1-u.1))+(m*(p.2-u.2)-k*(v.2-u.2))*(m*(p.2-u.2)-k*(v.2-u.2))=A*A*jg p o:=by
   rcases h with⟨⟨h1,h2⟩|⟨h1,h2⟩,h4⟩
   ·refine⟨-U,V-U,by omega,by omega,by omega,?_,?_⟩
    ·exact O5 (by omega)
    ·have e1:(V-U)*(p.1-u.1) - -U*(v.1-u.1)=-A*(o.1-p.1):=by rw[<-i1];grind
     have e2:(V-U)*(p.2-u.2) - -U*(v.2-u.2)=-A*(o.2-p.2):=by rw[<-i2];grind
     rw[e1,e2]
     unfold jg
     grind
   ·refine⟨U,U-V,by omega,by omega,by omega,?_,?_⟩
    ·exact O5 (by omega)
    ·have e1:(U-V)*(p.1-u.1)-U*(v.1-u.1)=A*(o.1-p.1):=by
      have:A*(o.1-p.1)=-(-A*(o.1-p.1)):=by grind
      rw[this,<-i1];grind
     have e2:(U-V)*(p.2-u.2)-U*(v.2-u.2)=A*(o.2-p.2):=by
      have:A*(o.2-p.2)=-(-A*(o.2-p.2)):=by grind
      rw[this,<-i2];grind
     rw[e1,e2]
     unfold jg
     grind
  obtain⟨k,m,hk,PX,hm,hlt,hE⟩:=key
  have hs:=O4 p u v hk PX
  rw[hE] at hs
  have hY:=Int.mul_pos hop h3
  have hl:=Int.mul_lt_mul_of_pos_right hlt hY
  rw[Int.mul_assoc (A*A)] at hs
  have hfin:(oL p u v).1*(oL p u v).2.1<jg p o*(oL p u v).2.2:=by
   rcases Int.lt_or_le ((oL p u v).1*(oL p u v).2.1) (jg p o*(oL p u v).2.2) with h1|h1
   ·exact h1
   ·have:=Int.mul_le_mul_of_nonneg_left h1 (Int.le_of_lt (Int.mul_pos hm hm))
    omega
  exact⟨by omega,fun _ _=>hfin⟩
 ·have a:=J3 p h
  have e0:jg p p=0:=by unfold jg;grind
  rw[e0,Int.zero_mul] at a
  have b:=Int.mul_nonneg (MR p o) (Int.le_of_lt h3)
  refine⟨by omega,fun _ hne=>?_⟩
  have:=Int.mul_pos (wO hne) h3
  omega
 ·exact mono o h (nM p o)
 ·exact mono u (kK u v) h
 ·exact mono v (nM u v) h
theorem oC (ps:List Pt)(q:Pt):(gK ps q=true/\placeOf ps q=0)\/(gK ps q=false/\par ps q (List.range ps.length)=true/\placeOf ps q=1)\/(gK ps q=false/\par ps q (List.range ps.length)=false/\placeOf ps q=-1):=by
 unfold placeOf
 cases gK ps q<;>cases par ps q (List.range ps.length)<;>simp
theorem BA {ps:List Pt}{a b:Pt}(h:0<=placeOf ps a)(h2:placeOf ps b<0):a≠b/\∃i,i<ps.length/\bI a b (ai ps i) (ai ps (i+1))=true:=by
 refine⟨fun e=>by rw[e] at h;omega,?_⟩
 rcases oC ps a with⟨e,f⟩|⟨e,g,f⟩|⟨e,g,f⟩
 ·unfold gK at e
  rw[List.any_eq_true] at e
  obtain⟨i,hi,ho⟩:=e
  exact⟨i,List.mem_range.1 hi,by unfold bI;rw[ho];simp⟩
 ·rcases oC ps b with⟨e',f'⟩|⟨e',g',f'⟩|⟨e',g',f'⟩
  ·omega
  ·omega
  ·by_cases hm:∃i,i<ps.length/\bI a b (ai ps i) (ai ps (i+1))=true
   ·exact hm
   ·have:=Q7 (ps:=ps) (a:=a) (b:=b) (fun i hi=>by
     cases h:bI a b (ai ps i) (ai ps (i+1))
     ·rfl
     ·exact absurd ⟨i,hi,h⟩ hm)
    rw[g,g'] at this
    cases this
 ·omega
theorem WQ {ps:List Pt}{at' other:Pt}{r:Int}(hn:jg at' other<=r*r):(jS ps at' r=1->0<=placeOf ps other)/\(jS ps at' r=-1->placeOf ps other<0):=by
 unfold jS
 by_cases hp:0<=placeOf ps at'
 ·rw[if_pos hp]
  refine⟨fun h=>?_,fun h=>by split at h<;>cases h⟩
  have ha:iF ps at' r (List.range ps.length)=true:=by
   cases hx:iF ps at' r (List.range ps.length)
   ·rw[hx] at h;simp at h
   ·rfl
  rcases Int.lt_or_le (placeOf ps other) 0 with hlt|hle
  ·obtain⟨hne,i,hi,hm⟩:=BA hp hlt
   obtain⟨_,h2⟩:=Gs hm
   have hno:eF other (ai ps i) (ai ps (i+1))=false:=by
    rcases oC ps other with⟨e,f⟩|⟨e,g,f⟩|⟨e,g,f⟩
    ·omega
    ·omega
    ·unfold gK at e
     rw[List.any_eq_false] at e
     simpa using e i (List.mem_range.2 hi)
   have h3:=h2 hno (fun e=>hne e.symm)
   unfold iF at ha
   rw[List.all_eq_true] at ha
   have h4:=ha i (List.mem_range.2 hi)
   unfold apartB at h4
   rw[decide_eq_true_eq] at h4
   have h5:=Int.mul_le_mul_of_nonneg_right hn (Int.le_of_lt (zZ at' (ai ps i) (ai ps (i+1))))
   omega
  ·exact hle
 ·rw[if_neg hp]
  refine⟨fun h=>(by split at h<;>cases h),fun h=>?_⟩
  have ha:nT ps at' r (List.range ps.length)=false:=by
   cases hx:nT ps at' r (List.range ps.length)
   ·rfl
   ·rw[hx] at h;simp at h
  rcases Int.lt_or_le (placeOf ps other) 0 with hlt|hle
  ·exact hlt
  ·obtain⟨hne,i,hi,hm⟩:=BA hle (show placeOf ps at'<0 by omega)
   rw[<-qQ] at hm
   obtain⟨h2,_⟩:=Gs hm
   unfold nT at ha
   rw[List.any_eq_false] at ha
   have h4:=ha i (List.mem_range.2 hi)
   unfold oW at h4
   rw[decide_eq_true_eq] at h4
   have h5:=Int.mul_le_mul_of_nonneg_right hn (Int.le_of_lt (zZ at' (ai ps i) (ai ps (i+1))))
   omega
theorem Rl {p a:Pt}{r:Int}(h:oW p a a r=true):jg a p<=r*r:=by
 unfold oW oL at h
 rw[decide_eq_true_eq] at h
 have e:dt a a p=0:=by unfold dt;grind
 rw[if_pos (by omega)] at h
 have e2:dt a p p=jg a p:=by unfold dt jg;grind
 rw[e2] at h
 dsimp only at h
 omega
theorem Po {ps:List Pt}(h:di ps=true){i:Nat}(hi:i<ps.length):pR ps i=true:=by
 unfold di at h
 simp only[Bool.and_eq_true] at h
 exact List.all_eq_true.1 h.2.1 i (List.mem_range.2 hi)
def Kz (ps qs:List Pt)(i k:Nat):Bool:=bI (ai ps i) (ai ps (i+1)) (ai qs k) (ai qs (k+1))
def Hm (ps qs:List Pt)(i:Nat):Bool:=(List.range qs.length).any (Kz ps qs i)
def yx (ps qs:List Pt):Bool:=(List.range ps.length).any (Hm ps qs)
def DV (ps qs:List Pt):Bool:=yx ps qs||(placeOf ps (ai qs 0)==1||placeOf qs (ai ps 0)==1)
def vG (ps qs:List Pt):Bool×Int:=if (di ps&&di qs)=true then (DV ps qs,0) else (false,1)
def sc (d:Int)(p:Pt):Pt:=(d*p.1,d*p.2)
theorem vZ (d:Int)(a b p:Pt):cr (sc d a) (sc d b) (sc d p)=d*d*cr a b p:=by unfold cr sc;grind
theorem yf {d:Int}(hd:0<d):0<d*d:=Int.mul_pos hd hd
theorem iq {m x:Int}(hm:0<m):0<m*x↔0<x:=by
 constructor
 ·intro h
  rw[Int.mul_comm] at h
  exact tN h hm
 ·exact Int.mul_pos hm
theorem gz {m x:Int}(hm:0<m):m*x<0↔x<0:=by
 constructor
 ·intro h
  rw[Int.mul_comm] at h
  exact oQ h hm
 ·intro h
  have:=Int.mul_pos hm (show 0 < -x by omega)
  rw[Int.mul_neg] at this
  omega
theorem nI {m x:Int}(hm:0<m):m*x=0↔x=0:=by
 constructor
 ·intro h
  rw[Int.mul_comm] at h
  exact wJ h hm
 ·intro h
  rw[h,Int.mul_zero]
theorem jm {m x y:Int}(hm:0<m):m*x<=m*y↔x<=y:=by
 constructor
 ·intro h
  rcases Int.lt_or_le y x with h1|h1
  ·have:=Int.mul_lt_mul_of_pos_left h1 hm
   omega
  ·exact h1
 ·exact fun h=>Int.mul_le_mul_of_nonneg_left h (Int.le_of_lt hm)
theorem BC {m x y:Int}(hm:0<m):m*x<m*y↔x<y:=by
 rw[<-Int.not_le,jm hm,Int.not_le]
theorem Vw {d x y:Int}(hd:0<d):min (d*x) (d*y)=d*min x y:=by
 rcases Int.le_total x y with h|h
 ·rw[Int.min_eq_left h,Int.min_eq_left ((jm hd).2 h)]
 ·rw[Int.min_eq_right h,Int.min_eq_right ((jm hd).2 h)]
theorem VC {d x y:Int}(hd:0<d):max (d*x) (d*y)=d*max x y:=by
 rcases Int.le_total x y with h|h
 ·rw[Int.max_eq_right h,Int.max_eq_right ((jm hd).2 h)]
 ·rw[Int.max_eq_left h,Int.max_eq_left ((jm hd).2 h)]
theorem mf {d:Int}(hd:0<d)(p a b:Pt):eF (sc d p) (sc d a) (sc d b)=eF p a b:=by
 rw[Bool.eq_iff_iff,dw,dw,vZ,nI (yf hd)]
 unfold sc
 dsimp only
 rw[Vw hd,VC hd,Vw hd,VC hd,jm hd,jm hd,jm hd,jm hd]
theorem Zl {d:Int}(hd:0<d)(a b u v:Pt):lM (sc d a) (sc d b) (sc d u) (sc d v)=lM a b u v:=by
 have h:=yf hd
 rw[Bool.eq_iff_iff,eY,eY,vZ,vZ,vZ,vZ,iq h,iq h,iq h,iq h,gz h,gz h,gz h,gz h]
theorem Ed {d:Int}(hd:0<d)(a b u v:Pt):bI (sc d a) (sc d b) (sc d u) (sc d v)=bI a b u v:=by
 unfold bI
 rw[Zl hd,mf hd,mf hd,mf hd,mf hd]
theorem SN {d:Int}(hd:0<d)(q a b:Pt):bT (sc d q) (sc d a) (sc d b)=bT q a b:=by
 have h:=yf hd
 have up:∀q a b:Pt,a.2<=b.2->bT (sc d q) (sc d a) (sc d b)=bT q a b:=by
  intro q a b hab
  rw[dI hab,dI (show (sc d a).2<=(sc d b).2 from (jm hd).2 hab),vZ,Bool.eq_iff_iff]
  simp only[Bool.and_eq_true,decide_eq_true_eq]
  rw[iq h]
  unfold sc
  dsimp only
  rw[jm hd,BC hd]
 rcases Int.le_total a.2 b.2 with hab|hab
 ·exact up q a b hab
 ·rw[<-iL,<-iL q]
  exact up q b a hab
theorem aI (d:Int)(ps:List Pt)(i:Nat):ai (ps.map (sc d)) i=sc d (ai ps i):=by
 unfold ai
 rw[List.length_map,List.getD_eq_getElem?_getD,List.getD_eq_getElem?_getD,List.getElem?_map]
 cases ps[i%ps.length]?
 ·unfold sc
  simp
 ·rfl
theorem aff {u v z:Pt}(h:cr u v z=0)(c d:Pt):(v.2-u.2)*cr c d z=(v.2-z.2)*cr c d u+(z.2-u.2)*cr c d v:=by
 unfold cr at *
 grind
theorem EI {u v c d z:Pt}(hneg:cr c d u<0)(huv:u.2<v.2)(h1:eF z u v=true)(h2:eF z c d=true):bI u v c d=true:=by
 have Lt:eF u c d=true->bI u v c d=true:=fun h=>by unfold bI;rw[h];simp
 have done2:eF v c d=true->bI u v c d=true:=fun h=>by unfold bI;rw[h];simp
 have Qc:eF c u v=true->bI u v c d=true:=fun h=>by unfold bI;rw[h];simp
 have WO:eF d u v=true->bI u v c d=true:=fun h=>by unfold bI;rw[h];simp
 have k1:=dw.1 h1
 have k2:=dw.1 h2
 have hz:u.2<=z.2/\z.2<=v.2:=by omega
 have e0:=aff k1.1 c d
 rw[k2.1,Int.mul_zero] at e0
 have hAB:cr u v c-cr u v d=cr c d v-cr c d u:=by unfold cr;grind
 by_cases z1:z.2=u.2
 ·have:z=u:=by
   have hx:=k1.1
   unfold cr at hx
   rw[z1,Int.sub_self,Int.mul_zero] at hx
   have:(z.1-u.1)=0:=wJ (y:=v.2-u.2) (by rw[Int.mul_comm];omega) (by omega)
   exact Prod.ext (by omega) z1
  rw[this] at h2
  exact Lt h2
 by_cases z2:z.2=v.2
 ·have:z=v:=by
   have hx:=k1.1
   unfold cr at hx
   rw[z2] at hx
   have h3:(v.1-z.1)*(v.2-u.2)=0:=by grind
   have:=wJ h3 (by omega)
   exact Prod.ext (by omega) z2
  rw[this] at h2
  exact done2 h2
 have p1:0<v.2-z.2:=by omega
 have p2:0<z.2-u.2:=by omega
 obtain⟨e,he⟩:∃x,cr c d u=x:=⟨_,rfl⟩
 obtain⟨f,hf⟩:∃x,cr c d v=x:=⟨_,rfl⟩
 obtain⟨a,ha⟩:∃x,cr u v c=x:=⟨_,rfl⟩
 obtain⟨b,hb⟩:∃x,cr u v d=x:=⟨_,rfl⟩
 have e1:=hneg
 rw[he] at e1
 rw[he,hf] at e0
 rw[ha,hb,he,hf] at hAB
 have x1:=(gz p1).2 e1
 have f1:0<f:=(iq p2).1 (by omega)
 by_cases a0:0<a/\b<0
 ·unfold bI
  rw[eY.2 ⟨.inr (by rw[ha,hb];exact a0),.inl (by rw[he,hf];exact⟨e1,f1⟩)⟩]
  rfl
 ·have key:∃k m:Int,0<=k/\k<=m/\0<m/\(m-k)*a+k*b=0/\(k=0->z=c)/\(k=m->z=d):=by
   have hc:(d.1-c.1)*(z.2-c.2)=(d.2-c.2)*(z.1-c.1):=by have:=k2.1;unfold cr at this;omega
   have hk:∀k m:Int,0<m->m*(z.1-c.1)=k*(d.1-c.1)->m*(z.2-c.2)=k*(d.2-c.2)->(m-k)*a+k*b=0/\(k=0->z=c)/\(k=m->z=d):=by
    intro k m hm m1 m2
    refine⟨?_,fun hk=>?_,fun hk=>?_⟩
    ·have:(m-k)*a+k*b=m*cr u v z:=by rw[<-ha,<-hb];unfold cr;grind
     rw[this,k1.1,Int.mul_zero]
    ·rw[hk,Int.zero_mul] at m1 m2
     have:=(nI hm).1 m1
     have:=(nI hm).1 m2
     exact Prod.ext (by omega) (by omega)
    ·rw[hk] at m1 m2
     have:=Int.eq_of_mul_eq_mul_left (by omega) m1
     have:=Int.eq_of_mul_eq_mul_left (by omega) m2
     exact Prod.ext (by omega) (by omega)
   by_cases hz:c.1=d.1/\c.2=d.2
   ·have:=hk 0 1 (by omega) (by omega) (by omega)
    exact⟨0,1,by omega,by omega,by omega,this⟩
   ·rcases Int.le_total c.1 d.1 with a1|a1<;>rcases Int.le_total c.2 d.2 with a2|a2
    ·exact⟨(z.1-c.1)+(z.2-c.2),(d.1-c.1)+(d.2-c.2),by omega,by omega,by omega,hk _ _ (by omega) (by grind) (by grind)⟩
    ·exact⟨(z.1-c.1)-(z.2-c.2),(d.1-c.1)-(d.2-c.2),by omega,by omega,by omega,hk _ _ (by omega) (by grind) (by grind)⟩
    ·exact⟨-(z.1-c.1)+(z.2-c.2),-(d.1-c.1)+(d.2-c.2),by omega,by omega,by omega,hk _ _ (by omega) (by grind) (by grind)⟩
    ·exact⟨-(z.1-c.1)-(z.2-c.2),-(d.1-c.1)-(d.2-c.2),by omega,by omega,by omega,hk _ _ (by omega) (by grind) (by grind)⟩
  obtain⟨k,m,hk,PX,hm,h5,h6,h7⟩:=key
  by_cases k0:k=0
  ·rw[h6 k0] at h1
   exact Qc h1
  ·by_cases km:k=m
   ·rw[h7 km] at h1
    exact WO h1
   ·have q1:0<k:=by omega
    have q2:0<m-k:=by omega
    rcases Int.lt_trichotomy a 0 with a1|a1|a1
    ·have:=(gz q2).2 a1
     have:=(iq q1).1 (show 0<k*b by omega)
     omega
    ·rw[a1,Int.mul_zero] at h5
     have:=(nI q1).1 (show k*b=0 by omega)
     omega
    ·have:=(iq q2).2 a1
     have:=(gz q1).1 (show k*b<0 by omega)
     exact absurd ⟨a1,this⟩ a0
theorem common {u v c d z:Pt}(huv:u.2<v.2)(h1:eF z u v=true)(h2:eF z c d=true):bI u v c d=true:=by
 rcases Int.lt_trichotomy (cr c d u) 0 with e1|e1|e1
 ·exact EI e1 huv h1 h2
 ·have Lt:eF u c d=true->bI u v c d=true:=fun h=>by unfold bI;rw[h];simp
  have Qc:eF c u v=true->bI u v c d=true:=fun h=>by unfold bI;rw[h];simp
  have WO:eF d u v=true->bI u v c d=true:=fun h=>by unfold bI;rw[h];simp
  have k1:=dw.1 h1
  have k2:=dw.1 h2
  have hz:u.2<=z.2/\z.2<=v.2:=by omega
  have e0:=aff k1.1 c d
  rw[k2.1,Int.mul_zero,e1,Int.mul_zero,Int.zero_add] at e0
  by_cases z1:z.2=u.2
  ·have:z=u:=by
    have hx:=k1.1
    unfold cr at hx
    rw[z1,Int.sub_self,Int.mul_zero] at hx
    have:(z.1-u.1)=0:=wJ (y:=v.2-u.2) (by rw[Int.mul_comm];omega) (by omega)
    exact Prod.ext (by omega) z1
   rw[this] at h2
   exact Lt h2
  have f0:cr c d v=0:=(nI (show 0<z.2-u.2 by omega)).1 e0.symm
  by_cases hcd:c.2=d.2
  ·have hc1:c.1=d.1:=by
    unfold cr at e1
    rw[hcd,Int.sub_self,Int.zero_mul] at e1
    rcases Int.mul_eq_zero.1 (show (d.1-c.1)*(u.2-d.2)=0 by omega) with h|h
    ·omega
    ·omega
   have:z=c:=Prod.ext (by omega) (by omega)
   rw[this] at h1
   exact Qc h1
  ·have ia:=idU u v c d
   have ib:=idV u v c d
   rw[e1,f0] at ia ib
   simp only[Int.neg_zero,Int.zero_mul,Int.add_zero,Int.sub_zero] at ia ib
   have a0:cr u v c=0:=by
    rcases Int.mul_eq_zero.1 ia with h|h
    ·exact h
    ·omega
   have b0:cr u v d=0:=by
    rcases Int.mul_eq_zero.1 ib with h|h
    ·exact h
    ·omega
   by_cases x1:u.2<=c.2/\c.2<=v.2
   ·exact Qc (xw a0 x1.1 x1.2 huv)
   ·by_cases x2:u.2<=d.2/\d.2<=v.2
    ·exact WO (xw b0 x2.1 x2.2 huv)
    ·rcases Int.lt_or_le c.2 d.2 with x3|x3
     ·exact Lt (xw e1 (by omega) (by omega) x3)
     ·refine Lt ?_
      rw[<-jG]
      exact xw (by rw[nX,e1];rfl) (by omega) (by omega) (by omega)
 ·rw[<-qP]
  exact EI (by rw[nX];omega) huv h1 (by rw[jG];exact h2)
theorem ve {u v c d z:Pt}(huv:u.2<v.2)(h1:eF z u v=true)(hm:bI u v c d=false):bI u z c d=false:=by
 cases h:bI u z c d
 ·rfl
 ·exfalso
  have no:∀q,eF q u v=true->eF q c d=true->False:=fun q a b=>by rw[common huv a b] at hm;cases hm
  obtain⟨hc,_,_,hcu,hdu⟩:=qj hm
  have k1:=dw.1 h1
  have hz:u.2<=z.2/\z.2<=v.2:=by omega
  have part:∀q,eF q u z=true->eF q u v=true:=by
   intro q hq
   have k3:=dw.1 hq
   by_cases zu:z.2=u.2
   ·have:z=u:=by
     have hx:=k1.1
     unfold cr at hx
     rw[zu,Int.sub_self,Int.mul_zero] at hx
     have:(z.1-u.1)=0:=wJ (y:=v.2-u.2) (by rw[Int.mul_comm];omega) (by omega)
     exact Prod.ext (by omega) zu
    subst this
    have:q=z:=Prod.ext (by omega) (by omega)
    rw[this]
    exact h1
   ·refine xw ?_ (by omega) (by omega) huv
    have:(z.2-u.2)*cr u v q=(v.2-u.2)*cr u z q:=by
     have a:=k1.1
     unfold cr at a ⊢
     grind
    rw[k3.1,Int.mul_zero] at this
    exact (nI (show 0<z.2-u.2 by omega)).1 this
  unfold bI at h
  simp only[Bool.or_eq_true] at h
  rcases h with h|h|h|h|h
  ·have h9:=eY.1 h
   have hzu:u.2<z.2:=by
    rcases Int.lt_or_le u.2 z.2 with h|h
    ·exact h
    ·exfalso
     have zu:z.2=u.2:=by omega
     have:z=u:=by
      have hx:=k1.1
      unfold cr at hx
      rw[zu,Int.sub_self,Int.mul_zero] at hx
      have:(z.1-u.1)=0:=wJ (y:=v.2-u.2) (by rw[Int.mul_comm];omega) (by omega)
      exact Prod.ext (by omega) zu
     rw[this] at h9
     omega
   have p1:0<v.2-u.2:=by omega
   have p2:0<z.2-u.2:=by omega
   have p3:0<=v.2-z.2:=by omega
   have e0:=aff k1.1 c d
   have ac:(z.2-u.2)*cr u v c=(v.2-u.2)*cr u z c:=by have a:=k1.1;unfold cr at a ⊢;grind
   have ad:(z.2-u.2)*cr u v d=(v.2-u.2)*cr u z d:=by have a:=k1.1;unfold cr at a ⊢;grind
   have hcut:lM u v c d=true:=by
    rw[eY]
    refine⟨?_,?_⟩
    ·have s1:0<cr u v c↔0<cr u z c:=by rw[<-iq (x:=cr u v c) p2,ac,iq p1]
     have s2:cr u v c<0↔cr u z c<0:=by rw[<-gz (x:=cr u v c) p2,ac,gz p1]
     have s3:0<cr u v d↔0<cr u z d:=by rw[<-iq (x:=cr u v d) p2,ad,iq p1]
     have s4:cr u v d<0↔cr u z d<0:=by rw[<-gz (x:=cr u v d) p2,ad,gz p1]
     rw[s1,s2,s3,s4]
     exact h9.1
    ·rcases h9.2 with⟨x,y⟩|⟨x,y⟩
     ·have y2:=(iq p1).2 y
      have x2:=qM (Int.le_of_lt x) p3
      rw[Int.mul_comm] at x2
      exact .inl ⟨x,(iq p2).1 (by omega)⟩
     ·have y2:=(gz p1).2 y
      have x2:=Int.mul_nonneg p3 (Int.le_of_lt x)
      exact .inr ⟨x,(gz p2).1 (by omega)⟩
   rw[hcut] at hc
   cases hc
  ·exact no u (kK u v) h
  ·exact no z h1 h
  ·have:=part c h
   rw[this] at hcu
   cases hcu
  ·have:=part d h
   rw[this] at hdu
   cases hdu
def lo (a b:Pt):Pt:=if a.2<=b.2 then a else b
def hi (a b:Pt):Pt:=if a.2<=b.2 then b else a
theorem NL (a b:Pt):(lo a b=a/\hi a b=b/\a.2<=b.2)\/(lo a b=b/\hi a b=a/\b.2<=a.2):=by
 unfold lo hi
 by_cases h:a.2<=b.2
 ·exact .inl ⟨if_pos h,if_pos h,h⟩
 ·exact .inr ⟨if_neg h,if_neg h,by omega⟩
theorem Dc (a b:Pt):(lo a b).2<=(hi a b).2:=by rcases NL a b with⟨e,f,h⟩|⟨e,f,h⟩<;>rw[e,f]<;>exact h
theorem kP (q a b:Pt):bT q (lo a b) (hi a b)=bT q a b:=by
 rcases NL a b with⟨e,f,h⟩|⟨e,f,h⟩<;>rw[e,f]
 exact iL q a b
theorem xU (a b c d:Pt):bI (lo a b) (hi a b) c d=bI a b c d:=by
 rcases NL a b with⟨e,f,h⟩|⟨e,f,h⟩<;>rw[e,f]
 exact qQ a b c d
theorem NH (a b c d:Pt):bI a b (lo c d) (hi c d)=bI a b c d:=by
 rcases NL c d with⟨e,f,h⟩|⟨e,f,h⟩<;>rw[e,f]
 exact qP a b c d
theorem kN {q u v:Pt}(huv:u.2<=v.2)(h:bT q u v=true):u.2<=q.2/\q.2<v.2/\0<cr u v q:=by
 rw[dI huv] at h
 simp only[Bool.and_eq_true,decide_eq_true_eq] at h
 exact⟨h.1.1,h.1.2,h.2⟩
def zz (q u v:Pt):Pt:=((v.2-u.2)*u.1+(v.1-u.1)*(q.2-u.2),(v.2-u.2)*q.2)
theorem Ub {q u v:Pt}(h1:u.2<=q.2)(h2:q.2<v.2):eF (zz q u v) (sc (v.2-u.2) u) (sc (v.2-u.2) v)=true:=by
 have hd:0<v.2-u.2:=by omega
 refine xw ?_ ?_ ?_ ?_
 ·unfold cr zz sc;grind
 ·exact (jm hd).2 h1
 ·exact (jm hd).2 (by omega)
 ·exact (BC hd).2 (by omega)
theorem adl (q u v c d:Pt):cr (sc (v.2-u.2) c) (sc (v.2-u.2) d) (zz q u v)=(v.2-u.2)*((v.2-u.2)*cr c d q-(d.2-c.2)*cr u v q):=by
 unfold cr zz sc;grind
theorem Du {q u v c d:Pt}(hcd:c.2<=d.2)(hd:0<v.2-u.2):bT (zz q u v) (sc (v.2-u.2) c) (sc (v.2-u.2) d)=(decide (c.2<=q.2/\q.2<d.2)&&decide ((d.2-c.2)*cr u v q<(v.2-u.2)*cr c d q)):=by
 rw[dI ((jm hd).2 hcd),adl,Bool.eq_iff_iff]
 simp only[Bool.and_eq_true,decide_eq_true_eq]
 rw[iq hd]
 unfold sc zz
 dsimp only
 rw[jm hd,BC hd]
 omega
theorem Uc {q u v c d:Pt}(hcd:c.2<=d.2)(hu:0<v.2-u.2)(hA:0<cr u v q)(h:bT (zz q u v) (sc (v.2-u.2) c) (sc (v.2-u.2) d)=true):bT q c d=true:=by
 rw[Du hcd hu] at h
 rw[dI hcd]
 simp only[Bool.and_eq_true,decide_eq_true_eq] at h ⊢
 refine⟨h.1,?_⟩
 have:=Int.mul_nonneg (show 0<=d.2-c.2 by omega) (Int.le_of_lt hA)
 exact (iq hu).1 (by omega)
theorem aa9 {q u v c d:Pt}(huv:u.2<=v.2)(hcd:c.2<=d.2)(h1:bT q u v=true)(h2:bT q c d=true)(hm:bI u v c d=false):(bT (zz q u v) (sc (v.2-u.2) c) (sc (v.2-u.2) d) ^^ bT (zz q c d) (sc (d.2-c.2) u) (sc (d.2-c.2) v))=true:=by
 obtain⟨a1,a2,a3⟩:=kN huv h1
 obtain⟨b1,b2,b3⟩:=kN hcd h2
 have hd1:0<v.2-u.2:=by omega
 have hd2:0<d.2-c.2:=by omega
 rw[Du hcd hd1,Du huv hd2,show decide (c.2<=q.2/\q.2<d.2)=true by simp;omega,show decide (u.2<=q.2/\q.2<v.2)=true by simp;omega]
 simp only[Bool.true_and]
 rcases Int.lt_trichotomy ((d.2-c.2)*cr u v q) ((v.2-u.2)*cr c d q) with h|h|h
 ·rw[decide_eq_true h,decide_eq_false (by omega)]
  rfl
 ·exfalso
  have e1:=Ub a1 a2
  have e2:=Ub b1 b2
  rw[<-mf hd2] at e1
  rw[<-mf hd1] at e2
  have ez:sc (d.2-c.2) (zz q u v)=sc (v.2-u.2) (zz q c d):=by
   unfold sc zz
   apply Prod.ext
   ·dsimp only
    unfold cr at h
    grind
   ·dsimp only
    grind
  have es:∀p:Pt,sc (d.2-c.2) (sc (v.2-u.2) p)=sc ((d.2-c.2)*(v.2-u.2)) p:=fun p=>by
   unfold sc
   apply Prod.ext<;>dsimp only<;>grind
  have es2:∀p:Pt,sc (v.2-u.2) (sc (d.2-c.2) p)=sc ((d.2-c.2)*(v.2-u.2)) p:=fun p=>by
   unfold sc
   apply Prod.ext<;>dsimp only<;>grind
  rw[es,es] at e1
  rw[es2,es2,<-ez] at e2
  have hE:=Int.mul_pos hd2 hd1
  have:=common (show (sc ((d.2-c.2)*(v.2-u.2)) u).2<(sc ((d.2-c.2)*(v.2-u.2)) v).2 from (BC hE).2 (by omega)) e1 e2
  rw[Ed hE,hm] at this
  cases this
 ·rw[decide_eq_false (by omega),decide_eq_true h]
  rfl
def ng (p:Pt):Pt:=(-p.1,-p.2)
def tr (p:Pt):Pt:=(p.2,p.1)
theorem LK (a b p:Pt):cr (ng a) (ng b) (ng p)=cr a b p:=by unfold cr ng;grind
theorem LJ (a b p:Pt):cr (tr a) (tr b) (tr p)=-cr a b p:=by unfold cr tr;grind
theorem Aw (p a b:Pt):eF (ng p) (ng a) (ng b)=eF p a b:=by
 rw[Bool.eq_iff_iff,dw,dw,LK]
 unfold ng
 dsimp only
 omega
theorem Au (p a b:Pt):eF (tr p) (tr a) (tr b)=eF p a b:=by
 rw[Bool.eq_iff_iff,dw,dw,LJ]
 unfold tr
 dsimp only
 omega
theorem Zm (a b u v:Pt):lM (ng a) (ng b) (ng u) (ng v)=lM a b u v:=by
 rw[Bool.eq_iff_iff,eY,eY,LK,LK,LK,LK]
theorem Zk (a b u v:Pt):lM (tr a) (tr b) (tr u) (tr v)=lM a b u v:=by
 rw[Bool.eq_iff_iff,eY,eY,LJ,LJ,LJ,LJ]
 omega
theorem KD (a b u v:Pt):bI (ng a) (ng b) (ng u) (ng v)=bI a b u v:=by
 unfold bI
 rw[Zm,Aw,Aw,Aw,Aw]
theorem KA (a b u v:Pt):bI (tr a) (tr b) (tr u) (tr v)=bI a b u v:=by
 unfold bI
 rw[Zk,Au,Au,Au,Au]
theorem yB {u v c d z:Pt}(h1:eF z u v=true)(hm:bI u v c d=false):bI u z c d=false:=by
 rcases Int.lt_trichotomy u.2 v.2 with h|h|h
 ·exact ve h h1 hm
 ·rcases Int.lt_trichotomy u.1 v.1 with k|k|k
  ·rw[<-Au] at h1
   rw[<-KA] at hm ⊢
   exact ve (u:=tr u) (v:=tr v) k h1 hm
  ·have hz:=(dw.1 h1).2
   have:z=v:=Prod.ext (by omega) (by omega)
   rw[this]
   exact hm
  ·rw[<-Au,<-Aw] at h1
   rw[<-KA,<-KD] at hm ⊢
   exact ve (u:=ng (tr u)) (v:=ng (tr v)) (show -u.1 < -v.1 by omega) h1 hm
 ·rw[<-Aw] at h1
  rw[<-KD] at hm ⊢
  exact ve (u:=ng u) (v:=ng v) (show -u.2 < -v.2 by omega) h1 hm
theorem dX (ps:List Pt)(i:Nat):ai ps i=ai ps (i%ps.length):=by unfold ai;rw[Nat.mod_mod]
end Go.Proofs.YtlkgjmnjhifehaaGreat
