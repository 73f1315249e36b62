/- Where a place is does not change along a segment that meets no edge: the parity of the crossings. Discs: a segment that meets an edge brings its ends near it. Two polygons that touch, in. -/
import Derived.Test.YtlkgjmnjhifehaaGreatPgX
set_option linter.unusedSimpArgs false
set_option linter.unusedVariables false
namespace Go.Proofs.YtlkgjmnjhifehaaGreat
theorem oQ {x y:Int}(h:x*y<0)(hy:0<y):x<0:=by
 rcases Int.lt_or_le x 0 with h1|h1
 ·exact h1
 ·have:=Int.mul_nonneg h1 (Int.le_of_lt hy)
  omega
theorem uh {x y:Int}(h:0<x*y)(hy:0<y):0<x:=by
 rcases Int.lt_or_le 0 x with h1|h1
 ·exact h1
 ·have:=Int.mul_nonneg (show 0<=-x by omega) (Int.le_of_lt hy)
  rw[Int.neg_mul] at this
  omega
theorem wX {x y:Int}(h:x*y=0)(hy:0<y):x=0:=by
 rcases Int.mul_eq_zero.1 h with h|h
 ·exact h
 ·omega
theorem qU {x y:Int}(hx:x<=0)(hy:0<=y):x*y<=0:=by
 have:=Int.mul_nonneg (show 0<=-x by omega) hy
 rw[Int.neg_mul] at this
 omega
theorem Aw {x:Int}:0<sg x↔0<x:=by rcases dN x with⟨h,e⟩|⟨h,e⟩|⟨h,e⟩<;>rw[e]<;>omega
theorem vN {x:Int}:sg x<0↔x<0:=by rcases dN x with⟨h,e⟩|⟨h,e⟩|⟨h,e⟩<;>rw[e]<;>omega
theorem CX {x:Int}:sg x=0↔x=0:=by rcases dN x with⟨h,e⟩|⟨h,e⟩|⟨h,e⟩<;>rw[e]<;>omega
theorem U1 {x y:Int}:sg x*sg y<0↔(x<0/\0<y)\/(0<x/\y<0):=by
 rcases dN x with⟨h,e⟩|⟨h,e⟩|⟨h,e⟩<;>rcases dN y with⟨k,f⟩|⟨k,f⟩|⟨k,f⟩<;>rw[e,f]<;>omega
theorem nZ (a b p:Pt):cr b a p=- cr a b p:=by unfold cr;grind
theorem dB {p a b:Pt}:eG p a b=true↔cr a b p=0/\(min a.1 b.1<=p.1/\p.1<=max a.1 b.1)/\(min a.2 b.2<=p.2/\p.2<=max a.2 b.2):=by
 unfold eG tn
 rw[decide_eq_true_eq,CX]
theorem jI (p a b:Pt):eG p b a=eG p a b:=by
 rw[Bool.eq_iff_iff,dB,dB,nZ,Int.min_comm,Int.max_comm,Int.min_comm b.2,Int.max_comm b.2]
 omega
theorem ed {a b c d:Pt}:lG a b c d=true↔((cr a b c<0/\0<cr a b d)\/(0<cr a b c/\cr a b d<0))/\((cr c d a<0/\0<cr c d b)\/(0<cr c d a/\cr c d b<0)):=by
 unfold lG tn
 rw[Bool.and_eq_true,decide_eq_true_eq,decide_eq_true_eq,U1,U1]
theorem Ox (a b c d:Pt):lG b a c d=lG a b c d:=by
 rw[Bool.eq_iff_iff,ed,ed,nZ a b c,nZ a b d]
 omega
theorem Ov (a b c d:Pt):lG a b d c=lG a b c d:=by
 rw[Bool.eq_iff_iff,ed,ed,nZ c d a,nZ c d b]
 omega
theorem Ti (a b c d:Pt):lG c d a b=lG a b c d:=by unfold lG;rw[Bool.and_comm]
theorem qY (a b c d:Pt):bC b a c d=bC a b c d:=by
 unfold bC
 rw[Ox,jI c a b,jI d a b]
 cases lG a b c d<;>cases eG a c d<;>cases eG b c d<;>rfl
theorem qX (a b c d:Pt):bC a b d c=bC a b c d:=by
 unfold bC
 rw[Ov,jI a c d,jI b c d]
 cases lG a b c d<;>cases eG a c d<;>cases eG b c d<;>cases eG c a b<;>cases eG d a b<;>rfl
theorem iG (a b c d:Pt):bC c d a b=bC a b c d:=by
 unfold bC
 rw[Ti]
 cases lG a b c d<;>cases eG a c d<;>cases eG b c d<;>cases eG c a b<;>cases eG d a b<;>rfl
theorem mi {a b u v:Pt}(h:bC a b u v=false):lG a b u v=false/\eG a u v=false/\eG b u v=false/\eG u a b=false/\eG v a b=false:=by
 unfold bC at h
 simpa using h
theorem fU (q a b:Pt):bu q b a=bu q a b:=by
 unfold bu
 rcases Int.lt_trichotomy a.2 b.2 with h|h|h
 ·rw[if_pos h,if_neg (by omega)]
 ·rw[if_neg (by omega),if_neg (by omega),h]
  have:∀x y:Bool,(decide (b.2<=q.2/\q.2<b.2)&&x)=(decide (b.2<=q.2/\q.2<b.2)&&y):=by
   intro x y
   rw[show decide (b.2<=q.2/\q.2<b.2)=false by simp]
   rfl
  exact this _ _
 ·rw[if_neg (by omega),if_pos h]
theorem dL {q u v:Pt}(h:u.2<=v.2):bu q u v=(decide (u.2<=q.2/\q.2<v.2)&&decide (0<cr u v q)):=by
 unfold bu
 rw[if_neg (by omega)]
 congr 1
 rw[decide_eq_decide]
 exact Aw
theorem idU (a b u v:Pt):cr a b u*(v.2-u.2)=-cr u v a*(b.2-u.2)+cr u v b*(a.2-u.2):=by unfold cr;grind
theorem idV (a b u v:Pt):cr a b v*(v.2-u.2)=cr u v a*(v.2-b.2)-cr u v b*(v.2-a.2):=by unfold cr;grind
theorem xQ {p u v:Pt}(h:cr u v p=0)(h1:u.2<=p.2)(h2:p.2<=v.2)(h3:u.2<v.2):eG p u v=true:=by
 rw[dB]
 refine⟨h,?_,by omega⟩
 have e:(p.1-u.1)*(v.2-u.2)=(v.1-u.1)*(p.2-u.2):=by unfold cr at h;grind
 have e2:(v.1-p.1)*(v.2-u.2)=(v.1-u.1)*(v.2-p.2):=by unfold cr at h;grind
 rcases Int.le_total u.1 v.1 with h4|h4
 ·have a1:=Int.mul_nonneg (show 0<=v.1-u.1 by omega) (show 0<=p.2-u.2 by omega)
  have a2:=Int.mul_nonneg (show 0<=v.1-u.1 by omega) (show 0<=v.2-p.2 by omega)
  rw[<-e] at a1
  rw[<-e2] at a2
  have b1:¬ p.1-u.1<0:=fun hn=>by
   have:=Int.mul_pos (show 0 < -(p.1-u.1) by omega) (show 0<v.2-u.2 by omega)
   rw[Int.neg_mul] at this
   omega
  have b2:¬ v.1-p.1<0:=fun hn=>by
   have:=Int.mul_pos (show 0 < -(v.1-p.1) by omega) (show 0<v.2-u.2 by omega)
   rw[Int.neg_mul] at this
   omega
  omega
 ·have a1:=qU (show v.1-u.1<=0 by omega) (show 0<=p.2-u.2 by omega)
  have a2:=qU (show v.1-u.1<=0 by omega) (show 0<=v.2-p.2 by omega)
  rw[<-e] at a1
  rw[<-e2] at a2
  have b1:¬ 0<p.1-u.1:=fun hn=>by
   have:=Int.mul_pos hn (show 0<v.2-u.2 by omega)
   omega
  have b2:¬ 0<v.1-p.1:=fun hn=>by
   have:=Int.mul_pos hn (show 0<v.2-u.2 by omega)
   omega
  omega
def jG (a b w:Pt):Bool:=decide (a.2<w.2/\w.2<=b.2)&&decide (cr a b w<0)
theorem adS {A B U V u a v b:Int}(iU:U*(v-u)=-A*(b-u)+B*(a-u))(iV:V*(v-u)=A*(v-b)-B*(v-a))(h1:u<=a)(h2:a<v)(h3:v<=b)(hA:0<A)(hV:0<V):B<0/\U<0:=by
 have e1:=Int.mul_pos hV (show 0<v-u by omega)
 have e2:=Int.mul_nonneg (Int.le_of_lt hA) (show 0<=b-v by omega)
 have e3:A*(v-b)=-(A*(b-v)):=by grind
 have hB:B<0:=oQ (y:=v-a) (by omega) (by omega)
 have e4:=Int.mul_pos hA (show 0<b-u by omega)
 have e5:=qU (Int.le_of_lt hB) (show 0<=a-u by omega)
 rw[Int.neg_mul] at iU
 exact⟨hB,oQ (y:=v-u) (by omega) (by omega)⟩
theorem adR {A B U V u a v b:Int}(iU:U*(v-u)=-A*(b-u)+B*(a-u))(iV:V*(v-u)=A*(v-b)-B*(v-a))(h1:u<=a)(h2:a<=b)(h3:b<v)(hA:0<A)(hB:B<0):0<V/\(U<0\/(b=u/\a=u)):=by
 have e1:=Int.mul_pos hA (show 0<v-b by omega)
 have e2:=qU (Int.le_of_lt hB) (show 0<=v-a by omega)
 have hV:0<V:=uh (y:=v-u) (by omega) (by omega)
 refine⟨hV,?_⟩
 by_cases hbu:b=u
 ·exact .inr ⟨hbu,by omega⟩
 ·have e4:=Int.mul_pos hA (show 0<b-u by omega)
  have e5:=qU (Int.le_of_lt hB) (show 0<=a-u by omega)
  rw[Int.neg_mul] at iU
  exact .inl (oQ (y:=v-u) (by omega) (by omega))
theorem adQ {A B U V u a v b:Int}(iU:U*(v-u)=-A*(b-u)+B*(a-u))(iV:V*(v-u)=A*(v-b)-B*(v-a))(h1:a<u)(h2:u<=b)(h3:b<v)(hB:0<B)(hU:0<U):A<0/\V<0:=by
 have e1:=Int.mul_pos hU (show 0<v-u by omega)
 have e2:=Int.mul_pos hB (show 0<u-a by omega)
 have e3:B*(a-u)=-(B*(u-a)):=by grind
 rw[Int.neg_mul] at iU
 have hbu:¬ b=u:=fun e=>by rw[e,Int.sub_self,Int.mul_zero] at iU;omega
 have hA:A<0:=oQ (y:=b-u) (by omega) (by omega)
 have e4:=qU (Int.le_of_lt hA) (show 0<=v-b by omega)
 have e5:=Int.mul_pos hB (show 0<v-a by omega)
 exact⟨hA,oQ (y:=v-u) (by omega) (by omega)⟩
theorem IG {A B U x y z:Int}(h:U*x=-A*y+B*z):-U*x=- -A*y+-B*z:=by grind
theorem Dh {A B V x y z:Int}(h:V*x=A*y-B*z):-V*x=-A*y - -B*z:=by grind
theorem EJ {a b u v:Pt}(hab:a.2<=b.2)(huv:u.2<=v.2)(hm:bC a b u v=false):(bu a u v ^^ bu b u v)=(jG a b u ^^ jG a b v):=by
 obtain⟨hc,ha,hb,hu,hv⟩:=mi hm
 have hc':¬ (((cr a b u<0/\0<cr a b v)\/(0<cr a b u/\cr a b v<0))/\((cr u v a<0/\0<cr u v b)\/(0<cr u v a/\cr u v b<0))):=fun h=>by
  rw[ed.2 h] at hc
  cases hc
 have iU:=idU a b u v
 have iV:=idV a b u v
 have iA:=idU u v a b
 have iB:=idV u v a b
 rw[dL huv,dL huv]
 unfold jG
 have oa:u.2<=a.2->a.2<=v.2->u.2<v.2->cr u v a≠0:=fun h1 h2 h3 e=>by rw[xQ e h1 h2 h3] at ha;cases ha
 have ob:u.2<=b.2->b.2<=v.2->u.2<v.2->cr u v b≠0:=fun h1 h2 h3 e=>by rw[xQ e h1 h2 h3] at hb;cases hb
 have ou:a.2<=u.2->u.2<=b.2->a.2<b.2->cr a b u≠0:=fun h1 h2 h3 e=>by rw[xQ e h1 h2 h3] at hu;cases hu
 have ov:a.2<=v.2->v.2<=b.2->a.2<b.2->cr a b v≠0:=fun h1 h2 h3 e=>by rw[xQ e h1 h2 h3] at hv;cases hv
 have hcases:(v.2<=a.2)\/(b.2<u.2)\/(u.2<=a.2/\a.2<v.2/\v.2<=b.2)\/(u.2<=a.2/\b.2<v.2)\/(a.2<u.2/\v.2<=b.2)\/(a.2<u.2/\u.2<=b.2/\b.2<v.2):=by omega
 obtain⟨A,hA⟩:∃x,cr u v a=x:=⟨_,rfl⟩
 obtain⟨B,hB⟩:∃x,cr u v b=x:=⟨_,rfl⟩
 obtain⟨U,hU⟩:∃x,cr a b u=x:=⟨_,rfl⟩
 obtain⟨V,hV⟩:∃x,cr a b v=x:=⟨_,rfl⟩
 rcases hcases with h|h|⟨h1,h2,h3⟩|⟨h1,h2⟩|⟨h1,h2⟩|⟨h1,h2,h3⟩
 ·rw[show decide (u.2<=a.2/\a.2<v.2)=false by simp;omega,show decide (u.2<=b.2/\b.2<v.2)=false by simp;omega,show decide (a.2<u.2/\u.2<=b.2)=false by simp;omega,show decide (a.2<v.2/\v.2<=b.2)=false by simp;omega]
  rfl
 ·rw[show decide (u.2<=a.2/\a.2<v.2)=false by simp;omega,show decide (u.2<=b.2/\b.2<v.2)=false by simp;omega,show decide (a.2<u.2/\u.2<=b.2)=false by simp;omega,show decide (a.2<v.2/\v.2<=b.2)=false by simp;omega]
  rfl
 ·rw[show decide (u.2<=a.2/\a.2<v.2)=true by simp;omega,show decide (u.2<=b.2/\b.2<v.2)=false by simp;omega,show decide (a.2<u.2/\u.2<=b.2)=false by simp;omega,show decide (a.2<v.2/\v.2<=b.2)=true by simp;omega]
  have a0:=oa h1 (by omega) (by omega)
  have v0:=ov (by omega) h3 (by omega)
  rw[hA] at a0
  rw[hV] at v0
  rw[hA,hB,hU,hV] at hc'
  rw[hA,hV]
  rw[hU,hA,hB] at iU
  rw[hV,hA,hB] at iV
  have key:(0<A↔V<0):=by
   constructor
   ·intro h
    rcases Int.lt_trichotomy V 0 with h9|h9|h9
    ·exact h9
    ·exact absurd h9 v0
    ·obtain⟨x,y⟩:=adS iU iV h1 h2 h3 h h9
     exact absurd ⟨.inl ⟨y,h9⟩,.inr ⟨h,x⟩⟩ hc'
   ·intro h
    rcases Int.lt_trichotomy 0 A with h9|h9|h9
    ·exact h9
    ·exact absurd h9.symm a0
    ·obtain⟨x,y⟩:=adS (IG iU) (Dh iV) h1 h2 h3 (show 0 < -A by omega) (show 0 < -V by omega)
     exact absurd ⟨.inr ⟨by omega,h⟩,.inl ⟨h9,by omega⟩⟩ hc'
  simp[key]
 ·rw[show decide (u.2<=a.2/\a.2<v.2)=true by simp;omega,show decide (u.2<=b.2/\b.2<v.2)=true by simp;omega,show decide (a.2<u.2/\u.2<=b.2)=false by simp;omega,show decide (a.2<v.2/\v.2<=b.2)=false by simp;omega]
  have a0:=oa h1 (by omega) (by omega)
  have b0:=ob (by omega) (by omega) (by omega)
  have qA:u.2=a.2->b.2=a.2->(0<cr u v a/\cr u v b<0)\/(cr u v a<0/\0<cr u v b)->False:=by
   intro e1 e2 e3
   have x1:cr u v a=(v.2-u.2)*(u.1-a.1):=by unfold cr;rw[e1];grind
   have x2:cr u v b=(v.2-u.2)*(u.1-b.1):=by unfold cr;rw[e2,e1];grind
   have y0:cr a b u=0:=by unfold cr;rw[e1,e2];grind
   have hp:0<v.2-u.2:=by omega
   have hon:eG u a b=true:=by
    rw[dB]
    refine⟨y0,?_,by omega⟩
    rw[x1,x2,Int.mul_comm,Int.mul_comm (v.2-u.2)] at e3
    rcases e3 with⟨q1,q2⟩|⟨q1,q2⟩
    ·have:=uh q1 hp
     have:=oQ q2 hp
     omega
    ·have:=oQ q1 hp
     have:=uh q2 hp
     omega
   rw[hon] at hu
   cases hu
  rw[hA] at a0 qA
  rw[hB] at b0 qA
  rw[hA,hB,hU,hV] at hc'
  rw[hA,hB]
  rw[hU,hA,hB] at iU
  rw[hV,hA,hB] at iV
  have key:(0<A↔0<B):=by
   constructor
   ·intro h
    rcases Int.lt_trichotomy 0 B with h9|h9|h9
    ·exact h9
    ·exact absurd h9.symm b0
    ·obtain⟨x,y|⟨y1,y2⟩⟩:=adR iU iV h1 hab h2 h h9
     ·exact absurd ⟨.inl ⟨y,x⟩,.inr ⟨h,h9⟩⟩ hc'
     ·exact absurd (qA (by omega) (by omega) (.inl ⟨h,h9⟩)) id
   ·intro h
    rcases Int.lt_trichotomy 0 A with h9|h9|h9
    ·exact h9
    ·exact absurd h9.symm a0
    ·obtain⟨x,y|⟨y1,y2⟩⟩:=adR (IG iU) (Dh iV) h1 hab h2 (show 0 < -A by omega) (show -B<0 by omega)
     ·exact absurd ⟨.inr ⟨by omega,by omega⟩,.inl ⟨h9,h⟩⟩ hc'
     ·exact absurd (qA (by omega) (by omega) (.inr ⟨h9,h⟩)) id
  simp[key]
 ·rw[show decide (u.2<=a.2/\a.2<v.2)=false by simp;omega,show decide (u.2<=b.2/\b.2<v.2)=false by simp;omega,show decide (a.2<u.2/\u.2<=b.2)=true by simp;omega,show decide (a.2<v.2/\v.2<=b.2)=true by simp;omega]
  have u0:=ou (by omega) (by omega) (by omega)
  have v0:=ov (by omega) (by omega) (by omega)
  have qA:b.2=u.2->v.2=u.2->(0<cr a b u/\cr a b v<0)\/(cr a b u<0/\0<cr a b v)->False:=by
   intro e1 e2 e3
   have x1:cr a b u=(b.2-a.2)*(b.1-u.1):=by unfold cr;rw[e1];grind
   have x2:cr a b v=(b.2-a.2)*(b.1-v.1):=by unfold cr;rw[e2,e1];grind
   have y0:cr u v b=0:=by unfold cr;rw[e1,e2];grind
   have hp:0<b.2-a.2:=by omega
   have hon:eG b u v=true:=by
    rw[dB]
    refine⟨y0,?_,by omega⟩
    rw[x1,x2,Int.mul_comm,Int.mul_comm (b.2-a.2)] at e3
    rcases e3 with⟨q1,q2⟩|⟨q1,q2⟩
    ·have:=uh q1 hp
     have:=oQ q2 hp
     omega
    ·have:=oQ q1 hp
     have:=uh q2 hp
     omega
   rw[hon] at hb
   cases hb
  rw[hU] at u0 qA
  rw[hV] at v0 qA
  rw[hA,hB,hU,hV] at hc'
  rw[hU,hV]
  rw[hU,hA,hV] at iA
  rw[hU,hV,hB] at iB
  have aeX:∀A B U V:Int,A*(b.2-a.2)=-U*(v.2-a.2)+V*(u.2-a.2)->B*(b.2-a.2)=U*(b.2-v.2)-V*(b.2-u.2)->U<0->0<V->0<A/\(B<0\/(b.2=u.2/\v.2=u.2)):=by
   intro A B U V iA iB hU hV
   have e1:=Int.mul_pos hV (show 0<u.2-a.2 by omega)
   have e2:=qU (Int.le_of_lt hU) (show 0<=v.2-a.2 by omega)
   rw[Int.neg_mul] at iA
   refine⟨uh (y:=b.2-a.2) (by omega) (by omega),?_⟩
   by_cases hbu:b.2=u.2
   ·exact .inr ⟨hbu,by omega⟩
   ·have e3:=Int.mul_pos hV (show 0<b.2-u.2 by omega)
    have e4:=qU (Int.le_of_lt hU) (show 0<=b.2-v.2 by omega)
    exact .inl (oQ (y:=b.2-a.2) (by omega) (by omega))
  have key:(U<0↔V<0):=by
   constructor
   ·intro h
    rcases Int.lt_trichotomy V 0 with h9|h9|h9
    ·exact h9
    ·exact absurd h9 v0
    ·obtain⟨x,y|⟨y1,y2⟩⟩:=aeX A B U V iA iB h h9
     ·exact absurd ⟨.inl ⟨h,h9⟩,.inr ⟨x,y⟩⟩ hc'
     ·exact absurd (qA (by omega) (by omega) (.inr ⟨h,h9⟩)) id
   ·intro h
    rcases Int.lt_trichotomy U 0 with h9|h9|h9
    ·exact h9
    ·exact absurd h9 u0
    ·obtain⟨x,y|⟨y1,y2⟩⟩:=aeX (-A) (-B) (-U) (-V) (IG iA) (Dh iB) (by omega) (by omega)
     ·exact absurd ⟨.inr ⟨h9,h⟩,.inl ⟨by omega,by omega⟩⟩ hc'
     ·exact absurd (qA (by omega) (by omega) (.inl ⟨h9,h⟩)) id
  simp[key]
 ·rw[show decide (u.2<=a.2/\a.2<v.2)=false by simp;omega,show decide (u.2<=b.2/\b.2<v.2)=true by simp;omega,show decide (a.2<u.2/\u.2<=b.2)=true by simp;omega,show decide (a.2<v.2/\v.2<=b.2)=false by simp;omega]
  have b0:=ob (by omega) (by omega) (by omega)
  have u0:=ou (by omega) (by omega) (by omega)
  rw[hB] at b0
  rw[hU] at u0
  rw[hA,hB,hU,hV] at hc'
  rw[hB,hU]
  rw[hU,hA,hB] at iU
  rw[hV,hA,hB] at iV
  have key:(0<B↔U<0):=by
   constructor
   ·intro h
    rcases Int.lt_trichotomy U 0 with h9|h9|h9
    ·exact h9
    ·exact absurd h9 u0
    ·obtain⟨x,y⟩:=adQ iU iV h1 h2 h3 h h9
     exact absurd ⟨.inr ⟨h9,y⟩,.inl ⟨x,h⟩⟩ hc'
   ·intro h
    rcases Int.lt_trichotomy 0 B with h9|h9|h9
    ·exact h9
    ·exact absurd h9.symm b0
    ·obtain⟨x,y⟩:=adQ (IG iU) (Dh iV) h1 h2 h3 (show 0 < -B by omega) (show 0 < -U by omega)
     exact absurd ⟨.inl ⟨h,by omega⟩,.inr ⟨by omega,h9⟩⟩ hc'
  simp[key]
theorem SX {a b u v:Pt}(hab:a.2<=b.2)(hm:bC a b u v=false):(bu a u v ^^ bu b u v)=(jG a b u ^^ jG a b v):=by
 rcases Int.le_total u.2 v.2 with h|h
 ·exact EJ hab h hm
 ·rw[<-fU a u v,<-fU b u v,Bool.xor_comm (jG a b u)]
  exact EJ hab h (by rw[qX];exact hm)
theorem Iq {ps:List Pt}{a b:Pt}(hab:a.2<=b.2):∀n,(∀i,i<n->bC a b (ah ps i) (ah ps (i+1))=false)->(par ps a (List.range n) ^^ par ps b (List.range n))=(jG a b (ah ps 0) ^^ jG a b (ah ps n))
 | 0,_=>by simp[par]
 | n+1,h=>by
  have ih:=Iq hab n (fun i hi=>h i (by omega))
  have he:=SX hab (h n (by omega))
  rw[List.range_succ,sQ,sQ]
  revert ih he
  generalize par ps a (List.range n)=x1
  generalize par ps b (List.range n)=x2
  generalize bu a (ah ps n) (ah ps (n+1))=x3
  generalize bu b (ah ps n) (ah ps (n+1))=x4
  generalize jG a b (ah ps 0)=x5
  generalize jG a b (ah ps n)=x6
  generalize jG a b (ah ps (n+1))=x7
  revert x1 x2 x3 x4 x5 x6 x7
  decide
theorem uK (ps:List Pt):ah ps ps.length=ah ps 0:=by unfold ah;rw[Nat.mod_self,Nat.zero_mod]
theorem xq {ps:List Pt}{a b:Pt}(h:∀i,i<ps.length->bC a b (ah ps i) (ah ps (i+1))=false):par ps a (List.range ps.length)=par ps b (List.range ps.length):=by
 rcases Int.le_total a.2 b.2 with hab|hab
 ·have:=Iq hab ps.length h
  rw[uK,Bool.xor_self] at this
  simpa using this
 ·have:=Iq (ps:=ps) hab ps.length (fun i hi=>by rw[qY];exact h i hi)
  rw[uK,Bool.xor_self] at this
  have:par ps b (List.range ps.length)=par ps a (List.range ps.length):=by simpa using this
  exact this.symm
def jb (p q:Pt):Int:=(q.1-p.1)*(q.1-p.1)+(q.2-p.2)*(q.2-p.2)
theorem sq_nonneg (x:Int):0<=x*x:=by
 rcases Int.le_total 0 x with h|h
 ·exact Int.mul_nonneg h h
 ·have:=Int.mul_nonneg (show 0<=-x by omega) (show 0<=-x by omega)
  rw[Int.neg_mul_neg] at this
  exact this
theorem Pq {x y:Int}(h:-y<=x/\x<=y):x*x<=y*y:=by
 have h1:=Int.mul_nonneg (show 0<=y-x by omega) (show 0<=y+x by omega)
 have e:(y-x)*(y+x)=y*y-x*x:=by grind
 omega
theorem Po {x y:Int}(h:-y<x/\x<y):x*x<y*y:=by
 have h1:=Int.mul_pos (show 0<y-x by omega) (show 0<y+x by omega)
 have e:(y-x)*(y+x)=y*y-x*x:=by grind
 omega
theorem Nb (p q:Pt):0<=jb p q:=by
 unfold jb
 have h1:=sq_nonneg (q.1-p.1)
 have h2:=sq_nonneg (q.2-p.2)
 omega
theorem xe {p q:Pt}(h:q≠p):0<jb p q:=by
 unfold jb
 have h1:=sq_nonneg (q.1-p.1)
 have h2:=sq_nonneg (q.2-p.2)
 by_cases e:q.1=p.1
 ·have e2:q.2≠p.2:=fun e2=>h (Prod.ext e e2)
  have:0<(q.2-p.2)*(q.2-p.2):=by
   rcases Int.lt_or_lt_of_ne e2 with h3|h3
   ·have:=Int.mul_pos (show 0 < -(q.2-p.2) by omega) (show 0 < -(q.2-p.2) by omega)
    rwa [Int.neg_mul_neg] at this
   ·exact Int.mul_pos (by omega) (by omega)
  omega
 ·have:0<(q.1-p.1)*(q.1-p.1):=by
   rcases Int.lt_or_lt_of_ne e with h3|h3
   ·have:=Int.mul_pos (show 0 < -(q.1-p.1) by omega) (show 0 < -(q.1-p.1) by omega)
    rwa [Int.neg_mul_neg] at this
   ·exact Int.mul_pos (by omega) (by omega)
  omega
theorem Aq (p u v:Pt):0<(oM p u v).2.2:=by
 unfold oM
 split
 ·exact Int.zero_lt_one
 ·split
  ·exact Int.zero_lt_one
  ·dsimp only
   omega
theorem Pn (p u v:Pt){k m:Int}(hk:0<=k)(Qb:k<=m):m*m*((oM p u v).1*(oM p u v).2.1)<=((m*(p.1-u.1)-k*(v.1-u.1))*(m*(p.1-u.1)-k*(v.1-u.1))+(m*(p.2-u.2)-k*(v.2-u.2))*(m*(p.2-u.2)-k*(v.2-u.2)))*(oM p u v).2.2:=by
 unfold oM
 have hm:0<=m:=by omega
 have hL:0<=dt u v v:=by
  unfold dt
  have h1:=sq_nonneg (v.1-u.1)
  have h2:=sq_nonneg (v.2-u.2)
  omega
 have hkL:=Int.mul_nonneg (Int.mul_nonneg hk hk) hL
 split
 ·rename_i h
  dsimp only
  have e:((m*(p.1-u.1)-k*(v.1-u.1))*(m*(p.1-u.1)-k*(v.1-u.1))+(m*(p.2-u.2)-k*(v.2-u.2))*(m*(p.2-u.2)-k*(v.2-u.2)))=m*m*dt u p p+2*(m*k*-dt u v p)+k*k*dt u v v:=by unfold dt;grind
  have h1:=Int.mul_nonneg (Int.mul_nonneg hm hk) (show 0<=-dt u v p by omega)
  rw[e,Int.mul_one,Int.mul_one]
  omega
 ·split
  ·rename_i h0 h
   dsimp only
   have e:((m*(p.1-u.1)-k*(v.1-u.1))*(m*(p.1-u.1)-k*(v.1-u.1))+(m*(p.2-u.2)-k*(v.2-u.2))*(m*(p.2-u.2)-k*(v.2-u.2)))=m*m*dt v p p+2*(m*(m-k)*(dt u v p-dt u v v))+(m-k)*(m-k)*dt u v v:=by unfold dt;grind
   have h1:=Int.mul_nonneg (Int.mul_nonneg hm (show 0<=m-k by omega)) (show 0<=dt u v p-dt u v v by omega)
   have h2:=Int.mul_nonneg (Int.mul_nonneg (show 0<=m-k by omega) (show 0<=m-k by omega)) hL
   rw[e,Int.mul_one,Int.mul_one]
   omega
  ·dsimp only
   have en:((cr u v p).natAbs:Int)*((cr u v p).natAbs:Int)=cr u v p*cr u v p:=Int.natAbs_mul_self
   rw[en]
   have e:((m*(p.1-u.1)-k*(v.1-u.1))*(m*(p.1-u.1)-k*(v.1-u.1))+(m*(p.2-u.2)-k*(v.2-u.2))*(m*(p.2-u.2)-k*(v.2-u.2)))*dt u v v=m*m*(cr u v p*cr u v p)+(m*dt u v p-k*dt u v v)*(m*dt u v p-k*dt u v v):=by unfold dt cr;grind
   have h1:=sq_nonneg (m*dt u v p-k*dt u v v)
   rw[e]
   omega
theorem RS {m x y:Int}(hm:0<m)(h:m*m*x<=m*m*y):x<=y:=by
 rcases Int.lt_or_le y x with h1|h1
 ·have:=Int.mul_lt_mul_of_pos_left h1 (Int.mul_pos hm hm)
  omega
 ·exact h1
theorem J4 (p:Pt){q u v:Pt}(h:eG q u v=true):(oM p u v).1*(oM p u v).2.1<=jb p q*(oM p u v).2.2:=by
 rw[dB] at h
 obtain⟨h0,h1,h2⟩:=h
 have hc:(v.1-u.1)*(q.2-u.2)=(v.2-u.2)*(q.1-u.1):=by unfold cr at h0;omega
 have key:∃k m:Int,0<=k/\k<=m/\0<m/\m*(q.1-u.1)=k*(v.1-u.1)/\m*(q.2-u.2)=k*(v.2-u.2):=by
  by_cases hz:u.1=v.1/\u.2=v.2
  ·refine⟨0,1,by omega,by omega,by omega,?_,?_⟩<;>omega
  ·rcases Int.le_total u.1 v.1 with a1|a1<;>rcases Int.le_total u.2 v.2 with a2|a2
   ·exact⟨(q.1-u.1)+(q.2-u.2),(v.1-u.1)+(v.2-u.2),by omega,by omega,by omega,by grind,by grind⟩
   ·exact⟨(q.1-u.1)-(q.2-u.2),(v.1-u.1)-(v.2-u.2),by omega,by omega,by omega,by grind,by grind⟩
   ·exact⟨-(q.1-u.1)+(q.2-u.2),-(v.1-u.1)+(v.2-u.2),by omega,by omega,by omega,by grind,by grind⟩
   ·exact⟨-(q.1-u.1)-(q.2-u.2),-(v.1-u.1)-(v.2-u.2),by omega,by omega,by omega,by grind,by grind⟩
 obtain⟨k,m,hk,Qb,hm,e1,e2⟩:=key
 have:=Pn p u v hk Qb
 refine RS hm ?_
 have e:(m*(p.1-u.1)-k*(v.1-u.1))*(m*(p.1-u.1)-k*(v.1-u.1))+(m*(p.2-u.2)-k*(v.2-u.2))*(m*(p.2-u.2)-k*(v.2-u.2))=m*m*jb p q:=by
  rw[<-e1,<-e2]
  unfold jb
  grind
 rw[e,Int.mul_assoc (m*m)] at this
 exact this
theorem kQ (u v:Pt):eG u u v=true:=by
 rw[dB]
 refine⟨by unfold cr;grind,by omega,by omega⟩
theorem nN (u v:Pt):eG v u v=true:=by
 rw[dB]
 refine⟨by unfold cr;grind,by omega,by omega⟩
theorem abS {p o q:Pt}(h:eG q p o=true):jb p q<=jb p o/\(q≠o->jb p q<jb p o):=by
 rw[dB] at h
 obtain⟨_,h1,h2⟩:=h
 have a:∀x y z:Int,min x z<=y->y<=max x z->(y-x)*(y-x)<=(z-x)*(z-x)/\(y≠z->(y-x)*(y-x)<(z-x)*(z-x)):=by
  intro x y z h1 h2
  rcases Int.le_total x z with h|h
  ·refine⟨Pq (by omega),fun hne=>Po (by omega)⟩
  ·have e1:(z-x)*(z-x)=(x-z)*(x-z):=by grind
   rw[e1]
   refine⟨Pq (by omega),fun hne=>Po (by omega)⟩
 have a1:=a p.1 q.1 o.1 (by omega) (by omega)
 have a2:=a p.2 q.2 o.2 (by omega) (by omega)
 unfold jb
 refine⟨by omega,fun hne=>?_⟩
 by_cases e:q.1=o.1
 ·have:=a2.2 (fun e2=>hne (Prod.ext e e2))
  omega
 ·have:=a1.2 e
  omega
theorem GH {p o u v:Pt}(h:bC p o u v=true):(oM p u v).1*(oM p u v).2.1<=jb p o*(oM p u v).2.2/\(eG o u v=false->o≠p->(oM p u v).1*(oM p u v).2.1<jb p o*(oM p u v).2.2):=by
 have h3:=Aq p u v
 have mono:∀q:Pt,eG q u v=true->eG q p o=true->(oM p u v).1*(oM p u v).2.1<=jb p o*(oM p u v).2.2/\(eG o u v=false->o≠p->(oM p u v).1*(oM p u v).2.1<jb p o*(oM p u v).2.2):=by
  intro q h1 h2
  have a:=J4 p h1
  obtain⟨b1,b2⟩:=abS h2
  have c:=Int.mul_le_mul_of_nonneg_right b1 (Int.le_of_lt h3)
  refine⟨by omega,fun ho _=>?_⟩
  have:=b2 (fun e=>by rw[<-e,h1] at ho;cases ho)
  have c:=Int.mul_lt_mul_of_pos_right this h3
  omega
 unfold bC at h
 simp only[Bool.or_eq_true] at h
 rcases h with h|h|h|h|h
 ·rw[ed] at h
  have hAB:cr u v p-cr u v o=cr p o v-cr p o u:=by unfold cr;grind
  have i1:(cr p o v-cr p o u)*(p.1-u.1)+cr p o u*(v.1-u.1)=-cr u v p*(o.1-p.1):=by unfold cr;grind
  have i2:(cr p o v-cr p o u)*(p.2-u.2)+cr p o u*(v.2-u.2)=-cr u v p*(o.2-p.2):=by unfold cr;grind
  obtain⟨A,hA⟩:∃x,cr u v p=x:=⟨_,rfl⟩
  obtain⟨B,hB⟩:∃x,cr u v o=x:=⟨_,rfl⟩
  obtain⟨U,hU⟩:∃x,cr p o u=x:=⟨_,rfl⟩
  obtain⟨V,hV⟩:∃x,cr p o v=x:=⟨_,rfl⟩
  rw[hA,hB,hU,hV] at h
  rw[hA,hB,hU,hV] at hAB
  rw[hA,hU,hV] at i1 i2
  have hop:0<jb p o:=xe fun e=>by rw[e] at hB;omega
  have key:∃k m:Int,0<=k/\k<=m/\0<m/\(A*A<m*m)/\(m*(p.1-u.1)-k*(v.1-u.1))*(m*(p.1-u.1)-k*(v.1-u.1))+(m*(p.2-u.2)-k*(v.2-u.2))*(m*(p.2-u.2)-k*(v.2-u.2))=A*A*jb p o:=by
   rcases h with⟨⟨h1,h2⟩|⟨h1,h2⟩,h4⟩
   ·refine⟨-U,V-U,by omega,by omega,by omega,?_,?_⟩
    ·exact Po (by omega)
    ·have e1:(V-U)*(p.1-u.1) - -U*(v.1-u.1)=-A*(o.1-p.1):=by rw[<-i1];grind
     have e2:(V-U)*(p.2-u.2) - -U*(v.2-u.2)=-A*(o.2-p.2):=by rw[<-i2];grind
     rw[e1,e2]
     unfold jb
     grind
   ·refine⟨U,U-V,by omega,by omega,by omega,?_,?_⟩
    ·exact Po (by omega)
    ·have e1:(U-V)*(p.1-u.1)-U*(v.1-u.1)=A*(o.1-p.1):=by
      have:A*(o.1-p.1)=-(-A*(o.1-p.1)):=by grind
      rw[this,<-i1];grind
     have e2:(U-V)*(p.2-u.2)-U*(v.2-u.2)=A*(o.2-p.2):=by
      have:A*(o.2-p.2)=-(-A*(o.2-p.2)):=by grind
      rw[this,<-i2];grind
     rw[e1,e2]
     unfold jb
     grind
  obtain⟨k,m,hk,Qb,hm,hlt,hE⟩:=key
  have hs:=Pn p u v hk Qb
  rw[hE] at hs
  have hY:=Int.mul_pos hop h3
  have hl:=Int.mul_lt_mul_of_pos_right hlt hY
  rw[Int.mul_assoc (A*A)] at hs
  have hfin:(oM p u v).1*(oM p u v).2.1<jb p o*(oM p u v).2.2:=by
   rcases Int.lt_or_le ((oM p u v).1*(oM p u v).2.1) (jb p o*(oM p u v).2.2) with h1|h1
   ·exact h1
   ·have:=Int.mul_le_mul_of_nonneg_left h1 (Int.le_of_lt (Int.mul_pos hm hm))
    omega
  exact⟨by omega,fun _ _=>hfin⟩
 ·have a:=J4 p h
  have e0:jb p p=0:=by unfold jb;grind
  rw[e0,Int.zero_mul] at a
  have b:=Int.mul_nonneg (Nb p o) (Int.le_of_lt h3)
  refine⟨by omega,fun _ hne=>?_⟩
  have:=Int.mul_pos (xe hne) h3
  omega
 ·exact mono o h (nN p o)
 ·exact mono u (kQ u v) h
 ·exact mono v (nN u v) h
theorem jl (ps:List Pt)(q:Pt):(fM ps q=true/\placeOf ps q=0)\/(fM ps q=false/\par ps q (List.range ps.length)=true/\placeOf ps q=1)\/(fM ps q=false/\par ps q (List.range ps.length)=false/\placeOf ps q=-1):=by
 unfold placeOf
 cases fM ps q<;>cases par ps q (List.range ps.length)<;>simp
theorem BK {ps:List Pt}{a b:Pt}(h:0<=placeOf ps a)(h2:placeOf ps b<0):a≠b/\∃i,i<ps.length/\bC a b (ah ps i) (ah ps (i+1))=true:=by
 refine⟨fun e=>by rw[e] at h;omega,?_⟩
 rcases jl ps a with⟨e,f⟩|⟨e,g,f⟩|⟨e,g,f⟩
 ·unfold fM at e
  rw[List.any_eq_true] at e
  obtain⟨i,hi,ho⟩:=e
  exact⟨i,List.mem_range.1 hi,by unfold bC;rw[ho];simp⟩
 ·rcases jl ps b with⟨e',f'⟩|⟨e',g',f'⟩|⟨e',g',f'⟩
  ·omega
  ·omega
  ·by_cases hm:∃i,i<ps.length/\bC a b (ah ps i) (ah ps (i+1))=true
   ·exact hm
   ·have:=xq (ps:=ps) (a:=a) (b:=b) (fun i hi=>by
     cases h:bC a b (ah ps i) (ah ps (i+1))
     ·rfl
     ·exact absurd ⟨i,hi,h⟩ hm)
    rw[g,g'] at this
    cases this
 ·omega
theorem Lp {ps:List Pt}{at' other:Pt}{r:Int}(hn:jb at' other<=r*r):(iM ps at' r=1->0<=placeOf ps other)/\(iM ps at' r=-1->placeOf ps other<0):=by
 unfold iM
 by_cases hp:0<=placeOf ps at'
 ·rw[if_pos hp]
  refine⟨fun h=>?_,fun h=>by split at h<;>cases h⟩
  have ha:iK ps at' r (List.range ps.length)=true:=by
   cases hx:iK ps at' r (List.range ps.length)
   ·rw[hx] at h;simp at h
   ·rfl
  rcases Int.lt_or_le (placeOf ps other) 0 with hlt|hle
  ·obtain⟨hne,i,hi,hm⟩:=BK hp hlt
   obtain⟨_,h2⟩:=GH hm
   have hno:eG other (ah ps i) (ah ps (i+1))=false:=by
    rcases jl ps other with⟨e,f⟩|⟨e,g,f⟩|⟨e,g,f⟩
    ·omega
    ·omega
    ·unfold fM at e
     rw[List.any_eq_false] at e
     simpa using e i (List.mem_range.2 hi)
   have h3:=h2 hno (fun e=>hne e.symm)
   unfold iK at ha
   rw[List.all_eq_true] at ha
   have h4:=ha i (List.mem_range.2 hi)
   unfold apartB at h4
   rw[decide_eq_true_eq] at h4
   have h5:=Int.mul_le_mul_of_nonneg_right hn (Int.le_of_lt (Aq at' (ah ps i) (ah ps (i+1))))
   omega
  ·exact hle
 ·rw[if_neg hp]
  refine⟨fun h=>(by split at h<;>cases h),fun h=>?_⟩
  have ha:nV ps at' r (List.range ps.length)=false:=by
   cases hx:nV ps at' r (List.range ps.length)
   ·rfl
   ·rw[hx] at h;simp at h
  rcases Int.lt_or_le (placeOf ps other) 0 with hlt|hle
  ·exact hlt
  ·obtain⟨hne,i,hi,hm⟩:=BK hle (show placeOf ps at'<0 by omega)
   rw[<-qY] at hm
   obtain⟨h2,_⟩:=GH hm
   unfold nV at ha
   rw[List.any_eq_false] at ha
   have h4:=ha i (List.mem_range.2 hi)
   unfold o6 at h4
   rw[decide_eq_true_eq] at h4
   have h5:=Int.mul_le_mul_of_nonneg_right hn (Int.le_of_lt (Aq at' (ah ps i) (ah ps (i+1))))
   omega
theorem Gx {p a:Pt}{r:Int}(h:o6 p a a r=true):jb a p<=r*r:=by
 unfold o6 oM at h
 rw[decide_eq_true_eq] at h
 have e:dt a a p=0:=by unfold dt;grind
 rw[if_pos (by omega)] at h
 have e2:dt a p p=jb a p:=by unfold dt jb;grind
 rw[e2] at h
 dsimp only at h
 omega
theorem PI {ps:List Pt}(h:dm ps=true){i:Nat}(hi:i<ps.length):mQ ps i=true:=by
 unfold dm at h
 simp only[Bool.and_eq_true] at h
 exact List.all_eq_true.1 h.2.1 i (List.mem_range.2 hi)
def GI (ps qs:List Pt)(i k:Nat):Bool:=bC (ah ps i) (ah ps (i+1)) (ah qs k) (ah qs (k+1))
def DK (ps qs:List Pt)(i:Nat):Bool:=(List.range qs.length).any (GI ps qs i)
def jT (ps qs:List Pt):Bool:=(List.range ps.length).any (DK ps qs)
def vO (ps qs:List Pt):Bool:=jT ps qs||(placeOf ps (ah qs 0)==1||placeOf qs (ah ps 0)==1)
def sJ (ps qs:List Pt):Bool×Int:=if (dm ps&&dm qs)=true then (vO ps qs,0) else (false,1)
def sc (d:Int)(p:Pt):Pt:=(d*p.1,d*p.2)
theorem wI (d:Int)(a b p:Pt):cr (sc d a) (sc d b) (sc d p)=d*d*cr a b p:=by unfold cr sc;grind
theorem yF {d:Int}(hd:0<d):0<d*d:=Int.mul_pos hd hd
theorem iF {m x:Int}(hm:0<m):0<m*x↔0<x:=by
 constructor
 ·intro h
  rw[Int.mul_comm] at h
  exact uh h hm
 ·exact Int.mul_pos hm
theorem gJ {m x:Int}(hm:0<m):m*x<0↔x<0:=by
 constructor
 ·intro h
  rw[Int.mul_comm] at h
  exact oQ h hm
 ·intro h
  have:=Int.mul_pos hm (show 0 < -x by omega)
  rw[Int.mul_neg] at this
  omega
theorem nH {m x:Int}(hm:0<m):m*x=0↔x=0:=by
 constructor
 ·intro h
  rw[Int.mul_comm] at h
  exact wX h hm
 ·intro h
  rw[h,Int.mul_zero]
theorem jo {m x y:Int}(hm:0<m):m*x<=m*y↔x<=y:=by
 constructor
 ·intro h
  rcases Int.lt_or_le y x with h1|h1
  ·have:=Int.mul_lt_mul_of_pos_left h1 hm
   omega
  ·exact h1
 ·exact fun h=>Int.mul_le_mul_of_nonneg_left h (Int.le_of_lt hm)
theorem zh {m x y:Int}(hm:0<m):m*x<m*y↔x<y:=by
 rw[<-Int.not_le,jo hm,Int.not_le]
theorem VM {d x y:Int}(hd:0<d):min (d*x) (d*y)=d*min x y:=by
 rcases Int.le_total x y with h|h
 ·rw[Int.min_eq_left h,Int.min_eq_left ((jo hd).2 h)]
 ·rw[Int.min_eq_right h,Int.min_eq_right ((jo hd).2 h)]
theorem VT {d x y:Int}(hd:0<d):max (d*x) (d*y)=d*max x y:=by
 rcases Int.le_total x y with h|h
 ·rw[Int.max_eq_right h,Int.max_eq_right ((jo hd).2 h)]
 ·rw[Int.max_eq_left h,Int.max_eq_left ((jo hd).2 h)]
theorem mg {d:Int}(hd:0<d)(p a b:Pt):eG (sc d p) (sc d a) (sc d b)=eG p a b:=by
 rw[Bool.eq_iff_iff,dB,dB,wI,nH (yF hd)]
 unfold sc
 dsimp only
 rw[VM hd,VT hd,VM hd,VT hd,jo hd,jo hd,jo hd,jo hd]
theorem Zy {d:Int}(hd:0<d)(a b u v:Pt):lG (sc d a) (sc d b) (sc d u) (sc d v)=lG a b u v:=by
 have h:=yF hd
 rw[Bool.eq_iff_iff,ed,ed,wI,wI,wI,wI,iF h,iF h,iF h,iF h,gJ h,gJ h,gJ h,gJ h]
theorem zk {d:Int}(hd:0<d)(a b u v:Pt):bC (sc d a) (sc d b) (sc d u) (sc d v)=bC a b u v:=by
 unfold bC
 rw[Zy hd,mg hd,mg hd,mg hd,mg hd]
theorem G9 {d:Int}(hd:0<d)(q a b:Pt):bu (sc d q) (sc d a) (sc d b)=bu q a b:=by
 have h:=yF hd
 have up:∀q a b:Pt,a.2<=b.2->bu (sc d q) (sc d a) (sc d b)=bu q a b:=by
  intro q a b hab
  rw[dL hab,dL (show (sc d a).2<=(sc d b).2 from (jo hd).2 hab),wI,Bool.eq_iff_iff]
  simp only[Bool.and_eq_true,decide_eq_true_eq]
  rw[iF h]
  unfold sc
  dsimp only
  rw[jo hd,zh hd]
 rcases Int.le_total a.2 b.2 with hab|hab
 ·exact up q a b hab
 ·rw[<-fU,<-fU q]
  exact up q b a hab
theorem aH (d:Int)(ps:List Pt)(i:Nat):ah (ps.map (sc d)) i=sc d (ah ps i):=by
 unfold ah
 rw[List.length_map,List.getD_eq_getElem?_getD,List.getD_eq_getElem?_getD,List.getElem?_map]
 cases ps[i%ps.length]?
 ·unfold sc
  simp
 ·rfl
theorem Vo {d:Int}(hd:0<d)(ps:List Pt)(q:Pt):∀n,par (ps.map (sc d)) (sc d q) (List.range n)=par ps q (List.range n)
 | 0=>rfl
 | n+1=>by rw[List.range_succ,sQ,sQ,Vo hd ps q n,aH,aH,G9 hd]
theorem aff {u v z:Pt}(h:cr u v z=0)(c d:Pt):(v.2-u.2)*cr c d z=(v.2-z.2)*cr c d u+(z.2-u.2)*cr c d v:=by
 unfold cr at *
 grind
theorem ER {u v c d z:Pt}(hneg:cr c d u<0)(huv:u.2<v.2)(h1:eG z u v=true)(h2:eG z c d=true):bC u v c d=true:=by
 have Lm:eG u c d=true->bC u v c d=true:=fun h=>by unfold bC;rw[h];simp
 have done2:eG v c d=true->bC u v c d=true:=fun h=>by unfold bC;rw[h];simp
 have Qk:eG c u v=true->bC u v c d=true:=fun h=>by unfold bC;rw[h];simp
 have Xk:eG d u v=true->bC u v c d=true:=fun h=>by unfold bC;rw[h];simp
 have k1:=dB.1 h1
 have k2:=dB.1 h2
 have hz:u.2<=z.2/\z.2<=v.2:=by omega
 have e0:=aff k1.1 c d
 rw[k2.1,Int.mul_zero] at e0
 have hAB:cr u v c-cr u v d=cr c d v-cr c d u:=by unfold cr;grind
 by_cases z1:z.2=u.2
 ·have:z=u:=by
   have hx:=k1.1
   unfold cr at hx
   rw[z1,Int.sub_self,Int.mul_zero] at hx
   have:(z.1-u.1)=0:=wX (y:=v.2-u.2) (by rw[Int.mul_comm];omega) (by omega)
   exact Prod.ext (by omega) z1
  rw[this] at h2
  exact Lm h2
 by_cases z2:z.2=v.2
 ·have:z=v:=by
   have hx:=k1.1
   unfold cr at hx
   rw[z2] at hx
   have h3:(v.1-z.1)*(v.2-u.2)=0:=by grind
   have:=wX h3 (by omega)
   exact Prod.ext (by omega) z2
  rw[this] at h2
  exact done2 h2
 have p1:0<v.2-z.2:=by omega
 have p2:0<z.2-u.2:=by omega
 obtain⟨e,he⟩:∃x,cr c d u=x:=⟨_,rfl⟩
 obtain⟨f,hf⟩:∃x,cr c d v=x:=⟨_,rfl⟩
 obtain⟨a,ha⟩:∃x,cr u v c=x:=⟨_,rfl⟩
 obtain⟨b,hb⟩:∃x,cr u v d=x:=⟨_,rfl⟩
 have e1:=hneg
 rw[he] at e1
 rw[he,hf] at e0
 rw[ha,hb,he,hf] at hAB
 have x1:=(gJ p1).2 e1
 have f1:0<f:=(iF p2).1 (by omega)
 by_cases a0:0<a/\b<0
 ·unfold bC
  rw[ed.2 ⟨.inr (by rw[ha,hb];exact a0),.inl (by rw[he,hf];exact⟨e1,f1⟩)⟩]
  rfl
 ·have key:∃k m:Int,0<=k/\k<=m/\0<m/\(m-k)*a+k*b=0/\(k=0->z=c)/\(k=m->z=d):=by
   have hc:(d.1-c.1)*(z.2-c.2)=(d.2-c.2)*(z.1-c.1):=by have:=k2.1;unfold cr at this;omega
   have hk:∀k m:Int,0<m->m*(z.1-c.1)=k*(d.1-c.1)->m*(z.2-c.2)=k*(d.2-c.2)->(m-k)*a+k*b=0/\(k=0->z=c)/\(k=m->z=d):=by
    intro k m hm m1 m2
    refine⟨?_,fun hk=>?_,fun hk=>?_⟩
    ·have:(m-k)*a+k*b=m*cr u v z:=by rw[<-ha,<-hb];unfold cr;grind
     rw[this,k1.1,Int.mul_zero]
    ·rw[hk,Int.zero_mul] at m1 m2
     have:=(nH hm).1 m1
     have:=(nH hm).1 m2
     exact Prod.ext (by omega) (by omega)
    ·rw[hk] at m1 m2
     have:=Int.eq_of_mul_eq_mul_left (by omega) m1
     have:=Int.eq_of_mul_eq_mul_left (by omega) m2
     exact Prod.ext (by omega) (by omega)
   by_cases hz:c.1=d.1/\c.2=d.2
   ·have:=hk 0 1 (by omega) (by omega) (by omega)
    exact⟨0,1,by omega,by omega,by omega,this⟩
   ·rcases Int.le_total c.1 d.1 with a1|a1<;>rcases Int.le_total c.2 d.2 with a2|a2
    ·exact⟨(z.1-c.1)+(z.2-c.2),(d.1-c.1)+(d.2-c.2),by omega,by omega,by omega,hk _ _ (by omega) (by grind) (by grind)⟩
    ·exact⟨(z.1-c.1)-(z.2-c.2),(d.1-c.1)-(d.2-c.2),by omega,by omega,by omega,hk _ _ (by omega) (by grind) (by grind)⟩
    ·exact⟨-(z.1-c.1)+(z.2-c.2),-(d.1-c.1)+(d.2-c.2),by omega,by omega,by omega,hk _ _ (by omega) (by grind) (by grind)⟩
    ·exact⟨-(z.1-c.1)-(z.2-c.2),-(d.1-c.1)-(d.2-c.2),by omega,by omega,by omega,hk _ _ (by omega) (by grind) (by grind)⟩
  obtain⟨k,m,hk,Qb,hm,h5,h6,h7⟩:=key
  by_cases k0:k=0
  ·rw[h6 k0] at h1
   exact Qk h1
  ·by_cases km:k=m
   ·rw[h7 km] at h1
    exact Xk h1
   ·have q1:0<k:=by omega
    have q2:0<m-k:=by omega
    rcases Int.lt_trichotomy a 0 with a1|a1|a1
    ·have:=(gJ q2).2 a1
     have:=(iF q1).1 (show 0<k*b by omega)
     omega
    ·rw[a1,Int.mul_zero] at h5
     have:=(nH q1).1 (show k*b=0 by omega)
     omega
    ·have:=(iF q2).2 a1
     have:=(gJ q1).1 (show k*b<0 by omega)
     exact absurd ⟨a1,this⟩ a0
theorem common {u v c d z:Pt}(huv:u.2<v.2)(h1:eG z u v=true)(h2:eG z c d=true):bC u v c d=true:=by
 rcases Int.lt_trichotomy (cr c d u) 0 with e1|e1|e1
 ·exact ER e1 huv h1 h2
 ·have Lm:eG u c d=true->bC u v c d=true:=fun h=>by unfold bC;rw[h];simp
  have Qk:eG c u v=true->bC u v c d=true:=fun h=>by unfold bC;rw[h];simp
  have Xk:eG d u v=true->bC u v c d=true:=fun h=>by unfold bC;rw[h];simp
  have k1:=dB.1 h1
  have k2:=dB.1 h2
  have hz:u.2<=z.2/\z.2<=v.2:=by omega
  have e0:=aff k1.1 c d
  rw[k2.1,Int.mul_zero,e1,Int.mul_zero,Int.zero_add] at e0
  by_cases z1:z.2=u.2
  ·have:z=u:=by
    have hx:=k1.1
    unfold cr at hx
    rw[z1,Int.sub_self,Int.mul_zero] at hx
    have:(z.1-u.1)=0:=wX (y:=v.2-u.2) (by rw[Int.mul_comm];omega) (by omega)
    exact Prod.ext (by omega) z1
   rw[this] at h2
   exact Lm h2
  have f0:cr c d v=0:=(nH (show 0<z.2-u.2 by omega)).1 e0.symm
  by_cases hcd:c.2=d.2
  ·have hc1:c.1=d.1:=by
    unfold cr at e1
    rw[hcd,Int.sub_self,Int.zero_mul] at e1
    rcases Int.mul_eq_zero.1 (show (d.1-c.1)*(u.2-d.2)=0 by omega) with h|h
    ·omega
    ·omega
   have:z=c:=Prod.ext (by omega) (by omega)
   rw[this] at h1
   exact Qk h1
  ·have ia:=idU u v c d
   have ib:=idV u v c d
   rw[e1,f0] at ia ib
   simp only[Int.neg_zero,Int.zero_mul,Int.add_zero,Int.sub_zero] at ia ib
   have a0:cr u v c=0:=by
    rcases Int.mul_eq_zero.1 ia with h|h
    ·exact h
    ·omega
   have b0:cr u v d=0:=by
    rcases Int.mul_eq_zero.1 ib with h|h
    ·exact h
    ·omega
   by_cases x1:u.2<=c.2/\c.2<=v.2
   ·exact Qk (xQ a0 x1.1 x1.2 huv)
   ·by_cases x2:u.2<=d.2/\d.2<=v.2
    ·exact Xk (xQ b0 x2.1 x2.2 huv)
    ·rcases Int.lt_or_le c.2 d.2 with x3|x3
     ·exact Lm (xQ e1 (by omega) (by omega) x3)
     ·refine Lm ?_
      rw[<-jI]
      exact xQ (by rw[nZ,e1];rfl) (by omega) (by omega) (by omega)
 ·rw[<-qX]
  exact ER (by rw[nZ];omega) huv h1 (by rw[jI];exact h2)
theorem sF {u v c d z:Pt}(huv:u.2<v.2)(h1:eG z u v=true)(hm:bC u v c d=false):bC u z c d=false:=by
 cases h:bC u z c d
 ·rfl
 ·exfalso
  have no:∀q,eG q u v=true->eG q c d=true->False:=fun q a b=>by rw[common huv a b] at hm;cases hm
  obtain⟨hc,_,_,hcu,hdu⟩:=mi hm
  have k1:=dB.1 h1
  have hz:u.2<=z.2/\z.2<=v.2:=by omega
  have part:∀q,eG q u z=true->eG q u v=true:=by
   intro q hq
   have k3:=dB.1 hq
   by_cases zu:z.2=u.2
   ·have:z=u:=by
     have hx:=k1.1
     unfold cr at hx
     rw[zu,Int.sub_self,Int.mul_zero] at hx
     have:(z.1-u.1)=0:=wX (y:=v.2-u.2) (by rw[Int.mul_comm];omega) (by omega)
     exact Prod.ext (by omega) zu
    subst this
    have:q=z:=Prod.ext (by omega) (by omega)
    rw[this]
    exact h1
   ·refine xQ ?_ (by omega) (by omega) huv
    have:(z.2-u.2)*cr u v q=(v.2-u.2)*cr u z q:=by
     have a:=k1.1
     unfold cr at a ⊢
     grind
    rw[k3.1,Int.mul_zero] at this
    exact (nH (show 0<z.2-u.2 by omega)).1 this
  unfold bC at h
  simp only[Bool.or_eq_true] at h
  rcases h with h|h|h|h|h
  ·have h9:=ed.1 h
   have hzu:u.2<z.2:=by
    rcases Int.lt_or_le u.2 z.2 with h|h
    ·exact h
    ·exfalso
     have zu:z.2=u.2:=by omega
     have:z=u:=by
      have hx:=k1.1
      unfold cr at hx
      rw[zu,Int.sub_self,Int.mul_zero] at hx
      have:(z.1-u.1)=0:=wX (y:=v.2-u.2) (by rw[Int.mul_comm];omega) (by omega)
      exact Prod.ext (by omega) zu
     rw[this] at h9
     omega
   have p1:0<v.2-u.2:=by omega
   have p2:0<z.2-u.2:=by omega
   have p3:0<=v.2-z.2:=by omega
   have e0:=aff k1.1 c d
   have ac:(z.2-u.2)*cr u v c=(v.2-u.2)*cr u z c:=by have a:=k1.1;unfold cr at a ⊢;grind
   have ad:(z.2-u.2)*cr u v d=(v.2-u.2)*cr u z d:=by have a:=k1.1;unfold cr at a ⊢;grind
   have hcut:lG u v c d=true:=by
    rw[ed]
    refine⟨?_,?_⟩
    ·have s1:0<cr u v c↔0<cr u z c:=by rw[<-iF (x:=cr u v c) p2,ac,iF p1]
     have s2:cr u v c<0↔cr u z c<0:=by rw[<-gJ (x:=cr u v c) p2,ac,gJ p1]
     have s3:0<cr u v d↔0<cr u z d:=by rw[<-iF (x:=cr u v d) p2,ad,iF p1]
     have s4:cr u v d<0↔cr u z d<0:=by rw[<-gJ (x:=cr u v d) p2,ad,gJ p1]
     rw[s1,s2,s3,s4]
     exact h9.1
    ·rcases h9.2 with⟨x,y⟩|⟨x,y⟩
     ·have y2:=(iF p1).2 y
      have x2:=qU (Int.le_of_lt x) p3
      rw[Int.mul_comm] at x2
      exact .inl ⟨x,(iF p2).1 (by omega)⟩
     ·have y2:=(gJ p1).2 y
      have x2:=Int.mul_nonneg p3 (Int.le_of_lt x)
      exact .inr ⟨x,(gJ p2).1 (by omega)⟩
   rw[hcut] at hc
   cases hc
  ·exact no u (kQ u v) h
  ·exact no z h1 h
  ·have:=part c h
   rw[this] at hcu
   cases hcu
  ·have:=part d h
   rw[this] at hdu
   cases hdu
def kK (n:Nat)(g:Nat->Bool):Bool:=(List.range n).foldl (fun s i=>s ^^ g i) false
theorem jX (n:Nat)(g:Nat->Bool):kK (n+1) g=(kK n g ^^ g n):=by unfold kK;rw[List.range_succ,List.foldl_append];rfl
theorem pR {g h:Nat->Bool}:∀n,(∀i,i<n->g i=h i)->kK n g=kK n h
 | 0,_=>rfl
 | n+1,e=>by rw[jX,jX,pR n (fun i hi=>e i (by omega)),e n (by omega)]
theorem tK {g:Nat->Bool}:∀n,(∀i,i<n->g i=false)->kK n g=false
 | 0,_=>rfl
 | n+1,e=>by rw[jX,tK n (fun i hi=>e i (by omega)),e n (by omega)];rfl
theorem yL (g h:Nat->Bool):∀n,kK n (fun i=>g i ^^ h i)=(kK n g ^^ kK n h)
 | 0=>rfl
 | n+1=>by
  rw[jX,jX,jX,yL g h n]
  cases kK n g<;>cases kK n h<;>cases g n<;>cases h n<;>rfl
theorem vG (b:Bool)(g:Nat->Bool):∀n,kK n (fun i=>b&&g i)=(b&&kK n g)
 | 0=>by cases b<;>rfl
 | n+1=>by
  rw[jX,jX,vG b g n]
  cases b<;>cases kK n g<;>cases g n<;>rfl
theorem F9 (g:Nat->Nat->Bool)(m:Nat):∀n,kK n (fun i=>kK m (fun k=>g i k))=kK m (fun k=>kK n (fun i=>g i k))
 | 0=>(tK m fun _ _=>rfl).symm
 | n+1=>by
  rw[jX,F9 g m n,<-yL]
  exact pR m fun k _=>(jX n fun i=>g i k).symm
theorem Vl (ps:List Pt)(q:Pt)(n:Nat):par ps q (List.range n)=kK n fun i=>bu q (ah ps i) (ah ps (i+1)):=rfl
def lo (a b:Pt):Pt:=if a.2<=b.2 then a else b
def hi (a b:Pt):Pt:=if a.2<=b.2 then b else a
theorem Ep (a b:Pt):(lo a b=a/\hi a b=b/\a.2<=b.2)\/(lo a b=b/\hi a b=a/\b.2<=a.2):=by
 unfold lo hi
 by_cases h:a.2<=b.2
 ·exact .inl ⟨if_pos h,if_pos h,h⟩
 ·exact .inr ⟨if_neg h,if_neg h,by omega⟩
theorem xw (a b:Pt):(lo a b).2<=(hi a b).2:=by rcases Ep a b with⟨e,f,h⟩|⟨e,f,h⟩<;>rw[e,f]<;>exact h
theorem jy (q a b:Pt):bu q (lo a b) (hi a b)=bu q a b:=by
 rcases Ep a b with⟨e,f,h⟩|⟨e,f,h⟩<;>rw[e,f]
 exact fU q a b
theorem nO (a b c d:Pt):bC (lo a b) (hi a b) c d=bC a b c d:=by
 rcases Ep a b with⟨e,f,h⟩|⟨e,f,h⟩<;>rw[e,f]
 exact qY a b c d
theorem Ei (a b c d:Pt):bC a b (lo c d) (hi c d)=bC a b c d:=by
 rcases Ep c d with⟨e,f,h⟩|⟨e,f,h⟩<;>rw[e,f]
 exact qX a b c d
theorem iQ {q u v:Pt}(huv:u.2<=v.2)(h:bu q u v=true):u.2<=q.2/\q.2<v.2/\0<cr u v q:=by
 rw[dL huv] at h
 simp only[Bool.and_eq_true,decide_eq_true_eq] at h
 exact⟨h.1.1,h.1.2,h.2⟩
def zz (q u v:Pt):Pt:=((v.2-u.2)*u.1+(v.1-u.1)*(q.2-u.2),(v.2-u.2)*q.2)
theorem O6 {q u v:Pt}(h1:u.2<=q.2)(h2:q.2<v.2):eG (zz q u v) (sc (v.2-u.2) u) (sc (v.2-u.2) v)=true:=by
 have hd:0<v.2-u.2:=by omega
 refine xQ ?_ ?_ ?_ ?_
 ·unfold cr zz sc;grind
 ·exact (jo hd).2 h1
 ·exact (jo hd).2 (by omega)
 ·exact (zh hd).2 (by omega)
theorem adC (q u v c d:Pt):cr (sc (v.2-u.2) c) (sc (v.2-u.2) d) (zz q u v)=(v.2-u.2)*((v.2-u.2)*cr c d q-(d.2-c.2)*cr u v q):=by
 unfold cr zz sc;grind
theorem DC {q u v c d:Pt}(hcd:c.2<=d.2)(hd:0<v.2-u.2):bu (zz q u v) (sc (v.2-u.2) c) (sc (v.2-u.2) d)=(decide (c.2<=q.2/\q.2<d.2)&&decide ((d.2-c.2)*cr u v q<(v.2-u.2)*cr c d q)):=by
 rw[dL ((jo hd).2 hcd),adC,Bool.eq_iff_iff]
 simp only[Bool.and_eq_true,decide_eq_true_eq]
 rw[iF hd]
 unfold sc zz
 dsimp only
 rw[jo hd,zh hd]
 omega
theorem Hy {q u v c d:Pt}(hcd:c.2<=d.2)(hu:0<v.2-u.2)(hA:0<cr u v q)(h:bu (zz q u v) (sc (v.2-u.2) c) (sc (v.2-u.2) d)=true):bu q c d=true:=by
 rw[DC hcd hu] at h
 rw[dL hcd]
 simp only[Bool.and_eq_true,decide_eq_true_eq] at h ⊢
 refine⟨h.1,?_⟩
 have:=Int.mul_nonneg (show 0<=d.2-c.2 by omega) (Int.le_of_lt hA)
 exact (iF hu).1 (by omega)
theorem Ur {q u v c d:Pt}(huv:u.2<=v.2)(hcd:c.2<=d.2)(h1:bu q u v=true)(h2:bu q c d=true)(hm:bC u v c d=false):(bu (zz q u v) (sc (v.2-u.2) c) (sc (v.2-u.2) d) ^^ bu (zz q c d) (sc (d.2-c.2) u) (sc (d.2-c.2) v))=true:=by
 obtain⟨a1,a2,a3⟩:=iQ huv h1
 obtain⟨b1,b2,b3⟩:=iQ hcd h2
 have hd1:0<v.2-u.2:=by omega
 have hd2:0<d.2-c.2:=by omega
 rw[DC hcd hd1,DC huv hd2,show decide (c.2<=q.2/\q.2<d.2)=true by simp;omega,show decide (u.2<=q.2/\q.2<v.2)=true by simp;omega]
 simp only[Bool.true_and]
 rcases Int.lt_trichotomy ((d.2-c.2)*cr u v q) ((v.2-u.2)*cr c d q) with h|h|h
 ·rw[decide_eq_true h,decide_eq_false (by omega)]
  rfl
 ·exfalso
  have e1:=O6 a1 a2
  have e2:=O6 b1 b2
  rw[<-mg hd2] at e1
  rw[<-mg hd1] at e2
  have ez:sc (d.2-c.2) (zz q u v)=sc (v.2-u.2) (zz q c d):=by
   unfold sc zz
   apply Prod.ext
   ·dsimp only
    unfold cr at h
    grind
   ·dsimp only
    grind
  have es:∀p:Pt,sc (d.2-c.2) (sc (v.2-u.2) p)=sc ((d.2-c.2)*(v.2-u.2)) p:=fun p=>by
   unfold sc
   apply Prod.ext<;>dsimp only<;>grind
  have es2:∀p:Pt,sc (v.2-u.2) (sc (d.2-c.2) p)=sc ((d.2-c.2)*(v.2-u.2)) p:=fun p=>by
   unfold sc
   apply Prod.ext<;>dsimp only<;>grind
  rw[es,es] at e1
  rw[es2,es2,<-ez] at e2
  have hE:=Int.mul_pos hd2 hd1
  have:=common (show (sc ((d.2-c.2)*(v.2-u.2)) u).2<(sc ((d.2-c.2)*(v.2-u.2)) v).2 from (zh hE).2 (by omega)) e1 e2
  rw[zk hE,hm] at this
  cases this
 ·rw[decide_eq_false (by omega),decide_eq_true h]
  rfl
theorem Uo {qs:List Pt}{q u v:Pt}(huv:u.2<=v.2)(h:bu q u v=true)(hm:∀k,k<qs.length->bC u v (ah qs k) (ah qs (k+1))=false) :
  (kK qs.length fun k=>bu (zz q u v) (sc (v.2-u.2) (ah qs k)) (sc (v.2-u.2) (ah qs (k+1))))=par qs u (List.range qs.length):=by
 obtain⟨a1,a2,_⟩:=iQ huv h
 have hd:0<v.2-u.2:=by omega
 have hz:=O6 a1 a2
 have hpc:=xq (ps:=qs.map (sc (v.2-u.2))) (a:=sc (v.2-u.2) u) (b:=zz q u v) (fun k hk=>by
  rw[List.length_map] at hk
  rw[aH,aH]
  exact sF ((zh hd).2 (by omega)) hz (by rw[zk hd];exact hm k hk))
 rw[List.length_map,Vo hd] at hpc
 rw[hpc,Vl]
 exact pR _ fun k _=>by rw[aH,aH]
theorem RJ {ps qs:List Pt}{q:Pt}(hm:∀i,i<ps.length->∀k,k<qs.length->bC (ah ps i) (ah ps (i+1)) (ah qs k) (ah qs (k+1))=false)(h1:∀i,par qs (ah ps i) (List.range qs.length)=false)(h2:∀k,par ps (ah qs k) (List.range ps.length)=false) :
  (par ps q (List.range ps.length)&&par qs q (List.range qs.length))=false:=by
 let P:Nat->Bool:=fun i=>bu q (ah ps i) (ah ps (i+1))
 let Q:Nat->Bool:=fun k=>bu q (ah qs k) (ah qs (k+1))
 let pl:Nat->Pt:=fun i=>lo (ah ps i) (ah ps (i+1))
 let ph:Nat->Pt:=fun i=>hi (ah ps i) (ah ps (i+1))
 let ql:Nat->Pt:=fun k=>lo (ah qs k) (ah qs (k+1))
 let qh:Nat->Pt:=fun k=>hi (ah qs k) (ah qs (k+1))
 let G:Nat->Nat->Bool:=fun i k=>bu (zz q (pl i) (ph i)) (sc ((ph i).2-(pl i).2) (ah qs k)) (sc ((ph i).2-(pl i).2) (ah qs (k+1)))
 let H:Nat->Nat->Bool:=fun i k=>bu (zz q (ql k) (qh k)) (sc ((qh k).2-(ql k).2) (ah ps i)) (sc ((qh k).2-(ql k).2) (ah ps (i+1)))
 have hG:∀i k,G i k=bu (zz q (pl i) (ph i)) (sc ((ph i).2-(pl i).2) (ql k)) (sc ((ph i).2-(pl i).2) (qh k)):=by
  intro i k
  rcases Ep (ah qs k) (ah qs (k+1)) with⟨e,f,_⟩|⟨e,f,_⟩
  ·show bu _ _ _=bu _ (sc _ (lo (ah qs k) (ah qs (k+1)))) (sc _ (hi (ah qs k) (ah qs (k+1))))
   rw[e,f]
  ·show bu _ _ _=bu _ (sc _ (lo (ah qs k) (ah qs (k+1)))) (sc _ (hi (ah qs k) (ah qs (k+1))))
   rw[e,f,fU]
 have hH:∀i k,H i k=bu (zz q (ql k) (qh k)) (sc ((qh k).2-(ql k).2) (pl i)) (sc ((qh k).2-(ql k).2) (ph i)):=by
  intro i k
  rcases Ep (ah ps i) (ah ps (i+1)) with⟨e,f,_⟩|⟨e,f,_⟩
  ·show bu _ _ _=bu _ (sc _ (lo (ah ps i) (ah ps (i+1)))) (sc _ (hi (ah ps i) (ah ps (i+1))))
   rw[e,f]
  ·show bu _ _ _=bu _ (sc _ (lo (ah ps i) (ah ps (i+1)))) (sc _ (hi (ah ps i) (ah ps (i+1))))
   rw[e,f,fU]
 have hP:∀i,P i=bu q (pl i) (ph i):=fun i=>(jy q (ah ps i) (ah ps (i+1))).symm
 have hQ:∀k,Q k=bu q (ql k) (qh k):=fun k=>(jy q (ah qs k) (ah qs (k+1))).symm
 have hpl:∀i,(pl i).2<=(ph i).2:=fun i=>xw _ _
 have hql:∀k,(ql k).2<=(qh k).2:=fun k=>xw _ _
 have hmm:∀i,i<ps.length->∀k,k<qs.length->bC (pl i) (ph i) (ql k) (qh k)=false:=fun i hi k hk=>by
  show bC (lo _ _) (Go.Proofs.YtlkgjmnjhifehaaGreat.hi _ _) (lo _ _) (Go.Proofs.YtlkgjmnjhifehaaGreat.hi _ _)=false
  rw[nO,Ei]
  exact hm i hi k hk
 have s1:∀i,i<ps.length->kK qs.length (fun k=>P i&&G i k)=false:=by
  intro i hi
  rw[vG]
  cases hp:P i
  ·rfl
  ·have:=Uo (qs:=qs) (q:=q) (hpl i) (by rw[<-hP];exact hp) (fun k hk=>by
    show bC (lo _ _) (Go.Proofs.YtlkgjmnjhifehaaGreat.hi _ _) _ _=false
    rw[nO]
    exact hm i hi k hk)
   show (true&&kK qs.length (G i))=false
   rw[Bool.true_and]
   refine this.trans ?_
   show par qs (lo _ _) _=false
   rcases Ep (ah ps i) (ah ps (i+1)) with⟨e,_,_⟩|⟨e,_,_⟩<;>rw[e]<;>exact h1 _
 have s2:∀k,k<qs.length->kK ps.length (fun i=>Q k&&H i k)=false:=by
  intro k hk
  rw[vG]
  cases hq:Q k
  ·rfl
  ·have:=Uo (qs:=ps) (q:=q) (hql k) (by rw[<-hQ];exact hq) (fun i hi=>by
    show bC (lo _ _) (Go.Proofs.YtlkgjmnjhifehaaGreat.hi _ _) _ _=false
    rw[nO,<-iG]
    exact hm i hi k hk)
   show (true&&kK ps.length (fun i=>H i k))=false
   rw[Bool.true_and]
   refine this.trans ?_
   show par ps (lo _ _) _=false
   rcases Ep (ah qs k) (ah qs (k+1)) with⟨e,_,_⟩|⟨e,_,_⟩<;>rw[e]<;>exact h2 _
 have hT:∀i,i<ps.length->∀k,k<qs.length->(P i&&Q k)=((P i&&G i k) ^^ (Q k&&H i k)):=by
  intro i hi k hk
  cases hp:P i
  ·cases hq:Q k
   ·rfl
   ·have hh:H i k=false:=by
     cases hh:H i k
     ·rfl
     ·rw[hH] at hh
      rw[hQ] at hq
      obtain⟨c1,c2,c3⟩:=iQ (hql k) hq
      have:=Hy (hpl i) (by omega) c3 hh
      rw[<-hP,hp] at this
      cases this
    rw[hh]
    rfl
  ·cases hq:Q k
   ·have hg:G i k=false:=by
     cases hg:G i k
     ·rfl
     ·rw[hG] at hg
      rw[hP] at hp
      obtain⟨c1,c2,c3⟩:=iQ (hpl i) hp
      have:=Hy (hql k) (by omega) c3 hg
      rw[<-hQ,hq] at this
      cases this
    rw[hg]
    rfl
   ·have:=Ur (hpl i) (hql k) (by rw[<-hP];exact hp) (by rw[<-hQ];exact hq) (hmm i hi k hk)
    rw[hG,hH]
    simp only[Bool.true_and]
    exact this.symm
 have tot:kK ps.length (fun i=>kK qs.length (fun k=>P i&&Q k))=false:=by
  have e1:kK ps.length (fun i=>kK qs.length (fun k=>P i&&Q k))=kK ps.length (fun i=>kK qs.length (fun k=>P i&&G i k) ^^ kK qs.length (fun k=>Q k&&H i k)) :=
   pR _ fun i hi=>by
    rw[<-yL]
    exact pR _ fun k hk=>hT i hi k hk
  rw[e1,yL,tK _ s1,F9,tK _ s2]
  rfl
 have e2:kK ps.length (fun i=>kK qs.length (fun k=>P i&&Q k))=(par ps q (List.range ps.length)&&par qs q (List.range qs.length)):=by
  have:∀i,kK qs.length (fun k=>P i&&Q k)=(kK qs.length Q&&P i):=fun i=>by rw[vG,Bool.and_comm]
  simp only[this]
  rw[vG,Bool.and_comm]
  rfl
 rw[<-e2]
 exact tot
def ng (p:Pt):Pt:=(-p.1,-p.2)
def tr (p:Pt):Pt:=(p.2,p.1)
theorem LH (a b p:Pt):cr (ng a) (ng b) (ng p)=cr a b p:=by unfold cr ng;grind
theorem LG (a b p:Pt):cr (tr a) (tr b) (tr p)=-cr a b p:=by unfold cr tr;grind
theorem A8 (p a b:Pt):eG (ng p) (ng a) (ng b)=eG p a b:=by
 rw[Bool.eq_iff_iff,dB,dB,LH]
 unfold ng
 dsimp only
 omega
theorem AZ (p a b:Pt):eG (tr p) (tr a) (tr b)=eG p a b:=by
 rw[Bool.eq_iff_iff,dB,dB,LG]
 unfold tr
 dsimp only
 omega
theorem Zz (a b u v:Pt):lG (ng a) (ng b) (ng u) (ng v)=lG a b u v:=by
 rw[Bool.eq_iff_iff,ed,ed,LH,LH,LH,LH]
theorem Zx (a b u v:Pt):lG (tr a) (tr b) (tr u) (tr v)=lG a b u v:=by
 rw[Bool.eq_iff_iff,ed,ed,LG,LG,LG,LG]
 omega
theorem KD (a b u v:Pt):bC (ng a) (ng b) (ng u) (ng v)=bC a b u v:=by
 unfold bC
 rw[Zz,A8,A8,A8,A8]
theorem KA (a b u v:Pt):bC (tr a) (tr b) (tr u) (tr v)=bC a b u v:=by
 unfold bC
 rw[Zx,AZ,AZ,AZ,AZ]
theorem tV {u v c d z:Pt}(h1:eG z u v=true)(hm:bC u v c d=false):bC u z c d=false:=by
 rcases Int.lt_trichotomy u.2 v.2 with h|h|h
 ·exact sF h h1 hm
 ·rcases Int.lt_trichotomy u.1 v.1 with k|k|k
  ·rw[<-AZ] at h1
   rw[<-KA] at hm ⊢
   exact sF (u:=tr u) (v:=tr v) k h1 hm
  ·have hz:=(dB.1 h1).2
   have:z=v:=Prod.ext (by omega) (by omega)
   rw[this]
   exact hm
  ·rw[<-AZ,<-A8] at h1
   rw[<-KA,<-KD] at hm ⊢
   exact sF (u:=ng (tr u)) (v:=ng (tr v)) (show -u.1 < -v.1 by omega) h1 hm
 ·rw[<-A8] at h1
  rw[<-KD] at hm ⊢
  exact sF (u:=ng u) (v:=ng v) (show -u.2 < -v.2 by omega) h1 hm
theorem dV (ps:List Pt)(i:Nat):ah ps i=ah ps (i%ps.length):=by unfold ah;rw[Nat.mod_mod]
theorem pV {ps qs:List Pt}:jT ps qs=false↔∀i,i<ps.length->∀k,k<qs.length->bC (ah ps i) (ah ps (i+1)) (ah qs k) (ah qs (k+1))=false:=by
 unfold jT DK GI
 rw[List.any_eq_false]
 constructor
 ·intro h i hi k hk
  have:=h i (List.mem_range.2 hi)
  rw[Bool.not_eq_true,List.any_eq_false] at this
  simpa using this k (List.mem_range.2 hk)
 ·intro h i hi
  rw[Bool.not_eq_true,List.any_eq_false]
  intro k hk
  rw[h i (List.mem_range.1 hi) k (List.mem_range.1 hk)]
  simp
theorem FD (ps qs:List Pt):jT qs ps=jT ps qs:=by
 have key:∀a b:List Pt,jT a b=false->jT b a=false:=by
  intro a b h
  rw[pV] at h ⊢
  intro k hk i hi
  rw[iG]
  exact h i hi k hk
 cases h:jT ps qs
 ·exact key _ _ h
 ·cases h2:jT qs ps
  ·rw[key _ _ h2] at h
   cases h
  ·rfl
theorem Cf {ps qs:List Pt}(hq:0<qs.length)(hm:∀i,i<ps.length->∀k,k<qs.length->bC (ah ps i) (ah ps (i+1)) (ah qs k) (ah qs (k+1))=false)(h0:placeOf ps (ah qs 0)≠1):∀k,par ps (ah qs k) (List.range ps.length)=false/\fM ps (ah qs k)=false:=by
 have hon:∀k,k<qs.length->fM ps (ah qs k)=false:=by
  intro k hk
  unfold fM
  rw[List.any_eq_false]
  intro i hi
  have:=(mi (hm i (List.mem_range.1 hi) k hk)).2.2.2.1
  rw[this]
  simp
 have Jb:∀k,k<qs.length->par ps (ah qs k) (List.range ps.length)=false:=by
  intro k
  induction k with
  | zero =>
   intro hk
   rcases jl ps (ah qs 0) with⟨e,f⟩|⟨e,g,f⟩|⟨e,g,f⟩
   ·rw[hon 0 hk] at e;cases e
   ·exact absurd f h0
   ·exact g
  | succ k ih =>
   intro hk
   rw[<-ih (by omega)]
   exact (xq (ps:=ps) (a:=ah qs k) (b:=ah qs (k+1)) (fun i hi=>by rw[iG];exact hm i hi k (by omega))).symm
 intro k
 rw[dV]
 exact⟨Jb _ (Nat.mod_lt _ hq),hon _ (Nat.mod_lt _ hq)⟩
theorem EZ {ps qs:List Pt}{q:Pt}(hm:∀i,i<ps.length->∀k,k<qs.length->bC (ah ps i) (ah ps (i+1)) (ah qs k) (ah qs (k+1))=false)(h1:∀i,par qs (ah ps i) (List.range qs.length)=false)(h:fM ps q=true):placeOf qs q=-1:=by
 unfold fM at h
 rw[List.any_eq_true] at h
 obtain⟨i,hi,ho⟩:=h
 have hs:∀k,k<qs.length->bC (ah ps i) q (ah qs k) (ah qs (k+1))=false:=fun k hk=>tV ho (hm i (List.mem_range.1 hi) k hk)
 have hp:=xq (ps:=qs) hs
 rw[h1 i] at hp
 rcases jl qs q with⟨e,f⟩|⟨e,g,f⟩|⟨e,g,f⟩
 ·unfold fM at e
  rw[List.any_eq_true] at e
  obtain⟨k,hk,hok⟩:=e
  have:=(mi (hs k (List.mem_range.1 hk))).2.2.1
  rw[hok] at this
  cases this
 ·rw[g] at hp;cases hp
 ·exact f
theorem H8 {ps qs:List Pt}{q:Pt}(hp:0<ps.length)(hq:0<qs.length)(h1:0<=placeOf ps q)(h2:0<=placeOf qs q):vO ps qs=true:=by
 cases h:vO ps qs
 ·exfalso
  unfold vO at h
  simp only[Bool.or_eq_false_iff,beq_eq_false_iff_ne] at h
  obtain⟨ht,hc1,hc2⟩:=h
  have hm:=pV.1 ht
  have hm2:=pV.1 ((FD ps qs).trans ht)
  have o1:=Cf hq hm hc1
  have o2:=Cf hp hm2 hc2
  rcases jl ps q with⟨e,f⟩|⟨e,g,f⟩|⟨e,g,f⟩
  ·have:=EZ hm (fun i=>(o2 i).1) e
   omega
  ·rcases jl qs q with⟨e',f'⟩|⟨e',g',f'⟩|⟨e',g',f'⟩
   ·have:=EZ hm2 (fun i=>(o1 i).1) e'
    omega
   ·have:=RJ (q:=q) hm (fun i=>(o2 i).1) (fun k=>(o1 k).1)
    rw[g,g'] at this
    cases this
   ·omega
  ·omega
 ·rfl
end Go.Proofs.YtlkgjmnjhifehaaGreat
