
import Derived.Test.YtlkgjmnjhifehaaGreatSecA
import Derived.Test.YtlkgjmnjhifehaaGreatItX
set_option linter.unusedSimpArgs false
set_option linter.unusedVariables false
namespace Go.Proofs.YtlkgjmnjhifehaaGreat
open Go.RowKit Go.Sort
theorem zU {a b:Int}:upper a b=true↔(0<b\/(b=0/\0<a)):=by simp[upper]
theorem IK {a b:Int}(h:upper a b=false)(h0:a≠0\/b≠0):upper (-a) (-b)=true:=by
 rw[zU]
 have:¬ (0<b\/(b=0/\0<a)):=by rw[<-zU,h];simp
 omega
theorem Jg (a b c d:Int):AZ (-a) (-b) (-c) (-d)=AZ a b c d:=by unfold AZ;rw[Int.neg_mul_neg,Int.neg_mul_neg]
theorem WU (a b c d:Int):AZ c d a b=- AZ a b c d:=by unfold AZ;rw[Int.mul_comm c b,Int.mul_comm d a];omega
theorem acp (a b c d e f:Int):AZ a b e f*d=AZ c d e f*b+AZ a b c d*f:=by
 unfold AZ
 simp only[Int.sub_mul]
 have e1:a*f*d=a*d*f:=by rw[Int.mul_assoc,Int.mul_comm f d,<-Int.mul_assoc]
 have e2:b*e*d=d*e*b:=by rw[Int.mul_comm b e,Int.mul_comm d e,Int.mul_assoc,Int.mul_assoc,Int.mul_comm b d]
 have e3:c*f*b=b*c*f:=by rw[Int.mul_comm b c,Int.mul_assoc,Int.mul_assoc,Int.mul_comm f b]
 omega
theorem zt {a b c d e f:Int}(hu:upper a b=true)(hv:upper c d=true)(hw:upper e f=true)(h1:0<=AZ a b c d)(h2:0<=AZ c d e f):0<=AZ a b e f:=by
 rw[zU] at hu hv hw
 rcases hv with hd|⟨rfl,hc⟩
 ·have h:=acp a b c d e f
  have q1:0<=AZ c d e f*b:=Int.mul_nonneg h2 (by omega)
  have q2:0<=AZ a b c d*f:=Int.mul_nonneg h1 (by omega)
  rcases Int.lt_or_le (AZ a b e f) 0 with hn|hn
  ·have:=Int.mul_neg_of_neg_of_pos hn hd
   omega
  ·exact hn
 ·have hb:b=0:=by
   rcases hu with hb|⟨hb,_⟩
   ·unfold AZ at h1
    have:=Int.mul_pos hb hc
    simp at h1
    omega
   ·exact hb
  subst hb
  have ha:0<a:=by omega
  have hf:0<=f:=by omega
  have:=Int.mul_nonneg (Int.le_of_lt ha) hf
  unfold AZ
  simp
  exact this
theorem SI {a b c d e f:Int}(ha:a≠0\/b≠0)(hc:c≠0\/d≠0)(he:e≠0\/f≠0)(h1:upper a b=upper c d)(h2:upper c d=upper e f)(k1:0<=AZ a b c d)(k2:0<=AZ c d e f):0<=AZ a b e f:=by
 cases hv:upper c d
 ·rw[hv] at h1 h2
  have:=zt (IK h1 ha) (IK hv hc) (IK h2.symm he) (by rw[Jg];exact k1) (by rw[Jg];exact k2)
  rwa [Jg] at this
 ·rw[hv] at h1 h2
  exact zt h1 hv h2.symm k1 k2
theorem Zq {a b c d:Int}:mg a b c d<=0↔(upper a b=true/\upper c d=false)\/(upper a b=upper c d/\0<=AZ a b c d):=by
 unfold mg
 cases upper a b<;>cases upper c d<;>simp
 all_goals (split<;>(try split)<;>omega)
theorem GV (a b c d:Int):mg c d a b=- mg a b c d:=by
 unfold mg
 rw[WU a b c d]
 cases upper a b<;>cases upper c d<;>simp
 all_goals (split<;>split<;>(try split)<;>(try split)<;>omega)
theorem Oq {a b c d e f:Int}(ha:a≠0\/b≠0)(hc:c≠0\/d≠0)(he:e≠0\/f≠0)(h1:mg a b c d<=0)(h2:mg c d e f<=0):mg a b e f<=0:=by
 rw[Zq] at *
 rcases h1 with⟨p1,p2⟩|⟨p1,p2⟩<;>rcases h2 with⟨q1,q2⟩|⟨q1,q2⟩
 ·rw[p2] at q1;cases q1
 ·exact .inl ⟨p1,by rw[<-q1];exact p2⟩
 ·exact .inl ⟨by rw[p1];exact q1,q2⟩
 ·exact .inr ⟨by rw[p1,q1],SI ha hc he p1 q1 p2 q2⟩
theorem Zr (a b c d:Int):mg a b c d=-1\/mg a b c d=0\/mg a b c d=1:=by
 unfold mg
 split
 ·split<;>simp
 ·split
  ·simp
  ·split<;>simp
theorem SY (a b:Int):mg a b a b=0:=by
 have:=GV a b a b
 omega
theorem acm {a b:Int}(h:sO a b=true):a≠0\/b≠0:=by simp[sO] at h;omega
def NZ (v:Int×Int):Prop:=v.1≠0\/v.2≠0
def Fp (u v:Int×Int):Int:=mg u.1 u.2 v.1 v.2
theorem LH (u v:Int×Int):Fp v u=- Fp u v:=GV ..
theorem aco (u v:Int×Int):Fp u v=-1\/Fp u v=0\/Fp u v=1:=Zr ..
theorem GN {u v w:Int×Int}(hu:NZ u)(hv:NZ v)(hw:NZ w)(h1:Fp u v<=0)(h2:Fp v w<=0):Fp u w<=0:=Oq hu hv hw h1 h2
theorem WS (u:Int×Int):Fp u u=0:=SY ..
theorem Vf {x y:Int}(h:sO x y=true):NZ (x,y):=acm h
def fH.fr (s:fH):Int×Int:=(s.fx,s.fy)
def fH.to (s:fH):Int×Int:=(s.tx,s.ty)
def hs (s:fH)(v:Int×Int):Bool:=s.has v.1 v.2
theorem abT (s:fH)(v:Int×Int):hs s v=if Fp s.fr s.to==-1 then (decide (Fp s.fr v<=0) && !decide (Fp s.to v<=0)) else if Fp s.fr s.to==1 then (decide (Fp s.fr v<=0) || !decide (Fp s.to v<=0)) else true:=rfl
def JY (ss:List fH)(v:Int×Int):Int×Int:=tu ss v.1 v.2
theorem Hw (ss:List fH)(v:Int×Int):JY ss v=match ss.find? (fun s=>hs s v) with|some s=>(s.jA,s.UO)|none=>(0,0):=rfl
def X4 (ss:List fH):Prop:=∀s∈ss,NZ s.fr/\NZ s.to
theorem abD {ss:List fH}(h:∀s∈ss,s.ok=true):X4 ss:=fun s hs=>by
 have:=h s hs
 simp only[fH.ok,yD,Bool.and_eq_true] at this
 exact⟨Vf this.1.1.1,Vf this.1.1.2⟩
def rk (L:List (Int×Int))(v:Int×Int):Nat:=(L.filter fun e=>decide (Fp e v<=0)).length
theorem filter_le {α:Type}{p q:α->Bool}:∀ (l:List α),(∀a∈l,p a=true->q a=true)->(l.filter p).length<=(l.filter q).length
 | [],_=>Nat.le_refl _
 | a::l,h=>by
  have ih:=filter_le l fun b hb=>h b (by simp[hb])
  have ha:=h a (by simp)
  rw[List.filter_cons,List.filter_cons]
  cases hp:p a
  ·cases hq:q a<;>simp<;>omega
  ·rw[ha hp]
   simp
   omega
theorem filter_lt {α:Type}{p q:α->Bool}:∀ (l:List α),(∀a∈l,p a=true->q a=true)->(∃a∈l,p a=false/\q a=true)->(l.filter p).length<(l.filter q).length
 | [],_,h=>by obtain⟨a,ha,_⟩:=h;cases ha
 | a::l,h,hx=>by
  have hle:=filter_le l fun b hb=>h b (by simp[hb])
  have ha:=h a (by simp)
  rw[List.filter_cons,List.filter_cons]
  cases hp:p a
  ·cases hq:q a
   ·obtain⟨b,hb,hpb,hqb⟩:=hx
    rcases List.mem_cons.1 hb with rfl|hb
    ·rw[hq] at hqb;cases hqb
    ·simpa using filter_lt l (fun b hb=>h b (by simp[hb])) ⟨b,hb,hpb,hqb⟩
   ·simp
    omega
  ·rw[ha hp]
   obtain⟨b,hb,hpb,hqb⟩:=hx
   rcases List.mem_cons.1 hb with rfl|hb
   ·rw[hp] at hpb;cases hpb
   ·have:=filter_lt l (fun b hb=>h b (by simp[hb])) ⟨b,hb,hpb,hqb⟩
    simpa using this
theorem H7 {L:List (Int×Int)}(hL:∀e∈L,NZ e){u v:Int×Int}(hu:u∈L)(hv:v∈L):Fp u v<=0↔rk L u<=rk L v:=by
 constructor
 ·intro h
  refine filter_le L fun e he hp=>?_
  rw[decide_eq_true_eq] at hp ⊢
  exact GN (hL e he) (hL u hu) (hL v hv) hp h
 ·intro h
  rcases Int.lt_or_le 0 (Fp u v) with h1|h1
  ·exfalso
   have h2:Fp v u<=0:=by rw[LH u v];omega
   have:rk L v<rk L u:=by
    refine filter_lt L (fun e he hp=>?_) ⟨u,hu,by simpa using h1,by rw[WS];rfl⟩
    rw[decide_eq_true_eq] at hp ⊢
    exact GN (hL e he) (hL v hv) (hL u hu) hp h2
   omega
  ·exact h1
theorem UQ {L:List (Int×Int)}(hL:∀e∈L,NZ e){u v:Int×Int}(hu:u∈L)(hv:v∈L):(Fp u v=-1/\rk L u<rk L v)\/(Fp u v=0/\rk L u=rk L v)\/(Fp u v=1/\rk L v<rk L u):=by
 have h1:=H7 hL hu hv
 have h2:=H7 hL hv hu
 rw[LH u v] at h2
 rcases aco u v with h|h|h<;>rw[h] at h1 h2<;>simp[h] at h1 h2 ⊢ <;> omega
theorem PV {L:List (Int×Int)}(hL:∀e∈L,NZ e){s:fH}{v:Int×Int}(hf:s.fr∈L)(ht:s.to∈L)(hv:v∈L) :
  (hs s v=true)↔((rk L s.fr<rk L s.to/\rk L s.fr<=rk L v/\rk L v<rk L s.to)\/(rk L s.to<rk L s.fr/\(rk L s.fr<=rk L v\/rk L v<rk L s.to))\/rk L s.fr=rk L s.to):=by
 have h1:=H7 hL hf hv
 have h2:=H7 hL ht hv
 rw[abT]
 rcases UQ hL hf ht with⟨h,h3⟩|⟨h,h3⟩|⟨h,h3⟩<;>simp only[h]<;>simp[h1,h2]<;>omega
theorem Nk {L:List (Int×Int)}:∀ (l:List (Int×Int)),l≠[]->∃t∈l,∀e∈l,rk L e<=rk L t
 | [a],_=>⟨a,by simp,fun e he=>by simp at he;rw[he];exact Nat.le_refl _⟩
 | a::b::l,_=>by
  obtain⟨t,ht,h⟩:=Nk (L:=L) (b::l) (by simp)
  rcases Nat.le_total (rk L a) (rk L t) with h1|h1
  ·exact⟨t,by simp[ht],fun e he=>(List.mem_cons.1 he).elim (fun h2=>by rw[h2];exact h1) (fun h2=>h e h2)⟩
  ·exact⟨a,by simp,fun e he=>(List.mem_cons.1 he).elim (fun h2=>by rw[h2];exact Nat.le_refl _) (fun h2=>Nat.le_trans (h e h2) h1)⟩
theorem rep {ts:List (Int×Int)}(hts:∀e∈ts,NZ e)(hne:ts≠[]){v:Int×Int}(hv:NZ v):∃t∈ts,∀s:fH,s.fr∈ts->s.to∈ts->hs s t=hs s v:=by
 have hL:∀e∈v::ts,NZ e:=fun e he=>(List.mem_cons.1 he).elim (fun h=>by rw[h];exact hv) (fun h=>hts e h)
 have hvL:v∈v::ts:=by simp
 have hin:∀e,e∈ts->e∈v::ts:=fun e he=>by simp[he]
 by_cases hc:∃e∈ts,rk (v::ts) e<=rk (v::ts) v
 ·obtain⟨t,ht,hmax⟩:=Nk (L:=v::ts) (ts.filter fun e=>decide (rk (v::ts) e<=rk (v::ts) v)) (by
   obtain⟨e,he,hr⟩:=hc
   exact List.ne_nil_of_mem (List.mem_filter.2 ⟨he,by simpa using hr⟩))
  obtain⟨htm,htv⟩:=List.mem_filter.1 ht
  rw[decide_eq_true_eq] at htv
  refine⟨t,htm,fun s hf hto=>?_⟩
  have key:∀e∈ts,rk (v::ts) e<=rk (v::ts) t↔rk (v::ts) e<=rk (v::ts) v:=fun e he =>
   ⟨fun h=>Nat.le_trans h htv,fun h=>hmax e (List.mem_filter.2 ⟨he,by simpa using h⟩)⟩
  have k1:=key _ hf
  have k2:=key _ hto
  rw[Bool.eq_iff_iff,PV hL (hin _ hf) (hin _ hto) (hin _ htm),PV hL (hin _ hf) (hin _ hto) hvL]
  omega
 ·obtain⟨t,ht,hmax⟩:=Nk (L:=v::ts) ts hne
  refine⟨t,ht,fun s hf hto=>?_⟩
  have k1:=hmax _ hf
  have k2:=hmax _ hto
  have k3:¬ rk (v::ts) s.fr<=rk (v::ts) v:=fun h=>hc ⟨_,hf,h⟩
  have k4:¬ rk (v::ts) s.to<=rk (v::ts) v:=fun h=>hc ⟨_,hto,h⟩
  rw[Bool.eq_iff_iff,PV hL (hin _ hf) (hin _ hto) (hin _ ht),PV hL (hin _ hf) (hin _ hto) hvL]
  omega
theorem find_congr {ss:List fH}{p q:fH->Bool}(h:∀s∈ss,p s=q s):ss.find? p=ss.find? q:=by
 induction ss with
 | nil=>rfl
 | cons s ss ih =>
  rw[List.find?_cons,List.find?_cons,h s (by simp),ih fun t ht=>h t (by simp[ht])]
theorem Gf {ss:List fH}{u v:Int×Int}(h:∀s∈ss,hs s u=hs s v):JY ss u=JY ss v:=by
 rw[Hw,Hw,find_congr h]
theorem rY {ss:List fH}{s:fH}(h:s∈ss):s.fr∈turnsOf ss/\s.to∈turnsOf ss:=by
 unfold turnsOf
 exact⟨List.mem_flatMap.2 ⟨s,h,by simp[fH.fr]⟩,List.mem_flatMap.2 ⟨s,h,by simp[fH.to]⟩⟩
theorem JJ {ss:List fH}(h:X4 ss):∀e∈turnsOf ss,NZ e:=fun e he=>by
 unfold turnsOf at he
 obtain⟨s,hs,he⟩:=List.mem_flatMap.1 he
 simp at he
 rcases he with rfl|rfl
 ·exact (h s hs).1
 ·exact (h s hs).2
theorem afI {sa sb:List fH}(ha:X4 sa)(hb:X4 sb){v:Int×Int}(hv:NZ v):(sa=[]/\sb=[])\/∃t∈turnsOf (sa++sb),JY sa t=JY sa v/\JY sb t=JY sb v:=by
 have hn:X4 (sa++sb):=fun s hs=>(List.mem_append.1 hs).elim (ha s) (hb s)
 rcases Decidable.em (sa++sb=[]) with h|h
 ·exact .inl (List.append_eq_nil_iff.1 h)
 ·obtain⟨s,hs⟩:=List.exists_mem_of_ne_nil _ h
  obtain⟨t,ht,hk⟩:=rep (JJ hn) (List.ne_nil_of_mem (rY hs).1) hv
  exact .inr ⟨t,ht,Gf fun s hs=>hk s (rY (by simp[hs])).1 (rY (by simp[hs])).2,Gf fun s hs=>hk s (rY (by simp[hs])).1 (rY (by simp[hs])).2⟩
theorem qW (sa sb:List fH)(jA:Int)(v:Int×Int):kV sa sb jA v = !((JY sa v).1==jA&&((JY sb v).1 != jA||decide ((JY sb v).2<(JY sa v).2))):=rfl
theorem RS {sa sb:List fH}(ha:X4 sa)(hb:X4 sb){jA:Int}(hc:1<=jA)(h:(turnsOf (sa++sb)).all (kV sa sb jA)=true){v:Int×Int}(hv:NZ v):kV sa sb jA v=true:=by
 rcases afI ha hb hv with⟨rfl,rfl⟩|⟨t,ht,h1,h2⟩
 ·have:¬ (0:Int)=jA:=by omega
  simp[qW,Hw,this]
 ·have:=List.all_eq_true.1 h t ht
  rw[qW,h1,h2] at this
  rw[qW]
  exact this
theorem wU {sa sb:List fH}(ha:X4 sa)(hb:X4 sb){jA:Int}(hc:1<=jA):((turnsOf (sa++sb)).all (kV sa sb jA)=true)↔∀v,NZ v->kV sa sb jA v=true :=
 ⟨fun h v hv=>RS ha hb hc h hv,fun h=>List.all_eq_true.2 fun t ht=>h t (JJ (fun s hs=>(List.mem_append.1 hs).elim (ha s) (hb s)) t ht)⟩
theorem qV {sa sb:List fH}{jA:Int}{v:Int×Int}:kV sa sb jA v=true↔((JY sa v).1=jA->(JY sb v).1=jA/\(JY sa v).2<=(JY sb v).2):=by
 rw[qW]
 by_cases h1:(JY sa v).1=jA<;>by_cases h2:(JY sb v).1=jA<;>simp[h1,h2]
theorem wI {ss:List fH}(h:fJ ss=true):X4 ss:=abD (XC h).1
theorem qp {sa sb:List fH}{jA:Int}(h:(fJ sa&&fJ sb&&uS jA)=true):iH sa sb jA=((turnsOf (sa++sb)).all (kV sa sb jA),0):=by unfold iH;rw[if_pos h]
theorem zC {jA:Int}(h:uS jA=true):1<=jA:=by simp[uS] at h;omega
theorem N7 {sa:List fH}{jA:Int}(h:fJ sa=true)(hc:uS jA=true):iH sa sa jA=(true,0):=by
 rw[qp (by rw[h,hc];rfl),(wU (wI h) (wI h) (zC hc)).2 fun v _=>qV.2 fun h=>⟨h,Int.le_refl _⟩]
theorem KT {sa sb sc:List fH}{jA:Int}(ha:fJ sa=true)(hb:fJ sb=true)(hd:fJ sc=true)(hc:uS jA=true)(h1:(iH sa sb jA).1=true)(h2:(iH sb sc jA).1=true):(iH sa sc jA).1=true:=by
 rw[qp (by rw[ha,hb,hc];rfl)] at h1
 rw[qp (by rw[hb,hd,hc];rfl)] at h2
 rw[qp (by rw[ha,hd,hc];rfl)]
 have k1:=(wU (wI ha) (wI hb) (zC hc)).1 h1
 have k2:=(wU (wI hb) (wI hd) (zC hc)).1 h2
 refine (wU (wI ha) (wI hd) (zC hc)).2 fun v hv=>qV.2 fun h=>?_
 obtain⟨a1,a2⟩:=qV.1 (k1 v hv) h
 obtain⟨b1,b2⟩:=qV.1 (k2 v hv) a1
 exact⟨b1,by omega⟩
end Go.Proofs.YtlkgjmnjhifehaaGreat
