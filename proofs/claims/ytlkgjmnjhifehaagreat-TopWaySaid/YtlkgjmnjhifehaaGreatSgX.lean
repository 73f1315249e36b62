
import Derived.Test.YtlkgjmnjhifehaaGreatSecA
import Derived.Test.YtlkgjmnjhifehaaGreatItX
set_option linter.unusedSimpArgs false
set_option linter.unusedVariables false
namespace Go.Proofs.YtlkgjmnjhifehaaGreat
open Go.RowKit Go.Sort
theorem Ai {a b:Int}:upper a b=true↔(0<b\/(b=0/\0<a)):=by simp[upper]
theorem IY {a b:Int}(h:upper a b=false)(h0:a≠0\/b≠0):upper (-a) (-b)=true:=by
 rw[Ai]
 have:¬ (0<b\/(b=0/\0<a)):=by rw[<-Ai,h];simp
 omega
theorem Jn (a b c d:Int):Bl (-a) (-b) (-c) (-d)=Bl a b c d:=by unfold Bl;rw[Int.neg_mul_neg,Int.neg_mul_neg]
theorem Xo (a b c d:Int):Bl c d a b=- Bl a b c d:=by unfold Bl;rw[Int.mul_comm c b,Int.mul_comm d a];omega
theorem acH (a b c d e f:Int):Bl a b e f*d=Bl c d e f*b+Bl a b c d*f:=by
 unfold Bl
 simp only[Int.sub_mul]
 have e1:a*f*d=a*d*f:=by rw[Int.mul_assoc,Int.mul_comm f d,<-Int.mul_assoc]
 have e2:b*e*d=d*e*b:=by rw[Int.mul_comm b e,Int.mul_comm d e,Int.mul_assoc,Int.mul_assoc,Int.mul_comm b d]
 have e3:c*f*b=b*c*f:=by rw[Int.mul_comm b c,Int.mul_assoc,Int.mul_assoc,Int.mul_comm f b]
 omega
theorem zM {a b c d e f:Int}(hu:upper a b=true)(hv:upper c d=true)(hw:upper e f=true)(h1:0<=Bl a b c d)(h2:0<=Bl c d e f):0<=Bl a b e f:=by
 rw[Ai] at hu hv hw
 rcases hv with hd|⟨rfl,hc⟩
 ·have h:=acH a b c d e f
  have q1:0<=Bl c d e f*b:=Int.mul_nonneg h2 (by omega)
  have q2:0<=Bl a b c d*f:=Int.mul_nonneg h1 (by omega)
  rcases Int.lt_or_le (Bl a b e f) 0 with hn|hn
  ·have:=Int.mul_neg_of_neg_of_pos hn hd
   omega
  ·exact hn
 ·have hb:b=0:=by
   rcases hu with hb|⟨hb,_⟩
   ·unfold Bl at h1
    have:=Int.mul_pos hb hc
    simp at h1
    omega
   ·exact hb
  subst hb
  have ha:0<a:=by omega
  have hf:0<=f:=by omega
  have:=Int.mul_nonneg (Int.le_of_lt ha) hf
  unfold Bl
  simp
  exact this
theorem Tj {a b c d e f:Int}(ha:a≠0\/b≠0)(hc:c≠0\/d≠0)(he:e≠0\/f≠0)(h1:upper a b=upper c d)(h2:upper c d=upper e f)(k1:0<=Bl a b c d)(k2:0<=Bl c d e f):0<=Bl a b e f:=by
 cases hv:upper c d
 ·rw[hv] at h1 h2
  have:=zM (IY h1 ha) (IY hv hc) (IY h2.symm he) (by rw[Jn];exact k1) (by rw[Jn];exact k2)
  rwa [Jn] at this
 ·rw[hv] at h1 h2
  exact zM h1 hv h2.symm k1 k2
theorem ZE {a b c d:Int}:mD a b c d<=0↔(upper a b=true/\upper c d=false)\/(upper a b=upper c d/\0<=Bl a b c d):=by
 unfold mD
 cases upper a b<;>cases upper c d<;>simp
 all_goals (split<;>(try split)<;>omega)
theorem Hg (a b c d:Int):mD c d a b=- mD a b c d:=by
 unfold mD
 rw[Xo a b c d]
 cases upper a b<;>cases upper c d<;>simp
 all_goals (split<;>split<;>(try split)<;>(try split)<;>omega)
theorem OC {a b c d e f:Int}(ha:a≠0\/b≠0)(hc:c≠0\/d≠0)(he:e≠0\/f≠0)(h1:mD a b c d<=0)(h2:mD c d e f<=0):mD a b e f<=0:=by
 rw[ZE] at *
 rcases h1 with⟨p1,p2⟩|⟨p1,p2⟩<;>rcases h2 with⟨q1,q2⟩|⟨q1,q2⟩
 ·rw[p2] at q1;cases q1
 ·exact .inl ⟨p1,by rw[<-q1];exact p2⟩
 ·exact .inl ⟨by rw[p1];exact q1,q2⟩
 ·exact .inr ⟨by rw[p1,q1],Tj ha hc he p1 q1 p2 q2⟩
theorem ZF (a b c d:Int):mD a b c d=-1\/mD a b c d=0\/mD a b c d=1:=by
 unfold mD
 split
 ·split<;>simp
 ·split
  ·simp
  ·split<;>simp
theorem Tv (a b:Int):mD a b a b=0:=by
 have:=Hg a b a b
 omega
theorem acE {a b:Int}(h:sZ a b=true):a≠0\/b≠0:=by simp[sZ] at h;omega
def NZ (v:Int×Int):Prop:=v.1≠0\/v.2≠0
def Fz (u v:Int×Int):Int:=mD u.1 u.2 v.1 v.2
theorem LD (u v:Int×Int):Fz v u=- Fz u v:=Hg ..
theorem acG (u v:Int×Int):Fz u v=-1\/Fz u v=0\/Fz u v=1:=ZF ..
theorem G7 {u v w:Int×Int}(hu:NZ u)(hv:NZ v)(hw:NZ w)(h1:Fz u v<=0)(h2:Fz v w<=0):Fz u w<=0:=OC hu hv hw h1 h2
theorem Xn (u:Int×Int):Fz u u=0:=Tv ..
theorem Vy {x y:Int}(h:sZ x y=true):NZ (x,y):=acE h
def fJ.fr (s:fJ):Int×Int:=(s.fx,s.fy)
def fJ.to (s:fJ):Int×Int:=(s.tx,s.ty)
def hs (s:fJ)(v:Int×Int):Bool:=s.has v.1 v.2
theorem aca (s:fJ)(v:Int×Int):hs s v=if Fz s.fr s.to==-1 then (decide (Fz s.fr v<=0) && !decide (Fz s.to v<=0)) else if Fz s.fr s.to==1 then (decide (Fz s.fr v<=0) || !decide (Fz s.to v<=0)) else true:=rfl
def JZ (ss:List fJ)(v:Int×Int):Int×Int:=tY ss v.1 v.2
theorem Ic (ss:List fJ)(v:Int×Int):JZ ss v=match ss.find? (fun s=>hs s v) with|some s=>(s.jA,s.U5)|none=>(0,0):=rfl
def Ym (ss:List fJ):Prop:=∀s∈ss,NZ s.fr/\NZ s.to
theorem abW {ss:List fJ}(h:∀s∈ss,s.ok=true):Ym ss:=fun s hs=>by
 have:=h s hs
 simp only[fJ.ok,yO,Bool.and_eq_true] at this
 exact⟨Vy this.1.1.1,Vy this.1.1.2⟩
def rk (L:List (Int×Int))(v:Int×Int):Nat:=(L.filter fun e=>decide (Fz e v<=0)).length
theorem filter_le {α:Type}{p q:α->Bool}:∀ (l:List α),(∀a∈l,p a=true->q a=true)->(l.filter p).length<=(l.filter q).length
 | [],_=>Nat.le_refl _
 | a::l,h=>by
  have ih:=filter_le l fun b hb=>h b (by simp[hb])
  have ha:=h a (by simp)
  rw[List.filter_cons,List.filter_cons]
  cases hp:p a
  ·cases hq:q a<;>simp<;>omega
  ·rw[ha hp]
   simp
   omega
theorem filter_lt {α:Type}{p q:α->Bool}:∀ (l:List α),(∀a∈l,p a=true->q a=true)->(∃a∈l,p a=false/\q a=true)->(l.filter p).length<(l.filter q).length
 | [],_,h=>by obtain⟨a,ha,_⟩:=h;cases ha
 | a::l,h,hx=>by
  have hle:=filter_le l fun b hb=>h b (by simp[hb])
  have ha:=h a (by simp)
  rw[List.filter_cons,List.filter_cons]
  cases hp:p a
  ·cases hq:q a
   ·obtain⟨b,hb,hpb,hqb⟩:=hx
    rcases List.mem_cons.1 hb with rfl|hb
    ·rw[hq] at hqb;cases hqb
    ·simpa using filter_lt l (fun b hb=>h b (by simp[hb])) ⟨b,hb,hpb,hqb⟩
   ·simp
    omega
  ·rw[ha hp]
   obtain⟨b,hb,hpb,hqb⟩:=hx
   rcases List.mem_cons.1 hb with rfl|hb
   ·rw[hp] at hpb;cases hpb
   ·have:=filter_lt l (fun b hb=>h b (by simp[hb])) ⟨b,hb,hpb,hqb⟩
    simpa using this
theorem Ij {L:List (Int×Int)}(hL:∀e∈L,NZ e){u v:Int×Int}(hu:u∈L)(hv:v∈L):Fz u v<=0↔rk L u<=rk L v:=by
 constructor
 ·intro h
  refine filter_le L fun e he hp=>?_
  rw[decide_eq_true_eq] at hp ⊢
  exact G7 (hL e he) (hL u hu) (hL v hv) hp h
 ·intro h
  rcases Int.lt_or_le 0 (Fz u v) with h1|h1
  ·exfalso
   have h2:Fz v u<=0:=by rw[LD u v];omega
   have:rk L v<rk L u:=by
    refine filter_lt L (fun e he hp=>?_) ⟨u,hu,by simpa using h1,by rw[Xn];rfl⟩
    rw[decide_eq_true_eq] at hp ⊢
    exact G7 (hL e he) (hL v hv) (hL u hu) hp h2
   omega
  ·exact h1
theorem U6 {L:List (Int×Int)}(hL:∀e∈L,NZ e){u v:Int×Int}(hu:u∈L)(hv:v∈L):(Fz u v=-1/\rk L u<rk L v)\/(Fz u v=0/\rk L u=rk L v)\/(Fz u v=1/\rk L v<rk L u):=by
 have h1:=Ij hL hu hv
 have h2:=Ij hL hv hu
 rw[LD u v] at h2
 rcases acG u v with h|h|h<;>rw[h] at h1 h2<;>simp[h] at h1 h2 ⊢ <;> omega
theorem P9 {L:List (Int×Int)}(hL:∀e∈L,NZ e){s:fJ}{v:Int×Int}(hf:s.fr∈L)(ht:s.to∈L)(hv:v∈L) :
  (hs s v=true)↔((rk L s.fr<rk L s.to/\rk L s.fr<=rk L v/\rk L v<rk L s.to)\/(rk L s.to<rk L s.fr/\(rk L s.fr<=rk L v\/rk L v<rk L s.to))\/rk L s.fr=rk L s.to):=by
 have h1:=Ij hL hf hv
 have h2:=Ij hL ht hv
 rw[aca]
 rcases U6 hL hf ht with⟨h,h3⟩|⟨h,h3⟩|⟨h,h3⟩<;>simp only[h]<;>simp[h1,h2]<;>omega
theorem Nv {L:List (Int×Int)}:∀ (l:List (Int×Int)),l≠[]->∃t∈l,∀e∈l,rk L e<=rk L t
 | [a],_=>⟨a,by simp,fun e he=>by simp at he;rw[he];exact Nat.le_refl _⟩
 | a::b::l,_=>by
  obtain⟨t,ht,h⟩:=Nv (L:=L) (b::l) (by simp)
  rcases Nat.le_total (rk L a) (rk L t) with h1|h1
  ·exact⟨t,by simp[ht],fun e he=>(List.mem_cons.1 he).elim (fun h2=>by rw[h2];exact h1) (fun h2=>h e h2)⟩
  ·exact⟨a,by simp,fun e he=>(List.mem_cons.1 he).elim (fun h2=>by rw[h2];exact Nat.le_refl _) (fun h2=>Nat.le_trans (h e h2) h1)⟩
theorem rep {ts:List (Int×Int)}(hts:∀e∈ts,NZ e)(hne:ts≠[]){v:Int×Int}(hv:NZ v):∃t∈ts,∀s:fJ,s.fr∈ts->s.to∈ts->hs s t=hs s v:=by
 have hL:∀e∈v::ts,NZ e:=fun e he=>(List.mem_cons.1 he).elim (fun h=>by rw[h];exact hv) (fun h=>hts e h)
 have hvL:v∈v::ts:=by simp
 have hin:∀e,e∈ts->e∈v::ts:=fun e he=>by simp[he]
 by_cases hc:∃e∈ts,rk (v::ts) e<=rk (v::ts) v
 ·obtain⟨t,ht,hmax⟩:=Nv (L:=v::ts) (ts.filter fun e=>decide (rk (v::ts) e<=rk (v::ts) v)) (by
   obtain⟨e,he,hr⟩:=hc
   exact List.ne_nil_of_mem (List.mem_filter.2 ⟨he,by simpa using hr⟩))
  obtain⟨htm,htv⟩:=List.mem_filter.1 ht
  rw[decide_eq_true_eq] at htv
  refine⟨t,htm,fun s hf hto=>?_⟩
  have key:∀e∈ts,rk (v::ts) e<=rk (v::ts) t↔rk (v::ts) e<=rk (v::ts) v:=fun e he =>
   ⟨fun h=>Nat.le_trans h htv,fun h=>hmax e (List.mem_filter.2 ⟨he,by simpa using h⟩)⟩
  have k1:=key _ hf
  have k2:=key _ hto
  rw[Bool.eq_iff_iff,P9 hL (hin _ hf) (hin _ hto) (hin _ htm),P9 hL (hin _ hf) (hin _ hto) hvL]
  omega
 ·obtain⟨t,ht,hmax⟩:=Nv (L:=v::ts) ts hne
  refine⟨t,ht,fun s hf hto=>?_⟩
  have k1:=hmax _ hf
  have k2:=hmax _ hto
  have k3:¬ rk (v::ts) s.fr<=rk (v::ts) v:=fun h=>hc ⟨_,hf,h⟩
  have k4:¬ rk (v::ts) s.to<=rk (v::ts) v:=fun h=>hc ⟨_,hto,h⟩
  rw[Bool.eq_iff_iff,P9 hL (hin _ hf) (hin _ hto) (hin _ ht),P9 hL (hin _ hf) (hin _ hto) hvL]
  omega
theorem find_congr {ss:List fJ}{p q:fJ->Bool}(h:∀s∈ss,p s=q s):ss.find? p=ss.find? q:=by
 induction ss with
 | nil=>rfl
 | cons s ss ih =>
  rw[List.find?_cons,List.find?_cons,h s (by simp),ih fun t ht=>h t (by simp[ht])]
theorem Gn {ss:List fJ}{u v:Int×Int}(h:∀s∈ss,hs s u=hs s v):JZ ss u=JZ ss v:=by
 rw[Ic,Ic,find_congr h]
theorem su {ss:List fJ}{s:fJ}(h:s∈ss):s.fr∈turnsOf ss/\s.to∈turnsOf ss:=by
 unfold turnsOf
 exact⟨List.mem_flatMap.2 ⟨s,h,by simp[fJ.fr]⟩,List.mem_flatMap.2 ⟨s,h,by simp[fJ.to]⟩⟩
theorem JJ {ss:List fJ}(h:Ym ss):∀e∈turnsOf ss,NZ e:=fun e he=>by
 unfold turnsOf at he
 obtain⟨s,hs,he⟩:=List.mem_flatMap.1 he
 simp at he
 rcases he with rfl|rfl
 ·exact (h s hs).1
 ·exact (h s hs).2
theorem af7 {sa sb:List fJ}(ha:Ym sa)(hb:Ym sb){v:Int×Int}(hv:NZ v):(sa=[]/\sb=[])\/∃t∈turnsOf (sa++sb),JZ sa t=JZ sa v/\JZ sb t=JZ sb v:=by
 have hn:Ym (sa++sb):=fun s hs=>(List.mem_append.1 hs).elim (ha s) (hb s)
 rcases Decidable.em (sa++sb=[]) with h|h
 ·exact .inl (List.append_eq_nil_iff.1 h)
 ·obtain⟨s,hs⟩:=List.exists_mem_of_ne_nil _ h
  obtain⟨t,ht,hk⟩:=rep (JJ hn) (List.ne_nil_of_mem (su hs).1) hv
  exact .inr ⟨t,ht,Gn fun s hs=>hk s (su (by simp[hs])).1 (su (by simp[hs])).2,Gn fun s hs=>hk s (su (by simp[hs])).1 (su (by simp[hs])).2⟩
theorem ru (sa sb:List fJ)(jA:Int)(v:Int×Int):lu sa sb jA v = !((JZ sa v).1==jA&&((JZ sb v).1 != jA||decide ((JZ sb v).2<(JZ sa v).2))):=rfl
theorem SA {sa sb:List fJ}(ha:Ym sa)(hb:Ym sb){jA:Int}(hc:1<=jA)(h:(turnsOf (sa++sb)).all (lu sa sb jA)=true){v:Int×Int}(hv:NZ v):lu sa sb jA v=true:=by
 rcases af7 ha hb hv with⟨rfl,rfl⟩|⟨t,ht,h1,h2⟩
 ·have:¬ (0:Int)=jA:=by omega
  simp[ru,Ic,this]
 ·have:=List.all_eq_true.1 h t ht
  rw[ru,h1,h2] at this
  rw[ru]
  exact this
theorem xx {sa sb:List fJ}(ha:Ym sa)(hb:Ym sb){jA:Int}(hc:1<=jA):((turnsOf (sa++sb)).all (lu sa sb jA)=true)↔∀v,NZ v->lu sa sb jA v=true :=
 ⟨fun h v hv=>SA ha hb hc h hv,fun h=>List.all_eq_true.2 fun t ht=>h t (JJ (fun s hs=>(List.mem_append.1 hs).elim (ha s) (hb s)) t ht)⟩
theorem rq {sa sb:List fJ}{jA:Int}{v:Int×Int}:lu sa sb jA v=true↔((JZ sa v).1=jA->(JZ sb v).1=jA/\(JZ sa v).2<=(JZ sb v).2):=by
 rw[ru]
 by_cases h1:(JZ sa v).1=jA<;>by_cases h2:(JZ sb v).1=jA<;>simp[h1,h2]
theorem wU {ss:List fJ}(h:fK ss=true):Ym ss:=abW (XV h).1
theorem qy {sa sb:List fJ}{jA:Int}(h:(fK sa&&fK sb&&uZ jA)=true):iL sa sb jA=((turnsOf (sa++sb)).all (lu sa sb jA),0):=by unfold iL;rw[if_pos h]
theorem zQ {jA:Int}(h:uZ jA=true):1<=jA:=by simp[uZ] at h;omega
theorem Og {sa:List fJ}{jA:Int}(h:fK sa=true)(hc:uZ jA=true):iL sa sa jA=(true,0):=by
 rw[qy (by rw[h,hc];rfl),(xx (wU h) (wU h) (zQ hc)).2 fun v _=>rq.2 fun h=>⟨h,Int.le_refl _⟩]
theorem KT {sa sb sc:List fJ}{jA:Int}(ha:fK sa=true)(hb:fK sb=true)(hd:fK sc=true)(hc:uZ jA=true)(h1:(iL sa sb jA).1=true)(h2:(iL sb sc jA).1=true):(iL sa sc jA).1=true:=by
 rw[qy (by rw[ha,hb,hc];rfl)] at h1
 rw[qy (by rw[hb,hd,hc];rfl)] at h2
 rw[qy (by rw[ha,hd,hc];rfl)]
 have k1:=(xx (wU ha) (wU hb) (zQ hc)).1 h1
 have k2:=(xx (wU hb) (wU hd) (zQ hc)).1 h2
 refine (xx (wU ha) (wU hd) (zQ hc)).2 fun v hv=>rq.2 fun h=>?_
 obtain⟨a1,a2⟩:=rq.1 (k1 v hv) h
 obtain⟨b1,b2⟩:=rq.1 (k2 v hv) a1
 exact⟨b1,by omega⟩
end Go.Proofs.YtlkgjmnjhifehaaGreat
