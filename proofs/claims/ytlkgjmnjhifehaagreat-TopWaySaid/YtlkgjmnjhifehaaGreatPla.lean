/- Package plane: places, turns, segments. Package plane: places on segments, segments that meet, distances. Package plane: distances; the functions with an error. Package plane: the. -/
import Derived.Test.YtlkgjmnjhifehaaGreatReg
import Derived.Test.YtlkgjmnjhifehaaGreatProg
import Derived.Shelf.Bits.Mul64
import Derived.Test.YtlkgjmnjhifehaaGreatApp
set_option linter.unusedSimpArgs false
set_option linter.unusedVariables false
set_option maxHeartbeats 4000000
set_option maxRecDepth 10000
namespace Go.Proofs.YtlkgjmnjhifehaaGreat
open Go.RowKit Go.Sort
attribute [local go_sem] dA steadyUpon
attribute [local go_sem ↓] bU bI aX aW aV aU aT
attribute [local go_sem] bH aK aJ size_grow tape_grow cell?_grow' aF aB grow_grow bW aY dR cO bY bK aN cZ aZ bZ bJ
attribute [local irreducible] wpSteady
theorem aP:Tryz.prog.follows .mixedOrders=true:=by kernel_rfl
abbrev Pt:=Int×Int
def lh (x y:Int):Bool:=decide ((-1000000<=x/\x<=1000000)/\(-1000000<=y/\y<=1000000))
abbrev Pt.ok (a:Pt):Bool:=lh a.1 a.2
abbrev Pt.v (a:Pt):Value:=pt a.1 a.2
theorem Kt {x y:Int}(h:lh x y=true):(-1000000<=x/\x<=1000000)/\(-1000000<=y/\y<=1000000):=by
 simpa[lh] using h
theorem D5 (a b:Int)(w:World) :
  Calls Tryz.prog 49 #[pt a b] w (aC w (.bool (lh a b))):=by
 go_enter Tryz.func49,Tryz.ntmps49
 go_wp2
 all_goals go_ret
 all_goals refine aC.mk' (dU ?_) gw
 all_goals (rw[Bool.eq_iff_iff];simp[lh];omega)
theorem dP (a b:Int)(r:Bool)(w:World)(h:lh a b=r):Calls Tryz.prog 49 #[pt a b] w (aC w (.bool r)):=by
 have:=D5 a b w
 rwa [h] at this
theorem EG (a b c d:Int)(w:World)(ha:-4000000<=a/\a<=4000000)(hb:-4000000<=b/\b<=4000000)(hc:-4000000<=c/\c<=4000000)(hd:-4000000<=d/\d<=4000000) :
  Calls Tryz.prog 145 #[pt a b,pt c d] w (aC w (pt (c-a) (d-b))):=by
 go_enter Tryz.func145,Tryz.ntmps145
 go_wp2
 refine bodyPost_ret (v:=pt (c-a) (d-b)) (by simp[results,Tryz.results145,go_sem]) rfl ?_
 exact aC.mk' rfl gw
theorem DF (a b c d:Int)(w:World)(ha:-4000000<=a/\a<=4000000)(hb:-4000000<=b/\b<=4000000)(hc:-4000000<=c/\c<=4000000)(hd:-4000000<=d/\d<=4000000) :
  Calls Tryz.prog 176 #[pt a b,pt c d] w (aC w (.int .i64 (a*d-b*c))):=by
 have h1:-16000000000000<=a*d/\a*d<=16000000000000:=jc 4000000 4000000 ha hd
 have h2:-16000000000000<=b*c/\b*c<=16000000000000:=jc 4000000 4000000 hb hc
 go_enter Tryz.func176,Tryz.ntmps176
 go_wp2
 go_ret
 exact aC.mk' rfl gw
theorem rY (a b c d:Int)(w:World)(ha:-4000000<=a/\a<=4000000)(hb:-4000000<=b/\b<=4000000)(hc:-4000000<=c/\c<=4000000)(hd:-4000000<=d/\d<=4000000) :
  Calls Tryz.prog 146 #[pt a b,pt c d] w (aC w (.int .i64 (a*c+b*d))):=by
 have h1:-16000000000000<=a*c/\a*c<=16000000000000:=jc 4000000 4000000 ha hc
 have h2:-16000000000000<=b*d/\b*d<=16000000000000:=jc 4000000 4000000 hb hd
 go_enter Tryz.func146,Tryz.ntmps146
 go_wp2
 go_ret
 exact aC.mk' rfl gw
def sg (n:Int):Int:=if n<0 then -1 else if 0<n then 1 else 0
def cr (a b c:Pt):Int:=(b.1-a.1)*(c.2-a.2)-(b.2-a.2)*(c.1-a.1)
def dt (a b c:Pt):Int:=(b.1-a.1)*(c.1-a.1)+(b.2-a.2)*(c.2-a.2)
theorem dN (n:Int):(n<0/\sg n=-1)\/(n=0/\sg n=0)\/(0<n/\sg n=1):=by
 unfold sg
 split
 ·exact .inl ⟨by assumption,rfl⟩
 ·split
  ·exact .inr (.inr ⟨by assumption,rfl⟩)
  ·exact .inr (.inl ⟨by omega,rfl⟩)
theorem nR (x:Int)(w:World):Calls Tryz.prog 93 #[.int .i64 x] w (aC w (.bool false)):=by
 go_enter Tryz.func93,Tryz.ntmps93
 go_wp2
 go_ret
 exact aC.mk' (by simp) gw
theorem ik (x y:Int)(w:World):Calls Tryz.prog 65 #[.int .i64 x,.int .i64 y] w (aC w (.int .i64 (sg (x-y)))):=by
 have hm:=aP
 rcases dN (x-y) with⟨h,e⟩|⟨h,e⟩|⟨h,e⟩
 ·have h1:decide (x<y)=true:=by simp;omega
  rw[e]
  clear e
  go_enter Tryz.func65,Tryz.ntmps65
  go_wp2_with (go_at_call 93;refine aQ (nR _ _) fun _ _=>?_;dsimp only)
  go_ret
  exact aC.mk' rfl gw
 ·obtain rfl:x=y:=by omega
  rw[e]
  clear e
  go_enter Tryz.func65,Tryz.ntmps65
  go_wp2_with (go_at_call 93;refine aQ (nR _ _) fun _ _=>?_;dsimp only)
  go_ret
  exact aC.mk' rfl gw
 ·have h1:decide (x<y)=false:=by simp;omega
  have h2:decide (y<x)=true:=by simp;omega
  rw[e]
  clear e
  go_enter Tryz.func65,Tryz.ntmps65
  go_wp2_with (go_at_call 93;refine aQ (nR _ _) fun _ _=>?_;dsimp only)
  go_ret
  exact aC.mk' rfl gw
theorem lL {a:Pt}(h:a.ok=true):(-1000000<=a.1/\a.1<=1000000)/\(-1000000<=a.2/\a.2<=1000000):=Kt h
theorem Xq {a b c:Pt}(ha:a.ok=true)(hb:b.ok=true)(hc:c.ok=true):-8000000000000<=cr a b c/\cr a b c<=8000000000000:=by
 have:=lL ha
 have:=lL hb
 have:=lL hc
 have h1:-4000000000000<=(b.1-a.1)*(c.2-a.2)/\(b.1-a.1)*(c.2-a.2)<=4000000000000:=jc 2000000 2000000 (by omega) (by omega)
 have h2:-4000000000000<=(b.2-a.2)*(c.1-a.1)/\(b.2-a.2)*(c.1-a.1)<=4000000000000:=jc 2000000 2000000 (by omega) (by omega)
 unfold cr
 omega
theorem EK {a b c:Pt}(ha:a.ok=true)(hb:b.ok=true)(hc:c.ok=true):-8000000000000<=dt a b c/\dt a b c<=8000000000000:=by
 have:=lL ha
 have:=lL hb
 have:=lL hc
 have h1:-4000000000000<=(b.1-a.1)*(c.1-a.1)/\(b.1-a.1)*(c.1-a.1)<=4000000000000:=jc 2000000 2000000 (by omega) (by omega)
 have h2:-4000000000000<=(b.2-a.2)*(c.2-a.2)/\(b.2-a.2)*(c.2-a.2)<=4000000000000:=jc 2000000 2000000 (by omega) (by omega)
 unfold dt
 omega
def tn (a b c:Pt):Int:=sg (cr a b c)
theorem NK (a b c:Pt)(w:World)(ha:a.ok=true)(hb:b.ok=true)(hc:c.ok=true) :
  Calls Tryz.prog 152 #[a.v,b.v,c.v] w (aC w (.int .i64 (tn a b c))):=by
 have hm:=aP
 obtain⟨a1,a2⟩:=a
 obtain⟨b1,b2⟩:=b
 obtain⟨c1,c2⟩:=c
 have a':=Kt ha
 have b':=Kt hb
 have c':=Kt hc
 have hcb:=Xq ha hb hc
 obtain⟨t,ht⟩:∃t,tn (a1,a2) (b1,b2) (c1,c2)=t:=⟨_,rfl⟩
 have k1:=hide (fun W=>EG a1 a2 b1 b2 W (by omega) (by omega) (by omega) (by omega))
 have k2:=hide (fun W=>EG a1 a2 c1 c2 W (by omega) (by omega) (by omega) (by omega))
 have k3:Hid (∀W,Calls Tryz.prog 176 #[pt (b1-a1) (b2-a2),pt (c1-a1) (c2-a2)] W (aC W (.int .i64 (cr (a1,a2) (b1,b2) (c1,c2))))):=hide (fun W=>DF _ _ _ _ W (by omega) (by omega) (by omega) (by omega))
 have k4:Hid (∀W,Calls Tryz.prog 65 #[.int .i64 (cr (a1,a2) (b1,b2) (c1,c2)),.int .i64 0] W (aC W (.int .i64 t))):=hide (fun W=>by
  have:=ik (cr (a1,a2) (b1,b2) (c1,c2)) 0 W
  rw[Int.sub_zero] at this
  rw[<-ht]
  exact this)
 rw[ht]
 clear ht ha hb hc
 go_enter Tryz.func152,Tryz.ntmps152
 go_wp2_with fail
 refine ay 9 [] [] hm (h:=?_)
 repeat (refine ax (fun K hK=>?_);go_simp;first|(refine hK _ ?_;clear hK K)|(apply Exists.intro;refine⟨fun _=>?_,hK _ ?_⟩;(first|(go_at_call 145;first|with_reducible exact k1.out _|with_reducible exact k2.out _)|(go_at_call 176;with_reducible exact k3.out _)|(go_at_call 65;with_reducible exact k4.out _));clear hK K))
 refine lU fun nq osq=>?_
 try simp only[Act.put,aG]
 try dsimp only
 go_wp2
 go_ret
 exact aC.mk' rfl gw
theorem sN (a b c:Pt)(t:Int)(w:World)(ha:a.ok=true)(hb:b.ok=true)(hc:c.ok=true)(h:tn a b c=t) :
  Calls Tryz.prog 152 #[pt a.1 a.2,pt b.1 b.2,pt c.1 c.2] w (aC w (.int .i64 t)):=by
 have:=NK a b c w ha hb hc
 rwa [h] at this
theorem BD (a b c:Pt):-1<=tn a b c/\tn a b c<=1:=by
 rcases dN (cr a b c) with⟨_,e⟩|⟨_,e⟩|⟨_,e⟩<;>unfold tn<;>rw[e]<;>omega
def eG (p a b:Pt):Bool:=decide (tn a b p=0/\(min a.1 b.1<=p.1/\p.1<=max a.1 b.1)/\(min a.2 b.2<=p.2/\p.2<=max a.2 b.2))
theorem Vj (p a b:Pt)(w:World)(hp:p.ok=true)(ha:a.ok=true)(hb:b.ok=true) :
  Calls Tryz.prog 177 #[p.v,a.v,b.v] w (aC w (.bool (eG p a b))):=by
 have hm:=aP
 obtain⟨t,ht⟩:∃t,tn a b p=t:=⟨_,rfl⟩
 have k1:=hide (fun W=>sN a b p t W ha hb hp ht)
 unfold eG
 rw[ht]
 obtain⟨p1,p2⟩:=p
 obtain⟨a1,a2⟩:=a
 obtain⟨b1,b2⟩:=b
 clear ht hp ha hb
 by_cases h0:t=0
 ·subst h0
  go_enter Tryz.func177,Tryz.ntmps177
  go_wp2_with (go_at_call 152;with_reducible refine aQ (k1.out _) fun _ _=>?_;dsimp only)
  all_goals go_ret
  all_goals refine aC.mk' (dU ?_) gw
  all_goals (rw[Bool.eq_iff_iff];simp;omega)
 ·have h1:(t==0)=false:=by simpa using h0
  go_enter Tryz.func177,Tryz.ntmps177
  go_wp2_with (go_at_call 152;with_reducible refine aQ (k1.out _) fun _ _=>?_;dsimp only)
  go_ret
  exact aC.mk' (dU (by simp[h0])) gw
theorem D6 (p a b:Pt)(r:Bool)(w:World)(hp:p.ok=true)(ha:a.ok=true)(hb:b.ok=true)(h:eG p a b=r) :
  Calls Tryz.prog 177 #[pt p.1 p.2,pt a.1 a.2,pt b.1 b.2] w (aC w (.bool r)):=by
 have:=Vj p a b w hp ha hb
 rwa [h] at this
def lG (a b c d:Pt):Bool:=decide (tn a b c*tn a b d<0)&&decide (tn c d a*tn c d b<0)
def bC (a b c d:Pt):Bool:=lG a b c d||(eG a c d||(eG b c d||(eG c a b||eG d a b)))
theorem IP {s t:Int}(hs:-1<=s/\s<=1)(ht:-1<=t/\t<=1):-1<=s*t/\s*t<=1:=jc 1 1 hs ht
theorem NL (a b c d:Pt)(w:World)(ha:a.ok=true)(hb:b.ok=true)(hc:c.ok=true)(hd:d.ok=true) :
  Calls Tryz.prog 154 #[a.v,b.v,c.v,d.v] w (aC w (.bool (bC a b c d))):=by
 have hm:=aP
 obtain⟨t1,h1⟩:∃t,tn a b c=t:=⟨_,rfl⟩
 obtain⟨t2,h2⟩:∃t,tn a b d=t:=⟨_,rfl⟩
 obtain⟨t3,h3⟩:∃t,tn c d a=t:=⟨_,rfl⟩
 obtain⟨t4,h4⟩:∃t,tn c d b=t:=⟨_,rfl⟩
 obtain⟨o1,g1⟩:∃o,eG a c d=o:=⟨_,rfl⟩
 obtain⟨o2,g2⟩:∃o,eG b c d=o:=⟨_,rfl⟩
 obtain⟨o3,g3⟩:∃o,eG c a b=o:=⟨_,rfl⟩
 obtain⟨o4,g4⟩:∃o,eG d a b=o:=⟨_,rfl⟩
 have k1:=hide (fun W=>sN a b c t1 W ha hb hc h1)
 have k2:=hide (fun W=>sN a b d t2 W ha hb hd h2)
 have k3:=hide (fun W=>sN c d a t3 W hc hd ha h3)
 have k4:=hide (fun W=>sN c d b t4 W hc hd hb h4)
 have l1:=hide (fun W=>D6 a c d o1 W ha hc hd g1)
 have l2:=hide (fun W=>D6 b c d o2 W hb hc hd g2)
 have l3:=hide (fun W=>D6 c a b o3 W hc ha hb g3)
 have l4:=hide (fun W=>D6 d a b o4 W hd ha hb g4)
 have b12:=IP (h1 ▸ BD a b c) (h2 ▸ BD a b d)
 have b34:=IP (h3 ▸ BD c d a) (h4 ▸ BD c d b)
 have e12:IntKind.i64.wrap (t1*t2)=t1*t2:=by unfold IntKind.wrap;simp[IntKind.bits,IntKind.signed];omega
 have e34:IntKind.i64.wrap (t3*t4)=t3*t4:=by unfold IntKind.wrap;simp[IntKind.bits,IntKind.signed];omega
 unfold bC lG
 rw[h1,h2,h3,h4,g1,g2,g3,g4]
 obtain⟨a1,a2⟩:=a
 obtain⟨b1,b2⟩:=b
 obtain⟨c1,c2⟩:=c
 obtain⟨d1,d2⟩:=d
 clear h1 h2 h3 h4 g1 g2 g3 g4 ha hb hc hd
 have hcase:(decide (t1*t2<0)=true/\decide (t3*t4<0)=true)\/(decide (t1*t2<0)=true/\decide (t3*t4<0)=false)\/decide (t1*t2<0)=false:=by
  cases h1:decide (t1*t2<0)<;>cases h2:decide (t3*t4<0)<;>simp
 rcases hcase with⟨h1,h2⟩|⟨h1,h2⟩|h1
 ·rw[h1,h2]
  simp only[Bool.and_self,Bool.true_or]
  go_enter Tryz.func154,Tryz.ntmps154
  go_wp2_with fail
  refine ay 22 [] [] hm (h:=?_)
  repeat (refine ax (fun K hK=>?_);go_simp;first|(refine hK _ ?_;clear hK K)|(apply Exists.intro;refine⟨fun _=>?_,hK _ ?_⟩;(go_at_call 152;first|with_reducible exact k1.out _|with_reducible exact k2.out _|with_reducible exact k3.out _|with_reducible exact k4.out _);clear hK K))
  refine lU fun nq osq=>?_
  try simp only[Act.put,aG]
  try dsimp only
  go_wp2
  go_ret
  exact aC.mk' rfl gw
 all_goals
  rw[h1]
  try rw[h2]
  simp only[Bool.and_false,Bool.false_and,Bool.false_or]
  have hoc:o1=true\/(o1=false/\o2=true)\/(o1=false/\o2=false/\o3=true)\/(o1=false/\o2=false/\o3=false):=by
   cases o1<;>cases o2<;>cases o3<;>simp
  rcases hoc with rfl|⟨rfl,rfl⟩|⟨rfl,rfl,rfl⟩|⟨rfl,rfl,rfl⟩
  all_goals
   simp only[Bool.false_or,Bool.true_or]
   go_enter Tryz.func154,Tryz.ntmps154
   go_wp2_with fail
   refine ay 22 [] [] hm (h:=?_)
   repeat (refine ax (fun K hK=>?_);go_simp;first|(refine hK _ ?_;clear hK K)|(apply Exists.intro;refine⟨fun _=>?_,hK _ ?_⟩;(go_at_call 152;first|with_reducible exact k1.out _|with_reducible exact k2.out _|with_reducible exact k3.out _|with_reducible exact k4.out _);clear hK K))
   refine lU fun nq osq=>?_
   try simp only[Act.put,aG]
   try dsimp only
   go_wp2_with (first|(go_at_call 177;with_reducible refine aQ (l1.out _) fun _ _=>?_;dsimp only)|(go_at_call 177;with_reducible refine aQ (l2.out _) fun _ _=>?_;dsimp only)|(go_at_call 177;with_reducible refine aQ (l3.out _) fun _ _=>?_;dsimp only)|(go_at_call 177;with_reducible refine aQ (l4.out _) fun _ _=>?_;dsimp only))
   go_ret
   exact aC.mk' rfl gw
theorem Vk (a b c d:Pt)(r:Bool)(w:World)(ha:a.ok=true)(hb:b.ok=true)(hc:c.ok=true)(hd:d.ok=true)(h:bC a b c d=r) :
  Calls Tryz.prog 154 #[pt a.1 a.2,pt b.1 b.2,pt c.1 c.2,pt d.1 d.2] w (aC w (.bool r)):=by
 have:=NL a b c d w ha hb hc hd
 rwa [h] at this
theorem Bz (x y:Nat)(hx:x<18446744073709551616)(hy:y<18446744073709551616)(w:World) :
  Calls Tryz.prog 131 #[.int .u64 x,.int .u64 y] w (aC w (.tuple #[.int .u64 ((x*y / 18446744073709551616:Nat):Int),.int .u64 ((x*y%18446744073709551616:Nat):Int)])):=by
 obtain⟨bd,bt,bw,hhi⟩:=Lib.mul64_hi x y hx hy
 have ba:=Lib.half_mul_le (a:=x / 4294967296) (b:=y / 4294967296) (by omega) (by omega)
 have bb:=Lib.half_mul_le (a:=x / 4294967296) (b:=y%4294967296) (by omega) (by omega)
 have bc:=Lib.half_mul_le (a:=x%4294967296) (b:=y / 4294967296) (by omega) (by omega)
 have ba':x / 4294967296*(y / 4294967296)<18446744073709551616:=by omega
 have bb':x / 4294967296*(y%4294967296)<18446744073709551616:=by omega
 have bc':x%4294967296*(y / 4294967296)<18446744073709551616:=by omega
 have bh1:x / 4294967296*(y / 4294967296)+(x / 4294967296*(y%4294967296)+x%4294967296*(y%4294967296) / 4294967296) / 4294967296<18446744073709551616:=by omega
 have bh:x / 4294967296*(y / 4294967296)+(x / 4294967296*(y%4294967296)+x%4294967296*(y%4294967296) / 4294967296) / 4294967296+((x / 4294967296*(y%4294967296)+x%4294967296*(y%4294967296) / 4294967296)%4294967296+x%4294967296*(y / 4294967296)) / 4294967296<18446744073709551616:=by omega
 go_enter Tryz.func131,Tryz.ntmps131
 go_wp2
 simp only[Mul64.maskN x hx,Mul64.maskN y hy,Mul64.divN,Mul64.mulN,Mul64.addN,Mul64.wrapN _ bd,Mul64.wrapN _ bb',Mul64.wrapN _ bt,Mul64.maskN _ bt,Mul64.wrapN _ bc',Mul64.wrapN _ bw,Mul64.wrapN _ ba',Mul64.wrapN _ bh1,Mul64.wrapN _ bh,Mul64.wrapM (x*y)]
 rw[hhi]
 go_ret2
 exact aC.mk' rfl gw
theorem VK (X Y:Nat)(hX:X<340282366920938463463374607431768211456)(hY:Y<340282366920938463463374607431768211456):X<=Y↔(X / 18446744073709551616<Y / 18446744073709551616\/(X / 18446744073709551616=Y / 18446744073709551616/\X%18446744073709551616<=Y%18446744073709551616)):=by omega
theorem VL (a b c d:Nat)(w:World)(ha:a<9223372036854775808)(hb:b<9223372036854775808)(hc:c<9223372036854775808)(hd:d<9223372036854775808) :
  Calls Tryz.prog 168 #[.int .i64 a,.int .i64 b,.int .i64 c,.int .i64 d] w (aC w (.bool (decide (a*b<=c*d)))):=by
 have hm:=aP
 have k1:=hide (fun W=>Bz a b (by omega) (by omega) W)
 have k2:=hide (fun W=>Bz c d (by omega) (by omega) W)
 have hX:a*b<340282366920938463463374607431768211456:=Nat.lt_of_le_of_lt (Nat.mul_le_mul (Nat.le_of_lt ha) (Nat.le_of_lt hb)) (by omega)
 have hY:c*d<340282366920938463463374607431768211456:=Nat.lt_of_le_of_lt (Nat.mul_le_mul (Nat.le_of_lt hc) (Nat.le_of_lt hd)) (by omega)
 obtain⟨r,hr⟩:∃r,decide (a*b<=c*d)=r:=⟨_,rfl⟩
 rw[hr]
 have hi:=VK _ _ hX hY
 obtain⟨h,hh⟩:∃h,a*b / 18446744073709551616=h:=⟨_,rfl⟩
 obtain⟨l,hl⟩:∃h,a*b%18446744073709551616=h:=⟨_,rfl⟩
 obtain⟨i,hi'⟩:∃h,c*d / 18446744073709551616=h:=⟨_,rfl⟩
 obtain⟨m,hm'⟩:∃h,c*d%18446744073709551616=h:=⟨_,rfl⟩
 rw[hh,hl] at k1
 rw[hi',hm'] at k2
 rw[hh,hl,hi',hm'] at hi
 have hc1:(decide (h<i)=true/\r=true)\/(decide (h<i)=false/\((h:Int)==(i:Int))=false/\r=false)\/(h=i/\decide (l<=m)=r):=by
  rw[<-hr]
  by_cases h1:h<i
  ·exact .inl ⟨by simpa using h1,by simpa using hi.2 (.inl h1)⟩
  ·by_cases h2:h=i
   ·refine .inr (.inr ⟨h2,?_⟩)
    rw[Bool.eq_iff_iff,decide_eq_true_eq,decide_eq_true_eq,hi]
    omega
   ·exact .inr (.inl ⟨by simpa using h1,by rw[beq_eq_false_iff_ne];omega,by simp only[decide_eq_false_iff_not];omega⟩)
 have u1:IntKind.u64.wrap (a:Int)=a:=by rw[IntKind.wrap_u64];omega
 have u2:IntKind.u64.wrap (b:Int)=b:=by rw[IntKind.wrap_u64];omega
 have u3:IntKind.u64.wrap (c:Int)=c:=by rw[IntKind.wrap_u64];omega
 have u4:IntKind.u64.wrap (d:Int)=d:=by rw[IntKind.wrap_u64];omega
 clear hX hY hr hi hh hl hi' hm' ha hb hc hd
 rcases hc1 with⟨e1,rfl⟩|⟨e1,e2,rfl⟩|⟨rfl,e1⟩
 all_goals
  go_enter Tryz.func168,Tryz.ntmps168
  go_wp2_with (first|(go_at_call 131;with_reducible refine aQ (k1.out _) fun _ _=>?_;dsimp only)|(go_at_call 131;with_reducible refine aQ (k2.out _) fun _ _=>?_;dsimp only))
  go_ret
  exact aC.mk' (dU (by simp[*])) gw
def wW (p:Prop):Prop:=p
theorem wW.stop {p:Prop}(h:wW p):p:=h
theorem EF (a b:Pt)(w:World)(ha:a.ok=true)(hb:b.ok=true):Calls Tryz.prog 145 #[pt a.1 a.2,pt b.1 b.2] w (aC w (pt (b.1-a.1) (b.2-a.2))):=by
 have a':=lL ha
 have b':=lL hb
 exact EG _ _ _ _ w (by omega) (by omega) (by omega) (by omega)
def oM (p a b:Pt):Int×Int×Int :=
 if dt a b p<=0 then (dt a p p,1,1) else if dt a b b<=dt a b p then (dt b p p,1,1) else ((cr a b p).natAbs,(cr a b p).natAbs,dt a b b)
theorem Na (p a b:Pt)(w:World)(hp:p.ok=true)(ha:a.ok=true)(hb:b.ok=true) :
  Calls Tryz.prog 167 #[pt p.1 p.2,pt a.1 a.2,pt b.1 b.2] w (aC w (.tuple #[.int .i64 (oM p a b).1,.int .i64 (oM p a b).2.1,.int .i64 (oM p a b).2.2])):=by
 have hm:=aP
 have p':=lL hp
 have a':=lL ha
 have b':=lL hb
 have cb:=Xq ha hb hp
 have db:=EK ha hb hb
 have k1:=hide (fun W=>EF a b W ha hb)
 have k2:=hide (fun W=>EF a p W ha hp)
 have k3:=hide (fun W=>EF b p W hb hp)
 have d1:Hid (∀W,Calls Tryz.prog 146 #[pt (b.1-a.1) (b.2-a.2),pt (b.1-a.1) (b.2-a.2)] W (aC W (.int .i64 (dt a b b)))):=hide (fun W=>rY _ _ _ _ W (by omega) (by omega) (by omega) (by omega))
 have d2:Hid (∀W,Calls Tryz.prog 146 #[pt (b.1-a.1) (b.2-a.2),pt (p.1-a.1) (p.2-a.2)] W (aC W (.int .i64 (dt a b p)))):=hide (fun W=>rY _ _ _ _ W (by omega) (by omega) (by omega) (by omega))
 have d3:Hid (∀W,Calls Tryz.prog 146 #[pt (p.1-a.1) (p.2-a.2),pt (p.1-a.1) (p.2-a.2)] W (aC W (.int .i64 (dt a p p)))):=hide (fun W=>rY _ _ _ _ W (by omega) (by omega) (by omega) (by omega))
 have d4:Hid (∀W,Calls Tryz.prog 146 #[pt (p.1-b.1) (p.2-b.2),pt (p.1-b.1) (p.2-b.2)] W (aC W (.int .i64 (dt b p p)))):=hide (fun W=>rY _ _ _ _ W (by omega) (by omega) (by omega) (by omega))
 have d5:Hid (∀W,Calls Tryz.prog 176 #[pt (b.1-a.1) (b.2-a.2),pt (p.1-a.1) (p.2-a.2)] W (aC W (.int .i64 (cr a b p)))):=hide (fun W=>DF _ _ _ _ W (by omega) (by omega) (by omega) (by omega))
 unfold oM
 generalize dt a b b=long at *
 generalize dt a b p=foot at *
 generalize dt a p p=ww at *
 generalize dt b p p=uu at *
 generalize cr a b p=c at *
 obtain⟨x1,x2⟩:=p
 obtain⟨a1,a2⟩:=a
 obtain⟨b1,b2⟩:=b
 dsimp only at *
 obtain⟨v1,hv1⟩:∃z,b1-a1=z:=⟨_,rfl⟩
 obtain⟨v2,hv2⟩:∃z,b2-a2=z:=⟨_,rfl⟩
 obtain⟨w1,hw1⟩:∃z,x1-a1=z:=⟨_,rfl⟩
 obtain⟨w2,hw2⟩:∃z,x2-a2=z:=⟨_,rfl⟩
 obtain⟨u1,hu1⟩:∃z,x1-b1=z:=⟨_,rfl⟩
 obtain⟨u2,hu2⟩:∃z,x2-b2=z:=⟨_,rfl⟩
 rw[hv1,hv2] at k1 d1 d2 d5
 rw[hw1,hw2] at k2 d2 d3 d5
 rw[hu1,hu2] at k3 d4
 clear hv1 hv2 hw1 hw2 hu1 hu2 hp ha hb p' a' b'
 by_cases h0:foot<=0
 ·rw[if_pos h0]
  go_enter Tryz.func167,Tryz.ntmps167
  go_wp2_with fail
  refine ay 10 [⟨6,8,9,214,.agg #[.int .i64 0,.int .i64 0]⟩,⟨7,9,10,214,.agg #[.int .i64 0,.int .i64 0]⟩] [] hm (hZ:=(qI.cons Tryz.zeroValue214 Tryz.sizeOf214 (qI.cons Tryz.zeroValue214 Tryz.sizeOf214 qI.nil))) (h:=?_)
  repeat (refine ax (fun K hK=>?_);go_simp;first|(refine hK _ ?_;clear hK K)|(apply Exists.intro;refine⟨fun _=>?_,hK _ ?_⟩;(go_at_call 145;first|with_reducible exact k1.out _|with_reducible exact k2.out _);clear hK K))
  refine dZ ?_
  refine⟨(ja.cons (by rfl) (by simp[bV,Act.eval,Value.cells,Value.oneCell']) (ja.cons (by rfl) (by simp[bV,Act.eval,Value.cells,Value.oneCell']) ja.nil)),nT.nil,?_⟩
  rintro psq FI Wq iT F6 F8
  obtain rfl:FI=[]:=F8
  obtain⟨p0,_,rfl,hp0,hb0,hn0,p1,_,rfl,hp1,hb1,hn1,rfl⟩:=F6
  simp only[putAll,putB,Act.put,aG]
  simp[bV,Act.eval,Value.cells] at hb0
  have xY:Wq.cell? ⟨p0,0,none⟩=some _:=ag hb0 0
  have xX:Wq.cell? ⟨p0,1,none⟩=some _:=ag hb0 1
  have Yl:=bM hb0
  have Yk:=au hb0
  simp[bV,Act.eval,Value.cells] at hb1
  have EE:Wq.cell? ⟨p1,0,none⟩=some _:=ag hb1 0
  have ED:Wq.cell? ⟨p1,1,none⟩=some _:=ag hb1 1
  have gf1:=bM hb1
  have gl1:=au hb1
  have gn:p0≠p1:=by simpa using hn0
  have gm:p1≠p0:=fun e=>gn e.symm
  have Xa:=hide hp0
  have gp1:=hide hp1
  clear hb0 hn0 hp0 hb1 hn1 hp1
  have oc:=iW iT
  have of:=jw iT
  have ol:=rH iT
  replace iT:=hide iT
  go_wp2_with fail
  refine ay 8 [] [] hm (h:=?_)
  repeat (refine ax (fun K hK=>?_);go_simp;first|(refine hK _ ?_;clear hK K)|(apply Exists.intro;refine⟨fun _=>?_,hK _ ?_⟩;(go_at_call 146;first|with_reducible exact d1.out _|with_reducible exact d2.out _);clear hK K))
  refine lU fun nqz NR=>?_
  try simp only[Act.put,aG]
  try dsimp only
  go_wp2_with (first|(go_at_call 146;with_reducible refine aQ (d3.out _) fun _ _=>?_;dsimp only)|(go_at_call 146;with_reducible refine aQ (d4.out _) fun _ _=>?_;dsimp only)|(go_at_call 145;with_reducible refine aQ (k3.out _) fun _ _=>?_;dsimp only)|(go_at_call 176;with_reducible refine aQ (d5.out _) fun _ _=>?_;dsimp only))
  go_ret3
  exact aC.mk' rfl (Grew.trans gw (iT.out.trans gw))
 ·have h0':decide (foot<=0)=false:=by simpa using h0
  rw[if_neg h0]
  by_cases h1:long<=foot
  ·rw[if_pos h1]
   go_enter Tryz.func167,Tryz.ntmps167
   go_wp2_with fail
   refine ay 10 [⟨6,8,9,214,.agg #[.int .i64 0,.int .i64 0]⟩,⟨7,9,10,214,.agg #[.int .i64 0,.int .i64 0]⟩] [] hm (hZ:=(qI.cons Tryz.zeroValue214 Tryz.sizeOf214 (qI.cons Tryz.zeroValue214 Tryz.sizeOf214 qI.nil))) (h:=?_)
   repeat (refine ax (fun K hK=>?_);go_simp;first|(refine hK _ ?_;clear hK K)|(apply Exists.intro;refine⟨fun _=>?_,hK _ ?_⟩;(go_at_call 145;first|with_reducible exact k1.out _|with_reducible exact k2.out _);clear hK K))
   refine dZ ?_
   refine⟨(ja.cons (by rfl) (by simp[bV,Act.eval,Value.cells,Value.oneCell']) (ja.cons (by rfl) (by simp[bV,Act.eval,Value.cells,Value.oneCell']) ja.nil)),nT.nil,?_⟩
   rintro psq FI Wq iT F6 F8
   obtain rfl:FI=[]:=F8
   obtain⟨p0,_,rfl,hp0,hb0,hn0,p1,_,rfl,hp1,hb1,hn1,rfl⟩:=F6
   simp only[putAll,putB,Act.put,aG]
   simp[bV,Act.eval,Value.cells] at hb0
   have xY:Wq.cell? ⟨p0,0,none⟩=some _:=ag hb0 0
   have xX:Wq.cell? ⟨p0,1,none⟩=some _:=ag hb0 1
   have Yl:=bM hb0
   have Yk:=au hb0
   simp[bV,Act.eval,Value.cells] at hb1
   have EE:Wq.cell? ⟨p1,0,none⟩=some _:=ag hb1 0
   have ED:Wq.cell? ⟨p1,1,none⟩=some _:=ag hb1 1
   have gf1:=bM hb1
   have gl1:=au hb1
   have gn:p0≠p1:=by simpa using hn0
   have gm:p1≠p0:=fun e=>gn e.symm
   have Xa:=hide hp0
   have gp1:=hide hp1
   clear hb0 hn0 hp0 hb1 hn1 hp1
   have oc:=iW iT
   have of:=jw iT
   have ol:=rH iT
   replace iT:=hide iT
   have e0:Wq.cell? ⟨w.heap.size,0,none⟩=some (.int .i64 x1):=(oc _ _ (by simp;omega)).trans (by go_simp)
   have e1:Wq.cell? ⟨w.heap.size,1,none⟩=some (.int .i64 x2):=(oc _ _ (by simp;omega)).trans (by go_simp)
   have e2:Wq.cell? ⟨w.heap.size+1+1,0,none⟩=some (.int .i64 b1):=(oc _ _ (by simp)).trans (by go_simp)
   have e3:Wq.cell? ⟨w.heap.size+1+1,1,none⟩=some (.int .i64 b2):=(oc _ _ (by simp)).trans (by go_simp)
   have l2:w.heap.size+1+1<Wq.heap.size:=by rw[ol _ (by simp)];trivial
   have l0:w.heap.size<Wq.heap.size:=by omega
   go_wp2_with fail
   refine ay 8 [] [] hm (h:=?_)
   repeat (refine ax (fun K hK=>?_);go_simp;first|(refine hK _ ?_;clear hK K)|(apply Exists.intro;refine⟨fun _=>?_,hK _ ?_⟩;(go_at_call 146;first|with_reducible exact d1.out _|with_reducible exact d2.out _);clear hK K))
   refine lU fun nqz NR=>?_
   try simp only[Act.put,aG]
   try dsimp only
   go_wp2_with (first|(go_at_call 146;with_reducible refine aQ (d3.out _) fun _ _=>?_;dsimp only)|(go_at_call 146;with_reducible refine aQ (d4.out _) fun _ _=>?_;dsimp only)|(go_at_call 145;with_reducible refine aQ (k3.out _) fun _ _=>?_;dsimp only)|(go_at_call 176;with_reducible refine aQ (d5.out _) fun _ _=>?_;dsimp only))
   go_ret3
   exact aC.mk' rfl (Grew.trans gw (iT.out.trans gw))
  ·have h1':decide (long<=foot)=false:=by simpa using h1
   rw[if_neg h1]
   go_enter Tryz.func167,Tryz.ntmps167
   go_wp2_with fail
   refine ay 10 [⟨6,8,9,214,.agg #[.int .i64 0,.int .i64 0]⟩,⟨7,9,10,214,.agg #[.int .i64 0,.int .i64 0]⟩] [] hm (hZ:=(qI.cons Tryz.zeroValue214 Tryz.sizeOf214 (qI.cons Tryz.zeroValue214 Tryz.sizeOf214 qI.nil))) (h:=?_)
   repeat (refine ax (fun K hK=>?_);go_simp;first|(refine hK _ ?_;clear hK K)|(apply Exists.intro;refine⟨fun _=>?_,hK _ ?_⟩;(go_at_call 145;first|with_reducible exact k1.out _|with_reducible exact k2.out _);clear hK K))
   refine dZ ?_
   refine⟨(ja.cons (by rfl) (by simp[bV,Act.eval,Value.cells,Value.oneCell']) (ja.cons (by rfl) (by simp[bV,Act.eval,Value.cells,Value.oneCell']) ja.nil)),nT.nil,?_⟩
   rintro psq FI Wq iT F6 F8
   obtain rfl:FI=[]:=F8
   obtain⟨p0,_,rfl,hp0,hb0,hn0,p1,_,rfl,hp1,hb1,hn1,rfl⟩:=F6
   simp only[putAll,putB,Act.put,aG]
   simp[bV,Act.eval,Value.cells] at hb0
   have xY:Wq.cell? ⟨p0,0,none⟩=some _:=ag hb0 0
   have xX:Wq.cell? ⟨p0,1,none⟩=some _:=ag hb0 1
   have Yl:=bM hb0
   have Yk:=au hb0
   simp[bV,Act.eval,Value.cells] at hb1
   have EE:Wq.cell? ⟨p1,0,none⟩=some _:=ag hb1 0
   have ED:Wq.cell? ⟨p1,1,none⟩=some _:=ag hb1 1
   have gf1:=bM hb1
   have gl1:=au hb1
   have gn:p0≠p1:=by simpa using hn0
   have gm:p1≠p0:=fun e=>gn e.symm
   have Xa:=hide hp0
   have gp1:=hide hp1
   clear hb0 hn0 hp0 hb1 hn1 hp1
   have oc:=iW iT
   have of:=jw iT
   have ol:=rH iT
   replace iT:=hide iT
   go_wp2_with fail
   refine ay 8 [] [] hm (h:=?_)
   repeat (refine ax (fun K hK=>?_);go_simp;first|(refine hK _ ?_;clear hK K)|(apply Exists.intro;refine⟨fun _=>?_,hK _ ?_⟩;(go_at_call 146;first|with_reducible exact d1.out _|with_reducible exact d2.out _);clear hK K))
   refine lU fun nqz NR=>?_
   try simp only[Act.put,aG]
   try dsimp only
   go_wp2_with (first|(go_at_call 146;with_reducible refine aQ (d3.out _) fun _ _=>?_;dsimp only)|(go_at_call 146;with_reducible refine aQ (d4.out _) fun _ _=>?_;dsimp only)|(go_at_call 145;with_reducible refine aQ (k3.out _) fun _ _=>?_;dsimp only)|(go_at_call 176;with_reducible refine aQ (d5.out _) fun _ _=>?_;dsimp only))
   all_goals go_ret3
   all_goals exact aC.mk' (J6 (l9 (by omega)) (l9 (by omega)) rfl) (Grew.trans gw (iT.out.trans gw))
theorem FH (x:Int):0<=x*x:=by rw[<-Int.natAbs_mul_self];exact Int.natCast_nonneg _
theorem UR {p a b:Pt}(hp:p.ok=true)(ha:a.ok=true)(hb:b.ok=true):(0<=(oM p a b).1/\(oM p a b).1<=8000000000000)/\(0<=(oM p a b).2.1/\(oM p a b).2.1<=8000000000000)/\(0<=(oM p a b).2.2/\(oM p a b).2.2<=8000000000000):=by
 have c1:=Xq ha hb hp
 have c2:=EK ha hp hp
 have c3:=EK hb hp hp
 have c4:=EK ha hb hb
 have p1:0<=dt a p p:=by unfold dt;have:=FH (p.1-a.1);have:=FH (p.2-a.2);omega
 have p2:0<=dt b p p:=by unfold dt;have:=FH (p.1-b.1);have:=FH (p.2-b.2);omega
 have p3:0<=dt a b b:=by unfold dt;have:=FH (b.1-a.1);have:=FH (b.2-a.2);omega
 unfold oM
 split
 ·dsimp only;omega
 ·split
  ·dsimp only;omega
  ·dsimp only;omega
def o6 (p a b:Pt)(d:Int):Bool:=decide ((oM p a b).1*(oM p a b).2.1<=d*d*(oM p a b).2.2)
def apartB (p a b:Pt)(d:Int):Bool:=decide (d*d*(oM p a b).2.2<=(oM p a b).1*(oM p a b).2.1)
def lM (d:Int):Bool:=decide (0<=d/\d<=3000000)
theorem VJ (a b c d:Int)(r:Bool)(w:World)(ha:0<=a/\a<9223372036854775808)(hb:0<=b/\b<9223372036854775808)(hc:0<=c/\c<9223372036854775808)(hd:0<=d/\d<9223372036854775808)(h:decide (a*b<=c*d)=r) :
  Calls Tryz.prog 168 #[.int .i64 a,.int .i64 b,.int .i64 c,.int .i64 d] w (aC w (.bool r)):=by
 obtain⟨x,rfl⟩:∃x:Nat,a=x:=⟨a.toNat,by omega⟩
 obtain⟨y,rfl⟩:∃x:Nat,b=x:=⟨b.toNat,by omega⟩
 obtain⟨z,rfl⟩:∃x:Nat,c=x:=⟨c.toNat,by omega⟩
 obtain⟨u,rfl⟩:∃x:Nat,d=x:=⟨d.toNat,by omega⟩
 have:=VL x y z u w (by omega) (by omega) (by omega) (by omega)
 rw[<-Int.natCast_mul,<-Int.natCast_mul] at h
 have e:decide (x*y<=z*u)=r:=by rw[<-h,Bool.eq_iff_iff,decide_eq_true_eq,decide_eq_true_eq,Int.ofNat_le]
 rwa [e] at this
theorem JP (p a b:Pt)(q:Int×Int×Int)(w:World)(hp:p.ok=true)(ha:a.ok=true)(hb:b.ok=true)(h:oM p a b=q) :
  Calls Tryz.prog 167 #[pt p.1 p.2,pt a.1 a.2,pt b.1 b.2] w (aC w (.tuple #[.int .i64 q.1,.int .i64 q.2.1,.int .i64 q.2.2])):=by
 have:=Na p a b w hp ha hb
 rwa [h] at this
theorem UT {d:Int}(h:0<=d/\d<=3000000):0<=d*d/\d*d<=9000000000000:=by
 have h1:=jc (a:=d) (b:=d) 3000000 3000000 (by omega) (by omega)
 have h2:=FH d
 simp only[Nat.reduceMul,Int.reduceNeg,Int.cast_ofNat_Int] at h1
 omega
theorem VH (p a b:Pt)(d:Int)(w:World)(hp:p.ok=true)(ha:a.ok=true)(hb:b.ok=true)(hd:0<=d/\d<=3000000) :
  Calls Tryz.prog 144 #[pt p.1 p.2,pt a.1 a.2,pt b.1 b.2,.int .i64 d] w (aC w (.bool (o6 p a b d))):=by
 have hm:=aP
 have hbd:=UR hp ha hb
 unfold o6
 obtain⟨⟨x,y,z⟩,hq⟩:∃q,oM p a b=q:=⟨_,rfl⟩
 rw[hq] at hbd ⊢
 dsimp only at hbd ⊢
 obtain⟨r,hr⟩:∃r,decide (x*y<=d*d*z)=r:=⟨_,rfl⟩
 rw[hr]
 have hdd:=UT hd
 have k1:=hide (fun W=>JP p a b _ W hp ha hb hq)
 have k2:=hide (fun W=>VJ x y (d*d) z r W (by omega) (by omega) (by omega) (by omega) hr)
 obtain⟨p1,p2⟩:=p
 obtain⟨a1,a2⟩:=a
 obtain⟨b1,b2⟩:=b
 clear hq hr hp ha hb hbd
 go_enter Tryz.func144,Tryz.ntmps144
 go_wp2_with (first|(go_at_call 167;with_reducible refine aQ (k1.out _) fun _ _=>?_;dsimp only)|(go_at_call 168;with_reducible refine aQ (k2.out _) fun _ _=>?_;dsimp only))
 go_ret
 exact aC.mk' rfl gw
theorem abZ (p a b:Pt)(d:Int)(r:Bool)(w:World)(hp:p.ok=true)(ha:a.ok=true)(hb:b.ok=true)(hd:0<=d/\d<=3000000)(h:o6 p a b d=r) :
  Calls Tryz.prog 144 #[pt p.1 p.2,pt a.1 a.2,pt b.1 b.2,.int .i64 d] w (aC w (.bool r)):=by
 have:=VH p a b d w hp ha hb hd
 rwa [h] at this
theorem Ji (d:Int)(w:World):Calls Tryz.prog 143 #[.int .i64 d] w (aC w (.bool (lM d))):=by
 go_enter Tryz.func143,Tryz.ntmps143
 go_wp2
 all_goals go_ret
 all_goals refine aC.mk' (dU ?_) gw
 all_goals (rw[Bool.eq_iff_iff];simp[lM];omega)
theorem uF (d:Int)(r:Bool)(w:World)(h:lM d=r):Calls Tryz.prog 143 #[.int .i64 d] w (aC w (.bool r)):=by
 have:=Ji d w
 rwa [h] at this
def dY (v:Pt):List Value:=[.int .i64 v.1,.int .i64 v.2]
theorem ni (v:Pt):(dY v).length=2:=rfl
theorem ug {w:World}{B:Nat}{A:Option Addr}{ps:List Pt}{k:Nat}{p:Pt}(h:Rd w B 2 A (ps.map dY))(hk:ps[k]?=some p) :
  ∃b off,Hid (A=some ⟨b,off,none⟩)/\b<B/\w.cell? ⟨b,off+k*2,none⟩=some (.int .i64 p.1)/\w.cell? ⟨b,off+k*2+1,none⟩=some (.int .i64 p.2):=by
 obtain⟨b,off,hA,hb,hc⟩:=h.at_ (k:=k) (x:=dY p) (by simp[hk])
 exact⟨b,off,hA,hb,hc 0 _ rfl,hc 1 _ rfl⟩
theorem Rd.xN {W:World}{b:Nat}{cs:Array Value}{T:TypeId}(ps:List Pt)(h:W.heap[b]?=some (.cells cs T (0,0)))(hc:cs.toList=ps.flatMap dY):Rd W W.heap.size 2 (some ⟨b,0,none⟩) (ps.map dY):=by
 refine .inr ⟨b,0,rfl,au h,fun k x hx j u hu=>?_⟩
 rw[List.getElem?_map] at hx
 obtain⟨s,hs,rfl⟩:=Option.map_eq_some_iff.1 hx
 have hj:j<2:=by rw[<-ni s];exact (List.getElem?_eq_some_iff.1 hu).1
 rw[Nat.zero_add,ag h,<-Array.getElem?_toList,hc]
 exact (ig dY 2 ni ps k j u hj).2 ⟨s,hs,hu⟩
theorem rU {ps:List Pt}{k:Nat}{p:Pt}(f:Pt->Bool)(h:ps[k]?=some p):(ps.take (k+1)).all f=((ps.take k).all f&&f p):=by
 obtain⟨h1,h2⟩:=List.getElem?_eq_some_iff.1 h
 rw[List.take_succ_eq_append_getElem h1,h2,List.all_append]
 simp
theorem uS {ps:List Pt}{k:Nat}{p:Pt}{f:Pt->Bool}(h:ps[k]?=some p)(hf:f p=false):ps.all f=false :=
 List.all_eq_false.2 ⟨p,List.mem_of_getElem? h,by rw[hf];simp⟩
theorem fC {P:Program}{c:Code}{Q:Exit->Act->World->Prop}{a:Act}{w:World}(h:∀W0,w=W0->c.wp P Q a W0):c.wp P Q a w:=h _ rfl
theorem az (W:World)(o:Obj)(b:Nat)(h:b=W.heap.size):(W.alloc o).heap[b]?=some o:=by subst h;exact heap_alloc_new W o
theorem MV (ps:List Pt)(A:Option Addr)(c:Nat)(w:World)(hr:Rd w w.heap.size 2 A (ps.map dY))(hc:ps.length<=1000000) :
  Calls Tryz.prog 142 #[.slice A ps.length c] w (aC w (.bool (ps.all Pt.ok))):=by
 have hm:=aP
 obtain⟨r,hr'⟩:∃r,ps.all Pt.ok=r:=⟨_,rfl⟩
 rw[hr']
 have HR:=hide hr'
 clear hr'
 go_enter Tryz.func142,Tryz.ntmps142
 go_wp2_with fail
 go_loopw [7] (fun i wr=>∃k:Nat,k<=ps.length/\i=.int .i64 k/\Grew w wr/\wW ((ps.take k).all Pt.ok=true)) (fun i _=>ps.length-(intOf i).toNat)
 case atStart=>exact⟨0,by omega,rfl,gw,rfl⟩
 case round =>
  obtain⟨k,hk,rfl,hg,hall⟩:=hrel
  have HG:=hide hg
  have HA:=hide hall.stop
  clear hg hall
  by_cases hlt:k<ps.length
  ·obtain⟨p,hp⟩:∃p,ps[k]?=some p:=⟨_,List.getElem?_eq_getElem hlt⟩
   obtain⟨b,off,hA,hb,h0,h1⟩:=ug (hr.up HG.out) hp
   have hix:=aO (cap:=c) Tryz.underlying62 Tryz.sizeOf28 hA.out hlt
   have hs:=rU Pt.ok hp
   rw[HA.out,Bool.true_and] at hs
   have HP:=hide hp
   have HS:=hide hs
   obtain⟨o,ho⟩:∃o,p.ok=o:=⟨_,rfl⟩
   have k1:=hide (fun W=>dP p.1 p.2 o W ho)
   have HO:=hide ho
   clear hp hs ho
   obtain⟨p1,p2⟩:=p
   dsimp only at h0 h1
   cases o
   ·go_wp2_with (go_at_call 49;with_reducible refine aQ (k1.out _) fun _ _=>?_;dsimp only)
    go_ret
    have e:ps.all Pt.ok=false:=uS HP.out HO.out
    obtain rfl:r=false:=by rw[<-HR.out,e]
    exact aC.mk' rfl (HG.out.trans gw)
   ·go_wp2_with (go_at_call 49;with_reducible refine aQ (k1.out _) fun _ _=>?_;dsimp only)
    go_roundw
    case rel=>exact⟨k+1,by omega,by go_num,HG.out.trans gw,by rw[HS.out];exact HO.out⟩
    case measure=>simp[intOf];omega
  ·obtain rfl:k=ps.length:=by omega
   rw[List.take_length] at HA
   obtain rfl:r=true:=by rw[<-HR.out,HA.out]
   go_wp2_with fail
   go_ret
   exact aC.mk' rfl HG.out
theorem iI (ps:List Pt)(n:Nat)(A:Option Addr)(c:Nat)(r:Bool)(w:World)(hr:Rd w w.heap.size 2 A (ps.map dY))(hn:ps.length=n)(hc:ps.length<=1000000)(h:ps.all Pt.ok=r) :
  Calls Tryz.prog 142 #[.slice A n c] w (aC w (.bool r)):=by
 subst hn
 have:=MV ps A c w hr hc
 rwa [h] at this
theorem aac (a b c:Pt)(w:World)(ha:a.ok=true)(hb:b.ok=true)(hc:c.ok=true) :
  Calls Tryz.prog 135 #[pt a.1 a.2,pt b.1 b.2,pt c.1 c.2] w (aC w (.tuple #[.int .i64 (tn a b c),.int .i64 0])):=by
 have hm:=aP
 have hall:[a,b,c].all Pt.ok=true:=by simp only[List.all_cons,List.all_nil,ha,hb,hc,Bool.and_self]
 obtain⟨t,ht⟩:∃t,tn a b c=t:=⟨_,rfl⟩
 have k2:=hide (fun W=>sN a b c t W ha hb hc ht)
 rw[ht]
 obtain⟨a1,a2⟩:=a
 obtain⟨b1,b2⟩:=b
 obtain⟨c1,c2⟩:=c
 have HA:=hide hall
 clear hall ht ha hb hc
 go_enter Tryz.func135,Tryz.ntmps135
 go_wp2_with fail
 refine (iI _ _ _ _ true _ (Rd.xN _ (az _ _ _ (by simp[bU])) rfl) rfl (by simp) HA.out).mono ?_
 rintro e w' ⟨rfl,⟨_,_⟩,rfl⟩
 dsimp only
 go_wp2_with (go_at_call 152;with_reducible refine aQ (k2.out _) fun _ _=>?_;dsimp only)
 go_ret2
 exact aC.mk' rfl gw
theorem afe (p a b:Pt)(w:World)(hp:p.ok=true)(ha:a.ok=true)(hb:b.ok=true) :
  Calls Tryz.prog 219 #[pt p.1 p.2,pt a.1 a.2,pt b.1 b.2] w (aC w (.tuple #[.bool (eG p a b),.int .i64 0])):=by
 have hm:=aP
 have hall:[p,a,b].all Pt.ok=true:=by simp only[List.all_cons,List.all_nil,ha,hb,hp,Bool.and_self]
 obtain⟨t,ht⟩:∃t,eG p a b=t:=⟨_,rfl⟩
 have k2:=hide (fun W=>D6 p a b t W hp ha hb ht)
 rw[ht]
 obtain⟨a1,a2⟩:=a
 obtain⟨b1,b2⟩:=b
 obtain⟨c1,c2⟩:=p
 have HA:=hide hall
 clear hall ht ha hb hp
 go_enter Tryz.func219,Tryz.ntmps219
 go_wp2_with fail
 refine (iI _ _ _ _ true _ (Rd.xN _ (az _ _ _ (by simp[bU])) rfl) rfl (by simp) HA.out).mono ?_
 rintro e w' ⟨rfl,⟨_,_⟩,rfl⟩
 dsimp only
 go_wp2_with (go_at_call 177;with_reducible refine aQ (k2.out _) fun _ _=>?_;dsimp only)
 go_ret2
 exact aC.mk' rfl gw
theorem QJ (a b c d:Pt)(w:World)(ha:a.ok=true)(hb:b.ok=true)(hc:c.ok=true)(hd:d.ok=true) :
  Calls Tryz.prog 137 #[pt a.1 a.2,pt b.1 b.2,pt c.1 c.2,pt d.1 d.2] w (aC w (.tuple #[.bool (bC a b c d),.int .i64 0])):=by
 have hm:=aP
 have hall:[a,b,c,d].all Pt.ok=true:=by simp only[List.all_cons,List.all_nil,ha,hb,hc,hd,Bool.and_self]
 obtain⟨t,ht⟩:∃t,bC a b c d=t:=⟨_,rfl⟩
 have k2:=hide (fun W=>Vk a b c d t W ha hb hc hd ht)
 rw[ht]
 obtain⟨a1,a2⟩:=a
 obtain⟨b1,b2⟩:=b
 obtain⟨c1,c2⟩:=c
 obtain⟨d1,d2⟩:=d
 have HA:=hide hall
 clear hall ht ha hb hc hd
 go_enter Tryz.func137,Tryz.ntmps137
 go_wp2_with fail
 refine (iI _ _ _ _ true _ (Rd.xN _ (az _ _ _ (by simp[bU])) rfl) rfl (by simp) HA.out).mono ?_
 rintro e w' ⟨rfl,⟨_,_⟩,rfl⟩
 dsimp only
 go_wp2_with (go_at_call 154;with_reducible refine aQ (k2.out _) fun _ _=>?_;dsimp only)
 go_ret2
 exact aC.mk' rfl gw
def kD (p a b:Pt)(d:Int):Bool×Int:=if (p.ok&&(a.ok&&(b.ok&&lM d)))=true then (o6 p a b d,0) else (false,1)
theorem zH {d:Int}(h:lM d=true):0<=d/\d<=3000000:=by simpa[lM] using h
theorem MF (p a b:Pt)(d:Int)(w:World) :
  Calls Tryz.prog 122 #[pt p.1 p.2,pt a.1 a.2,pt b.1 b.2,.int .i64 d] w (aC w (.tuple #[.bool (kD p a b d).1,.int .i64 (kD p a b d).2])):=by
 have hm:=aP
 obtain⟨v,hv⟩:∃v,[p,a,b].all Pt.ok=v:=⟨_,rfl⟩
 obtain⟨u,hu⟩:∃u,lM d=u:=⟨_,rfl⟩
 have k1:=hide (fun W=>uF d u W hu)
 have HV:=hide hv
 cases v
 ·have e:kD p a b d=(false,1):=by
   unfold kD
   simp only[List.all_cons,List.all_nil,Bool.and_true] at hv
   rw[if_neg]
   intro h
   simp only[Bool.and_eq_true] at h
   rw[h.1,h.2.1,h.2.2.1] at hv
   cases hv
  rw[e]
  obtain⟨a1,a2⟩:=a
  obtain⟨b1,b2⟩:=b
  obtain⟨c1,c2⟩:=p
  clear e hv hu
  go_enter Tryz.func122,Tryz.ntmps122
  go_wp2_with fail
  refine (iI _ _ _ _ false _ (Rd.xN _ (az _ _ _ (by simp[bU])) rfl) rfl (by simp) HV.out).mono ?_
  rintro e w' ⟨rfl,⟨_,_⟩,rfl⟩
  dsimp only
  go_wp2_with (go_at_call 143;with_reducible refine aQ (k1.out _) fun _ _=>?_;dsimp only)
  go_ret2
  exact aC.mk' rfl gw
 ·have hv3:=hv
  simp only[List.all_cons,List.all_nil,Bool.and_true,Bool.and_eq_true] at hv3
  cases u
  ·have e:kD p a b d=(false,1):=by
    unfold kD
    rw[hu,if_neg (by simp)]
   rw[e]
   obtain⟨a1,a2⟩:=a
   obtain⟨b1,b2⟩:=b
   obtain⟨c1,c2⟩:=p
   clear e hv hu hv3
   go_enter Tryz.func122,Tryz.ntmps122
   go_wp2_with fail
   refine (iI _ _ _ _ true _ (Rd.xN _ (az _ _ _ (by simp[bU])) rfl) rfl (by simp) HV.out).mono ?_
   rintro e w' ⟨rfl,⟨_,_⟩,rfl⟩
   dsimp only
   go_wp2_with (go_at_call 143;with_reducible refine aQ (k1.out _) fun _ _=>?_;dsimp only)
   go_ret2
   exact aC.mk' rfl gw
  ·have e:kD p a b d=(o6 p a b d,0):=by
    unfold kD
    rw[hu,hv3.1,hv3.2.1,hv3.2.2,if_pos (by rfl)]
   obtain⟨r,hr⟩:∃r,o6 p a b d=r:=⟨_,rfl⟩
   have k2:=hide (fun W=>abZ p a b d r W hv3.1 hv3.2.1 hv3.2.2 (zH hu) hr)
   rw[e,hr]
   obtain⟨a1,a2⟩:=a
   obtain⟨b1,b2⟩:=b
   obtain⟨c1,c2⟩:=p
   clear e hv hu hv3 hr
   go_enter Tryz.func122,Tryz.ntmps122
   go_wp2_with fail
   refine (iI _ _ _ _ true _ (Rd.xN _ (az _ _ _ (by simp[bU])) rfl) rfl (by simp) HV.out).mono ?_
   rintro e w' ⟨rfl,⟨_,_⟩,rfl⟩
   dsimp only
   go_wp2_with (first|(go_at_call 143;with_reducible refine aQ (k1.out _) fun _ _=>?_;dsimp only)|(go_at_call 144;with_reducible refine aQ (k2.out _) fun _ _=>?_;dsimp only))
   go_ret2
   exact aC.mk' rfl gw
theorem Ye (p a b:Pt)(d:Int)(w:World)(hp:p.ok=true)(ha:a.ok=true)(hb:b.ok=true)(hd:0<=d/\d<=3000000) :
  Calls Tryz.prog 214 #[pt p.1 p.2,pt a.1 a.2,pt b.1 b.2,.int .i64 d] w (aC w (.tuple #[.bool (apartB p a b d),.int .i64 0])):=by
 have hm:=aP
 have hall:[p,a,b].all Pt.ok=true:=by simp only[List.all_cons,List.all_nil,ha,hb,hp,Bool.and_self]
 have hu:lM d=true:=by simpa[lM] using hd
 have k1:=hide (fun W=>uF d true W hu)
 have hbd:=UR hp ha hb
 unfold apartB
 obtain⟨⟨x,y,z⟩,hq⟩:∃q,oM p a b=q:=⟨_,rfl⟩
 rw[hq] at hbd ⊢
 dsimp only at hbd ⊢
 obtain⟨r,hr⟩:∃r,decide (d*d*z<=x*y)=r:=⟨_,rfl⟩
 rw[hr]
 have hdd:=UT hd
 have k2:=hide (fun W=>JP p a b _ W hp ha hb hq)
 have k3:=hide (fun W=>VJ (d*d) z x y r W (by omega) (by omega) (by omega) (by omega) hr)
 obtain⟨p1,p2⟩:=p
 obtain⟨a1,a2⟩:=a
 obtain⟨b1,b2⟩:=b
 have HV:=hide hall
 clear hq hr hp ha hb hbd hall hu
 go_enter Tryz.func214,Tryz.ntmps214
 go_wp2_with fail
 refine (iI _ _ _ _ true _ (Rd.xN _ (az _ _ _ (by simp[bU])) rfl) rfl (by simp) HV.out).mono ?_
 rintro e w' ⟨rfl,⟨_,_⟩,rfl⟩
 dsimp only
 go_wp2_with (first|(go_at_call 143;with_reducible refine aQ (k1.out _) fun _ _=>?_;dsimp only)|(go_at_call 167;with_reducible refine aQ (k2.out _) fun _ _=>?_;dsimp only)|(go_at_call 168;with_reducible refine aQ (k3.out _) fun _ _=>?_;dsimp only))
 go_ret2
 exact aC.mk' rfl gw
theorem nK (a b c:Pt)(t:Int)(w:World)(ha:a.ok=true)(hb:b.ok=true)(hc:c.ok=true)(h:tn a b c=t) :
  Calls Tryz.prog 109 #[pt a.1 a.2,pt b.1 b.2,pt c.1 c.2] w (aC w (.int .i64 t)):=by
 have k1:=hide (fun W=>aac a b c W ha hb hc)
 rw[h] at k1
 obtain⟨a1,a2⟩:=a
 obtain⟨b1,b2⟩:=b
 obtain⟨c1,c2⟩:=c
 clear h ha hb hc
 go_enter Tryz.func109,Tryz.ntmps109
 go_wp2_with (go_at_call 135;with_reducible refine aQ (k1.out _) fun _ _=>?_;dsimp only)
 go_ret
 exact aC.mk' rfl gw
theorem abR (p a b:Pt)(r:Bool)(w:World)(hp:p.ok=true)(ha:a.ok=true)(hb:b.ok=true)(h:eG p a b=r) :
  Calls Tryz.prog 216 #[pt p.1 p.2,pt a.1 a.2,pt b.1 b.2] w (aC w (.bool r)):=by
 have k1:=hide (fun W=>afe p a b W hp ha hb)
 rw[h] at k1
 obtain⟨a1,a2⟩:=a
 obtain⟨b1,b2⟩:=b
 obtain⟨c1,c2⟩:=p
 clear h hp ha hb
 go_enter Tryz.func216,Tryz.ntmps216
 go_wp2_with (go_at_call 219;with_reducible refine aQ (k1.out _) fun _ _=>?_;dsimp only)
 go_ret
 exact aC.mk' rfl gw
end Go.Proofs.YtlkgjmnjhifehaaGreat
