/- Package plane: root, Dist. -/
import Derived.Test.YtlkgjmnjhifehaaGreatPgX
set_option linter.unusedSimpArgs false
set_option linter.unusedVariables false
set_option maxHeartbeats 1600000
set_option maxRecDepth 100000
namespace Go.Proofs.YtlkgjmnjhifehaaGreat
open Go.RowKit Go.Sort
attribute [local go_sem] dA steadyUpon
attribute [local go_sem ↓] bU bI aX aW aV aU aT
attribute [local go_sem] bH aK aJ size_grow tape_grow cell?_grow' aF aB grow_grow bW aY dR cO bY bK aN cZ aZ bZ bJ
attribute [local irreducible] wpSteady
def iJ (m:Nat):Int:=if m<=22 then 2 ^ (22-m) else 0
def rootAt (n:Int):Nat->Int
 | 0=>0
 | m+1=>if (rootAt n m+iJ m)*(rootAt n m+iJ m)<=n then rootAt n m+iJ m else rootAt n m
theorem AO (n:Int)(m:Nat):rootAt n (m+1)=if (rootAt n m+iJ m)*(rootAt n m+iJ m)<=n then rootAt n m+iJ m else rootAt n m:=rfl
theorem Rh (n:Int):rootAt n 0=0:=rfl
def rootOf (n:Int):Int:=rootAt n 23
theorem QC (m:Nat)(h:m<=22):iJ m=2*iJ (m+1)\/(m=22/\iJ m=1/\iJ (m+1)=0):=by
 have:m=0\/m=1\/m=2\/m=3\/m=4\/m=5\/m=6\/m=7\/m=8\/m=9\/m=10\/m=11\/m=12\/m=13\/m=14\/m=15\/m=16\/m=17\/m=18\/m=19\/m=20\/m=21\/m=22:=by omega
 rcases this with rfl|rfl|rfl|rfl|rfl|rfl|rfl|rfl|rfl|rfl|rfl|rfl|rfl|rfl|rfl|rfl|rfl|rfl|rfl|rfl|rfl|rfl|rfl<;>decide
theorem LZ (m:Nat)(h:m<=22):iJ (m+1)=iJ m / 2/\1<=iJ m/\iJ m<=4194304:=by
 have:m=0\/m=1\/m=2\/m=3\/m=4\/m=5\/m=6\/m=7\/m=8\/m=9\/m=10\/m=11\/m=12\/m=13\/m=14\/m=15\/m=16\/m=17\/m=18\/m=19\/m=20\/m=21\/m=22:=by omega
 rcases this with rfl|rfl|rfl|rfl|rfl|rfl|rfl|rfl|rfl|rfl|rfl|rfl|rfl|rfl|rfl|rfl|rfl|rfl|rfl|rfl|rfl|rfl|rfl<;>decide
theorem Ii (n:Int):∀m,m<=22->0<=rootAt n m/\rootAt n m+2*iJ m<=8388608
 | 0,_=>by
  rw[Rh]
  decide
 | m+1,h=>by
  obtain⟨h1,h2⟩:=Ii n m (by omega)
  have h3:=LZ m (by omega)
  have h4:=QC m (by omega)
  have:rootAt n (m+1)=rootAt n m+iJ m\/rootAt n (m+1)=rootAt n m:=by
   rw[AO]
   split<;>simp
  omega
theorem J5 (n:Int)(hn:0<=n)(hn2:n<70368744177664):∀m,m<=22->rootAt n m*rootAt n m<=n/\n<(rootAt n m+2*iJ m)*(rootAt n m+2*iJ m)
 | 0,_=>⟨by simpa[rootAt] using hn,by
   show n<(0+2*iJ 0)*(0+2*iJ 0)
   have:iJ 0=4194304:=by decide
   rw[this]
   omega⟩
 | m+1,h=>by
  obtain⟨h1,h2⟩:=J5 n hn hn2 m (by omega)
  have h4:iJ m=2*iJ (m+1):=by
   rcases QC m (by omega) with h4|h4
   ·exact h4
   ·omega
  rw[AO]
  split
  ·rename_i hle
   refine⟨hle,?_⟩
   rw[<-h4,show rootAt n m+iJ m+iJ m=rootAt n m+2*iJ m by omega]
   exact h2
  ·rename_i hle
   refine⟨h1,?_⟩
   rw[<-h4]
   omega
theorem xm (n:Int)(hn:0<=n)(hn2:n<70368744177664):0<=rootOf n/\rootOf n<=8388607/\rootOf n*rootOf n<=n/\n<(rootOf n+1)*(rootOf n+1):=by
 obtain⟨h1,h2⟩:=J5 n hn hn2 22 (by omega)
 obtain⟨h3,h4⟩:=Ii n 22 (by omega)
 have hb:iJ 22=1:=by decide
 rw[hb] at h2 h4
 unfold rootOf
 rw[AO]
 rw[hb]
 split
 ·rename_i hle
  exact⟨by omega,by omega,hle,by rw[show rootAt n 22+1+1=rootAt n 22+2*1 by omega];exact h2⟩
 ·rename_i hle
  exact⟨h3,by omega,h1,by omega⟩
theorem abH (n:Int)(w:World)(hn:0<=n)(hn2:n<70368744177664):Calls Tryz.prog 147 #[.int .i64 n] w (aC w (.int .i64 (rootOf n))):=by
 have hm:=aP
 go_enter Tryz.func147,Tryz.ntmps147
 go_wp2_with fail
 go_loopw [3,4] (fun r b wr=>∃m:Nat,m<=23/\r=.int .i64 (rootAt n m)/\b=.int .i64 (iJ m)/\Grew w wr) (fun _ b _=>(intOf b).toNat)
 case atStart=>exact⟨0,by omega,rfl,rfl,gw⟩
 case round =>
  obtain⟨m,hmm,rfl,rfl,hg⟩:=hrel
  have HG:=hide hg
  clear hg
  by_cases hlt:m<=22
  ·obtain⟨h1,h2⟩:=Ii n m hlt
   have h3:=LZ m hlt
   have hst:rootAt n (m+1)=if (rootAt n m+iJ m)*(rootAt n m+iJ m)<=n then rootAt n m+iJ m else rootAt n m:=rfl
   have HST:=hide hst
   have HHA:=hide h3.1
   obtain⟨_,h4,h5⟩:=h3
   obtain⟨r,hr⟩:∃r,rootAt n m=r:=⟨_,rfl⟩
   obtain⟨b,hb⟩:∃b,iJ m=b:=⟨_,rfl⟩
   rw[hr] at h1 h2 HST ⊢
   rw[hb] at h2 h4 h5 HST HHA ⊢
   clear hst hr hb
   have hb0:0<b:=by omega
   have ht:=jc (a:=r+b) (b:=r+b) 8388608 8388608 (by omega) (by omega)
   have ht2:=FH (r+b)
   obtain⟨q,hq⟩:∃q,(r+b)*(r+b)=q:=⟨_,rfl⟩
   rw[hq] at ht ht2 HST
   by_cases hle:q<=n
   ·go_wp2_with fail
    go_roundw
    case rel=>exact⟨m+1,by omega,by rw[HST.out,if_pos hle],by rw[HHA.out],HG.out⟩
    case measure=>simp[intOf];omega
   ·go_wp2_with fail
    go_roundw
    case rel=>exact⟨m+1,by omega,by rw[HST.out,if_neg hle],by rw[HHA.out],HG.out⟩
    case measure=>simp[intOf];omega
  ·obtain rfl:m=23:=by omega
   have hb:iJ 23=0:=by decide
   rw[hb]
   obtain⟨r,hr⟩:∃r,rootAt n 23=r:=⟨_,rfl⟩
   rw[hr]
   have HR:=hide hr
   clear hr hb
   go_wp2_with fail
   go_ret
   exact aC.mk' (by rw[<-HR.out];rfl) HG.out
def wH (a b:Pt):(Int×Int)×Int:=if (a.ok&&b.ok)=true then (if a=b then ((0,0),0) else if rootOf (dt a b b)*rootOf (dt a b b)=dt a b b then ((rootOf (dt a b b),rootOf (dt a b b)),0) else ((rootOf (dt a b b),rootOf (dt a b b)+1),0)) else ((0,0),1)
theorem Xi (a b:Pt):0<=dt a b b:=by
 unfold dt
 have:=FH (b.1-a.1)
 have:=FH (b.2-a.2)
 omega
theorem adm (p q:Pt)(o:(Int×Int)×Int)(w:World)(h:wH p q=o) :
  Calls Tryz.prog 124 #[pt p.1 p.2,pt q.1 q.2] w (aC w (.tuple #[pt o.1.1 o.1.2,.int .i64 o.2])):=by
 have hm:=aP
 obtain⟨v,hv⟩:∃v,[p,q].all Pt.ok=v:=⟨_,rfl⟩
 have HV:=hide hv
 have e:wH p q=if v=true then (if p=q then ((0,0),0) else if rootOf (dt p q q)*rootOf (dt p q q)=dt p q q then ((rootOf (dt p q q),rootOf (dt p q q)),0) else ((rootOf (dt p q q),rootOf (dt p q q)+1),0)) else ((0,0),1):=by
  unfold wH
  rw[<-hv]
  simp only[List.all_cons,List.all_nil,Bool.and_true]
 rw[e] at h
 clear e
 cases v
 ·rw[if_neg (by simp)] at h
  subst h
  obtain⟨a1,a2⟩:=p
  obtain⟨b1,b2⟩:=q
  clear hv
  go_enter Tryz.func124,Tryz.ntmps124
  go_wp2_with fail
  refine (iI _ _ _ _ false _ (Rd.xN _ (az _ _ _ (by simp[bU])) rfl) rfl (by simp) HV.out).mono ?_
  rintro e w' ⟨rfl,⟨_,_⟩,rfl⟩
  dsimp only
  go_wp2_with fail
  refine bodyPost_ret (v:=.tuple #[pt 0 0,.int .i64 1]) (by simp[results,Tryz.results124,go_sem]) rfl ?_
  exact aC.mk' rfl gw
 ·rw[if_pos rfl] at h
  have hpq:p.ok=true/\q.ok=true:=by simpa using hv
  have hd:=EK hpq.1 hpq.2 hpq.2
  have hd0:=Xi p q
  have hbp:=lL hpq.1
  have hbq:=lL hpq.2
  have kf:=hide (fun W=>EF p q W hpq.1 hpq.2)
  have kd:Hid (∀W,Calls Tryz.prog 146 #[pt (q.1-p.1) (q.2-p.2),pt (q.1-p.1) (q.2-p.2)] W (aC W (.int .i64 (dt p q q)))):=hide (fun W=>rY (q.1-p.1) (q.2-p.2) (q.1-p.1) (q.2-p.2) W (by omega) (by omega) (by omega) (by omega))
  have kr:=hide (fun W=>abH (dt p q q) W hd0 (by omega))
  by_cases hpe:p=q
  ·rw[if_pos hpe] at h
   subst h
   subst hpe
   obtain⟨a1,a2⟩:=p
   clear hv kf kd kr
   go_enter Tryz.func124,Tryz.ntmps124
   go_wp2_with fail
   refine (iI _ _ _ _ true _ (Rd.xN _ (az _ _ _ (by simp[bU])) rfl) rfl (by simp) HV.out).mono ?_
   rintro e w' ⟨rfl,⟨_,_⟩,rfl⟩
   dsimp only
   go_wp2_with fail
   refine bodyPost_ret (v:=.tuple #[pt 0 0,.int .i64 0]) (by simp[results,Tryz.results124,go_sem]) rfl ?_
   exact aC.mk' rfl gw
  ·rw[if_neg hpe] at h
   obtain⟨h1,h2,h3,h4⟩:=xm (dt p q q) hd0 (by omega)
   generalize dt p q q=n at *
   generalize rootOf n=r at *
   have hrr:=jc (a:=r) (b:=r) 8388607 8388607 (by omega) (by omega)
   generalize q.1-p.1=dx at kf kd
   generalize q.2-p.2=dy at kf kd
   have hne:p.1≠q.1\/(p.1=q.1/\p.2≠q.2):=by
    rcases Decidable.em (p.1=q.1) with e1|e1
    ·exact .inr ⟨e1,fun e2=>hpe (Prod.ext e1 e2)⟩
    ·exact .inl e1
   obtain⟨a1,a2⟩:=p
   obtain⟨b1,b2⟩:=q
   dsimp only at *
   clear hv hpe hpq hbp hbq
   obtain⟨s,hs⟩:∃s,r*r=s:=⟨_,rfl⟩
   rw[hs] at h hrr
   have hcs:(s=n/\o=((r,r),0))\/(¬ s=n/\o=((r,r+1),0)):=by
    by_cases hsn:s=n
    ·rw[if_pos hsn] at h
     exact .inl ⟨hsn,h.symm⟩
    ·rw[if_neg hsn] at h
     exact .inr ⟨hsn,h.symm⟩
   clear h h3 h4
   rcases hcs with⟨rfl,rfl⟩|⟨hsn,rfl⟩
   ·have hsn:(s==s)=true:=by simp
    rcases hne with h5|⟨rfl,h5⟩
    all_goals
     go_enter Tryz.func124,Tryz.ntmps124
     go_wp2_with fail
     refine (iI _ _ _ _ true _ (Rd.xN _ (az _ _ _ (by simp[bU])) rfl) rfl (by simp) HV.out).mono ?_
     rintro e w' ⟨rfl,⟨_,_⟩,rfl⟩
     dsimp only
     go_wp2_with (first|(go_at_call 145;with_reducible refine aQ (kf.out _) fun _ _=>?_;dsimp only)|(go_at_call 146;with_reducible refine aQ (kd.out _) fun _ _=>?_;dsimp only)|(go_at_call 147;with_reducible refine aQ (kr.out _) fun _ _=>?_;dsimp only))
     refine bodyPost_ret (v:=.tuple #[pt r r,.int .i64 0]) (by simp[results,Tryz.results124,go_sem]) rfl ?_
     exact aC.mk' rfl gw
   ·rcases hne with h5|⟨rfl,h5⟩
    all_goals
     go_enter Tryz.func124,Tryz.ntmps124
     go_wp2_with fail
     refine (iI _ _ _ _ true _ (Rd.xN _ (az _ _ _ (by simp[bU])) rfl) rfl (by simp) HV.out).mono ?_
     rintro e w' ⟨rfl,⟨_,_⟩,rfl⟩
     dsimp only
     go_wp2_with (first|(go_at_call 145;with_reducible refine aQ (kf.out _) fun _ _=>?_;dsimp only)|(go_at_call 146;with_reducible refine aQ (kd.out _) fun _ _=>?_;dsimp only)|(go_at_call 147;with_reducible refine aQ (kr.out _) fun _ _=>?_;dsimp only))
     refine bodyPost_ret (v:=.tuple #[pt r (r+1),.int .i64 0]) (by simp[results,Tryz.results124,go_sem]) rfl ?_
     exact aC.mk' rfl gw
end Go.Proofs.YtlkgjmnjhifehaaGreat
