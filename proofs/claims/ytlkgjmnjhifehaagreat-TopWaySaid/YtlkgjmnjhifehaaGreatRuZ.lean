
import Derived.Test.YtlkgjmnjhifehaaGreatRuI
import Derived.Test.YtlkgjmnjhifehaaGreatRuD
import Derived.Test.YtlkgjmnjhifehaaGreatGeT
import Derived.Test.YtlkgjmnjhifehaaGreatBoQ
set_option linter.unusedSimpArgs false
set_option linter.unusedVariables false
namespace Go.Proofs.YtlkgjmnjhifehaaGreat
open Go.RowKit Go.Sort
theorem KG {fs:List FV}(h:bQ fs=true){k:Nat}(hk:k<fs.length):1<=(bF fs k).id/\(bF fs k).id<=100000:=by
 have:=fB h _ (dQ hk)
 unfold bf wP at this
 rw[Bool.and_eq_true,decide_eq_true_eq] at this
 exact this.1.1
theorem kT {fs:List FV}{f:FV}(h:f∈fs):∃k,k<fs.length/\bF fs k=f:=by
 obtain⟨k,hk,e⟩:=List.getElem_of_mem h
 refine⟨k,hk,?_⟩
 have a:=dI hk
 rw[List.getElem?_eq_getElem hk,e] at a
 injection a with a
 exact a.symm
theorem PZ {fs:List FV}(h:bQ fs=true){f:FV}(hf:f∈fs):1<=f.id/\f.id<=100000:=by
 obtain⟨i,hi,rfl⟩:=kT hf
 exact KG h hi
theorem zl {fs:List FV}:bQ fs=true↔(fs.Pairwise fun f g=>f.id<g.id)/\(∀f∈fs,bf f=true)/\fs.length<=300:=by
 constructor
 ·intro h
  refine⟨?_,fB h,jU h⟩
  rw[List.pairwise_iff_getElem]
  intro i j hi hj hij
  have a:=dI hi
  have b:=dI hj
  rw[List.getElem?_eq_getElem hi] at a
  rw[List.getElem?_eq_getElem hj] at b
  injection a with a
  injection b with b
  rw[a,b]
  exact zn h i j hij hj
 ·rintro⟨h1,h2,h3⟩
  unfold bQ
  rw[decide_eq_true h3,Bool.and_true]
  unfold upTo
  rw[List.all_eq_true]
  intro k hk
  rw[List.mem_range] at hk
  have hv:=h2 _ (dQ hk)
  unfold FC
  rw[hv,Bool.true_and,decide_eq_true_eq]
  unfold vW
  by_cases h0:k=0
  ·rw[if_pos h0]
   unfold bf wP at hv
   rw[Bool.and_eq_true,decide_eq_true_eq] at hv
   omega
  ·rw[if_neg h0]
   rw[List.pairwise_iff_getElem] at h1
   have:=h1 (k-1) k (by omega) hk (by omega)
   have a:=dI hk
   have b:=dI (fs:=fs) (k:=k-1) (by omega)
   rw[List.getElem?_eq_getElem hk] at a
   rw[List.getElem?_eq_getElem (by omega)] at b
   injection a with a
   injection b with b
   rw[a,b] at this
   exact this
theorem Ns {rs:List Ru}(h:oN rs=true):rs.length<=40/\∀r∈rs,r.ok=true:=by
 unfold oN Ba at h
 rw[Bool.and_eq_true,decide_eq_true_eq,List.all_eq_true] at h
 refine⟨h.1,fun r hr=>?_⟩
 obtain⟨k,hk,e⟩:=List.getElem_of_mem hr
 have a:=yQ hk
 rw[List.getElem?_eq_getElem hk,e] at a
 injection a with a
 rw[a]
 exact h.2 k (List.mem_range.2 hk)
theorem acL {rs:List Ru}(h:∀r∈rs,r.ok=true)(m:Int)(hm:1<=m/\m<=100000):1<=rs.foldl xG m/\rs.foldl xG m<=100000:=by
 induction rs generalizing m with
 | nil=>exact hm
 | cons r rs ih =>
  rw[List.foldl_cons]
  refine ih (fun q hq=>h q (List.mem_cons_of_mem _ hq)) _ ?_
  have hr:=h r (List.mem_cons_self ..)
  unfold xG
  split
  ·rename_i h1
   unfold Ru.ok iD at hr
   rw[h1] at hr
   simp[yY,Iz] at hr
   omega
  ·exact hm
def Yn (fs:List FV)(g:FV):Prop:=∃f∈fs,f.id=g.id/\f.kind=g.kind/\f.sym=g.sym
theorem Yn.trans {fs gs:List FV}{g:FV}(h:Yn gs g)(k:∀g∈gs,Yn fs g):Yn fs g:=by
 obtain⟨f,hf,a,b,c⟩:=h
 obtain⟨f',hf',a',b',c'⟩:=k f hf
 exact⟨f',hf',a'.trans a,b'.trans b,c'.trans c⟩
theorem Qp (o k n:Int)(f:FV):(Cm o k n f).id=f.id/\(Cm o k n f).kind=f.kind/\(Cm o k n f).sym=f.sym:=by
 unfold Cm fQ
 split
 ·split
  ·exact⟨rfl,rfl,rfl⟩
  ·split
   ·exact⟨rfl,rfl,rfl⟩
   ·split<;>exact⟨rfl,rfl,rfl⟩
 ·exact⟨rfl,rfl,rfl⟩
theorem UH {k n:Int}{fs:List FV}(hv:bQ fs=true){g:FV}(h:g∈fO k n fs):Yn fs g:=by
 unfold fO at h
 have h:=(List.mergeSort_perm _ _).mem_iff.1 h
 rcases List.mem_append.1 h with h|h
 ·unfold fH at h
  exact⟨g,(List.mem_filter.1 h).1,rfl,rfl,rfl⟩
 ·have hd:∀f,f∈dM k fs->f∈fs:=fun f hf=>(List.mem_filter.1 ((nS k fs).mem_iff.1 hf)).1
  have hk:=zA (n:=n) (ds:=dM k fs) (fun f hf=>Ag (fB hv f (hd f hf))) _ (Nat.le_refl _) g h
  obtain⟨f,hf,e⟩:=hk.src
  refine⟨f,hd f hf,?_⟩
  rw[e]
  exact⟨rfl,rfl,rfl⟩
theorem TJ {o k n:Int}{fs:List FV}(h:(bP o k n fs).2=0){g:FV}(hg:g∈(bP o k n fs).1):Yn fs g:=by
 unfold bP at h hg
 split at h
 ·rename_i h1
  rw[if_pos h1] at hg
  rw[Bool.and_eq_true] at h1
  split at h
  ·rename_i h2
   rw[if_pos h2] at hg
   unfold jg at hg
   obtain⟨f,hf,rfl⟩:=List.mem_map.1 hg
   have hc:=Qp o k n f
   have hk:Yn fs f:=by
    split at hf
    ·exact UH h1.2 hf
    ·exact⟨f,hf,rfl,rfl,rfl⟩
   obtain⟨f',hf',a,b,c⟩:=hk
   exact⟨f',hf',a.trans hc.1.symm,b.trans hc.2.1.symm,c.trans hc.2.2.symm⟩
  ·simp at h
 ·simp at h
theorem yH {o k n:Int}{fs:List FV}(h:(bP o k n fs).2=0):bQ (bP o k n fs).1=true:=by
 unfold bP at *
 split at h
 ·rename_i h1
  rw[if_pos h1]
  split at h
  ·rename_i h2
   rw[if_pos h2]
   exact h2
  ·simp at h
 ·simp at h
theorem Fa {o k n:Int}{fs:List FV}(h1:iD o k n=true)(h2:bQ fs=true):(bP o k n fs).2=0\/(bP o k n fs).2=3:=by
 unfold bP
 rw[h1,h2]
 simp only[Bool.and_self,if_true]
 split
 ·exact .inl rfl
 ·exact .inr rfl
theorem Xe {rs:List Ru}(h:∀r∈rs,r.ok=true):∀ (fs:List FV),bQ fs=true->((rs.foldl fD (fs,0)).2=0/\bQ (rs.foldl fD (fs,0)).1=true/\∀g∈(rs.foldl fD (fs,0)).1,Yn fs g)\/(rs.foldl fD (fs,0)).2=3:=by
 have hst:∀ (rs:List Ru) (l:List FV×Int),l.2≠0->rs.foldl fD l=l:=by
  intro rs
  induction rs with
  | nil=>exact fun _ _=>rfl
  | cons r rs ih =>
   intro l hl
   rw[List.foldl_cons]
   have:fD l r=l:=by unfold fD;rw[if_neg hl]
   rw[this]
   exact ih l hl
 induction rs with
 | nil=>exact fun fs hf=>.inl ⟨rfl,hf,fun g hg=>⟨g,hg,rfl,rfl,rfl⟩⟩
 | cons r rs ih =>
  intro fs hf
  rw[List.foldl_cons]
  have hr:=h r (List.mem_cons_self ..)
  have e:fD (fs,0) r=bP r.1 r.2.1 r.2.2 fs:=by unfold fD;rw[if_pos rfl]
  rw[e]
  rcases Fa hr hf with h0|h3
  ·have hl:=yH h0
   obtain⟨⟨a,b⟩,ha⟩:∃d,bP r.1 r.2.1 r.2.2 fs=d:=⟨_,rfl⟩
   rw[ha] at h0 hl ⊢
   dsimp only at h0 hl
   subst h0
   rcases ih (fun q hq=>h q (List.mem_cons_of_mem _ hq)) a hl with⟨h1,h2,h4⟩|h1
   ·refine .inl ⟨h1,h2,fun g hg=>(h4 g hg).trans fun g' hg'=>TJ (o:=r.1) (k:=r.2.1) (n:=r.2.2) (by rw[ha]) (by rw[ha];exact hg')⟩
   ·exact .inr h1
  ·rw[hst rs _ (by rw[h3];decide)]
   exact .inr h3
theorem AA (rs:List Ru)(fs:List FV):((gQ rs fs).2=0/\oN rs=true/\bQ fs=true/\bQ (gQ rs fs).1=true/\∀g∈(gQ rs fs).1,Yn fs g)\/((gQ rs fs).2=3/\oN rs=true/\bQ fs=true)\/((gQ rs fs).2=1/\¬ (oN rs=true/\bQ fs=true)):=by
 unfold gQ
 split
 ·rename_i h
  rw[Bool.and_eq_true] at h
  unfold oG
  rw[List.take_length]
  rcases Xe (Ns h.1).2 fs h.2 with⟨h1,h2,h3⟩|h1
  ·exact .inl ⟨h1,h.1,h.2,h2,h3⟩
  ·exact .inr (.inl ⟨h1,h.1,h.2⟩)
 ·rename_i h
  rw[Bool.and_eq_true] at h
  exact .inr (.inr ⟨rfl,h⟩)
theorem VR {gs gs':List FV}(h:gs.map FV.bare=gs'.map FV.bare){g:FV}(hg:g∈gs):∃g'∈gs',g'.bare=g.bare:=by
 have:g.bare∈gs'.map FV.bare:=by rw[<-h];exact List.mem_map.2 ⟨g,hg,rfl⟩
 obtain⟨g',h1,h2⟩:=List.mem_map.1 this
 exact⟨g',h1,h2⟩
theorem Eh (f g:FV):je f g.bare=je f g:=rfl
theorem U2 {rs:List Ru}{fs:List FV}(h:(gQ rs fs).2=0):oN rs=true/\bQ fs=true:=by
 unfold gQ at h
 cases hc:oN rs&&bQ fs with
 | true=>simpa using hc
 | false=>rw[hc] at h;simp at h
theorem abG {rs:List Ru}{fs:List FV}:(gQ rs fs).1.length<=300:=by
 unfold gQ
 split
 ·rename_i h
  simp at h
  exact Ig (jU h.2) _ (Nat.le_refl _)
 ·simp
theorem ab1 {f g g':FV}(h:g'.bare=g.bare):je f g'=je f g:=by rw[<-Eh f g',h,Eh]
theorem ZU {f g:FV}(h:f.bare=g.bare):f.id=g.id:=by
 show f.bare.id=g.bare.id
 rw[h]
end Go.Proofs.YtlkgjmnjhifehaaGreat
namespace Go.Proofs.YtlkgjmnjhifehaaGreat
def Uh (f g:FV):Prop:=∀d z,0<d->JF (f.x,f.y) f.dC d z->JF (g.x,g.y) g.dC d z
theorem Uh.refl (f:FV):Uh f f:=fun _ _ _ h=>h
theorem Uh.trans {f g h:FV}(h1:Uh f g)(h2:Uh g h):Uh f h:=fun d z hd hz=>h2 d z hd (h1 d z hd hz)
theorem adW {a b:Pt}(ha:a.ok=true)(hb:b.ok=true):dt a b b<70368744177664:=by
 have:=EK ha hb hb
 omega
theorem aez {f g:FV}(hf:lh f.x f.y=true)(hg:lh g.x g.y=true):0<=CP f g/\jb (g.x,g.y) (f.x,f.y)<=CP f g*CP f g:=by
 have ho1:Pt.ok (f.x,f.y)=true:=hf
 have ho2:Pt.ok (g.x,g.y)=true:=hg
 have hnn:=Xi (f.x,f.y) (g.x,g.y)
 obtain⟨h1,_,h2,h3⟩:=xm (dt (f.x,f.y) (g.x,g.y) (g.x,g.y)) hnn (adW ho1 ho2)
 rw[<-Jh]
 unfold CP wH
 rw[if_pos (by rw[ho1,ho2];rfl)]
 by_cases e:(f.x,f.y)=(g.x,g.y)
 ·rw[if_pos e]
  have:dt (f.x,f.y) (g.x,g.y) (g.x,g.y)=0:=by
   rw[e]
   unfold dt
   grind
  rw[this]
  simp
 ·rw[if_neg e]
  by_cases e2:rootOf (dt (f.x,f.y) (g.x,g.y) (g.x,g.y))*rootOf (dt (f.x,f.y) (g.x,g.y) (g.x,g.y))=dt (f.x,f.y) (g.x,g.y) (g.x,g.y)
  ·rw[if_pos e2]
   exact⟨h1,by rw[e2];exact Int.le_refl _⟩
  ·rw[if_neg e2]
   exact⟨by dsimp only;omega,by dsimp only;omega⟩
theorem P5 {f g:FV}(hf:lh f.x f.y=true)(hg:lh g.x g.y=true)(rf:0<=f.dC/\f.dC<=100000)(rg:0<=g.dC)(hl:¬ 100000<g.dC):Uh f (jD f g)/\Uh g (jD f g):=by
 unfold jD
 rw[if_neg hl]
 obtain⟨h0,h1⟩:=aez hf hg
 by_cases SB:zo f g=true
 ·rw[if_pos SB]
  refine⟨fun d z hd hz=>?_,Uh.refl g⟩
  unfold zo qw at SB
  split at SB
  ·unfold BO at SB
   dsimp only at SB
   rw[Bool.and_eq_true,decide_eq_true_eq,decide_eq_true_eq,Jh] at SB
   exact Dw hd rf.1 SB.1 SB.2 hz
  ·cases SB
 ·rw[if_neg SB]
  have hle:g.dC<=CP f g+f.dC:=by
   rcases Int.lt_or_le (CP f g+f.dC) g.dC with hlt|hle
   ·exfalso
    apply SB
    unfold zo qw
    rw[if_pos (by rw[AP rf,AP ⟨rg,by omega⟩,show Pt.ok (f.x,f.y)=true from hf,show Pt.ok (g.x,g.y)=true from hg];rfl)]
    unfold BO
    dsimp only
    rw[Bool.and_eq_true,decide_eq_true_eq,decide_eq_true_eq,Jh]
    refine⟨by omega,?_⟩
    have:=Pq (x:=CP f g) (y:=g.dC-f.dC) (by omega)
    omega
   ·exact hle
  unfold GX
  constructor
  ·intro d z hd hz
   refine Dw hd rf.1 (by show f.dC<=CP f g+f.dC;omega) ?_ hz
   show jb (g.x,g.y) (f.x,f.y)<=(CP f g+f.dC-f.dC)*(CP f g+f.dC-f.dC)
   rw[show CP f g+f.dC-f.dC=CP f g by omega]
   exact h1
  ·intro d z hd hz
   refine Dw hd rg hle ?_ hz
   show jb (g.x,g.y) (g.x,g.y)<=(CP f g+f.dC-g.dC)*(CP f g+f.dC-g.dC)
   have e:jb (g.x,g.y) (g.x,g.y)=0:=by unfold jb;grind
   rw[e]
   exact sq_nonneg _
theorem We (f g:FV):(jD f g).dep=g.dep/\jD f g={ g with dC:=(jD f g).dC }:=by
 unfold jD GX
 split
 ·exact⟨rfl,rfl⟩
 ·split<;>exact⟨rfl,rfl⟩
theorem KL {f g:FV}(h:100000<g.dC):jD f g=g:=by unfold jD;rw[if_pos h]
structure aae (ds kept:List FV) (m:Nat):Prop where
 src:∀g∈kept,∃j,j<m/\g={ bF ds j with dC:=g.dC }/\0<=g.dC
 has:∀j,j<m->∃g∈kept,g.dep<=(bF ds j).dep/\(100000<g.dC\/Uh (bF ds j) g)
theorem NT {kept:List FV}{q:Nat}{g x:FV}(h:g∈kept)(hq:q<kept.length):g∈kept.set q x\/(g=bF kept q/\x∈kept.set q x):=by
 obtain⟨i,hi,rfl⟩:=kT h
 by_cases e:i=q
 ·subst e
  refine .inr ⟨rfl,?_⟩
  exact List.mem_set hq x
 ·refine .inl ?_
  refine List.mem_of_getElem? (i:=i) ?_
  rw[List.getElem?_set_ne (by omega)]
  exact dI hi
theorem JL {n:Int}{ds:List FV}(hv:∀f∈ds,lh f.x f.y=true/\0<=f.dC/\f.dC<=100000)(hs:∀i j,i<=j->j<ds.length->(bF ds i).dep<=(bF ds j).dep):∀m,m<=ds.length->aae ds (iH n ds m) m
 | 0,_=>⟨fun g hg=>(by cases hg),fun j hj=>by omega⟩
 | m+1,hm=>by
  have I:=JL (n:=n) hv hs m (by omega)
  have hf:=hv _ (dQ (show m<ds.length by omega))
  rw[jK (by omega)]
  generalize iH n ds m=kept at *
  cases hidx:kept.findIdx? (qV n (bF ds m)) with
  | none =>
   have e:thinStep n kept (bF ds m)=kept++[bF ds m]:=by unfold thinStep;rw[hidx]
   rw[e]
   refine⟨fun g hg=>?_,fun j hj=>?_⟩
   ·rcases List.mem_append.1 hg with h|h
    ·obtain⟨j,h1,h2⟩:=I.src g h
     exact⟨j,by omega,h2⟩
    ·obtain rfl:=List.mem_singleton.1 h
     exact⟨m,by omega,rfl,hf.2.1⟩
   ·by_cases ej:j=m
    ·subst ej
     exact⟨bF ds j,by simp,Int.le_refl _,.inr (Uh.refl _)⟩
    ·obtain⟨g,h1,h2⟩:=I.has j (by omega)
     exact⟨g,List.mem_append_left _ h1,h2⟩
  | some q =>
   have hq:q<kept.length:=by
    have:=List.findIdx?_eq_some_iff_getElem.1 hidx
    exact this.1
   have e:thinStep n kept (bF ds m)=kept.set q (jD (bF ds m) (bF kept q)):=by unfold thinStep;rw[hidx]
   rw[e]
   obtain⟨j0,hj0,e0,r0⟩:=I.src _ (dQ hq)
   obtain⟨jd,jr⟩:=We (bF ds m) (bF kept q)
   have hg0:lh (bF kept q).x (bF kept q).y=true:=by
    rw[e0]
    exact (hv _ (dQ (show j0<ds.length by omega))).1
   have hd0:(bF kept q).dep<=(bF ds m).dep:=by
    have:(bF kept q).dep=(bF ds j0).dep:=by rw[e0]
    rw[this]
    exact hs j0 m (by omega) (by omega)
   have hnew:jD (bF ds m) (bF kept q)∈kept.set q (jD (bF ds m) (bF kept q)):=List.mem_set hq _
   have hr0:0<=(jD (bF ds m) (bF kept q)).dC:=by
    unfold jD GX
    split
    ·exact r0
    ·split
     ·exact r0
     ·have:=(WO (bF ds m) (bF kept q)).1
      show 0<=CP (bF ds m) (bF kept q)+(bF ds m).dC
      omega
   refine⟨fun g hg=>?_,fun j hj=>?_⟩
   ·rcases List.mem_or_eq_of_mem_set hg with h|h
    ·obtain⟨j,h1,h2⟩:=I.src g h
     exact⟨j,by omega,h2⟩
    ·subst h
     refine⟨j0,by omega,?_,hr0⟩
     rw[jr,e0]
   ·by_cases ej:j=m
    ·subst ej
     refine⟨_,hnew,by rw[jd];exact hd0,?_⟩
     by_cases hbig:100000<(bF kept q).dC
     ·rw[KL hbig]
      exact .inl hbig
     ·exact .inr (P5 hf.1 hg0 hf.2 r0 hbig).1
    ·obtain⟨g,h1,h2,h3⟩:=I.has j (by omega)
     rcases NT (x:=jD (bF ds m) (bF kept q)) h1 hq with h|⟨h,_⟩
     ·exact⟨g,h,h2,h3⟩
     ·subst h
      refine⟨_,hnew,by rw[jd];exact h2,?_⟩
      by_cases hbig:100000<(bF kept q).dC
      ·rw[KL hbig]
       exact .inl hbig
      ·rcases h3 with h3|h3
       ·exact absurd h3 hbig
       ·exact .inr (h3.trans (P5 hf.1 hg0 hf.2 r0 hbig).2)
theorem Jj (k:Int)(fs:List FV):∀i j,i<=j->j<(dM k fs).length->(bF (dM k fs) i).dep<=(bF (dM k fs) j).dep:=by
 intro i j hij hj
 by_cases e:i=j
 ·rw[e];exact Int.le_refl _
 ·have hp:(dM k fs).Pairwise fun a b=>GM a b=true:=by
   unfold dM
   refine List.pairwise_mergeSort (fun a b c=>qN a b c) (fun a b=>?_) _
   rcases qO a b with h|h<;>simp[h]
  rw[List.pairwise_iff_getElem] at hp
  have:=hp i j (by omega) hj (by omega)
  have a:=dI (show i<(dM k fs).length by omega)
  have b:=dI hj
  rw[List.getElem?_eq_getElem (by omega)] at a
  rw[List.getElem?_eq_getElem hj] at b
  injection a with a
  injection b with b
  rw[a,b,zt] at this
  omega
theorem Cc {f g:FV}(kf:f.kind=1\/f.kind=2\/f.kind=5)(kg:g.kind=f.kind)(h:Uh f g):∀d z,0<d->Yb f d z->Yb g d z:=by
 intro d z hd hz
 unfold Yb at *
 rw[if_neg (by omega),if_neg (by omega)] at hz
 rw[if_neg (by omega),if_neg (by omega)]
 exact h d z hd hz
theorem JK {k n:Int}{fs:List FV}(hk:k=1\/k=2\/k=5)(hv:bQ fs=true)(ho:bQ (fO k n fs)=true){f:FV}(hf:f∈fs):∃g∈fO k n fs,je f g=true/\g.kind=f.kind:=by
 have vf:=fB hv f hf
 have hin:∀g,g∈fH k fs\/g∈iH n (dM k fs) (dM k fs).length->g∈fO k n fs:=fun g hg=>by
  unfold fO
  exact (List.mergeSort_perm _ _).mem_iff.2 (List.mem_append.2 hg)
 by_cases hfk:f.kind=k
 ·have hd:∀g,g∈dM k fs->g∈fs/\g.kind=k:=fun g hg=>by
   have:=List.mem_filter.1 ((nS k fs).mem_iff.1 hg)
   exact⟨this.1,by simpa[isKind] using this.2⟩
  have hfd:f∈dM k fs:=(nS k fs).mem_iff.2 (List.mem_filter.2 ⟨hf,by simp[isKind,hfk]⟩)
  have I:=JL (n:=n) (ds:=dM k fs) (fun g hg=>by
   obtain⟨g1,g2⟩:=hd g hg
   have vg:=fB hv g g1
   refine⟨?_,(pK vg).2.2⟩
   rcases iP vg with⟨a,_⟩|⟨a,_⟩|⟨_,a,_⟩
   ·omega
   ·omega
   ·exact a) (Jj k fs) _ (Nat.le_refl _)
  obtain⟨j,hj,rfl⟩:=kT hfd
  obtain⟨g,hg,h1,h2⟩:=I.has j hj
  have hgo:=hin g (.inr hg)
  have vg:=fB ho g hgo
  obtain⟨j',hj',e,_⟩:=I.src g hg
  have hgk:g.kind=k:=by rw[e];exact (hd _ (dQ hj')).2
  refine⟨g,hgo,?_,by rw[hgk,hfk]⟩
  rw[pF (by omega)]
  refine⟨vf,vg,by omega,h1,?_⟩
  rcases h2 with h2|h2
  ·have:=(pK vg).2.2;omega
  ·exact Cc (by omega) (by omega) h2
 ·refine⟨f,hin f (.inl ?_),zi vf,rfl⟩
  unfold fH
  exact List.mem_filter.2 ⟨hf,by simp[isKind,hfk]⟩
theorem OE {o k n:Int}(ho:iD o k n=true)(h3:o≠3){f:FV}(vf:bf f=true)(vg:bf (Cm o k n f)=true):je f (Cm o k n f)=true/\(Cm o k n f).kind=f.kind:=by
 refine⟨?_,(Qp o k n f).2.1⟩
 unfold Cm at *
 by_cases hk:f.kind=k
 ·rw[if_pos hk] at vg ⊢
  unfold iD at ho
  rw[Bool.and_eq_true,Bool.and_eq_true,decide_eq_true_eq,decide_eq_true_eq] at ho
  obtain⟨h1,h2,h4⟩:=ho
  have hcase:o=1\/o=2\/o=4\/o=5:=by omega
  rcases hcase with rfl|rfl|rfl|rfl
  ·exact zi vf
  ·have hk2:k=1\/k=2\/k=3\/k=5:=by simpa[nU] using h2
   have hn:1<=n:=by simp[yY] at h4;omega
   rw[pF (by omega)]
   refine⟨vf,vg,?_,?_,fun d z _ h=>h⟩
   ·show f.kind≠4
    omega
   ·show f.dep-f.dep%n<=f.dep
    have:=Int.emod_nonneg f.dep (show n≠0 by omega)
    omega
  ·have hk2:k=1\/k=2\/k=5:=by simpa[nU] using h2
   have rf:=(pK vf).2.2
   rw[pF (by omega)]
   refine⟨vf,vg,?_,Int.le_refl _,Cc (by omega) rfl fun d z hd hz=>?_⟩
   ·show f.kind≠4
    omega
   ·unfold JF at *
    show jb (sc d (f.x,f.y)) z<=(d*max f.dC n)*(d*max f.dC n)
    have h5:d*f.dC<=d*max f.dC n:=Int.mul_le_mul_of_nonneg_left (by omega) (by omega)
    have h6:0<=d*f.dC:=Int.mul_nonneg (by omega) rf.1
    have:=Pq (x:=d*f.dC) (y:=d*max f.dC n) (by omega)
    omega
  ·have hk2:k=3\/k=6:=by simpa[nU] using h2
   have pf:dm f.area=true:=by
    rcases iP vf with⟨a,_⟩|⟨_,a⟩|⟨a,_⟩
    ·omega
    ·exact a
    ·omega
   have hbx:ve f.area=(qE f.area,0):=by unfold ve;rw[if_pos pf]
   have ear:(fQ 5 n f).area=dh (qE f.area):=by
    show (kP (ve f.area).1).1=_
    rw[hbx,NC pf]
   have ekd:(fQ 5 n f).kind=f.kind:=rfl
   have pg:dm (fQ 5 n f).area=true:=by
    rcases iP vg with⟨a,_⟩|⟨_,a⟩|⟨a,_⟩
    ·omega
    ·exact a
    ·omega
   rw[pF (by omega)]
   refine⟨vf,vg,by omega,Int.le_refl _,fun d z hd hz=>?_⟩
   unfold Yb at *
   rw[if_neg (by omega),if_pos (by omega)] at hz
   rw[if_neg (by omega),if_pos (by omega)]
   rw[ear] at pg ⊢
   exact (GU (uf pg) (uf pf)).1 (Ny pf) d hd z hz
 ·rw[if_neg hk]
  exact zi vf
theorem Jv {o k n:Int}{fs:List FV}(h0:(bP o k n fs).2=0){f:FV}(hf:f∈fs):∃g∈(bP o k n fs).1,je f g=true/\g.kind=f.kind:=by
 have hl:=yH h0
 unfold bP at *
 split at h0
 ·rename_i h1
  rw[if_pos h1] at hl ⊢
  rw[Bool.and_eq_true] at h1
  split at h0
  ·rename_i h2
   rw[if_pos h2] at hl ⊢
   dsimp only at hl ⊢
   unfold jg at *
   by_cases h3:o=3
   ·rw[if_pos h3] at hl h2 ⊢
    have e:=EU (o:=o) (k:=k) (n:=n) (.inr h3) (fO k n fs)
    rw[e] at hl ⊢
    have hk:k=1\/k=2\/k=5:=by
     have:=h1.1
     rw[h3] at this
     unfold iD at this
     rw[Bool.and_eq_true,Bool.and_eq_true] at this
     simpa[nU] using this.2.1
    exact JK hk h1.2 hl hf
   ·rw[if_neg h3] at hl h2 ⊢
    have hm:Cm o k n f∈fs.map (Cm o k n):=List.mem_map.2 ⟨f,hf,rfl⟩
    exact⟨_,hm,OE h1.1 h3 (fB h1.2 f hf) (fB hl _ hm)⟩
  ·simp at h0
 ·simp at h0
theorem Lc {rs:List Ru}(h:∀r∈rs,r.ok=true):∀ (fs:List FV),bQ fs=true->(rs.foldl fD (fs,0)).2=0->∀f∈fs,∃g∈(rs.foldl fD (fs,0)).1,je f g=true/\g.kind=f.kind:=by
 induction rs with
 | nil=>exact fun fs hv _ f hf=>⟨f,hf,zi (fB hv f hf),rfl⟩
 | cons r rs ih =>
  intro fs hv h0 f hf
  rw[List.foldl_cons] at h0 ⊢
  have e:fD (fs,0) r=bP r.1 r.2.1 r.2.2 fs:=by unfold fD;rw[if_pos rfl]
  rw[e] at h0 ⊢
  have ha:(bP r.1 r.2.1 r.2.2 fs).2=0:=by
   rcases Fa (h r (List.mem_cons_self ..)) hv with h1|h1
   ·exact h1
   ·exfalso
    have:∀ (rs:List Ru) (l:List FV×Int),l.2≠0->(rs.foldl fD l).2≠0:=by
     intro rs
     induction rs with
     | nil=>exact fun l hl=>hl
     | cons r rs ih =>
      intro l hl
      rw[List.foldl_cons]
      refine ih _ ?_
      unfold fD
      rw[if_neg hl]
      exact hl
    exact this rs _ (by rw[h1];decide) h0
  obtain⟨g,hg,m1,k1⟩:=Jv ha hf
  have hl:=yH ha
  obtain⟨⟨a,b⟩,hab⟩:∃d,bP r.1 r.2.1 r.2.2 fs=d:=⟨_,rfl⟩
  rw[hab] at h0 hg hl ha ⊢
  dsimp only at ha hg hl
  subst ha
  obtain⟨g',hg',m2,k2⟩:=ih (fun q hq=>h q (List.mem_cons_of_mem _ hq)) a hl h0 g hg
  exact⟨g',hg',RN m1 m2,by rw[k2,k1]⟩
theorem Nr {rs:List Ru}{fs:List FV}(h0:(gQ rs fs).2=0){f:FV}(hf:f∈fs):∃g∈(gQ rs fs).1,je f g=true/\g.kind=f.kind:=by
 obtain⟨h1,h2⟩:=U2 h0
 unfold gQ oG at *
 rw[if_pos (by rw[h1,h2];rfl)] at h0 ⊢
 rw[List.take_length] at h0 ⊢
 exact Lc (Ns h1).2 fs h2 h0 f hf
end Go.Proofs.YtlkgjmnjhifehaaGreat
