
import Derived.Test.YtlkgjmnjhifehaaGreatRuI
import Derived.Test.YtlkgjmnjhifehaaGreatRuD
import Derived.Test.YtlkgjmnjhifehaaGreatGeT
import Derived.Test.YtlkgjmnjhifehaaGreatBoQ
set_option linter.unusedSimpArgs false
set_option linter.unusedVariables false
namespace Go.Proofs.YtlkgjmnjhifehaaGreat
open Go.RowKit Go.Sort
theorem yV {fs:List FV}(h:bG fs=true){k:Nat}(hk:k<fs.length):1<=(aP fs k).id/\(aP fs k).id<=100000:=by
 have:=fG h _ (dL hk)
 unfold bC yh at this
 rw[Bool.and_eq_true,decide_eq_true_eq] at this
 exact this.1.1
theorem iZ {fs:List FV}{f:FV}(h:f∈fs):∃k,k<fs.length/\aP fs k=f:=by
 obtain⟨k,hk,e⟩:=List.getElem_of_mem h
 refine⟨k,hk,?_⟩
 have a:=dA hk
 rw[List.getElem?_eq_getElem hk,e] at a
 injection a with a
 exact a.symm
theorem Ro {fs:List FV}(h:bG fs=true){f g:FV}(hf:f∈fs)(hg:g∈fs)(e:f.id=g.id):f=g:=by
 obtain⟨i,hi,rfl⟩:=iZ hf
 obtain⟨j,hj,rfl⟩:=iZ hg
 have h1:=ql h i j
 have h2:=ql h j i
 by_cases hij:i=j
 ·rw[hij]
 ·by_cases hlt:i<j
  ·have:=h1 hlt hj;omega
  ·have:=h2 (by omega) hi;omega
theorem PO {fs:List FV}(h:bG fs=true){f:FV}(hf:f∈fs):1<=f.id/\f.id<=100000:=by
 obtain⟨i,hi,rfl⟩:=iZ hf
 exact yV h hi
theorem yU {fs:List FV}:bG fs=true↔(fs.Pairwise fun f g=>f.id<g.id)/\(∀f∈fs,bC f=true)/\fs.length<=300:=by
 constructor
 ·intro h
  refine⟨?_,fG h,iY h⟩
  rw[List.pairwise_iff_getElem]
  intro i j hi hj hij
  have a:=dA hi
  have b:=dA hj
  rw[List.getElem?_eq_getElem hi] at a
  rw[List.getElem?_eq_getElem hj] at b
  injection a with a
  injection b with b
  rw[a,b]
  exact ql h i j hij hj
 ·rintro⟨h1,h2,h3⟩
  unfold bG
  rw[decide_eq_true h3,Bool.and_true]
  unfold upTo
  rw[List.all_eq_true]
  intro k hk
  rw[List.mem_range] at hk
  have hv:=h2 _ (dL hk)
  unfold Fv
  rw[hv,Bool.true_and,decide_eq_true_eq]
  unfold vK
  by_cases h0:k=0
  ·rw[if_pos h0]
   unfold bC yh at hv
   rw[Bool.and_eq_true,decide_eq_true_eq] at hv
   omega
  ·rw[if_neg h0]
   rw[List.pairwise_iff_getElem] at h1
   have:=h1 (k-1) k (by omega) hk (by omega)
   have a:=dA hk
   have b:=dA (fs:=fs) (k:=k-1) (by omega)
   rw[List.getElem?_eq_getElem hk] at a
   rw[List.getElem?_eq_getElem (by omega)] at b
   injection a with a
   injection b with b
   rw[a,b] at this
   exact this
theorem Nh {rs:List Ru}(h:oM rs=true):rs.length<=40/\∀r∈rs,r.ok=true:=by
 unfold oM Az at h
 rw[Bool.and_eq_true,decide_eq_true_eq,List.all_eq_true] at h
 refine⟨h.1,fun r hr=>?_⟩
 obtain⟨k,hk,e⟩:=List.getElem_of_mem hr
 have a:=yF hk
 rw[List.getElem?_eq_getElem hk,e] at a
 injection a with a
 rw[a]
 exact h.2 k (List.mem_range.2 hk)
theorem acu {rs:List Ru}(h:∀r∈rs,r.ok=true)(m:Int)(hm:1<=m/\m<=100000):1<=rs.foldl xg m/\rs.foldl xg m<=100000:=by
 induction rs generalizing m with
 | nil=>exact hm
 | cons r rs ih =>
  rw[List.foldl_cons]
  refine ih (fun q hq=>h q (List.mem_cons_of_mem _ hq)) _ ?_
  have hr:=h r (List.mem_cons_self ..)
  unfold xg
  split
  ·rename_i h1
   unfold Ru.ok ig at hr
   rw[h1] at hr
   simp[yO,Ik] at hr
   omega
  ·exact hm
def X5 (fs:List FV)(g:FV):Prop:=∃f∈fs,f.id=g.id/\f.kind=g.kind/\f.sym=g.sym
theorem X5.trans {fs gs:List FV}{g:FV}(h:X5 gs g)(k:∀g∈gs,X5 fs g):X5 fs g:=by
 obtain⟨f,hf,a,b,c⟩:=h
 obtain⟨f',hf',a',b',c'⟩:=k f hf
 exact⟨f',hf',a'.trans a,b'.trans b,c'.trans c⟩
theorem Qi (o k n:Int)(f:FV):(BZ o k n f).id=f.id/\(BZ o k n f).kind=f.kind/\(BZ o k n f).sym=f.sym:=by
 unfold BZ fO
 split
 ·split
  ·exact⟨rfl,rfl,rfl⟩
  ·split
   ·exact⟨rfl,rfl,rfl⟩
   ·split<;>exact⟨rfl,rfl,rfl⟩
 ·exact⟨rfl,rfl,rfl⟩
theorem Us {k n:Int}{fs:List FV}(hv:bG fs=true){g:FV}(h:g∈fM k n fs):X5 fs g:=by
 unfold fM at h
 have h:=(List.mergeSort_perm _ _).mem_iff.1 h
 rcases List.mem_append.1 h with h|h
 ·unfold fF at h
  exact⟨g,(List.mem_filter.1 h).1,rfl,rfl,rfl⟩
 ·have hd:∀f,f∈dK k fs->f∈fs:=fun f hf=>(List.mem_filter.1 ((nP k fs).mem_iff.1 hf)).1
  have hk:=y9 (n:=n) (ds:=dK k fs) (fun f hf=>zS (fG hv f (hd f hf))) _ (Nat.le_refl _) g h
  obtain⟨f,hf,e⟩:=hk.src
  refine⟨f,hd f hf,?_⟩
  rw[e]
  exact⟨rfl,rfl,rfl⟩
theorem Tu {o k n:Int}{fs:List FV}(h:(bF o k n fs).2=0){g:FV}(hg:g∈(bF o k n fs).1):X5 fs g:=by
 unfold bF at h hg
 split at h
 ·rename_i h1
  rw[if_pos h1] at hg
  rw[Bool.and_eq_true] at h1
  split at h
  ·rename_i h2
   rw[if_pos h2] at hg
   unfold jh at hg
   obtain⟨f,hf,rfl⟩:=List.mem_map.1 hg
   have hc:=Qi o k n f
   have hk:X5 fs f:=by
    split at hf
    ·exact Us h1.2 hf
    ·exact⟨f,hf,rfl,rfl,rfl⟩
   obtain⟨f',hf',a,b,c⟩:=hk
   exact⟨f',hf',a.trans hc.1.symm,b.trans hc.2.1.symm,c.trans hc.2.2.symm⟩
  ·simp at h
 ·simp at h
theorem yl {o k n:Int}{fs:List FV}(h:(bF o k n fs).2=0):bG (bF o k n fs).1=true:=by
 unfold bF at *
 split at h
 ·rename_i h1
  rw[if_pos h1]
  split at h
  ·rename_i h2
   rw[if_pos h2]
   exact h2
  ·simp at h
 ·simp at h
theorem EW {o k n:Int}{fs:List FV}(h1:ig o k n=true)(h2:bG fs=true):(bF o k n fs).2=0\/(bF o k n fs).2=3:=by
 unfold bF
 rw[h1,h2]
 simp only[Bool.and_self,if_true]
 split
 ·exact .inl rfl
 ·exact .inr rfl
theorem WG {rs:List Ru}(h:∀r∈rs,r.ok=true):∀ (fs:List FV),bG fs=true->((rs.foldl fA (fs,0)).2=0/\bG (rs.foldl fA (fs,0)).1=true/\∀g∈(rs.foldl fA (fs,0)).1,X5 fs g)\/(rs.foldl fA (fs,0)).2=3:=by
 have hst:∀ (rs:List Ru) (l:List FV×Int),l.2≠0->rs.foldl fA l=l:=by
  intro rs
  induction rs with
  | nil=>exact fun _ _=>rfl
  | cons r rs ih =>
   intro l hl
   rw[List.foldl_cons]
   have:fA l r=l:=by unfold fA;rw[if_neg hl]
   rw[this]
   exact ih l hl
 induction rs with
 | nil=>exact fun fs hf=>.inl ⟨rfl,hf,fun g hg=>⟨g,hg,rfl,rfl,rfl⟩⟩
 | cons r rs ih =>
  intro fs hf
  rw[List.foldl_cons]
  have hr:=h r (List.mem_cons_self ..)
  have e:fA (fs,0) r=bF r.1 r.2.1 r.2.2 fs:=by unfold fA;rw[if_pos rfl]
  rw[e]
  rcases EW hr hf with h0|h3
  ·have hl:=yl h0
   obtain⟨⟨a,b⟩,ha⟩:∃d,bF r.1 r.2.1 r.2.2 fs=d:=⟨_,rfl⟩
   rw[ha] at h0 hl ⊢
   dsimp only at h0 hl
   subst h0
   rcases ih (fun q hq=>h q (List.mem_cons_of_mem _ hq)) a hl with⟨h1,h2,h4⟩|h1
   ·refine .inl ⟨h1,h2,fun g hg=>(h4 g hg).trans fun g' hg'=>Tu (o:=r.1) (k:=r.2.1) (n:=r.2.2) (by rw[ha]) (by rw[ha];exact hg')⟩
   ·exact .inr h1
  ·rw[hst rs _ (by rw[h3];decide)]
   exact .inr h3
theorem Af (rs:List Ru)(fs:List FV):((gB rs fs).2=0/\oM rs=true/\bG fs=true/\bG (gB rs fs).1=true/\∀g∈(gB rs fs).1,X5 fs g)\/((gB rs fs).2=3/\oM rs=true/\bG fs=true)\/((gB rs fs).2=1/\¬ (oM rs=true/\bG fs=true)):=by
 unfold gB
 split
 ·rename_i h
  rw[Bool.and_eq_true] at h
  unfold oh
  rw[List.take_length]
  rcases WG (Nh h.1).2 fs h.2 with⟨h1,h2,h3⟩|h1
  ·exact .inl ⟨h1,h.1,h.2,h2,h3⟩
  ·exact .inr (.inl ⟨h1,h.1,h.2⟩)
 ·rename_i h
  rw[Bool.and_eq_true] at h
  exact .inr (.inr ⟨rfl,h⟩)
theorem VB {gs gs':List FV}(h:gs.map FV.bare=gs'.map FV.bare){g:FV}(hg:g∈gs):∃g'∈gs',g'.bare=g.bare:=by
 have:g.bare∈gs'.map FV.bare:=by rw[<-h];exact List.mem_map.2 ⟨g,hg,rfl⟩
 obtain⟨g',h1,h2⟩:=List.mem_map.1 this
 exact⟨g',h1,h2⟩
theorem Ec (f g:FV):iT f g.bare=iT f g:=rfl
theorem UL {rs:List Ru}{fs:List FV}(h:(gB rs fs).2=0):oM rs=true/\bG fs=true:=by
 unfold gB at h
 cases hc:oM rs&&bG fs with
 | true=>simpa using hc
 | false=>rw[hc] at h;simp at h
theorem abo {rs:List Ru}{fs:List FV}:(gB rs fs).1.length<=300:=by
 unfold gB
 split
 ·rename_i h
  simp at h
  exact Hz (iY h.2) _ (Nat.le_refl _)
 ·simp
theorem abI {f g g':FV}(h:g'.bare=g.bare):iT f g'=iT f g:=by rw[<-Ec f g',h,Ec]
theorem ZH {f g:FV}(h:f.bare=g.bare):f.id=g.id:=by
 show f.bare.id=g.bare.id
 rw[h]
end Go.Proofs.YtlkgjmnjhifehaaGreat
namespace Go.Proofs.YtlkgjmnjhifehaaGreat
def TW (f g:FV):Prop:=∀d z,0<d->JC (f.x,f.y) f.dn d z->JC (g.x,g.y) g.dn d z
theorem TW.refl (f:FV):TW f f:=fun _ _ _ h=>h
theorem TW.trans {f g h:FV}(h1:TW f g)(h2:TW g h):TW f h:=fun d z hd hz=>h2 d z hd (h1 d z hd hz)
theorem adI {a b:Pt}(ha:a.ok=true)(hb:b.ok=true):dt a b b<70368744177664:=by
 have:=Ez ha hb hb
 omega
theorem aee {f g:FV}(hf:oO f.x f.y=true)(hg:oO g.x g.y=true):0<=CG f g/\jg (g.x,g.y) (f.x,f.y)<=CG f g*CG f g:=by
 have ho1:Pt.ok (f.x,f.y)=true:=hf
 have ho2:Pt.ok (g.x,g.y)=true:=hg
 have hnn:=WM (f.x,f.y) (g.x,g.y)
 obtain⟨h1,_,h2,h3⟩:=wR (dt (f.x,f.y) (g.x,g.y) (g.x,g.y)) hnn (adI ho1 ho2)
 rw[<-Ja]
 unfold CG vY
 rw[if_pos (by rw[ho1,ho2];rfl)]
 by_cases e:(f.x,f.y)=(g.x,g.y)
 ·rw[if_pos e]
  have:dt (f.x,f.y) (g.x,g.y) (g.x,g.y)=0:=by
   rw[e]
   unfold dt
   grind
  rw[this]
  simp
 ·rw[if_neg e]
  by_cases e2:rootOf (dt (f.x,f.y) (g.x,g.y) (g.x,g.y))*rootOf (dt (f.x,f.y) (g.x,g.y) (g.x,g.y))=dt (f.x,f.y) (g.x,g.y) (g.x,g.y)
  ·rw[if_pos e2]
   exact⟨h1,by rw[e2];exact Int.le_refl _⟩
  ·rw[if_neg e2]
   exact⟨by dsimp only;omega,by dsimp only;omega⟩
theorem PQ {f g:FV}(hf:oO f.x f.y=true)(hg:oO g.x g.y=true)(rf:0<=f.dn/\f.dn<=100000)(rg:0<=g.dn)(hl:¬ 100000<g.dn):TW f (jC f g)/\TW g (jC f g):=by
 unfold jC
 rw[if_neg hl]
 obtain⟨h0,h1⟩:=aee hf hg
 by_cases RU:yX f g=true
 ·rw[if_pos RU]
  refine⟨fun d z hd hz=>?_,TW.refl g⟩
  unfold yX qm at RU
  split at RU
  ·unfold BF at RU
   dsimp only at RU
   rw[Bool.and_eq_true,decide_eq_true_eq,decide_eq_true_eq,Ja] at RU
   exact Dp hd rf.1 RU.1 RU.2 hz
  ·cases RU
 ·rw[if_neg RU]
  have hle:g.dn<=CG f g+f.dn:=by
   rcases Int.lt_or_le (CG f g+f.dn) g.dn with hlt|hle
   ·exfalso
    apply RU
    unfold yX qm
    rw[if_pos (by rw[Ah rf,Ah ⟨rg,by omega⟩,show Pt.ok (f.x,f.y)=true from hf,show Pt.ok (g.x,g.y)=true from hg];rfl)]
    unfold BF
    dsimp only
    rw[Bool.and_eq_true,decide_eq_true_eq,decide_eq_true_eq,Ja]
    refine⟨by omega,?_⟩
    have:=O6 (x:=CG f g) (y:=g.dn-f.dn) (by omega)
    omega
   ·exact hle
  unfold GH
  constructor
  ·intro d z hd hz
   refine Dp hd rf.1 (by show f.dn<=CG f g+f.dn;omega) ?_ hz
   show jg (g.x,g.y) (f.x,f.y)<=(CG f g+f.dn-f.dn)*(CG f g+f.dn-f.dn)
   rw[show CG f g+f.dn-f.dn=CG f g by omega]
   exact h1
  ·intro d z hd hz
   refine Dp hd rg hle ?_ hz
   show jg (g.x,g.y) (g.x,g.y)<=(CG f g+f.dn-g.dn)*(CG f g+f.dn-g.dn)
   have e:jg (g.x,g.y) (g.x,g.y)=0:=by unfold jg;grind
   rw[e]
   exact sq_nonneg _
theorem VO (f g:FV):(jC f g).dep=g.dep/\jC f g={ g with dn:=(jC f g).dn }:=by
 unfold jC GH
 split
 ·exact⟨rfl,rfl⟩
 ·split<;>exact⟨rfl,rfl⟩
theorem KH {f g:FV}(h:100000<g.dn):jC f g=g:=by unfold jC;rw[if_pos h]
structure ZR (ds kept:List FV) (m:Nat):Prop where
 src:∀g∈kept,∃j,j<m/\g={ aP ds j with dn:=g.dn }/\0<=g.dn
 has:∀j,j<m->∃g∈kept,g.dep<=(aP ds j).dep/\(100000<g.dn\/TW (aP ds j) g)
theorem NG {kept:List FV}{q:Nat}{g x:FV}(h:g∈kept)(hq:q<kept.length):g∈kept.set q x\/(g=aP kept q/\x∈kept.set q x):=by
 obtain⟨i,hi,rfl⟩:=iZ h
 by_cases e:i=q
 ·subst e
  refine .inr ⟨rfl,?_⟩
  exact List.mem_set hq x
 ·refine .inl ?_
  refine List.mem_of_getElem? (i:=i) ?_
  rw[List.getElem?_set_ne (by omega)]
  exact dA hi
theorem JL {n:Int}{ds:List FV}(hv:∀f∈ds,oO f.x f.y=true/\0<=f.dn/\f.dn<=100000)(hs:∀i j,i<=j->j<ds.length->(aP ds i).dep<=(aP ds j).dep):∀m,m<=ds.length->ZR ds (iw n ds m) m
 | 0,_=>⟨fun g hg=>(by cases hg),fun j hj=>by omega⟩
 | m+1,hm=>by
  have I:=JL (n:=n) hv hs m (by omega)
  have hf:=hv _ (dL (show m<ds.length by omega))
  rw[jK (by omega)]
  generalize iw n ds m=kept at *
  cases hidx:kept.findIdx? (qN n (aP ds m)) with
  | none =>
   have e:thinStep n kept (aP ds m)=kept++[aP ds m]:=by unfold thinStep;rw[hidx]
   rw[e]
   refine⟨fun g hg=>?_,fun j hj=>?_⟩
   ·rcases List.mem_append.1 hg with h|h
    ·obtain⟨j,h1,h2⟩:=I.src g h
     exact⟨j,by omega,h2⟩
    ·obtain rfl:=List.mem_singleton.1 h
     exact⟨m,by omega,rfl,hf.2.1⟩
   ·by_cases ej:j=m
    ·subst ej
     exact⟨aP ds j,by simp,Int.le_refl _,.inr (TW.refl _)⟩
    ·obtain⟨g,h1,h2⟩:=I.has j (by omega)
     exact⟨g,List.mem_append_left _ h1,h2⟩
  | some q =>
   have hq:q<kept.length:=by
    have:=List.findIdx?_eq_some_iff_getElem.1 hidx
    exact this.1
   have e:thinStep n kept (aP ds m)=kept.set q (jC (aP ds m) (aP kept q)):=by unfold thinStep;rw[hidx]
   rw[e]
   obtain⟨j0,hj0,e0,r0⟩:=I.src _ (dL hq)
   obtain⟨jd,jr⟩:=VO (aP ds m) (aP kept q)
   have hg0:oO (aP kept q).x (aP kept q).y=true:=by
    rw[e0]
    exact (hv _ (dL (show j0<ds.length by omega))).1
   have hd0:(aP kept q).dep<=(aP ds m).dep:=by
    have:(aP kept q).dep=(aP ds j0).dep:=by rw[e0]
    rw[this]
    exact hs j0 m (by omega) (by omega)
   have hnew:jC (aP ds m) (aP kept q)∈kept.set q (jC (aP ds m) (aP kept q)):=List.mem_set hq _
   have hr0:0<=(jC (aP ds m) (aP kept q)).dn:=by
    unfold jC GH
    split
    ·exact r0
    ·split
     ·exact r0
     ·have:=(Wh (aP ds m) (aP kept q)).1
      show 0<=CG (aP ds m) (aP kept q)+(aP ds m).dn
      omega
   refine⟨fun g hg=>?_,fun j hj=>?_⟩
   ·rcases List.mem_or_eq_of_mem_set hg with h|h
    ·obtain⟨j,h1,h2⟩:=I.src g h
     exact⟨j,by omega,h2⟩
    ·subst h
     refine⟨j0,by omega,?_,hr0⟩
     rw[jr,e0]
   ·by_cases ej:j=m
    ·subst ej
     refine⟨_,hnew,by rw[jd];exact hd0,?_⟩
     by_cases hbig:100000<(aP kept q).dn
     ·rw[KH hbig]
      exact .inl hbig
     ·exact .inr (PQ hf.1 hg0 hf.2 r0 hbig).1
    ·obtain⟨g,h1,h2,h3⟩:=I.has j (by omega)
     rcases NG (x:=jC (aP ds m) (aP kept q)) h1 hq with h|⟨h,_⟩
     ·exact⟨g,h,h2,h3⟩
     ·subst h
      refine⟨_,hnew,by rw[jd];exact h2,?_⟩
      by_cases hbig:100000<(aP kept q).dn
      ·rw[KH hbig]
       exact .inl hbig
      ·rcases h3 with h3|h3
       ·exact absurd h3 hbig
       ·exact .inr (h3.trans (PQ hf.1 hg0 hf.2 r0 hbig).2)
theorem Jc (k:Int)(fs:List FV):∀i j,i<=j->j<(dK k fs).length->(aP (dK k fs) i).dep<=(aP (dK k fs) j).dep:=by
 intro i j hij hj
 by_cases e:i=j
 ·rw[e];exact Int.le_refl _
 ·have hp:(dK k fs).Pairwise fun a b=>Gw a b=true:=by
   unfold dK
   refine List.pairwise_mergeSort (fun a b c=>qG a b c) (fun a b=>?_) _
   rcases qH a b with h|h<;>simp[h]
  rw[List.pairwise_iff_getElem] at hp
  have:=hp i j (by omega) hj (by omega)
  have a:=dA (show i<(dK k fs).length by omega)
  have b:=dA hj
  rw[List.getElem?_eq_getElem (by omega)] at a
  rw[List.getElem?_eq_getElem hj] at b
  injection a with a
  injection b with b
  rw[a,b,yZ] at this
  omega
theorem BO {f g:FV}(kf:f.kind=1\/f.kind=2\/f.kind=5)(kg:g.kind=f.kind)(h:TW f g):∀d z,0<d->XQ f d z->XQ g d z:=by
 intro d z hd hz
 unfold XQ at *
 rw[if_neg (by omega),if_neg (by omega)] at hz
 rw[if_neg (by omega),if_neg (by omega)]
 exact h d z hd hz
theorem JK {k n:Int}{fs:List FV}(hk:k=1\/k=2\/k=5)(hv:bG fs=true)(ho:bG (fM k n fs)=true){f:FV}(hf:f∈fs):∃g∈fM k n fs,iT f g=true/\g.kind=f.kind:=by
 have vf:=fG hv f hf
 have hin:∀g,g∈fF k fs\/g∈iw n (dK k fs) (dK k fs).length->g∈fM k n fs:=fun g hg=>by
  unfold fM
  exact (List.mergeSort_perm _ _).mem_iff.2 (List.mem_append.2 hg)
 by_cases hfk:f.kind=k
 ·have hd:∀g,g∈dK k fs->g∈fs/\g.kind=k:=fun g hg=>by
   have:=List.mem_filter.1 ((nP k fs).mem_iff.1 hg)
   exact⟨this.1,by simpa[isKind] using this.2⟩
  have hfd:f∈dK k fs:=(nP k fs).mem_iff.2 (List.mem_filter.2 ⟨hf,by simp[isKind,hfk]⟩)
  have I:=JL (n:=n) (ds:=dK k fs) (fun g hg=>by
   obtain⟨g1,g2⟩:=hd g hg
   have vg:=fG hv g g1
   refine⟨?_,(pM vg).2.2⟩
   rcases iK vg with⟨a,_⟩|⟨a,_⟩|⟨_,a,_⟩
   ·omega
   ·omega
   ·exact a) (Jc k fs) _ (Nat.le_refl _)
  obtain⟨j,hj,rfl⟩:=iZ hfd
  obtain⟨g,hg,h1,h2⟩:=I.has j hj
  have hgo:=hin g (.inr hg)
  have vg:=fG ho g hgo
  obtain⟨j',hj',e,_⟩:=I.src g hg
  have hgk:g.kind=k:=by rw[e];exact (hd _ (dL hj')).2
  refine⟨g,hgo,?_,by rw[hgk,hfk]⟩
  rw[nU (by omega)]
  refine⟨vf,vg,by omega,h1,?_⟩
  rcases h2 with h2|h2
  ·have:=(pM vg).2.2;omega
  ·exact BO (by omega) (by omega) h2
 ·refine⟨f,hin f (.inl ?_),yT vf,rfl⟩
  unfold fF
  exact List.mem_filter.2 ⟨hf,by simp[isKind,hfk]⟩
theorem Ou {o k n:Int}(ho:ig o k n=true)(h3:o≠3){f:FV}(vf:bC f=true)(vg:bC (BZ o k n f)=true):iT f (BZ o k n f)=true/\(BZ o k n f).kind=f.kind:=by
 refine⟨?_,(Qi o k n f).2.1⟩
 unfold BZ at *
 by_cases hk:f.kind=k
 ·rw[if_pos hk] at vg ⊢
  unfold ig at ho
  rw[Bool.and_eq_true,Bool.and_eq_true,decide_eq_true_eq,decide_eq_true_eq] at ho
  obtain⟨h1,h2,h4⟩:=ho
  have hcase:o=1\/o=2\/o=4\/o=5:=by omega
  rcases hcase with rfl|rfl|rfl|rfl
  ·exact yT vf
  ·have hk2:k=1\/k=2\/k=3\/k=5:=by simpa[nS] using h2
   have hn:1<=n:=by simp[yO] at h4;omega
   rw[nU (by omega)]
   refine⟨vf,vg,?_,?_,fun d z _ h=>h⟩
   ·show f.kind≠4
    omega
   ·show f.dep-f.dep%n<=f.dep
    have:=Int.emod_nonneg f.dep (show n≠0 by omega)
    omega
  ·have hk2:k=1\/k=2\/k=5:=by simpa[nS] using h2
   have rf:=(pM vf).2.2
   rw[nU (by omega)]
   refine⟨vf,vg,?_,Int.le_refl _,BO (by omega) rfl fun d z hd hz=>?_⟩
   ·show f.kind≠4
    omega
   ·unfold JC at *
    show jg (sc d (f.x,f.y)) z<=(d*max f.dn n)*(d*max f.dn n)
    have h5:d*f.dn<=d*max f.dn n:=Int.mul_le_mul_of_nonneg_left (by omega) (by omega)
    have h6:0<=d*f.dn:=Int.mul_nonneg (by omega) rf.1
    have:=O6 (x:=d*f.dn) (y:=d*max f.dn n) (by omega)
    omega
  ·have hk2:k=3\/k=6:=by simpa[nS] using h2
   have pf:di f.area=true:=by
    rcases iK vf with⟨a,_⟩|⟨_,a⟩|⟨a,_⟩
    ·omega
    ·exact a
    ·omega
   have hbx:uT f.area=(qA f.area,0):=by unfold uT;rw[if_pos pf]
   have ear:(fO 5 n f).area=dQ (qA f.area):=by
    show (l9 (uT f.area).1).1=_
    rw[hbx,Nq pf]
   have ekd:(fO 5 n f).kind=f.kind:=rfl
   have pg:di (fO 5 n f).area=true:=by
    rcases iK vg with⟨a,_⟩|⟨_,a⟩|⟨a,_⟩
    ·omega
    ·exact a
    ·omega
   rw[nU (by omega)]
   refine⟨vf,vg,by omega,Int.le_refl _,fun d z hd hz=>?_⟩
   unfold XQ at *
   rw[if_neg (by omega),if_pos (by omega)] at hz
   rw[if_neg (by omega),if_pos (by omega)]
   rw[ear] at pg ⊢
   exact (Gz (tH pg) (tH pf)).1 (Nl pf) d hd z hz
 ·rw[if_neg hk]
  exact yT vf
theorem Jr {o k n:Int}{fs:List FV}(h0:(bF o k n fs).2=0){f:FV}(hf:f∈fs):∃g∈(bF o k n fs).1,iT f g=true/\g.kind=f.kind:=by
 have hl:=yl h0
 unfold bF at *
 split at h0
 ·rename_i h1
  rw[if_pos h1] at hl ⊢
  rw[Bool.and_eq_true] at h1
  split at h0
  ·rename_i h2
   rw[if_pos h2] at hl ⊢
   dsimp only at hl ⊢
   unfold jh at *
   by_cases h3:o=3
   ·rw[if_pos h3] at hl h2 ⊢
    have e:=EL (o:=o) (k:=k) (n:=n) (.inr h3) (fM k n fs)
    rw[e] at hl ⊢
    have hk:k=1\/k=2\/k=5:=by
     have:=h1.1
     rw[h3] at this
     unfold ig at this
     rw[Bool.and_eq_true,Bool.and_eq_true] at this
     simpa[nS] using this.2.1
    exact JK hk h1.2 hl hf
   ·rw[if_neg h3] at hl h2 ⊢
    have hm:BZ o k n f∈fs.map (BZ o k n):=List.mem_map.2 ⟨f,hf,rfl⟩
    exact⟨_,hm,Ou h1.1 h3 (fG h1.2 f hf) (fG hl _ hm)⟩
  ·simp at h0
 ·simp at h0
theorem Lj {rs:List Ru}(h:∀r∈rs,r.ok=true):∀ (fs:List FV),bG fs=true->(rs.foldl fA (fs,0)).2=0->∀f∈fs,∃g∈(rs.foldl fA (fs,0)).1,iT f g=true/\g.kind=f.kind:=by
 induction rs with
 | nil=>exact fun fs hv _ f hf=>⟨f,hf,yT (fG hv f hf),rfl⟩
 | cons r rs ih =>
  intro fs hv h0 f hf
  rw[List.foldl_cons] at h0 ⊢
  have e:fA (fs,0) r=bF r.1 r.2.1 r.2.2 fs:=by unfold fA;rw[if_pos rfl]
  rw[e] at h0 ⊢
  have ha:(bF r.1 r.2.1 r.2.2 fs).2=0:=by
   rcases EW (h r (List.mem_cons_self ..)) hv with h1|h1
   ·exact h1
   ·exfalso
    have:∀ (rs:List Ru) (l:List FV×Int),l.2≠0->(rs.foldl fA l).2≠0:=by
     intro rs
     induction rs with
     | nil=>exact fun l hl=>hl
     | cons r rs ih =>
      intro l hl
      rw[List.foldl_cons]
      refine ih _ ?_
      unfold fA
      rw[if_neg hl]
      exact hl
    exact this rs _ (by rw[h1];decide) h0
  obtain⟨g,hg,m1,k1⟩:=Jr ha hf
  have hl:=yl ha
  obtain⟨⟨a,b⟩,hab⟩:∃d,bF r.1 r.2.1 r.2.2 fs=d:=⟨_,rfl⟩
  rw[hab] at h0 hg hl ha ⊢
  dsimp only at ha hg hl
  subst ha
  obtain⟨g',hg',m2,k2⟩:=ih (fun q hq=>h q (List.mem_cons_of_mem _ hq)) a hl h0 g hg
  exact⟨g',hg',Rn m1 m2,by rw[k2,k1]⟩
theorem Nc {rs:List Ru}{fs:List FV}(h0:(gB rs fs).2=0){f:FV}(hf:f∈fs):∃g∈(gB rs fs).1,iT f g=true/\g.kind=f.kind:=by
 obtain⟨h1,h2⟩:=UL h0
 unfold gB oh at *
 rw[if_pos (by rw[h1,h2];rfl)] at h0 ⊢
 rw[List.take_length] at h0 ⊢
 exact Lj (Nh h1).2 fs h2 h0 f hf
end Go.Proofs.YtlkgjmnjhifehaaGreat
