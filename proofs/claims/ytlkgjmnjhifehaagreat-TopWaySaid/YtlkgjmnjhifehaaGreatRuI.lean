/- Package rule: Apply, Run. -/
import Derived.Test.YtlkgjmnjhifehaaGreatRuY
set_option linter.unusedSimpArgs false
set_option linter.unusedVariables false
set_option maxHeartbeats 8000000
set_option maxRecDepth 100000
namespace Go.Proofs.YtlkgjmnjhifehaaGreat
open Go.RowKit Go.Sort Go.Lib
attribute [local go_sem] dA steadyUpon
attribute [local go_sem ↓] bU bI aX aW aV aU aT
attribute [local go_sem] bH aK aJ size_grow tape_grow cell?_grow' aF aB grow_grow bW aY dR cO bY bK aN cZ aZ bZ bJ
attribute [local irreducible] wpSteady
theorem aay (o k n:Int)(fs:List FV)(A:Option Addr)(c:Nat)(w:World)(hr:nI w w.heap.size A fs)(hc:fs.length<=100000000000000) :
  Calls Tryz.prog 68 #[PE o k n,.slice A fs.length c] w (CO w (bP o k n fs)):=by
 by_cases h:(iD o k n&&bQ fs)=true
 ·obtain⟨hu,hv⟩:iD o k n=true/\bQ fs=true:=by simpa using h
  have ho:o=1\/o=2\/o=3\/o=4\/o=5:=by
   have:=hu
   unfold iD at this
   rw[Bool.and_eq_true,decide_eq_true_eq] at this
   omega
  rcases ho with rfl|rfl|rfl|rfl|rfl
  ·exact aaD k n fs A c w hr hu hv
  ·exact aaC k n fs A c w hr hu hv
  ·exact aaB k n fs A c w hr hu hv
  ·exact aaA k n fs A c w hr hu hv
  ·exact aaz k n fs A c w hr hu hv
 ·have e:bP o k n fs=([],1):=by
   unfold bP
   rw[if_neg h]
  rw[e]
  exact Ud o k n fs A c w hr hc h
theorem RZ (f g:FV):jD f.bare g.bare=(jD f g).bare:=by
 unfold jD
 have e1:g.bare.dC=g.dC:=rfl
 have e2:zo f.bare g.bare=zo f g:=rfl
 rw[e1,e2]
 split
 ·rfl
 ·split<;>rfl
theorem QZ (n:Int)(kept:List FV)(f:FV):thinStep n (kept.map FV.bare) f.bare=(thinStep n kept f).map FV.bare:=by
 have e:(kept.map FV.bare).findIdx? (qV n f.bare)=kept.findIdx? (qV n f):=by
  rw[List.findIdx?_map]
  rfl
 unfold thinStep
 rw[e]
 cases h:kept.findIdx? (qV n f) with
 | none=>simp
 | some k =>
  have hk:=(List.findIdx?_eq_some_iff_getElem.1 h).1
  dsimp only
  rw[Du hk,RZ,List.map_set]
theorem GN (n:Int)(ds:List FV):∀m,m<=ds.length->iH n (ds.map FV.bare) m=(iH n ds m).map FV.bare
 | 0,_=>by simp[iH]
 | m+1,h=>by
  rw[jK (by rw[List.length_map];omega),jK (by omega),GN n ds m (by omega),Du (by omega),QZ]
theorem Oo (k:Int)(fs:List FV):dM k (fs.map FV.bare)=(dM k fs).map FV.bare:=by
 unfold dM
 rw[List.map_mergeSort (f:=FV.bare) (r:=GM) (s:=GM) (fun a _ b _=>rfl),List.filter_map]
 rfl
theorem Kv (k:Int)(fs:List FV):fH k (fs.map FV.bare)=(fH k fs).map FV.bare:=by
 unfold fH
 rw[List.filter_map]
 rfl
theorem QW (k n:Int)(fs:List FV):fO k n (fs.map FV.bare)=(fO k n fs).map FV.bare:=by
 unfold fO
 rw[List.map_mergeSort (f:=FV.bare) (r:=leI) (s:=leI) (fun a _ b _=>rfl),Oo,Kv,List.length_map,GN _ _ _ (Nat.le_refl _),List.map_append]
theorem Xz (o k n:Int)(f:FV):(Cm o k n f.bare).bare=(Cm o k n f).bare:=by
 unfold Cm
 have e:f.bare.kind=f.kind:=rfl
 rw[e]
 split
 ·exact rE rfl
 ·rfl
theorem CE (o k n:Int)(fs:List FV):(jg o k n (fs.map FV.bare)).map FV.bare=(jg o k n fs).map FV.bare:=by
 unfold jg
 have e:(if o=3 then fO k n (fs.map FV.bare) else fs.map FV.bare)=(if o=3 then fO k n fs else fs).map FV.bare:=by
  split
  ·exact QW k n fs
  ·rfl
 rw[e,List.map_map,List.map_map,List.map_map]
 congr 1
 funext f
 exact Xz o k n f
theorem apply_bare (o k n:Int)(fs:List FV):(bP o k n (fs.map FV.bare)).1.map FV.bare=(bP o k n fs).1.map FV.bare/\(bP o k n (fs.map FV.bare)).2=(bP o k n fs).2:=by
 unfold bP
 have e:=tJ (CE o k n fs)
 rw[yJ,e]
 split
 ·split
  ·exact⟨CE o k n fs,rfl⟩
  ·exact⟨rfl,rfl⟩
 ·exact⟨rfl,rfl⟩
theorem XI {o k n:Int}{fs gs:List FV}(h:fs.map FV.bare=gs.map FV.bare):(bP o k n fs).1.map FV.bare=(bP o k n gs).1.map FV.bare/\(bP o k n fs).2=(bP o k n gs).2:=by
 have a:=apply_bare o k n fs
 have b:=apply_bare o k n gs
 rw[h] at a
 exact⟨a.1.symm.trans b.1,a.2.symm.trans b.2⟩
theorem TK {o k n:Int}{fs:List FV}(h:(bP o k n fs).2≠0):(bP o k n fs).1=[]:=by
 unfold bP at *
 split at h
 ·split at h
  ·exact absurd rfl h
  ·rename_i h1 h2
   rw[if_pos h1,if_neg h2]
 ·rename_i h1
  rw[if_neg h1]
def fD (l:List FV×Int)(r:Ru):List FV×Int:=if l.2=0 then bP r.1 r.2.1 r.2.2 l.1 else l
def oG (rs:List Ru)(fs:List FV)(k:Nat):List FV×Int:=(rs.take k).foldl fD (fs,0)
def gQ (rs:List Ru)(fs:List FV):List FV×Int:=if (oN rs&&bQ fs)=true then oG rs fs rs.length else ([],1)
theorem yh {rs:List Ru}{fs:List FV}{k:Nat}(h:k<rs.length):oG rs fs (k+1)=fD (oG rs fs k) (tZ rs k):=by
 unfold oG
 rw[List.take_add_one,yQ h,List.foldl_append]
 rfl
theorem run_stop {rs:List Ru}{fs:List FV}{k:Nat}(h:(oG rs fs k).2≠0):∀m,k<=m->m<=rs.length->oG rs fs m=oG rs fs k
 | 0,h1,_=>by rw[show k=0 by omega]
 | m+1,h1,h2=>by
  by_cases e:k=m+1
  ·rw[e]
  ·have ih:=run_stop h m (by omega) (by omega)
   rw[yh (by omega),ih]
   unfold fD
   rw[if_neg h]
theorem Ig {rs:List Ru}{fs:List FV}(hf:fs.length<=300):∀k,k<=rs.length->(oG rs fs k).1.length<=300
 | 0,_=>by simpa[oG] using hf
 | k+1,h=>by
  rw[yh (by omega)]
  unfold fD
  split
  ·unfold bP
   split
   ·split
    ·rename_i h1
     exact jU h1
    ·simp
   ·simp
  ·exact Ig hf k (by omega)
theorem afa (rs:List Ru)(fs:List FV)(Ar A:Option Addr)(cr c:Nat)(w:World)(hrr:Rd w w.heap.size 3 Ar (rs.map encR))(hr:nI w w.heap.size A fs)(hcr:rs.length<=100000000000000)(hc:fs.length<=100000000000000) :
  Calls Tryz.prog 31 #[.slice Ar rs.length cr,.slice A fs.length c] w (CO w (gQ rs fs)):=by
 have hm:=aP
 obtain⟨u,hu⟩:∃u,oN rs=u:=⟨_,rfl⟩
 obtain⟨v,hv⟩:∃u,bQ fs=u:=⟨_,rfl⟩
 have k1:=hide (fun W (hg:Grew w W)=>Hr rs Ar cr u W (hrr.up hg) hcr hu)
 have k2:=hide (fun W (hg:Grew w W)=>iO fs A c v W (hr.up hg) hc hv)
 have hro:gQ rs fs=if (u&&v)=true then oG rs fs rs.length else ([],1):=by
  unfold gQ
  rw[hu,hv]
 rw[hro]
 have HR:=hide hr
 have HRR:=hide hrr
 have hcase:u=false\/(u=true/\v=false)\/(u=true/\v=true):=by cases u<;>cases v<;>simp
 rcases hcase with rfl|⟨rfl,rfl⟩|⟨rfl,rfl⟩
 ·rw[if_neg (by simp)]
  clear hu hv hr hrr hro
  go_enter Tryz.func31,Tryz.ntmps31
  go_wp2_with (first|(go_at_call 35;with_reducible refine aQ (k1.out _ gw) fun _ _=>?_;dsimp only)|(go_at_call 37;with_reducible refine aQ (k2.out _ gw) fun _ _=>?_;dsimp only))
  go_ret2
  exact⟨none,0,[],rfl,rfl,nI.nil _ _ _,gw⟩
 ·rw[if_neg (by simp)]
  clear hu hv hr hrr hro
  go_enter Tryz.func31,Tryz.ntmps31
  go_wp2_with (first|(go_at_call 35;with_reducible refine aQ (k1.out _ gw) fun _ _=>?_;dsimp only)|(go_at_call 37;with_reducible refine aQ (k2.out _ gw) fun _ _=>?_;dsimp only))
  go_ret2
  exact⟨none,0,[],rfl,rfl,nI.nil _ _ _,gw⟩
 ·rw[if_pos (by rfl)]
  have hlen:=jU hv
  have hrl:=fun k hk=>Ig (rs:=rs) hlen k hk
  have HRL:=hide hrl
  clear hu hv hr hrr hro hrl
  go_enter Tryz.func31,Tryz.ntmps31
  go_wp2_with (first|(go_at_call 35;with_reducible refine aQ (k1.out _ gw) fun _ _=>?_;dsimp only)|(go_at_call 37;with_reducible refine aQ (k2.out _ gw) fun _ _=>?_;dsimp only))
  refine (jB fs A c _ (HR.out.row.up gw) (by omega)).mono ?_
  rintro e W1 ⟨v1,rfl,hown,hg⟩
  have jE:Hid (Grew w W1):=hide (Grew.trans gw hg)
  obtain⟨A1,c1,rfl,hc1,zD⟩:=Rd.iE fZ hown rfl
  have MR:Hid (nI W1 W1.heap.size A1 fs):=hide ⟨zD,fun f hf=>(HR.out.each f hf).up jE.out⟩
  clear hown hg zD k1 k2
  dsimp only
  go_wp2_with fail
  go_loopw [6,9,10,23] (fun ov u9 u10 i wr=>∃ (k:Nat) (cur:List FV) (A':Option Addr) (c':Nat),k<=rs.length/\i=.int .i64 k/\ov=.slice A' cur.length c'/\Grew W1 wr/\Hid (nI wr wr.heap.size A' cur)/\Hid (cur.map FV.bare=(oG rs fs k).1.map FV.bare)/\Hid ((oG rs fs k).2=0)) (fun _ _ _ i _=>rs.length-(intOf i).toNat)
  case atStart=>exact⟨0,fs,A1,c1,by omega,rfl,rfl,gw,hide (MR.out.up gw),hide rfl,hide rfl⟩
  case round =>
   obtain⟨k,cur,A',c',hk,rfl,rfl,hg,HF,HB,HE⟩:=hrel
   have HG:=hide hg
   have hcl:=N7 HB.out
   have hrk:=HRL.out k hk
   rw[<-hcl] at hrk
   clear hcl
   by_cases hlt:k<rs.length
   ·obtain⟨b,off,hA,hb,h0,h1,h2⟩:=Ih (HRR.out.up (jE.out.trans hg)) hlt
    have hix:=aO (cap:=cr) Tryz.underlying26 Tryz.sizeOf71 hA.out hlt
    have hst:=yh (fs:=fs) hlt
    unfold fD at hst
    rw[if_pos HE.out] at hst
    obtain⟨x,hx⟩:∃x,tZ rs k=x:=⟨_,rfl⟩
    rw[hx] at h0 h1 h2 hst
    clear hx hA hg
    obtain⟨x1,x2,x3⟩:=x
    dsimp only at h0 h1 h2 hst
    have hap:=XI (o:=x1) (k:=x2) (n:=x3) HB.out
    rw[<-hst] at hap
    have ka:=hide (fun W (hg:Grew wr W)=>aay x1 x2 x3 cur A' c' W (HF.out.up hg) (by omega))
    have her:=fun h=>TK (o:=x1) (k:=x2) (n:=x3) (fs:=cur) h
    generalize bP x1 x2 x3 cur=ap at *
    obtain⟨al,ae⟩:=ap
    dsimp only at hap ka her
    have Hu:=hide hap
    have HER:=hide her
    clear hst hap her
    go_wp2_with fail
    refine (ka.out _ gw).mono ?_
    rintro e W2 ⟨A2,c2,agW,rfl,hba,Zb,hg2⟩
    have HG2:Hid (Grew wr W2):=hide (Grew.trans gw hg2)
    have HF2:=hide Zb
    have HBA:=hide (hba.trans Hu.out.1)
    clear Zb hg2 hba ka
    dsimp only
    by_cases hae:ae=0
    ·subst hae
     go_wp2_with fail
     go_roundw
     case rel=>exact⟨k+1,agW,A2,c2,by omega,by go_num,rfl,HG.out.trans (HG2.out.trans gw),hide (HF2.out.up gw),HBA,hide Hu.out.2.symm⟩
     case measure=>simp[intOf];omega
    ·have hne:(ae != 0)=true:=by simpa using hae
     have hres:oG rs fs rs.length=([],ae):=by
      have h3:(oG rs fs (k+1)).2≠0:=by rw[<-Hu.out.2];exact hae
      rw[run_stop h3 rs.length (by omega) (Nat.le_refl _)]
      have h4:=Hu.out.1
      rw[HER.out hae] at h4
      have h5:(oG rs fs (k+1)).1=[]:=by simpa using h4.symm
      exact Prod.ext h5 Hu.out.2.symm
     have rW:=hide hres
     clear hres
     go_wp2_with fail
     go_ret2
     rw[rW.out]
     exact⟨none,0,[],rfl,rfl,nI.nil _ _ _,jE.out.trans (HG.out.trans (HG2.out.trans gw))⟩
   ·obtain rfl:k=rs.length:=by omega
    go_wp2_with fail
    go_ret2
    exact⟨A',c',cur,by rw[HE.out];rfl,HB.out,HF.out.up gw,jE.out.trans (HG.out.trans gw)⟩
def je (f g:FV):Bool:=(sG f g).2==0&&(sG f g).1
end Go.Proofs.YtlkgjmnjhifehaaGreat
