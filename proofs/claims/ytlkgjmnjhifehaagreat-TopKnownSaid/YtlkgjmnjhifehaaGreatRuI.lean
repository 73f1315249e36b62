/- Package rule: Apply, Run. -/
import Derived.Test.YtlkgjmnjhifehaaGreatRuY
set_option linter.unusedSimpArgs false
set_option linter.unusedVariables false
set_option maxHeartbeats 8000000
set_option maxRecDepth 100000
namespace Go.Proofs.YtlkgjmnjhifehaaGreat
open Go.RowKit Go.Sort Go.Lib
attribute [local go_sem] dC steadyUpon
attribute [local go_sem ↓] bQ bJ bg aZ aY aX aW
attribute [local go_sem] bH aN aK size_grow tape_grow cell?_grow' aF aC grow_grow bV bn dZ bZ bW bM aO cO bu bY bK
attribute [local irreducible] wpSteady
theorem aaj (o k n:Int)(fs:List FV)(A:Option Addr)(c:Nat)(w:World)(hr:mM w w.heap.size A fs)(hc:fs.length<=100000000000000) :
  Calls Tryz.prog 68 #[Pj o k n,.slice A fs.length c] w (CB w (bF o k n fs)):=by
 by_cases h:(ig o k n&&bG fs)=true
 ·obtain⟨hu,hv⟩:ig o k n=true/\bG fs=true:=by simpa using h
  have ho:o=1\/o=2\/o=3\/o=4\/o=5:=by
   have:=hu
   unfold ig at this
   rw[Bool.and_eq_true,decide_eq_true_eq] at this
   omega
  rcases ho with rfl|rfl|rfl|rfl|rfl
  ·exact aao k n fs A c w hr hu hv
  ·exact aan k n fs A c w hr hu hv
  ·exact aam k n fs A c w hr hu hv
  ·exact aal k n fs A c w hr hu hv
  ·exact aak k n fs A c w hr hu hv
 ·have e:bF o k n fs=([],1):=by
   unfold bF
   rw[if_neg h]
  rw[e]
  exact TS o k n fs A c w hr hc h
theorem RF (f g:FV):jC f.bare g.bare=(jC f g).bare:=by
 unfold jC
 have e1:g.bare.dn=g.dn:=rfl
 have e2:yX f.bare g.bare=yX f g:=rfl
 rw[e1,e2]
 split
 ·rfl
 ·split<;>rfl
theorem QM (n:Int)(kept:List FV)(f:FV):thinStep n (kept.map FV.bare) f.bare=(thinStep n kept f).map FV.bare:=by
 have e:(kept.map FV.bare).findIdx? (qN n f.bare)=kept.findIdx? (qN n f):=by
  rw[List.findIdx?_map]
  rfl
 unfold thinStep
 rw[e]
 cases h:kept.findIdx? (qN n f) with
 | none=>simp
 | some k =>
  have hk:=(List.findIdx?_eq_some_iff_getElem.1 h).1
  dsimp only
  rw[Dl hk,RF,List.map_set]
theorem Gx (n:Int)(ds:List FV):∀m,m<=ds.length->iw n (ds.map FV.bare) m=(iw n ds m).map FV.bare
 | 0,_=>by simp[iw]
 | m+1,h=>by
  rw[jK (by rw[List.length_map];omega),jK (by omega),Gx n ds m (by omega),Dl (by omega),QM]
theorem Oe (k:Int)(fs:List FV):dK k (fs.map FV.bare)=(dK k fs).map FV.bare:=by
 unfold dK
 rw[List.map_mergeSort (f:=FV.bare) (r:=Gw) (s:=Gw) (fun a _ b _=>rfl),List.filter_map]
 rfl
theorem Kv (k:Int)(fs:List FV):fF k (fs.map FV.bare)=(fF k fs).map FV.bare:=by
 unfold fF
 rw[List.filter_map]
 rfl
theorem QJ (k n:Int)(fs:List FV):fM k n (fs.map FV.bare)=(fM k n fs).map FV.bare:=by
 unfold fM
 rw[List.map_mergeSort (f:=FV.bare) (r:=leI) (s:=leI) (fun a _ b _=>rfl),Oe,Kv,List.length_map,Gx _ _ _ (Nat.le_refl _),List.map_append]
theorem Xe (o k n:Int)(f:FV):(BZ o k n f.bare).bare=(BZ o k n f).bare:=by
 unfold BZ
 have e:f.bare.kind=f.kind:=rfl
 rw[e]
 split
 ·exact ru rfl
 ·rfl
theorem Cf (o k n:Int)(fs:List FV):(jh o k n (fs.map FV.bare)).map FV.bare=(jh o k n fs).map FV.bare:=by
 unfold jh
 have e:(if o=3 then fM k n (fs.map FV.bare) else fs.map FV.bare)=(if o=3 then fM k n fs else fs).map FV.bare:=by
  split
  ·exact QJ k n fs
  ·rfl
 rw[e,List.map_map,List.map_map,List.map_map]
 congr 1
 funext f
 exact Xe o k n f
theorem apply_bare (o k n:Int)(fs:List FV):(bF o k n (fs.map FV.bare)).1.map FV.bare=(bF o k n fs).1.map FV.bare/\(bF o k n (fs.map FV.bare)).2=(bF o k n fs).2:=by
 unfold bF
 have e:=sV (Cf o k n fs)
 rw[yu,e]
 split
 ·split
  ·exact⟨Cf o k n fs,rfl⟩
  ·exact⟨rfl,rfl⟩
 ·exact⟨rfl,rfl⟩
theorem Xn {o k n:Int}{fs gs:List FV}(h:fs.map FV.bare=gs.map FV.bare):(bF o k n fs).1.map FV.bare=(bF o k n gs).1.map FV.bare/\(bF o k n fs).2=(bF o k n gs).2:=by
 have a:=apply_bare o k n fs
 have b:=apply_bare o k n gs
 rw[h] at a
 exact⟨a.1.symm.trans b.1,a.2.symm.trans b.2⟩
theorem Tv {o k n:Int}{fs:List FV}(h:(bF o k n fs).2≠0):(bF o k n fs).1=[]:=by
 unfold bF at *
 split at h
 ·split at h
  ·exact absurd rfl h
  ·rename_i h1 h2
   rw[if_pos h1,if_neg h2]
 ·rename_i h1
  rw[if_neg h1]
def fA (l:List FV×Int)(r:Ru):List FV×Int:=if l.2=0 then bF r.1 r.2.1 r.2.2 l.1 else l
def oh (rs:List Ru)(fs:List FV)(k:Nat):List FV×Int:=(rs.take k).foldl fA (fs,0)
def gB (rs:List Ru)(fs:List FV):List FV×Int:=if (oM rs&&bG fs)=true then oh rs fs rs.length else ([],1)
theorem xK {rs:List Ru}{fs:List FV}{k:Nat}(h:k<rs.length):oh rs fs (k+1)=fA (oh rs fs k) (tC rs k):=by
 unfold oh
 rw[List.take_add_one,yF h,List.foldl_append]
 rfl
theorem run_stop {rs:List Ru}{fs:List FV}{k:Nat}(h:(oh rs fs k).2≠0):∀m,k<=m->m<=rs.length->oh rs fs m=oh rs fs k
 | 0,h1,_=>by rw[show k=0 by omega]
 | m+1,h1,h2=>by
  by_cases e:k=m+1
  ·rw[e]
  ·have ih:=run_stop h m (by omega) (by omega)
   rw[xK (by omega),ih]
   unfold fA
   rw[if_neg h]
theorem Hz {rs:List Ru}{fs:List FV}(hf:fs.length<=300):∀k,k<=rs.length->(oh rs fs k).1.length<=300
 | 0,_=>by simpa[oh] using hf
 | k+1,h=>by
  rw[xK (by omega)]
  unfold fA
  split
  ·unfold bF
   split
   ·split
    ·rename_i h1
     exact iY h1
    ·simp
   ·simp
  ·exact Hz hf k (by omega)
theorem aeJ (rs:List Ru)(fs:List FV)(Ar A:Option Addr)(cr c:Nat)(w:World)(hrr:Rd w w.heap.size 3 Ar (rs.map encR))(hr:mM w w.heap.size A fs)(hcr:rs.length<=100000000000000)(hc:fs.length<=100000000000000) :
  Calls Tryz.prog 31 #[.slice Ar rs.length cr,.slice A fs.length c] w (CB w (gB rs fs)):=by
 have hm:=aQ
 obtain⟨u,hu⟩:∃u,oM rs=u:=⟨_,rfl⟩
 obtain⟨v,hv⟩:∃u,bG fs=u:=⟨_,rfl⟩
 have k1:=hide (fun W (hg:Grew w W)=>G5 rs Ar cr u W (hrr.up hg) hcr hu)
 have k2:=hide (fun W (hg:Grew w W)=>je fs A c v W (hr.up hg) hc hv)
 have hro:gB rs fs=if (u&&v)=true then oh rs fs rs.length else ([],1):=by
  unfold gB
  rw[hu,hv]
 rw[hro]
 have HR:=hide hr
 have HRR:=hide hrr
 have hcase:u=false\/(u=true/\v=false)\/(u=true/\v=true):=by cases u<;>cases v<;>simp
 rcases hcase with rfl|⟨rfl,rfl⟩|⟨rfl,rfl⟩
 ·rw[if_neg (by simp)]
  clear hu hv hr hrr hro
  go_enter Tryz.func31,Tryz.ntmps31
  go_wp2_with (first|(go_at_call 35;with_reducible refine aT (k1.out _ gw) fun _ _=>?_;dsimp only)|(go_at_call 37;with_reducible refine aT (k2.out _ gw) fun _ _=>?_;dsimp only))
  go_ret2
  exact⟨none,0,[],rfl,rfl,mM.nil _ _ _,gw⟩
 ·rw[if_neg (by simp)]
  clear hu hv hr hrr hro
  go_enter Tryz.func31,Tryz.ntmps31
  go_wp2_with (first|(go_at_call 35;with_reducible refine aT (k1.out _ gw) fun _ _=>?_;dsimp only)|(go_at_call 37;with_reducible refine aT (k2.out _ gw) fun _ _=>?_;dsimp only))
  go_ret2
  exact⟨none,0,[],rfl,rfl,mM.nil _ _ _,gw⟩
 ·rw[if_pos (by rfl)]
  have hlen:=iY hv
  have hrl:=fun k hk=>Hz (rs:=rs) hlen k hk
  have HRL:=hide hrl
  clear hu hv hr hrr hro hrl
  go_enter Tryz.func31,Tryz.ntmps31
  go_wp2_with (first|(go_at_call 35;with_reducible refine aT (k1.out _ gw) fun _ _=>?_;dsimp only)|(go_at_call 37;with_reducible refine aT (k2.out _ gw) fun _ _=>?_;dsimp only))
  refine (jB fs A c _ (HR.out.row.up gw) (by omega)).mono ?_
  rintro e W1 ⟨v1,rfl,hown,hg⟩
  have iI:Hid (Grew w W1):=hide (Grew.trans gw hg)
  obtain⟨A1,c1,rfl,hc1,zi⟩:=Rd.ik fQ hown rfl
  have MJ:Hid (mM W1 W1.heap.size A1 fs):=hide ⟨zi,fun f hf=>(HR.out.each f hf).up iI.out⟩
  clear hown hg zi k1 k2
  dsimp only
  go_wp2_with fail
  go_loopw [6,9,10,23] (fun ov u9 u10 i wr=>∃ (k:Nat) (cur:List FV) (A':Option Addr) (c':Nat),k<=rs.length/\i=.int .i64 k/\ov=.slice A' cur.length c'/\Grew W1 wr/\Hid (mM wr wr.heap.size A' cur)/\Hid (cur.map FV.bare=(oh rs fs k).1.map FV.bare)/\Hid ((oh rs fs k).2=0)) (fun _ _ _ i _=>rs.length-(intOf i).toNat)
  case atStart=>exact⟨0,fs,A1,c1,by omega,rfl,rfl,gw,hide (MJ.out.up gw),hide rfl,hide rfl⟩
  case round =>
   obtain⟨k,cur,A',c',hk,rfl,rfl,hg,HF,HB,HE⟩:=hrel
   have HG:=hide hg
   have hcl:=NQ HB.out
   have hrk:=HRL.out k hk
   rw[<-hcl] at hrk
   clear hcl
   by_cases hlt:k<rs.length
   ·obtain⟨b,off,hA,hb,h0,h1,h2⟩:=H5 (HRR.out.up (iI.out.trans hg)) hlt
    have hix:=aJ (cap:=cr) Tryz.underlying26 Tryz.sizeOf71 hA.out hlt
    have hst:=xK (fs:=fs) hlt
    unfold fA at hst
    rw[if_pos HE.out] at hst
    obtain⟨x,hx⟩:∃x,tC rs k=x:=⟨_,rfl⟩
    rw[hx] at h0 h1 h2 hst
    clear hx hA hg
    obtain⟨x1,x2,x3⟩:=x
    dsimp only at h0 h1 h2 hst
    have hap:=Xn (o:=x1) (k:=x2) (n:=x3) HB.out
    rw[<-hst] at hap
    have ka:=hide (fun W (hg:Grew wr W)=>aaj x1 x2 x3 cur A' c' W (HF.out.up hg) (by omega))
    have her:=fun h=>Tv (o:=x1) (k:=x2) (n:=x3) (fs:=cur) h
    generalize bF x1 x2 x3 cur=ap at *
    obtain⟨al,ae⟩:=ap
    dsimp only at hap ka her
    have G7:=hide hap
    have HER:=hide her
    clear hst hap her
    go_wp2_with fail
    refine (ka.out _ gw).mono ?_
    rintro e W2 ⟨A2,c2,agw,rfl,hba,YY,hg2⟩
    have HG2:Hid (Grew wr W2):=hide (Grew.trans gw hg2)
    have HF2:=hide YY
    have HBA:=hide (hba.trans G7.out.1)
    clear YY hg2 hba ka
    dsimp only
    by_cases hae:ae=0
    ·subst hae
     go_wp2_with fail
     go_roundw
     case rel=>exact⟨k+1,agw,A2,c2,by omega,by go_num,rfl,HG.out.trans (HG2.out.trans gw),hide (HF2.out.up gw),HBA,hide G7.out.2.symm⟩
     case measure=>simp[intOf];omega
    ·have hne:(ae != 0)=true:=by simpa using hae
     have hres:oh rs fs rs.length=([],ae):=by
      have h3:(oh rs fs (k+1)).2≠0:=by rw[<-G7.out.2];exact hae
      rw[run_stop h3 rs.length (by omega) (Nat.le_refl _)]
      have h4:=G7.out.1
      rw[HER.out hae] at h4
      have h5:(oh rs fs (k+1)).1=[]:=by simpa using h4.symm
      exact Prod.ext h5 G7.out.2.symm
     have oU:=hide hres
     clear hres
     go_wp2_with fail
     go_ret2
     rw[oU.out]
     exact⟨none,0,[],rfl,rfl,mM.nil _ _ _,iI.out.trans (HG.out.trans (HG2.out.trans gw))⟩
   ·obtain rfl:k=rs.length:=by omega
    go_wp2_with fail
    go_ret2
    exact⟨A',c',cur,by rw[HE.out];rfl,HB.out,HF.out.up gw,iI.out.trans (HG.out.trans gw)⟩
def iT (f g:FV):Bool:=(su f g).2==0&&(su f g).1
end Go.Proofs.YtlkgjmnjhifehaaGreat
