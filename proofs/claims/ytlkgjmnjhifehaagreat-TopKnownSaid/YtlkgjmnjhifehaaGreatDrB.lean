/- What rules make of a list, and what Make makes, in plain words. -/
import Derived.Test.YtlkgjmnjhifehaaGreatDrA
set_option linter.unusedSimpArgs false
set_option linter.unusedVariables false
namespace Go.Proofs.YtlkgjmnjhifehaaGreat
open Go.RowKit Go.Sort
theorem EM {fs:List FV}(h:bG fs=true)(n:Int):bG (fZ fs n)=true:=by
 rw[yU]
 refine⟨?_,fun f hf=>fG h f (A8 hf).1,Nat.le_trans (GX fs n) (iY h)⟩
 unfold fZ sS
 rw[List.pairwise_map]
 refine List.Pairwise.imp_of_mem (R:=fun i j=>i<j) ?_ ?_
 ·intro i j hi hj hij
  exact ql h i j hij (iW.1 hj).1
 ·unfold aS
  exact List.pairwise_lt_range.filter _
theorem Xf {fs:List FV}{n:Int}{f:FV}(hf:f∈fs)(hc:countB f n=true):f∈fZ fs n:=by
 obtain⟨k,hk,rfl⟩:=iZ hf
 unfold fZ sS
 exact List.mem_map.2 ⟨k,iW.2 ⟨hk,hc⟩,rfl⟩
theorem Qo {rs:List Ru}(h:oM rs=true):qR (capOf rs).1=true:=by
 unfold capOf
 rw[if_pos h]
 unfold EN qR
 rw[List.take_length,decide_eq_true_eq]
 exact acu (Nh h).2 _ (by omega)
theorem Ko {fs gs gs':List FV}{lim:Int}{ps:List Pt}(h:gs.map FV.bare=gs'.map FV.bare)(hp:rQ fs gs lim ps):rQ fs gs' lim ps:=by
 refine⟨hp.lf,by rw[<-sV h];exact hp.lg,hp.lm,hp.ord,fun p hpm=>?_,hp.cov⟩
 obtain⟨f,hf,g,hg,a,b,c⟩:=hp.good p hpm
 obtain⟨g',hg',e⟩:=VB h hg
 exact⟨f,hf,g',hg',a,by rw[<-b];exact ZH e,by rw[abI e];exact c⟩
theorem NJ {fs:List FV}{rs:List Ru}{ch:List FV}{Gh:List Pt}{e:Int}(h:jH fs rs=((ch,Gh),e)) :
  (e≠0/\ch=[]/\Gh=[]/\((e=1/\(bG fs=false\/(bG fs=true/\oM rs=false)))\/(e≠1/\bG fs=true/\oM rs=true))) \/
  (e=0/\oM rs=true/\bG ch=true/\rQ fs ch (capOf rs).1 Gh/\(∀g∈ch,(g.kind=4\/g.dep<(capOf rs).1)/\X5 fs g)):=by
 unfold jH at h
 rcases Af rs fs with⟨h0,h1,h2,h3,h4⟩|⟨h0,h1,h2⟩|⟨h0,h1⟩
 ·rw[if_pos h0] at h
  have hcl:=EM h3 (capOf rs).1
  have hlm:=Qo h1
  have hask:=ET h2 hcl hlm
  unfold kE at h
  rw[if_pos hask] at h
  by_cases hn:uZ fs (fZ (gB rs fs).1 (capOf rs).1) (aS fs (capOf rs).1 fs.length)=[]
  ·rw[if_pos hn,if_pos rfl] at h
   injection h with h he
   injection h with h5 h6
   refine .inr ⟨he.symm,h1,by rw[<-h5];exact hcl,?_,?_⟩
   ·rw[<-h5,<-h6]
    exact Nu h2 hcl hlm hn
   ·intro g hg
    rw[<-h5] at hg
    obtain⟨hm,hc⟩:=A8 hg
    refine⟨?_,h4 g hm⟩
    unfold countB at hc
    simpa using hc
  ·rw[if_neg hn,if_neg (by decide)] at h
   injection h with h he
   injection h with h5 h6
   exact .inl ⟨by omega,h5.symm,h6.symm,.inr ⟨by omega,h2,h1⟩⟩
 ·rw[if_neg (by rw[h0];decide)] at h
  injection h with h he
  injection h with h5 h6
  exact .inl ⟨by omega,h5.symm,h6.symm,.inr ⟨by omega,h2,h1⟩⟩
 ·rw[if_neg (by rw[h0];decide)] at h
  injection h with h he
  injection h with h5 h6
  refine .inl ⟨by omega,h5.symm,h6.symm,.inl ⟨by omega,?_⟩⟩
  cases hf:bG fs with
  | false=>exact .inl rfl
  | true =>
   refine .inr ⟨rfl,?_⟩
   cases hr:oM rs with
   | false=>rfl
   | true=>exact absurd ⟨hr,hf⟩ h1
end Go.Proofs.YtlkgjmnjhifehaaGreat
