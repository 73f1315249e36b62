/- What rules make of a list, and what Make makes, in plain words. -/
import Derived.Test.YtlkgjmnjhifehaaGreatDrA
set_option linter.unusedSimpArgs false
set_option linter.unusedVariables false
namespace Go.Proofs.YtlkgjmnjhifehaaGreat
open Go.RowKit Go.Sort
theorem EW {fs:List FV}(h:bQ fs=true)(n:Int):bQ (gu fs n)=true:=by
 rw[zl]
 refine⟨?_,fun f hf=>fB h f (Bo hf).1,Nat.le_trans (Hl fs n) (jU h)⟩
 unfold gu tu
 rw[List.pairwise_map]
 refine List.Pairwise.imp_of_mem (R:=fun i j=>i<j) ?_ ?_
 ·intro i j hi hj hij
  exact zn h i j hij (jQ.1 hj).1
 ·unfold bD
  exact List.pairwise_lt_range.filter _
theorem XA {fs:List FV}{n:Int}{f:FV}(hf:f∈fs)(hc:countB f n=true):f∈gu fs n:=by
 obtain⟨k,hk,rfl⟩:=kT hf
 unfold gu tu
 exact List.mem_map.2 ⟨k,jQ.2 ⟨hk,hc⟩,rfl⟩
theorem Qy {rs:List Ru}(h:oN rs=true):sS (capOf rs).1=true:=by
 unfold capOf
 rw[if_pos h]
 unfold EX sS
 rw[List.take_length,decide_eq_true_eq]
 exact acL (Ns h).2 _ (by omega)
theorem Ko {fs gs gs':List FV}{lim:Int}{ps:List Pt}(h:gs.map FV.bare=gs'.map FV.bare)(hp:uT fs gs lim ps):uT fs gs' lim ps:=by
 refine⟨hp.lf,by rw[<-tJ h];exact hp.lg,hp.lm,hp.ord,fun p hpm=>?_,hp.cov⟩
 obtain⟨f,hf,g,hg,a,b,c⟩:=hp.good p hpm
 obtain⟨g',hg',e⟩:=VR h hg
 exact⟨f,hf,g',hg',a,by rw[<-b];exact ZU e,by rw[ab1 e];exact c⟩
theorem NV {fs:List FV}{rs:List Ru}{ch:List FV}{MP:List Pt}{e:Int}(h:kE fs rs=((ch,MP),e)) :
  (e≠0/\ch=[]/\MP=[]/\((e=1/\(bQ fs=false\/(bQ fs=true/\oN rs=false)))\/(e≠1/\bQ fs=true/\oN rs=true))) \/
  (e=0/\oN rs=true/\bQ ch=true/\uT fs ch (capOf rs).1 MP/\(∀g∈ch,(g.kind=4\/g.dep<(capOf rs).1)/\Yn fs g)):=by
 unfold kE at h
 rcases AA rs fs with⟨h0,h1,h2,h3,h4⟩|⟨h0,h1,h2⟩|⟨h0,h1⟩
 ·rw[if_pos h0] at h
  have hcl:=EW h3 (capOf rs).1
  have hlm:=Qy h1
  have hask:=L8 h2 hcl hlm
  unfold kZ at h
  rw[if_pos hask] at h
  by_cases hn:vI fs (gu (gQ rs fs).1 (capOf rs).1) (bD fs (capOf rs).1 fs.length)=[]
  ·rw[if_pos hn,if_pos rfl] at h
   injection h with h he
   injection h with h5 h6
   refine .inr ⟨he.symm,h1,by rw[<-h5];exact hcl,?_,?_⟩
   ·rw[<-h5,<-h6]
    exact NJ h2 hcl hlm hn
   ·intro g hg
    rw[<-h5] at hg
    obtain⟨hm,hc⟩:=Bo hg
    refine⟨?_,h4 g hm⟩
    unfold countB at hc
    simpa using hc
  ·rw[if_neg hn,if_neg (by decide)] at h
   injection h with h he
   injection h with h5 h6
   exact .inl ⟨by omega,h5.symm,h6.symm,.inr ⟨by omega,h2,h1⟩⟩
 ·rw[if_neg (by rw[h0];decide)] at h
  injection h with h he
  injection h with h5 h6
  exact .inl ⟨by omega,h5.symm,h6.symm,.inr ⟨by omega,h2,h1⟩⟩
 ·rw[if_neg (by rw[h0];decide)] at h
  injection h with h he
  injection h with h5 h6
  refine .inl ⟨by omega,h5.symm,h6.symm,.inl ⟨by omega,?_⟩⟩
  cases hf:bQ fs with
  | false=>exact .inl rfl
  | true =>
   refine .inr ⟨rfl,?_⟩
   cases hr:oN rs with
   | false=>rfl
   | true=>exact absurd ⟨hr,hf⟩ h1
end Go.Proofs.YtlkgjmnjhifehaaGreat
