/- Package rule: Apply, Run. -/
import Derived.Test.YtblgdlnmabkpoaaGreatRuY
set_option linter.unusedSimpArgs false
set_option linter.unusedVariables false
set_option maxHeartbeats 8000000
set_option maxRecDepth 100000
namespace Go.Proofs.YtblgdlnmabkpoaaGreat
open Go.RowKit Go.Sort Go.Lib
attribute [local go_sem] Steady steadyUpon
attribute [local go_sem ↓] hs_dr lt_add_r lt_add_r2 lt_add_r3 lt_add_r4 lt_add_r5 lt_add_r6
attribute [local go_sem] cell?_gd frozen?_gd setCell_gd size_grow tape_grow cell?_grow' frozen?_grow' setCell_grow' grow_grow grow_dr grow_drew dr_dr dr_drew drew_dr dr_alloc dr_setCell dr_cell dr_frozen dr_tape dr_drawn
attribute [local irreducible] wpSteady
theorem Apply_v (o k n:Int)(fs:List FV)(A:Option Addr)(c:Nat)(w:World)(hr:FRd w w.heap.size A fs)(hc:fs.length≤100000000000000) :
  Calls Tryz.prog 51 #[ruV o k n,.slice A fs.length c] w (FeatR w (applyOf o k n fs)):=by
 by_cases h:(ruleOk o k n&&FList fs)=true
 ·obtain⟨hu,hv⟩:ruleOk o k n=true∧FList fs=true:=by simpa using h
  have ho:o=1∨o=2∨o=3∨o=4∨o=5:=by
   have:=hu
   unfold ruleOk at this
   rw[Bool.and_eq_true,decide_eq_true_eq] at this
   omega
  rcases ho with rfl|rfl|rfl|rfl|rfl
  ·exact Apply_1 k n fs A c w hr hu hv
  ·exact Apply_2 k n fs A c w hr hu hv
  ·exact Apply_3 k n fs A c w hr hu hv
  ·exact Apply_4 k n fs A c w hr hu hv
  ·exact Apply_5 k n fs A c w hr hu hv
 ·have e:applyOf o k n fs=([],1):=by
   unfold applyOf
   rw[if_neg h]
  rw[e]
  exact Apply_bad o k n fs A c w hr hc h
theorem join_bare (f g:FV):joinF f.bare g.bare=(joinF f g).bare:=by
 unfold joinF
 have e1:g.bare.rad=g.rad:=rfl
 have e2:liesF f.bare g.bare=liesF f g:=rfl
 rw[e1,e2]
 split
 ·rfl
 ·split<;>rfl
theorem step_bare (n:Int)(kept:List FV)(f:FV):thinStep n (kept.map FV.bare) f.bare=(thinStep n kept f).map FV.bare:=by
 have e:(kept.map FV.bare).findIdx? (nearF n f.bare)=kept.findIdx? (nearF n f):=by
  rw[List.findIdx?_map]
  rfl
 unfold thinStep
 rw[e]
 cases h:kept.findIdx? (nearF n f) with
 | none=>simp
 | some k =>
  have hk:=(List.findIdx?_eq_some_iff_getElem.1 h).1
  dsimp only
  rw[fAt_map hk,join_bare,List.map_set]
theorem kept_bare (n:Int)(ds:List FV):∀m,m≤ds.length→keptTo n (ds.map FV.bare) m=(keptTo n ds m).map FV.bare
 | 0,_=>by simp[keptTo]
 | m+1,h=>by
  rw[keptTo_succ (by rw[List.length_map];omega),keptTo_succ (by omega),kept_bare n ds m (by omega),fAt_map (by omega),step_bare]
theorem discs_bare (k:Int)(fs:List FV):discsOf k (fs.map FV.bare)=(discsOf k fs).map FV.bare:=by
 unfold discsOf
 rw[List.map_mergeSort (f:=FV.bare) (r:=leD) (s:=leD) (fun a _ b _=>rfl),List.filter_map]
 rfl
theorem others_bare (k:Int)(fs:List FV):othersOf k (fs.map FV.bare)=(othersOf k fs).map FV.bare:=by
 unfold othersOf
 rw[List.filter_map]
 rfl
theorem thin_bare (k n:Int)(fs:List FV):thinOf k n (fs.map FV.bare)=(thinOf k n fs).map FV.bare:=by
 unfold thinOf
 rw[List.map_mergeSort (f:=FV.bare) (r:=leI) (s:=leI) (fun a _ b _=>rfl),discs_bare,others_bare,List.length_map,kept_bare _ _ _ (Nat.le_refl _),List.map_append]
theorem chg_bare (o k n:Int)(f:FV):(chg o k n f.bare).bare=(chg o k n f).bare:=by
 unfold chg
 have e:f.bare.kind=f.kind:=rfl
 rw[e]
 split
 ·exact change_bare rfl
 ·rfl
theorem applyL_bare (o k n:Int)(fs:List FV):(applyL o k n (fs.map FV.bare)).map FV.bare=(applyL o k n fs).map FV.bare:=by
 unfold applyL
 have e:(if o=3 then thinOf k n (fs.map FV.bare) else fs.map FV.bare)=(if o=3 then thinOf k n fs else fs).map FV.bare:=by
  split
  ·exact thin_bare k n fs
  ·rfl
 rw[e,List.map_map,List.map_map,List.map_map]
 congr 1
 funext f
 exact chg_bare o k n f
theorem apply_bare (o k n:Int)(fs:List FV):(applyOf o k n (fs.map FV.bare)).1.map FV.bare=(applyOf o k n fs).1.map FV.bare∧(applyOf o k n (fs.map FV.bare)).2=(applyOf o k n fs).2:=by
 unfold applyOf
 have e:=FList_of (applyL_bare o k n fs)
 rw[FList_bare,e]
 split
 ·split
  ·exact⟨applyL_bare o k n fs,rfl⟩
  ·exact⟨rfl,rfl⟩
 ·exact⟨rfl,rfl⟩
theorem apply_of {o k n:Int}{fs gs:List FV}(h:fs.map FV.bare=gs.map FV.bare):(applyOf o k n fs).1.map FV.bare=(applyOf o k n gs).1.map FV.bare∧(applyOf o k n fs).2=(applyOf o k n gs).2:=by
 have a:=apply_bare o k n fs
 have b:=apply_bare o k n gs
 rw[h] at a
 exact⟨a.1.symm.trans b.1,a.2.symm.trans b.2⟩
theorem apply_err {o k n:Int}{fs:List FV}(h:(applyOf o k n fs).2≠0):(applyOf o k n fs).1=[]:=by
 unfold applyOf at *
 split at h
 ·split at h
  ·exact absurd rfl h
  ·rename_i h1 h2
   rw[if_pos h1,if_neg h2]
 ·rename_i h1
  rw[if_neg h1]
def runStep (l:List FV×Int)(r:Ru):List FV×Int:=if l.2=0 then applyOf r.1 r.2.1 r.2.2 l.1 else l
def runTo (rs:List Ru)(fs:List FV)(k:Nat):List FV×Int:=(rs.take k).foldl runStep (fs,0)
def runOf (rs:List Ru)(fs:List FV):List FV×Int:=if (rsOk rs&&FList fs)=true then runTo rs fs rs.length else ([],1)
theorem runTo_succ {rs:List Ru}{fs:List FV}{k:Nat}(h:k<rs.length):runTo rs fs (k+1)=runStep (runTo rs fs k) (ruAt rs k):=by
 unfold runTo
 rw[List.take_add_one,ruAt_get h,List.foldl_append]
 rfl
theorem run_stop {rs:List Ru}{fs:List FV}{k:Nat}(h:(runTo rs fs k).2≠0):∀m,k≤m→m≤rs.length→runTo rs fs m=runTo rs fs k
 | 0,h1,_=>by rw[show k=0 by omega]
 | m+1,h1,h2=>by
  by_cases e:k=m+1
  ·rw[e]
  ·have ih:=run_stop h m (by omega) (by omega)
   rw[runTo_succ (by omega),ih]
   unfold runStep
   rw[if_neg h]
theorem run_len {rs:List Ru}{fs:List FV}(hf:fs.length≤300):∀k,k≤rs.length→(runTo rs fs k).1.length≤300
 | 0,_=>by simpa[runTo] using hf
 | k+1,h=>by
  rw[runTo_succ (by omega)]
  unfold runStep
  split
  ·unfold applyOf
   split
   ·split
    ·rename_i h1
     exact list_len h1
    ·simp
   ·simp
  ·exact run_len hf k (by omega)
theorem Run_v (rs:List Ru)(fs:List FV)(Ar A:Option Addr)(cr c:Nat)(w:World)(hrr:Rd w w.heap.size 3 Ar (rs.map encR))(hr:FRd w w.heap.size A fs)(hcr:rs.length≤100000000000000)(hc:fs.length≤100000000000000) :
  Calls Tryz.prog 22 #[.slice Ar rs.length cr,.slice A fs.length c] w (FeatR w (runOf rs fs)):=by
 have hm:=hmix
 obtain⟨u,hu⟩:∃u,rsOk rs=u:=⟨_,rfl⟩
 obtain⟨v,hv⟩:∃u,FList fs=u:=⟨_,rfl⟩
 have k1:=hide (fun W (hg:Grew w W)=>RuValid_v rs Ar cr u W (hrr.up hg) hcr hu)
 have k2:=hide (fun W (hg:Grew w W)=>FList_v fs A c v W (hr.up hg) hc hv)
 have hro:runOf rs fs=if (u&&v)=true then runTo rs fs rs.length else ([],1):=by
  unfold runOf
  rw[hu,hv]
 rw[hro]
 have HR:=hide hr
 have HRR:=hide hrr
 have hcase:u=false∨(u=true∧v=false)∨(u=true∧v=true):=by cases u<;>cases v<;>simp
 rcases hcase with rfl|⟨rfl,rfl⟩|⟨rfl,rfl⟩
 ·rw[if_neg (by simp)]
  clear hu hv hr hrr hro
  go_enter Tryz.func22,Tryz.ntmps22
  go_wp2_with (first|(go_at_call 49;with_reducible refine crv (k1.out _ gw) fun _ _=>?_;dsimp only)|(go_at_call 41;with_reducible refine crv (k2.out _ gw) fun _ _=>?_;dsimp only))
  go_ret2
  exact⟨none,0,[],rfl,rfl,FRd.nil _ _ _,gw⟩
 ·rw[if_neg (by simp)]
  clear hu hv hr hrr hro
  go_enter Tryz.func22,Tryz.ntmps22
  go_wp2_with (first|(go_at_call 49;with_reducible refine crv (k1.out _ gw) fun _ _=>?_;dsimp only)|(go_at_call 41;with_reducible refine crv (k2.out _ gw) fun _ _=>?_;dsimp only))
  go_ret2
  exact⟨none,0,[],rfl,rfl,FRd.nil _ _ _,gw⟩
 ·rw[if_pos (by rfl)]
  have hlen:=list_len hv
  have hrl:=fun k hk=>run_len (rs:=rs) hlen k hk
  have HRL:=hide hrl
  clear hu hv hr hrr hro hrl
  go_enter Tryz.func22,Tryz.ntmps22
  go_wp2_with (first|(go_at_call 49;with_reducible refine crv (k1.out _ gw) fun _ _=>?_;dsimp only)|(go_at_call 41;with_reducible refine crv (k2.out _ gw) fun _ _=>?_;dsimp only))
  refine (CloneF_any fs A c _ (HR.out.row.up gw) (by omega)).mono ?_
  rintro e W1 ⟨v1,rfl,hown,hg⟩
  have HG1:Hid (Grew w W1):=hide (Grew.trans gw hg)
  obtain⟨A1,c1,rfl,hc1,hrd1⟩:=Rd.of_own fv_len hown rfl
  have HF1:Hid (FRd W1 W1.heap.size A1 fs):=hide ⟨hrd1,fun f hf=>(HR.out.each f hf).up HG1.out⟩
  clear hown hg hrd1 k1 k2
  dsimp only
  go_wp2_with fail
  go_loopw [6,9,10,23] (fun ov u9 u10 i wr=>∃ (k:Nat) (cur:List FV) (A':Option Addr) (c':Nat),k≤rs.length∧i=.int .i64 k∧ov=.slice A' cur.length c'∧Grew W1 wr∧Hid (FRd wr wr.heap.size A' cur)∧Hid (cur.map FV.bare=(runTo rs fs k).1.map FV.bare)∧Hid ((runTo rs fs k).2=0)) (fun _ _ _ i _=>rs.length-(intOf i).toNat)
  case atStart=>exact⟨0,fs,A1,c1,by omega,rfl,rfl,gw,hide (HF1.out.up gw),hide rfl,hide rfl⟩
  case round =>
   obtain⟨k,cur,A',c',hk,rfl,rfl,hg,HF,HB,HE⟩:=hrel
   have HG:=hide hg
   have hcl:=len_of HB.out
   have hrk:=HRL.out k hk
   rw[←hcl] at hrk
   clear hcl
   by_cases hlt:k<rs.length
   ·obtain⟨b,off,hA,hb,h0,h1,h2⟩:=ruCells (HRR.out.up (HG1.out.trans hg)) hlt
    have hix:=idx_run (cap:=cr) Tryz.underlying23 Tryz.sizeOf48 hA.out hlt
    have hst:=runTo_succ (fs:=fs) hlt
    unfold runStep at hst
    rw[if_pos HE.out] at hst
    obtain⟨x,hx⟩:∃x,ruAt rs k=x:=⟨_,rfl⟩
    rw[hx] at h0 h1 h2 hst
    clear hx hA hg
    obtain⟨x1,x2,x3⟩:=x
    dsimp only at h0 h1 h2 hst
    have hap:=apply_of (o:=x1) (k:=x2) (n:=x3) HB.out
    rw[←hst] at hap
    have ka:=hide (fun W (hg:Grew wr W)=>Apply_v x1 x2 x3 cur A' c' W (HF.out.up hg) (by omega))
    have her:=fun h=>apply_err (o:=x1) (k:=x2) (n:=x3) (fs:=cur) h
    generalize applyOf x1 x2 x3 cur=ap at *
    obtain⟨al,ae⟩:=ap
    dsimp only at hap ka her
    have HAP:=hide hap
    have HER:=hide her
    clear hst hap her
    go_wp2_with fail
    refine (ka.out _ gw).mono ?_
    rintro e W2 ⟨A2,c2,cur2,rfl,hba,hrd2,hg2⟩
    have HG2:Hid (Grew wr W2):=hide (Grew.trans gw hg2)
    have HF2:=hide hrd2
    have HBA:=hide (hba.trans HAP.out.1)
    clear hrd2 hg2 hba ka
    dsimp only
    by_cases hae:ae=0
    ·subst hae
     go_wp2_with fail
     go_roundw
     case rel=>exact⟨k+1,cur2,A2,c2,by omega,by go_num,rfl,HG.out.trans (HG2.out.trans gw),hide (HF2.out.up gw),HBA,hide HAP.out.2.symm⟩
     case measure=>simp[intOf];omega
    ·have hne:(ae != 0)=true:=by simpa using hae
     have hres:runTo rs fs rs.length=([],ae):=by
      have h3:(runTo rs fs (k+1)).2≠0:=by rw[←HAP.out.2];exact hae
      rw[run_stop h3 rs.length (by omega) (Nat.le_refl _)]
      have h4:=HAP.out.1
      rw[HER.out hae] at h4
      have h5:(runTo rs fs (k+1)).1=[]:=by simpa using h4.symm
      exact Prod.ext h5 HAP.out.2.symm
     have HRES:=hide hres
     clear hres
     go_wp2_with fail
     go_ret2
     rw[HRES.out]
     exact⟨none,0,[],rfl,rfl,FRd.nil _ _ _,HG1.out.trans (HG.out.trans (HG2.out.trans gw))⟩
   ·obtain rfl:k=rs.length:=by omega
    go_wp2_with fail
    go_ret2
    exact⟨A',c',cur,by rw[HE.out];rfl,HB.out,HF.out.up gw,HG1.out.trans (HG.out.trans gw)⟩
/-- What a need is met by. -/
def metB (f g:FV):Bool:=(standsOf f g).2==0&&(standsOf f g).1
end Go.Proofs.YtblgdlnmabkpoaaGreat
