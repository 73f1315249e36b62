import Derived.Test.YtblgdlnmabkpoaaGreatRkK
import Derived.Test.YtblgdlnmabkpoaaGreatDeX
import Derived.Test.YtblgdlnmabkpoaaGreatRfX
import Derived.Test.YtblgdlnmabkpoaaGreatSaX
import Derived.Test.YtblgdlnmabkpoaaGreatDeG
import Derived.Test.YtblgdlnmabkpoaaGreatRmY
/- The reference of certificates: limits, what counts, which feature of a chart stands for one, order of proofs, searches. -/
set_option linter.unusedSimpArgs false
set_option linter.unusedVariables false
set_option maxHeartbeats 8000000
set_option maxRecDepth 100000
namespace Go.Proofs.YtblgdlnmabkpoaaGreat
open Go.RowKit Go.Sort
attribute [local go_sem] Steady steadyUpon
attribute [local go_sem ↓] hs_dr lt_add_r lt_add_r2 lt_add_r3 lt_add_r4 lt_add_r5 lt_add_r6
attribute [local go_sem] cell?_gd frozen?_gd setCell_gd size_grow tape_grow cell?_grow' frozen?_grow' setCell_grow' grow_grow grow_dr grow_drew dr_dr dr_drew drew_dr dr_alloc dr_setCell dr_cell dr_frozen dr_tape dr_drawn
attribute [local irreducible] wpSteady
theorem n13Limit_v (n:Int)(r:Bool)(w:World)(h:limOk n=r):Calls Tryz.prog 46 #[.int .i64 n] w (Ret w (.bool r)):=by
 subst h
 go_enter Tryz.func46,Tryz.ntmps46
 go_wp2
 all_goals go_ret
 all_goals refine Ret.mk' (ret_bool ?_) gw
 all_goals (rw[Bool.eq_iff_iff];simp[limOk];try omega)
theorem n13Counts_v (n:Int)(f:FV)(r:Bool)(w:World)(h:countB f n=r) :
  Calls Tryz.prog 28 #[f.val,.int .i64 n] w (Ret w (.bool r)):=by
 unfold countB at h
 obtain⟨id,kind,x,y,rad,aA,ac,area,dep,sym,sA,sc,secs⟩:=f
 unfold FV.val
 dsimp only at *
 generalize area.length=na at *
 generalize secs.length=ns at *
 by_cases h4:kind=4
 ·subst h4
  obtain rfl:r=true:=by rw[←h];rfl
  clear h
  go_enter Tryz.func28,Tryz.ntmps28
  go_wp2_with fail
  go_ret
  exact Ret.mk' rfl gw
 ·rw[decide_eq_false h4,Bool.false_or] at h
  subst h
  have h5:(kind==4)=false:=by simpa using h4
  go_enter Tryz.func28,Tryz.ntmps28
  go_wp2_with fail
  go_ret
  first|exact Ret.mk' rfl gw|exact Ret.mk' (by simp[h4]) gw
theorem n13Asked_v (fs gs:List FV)(A A':Option Addr)(c c':Nat)(n:Int)(r:Bool)(w:World)(hr:FRd w w.heap.size A fs)(hr':FRd w w.heap.size A' gs)(hc:fs.length≤100000000000000)(hc':gs.length≤100000000000000)(h:askedOf fs gs n=r) :
  Calls Tryz.prog 34 #[.slice A fs.length c,.slice A' gs.length c',.int .i64 n] w (Ret w (.bool r)):=by
 have hm:=hmix
 obtain⟨u,hu⟩:∃u,FList fs=u:=⟨_,rfl⟩
 obtain⟨v,hv⟩:∃u,FList gs=u:=⟨_,rfl⟩
 obtain⟨l,hl⟩:∃u,limOk n=u:=⟨_,rfl⟩
 have k1:=hide (fun W (hg:Grew w W)=>v7List_v fs A c u W (hr.up hg) hc hu)
 have k2:=hide (fun W (hg:Grew w W)=>v7List_v gs A' c' v W (hr'.up hg) hc' hv)
 have k3:=hide (fun W=>n13Limit_v n l W hl)
 unfold askedOf at h
 rw[hu,hv,hl] at h
 clear hu hv hl hr hr'
 have hcase:(u=false∧r=false)∨(u=true∧v=false∧r=false)∨(u=true∧v=true∧l=r):=by
  rw[←h]
  cases u<;>cases v<;>simp
 clear h
 rcases hcase with⟨rfl,rfl⟩|⟨rfl,rfl,rfl⟩|⟨rfl,rfl,rfl⟩
 all_goals
  go_enter Tryz.func34,Tryz.ntmps34
  go_wp2_with (first|((go_at_call 45;first|with_reducible refine (k1.out _ gw).mono ?_|with_reducible refine (k2.out _ gw).mono ?_);rintro e w' ⟨rfl,⟨_,_⟩,rfl⟩;dsimp only)|(go_at_call 46;with_reducible refine crv (k3.out _) fun _ _=>?_;dsimp only))
  go_ret
  exact Ret.mk' rfl gw
theorem met_stand {f g:FV}(hf:FValid f=true)(hg:FValid g=true):metB f g=standB f g:=by
 unfold metB standsOf
 rw[if_pos (by rw[hf,hg];rfl)]
 rfl
/-- A block that holds a feature. -/
def FB (W:World)(b:Nat)(f:FV):Prop:=W.heap[b]?=some (.cells #[.int .i64 f.id,.int .i64 f.kind,.int .i64 f.x,.int .i64 f.y,.int .i64 f.rad,.slice f.aA f.area.length f.ac,.int .i64 f.dep,.int .i64 f.sym,.slice f.sA f.secs.length f.sc] 54 (0,0))
theorem FB.up {W W':World}{b:Nat}{f:FV}(h:FB W b f)(g:Grew W W'):FB W' b f:=(g.heap (blk_lt h)).trans h
theorem FB.at {W:World}{b:Nat}{f:FV}(h:FB W b f):FAt W b 0 f:=⟨blk_cell h 0,blk_cell h 1,blk_cell h 2,blk_cell h 3,blk_cell h 4,blk_cell h 5,blk_cell h 6,blk_cell h 7,blk_cell h 8⟩
theorem FB.lt {W:World}{b:Nat}{f:FV}(h:FB W b f):b<W.heap.size:=blk_lt h
theorem by_first {f:FV}{gs:List FV}{m:Nat}(hm:m<gs.length)(h:metB f (fAt gs m)=true)(hall:∀j,j<m→metB f (fAt gs j)=false):byOf f gs=(fAt gs m).id:=by
 unfold byOf
 rw[find_at hm h hall]
theorem n13Best_v (f:FV)(gs:List FV)(A:Option Addr)(c:Nat)(r:Int)(w:World)(hf:f.rd w w.heap.size)(hr:FRd w w.heap.size A gs)(hc:gs.length≤100000000000000)(vf:FValid f=true)(vg:∀g,g∈gs→FValid g=true)(h:byOf f gs=r) :
  Calls Tryz.prog 40 #[f.val,.slice A gs.length c] w (Ret w (.int .i64 r)):=by
 have hm:=hmix
 have HR:=hide hr
 have HV:=hide vg
 have HH:=hide h
 have kf:=hide (fun (g:FV) (b:Bool) (hg:g∈gs) (h:metB f g=b) W (hw:Grew w W)=>v7For_v f g b W (hf.up hw) ((hr.each g hg).up hw) vf (vg g hg) ((met_stand vf (vg g hg)).symm.trans h))
 clear hr vg h hf vf
 obtain⟨fv,hfv⟩:∃x,x=f:=⟨_,rfl⟩
 rw[←hfv] at kf
 have HFV:=hide hfv
 clear hfv
 obtain⟨id,kind,x,y,rad,aA,ac,area,dep,sym,sA,sc,secs⟩:=f
 go_enter Tryz.func40,Tryz.ntmps40
 go_wp2_with fail
 refine wp_name ?_
 intro W0 hW
 have HG0:Hid (Grew w W0):=hide (by rw[←hW];exact gw)
 have HB0:Hid (FB W0 w.heap.size fv):=hide (by rw[HFV.out,←hW];exact heap_alloc_at _ _ _ (by simp))
 clear hW
 go_loopw [5] (fun i wr=>∃m:Nat,m≤gs.length∧i=.int .i64 m∧Grew W0 wr∧AppG (∀j,j<m→metB fv (fAt gs j)=false)) (fun i _=>gs.length-(intOf i).toNat)
 case atStart=>exact⟨0,by omega,rfl,gw,fun j hj=>by omega⟩
 case round =>
  obtain⟨m,hmm,rfl,hg,hall⟩:=hrel
  have HG:=hide hg
  have HA:=hide hall.stop
  have zf:=(HB0.out.up hg).at
  have zl:=(HB0.out.up hg).lt
  obtain⟨d0,d1,d2,d3,d4,d5,d6,d7,d8⟩:=zf
  clear hg hall
  by_cases hlt:m<gs.length
  ·obtain⟨b1,off1,hA1,hb1,fx⟩:=featAt (HR.out.up (HG0.out.trans HG.out)) hlt
   have hix1:=idx_run (cap:=c) Tryz.underlying22 Tryz.sizeOf54 hA1.out hlt
   obtain⟨o,ho⟩:∃o,metB fv (fAt gs m)=o:=⟨_,rfl⟩
   have kh:=hide (kf.out _ o (fAt_mem hlt) ho)
   have HO:=hide ho
   have hby:o=true→byOf fv gs=(fAt gs m).id:=fun e=>by_first hlt (by rw[HO.out,e]) HA.out
   obtain⟨z,hz⟩:∃z,fAt gs m=z:=⟨_,rfl⟩
   rw[hz] at kh fx hby
   obtain⟨c0,c1,c2,c3,c4,c5,c6,c7,c8⟩:=fx
   obtain⟨id',kind',x',y',rad',aA',ac',area',dep',sym',sA',sc',secs'⟩:=z
   have hr2:byOf fv gs=r:=by rw[HFV.out];exact HH.out
   have HBY:=hide (fun e=>hr2.symm.trans (hby e))
   have hfv2:=HFV.out
   rw[hfv2] at kh d0 d1 d2 d3 d4 d5 d6 d7 d8
   dsimp only[Nat.zero_add] at *
   clear hA1 ho hz hby hr2 hfv2
   cases o
   ·go_wp2_with fail
    refine wp_region_qas 6 [] [] hm (h:=?_)
    repeat (refine wpSteady_step (fun K hK=>?_);go_simp;first|(refine hK _ ?_;clear hK K)|(apply Exists.intro;refine⟨fun _=>?_,hK _ ?_⟩;((go_at_call 37;with_reducible exact kh.out _ (HG0.out.trans (HG.out.trans gw))));clear hK K))
    refine rq0 fun nq osq=>?_
    try simp only[Act.put,setA]
    try dsimp only
    go_wp2_with fail
    go_roundw
    case rel =>
     refine⟨m+1,by omega,by go_num,HG.out.trans gw,show ∀j,_ from fun j hj=>?_⟩
     by_cases e:j=m
     ·rw[e];exact HO.out
     ·exact HA.out j (by omega)
    case measure=>simp[intOf];omega
   ·have e:=HBY.out rfl
    go_wp2_with fail
    refine wp_region_qas 6 [] [] hm (h:=?_)
    repeat (refine wpSteady_step (fun K hK=>?_);go_simp;first|(refine hK _ ?_;clear hK K)|(apply Exists.intro;refine⟨fun _=>?_,hK _ ?_⟩;((go_at_call 37;with_reducible exact kh.out _ (HG0.out.trans (HG.out.trans gw))));clear hK K))
    refine rq0 fun nq osq=>?_
    try simp only[Act.put,setA]
    try dsimp only
    go_wp2_with fail
    go_ret
    subst e
    exact Ret.mk' rfl (HG0.out.trans (HG.out.trans gw))
  ·obtain rfl:m=gs.length:=by omega
   have e:r=0:=by
    rw[←HH.out]
    have:=HFV.out
    rw[←this]
    refine byOf_none fun g hg=>?_
    obtain⟨j,hj,rfl⟩:=List.getElem_of_mem hg
    have:=HA.out j hj
    rwa [show fAt gs j=gs[j] by unfold fAt;simp[hj]] at this
   subst e
   go_wp2_with fail
   go_ret
   exact Ret.mk' rfl (HG0.out.trans (HG.out.trans gw))
theorem n13find_at {x:Int}:∀ {fs:List FV} {k:Nat},k<fs.length→(fAt fs k).id=x→(∀j,j<k→(fAt fs j).id≠x)→findF fs x=some (fAt fs k)
 | [],_,hk,_,_=>by simp at hk
 | f::l,0,_,h,_=>by
  unfold findF
  have:decide (f.id=x)=true:=decide_eq_true h
  rw[List.find?_cons_of_pos (p:=fun f:FV=>decide (f.id=x)) this]
  rfl
 | f::l,k+1,hk,h,hall=>by
  have h0:decide (f.id=x)=false:=decide_eq_false (hall 0 (by omega))
  unfold findF
  rw[List.find?_cons_of_neg (p:=fun f:FV=>decide (f.id=x)) (by rw[h0];simp)]
  exact n13find_at (fs:=l) (k:=k) (by simpa using hk) h fun j hj=>hall (j+1) (by omega)
theorem n13find_none {fs:List FV}{x:Int}(hall:∀j,j<fs.length→(fAt fs j).id≠x):findF fs x=none:=by
 unfold findF
 rw[List.find?_eq_none]
 intro f hf
 obtain⟨j,hj,rfl⟩:=List.getElem_of_mem hf
 have:=hall j hj
 rw[show fAt fs j=fs[j] by unfold fAt;simp[hj]] at this
 simpa using this
theorem n13first {ps:List Pt}{k j:Nat}(h:proofsTo ps k=true)(hj:j<k):0<(cor ps j).1:=by
 unfold proofsTo at h
 rw[List.all_eq_true] at h
 induction j with
 | zero =>
  have:=h 0 (List.mem_range.2 hj)
  unfold proofOk lastFrom at this
  rw[decide_eq_true_eq,if_pos rfl] at this
  omega
 | succ j ih =>
  have h1:=ih (by omega)
  have:=h (j+1) (List.mem_range.2 hj)
  unfold proofOk lastFrom at this
  rw[decide_eq_true_eq,if_neg (by omega),Nat.add_sub_cancel] at this
  omega
theorem n13Find_v (fs:List FV)(A:Option Addr)(c:Nat)(x:Int)(w:World)(hr:FRd w w.heap.size A fs)(hc:fs.length≤100000000000000) :
  Calls Tryz.prog 36 #[.slice A fs.length c,.int .i64 x] w fun e w'=>((∃k:Nat,k<fs.length∧e=.returned (.int .i64 k)∧findF fs x=some (fAt fs k))∨(e=.returned (.int .i64 (-1))∧findF fs x=none))∧Grew w w':=by
 have hm:=hmix
 have HR:=hide hr
 clear hr
 go_enter Tryz.func36,Tryz.ntmps36
 go_wp2_with fail
 go_loopw [5] (fun i wr=>∃m:Nat,m≤fs.length∧i=.int .i64 m∧Grew w wr∧AppG (∀j,j<m→(fAt fs j).id≠x)) (fun i _=>fs.length-(intOf i).toNat)
 case atStart=>exact⟨0,by omega,rfl,gw,fun j hj=>by omega⟩
 case round =>
  obtain⟨m,hmm,rfl,hg,hall⟩:=hrel
  have HG:=hide hg
  have HA:=hide hall.stop
  clear hg hall
  by_cases hlt:m<fs.length
  ·obtain⟨b1,off1,hA1,hb1,fx⟩:=featAt (HR.out.up HG.out) hlt
   have hix1:=idx_run (cap:=c) Tryz.underlying22 Tryz.sizeOf54 hA1.out hlt
   have c0:=fx.c0
   clear fx hA1
   by_cases e:(fAt fs m).id=x
   ·have hf:=n13find_at hlt e HA.out
    have HF:=hide hf
    clear hf
    rw[e] at c0
    clear e
    go_wp2_with fail
    go_ret
    exact⟨.inl ⟨m,hlt,rfl,HF.out⟩,HG.out.trans gw⟩
   ·have e2:((fAt fs m).id==x)=false:=by simpa using e
    have HE:=hide e
    clear e
    obtain⟨y,hy⟩:∃y,(fAt fs m).id=y:=⟨_,rfl⟩
    rw[hy] at c0 e2 HE
    have HY:=hide hy
    clear hy
    go_wp2_with fail
    go_roundw
    case rel =>
     refine⟨m+1,by omega,by go_num,HG.out.trans gw,show ∀j,_ from fun j hj=>?_⟩
     by_cases e:j=m
     ·rw[e,HY.out];exact HE.out
     ·exact HA.out j (by omega)
    case measure=>simp[intOf];omega
  ·obtain rfl:m=fs.length:=by omega
   have hf:=n13find_none HA.out
   have HF:=hide hf
   clear hf
   go_wp2_with fail
   go_ret
   exact⟨.inr ⟨rfl,HF.out⟩,HG.out.trans gw⟩
theorem pfind_gen {x:Int}:∀ {ps:List Pt} {k:Nat} {p:Pt},ps[k]?=some p→p.1=x→(∀ (j:Nat) (q:Pt),j<k→ps[j]?=some q→q.1≠x)→ps.find? (fun q=>decide (q.1=x))=some p
 | [],_,_,h,_,_=>by simp at h
 | a::l,0,p,h,hp,_=>by
  simp at h
  subst h
  have:decide (a.1=x)=true:=decide_eq_true hp
  rw[List.find?_cons_of_pos (p:=fun q:Pt=>decide (q.1=x)) this]
 | a::l,k+1,p,h,hp,hall=>by
  have h0:decide (a.1=x)=false:=decide_eq_false (hall 0 a (by omega) rfl)
  rw[List.find?_cons_of_neg (p:=fun q:Pt=>decide (q.1=x)) (by rw[h0];simp)]
  exact pfind_gen (ps:=l) (k:=k) (by simpa using h) hp fun j q hj hq=>hall (j+1) q (by omega) (by simpa using hq)
theorem pfind_at {ps:List Pt}{k:Nat}{x:Int}(hk:k<ps.length)(h:(cor ps k).1=x)(hall:∀j,j<k→(cor ps j).1≠x):ps.find? (fun q=>decide (q.1=x))=some (cor ps k) :=
 pfind_gen (cor_get hk) h fun j q hj hq=>by
  have:=hall j hj
  rwa [show cor ps j=q from Option.some.inj ((cor_get (show j<ps.length by omega)).symm.trans hq)] at this
theorem pfind_none {ps:List Pt}{x:Int}(hall:∀j,j<ps.length→(cor ps j).1≠x):ps.find? (fun q=>decide (q.1=x))=none:=by
 rw[List.find?_eq_none]
 intro q hq
 obtain⟨j,hj,rfl⟩:=List.getElem_of_mem hq
 have:=hall j hj
 have e:cor ps j=ps[j]:=Option.some.inj ((cor_get hj).symm.trans (List.getElem?_eq_getElem hj))
 rw[e] at this
 simpa using this
theorem n13From_v (ps:List Pt)(A:Option Addr)(c:Nat)(x:Int)(w:World)(hr:Rd w w.heap.size 2 A (ps.map encD))(hc:ps.length≤100000000000000) :
  Calls Tryz.prog 38 #[.slice A ps.length c,.int .i64 x] w fun e w'=>((∃k:Nat,k<ps.length∧e=.returned (.int .i64 k)∧ps.find? (fun q=>decide (q.1=x))=some (cor ps k))∨(e=.returned (.int .i64 (-1))∧ps.find? (fun q=>decide (q.1=x))=none))∧Grew w w':=by
 have hm:=hmix
 have HR:=hide hr
 clear hr
 go_enter Tryz.func38,Tryz.ntmps38
 go_wp2_with fail
 go_loopw [5] (fun i wr=>∃m:Nat,m≤ps.length∧i=.int .i64 m∧Grew w wr∧AppG (∀j,j<m→(cor ps j).1≠x)) (fun i _=>ps.length-(intOf i).toNat)
 case atStart=>exact⟨0,by omega,rfl,gw,fun j hj=>by omega⟩
 case round =>
  obtain⟨m,hmm,rfl,hg,hall⟩:=hrel
  have HG:=hide hg
  have HA:=hide hall.stop
  clear hg hall
  by_cases hlt:m<ps.length
  ·obtain⟨b1,off1,hA1,hb1,c0,c1⟩:=ptAt (HR.out.up HG.out) (cor_get hlt)
   have hix1:=idx_run (cap:=c) Tryz.underlying24 Tryz.sizeOf50 hA1.out hlt
   clear hA1 c1
   by_cases e:(cor ps m).1=x
   ·have hf:=pfind_at hlt e HA.out
    have HF:=hide hf
    clear hf
    rw[e] at c0
    clear e
    go_wp2_with fail
    go_ret
    exact⟨.inl ⟨m,hlt,rfl,HF.out⟩,HG.out.trans gw⟩
   ·have e2:((cor ps m).1==x)=false:=by simpa using e
    have HE:=hide e
    clear e
    obtain⟨y,hy⟩:∃y,(cor ps m).1=y:=⟨_,rfl⟩
    rw[hy] at c0 e2 HE
    have HY:=hide hy
    clear hy
    go_wp2_with fail
    go_roundw
    case rel =>
     refine⟨m+1,by omega,by go_num,HG.out.trans gw,show ∀j,_ from fun j hj=>?_⟩
     by_cases e:j=m
     ·rw[e,HY.out];exact HE.out
     ·exact HA.out j (by omega)
    case measure=>simp[intOf];omega
  ·obtain rfl:m=ps.length:=by omega
   have hf:=pfind_none HA.out
   have HF:=hide hf
   clear hf
   go_wp2_with fail
   go_ret
   exact⟨.inr ⟨rfl,HF.out⟩,HG.out.trans gw⟩
theorem n13InOrder_v (ps:List Pt)(A:Option Addr)(c:Nat)(r:Bool)(w:World)(hr:Rd w w.heap.size 2 A (ps.map encD))(hc:ps.length≤100000000000000)(h:orderedOf ps=r) :
  Calls Tryz.prog 35 #[.slice A ps.length c] w (Ret w (.bool r)):=by
 have hm:=hmix
 have HH:=hide h
 have HR:=hide hr
 clear h hr
 go_enter Tryz.func35,Tryz.ntmps35
 go_wp2_with fail
 go_loopw [3] (fun i wr=>∃k:Nat,k≤ps.length∧i=.int .i64 k∧Grew w wr∧AppG (proofsTo ps k=true)) (fun i _=>ps.length-(intOf i).toNat)
 case atStart=>exact⟨0,by omega,rfl,gw,rfl⟩
 case round =>
  obtain⟨k,hk,rfl,hg,hall⟩:=hrel
  have HG:=hide hg
  have HA:=hide hall.stop
  clear hg hall
  by_cases hlt:k<ps.length
  ·obtain⟨b,off,hA,hb,c0,c1⟩:=ptAt (HR.out.up HG.out) (cor_get hlt)
   have hix:=idx_run (cap:=c) Tryz.underlying24 Tryz.sizeOf50 hA.out hlt
   have hst:=proofsTo_succ HA.out
   unfold proofOk at hst
   have hl0:0≤lastFrom ps k:=by
    unfold lastFrom
    by_cases h0:k=0
    ·rw[if_pos h0];omega
    ·rw[if_neg h0]
     have:=n13first HA.out (show k-1<k by omega)
     omega
   obtain⟨l,hl⟩:∃l,lastFrom ps k=l:=⟨_,rfl⟩
   have hno:¬ (l<(cor ps k).1∧(cor ps k).1≤100000∧1≤(cor ps k).2∧(cor ps k).2≤100000)→r=false:=fun e=>by
    rw[←HH.out]
    exact proofsTo_no hlt (by unfold proofOk;rw[hl];exact decide_eq_false e)
   rw[hl] at hst hl0
   have HST:=hide hst
   have HNO:=hide hno
   clear hst hno
   by_cases hk0:k=0
   ·have hl1:l=0:=by rw[←hl];unfold lastFrom;rw[if_pos hk0]
    have nk:¬ 0<k:=by omega
    have nk2:=decide_eq_false nk
    clear hl hk0 hA
    generalize cor ps k=p at *
    obtain⟨p1,p2⟩:=p
    dsimp only at *
    have hcase:(1≤p1∧p1≤100000∧1≤p2∧p2≤100000)∨p1<1∨(¬ p1<1∧100000<p1)∨(¬ p1<1∧¬ 100000<p1∧p2<1)∨(¬ p1<1∧¬ 100000<p1∧¬ p2<1∧100000<p2):=by omega
    rcases hcase with⟨h1,h2,h3,h4⟩|h1|⟨h1,h2⟩|⟨h1,h2,h3⟩|⟨h1,h2,h3,h4⟩
    ·have n1:¬ p1<1:=by omega
     have n2:¬ 100000<p1:=by omega
     have n3:¬ p2<1:=by omega
     have n4:¬ 100000<p2:=by omega
     have HU:=hide (show proofsTo ps (k+1)=true by rw[HST.out,decide_eq_true_eq];omega)
     go_wp2_with fail
     refine wp_region_qas 33 [] [] hm (h:=?_)
     repeat (refine wpSteady_step (fun K hK=>?_);go_simp;refine hK _ ?_;clear hK K)
     refine rq0 fun nq osq=>?_
     try simp only[Act.put,setA]
     try dsimp only
     go_wp2_with fail
     go_roundw
     case rel=>exact⟨k+1,by omega,by go_num,HG.out.trans gw,HU.out⟩
     case measure=>simp[intOf];omega
    all_goals
     have HRF:=hide (HNO.out (by omega))
     go_wp2_with fail
     refine wp_region_qas 33 [] [] hm (h:=?_)
     repeat (refine wpSteady_step (fun K hK=>?_);go_simp;refine hK _ ?_;clear hK K)
     refine rq0 fun nq osq=>?_
     try simp only[Act.put,setA]
     try dsimp only
     go_wp2_with fail
     go_ret
     exact Ret.mk' (by rw[HRF.out];rfl) (HG.out.trans gw)
   ·have nk:0<k:=by omega
    have nk2:=decide_eq_true nk
    have hl1:(cor ps (k-1)).1=l:=by rw[←hl];unfold lastFrom;rw[if_neg hk0]
    obtain⟨b',off',hA',hb',d0,d1⟩:=ptAt (HR.out.up HG.out) (cor_get (k:=k-1) (show k-1<ps.length by omega))
    rw[hl1] at d0
    have hix2:=idx_run (cap:=c) (k:=k-1) (len:=ps.length) Tryz.underlying24 Tryz.sizeOf50 hA'.out (by omega)
    rw[show ((k-1:Nat):Int)=(k:Int)-1 by omega] at hix2
    have ewk:IntKind.i64.wrap ((k:Int)-1)=(k:Int)-1:=by unfold IntKind.wrap;simp[IntKind.bits,IntKind.signed];omega
    clear hl hl1 hk0 hA hA' d1
    generalize cor ps k=p at *
    obtain⟨p1,p2⟩:=p
    dsimp only at *
    have hcase:(l<p1∧1≤p1∧p1≤100000∧1≤p2∧p2≤100000)∨p1<1∨(¬ p1<1∧100000<p1)∨(¬ p1<1∧¬ 100000<p1∧p2<1)∨(¬ p1<1∧¬ 100000<p1∧¬ p2<1∧100000<p2)∨(¬ p1<1∧¬ 100000<p1∧¬ p2<1∧¬ 100000<p2∧p1≤l):=by omega
    rcases hcase with⟨h0,h1,h2,h3,h4⟩|h1|⟨h1,h2⟩|⟨h1,h2,h3⟩|⟨h1,h2,h3,h4⟩|⟨h1,h2,h3,h4,h5⟩
    ·have n1:¬ p1<1:=by omega
     have n2:¬ 100000<p1:=by omega
     have n3:¬ p2<1:=by omega
     have n4:¬ 100000<p2:=by omega
     have n5:¬ p1≤l:=by omega
     have HU:=hide (show proofsTo ps (k+1)=true by rw[HST.out,decide_eq_true_eq];omega)
     go_wp2_with fail
     refine wp_region_qas 33 [] [] hm (h:=?_)
     repeat (refine wpSteady_step (fun K hK=>?_);go_simp;refine hK _ ?_;clear hK K)
     refine rq0 fun nq osq=>?_
     try simp only[Act.put,setA]
     try dsimp only
     go_wp2_with fail
     go_roundw
     case rel=>exact⟨k+1,by omega,by go_num,HG.out.trans gw,HU.out⟩
     case measure=>simp[intOf];omega
    all_goals
     have HRF:=hide (HNO.out (by omega))
     go_wp2_with fail
     refine wp_region_qas 33 [] [] hm (h:=?_)
     repeat (refine wpSteady_step (fun K hK=>?_);go_simp;refine hK _ ?_;clear hK K)
     refine rq0 fun nq osq=>?_
     try simp only[Act.put,setA]
     try dsimp only
     go_wp2_with fail
     go_ret
     exact Ret.mk' (by rw[HRF.out];rfl) (HG.out.trans gw)
  ·obtain rfl:k=ps.length:=by omega
   obtain rfl:r=true:=by rw[←HH.out];exact HA.out
   go_wp2_with fail
   go_ret
   exact Ret.mk' rfl HG.out
set_option maxHeartbeats 8000000
set_option maxRecDepth 100000
theorem n13Shown_v (fs:List FV)(A:Option Addr)(c:Nat)(n:Int)(p:Pt)(r:Int×Int)(w:World)(hr:FRd w w.heap.size A fs)(hc:fs.length≤100000000000000)(h:dshownOf fs n p=r) :
  Calls Tryz.prog 20 #[.slice A fs.length c,.int .i64 n,pt p.1 p.2] w (Ret w (.tuple #[.int .i64 r.1,.int .i64 r.2])):=by
 have hm:=hmix
 obtain⟨u,hu⟩:∃u,FList fs=u:=⟨_,rfl⟩
 obtain⟨l,hl⟩:∃u,limOk n=u:=⟨_,rfl⟩
 obtain⟨v,hv⟩:∃u,p.ok=u:=⟨_,rfl⟩
 have k1:=hide (fun W (hg:Grew w W)=>v7List_v fs A c u W (hr.up hg) hc hu)
 have k2:=hide (fun W=>p1Valid_v p.1 p.2 v W hv)
 have k3:=hide (fun W=>n13Limit_v n l W hl)
 have k4:=hide (fun W (hg:Grew w W)=>v7Shown_v fs A c p _ W (hr.up hg) hc rfl)
 unfold shownOf at k4
 unfold dshownOf at h
 rw[hu,hv] at k4
 rw[hu,hv,hl] at h
 clear hu hv hl hr
 generalize shownTo fs p fs.length=m at *
 obtain⟨p1,p2⟩:=p
 dsimp only at *
 have hcase:u=false∨(u=true∧l=false)∨(u=true∧l=true∧v=false)∨(u=true∧l=true∧v=true):=by cases u<;>cases l<;>cases v<;>simp
 rcases hcase with rfl|⟨rfl,rfl⟩|⟨rfl,rfl,rfl⟩|⟨rfl,rfl,rfl⟩
 ·rw[if_neg (by simp)] at h
  subst h
  go_enter Tryz.func20,Tryz.ntmps20
  go_wp2_with (first|(go_at_call 45;with_reducible refine crv (k1.out _ gw) fun _ _=>?_;dsimp only)|(go_at_call 47;with_reducible refine crv (k2.out _) fun _ _=>?_;dsimp only)|(go_at_call 46;with_reducible refine crv (k3.out _) fun _ _=>?_;dsimp only))
  go_ret2
  exact Ret.mk' rfl gw
 ·rw[if_neg (by simp)] at h
  subst h
  go_enter Tryz.func20,Tryz.ntmps20
  go_wp2_with (first|(go_at_call 45;with_reducible refine crv (k1.out _ gw) fun _ _=>?_;dsimp only)|(go_at_call 47;with_reducible refine crv (k2.out _) fun _ _=>?_;dsimp only)|(go_at_call 46;with_reducible refine crv (k3.out _) fun _ _=>?_;dsimp only))
  go_ret2
  exact Ret.mk' rfl gw
 ·rw[if_neg (by simp)] at h
  subst h
  go_enter Tryz.func20,Tryz.ntmps20
  go_wp2_with (first|(go_at_call 45;with_reducible refine crv (k1.out _ gw) fun _ _=>?_;dsimp only)|(go_at_call 47;with_reducible refine crv (k2.out _) fun _ _=>?_;dsimp only)|(go_at_call 46;with_reducible refine crv (k3.out _) fun _ _=>?_;dsimp only))
  go_ret2
  exact Ret.mk' rfl gw
 ·rw[if_pos (by rfl)] at h
  subst h
  rw[if_pos (by rfl)] at k4
  dsimp only at k4
  go_enter Tryz.func20,Tryz.ntmps20
  go_wp2_with (first|(go_at_call 45;with_reducible refine crv (k1.out _ gw) fun _ _=>?_;dsimp only)|(go_at_call 47;with_reducible refine crv (k2.out _) fun _ _=>?_;dsimp only)|(go_at_call 46;with_reducible refine crv (k3.out _) fun _ _=>?_;dsimp only)|(go_at_call 48;with_reducible refine crv (k4.out _ gw) fun _ _=>?_;dsimp only))
  all_goals go_ret2
  all_goals exact Ret.mk' (ret_tup2 (ret_int (by omega)) rfl) gw
theorem Rd.litN (w:World)(x:Int)(b:Nat)(T:TypeId)(hb:b=w.heap.size):Rd (w.alloc (.cells #[.int .i64 x] T)) (w.heap.size+1) 1 (some ⟨b,0,none⟩) ([x].map encN):=by
 have:=Rd.blkA encN_len (W:=w.alloc (.cells #[.int .i64 x] T)) [x] (heap_alloc_at _ _ b hb) rfl
 rwa [World.size_alloc'] at this
theorem n13in_one (ss:List Int):∀u∈ss.flatMap encN,u.oneCell'=true:=by
 intro u hu
 obtain⟨s,_,hs⟩:=List.mem_flatMap.1 hu
 simp[encN] at hs
 rcases hs with rfl
 rfl
theorem unp_at {fs gs:List FV}{lim:Int}{k:Nat}(hk:k<fs.length)(hc:countB (fAt fs k) lim=true)(hb:byOf (fAt fs k) gs=0):unpS fs gs (countsTo fs lim fs.length)≠[]:=by
 unfold unpS
 intro h
 rw[List.map_eq_nil_iff,List.filter_eq_nil_iff] at h
 have:=h k (by unfold countsTo;rw[List.mem_filter];exact⟨List.mem_range.2 hk,hc⟩)
 rw[decide_eq_true_eq] at this
 exact this hb
theorem n13Unproved_v (fs gs:List FV)(A A':Option Addr)(c c':Nat)(lim:Int)(w:World)(hr:FRd w w.heap.size A fs)(hr':FRd w w.heap.size A' gs)(hc:fs.length≤100000000000)(hc':gs.length≤100000000000) :
  Calls Tryz.prog 13 #[.slice A fs.length c,.slice A' gs.length c',.int .i64 lim] w (IntsR w (unprovedOf fs gs lim)):=by
 have hm:=hmix
 obtain⟨u,hu⟩:∃u,askedOf fs gs lim=u:=⟨_,rfl⟩
 have k1:=hide (fun W (hg:Grew w W)=>n13Asked_v fs gs A A' c c' lim u W (hr.up hg) (hr'.up hg) (by omega) (by omega) hu)
 have HR:=hide hr
 have HR':=hide hr'
 unfold unprovedOf
 rw[hu]
 cases u
 ·rw[if_neg (by simp)]
  clear hu hr hr'
  go_enter Tryz.func13,Tryz.ntmps13
  go_wp2_with (go_at_call 34;with_reducible refine crv (k1.out _ gw) fun _ _=>?_;dsimp only)
  go_ret2
  exact⟨none,0,rfl,Rd.nil _ _ _ _,gw⟩
 ·rw[if_pos rfl]
  obtain⟨hf,hg,_⟩:=asked_split hu
  have HVF:=hide (fun f (h:f∈fs)=>list_valid7 hf f h)
  have HVG:=hide (fun f (h:f∈gs)=>list_valid7 hg f h)
  clear hu hr hr' hf hg
  obtain⟨i0,hi,hz0,hz1,hz2⟩:=inInfo_parts
  go_enter Tryz.func13,Tryz.ntmps13
  go_wp2_with fail
  refine (k1.out _ gw).mono ?_
  rintro e w1 ⟨rfl,hg1⟩
  have HG1:Hid (Grew w w1):=hide (Grew.trans gw hg1)
  clear hg1 k1
  dsimp only
  go_wp2_with fail
  go_loopw [8,9] (fun ov i wr=>∃k:Nat,k≤fs.length∧i=.int .i64 k∧Grew w1 wr∧wr.ownsRow w1.heap.size 3 1 ov (unpS fs gs (countsTo fs lim k)).length ((unpS fs gs (countsTo fs lim k)).flatMap encN)) (fun _ i _=>fs.length-(intOf i).toNat)
  case atStart=>exact⟨0,by omega,rfl,gw,World.ownsRow_nil _ _ _ _⟩
  case round =>
   obtain⟨k,hk,rfl,hg,hown⟩:=hrel
   have HG:=hide hg
   have HO:=hide hown
   have hal:=unpS_len fs gs (countsTo fs lim k)
   have hcl:=countsTo_len fs lim k
   clear hg hown
   by_cases hlt:k<fs.length
   ·obtain⟨b,off,hA,hb,fx⟩:=featAt (HR.out.up (HG1.out.trans HG.out)) hlt
    have hix:=idx_run (cap:=c) Tryz.underlying22 Tryz.sizeOf54 hA.out hlt
    obtain⟨cb,hcb⟩:∃o,countB (fAt fs k) lim=o:=⟨_,rfl⟩
    obtain⟨by',hby⟩:∃o,byOf (fAt fs k) gs=o:=⟨_,rfl⟩
    have kc:=hide (fun W=>n13Counts_v lim (fAt fs k) cb W hcb)
    have kb:=hide (fun W (hg:Grew w W)=>n13Best_v (fAt fs k) gs A' c' by' W ((HR.out.each _ (fAt_mem hlt)).up hg) (HR'.out.up hg) (by omega) (HVF.out _ (fAt_mem hlt)) HVG.out hby)
    have hst:cb=true→by'=0→unpS fs gs (countsTo fs lim (k+1))=unpS fs gs (countsTo fs lim k)++[(fAt fs k).id]:=fun e e'=>by
     rw[countsTo_yes (by rw[hcb,e]),unpS_snoc,if_pos (by rw[hby,e'])]
    have hst2:cb=false∨by'≠0→unpS fs gs (countsTo fs lim (k+1))=unpS fs gs (countsTo fs lim k):=fun e=>by
     cases cb
     ·rw[countsTo_no hcb]
     ·rw[countsTo_yes hcb,unpS_snoc,if_neg (by rw[hby];exact e.resolve_left (by simp))]
    obtain⟨L,hL⟩:∃L,unpS fs gs (countsTo fs lim k)=L:=⟨_,rfl⟩
    rw[hL] at hal HO hst hst2
    obtain⟨x,hx⟩:∃x,fAt fs k=x:=⟨_,rfl⟩
    rw[hx] at kc kb fx hst
    have HST:=hide hst
    have HST2:=hide hst2
    obtain⟨c0,c1,c2,c3,c4,c5,c6,c7,c8⟩:=fx
    obtain⟨id,kind,x',y,rad,aA,ac,area,dep,sym,sA,sc,secs⟩:=x
    dsimp only at *
    clear hA hcb hby hst hst2 hL hx
    cases cb
    ·go_wp2_with (go_at_call 28;with_reducible refine crv (kc.out _) fun _ _=>?_;dsimp only)
     go_roundw
     case rel=>exact⟨k+1,by omega,by go_num,HG.out.trans gw,by rw[HST2.out (.inl rfl)];exact fown_grew HO.out gw⟩
     case measure=>simp[intOf];omega
    ·by_cases h0:by'=0
     ·subst h0
      have HS:=hide (HST.out rfl rfl)
      clear HST HST2
      go_wp2_with (first|(go_at_call 28;with_reducible refine crv (kc.out _) fun _ _=>?_;dsimp only)|(go_at_call 40;with_reducible refine crv (kb.out _ (HG1.out.trans (HG.out.trans gw))) fun _ _=>?_;dsimp only)|(at_builtin;refine AppG3.stop ?_))
      refine AppG3.go ?_
      refine wpList_append_any _ rfl (.tmp 36) (.tmp 42) _ rfl w1.heap.size 3 i0 _ 1 8 Tryz.underlying36 hi hz0 hz1 hz2 rfl (by omega) _ L.length (L.flatMap encN) rfl (fown_grew HO.out gw) _ (some ⟨_,0,none⟩) 1 1 ([id].flatMap encN) rfl ((Rd.litN _ id _ _ (by first|rfl|simp[hs_dr])).reads encN_len (by omega)) (n13in_one _) (by simp only[maxLen];omega) (by omega) (by have:=HG.out.below.size;simp[hs_dr];omega) ?_
      intro v' w1' hown1 hg1 _
      have HO1:=hide hown1
      have HG1':Hid (Grew w1 w1'):=hide (ggrown (HG.out.trans gw) (fown_grew HO.out gw) (Nat.le_refl _) hg1)
      clear hown1 hg1
      go_wp2_with fail
      go_roundw
      case rel=>exact⟨k+1,by omega,by go_num,HG1'.out,by rw[HS.out,List.length_append,List.flatMap_append];exact HO1.out⟩
      case measure=>simp[intOf];omega
     ·have n1:(by'==0)=false:=by simpa using h0
      have HS:=hide (HST2.out (.inr h0))
      clear HST HST2
      go_wp2_with (first|(go_at_call 28;with_reducible refine crv (kc.out _) fun _ _=>?_;dsimp only)|(go_at_call 40;with_reducible refine crv (kb.out _ (HG1.out.trans (HG.out.trans gw))) fun _ _=>?_;dsimp only))
      go_roundw
      case rel=>exact⟨k+1,by omega,by go_num,HG.out.trans gw,by rw[HS.out];exact fown_grew HO.out gw⟩
      case measure=>simp[intOf];omega
   ·obtain rfl:k=fs.length:=by omega
    obtain⟨Av,cv,rfl,_,hrd⟩:=Rd.of_own (f:=encN) encN_len HO.out rfl
    have HRD:=hide hrd
    clear hrd
    go_wp2_with fail
    go_ret2
    exact⟨Av,cv,rfl,HRD.out.up gw,HG1.out.trans (HG.out.trans gw)⟩
theorem n13Prove_v (fs gs:List FV)(A A':Option Addr)(c c':Nat)(lim:Int)(w:World)(hr:FRd w w.heap.size A fs)(hr':FRd w w.heap.size A' gs)(hc:fs.length≤100000000000)(hc':gs.length≤100000000000) :
  Calls Tryz.prog 16 #[.slice A fs.length c,.slice A' gs.length c',.int .i64 lim] w (ProofR w (proveOf fs gs lim)):=by
 have hm:=hmix
 obtain⟨u,hu⟩:∃u,askedOf fs gs lim=u:=⟨_,rfl⟩
 have k1:=hide (fun W (hg:Grew w W)=>n13Asked_v fs gs A A' c c' lim u W (hr.up hg) (hr'.up hg) (by omega) (by omega) hu)
 have HR:=hide hr
 have HR':=hide hr'
 obtain⟨res,hres⟩:∃r,proveOf fs gs lim=r:=⟨_,rfl⟩
 rw[hres]
 unfold proveOf at hres
 rw[hu] at hres
 cases u
 ·rw[if_neg (by simp)] at hres
  subst hres
  clear hu hr hr'
  go_enter Tryz.func16,Tryz.ntmps16
  go_wp2_with (go_at_call 34;with_reducible refine crv (k1.out _ gw) fun _ _=>?_;dsimp only)
  go_ret2
  exact⟨none,0,rfl,Rd.nil _ _ _ _,gw⟩
 ·rw[if_pos rfl] at hres
  have HRES:=hide hres
  obtain⟨hf,hg,_⟩:=asked_split hu
  have HVF:=hide (fun f (h:f∈fs)=>list_valid7 hf f h)
  have HVG:=hide (fun f (h:f∈gs)=>list_valid7 hg f h)
  clear hu hr hr' hf hg hres
  obtain⟨i0,hi,hz0,hz1,hz2⟩:=prInfo_parts
  go_enter Tryz.func16,Tryz.ntmps16
  go_wp2_with fail
  refine (k1.out _ gw).mono ?_
  rintro e w1 ⟨rfl,hg1⟩
  have HG1:Hid (Grew w w1):=hide (Grew.trans gw hg1)
  clear hg1 k1
  dsimp only
  go_wp2_with fail
  go_loopw [8,9] (fun ov i wr=>∃k:Nat,k≤fs.length∧i=.int .i64 k∧Grew w1 wr∧AppG (∀i,i∈countsTo fs lim k→byOf (fAt fs i) gs≠0)∧wr.ownsRow w1.heap.size 50 2 ov (prvS fs gs (countsTo fs lim k)).length ((prvS fs gs (countsTo fs lim k)).flatMap encD)) (fun _ i _=>fs.length-(intOf i).toNat)
  case atStart=>exact⟨0,by omega,rfl,gw,fun i hi=>by simp[countsTo] at hi,World.ownsRow_nil _ _ _ _⟩
  case round =>
   obtain⟨k,hk,rfl,hg,hall,hown⟩:=hrel
   have HG:=hide hg
   have HO:=hide hown
   have HA:=hide hall.stop
   have hal:(prvS fs gs (countsTo fs lim k)).length≤k:=by unfold prvS;rw[List.length_map];exact countsTo_len fs lim k
   clear hg hown hall
   by_cases hlt:k<fs.length
   ·obtain⟨b,off,hA,hb,fx⟩:=featAt (HR.out.up (HG1.out.trans HG.out)) hlt
    have hix:=idx_run (cap:=c) Tryz.underlying22 Tryz.sizeOf54 hA.out hlt
    obtain⟨cb,hcb⟩:∃o,countB (fAt fs k) lim=o:=⟨_,rfl⟩
    obtain⟨by',hby⟩:∃o,byOf (fAt fs k) gs=o:=⟨_,rfl⟩
    have kc:=hide (fun W=>n13Counts_v lim (fAt fs k) cb W hcb)
    have kb:=hide (fun W (hg:Grew w W)=>n13Best_v (fAt fs k) gs A' c' by' W ((HR.out.each _ (fAt_mem hlt)).up hg) (HR'.out.up hg) (by omega) (HVF.out _ (fAt_mem hlt)) HVG.out hby)
    have hst:cb=true→prvS fs gs (countsTo fs lim (k+1))=prvS fs gs (countsTo fs lim k)++[((fAt fs k).id,by')]:=fun e=>by
     rw[countsTo_yes (by rw[hcb,e]),prvS_snoc,hby]
    have hst2:cb=false→prvS fs gs (countsTo fs lim (k+1))=prvS fs gs (countsTo fs lim k):=fun e=>by
     rw[countsTo_no (by rw[hcb,e])]
    have ha1:cb=true→by'≠0→∀i,i∈countsTo fs lim (k+1)→byOf (fAt fs i) gs≠0:=fun e e' i hi=>by
     rw[countsTo_yes (by rw[hcb,e])] at hi
     rcases List.mem_append.1 hi with h|h
     ·exact HA.out i h
     ·rw[List.mem_singleton.1 h,hby];exact e'
    have ha2:cb=false→∀i,i∈countsTo fs lim (k+1)→byOf (fAt fs i) gs≠0:=fun e i hi=>by
     rw[countsTo_no (by rw[hcb,e])] at hi
     exact HA.out i hi
    have hbad:cb=true→by'=0→res=([],19):=fun e e'=>by
     rw[←HRES.out,if_neg (unp_at hlt (by rw[hcb,e]) (by rw[hby,e']))]
    obtain⟨L,hL⟩:∃L,prvS fs gs (countsTo fs lim k)=L:=⟨_,rfl⟩
    rw[hL] at hal HO hst hst2
    have HA1:=hide ha1
    have HA2:=hide ha2
    obtain⟨x,hx⟩:∃x,fAt fs k=x:=⟨_,rfl⟩
    rw[hx] at kc kb fx hst
    have HST:=hide hst
    have HST2:=hide hst2
    have HBAD:=hide hbad
    obtain⟨c0,c1,c2,c3,c4,c5,c6,c7,c8⟩:=fx
    obtain⟨id,kind,x',y,rad,aA,ac,area,dep,sym,sA,sc,secs⟩:=x
    dsimp only at *
    clear hA hcb hby hst hst2 hL hx ha1 ha2 hbad
    cases cb
    ·go_wp2_with (go_at_call 28;with_reducible refine crv (kc.out _) fun _ _=>?_;dsimp only)
     go_roundw
     case rel=>exact⟨k+1,by omega,by go_num,HG.out.trans gw,show ∀i,_ from HA2.out rfl,by rw[HST2.out rfl];exact fown_grew HO.out gw⟩
     case measure=>simp[intOf];omega
    ·by_cases h0:by'=0
     ·obtain rfl:=HBAD.out rfl h0
      subst h0
      clear HST HST2 HA1 HA2 HBAD
      go_wp2_with (first|(go_at_call 28;with_reducible refine crv (kc.out _) fun _ _=>?_;dsimp only)|(go_at_call 40;with_reducible refine crv (kb.out _ (HG1.out.trans (HG.out.trans gw))) fun _ _=>?_;dsimp only))
      go_ret2
      exact⟨none,0,rfl,Rd.nil _ _ _ _,HG1.out.trans (HG.out.trans gw)⟩
     ·have n1:(by'==0)=false:=by simpa using h0
      have HS:=hide (HST.out rfl)
      have HX:=hide (HA1.out rfl h0)
      clear HST HST2 HA1 HA2 HBAD
      go_wp2_with (first|(go_at_call 28;with_reducible refine crv (kc.out _) fun _ _=>?_;dsimp only)|(go_at_call 40;with_reducible refine crv (kb.out _ (HG1.out.trans (HG.out.trans gw))) fun _ _=>?_;dsimp only)|(at_builtin;refine AppG3.stop ?_))
      refine AppG3.go ?_
      refine wpList_append_any _ rfl (.tmp 37) (.tmp 45) _ rfl w1.heap.size 50 i0 _ 2 16 Tryz.underlying24 hi hz0 hz1 hz2 rfl (by omega) _ L.length (L.flatMap encD) rfl (fown_grew HO.out gw) _ (some ⟨_,0,none⟩) 1 1 ([(id,by')].flatMap encD) rfl ((Rd.litP _ id by' _ _ (by first|rfl|simp[hs_dr])).reads encD_len (by omega)) (pr_one _) (by simp only[maxLen];omega) (by omega) (by have:=HG.out.below.size;simp[hs_dr];omega) ?_
      intro v' w1' hown1 hg1 _
      have HO1:=hide hown1
      have HG1':Hid (Grew w1 w1'):=hide (ggrown (HG.out.trans gw) (fown_grew HO.out gw) (Nat.le_refl _) hg1)
      clear hown1 hg1
      go_wp2_with fail
      go_roundw
      case rel=>exact⟨k+1,by omega,by go_num,HG1'.out,show ∀i,_ from HX.out,by rw[HS.out,List.length_append,List.flatMap_append];exact HO1.out⟩
      case measure=>simp[intOf];omega
   ·obtain rfl:k=fs.length:=by omega
    have e:res=(prvS fs gs (countsTo fs lim fs.length),0):=by rw[←HRES.out,if_pos (unp_none HA.out)]
    subst e
    obtain⟨Av,cv,rfl,_,hrd⟩:=Rd.of_own (f:=encD) encD_len HO.out rfl
    have HRD:=hide hrd
    clear hrd HRES
    go_wp2_with fail
    go_ret2
    exact⟨Av,cv,rfl,HRD.out.up gw,HG1.out.trans (HG.out.trans gw)⟩
theorem n13Again_v (ps ms:List Pt)(A A':Option Addr)(c c':Nat)(w:World)(hr:Rd w w.heap.size 2 A (ps.map encD))(hr':Rd w w.heap.size 2 A' (ms.map encD))(hc:ps.length≤100000000000000)(hc':ms.length≤100000000000000) :
  Calls Tryz.prog 18 #[.slice A ps.length c,.slice A' ms.length c'] w (ProofR w (againOf ps ms)):=by
 have hm:=hmix
 obtain⟨u,hu⟩:∃u,orderedOf ps=u:=⟨_,rfl⟩
 obtain⟨v,hv⟩:∃u,orderedOf ms=u:=⟨_,rfl⟩
 have k1:=hide (fun W (hg:Grew w W)=>n13InOrder_v ps A c u W (hr.up hg) (by omega) hu)
 have k2:=hide (fun W (hg:Grew w W)=>n13InOrder_v ms A' c' v W (hr'.up hg) (by omega) hv)
 have hao:againOf ps ms=if (u&&v)=true then (againTo ps ms ps.length,0) else ([],1):=by
  unfold againOf
  rw[hu,hv]
 rw[hao]
 have HR:=hide hr
 have HR':=hide hr'
 have hcase:u=false∨(u=true∧v=false)∨(u=true∧v=true):=by cases u<;>cases v<;>simp
 rcases hcase with rfl|⟨rfl,rfl⟩|⟨rfl,rfl⟩
 ·rw[if_neg (by simp)]
  clear hu hv hr hr' hao
  go_enter Tryz.func18,Tryz.ntmps18
  go_wp2_with (first|((go_at_call 35;first|with_reducible refine (k1.out _ gw).mono ?_|with_reducible refine (k2.out _ gw).mono ?_);rintro e w' ⟨rfl,⟨_,_⟩,rfl⟩;dsimp only))
  go_ret2
  exact⟨none,0,rfl,Rd.nil _ _ _ _,gw⟩
 ·rw[if_neg (by simp)]
  clear hu hv hr hr' hao
  go_enter Tryz.func18,Tryz.ntmps18
  go_wp2_with (first|((go_at_call 35;first|with_reducible refine (k1.out _ gw).mono ?_|with_reducible refine (k2.out _ gw).mono ?_);rintro e w' ⟨rfl,⟨_,_⟩,rfl⟩;dsimp only))
  go_ret2
  exact⟨none,0,rfl,Rd.nil _ _ _ _,gw⟩
 ·rw[if_pos (by rfl)]
  obtain⟨i0,hi,hz0,hz1,hz2⟩:=prInfo_parts
  have hpl:=ord_len hu
  have hml:=ord_len hv
  clear hu hv hr hr' hao
  go_enter Tryz.func18,Tryz.ntmps18
  go_wp2_with (first|((go_at_call 35;first|with_reducible refine (k1.out _ gw).mono ?_|with_reducible refine (k2.out _ gw).mono ?_);rintro e w' ⟨rfl,⟨_,_⟩,rfl⟩;dsimp only))
  refine wp_name ?_
  intro W0 hW
  have HG0:Hid (Grew w W0):=hide (by rw[←hW];exact gw)
  clear hW k1 k2
  go_loopw [6,7] (fun ov i wr=>∃k:Nat,k≤ps.length∧i=.int .i64 k∧Grew W0 wr∧wr.ownsRow W0.heap.size 50 2 ov (againTo ps ms k).length ((againTo ps ms k).flatMap encD)) (fun _ i _=>ps.length-(intOf i).toNat)
  case atStart=>exact⟨0,by omega,rfl,gw,World.ownsRow_nil _ _ _ _⟩
  case round =>
   obtain⟨k,hk,rfl,hg,hown⟩:=hrel
   have HQ:=hide hg
   have HO:=hide hown
   have hal:=againTo_len ps ms k
   clear hg hown
   by_cases hlt:k<ps.length
   ·obtain⟨b,off,hA,hb,h0,h1⟩:=ptAt (HR.out.up (HG0.out.trans HQ.out)) (cor_get hlt)
    have hix:=idx_run (cap:=c) Tryz.underlying24 Tryz.sizeOf50 hA.out hlt
    have hst:=againTo_succ (ms:=ms) hlt
    obtain⟨p,hp⟩:∃p,cor ps k=p:=⟨_,rfl⟩
    rw[hp] at h0 h1 hst
    obtain⟨p1,p2⟩:=p
    dsimp only at h0 h1
    obtain⟨L,hL⟩:∃L,againTo ps ms k=L:=⟨_,rfl⟩
    rw[hL] at hal HO hst
    unfold againP at hst
    dsimp only at hst
    have HST:=hide hst
    clear hA hst hp hL
    go_wp2_with fail
    refine (n13From_v ms A' c' p2 _ (HR'.out.up (HG0.out.trans (HQ.out.trans gw))) (by omega)).mono ?_
    rintro e w3 ⟨hres,hg3⟩
    have HG3:Hid (Grew W0 w3):=hide (HQ.out.trans (Grew.trans gw hg3))
    have HGq:Hid (Grew wr w3):=hide (Grew.trans gw hg3)
    clear hg3
    rcases hres with⟨j,hj,rfl,hf⟩|⟨rfl,hf⟩
    ·have hst:=HST.out
     rw[hf] at hst
     dsimp only[Option.map] at hst
     obtain⟨b2,off2,hA2,hb2,g0,g1⟩:=ptAt (HR'.out.up (HG0.out.trans HG3.out)) (cor_get hj)
     have hix2:=idx_run (cap:=c') Tryz.underlying24 Tryz.sizeOf50 hA2.out hj
     have z0:=(old_cell HGq.out _ _ (cell_lt h0)).trans h0
     have z1:=(old_cell HGq.out _ _ (cell_lt h1)).trans h1
     have zb:=Nat.lt_of_lt_of_le (cell_lt h0) HGq.out.below.size
     obtain⟨q,hq⟩:∃q,cor ms j=q:=⟨_,rfl⟩
     rw[hq] at hst g0 g1
     obtain⟨q1,q2⟩:=q
     dsimp only at hst g0 g1
     have HS:=hide hst
     clear hst hf h0 h1 hA2 hq HST
     have nj:¬ ((j:Int)<0):=by omega
     dsimp only
     go_wp2_with fail
     refine wp_region_qas 13 [] [⟨12,44,1,50,fun a=>(a.eval (Operand.tmp 43)).cells⟩] hm (h:=?_)
     repeat (refine wpSteady_step (fun K hK=>?_);go_simp;refine hK _ ?_;clear hK K)
     refine wpSteady_nil ?_
     refine⟨StOk.nil,(LyOk.cons (by rfl) (fun W=>by first|(go_simp;done)|rfl) LyOk.nil),?_⟩
     rintro psq qsq Wq HWq HFq HBq
     obtain⟨b0,_,rfl,hq0,gb0,rfl⟩:=HBq
     simp[Act.eval,Value.cells] at gb0
     have gbl0:=blk_lt gb0
     obtain rfl:psq=[]:=HFq
     simp only[putAll,putB,Act.put,setA]
     have oc:=old_cell HWq
     have of:=old_frozen HWq
     have ol:=old_lt HWq
     replace HWq:=hide HWq
     refine wpList_append_any Wq rfl (.tmp 32) (.tmp 44) 24 rfl W0.heap.size 50 i0 _ 2 16 Tryz.underlying24 hi hz0 hz1 hz2 rfl (by omega) _ L.length (L.flatMap encD) rfl (fown_grew HO.out (HGq.out.trans HWq.out)) Wq.heap.size (some ⟨b0,0,none⟩) 1 1 ([(p1,q2)].flatMap encD) rfl ((Rd.blkP [(p1,q2)] gb0 rfl).reads encD_len (by omega)) (pr_one _) (by simp only[maxLen];omega) (by omega) (Nat.le_trans HG3.out.below.size HWq.out.below.size) ?_
     intro v' w1' hown1 hg1 _
     have HO1:=hide hown1
     have HG1':Hid (Grew W0 w1'):=hide (ggrown (HG3.out.trans HWq.out) (fown_grew HO.out (HGq.out.trans HWq.out)) (Nat.le_refl _) hg1)
     clear hown1 hg1
     go_wp2_with fail
     go_roundw
     case rel=>exact⟨k+1,by omega,by go_num,HG1'.out,by rw[HS.out,List.length_append,List.flatMap_append];exact HO1.out⟩
     case measure=>simp[intOf];omega
    ·have hst:=HST.out
     rw[hf] at hst
     dsimp only[Option.map] at hst
     have HS:=hide hst
     clear hst hf HST
     dsimp only
     go_wp2_with fail
     go_roundw
     case rel=>exact⟨k+1,by omega,by go_num,HG3.out.trans gw,by rw[HS.out];exact fown_grew HO.out (HGq.out.trans gw)⟩
     case measure=>simp[intOf];omega
   ·obtain rfl:k=ps.length:=by omega
    obtain⟨Av,cv,rfl,_,hrd⟩:=Rd.of_own (f:=encD) encD_len HO.out rfl
    have HRD:=hide hrd
    clear hrd
    go_wp2_with fail
    go_ret2
    exact⟨Av,cv,rfl,HRD.out.up gw,HG0.out.trans (HQ.out.trans gw)⟩
set_option maxHeartbeats 16000000
set_option maxRecDepth 100000
theorem prov_some {ps:List Pt}{x:Int}{q:Pt}(h:ps.find? (fun q=>decide (q.1=x))=some q):provedB ps x=true:=by
 unfold provedB
 rw[List.any_eq_true]
 exact⟨q,List.mem_of_find?_eq_some h,List.find?_some (p:=fun q:Pt=>decide (q.1=x)) h⟩
theorem prov_none {ps:List Pt}{x:Int}(h:ps.find? (fun q=>decide (q.1=x))=none):provedB ps x=false:=by
 unfold provedB
 rw[List.any_eq_false]
 exact List.find?_eq_none.1 h
theorem cover_no {fs:List FV}{ps:List Pt}{lim:Int}{k:Nat}(hk:k<fs.length)(hc:countB (fAt fs k) lim=true)(hp:provedB ps (fAt fs k).id=false):coverB fs ps (countsTo fs lim fs.length)=false:=by
 unfold coverB
 rw[List.all_eq_false]
 exact⟨k,by unfold countsTo;rw[List.mem_filter];exact⟨List.mem_range.2 hk,hc⟩,by rw[hp];simp⟩
theorem n13Check_v (fs gs:List FV)(ps:List Pt)(A A' Ap:Option Addr)(c c' cp:Nat)(lim:Int)(r:Bool×Int)(w:World)(hr:FRd w w.heap.size A fs)(hr':FRd w w.heap.size A' gs)(hrp:Rd w w.heap.size 2 Ap (ps.map encD))(hc:fs.length≤100000000000000)(hc':gs.length≤100000000000000)(hcp:ps.length≤100000000000000)(h:checkOf fs gs lim ps=r) :
  Calls Tryz.prog 11 #[.slice A fs.length c,.slice A' gs.length c',.int .i64 lim,.slice Ap ps.length cp] w (Ret w (.tuple #[.bool r.1,.int .i64 r.2])):=by
 have hm:=hmix
 obtain⟨u,hu⟩:∃u,askedOf fs gs lim=u:=⟨_,rfl⟩
 obtain⟨v,hv⟩:∃u,orderedOf ps=u:=⟨_,rfl⟩
 have k1:=hide (fun W (hg:Grew w W)=>n13Asked_v fs gs A A' c c' lim u W (hr.up hg) (hr'.up hg) (by omega) (by omega) hu)
 have k2:=hide (fun W (hg:Grew w W)=>n13InOrder_v ps Ap cp v W (hrp.up hg) (by omega) hv)
 have HR:=hide hr
 have HR':=hide hr'
 have HRP:=hide hrp
 unfold checkOf at h
 rw[hu,hv] at h
 have hcase:u=false∨(u=true∧v=false)∨(u=true∧v=true):=by cases u<;>cases v<;>simp
 rcases hcase with rfl|⟨rfl,rfl⟩|⟨rfl,rfl⟩
 ·rw[if_neg (by simp)] at h
  subst h
  clear hu hv hr hr' hrp
  go_enter Tryz.func11,Tryz.ntmps11
  go_wp2_with (first|(go_at_call 34;with_reducible refine crv (k1.out _ gw) fun _ _=>?_;dsimp only)|(go_at_call 35;with_reducible refine crv (k2.out _ gw) fun _ _=>?_;dsimp only))
  go_ret2
  exact Ret.mk' rfl gw
 ·rw[if_pos rfl,Bool.false_and] at h
  subst h
  clear hu hv hr hr' hrp
  go_enter Tryz.func11,Tryz.ntmps11
  go_wp2_with (first|(go_at_call 34;with_reducible refine crv (k1.out _ gw) fun _ _=>?_;dsimp only)|(go_at_call 35;with_reducible refine crv (k2.out _ gw) fun _ _=>?_;dsimp only))
  go_ret2
  exact Ret.mk' rfl gw
 ·rw[if_pos rfl,Bool.true_and] at h
  have HRES:=hide h
  obtain⟨hf,hg,_⟩:=asked_split hu
  have HVF:=hide (fun f (h:f∈fs)=>list_valid7 hf f h)
  have HVG:=hide (fun f (h:f∈gs)=>list_valid7 hg f h)
  clear hu hv hr hr' hrp hf hg h
  go_enter Tryz.func11,Tryz.ntmps11
  go_wp2_with (first|(go_at_call 34;with_reducible refine crv (k1.out _ gw) fun _ _=>?_;dsimp only)|(go_at_call 35;with_reducible refine crv (k2.out _ gw) fun _ _=>?_;dsimp only))
  refine wp_name ?_
  intro W0 hW
  have HG0:Hid (Grew w W0):=hide (by rw[←hW];exact gw)
  clear hW k1 k2
  go_loopw [10] (fun i wr=>∃k:Nat,k≤ps.length∧i=.int .i64 k∧Grew W0 wr∧AppG (goodTo fs gs ps k=true)) (fun i _=>ps.length-(intOf i).toNat)
  case atStart=>exact⟨0,by omega,rfl,gw,show goodTo fs gs ps 0=true from rfl⟩
  case round =>
   obtain⟨k,hk,rfl,hg,hall⟩:=hrel
   have HQ:=hide hg
   have HA:=hide hall.stop
   clear hg hall
   by_cases hlt:k<ps.length
   ·obtain⟨b,off,hA,hb,h0,h1⟩:=ptAt (HRP.out.up (HG0.out.trans HQ.out)) (cor_get hlt)
    have hix:=idx_run (cap:=cp) Tryz.underlying24 Tryz.sizeOf50 hA.out hlt
    have hst:=goodTo_succ hlt HA.out
    have hno:goodP fs gs (cor ps k)=false→r=(false,0):=fun e=>by
     rw[←HRES.out,good_no hlt e]
     rfl
    obtain⟨p,hp⟩:∃p,cor ps k=p:=⟨_,rfl⟩
    rw[hp] at h0 h1 hst hno
    obtain⟨p1,p2⟩:=p
    dsimp only at h0 h1
    have HST:=hide hst
    have HNO:=hide hno
    clear hst hno hp
    go_wp2_with fail
    refine (n13Find_v fs A c p1 _ (HR.out.up (HG0.out.trans (HQ.out.trans gw))) (by omega)).mono ?_
    rintro e w3 ⟨hres,hg3⟩
    have HGq:Hid (Grew wr w3):=hide (Grew.trans gw hg3)
    have HG3:Hid (Grew W0 w3):=hide (HQ.out.trans HGq.out)
    have z0:=(old_cell HGq.out _ _ (cell_lt h0)).trans h0
    have z1:=(old_cell HGq.out _ _ (cell_lt h1)).trans h1
    have zb:=Nat.lt_of_lt_of_le (cell_lt h0) HGq.out.below.size
    clear hg3 h0 h1
    rcases hres with⟨j,hj,rfl,hf⟩|⟨rfl,hf⟩
    ·dsimp only
     go_wp2_with fail
     refine (n13Find_v gs A' c' p2 _ (HR'.out.up (HG0.out.trans (HG3.out.trans gw))) (by omega)).mono ?_
     rintro e w4 ⟨hres,hg4⟩
     have HG4:Hid (Grew W0 w4):=hide (HG3.out.trans (Grew.trans gw hg4))
     clear hg4 z0 z1 zb hix hA HGq
     rcases hres with⟨m,hm2,rfl,hf2⟩|⟨rfl,hf2⟩
     ·have hgd:goodP fs gs (p1,p2)=metB (fAt fs j) (fAt gs m):=by unfold goodP;rw[hf,hf2]
      obtain⟨o,ho⟩:∃o,metB (fAt fs j) (fAt gs m)=o:=⟨_,rfl⟩
      rw[ho] at hgd
      have kf:=hide (fun W (hw:Grew w W)=>v7For_v (fAt fs j) (fAt gs m) o W ((HR.out.each _ (fAt_mem hj)).up hw) ((HR'.out.each _ (fAt_mem hm2)).up hw) (HVF.out _ (fAt_mem hj)) (HVG.out _ (fAt_mem hm2)) ((met_stand (HVF.out _ (fAt_mem hj)) (HVG.out _ (fAt_mem hm2))).symm.trans ho))
      obtain⟨b5,off5,hA5,hb5,fx⟩:=featAt (HR.out.up (HG0.out.trans HG4.out)) hj
      obtain⟨b6,off6,hA6,hb6,gx⟩:=featAt (HR'.out.up (HG0.out.trans HG4.out)) hm2
      have hix5:=idx_run (cap:=c) Tryz.underlying22 Tryz.sizeOf54 hA5.out hj
      have hix6:=idx_run (cap:=c') Tryz.underlying22 Tryz.sizeOf54 hA6.out hm2
      obtain⟨x,hx⟩:∃x,fAt fs j=x:=⟨_,rfl⟩
      obtain⟨y,hy⟩:∃x,fAt gs m=x:=⟨_,rfl⟩
      rw[hx,hy] at kf
      rw[hx] at fx
      rw[hy] at gx
      obtain⟨c0,c1,c2,c3,c4,c5,c6,c7,c8⟩:=fx
      obtain⟨d0,d1,d2,d3,d4,d5,d6,d7,d8⟩:=gx
      obtain⟨id,kind,x',y',rad,aA,ac,area,dep,sym,sA,sc,secs⟩:=x
      obtain⟨id2,kind2,x2,y2,rad2,aA2,ac2,area2,dep2,sym2,sA2,sc2,secs2⟩:=y
      have HGD:=hide hgd
      have nj:¬ ((j:Int)<0):=by omega
      have nm:¬ ((m:Int)<0):=by omega
      dsimp only at *
      clear hf hf2 hgd ho hA5 hA6 hx hy
      cases o
      ·have HRF:=hide (HNO.out HGD.out)
       go_wp2_with fail
       refine wp_region_qas 18 [] [] hm (h:=?_)
       repeat (refine wpSteady_step (fun K hK=>?_);go_simp;first|(refine hK _ ?_;clear hK K)|(apply Exists.intro;refine⟨fun _=>?_,hK _ ?_⟩;((go_at_call 37;with_reducible exact kf.out _ (HG0.out.trans (HG4.out.trans gw))));clear hK K))
       refine rq0 fun nq osq=>?_
       try simp only[Act.put,setA]
       try dsimp only
       go_wp2_with fail
       go_ret2
       exact Ret.mk' (by rw[HRF.out];rfl) (HG0.out.trans (HG4.out.trans gw))
      ·have HU:=hide (HST.out.trans HGD.out)
       go_wp2_with fail
       refine wp_region_qas 18 [] [] hm (h:=?_)
       repeat (refine wpSteady_step (fun K hK=>?_);go_simp;first|(refine hK _ ?_;clear hK K)|(apply Exists.intro;refine⟨fun _=>?_,hK _ ?_⟩;((go_at_call 37;with_reducible exact kf.out _ (HG0.out.trans (HG4.out.trans gw))));clear hK K))
       refine rq0 fun nq osq=>?_
       try simp only[Act.put,setA]
       try dsimp only
       go_wp2_with fail
       go_roundw
       case rel=>exact⟨k+1,by omega,by go_num,HG4.out.trans gw,show goodTo fs gs ps (k+1)=true from HU.out⟩
       case measure=>simp[intOf];omega
     ·have HRF:=hide (HNO.out (by unfold goodP;rw[hf,hf2]))
      have nj:¬ ((j:Int)<0):=by omega
      clear hf hf2
      dsimp only
      go_wp2_with fail
      refine wp_region_qas 18 [] [] hm (h:=?_)
      repeat (refine wpSteady_step (fun K hK=>?_);go_simp;refine hK _ ?_;clear hK K)
      refine rq0 fun nq osq=>?_
      try simp only[Act.put,setA]
      try dsimp only
      go_wp2_with fail
      go_ret2
      exact Ret.mk' (by rw[HRF.out];rfl) (HG0.out.trans (HG4.out.trans gw))
    ·have HRF:=hide (HNO.out (by unfold goodP;rw[hf]))
     clear hf
     dsimp only
     go_wp2_with fail
     refine (n13Find_v gs A' c' p2 _ (HR'.out.up (HG0.out.trans (HG3.out.trans gw))) (by omega)).mono ?_
     rintro e w4 ⟨hres,hg4⟩
     have HG4:Hid (Grew W0 w4):=hide (HG3.out.trans (Grew.trans gw hg4))
     clear hg4 z0 z1 zb hix hA HGq
     have hee:∃m:Int,e=.returned (.int .i64 m):=by rcases hres with⟨m,_,rfl,_⟩|⟨rfl,_⟩<;>exact⟨_,rfl⟩
     obtain⟨m,rfl⟩:=hee
     clear hres
     dsimp only
     go_wp2_with fail
     refine wp_region_qas 18 [] [] hm (h:=?_)
     repeat (refine wpSteady_step (fun K hK=>?_);go_simp;refine hK _ ?_;clear hK K)
     refine rq0 fun nq osq=>?_
     try simp only[Act.put,setA]
     try dsimp only
     go_wp2_with fail
     go_ret2
     exact Ret.mk' (by rw[HRF.out];rfl) (HG0.out.trans (HG4.out.trans gw))
   ·obtain rfl:k=ps.length:=by omega
    have hall:ps.all (goodP fs gs)=true:=by
     have:=HA.out
     unfold goodTo at this
     rwa [List.take_length] at this
    have hres:=HRES.out
    rw[hall,Bool.true_and] at hres
    have HRE:=hide hres
    clear hall hres HRES HA
    obtain⟨W1,hW1⟩:∃W,W=wr:=⟨wr,rfl⟩
    subst hW1
    have HG1:=hide (HG0.out.trans HQ.out)
    go_wp2_with fail
    go_loopw [13] (fun i wr=>∃k:Nat,k≤fs.length∧i=.int .i64 k∧Grew W1 wr∧AppG (coverB fs ps (countsTo fs lim k)=true)) (fun i _=>fs.length-(intOf i).toNat)
    case atStart=>exact⟨0,by omega,rfl,gw,show coverB fs ps (countsTo fs lim 0)=true from rfl⟩
    case round =>
     obtain⟨k,hk,rfl,hg,hall⟩:=hrel
     have HG:=hide hg
     have HA:=hide hall.stop
     clear hg hall
     by_cases hlt:k<fs.length
     ·obtain⟨b,off,hA,hb,fx⟩:=featAt (HR.out.up (HG1.out.trans HG.out)) hlt
      have hix:=idx_run (cap:=c) Tryz.underlying22 Tryz.sizeOf54 hA.out hlt
      obtain⟨cb,hcb⟩:∃o,countB (fAt fs k) lim=o:=⟨_,rfl⟩
      have kc:=hide (fun W=>n13Counts_v lim (fAt fs k) cb W hcb)
      have h2:cb=false→coverB fs ps (countsTo fs lim (k+1))=true:=fun e=>by rw[countsTo_no (by rw[hcb,e])];exact HA.out
      have h3:cb=true→provedB ps (fAt fs k).id=true→coverB fs ps (countsTo fs lim (k+1))=true:=fun e e'=>by
       rw[countsTo_yes (by rw[hcb,e])]
       have:=HA.out
       unfold coverB at this ⊢
       rw[List.all_append,this]
       simp[e']
      have h4:cb=true→provedB ps (fAt fs k).id=false→r=(false,0):=fun e e'=>by
       rw[←HRE.out,cover_no hlt (by rw[hcb,e]) e']
      obtain⟨x,hx⟩:∃x,fAt fs k=x:=⟨_,rfl⟩
      rw[hx] at kc fx h3 h4
      have H2:=hide h2
      have H3:=hide h3
      have H4:=hide h4
      obtain⟨c0,c1,c2,c3,c4,c5,c6,c7,c8⟩:=fx
      obtain⟨id,kind,x',y,rad,aA,ac,area,dep,sym,sA,sc,secs⟩:=x
      dsimp only at *
      clear hA hcb hx h2 h3 h4
      cases cb
      ·go_wp2_with (go_at_call 28;with_reducible refine crv (kc.out _) fun _ _=>?_;dsimp only)
       go_roundw
       case rel=>exact⟨k+1,by omega,by go_num,HG.out.trans gw,show coverB fs ps (countsTo fs lim (k+1))=true from H2.out rfl⟩
       case measure=>simp[intOf];omega
      ·go_wp2_with (go_at_call 28;with_reducible refine crv (kc.out _) fun _ _=>?_;dsimp only)
       refine (n13From_v ps Ap cp id _ (HRP.out.up (HG1.out.trans (HG.out.trans gw))) (by omega)).mono ?_
       rintro e w3 ⟨hres,hg3⟩
       have HG3:Hid (Grew W1 w3):=hide (HG.out.trans (Grew.trans gw hg3))
       clear hg3
       rcases hres with⟨j,hj,rfl,hf⟩|⟨rfl,hf⟩
       ·have HU:=hide (H3.out (by trivial) (prov_some hf))
        have nj:¬ ((j:Int)<0):=by omega
        clear hf
        dsimp only
        go_wp2_with fail
        go_roundw
        case rel=>exact⟨k+1,by omega,by go_num,HG3.out.trans gw,show coverB fs ps (countsTo fs lim (k+1))=true from HU.out⟩
        case measure=>simp[intOf];omega
       ·have HRF:=hide (H4.out (by trivial) (prov_none hf))
        clear hf
        dsimp only
        go_wp2_with fail
        go_ret2
        exact Ret.mk' (by rw[HRF.out];rfl) (HG1.out.trans (HG3.out.trans gw))
     ·obtain rfl:k=fs.length:=by omega
      have hres:=HRE.out
      rw[HA.out] at hres
      have HRF:=hide hres
      clear hres
      go_wp2_with fail
      go_ret2
      exact Ret.mk' (by rw[←HRF.out];rfl) (HG1.out.trans (HG.out.trans gw))
theorem n13Make_v (fs:List FV)(rs:List Ru)(A Ar:Option Addr)(c cr:Nat)(w:World)(hr:FRd w w.heap.size A fs)(hrr:Rd w w.heap.size 3 Ar (rs.map encR))(hc:fs.length≤100000000000)(hcr:rs.length≤100000000000000) :
  Calls Tryz.prog 7 #[.slice A fs.length c,.slice Ar rs.length cr] w (MakeR w (makeOf fs rs)):=by
 have hm:=hmix
 have kr:=hide (fun W (hg:Grew w W)=>rRun_v rs fs Ar A cr c W (hrr.up hg) (hr.up hg) (by omega) (by omega))
 obtain⟨cap,hcap⟩:∃r,capOf rs=r:=⟨_,rfl⟩
 have kc:=hide (fun W (hg:Grew w W)=>rCap_v rs Ar cr cap W (hrr.up hg) (by omega) hcap)
 have HR:=hide hr
 obtain⟨res,hres⟩:∃r,makeOf fs rs=r:=⟨_,rfl⟩
 rw[hres]
 unfold makeOf at hres
 have hle:=run_le (rs:=rs) (fs:=fs)
 rw[hcap] at hres
 obtain⟨⟨d,e1⟩,hd⟩:∃r,runOf rs fs=r:=⟨_,rfl⟩
 rw[hd] at hres kr hle
 obtain⟨lim,e2⟩:=cap
 dsimp only at hres kr kc hle
 clear hr hrr hcap hd
 by_cases h0:e1=0
 ·subst h0
  rw[if_pos rfl] at hres
  have HRES:=hide hres
  obtain⟨i0,hi,hz0,hz1,hz2⟩:=fInfo_parts feInf
  clear hres
  go_enter Tryz.func7,Tryz.ntmps7
  go_wp2_with fail
  refine (kr.out _ gw).mono ?_
  rintro e w1 ⟨A1,c1,d',rfl,hb,hrd,hg1⟩
  have HG1:Hid (Grew w w1):=hide (Grew.trans gw hg1)
  have HB:=hide hb
  have HD:=hide hrd
  have hdl:d'.length≤1000:=by have h9:=len_of hb;dsimp only at h9;omega
  clear hb hrd hg1 kr
  dsimp only
  go_wp2_with (go_at_call 27;with_reducible refine crv (kc.out _ (HG1.out.trans gw)) fun _ _=>?_;dsimp only)
  refine wp_name ?_
  intro W0 hW
  have HG0:Hid (Grew w1 W0):=hide (by rw[←hW];exact gw)
  clear hW kc
  go_loopw [11,12] (fun ov i wr=>∃k:Nat,k≤d'.length∧i=.int .i64 k∧Grew W0 wr∧wr.ownsRow W0.heap.size 54 9 ov (cntL d' (countsTo d' lim k)).length ((cntL d' (countsTo d' lim k)).flatMap FV.cells)) (fun _ i _=>d'.length-(intOf i).toNat)
  case atStart=>exact⟨0,by omega,rfl,gw,World.ownsRow_nil _ _ _ _⟩
  case round =>
   obtain⟨k,hk,rfl,hg,hown⟩:=hrel
   have HG:=hide hg
   have HO:=hide hown
   have hal:(cntL d' (countsTo d' lim k)).length≤k:=by rw[cntL_len];exact countsTo_len d' lim k
   clear hg hown
   by_cases hlt:k<d'.length
   ·obtain⟨b,off,hA,hb,fx⟩:=featAt (HD.out.up (HG0.out.trans HG.out)) hlt
    have hix:=idx_run (cap:=c1) Tryz.underlying22 Tryz.sizeOf54 hA.out hlt
    obtain⟨cb,hcb⟩:∃o,countB (fAt d' k) lim=o:=⟨_,rfl⟩
    have kc:=hide (fun W=>n13Counts_v lim (fAt d' k) cb W hcb)
    have hst:cb=true→cntL d' (countsTo d' lim (k+1))=cntL d' (countsTo d' lim k)++[fAt d' k]:=fun e=>by rw[countsTo_yes (by rw[hcb,e]),cntL_snoc]
    have hst2:cb=false→cntL d' (countsTo d' lim (k+1))=cntL d' (countsTo d' lim k):=fun e=>by rw[countsTo_no (by rw[hcb,e])]
    obtain⟨L,hL⟩:∃L,cntL d' (countsTo d' lim k)=L:=⟨_,rfl⟩
    obtain⟨x,hx⟩:∃x,fAt d' k=x:=⟨_,rfl⟩
    rw[hL] at hal HO hst hst2
    rw[hx] at kc fx hst
    have HST:=hide hst
    have HST2:=hide hst2
    obtain⟨c0,c1',c2,c3,c4,c5,c6,c7,c8⟩:=fx
    try dsimp only at *
    clear hA hcb hst hst2 hL hx
    cases cb
    ·go_wp2_with (go_at_call 28;with_reducible refine crv (kc.out _) fun _ _=>?_;dsimp only)
     go_roundw
     case rel=>exact⟨k+1,by omega,by go_num,HG.out.trans gw,by rw[HST2.out rfl];exact fown_grew HO.out gw⟩
     case measure=>simp[intOf];omega
    ·have HS:=hide (HST.out rfl)
     clear HST HST2
     go_wp2_with (first|(go_at_call 28;with_reducible refine crv (kc.out _) fun _ _=>?_;dsimp only)|(at_builtin;refine AppG3.stop ?_))
     refine AppG3.go ?_
     refine wpList_append_any _ rfl (.tmp 41) (.tmp 46) _ rfl W0.heap.size 54 i0 _ 9 104 Tryz.underlying22 hi hz0 hz1 hz2 rfl (by omega) _ L.length (L.flatMap FV.cells) rfl (fown_grew HO.out gw) _ (some ⟨_,0,none⟩) 1 1 ([x].flatMap FV.cells) rfl ((Rd.lit1 _ x _ (by first|rfl|simp[hs_dr])).reads fv_len (by omega)) (fv_one _) (by simp only[maxLen];omega) (by omega) (by have:=HG.out.below.size;(try simp[hs_dr]);omega) ?_
     intro v' w1' hown1 hg1 _
     have HO1:=hide hown1
     have HG1':Hid (Grew W0 w1'):=hide (ggrown (HG.out.trans gw) (fown_grew HO.out gw) (Nat.le_refl _) hg1)
     clear hown1 hg1
     go_wp2_with fail
     go_roundw
     case rel=>exact⟨k+1,by omega,by go_num,HG1'.out.trans gw,by rw[HS.out,List.length_append,List.flatMap_append];exact fown_grew HO1.out gw⟩
     case measure=>simp[intOf];omega
   ·obtain rfl:k=d'.length:=by omega
    obtain⟨A3,c3,rfl,_,hrd⟩:=Rd.of_own (f:=FV.cells) fv_len HO.out rfl
    have HG3:Hid (Grew w1 wr):=hide (HG0.out.trans HG.out)
    have HCH:Hid (FRd wr wr.heap.size A3 (chartOf d' lim)):=hide ⟨hrd,fun g hg=>(HD.out.each g (chart_mem hg).1).up HG3.out⟩
    have hcl:=chart_len d' lim
    have HBC:=hide (chart_bare HB.out lim)
    obtain⟨ch,hch⟩:∃l,chartOf d' lim=l:=⟨_,rfl⟩
    have hch2:cntL d' (countsTo d' lim d'.length)=ch:=hch
    rw[hch] at HCH HBC hcl
    rw[hch2]
    have hpv:=prove_of HBC.out fs lim
    have kp:=hide (fun W (hg:Grew wr W)=>n13Prove_v fs ch A A3 c c3 lim W (HR.out.up (HG1.out.trans (HG3.out.trans hg))) (HCH.out.up hg) hc (by omega))
    rw[hpv] at kp
    have hres:=HRES.out
    obtain⟨⟨prs,e3⟩,hpr⟩:∃r,proveOf fs (chartOf d lim) lim=r:=⟨_,rfl⟩
    rw[hpr] at kp hres
    dsimp only at kp hres
    clear hrd hch hch2 hpv hpr HRES HO
    by_cases h3:e3=0
    ·subst h3
     rw[if_pos rfl] at hres
     subst hres
     go_wp2_with fail
     refine (kp.out _ gw).mono ?_
     rintro e w4 ⟨A4,c4,rfl,hrd4,hg4⟩
     have HG4:Hid (Grew wr w4):=hide (Grew.trans gw hg4)
     have H4:=hide hrd4
     clear hrd4 hg4 kp
     dsimp only
     go_wp2_with fail
     refine bodyPost_ret (v:=.tuple #[.slice A3 ch.length c3,.slice A4 prs.length c4,.int .i64 0]) (by simp[results,Tryz.results7,go_sem]) rfl ?_
     exact⟨_,_,ch,_,_,rfl,HBC.out,HCH.out.up (HG4.out.trans gw),H4.out.up gw,HG1.out.trans (HG3.out.trans (HG4.out.trans gw))⟩
    ·rw[if_neg h3] at hres
     subst hres
     have hne:(e3 != 0)=true:=by simpa using h3
     go_wp2_with fail
     refine (kp.out _ gw).mono ?_
     rintro e w4 ⟨A4,c4,rfl,hrd4,hg4⟩
     have HG4:Hid (Grew wr w4):=hide (Grew.trans gw hg4)
     clear hrd4 hg4 kp
     dsimp only
     go_wp2_with fail
     refine bodyPost_ret (v:=.tuple #[.slice none 0 0,.slice none 0 0,.int .i64 e3]) (by simp[results,Tryz.results7,go_sem]) rfl ?_
     exact⟨none,0,[],none,0,rfl,rfl,⟨Rd.nil _ _ _ _,fun f hf=>by simp at hf⟩,Rd.nil _ _ _ _,HG1.out.trans (HG3.out.trans (HG4.out.trans gw))⟩
 ·rw[if_neg h0] at hres
  subst hres
  have hne:(e1 != 0)=true:=by simpa using h0
  go_enter Tryz.func7,Tryz.ntmps7
  go_wp2_with fail
  refine (kr.out _ gw).mono ?_
  rintro e w1 ⟨A1,c1,d',rfl,hb,hrd,hg1⟩
  have HG1:Hid (Grew w w1):=hide (Grew.trans gw hg1)
  clear hb hrd hg1 kr kc
  dsimp only
  go_wp2_with fail
  refine bodyPost_ret (v:=.tuple #[.slice none 0 0,.slice none 0 0,.int .i64 e1]) (by simp[results,Tryz.results7,go_sem]) rfl ?_
  exact⟨none,0,[],none,0,rfl,rfl,⟨Rd.nil _ _ _ _,fun f hf=>by simp at hf⟩,Rd.nil _ _ _ _,HG1.out.trans gw⟩
end Go.Proofs.YtblgdlnmabkpoaaGreat

