import Derived.Test.YtblgdlnmabkpoaaGreatGeT
import Derived.Test.YtblgdlnmabkpoaaGreatApp
import Derived.Test.YtblgdlnmabkpoaaGreatProg
import Derived.Maps.OwnIn
import Derived.Test.YtblgdlnmabkpoaaGreatRuI
import Derived.Test.YtblgdlnmabkpoaaGreatPoa
import Derived.Test.YtblgdlnmabkpoaaGreatRuZ
/- Package derive: limits, what counts, proofs in order, what stands for a feature. -/
set_option linter.unusedSimpArgs false
set_option linter.unusedVariables false
set_option maxHeartbeats 4000000
set_option maxRecDepth 100000
namespace Go.Proofs.YtblgdlnmabkpoaaGreat
open Go.RowKit Go.Sort
attribute [local go_sem] Steady steadyUpon
attribute [local go_sem ↓] hs_dr lt_add_r lt_add_r2 lt_add_r3 lt_add_r4 lt_add_r5 lt_add_r6
attribute [local go_sem] cell?_gd frozen?_gd setCell_gd size_grow tape_grow cell?_grow' frozen?_grow' setCell_grow' grow_grow grow_dr grow_drew dr_dr dr_drew drew_dr dr_alloc dr_setCell dr_cell dr_frozen dr_tape dr_drawn
attribute [local irreducible] wpSteady
def limOk (n:Int):Bool:=decide (1≤n∧n≤100000)
theorem limited_v (n:Int)(r:Bool)(w:World)(h:limOk n=r):Calls Tryz.prog 42 #[.int .i64 n] w (Ret w (.bool r)):=by
 subst h
 go_enter Tryz.func42,Tryz.ntmps42
 go_wp2
 all_goals go_ret
 all_goals refine Ret.mk' (ret_bool ?_) gw
 all_goals (rw[Bool.eq_iff_iff];simp[limOk];try omega)
def askedOf (fs gs:List FV)(n:Int):Bool:=FList fs&&(FList gs&&limOk n)
theorem asked_v (fs gs:List FV)(A A':Option Addr)(c c':Nat)(n:Int)(r:Bool)(w:World)(hr:FRd w w.heap.size A fs)(hr':FRd w w.heap.size A' gs)(hc:fs.length≤100000000000000)(hc':gs.length≤100000000000000)(h:askedOf fs gs n=r) :
  Calls Tryz.prog 30 #[.slice A fs.length c,.slice A' gs.length c',.int .i64 n] w (Ret w (.bool r)):=by
 have hm:=hmix
 obtain⟨u,hu⟩:∃u,FList fs=u:=⟨_,rfl⟩
 obtain⟨v,hv⟩:∃u,FList gs=u:=⟨_,rfl⟩
 obtain⟨l,hl⟩:∃u,limOk n=u:=⟨_,rfl⟩
 have k1:=hide (fun W (hg:Grew w W)=>FList_v fs A c u W (hr.up hg) hc hu)
 have k2:=hide (fun W (hg:Grew w W)=>FList_v gs A' c' v W (hr'.up hg) hc' hv)
 have k3:=hide (fun W=>limited_v n l W hl)
 unfold askedOf at h
 rw[hu,hv,hl] at h
 clear hu hv hl hr hr'
 have hcase:(u=false∧r=false)∨(u=true∧v=false∧r=false)∨(u=true∧v=true∧l=r):=by
  rw[←h]
  cases u<;>cases v<;>simp
 clear h
 rcases hcase with⟨rfl,rfl⟩|⟨rfl,rfl,rfl⟩|⟨rfl,rfl,rfl⟩
 all_goals
  go_enter Tryz.func30,Tryz.ntmps30
  go_wp2_with (first|((go_at_call 41;first|with_reducible refine (k1.out _ gw).mono ?_|with_reducible refine (k2.out _ gw).mono ?_);rintro e w' ⟨rfl,⟨_,_⟩,rfl⟩;dsimp only)|(go_at_call 42;with_reducible refine crv (k3.out _) fun _ _=>?_;dsimp only))
  go_ret
  exact Ret.mk' rfl gw
def countB (f:FV)(n:Int):Bool:=decide (f.kind=4)||decide (f.dep<n)
theorem counts_v (A:Option Addr)(m c:Nat)(n:Int)(f:FV)(r:Bool)(w:World)(h:countB f n=r) :
  Calls Tryz.prog 54 #[.agg #[.slice A m c,.int .i64 n],f.val] w (Ret w (.bool r)):=by
 unfold countB at h
 obtain⟨id,kind,x,y,rad,aA,ac,area,dep,sym,sA,sc,secs⟩:=f
 unfold FV.val
 dsimp only at *
 generalize area.length=na at *
 generalize secs.length=ns at *
 by_cases h4:kind=4
 ·subst h4
  obtain rfl:r=true:=by rw[←h];rfl
  clear h
  go_enter Tryz.func54,Tryz.ntmps54
  go_wp2_with fail
  go_ret
  exact Ret.mk' rfl gw
 ·rw[decide_eq_false h4,Bool.false_or] at h
  subst h
  have h5:(kind==4)=false:=by simpa using h4
  go_enter Tryz.func54,Tryz.ntmps54
  go_wp2_with fail
  go_ret
  first|exact Ret.mk' rfl gw|exact Ret.mk' (by simp[h4]) gw
/-- Proofs in order: each is a pair, From and By. -/
def lastFrom (ps:List Pt)(k:Nat):Int:=if k=0 then 0 else (cor ps (k-1)).1
def proofOk (ps:List Pt)(k:Nat):Bool:=decide (lastFrom ps k<(cor ps k).1∧(cor ps k).1≤100000∧1≤(cor ps k).2∧(cor ps k).2≤100000)
def proofsTo (ps:List Pt)(k:Nat):Bool:=(List.range k).all (proofOk ps)
def orderedOf (ps:List Pt):Bool:=proofsTo ps ps.length
theorem proofsTo_succ {ps:List Pt}{k:Nat}(h:proofsTo ps k=true):proofsTo ps (k+1)=proofOk ps k:=by
 unfold proofsTo at h ⊢
 rw[List.range_succ,List.all_append,h]
 simp
theorem proofsTo_no {ps:List Pt}{k n:Nat}(hk:k<n)(h:proofOk ps k=false):proofsTo ps n=false:=by
 unfold proofsTo
 rw[List.all_eq_false]
 exact⟨k,List.mem_range.2 hk,by rw[h];simp⟩
theorem ordered_v (ps:List Pt)(A:Option Addr)(c:Nat)(r:Bool)(w:World)(hr:Rd w w.heap.size 2 A (ps.map encD))(hc:ps.length≤100000000000000)(h:orderedOf ps=r) :
  Calls Tryz.prog 31 #[.slice A ps.length c] w (Ret w (.bool r)):=by
 have hm:=hmix
 have HH:=hide h
 have HR:=hide hr
 clear h hr
 go_enter Tryz.func31,Tryz.ntmps31
 go_wp2_with fail
 go_loopw [3,8] (fun l i wr=>∃k:Nat,k≤ps.length∧i=.int .i64 k∧l=.int .i64 (lastFrom ps k)∧Grew w wr∧AppG (proofsTo ps k=true)) (fun _ i _=>ps.length-(intOf i).toNat)
 case atStart=>exact⟨0,by omega,rfl,rfl,gw,rfl⟩
 case round =>
  obtain⟨k,hk,rfl,rfl,hg,hall⟩:=hrel
  have HG:=hide hg
  have HA:=hide hall.stop
  clear hg hall
  by_cases hlt:k<ps.length
  ·obtain⟨b,off,hA,hb,c0,c1⟩:=ptAt (HR.out.up HG.out) (cor_get hlt)
   have hix:=idx_run (cap:=c) Tryz.underlying24 Tryz.sizeOf50 hA.out hlt
   have hst:=proofsTo_succ HA.out
   unfold proofOk at hst
   have hlid:lastFrom ps (k+1)=(cor ps k).1:=by unfold lastFrom;rw[if_neg (by omega),Nat.add_sub_cancel]
   obtain⟨l,hl⟩:∃l,lastFrom ps k=l:=⟨_,rfl⟩
   have hno:¬ (l<(cor ps k).1∧(cor ps k).1≤100000∧1≤(cor ps k).2∧(cor ps k).2≤100000)→r=false:=fun e=>by
    rw[←HH.out]
    exact proofsTo_no hlt (by unfold proofOk;rw[hl];exact decide_eq_false e)
   rw[hl] at hst ⊢
   clear hl hA
   generalize cor ps k=p at *
   obtain⟨p1,p2⟩:=p
   dsimp only at *
   have HST:=hide hst
   have HLID:=hide hlid
   clear hst hlid
   have hcase:(l<p1∧p1≤100000∧1≤p2∧p2≤100000)∨p1≤l∨(¬ p1≤l∧100000<p1)∨(¬ p1≤l∧¬ 100000<p1∧p2<1)∨(¬ p1≤l∧¬ 100000<p1∧¬ p2<1∧100000<p2):=by omega
   rcases hcase with⟨h1,h2,h3,h4⟩|h1|⟨h1,h2⟩|⟨h1,h2,h3⟩|⟨h1,h2,h3,h4⟩
   ·have n1:¬ p1≤l:=by omega
    have n2:¬ 100000<p1:=by omega
    have n3:¬ p2<1:=by omega
    have n4:¬ 100000<p2:=by omega
    clear hno
    go_wp2_with fail
    go_roundw
    case rel=>exact⟨k+1,by omega,by go_num,by rw[HLID.out],HG.out.trans gw,show proofsTo ps (k+1)=true from (by rw[HST.out,decide_eq_true (show l<p1∧p1≤100000∧1≤p2∧p2≤100000 from ⟨h1,h2,h3,h4⟩)])⟩
    case measure=>simp[intOf];omega
   all_goals
    have HNO:=hide (hno (by omega))
    clear hno
    go_wp2_with fail
    go_ret
    exact Ret.mk' (by rw[HNO.out];rfl) (HG.out.trans gw)
  ·obtain rfl:k=ps.length:=by omega
   obtain rfl:r=true:=by rw[←HH.out];exact HA.out
   go_wp2_with fail
   go_ret
   exact Ret.mk' rfl HG.out
theorem met_v (f g:FV)(r:Bool)(w:World)(hf:f.rd w w.heap.size)(hg:g.rd w w.heap.size)(h:metB f g=r) :
  Calls Tryz.prog 33 #[f.val,g.val] w (Ret w (.bool r)):=by
 have hm:=hmix
 unfold metB at h
 obtain⟨⟨n,e⟩,hn⟩:∃u,standsOf f g=u:=⟨_,rfl⟩
 have k1:=hide (fun W (hgr:Grew w W)=>Stands_v f g (n,e) W (hf.up hgr) (hg.up hgr) hn)
 rw[hn] at h
 dsimp only at h k1
 clear hn hf hg
 have hcase:e=0∨(e==0)=false:=by by_cases h:e=0<;>simp[h]
 rcases hcase with rfl|h1
 ·obtain rfl:n=r:=by rw[←h];simp
  clear h
  go_enter Tryz.func33,Tryz.ntmps33
  go_wp2_with (go_at_call 59;with_reducible refine crv (k1.out _ gw) fun _ _=>?_;dsimp only)
  go_ret
  exact Ret.mk' rfl gw
 ·rw[h1] at h
  subst h
  go_enter Tryz.func33,Tryz.ntmps33
  go_wp2_with (go_at_call 59;with_reducible refine crv (k1.out _ gw) fun _ _=>?_;dsimp only)
  go_ret
  exact Ret.mk' (by rfl) gw
/-- The ID of the first feature of a chart that stands for f. -/
def byOf (f:FV)(gs:List FV):Int:=match gs.find? (metB f) with|some g=>g.id|none=>0
def FIdx (f:FV)(gs:List FV)(e:Ending):Prop:=(e=.returned (.int .i64 (-1))∧∀g,g∈gs→metB f g=false)∨(∃k:Nat,k<gs.length∧e=.returned (.int .i64 k)∧metB f (fAt gs k)=true∧∀j,j<k→metB f (fAt gs j)=false)
theorem idxMet_v (f:FV)(gs:List FV)(A:Option Addr)(c:Nat)(w:World)(hf:f.rd w w.heap.size)(hr:FRd w w.heap.size A gs)(hc:gs.length≤100000000000000) :
  Calls Tryz.prog 62 #[.slice A gs.length c,.func (.func 33) #[f.val] #[]] w fun e w'=>FIdx f gs e∧Grew w w':=by
 have hm:=hmix
 have HR:=hide hr
 have HF:=hide hf
 clear hr hf
 go_enter Tryz.func62,Tryz.ntmps62
 go_wp2_with fail
 go_loopw [8] (fun i wr=>∃k:Nat,k≤gs.length∧i=.int .i64 k∧Grew w wr∧AppG (∀j,j<k→metB f (fAt gs j)=false)) (fun i _=>gs.length-(intOf i).toNat)
 case atStart=>exact⟨0,by omega,rfl,gw,fun j hj=>by omega⟩
 case round =>
  obtain⟨k,hk,rfl,hg,hall⟩:=hrel
  have HG:=hide hg
  have HA:=hide hall.stop
  clear hg hall
  by_cases hlt:k<gs.length
  ·obtain⟨b,off,hA,hb,fc⟩:=featAt (HR.out.up HG.out) hlt
   have hgr:=HR.out.each _ (fAt_mem hlt)
   have hix:=idx_run (cap:=c) Tryz.underlying22 Tryz.sizeOf54 hA.out hlt
   obtain⟨o,ho⟩:∃o,metB f (fAt gs k)=o:=⟨_,rfl⟩
   have k1:=hide (fun W (hg:Grew w W)=>met_v f (fAt gs k) o W (HF.out.up hg) (hgr.up hg) ho)
   have HO:=hide ho
   obtain⟨c0,c1,c2,c3,c4,c5,c6,c7,c8⟩:=fc
   have HID:Hid (∃g,fAt gs k=g):=hide ⟨_,rfl⟩
   clear ho hA hgr
   cases o
   ·go_wp2_with (go_at_call 33;with_reducible refine crv (k1.out _ (HG.out.trans gw)) fun _ _=>?_;dsimp only)
    go_roundw
    case rel=>exact⟨k+1,by omega,by go_num,HG.out.trans gw,show ∀j,j<k+1→metB f (fAt gs j)=false from (fun j hj=>by
     by_cases e:j=k
     ·rw[e];exact HO.out
     ·exact HA.out j (by omega))⟩
    case measure=>simp[intOf];omega
   ·go_wp2_with (go_at_call 33;with_reducible refine crv (k1.out _ (HG.out.trans gw)) fun _ _=>?_;dsimp only)
    go_ret
    exact⟨.inr ⟨k,by omega,rfl,HO.out,HA.out⟩,HG.out.trans gw⟩
  ·obtain rfl:k=gs.length:=by omega
   go_wp2_with fail
   go_ret
   refine⟨.inl ⟨rfl,fun g hg=>?_⟩,HG.out⟩
   obtain⟨j,hj,e⟩:=List.getElem_of_mem hg
   have:=HA.out j hj
   have a:=fAt_get hj
   rw[List.getElem?_eq_getElem hj,e] at a
   injection a with a
   rw[a]
   exact this
theorem byOf_none {f:FV}{gs:List FV}(h:∀g,g∈gs→metB f g=false):byOf f gs=0:=by
 unfold byOf
 rw[List.find?_eq_none.2 (fun g hg=>by rw[h g hg];simp)]
theorem find_at {f:FV}:∀ {gs:List FV} {k:Nat},k<gs.length→metB f (fAt gs k)=true→(∀j,j<k→metB f (fAt gs j)=false)→gs.find? (metB f)=some (fAt gs k)
 | [],k,h,_,_=>by simp at h
 | g::gs,0,_,h1,_=>by
  have e:fAt (g::gs) 0=g:=rfl
  rw[e] at h1 ⊢
  rw[List.find?_cons,h1]
 | g::gs,k+1,h,h1,h2=>by
  have e:∀j,fAt (g::gs) (j+1)=fAt gs j:=fun j=>by unfold fAt;rw[List.getD_cons_succ]
  have h0:metB f g=false:=h2 0 (by omega)
  rw[e] at h1 ⊢
  rw[List.find?_cons,h0]
  exact find_at (by simpa using h) h1 (fun j hj=>by rw[←e];exact h2 (j+1) (by omega))
theorem by_v (f:FV)(gs:List FV)(A:Option Addr)(c:Nat)(r:Int)(w:World)(hf:f.rd w w.heap.size)(hr:FRd w w.heap.size A gs)(hc:gs.length≤100000000000000)(h:byOf f gs=r) :
  Calls Tryz.prog 39 #[f.val,.slice A gs.length c] w (Ret w (.int .i64 r)):=by
 have hm:=hmix
 have k1:=hide (fun W (hg:Grew w W)=>idxMet_v f gs A c W (hf.up hg) (hr.up hg) hc)
 have HR:=hide hr
 have HH:=hide h
 clear hf hr h
 go_enter Tryz.func39,Tryz.ntmps39
 go_wp2_with fail
 refine (k1.out _ gw).mono ?_
 rintro e w' ⟨h,⟨⟨n1,os1⟩,rfl⟩⟩
 rcases h with⟨rfl,hn⟩|⟨k,hk,rfl,h1,h2⟩
 ·obtain rfl:r=0:=by rw[←HH.out];exact byOf_none hn
  clear hn
  dsimp only
  go_wp2_with fail
  go_ret
  exact Ret.mk' rfl gw
 ·have hid:(fAt gs k).id=r:=by
   rw[←HH.out]
   unfold byOf
   rw[find_at hk h1 h2]
  obtain⟨b,off,hA,hb,fc⟩:=featAt HR.out hk
  have hix:=idx_run (cap:=c) Tryz.underlying22 Tryz.sizeOf54 hA.out hk
  have c0:=fc.c0
  rw[hid] at c0
  have hk0:0≤(k:Int):=by omega
  clear h1 h2 hid fc hA
  dsimp only
  go_wp2_with fail
  go_ret
  exact Ret.mk' rfl gw
/-- What a chart shows at a place, below a limit. -/
def dshownOf (fs:List FV)(n:Int)(p:Pt):Int×Int:=if (FList fs&&(limOk n&&p.ok))=true then (min (shownTo fs p fs.length) n,0) else (0,1)
theorem DShown_v (fs:List FV)(A:Option Addr)(c:Nat)(n:Int)(p:Pt)(r:Int×Int)(w:World)(hr:FRd w w.heap.size A fs)(hc:fs.length≤100000000000000)(h:dshownOf fs n p=r) :
  Calls Tryz.prog 19 #[.slice A fs.length c,.int .i64 n,pt p.1 p.2] w (Ret w (.tuple #[.int .i64 r.1,.int .i64 r.2])):=by
 have hm:=hmix
 obtain⟨u,hu⟩:∃u,FList fs=u:=⟨_,rfl⟩
 obtain⟨l,hl⟩:∃u,limOk n=u:=⟨_,rfl⟩
 obtain⟨v,hv⟩:∃u,p.ok=u:=⟨_,rfl⟩
 have k1:=hide (fun W (hg:Grew w W)=>FList_v fs A c u W (hr.up hg) hc hu)
 have k2:=hide (fun W=>planeValid_v p.1 p.2 v W hv)
 have k3:=hide (fun W=>limited_v n l W hl)
 have k4:=hide (fun W (hg:Grew w W)=>Shown_v fs A c p _ W (hr.up hg) hc rfl)
 unfold shownOf at k4
 unfold dshownOf at h
 rw[hu,hv] at k4
 rw[hu,hv,hl] at h
 clear hu hv hl hr
 generalize shownTo fs p fs.length=m at *
 obtain⟨p1,p2⟩:=p
 dsimp only at *
 have hcase:u=false∨(u=true∧l=false)∨(u=true∧l=true∧v=false)∨(u=true∧l=true∧v=true):=by cases u<;>cases l<;>cases v<;>simp
 rcases hcase with rfl|⟨rfl,rfl⟩|⟨rfl,rfl,rfl⟩|⟨rfl,rfl,rfl⟩
 ·rw[if_neg (by simp)] at h
  subst h
  go_enter Tryz.func19,Tryz.ntmps19
  go_wp2_with (first|(go_at_call 41;with_reducible refine crv (k1.out _ gw) fun _ _=>?_;dsimp only)|(go_at_call 43;with_reducible refine crv (k2.out _) fun _ _=>?_;dsimp only)|(go_at_call 42;with_reducible refine crv (k3.out _) fun _ _=>?_;dsimp only))
  go_ret2
  exact Ret.mk' rfl gw
 ·rw[if_neg (by simp)] at h
  subst h
  go_enter Tryz.func19,Tryz.ntmps19
  go_wp2_with (first|(go_at_call 41;with_reducible refine crv (k1.out _ gw) fun _ _=>?_;dsimp only)|(go_at_call 43;with_reducible refine crv (k2.out _) fun _ _=>?_;dsimp only)|(go_at_call 42;with_reducible refine crv (k3.out _) fun _ _=>?_;dsimp only))
  go_ret2
  exact Ret.mk' rfl gw
 ·rw[if_neg (by simp)] at h
  subst h
  go_enter Tryz.func19,Tryz.ntmps19
  go_wp2_with (first|(go_at_call 41;with_reducible refine crv (k1.out _ gw) fun _ _=>?_;dsimp only)|(go_at_call 43;with_reducible refine crv (k2.out _) fun _ _=>?_;dsimp only)|(go_at_call 42;with_reducible refine crv (k3.out _) fun _ _=>?_;dsimp only))
  go_ret2
  exact Ret.mk' rfl gw
 ·rw[if_pos (by rfl)] at h
  subst h
  rw[if_pos (by rfl)] at k4
  dsimp only at k4
  go_enter Tryz.func19,Tryz.ntmps19
  go_wp2_with (first|(go_at_call 41;with_reducible refine crv (k1.out _ gw) fun _ _=>?_;dsimp only)|(go_at_call 43;with_reducible refine crv (k2.out _) fun _ _=>?_;dsimp only)|(go_at_call 42;with_reducible refine crv (k3.out _) fun _ _=>?_;dsimp only)|(go_at_call 44;with_reducible refine crv (k4.out _ gw) fun _ _=>?_;dsimp only))
  all_goals go_ret2
  all_goals exact Ret.mk' (ret_tup2 (ret_int (by omega)) rfl) gw
end Go.Proofs.YtblgdlnmabkpoaaGreat

/- Maps with integer keys that a call makes: the map as a function from keys to values. Package derive: the iterator over the features that count. -/
set_option maxHeartbeats 4000000
set_option maxRecDepth 100000
namespace Go.Proofs.YtblgdlnmabkpoaaGreat
open Go.RowKit Go.Sort
open Go.Maps (Keyed)
def heldR (v:Value):Option (DataW Value×List MemPlace):=some (.held v,[])
theorem ikeyed:Keyed Tryz.prog 3:=Maps.int_keyed Tryz.underlying3
/-- Block b is a map of at most n entries that is m. -/
def MapIs (w:World)(b n:Nat)(m:Int→Option Value):Prop:=∃D,w.ownsMap Tryz.prog 3 heldR b n D∧Maps.IsMap D∧∀x,(Lit.int .i64 x).wf=true→Maps.has D (.int .i64 x)=(m x).isSome∧∀z,D.atKey (.int .i64 x) z=match m x with|some v=>.held v|none=>z
theorem MapIs.made (w:World):MapIs (w.alloc (.map #[] 0)) w.heap.size 0 (fun _=>none) :=
 ⟨_,World.ownsMap_made w Tryz.prog 3 heldR,Maps.isMap_empty,fun _ _=>⟨rfl,fun _=>rfl⟩⟩
theorem MapIs.lt {w:World}{b n:Nat}{m:Int→Option Value}(h:MapIs w b n m):b<w.heap.size:=let ⟨_,h,_⟩:=h;h.lt
theorem MapIs.kept {w w':World}{b n:Nat}{m:Int→Option Value}{row:Option Nat}(h:MapIs w b n m)(hg:w.grownBy w' row)(hne:some b≠row):MapIs w' b n m :=
 let ⟨D,h1,h2⟩:=h;⟨D,h1.kept hg hne,h2⟩
theorem MapIs.block {w w':World}{b n:Nat}{m:Int→Option Value}(h:MapIs w b n m)(hb:w'.heap[b]?=w.heap[b]?):MapIs w' b n m:=by
 obtain⟨D,⟨es,clock,h0,h1⟩,h2⟩:=h
 exact⟨D,⟨es,clock,hb.trans h0,h1⟩,h2⟩
theorem MapIs.up {w w':World}{b n:Nat}{m:Int→Option Value}(h:MapIs w b n m)(hg:Grew w w'):MapIs w' b n m:=h.block (hg.below.block b h.lt)
theorem ikey (x:Int)(h:(Lit.int .i64 x).wf=true):keyOf Tryz.prog 3 (.int .i64 x)=some (.int .i64 x):=Maps.keyOf_int_mk Tryz.underlying3 h
theorem held_val {D:DataW Value}{x:Int}{m:Int→Option Value}{v z:Value}{ps:List MemPlace}(h:∀z,D.atKey (.int .i64 x) z=match m x with|some v=>.held v|none=>z)(hv:heldR v=some (D.atKey (.int .i64 x) (.held z),ps)):v=(m x).getD z:=by
 rw[h] at hv
 unfold heldR at hv
 cases hm:m x with
 | none=>rw[hm] at hv;injection hv with hv;injection hv with hv _;injection hv
 | some u=>rw[hm] at hv;injection hv with hv;injection hv with hv _;injection hv
theorem MapIs.look1 {w:World}{b n:Nat}{m:Int→Option Value}(h:MapIs w b n m){t e:TypeId}(ht:Tryz.prog.underlying t=some (.map 3 e)){z:Value}(hz:(zeroValue e).run Tryz.prog w=.ok z w){x:Int}(hx:(Lit.int .i64 x).wf=true) :
  (Instr.lookup t (.map (some b)) (.int .i64 x) false).run Tryz.prog w=.ok ((m x).getD z) w:=by
 obtain⟨D,h1,_,h3⟩:=h
 obtain⟨v,ps,hrun,hv⟩:=h1.lookup ikeyed ht hz (zd:=.held z) (zp:=[]) rfl (ikey x hx)
 rw[hrun,held_val (h3 x hx).2 hv]
def updM (m:Int→Option Value)(k:Int)(v:Value):Int→Option Value:=fun x=>if x=k then some v else m x
theorem MapIs.of_put {w:World}{b n:Nat}{m:Int→Option Value}{D:DataW Value}{k:Int}{v:Value}(hk:(Lit.int .i64 k).wf=true)(h1:w.ownsMap Tryz.prog 3 heldR b n (D.put (.int .i64 k) (.held v)))(h2:Maps.IsMap D)(h3:∀x,(Lit.int .i64 x).wf=true→Maps.has D (.int .i64 x)=(m x).isSome∧∀z,D.atKey (.int .i64 x) z=match m x with|some v=>.held v|none=>z):MapIs w b n (updM m k v):=by
 have hkl:WideAt.IsKeyLit (.int .i64 k):=by simp[WideAt.IsKeyLit]
 refine⟨_,h1,h2.put _ _,fun x hx=>?_⟩
 unfold updM
 by_cases e:x=k
 ·subst e
  rw[if_pos rfl]
  exact⟨Maps.has_put_same h2 hkl _,fun z=>Maps.atKey_put_same h2 hkl _ z⟩
 ·rw[if_neg e]
  have hne:Lit.int .i64 x≠.int .i64 k:=fun h=>e (by injection h)
  exact⟨(Maps.has_put_other hne _).trans (h3 x hx).1,fun z=>(Maps.atKey_put_other hne _ z).trans ((h3 x hx).2 z)⟩
theorem wf64 {x:Int}(h:-9223372036854775808≤x∧x≤9223372036854775807):(Lit.int .i64 x).wf=true:=WalkArith.wf_i64 (by omega)
section
variable {w:World} {ops:Array Oper} {rest:List Oper} {o:Oper} {a:Act} {Q:Exit→Act→World→Prop} {b n:Nat} {mp:Int→Option Value}
theorem wpList_look (hg:o.guard=none)(m x:Operand)(t:TypeId)(hop:o.op=Op.lookup t m x true)(e:TypeId)(ht:Tryz.prog.underlying t=some (.map 3 e)){z:Value}(hz:(zeroValue e).run Tryz.prog w=.ok z w)
  (hm:a.eval m=.map (some b)) (h:MapIs w b n mp) (k:Int) (hx:a.eval x=.int .i64 k) (hk:(Lit.int .i64 k).wf=true) (hK:wpList Tryz.prog ops Q rest (a.put o.dst (.tuple #[(mp k).getD z,.bool (mp k).isSome])) w):wpList Tryz.prog ops Q (o::rest) a w:=by
 obtain⟨D,h1,_,h3⟩:=h
 refine wpList_lookup_own_ok w hg m x t hop 3 e ikeyed ht heldR hz (.held z) [] rfl b n D hm h1 _ _ hx (ikey k hk) fun v ps hv=>?_
 rw[(h3 k hk).1,held_val (h3 k hk).2 hv]
 exact hK
theorem wpList_store (hg:o.guard=none)(m x v:Operand)(t:TypeId)(hop:o.op=Op.mapUpdate t m x v)(e:TypeId)(ht:Tryz.prog.underlying t=some (.map 3 e))
  (hm:a.eval m=.map (some b)) (h:MapIs w b n mp) (hn:n<maxLen) (k:Int) (u:Value) (hx:a.eval x=.int .i64 k) (hv:a.eval v=u) (hk:(Lit.int .i64 k).wf=true)
  (hK:∀w',MapIs w' b (n+1) (updM mp k u)→w.grownBy w' (some b)→wpList Tryz.prog ops Q rest (a.put o.dst undef) w'):wpList Tryz.prog ops Q (o::rest) a w:=by
 obtain⟨D,h1,h2,h3⟩:=h
 exact wpList_mapUpdate_own w hg m x v t hop 3 e ikeyed ht heldR b n D hm h1 hn _ _ _ hx hv (ikey k hk) (.held u) [] rfl fun w' h4 h5=>hK w' (MapIs.of_put hk h4 h2 h3) h5
variable {F:Fence} {nF:Nat}
theorem wpListIn_look (hg:o.guard=none)(m x:Operand)(t:TypeId)(hop:o.op=Op.lookup t m x true)(e:TypeId)(ht:Tryz.prog.underlying t=some (.map 3 e)){z:Value}(hz:(zeroValue e).run Tryz.prog w=.ok z w)
  (hm:a.eval m=.map (some b)) (h:MapIs w b n mp) (k:Int) (hx:a.eval x=.int .i64 k) (hk:(Lit.int .i64 k).wf=true) (hK:wpListIn F nF Tryz.prog ops Q rest (a.put o.dst (.tuple #[(mp k).getD z,.bool (mp k).isSome])) w):wpListIn F nF Tryz.prog ops Q (o::rest) a w:=by
 obtain⟨D,h1,_,h3⟩:=h
 refine wpListIn_lookup_own_ok w hg m x t hop 3 e ikeyed ht heldR hz (.held z) [] rfl b n D hm h1 _ _ hx (ikey k hk) fun v ps hv=>?_
 rw[(h3 k hk).1,held_val (h3 k hk).2 hv]
 exact hK
theorem wpListIn_store (hg:o.guard=none)(m x v:Operand)(t:TypeId)(hop:o.op=Op.mapUpdate t m x v)(e:TypeId)(ht:Tryz.prog.underlying t=some (.map 3 e))
  (hm:a.eval m=.map (some b)) (h:MapIs w b n mp) (hn:n<maxLen) (k:Int) (u:Value) (hx:a.eval x=.int .i64 k) (hv:a.eval v=u) (hk:(Lit.int .i64 k).wf=true)
  (hK:∀w',MapIs w' b (n+1) (updM mp k u)→w.grownBy w' (some b)→wpListIn F nF Tryz.prog ops Q rest (a.put o.dst undef) w'):wpListIn F nF Tryz.prog ops Q (o::rest) a w:=by
 obtain⟨D,h1,h2,h3⟩:=h
 exact wpListIn_mapUpdate_own w hg m x v t hop 3 e ikeyed ht heldR b n D hm h1 hn _ _ _ hx hv (ikey k hk) (.held u) [] rfl fun w' h4 h5=>hK w' (MapIs.of_put hk h4 h2 h3) h5
end
end Go.Proofs.YtblgdlnmabkpoaaGreat
namespace Go.Proofs.YtblgdlnmabkpoaaGreat
open Go.RowKit Go.Sort Go.Lib
attribute [local go_sem] Steady steadyUpon
attribute [local go_sem ↓] hs_dr lt_add_r lt_add_r2 lt_add_r3 lt_add_r4 lt_add_r5 lt_add_r6
attribute [local go_sem] cell?_gd frozen?_gd setCell_gd size_grow tape_grow cell?_grow' frozen?_grow' setCell_grow' grow_grow grow_dr grow_drew dr_dr dr_drew drew_dr dr_alloc dr_setCell dr_cell dr_frozen dr_tape dr_drawn
attribute [local irreducible] wpSteady
/-- A feature that counts is named by its index. -/
abbrev CI (fs:List FV)(lim:Int):Type:={ i:Fin fs.length // countB (fAt fs i.1) lim=true }
def ciN {fs:List FV}{lim:Int}(x:CI fs lim):Nat:=x.1.1
def encC (fs:List FV)(lim:Int)(x:CI fs lim):Array Value:=#[(fAt fs (ciN x)).val]
def countsTo (fs:List FV)(lim:Int)(k:Nat):List Nat:=(List.range k).filter fun i=>countB (fAt fs i) lim
theorem countsTo_yes {fs:List FV}{lim:Int}{k:Nat}(h:countB (fAt fs k) lim=true):countsTo fs lim (k+1)=countsTo fs lim k++[k]:=by
 unfold countsTo
 rw[List.range_succ,List.filter_append]
 simp[h]
theorem countsTo_no {fs:List FV}{lim:Int}{k:Nat}(h:countB (fAt fs k) lim=false):countsTo fs lim (k+1)=countsTo fs lim k:=by
 unfold countsTo
 rw[List.range_succ,List.filter_append]
 simp[h]
theorem countsTo_len (fs:List FV)(lim:Int)(k:Nat):(countsTo fs lim k).length≤k:=by
 have:=List.length_filter_le (fun i=>countB (fAt fs i) lim) (List.range k)
 rw[List.length_range] at this
 exact this
theorem dall_any (A:Option Addr)(n c:Nat)(lim:Int)(w:World) :
  Calls Tryz.prog 25 #[.agg #[.slice A n c,.int .i64 lim]] w fun e w'=>e=.returned (.func (.func 53) #[] #[.pointer (some ⟨w.heap.size,0,none⟩)])∧w.alloc (.cells #[.slice A n c,.int .i64 lim] 62 (0,0))=w':=by
 go_enter Tryz.func25,Tryz.ntmps25
 go_wp2
 go_ret
 exact⟨rfl,rfl⟩
theorem dall_stops (n K:Nat)(M:Nat→TypeId→Prop)(fs:List FV)(A:Option Addr)(c B:Nat)(lim:Int)(w:World)(hM1:∀b T,M b T→K≤b)(hM2:∀T,¬ M B T)(hM3:∀b,w.heap.size≤b→¬ M b 54)(hB:w.heap[B]?=some (.cells #[.slice A fs.length c,.int .i64 lim] 62 (0,0)))
  (hr:Rd w K 9 A (fs.map FV.cells)) (hK:K≤w.heap.size) (hl:fs.length≤1000000) :
  SeqStopsK Fence.wide n Tryz.prog 53 #[.pointer (some ⟨B,0,none⟩)] (encC fs lim) (KpM M) (fun xs=>xs.map ciN=countsTo fs lim fs.length) (fun pre=>∃k,k≤fs.length∧pre.map ciN=countsTo fs lim k) fs.length w:=by
 intro l J Jx W hW hJ hJx hY h0
 have hm:=hmix
 have HR:=hide ((hr.below (hW.mono hK)))
 have hBW:W.heap[B]?=some _:=(hW.block B (blk_lt hB)).trans hB
 have c0:W.cell? ⟨B,0,none⟩=some (.slice A fs.length c):=by rw[blk_cell hBW];rfl
 have c1:W.cell? ⟨B,1,none⟩=some (.int .i64 lim):=by rw[blk_cell hBW];rfl
 have hMK:Hid (∀b T,b<K→¬ M b T):=hide (fun b T hb h=>by have:=hM1 b T h;omega)
 have hMB:Hid (∀T,¬ M B T):=hide hM2
 have hMW:Hid (∀b,w.heap.size≤b→¬ M b 54):=hide hM3
 have hKW:K≤W.heap.size:=Nat.le_trans hK hW.size
 have hwW:=hW.size
 have HJ:=hide hJ
 have HJx:=hide hJx
 have HY:=hide hY
 have H0:=hide h0
 clear hr hM1 hM2 hM3 hJ hJx hY h0 hW hB hBW
 refine callsIn_of_wp Tryz.func53 rfl trivial ?_ rfl
 simp only[Tryz.ntmps53,List.size_toArray,List.length_cons,List.length_nil,Nat.reduceAdd,Nat.reduceSub,Array.replicate_succ,Array.replicate_zero,List.push_toArray,List.append_toArray,List.nil_append,List.cons_append]
 gi_wp2_with fail
 gi_loopw [8] (fun i wr=>∃ (k:Nat) (pre:List (CI fs lim)),k≤fs.length∧i=.int .i64 k∧pre.map ciN=countsTo fs lim k∧J pre wr∧Rd wr K 9 A (fs.map FV.cells)∧wr.cell? ⟨B,0,none⟩=some (.slice A fs.length c)∧wr.cell? ⟨B,1,none⟩=some (.int .i64 lim)∧W.heap.size≤wr.heap.size) (fun i _=>fs.length-(intOf i).toNat)
 case atStart=>exact⟨0,[],by omega,rfl,rfl,H0.out,HR.out,c0,c1,Nat.le_refl _⟩
 case round =>
  obtain⟨k,pre,hk,rfl,hpre,hJ,hrd,hcB,hcB2,hsz⟩:=hrel
  have hplen:pre.length≤k:=by have:=congrArg List.length hpre;have:=countsTo_len fs lim k;simp only[List.length_map] at *;omega
  have HPRE:=hide hpre
  clear c0 c1 hpre
  by_cases hlt:k<fs.length
  ·obtain⟨b,off,hA,hb,fc⟩:=rowAt hrd hlt
   have hix:=idx_run (cap:=c) Tryz.underlying22 Tryz.sizeOf54 hA.out hlt
   have hbw:b<wr.heap.size:=by omega
   have hBw:B<wr.heap.size:=cell_lt hcB
   obtain⟨u,hu⟩:∃u,countB (fAt fs k) lim=u:=⟨_,rfl⟩
   have HU:=hide hu
   obtain⟨f,hf⟩:∃f,fAt fs k=f:=⟨_,rfl⟩
   have HFK:=hide hf
   rw[hf] at fc hu
   have kc:=hide (fun W'=>counts_v A fs.length c lim f u W' hu)
   obtain⟨d0,d1,d2,d3,d4,d5,d6,d7,d8⟩:=fc
   have HRD:=hide hrd
   have HPL:=hide hplen
   have HJk:=hide hJ
   have HcB:=hide hcB
   have HcB2:=hide hcB2
   clear hrd hJ hplen hf hu hA
   gi_wp2_with fail
   refine⟨trivial,(fun h=>by cases h),?_⟩
   refine (callsIn_wide.2 (kc.out _)).mono ?_
   rintro e w' ⟨rfl,⟨n1,os1⟩,rfl⟩
   dsimp only
   have hg5:Grew wr (grow (dr (wr.alloc (.cells #[.int .i64 f.id,.int .i64 f.kind,.int .i64 f.x,.int .i64 f.y,.int .i64 f.rad,.slice f.aA f.area.length f.ac,.int .i64 f.dep,.int .i64 f.sym,.slice f.sA f.secs.length f.sc] 54)) n1) os1):=gw
   cases u
   ·have HET:Hid (pre.map ciN=countsTo fs lim (k+1)):=hide (by rw[HPRE.out,countsTo_no HU.out])
    have hJ5:=HJ.out _ _ _ none HJk.out (hg5.grownBy none) (fun r hr=>by cases hr)
    have HJ5:=hide hJ5
    have HG5:=hide hg5
    clear hJ5 hg5
    gi_wp2_with fail
    refine⟨(fun _ h=>by cases h),?_⟩
    gi_wp2_with fail
    go_roundw
    case rel=>exact⟨k+1,pre,by omega,by go_num,HET.out,HJ5.out,HRD.out.grew HG5.out (by omega),(HG5.out.below.cell (p:=⟨B,0,none⟩) hBw).trans HcB.out,(HG5.out.below.cell (p:=⟨B,1,none⟩) hBw).trans HcB2.out,by have:=HG5.out.below.size;omega⟩
    case measure=>simp[intOf];omega
   ·have hk0:=HU.out
    have HET:Hid ((pre++[(⟨⟨k,hlt⟩,hk0⟩:CI fs lim)]).map ciN=countsTo fs lim (k+1)):=hide (by rw[List.map_append,HPRE.out,countsTo_yes hk0];rfl)
    have henc:encC fs lim ⟨⟨k,hlt⟩,hk0⟩=#[f.val]:=by
     show #[(fAt fs k).val]=#[f.val]
     rw[HFK.out]
    have hJ5:=HJ.out _ _ _ none HJk.out (hg5.grownBy none) (fun r hr=>by cases hr)
    obtain⟨fn1,tm1,as1,bo1,hy1,hR1⟩:=HY.out _ ⟨⟨k,hlt⟩,hk0⟩ _ hJ5 (by have:=HPL.out;omega)
    rw[henc] at hy1
    have HR1:=hide hR1
    have HR5:=hide (HRD.out.grew hg5 (by omega))
    have HC5:=hide ((hg5.below.cell (p:=⟨B,0,none⟩) hBw).trans HcB.out)
    have HC6:=hide ((hg5.below.cell (p:=⟨B,1,none⟩) hBw).trans HcB2.out)
    have hbx:(grow (dr (wr.alloc (.cells #[.int .i64 f.id,.int .i64 f.kind,.int .i64 f.x,.int .i64 f.y,.int .i64 f.rad,.slice f.aA f.area.length f.ac,.int .i64 f.dep,.int .i64 f.sym,.slice f.sA f.secs.length f.sc] 54)) n1) os1).heap[wr.heap.size]?=some (.cells #[.int .i64 f.id,.int .i64 f.kind,.int .i64 f.x,.int .i64 f.y,.int .i64 f.rad,.slice f.aA f.area.length f.ac,.int .i64 f.dep,.int .i64 f.sym,.slice f.sA f.secs.length f.sc] 54 (0,0)):=(heap_grow_old _ _ (by simp[hs_dr])).trans (heap_alloc_at _ _ _ rfl)
    have HBX:=hide hbx
    clear hbx
    clear hR1 hg5 hJ5 henc
    gi_wp2_with fail
    refine⟨(fun h=>by cases h),?_⟩
    refine HR1.out.mono ?_
    rintro e W3 (⟨rfl,hJ3,hk3⟩|⟨rfl,hJx3⟩)
    ·have hrd3:=HR5.out.kpm hk3 hMK.out
     have hc3:=hk3.cell hMB.out HC5.out
     have hc4:=hk3.cell hMB.out HC6.out
     have HJ3:=hide hJ3
     have HC3:=hide hc3
     have HC4:=hide hc4
     have HRD3:=hide hrd3
     have hb3:=blk_lt (hk3 _ _ _ _ (hMW.out _ (by omega)) HBX.out)
     have hB3:=cell_lt hc3
     clear hc3 hc4 hrd3 hk3 hy1 d0 d1 d2 d3 d4 d5 d6 d7 d8
     clear hJ3
     dsimp only
     gi_wp2_with fail
     go_roundw
     case rel=>exact⟨k+1,_,by omega,by go_num,HET.out,HJ3.out,HRD3.out,HC3.out,HC4.out,by omega⟩
     case measure=>simp[intOf];omega
    ·have HX:=hide hJx3
     clear hJx3 hy1
     dsimp only
     gi_wp2_with fail
     refine bodyPost_ret (results_none rfl _ _ _) rfl ?_
     exact⟨⟨_,rfl⟩,.inr ⟨_,⟨k+1,by omega,HET.out⟩,HX.out⟩⟩
  ·obtain rfl:k=fs.length:=by omega
   gi_wp2
   go_end0
   exact⟨⟨_,rfl⟩,.inl ⟨_,HPRE.out,hJ⟩⟩
set_option maxHeartbeats 8000000
set_option maxRecDepth 100000
/-- A list by its IDs. -/
def idxM (fs:List FV)(x:Int):Option Value:=(fs.find? fun f=>decide (f.id=x)).map FV.val
theorem idxM_succ {fs:List FV}{k:Nat}(hk:k<fs.length)(hd:∀j,j<k→(fAt fs j).id≠(fAt fs k).id):idxM (fs.take (k+1))=updM (idxM (fs.take k)) (fAt fs k).id (fAt fs k).val:=by
 funext x
 unfold idxM updM
 rw[List.take_add_one,fAt_get hk]
 simp only[Option.toList]
 rw[List.find?_append]
 by_cases e:x=(fAt fs k).id
 ·subst e
  rw[if_pos rfl]
  have h0:(fs.take k).find? (fun f=>decide (f.id=(fAt fs k).id))=none:=by
   rw[List.find?_eq_none]
   intro f hf
   obtain⟨j,hj,he⟩:=List.getElem_of_mem hf
   rw[List.length_take] at hj
   have:=hd j (by omega)
   have a:=fAt_get (fs:=fs) (k:=j) (by omega)
   rw[List.getElem?_eq_getElem (by omega)] at a
   injection a with a
   rw[List.getElem_take,a] at he
   rw[←he]
   simpa using this
  rw[h0]
  simp
 ·rw[if_neg e]
  cases h:(fs.take k).find? (fun f=>decide (f.id=x)) with
  | some f=>rfl
  | none =>
   have:¬ (fAt fs k).id=x:=fun h=>e h.symm
   simp[this]
def IndexP (w:World)(fs:List FV)(e:Ending)(w':World):Prop:=∃b,e=.returned (.map (some b))∧w.heap.size≤b∧MapIs w' b fs.length (idxM fs)∧Grew w w'
theorem index_v (fs:List FV)(A:Option Addr)(c:Nat)(w:World)(hr:FRd w w.heap.size A fs)(hv:FList fs=true) :
  Calls Tryz.prog 32 #[.slice A fs.length c] w (IndexP w fs):=by
 have hm:=hmix
 have hmm:=@run_makeMap Tryz.prog
 have hlen:=list_len hv
 have HR:=hide hr.row
 have HA:=hide (list_asc hv)
 have HI:=hide (fun k hk=>list_ids hv (k:=k) hk)
 clear hr hv
 go_enter Tryz.func32,Tryz.ntmps32
 go_wp2_with fail
 go_loopw [9] (fun i wr=>∃k:Nat,k≤fs.length∧i=.int .i64 k∧Grew w wr∧MapIs wr w.heap.size k (idxM (fs.take k))) (fun i _=>fs.length-(intOf i).toNat)
 case atStart=>exact⟨0,by omega,rfl,gw,MapIs.made w⟩
 case round =>
  obtain⟨k,hk,rfl,hg,hmp⟩:=hrel
  have HG:=hide hg
  have HM:=hide hmp
  clear hg hmp hmm
  by_cases hlt:k<fs.length
  ·obtain⟨b,off,hA,hb,fc⟩:=rowAt (HR.out.up HG.out) hlt
   have hix:=idx_run (cap:=c) Tryz.underlying22 Tryz.sizeOf54 hA.out hlt
   have hst:=idxM_succ hlt (fun j hj=>by have:=HA.out j k hj hlt;omega)
   have hid:=HI.out k hlt
   obtain⟨f,hf⟩:∃f,fAt fs k=f:=⟨_,rfl⟩
   rw[hf] at fc hst hid
   have HST:=hide hst
   have hwf:(Lit.int .i64 f.id).wf=true:=wf64 (by omega)
   obtain⟨c0,c1,c2,c3,c4,c5,c6,c7,c8⟩:=fc
   clear hA hst hf
   go_wp2_with (at_mapUpdate;refine wpList_store rfl (.tmp 13) (.tmp 15) (.tmp 16) 68 rfl 54 Tryz.underlying68 rfl (HM.out.up gw) (by unfold maxLen;omega) _ _ rfl rfl hwf ?_;intro w1 hm1 hg1)
   have HG1:Hid (Grew w w1):=hide (Grew.of_below ((HG.out.trans gw).below.grown hg1 (HG.out.trans gw).below.size (fun q hq=>by injection hq with hq;omega)))
   have HM1:Hid (MapIs w1 w.heap.size (k+1) (idxM (fs.take (k+1)))):=hide (by rw[HST.out];exact hm1)
   clear hm1 hg1
   go_wp2_with fail
   go_roundw
   case rel=>exact⟨k+1,by omega,by go_num,HG1.out,HM1.out⟩
   case measure=>simp[intOf];omega
  ·obtain rfl:k=fs.length:=by omega
   rw[List.take_length] at HM
   go_wp2_with fail
   go_ret
   exact⟨_,rfl,Nat.le_refl _,HM.out,HG.out⟩
/-- Proofs by what they are from. -/
def nextM (ms:List Pt)(x:Int):Option Value:=(ms.find? fun q=>decide (q.1=x)).map fun q=>.int .i64 q.2
theorem nextM_succ {ms:List Pt}{k:Nat}(hk:k<ms.length)(hd:∀j,j<k→(cor ms j).1≠(cor ms k).1):nextM (ms.take (k+1))=updM (nextM (ms.take k)) (cor ms k).1 (.int .i64 (cor ms k).2):=by
 funext x
 unfold nextM updM
 rw[List.take_add_one,cor_get hk]
 simp only[Option.toList]
 rw[List.find?_append]
 by_cases e:x=(cor ms k).1
 ·subst e
  rw[if_pos rfl]
  have h0:(ms.take k).find? (fun q=>decide (q.1=(cor ms k).1))=none:=by
   rw[List.find?_eq_none]
   intro f hf
   obtain⟨j,hj,he⟩:=List.getElem_of_mem hf
   rw[List.length_take] at hj
   have:=hd j (by omega)
   have a:=cor_get (ps:=ms) (k:=j) (by omega)
   rw[List.getElem?_eq_getElem (by omega)] at a
   injection a with a
   rw[List.getElem_take,a] at he
   rw[←he]
   simpa using this
  rw[h0]
  simp
 ·rw[if_neg e]
  cases h:(ms.take k).find? (fun q=>decide (q.1=x)) with
  | some f=>rfl
  | none =>
   have:¬ (cor ms k).1=x:=fun h=>e h.symm
   simp[this]
theorem ord_at {ps:List Pt}(h:orderedOf ps=true){k:Nat}(hk:k<ps.length):lastFrom ps k<(cor ps k).1∧(cor ps k).1≤100000∧1≤(cor ps k).2∧(cor ps k).2≤100000:=by
 unfold orderedOf proofsTo at h
 rw[List.all_eq_true] at h
 have:=h k (List.mem_range.2 hk)
 unfold proofOk at this
 rw[decide_eq_true_eq] at this
 exact this
theorem ord_asc {ps:List Pt}(h:orderedOf ps=true):∀i j,i<j→j<ps.length→(cor ps i).1<(cor ps j).1:=by
 have hs:∀k,k+1<ps.length→(cor ps k).1<(cor ps (k+1)).1:=fun k hk=>by
  have:=(ord_at h (k:=k+1) hk).1
  unfold lastFrom at this
  rw[if_neg (by omega),Nat.add_sub_cancel] at this
  exact this
 intro i j hij
 induction j with
 | zero=>omega
 | succ j ih =>
  intro hj
  by_cases e:i=j
  ·subst e;exact hs i hj
  ·exact Int.lt_trans (ih (by omega) (by omega)) (hs j hj)
theorem ord_pos {ps:List Pt}(h:orderedOf ps=true){k:Nat}(hk:k<ps.length):1≤(cor ps k).1:=by
 by_cases h0:k=0
 ·subst h0
  have:=(ord_at h hk).1
  unfold lastFrom at this
  rw[if_pos rfl] at this
  omega
 ·have h1:=(ord_at h (k:=0) (by omega)).1
  unfold lastFrom at h1
  rw[if_pos rfl] at h1
  have:=ord_asc h 0 k (by omega) hk
  omega
theorem ord_len {ps:List Pt}(h:orderedOf ps=true):ps.length≤100000:=by
 have hk:∀k,k<ps.length→(k:Int)+1≤(cor ps k).1:=by
  intro k
  induction k with
  | zero=>intro hk;have:=ord_pos h hk;omega
  | succ k ih=>intro hk;have:=ih (by omega);have:=ord_asc h k (k+1) (by omega) hk;omega
 by_cases h0:ps.length=0
 ·omega
 ·have h1:=hk (ps.length-1) (by omega)
  have h2:=ord_at h (k:=ps.length-1) (by omega)
  omega
def againP (ms:List Pt)(p:Pt):Option Pt:=(ms.find? fun q=>decide (q.1=p.2)).map fun q=>(p.1,q.2)
def againTo (ps ms:List Pt)(k:Nat):List Pt:=(ps.take k).filterMap (againP ms)
def againOf (ps ms:List Pt):List Pt×Int:=if (orderedOf ps&&orderedOf ms)=true then (againTo ps ms ps.length,0) else ([],1)
theorem againTo_succ {ps ms:List Pt}{k:Nat}(h:k<ps.length):againTo ps ms (k+1)=match againP ms (cor ps k) with|some q=>againTo ps ms k++[q]|none=>againTo ps ms k:=by
 unfold againTo
 rw[List.take_add_one,cor_get h,List.filterMap_append]
 cases h:againP ms (cor ps k)<;>simp[h]
theorem againTo_len (ps ms:List Pt)(k:Nat):(againTo ps ms k).length≤k:=by
 unfold againTo
 refine Nat.le_trans (List.length_filterMap_le _ _) ?_
 rw[List.length_take]
 omega
/-- What a function hands back that makes lists of proofs. -/
def ProofR (w:World)(r:List Pt×Int)(e:Ending)(w':World):Prop:=∃A' c',e=.returned (.tuple #[.slice A' r.1.length c',.int .i64 r.2])∧Rd w' w'.heap.size 2 A' (r.1.map encD)∧Grew w w'
theorem prInf:(Tryz.prog.info? 50).map (fun i=>(i.zero,i.size,i.bytes))=some (some (.agg #[.int .i64 0,.int .i64 0]),2,16):=by kernel_rfl
theorem prInfo_parts:∃i,Tryz.prog.info? 50=some i∧i.zero=some (.agg #[.int .i64 0,.int .i64 0])∧i.size=2∧i.bytes=16:=by
 have h:=prInf
 cases hi:Tryz.prog.info? 50 with
 | none=>rw[hi] at h;simp at h
 | some i =>
  rw[hi] at h
  simp at h
  exact⟨i,rfl,h.1,h.2.1,h.2.2⟩
theorem pr_one (ss:List Pt):∀u∈ss.flatMap encD,u.oneCell'=true:=by
 intro u hu
 obtain⟨s,_,hs⟩:=List.mem_flatMap.1 hu
 simp[encD] at hs
 rcases hs with rfl|rfl<;>rfl
theorem Rd.litP (w:World)(x y:Int)(b:Nat)(T:TypeId)(hb:b=w.heap.size):Rd (w.alloc (.cells #[.int .i64 x,.int .i64 y] T)) (w.heap.size+1) 2 (some ⟨b,0,none⟩) ([(x,y)].map encD):=by
 have:=Rd.blkP (W:=w.alloc (.cells #[.int .i64 x,.int .i64 y] T)) [(x,y)] (heap_alloc_at _ _ b hb) rfl
 rwa [World.size_alloc'] at this
theorem Again_v (ps ms:List Pt)(A A':Option Addr)(c c':Nat)(w:World)(hr:Rd w w.heap.size 2 A (ps.map encD))(hr':Rd w w.heap.size 2 A' (ms.map encD))(hc:ps.length≤100000000000000)(hc':ms.length≤100000000000000) :
  Calls Tryz.prog 17 #[.slice A ps.length c,.slice A' ms.length c'] w (ProofR w (againOf ps ms)):=by
 have hm:=hmix
 have hmm:=@run_makeMap Tryz.prog
 obtain⟨u,hu⟩:∃u,orderedOf ps=u:=⟨_,rfl⟩
 obtain⟨v,hv⟩:∃u,orderedOf ms=u:=⟨_,rfl⟩
 have k1:=hide (fun W (hg:Grew w W)=>ordered_v ps A c u W (hr.up hg) (by omega) hu)
 have k2:=hide (fun W (hg:Grew w W)=>ordered_v ms A' c' v W (hr'.up hg) (by omega) hv)
 have hao:againOf ps ms=if (u&&v)=true then (againTo ps ms ps.length,0) else ([],1):=by
  unfold againOf
  rw[hu,hv]
 rw[hao]
 have HR:=hide hr
 have HR':=hide hr'
 have hcase:u=false∨(u=true∧v=false)∨(u=true∧v=true):=by cases u<;>cases v<;>simp
 rcases hcase with rfl|⟨rfl,rfl⟩|⟨rfl,rfl⟩
 ·rw[if_neg (by simp)]
  clear hu hv hr hr' hao hmm
  go_enter Tryz.func17,Tryz.ntmps17
  go_wp2_with (first|((go_at_call 31;first|with_reducible refine (k1.out _ gw).mono ?_|with_reducible refine (k2.out _ gw).mono ?_);rintro e w' ⟨rfl,⟨_,_⟩,rfl⟩;dsimp only))
  go_ret2
  exact⟨none,0,rfl,Rd.nil _ _ _ _,gw⟩
 ·rw[if_neg (by simp)]
  clear hu hv hr hr' hao hmm
  go_enter Tryz.func17,Tryz.ntmps17
  go_wp2_with (first|((go_at_call 31;first|with_reducible refine (k1.out _ gw).mono ?_|with_reducible refine (k2.out _ gw).mono ?_);rintro e w' ⟨rfl,⟨_,_⟩,rfl⟩;dsimp only))
  go_ret2
  exact⟨none,0,rfl,Rd.nil _ _ _ _,gw⟩
 ·rw[if_pos (by rfl)]
  obtain⟨i0,hi,hz0,hz1,hz2⟩:=prInfo_parts
  have HU:=hide hu
  have HV:=hide hv
  have hpl:=ord_len hu
  have hml:=ord_len hv
  clear hu hv hr hr' hao
  go_enter Tryz.func17,Tryz.ntmps17
  go_wp2_with fail
  refine (k1.out _ gw).mono ?_
  rintro e w1 ⟨rfl,hg1⟩
  have HG1:Hid (Grew w w1):=hide (Grew.trans gw hg1)
  clear hg1
  dsimp only
  go_wp2_with fail
  refine (k2.out _ (HG1.out.trans gw)).mono ?_
  rintro e w2 ⟨rfl,hg2⟩
  have HG2:Hid (Grew w w2):=hide (HG1.out.trans (Grew.trans gw hg2))
  clear hg2 k1 k2
  dsimp only
  go_wp2_with fail
  go_loopw [25] (fun i wr=>∃k:Nat,k≤ms.length∧i=.int .i64 k∧Grew w2 wr∧MapIs wr w2.heap.size k (nextM (ms.take k))) (fun i _=>ms.length-(intOf i).toNat)
  case atStart=>exact⟨0,by omega,rfl,gw,MapIs.made w2⟩
  case round =>
   obtain⟨k,hk,rfl,hg,hmp⟩:=hrel
   have HG:=hide hg
   have HM:=hide hmp
   clear hg hmp hmm
   by_cases hlt:k<ms.length
   ·obtain⟨b,off,hA,hb,h0,h1⟩:=ptAt (HR'.out.up (HG2.out.trans HG.out)) (cor_get hlt)
    have hix:=idx_run (cap:=c') Tryz.underlying24 Tryz.sizeOf50 hA.out hlt
    have hst:=nextM_succ hlt (fun j hj=>by have:=ord_asc HV.out j k hj hlt;omega)
    have hid:=ord_at HV.out hlt
    have hid2:=ord_pos HV.out hlt
    obtain⟨q,hq⟩:∃q,cor ms k=q:=⟨_,rfl⟩
    rw[hq] at h0 h1 hst hid hid2
    have HST:=hide hst
    have hwf:(Lit.int .i64 q.1).wf=true:=wf64 (by omega)
    obtain⟨q1,q2⟩:=q
    dsimp only at h0 h1 hwf
    clear hA hst hq hid hid2
    go_wp2_with (at_mapUpdate;refine wpList_store rfl (.tmp 29) (.tmp 31) (.tmp 33) 78 rfl 3 Tryz.underlying78 rfl (HM.out.up gw) (by unfold maxLen;omega) _ _ rfl rfl hwf ?_;intro w3 hm3 hg3)
    have HG3:Hid (Grew w2 w3):=hide (Grew.of_below ((HG.out.trans gw).below.grown hg3 (HG.out.trans gw).below.size (fun q hq=>by injection hq with hq;omega)))
    have HM3:Hid (MapIs w3 w2.heap.size (k+1) (nextM (ms.take (k+1)))):=hide (by rw[HST.out];exact hm3)
    clear hm3 hg3
    go_wp2_with fail
    go_roundw
    case rel=>exact⟨k+1,by omega,by go_num,HG3.out,HM3.out⟩
    case measure=>simp[intOf];omega
   ·obtain rfl:k=ms.length:=by omega
    rw[List.take_length] at HM
    have HW3:=hide (HG2.out.trans HG.out)
    go_wp2_with fail
    obtain⟨Wz,rfl⟩:∃z,z=wr:=⟨wr,rfl⟩
    go_loopw [9,37] (fun ov i wq=>∃k:Nat,k≤ps.length∧i=.int .i64 k∧Grew Wz wq∧wq.ownsRow Wz.heap.size 50 2 ov (againTo ps ms k).length ((againTo ps ms k).flatMap encD)) (fun _ i _=>ps.length-(intOf i).toNat)
    case atStart=>exact⟨0,by omega,rfl,gw,World.ownsRow_nil _ _ _ _⟩
    case round =>
     obtain⟨k,hk,rfl,hg,hown⟩:=hrel
     have HQ:=hide hg
     have HO:=hide hown
     have hal:=againTo_len ps ms k
     clear hg hown
     by_cases hlt:k<ps.length
     ·obtain⟨b,off,hA,hb,h0,h1⟩:=ptAt (HR.out.up (HW3.out.trans HQ.out)) (cor_get hlt)
      have hix:=idx_run (cap:=c) Tryz.underlying24 Tryz.sizeOf50 hA.out hlt
      have hst:=againTo_succ (ms:=ms) hlt
      have hid:=ord_at HU.out hlt
      obtain⟨p,hp⟩:∃p,cor ps k=p:=⟨_,rfl⟩
      rw[hp] at h0 h1 hst hid
      have hwf:(Lit.int .i64 p.2).wf=true:=wf64 (by omega)
      have hcase:(nextM ms p.2=none∧againTo ps ms (k+1)=againTo ps ms k)∨∃t,nextM ms p.2=some (.int .i64 t)∧againTo ps ms (k+1)=againTo ps ms k++[(p.1,t)]:=by
       unfold againP at hst
       unfold nextM
       cases hf:ms.find? (fun q=>decide (q.1=p.2)) with
       | none=>rw[hf] at hst;exact .inl ⟨rfl,hst⟩
       | some q=>rw[hf] at hst;exact .inr ⟨q.2,rfl,hst⟩
      obtain⟨p1,p2⟩:=p
      dsimp only at h0 h1 hwf hcase
      obtain⟨L,hL⟩:∃L,againTo ps ms k=L:=⟨_,rfl⟩
      rw[hL] at hal HO hcase
      clear hA hst hp hid hL
      rcases hcase with⟨hn,hst⟩|⟨t,hn,hst⟩
      ·have HN:=hide hn
       have HST:=hide hst
       clear hn hst
       go_wp2_with (at_lookup;refine wpList_look rfl (.tmp 42) (.tmp 44) 78 rfl 3 Tryz.underlying78 (Tryz.zeroValue3 _) rfl (HM.out.up (HQ.out.trans gw)) _ rfl hwf ?_;rw[HN.out];simp only[Option.getD_none,Option.isSome_none])
       go_wp2_with fail
       go_roundw
       case rel=>exact⟨k+1,by omega,by go_num,HQ.out.trans gw,by rw[HST.out];exact fown_grew HO.out gw⟩
       case measure=>simp[intOf];omega
      ·have HN:=hide hn
       have HST:=hide hst
       clear hn hst
       go_wp2_with (first|(at_lookup;refine wpList_look rfl (.tmp 42) (.tmp 44) 78 rfl 3 Tryz.underlying78 (Tryz.zeroValue3 _) rfl (HM.out.up (HQ.out.trans gw)) _ rfl hwf ?_;rw[HN.out];simp only[Option.getD_some,Option.isSome_some])|(at_builtin;refine AppG3.stop ?_))
       refine AppG3.go ?_
       refine wpList_append_any _ rfl (.tmp 49) (.tmp 54) _ rfl Wz.heap.size 50 i0 _ 2 16 Tryz.underlying24 hi hz0 hz1 hz2 rfl (by omega) _ L.length (L.flatMap encD) rfl (fown_grew HO.out gw) _ (some ⟨_,0,none⟩) 1 1 ([(p1,t)].flatMap encD) rfl ((Rd.litP _ p1 t _ _ (by simp[hs_dr])).reads encD_len (by omega)) (pr_one _) (by simp only[maxLen];omega) (by omega) (by have:=HQ.out.below.size;simp[hs_dr];omega) ?_
       intro v' w1' hown1 hg1 _
       have HO1:=hide hown1
       have HG1':Hid (Grew Wz w1'):=hide (ggrown (HQ.out.trans gw) (fown_grew HO.out gw) (Nat.le_refl _) hg1)
       clear hown1 hg1
       go_wp2_with fail
       go_roundw
       case rel=>exact⟨k+1,by omega,by go_num,HG1'.out,by rw[HST.out,List.length_append,List.flatMap_append];exact HO1.out⟩
       case measure=>simp[intOf];omega
     ·obtain rfl:k=ps.length:=by omega
      obtain⟨Av,cv,rfl,_,hrd⟩:=Rd.of_own (f:=encD) encD_len HO.out rfl
      have HRD:=hide hrd
      clear hrd
      go_wp2_with fail
      go_ret2
      exact⟨Av,cv,rfl,HRD.out.up gw,HW3.out.trans (HQ.out.trans gw)⟩
set_option maxHeartbeats 8000000
set_option maxRecDepth 100000
attribute [local go_sem] Oper.semAt_some
/-- Behind 'out = append(out, ..)': the box, the row, and what lay. -/
theorem fboxed_app {W w1:World}{n₀ n₁ B:Nat}{t e:TypeId}{size:Nat}{v v':Value}{k m:Nat}{xs ys:List Value}
  (hv:Boxed W B t v) (hte:t≠e) (hrow:W.ownsRow n₀ e size v k xs) (hB:n₁≤B) (h01:n₁≤n₀) (hown':w1.ownsRow n₀ e size v' m ys) (hgrow:W.grownBy w1 v.ownBlock) :
  Boxed w1 B t v∧Boxed (w1.setCell ⟨B,0,none⟩ v') B t v'∧(w1.setCell ⟨B,0,none⟩ v').ownsRow n₀ e size v' m ys∧KeepsOthers W (w1.setCell ⟨B,0,none⟩ v')∧Below n₁ W (w1.setCell ⟨B,0,none⟩ v') ∧
  ∀b cs T fr,b≠B→¬ (n₀≤b∧T=e)→W.heap[b]?=some (.cells cs T fr)→(w1.setCell ⟨B,0,none⟩ v').heap[b]?=some (.cells cs T fr):=by
 have hv1:Boxed w1 B t v:=hv.kept hgrow (hv.not_row hte hrow)
 have hcell:∀j o,v.ownBlock=some j→W.heap[j]?=some o→∃cs,o=.cells cs e (0,0):=by
  intro j o ej hj
  rcases hrow.2 with⟨rfl,_⟩|⟨g,cap,cur,rfl,_,hgb,_⟩
  ·simp[Value.ownBlock] at ej
  ·obtain rfl:g=j:=by simpa[Value.ownBlock] using ej
   rw[hgb] at hj
   injection hj with hj
   exact⟨cur,hj.symm⟩
 refine⟨hv1,hv1.set v',hown'.kept (grownBy_setCell' w1 B v') (.inr (hv1.not_row hte hown').symm),?_,?_,?_⟩
 ·refine (KeepsOthers.of_grownBy hgrow fun j o ej hj=>?_).trans (KeepsOthers.setCell _ _ _)
  obtain⟨cs,rfl⟩:=hcell j o ej hj
  rfl
 ·refine ((Below.refl n₁ W).grown hgrow (Nat.le_trans hB (Nat.le_of_lt hv.lt)) fun j ej=>?_).setCell (p:=⟨B,0,none⟩) hB v'
  exact Nat.le_trans h01 (hrow.lt j ej).1
 ·intro b cs T fr hbB hT hb
  rw[Below.heap_setCell w1 ⟨B,0,none⟩ v' b hbB,hgrow.block b (blk_lt hb) ?_]
  ·exact hb
  ·intro e2
   refine hT ⟨(hrow.lt b e2.symm).1,?_⟩
   obtain⟨cs',h⟩:=hcell b _ e2.symm hb
   injection h
theorem inInf:(Tryz.prog.info? 3).map (fun i=>(i.zero,i.size,i.bytes))=some (some (.int .i64 0),1,8):=by kernel_rfl
theorem inInfo_parts:∃i,Tryz.prog.info? 3=some i∧i.zero=some (.int .i64 0)∧i.size=1∧i.bytes=8:=by
 have h:=inInf
 cases hi:Tryz.prog.info? 3 with
 | none=>rw[hi] at h;simp at h
 | some i =>
  rw[hi] at h
  simp at h
  exact⟨i,rfl,h.1,h.2.1,h.2.2⟩
theorem encN_len (n:Int):(encN n).length=1:=rfl
/-- The IDs of those for which nothing stands. -/
def unpS (fs gs:List FV)(is:List Nat):List Int:=(is.filter fun i=>decide (byOf (fAt fs i) gs=0)).map fun i=>(fAt fs i).id
def unprovedOf (fs gs:List FV)(lim:Int):List Int×Int:=if askedOf fs gs lim=true then (unpS fs gs (countsTo fs lim fs.length),0) else ([],1)
def IntsR (w:World)(r:List Int×Int)(e:Ending)(w':World):Prop:=∃A' c',e=.returned (.tuple #[.slice A' r.1.length c',.int .i64 r.2])∧Rd w' w'.heap.size 1 A' (r.1.map encN)∧Grew w w'
theorem unpS_snoc (fs gs:List FV)(is:List Nat)(i:Nat):unpS fs gs (is++[i])=if byOf (fAt fs i) gs=0 then unpS fs gs is++[(fAt fs i).id] else unpS fs gs is:=by
 unfold unpS
 rw[List.filter_append]
 by_cases h:byOf (fAt fs i) gs=0
 ·rw[if_pos h]
  simp[h]
 ·rw[if_neg h]
  simp[h]
theorem unpS_len (fs gs:List FV)(is:List Nat):(unpS fs gs is).length≤is.length:=by
 unfold unpS
 rw[List.length_map]
 exact List.length_filter_le _ _
/-- Which blocks a round may write: the box, and rows that are newer. -/
def MBox (Z R:Nat)(U:TypeId)(b:Nat)(T:TypeId):Prop:=b=Z∨(R≤b∧T=U)
theorem asked_split {fs gs:List FV}{lim:Int}(h:askedOf fs gs lim=true):FList fs=true∧FList gs=true∧limOk lim=true:=by
 unfold askedOf at h
 simpa using h
theorem Unproved_v (fs gs:List FV)(A A':Option Addr)(c c':Nat)(lim:Int)(w:World)(hr:FRd w w.heap.size A fs)(hr':FRd w w.heap.size A' gs)(hc:fs.length≤100000000000)(hc':gs.length≤100000000000) :
  Calls Tryz.prog 12 #[.slice A fs.length c,.slice A' gs.length c',.int .i64 lim] w (IntsR w (unprovedOf fs gs lim)):=by
 have hm:=hmix
 obtain⟨i0,hi0,hz0,hz1,hz2⟩:=inInfo_parts
 obtain⟨u,hu⟩:∃u,askedOf fs gs lim=u:=⟨_,rfl⟩
 have k1:=hide (fun W (hg:Grew w W)=>asked_v fs gs A A' c c' lim u W (hr.up hg) (hr'.up hg) (by omega) (by omega) hu)
 have hre:unprovedOf fs gs lim=if u=true then (unpS fs gs (countsTo fs lim fs.length),0) else ([],1):=by
  unfold unprovedOf
  rw[hu]
 rw[hre]
 cases u
 ·rw[if_neg (by simp)]
  clear hu hr hr' hre
  go_enter Tryz.func12,Tryz.ntmps12
  go_wp2_with (go_at_call 30;with_reducible refine crv (k1.out _ gw) fun _ _=>?_;dsimp only)
  go_ret2
  exact⟨none,0,rfl,Rd.nil _ _ _ _,gw⟩
 ·rw[if_pos rfl]
  obtain⟨hv,hv',hl⟩:=asked_split hu
  have hlen:=list_len hv
  have HR:=hide hr
  have HR':=hide hr'
  clear hu hr hr' hre hv hv' hl
  refine (callsIn_wide (n:=9)).1 ?_
  refine callsIn_of_wp_marks Tryz.func12 rfl trivial ?_ rfl
  simp only[Tryz.ntmps12,List.size_toArray,List.length_cons,List.length_nil,Nat.reduceAdd,Nat.reduceSub,Array.replicate_succ,Array.replicate_zero,List.push_toArray,List.append_toArray,List.nil_append,List.cons_append]
  gi_wp2_with fail
  refine⟨trivial,?_⟩
  refine (callsIn_wide.2 (k1.out _ gw)).mono ?_
  rintro e w' ⟨rfl,hg1⟩
  obtain⟨bx,hbx⟩:∃bx:List Obj,bx=[.cells #[.slice A' gs.length c'] 22 (0,0)]:=⟨_,rfl⟩
  have hb1:Bx w' w.heap.size bx:=by rw[hbx];refine (Bx.allocs _ w).1.grew ?_;simp only[List.foldl];exact Grew.trans gw hg1
  have hw1:Grew w w':=Grew.trans gw hg1
  have hz1':w.heap.size+1≤w'.heap.size:=by
   have:=hb1 0 _ (by rw[hbx];rfl)
   have:=blk_lt this
   omega
  clear hg1
  subst hbx
  have Hb1:=hide hb1
  have Hw1:=hide hw1
  clear hb1 hw1 k1
  dsimp only
  gi_wp2_with fail
  refine⟨trivial,?_⟩
  refine (callsIn_wide.2 (dall_any _ _ _ _ _)).mono ?_
  rintro e w'' ⟨rfl,rfl⟩
  dsimp only
  gi_wp2_with fail
  refine wpIn_name ?_
  intro a0 W0 ha hW
  have hg01:Grew w' W0:=by rw[←hW];exact gw
  have hg0:Grew w W0:=Hw1.out.trans hg01
  have hb0:=Hb1.out.grew hg01
  have hn0:Boxed W0 w'.heap.size 36 (.slice none 0 0):=by rw[←hW];exact (heap_alloc_old _ _ (by simp)).trans (heap_alloc_new _ _)
  have hk0:W0.heap[w'.heap.size+1]?=some (.cells #[.slice A fs.length c,.int .i64 lim] 62 (0,0)):=by rw[←hW];exact heap_alloc_at _ _ _ (by simp)
  have hsz:W0.heap.size=w'.heap.size+2:=by rw[←hW];simp
  clear hW hg01
  obtain⟨Z,hZ⟩:∃Z,w'.heap.size=Z:=⟨_,rfl⟩
  rw[hZ] at hn0 hk0 hsz hz1'
  have hdb:Bx W0 (Z+1) [.cells #[.slice A fs.length c,.int .i64 lim] 62 (0,0)]:=fun i o ho=>by
   cases i with
   | zero=>injection ho with ho;rw[←ho];exact hk0
   | succ i=>simp at ho
  have ha2:a0.eval (.tmp 18)=.func (.func 53) #[] #[.pointer (some ⟨Z+1,0,none⟩)]:=by rw[←ha,←hZ];simp[Act.eval]
  refine wpIn_rangeFunc_ownH (n:=9) rfl (by omega) (gf:=53) (lb:=#[.pointer (some ⟨Z+1,0,none⟩)]) ha2 trivial (enters_of Tryz.func53 (by kernel_rfl) rfl)
   (dall_stops 8 w.heap.size (MBox Z (Z+2) 3) fs A c (Z+1) lim W0 (fun b T hb=>by rcases hb with rfl|⟨h,_⟩<;>omega) (fun T hb=>by rcases hb with h|⟨h,_⟩<;>omega) (fun b hb hM=>hM.elim (fun h=>by omega) (fun h=>absurd h.2 (by decide))) hk0 (HR.out.row.grew hg0 (Nat.le_refl _)) (by omega) (by omega))
   (fun h k=>h.trans k) KpM.bk (Below.refl _ _) (fun _=>rfl)
   (fun pre W=>((Below w.heap.size w W∧Bx W w.heap.size _)∧Bx W (Z+1) _)∧∃v,Boxed W Z 36 v∧W.ownsRow (Z+2) 3 1 v (unpS fs gs (pre.map ciN)).length ((unpS fs gs (pre.map ciN)).flatMap encN)∧True)
   (fun _ _ _=>False)
   (OwnFrom.and (OwnFrom.and (OwnFrom.and (ownFrom_below (Nat.le_refl _) hg0.below.size) (Bx.own (by simp;omega))) (Bx.own (by simp;omega))) (Own.from (holdsRow_own _ _ _ _ _ (fun pre:List (CI fs lim)=>(unpS fs gs (pre.map ciN)).length) (fun pre:List (CI fs lim)=>(unpS fs gs (pre.map ciN)).flatMap encN) (fun _ _=>True)) _))
   (fun q=>ownFrom_pure _)
   ⟨⟨⟨hg0.below,hb0⟩,hdb⟩,_,hn0,World.ownsRow_nil _ _ _ _,trivial⟩
   (fun x a' W=>∃B,W.heap[B]?=some (.cells #[.int .i64 (fAt fs (ciN x)).id,.int .i64 (fAt fs (ciN x)).kind,.int .i64 (fAt fs (ciN x)).x,.int .i64 (fAt fs (ciN x)).y,.int .i64 (fAt fs (ciN x)).rad,.slice (fAt fs (ciN x)).aA (fAt fs (ciN x)).area.length (fAt fs (ciN x)).ac,.int .i64 (fAt fs (ciN x)).dep,.int .i64 (fAt fs (ciN x)).sym,.slice (fAt fs (ciN x)).sA (fAt fs (ciN x)).secs.length (fAt fs (ciN x)).sc] 54 (0,0))∧B≠Z∧a'={ tmps:=(a0.tmps.setIfInBounds 19 (fAt fs (ciN x)).val).setIfInBounds 9 (.pointer (some ⟨B,0,none⟩)),defers:=[] })
   (fun x a'=>by
    rintro s X Y row ⟨B,h1,h2⟩ hg hr
    exact⟨B,cells_own h1 hg (fun r e=>(hr r e).2),h2⟩)
   ?assign ?body ?done ?stop
  case assign =>
   rintro l pre x W K ⟨⟨⟨hB,hb⟩,hd⟩,v,hn,hown,_⟩ hK
   rw[show encC fs lim x=#[(fAt fs (ciN x)).val] from rfl,asg1]
   subst ha
   simp only[List.setIfInBounds_toArray,List.set_cons_succ,List.set_cons_zero] at hK ⊢
   have hKK:=hide hK
   have hbl:=hn.lt
   clear hK
   gi_wp2_with fail
   exact hKK.out _ _ ((KeepsOthers.alloc _ _).from _) (KpM.grew (Grew.alloc (Grew.refl _) _)) ⟨⟨⟨hB.alloc hB.size _,hb.grew (Grew.alloc (Grew.refl _) _)⟩,hd.grew (Grew.alloc (Grew.refl _) _)⟩,v,hn.alloc _,hown.alloc _,trivial⟩ ⟨W.heap.size,heap_alloc_new _ _,by omega,rfl⟩
  case body =>
   rintro l pre x a' W hl2 _ ⟨⟨⟨hB,hb⟩,hd⟩,v,hn,hown,_⟩ ⟨B,hx,hBne,rfl⟩ hlt
   subst ha
   have hfm:fAt fs (ciN x)∈fs:=fAt_mem x.1.2
   have hsn:=unpS_snoc fs gs (pre.map ciN) (ciN x)
   rw[show (pre.map ciN)++[ciN x]=(pre++[x]).map ciN by simp] at hsn
   have hol:=unpS_len fs gs (pre.map ciN)
   rw[List.length_map] at hol
   have hpl:pre.length<300:=by omega
   obtain⟨out,hout⟩:∃o,unpS fs gs (pre.map ciN)=o:=⟨_,rfl⟩
   rw[hout] at hown hol hsn
   have hfr:=HR.out.each _ hfm
   obtain⟨r,hrb⟩:∃r,byOf (fAt fs (ciN x)) gs=r:=⟨_,rfl⟩
   rw[hrb] at hsn
   have hw2:=Grew.of_below hB
   have kb:=hide (fun W' (hg:Grew W W')=>by_v (fAt fs (ciN x)) gs A' c' r W' (hfr.up (hw2.trans hg)) (HR'.out.up (hw2.trans hg)) (by omega) hrb)
   obtain⟨f,hf⟩:∃f,fAt fs (ciN x)=f:=⟨_,rfl⟩
   rw[hf] at hsn hx kb
   simp only[hf]
   obtain⟨Av,cv,rfl,hcv,hrd⟩:=Rd.of_own (f:=encN) encN_len hown rfl
   have c0:W.cell? ⟨Z,0,none⟩=_:=hn.cell
   have f0:W.frozen? ⟨Z,0,none⟩=_:=hn.frozen
   have c1:W.cell? ⟨w.heap.size,0,none⟩=some (.slice A' gs.length c'):=(hb.box 0 rfl).cell
   have d0:W.cell? ⟨B,0,none⟩=some _:=blk_cell hx 0
   have d1:W.cell? ⟨B,1,none⟩=some _:=blk_cell hx 1
   have d2:W.cell? ⟨B,2,none⟩=some _:=blk_cell hx 2
   have d3:W.cell? ⟨B,3,none⟩=some _:=blk_cell hx 3
   have d4:W.cell? ⟨B,4,none⟩=some _:=blk_cell hx 4
   have d5:W.cell? ⟨B,5,none⟩=some _:=blk_cell hx 5
   have d6:W.cell? ⟨B,6,none⟩=some _:=blk_cell hx 6
   have d7:W.cell? ⟨B,7,none⟩=some _:=blk_cell hx 7
   have d8:W.cell? ⟨B,8,none⟩=some _:=blk_cell hx 8
   have lB:=blk_lt hx
   have lZ:=hn.lt
   have lD:Z+1<W.heap.size:=blk_lt (hd 0 _ rfl)
   have l0:w.heap.size<W.heap.size:=by omega
   have HB:=hide hB
   have Hb:=hide hb
   have Hd:=hide hd
   have Hn:=hide hn
   have HX:=hide hx
   have HN:=hide hown
   have HSN:=hide hsn
   clear hB hb hd hn hown hx hsn hout hrd hw2 hfr hrb hfm hf hlt
   try dsimp only
   simp only[List.setIfInBounds_toArray,List.set_cons_succ,List.set_cons_zero]
   gi_wp2_with fail
   refine⟨trivial,?_⟩
   refine (CallsIn.inRound l (callsIn_wide.2 (kb.out _ gw))).mono ?_
   rintro e w9 ⟨rfl,⟨n5,os5⟩,rfl⟩
   dsimp only
   by_cases hr0:r=0
   ·subst hr0
    have HS2:=hide HSN.out
    rw[if_pos rfl] at HS2
    gi_wp2_with (gi_at_builtin;refine AppG3.stop ?_)
    refine AppG3.go ?_
    refine wpListIn_append_own _ rfl (.tmp 24) (.tmp 27) 36 rfl (Z+2) 3 i0 _ 1 8 Tryz.underlying36 hi0 hz0 hz1 hz2 (by rfl) (by omega) _ out.length _ (by rfl) (fown_grew HN.out gw) ⟨_,0,none⟩ 1 1 (encN f.id) (by rfl) (by rfl) (by intro j x hx;rw[add_at];simp only[Nat.zero_add];match j,hx with|0,hx=>(injection hx with hx;subst hx;go_simp)) (fun x hx=>by simp[encN] at hx;subst hx;rfl) (by unfold maxLen;omega) (by omega) (by simp[hs_dr];omega) ?_
    intro v' w3 hown' hgrow _
    obtain⟨gv,capv,rfl⟩:=ownsRow_succ hown'
    have hgX:Grew W ((grow (dr W n5) os5).alloc (.cells #[.int .i64 f.id] 3)):=gw
    obtain⟨z1,z2,z3,z4,z5,z6⟩:=fboxed_app (n₁:=w.heap.size) (bxd_grew Hn.out hgX) (by decide) (fown_grew HN.out hgX) (by omega) (by omega) hown' hgrow
    have y1:=z1.cell
    have y2:=z1.frozen
    have Z2:=hide z2
    have Z3:=hide z3
    have Z4:=hide z4
    have Z5:=hide z5
    have Z6:=hide z6
    have HGX:=hide hgX
    clear z1 z2 z3 z4 z5 z6 hown' hgrow hgX c0 f0 c1 d0 d1 d2 d3 d4 d5 d6 d7 d8
    gi_wp2_with fail
    refine⟨(HGX.out.keepsFrom _).trans (Z4.out.from _),(KpM.grew HGX.out).trans (fun b cs T fr hM hb=>Z6.out b cs T fr (fun h=>hM (.inl h)) (fun h=>hM (.inr h)) hb),⟨⟨⟨(HB.out.trans (HGX.out.below.mono HB.out.size)).trans Z5.out,?_⟩,?_⟩,_,Z2.out,?_,trivial⟩⟩
    ·intro i o ho
     match i,ho with
     | 0,ho=>injection ho with ho;rw[←ho];exact Z6.out _ _ _ _ (by omega) (by omega) ((Hb.out.grew HGX.out) 0 _ rfl)
    ·intro i o ho
     match i,ho with
     | 0,ho=>injection ho with ho;rw[←ho];exact Z6.out _ _ _ _ (by omega) (by omega) ((Hd.out.grew HGX.out) 0 _ rfl)
    ·rw[HS2.out,List.flatMap_append,List.length_append]
     simpa using Z3.out
   ·have HS2:=hide HSN.out
    rw[if_neg hr0] at HS2
    clear HSN
    gi_wp2_with fail
    have hgg:Grew W (grow (dr W n5) os5):=gw
    exact⟨hgg.keepsFrom _,KpM.grew hgg,⟨⟨⟨HB.out.trans (hgg.below.mono HB.out.size),Hb.out.grew hgg⟩,Hd.out.grew hgg⟩,_,bxd_grew Hn.out hgg,by rw[HS2.out];exact fown_grew HN.out hgg,trivial⟩⟩
  case done =>
   subst ha
   rintro D xs W hD hS ⟨⟨⟨hB,hb⟩,hd⟩,v,hn,hown,_⟩ hK
   rw[hS] at hown
   have c0:W.cell? ⟨Z,0,none⟩=_:=hn.cell
   have HB:=hide hB
   have HN:=hide hown
   have lZ:=hn.lt
   clear hB hb hd hn hS hown
   gi_wp2_with fail
   refine⟨by simp,.inl ⟨_,_,rfl,run_takeDeferred hK,?_⟩⟩
   have hb5:=HB.out.trans (belowK_b (w:=w) (Nat.le_refl _) _ D _ (.deferred none) (by omega) hK rfl rfl)
   obtain⟨Av,cv,rfl,_,hrd⟩:=Rd.of_own (f:=encN) encN_len (ownsRow_putObj HN.out (.deferred none) hK rfl) rfl
   refine⟨.tuple #[.slice Av _ cv,.int .i64 0],by simp[results,Tryz.results12,go_sem];rfl,?_⟩
   exact⟨Av,cv,rfl,hrd,Grew.of_below hb5⟩
  case stop=>exact fun _ _ _ _ _ _ h _=>h.elim
set_option maxHeartbeats 8000000
set_option maxRecDepth 100000
/-- What stands for each. -/
def prvS (fs gs:List FV)(is:List Nat):List Pt:=is.map fun i=>((fAt fs i).id,byOf (fAt fs i) gs)
def proveOf (fs gs:List FV)(lim:Int):List Pt×Int:=if askedOf fs gs lim=true then (if unpS fs gs (countsTo fs lim fs.length)=[] then (prvS fs gs (countsTo fs lim fs.length),0) else ([],19)) else ([],1)
theorem prvS_snoc (fs gs:List FV)(is:List Nat)(i:Nat):prvS fs gs (is++[i])=prvS fs gs is++[((fAt fs i).id,byOf (fAt fs i) gs)]:=by
 unfold prvS
 rw[List.map_append]
 rfl
theorem unp_some {fs gs:List FV}{lim:Int}(x:CI fs lim)(h:byOf (fAt fs (ciN x)) gs=0):unpS fs gs (countsTo fs lim fs.length)≠[]:=by
 intro e
 have h1:ciN x∈countsTo fs lim fs.length:=List.mem_filter.2 ⟨List.mem_range.2 x.1.2,x.2⟩
 unfold unpS at e
 rw[List.map_eq_nil_iff,List.filter_eq_nil_iff] at e
 exact e _ h1 (by simpa using h)
theorem unp_none {fs gs:List FV}{is:List Nat}(h:∀i,i∈is→byOf (fAt fs i) gs≠0):unpS fs gs is=[]:=by
 unfold unpS
 rw[List.map_eq_nil_iff,List.filter_eq_nil_iff]
 intro i hi
 simpa using h i hi
theorem Prove_v (fs gs:List FV)(A A':Option Addr)(c c':Nat)(lim:Int)(w:World)(hr:FRd w w.heap.size A fs)(hr':FRd w w.heap.size A' gs)(hc:fs.length≤100000000000)(hc':gs.length≤100000000000) :
  Calls Tryz.prog 15 #[.slice A fs.length c,.slice A' gs.length c',.int .i64 lim] w (ProofR w (proveOf fs gs lim)):=by
 have hm:=hmix
 obtain⟨i0,hi0,hz0,hz1,hz2⟩:=prInfo_parts
 obtain⟨u,hu⟩:∃u,askedOf fs gs lim=u:=⟨_,rfl⟩
 have k1:=hide (fun W (hg:Grew w W)=>asked_v fs gs A A' c c' lim u W (hr.up hg) (hr'.up hg) (by omega) (by omega) hu)
 have hre:proveOf fs gs lim=if u=true then (if unpS fs gs (countsTo fs lim fs.length)=[] then (prvS fs gs (countsTo fs lim fs.length),0) else ([],19)) else ([],1):=by
  unfold proveOf
  rw[hu]
 rw[hre]
 cases u
 ·rw[if_neg (by simp)]
  clear hu hr hr' hre
  go_enter Tryz.func15,Tryz.ntmps15
  go_wp2_with (go_at_call 30;with_reducible refine crv (k1.out _ gw) fun _ _=>?_;dsimp only)
  refine bodyPost_ret (v:=.tuple #[.slice none 0 0,.int .i64 1]) (by simp[results,Tryz.results15,go_sem]) rfl ?_
  exact⟨none,0,rfl,Rd.nil _ _ _ _,gw⟩
 ·rw[if_pos rfl]
  obtain⟨res,hres⟩:∃r,(if unpS fs gs (countsTo fs lim fs.length)=[] then (prvS fs gs (countsTo fs lim fs.length),(0:Int)) else ([],19))=r:=⟨_,rfl⟩
  rw[hres]
  have HRES:=hide hres
  obtain⟨hv,hv',hl⟩:=asked_split hu
  have hlen:=list_len hv
  have HR:=hide hr
  have HR':=hide hr'
  clear hu hr hr' hre hv hv' hl hres
  refine (callsIn_wide (n:=9)).1 ?_
  refine callsIn_of_wp_marks Tryz.func15 rfl trivial ?_ rfl
  simp only[Tryz.ntmps15,List.size_toArray,List.length_cons,List.length_nil,Nat.reduceAdd,Nat.reduceSub,Array.replicate_succ,Array.replicate_zero,List.push_toArray,List.append_toArray,List.nil_append,List.cons_append]
  gi_wp2_with fail
  refine⟨trivial,?_⟩
  refine (callsIn_wide.2 (k1.out _ gw)).mono ?_
  rintro e w' ⟨rfl,hg1⟩
  obtain⟨bx,hbx⟩:∃bx:List Obj,bx=[.cells #[.slice A' gs.length c'] 22 (0,0),.cells #[.slice none 0 0] 24 (0,0),.cells #[.int .i64 0] 29 (0,0)]:=⟨_,rfl⟩
  have hb1:Bx w' w.heap.size bx:=by rw[hbx];refine (Bx.allocs _ w).1.grew ?_;simp only[List.foldl];exact Grew.trans gw hg1
  have hw1:Grew w w':=Grew.trans gw hg1
  have hz1':w.heap.size+3≤w'.heap.size:=by
   have:=hb1 2 _ (by rw[hbx];rfl)
   have:=blk_lt this
   omega
  clear hg1
  subst hbx
  have Hb1:=hide hb1
  have Hw1:=hide hw1
  clear hb1 hw1 k1
  dsimp only
  gi_wp2_with fail
  refine⟨trivial,?_⟩
  refine (callsIn_wide.2 (dall_any _ _ _ _ _)).mono ?_
  rintro e w'' ⟨rfl,rfl⟩
  dsimp only
  gi_wp2_with fail
  refine wpIn_name ?_
  intro a0 W0 ha hW
  have hg01:Grew w' W0:=by rw[←hW];exact gw
  have hg0:Grew w W0:=Hw1.out.trans hg01
  have hb0:=Hb1.out.grew hg01
  have hn0:Boxed W0 w'.heap.size 24 (.slice none 0 0):=by rw[←hW];exact (heap_alloc_old _ _ (by simp)).trans (heap_alloc_new _ _)
  have hk0:W0.heap[w'.heap.size+1]?=some (.cells #[.slice A fs.length c,.int .i64 lim] 62 (0,0)):=by rw[←hW];exact heap_alloc_at _ _ _ (by simp)
  have hsz:W0.heap.size=w'.heap.size+2:=by rw[←hW];simp
  clear hW hg01
  obtain⟨Z,hZ⟩:∃Z,w'.heap.size=Z:=⟨_,rfl⟩
  rw[hZ] at hn0 hk0 hsz hz1'
  have hdb:Bx W0 (Z+1) [.cells #[.slice A fs.length c,.int .i64 lim] 62 (0,0)]:=fun i o ho=>by
   cases i with
   | zero=>injection ho with ho;rw[←ho];exact hk0
   | succ i=>simp at ho
  have ha2:a0.eval (.tmp 19)=.func (.func 53) #[] #[.pointer (some ⟨Z+1,0,none⟩)]:=by rw[←ha,←hZ];simp[Act.eval]
  refine wpIn_rangeFunc_ownH (n:=9) rfl (by omega) (gf:=53) (lb:=#[.pointer (some ⟨Z+1,0,none⟩)]) ha2 trivial (enters_of Tryz.func53 (by kernel_rfl) rfl)
   (dall_stops 8 w.heap.size (MBox Z (Z+2) 50) fs A c (Z+1) lim W0 (fun b T hb=>by rcases hb with rfl|⟨h,_⟩<;>omega) (fun T hb=>by rcases hb with h|⟨h,_⟩<;>omega) (fun b hb hM=>hM.elim (fun h=>by omega) (fun h=>absurd h.2 (by decide))) hk0 (HR.out.row.grew hg0 (Nat.le_refl _)) (by omega) (by omega))
   (fun h k=>h.trans k) KpM.bk (Below.refl _ _) (fun _=>rfl)
   (fun pre W=>(((Below w.heap.size w W∧Bx W w.heap.size _)∧Bx W (Z+1) _)∧(∀i∈pre,byOf (fAt fs (ciN i)) gs≠0))∧∃v,Boxed W Z 24 v∧W.ownsRow (Z+2) 50 2 v (prvS fs gs (pre.map ciN)).length ((prvS fs gs (pre.map ciN)).flatMap encD)∧True)
   (fun e pre W=>((Below w.heap.size w W∧Boxed W (w.heap.size+1) 24 (.slice none 0 0))∧Boxed W (w.heap.size+2) 29 (.int .i64 19))∧(e=.ret∧unpS fs gs (countsTo fs lim fs.length)≠[]))
   (OwnFrom.and (OwnFrom.and (OwnFrom.and (OwnFrom.and (ownFrom_below (Nat.le_refl _) hg0.below.size) (Bx.own (by simp;omega))) (Bx.own (by simp;omega))) (ownFrom_pure _)) (Own.from (holdsRow_own _ _ _ _ _ (fun pre:List (CI fs lim)=>(prvS fs gs (pre.map ciN)).length) (fun pre:List (CI fs lim)=>(prvS fs gs (pre.map ciN)).flatMap encD) (fun _ _=>True)) _))
   (fun q=>OwnFrom.and (OwnFrom.and (OwnFrom.and (ownFrom_below (Nat.le_refl _) hg0.below.size) (fun s X Y row h1 hg hr=>Own.from (boxed_own (β:=Unit) _ _ (fun _=>_)) _ () X Y row h1 hg hr)) (fun s X Y row h1 hg hr=>Own.from (boxed_own (β:=Unit) _ _ (fun _=>_)) _ () X Y row h1 hg hr)) (ownFrom_pure _))
   ⟨⟨⟨⟨hg0.below,hb0⟩,hdb⟩,fun i hi=>by cases hi⟩,_,hn0,World.ownsRow_nil _ _ _ _,trivial⟩
   (fun x a' W=>∃B,W.heap[B]?=some (.cells #[.int .i64 (fAt fs (ciN x)).id,.int .i64 (fAt fs (ciN x)).kind,.int .i64 (fAt fs (ciN x)).x,.int .i64 (fAt fs (ciN x)).y,.int .i64 (fAt fs (ciN x)).rad,.slice (fAt fs (ciN x)).aA (fAt fs (ciN x)).area.length (fAt fs (ciN x)).ac,.int .i64 (fAt fs (ciN x)).dep,.int .i64 (fAt fs (ciN x)).sym,.slice (fAt fs (ciN x)).sA (fAt fs (ciN x)).secs.length (fAt fs (ciN x)).sc] 54 (0,0))∧B≠Z∧a'={ tmps:=(a0.tmps.setIfInBounds 20 (fAt fs (ciN x)).val).setIfInBounds 9 (.pointer (some ⟨B,0,none⟩)),defers:=[] })
   (fun x a'=>by
    rintro s X Y row ⟨B,h1,h2⟩ hg hr
    exact⟨B,cells_own h1 hg (fun r e=>(hr r e).2),h2⟩)
   ?assign ?body ?done ?stop
  case assign =>
   rintro l pre x W K ⟨⟨⟨⟨hB,hb⟩,hd⟩,hp⟩,v,hn,hown,_⟩ hK
   rw[show encC fs lim x=#[(fAt fs (ciN x)).val] from rfl,asg1]
   subst ha
   simp only[List.setIfInBounds_toArray,List.set_cons_succ,List.set_cons_zero] at hK ⊢
   have hKK:=hide hK
   have hbl:=hn.lt
   clear hK
   gi_wp2_with fail
   exact hKK.out _ _ ((KeepsOthers.alloc _ _).from _) (KpM.grew (Grew.alloc (Grew.refl _) _)) ⟨⟨⟨⟨hB.alloc hB.size _,hb.grew (Grew.alloc (Grew.refl _) _)⟩,hd.grew (Grew.alloc (Grew.refl _) _)⟩,hp⟩,v,hn.alloc _,hown.alloc _,trivial⟩ ⟨W.heap.size,heap_alloc_new _ _,by omega,rfl⟩
  case body =>
   rintro l pre x a' W hl2 _ ⟨⟨⟨⟨hB,hb⟩,hd⟩,hp⟩,v,hn,hown,_⟩ ⟨B,hx,hBne,rfl⟩ hlt
   subst ha
   have hfm:fAt fs (ciN x)∈fs:=fAt_mem x.1.2
   have hsn:=prvS_snoc fs gs (pre.map ciN) (ciN x)
   rw[show (pre.map ciN)++[ciN x]=(pre++[x]).map ciN by simp] at hsn
   have hol:(prvS fs gs (pre.map ciN)).length≤pre.length:=by unfold prvS;simp
   have hpl:pre.length<300:=by omega
   obtain⟨out,hout⟩:∃o,prvS fs gs (pre.map ciN)=o:=⟨_,rfl⟩
   rw[hout] at hown hol hsn
   have hfr:=HR.out.each _ hfm
   obtain⟨r,hrb⟩:∃r,byOf (fAt fs (ciN x)) gs=r:=⟨_,rfl⟩
   rw[hrb] at hsn
   have hnext:r≠0→∀i∈pre++[x],byOf (fAt fs (ciN i)) gs≠0:=fun hr0 i hi=>by
    rcases List.mem_append.1 hi with h|h
    ·exact hp i h
    ·obtain rfl:=List.mem_singleton.1 h
     rw[hrb];exact hr0
   have hstop:r=0→unpS fs gs (countsTo fs lim fs.length)≠[]:=fun hr0=>unp_some x (by rw[hrb,hr0])
   have HNEXT:=hide hnext
   have HSTOP:=hide hstop
   clear hnext hstop hp
   have hw2:=Grew.of_below hB
   have kb:=hide (fun W' (hg:Grew W W')=>by_v (fAt fs (ciN x)) gs A' c' r W' (hfr.up (hw2.trans hg)) (HR'.out.up (hw2.trans hg)) (by omega) hrb)
   obtain⟨f,hf⟩:∃f,fAt fs (ciN x)=f:=⟨_,rfl⟩
   rw[hf] at hsn hx kb
   simp only[hf]
   obtain⟨Av,cv,rfl,hcv,hrd⟩:=Rd.of_own (f:=encD) encD_len hown rfl
   have c0:W.cell? ⟨Z,0,none⟩=_:=hn.cell
   have f0:W.frozen? ⟨Z,0,none⟩=_:=hn.frozen
   have c1:W.cell? ⟨w.heap.size,0,none⟩=some (.slice A' gs.length c'):=(hb.box 0 rfl).cell
   have c2:W.cell? ⟨w.heap.size+1,0,none⟩=_:=(hb.box 1 rfl).cell
   have f2:W.frozen? ⟨w.heap.size+1,0,none⟩=_:=(hb.box 1 rfl).frozen
   have c3:W.cell? ⟨w.heap.size+2,0,none⟩=_:=(hb.box 2 rfl).cell
   have f3:W.frozen? ⟨w.heap.size+2,0,none⟩=_:=(hb.box 2 rfl).frozen
   have d0:W.cell? ⟨B,0,none⟩=some _:=blk_cell hx 0
   have d1:W.cell? ⟨B,1,none⟩=some _:=blk_cell hx 1
   have d2:W.cell? ⟨B,2,none⟩=some _:=blk_cell hx 2
   have d3:W.cell? ⟨B,3,none⟩=some _:=blk_cell hx 3
   have d4:W.cell? ⟨B,4,none⟩=some _:=blk_cell hx 4
   have d5:W.cell? ⟨B,5,none⟩=some _:=blk_cell hx 5
   have d6:W.cell? ⟨B,6,none⟩=some _:=blk_cell hx 6
   have d7:W.cell? ⟨B,7,none⟩=some _:=blk_cell hx 7
   have d8:W.cell? ⟨B,8,none⟩=some _:=blk_cell hx 8
   have lB:=blk_lt hx
   have lZ:=hn.lt
   have lD:Z+1<W.heap.size:=blk_lt (hd 0 _ rfl)
   have l0:w.heap.size<W.heap.size:=by omega
   have l1:w.heap.size+1<W.heap.size:=by omega
   have l2:w.heap.size+2<W.heap.size:=by omega
   have HB:=hide hB
   have Hb:=hide hb
   have Hd:=hide hd
   have Hn:=hide hn
   have HX:=hide hx
   have HN:=hide hown
   have HSN:=hide hsn
   clear hB hb hd hn hown hx hsn hout hrd hw2 hfr hrb hfm hf hlt
   try dsimp only
   simp only[List.setIfInBounds_toArray,List.set_cons_succ,List.set_cons_zero]
   gi_wp2_with fail
   refine wpIn_region_qas 8 [⟨6,7,10,50,.agg #[.int .i64 0,.int .i64 0]⟩] [] hm (hZ:=(ZOk.cons Tryz.zeroValue50 Tryz.sizeOf50 ZOk.nil)) (h:=?_)
   repeat (refine wpSteady_step (fun K hK=>?_);go_simp;first|(refine hK _ ?_;clear hK K)|(apply Exists.intro;refine⟨fun _=>?_,hK _ ?_⟩;(go_at_call 39;with_reducible exact kb.out _ gw);clear hK K))
   refine wpSteady_nil ?_
   refine⟨(StOk.cons (by rfl) (by simp[stOpnd,Act.eval,Value.cells,Value.oneCell']) StOk.nil),LyOk.nil,?_⟩
   rintro psq qsq Wq HWq HFq HBq
   obtain rfl:qsq=[]:=HBq
   obtain⟨p0,_,rfl,hp0,hb0,hn0,rfl⟩:=HFq
   simp only[putAll,putB,Act.put,setA]
   simp[stOpnd,Act.eval,Value.cells] at hb0
   have gc0_0:Wq.cell? ⟨p0,0,none⟩=some _:=blk_cell hb0 0
   have gc0_1:Wq.cell? ⟨p0,1,none⟩=some _:=blk_cell hb0 1
   have gf0:=blk_frozen hb0
   have gl0:=blk_lt hb0
   have gp0:=hide hp0
   clear hb0 hn0 hp0
   have oc:=old_cell HWq
   have of:=old_frozen HWq
   have ol:=old_lt HWq
   replace HWq:=hide HWq
   clear d0 d1 d2 d3 d4 d5 d6 d7 d8
   by_cases hr0:r=0
   ·subst hr0
    have HS2:=hide (HSTOP.out rfl)
    clear HNEXT HSTOP HSN
    gi_wp2_with fail
    have hx1:Boxed Wq (w.heap.size+1) _ _:=bxd_grew (Hb.out.box 1 rfl) HWq.out
    have hx2:Boxed Wq (w.heap.size+2) _ _:=bxd_grew (Hb.out.box 2 rfl) HWq.out
    have hbq:Below w.heap.size w Wq:=HB.out.trans (HWq.out.below.mono HB.out.size)
    exact⟨(HWq.out.keepsFrom _).trans ((KeepsFrom.setCell _ _ _ _).trans (KeepsFrom.setCell _ _ _ _)),⟨⟨(hbq.setCell (p:=⟨w.heap.size+1,0,none⟩) (by simp) _).setCell (p:=⟨w.heap.size+2,0,none⟩) (by simp) _,(hx1.set _).other (by simp) _⟩,(hx2.other (by simp) _).set _⟩,rfl,HS2.out⟩
   ·have hne:(r==0)=false:=by simpa using hr0
    have HN2:=hide (HNEXT.out hr0)
    clear HNEXT HSTOP
    have hpq:=gp0.out
    gi_wp2_with (gi_at_builtin;refine AppG3.stop ?_)
    refine AppG3.go ?_
    refine wpListIn_append_own _ rfl (.tmp 30) (.tmp 32) 24 rfl (Z+2) 50 i0 _ 2 16 Tryz.underlying24 hi0 hz0 hz1 hz2 (by rfl) (by omega) _ out.length _ (by rfl) (fown_grew HN.out (Grew.trans HWq.out gw)) ⟨_,0,none⟩ 1 1 (encD (f.id,r)) (by rfl) (by rfl) (by intro j x hx;rw[add_at];simp only[Nat.zero_add];match j,hx with|0,hx=>(injection hx with hx;subst hx;go_simp)|1,hx=>(injection hx with hx;subst hx;go_simp)) (fun x hx=>by simp[encD] at hx;rcases hx with rfl|rfl<;>rfl) (by unfold maxLen;omega) (by omega) (by have:=HWq.out.below.size;simp;omega) ?_
    intro v' w3 hown' hgrow _
    obtain⟨gv,capv,rfl⟩:=ownsRow_succ hown'
    have hgX:Grew W (Wq.alloc (.cells #[.int .i64 f.id,.int .i64 r] 50)):=HWq.out.trans gw
    obtain⟨z1,z2,z3,z4,z5,z6⟩:=fboxed_app (n₁:=w.heap.size) (bxd_grew Hn.out hgX) (by decide) (fown_grew HN.out hgX) (by omega) (by omega) hown' hgrow
    have y1:=z1.cell
    have y2:=z1.frozen
    have Z2:=hide z2
    have Z3:=hide z3
    have Z4:=hide z4
    have Z5:=hide z5
    have Z6:=hide z6
    have HGX:=hide hgX
    clear z1 z2 z3 z4 z5 z6 hown' hgrow hgX c0 f0 c1 c2 f2 c3 f3 oc of ol gc0_0 gc0_1 gf0 gl0
    gi_wp2_with fail
    refine⟨(HGX.out.keepsFrom _).trans (Z4.out.from _),(KpM.grew HGX.out).trans (fun b cs T fr hM hb=>Z6.out b cs T fr (fun h=>hM (.inl h)) (fun h=>hM (.inr h)) hb),⟨⟨⟨⟨(HB.out.trans (HGX.out.below.mono HB.out.size)).trans Z5.out,?_⟩,?_⟩,HN2.out⟩,_,Z2.out,?_,trivial⟩⟩
    ·intro i o ho
     match i,ho with
     | 0,ho=>injection ho with ho;rw[←ho];exact Z6.out _ _ _ _ (by omega) (by omega) ((Hb.out.grew HGX.out) 0 _ rfl)
     | 1,ho=>injection ho with ho;rw[←ho];exact Z6.out _ _ _ _ (by omega) (by omega) ((Hb.out.grew HGX.out) 1 _ rfl)
     | 2,ho=>injection ho with ho;rw[←ho];exact Z6.out _ _ _ _ (by omega) (by omega) ((Hb.out.grew HGX.out) 2 _ rfl)
    ·intro i o ho
     match i,ho with
     | 0,ho=>injection ho with ho;rw[←ho];exact Z6.out _ _ _ _ (by omega) (by omega) ((Hd.out.grew HGX.out) 0 _ rfl)
    ·rw[HSN.out,List.flatMap_append,List.length_append]
     simpa using Z3.out
  case done =>
   subst ha
   rintro D xs W hD hS ⟨⟨⟨⟨hB,hb⟩,hd⟩,hp⟩,v,hn,hown,_⟩ hK
   have hun:unpS fs gs (countsTo fs lim fs.length)=[]:=unp_none fun i hi=>by
    rw[←hS] at hi
    obtain⟨j,hj,rfl⟩:=List.mem_map.1 hi
    exact hp j hj
   have hrr:=HRES.out
   rw[if_pos hun] at hrr
   subst hrr
   rw[hS] at hown
   have c0:W.cell? ⟨Z,0,none⟩=_:=hn.cell
   have b1:Boxed W (w.heap.size+1) _ _:=hb.box 1 rfl
   have c1:=b1.cell
   have f1:=b1.frozen
   have b2:Boxed W (w.heap.size+2) _ _:=hb.box 2 rfl
   have c2:=b2.cell
   have f2:=b2.frozen
   have l1:=b1.lt
   have l2:=b2.lt
   obtain⟨Av,cv,rfl,_,hrd⟩:=Rd.of_own (f:=encD) encD_len hown rfl
   have hne1:=(b1.not_row (by decide) hown).symm
   have hne2:=(b2.not_row (by decide) hown).symm
   have HB:=hide hB
   have HN:=hide hown
   have lZ:=hn.lt
   have HNE1:=hide hne1
   have HNE2:=hide hne2
   clear hB hb hd hn hS hown hp hun hrd b1 b2 hne1 hne2 HRES
   gi_wp2_with fail
   have hK2:=(KeepsOthers.setCell (W.setCell ⟨w.heap.size+1,0,none⟩ (.slice Av (prvS fs gs (countsTo fs lim fs.length)).length cv)) ⟨w.heap.size+2,0,none⟩ (.int .i64 0)).same D _ ((KeepsOthers.setCell W ⟨w.heap.size+1,0,none⟩ (.slice Av (prvS fs gs (countsTo fs lim fs.length)).length cv)).same D _ hK rfl) rfl
   refine⟨by simp,.inl ⟨_,_,rfl,run_takeDeferred hK2,?_⟩⟩
   have hb5:=((HB.out.setCell (p:=⟨w.heap.size+1,0,none⟩) (by simp) (.slice Av (prvS fs gs (countsTo fs lim fs.length)).length cv)).setCell (p:=⟨w.heap.size+2,0,none⟩) (by simp) (.int .i64 0)).trans (belowK_b (w:=w) (Nat.le_refl _) _ D _ (.deferred none) (by omega) hK2 rfl rfl)
   have e3:(((W.setCell ⟨w.heap.size+1,0,none⟩ (.slice Av (prvS fs gs (countsTo fs lim fs.length)).length cv)).setCell ⟨w.heap.size+2,0,none⟩ (.int .i64 0)).putObj D (.deferred none)).cell? ⟨w.heap.size+1,0,none⟩=some (.slice Av (prvS fs gs (countsTo fs lim fs.length)).length cv):=by
    rw[putObj_cell (by omega)]
    go_simp
   have e4:(((W.setCell ⟨w.heap.size+1,0,none⟩ (.slice Av (prvS fs gs (countsTo fs lim fs.length)).length cv)).setCell ⟨w.heap.size+2,0,none⟩ (.int .i64 0)).putObj D (.deferred none)).cell? ⟨w.heap.size+2,0,none⟩=some (.int .i64 0):=by
    rw[putObj_cell (by omega)]
    go_simp
   have ho5:=ownsRow_putObj ((HN.out.kept (grownBy_setCell' W (w.heap.size+1) (.slice Av (prvS fs gs (countsTo fs lim fs.length)).length cv)) (.inr HNE1.out)).kept (grownBy_setCell' _ (w.heap.size+2) (.int .i64 0)) (.inr HNE2.out)) (.deferred none) hK2 rfl
   obtain⟨Av2,cv2,he2,_,hrd2⟩:=Rd.of_own (f:=encD) encD_len ho5 rfl
   obtain rfl:Av=Av2:=by injection he2
   refine⟨.tuple #[.slice Av _ cv,.int .i64 0],by simp[results,Tryz.results15,go_sem,e3,e4];rfl,?_⟩
   exact⟨Av,cv,rfl,hrd2,Grew.of_below hb5⟩
  case stop =>
   subst ha
   rintro D e pre W hD ⟨k,hk,hr⟩ ⟨⟨⟨hB,hb1⟩,hb2⟩,rfl,hun⟩ hK
   have hrr:=HRES.out
   rw[if_neg hun] at hrr
   subst hrr
   have c1:=hb1.cell
   have c2:=hb2.cell
   have HB:=hide hB
   clear hB hb1 hb2 hr hk HRES hun
   gi_wp2_with fail
   refine⟨by simp,.inl ⟨_,_,rfl,run_takeDeferred hK,?_⟩⟩
   have hb5:=HB.out.trans (belowK_b (w:=w) (Nat.le_refl _) _ D _ (.deferred none) (by omega) hK rfl rfl)
   have e3:=(putObj_cell (W:=W) (D:=D) (i:=0) (o:=.deferred none) (b:=w.heap.size+1) (by omega)).trans c1
   have e4:=(putObj_cell (W:=W) (D:=D) (i:=0) (o:=.deferred none) (b:=w.heap.size+2) (by omega)).trans c2
   refine⟨.tuple #[.slice none 0 0,.int .i64 19],by simp[results,Tryz.results15,go_sem,e3,e4],?_⟩
   exact⟨none,0,rfl,Rd.nil _ _ _ _,Grew.of_below hb5⟩
set_option maxHeartbeats 8000000
set_option maxRecDepth 100000
def findF (fs:List FV)(x:Int):Option FV:=fs.find? fun f=>decide (f.id=x)
def goodP (fs gs:List FV)(p:Pt):Bool:=match findF fs p.1,findF gs p.2 with|some f,some g=>metB f g|_,_=>false
def goodTo (fs gs:List FV)(ps:List Pt)(k:Nat):Bool:=(ps.take k).all (goodP fs gs)
def provedB (ps:List Pt)(x:Int):Bool:=ps.any fun p=>decide (p.1=x)
def coverB (fs:List FV)(ps:List Pt)(is:List Nat):Bool:=is.all fun i=>provedB ps (fAt fs i).id
def checkOf (fs gs:List FV)(lim:Int)(ps:List Pt):Bool×Int:=if askedOf fs gs lim=true then (orderedOf ps&&(ps.all (goodP fs gs)&&coverB fs ps (countsTo fs lim fs.length)),0) else (false,1)
def provedM (ps:List Pt)(x:Int):Option Value:=if provedB ps x=true then some (.bool true) else none
theorem provedM_succ {ps:List Pt}{k:Nat}(h:k<ps.length):provedM (ps.take (k+1))=updM (provedM (ps.take k)) (cor ps k).1 (.bool true):=by
 funext x
 unfold provedM updM provedB
 rw[List.take_add_one,cor_get h,List.any_append]
 by_cases e:x=(cor ps k).1
 ·subst e
  simp
 ·have:¬ (cor ps k).1=x:=fun h=>e h.symm
  rw[if_neg e]
  have h2:decide ((cor ps k).1=x)=false:=decide_eq_false this
  simp only[Option.toList,List.any_cons,List.any_nil,h2,Bool.or_false]
theorem goodTo_succ {fs gs:List FV}{ps:List Pt}{k:Nat}(h:k<ps.length)(hk:goodTo fs gs ps k=true):goodTo fs gs ps (k+1)=goodP fs gs (cor ps k):=by
 unfold goodTo at *
 rw[List.take_add_one,cor_get h,List.all_append,hk]
 simp
theorem good_no {fs gs:List FV}{ps:List Pt}{k:Nat}(h:k<ps.length)(hp:goodP fs gs (cor ps k)=false):ps.all (goodP fs gs)=false:=by
 rw[List.all_eq_false]
 exact⟨cor ps k,List.mem_of_getElem? (cor_get h),by rw[hp];simp⟩
theorem findF_mem {fs:List FV}{x:Int}{f:FV}(h:findF fs x=some f):f∈fs:=List.mem_of_find?_eq_some h
theorem idxM_find (fs:List FV)(x:Int):idxM fs x=(findF fs x).map FV.val:=rfl
def zF:FV:={ id:=0,kind:=0,x:=0,y:=0,rad:=0,aA:=none,ac:=0,area:=[],dep:=0,sym:=0,sA:=none,sc:=0,secs:=[] }
theorem look_case (fs:List FV)(x:Int):∃f u,Hid ((idxM fs x).getD (.agg #[.int .i64 0,.int .i64 0,.int .i64 0,.int .i64 0,.int .i64 0,.slice none 0 0,.int .i64 0,.int .i64 0,.slice none 0 0])=f.val∧(idxM fs x).isSome=u)∧((u=false∧findF fs x=none)∨(u=true∧findF fs x=some f)):=by
 cases h:findF fs x with
 | none=>exact⟨zF,false,hide (by rw[idxM_find,h];exact⟨rfl,rfl⟩),.inl ⟨rfl,rfl⟩⟩
 | some f=>exact⟨f,true,hide (by rw[idxM_find,h];exact⟨rfl,rfl⟩),.inr ⟨rfl,rfl⟩⟩
theorem bpm_name {F:Fence}{n:Nat}{P:Program}{fn:Func}{R:Ending→World→Prop}{e:Exit}{a:Act}{w:World}(h:∀W0,w=W0→bodyPostM F n P fn R e a W0):bodyPostM F n P fn R e a w:=h _ rfl
theorem two_set {wr:World}{b:Nat}{T T':TypeId}{v v' u u':Value}(h0:Boxed wr b T v)(h1:Boxed wr (b+1) T' v'):Boxed ((wr.setCell ⟨b,0,none⟩ u).setCell ⟨b+1,0,none⟩ u') b T u∧Boxed ((wr.setCell ⟨b,0,none⟩ u).setCell ⟨b+1,0,none⟩ u') (b+1) T' u':=⟨(h0.set _).other (by simp) _,(h1.other (by simp) _).set _⟩
theorem two_below {w wr:World}{u u':Value}(h:Grew w wr):Below w.heap.size w ((wr.setCell ⟨w.heap.size,0,none⟩ u).setCell ⟨w.heap.size+1,0,none⟩ u'):=(h.below.setCell (p:=⟨w.heap.size,0,none⟩) (by simp) _).setCell (p:=⟨w.heap.size+1,0,none⟩) (by simp) _
theorem MapIs.own {β:Type}{B mb n:Nat}{m:Int→Option Value}(h:mb<B):OwnFrom B (fun (_:β) W=>MapIs W mb n m):=by
 intro s W W' row hs hg hr
 exact hs.block (hg.block mb hs.lt (fun e=>by have:=(hr _ e.symm).1;omega))
theorem Check_v (fs gs:List FV)(ps:List Pt)(A A' Ap:Option Addr)(c c' cp:Nat)(lim:Int)(w:World)(hr:FRd w w.heap.size A fs)(hr':FRd w w.heap.size A' gs)(hrp:Rd w w.heap.size 2 Ap (ps.map encD))(hc:fs.length≤100000000000000)(hc':gs.length≤100000000000000)(hcp:ps.length≤100000000000000) :
  Calls Tryz.prog 10 #[.slice A fs.length c,.slice A' gs.length c',.int .i64 lim,.slice Ap ps.length cp] w (Ret w (.tuple #[.bool (checkOf fs gs lim ps).1,.int .i64 (checkOf fs gs lim ps).2])):=by
 have hm:=hmix
 have hmm:=@run_makeMap Tryz.prog
 obtain⟨u,hu⟩:∃u,askedOf fs gs lim=u:=⟨_,rfl⟩
 obtain⟨v,hv⟩:∃u,orderedOf ps=u:=⟨_,rfl⟩
 have k1:=hide (fun W (hg:Grew w W)=>asked_v fs gs A A' c c' lim u W (hr.up hg) (hr'.up hg) (by omega) (by omega) hu)
 have k2:=hide (fun W (hg:Grew w W)=>ordered_v ps Ap cp v W (hrp.up hg) (by omega) hv)
 obtain⟨res,hres⟩:∃r,checkOf fs gs lim ps=r:=⟨_,rfl⟩
 rw[hres]
 unfold checkOf at hres
 rw[hu,hv] at hres
 have hcase:u=false∨(u=true∧v=false)∨(u=true∧v=true):=by cases u<;>cases v<;>simp
 rcases hcase with rfl|⟨rfl,rfl⟩|⟨rfl,rfl⟩
 ·rw[if_neg (by simp)] at hres
  subst hres
  clear hu hv hr hr' hrp hmm
  go_enter Tryz.func10,Tryz.ntmps10
  go_wp2_with (first|(go_at_call 30;with_reducible refine crv (k1.out _ gw) fun _ _=>?_;dsimp only)|(go_at_call 31;with_reducible refine crv (k2.out _ gw) fun _ _=>?_;dsimp only))
  refine bodyPost_ret (v:=.tuple #[.bool false,.int .i64 1]) (by simp[results,Tryz.results10,go_sem]) rfl ?_
  exact Ret.mk' rfl gw
 ·rw[if_pos rfl,Bool.false_and] at hres
  subst hres
  clear hu hv hr hr' hrp hmm
  go_enter Tryz.func10,Tryz.ntmps10
  go_wp2_with (first|(go_at_call 30;with_reducible refine crv (k1.out _ gw) fun _ _=>?_;dsimp only)|(go_at_call 31;with_reducible refine crv (k2.out _ gw) fun _ _=>?_;dsimp only))
  refine bodyPost_ret (v:=.tuple #[.bool false,.int .i64 0]) (by simp[results,Tryz.results10,go_sem]) rfl ?_
  exact Ret.mk' rfl gw
 ·rw[if_pos rfl,Bool.true_and] at hres
  obtain⟨hl,hl',_⟩:=asked_split hu
  have hlen:=list_len hl
  have hlen':=list_len hl'
  have HR:=hide hr
  have HR':=hide hr'
  have HRP:=hide hrp
  have HV:=hide hv
  have hpl:=ord_len hv
  have HL:=hide hl
  have HRES:=hide hres
  have ki:=hide (fun W (hg:Grew w W)=>index_v fs A c W (hr.up hg) hl)
  have ki':=hide (fun W (hg:Grew w W)=>index_v gs A' c' W (hr'.up hg) hl')
  clear hu hv hr hr' hrp hl hl' hres
  refine (callsIn_wide (n:=9)).1 ?_
  refine callsIn_of_wp_marks Tryz.func10 rfl trivial ?_ rfl
  simp only[Tryz.ntmps10,List.size_toArray,List.length_cons,List.length_nil,Nat.reduceAdd,Nat.reduceSub,Array.replicate_succ,Array.replicate_zero,List.push_toArray,List.append_toArray,List.nil_append,List.cons_append]
  gi_wp2_with fail
  refine⟨trivial,?_⟩
  refine (callsIn_wide.2 (k1.out _ gw)).mono ?_
  rintro e w1 ⟨rfl,hg1⟩
  have hb1:Bx w1 w.heap.size [.cells #[.bool false] 4 (0,0),.cells #[.int .i64 0] 29 (0,0)]:=by refine (Bx.allocs _ w).1.grew ?_;simp only[List.foldl];exact Grew.trans gw hg1
  have Hb1:=hide hb1
  have HG1:Hid (Grew w w1):=hide (Grew.trans gw hg1)
  clear hb1 hg1 k1
  dsimp only
  gi_wp2_with fail
  refine⟨trivial,?_⟩
  refine (callsIn_wide.2 (k2.out _ (HG1.out.trans gw))).mono ?_
  rintro e w2 ⟨rfl,hg2⟩
  have HG2:Hid (Grew w1 w2):=hide (Grew.trans gw hg2)
  clear hg2 k2
  dsimp only
  gi_wp2_with fail
  refine⟨trivial,?_⟩
  refine (callsIn_wide.2 (ki.out _ (HG1.out.trans (HG2.out.trans gw)))).mono ?_
  rintro e w3 ⟨b1,rfl,lb1,hmp1,hg3⟩
  have HG3:Hid (Grew w2 w3):=hide (Grew.trans gw hg3)
  have HM1:=hide hmp1
  have hs1:=HG1.out.below.size
  have hs2:=HG2.out.below.size
  have hlb1:w.heap.size+2≤b1:=by
   have h1:=blk_lt (Hb1.out 1 _ rfl)
   have h2:w2.heap.size≤b1:=by simpa[hs_dr] using lb1
   omega
  clear hg3 hmp1 lb1 ki
  dsimp only
  gi_wp2_with fail
  refine⟨trivial,?_⟩
  refine (callsIn_wide.2 (ki'.out _ (HG1.out.trans (HG2.out.trans (HG3.out.trans gw))))).mono ?_
  rintro e w4 ⟨b2,rfl,lb2,hmp2,hg4⟩
  have HG4:Hid (Grew w3 w4):=hide (Grew.trans gw hg4)
  have HM2:=hide hmp2
  have hs3:=HG3.out.below.size
  have hlb2:w.heap.size+2≤b2:=by
   have h1:=blk_lt (Hb1.out 1 _ rfl)
   have h2:w3.heap.size≤b2:=by simpa[hs_dr] using lb2
   omega
  clear hg4 hmp2 lb2 ki'
  dsimp only
  gi_wp2_with fail
  refine wpIn_name ?_
  intro a0 Wn ha hW
  have HGn:Hid (Grew w4 Wn):=hide (by rw[←hW];exact gw)
  have HMn:Hid (MapIs Wn w4.heap.size 0 (provedM (ps.take 0))):=hide (by rw[←hW];exact (MapIs.made w4).up gw)
  have HYn:Hid (Boxed Wn (w4.heap.size+1) 70 (.map (some w4.heap.size))):=hide (by rw[←hW];exact heap_alloc_at _ _ _ (by simp))
  have hsn:Wn.heap.size=w4.heap.size+2:=by rw[←hW];simp
  have HW4:Hid (Grew w w4):=hide (HG1.out.trans (HG2.out.trans (HG3.out.trans HG4.out)))
  have HB4:Hid (Bx w4 w.heap.size [.cells #[.bool false] 4 (0,0),.cells #[.int .i64 0] 29 (0,0)]):=hide (Hb1.out.grew (HG2.out.trans (HG3.out.trans HG4.out)))
  have HM1':Hid (MapIs w4 b1 fs.length (idxM fs)):=hide (HM1.out.up HG4.out)
  have hs4:=HG4.out.below.size
  have hb12:w.heap.size+2≤w4.heap.size:=by have:=HM1'.out.lt;omega
  clear hW HM1 hs1 hs2 hs3 HG1 HG2 HG3 HG4 Hb1 hmm
  subst ha
  gi_loopw [35] (fun i wr=>∃k:Nat,k≤ps.length∧i=.int .i64 k∧AppG (goodTo fs gs ps k=true)∧Grew w4 wr∧MapIs wr w4.heap.size k (provedM (ps.take k))∧Boxed wr (w4.heap.size+1) 70 (.map (some w4.heap.size))) (fun i _=>ps.length-(intOf i).toNat)
  case atStart=>exact⟨0,by omega,rfl,rfl,HGn.out,HMn.out,HYn.out⟩
  case round =>
   obtain⟨k,hk,rfl,hall,hg,hmp,hbx⟩:=hrel
   have HA:=hide hall.stop
   have HG:=hide hg
   have HM:=hide hmp
   have HY:=hide hbx
   have HWr:Hid (Grew w wr):=hide (HW4.out.trans hg)
   have b0:Boxed wr w.heap.size 4 (.bool false):=bxd_grew (HB4.out.box 0 rfl) hg
   have b1':Boxed wr (w.heap.size+1) 29 (.int .i64 0):=bxd_grew (HB4.out.box 1 rfl) hg
   have c0:=b0.cell
   have f0:=b0.frozen
   have c1:=b1'.cell
   have f1:=b1'.frozen
   have l0:=b0.lt
   have l1:=b1'.lt
   have lY:=hbx.lt
   have lY0:w4.heap.size<wr.heap.size:=by omega
   have HB0:=hide b0
   have HB1:=hide b1'
   clear hall hg hmp hbx b0 b1'
   by_cases hlt:k<ps.length
   ·obtain⟨b,off,hA,hb,h0,h1⟩:=ptAt (HRP.out.up HWr.out) (cor_get hlt)
    have hix:=idx_run (cap:=cp) Tryz.underlying24 Tryz.sizeOf50 hA.out hlt
    have hgs:=goodTo_succ hlt HA.out
    have hps:=provedM_succ hlt
    have hod:=ord_at HV.out hlt
    have hpos:=ord_pos HV.out hlt
    have hno:goodP fs gs (cor ps k)=false→res=(false,0):=fun e=>by
     rw[←HRES.out,good_no hlt e]
     rfl
    obtain⟨p,hp⟩:∃p,cor ps k=p:=⟨_,rfl⟩
    rw[hp] at h0 h1 hgs hps hod hpos hno
    obtain⟨p1,p2⟩:=p
    dsimp only at h0 h1 hps hod hpos
    have hwf1:(Lit.int .i64 p1).wf=true:=wf64 (by omega)
    have hwf2:(Lit.int .i64 p2).wf=true:=wf64 (by omega)
    obtain⟨f,u,HL1,hfu⟩:∃f u,Hid ((idxM fs p1).getD (.agg #[.int .i64 0,.int .i64 0,.int .i64 0,.int .i64 0,.int .i64 0,.slice none 0 0,.int .i64 0,.int .i64 0,.slice none 0 0])=f.val∧(idxM fs p1).isSome=u)∧((u=false∧findF fs p1=none)∨(u=true∧findF fs p1=some f)):=look_case fs p1
    obtain⟨g,v,HL2,hgv⟩:∃f u,Hid ((idxM gs p2).getD (.agg #[.int .i64 0,.int .i64 0,.int .i64 0,.int .i64 0,.int .i64 0,.slice none 0 0,.int .i64 0,.int .i64 0,.slice none 0 0])=f.val∧(idxM gs p2).isSome=u)∧((u=false∧findF gs p2=none)∨(u=true∧findF gs p2=some f)):=look_case gs p2
    have HPS:=hide hps
    have HGS:=hide hgs
    clear hA hps hgs hp hod hpos
    have hcase:(u=false∧res=(false,0))∨(u=true∧v=false∧res=(false,0))∨(u=true∧v=true∧findF fs p1=some f∧findF gs p2=some g):=by
     rcases hfu with⟨rfl,e⟩|⟨rfl,e⟩
     ·exact .inl ⟨rfl,hno (by unfold goodP;rw[e])⟩
     ·rcases hgv with⟨rfl,e'⟩|⟨rfl,e'⟩
      ·exact .inr (.inl ⟨rfl,rfl,hno (by unfold goodP;rw[e,e'])⟩)
      ·exact .inr (.inr ⟨rfl,rfl,e,e'⟩)
    clear hfu hgv
    rcases hcase with⟨rfl,hr⟩|⟨rfl,rfl,hr⟩|⟨rfl,rfl,hf,hg⟩
    ·subst hr
     clear hno
     gi_wp2_with (first|(gi_at_lookup;(refine wpListIn_look rfl (.tmp 40) (.tmp 42) 68 rfl 54 Tryz.underlying68 (Tryz.zeroValue54 _) rfl ((HM1'.out.up HG.out).up gw) _ rfl hwf1 ?_;rw[HL1.out.1,HL1.out.2]))|(gi_at_lookup;refine wpListIn_look rfl (.tmp 47) (.tmp 49) 68 rfl 54 Tryz.underlying68 (Tryz.zeroValue54 _) rfl ((HM2.out.up HG.out).up gw) _ rfl hwf2 ?_;rw[HL2.out.1,HL2.out.2]))
     refine⟨trivial,?_⟩
     gi_wp2_with fail
     refine bpm_name ?_
     intro W0 hW
     have hg9:Grew ((wr.setCell ⟨w.heap.size,0,none⟩ (.bool false)).setCell ⟨w.heap.size+1,0,none⟩ (.int .i64 0)) W0:=by rw[←hW];exact gw
     obtain⟨hx,hy⟩:=two_set (u:=.bool false) (u':=.int .i64 0) HB0.out HB1.out
     have e3:=(bxd_grew hx hg9).cell
     have e4:=(bxd_grew hy hg9).cell
     have hb9:=two_below (u:=.bool false) (u':=.int .i64 0) HWr.out
     clear hW
     refine⟨.tuple #[.bool false,.int .i64 0],by simp[results,Tryz.results10,go_sem,e3,e4],?_⟩
     exact Ret.mk' rfl (Grew.of_below (hb9.trans (hg9.below.mono hb9.size)))
    ·subst hr
     clear hno
     gi_wp2_with (first|(gi_at_lookup;(refine wpListIn_look rfl (.tmp 40) (.tmp 42) 68 rfl 54 Tryz.underlying68 (Tryz.zeroValue54 _) rfl ((HM1'.out.up HG.out).up gw) _ rfl hwf1 ?_;rw[HL1.out.1,HL1.out.2]))|(gi_at_lookup;refine wpListIn_look rfl (.tmp 47) (.tmp 49) 68 rfl 54 Tryz.underlying68 (Tryz.zeroValue54 _) rfl ((HM2.out.up HG.out).up gw) _ rfl hwf2 ?_;rw[HL2.out.1,HL2.out.2]))
     refine⟨trivial,?_⟩
     gi_wp2_with fail
     refine bpm_name ?_
     intro W0 hW
     have hg9:Grew ((wr.setCell ⟨w.heap.size,0,none⟩ (.bool false)).setCell ⟨w.heap.size+1,0,none⟩ (.int .i64 0)) W0:=by rw[←hW];exact gw
     obtain⟨hx,hy⟩:=two_set (u:=.bool false) (u':=.int .i64 0) HB0.out HB1.out
     have e3:=(bxd_grew hx hg9).cell
     have e4:=(bxd_grew hy hg9).cell
     have hb9:=two_below (u:=.bool false) (u':=.int .i64 0) HWr.out
     clear hW
     refine⟨.tuple #[.bool false,.int .i64 0],by simp[results,Tryz.results10,go_sem,e3,e4],?_⟩
     exact Ret.mk' rfl (Grew.of_below (hb9.trans (hg9.below.mono hb9.size)))
    ·have hfm:=findF_mem hf
     have hgm:=findF_mem hg
     obtain⟨o,ho⟩:∃o,metB f g=o:=⟨_,rfl⟩
     have km:=hide (fun W (hg:Grew w W)=>met_v f g o W ((HR.out.each _ hfm).up hg) ((HR'.out.each _ hgm).up hg) ho)
     have hgp:goodP fs gs (p1,p2)=o:=by
      unfold goodP
      rw[hf,hg]
      exact ho
     have HGP:=hide hgp
     have HNO:=hide hno
     have c5:=HY.out.cell
     clear hf hg hfm hgm ho hgp hno
     cases o
     ·have hr:=HNO.out HGP.out
      subst hr
      gi_wp2_with (first|(gi_at_lookup;(refine wpListIn_look rfl (.tmp 40) (.tmp 42) 68 rfl 54 Tryz.underlying68 (Tryz.zeroValue54 _) rfl ((HM1'.out.up HG.out).up gw) _ rfl hwf1 ?_;rw[HL1.out.1,HL1.out.2]))|(gi_at_lookup;refine wpListIn_look rfl (.tmp 47) (.tmp 49) 68 rfl 54 Tryz.underlying68 (Tryz.zeroValue54 _) rfl ((HM2.out.up HG.out).up gw) _ rfl hwf2 ?_;rw[HL2.out.1,HL2.out.2]))
      refine⟨trivial,?_⟩
      refine (callsIn_wide.2 (km.out _ (HWr.out.trans gw))).mono ?_
      rintro e w' ⟨rfl,⟨n5,os5⟩,rfl⟩
      dsimp only
      gi_wp2_with fail
      refine bpm_name ?_
      intro W0 hW
      have hg9:Grew ((wr.setCell ⟨w.heap.size,0,none⟩ (.bool false)).setCell ⟨w.heap.size+1,0,none⟩ (.int .i64 0)) W0:=by rw[←hW];exact gw
      obtain⟨hx,hy⟩:=two_set (u:=.bool false) (u':=.int .i64 0) HB0.out HB1.out
      have e3:=(bxd_grew hx hg9).cell
      have e4:=(bxd_grew hy hg9).cell
      have hb9:=two_below (u:=.bool false) (u':=.int .i64 0) HWr.out
      clear hW
      refine⟨.tuple #[.bool false,.int .i64 0],by simp[results,Tryz.results10,go_sem,e3,e4],?_⟩
      exact Ret.mk' rfl (Grew.of_below (hb9.trans (hg9.below.mono hb9.size)))
     ·gi_wp2_with (first|(gi_at_lookup;(refine wpListIn_look rfl (.tmp 40) (.tmp 42) 68 rfl 54 Tryz.underlying68 (Tryz.zeroValue54 _) rfl ((HM1'.out.up HG.out).up gw) _ rfl hwf1 ?_;rw[HL1.out.1,HL1.out.2]))|(gi_at_lookup;refine wpListIn_look rfl (.tmp 47) (.tmp 49) 68 rfl 54 Tryz.underlying68 (Tryz.zeroValue54 _) rfl ((HM2.out.up HG.out).up gw) _ rfl hwf2 ?_;rw[HL2.out.1,HL2.out.2]))
      refine⟨trivial,?_⟩
      refine (callsIn_wide.2 (km.out _ (HWr.out.trans gw))).mono ?_
      rintro e w' ⟨rfl,⟨n5,os5⟩,rfl⟩
      dsimp only
      gi_wp2_with (gi_at_mapUpdate;refine AppG3.stop ?_)
      refine AppG3.go ?_
      refine wpListIn_store (by rfl) (.tmp 66) (.tmp 68) (.const (.bool true)) 70 (by rfl) 4 Tryz.underlying70 (by rfl) (HM.out.up gw) (by unfold maxLen;omega) p1 (.bool true) (by rfl) (by rfl) hwf1 ?_
      intro w5 hm5 hg5
      have HG5:Hid (Grew w4 w5):=hide (Grew.of_below ((HG.out.trans gw).below.grown hg5 (HG.out.trans gw).below.size (fun q hq=>by injection hq with hq;omega)))
      have HM5:Hid (MapIs w5 w4.heap.size (k+1) (provedM (ps.take (k+1)))):=hide (by rw[HPS.out];exact hm5)
      have HY5:Hid (Boxed w5 (w4.heap.size+1) 70 (.map (some w4.heap.size))):=hide ((hg5.block _ (blk_lt (bxd_grew HY.out gw)) (fun e=>by injection e with e;omega)).trans (bxd_grew HY.out gw))
      clear hm5 hg5
      gi_wp2_with fail
      go_roundw
      case rel=>exact⟨k+1,by omega,by go_num,show goodTo fs gs ps (k+1)=true from HGS.out.trans HGP.out,HG5.out,HM5.out,HY5.out⟩
      case measure=>simp[intOf];omega
   ·obtain rfl:k=ps.length:=by omega
    have hall:ps.all (goodP fs gs)=true:=by
     have:=HA.out
     unfold goodTo at this
     rwa [List.take_length] at this
    have hrr:(coverB fs ps (countsTo fs lim fs.length),(0:Int))=res:=by rw[←HRES.out,hall,Bool.true_and]
    have HRR:=hide hrr
    rw[List.take_length] at HM
    clear hall hrr HRES HM1' HM2 HGn HMn HYn hsn
    gi_wp2_with fail
    refine⟨trivial,?_⟩
    refine (callsIn_wide.2 (dall_any _ _ _ _ _)).mono ?_
    rintro e w'' ⟨rfl,rfl⟩
    dsimp only
    gi_wp2_with fail
    refine wpIn_name ?_
    intro a0 W0 ha hW
    have hg40:Grew wr W0:=by rw[←hW];exact gw
    have hg0:Grew w W0:=HWr.out.trans hg40
    have hb0:Bx W0 w.heap.size [.cells #[.bool false] 4 (0,0),.cells #[.int .i64 0] 29 (0,0)]:=HB4.out.grew (HG.out.trans hg40)
    have hyb:Bx W0 (w4.heap.size+1) [.cells #[.map (some w4.heap.size)] 70 (0,0)]:=fun i o ho=>by
     cases i with
     | zero=>injection ho with ho;rw[←ho];exact bxd_grew HY.out hg40
     | succ i=>simp at ho
    have hmp0:MapIs W0 w4.heap.size ps.length (provedM ps):=HM.out.up hg40
    have hk0:W0.heap[wr.heap.size]?=some (.cells #[.slice A fs.length c,.int .i64 lim] 62 (0,0)):=by rw[←hW];exact heap_alloc_at _ _ _ (by simp)
    have hszW:wr.heap.size<W0.heap.size:=blk_lt hk0
    clear hW hg40 c0 f0 c1 f1
    obtain⟨Z,hZ⟩:∃Z,wr.heap.size=Z:=⟨_,rfl⟩
    rw[hZ] at hk0 hszW
    have ha2:a0.eval (.tmp 73)=.func (.func 53) #[] #[.pointer (some ⟨Z,0,none⟩)]:=by rw[←ha,←hZ];simp[Act.eval]
    refine wpIn_rangeFunc_ownH (n:=9) rfl (by omega) (gf:=53) (lb:=#[.pointer (some ⟨Z,0,none⟩)]) ha2 trivial (enters_of Tryz.func53 (by kernel_rfl) rfl)
     (dall_stops 8 w.heap.size (fun _ _=>False) fs A c Z lim W0 (fun b T hb=>hb.elim) (fun T hb=>hb) (fun b hb hM=>hM) hk0 (HR.out.row.grew hg0 (Nat.le_refl _)) (by omega) (by omega))
     (fun h k=>h.trans k) KpM.bk (Below.refl _ _) (fun _=>rfl)
     (fun pre W=>(((Below w.heap.size w W∧Bx W w.heap.size _)∧Bx W (w4.heap.size+1) _)∧MapIs W w4.heap.size ps.length (provedM ps))∧∀i∈pre,provedB ps (fAt fs (ciN i)).id=true)
     (fun e pre W=>((Below w.heap.size w W∧Boxed W w.heap.size 4 (.bool false))∧Boxed W (w.heap.size+1) 29 (.int .i64 0))∧(e=.ret∧coverB fs ps (countsTo fs lim fs.length)=false))
     (OwnFrom.and (OwnFrom.and (OwnFrom.and (OwnFrom.and (ownFrom_below (Nat.le_refl _) hg0.below.size) (Bx.own (by simp;omega))) (Bx.own (by simp;omega))) (MapIs.own (by omega))) (ownFrom_pure _))
     (fun q=>OwnFrom.and (OwnFrom.and (OwnFrom.and (ownFrom_below (Nat.le_refl _) hg0.below.size) (fun s X Y row h1 hg hr=>Own.from (boxed_own (β:=Unit) _ _ (fun _=>_)) _ () X Y row h1 hg hr)) (fun s X Y row h1 hg hr=>Own.from (boxed_own (β:=Unit) _ _ (fun _=>_)) _ () X Y row h1 hg hr)) (ownFrom_pure _))
     ⟨⟨⟨⟨hg0.below,hb0⟩,hyb⟩,hmp0⟩,fun i hi=>by cases hi⟩
     (fun x a' W=>∃B,W.heap[B]?=some (.cells #[.int .i64 (fAt fs (ciN x)).id,.int .i64 (fAt fs (ciN x)).kind,.int .i64 (fAt fs (ciN x)).x,.int .i64 (fAt fs (ciN x)).y,.int .i64 (fAt fs (ciN x)).rad,.slice (fAt fs (ciN x)).aA (fAt fs (ciN x)).area.length (fAt fs (ciN x)).ac,.int .i64 (fAt fs (ciN x)).dep,.int .i64 (fAt fs (ciN x)).sym,.slice (fAt fs (ciN x)).sA (fAt fs (ciN x)).secs.length (fAt fs (ciN x)).sc] 54 (0,0))∧a'={ tmps:=(a0.tmps.setIfInBounds 74 (fAt fs (ciN x)).val).setIfInBounds 19 (.pointer (some ⟨B,0,none⟩)),defers:=[] })
     (fun x a'=>by
      rintro s X Y row ⟨B,h1,h2⟩ hg hr
      exact⟨B,cells_own h1 hg (fun r e=>(hr r e).2),h2⟩)
     ?assign ?body ?done ?stop
    case assign =>
     rintro l pre x W K ⟨⟨⟨⟨hB,hb⟩,hd⟩,hmp⟩,hp⟩ hK
     rw[show encC fs lim x=#[(fAt fs (ciN x)).val] from rfl,asg1]
     subst ha
     simp only[List.setIfInBounds_toArray,List.set_cons_succ,List.set_cons_zero] at hK ⊢
     have hKK:=hide hK
     clear hK
     gi_wp2_with fail
     have hgg:Grew W (W.alloc (.cells #[.int .i64 (fAt fs (ciN x)).id,.int .i64 (fAt fs (ciN x)).kind,.int .i64 (fAt fs (ciN x)).x,.int .i64 (fAt fs (ciN x)).y,.int .i64 (fAt fs (ciN x)).rad,.slice (fAt fs (ciN x)).aA (fAt fs (ciN x)).area.length (fAt fs (ciN x)).ac,.int .i64 (fAt fs (ciN x)).dep,.int .i64 (fAt fs (ciN x)).sym,.slice (fAt fs (ciN x)).sA (fAt fs (ciN x)).secs.length (fAt fs (ciN x)).sc] 54)):=gw
     exact hKK.out _ _ (hgg.keepsFrom _) (KpM.grew hgg) ⟨⟨⟨⟨hB.trans (hgg.below.mono hB.size),hb.grew hgg⟩,hd.grew hgg⟩,hmp.up hgg⟩,hp⟩ ⟨W.heap.size,heap_alloc_new _ _,rfl⟩
    case body =>
     rintro l pre x a' W hl2 _ ⟨⟨⟨⟨hB,hb⟩,hd⟩,hmp⟩,hp⟩ ⟨B,hx,rfl⟩ hlt
     subst ha
     have hid:=list_ids HL.out (k:=ciN x) x.1.2
     have hwf:(Lit.int .i64 (fAt fs (ciN x)).id).wf=true:=wf64 (by omega)
     obtain⟨o,ho⟩:∃o,provedB ps (fAt fs (ciN x)).id=o:=⟨_,rfl⟩
     have hlk:(Instr.lookup 70 (.map (some w4.heap.size)) (.int .i64 (fAt fs (ciN x)).id) false).run Tryz.prog W=.ok (.bool o) W:=by
      have h1:=MapIs.look1 hmp Tryz.underlying70 (Tryz.zeroValue4 W) hwf
      rw[h1]
      unfold provedM
      rw[ho]
      cases o<;>rfl
     have hnext:o=true→∀i∈pre++[x],provedB ps (fAt fs (ciN i)).id=true:=fun h0 i hi=>by
      rcases List.mem_append.1 hi with h|h
      ·exact hp i h
      ·obtain rfl:=List.mem_singleton.1 h
       rw[ho];exact h0
     have hstop:o=false→coverB fs ps (countsTo fs lim fs.length)=false:=fun h0=>by
      unfold coverB
      rw[List.all_eq_false]
      exact⟨ciN x,List.mem_filter.2 ⟨List.mem_range.2 x.1.2,x.2⟩,by rw[ho,h0];simp⟩
     have HNEXT:=hide hnext
     have HSTOP:=hide hstop
     clear hnext hstop hp ho hid hwf
     obtain⟨f,hf⟩:∃f,fAt fs (ciN x)=f:=⟨_,rfl⟩
     rw[hf] at hx hlk
     simp only[hf]
     have c0:W.cell? ⟨w.heap.size,0,none⟩=_:=(hb.box 0 rfl).cell
     have f0:W.frozen? ⟨w.heap.size,0,none⟩=_:=(hb.box 0 rfl).frozen
     have c1:W.cell? ⟨w.heap.size+1,0,none⟩=_:=(hb.box 1 rfl).cell
     have f1:W.frozen? ⟨w.heap.size+1,0,none⟩=_:=(hb.box 1 rfl).frozen
     have c5:W.cell? ⟨w4.heap.size+1,0,none⟩=_:=(hd.box 0 rfl).cell
     have d0:W.cell? ⟨B,0,none⟩=some _:=blk_cell hx 0
     have lB:=blk_lt hx
     have l0:=(hb.box 0 rfl).lt
     have l1:=(hb.box 1 rfl).lt
     have l5:=(hd.box 0 rfl).lt
     have HB:=hide hB
     have Hb:=hide hb
     have Hd:=hide hd
     have HMP:=hide hmp
     clear hB hb hd hmp hx hf hlt
     try dsimp only
     simp only[List.setIfInBounds_toArray,List.set_cons_succ,List.set_cons_zero]
     cases o
     ·have HS2:=hide (HSTOP.out rfl)
      clear HNEXT HSTOP
      gi_wp2_with fail
      have hx1:Boxed W w.heap.size 4 (.bool false):=Hb.out.box 0 rfl
      have hx2:Boxed W (w.heap.size+1) 29 (.int .i64 0):=Hb.out.box 1 rfl
      obtain⟨y1,y2⟩:=two_set (u:=.bool false) (u':=.int .i64 0) hx1 hx2
      exact⟨(KeepsFrom.setCell _ _ _ _).trans (KeepsFrom.setCell _ _ _ _),⟨⟨(HB.out.setCell (p:=⟨w.heap.size,0,none⟩) (by simp) _).setCell (p:=⟨w.heap.size+1,0,none⟩) (by simp) _,y1⟩,y2⟩,rfl,HS2.out⟩
     ·have HN2:=hide (HNEXT.out rfl)
      clear HNEXT HSTOP
      gi_wp2_with fail
      have hgg:Grew W W:=Grew.refl _
      exact⟨hgg.keepsFrom _,KpM.grew hgg,⟨⟨⟨⟨HB.out,Hb.out⟩,Hd.out⟩,HMP.out⟩,HN2.out⟩⟩
    case done =>
     subst ha
     rintro D xs W hD hS ⟨⟨⟨⟨hB,hb⟩,hd⟩,hmp⟩,hp⟩ hK
     have hcov:coverB fs ps (countsTo fs lim fs.length)=true:=by
      unfold coverB
      rw[List.all_eq_true]
      intro i hi
      rw[←hS] at hi
      obtain⟨j,hj,rfl⟩:=List.mem_map.1 hi
      exact hp j hj
     have hrr:=HRR.out
     rw[hcov] at hrr
     subst hrr
     have b1':Boxed W w.heap.size 4 (.bool false):=hb.box 0 rfl
     have b2':Boxed W (w.heap.size+1) 29 (.int .i64 0):=hb.box 1 rfl
     have c1:=b1'.cell
     have f1:=b1'.frozen
     have c2:=b2'.cell
     have f2:=b2'.frozen
     have l1:=b1'.lt
     have l2:=b2'.lt
     have HB:=hide hB
     have HX1:=hide b1'
     have HX2:=hide b2'
     clear hB hb hd hmp hS hp hcov b1' b2' HRR
     gi_wp2_with fail
     have hK2:=(KeepsOthers.setCell (W.setCell ⟨w.heap.size,0,none⟩ (.bool true)) ⟨w.heap.size+1,0,none⟩ (.int .i64 0)).same D _ ((KeepsOthers.setCell W ⟨w.heap.size,0,none⟩ (.bool true)).same D _ hK rfl) rfl
     refine⟨by simp,.inl ⟨_,_,rfl,run_takeDeferred hK2,?_⟩⟩
     have hb5:=((HB.out.setCell (p:=⟨w.heap.size,0,none⟩) (by simp) (.bool true)).setCell (p:=⟨w.heap.size+1,0,none⟩) (by simp) (.int .i64 0)).trans (belowK_b (w:=w) (Nat.le_refl _) _ D _ (.deferred none) (by omega) hK2 rfl rfl)
     obtain⟨y1,y2⟩:=two_set (u:=.bool true) (u':=.int .i64 0) HX1.out HX2.out
     have e3:=(putObj_cell (W:=(W.setCell ⟨w.heap.size,0,none⟩ (.bool true)).setCell ⟨w.heap.size+1,0,none⟩ (.int .i64 0)) (D:=D) (i:=0) (o:=.deferred none) (b:=w.heap.size) (by omega)).trans y1.cell
     have e4:=(putObj_cell (W:=(W.setCell ⟨w.heap.size,0,none⟩ (.bool true)).setCell ⟨w.heap.size+1,0,none⟩ (.int .i64 0)) (D:=D) (i:=0) (o:=.deferred none) (b:=w.heap.size+1) (by omega)).trans y2.cell
     refine⟨.tuple #[.bool true,.int .i64 0],by simp[results,Tryz.results10,go_sem,e3,e4],?_⟩
     exact Ret.mk' rfl (Grew.of_below hb5)
    case stop =>
     subst ha
     rintro D e pre W hD ⟨k,hk,hr⟩ ⟨⟨⟨hB,hb1⟩,hb2⟩,rfl,hun⟩ hK
     have hrr:=HRR.out
     rw[hun] at hrr
     subst hrr
     have c1:=hb1.cell
     have c2:=hb2.cell
     have HB:=hide hB
     clear hB hb1 hb2 hr hk HRR hun
     gi_wp2_with fail
     refine⟨by simp,.inl ⟨_,_,rfl,run_takeDeferred hK,?_⟩⟩
     have hb5:=HB.out.trans (belowK_b (w:=w) (Nat.le_refl _) _ D _ (.deferred none) (by omega) hK rfl rfl)
     have e3:=(putObj_cell (W:=W) (D:=D) (i:=0) (o:=.deferred none) (b:=w.heap.size) (by omega)).trans c1
     have e4:=(putObj_cell (W:=W) (D:=D) (i:=0) (o:=.deferred none) (b:=w.heap.size+1) (by omega)).trans c2
     refine⟨.tuple #[.bool false,.int .i64 0],by simp[results,Tryz.results10,go_sem,e3,e4],?_⟩
     exact Ret.mk' rfl (Grew.of_below hb5)
end Go.Proofs.YtblgdlnmabkpoaaGreat

