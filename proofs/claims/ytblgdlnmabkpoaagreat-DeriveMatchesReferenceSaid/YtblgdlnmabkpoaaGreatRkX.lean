import Derived.Test.YtblgdlnmabkpoaaGreatCvX
import Derived.Test.YtblgdlnmabkpoaaGreatJoN
import Derived.Test.YtblgdlnmabkpoaaGreatPgX
import Derived.Deep.Cut
/- The reference implementation of package poly: Place, In. -/
set_option linter.unusedSimpArgs false
set_option linter.unusedVariables false
set_option maxHeartbeats 8000000
set_option maxRecDepth 100000
namespace Go.Proofs.YtblgdlnmabkpoaaGreat
open Go.RowKit Go.Sort
attribute [local go_sem] Steady steadyUpon
attribute [local go_sem ↓] hs_dr lt_add_r lt_add_r2 lt_add_r3 lt_add_r4 lt_add_r5 lt_add_r6
attribute [local go_sem] cell?_gd frozen?_gd setCell_gd size_grow tape_grow cell?_grow' frozen?_grow' setCell_grow' grow_grow grow_dr grow_drew dr_dr dr_drew drew_dr dr_alloc dr_setCell dr_cell dr_frozen dr_tape dr_drawn
attribute [local irreducible] wpSteady
/-- The winding number as far as an edge. -/
def wnTo (ps:List Pt)(q:Pt)(m:Nat):Int:=sumN (fun i=>cw q (cor ps i) (cor ps (i+1))) m
theorem cw_one {q a b:Pt}(h1:a.2≤q.2)(h2:q.2<b.2):cw q a b=if 0<tn a b q then 1 else 0:=by
 unfold cw dirE crossB b2i
 rw[if_pos (show a.2≤b.2 by omega),if_neg (show ¬ b.2<a.2 by omega),show decide (a.2≤q.2∧q.2<b.2)=true by rw[decide_eq_true_eq];exact⟨h1,h2⟩]
 by_cases h:0<tn a b q
 ·rw[if_pos h]
  simp[h]
 ·rw[if_neg h]
  simp[h]
theorem cw_two {q a b:Pt}(h1:b.2≤q.2)(h2:q.2<a.2):cw q a b=if tn a b q<0 then -1 else 0:=by
 rw[cw_swap q b a,cw_one h1 h2,tn_swap a b q]
 by_cases h:tn a b q<0
 ·rw[if_pos h,if_pos (by omega)]
 ·rw[if_neg h,if_neg (by omega)]
  rfl
theorem cw_none {q a b:Pt}(h1:¬ (a.2≤q.2∧q.2<b.2))(h2:¬ (b.2≤q.2∧q.2<a.2)):cw q a b=0:=by
 have:crossB q a b=false:=by
  unfold crossB
  split
  ·rw[decide_eq_false h2]
   rfl
  ·rw[decide_eq_false h1]
   rfl
 unfold cw
 rw[this]
 unfold b2i
 simp
theorem cw_bd1 (q a b:Pt):-1≤cw q a b∧cw q a b≤1:=by
 by_cases h1:a.2≤q.2∧q.2<b.2
 ·rw[cw_one h1.1 h1.2]
  split<;>omega
 ·by_cases h2:b.2≤q.2∧q.2<a.2
  ·rw[cw_two h2.1 h2.2]
   split<;>omega
  ·rw[cw_none h1 h2]
   omega
theorem wnTo_bd (ps:List Pt)(q:Pt):∀m:Nat,-(m:Int)≤wnTo ps q m∧wnTo ps q m≤m
 | 0=>by unfold wnTo sumN;omega
 | m+1=>by
  have ih:=wnTo_bd ps q m
  have:=cw_bd1 q (cor ps m) (cor ps (m+1))
  have e:wnTo ps q (m+1)=wnTo ps q m+cw q (cor ps m) (cor ps (m+1)):=rfl
  rw[e]
  omega
theorem on_any {ps:List Pt}{q:Pt}{m:Nat}(hm:m<ps.length)(h:onB q (cor ps m) (cor ps (m+1))=true):onAny ps q=true:=List.any_eq_true.2 ⟨m,List.mem_range.2 hm,h⟩
theorem on_none {ps:List Pt}{q:Pt}(h:∀j,j<ps.length→onB q (cor ps j) (cor ps (j+1))=false):onAny ps q=false:=by
 unfold onAny
 rw[List.any_eq_false]
 intro j hj
 rw[h j (List.mem_range.1 hj)]
 simp
theorem p3Place_v (ps:List Pt)(A:Option Addr)(c:Nat)(q:Pt)(r:Int)(w:World)(hr:Rd w w.heap.size 2 A (ps.map encD))(hv:PValid ps=true)(hq:q.ok=true)(h:placeOf ps q=r) :
  Calls Tryz.prog 121 #[pt q.1 q.2,.slice A ps.length c] w (Ret w (.int .i64 r)):=by
 have hm:=hmix
 have hp:=pv_parts hv
 have hl:ps.length≤100:=by have:=hp.1;omega
 have hok:ps.all Pt.ok=true:=hp.2
 rw[place_wn (pv_simp hv) q] at h
 have HR:=hide hr
 have HOK:=hide hok
 have HQ:=hide hq
 have HH:=hide h
 clear hr hok hq h hv hp
 go_enter Tryz.func121,Tryz.ntmps121
 go_wp2_with fail
 refine wp_name ?_
 intro W0 hW
 have HG0:Hid (Grew w W0):=hide (by rw[←hW];exact gw)
 have HB0:Hid (W0.heap[w.heap.size]?=some (.cells #[.int .i64 q.1,.int .i64 q.2] 26 (0,0))):=hide (by rw[←hW];exact heap_alloc_at _ _ _ (by simp))
 clear hW
 go_loopw [5,6] (fun s i wr=>∃m:Nat,m≤ps.length∧i=.int .i64 m∧s=.int .i64 (wnTo ps q m)∧Grew W0 wr∧AppG (∀j,j<m→onB q (cor ps j) (cor ps (j+1))=false)) (fun _ i _=>ps.length-(intOf i).toNat)
 case atStart=>exact⟨0,by omega,rfl,rfl,gw,show ∀j,j<0→onB q (cor ps j) (cor ps (j+1))=false from fun j hj=>by omega⟩
 case round =>
  obtain⟨m,hmm,rfl,rfl,hg,hall⟩:=hrel
  have HG:=hide hg
  have HA:=hide hall.stop
  have hb0:=(hg.heap (blk_lt HB0.out)).trans HB0.out
  have z0:wr.cell? ⟨w.heap.size,0,none⟩=some _:=blk_cell hb0 0
  have z1:wr.cell? ⟨w.heap.size,1,none⟩=some _:=blk_cell hb0 1
  have zl:=blk_lt hb0
  have hbd:=wnTo_bd ps q m
  clear hg hall hb0
  by_cases hlt:m<ps.length
  ·obtain⟨a,ha⟩:∃a,cor ps m=a:=⟨_,rfl⟩
   obtain⟨b,hb⟩:∃a,cor ps (m+1)=a:=⟨_,rfl⟩
   have oka:a.ok=true:=by rw[←ha];exact cor_ok HOK.out _
   have okb:b.ok=true:=by rw[←hb];exact cor_ok HOK.out _
   have hst:wnTo ps q (m+1)=wnTo ps q m+cw q a b:=by rw[←ha,←hb];rfl
   have hpm:=cor_get hlt
   rw[ha] at hpm
   obtain⟨b1,off1,hA1,hb1,g0,g1⟩:=ptAt (HR.out.up (HG0.out.trans HG.out)) hpm
   have hix1:=idx_run (cap:=c) Tryz.underlying51 Tryz.sizeOf26 hA1.out hlt
   have kn:=hide (fun W (hg:Grew w W)=>Next_v ps A c m b W (HR.out.up hg) (by omega) hlt hb)
   obtain⟨o,ho⟩:∃o,onB q a b=o:=⟨_,rfl⟩
   obtain⟨t,ht⟩:∃t,tn a b q=t:=⟨_,rfl⟩
   have kl:=hide (fun W=>p1Lie_v q a b o W HQ.out oka okb ho)
   have kt:=hide (fun W=>rturn_v a b q t W oka okb HQ.out ht)
   have hon1:o=true→onAny ps q=true:=fun e=>on_any hlt (by rw[ha,hb,ho,e])
   have hon2:o=false→∀j,j<m+1→onB q (cor ps j) (cor ps (j+1))=false:=fun e j hj=>by
    by_cases ej:j=m
    ·rw[ej,ha,hb,ho,e]
    ·exact HA.out j (by omega)
   have hc1:a.2≤q.2→q.2<b.2→wnTo ps q (m+1)=wnTo ps q m+if 0<t then 1 else 0:=fun e1 e2=>by rw[hst,cw_one e1 e2,ht]
   have hc2:b.2≤q.2→q.2<a.2→wnTo ps q (m+1)=wnTo ps q m+if t<0 then -1 else 0:=fun e1 e2=>by rw[hst,cw_two e1 e2,ht]
   have hc3:¬ (a.2≤q.2∧q.2<b.2)→¬ (b.2≤q.2∧q.2<a.2)→wnTo ps q (m+1)=wnTo ps q m:=fun e1 e2=>by rw[hst,cw_none e1 e2,Int.add_zero]
   have H1:=hide hon1
   have H2:=hide hon2
   have HC1:=hide hc1
   have HC2:=hide hc2
   have HC3:=hide hc3
   obtain⟨s,hs⟩:∃s,wnTo ps q m=s:=⟨_,rfl⟩
   rw[hs] at hbd HC1 HC2 HC3
   rw[hs]
   obtain⟨q1,q2⟩:=q
   obtain⟨a1,a2⟩:=a
   obtain⟨b1',b2⟩:=b
   dsimp only at g0 g1 kn kl kt z0 z1 HC1 HC2 HC3
   clear ha hb oka okb hst hpm hA1 ho ht hon1 hon2 hc1 hc2 hc3 hs
   cases o
   ·have HO:=hide (H2.out rfl)
    clear H1 H2
    have hcase:(a2≤q2∧q2<b2∧0<t)∨(a2≤q2∧q2<b2∧¬ 0<t)∨(a2≤q2∧¬ q2<b2∧b2≤q2∧¬ q2<a2)∨(¬ a2≤q2∧b2≤q2∧t<0)∨(¬ a2≤q2∧b2≤q2∧¬ t<0)∨(¬ a2≤q2∧¬ b2≤q2):=by omega
    rcases hcase with⟨c1,c2,c3⟩|⟨c1,c2,c3⟩|⟨c1,c2,c3,c4⟩|⟨c1,c2,c3⟩|⟨c1,c2,c3⟩|⟨c1,c2⟩
    ·have c5:¬ b2≤q2:=by omega
     have HS:=hide (show wnTo ps (q1,q2) (m+1)=s+1 by rw[HC1.out c1 c2,if_pos c3])
     clear HC1 HC2 HC3
     go_wp2_with (first|(go_at_call 119;with_reducible refine crv (kn.out _ (HG0.out.trans (HG.out.trans gw))) fun _ _=>?_;dsimp only)|(go_at_call 160;with_reducible refine crv (kl.out _) fun _ _=>?_;dsimp only)|(go_at_call 133;with_reducible refine crv (kt.out _) fun _ _=>?_;dsimp only))
     go_roundw
     case rel=>exact⟨m+1,by omega,by go_num,ret_int (by rw[HS.out]),HG.out.trans gw,show ∀j,j<m+1→onB (q1,q2) (cor ps j) (cor ps (j+1))=false from HO.out⟩
     case measure=>simp[intOf];omega
    ·have c5:¬ b2≤q2:=by omega
     have HS:=hide (show wnTo ps (q1,q2) (m+1)=s by rw[HC1.out c1 c2,if_neg c3,Int.add_zero])
     clear HC1 HC2 HC3
     go_wp2_with (first|(go_at_call 119;with_reducible refine crv (kn.out _ (HG0.out.trans (HG.out.trans gw))) fun _ _=>?_;dsimp only)|(go_at_call 160;with_reducible refine crv (kl.out _) fun _ _=>?_;dsimp only)|(go_at_call 133;with_reducible refine crv (kt.out _) fun _ _=>?_;dsimp only))
     go_roundw
     case rel=>exact⟨m+1,by omega,by go_num,ret_int (by rw[HS.out]),HG.out.trans gw,show ∀j,j<m+1→onB (q1,q2) (cor ps j) (cor ps (j+1))=false from HO.out⟩
     case measure=>simp[intOf];omega
    ·have HS:=hide (show wnTo ps (q1,q2) (m+1)=s from HC3.out (by omega) (by omega))
     clear HC1 HC2 HC3
     go_wp2_with (first|(go_at_call 119;with_reducible refine crv (kn.out _ (HG0.out.trans (HG.out.trans gw))) fun _ _=>?_;dsimp only)|(go_at_call 160;with_reducible refine crv (kl.out _) fun _ _=>?_;dsimp only)|(go_at_call 133;with_reducible refine crv (kt.out _) fun _ _=>?_;dsimp only))
     go_roundw
     case rel=>exact⟨m+1,by omega,by go_num,ret_int (by rw[HS.out]),HG.out.trans gw,show ∀j,j<m+1→onB (q1,q2) (cor ps j) (cor ps (j+1))=false from HO.out⟩
     case measure=>simp[intOf];omega
    ·have c5:q2<a2:=by omega
     have HS:=hide (show wnTo ps (q1,q2) (m+1)=s-1 by rw[HC2.out c2 c5,if_pos c3];omega)
     clear HC1 HC2 HC3
     go_wp2_with (first|(go_at_call 119;with_reducible refine crv (kn.out _ (HG0.out.trans (HG.out.trans gw))) fun _ _=>?_;dsimp only)|(go_at_call 160;with_reducible refine crv (kl.out _) fun _ _=>?_;dsimp only)|(go_at_call 133;with_reducible refine crv (kt.out _) fun _ _=>?_;dsimp only))
     go_roundw
     case rel=>exact⟨m+1,by omega,by go_num,ret_int (by rw[HS.out]),HG.out.trans gw,show ∀j,j<m+1→onB (q1,q2) (cor ps j) (cor ps (j+1))=false from HO.out⟩
     case measure=>simp[intOf];omega
    ·have c5:q2<a2:=by omega
     have HS:=hide (show wnTo ps (q1,q2) (m+1)=s by rw[HC2.out c2 c5,if_neg c3,Int.add_zero])
     clear HC1 HC2 HC3
     go_wp2_with (first|(go_at_call 119;with_reducible refine crv (kn.out _ (HG0.out.trans (HG.out.trans gw))) fun _ _=>?_;dsimp only)|(go_at_call 160;with_reducible refine crv (kl.out _) fun _ _=>?_;dsimp only)|(go_at_call 133;with_reducible refine crv (kt.out _) fun _ _=>?_;dsimp only))
     go_roundw
     case rel=>exact⟨m+1,by omega,by go_num,ret_int (by rw[HS.out]),HG.out.trans gw,show ∀j,j<m+1→onB (q1,q2) (cor ps j) (cor ps (j+1))=false from HO.out⟩
     case measure=>simp[intOf];omega
    ·have HS:=hide (show wnTo ps (q1,q2) (m+1)=s from HC3.out (by omega) (by omega))
     clear HC1 HC2 HC3
     go_wp2_with (first|(go_at_call 119;with_reducible refine crv (kn.out _ (HG0.out.trans (HG.out.trans gw))) fun _ _=>?_;dsimp only)|(go_at_call 160;with_reducible refine crv (kl.out _) fun _ _=>?_;dsimp only)|(go_at_call 133;with_reducible refine crv (kt.out _) fun _ _=>?_;dsimp only))
     go_roundw
     case rel=>exact⟨m+1,by omega,by go_num,ret_int (by rw[HS.out]),HG.out.trans gw,show ∀j,j<m+1→onB (q1,q2) (cor ps j) (cor ps (j+1))=false from HO.out⟩
     case measure=>simp[intOf];omega
   ·have hz:r=0:=by rw[←HH.out,if_pos (H1.out rfl)]
    subst hz
    clear H1 H2 HC1 HC2 HC3
    go_wp2_with (first|(go_at_call 119;with_reducible refine crv (kn.out _ (HG0.out.trans (HG.out.trans gw))) fun _ _=>?_;dsimp only)|(go_at_call 160;with_reducible refine crv (kl.out _) fun _ _=>?_;dsimp only))
    go_ret
    exact Ret.mk' rfl (HG0.out.trans (HG.out.trans gw))
  ·obtain rfl:m=ps.length:=by omega
   have hr2:r=if wnTo ps q ps.length=0 then -1 else 1:=by
    rw[←HH.out,on_none HA.out,if_neg (by simp)]
    rfl
   obtain⟨s,hs⟩:∃s,wnTo ps q ps.length=s:=⟨_,rfl⟩
   rw[hs] at hr2 hbd ⊢
   clear hs
   by_cases h0:s=0
   ·subst h0
    rw[if_pos rfl] at hr2
    subst hr2
    go_wp2_with fail
    go_ret
    exact Ret.mk' rfl (HG0.out.trans (HG.out.trans gw))
   ·have h1:(s==0)=false:=by simpa using h0
    rw[if_neg h0] at hr2
    subst hr2
    go_wp2_with fail
    go_ret
    exact Ret.mk' rfl (HG0.out.trans (HG.out.trans gw))
theorem p3In_v (ps:List Pt)(A:Option Addr)(c:Nat)(q:Pt)(r:Int×Int)(w:World)(hr:Rd w w.heap.size 2 A (ps.map encD))(hc:ps.length≤100000000000000)(h:inOf ps q=r) :
  Calls Tryz.prog 89 #[pt q.1 q.2,.slice A ps.length c] w (Ret w (.tuple #[.int .i64 r.1,.int .i64 r.2])):=by
 have hm:=hmix
 obtain⟨u,hu⟩:∃u,q.ok=u:=⟨_,rfl⟩
 obtain⟨v,hv⟩:∃u,PValid ps=u:=⟨_,rfl⟩
 have k1:=hide (fun W=>p1Valid_v q.1 q.2 u W hu)
 have k2:=hide (fun W (hg:Grew w W)=>p3Valid_v ps A c v W (hr.up hg) hc hv)
 unfold inOf at h
 rw[hu,hv] at h
 have HR:=hide hr
 have hcase:u=false∨(u=true∧v=false)∨(u=true∧v=true):=by cases u<;>cases v<;>simp
 rcases hcase with rfl|⟨rfl,rfl⟩|⟨rfl,rfl⟩
 ·rw[if_neg (by simp)] at h
  subst h
  clear hu hv hr
  obtain⟨q1,q2⟩:=q
  dsimp only at k1 ⊢
  go_enter Tryz.func89,Tryz.ntmps89
  go_wp2_with (first|(go_at_call 47;with_reducible refine crv (k1.out _) fun _ _=>?_;dsimp only)|(go_at_call 86;with_reducible refine crv (k2.out _ gw) fun _ _=>?_;dsimp only))
  go_ret2
  exact Ret.mk' rfl gw
 ·rw[if_neg (by simp)] at h
  subst h
  clear hu hv hr
  obtain⟨q1,q2⟩:=q
  dsimp only at k1 ⊢
  go_enter Tryz.func89,Tryz.ntmps89
  go_wp2_with (first|(go_at_call 47;with_reducible refine crv (k1.out _) fun _ _=>?_;dsimp only)|(go_at_call 86;with_reducible refine crv (k2.out _ gw) fun _ _=>?_;dsimp only))
  go_ret2
  exact Ret.mk' rfl gw
 ·rw[if_pos (by rfl)] at h
  subst h
  have k3:=hide (fun W (hg:Grew w W)=>p3Place_v ps A c q _ W (HR.out.up hg) hv hu rfl)
  generalize placeOf ps q=z at *
  clear hu hv hr
  obtain⟨q1,q2⟩:=q
  dsimp only at k1 k3 ⊢
  go_enter Tryz.func89,Tryz.ntmps89
  go_wp2_with (first|(go_at_call 47;with_reducible refine crv (k1.out _) fun _ _=>?_;dsimp only)|(go_at_call 86;with_reducible refine crv (k2.out _ gw) fun _ _=>?_;dsimp only)|(go_at_call 121;with_reducible refine crv (k3.out _ gw) fun _ _=>?_;dsimp only))
  go_ret2
  exact Ret.mk' rfl gw
set_option maxHeartbeats 8000000
set_option maxRecDepth 100000
/-- A direction. -/
def sb (b a:Pt):Pt:=(b.1-a.1,b.2-a.2)
/-- Whether a direction leads into a corner with these edges. -/
def opensV (to back v:Pt):Bool:=if 0<crs2 to back then decide (0≤crs2 to v)&&decide (0≤crs2 v back) else !(decide (0<crs2 back v)&&decide (0<crs2 v to))
def opensR (ps:List Pt)(i:Nat)(v:Pt):Bool:=opensV (sb (cor ps (i+1)) (cor ps i)) (sb (cor ps (i+ps.length-1)) (cor ps i)) v
theorem sg_posR {x:Int}:0<sg x↔0<x:=by rcases sg_cases x with⟨h,e⟩|⟨h,e⟩|⟨h,e⟩<;>rw[e]<;>omega
theorem sg_nn {x:Int}:0≤sg x↔0≤x:=by rcases sg_cases x with⟨h,e⟩|⟨h,e⟩|⟨h,e⟩<;>rw[e]<;>omega
theorem sg_np {x:Int}:sg x≤0↔x≤0:=by rcases sg_cases x with⟨h,e⟩|⟨h,e⟩|⟨h,e⟩<;>rw[e]<;>omega
theorem crs2_sb (a b c:Pt):crs2 (sb b a) (sb c a)=cr a b c:=by unfold crs2 sb cr;rfl
theorem cr_round (a b c:Pt):cr a b c=cr b c a:=by unfold cr;grind
theorem opens_ref (ps:List Pt)(i:Nat)(to:Pt):opensR ps i (sb to (cor ps i))=opensOf ps i to:=by
 unfold opensR opensV opensOf tn
 simp only[crs2_sb,sg_posR,sg_nn,sg_np]
 rw[cr_round (cor ps (i+ps.length-1)) (cor ps i) (cor ps (i+1))]
 by_cases h:0<cr (cor ps i) (cor ps (i+1)) (cor ps (i+ps.length-1))
 ·rw[if_pos h,if_pos h]
 ·rw[if_neg h,if_neg h,Bool.eq_iff_iff]
  first|(simp;done)|(simp;omega)
theorem crs2_scl (k:Int)(u v:Pt):crs2 u (k*v.1,k*v.2)=k*crs2 u v∧crs2 (k*v.1,k*v.2) u=k*crs2 v u:=by
 unfold crs2
 constructor<;>grind
theorem pos_scl {k x:Int}(hk:0<k):(0<k*x↔0<x)∧(0≤k*x↔0≤x):=by
 rcases Int.lt_trichotomy x 0 with h|h|h
 ·have:=Int.mul_neg_of_pos_of_neg hk h
  omega
 ·subst h
  simp
 ·have:=Int.mul_pos hk h
  omega
theorem opens_scl {to back v:Pt}{k:Int}(hk:0<k):opensV to back (k*v.1,k*v.2)=opensV to back v:=by
 unfold opensV
 rw[(crs2_scl k to v).1,(crs2_scl k back v).2,(crs2_scl k back v).1,(crs2_scl k to v).2]
 simp only[(pos_scl hk).1,(pos_scl hk).2]
theorem p3opens_v (ps:List Pt)(A:Option Addr)(c:Nat)(k:Nat)(v:Pt)(r:Bool)(w:World)(hr:Rd w w.heap.size 2 A (ps.map encD))(hl:ps.length≤100)(hok:ps.all Pt.ok=true)(hv1:-4000000≤v.1∧v.1≤4000000)(hv2:-4000000≤v.2∧v.2≤4000000)(hlt:k<ps.length)(h:opensR ps k v=r) :
  Calls Tryz.prog 163 #[.slice A ps.length c,.int .i64 k,pt v.1 v.2] w (Ret w (.bool r)):=by
 have hm:=hmix
 have hpos:0<ps.length:=by omega
 obtain⟨j,hj⟩:∃j,(k+ps.length-1)%ps.length=j:=⟨_,rfl⟩
 have hjl:j<ps.length:=by rw[←hj];exact Nat.mod_lt _ hpos
 have hq1:=cor_mod (ps:=ps) (k+ps.length-1) hpos
 rw[hj] at hq1
 obtain⟨b1,off1,hA1,hb1,g0,g1⟩:=ptAt hr (cor_get hlt)
 obtain⟨b2,off2,hA2,hb2,g2,g3⟩:=ptAt hr hq1
 have hix1:=idx_run (cap:=c) Tryz.underlying51 Tryz.sizeOf26 hA1.out hlt
 have hix2:=idx_run (cap:=c) (k:=j) (len:=ps.length) Tryz.underlying51 Tryz.sizeOf26 hA2.out hjl
 have ej:((k:Int)+(ps.length:Int)-1).tmod (ps.length:Int)=(j:Int):=by
  rw[Int.tmod_eq_emod_of_nonneg (by omega),show (k:Int)+(ps.length:Int)-1=((k+ps.length-1:Nat):Int) by omega,←Int.natCast_emod,hj]
 have ew1:IntKind.i64.wrap ((k:Int)+(ps.length:Int))=(k:Int)+(ps.length:Int):=by unfold IntKind.wrap;simp[IntKind.bits,IntKind.signed];omega
 have ew2:IntKind.i64.wrap ((k:Int)+(ps.length:Int)-1)=(k:Int)+(ps.length:Int)-1:=by unfold IntKind.wrap;simp[IntKind.bits,IntKind.signed];omega
 have hne:¬ (ps.length:Int)=0:=by omega
 have hne2:¬ ps=[]:=by intro e;rw[e] at hlt;simp at hlt
 have o1:=cor_ok hok (k+ps.length-1)
 have o2:=cor_ok hok k
 have o3:=cor_ok hok (k+1)
 have kn:=hide (fun W (hg:Grew w W)=>Next_v ps A c k _ W (hr.up hg) (by omega) hlt rfl)
 have m1:=hide (fun W=>rMinus_v (cor ps k) (cor ps (k+1)) W o2 o3)
 have m2:=hide (fun W=>rMinus_v (cor ps k) (cor ps (k+ps.length-1)) W o2 o1)
 have a':=ok_bd o2
 have b':=ok_bd o3
 have d':=ok_bd o1
 unfold opensR sb at h
 generalize cor ps (k+ps.length-1)=qd at *
 generalize cor ps k=qa at *
 generalize cor ps (k+1)=qb at *
 obtain⟨a1,a2⟩:=qa
 obtain⟨bb1,bb2⟩:=qb
 obtain⟨d1,d2⟩:=qd
 obtain⟨v1,v2⟩:=v
 dsimp only at *
 have T1:-4000000≤bb1-a1∧bb1-a1≤4000000:=by omega
 have T2:-4000000≤bb2-a2∧bb2-a2≤4000000:=by omega
 have U1:-4000000≤d1-a1∧d1-a1≤4000000:=by omega
 have U2:-4000000≤d2-a2∧d2-a2≤4000000:=by omega
 obtain⟨t1,ht1⟩:∃z,bb1-a1=z:=⟨_,rfl⟩
 obtain⟨t2,ht2⟩:∃z,bb2-a2=z:=⟨_,rfl⟩
 obtain⟨u1,hu1⟩:∃z,d1-a1=z:=⟨_,rfl⟩
 obtain⟨u2,hu2⟩:∃z,d2-a2=z:=⟨_,rfl⟩
 rw[ht1] at T1
 rw[ht2] at T2
 rw[hu1] at U1
 rw[hu2] at U2
 rw[ht1,ht2] at m1 h
 rw[hu1,hu2] at m2 h
 have x1:=hide (fun W=>rCross_any t1 t2 u1 u2 W T1 T2 U1 U2)
 have x2:=hide (fun W=>rCross_any t1 t2 v1 v2 W T1 T2 hv1 hv2)
 have x3:=hide (fun W=>rCross_any v1 v2 u1 u2 W hv1 hv2 U1 U2)
 have x4:=hide (fun W=>rCross_any u1 u2 v1 v2 W U1 U2 hv1 hv2)
 have x5:=hide (fun W=>rCross_any v1 v2 t1 t2 W hv1 hv2 T1 T2)
 unfold opensV crs2 at h
 dsimp only at h
 generalize t1*u2-t2*u1=X1 at *
 generalize t1*v2-t2*v1=X2 at *
 generalize v1*u2-v2*u1=X3 at *
 generalize u1*v2-u2*v1=X4 at *
 generalize v1*t2-v2*t1=X5 at *
 clear ht1 ht2 hu1 hu2 T1 T2 U1 U2 a' b' d' o1 o2 o3 hq1 hA1 hA2 hj hr hok hv1 hv2 hpos
 have hcase:(decide (0<X1)=true∧decide (0≤X2)=true∧r=decide (0≤X3))∨(decide (0<X1)=true∧decide (0≤X2)=false∧r=false)∨(decide (0<X1)=false∧decide (0<X4)=true∧r = !decide (0<X5))∨(decide (0<X1)=false∧decide (0<X4)=false∧r=true):=by
  by_cases q0:0<X1
  ·rw[if_pos q0] at h
   by_cases q1:0≤X2
   ·exact .inl ⟨decide_eq_true q0,decide_eq_true q1,by rw[←h,decide_eq_true q1,Bool.true_and]⟩
   ·exact .inr (.inl ⟨decide_eq_true q0,decide_eq_false q1,by rw[←h,decide_eq_false q1,Bool.false_and]⟩)
  ·rw[if_neg q0] at h
   by_cases q1:0<X4
   ·exact .inr (.inr (.inl ⟨decide_eq_false q0,decide_eq_true q1,by rw[←h,decide_eq_true q1,Bool.true_and]⟩))
   ·exact .inr (.inr (.inr ⟨decide_eq_false q0,decide_eq_false q1,by rw[←h,decide_eq_false q1,Bool.false_and];rfl⟩))
 clear h
 rcases hcase with⟨q0,q1,q2⟩|⟨q0,q1,q2⟩|⟨q0,q1,q2⟩|⟨q0,q1,q2⟩
 all_goals
  subst q2
  go_enter Tryz.func163,Tryz.ntmps163
  go_wp2_with fail
  refine wp_region_qas 10 [⟨8,9,8,26,.agg #[.int .i64 0,.int .i64 0]⟩] [] hm (hZ:=(ZOk.cons Tryz.zeroValue26 Tryz.sizeOf26 ZOk.nil)) (h:=?_)
  repeat (refine wpSteady_step (fun K hK=>?_);go_simp;first|(refine hK _ ?_;clear hK K)|(apply Exists.intro;refine⟨fun _=>?_,hK _ ?_⟩;(first|(go_at_call 119;with_reducible exact kn.out _ gw)|(go_at_call 139;with_reducible exact m1.out _));clear hK K))
  refine wpSteady_nil ?_
  refine⟨(StOk.cons (by rfl) (by simp[stOpnd,Act.eval,Value.cells,Value.oneCell']) StOk.nil),LyOk.nil,?_⟩
  rintro psq qsq WqH0 HWqH0 HFq HBq
  obtain rfl:qsq=[]:=HBq
  obtain⟨pH00,_,rfl,hpH00,hbH00,hnH00,rfl⟩:=HFq
  simp only[putAll,putB,Act.put,setA]
  simp[stOpnd,Act.eval,Value.cells] at hbH00
  have gcH00_0:WqH0.cell? ⟨pH00,0,none⟩=some _:=blk_cell hbH00 0
  have gcH00_1:WqH0.cell? ⟨pH00,1,none⟩=some _:=blk_cell hbH00 1
  have gfH00:=blk_frozen hbH00
  have glH00:=blk_lt hbH00
  have gpH00:=hide hpH00
  have ghH00:=hide hbH00
  clear hbH00 hnH00 hpH00
  have ocH0:=old_cell HWqH0
  have ofH0:=old_frozen HWqH0
  have olH0:=old_lt HWqH0
  replace HWqH0:=hide HWqH0
  have z0:WqH0.cell? ⟨w.heap.size,0,none⟩=some (.int .i64 v1):=(ocH0 _ _ (by simp)).trans (by go_simp)
  have z1:WqH0.cell? ⟨w.heap.size,1,none⟩=some (.int .i64 v2):=(ocH0 _ _ (by simp)).trans (by go_simp)
  have zl:w.heap.size<WqH0.heap.size:=by rw[olH0 _ (by simp)];trivial
  have h0:WqH0.cell? ⟨b1,off1+k*2,none⟩=some (.int .i64 a1):=(ocH0 _ _ (by simp;omega)).trans (by go_simp)
  have h1:WqH0.cell? ⟨b1,off1+k*2+1,none⟩=some (.int .i64 a2):=(ocH0 _ _ (by simp;omega)).trans (by go_simp)
  have h2:WqH0.cell? ⟨b2,off2+j*2,none⟩=some (.int .i64 d1):=(ocH0 _ _ (by simp;omega)).trans (by go_simp)
  have h3:WqH0.cell? ⟨b2,off2+j*2+1,none⟩=some (.int .i64 d2):=(ocH0 _ _ (by simp;omega)).trans (by go_simp)
  have l1:b1<WqH0.heap.size:=by rw[olH0 _ (by simp;omega)];trivial
  have l2:b2<WqH0.heap.size:=by rw[olH0 _ (by simp;omega)];trivial
  have s0:=gcH00_0
  have s1:=gcH00_1
  have s2:=glH00
  clear ocH0 ofH0 olH0 g0 g1 g2 g3
  go_wp2_with fail
  refine wp_region_qas 16 [⟨14,15,9,26,.agg #[.int .i64 0,.int .i64 0]⟩] [] hm (hZ:=(ZOk.cons Tryz.zeroValue26 Tryz.sizeOf26 ZOk.nil)) (h:=?_)
  repeat (refine wpSteady_step (fun K hK=>?_);go_simp;first|(refine hK _ ?_;clear hK K)|(apply Exists.intro;refine⟨fun _=>?_,hK _ ?_⟩;((go_at_call 139;with_reducible exact m2.out _));clear hK K))
  refine wpSteady_nil ?_
  refine⟨(StOk.cons (by rfl) (by simp[stOpnd,Act.eval,Value.cells,Value.oneCell']) StOk.nil),LyOk.nil,?_⟩
  rintro psq qsq WqH1 HWqH1 HFq HBq
  obtain rfl:qsq=[]:=HBq
  obtain⟨pH10,_,rfl,hpH10,hbH10,hnH10,rfl⟩:=HFq
  simp only[putAll,putB,Act.put,setA]
  simp[stOpnd,Act.eval,Value.cells] at hbH10
  have gcH10_0:WqH1.cell? ⟨pH10,0,none⟩=some _:=blk_cell hbH10 0
  have gcH10_1:WqH1.cell? ⟨pH10,1,none⟩=some _:=blk_cell hbH10 1
  have gfH10:=blk_frozen hbH10
  have glH10:=blk_lt hbH10
  have gpH10:=hide hpH10
  have ghH10:=hide hbH10
  clear hbH10 hnH10 hpH10
  have ocH1:=old_cell HWqH1
  have ofH1:=old_frozen HWqH1
  have olH1:=old_lt HWqH1
  replace HWqH1:=hide HWqH1
  have y0:WqH1.cell? ⟨w.heap.size,0,none⟩=some (.int .i64 v1):=(ocH1 _ _ zl).trans z0
  have y1:WqH1.cell? ⟨w.heap.size,1,none⟩=some (.int .i64 v2):=(ocH1 _ _ zl).trans z1
  have y2:WqH1.cell? ⟨pH00,0,none⟩=some (.int .i64 t1):=(ocH1 _ _ s2).trans s0
  have y3:WqH1.cell? ⟨pH00,1,none⟩=some (.int .i64 t2):=(ocH1 _ _ s2).trans s1
  have yl:w.heap.size<WqH1.heap.size:=by rw[olH1 _ zl];trivial
  have yl2:pH00<WqH1.heap.size:=by rw[olH1 _ s2];trivial
  clear ocH1 ofH1 olH1 z0 z1 h0 h1 h2 h3 s0 s1
  go_wp2_with (first|(go_at_call 157;with_reducible refine crv (x1.out _) fun _ _=>?_;dsimp only)|(go_at_call 157;with_reducible refine crv (x2.out _) fun _ _=>?_;dsimp only)|(go_at_call 157;with_reducible refine crv (x3.out _) fun _ _=>?_;dsimp only)|(go_at_call 157;with_reducible refine crv (x4.out _) fun _ _=>?_;dsimp only)|(go_at_call 157;with_reducible refine crv (x5.out _) fun _ _=>?_;dsimp only))
  go_ret
  exact Ret.mk' (ret_bool (by simp[*])) (Grew.trans gw (HWqH0.out.trans (Grew.trans gw (HWqH1.out.trans gw))))
set_option maxHeartbeats 8000000
set_option maxRecDepth 100000
theorem p3cuts_v (a b c d:Pt)(r:Bool)(w:World)(ha:a.ok=true)(hb:b.ok=true)(hc:c.ok=true)(hd:d.ok=true)(h:cutB a b c d=r) :
  Calls Tryz.prog 162 #[pt a.1 a.2,pt b.1 b.2,pt c.1 c.2,pt d.1 d.2] w (Ret w (.bool r)):=by
 have hm:=hmix
 have k1:=hide (fun W=>rturn_v a b c _ W ha hb hc rfl)
 have k2:=hide (fun W=>rturn_v a b d _ W ha hb hd rfl)
 have k3:=hide (fun W=>rturn_v c d a _ W hc hd ha rfl)
 have k4:=hide (fun W=>rturn_v c d b _ W hc hd hb rfl)
 have b12:=mul_sg (tn_bd a b c) (tn_bd a b d)
 have b34:=mul_sg (tn_bd c d a) (tn_bd c d b)
 unfold cutB at h
 generalize tn a b c=t1 at *
 generalize tn a b d=t2 at *
 generalize tn c d a=t3 at *
 generalize tn c d b=t4 at *
 have e12:IntKind.i64.wrap (t1*t2)=t1*t2:=by unfold IntKind.wrap;simp[IntKind.bits,IntKind.signed];omega
 have e34:IntKind.i64.wrap (t3*t4)=t3*t4:=by unfold IntKind.wrap;simp[IntKind.bits,IntKind.signed];omega
 obtain⟨a1,a2⟩:=a
 obtain⟨b1,b2⟩:=b
 obtain⟨c1,c2⟩:=c
 obtain⟨d1,d2⟩:=d
 clear ha hb hc hd
 dsimp only at *
 subst h
 by_cases y1:t1*t2<0
 ·have y1d:=decide_eq_true y1
  go_enter Tryz.func162,Tryz.ntmps162
  go_wp2_with fail
  refine wp_region_qas 23 [] [] hm (h:=?_)
  repeat (refine wpSteady_step (fun K hK=>?_);go_simp;first|(refine hK _ ?_;clear hK K)|(apply Exists.intro;refine⟨fun _=>?_,hK _ ?_⟩;((go_at_call 133;first|with_reducible exact k1.out _|with_reducible exact k2.out _|with_reducible exact k3.out _|with_reducible exact k4.out _));clear hK K))
  refine rq0 fun nq osq=>?_
  try simp only[Act.put,setA]
  try dsimp only
  go_wp2_with fail
  go_ret
  exact Ret.mk' (ret_bool (by simp[y1])) gw
 ·have y1d:=decide_eq_false y1
  go_enter Tryz.func162,Tryz.ntmps162
  go_wp2_with fail
  refine wp_region_qas 23 [] [] hm (h:=?_)
  repeat (refine wpSteady_step (fun K hK=>?_);go_simp;first|(refine hK _ ?_;clear hK K)|(apply Exists.intro;refine⟨fun _=>?_,hK _ ?_⟩;((go_at_call 133;first|with_reducible exact k1.out _|with_reducible exact k2.out _|with_reducible exact k3.out _|with_reducible exact k4.out _));clear hK K))
  refine rq0 fun nq osq=>?_
  try simp only[Act.put,setA]
  try dsimp only
  go_wp2_with fail
  go_ret
  exact Ret.mk' (ret_bool (by simp;intro h;omega)) gw
def edgeR (ps:List Pt)(v:Pt)(i:Nat):Bool:=decide (0≤crs2 (sb (cor ps (i+1)) (cor ps i)) v)
def leadsR (ps:List Pt)(a v:Pt):Bool :=
 match (List.range ps.length).find? (fun i=>decide (cor ps i=a)) with
 | some i=>opensR ps i v
 | none=>match (List.range ps.length).find? (fun i=>onB a (cor ps i) (cor ps (i+1))) with
  | some i=>edgeR ps v i
  | none=>true
theorem crs2_off {a c n to:Pt}(h:cr c n a=0):crs2 (sb n c) (sb to a)=cr c n to:=by
 unfold crs2 sb
 unfold cr at h ⊢
 dsimp only
 grind
theorem leads_ref (ps:List Pt)(a to:Pt):leadsR ps a (sb to a)=leadsOf ps a to:=by
 unfold leadsR leadsOf
 cases hc:(List.range ps.length).find? (fun i=>decide (cor ps i=a)) with
 | some i =>
  dsimp only
  have e:cor ps i=a:=by simpa using List.find?_some hc
  rw[←opens_ref,e]
 | none =>
  dsimp only
  cases he:(List.range ps.length).find? (fun i=>onB a (cor ps i) (cor ps (i+1))) with
  | some i =>
   dsimp only
   have e:=List.find?_some he
   unfold onB at e
   rw[decide_eq_true_eq] at e
   unfold edgeR edgeLeads
   rw[crs2_off (tn_zero_cr.1 e.1)]
   unfold tn
   simp only[sg_nn]
  | none=>rfl
theorem leadsR_corner {ps:List Pt}{a v:Pt}{k:Nat}(hk:k<ps.length)(h:cor ps k=a)(hn:∀j,j<k→cor ps j≠a):leadsR ps a v=opensR ps k v:=by
 unfold leadsR
 rw[range_find_some hk (by simpa using h) (fun j hj=>by simpa using hn j hj)]
theorem leadsR_edge {ps:List Pt}{a v:Pt}{k:Nat}(hc:∀i,i<ps.length→cor ps i≠a)(hk:k<ps.length)(h:onB a (cor ps k) (cor ps (k+1))=true)(hn:∀j,j<k→onB a (cor ps j) (cor ps (j+1))=false):leadsR ps a v=edgeR ps v k:=by
 unfold leadsR
 rw[range_find_none (fun j hj=>by simpa using hc j hj)]
 dsimp only
 rw[range_find_some hk h hn]
theorem leadsR_in {ps:List Pt}{a v:Pt}(hc:∀i,i<ps.length→cor ps i≠a)(hn:∀j,j<ps.length→onB a (cor ps j) (cor ps (j+1))=false):leadsR ps a v=true:=by
 unfold leadsR
 rw[range_find_none (fun j hj=>by simpa using hc j hj)]
 dsimp only
 rw[range_find_none hn]
theorem p3leads_v (ps:List Pt)(A:Option Addr)(c:Nat)(a v:Pt)(r:Bool)(w:World)(hr:Rd w w.heap.size 2 A (ps.map encD))(hl:ps.length≤100)(hok:ps.all Pt.ok=true)(hao:a.ok=true)(hv1:-4000000≤v.1∧v.1≤4000000)(hv2:-4000000≤v.2∧v.2≤4000000)(h:leadsR ps a v=r) :
  Calls Tryz.prog 161 #[.slice A ps.length c,pt a.1 a.2,pt v.1 v.2] w (Ret w (.bool r)):=by
 have hm:=hmix
 have HR:=hide hr
 have HOK:=hide hok
 have HAO:=hide hao
 have HH:=hide h
 have ko:=hide (fun (k:Nat) (hk:k<ps.length) (s:Bool) (hs:opensR ps k v=s) W (hg:Grew w W)=>p3opens_v ps A c k v s W (hr.up hg) hl hok hv1 hv2 hk hs)
 clear hr hok hao h
 obtain⟨x1,x2⟩:=a
 obtain⟨v1,v2⟩:=v
 dsimp only at hv1 hv2 ko
 go_enter Tryz.func161,Tryz.ntmps161
 go_wp2_with fail
 refine wp_name ?_
 intro W0 hW
 have HG0:Hid (Grew w W0):=hide (by rw[←hW];exact gw)
 have HB0:Hid (W0.heap[w.heap.size]?=some (.cells #[.int .i64 x1,.int .i64 x2] 26 (0,0))):=hide (by rw[←hW];exact (heap_alloc_old _ _ (by simp)).trans (heap_alloc_at _ _ _ (by simp)))
 have HB1:Hid (W0.heap[w.heap.size+1]?=some (.cells #[.int .i64 v1,.int .i64 v2] 26 (0,0))):=hide (by rw[←hW];exact heap_alloc_at _ _ _ (by simp))
 clear hW
 go_loopw [7] (fun i wr=>∃m:Nat,m≤ps.length∧i=.int .i64 m∧Grew W0 wr∧AppG (∀j,j<m→cor ps j≠(x1,x2))) (fun i _=>ps.length-(intOf i).toNat)
 case atStart=>exact⟨0,by omega,rfl,gw,show ∀j,j<0→cor ps j≠(x1,x2) from fun j hj=>by omega⟩
 case round =>
  obtain⟨m,hmm,rfl,hg,hall⟩:=hrel
  have HG:=hide hg
  have HA:=hide hall.stop
  have hb0:=(hg.heap (blk_lt HB0.out)).trans HB0.out
  have hb1:=(hg.heap (blk_lt HB1.out)).trans HB1.out
  have z0:wr.cell? ⟨w.heap.size,0,none⟩=some _:=blk_cell hb0 0
  have z1:wr.cell? ⟨w.heap.size,1,none⟩=some _:=blk_cell hb0 1
  have z2:wr.cell? ⟨w.heap.size+1,0,none⟩=some _:=blk_cell hb1 0
  have z3:wr.cell? ⟨w.heap.size+1,1,none⟩=some _:=blk_cell hb1 1
  have zl:=blk_lt hb0
  have zl1:=blk_lt hb1
  clear hg hall hb0 hb1
  by_cases hlt:m<ps.length
  ·obtain⟨p,hp⟩:∃p,cor ps m=p:=⟨_,rfl⟩
   have hpm:=cor_get hlt
   rw[hp] at hpm
   obtain⟨b1,off1,hA1,hb1,g0,g1⟩:=ptAt (HR.out.up (HG0.out.trans HG.out)) hpm
   have hix1:=idx_run (cap:=c) Tryz.underlying51 Tryz.sizeOf26 hA1.out hlt
   have HP:=hide hp
   obtain⟨p1,p2⟩:=p
   dsimp only at g0 g1
   clear hA1 hp hpm
   have hcase:(p1=x1∧p2=x2)∨(p1≠x1)∨(p1=x1∧p2≠x2):=by omega
   rcases hcase with⟨rfl,rfl⟩|e1|⟨rfl,e1⟩
   ·have hs:opensR ps m (v1,v2)=r:=by rw[←HH.out,leadsR_corner hlt HP.out HA.out]
    have k1:=hide (ko.out m hlt r hs)
    clear hs
    go_wp2_with fail
    refine wp_region_qas 6 [] [] hm (h:=?_)
    repeat (refine wpSteady_step (fun K hK=>?_);go_simp;refine hK _ ?_;clear hK K)
    refine rq0 fun nq osq=>?_
    try simp only[Act.put,setA]
    try dsimp only
    go_wp2_with (go_at_call 163;with_reducible refine crv (k1.out _ (HG0.out.trans (HG.out.trans gw))) fun _ _=>?_;dsimp only)
    go_ret
    exact Ret.mk' rfl (HG0.out.trans (HG.out.trans gw))
   all_goals
    clear ko
    go_wp2_with fail
    refine wp_region_qas 6 [] [] hm (h:=?_)
    repeat (refine wpSteady_step (fun K hK=>?_);go_simp;refine hK _ ?_;clear hK K)
    refine rq0 fun nq osq=>?_
    try simp only[Act.put,setA]
    try dsimp only
    go_wp2_with fail
    go_roundw
    case rel =>
     refine⟨m+1,by omega,by go_num,HG.out.trans gw,?_⟩
     show ∀j,j<m+1→cor ps j≠_
     intro j hj
     by_cases ej:j=m
     ·rw[ej,HP.out]
      intro e
      simp only[Prod.mk.injEq] at e
      omega
     ·exact HA.out j (by omega)
    case measure=>simp[intOf];omega
  ·obtain rfl:m=ps.length:=by omega
   clear ko
   go_wp2_with fail
   obtain⟨W1,hW1⟩:∃W,W=wr:=⟨wr,rfl⟩
   subst hW1
   go_loopw [8] (fun i wr=>∃m:Nat,m≤ps.length∧i=.int .i64 m∧Grew W1 wr∧AppG (∀j,j<m→onB (x1,x2) (cor ps j) (cor ps (j+1))=false)) (fun i _=>ps.length-(intOf i).toNat)
   case atStart=>exact⟨0,by omega,rfl,gw,show ∀j,j<0→onB (x1,x2) (cor ps j) (cor ps (j+1))=false from fun j hj=>by omega⟩
   case round =>
    obtain⟨m,hmm,rfl,hg,hall⟩:=hrel
    have HG2:=hide hg
    have HA2:=hide hall.stop
    have y0:wr.cell? ⟨w.heap.size,0,none⟩=some _:=(old_cell hg _ _ zl).trans z0
    have y1:wr.cell? ⟨w.heap.size,1,none⟩=some _:=(old_cell hg _ _ zl).trans z1
    have y2:wr.cell? ⟨w.heap.size+1,0,none⟩=some _:=(old_cell hg _ _ zl1).trans z2
    have y3:wr.cell? ⟨w.heap.size+1,1,none⟩=some _:=(old_cell hg _ _ zl1).trans z3
    have yl:w.heap.size<wr.heap.size:=Nat.lt_of_lt_of_le zl hg.below.size
    have yl1:w.heap.size+1<wr.heap.size:=Nat.lt_of_lt_of_le zl1 hg.below.size
    clear hg hall
    by_cases hlt:m<ps.length
    ·obtain⟨p,hp⟩:∃p,cor ps m=p:=⟨_,rfl⟩
     obtain⟨b,hb⟩:∃p,cor ps (m+1)=p:=⟨_,rfl⟩
     have okp:p.ok=true:=by rw[←hp];exact cor_ok HOK.out _
     have okb:b.ok=true:=by rw[←hb];exact cor_ok HOK.out _
     have hpm:=cor_get hlt
     rw[hp] at hpm
     obtain⟨b1,off1,hA1,hb1,g0,g1⟩:=ptAt (HR.out.up (HG0.out.trans (HG.out.trans HG2.out))) hpm
     have hix1:=idx_run (cap:=c) Tryz.underlying51 Tryz.sizeOf26 hA1.out hlt
     have kn:=hide (fun W (hg:Grew w W)=>Next_v ps A c m b W (HR.out.up hg) (by omega) hlt hb)
     obtain⟨o,ho⟩:∃o,onB (x1,x2) p b=o:=⟨_,rfl⟩
     have kl:=hide (fun W=>p1Lie_v (x1,x2) p b o W HAO.out okp okb ho)
     have km:=hide (fun W=>rMinus_v p b W okp okb)
     have p':=ok_bd okp
     have b':=ok_bd okb
     have kx:=hide (fun W=>rCross_any (b.1-p.1) (b.2-p.2) v1 v2 W (by omega) (by omega) hv1 hv2)
     have hon:o=true→r=decide (0≤(b.1-p.1)*v2-(b.2-p.2)*v1):=fun e=>by
      rw[←HH.out,leadsR_edge HA.out hlt (by rw[hp,hb,ho,e]) HA2.out]
      unfold edgeR
      rw[hp,hb]
      rfl
     have hof:o=false→∀j,j<m+1→onB (x1,x2) (cor ps j) (cor ps (j+1))=false:=fun e j hj=>by
      by_cases ej:j=m
      ·rw[ej,hp,hb,ho,e]
      ·exact HA2.out j (by omega)
     have HON:=hide hon
     have HOF:=hide hof
     clear hon hof ho hpm hp hb okp okb p' b'
     obtain⟨p1,p2⟩:=p
     obtain⟨q1,q2⟩:=b
     dsimp only at g0 g1 kn kl km kx HON
     obtain⟨d1,hd1⟩:∃z,q1-p1=z:=⟨_,rfl⟩
     obtain⟨d2,hd2⟩:∃z,q2-p2=z:=⟨_,rfl⟩
     rw[hd1,hd2] at km kx HON
     clear hd1 hd2 hA1
     cases o
     ·have HO:=hide (HOF.out rfl)
      clear HON HOF
      go_wp2_with fail
      refine wp_region_qas 9 [] [] hm (h:=?_)
      repeat (refine wpSteady_step (fun K hK=>?_);go_simp;first|(refine hK _ ?_;clear hK K)|(apply Exists.intro;refine⟨fun _=>?_,hK _ ?_⟩;(first|(go_at_call 119;with_reducible exact kn.out _ (HG0.out.trans (HG.out.trans (HG2.out.trans gw))))|(go_at_call 160;with_reducible exact kl.out _));clear hK K))
      refine rq0 fun nq osq=>?_
      try simp only[Act.put,setA]
      try dsimp only
      go_wp2_with fail
      go_roundw
      case rel=>exact⟨m+1,by omega,by go_num,HG2.out.trans gw,show ∀j,j<m+1→onB (x1,x2) (cor ps j) (cor ps (j+1))=false from HO.out⟩
      case measure=>simp[intOf];omega
     ·have hz:=HON.out rfl
      subst hz
      clear HON HOF HH
      go_wp2_with fail
      refine wp_region_qas 9 [] [] hm (h:=?_)
      repeat (refine wpSteady_step (fun K hK=>?_);go_simp;first|(refine hK _ ?_;clear hK K)|(apply Exists.intro;refine⟨fun _=>?_,hK _ ?_⟩;(first|(go_at_call 119;with_reducible exact kn.out _ (HG0.out.trans (HG.out.trans (HG2.out.trans gw))))|(go_at_call 160;with_reducible exact kl.out _));clear hK K))
      refine rq0 fun nq osq=>?_
      try simp only[Act.put,setA]
      try dsimp only
      go_wp2_with fail
      refine wp_region_qas 12 [] [] hm (h:=?_)
      repeat (refine wpSteady_step (fun K hK=>?_);go_simp;first|(refine hK _ ?_;clear hK K)|(apply Exists.intro;refine⟨fun _=>?_,hK _ ?_⟩;(first|(go_at_call 119;with_reducible exact kn.out _ (HG0.out.trans (HG.out.trans (HG2.out.trans gw))))|(go_at_call 139;with_reducible exact km.out _)|(go_at_call 157;with_reducible exact kx.out _));clear hK K))
      refine rq0 fun nq osq=>?_
      try simp only[Act.put,setA]
      try dsimp only
      go_wp2_with fail
      go_ret
      exact Ret.mk' (ret_bool (decide_eq_decide.2 (by omega))) (HG0.out.trans (HG.out.trans (HG2.out.trans gw)))
    ·obtain rfl:m=ps.length:=by omega
     obtain rfl:r=true:=by rw[←HH.out];exact leadsR_in HA.out HA2.out
     go_wp2_with fail
     go_ret
     exact Ret.mk' rfl (HG0.out.trans (HG.out.trans (HG2.out.trans gw)))
set_option maxHeartbeats 16000000
set_option maxRecDepth 100000
theorem on_flip (p a b:Pt)(h:onB p a b=true):onB p b a=true:=by
 unfold onB at h ⊢
 rw[decide_eq_true_eq] at h ⊢
 rw[tn_swap a b p]
 obtain⟨h1,h2,h3⟩:=h
 refine⟨by omega,?_,?_⟩<;>omega
/-- From a place of a segment the way to its end goes as the segment does. -/
theorem on_dir {a b c:Pt}(h:onB c a b=true)(hb:c≠b):∃k1 k2:Int,0<k1∧0<k2∧k1*(b.1-a.1)=k2*(b.1-c.1)∧k1*(b.2-a.2)=k2*(b.2-c.2):=by
 unfold onB at h
 rw[decide_eq_true_eq] at h
 obtain⟨h1,h2,h3⟩:=h
 have hc:=tn_zero_cr.1 h1
 unfold cr at hc
 obtain⟨a1,a2⟩:=a
 obtain⟨b1,b2⟩:=b
 obtain⟨c1,c2⟩:=c
 dsimp only at *
 have hne:¬ (c1=b1∧c2=b2):=fun e=>hb (by rw[e.1,e.2])
 have hq:(b1-c1)*(b2-a2)=(b1-a1)*(b2-c2):=by grind
 rcases Int.lt_trichotomy a1 b1 with g|g|g
 ·have hcb:c1≠b1:=fun e=>by
   subst e
   have hz:(c1-a1)*(b2-c2)=0:=by rw[←hq];simp
   rcases Int.mul_eq_zero.1 hz with e|e
   ·omega
   ·exact hne ⟨rfl,by omega⟩
  exact⟨b1-c1,b1-a1,by omega,by omega,by rw[Int.mul_comm],hq⟩
 ·subst g
  have hc1:c1=a1:=by omega
  subst hc1
  rcases Int.lt_trichotomy a2 b2 with g|g|g
  ·exact⟨b2-c2,b2-a2,by omega,by omega,by simp,by rw[Int.mul_comm]⟩
  ·omega
  ·exact⟨c2-b2,a2-b2,by omega,by omega,by simp,by grind⟩
 ·have hcb:c1≠b1:=fun e=>by
   subst e
   have hz:(c1-a1)*(b2-c2)=0:=by rw[←hq];simp
   rcases Int.mul_eq_zero.1 hz with e|e
   ·omega
   ·exact hne ⟨rfl,by omega⟩
  exact⟨c1-b1,a1-b1,by omega,by omega,by grind,by grind⟩
theorem opens_on {ps:List Pt}{i:Nat}{a b:Pt}(h:onB (cor ps i) a b=true)(hb:cor ps i≠b):opensR ps i (sb b a)=opensOf ps i b:=by
 obtain⟨k1,k2,p1,p2,e1,e2⟩:=on_dir h hb
 rw[←opens_ref]
 unfold opensR
 have e:(k1*(sb b a).1,k1*(sb b a).2)=(k2*(sb b (cor ps i)).1,k2*(sb b (cor ps i)).2):=Prod.ext e1 e2
 rw[←opens_scl (v:=sb b a) p1,e,opens_scl p2]
/-- A block that holds a place. -/
def PB (W:World)(b:Nat)(p:Pt):Prop:=W.heap[b]?=some (.cells #[.int .i64 p.1,.int .i64 p.2] 26 (0,0))
theorem PB.up {W W':World}{b:Nat}{p:Pt}(h:PB W b p)(g:Grew W W'):PB W' b p:=(g.heap (blk_lt h)).trans h
theorem PB.c0 {W:World}{b:Nat}{p:Pt}(h:PB W b p):W.cell? ⟨b,0,none⟩=some (.int .i64 p.1):=blk_cell h 0
theorem PB.c1 {W:World}{b:Nat}{p:Pt}(h:PB W b p):W.cell? ⟨b,1,none⟩=some (.int .i64 p.2):=blk_cell h 1
theorem PB.lt {W:World}{b:Nat}{p:Pt}(h:PB W b p):b<W.heap.size:=blk_lt h
theorem calls_nx {P:Program}{f:FuncId}{args:Array Value}{w:World}{post:Ending→World→Prop}(h:∀X,w=X→Calls P f args X post):Calls P f args w post:=h _ rfl
theorem if_two {p q:Prop}[Decidable p][Decidable q](h:¬ (p∧q)){α:Type}(x y:α):(if p then (if q then x else y) else y)=y:=by
 by_cases hp:p
 ·rw[if_pos hp,if_neg (fun hq=>h ⟨hp,hq⟩)]
 ·rw[if_neg hp]
theorem all_no {f:Nat→Bool}{n m:Nat}(hm:m<n)(h:f m=false):(List.range n).all f=false:=by
 rw[List.all_eq_false]
 exact⟨m,List.mem_range.2 hm,by rw[h];simp⟩
theorem p3within_v (ps:List Pt)(A:Option Addr)(c:Nat)(a b:Pt)(r:Bool)(w:World)(hr:Rd w w.heap.size 2 A (ps.map encD))(hv:PValid ps=true)(ha:a.ok=true)(hb:b.ok=true)(h:hasOf ps a b=r) :
  Calls Tryz.prog 122 #[.slice A ps.length c,pt a.1 a.2,pt b.1 b.2] w (Ret w (.bool r)):=by
 have hm:=hmix
 have hp:=pv_parts hv
 have hl:ps.length≤100:=by have:=hp.1;omega
 have hok:ps.all Pt.ok=true:=hp.2
 have a':=ok_bd ha
 have b':=ok_bd hb
 obtain⟨pa,hpa⟩:∃z,placeOf ps a=z:=⟨_,rfl⟩
 obtain⟨pb,hpb⟩:∃z,placeOf ps b=z:=⟨_,rfl⟩
 obtain⟨l1,hl1⟩:∃z,leadsOf ps a b=z:=⟨_,rfl⟩
 obtain⟨l2,hl2⟩:∃z,leadsOf ps b a=z:=⟨_,rfl⟩
 have kp1:=hide (fun W (hg:Grew w W)=>p3Place_v ps A c a pa W (hr.up hg) hv ha hpa)
 have kp2:=hide (fun W (hg:Grew w W)=>p3Place_v ps A c b pb W (hr.up hg) hv hb hpb)
 have kl1:=hide (fun W (hg:Grew w W)=>p3leads_v ps A c a (sb b a) l1 W (hr.up hg) hl hok ha (by unfold sb;dsimp only;omega) (by unfold sb;dsimp only;omega) ((leads_ref ps a b).trans hl1))
 have kl2:=hide (fun W (hg:Grew w W)=>p3leads_v ps A c b (sb a b) l2 W (hr.up hg) hl hok hb (by unfold sb;dsimp only;omega) (by unfold sb;dsimp only;omega) ((leads_ref ps b a).trans hl2))
 have ko1:=hide (fun (k:Nat) (hk:k<ps.length) (s:Bool) (hs:opensR ps k (sb b a)=s) W (hg:Grew w W)=>p3opens_v ps A c k (sb b a) s W (hr.up hg) hl hok (by unfold sb;dsimp only;omega) (by unfold sb;dsimp only;omega) hk hs)
 have ko2:=hide (fun (k:Nat) (hk:k<ps.length) (s:Bool) (hs:opensR ps k (sb a b)=s) W (hg:Grew w W)=>p3opens_v ps A c k (sb a b) s W (hr.up hg) hl hok (by unfold sb;dsimp only;omega) (by unfold sb;dsimp only;omega) hk hs)
 have m1:=hide (fun W=>rMinus_v a b W ha hb)
 have m2:=hide (fun W=>rMinus_v b a W hb ha)
 have hfst:hasFst ps a b=(decide (0≤pa)&&(decide (0≤pb)&&(l1&&l2))):=by unfold hasFst;rw[hpa,hpb,hl1,hl2]
 unfold hasOf at h
 rw[hfst] at h
 have HR:=hide hr
 have HOK:=hide hok
 have HH:=hide h
 have HAB:=hide (And.intro ha hb)
 clear hr hv hp hok ha hb h hpa hpb hl1 hl2 hfst a' b'
 obtain⟨a1,a2⟩:=a
 obtain⟨b1,b2⟩:=b
 unfold sb at kl1 kl2 ko1 ko2
 dsimp only at kp1 kp2 kl1 kl2 ko1 ko2 m1 m2 ⊢
 obtain⟨v1,hv1⟩:∃z,b1-a1=z:=⟨_,rfl⟩
 obtain⟨v2,hv2⟩:∃z,b2-a2=z:=⟨_,rfl⟩
 obtain⟨w1,hw1⟩:∃z,a1-b1=z:=⟨_,rfl⟩
 obtain⟨w2,hw2⟩:∃z,a2-b2=z:=⟨_,rfl⟩
 simp only[hv1,hv2] at m1 kl1 ko1
 simp only[hw1,hw2] at m2 kl2 ko2
 have HV:Hid ((v1,v2)=sb (b1,b2) (a1,a2)):=hide (by unfold sb;rw[←hv1,←hv2])
 have HWv:Hid ((w1,w2)=sb (a1,a2) (b1,b2)):=hide (by unfold sb;rw[←hw1,←hw2])
 clear hv1 hv2 hw1 hw2
 go_enter Tryz.func122,Tryz.ntmps122
 go_wp2_with fail
 refine calls_nx ?_
 intro X1 hX
 have HX1:Hid (Grew w X1):=hide (by rw[←hX];exact gw)
 have A1:Hid (PB X1 w.heap.size (a1,a2)):=hide (by rw[←hX];exact (heap_alloc_old _ _ (by simp)).trans (heap_alloc_at _ _ _ (by simp)))
 have B1:Hid (PB X1 (w.heap.size+1) (b1,b2)):=hide (by rw[←hX];exact heap_alloc_at _ _ _ (by simp))
 have z0:=A1.out.c0
 have z1:=A1.out.c1
 have z2:=A1.out.lt
 have z3:=B1.out.c0
 have z4:=B1.out.c1
 have z5:=B1.out.lt
 clear hX
 refine (m1.out X1).mono ?_
 rintro e W1 ⟨rfl,hg⟩
 have HW1:=hide (HX1.out.trans hg)
 have A2:=hide (A1.out.up hg)
 have B2:=hide (B1.out.up hg)
 clear hg HX1 A1 B1 z0 z1 z2 z3 z4 z5
 have z0:=A2.out.c0
 have z1:=A2.out.c1
 have z2:=A2.out.lt
 have z3:=B2.out.c0
 have z4:=B2.out.c1
 have z5:=B2.out.lt
 dsimp only at z0 z1 z3 z4 ⊢
 go_wp2_with fail
 refine calls_nx ?_
 intro X2 hX
 have hgx:Grew W1 X2:=by rw[←hX];exact gw
 have V2:Hid (PB X2 W1.heap.size (v1,v2)):=hide (by rw[←hX];exact heap_alloc_at _ _ _ (by simp))
 have HX2:=hide (HW1.out.trans hgx)
 have A3:=hide (A2.out.up hgx)
 have B3:=hide (B2.out.up hgx)
 clear hX hgx A2 B2 z0 z1 z2 z3 z4 z5
 refine (m2.out X2).mono ?_
 rintro e W2 ⟨rfl,hg⟩
 have HW2:=hide (HX2.out.trans hg)
 have A4:=hide (A3.out.up hg)
 have B4:=hide (B3.out.up hg)
 have V4:=hide (V2.out.up hg)
 clear hg HX2 A3 B3 V2
 dsimp only
 go_upto_region 3 with fail
 refine wp_name ?_
 intro X3 hX
 have hgx:Grew W2 X3:=by rw[←hX];exact gw
 have U5:Hid (PB X3 W2.heap.size (w1,w2)):=hide (by rw[←hX];exact heap_alloc_at _ _ _ (by simp))
 have HX3:=hide (HW2.out.trans hgx)
 have A5:=hide (A4.out.up hgx)
 have B5:=hide (B4.out.up hgx)
 have V5:=hide (V4.out.up hgx)
 clear hX hgx A4 B4 V4 HW1 HW2
 have z0:=A5.out.c0
 have z1:=A5.out.c1
 have z2:=A5.out.lt
 have z3:=B5.out.c0
 have z4:=B5.out.c1
 have z5:=B5.out.lt
 have z6:=V5.out.c0
 have z7:=V5.out.c1
 have z8:=V5.out.lt
 have y0:=U5.out.c0
 have y1:=U5.out.c1
 have y2:=U5.out.lt
 dsimp only at z0 z1 z3 z4 z6 z7 y0 y1
 have hcase:(pa<0)∨(¬ pa<0∧pb<0)∨(¬ pa<0∧¬ pb<0∧l1=false)∨(¬ pa<0∧¬ pb<0∧l1=true∧l2=false)∨(¬ pa<0∧¬ pb<0∧l1=true∧l2=true):=by
  cases l1<;>cases l2<;>simp<;>omega
 have HC:=hide hcase
 clear hcase
 rcases HC.out with g|⟨g1,g⟩|⟨g1,g2,rfl⟩|⟨g1,g2,rfl,rfl⟩|⟨g1,g2,rfl,rfl⟩
 ·have hz:r=false:=by rw[←HH.out,decide_eq_false (by omega)];rfl
  subst hz
  clear HH HC ko1 ko2
  go_wp2_with (first|(go_at_call 121;with_reducible refine crv (kp1.out _ (HX3.out.trans gw)) fun _ _=>?_;dsimp only)|(go_at_call 121;with_reducible refine crv (kp2.out _ (HX3.out.trans gw)) fun _ _=>?_;dsimp only)|(go_at_call 161;with_reducible refine crv (kl1.out _ (HX3.out.trans gw)) fun _ _=>?_;dsimp only)|(go_at_call 161;with_reducible refine crv (kl2.out _ (HX3.out.trans gw)) fun _ _=>?_;dsimp only))
  go_ret
  exact Ret.mk' rfl (HX3.out.trans gw)
 ·have hz:r=false:=by rw[←HH.out,decide_eq_false (show ¬ 0≤pb by omega)];simp
  subst hz
  clear HH HC ko1 ko2
  go_wp2_with (first|(go_at_call 121;with_reducible refine crv (kp1.out _ (HX3.out.trans gw)) fun _ _=>?_;dsimp only)|(go_at_call 121;with_reducible refine crv (kp2.out _ (HX3.out.trans gw)) fun _ _=>?_;dsimp only)|(go_at_call 161;with_reducible refine crv (kl1.out _ (HX3.out.trans gw)) fun _ _=>?_;dsimp only)|(go_at_call 161;with_reducible refine crv (kl2.out _ (HX3.out.trans gw)) fun _ _=>?_;dsimp only))
  go_ret
  exact Ret.mk' rfl (HX3.out.trans gw)
 ·have hz:r=false:=by rw[←HH.out];simp
  subst hz
  clear HH HC ko1 ko2
  go_wp2_with (first|(go_at_call 121;with_reducible refine crv (kp1.out _ (HX3.out.trans gw)) fun _ _=>?_;dsimp only)|(go_at_call 121;with_reducible refine crv (kp2.out _ (HX3.out.trans gw)) fun _ _=>?_;dsimp only)|(go_at_call 161;with_reducible refine crv (kl1.out _ (HX3.out.trans gw)) fun _ _=>?_;dsimp only)|(go_at_call 161;with_reducible refine crv (kl2.out _ (HX3.out.trans gw)) fun _ _=>?_;dsimp only))
  go_ret
  exact Ret.mk' rfl (HX3.out.trans gw)
 ·have hz:r=false:=by rw[←HH.out];simp
  subst hz
  clear HH HC ko1 ko2
  go_wp2_with (first|(go_at_call 121;with_reducible refine crv (kp1.out _ (HX3.out.trans gw)) fun _ _=>?_;dsimp only)|(go_at_call 121;with_reducible refine crv (kp2.out _ (HX3.out.trans gw)) fun _ _=>?_;dsimp only)|(go_at_call 161;with_reducible refine crv (kl1.out _ (HX3.out.trans gw)) fun _ _=>?_;dsimp only)|(go_at_call 161;with_reducible refine crv (kl2.out _ (HX3.out.trans gw)) fun _ _=>?_;dsimp only))
  go_ret
  exact Ret.mk' rfl (HX3.out.trans gw)
 ·have hz:(List.range ps.length).all (edgeHas ps (a1,a2) (b1,b2))=r:=by rw[←HH.out,decide_eq_true (show 0≤pa by omega),decide_eq_true (show 0≤pb by omega)];simp
  have HZ:=hide hz
  clear hz HH HC
  go_wp2_with (first|(go_at_call 121;with_reducible refine crv (kp1.out _ (HX3.out.trans gw)) fun _ _=>?_;dsimp only)|(go_at_call 121;with_reducible refine crv (kp2.out _ (HX3.out.trans gw)) fun _ _=>?_;dsimp only)|(go_at_call 161;with_reducible refine crv (kl1.out _ (HX3.out.trans gw)) fun _ _=>?_;dsimp only)|(go_at_call 161;with_reducible refine crv (kl2.out _ (HX3.out.trans gw)) fun _ _=>?_;dsimp only))
  refine wp_name ?_
  intro W0 hW
  have hgx:Grew X3 W0:=by rw[←hW];exact gw
  have HG0:=hide (HX3.out.trans hgx)
  have A0:=hide (A5.out.up hgx)
  have B0:=hide (B5.out.up hgx)
  have V0:=hide (V5.out.up hgx)
  have U0:=hide (U5.out.up hgx)
  clear hW hgx A5 B5 V5 U5 z0 z1 z2 z3 z4 z5 z6 z7 z8 y0 y1 y2 kp1 kp2 kl1 kl2 m1 m2 HX3 g1 g2
  go_loopw [9] (fun i wr=>∃m:Nat,m≤ps.length∧i=.int .i64 m∧Grew W0 wr∧AppG ((List.range m).all (edgeHas ps (a1,a2) (b1,b2))=true)) (fun i _=>ps.length-(intOf i).toNat)
  case atStart=>exact⟨0,by omega,rfl,gw,show (List.range 0).all _=true from rfl⟩
  case round =>
   obtain⟨m,hmm,rfl,hg,hall⟩:=hrel
   have HG:=hide hg
   have HA:=hide hall.stop
   have z0:=(A0.out.up hg).c0
   have z1:=(A0.out.up hg).c1
   have z2:=(A0.out.up hg).lt
   have z3:=(B0.out.up hg).c0
   have z4:=(B0.out.up hg).c1
   have z5:=(B0.out.up hg).lt
   have z6:=(V0.out.up hg).c0
   have z7:=(V0.out.up hg).c1
   have z8:=(V0.out.up hg).lt
   have y0:=(U0.out.up hg).c0
   have y1:=(U0.out.up hg).c1
   have y2:=(U0.out.up hg).lt
   dsimp only at z0 z1 z3 z4 z6 z7 y0 y1
   clear hg hall
   by_cases hlt:m<ps.length
   ·obtain⟨p,hp⟩:∃p,cor ps m=p:=⟨_,rfl⟩
    obtain⟨n,hn⟩:∃p,cor ps (m+1)=p:=⟨_,rfl⟩
    have okp:p.ok=true:=by rw[←hp];exact cor_ok HOK.out _
    have okn:n.ok=true:=by rw[←hn];exact cor_ok HOK.out _
    have hpm:=cor_get hlt
    rw[hp] at hpm
    obtain⟨bb,off1,hA1,hb1,g0,g1⟩:=ptAt (HR.out.up (HG0.out.trans HG.out)) hpm
    have hix1:=idx_run (cap:=c) Tryz.underlying51 Tryz.sizeOf26 hA1.out hlt
    have kn:=hide (fun W (hg:Grew w W)=>Next_v ps A c m n W (HR.out.up hg) (by omega) hlt hn)
    obtain⟨u,hu⟩:∃o,cutB (a1,a2) (b1,b2) p n=o:=⟨_,rfl⟩
    obtain⟨o,ho⟩:∃o,onB p (a1,a2) (b1,b2)=o:=⟨_,rfl⟩
    obtain⟨s1,hs1⟩:∃o,opensR ps m (v1,v2)=o:=⟨_,rfl⟩
    obtain⟨s2,hs2⟩:∃o,opensR ps m (w1,w2)=o:=⟨_,rfl⟩
    have kc:=hide (fun W=>p3cuts_v (a1,a2) (b1,b2) p n u W HAB.out.1 HAB.out.2 okp okn hu)
    have kl:=hide (fun W=>p1Lie_v p (a1,a2) (b1,b2) o W okp HAB.out.1 HAB.out.2 ho)
    have k1:=hide (ko1.out m hlt s1 hs1)
    have k2:=hide (ko2.out m hlt s2 hs2)
    have he:edgeHas ps (a1,a2) (b1,b2) m=(!u && !(decide (p≠(a1,a2))&&(decide (p≠(b1,b2))&&(o && !(opensOf ps m (a1,a2)&&opensOf ps m (b1,b2)))))):=by unfold edgeHas;rw[hp,hn,hu,ho]
    have hq1:o=true→p≠(b1,b2)→opensOf ps m (b1,b2)=s1:=fun e1 e2=>by
     rw[←hs1,HV.out]
     exact (opens_on (by rw[hp,ho,e1]) (by rw[hp];exact e2)).symm
    have hq2:o=true→p≠(a1,a2)→opensOf ps m (a1,a2)=s2:=fun e1 e2=>by
     rw[←hs2,HWv.out]
     exact (opens_on (on_flip _ _ _ (by rw[hp,ho,e1])) (by rw[hp];exact e2)).symm
    have E1:=hide (fun (e:u=true)=>(show r=false by rw[←HZ.out];exact all_no hlt (by rw[he,e];rfl)))
    have hyes:edgeHas ps (a1,a2) (b1,b2) m=true→(List.range (m+1)).all (edgeHas ps (a1,a2) (b1,b2))=true:=fun e=>range_all_succ HA.out e
    have E2:=hide (fun (e1:u=false) (e2:o=false)=>hyes (by rw[he,e1,e2];simp))
    have E3:=hide (fun (e1:u=false) (e2:p=(a1,a2))=>hyes (by rw[he,e1,e2];simp))
    have E4:=hide (fun (e1:u=false) (e2:p=(b1,b2))=>hyes (by rw[he,e1,e2];simp))
    have E5:=hide (fun (e1:u=false) (e2:o=true) (e3:p≠(a1,a2)) (e4:p≠(b1,b2)) (e5:s1=true) (e6:s2=true)=>hyes (by rw[he,e1,hq1 e2 e4,hq2 e2 e3,e5,e6];simp))
    have E6:=hide (fun (e1:u=false) (e2:o=true) (e3:p≠(a1,a2)) (e4:p≠(b1,b2)) (e5:(s2&&s1)=false)=>(show r=false by rw[←HZ.out];exact all_no hlt (by rw[he,e1,hq1 e2 e4,hq2 e2 e3,e5,e2];simp[e3,e4])))
    clear hyes hq1 hq2 he hs1 hs2 hu ho hpm hp hn okp okn hA1
    obtain⟨p1,p2⟩:=p
    obtain⟨n1,n2⟩:=n
    dsimp only at g0 g1 kn kc kl
    cases u
    ·cases o
     ·have HY:=hide (E2.out rfl rfl)
      clear E1 E2 E3 E4 E5 E6
      go_wp2_with fail
      refine wp_region_qas 10 [] [] hm (h:=?_)
      repeat (refine wpSteady_step (fun K hK=>?_);go_simp;first|(refine hK _ ?_;clear hK K)|(apply Exists.intro;refine⟨fun _=>?_,hK _ ?_⟩;(first|(go_at_call 119;with_reducible exact kn.out _ (HG0.out.trans (HG.out.trans gw)))|(go_at_call 162;with_reducible exact kc.out _));clear hK K))
      refine rq0 fun nq osq=>?_
      try simp only[Act.put,setA]
      try dsimp only
      go_wp2_with fail
      refine wp_region_qas 37 [] [] hm (h:=?_)
      repeat (refine wpSteady_step (fun K hK=>?_);go_simp;first|(refine hK _ ?_;clear hK K)|(apply Exists.intro;refine⟨fun _=>?_,hK _ ?_⟩;(first|(go_at_call 160;with_reducible exact kl.out _)|(go_at_call 163;first|with_reducible exact k1.out _ (HG0.out.trans (HG.out.trans gw))|with_reducible exact k2.out _ (HG0.out.trans (HG.out.trans gw))));clear hK K))
      refine rq0 fun nq osq=>?_
      try simp only[Act.put,setA]
      try dsimp only
      go_wp2_with fail
      go_roundw
      case rel=>exact⟨m+1,by omega,by go_num,HG.out.trans gw,show (List.range (m+1)).all (edgeHas ps _ _)=true from HY.out⟩
      case measure=>simp[intOf];omega
     ·by_cases ea:p1=a1∧p2=a2
      ·obtain⟨rfl,rfl⟩:=ea
       have HY:=hide (E3.out rfl rfl)
       clear E1 E2 E3 E4 E5 E6
       go_wp2_with fail
       refine wp_region_qas 10 [] [] hm (h:=?_)
       repeat (refine wpSteady_step (fun K hK=>?_);go_simp;first|(refine hK _ ?_;clear hK K)|(apply Exists.intro;refine⟨fun _=>?_,hK _ ?_⟩;(first|(go_at_call 119;with_reducible exact kn.out _ (HG0.out.trans (HG.out.trans gw)))|(go_at_call 162;with_reducible exact kc.out _));clear hK K))
       refine rq0 fun nq osq=>?_
       try simp only[Act.put,setA]
       try dsimp only
       go_wp2_with fail
       refine wp_region_qas 37 [] [] hm (h:=?_)
       repeat (refine wpSteady_step (fun K hK=>?_);go_simp;first|(refine hK _ ?_;clear hK K)|(apply Exists.intro;refine⟨fun _=>?_,hK _ ?_⟩;(first|(go_at_call 160;with_reducible exact kl.out _)|(go_at_call 163;first|with_reducible exact k1.out _ (HG0.out.trans (HG.out.trans gw))|with_reducible exact k2.out _ (HG0.out.trans (HG.out.trans gw))));clear hK K))
       refine rq0 fun nq osq=>?_
       try simp only[Act.put,setA]
       try dsimp only
       go_wp2_with fail
       go_roundw
       case rel=>exact⟨m+1,by omega,by go_num,HG.out.trans gw,show (List.range (m+1)).all (edgeHas ps _ _)=true from HY.out⟩
       case measure=>simp[intOf];omega
      ·have na:(p1,p2)≠(a1,a2):=fun e=>ea (by simpa using e)
       have fa:∀ {α:Type} (x y:α),(if p1=a1 then (if p2=a2 then x else y) else y)=y:=fun x y=>if_two ea x y
       clear ea
       by_cases eb:p1=b1∧p2=b2
       ·obtain⟨rfl,rfl⟩:=eb
        have HY:=hide (E4.out rfl rfl)
        clear E1 E2 E3 E4 E5 E6 na
        go_wp2_with fail
        refine wp_region_qas 10 [] [] hm (h:=?_)
        repeat (refine wpSteady_step (fun K hK=>?_);go_simp;first|(refine hK _ ?_;clear hK K)|(apply Exists.intro;refine⟨fun _=>?_,hK _ ?_⟩;(first|(go_at_call 119;with_reducible exact kn.out _ (HG0.out.trans (HG.out.trans gw)))|(go_at_call 162;with_reducible exact kc.out _));clear hK K))
        refine rq0 fun nq osq=>?_
        try simp only[Act.put,setA]
        try dsimp only
        go_wp2_with fail
        refine wp_region_qas 37 [] [] hm (h:=?_)
        repeat (refine wpSteady_step (fun K hK=>?_);go_simp;first|(refine hK _ ?_;clear hK K)|(apply Exists.intro;refine⟨fun _=>?_,hK _ ?_⟩;(first|(go_at_call 160;with_reducible exact kl.out _)|(go_at_call 163;first|with_reducible exact k1.out _ (HG0.out.trans (HG.out.trans gw))|with_reducible exact k2.out _ (HG0.out.trans (HG.out.trans gw))));clear hK K))
        refine rq0 fun nq osq=>?_
        try simp only[Act.put,setA]
        try dsimp only
        go_wp2_with fail
        go_roundw
        case rel=>exact⟨m+1,by omega,by go_num,HG.out.trans gw,show (List.range (m+1)).all (edgeHas ps _ _)=true from HY.out⟩
        case measure=>simp[intOf];omega
       ·have nb:(p1,p2)≠(b1,b2):=fun e=>eb (by simpa using e)
        have fb:∀ {α:Type} (x y:α),(if p1=b1 then (if p2=b2 then x else y) else y)=y:=fun x y=>if_two eb x y
        clear eb
        have hs:(s1=true∧s2=true)∨(s1=false)∨(s1=true∧s2=false):=by cases s1<;>cases s2<;>simp
        rcases hs with⟨rfl,rfl⟩|rfl|⟨rfl,rfl⟩
        ·have HY:=hide (E5.out rfl rfl na nb rfl rfl)
         clear E1 E2 E3 E4 E5 E6 na nb
         go_wp2_with fail
         refine wp_region_qas 10 [] [] hm (h:=?_)
         repeat (refine wpSteady_step (fun K hK=>?_);go_simp;first|(refine hK _ ?_;clear hK K)|(apply Exists.intro;refine⟨fun _=>?_,hK _ ?_⟩;(first|(go_at_call 119;with_reducible exact kn.out _ (HG0.out.trans (HG.out.trans gw)))|(go_at_call 162;with_reducible exact kc.out _));clear hK K))
         refine rq0 fun nq osq=>?_
         try simp only[Act.put,setA]
         try dsimp only
         go_wp2_with fail
         refine wp_region_qas 37 [] [] hm (h:=?_)
         repeat (refine wpSteady_step (fun K hK=>?_);go_simp;first|(refine hK _ ?_;clear hK K)|(apply Exists.intro;refine⟨fun _=>?_,hK _ ?_⟩;(first|(go_at_call 160;with_reducible exact kl.out _)|(go_at_call 163;first|with_reducible exact k1.out _ (HG0.out.trans (HG.out.trans gw))|with_reducible exact k2.out _ (HG0.out.trans (HG.out.trans gw))));clear hK K))
         refine rq0 fun nq osq=>?_
         try simp only[Act.put,setA]
         try dsimp only
         go_wp2_with fail
         go_roundw
         case rel=>exact⟨m+1,by omega,by go_num,HG.out.trans gw,show (List.range (m+1)).all (edgeHas ps _ _)=true from HY.out⟩
         case measure=>simp[intOf];omega
        ·have hz:=E6.out rfl rfl na nb (by simp)
         subst hz
         clear E1 E2 E3 E4 E5 E6 na nb
         go_wp2_with fail
         refine wp_region_qas 10 [] [] hm (h:=?_)
         repeat (refine wpSteady_step (fun K hK=>?_);go_simp;first|(refine hK _ ?_;clear hK K)|(apply Exists.intro;refine⟨fun _=>?_,hK _ ?_⟩;(first|(go_at_call 119;with_reducible exact kn.out _ (HG0.out.trans (HG.out.trans gw)))|(go_at_call 162;with_reducible exact kc.out _));clear hK K))
         refine rq0 fun nq osq=>?_
         try simp only[Act.put,setA]
         try dsimp only
         go_wp2_with fail
         refine wp_region_qas 37 [] [] hm (h:=?_)
         repeat (refine wpSteady_step (fun K hK=>?_);go_simp;first|(refine hK _ ?_;clear hK K)|(apply Exists.intro;refine⟨fun _=>?_,hK _ ?_⟩;(first|(go_at_call 160;with_reducible exact kl.out _)|(go_at_call 163;first|with_reducible exact k1.out _ (HG0.out.trans (HG.out.trans gw))|with_reducible exact k2.out _ (HG0.out.trans (HG.out.trans gw))));clear hK K))
         refine rq0 fun nq osq=>?_
         try simp only[Act.put,setA]
         try dsimp only
         go_wp2_with fail
         go_ret
         exact Ret.mk' rfl (HG0.out.trans (HG.out.trans gw))
        ·have hz:=E6.out rfl rfl na nb (by simp)
         subst hz
         clear E1 E2 E3 E4 E5 E6 na nb
         go_wp2_with fail
         refine wp_region_qas 10 [] [] hm (h:=?_)
         repeat (refine wpSteady_step (fun K hK=>?_);go_simp;first|(refine hK _ ?_;clear hK K)|(apply Exists.intro;refine⟨fun _=>?_,hK _ ?_⟩;(first|(go_at_call 119;with_reducible exact kn.out _ (HG0.out.trans (HG.out.trans gw)))|(go_at_call 162;with_reducible exact kc.out _));clear hK K))
         refine rq0 fun nq osq=>?_
         try simp only[Act.put,setA]
         try dsimp only
         go_wp2_with fail
         refine wp_region_qas 37 [] [] hm (h:=?_)
         repeat (refine wpSteady_step (fun K hK=>?_);go_simp;first|(refine hK _ ?_;clear hK K)|(apply Exists.intro;refine⟨fun _=>?_,hK _ ?_⟩;(first|(go_at_call 160;with_reducible exact kl.out _)|(go_at_call 163;first|with_reducible exact k1.out _ (HG0.out.trans (HG.out.trans gw))|with_reducible exact k2.out _ (HG0.out.trans (HG.out.trans gw))));clear hK K))
         refine rq0 fun nq osq=>?_
         try simp only[Act.put,setA]
         try dsimp only
         go_wp2_with fail
         go_ret
         exact Ret.mk' rfl (HG0.out.trans (HG.out.trans gw))
    ·have hz:=E1.out rfl
     subst hz
     clear E1 E2 E3 E4 E5 E6
     go_wp2_with fail
     refine wp_region_qas 10 [] [] hm (h:=?_)
     repeat (refine wpSteady_step (fun K hK=>?_);go_simp;first|(refine hK _ ?_;clear hK K)|(apply Exists.intro;refine⟨fun _=>?_,hK _ ?_⟩;(first|(go_at_call 119;with_reducible exact kn.out _ (HG0.out.trans (HG.out.trans gw)))|(go_at_call 162;with_reducible exact kc.out _));clear hK K))
     refine rq0 fun nq osq=>?_
     try simp only[Act.put,setA]
     try dsimp only
     go_wp2_with fail
     go_ret
     exact Ret.mk' rfl (HG0.out.trans (HG.out.trans gw))
   ·obtain rfl:m=ps.length:=by omega
    obtain rfl:r=true:=by rw[←HZ.out];exact HA.out
    go_wp2_with fail
    go_ret
    exact Ret.mk' rfl (HG0.out.trans (HG.out.trans gw))
set_option maxHeartbeats 8000000
set_option maxRecDepth 100000
theorem p3Holds_v (ps qs:List Pt)(A B:Option Addr)(c d:Nat)(r:Bool×Int)(w:World)(hr:Rd w w.heap.size 2 A (ps.map encD))(hq:Rd w w.heap.size 2 B (qs.map encD))(hc:ps.length≤100000000000000)(hd:qs.length≤100000000000000)(h:pholdsOf ps qs=r) :
  Calls Tryz.prog 80 #[.slice A ps.length c,.slice B qs.length d] w (Ret w (.tuple #[.bool r.1,.int .i64 r.2])):=by
 have hm:=hmix
 obtain⟨u,hu⟩:∃u,PValid ps=u:=⟨_,rfl⟩
 obtain⟨v,hv⟩:∃u,PValid qs=u:=⟨_,rfl⟩
 have k1:=hide (fun W (hg:Grew w W)=>p3Valid_v ps A c u W (hr.up hg) hc hu)
 have k2:=hide (fun W (hg:Grew w W)=>p3Valid_v qs B d v W (hq.up hg) hd hv)
 unfold pholdsOf at h
 rw[hu,hv] at h
 have HR:=hide hr
 have HQ:=hide hq
 have hcase:u=false∨(u=true∧v=false)∨(u=true∧v=true):=by cases u<;>cases v<;>simp
 rcases hcase with rfl|⟨rfl,rfl⟩|⟨rfl,rfl⟩
 ·rw[if_neg (by simp)] at h
  subst h
  clear hu hv hr hq
  go_enter Tryz.func80,Tryz.ntmps80
  go_wp2_with (first|(go_at_call 86;with_reducible refine crv (k1.out _ gw) fun _ _=>?_;dsimp only)|(go_at_call 86;with_reducible refine crv (k2.out _ gw) fun _ _=>?_;dsimp only))
  go_ret2
  exact Ret.mk' rfl gw
 ·rw[if_neg (by simp)] at h
  subst h
  clear hu hv hr hq
  go_enter Tryz.func80,Tryz.ntmps80
  go_wp2_with (first|(go_at_call 86;with_reducible refine crv (k1.out _ gw) fun _ _=>?_;dsimp only)|(go_at_call 86;with_reducible refine crv (k2.out _ gw) fun _ _=>?_;dsimp only))
  go_ret2
  exact Ret.mk' rfl gw
 ·rw[if_pos (by rfl)] at h
  subst h
  have hp:=pv_parts hv
  have hql:qs.length≤100:=by have:=hp.1;omega
  have HOK:=hide hp.2
  have HPV:=hide hu
  obtain⟨z,hz⟩:∃z,pholds ps qs=z:=⟨_,rfl⟩
  rw[hz]
  have HZ:=hide hz
  clear hu hv hr hq hp hz
  go_enter Tryz.func80,Tryz.ntmps80
  go_wp2_with (first|(go_at_call 86;with_reducible refine crv (k1.out _ gw) fun _ _=>?_;dsimp only)|(go_at_call 86;with_reducible refine crv (k2.out _ gw) fun _ _=>?_;dsimp only))
  refine wp_name ?_
  intro W0 hW
  have HG0:Hid (Grew w W0):=hide (by rw[←hW];exact gw)
  clear hW k1 k2
  go_loopw [8] (fun i wr=>∃m:Nat,m≤qs.length∧i=.int .i64 m∧Grew W0 wr∧AppG ((List.range m).all (fun i=>hasOf ps (cor qs i) (cor qs (i+1)))=true)) (fun i _=>qs.length-(intOf i).toNat)
  case atStart=>exact⟨0,by omega,rfl,gw,show (List.range 0).all _=true from rfl⟩
  case round =>
   obtain⟨m,hmm,rfl,hg,hall⟩:=hrel
   have HG:=hide hg
   have HA:=hide hall.stop
   clear hg hall
   by_cases hlt:m<qs.length
   ·obtain⟨p,hp⟩:∃p,cor qs m=p:=⟨_,rfl⟩
    obtain⟨n,hn⟩:∃p,cor qs (m+1)=p:=⟨_,rfl⟩
    have okp:p.ok=true:=by rw[←hp];exact cor_ok HOK.out _
    have okn:n.ok=true:=by rw[←hn];exact cor_ok HOK.out _
    have hpm:=cor_get hlt
    rw[hp] at hpm
    obtain⟨bb,off1,hA1,hb1,g0,g1⟩:=ptAt (HQ.out.up (HG0.out.trans HG.out)) hpm
    have hix1:=idx_run (cap:=d) Tryz.underlying51 Tryz.sizeOf26 hA1.out hlt
    have kn:=hide (fun W (hg:Grew w W)=>Next_v qs B d m n W (HQ.out.up hg) (by omega) hlt hn)
    obtain⟨o,ho⟩:∃o,hasOf ps p n=o:=⟨_,rfl⟩
    have kw:=hide (fun W (hg:Grew w W)=>p3within_v ps A c p n o W (HR.out.up hg) HPV.out okp okn ho)
    have E1:=hide (fun (e:o=true)=>(range_all_succ HA.out (show (fun i=>hasOf ps (cor qs i) (cor qs (i+1))) m=true by dsimp only;rw[hp,hn,ho,e]):(List.range (m+1)).all (fun i=>hasOf ps (cor qs i) (cor qs (i+1)))=true))
    have E2:=hide (fun (e:o=false)=>(show z=false by rw[←HZ.out];exact all_no hlt (show hasOf ps (cor qs m) (cor qs (m+1))=false by rw[hp,hn,ho,e])))
    clear ho hpm hp hn okp okn hA1
    obtain⟨p1,p2⟩:=p
    obtain⟨n1,n2⟩:=n
    dsimp only at g0 g1 kn kw
    cases o
    ·have hz:=E2.out rfl
     subst hz
     clear E1 E2 HZ
     go_wp2_with fail
     refine wp_region_qas 10 [] [] hm (h:=?_)
     repeat (refine wpSteady_step (fun K hK=>?_);go_simp;first|(refine hK _ ?_;clear hK K)|(apply Exists.intro;refine⟨fun _=>?_,hK _ ?_⟩;(first|(go_at_call 119;with_reducible exact kn.out _ (HG0.out.trans (HG.out.trans gw)))|(go_at_call 122;with_reducible exact kw.out _ (HG0.out.trans (HG.out.trans gw))));clear hK K))
     refine rq0 fun nq osq=>?_
     try simp only[Act.put,setA]
     try dsimp only
     go_wp2_with fail
     go_ret2
     exact Ret.mk' rfl (HG0.out.trans (HG.out.trans gw))
    ·have HY:=hide (E1.out rfl)
     clear E1 E2
     go_wp2_with fail
     refine wp_region_qas 10 [] [] hm (h:=?_)
     repeat (refine wpSteady_step (fun K hK=>?_);go_simp;first|(refine hK _ ?_;clear hK K)|(apply Exists.intro;refine⟨fun _=>?_,hK _ ?_⟩;(first|(go_at_call 119;with_reducible exact kn.out _ (HG0.out.trans (HG.out.trans gw)))|(go_at_call 122;with_reducible exact kw.out _ (HG0.out.trans (HG.out.trans gw))));clear hK K))
     refine rq0 fun nq osq=>?_
     try simp only[Act.put,setA]
     try dsimp only
     go_wp2_with fail
     go_roundw
     case rel=>exact⟨m+1,by omega,by go_num,HG.out.trans gw,show (List.range (m+1)).all (fun i=>hasOf ps (cor qs i) (cor qs (i+1)))=true from HY.out⟩
     case measure=>simp[intOf];omega
   ·obtain rfl:m=qs.length:=by omega
    obtain rfl:z=true:=by rw[←HZ.out];exact HA.out
    go_wp2_with fail
    go_ret2
    exact Ret.mk' rfl (HG0.out.trans (HG.out.trans gw))
set_option maxHeartbeats 8000000
set_option maxRecDepth 100000
theorem p1Range_v (d:Int)(r:Bool)(w:World)(h:distB d=r):Calls Tryz.prog 117 #[.int .i64 d] w (Ret w (.bool r)):=by
 subst h
 go_enter Tryz.func117,Tryz.ntmps117
 go_wp2
 all_goals go_ret
 all_goals refine Ret.mk' (ret_bool ?_) gw
 all_goals (rw[Bool.eq_iff_iff];simp[distB];try omega)
theorem near_snoc (ps:List Pt)(q:Pt)(r:Int)(m:Nat):nearAll ps q r (List.range (m+1))=(nearAll ps q r (List.range m)||nearB q (cor ps m) (cor ps (m+1)) r):=by
 unfold nearAll
 rw[List.range_succ,List.any_append]
 simp
theorem apart_snoc (ps:List Pt)(q:Pt)(r:Int)(m:Nat):(!apartAll ps q r (List.range (m+1)))=((!apartAll ps q r (List.range m)) || !apartB q (cor ps m) (cor ps (m+1)) r):=by
 unfold apartAll
 rw[List.range_succ,List.all_append]
 simp
theorem p3Disc_v (ps:List Pt)(A:Option Addr)(c:Nat)(q:Pt)(d:Int)(r:Int×Int)(w:World)(hr:Rd w w.heap.size 2 A (ps.map encD))(hc:ps.length≤100000000000000)(h:discOf ps q d=r) :
  Calls Tryz.prog 79 #[.slice A ps.length c,pt q.1 q.2,.int .i64 d] w (Ret w (.tuple #[.int .i64 r.1,.int .i64 r.2])):=by
 have hm:=hmix
 obtain⟨u,hu⟩:∃u,PValid ps=u:=⟨_,rfl⟩
 obtain⟨v,hv⟩:∃u,q.ok=u:=⟨_,rfl⟩
 obtain⟨x,hx⟩:∃u,distB d=u:=⟨_,rfl⟩
 have k1:=hide (fun W (hg:Grew w W)=>p3Valid_v ps A c u W (hr.up hg) hc hu)
 have k2:=hide (fun W=>p1Valid_v q.1 q.2 v W hv)
 have k3:=hide (fun W=>p1Range_v d x W hx)
 unfold discOf at h
 rw[hu,hv,hx] at h
 have HR:=hide hr
 have hcase:u=false∨(u=true∧v=false)∨(u=true∧v=true∧x=false)∨(u=true∧v=true∧x=true):=by cases u<;>cases v<;>cases x<;>simp
 rcases hcase with rfl|⟨rfl,rfl⟩|⟨rfl,rfl,rfl⟩|⟨rfl,rfl,rfl⟩
 ·rw[if_neg (by simp)] at h
  subst h
  clear hu hv hr hx
  obtain⟨q1,q2⟩:=q
  dsimp only at k2 ⊢
  go_enter Tryz.func79,Tryz.ntmps79
  go_wp2_with (first|(go_at_call 86;with_reducible refine crv (k1.out _ gw) fun _ _=>?_;dsimp only)|(go_at_call 47;with_reducible refine crv (k2.out _) fun _ _=>?_;dsimp only)|(go_at_call 117;with_reducible refine crv (k3.out _) fun _ _=>?_;dsimp only))
  go_ret2
  exact Ret.mk' rfl gw
 ·rw[if_neg (by simp)] at h
  subst h
  clear hu hv hr hx
  obtain⟨q1,q2⟩:=q
  dsimp only at k2 ⊢
  go_enter Tryz.func79,Tryz.ntmps79
  go_wp2_with (first|(go_at_call 86;with_reducible refine crv (k1.out _ gw) fun _ _=>?_;dsimp only)|(go_at_call 47;with_reducible refine crv (k2.out _) fun _ _=>?_;dsimp only)|(go_at_call 117;with_reducible refine crv (k3.out _) fun _ _=>?_;dsimp only))
  go_ret2
  exact Ret.mk' rfl gw
 ·rw[if_neg (by simp)] at h
  subst h
  clear hu hv hr hx
  obtain⟨q1,q2⟩:=q
  dsimp only at k2 ⊢
  go_enter Tryz.func79,Tryz.ntmps79
  go_wp2_with (first|(go_at_call 86;with_reducible refine crv (k1.out _ gw) fun _ _=>?_;dsimp only)|(go_at_call 47;with_reducible refine crv (k2.out _) fun _ _=>?_;dsimp only)|(go_at_call 117;with_reducible refine crv (k3.out _) fun _ _=>?_;dsimp only))
  go_ret2
  exact Ret.mk' rfl gw
 ·rw[if_pos (by rfl)] at h
  subst h
  have hp:=pv_parts hu
  have hl:ps.length≤100:=by have:=hp.1;omega
  have HOK:=hide hp.2
  have HQ:=hide hv
  have HD:=hide (dist_bd hx)
  obtain⟨pl,hpl⟩:∃z,placeOf ps q=z:=⟨_,rfl⟩
  have k4:=hide (fun W (hg:Grew w W)=>p3Place_v ps A c q pl W (HR.out.up hg) hu hv hpl)
  obtain⟨z,hz⟩:∃z,discVal ps q d=z:=⟨_,rfl⟩
  rw[hz]
  unfold discVal at hz
  rw[hpl] at hz
  have HZ:=hide hz
  clear hu hv hr hx hp hz hpl
  obtain⟨q1,q2⟩:=q
  dsimp only at k2 k4 ⊢
  go_enter Tryz.func79,Tryz.ntmps79
  go_wp2_with (first|(go_at_call 86;with_reducible refine crv (k1.out _ gw) fun _ _=>?_;dsimp only)|(go_at_call 47;with_reducible refine crv (k2.out _) fun _ _=>?_;dsimp only)|(go_at_call 117;with_reducible refine crv (k3.out _) fun _ _=>?_;dsimp only))
  refine wp_name ?_
  intro W0 hW
  have HG0:Hid (Grew w W0):=hide (by rw[←hW];exact gw)
  have HB0:Hid (PB W0 w.heap.size (q1,q2)):=hide (PB.up (show PB (w.alloc (.cells #[.int .i64 q1,.int .i64 q2] 26)) w.heap.size (q1,q2) from heap_alloc_at _ _ _ (by simp)) (by rw[←hW];exact gw))
  clear hW k1 k2 k3
  go_loopw [11,12,13] (fun s t i wr=>∃m:Nat,m≤ps.length∧i=.int .i64 m∧s=.bool (nearAll ps (q1,q2) d (List.range m))∧t=.bool (!apartAll ps (q1,q2) d (List.range m))∧Grew W0 wr) (fun _ _ i _=>ps.length-(intOf i).toNat)
  case atStart=>exact⟨0,by omega,rfl,rfl,rfl,gw⟩
  case round =>
   obtain⟨m,hmm,rfl,rfl,rfl,hg⟩:=hrel
   have HG:=hide hg
   have z0:=(HB0.out.up hg).c0
   have z1:=(HB0.out.up hg).c1
   have z2:=(HB0.out.up hg).lt
   dsimp only at z0 z1
   clear hg
   by_cases hlt:m<ps.length
   ·obtain⟨p,hp⟩:∃p,cor ps m=p:=⟨_,rfl⟩
    obtain⟨n,hn⟩:∃p,cor ps (m+1)=p:=⟨_,rfl⟩
    have okp:p.ok=true:=by rw[←hp];exact cor_ok HOK.out _
    have okn:n.ok=true:=by rw[←hn];exact cor_ok HOK.out _
    have hpm:=cor_get hlt
    rw[hp] at hpm
    obtain⟨bb,off1,hA1,hb1,g0,g1⟩:=ptAt (HR.out.up (HG0.out.trans HG.out)) hpm
    have hix1:=idx_run (cap:=c) Tryz.underlying51 Tryz.sizeOf26 hA1.out hlt
    have kn:=hide (fun W (hg:Grew w W)=>Next_v ps A c m n W (HR.out.up hg) (by omega) hlt hn)
    have e1:=near_snoc ps (q1,q2) d m
    have e2:=apart_snoc ps (q1,q2) d m
    rw[hp,hn] at e1 e2
    obtain⟨o,ho⟩:∃o,nearB (q1,q2) p n d=o:=⟨_,rfl⟩
    obtain⟨y,hy⟩:∃o,(!apartB (q1,q2) p n d)=o:=⟨_,rfl⟩
    have kw:=hide (fun W=>p1Within_v (q1,q2) p n d o W HQ.out okp okn HD.out ho)
    have kx:=hide (fun W=>p3nearer_v (q1,q2) p n d y W HQ.out okp okn HD.out hy)
    rw[ho] at e1
    rw[hy] at e2
    obtain⟨s,hs⟩:∃s,nearAll ps (q1,q2) d (List.range m)=s:=⟨_,rfl⟩
    obtain⟨t,ht⟩:∃s,(!apartAll ps (q1,q2) d (List.range m))=s:=⟨_,rfl⟩
    rw[hs] at e1 ⊢
    rw[ht] at e2 ⊢
    have E1:=hide e1
    have E2:=hide e2
    clear ho hy hs ht e1 e2 hpm hp hn okp okn hA1
    obtain⟨p1,p2⟩:=p
    obtain⟨n1,n2⟩:=n
    dsimp only at g0 g1 kn kw kx
    cases s<;>cases t
    all_goals
     go_wp2_with fail
     refine wp_region_qas 14 [] [] hm (h:=?_)
     repeat (refine wpSteady_step (fun K hK=>?_);go_simp;first|(refine hK _ ?_;clear hK K)|(apply Exists.intro;refine⟨fun _=>?_,hK _ ?_⟩;(first|(go_at_call 119;with_reducible exact kn.out _ (HG0.out.trans (HG.out.trans gw)))|(go_at_call 118;with_reducible exact kw.out _));clear hK K))
     refine rq0 fun nq osq=>?_
     try simp only[Act.put,setA]
     try dsimp only
     go_wp2_with fail
     refine wp_region_qas 14 [] [] hm (h:=?_)
     repeat (refine wpSteady_step (fun K hK=>?_);go_simp;first|(refine hK _ ?_;clear hK K)|(apply Exists.intro;refine⟨fun _=>?_,hK _ ?_⟩;(first|(go_at_call 119;with_reducible exact kn.out _ (HG0.out.trans (HG.out.trans gw)))|(go_at_call 120;with_reducible exact kx.out _));clear hK K))
     refine rq0 fun nq osq=>?_
     try simp only[Act.put,setA]
     try dsimp only
     go_wp2_with fail
     go_roundw
     case rel=>exact⟨m+1,by omega,by go_num,ret_bool (by rw[E1.out];simp),ret_bool (by rw[E2.out];simp),HG.out.trans gw⟩
     case measure=>simp[intOf];omega
   ·obtain rfl:m=ps.length:=by omega
    obtain⟨s,hs⟩:∃s,nearAll ps (q1,q2) d (List.range ps.length)=s:=⟨_,rfl⟩
    obtain⟨t,ht⟩:∃s,apartAll ps (q1,q2) d (List.range ps.length)=s:=⟨_,rfl⟩
    have hz:=HZ.out
    rw[hs,ht] at hz
    rw[hs,ht]
    clear hs ht HZ
    by_cases g:0≤pl
    ·have g2:¬ pl<0:=by omega
     rw[if_pos g] at hz
     cases t
     ·rw[if_neg (by simp)] at hz
      subst hz
      go_wp2_with (go_at_call 121;with_reducible refine crv (k4.out _ (HG0.out.trans (HG.out.trans gw))) fun _ _=>?_;dsimp only)
      go_ret2
      exact Ret.mk' rfl (HG0.out.trans (HG.out.trans gw))
     ·rw[if_pos rfl] at hz
      subst hz
      go_wp2_with (go_at_call 121;with_reducible refine crv (k4.out _ (HG0.out.trans (HG.out.trans gw))) fun _ _=>?_;dsimp only)
      go_ret2
      exact Ret.mk' rfl (HG0.out.trans (HG.out.trans gw))
    ·have g2:pl<0:=by omega
     rw[if_neg g] at hz
     cases s
     ·rw[if_neg (by simp)] at hz
      subst hz
      go_wp2_with (go_at_call 121;with_reducible refine crv (k4.out _ (HG0.out.trans (HG.out.trans gw))) fun _ _=>?_;dsimp only)
      go_ret2
      exact Ret.mk' rfl (HG0.out.trans (HG.out.trans gw))
     ·rw[if_pos rfl] at hz
      subst hz
      go_wp2_with (go_at_call 121;with_reducible refine crv (k4.out _ (HG0.out.trans (HG.out.trans gw))) fun _ _=>?_;dsimp only)
      go_ret2
      exact Ret.mk' rfl (HG0.out.trans (HG.out.trans gw))
end Go.Proofs.YtblgdlnmabkpoaaGreat

