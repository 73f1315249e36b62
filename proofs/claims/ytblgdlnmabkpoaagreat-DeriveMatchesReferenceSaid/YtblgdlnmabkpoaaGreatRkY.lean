import Derived.Test.YtblgdlnmabkpoaaGreatCvX
import Derived.Test.YtblgdlnmabkpoaaGreatFeA
import Derived.Test.YtblgdlnmabkpoaaGreatRkX
import Derived.Test.YtblgdlnmabkpoaaGreatPgX
import Derived.Test.YtblgdlnmabkpoaaGreatPle
/- The reference implementation of package feature: Disc, Polygon. -/
set_option linter.unusedSimpArgs false
set_option linter.unusedVariables false
namespace Go.Proofs.YtblgdlnmabkpoaaGreat
open Go.RowKit Go.Sort
attribute [local go_sem] Steady steadyUpon
attribute [local go_sem ↓] hs_dr lt_add_r lt_add_r2 lt_add_r3 lt_add_r4 lt_add_r5 lt_add_r6
attribute [local go_sem] cell?_gd frozen?_gd setCell_gd size_grow tape_grow cell?_grow' frozen?_grow' setCell_grow' grow_grow grow_dr grow_drew dr_dr dr_drew drew_dr dr_alloc dr_setCell dr_cell dr_frozen dr_tape dr_drawn
attribute [local irreducible] wpSteady
theorem v7Disc_v (k:Int)(r:Bool)(w:World)(h:isDisc k=r):Calls Tryz.prog 77 #[.int .i64 k] w (Ret w (.bool r)):=by
 subst h
 have hcase:k=1∨(k≠1∧k=2)∨(k≠1∧k≠2):=by omega
 rcases hcase with rfl|⟨_,rfl⟩|⟨h1,h2⟩
 ·go_enter Tryz.func77,Tryz.ntmps77
  go_wp2_with fail
  go_ret
  exact Ret.mk' rfl gw
 ·go_enter Tryz.func77,Tryz.ntmps77
  go_wp2_with fail
  go_ret
  exact Ret.mk' rfl gw
 ·have g1:(k==1)=false:=by simpa using h1
  have g2:(k==2)=false:=by simpa using h2
  go_enter Tryz.func77,Tryz.ntmps77
  go_wp2_with fail
  go_ret
  exact Ret.mk' (ret_bool (by unfold isDisc;rw[Bool.eq_iff_iff];simp[h1,h2])) gw
theorem v7Poly_v (k:Int)(r:Bool)(w:World)(h:isArea k=r):Calls Tryz.prog 85 #[.int .i64 k] w (Ret w (.bool r)):=by
 subst h
 have hcase:k=3∨(k≠3):=by omega
 rcases hcase with rfl|h1
 ·go_enter Tryz.func85,Tryz.ntmps85
  go_wp2_with fail
  go_ret
  exact Ret.mk' rfl gw
 ·have g1:(k==3)=false:=by simpa using h1
  go_enter Tryz.func85,Tryz.ntmps85
  go_wp2_with fail
  go_ret
  exact Ret.mk' (ret_bool (by unfold isArea;rw[Bool.eq_iff_iff];simp[h1])) gw
set_option maxHeartbeats 8000000
set_option maxRecDepth 100000
/-- What a valid feature is. -/
theorem fv_cases {f:FV}(h:FValid f=true):((f.kind=1∨f.kind=2∨f.kind=5)∧plOk f.x f.y=true∧0≤f.rad∧f.rad≤100000)∨((f.kind=3∨f.kind=6)∧PValid f.area=true∧f.rad=0)∨(f.kind=4∧plOk f.x f.y=true∧LValid f.secs=true):=by
 unfold FValid baseOk at h
 rw[Bool.and_eq_true,decide_eq_true_eq] at h
 obtain⟨hb,h2⟩:=h
 split at h2
 ·rename_i hd
  unfold isDisc at hd
  rw[decide_eq_true_eq] at hd
  unfold discOk at h2
  rw[Bool.and_eq_true] at h2
  exact .inl ⟨hd,h2.1,hb.2.2.2.1,hb.2.2.2.2⟩
 ·split at h2
  ·rename_i h3
   unfold areaOk at h2
   simp only[Bool.and_eq_true,decide_eq_true_eq] at h2
   exact .inr (.inl ⟨.inl h3,h2.1,h2.2.2.1⟩)
  ·split at h2
   ·rename_i h6
    unfold areaOk at h2
    simp only[Bool.and_eq_true,decide_eq_true_eq] at h2
    exact .inr (.inl ⟨.inr h6,h2.2.1,h2.2.2.2.1⟩)
   ·split at h2
    ·rename_i h4
     unfold lightOk at h2
     simp only[Bool.and_eq_true,decide_eq_true_eq] at h2
     exact .inr (.inr ⟨h4,h2.1,h2.2.1⟩)
    ·cases h2
theorem cover_disc7 {x y r:Int}{p:Pt}(h1:plOk x y=true)(h2:p.ok=true)(hr:0≤r∧r≤3000000):coverD x y r p=decide (dt (x,y) p p≤r*r):=by
 unfold coverD nearOf
 rw[if_pos (by rw[h2,show Pt.ok (x,y)=true from h1,show distB r=true by unfold distB;rw[decide_eq_true_eq];exact hr];rfl)]
 unfold nearB sqr
 have e:dt (x,y) (x,y) p=0:=by unfold dt;simp
 rw[e,if_pos (Int.le_refl 0)]
 simp
theorem v7Has_v (f:FV)(p:Pt)(r:Bool)(w:World)(hr:f.rd w w.heap.size)(hv:FValid f=true)(hp:p.ok=true)(h:shCovers f p=r) :
  Calls Tryz.prog 66 #[f.val,pt p.1 p.2] w (Ret w (.bool r)):=by
 have hm:=hmix
 have kd:=hide (fun b W (h:isDisc f.kind=b)=>v7Disc_v f.kind b W h)
 have ka:=hide (fun b W (h:isArea f.kind=b)=>v7Poly_v f.kind b W h)
 have ks:=hide (fun (h:plOk f.x f.y=true) W=>p1Square_v (f.x,f.y) p _ W h hp rfl)
 have ki:=hide (fun W (hg:Grew w W)=>p3In_v f.area f.aA f.ac p _ W (hr.up hg).area (by have:=hr.la;omega) rfl)
 have hc:=fv_cases hv
 unfold shCovers at h
 rcases hc with⟨hk,h1,h2,h3⟩|⟨hk,h1,_⟩|⟨hk,_,_⟩
 ·rw[if_neg (by omega),if_neg (by omega),cover_disc7 h1 hp (by omega)] at h
  have kd1:=hide (fun W=>kd.out true W (by unfold isDisc;rw[decide_eq_true_eq];exact hk))
  have ks1:=hide (ks.out h1)
  have hb:=mul_bd (a:=f.rad) (b:=f.rad) 100000 100000 (by omega) (by omega)
  clear kd ka ks ki hr hv hk h1
  generalize dt (f.x,f.y) p p=z at *
  obtain⟨id,kind,x,y,rad,aA,ac,area,dep,sym,sA,sc,secs⟩:=f
  obtain⟨p1,p2⟩:=p
  dsimp only at *
  obtain⟨t,ht⟩:∃t,rad*rad=t:=⟨_,rfl⟩
  rw[ht] at h hb
  have hw:IntKind.i64.wrap t=t:=by unfold IntKind.wrap;simp[IntKind.bits,IntKind.signed];omega
  subst h
  go_enter Tryz.func66,Tryz.ntmps66
  go_wp2_with (go_at_call 77;with_reducible refine crv (kd1.out _) fun _ _=>?_;dsimp only)
  refine wp_region_qas 11 [] [] hm (h:=?_)
  repeat (refine wpSteady_step (fun K hK=>?_);go_simp;first|(refine hK _ ?_;clear hK K)|(apply Exists.intro;refine⟨fun _=>?_,hK _ ?_⟩;((go_at_call 88;with_reducible exact ks1.out _));clear hK K))
  refine rq0 fun nq osq=>?_
  try simp only[Act.put,setA]
  try dsimp only
  go_wp2_with fail
  go_ret
  exact Ret.mk' rfl gw
 ·rw[if_neg (by omega),if_pos hk] at h
  unfold coverA at h
  have hin:(inOf f.area p).2=0:=by unfold inOf;rw[hp,h1];rfl
  rw[hin] at h
  have kd1:=hide (fun W=>kd.out false W (by unfold isDisc;rw[decide_eq_false_iff_not];omega))
  have ka1:=hide (fun W=>ka.out true W (by unfold isArea;rw[decide_eq_true_eq];exact hk))
  generalize inOf f.area p=z at *
  obtain⟨z1,z2⟩:=z
  clear kd ka ks hr hv hk h1 hin
  obtain⟨id,kind,x,y,rad,aA,ac,area,dep,sym,sA,sc,secs⟩:=f
  obtain⟨p1,p2⟩:=p
  dsimp only at *
  subst h
  go_enter Tryz.func66,Tryz.ntmps66
  go_wp2_with (first|(go_at_call 77;with_reducible refine crv (kd1.out _) fun _ _=>?_;dsimp only)|(go_at_call 85;with_reducible refine crv (ka1.out _) fun _ _=>?_;dsimp only)|(go_at_call 89;with_reducible refine crv (ki.out _ gw) fun _ _=>?_;dsimp only))
  go_ret
  exact Ret.mk' (ret_bool (by simp)) gw
 ·rw[if_pos hk] at h
  subst h
  have kd1:=hide (fun W=>kd.out false W (by unfold isDisc;rw[decide_eq_false_iff_not];omega))
  have ka1:=hide (fun W=>ka.out false W (by unfold isArea;rw[decide_eq_false_iff_not];omega))
  clear kd ka ks ki hr hv hk
  obtain⟨id,kind,x,y,rad,aA,ac,area,dep,sym,sA,sc,secs⟩:=f
  obtain⟨p1,p2⟩:=p
  dsimp only at *
  go_enter Tryz.func66,Tryz.ntmps66
  go_wp2_with (first|(go_at_call 77;with_reducible refine crv (kd1.out _) fun _ _=>?_;dsimp only)|(go_at_call 85;with_reducible refine crv (ka1.out _) fun _ _=>?_;dsimp only))
  go_ret
  exact Ret.mk' rfl gw
set_option maxHeartbeats 1600000
set_option maxRecDepth 100000
theorem p1Inside_v (p:Pt)(r:Int)(q:Pt)(s:Int)(o:Bool)(w:World)(hp:p.ok=true)(hq:q.ok=true)(hr:0≤r∧r≤3000000)(hs:0≤s∧s≤3000000)(h:liesB p r q s=o) :
  Calls Tryz.prog 78 #[pt p.1 p.2,.int .i64 r,pt q.1 q.2,.int .i64 s] w (Ret w (.bool o)):=by
 have hm:=hmix
 have ks:=hide (fun W=>p1Square_v p q _ W hp hq rfl)
 unfold liesB at h
 have hd:=dt_bd hp hq hq
 generalize dt p q q=n at *
 obtain⟨p1,p2⟩:=p
 obtain⟨q1,q2⟩:=q
 dsimp only at ks ⊢
 have ht:=mul_bd (a:=s-r) (b:=s-r) 3000000 3000000 (by omega) (by omega)
 by_cases h1:r≤s
 ·obtain⟨t,ht0⟩:∃t,(s-r)*(s-r)=t:=⟨_,rfl⟩
  rw[ht0] at h ht
  rw[decide_eq_true h1,Bool.true_and] at h
  subst h
  clear hp hq
  go_enter Tryz.func78,Tryz.ntmps78
  go_wp2_with (go_at_call 88;with_reducible refine crv (ks.out _) fun _ _=>?_;dsimp only)
  all_goals go_ret
  all_goals exact Ret.mk' (ret_bool (by simp[*])) gw
 ·rw[decide_eq_false h1,Bool.false_and] at h
  subst h
  clear hp hq
  go_enter Tryz.func78,Tryz.ntmps78
  go_wp2_with (go_at_call 88;with_reducible refine crv (ks.out _) fun _ _=>?_;dsimp only)
  go_ret
  exact Ret.mk' rfl gw
theorem root_uniq {n a:Int}(hn:0≤n)(hn2:n<70368744177664)(ha:0≤a)(h1:a*a≤n)(h2:n<(a+1)*(a+1)):rootOf n=a:=by
 obtain⟨g0,_,g1,g2⟩:=root_spec n hn hn2
 generalize rootOf n=b at *
 rcases Int.lt_trichotomy a b with h|h|h
 ·have:=Int.mul_le_mul (show a+1≤b by omega) (show a+1≤b by omega) (by omega) g0
  omega
 ·exact h.symm
 ·have:=Int.mul_le_mul (show b+1≤a by omega) (show b+1≤a by omega) (by omega) ha
  omega
def Mid (n lo hi:Int):Prop:=(0≤lo∧lo<hi∧hi≤4000000)∧lo*lo≤n∧n<hi*hi
theorem p1Root_v (n r:Int)(w:World)(hn:0≤n)(hn2:n<16000000000000)(h:rootOf n=r):Calls Tryz.prog 153 #[.int .i64 n] w (Ret w (.int .i64 r)):=by
 have hm:=hmix
 have HH:=hide h
 have HN:=hide (And.intro hn hn2)
 clear h
 go_enter Tryz.func153,Tryz.ntmps153
 go_wp2_with fail
 go_loopw [3,4] (fun l h wr=>∃lo hi:Int,l=.int .i64 lo∧h=.int .i64 hi∧Mid n lo hi∧Grew w wr) (fun l h _=>(intOf h-intOf l).toNat)
 case atStart=>exact⟨0,4000000,rfl,rfl,⟨⟨by omega,by omega,by omega⟩,by omega,by omega⟩,gw⟩
 case round =>
  obtain⟨lo,hi,rfl,rfl,⟨⟨h1,h2,h3⟩,h4,h5⟩,hg⟩:=hrel
  have HG:=hide hg
  have H4:=hide h4
  have H5:=hide h5
  clear hg h4 h5
  by_cases hlt:1<hi-lo
  ·obtain⟨m,hmid⟩:∃m,(lo+hi) / 2=m:=⟨_,rfl⟩
   have hmid2:(lo+hi).tdiv 2=m:=by rw[Int.tdiv_eq_ediv_of_nonneg (by omega)];exact hmid
   have hml:lo<m∧m<hi:=by omega
   have ht:=mul_bd (a:=m) (b:=m) 4000000 4000000 (by omega) (by omega)
   obtain⟨q,hq⟩:∃q,m*m=q:=⟨_,rfl⟩
   rw[hq] at ht
   have HQ:=hide hq
   by_cases hle:q≤n
   ·go_wp2_with fail
    go_roundw
    case rel=>exact⟨m,hi,rfl,rfl,⟨⟨by omega,by omega,h3⟩,by rw[HQ.out];exact hle,H5.out⟩,HG.out.trans gw⟩
    case measure=>simp[intOf];omega
   ·go_wp2_with fail
    go_roundw
    case rel=>exact⟨lo,m,rfl,rfl,⟨⟨h1,by omega,by omega⟩,H4.out,by rw[HQ.out];omega⟩,HG.out.trans gw⟩
    case measure=>simp[intOf];omega
  ·have e:hi=lo+1:=by omega
   have hr:rootOf n=lo:=root_uniq HN.out.1 (by have:=HN.out.2;omega) h1 H4.out (by rw[←e];exact H5.out)
   have HR:=hide hr
   clear hr e
   go_wp2_with fail
   go_ret
   exact Ret.mk' (by rw[←HH.out,HR.out];rfl) (HG.out.trans gw)
theorem dist_ok {p q:Pt}(hp:p.ok=true)(hq:q.ok=true):distOf p q=((rootOf (dt p q q),if rootOf (dt p q q)*rootOf (dt p q q)<dt p q q then rootOf (dt p q q)+1 else rootOf (dt p q q)),0):=by
 have hd:=dt_bd hp hq hq
 have hd0:=dt_nn p q
 obtain⟨h1,h2,h3,h4⟩:=root_spec (dt p q q) hd0 (by omega)
 unfold distOf
 rw[hp,hq,if_pos (by rfl)]
 by_cases hpe:p=q
 ·rw[if_pos hpe]
  have e:dt p q q=0:=by rw[hpe];unfold dt;simp
  rw[e,show rootOf 0=0 by decide]
  simp
 ·rw[if_neg hpe]
  by_cases hs:rootOf (dt p q q)*rootOf (dt p q q)=dt p q q
  ·rw[if_pos hs,if_neg (by omega)]
  ·rw[if_neg hs,if_pos (by omega)]
theorem p1Dist_v (p q:Pt)(o:(Int×Int)×Int)(w:World)(hp:p.ok=true)(hq:q.ok=true)(h:distOf p q=o) :
  Calls Tryz.prog 111 #[pt p.1 p.2,pt q.1 q.2] w (Ret w (.tuple #[pt o.1.1 o.1.2,.int .i64 o.2])):=by
 have hm:=hmix
 rw[dist_ok hp hq] at h
 have hd:=dt_bd hp hq hq
 have hd0:=dt_nn p q
 obtain⟨h1,h2,h3,h4⟩:=root_spec (dt p q q) hd0 (by omega)
 have kv1:=hide (fun W=>p1Valid_v p.1 p.2 true W hp)
 have kv2:=hide (fun W=>p1Valid_v q.1 q.2 true W hq)
 have ks:=hide (fun W=>p1Square_v p q _ W hp hq rfl)
 have kr:=hide (fun W=>p1Root_v (dt p q q) _ W hd0 (by omega) rfl)
 generalize dt p q q=n at *
 generalize rootOf n=r at *
 have hrr:=mul_bd (a:=r) (b:=r) 8388607 8388607 (by omega) (by omega)
 obtain⟨s,hs⟩:∃s,r*r=s:=⟨_,rfl⟩
 rw[hs] at h hrr
 obtain⟨a1,a2⟩:=p
 obtain⟨b1,b2⟩:=q
 dsimp only at kv1 kv2 ks ⊢
 clear h3 h4 hp hq
 by_cases hsn:s<n
 ·rw[if_pos hsn] at h
  subst h
  go_enter Tryz.func111,Tryz.ntmps111
  go_wp2_with (first|(go_at_call 47;with_reducible refine crv (kv1.out _) fun _ _=>?_;dsimp only)|(go_at_call 47;with_reducible refine crv (kv2.out _) fun _ _=>?_;dsimp only)|(go_at_call 88;with_reducible refine crv (ks.out _) fun _ _=>?_;dsimp only)|(go_at_call 153;with_reducible refine crv (kr.out _) fun _ _=>?_;dsimp only))
  refine bodyPost_ret (v:=.tuple #[pt r (r+1),.int .i64 0]) (by simp[results,Tryz.results111,go_sem]) rfl ?_
  exact Ret.mk' rfl gw
 ·rw[if_neg hsn] at h
  subst h
  go_enter Tryz.func111,Tryz.ntmps111
  go_wp2_with (first|(go_at_call 47;with_reducible refine crv (kv1.out _) fun _ _=>?_;dsimp only)|(go_at_call 47;with_reducible refine crv (kv2.out _) fun _ _=>?_;dsimp only)|(go_at_call 88;with_reducible refine crv (ks.out _) fun _ _=>?_;dsimp only)|(go_at_call 153;with_reducible refine crv (kr.out _) fun _ _=>?_;dsimp only))
  refine bodyPost_ret (v:=.tuple #[pt r r,.int .i64 0]) (by simp[results,Tryz.results111,go_sem]) rfl ?_
  exact Ret.mk' rfl gw
set_option maxHeartbeats 16000000
set_option maxRecDepth 100000
theorem v7Contains_v (f g:FV)(r:Bool)(w:World)(hf:f.rd w w.heap.size)(hg:g.rd w w.heap.size)(hv:FValid f=true)(hu:FValid g=true)(h:shHolds f g=r) :
  Calls Tryz.prog 61 #[f.val,g.val] w (Ret w (.bool r)):=by
 have hm:=hmix
 have kd:=hide (fun k b W (h:isDisc k=b)=>v7Disc_v k b W h)
 have kh:=hide (fun p b (hp:Pt.ok p=true) (h:shCovers f p=b) W (hgw:Grew w W)=>v7Has_v f p b W (hf.up hgw) hv hp h)
 have hcf:=fv_cases hv
 have hcg:=fv_cases hu
 have HF:=hide hf
 have HG:=hide hg
 unfold shHolds at h
 rcases hcg with⟨gk,g1,g2,g3⟩|⟨gk,g1,g2⟩|⟨gk,_,_⟩
 ·rcases hcf with⟨fk,f1,f2,f3⟩|⟨fk,f1,f2⟩|⟨fk,_,_⟩
  ·rw[if_neg (show ¬ f.kind=4 by omega),if_neg (show ¬ g.kind=4 by omega),if_neg (show ¬ (f.kind=3∨f.kind=6) by omega),if_neg (show ¬ (g.kind=3∨g.kind=6) by omega)] at h
   have e:discHoldsD f.x f.y f.rad (g.x,g.y) g.rad=liesB (g.x,g.y) g.rad (f.x,f.y) f.rad:=by
    unfold discHoldsD liesOf
    rw[if_pos (by rw[show Pt.ok (g.x,g.y)=true from g1,show Pt.ok (f.x,f.y)=true from f1,show distB g.rad=true by unfold distB;rw[decide_eq_true_eq];omega,show distB f.rad=true by unfold distB;rw[decide_eq_true_eq];omega];rfl)]
    rfl
   rw[e] at h
   have ki:=hide (fun W=>p1Inside_v (g.x,g.y) g.rad (f.x,f.y) f.rad r W g1 f1 (by omega) (by omega) h)
   have kd1:=hide (fun W=>kd.out f.kind true W (by unfold isDisc;rw[decide_eq_true_eq];exact fk))
   have kd2:=hide (fun W=>kd.out g.kind true W (by unfold isDisc;rw[decide_eq_true_eq];exact gk))
   have n1:(g.kind==4)=false:=by simp;omega
   have n2:(f.kind==4)=false:=by simp;omega
   clear kd kh h e hf hg hv hu fk gk f1 f2 f3 g1 g2 g3 HF HG
   obtain⟨id,kind,x,y,rad,aA,ac,area,dep,sym,sA,sc,secs⟩:=f
   obtain⟨id',kind',x',y',rad',aA',ac',area',dep',sym',sA',sc',secs'⟩:=g
   dsimp only at *
   go_enter Tryz.func61,Tryz.ntmps61
   go_wp2_with (first|(go_at_call 77;with_reducible refine crv (kd1.out _) fun _ _=>?_;dsimp only)|(go_at_call 77;with_reducible refine crv (kd2.out _) fun _ _=>?_;dsimp only)|(go_at_call 78;with_reducible refine crv (ki.out _) fun _ _=>?_;dsimp only))
   go_ret
   exact Ret.mk' rfl gw
  ·rw[if_neg (show ¬ f.kind=4 by omega),if_neg (show ¬ g.kind=4 by omega),if_pos fk,if_neg (show ¬ (g.kind=3∨g.kind=6) by omega)] at h
   have kx:=hide (fun W (hgw:Grew w W)=>p3Disc_v f.area f.aA f.ac (g.x,g.y) g.rad _ W (HF.out.up hgw).area (by have:=HF.out.la;omega) rfl)
   unfold areaHoldsD at h
   have e:(discOf f.area (g.x,g.y) g.rad).2=0:=by
    unfold discOf
    rw[if_pos (by rw[f1,show Pt.ok (g.x,g.y)=true from g1,show distB g.rad=true by unfold distB;rw[decide_eq_true_eq];omega];rfl)]
   rw[e] at h
   generalize discOf f.area (g.x,g.y) g.rad=z at *
   obtain⟨z1,z2⟩:=z
   have kd1:=hide (fun W=>kd.out f.kind false W (by unfold isDisc;rw[decide_eq_false_iff_not];omega))
   have kd2:=hide (fun W=>kd.out g.kind true W (by unfold isDisc;rw[decide_eq_true_eq];exact gk))
   have n1:(g.kind==4)=false:=by simp;omega
   have n2:(f.kind==4)=false:=by simp;omega
   clear kd kh e hf hg hv hu fk gk f1 f2 g1 g2 g3 HF HG
   obtain⟨id,kind,x,y,rad,aA,ac,area,dep,sym,sA,sc,secs⟩:=f
   obtain⟨id',kind',x',y',rad',aA',ac',area',dep',sym',sA',sc',secs'⟩:=g
   dsimp only at *
   subst h
   go_enter Tryz.func61,Tryz.ntmps61
   go_wp2_with (first|(go_at_call 77;with_reducible refine crv (kd1.out _) fun _ _=>?_;dsimp only)|(go_at_call 77;with_reducible refine crv (kd2.out _) fun _ _=>?_;dsimp only)|(go_at_call 79;with_reducible refine crv (kx.out _ gw) fun _ _=>?_;dsimp only))
   go_ret
   exact Ret.mk' (ret_bool (by simp)) gw
  ·rw[if_pos fk,show decide (g.kind=4)=false by rw[decide_eq_false_iff_not];omega] at h
   subst h
   have n1:(g.kind==4)=false:=by simp;omega
   clear kd kh hf hg hv hu HF HG
   obtain⟨id,kind,x,y,rad,aA,ac,area,dep,sym,sA,sc,secs⟩:=f
   obtain⟨id',kind',x',y',rad',aA',ac',area',dep',sym',sA',sc',secs'⟩:=g
   dsimp only at *
   clear gk g1 g2 g3
   subst fk
   go_enter Tryz.func61,Tryz.ntmps61
   go_wp2_with fail
   go_ret
   exact Ret.mk' rfl gw
 ·rcases hcf with⟨fk,f1,f2,f3⟩|⟨fk,f1,f2⟩|⟨fk,_,_⟩
  ·rw[if_neg (show ¬ f.kind=4 by omega),if_neg (show ¬ g.kind=4 by omega),if_neg (show ¬ (f.kind=3∨f.kind=6) by omega),if_pos gk] at h
   have hok:g.area.all Pt.ok=true:=(pv_parts g1).2
   have hgl:g.area.length≤100:=by have:=(pv_parts g1).1;omega
   have hcov:∀p,shCovers f p=coverD f.x f.y f.rad p:=fun p=>by
    unfold shCovers
    rw[if_neg (show ¬ f.kind=4 by omega),if_neg (show ¬ (f.kind=3∨f.kind=6) by omega)]
   have kh2:=hide (fun p b (hp:Pt.ok p=true) (h:coverD f.x f.y f.rad p=b)=>kh.out p b hp ((hcov p).trans h))
   have kd1:=hide (fun W=>kd.out f.kind true W (by unfold isDisc;rw[decide_eq_true_eq];exact fk))
   have kd2:=hide (fun W=>kd.out g.kind false W (by unfold isDisc;rw[decide_eq_false_iff_not];omega))
   have n1:(g.kind==4)=false:=by simp;omega
   have n2:(f.kind==4)=false:=by simp;omega
   have HA:=hide (fun W (hgw:Grew w W)=>(HG.out.up hgw).area)
   have HOK:=hide hok
   unfold discHoldsA at h
   have HH:=hide h
   clear kd kh h hf hg hv hu fk gk f1 f2 f3 g1 g2 HF HG hok hcov
   obtain⟨id,kind,x,y,rad,aA,ac,area,dep,sym,sA,sc,secs⟩:=f
   obtain⟨id',kind',x',y',rad',aA',ac',area',dep',sym',sA',sc',secs'⟩:=g
   dsimp only at *
   go_enter Tryz.func61,Tryz.ntmps61
   go_wp2_with (first|(go_at_call 77;with_reducible refine crv (kd1.out _) fun _ _=>?_;dsimp only)|(go_at_call 77;with_reducible refine crv (kd2.out _) fun _ _=>?_;dsimp only))
   refine wp_name ?_
   intro W0 hW
   have HG0:Hid (Grew w W0):=hide (by rw[←hW];exact gw)
   have q0:Hid (W0.cell? ⟨w.heap.size,0,none⟩=some (.int .i64 id)):=hide (by rw[←hW];go_simp)
   have q1:Hid (W0.cell? ⟨w.heap.size,1,none⟩=some (.int .i64 kind)):=hide (by rw[←hW];go_simp)
   have q2:Hid (W0.cell? ⟨w.heap.size,2,none⟩=some (.int .i64 x)):=hide (by rw[←hW];go_simp)
   have q3:Hid (W0.cell? ⟨w.heap.size,3,none⟩=some (.int .i64 y)):=hide (by rw[←hW];go_simp)
   have q4:Hid (W0.cell? ⟨w.heap.size,4,none⟩=some (.int .i64 rad)):=hide (by rw[←hW];go_simp)
   have q5:Hid (W0.cell? ⟨w.heap.size,5,none⟩=some (.slice aA area.length ac)):=hide (by rw[←hW];go_simp)
   have q6:Hid (W0.cell? ⟨w.heap.size,6,none⟩=some (.int .i64 dep)):=hide (by rw[←hW];go_simp)
   have q7:Hid (W0.cell? ⟨w.heap.size,7,none⟩=some (.int .i64 sym)):=hide (by rw[←hW];go_simp)
   have q8:Hid (W0.cell? ⟨w.heap.size,8,none⟩=some (.slice sA secs.length sc)):=hide (by rw[←hW];go_simp)
   have qa:Hid (W0.cell? ⟨w.heap.size+1,5,none⟩=some (.slice aA' area'.length ac')):=hide (by rw[←hW];go_simp)
   have ql:Hid (w.heap.size+1<W0.heap.size):=hide (cell_lt qa.out)
   clear hW kd1 kd2
   go_loopw [5] (fun i wr=>∃m:Nat,m≤area'.length∧i=.int .i64 m∧Grew W0 wr∧AppG ((area'.take m).all (coverD x y rad)=true)) (fun i _=>area'.length-(intOf i).toNat)
   case atStart=>exact⟨0,by omega,rfl,gw,show (area'.take 0).all _=true by simp⟩
   case round =>
    obtain⟨m,hmm,rfl,hgr,hall⟩:=hrel
    have HGR:=hide hgr
    have HAL:=hide hall.stop
    have zl:w.heap.size<wr.heap.size:=by have:=ql.out;have:=hgr.below.size;omega
    have zl1:w.heap.size+1<wr.heap.size:=by have:=ql.out;have:=hgr.below.size;omega
    have zw:w.heap.size<W0.heap.size:=by have:=ql.out;omega
    have y0:=(old_cell hgr _ 0 zw).trans q0.out
    have y1:=(old_cell hgr _ 1 zw).trans q1.out
    have y2:=(old_cell hgr _ 2 zw).trans q2.out
    have y3:=(old_cell hgr _ 3 zw).trans q3.out
    have y4:=(old_cell hgr _ 4 zw).trans q4.out
    have y5:=(old_cell hgr _ 5 zw).trans q5.out
    have y6:=(old_cell hgr _ 6 zw).trans q6.out
    have y7:=(old_cell hgr _ 7 zw).trans q7.out
    have y8:=(old_cell hgr _ 8 zw).trans q8.out
    have ya:=(old_cell hgr _ 5 ql.out).trans qa.out
    clear hgr hall zw
    by_cases hlt:m<area'.length
    ·obtain⟨p,hp⟩:∃p,cor area' m=p:=⟨_,rfl⟩
     have okp:p.ok=true:=by rw[←hp];exact cor_ok HOK.out _
     have hpm:=cor_get hlt
     rw[hp] at hpm
     obtain⟨bb,off1,hA1,hb1,g0,g1⟩:=ptAt (HA.out _ (HG0.out.trans HGR.out)) hpm
     have hix1:=idx_run (cap:=ac') Tryz.underlying51 Tryz.sizeOf26 hA1.out hlt
     obtain⟨o,ho⟩:∃o,coverD x y rad p=o:=⟨_,rfl⟩
     have kz:=hide (kh2.out p o okp ho)
     have htk:(area'.take (m+1)).all (coverD x y rad)=((area'.take m).all (coverD x y rad)&&o):=by
      rw[List.take_add_one,List.all_append,hpm]
      simp[ho]
     have E1:=hide (fun (e:o=true)=>(by rw[htk,HAL.out,e];rfl:(area'.take (m+1)).all (coverD x y rad)=true))
     have E2:=hide (fun (e:o=false)=>(show r=false by
      rw[←HH.out]
      rw[List.all_eq_false]
      exact⟨p,List.mem_of_getElem? hpm,by rw[ho,e];simp⟩))
     clear ho htk hpm hp okp hA1
     obtain⟨p1,p2⟩:=p
     dsimp only at g0 g1 kz
     cases o
     ·have hz:=E2.out rfl
      subst hz
      clear E1 E2 HH
      go_wp2_with fail
      refine wp_region_qas 8 [] [] hm (h:=?_)
      repeat (refine wpSteady_step (fun K hK=>?_);go_simp;first|(refine hK _ ?_;clear hK K)|(apply Exists.intro;refine⟨fun _=>?_,hK _ ?_⟩;((go_at_call 66;with_reducible exact kz.out _ (HG0.out.trans (HGR.out.trans gw))));clear hK K))
      refine rq0 fun nq osq=>?_
      try simp only[Act.put,setA]
      try dsimp only
      go_wp2_with fail
      go_ret
      exact Ret.mk' rfl (HG0.out.trans (HGR.out.trans gw))
     ·have HY:=hide (E1.out rfl)
      clear E1 E2
      go_wp2_with fail
      refine wp_region_qas 8 [] [] hm (h:=?_)
      repeat (refine wpSteady_step (fun K hK=>?_);go_simp;first|(refine hK _ ?_;clear hK K)|(apply Exists.intro;refine⟨fun _=>?_,hK _ ?_⟩;((go_at_call 66;with_reducible exact kz.out _ (HG0.out.trans (HGR.out.trans gw))));clear hK K))
      refine rq0 fun nq osq=>?_
      try simp only[Act.put,setA]
      try dsimp only
      go_wp2_with fail
      go_roundw
      case rel=>exact⟨m+1,by omega,by go_num,HGR.out.trans gw,show (area'.take (m+1)).all (coverD x y rad)=true from HY.out⟩
      case measure=>simp[intOf];omega
    ·obtain rfl:m=area'.length:=by omega
     obtain rfl:r=true:=by
      rw[←HH.out]
      have:=HAL.out
      rwa [List.take_length] at this
     go_wp2_with fail
     go_ret
     exact Ret.mk' rfl (HG0.out.trans (HGR.out.trans gw))
  ·rw[if_neg (show ¬ f.kind=4 by omega),if_neg (show ¬ g.kind=4 by omega),if_pos fk,if_pos gk] at h
   have kx:=hide (fun W (hgw:Grew w W)=>p3Holds_v f.area g.area f.aA g.aA f.ac g.ac _ W (HF.out.up hgw).area (HG.out.up hgw).area (by have:=HF.out.la;omega) (by have:=HG.out.la;omega) rfl)
   unfold areaHoldsA at h
   have e:(pholdsOf f.area g.area).2=0:=by
    unfold pholdsOf
    rw[if_pos (by rw[f1,g1];rfl)]
   rw[e] at h
   generalize pholdsOf f.area g.area=z at *
   obtain⟨z1,z2⟩:=z
   have kd1:=hide (fun W=>kd.out f.kind false W (by unfold isDisc;rw[decide_eq_false_iff_not];omega))
   have kd2:=hide (fun W=>kd.out g.kind false W (by unfold isDisc;rw[decide_eq_false_iff_not];omega))
   have n1:(g.kind==4)=false:=by simp;omega
   have n2:(f.kind==4)=false:=by simp;omega
   clear kd kh e hf hg hv hu fk gk f1 f2 g1 g2 HF HG
   obtain⟨id,kind,x,y,rad,aA,ac,area,dep,sym,sA,sc,secs⟩:=f
   obtain⟨id',kind',x',y',rad',aA',ac',area',dep',sym',sA',sc',secs'⟩:=g
   dsimp only at *
   subst h
   go_enter Tryz.func61,Tryz.ntmps61
   go_wp2_with (first|(go_at_call 77;with_reducible refine crv (kd1.out _) fun _ _=>?_;dsimp only)|(go_at_call 77;with_reducible refine crv (kd2.out _) fun _ _=>?_;dsimp only)|(go_at_call 80;with_reducible refine crv (kx.out _ gw) fun _ _=>?_;dsimp only))
   go_ret
   exact Ret.mk' (ret_bool (by simp)) gw
  ·rw[if_pos fk,show decide (g.kind=4)=false by rw[decide_eq_false_iff_not];omega] at h
   subst h
   have n1:(g.kind==4)=false:=by simp;omega
   clear kd kh hf hg hv hu HF HG
   obtain⟨id,kind,x,y,rad,aA,ac,area,dep,sym,sA,sc,secs⟩:=f
   obtain⟨id',kind',x',y',rad',aA',ac',area',dep',sym',sA',sc',secs'⟩:=g
   dsimp only at *
   clear gk g1 g2
   subst fk
   go_enter Tryz.func61,Tryz.ntmps61
   go_wp2_with fail
   go_ret
   exact Ret.mk' rfl gw
 ·have hz:r=true:=by
   rw[←h,if_pos gk]
   by_cases e:f.kind=4
   ·rw[if_pos e];simpa using gk
   ·rw[if_neg e]
  subst hz
  clear kd kh h hf hg hv hu HF HG hcf
  obtain⟨id,kind,x,y,rad,aA,ac,area,dep,sym,sA,sc,secs⟩:=f
  obtain⟨id',kind',x',y',rad',aA',ac',area',dep',sym',sA',sc',secs'⟩:=g
  dsimp only at *
  subst gk
  go_enter Tryz.func61,Tryz.ntmps61
  go_wp2_with fail
  go_ret
  exact Ret.mk' rfl gw
end Go.Proofs.YtblgdlnmabkpoaaGreat

