import Derived.Test.YtblgdlnmabkpoaaGreatPoa
import Derived.Test.YtblgdlnmabkpoaaGreatPod
import Derived.Test.YtblgdlnmabkpoaaGreatPov
/- The reference implementation's turn and Next. -/
set_option linter.unusedSimpArgs false
set_option linter.unusedVariables false
set_option maxHeartbeats 1600000
set_option maxRecDepth 100000
namespace Go.Proofs.YtblgdlnmabkpoaaGreat
open Go.RowKit Go.Sort
attribute [local go_sem] Steady steadyUpon
attribute [local go_sem ↓] hs_dr lt_add_r lt_add_r2 lt_add_r3 lt_add_r4 lt_add_r5 lt_add_r6
attribute [local go_sem] cell?_gd frozen?_gd setCell_gd size_grow tape_grow cell?_grow' frozen?_grow' setCell_grow' grow_grow grow_dr grow_drew dr_dr dr_drew drew_dr dr_alloc dr_setCell dr_cell dr_frozen dr_tape dr_drawn
attribute [local irreducible] wpSteady
theorem rMinus_any (a b c d:Int)(w:World)(ha:-4000000≤a∧a≤4000000)(hb:-4000000≤b∧b≤4000000)(hc:-4000000≤c∧c≤4000000)(hd:-4000000≤d∧d≤4000000) :
  Calls Tryz.prog 139 #[pt a b,pt c d] w (Ret w (pt (a-c) (b-d))):=by
 go_enter Tryz.func139,Tryz.ntmps139
 go_wp2
 refine bodyPost_ret (v:=pt (a-c) (b-d)) (by simp[results,Tryz.results139,go_sem]) rfl ?_
 exact Ret.mk' rfl gw
theorem rMinus_v (a b:Pt)(w:World)(ha:a.ok=true)(hb:b.ok=true):Calls Tryz.prog 139 #[pt b.1 b.2,pt a.1 a.2] w (Ret w (pt (b.1-a.1) (b.2-a.2))):=by
 have a':=ok_bd ha
 have b':=ok_bd hb
 exact rMinus_any _ _ _ _ w (by omega) (by omega) (by omega) (by omega)
theorem rCross_any (a b c d:Int)(w:World)(ha:-4000000≤a∧a≤4000000)(hb:-4000000≤b∧b≤4000000)(hc:-4000000≤c∧c≤4000000)(hd:-4000000≤d∧d≤4000000) :
  Calls Tryz.prog 157 #[pt a b,pt c d] w (Ret w (.int .i64 (a*d-b*c))):=by
 have h1:-16000000000000≤a*d∧a*d≤16000000000000:=mul_bd 4000000 4000000 ha hd
 have h2:-16000000000000≤b*c∧b*c≤16000000000000:=mul_bd 4000000 4000000 hb hc
 go_enter Tryz.func157,Tryz.ntmps157
 go_wp2
 go_ret
 exact Ret.mk' rfl gw
theorem rSign_any (n:Int)(w:World):Calls Tryz.prog 170 #[.int .i64 n] w (Ret w (.int .i64 (sg n))):=by
 rcases sg_cases n with⟨h,e⟩|⟨h,e⟩|⟨h,e⟩
 ·have h1:¬ 0<n:=by omega
  rw[e]
  clear e
  go_enter Tryz.func170,Tryz.ntmps170
  go_wp2
  go_ret
  exact Ret.mk' rfl gw
 ·subst h
  rw[e]
  clear e
  go_enter Tryz.func170,Tryz.ntmps170
  go_wp2
  go_ret
  exact Ret.mk' rfl gw
 ·rw[e]
  clear e
  go_enter Tryz.func170,Tryz.ntmps170
  go_wp2
  go_ret
  exact Ret.mk' rfl gw
theorem rturn_v (a b c:Pt)(t:Int)(w:World)(ha:a.ok=true)(hb:b.ok=true)(hc:c.ok=true)(ht:tn a b c=t) :
  Calls Tryz.prog 133 #[pt a.1 a.2,pt b.1 b.2,pt c.1 c.2] w (Ret w (.int .i64 t)):=by
 have hm:=hmix
 have k1:=hide (fun W=>rMinus_v a b W ha hb)
 have k2:=hide (fun W=>rMinus_v a c W ha hc)
 obtain⟨a1,a2⟩:=a
 obtain⟨b1,b2⟩:=b
 obtain⟨c1,c2⟩:=c
 have a':=pl_bd ha
 have b':=pl_bd hb
 have c':=pl_bd hc
 have k3:Hid (∀W,Calls Tryz.prog 157 #[pt (b1-a1) (b2-a2),pt (c1-a1) (c2-a2)] W (Ret W (.int .i64 (cr (a1,a2) (b1,b2) (c1,c2))))):=hide (fun W=>rCross_any _ _ _ _ W (by omega) (by omega) (by omega) (by omega))
 have k4:Hid (∀W,Calls Tryz.prog 170 #[.int .i64 (cr (a1,a2) (b1,b2) (c1,c2))] W (Ret W (.int .i64 t))):=hide (fun W=>by
  have:=rSign_any (cr (a1,a2) (b1,b2) (c1,c2)) W
  rw[←ht]
  exact this)
 clear ht ha hb hc
 dsimp only at k1 k2 ⊢
 go_enter Tryz.func133,Tryz.ntmps133
 go_wp2_with fail
 refine wp_region_qas 9 [] [] hm (h:=?_)
 repeat (refine wpSteady_step (fun K hK=>?_);go_simp;first|(refine hK _ ?_;clear hK K)|(apply Exists.intro;refine⟨fun _=>?_,hK _ ?_⟩;(first|(go_at_call 139;first|with_reducible exact k1.out _|with_reducible exact k2.out _)|(go_at_call 157;with_reducible exact k3.out _)|(go_at_call 170;with_reducible exact k4.out _));clear hK K))
 refine rq0 fun nq osq=>?_
 try simp only[Act.put,setA]
 try dsimp only
 go_wp2
 go_ret
 exact Ret.mk' rfl gw
theorem Next_v (ps:List Pt)(A:Option Addr)(c k:Nat)(p:Pt)(w:World)(hr:Rd w w.heap.size 2 A (ps.map encD))(hl:ps.length≤1000000)(hk:k<ps.length)(hp:cor ps (k+1)=p) :
  Calls Tryz.prog 119 #[.slice A ps.length c,.int .i64 k] w (Ret w (pt p.1 p.2)):=by
 have hmx:=hmix
 obtain⟨j,hj⟩:∃j,(k+1)%ps.length=j:=⟨_,rfl⟩
 have hjl:j<ps.length:=by rw[←hj];exact Nat.mod_lt _ (by omega)
 have hq:=cor_mod (ps:=ps) (k+1) (by omega)
 rw[hj,hp] at hq
 obtain⟨b,off,hA,hb,h0,h1⟩:=ptAt hr hq
 have ej:((k:Int)+1)%(ps.length:Int)=(j:Int):=by rw[←hj,show (k:Int)+1=((k+1:Nat):Int) by omega,Int.natCast_emod]
 have hix:=idx_run (cap:=c) Tryz.underlying51 Tryz.sizeOf26 hA.out hjl
 have hne:¬ (ps.length:Int)=0:=by omega
 have hne2:¬ ps=[]:=by intro e;rw[e] at hjl;simp at hjl
 have hnn:0≤(k:Int)+1:=by omega
 have ew:IntKind.i64.wrap ((k:Int)+1)=(k:Int)+1:=by unfold IntKind.wrap;simp[IntKind.bits,IntKind.signed];omega
 have ej':=ej
 rw[←Int.tmod_eq_emod_of_nonneg hnn] at ej'
 obtain⟨p1,p2⟩:=p
 dsimp only at h0 h1
 clear hj hp hq hr hA
 go_enter Tryz.func119,Tryz.ntmps119
 go_wp2_with fail
 refine bodyPost_ret (v:=pt p1 p2) (by simp[results,Tryz.results119,go_sem]) rfl ?_
 exact Ret.mk' rfl gw
set_option maxHeartbeats 4000000
set_option maxRecDepth 10000
theorem p1Valid_v (a b:Int)(r:Bool)(w:World)(h:plOk a b=r) :
  Calls Tryz.prog 47 #[pt a b] w (Ret w (.bool r)):=by
 subst h
 go_enter Tryz.func47,Tryz.ntmps47
 go_wp2
 all_goals go_ret
 all_goals refine Ret.mk' (ret_bool ?_) gw
 all_goals (rw[Bool.eq_iff_iff];simp[plOk];omega)
theorem p1Dot_any (a b c d:Int)(w:World)(ha:-4000000≤a∧a≤4000000)(hb:-4000000≤b∧b≤4000000)(hc:-4000000≤c∧c≤4000000)(hd:-4000000≤d∧d≤4000000) :
  Calls Tryz.prog 138 #[pt a b,pt c d] w (Ret w (.int .i64 (a*c+b*d))):=by
 have h1:-16000000000000≤a*c∧a*c≤16000000000000:=mul_bd 4000000 4000000 ha hc
 have h2:-16000000000000≤b*d∧b*d≤16000000000000:=mul_bd 4000000 4000000 hb hd
 go_enter Tryz.func138,Tryz.ntmps138
 go_wp2
 go_ret
 exact Ret.mk' rfl gw
theorem p1Square_v (a b:Pt)(r:Int)(w:World)(ha:a.ok=true)(hb:b.ok=true)(h:dt a b b=r) :
  Calls Tryz.prog 88 #[pt a.1 a.2,pt b.1 b.2] w (Ret w (.int .i64 r)):=by
 have hm:=hmix
 have k1:=hide (fun W=>rMinus_v a b W ha hb)
 obtain⟨a1,a2⟩:=a
 obtain⟨b1,b2⟩:=b
 have a':=pl_bd ha
 have b':=pl_bd hb
 have k2:Hid (∀W,Calls Tryz.prog 138 #[pt (b1-a1) (b2-a2),pt (b1-a1) (b2-a2)] W (Ret W (.int .i64 r))):=hide (fun W=>by
  have:=p1Dot_any (b1-a1) (b2-a2) (b1-a1) (b2-a2) W (by omega) (by omega) (by omega) (by omega)
  rw[←h]
  exact this)
 clear h ha hb
 dsimp only at k1 ⊢
 go_enter Tryz.func88,Tryz.ntmps88
 go_wp2_with fail
 refine wp_region_qas 8 [] [] hm (h:=?_)
 repeat (refine wpSteady_step (fun K hK=>?_);go_simp;first|(refine hK _ ?_;clear hK K)|(apply Exists.intro;refine⟨fun _=>?_,hK _ ?_⟩;(first|(go_at_call 139;with_reducible exact k1.out _)|(go_at_call 138;with_reducible exact k2.out _));clear hK K))
 refine rq0 fun nq osq=>?_
 try simp only[Act.put,setA]
 try dsimp only
 go_wp2
 go_ret
 exact Ret.mk' rfl gw
theorem p1Cross_v (a b c:Pt)(r:Int)(w:World)(ha:a.ok=true)(hb:b.ok=true)(hc:c.ok=true)(h:cr a b c=r) :
  Calls Tryz.prog 157 #[pt (b.1-a.1) (b.2-a.2),pt (c.1-a.1) (c.2-a.2)] w (Ret w (.int .i64 r)):=by
 have a':=ok_bd ha
 have b':=ok_bd hb
 have c':=ok_bd hc
 have:=rCross_any (b.1-a.1) (b.2-a.2) (c.1-a.1) (c.2-a.2) w (by omega) (by omega) (by omega) (by omega)
 rw[←h]
 exact this
theorem p1Dot_v (a b c:Pt)(r:Int)(w:World)(ha:a.ok=true)(hb:b.ok=true)(hc:c.ok=true)(h:dt a b c=r) :
  Calls Tryz.prog 138 #[pt (b.1-a.1) (b.2-a.2),pt (c.1-a.1) (c.2-a.2)] w (Ret w (.int .i64 r)):=by
 have a':=ok_bd ha
 have b':=ok_bd hb
 have c':=ok_bd hc
 have:=p1Dot_any (b.1-a.1) (b.2-a.2) (c.1-a.1) (c.2-a.2) w (by omega) (by omega) (by omega) (by omega)
 rw[←h]
 exact this
theorem tn_zero_cr {a b c:Pt}:tn a b c=0↔cr a b c=0:=by
 unfold tn
 rcases sg_cases (cr a b c) with⟨h,e⟩|⟨h,e⟩|⟨h,e⟩<;>rw[e]<;>omega
theorem p1Lie_v (p a b:Pt)(r:Bool)(w:World)(hp:p.ok=true)(ha:a.ok=true)(hb:b.ok=true)(h:onB p a b=r) :
  Calls Tryz.prog 160 #[pt p.1 p.2,pt a.1 a.2,pt b.1 b.2] w (Ret w (.bool r)):=by
 have hm:=hmix
 obtain⟨t,ht⟩:∃t,cr a b p=t:=⟨_,rfl⟩
 have k1:=hide (fun W=>rMinus_v a b W ha hb)
 have k2:=hide (fun W=>rMinus_v a p W ha hp)
 have k3:=hide (fun W=>p1Cross_v a b p t W ha hb hp ht)
 unfold onB at h
 have e:decide (tn a b p=0∧(min a.1 b.1≤p.1∧p.1≤max a.1 b.1)∧(min a.2 b.2≤p.2∧p.2≤max a.2 b.2))=decide (t=0∧(min a.1 b.1≤p.1∧p.1≤max a.1 b.1)∧(min a.2 b.2≤p.2∧p.2≤max a.2 b.2)):=by
  rw[←ht]
  simp only[tn_zero_cr]
 rw[e] at h
 clear e ht hp ha hb
 obtain⟨p1,p2⟩:=p
 obtain⟨a1,a2⟩:=a
 obtain⟨b1,b2⟩:=b
 dsimp only at *
 obtain⟨v1,hv1⟩:∃z,b1-a1=z:=⟨_,rfl⟩
 obtain⟨v2,hv2⟩:∃z,b2-a2=z:=⟨_,rfl⟩
 obtain⟨w1,hw1⟩:∃z,p1-a1=z:=⟨_,rfl⟩
 obtain⟨w2,hw2⟩:∃z,p2-a2=z:=⟨_,rfl⟩
 rw[hv1,hv2] at k1 k3
 rw[hw1,hw2] at k2 k3
 clear hv1 hv2 hw1 hw2
 subst h
 by_cases h0:t=0
 ·subst h0
  go_enter Tryz.func160,Tryz.ntmps160
  go_wp2_with fail
  refine wp_region_qas 8 [] [] hm (h:=?_)
  repeat (refine wpSteady_step (fun K hK=>?_);go_simp;first|(refine hK _ ?_;clear hK K)|(apply Exists.intro;refine⟨fun _=>?_,hK _ ?_⟩;(first|(go_at_call 139;first|with_reducible exact k1.out _|with_reducible exact k2.out _)|(go_at_call 157;with_reducible exact k3.out _));clear hK K))
  refine rq0 fun nq osq=>?_
  try simp only[Act.put,setA]
  try dsimp only
  go_wp2
  all_goals go_ret
  all_goals refine Ret.mk' (ret_bool ?_) gw
  all_goals (rw[Bool.eq_iff_iff];simp;omega)
 ·have h1:(t != 0)=true:=by simpa using h0
  go_enter Tryz.func160,Tryz.ntmps160
  go_wp2_with fail
  refine wp_region_qas 8 [] [] hm (h:=?_)
  repeat (refine wpSteady_step (fun K hK=>?_);go_simp;first|(refine hK _ ?_;clear hK K)|(apply Exists.intro;refine⟨fun _=>?_,hK _ ?_⟩;(first|(go_at_call 139;first|with_reducible exact k1.out _|with_reducible exact k2.out _)|(go_at_call 157;with_reducible exact k3.out _));clear hK K))
  refine rq0 fun nq osq=>?_
  try simp only[Act.put,setA]
  try dsimp only
  go_wp2_with fail
  go_ret
  exact Ret.mk' (ret_bool (by simp[h0])) gw
theorem p1Crosses_v (a b c d:Pt)(r:Bool)(w:World)(ha:a.ok=true)(hb:b.ok=true)(hc:c.ok=true)(hd:d.ok=true)(h:meetB a b c d=r) :
  Calls Tryz.prog 171 #[pt a.1 a.2,pt b.1 b.2,pt c.1 c.2,pt d.1 d.2] w (Ret w (.bool r)):=by
 have hm:=hmix
 obtain⟨o1,g1⟩:∃o,onB a c d=o:=⟨_,rfl⟩
 obtain⟨o2,g2⟩:∃o,onB b c d=o:=⟨_,rfl⟩
 obtain⟨o3,g3⟩:∃o,onB c a b=o:=⟨_,rfl⟩
 obtain⟨o4,g4⟩:∃o,onB d a b=o:=⟨_,rfl⟩
 have l1:=hide (fun W=>p1Lie_v a c d o1 W ha hc hd g1)
 have l2:=hide (fun W=>p1Lie_v b c d o2 W hb hc hd g2)
 have l3:=hide (fun W=>p1Lie_v c a b o3 W hc ha hb g3)
 have l4:=hide (fun W=>p1Lie_v d a b o4 W hd ha hb g4)
 have m1:=hide (fun W=>rMinus_v a b W ha hb)
 have m2:=hide (fun W=>rMinus_v a c W ha hc)
 have m3:=hide (fun W=>rMinus_v a d W ha hd)
 have m4:=hide (fun W=>rMinus_v c d W hc hd)
 have m5:=hide (fun W=>rMinus_v c a W hc ha)
 have m6:=hide (fun W=>rMinus_v c b W hc hb)
 have x1:=hide (fun W=>p1Cross_v a b c _ W ha hb hc rfl)
 have x2:=hide (fun W=>p1Cross_v a b d _ W ha hb hd rfl)
 have x3:=hide (fun W=>p1Cross_v c d a _ W hc hd ha rfl)
 have x4:=hide (fun W=>p1Cross_v c d b _ W hc hd hb rfl)
 have s1:=hide (fun W=>rSign_any (cr a b c) W)
 have s2:=hide (fun W=>rSign_any (cr a b d) W)
 have s3:=hide (fun W=>rSign_any (cr c d a) W)
 have s4:=hide (fun W=>rSign_any (cr c d b) W)
 have b12:=mul_sg (tn_bd a b c) (tn_bd a b d)
 have b34:=mul_sg (tn_bd c d a) (tn_bd c d b)
 unfold meetB cutB at h
 rw[g1,g2,g3,g4] at h
 unfold tn at h b12 b34
 generalize cr a b c=q1 at *
 generalize cr a b d=q2 at *
 generalize cr c d a=q3 at *
 generalize cr c d b=q4 at *
 generalize sg q1=t1 at *
 generalize sg q2=t2 at *
 generalize sg q3=t3 at *
 generalize sg q4=t4 at *
 have e12:IntKind.i64.wrap (t1*t2)=t1*t2:=by unfold IntKind.wrap;simp[IntKind.bits,IntKind.signed];omega
 have e34:IntKind.i64.wrap (t3*t4)=t3*t4:=by unfold IntKind.wrap;simp[IntKind.bits,IntKind.signed];omega
 obtain⟨a1,a2⟩:=a
 obtain⟨b1,b2⟩:=b
 obtain⟨c1,c2⟩:=c
 obtain⟨d1,d2⟩:=d
 clear g1 g2 g3 g4 ha hb hc hd
 dsimp only at *
 subst h
 have hoc:o1=true∨(o1=false∧o2=true)∨(o1=false∧o2=false∧o3=true)∨(o1=false∧o2=false∧o3=false∧o4=true)∨(o1=false∧o2=false∧o3=false∧o4=false):=by
  cases o1<;>cases o2<;>cases o3<;>cases o4<;>simp
 rcases hoc with rfl|⟨rfl,rfl⟩|⟨rfl,rfl,rfl⟩|⟨rfl,rfl,rfl,rfl⟩|⟨rfl,rfl,rfl,rfl⟩
 any_goals
  simp only[Bool.or_true,Bool.true_or]
  go_enter Tryz.func171,Tryz.ntmps171
  go_wp2_with (first|(go_at_call 160;with_reducible refine crv (l1.out _) fun _ _=>?_;dsimp only)|(go_at_call 160;with_reducible refine crv (l2.out _) fun _ _=>?_;dsimp only)|(go_at_call 160;with_reducible refine crv (l3.out _) fun _ _=>?_;dsimp only)|(go_at_call 160;with_reducible refine crv (l4.out _) fun _ _=>?_;dsimp only))
  go_ret
  exact Ret.mk' rfl gw
 simp only[Bool.or_false]
 obtain⟨v1,hv1⟩:∃z,b1-a1=z:=⟨_,rfl⟩
 obtain⟨v2,hv2⟩:∃z,b2-a2=z:=⟨_,rfl⟩
 obtain⟨v3,hv3⟩:∃z,c1-a1=z:=⟨_,rfl⟩
 obtain⟨v4,hv4⟩:∃z,c2-a2=z:=⟨_,rfl⟩
 obtain⟨v5,hv5⟩:∃z,d1-a1=z:=⟨_,rfl⟩
 obtain⟨v6,hv6⟩:∃z,d2-a2=z:=⟨_,rfl⟩
 obtain⟨v7,hv7⟩:∃z,d1-c1=z:=⟨_,rfl⟩
 obtain⟨v8,hv8⟩:∃z,d2-c2=z:=⟨_,rfl⟩
 obtain⟨v9,hv9⟩:∃z,a1-c1=z:=⟨_,rfl⟩
 obtain⟨v10,hv10⟩:∃z,a2-c2=z:=⟨_,rfl⟩
 obtain⟨v11,hv11⟩:∃z,b1-c1=z:=⟨_,rfl⟩
 obtain⟨v12,hv12⟩:∃z,b2-c2=z:=⟨_,rfl⟩
 simp only[hv1,hv2,hv3,hv4,hv5,hv6,hv7,hv8,hv9,hv10,hv11,hv12] at m1 m2 m3 m4 m5 m6 x1 x2 x3 x4
 clear hv1 hv2 hv3 hv4 hv5 hv6 hv7 hv8 hv9 hv10 hv11 hv12
 go_enter Tryz.func171,Tryz.ntmps171
 go_wp2_with (first|(go_at_call 160;with_reducible refine crv (l1.out _) fun _ _=>?_;dsimp only)|(go_at_call 160;with_reducible refine crv (l2.out _) fun _ _=>?_;dsimp only)|(go_at_call 160;with_reducible refine crv (l3.out _) fun _ _=>?_;dsimp only)|(go_at_call 160;with_reducible refine crv (l4.out _) fun _ _=>?_;dsimp only))
 refine wp_region_qas 18 [] [] hm (h:=?_)
 repeat (refine wpSteady_step (fun K hK=>?_);go_simp;first|(refine hK _ ?_;clear hK K)|(apply Exists.intro;refine⟨fun _=>?_,hK _ ?_⟩;(first|(go_at_call 139;first|with_reducible exact m1.out _|with_reducible exact m2.out _|with_reducible exact m3.out _)|(go_at_call 157;first|with_reducible exact x1.out _|with_reducible exact x2.out _)|(go_at_call 170;first|with_reducible exact s1.out _|with_reducible exact s2.out _));clear hK K))
 refine rq0 fun nq osq=>?_
 try simp only[Act.put,setA]
 try dsimp only
 go_wp2_with fail
 refine wp_region_qas 18 [] [] hm (h:=?_)
 repeat (refine wpSteady_step (fun K hK=>?_);go_simp;first|(refine hK _ ?_;clear hK K)|(apply Exists.intro;refine⟨fun _=>?_,hK _ ?_⟩;(first|(go_at_call 139;first|with_reducible exact m4.out _|with_reducible exact m5.out _|with_reducible exact m6.out _)|(go_at_call 157;first|with_reducible exact x3.out _|with_reducible exact x4.out _)|(go_at_call 170;first|with_reducible exact s3.out _|with_reducible exact s4.out _));clear hK K))
 refine rq0 fun nq osq=>?_
 try simp only[Act.put,setA]
 try dsimp only
 by_cases y1:t1*t2<0
 ·by_cases y2:t3*t4<0
  ·go_wp2_with fail
   go_ret
   exact Ret.mk' (ret_bool (by simp[y1,y2])) gw
  ·go_wp2_with fail
   go_ret
   exact Ret.mk' (ret_bool (by simp[y1,y2])) gw
 ·go_wp2_with fail
  go_ret
  exact Ret.mk' (ret_bool (by simp;intro h;omega)) gw
set_option maxHeartbeats 4000000
set_option maxRecDepth 100000
/-- A number as a wide one. -/
abbrev wdV (n:Int):Value:=.agg #[.int .i64 (n / 17592186044416),.int .i64 (n%17592186044416)]
theorem mul22 {a b:Int}(ha:0≤a∧a<4194304)(hb:0≤b∧b<4194304):0≤a*b∧a*b≤17592177655809:=by
 have h1:=Int.mul_nonneg ha.1 hb.1
 have h2:=Int.mul_le_mul (show a≤4194303 by omega) (show b≤4194303 by omega) hb.1 (by omega)
 omega
theorem p1Times_v (x y:Int)(w:World)(hx:0≤x∧x<17592186044416)(hy:0≤y∧y<17592186044416) :
  Calls Tryz.prog 159 #[.int .i64 x,.int .i64 y] w (Ret w (wdV (x*y))):=by
 obtain⟨xh,hxh⟩:∃a,x / 4194304=a:=⟨_,rfl⟩
 obtain⟨xl,hxl⟩:∃a,x%4194304=a:=⟨_,rfl⟩
 obtain⟨yh,hyh⟩:∃a,y / 4194304=a:=⟨_,rfl⟩
 obtain⟨yl,hyl⟩:∃a,y%4194304=a:=⟨_,rfl⟩
 have t1:x.tdiv 4194304=xh:=by rw[Int.tdiv_eq_ediv_of_nonneg hx.1];exact hxh
 have t2:x.tmod 4194304=xl:=by rw[Int.tmod_eq_emod_of_nonneg hx.1];exact hxl
 have t3:y.tdiv 4194304=yh:=by rw[Int.tdiv_eq_ediv_of_nonneg hy.1];exact hyh
 have t4:y.tmod 4194304=yl:=by rw[Int.tmod_eq_emod_of_nonneg hy.1];exact hyl
 have b1:0≤xh∧xh<4194304:=by omega
 have b2:0≤xl∧xl<4194304:=by omega
 have b3:0≤yh∧yh<4194304:=by omega
 have b4:0≤yl∧yl<4194304:=by omega
 have e1:x=xh*4194304+xl:=by omega
 have e2:y=yh*4194304+yl:=by omega
 have cA:=mul22 b1 b4
 have cB:=mul22 b2 b3
 have cC:=mul22 b2 b4
 have cE:=mul22 b1 b3
 have hid:x*y=xh*yh*17592186044416+(xh*yl+xl*yh)*4194304+xl*yl:=by
  rw[e1,e2]
  grind
 obtain⟨A,hA⟩:∃a,xh*yl=a:=⟨_,rfl⟩
 obtain⟨B,hB⟩:∃a,xl*yh=a:=⟨_,rfl⟩
 obtain⟨C,hC⟩:∃a,xl*yl=a:=⟨_,rfl⟩
 obtain⟨E,hE⟩:∃a,xh*yh=a:=⟨_,rfl⟩
 rw[hA] at cA hid
 rw[hB] at cB hid
 rw[hC] at cC hid
 rw[hE] at cE hid
 obtain⟨z,hz⟩:∃z,x*y=z:=⟨_,rfl⟩
 rw[hz] at hid ⊢
 obtain⟨q,hq⟩:∃a,(A+B) / 4194304=a:=⟨_,rfl⟩
 obtain⟨m,hm0⟩:∃a,(A+B)%4194304=a:=⟨_,rfl⟩
 have t5:(A+B).tdiv 4194304=q:=by rw[Int.tdiv_eq_ediv_of_nonneg (by omega)];exact hq
 have t6:(A+B).tmod 4194304=m:=by rw[Int.tmod_eq_emod_of_nonneg (by omega)];exact hm0
 have bq:0≤q∧q<8388608:=by omega
 have bm:0≤m∧m<4194304:=by omega
 obtain⟨L,hL⟩:∃a,C+m*4194304=a:=⟨_,rfl⟩
 have bL:0≤L∧L<40000000000000:=by omega
 obtain⟨lq,hlq⟩:∃a,L / 17592186044416=a:=⟨_,rfl⟩
 obtain⟨lr,hlr⟩:∃a,L%17592186044416=a:=⟨_,rfl⟩
 have t7:L.tdiv 17592186044416=lq:=by rw[Int.tdiv_eq_ediv_of_nonneg bL.1];exact hlq
 have t8:L.tmod 17592186044416=lr:=by rw[Int.tmod_eq_emod_of_nonneg bL.1];exact hlr
 have r1:z / 17592186044416=E+q+lq:=by omega
 have r2:z%17592186044416=lr:=by omega
 have bl:(0≤lq∧lq<4)∧(0≤lr∧lr<17592186044416):=by omega
 rw[show wdV z=.agg #[.int .i64 (E+q+lq),.int .i64 lr] by unfold wdV;rw[r1,r2]]
 clear hid hz hxh hxl hyh hyl e1 e2 r1 r2
 go_enter Tryz.func159,Tryz.ntmps159
 have hm:=hmix
 go_wp2_with fail
 refine wp_region_qas 16 [] [] hm (h:=?_)
 repeat (refine wpSteady_step (fun K hK=>?_);go_simp;refine hK _ ?_;clear hK K)
 refine rq0 fun nq osq=>?_
 try simp only[Act.put,setA]
 try dsimp only
 go_wp2_with fail
 refine wp_region_qas 14 [] [] hm (h:=?_)
 repeat (refine wpSteady_step (fun K hK=>?_);go_simp;refine hK _ ?_;clear hK K)
 refine rq0 fun nq osq=>?_
 try simp only[Act.put,setA]
 try dsimp only
 go_wp2_with fail
 refine wp_region_qas 19 [] [] hm (h:=?_)
 repeat (refine wpSteady_step (fun K hK=>?_);go_simp;refine hK _ ?_;clear hK K)
 refine rq0 fun nq osq=>?_
 try simp only[Act.put,setA]
 try dsimp only
 go_wp2
 refine bodyPost_ret (v:=.agg #[.int .i64 (E+q+lq),.int .i64 lr]) (by simp[results,Tryz.results159,go_sem];rw[hA,hB,hE,hq,hm0,hL,hlq,hlr];exact⟨rfl,rfl⟩) rfl ?_
 exact Ret.mk' rfl gw
theorem wd_le {m n a b d e:Int}(h1:m / 17592186044416=a)(h2:m%17592186044416=b)(h3:n / 17592186044416=d)(h4:n%17592186044416=e):(m≤n↔a<d∨(a=d∧b≤e)):=by omega
theorem p1Most_v (m n:Int)(r:Bool)(w:World)(h:decide (m≤n)=r) :
  Calls Tryz.prog 158 #[wdV m,wdV n] w (Ret w (.bool r)):=by
 unfold wdV
 obtain⟨a,ha⟩:∃a,m / 17592186044416=a:=⟨_,rfl⟩
 obtain⟨b,hb⟩:∃a,m%17592186044416=a:=⟨_,rfl⟩
 obtain⟨d,hd⟩:∃a,n / 17592186044416=a:=⟨_,rfl⟩
 obtain⟨e,he⟩:∃a,n%17592186044416=a:=⟨_,rfl⟩
 rw[show decide (m≤n)=decide (a<d∨(a=d∧b≤e)) from decide_eq_decide.2 (wd_le ha hb hd he)] at h
 rw[ha,hb,hd,he]
 subst h
 clear ha hb hd he
 by_cases h1:a<d
 ·go_enter Tryz.func158,Tryz.ntmps158
  go_wp2
  all_goals go_ret
  all_goals exact Ret.mk' (ret_bool (by simp[h1])) gw
 ·by_cases h2:a=d
  ·subst h2
   go_enter Tryz.func158,Tryz.ntmps158
   go_wp2
   all_goals go_ret
   all_goals exact Ret.mk' (ret_bool (by simp)) gw
  ·have h3:(a==d)=false:=by simpa using h2
   go_enter Tryz.func158,Tryz.ntmps158
   go_wp2
   all_goals go_ret
   all_goals exact Ret.mk' (ret_bool (by simp[h1,h2])) gw
theorem dt_flip (p b:Pt):dt p b b=dt b p p:=by unfold dt;grind
theorem abs_max (c:Int):((c.natAbs:Nat):Int)=max c (-c):=by omega
theorem p1Within_v (p a b:Pt)(d:Int)(r:Bool)(w:World)(hp:p.ok=true)(ha:a.ok=true)(hb:b.ok=true)(hd:0≤d∧d≤3000000)(h:nearB p a b d=r) :
  Calls Tryz.prog 118 #[pt p.1 p.2,pt a.1 a.2,pt b.1 b.2,.int .i64 d] w (Ret w (.bool r)):=by
 have hm:=hmix
 have m1:=hide (fun W=>rMinus_v a b W ha hb)
 have m2:=hide (fun W=>rMinus_v a p W ha hp)
 have d1:=hide (fun W=>p1Dot_v a b b _ W ha hb hb rfl)
 have d2:=hide (fun W=>p1Dot_v a b p _ W ha hb hp rfl)
 have d3:=hide (fun W=>p1Dot_v a p p _ W ha hp hp rfl)
 have s1:=hide (fun W=>p1Square_v p b _ W hp hb rfl)
 have x1:=hide (fun W=>p1Cross_v a b p _ W ha hb hp rfl)
 have bL:=dt_bd ha hb hb
 have nL:0≤dt a b b:=by
  unfold dt
  have h1:=sqnn (b.1-a.1)
  have h2:=sqnn (b.2-a.2)
  omega
 have bF:=dt_bd ha hb hp
 have bW:=dt_bd ha hp hp
 have bS:=dt_bd hp hb hb
 have bC:=cr_bd ha hb hp
 have hD:=mul_bd (a:=d) (b:=d) 3000000 3000000 (by omega) (by omega)
 have nD:0≤d*d:=Int.mul_nonneg hd.1 hd.1
 unfold nearB sqr at h
 rw[←dt_flip p b] at h
 generalize dt a b b=L at *
 generalize dt a b p=F at *
 generalize dt a p p=X at *
 generalize dt p b b=S at *
 generalize cr a b p=C at *
 obtain⟨D,hDD⟩:∃z,d*d=z:=⟨_,rfl⟩
 rw[hDD] at h hD nD
 obtain⟨p1,p2⟩:=p
 obtain⟨a1,a2⟩:=a
 obtain⟨b1,b2⟩:=b
 dsimp only at m1 m2 d1 d2 d3 s1 x1 ⊢
 obtain⟨v1,hv1⟩:∃z,b1-a1=z:=⟨_,rfl⟩
 obtain⟨v2,hv2⟩:∃z,b2-a2=z:=⟨_,rfl⟩
 obtain⟨w1,hw1⟩:∃z,p1-a1=z:=⟨_,rfl⟩
 obtain⟨w2,hw2⟩:∃z,p2-a2=z:=⟨_,rfl⟩
 rw[hv1,hv2] at m1 d1 d2 x1
 rw[hw1,hw2] at m2 d2 d3 x1
 clear hp ha hb hv1 hv2 hw1 hw2
 by_cases c1:F≤0
 ·rw[if_pos c1] at h
  dsimp only at h
  rw[Int.mul_one,Int.mul_one] at h
  subst h
  go_enter Tryz.func118,Tryz.ntmps118
  go_wp2_with (first|(go_at_call 139;with_reducible refine crv (m1.out _) fun _ _=>?_;dsimp only)|(go_at_call 139;with_reducible refine crv (m2.out _) fun _ _=>?_;dsimp only)|(go_at_call 138;with_reducible refine crv (d1.out _) fun _ _=>?_;dsimp only)|(go_at_call 138;with_reducible refine crv (d2.out _) fun _ _=>?_;dsimp only)|(go_at_call 138;with_reducible refine crv (d3.out _) fun _ _=>?_;dsimp only)|(go_at_call 88;with_reducible refine crv (s1.out _) fun _ _=>?_;dsimp only)|(go_at_call 157;with_reducible refine crv (x1.out _) fun _ _=>?_;dsimp only))
  all_goals go_ret
  all_goals refine Ret.mk' (ret_bool ?_) gw
  all_goals first|rfl|(rw[Bool.eq_iff_iff];simp;done)|(rw[Bool.eq_iff_iff];simp;omega)
 ·rw[if_neg c1] at h
  by_cases c2:L≤F
  ·rw[if_pos c2] at h
   dsimp only at h
   rw[Int.mul_one,Int.mul_one] at h
   subst h
   go_enter Tryz.func118,Tryz.ntmps118
   go_wp2_with (first|(go_at_call 139;with_reducible refine crv (m1.out _) fun _ _=>?_;dsimp only)|(go_at_call 139;with_reducible refine crv (m2.out _) fun _ _=>?_;dsimp only)|(go_at_call 138;with_reducible refine crv (d1.out _) fun _ _=>?_;dsimp only)|(go_at_call 138;with_reducible refine crv (d2.out _) fun _ _=>?_;dsimp only)|(go_at_call 138;with_reducible refine crv (d3.out _) fun _ _=>?_;dsimp only)|(go_at_call 88;with_reducible refine crv (s1.out _) fun _ _=>?_;dsimp only)|(go_at_call 157;with_reducible refine crv (x1.out _) fun _ _=>?_;dsimp only))
   all_goals go_ret
   all_goals refine Ret.mk' (ret_bool ?_) gw
   all_goals first|rfl|(rw[Bool.eq_iff_iff];simp;done)|(rw[Bool.eq_iff_iff];simp;omega)
  ·rw[if_neg c2] at h
   dsimp only at h
   rw[abs_max] at h
   have hmx:max C (-C)*max C (-C)=C*C:=by
    rcases Int.le_total 0 C with g|g
    ·rw[Int.max_eq_left (by omega)]
    ·rw[Int.max_eq_right (by omega),Int.neg_mul_neg]
   rw[hmx] at h
   have t2:=hide (fun W=>p1Times_v D L W (by omega) (by omega))
   obtain⟨q1,hq1⟩:∃z,C*C=z:=⟨_,rfl⟩
   obtain⟨q2,hq2⟩:∃z,D*L=z:=⟨_,rfl⟩
   rw[hq1] at h
   have HQ1:=hide hq1
   rw[hq2] at t2 h
   have mo:=hide (fun W=>p1Most_v q1 q2 _ W rfl)
   subst h
   clear hq1 hq2 hmx
   rcases Int.lt_trichotomy C 0 with g|g|g
   ·have t1:=hide (fun W=>p1Times_v (-C) (-C) W (by omega) (by omega))
    rw[Int.neg_mul_neg,HQ1.out] at t1
    have g1:C < -C:=by omega
    have g2:C≤-C:=by omega
    have g3:¬ -C<C:=by omega
    have g4:¬ -C≤C:=by omega
    go_enter Tryz.func118,Tryz.ntmps118
    go_wp2_with (first|(first|(go_at_call 139;with_reducible refine crv (m1.out _) fun _ _=>?_;dsimp only)|(go_at_call 139;with_reducible refine crv (m2.out _) fun _ _=>?_;dsimp only)|(go_at_call 138;with_reducible refine crv (d1.out _) fun _ _=>?_;dsimp only)|(go_at_call 138;with_reducible refine crv (d2.out _) fun _ _=>?_;dsimp only)|(go_at_call 138;with_reducible refine crv (d3.out _) fun _ _=>?_;dsimp only)|(go_at_call 88;with_reducible refine crv (s1.out _) fun _ _=>?_;dsimp only)|(go_at_call 157;with_reducible refine crv (x1.out _) fun _ _=>?_;dsimp only))|(go_at_call 159;with_reducible refine crv (t1.out _) fun _ _=>?_;dsimp only)|(go_at_call 159;with_reducible refine crv (t2.out _) fun _ _=>?_;dsimp only)|(go_at_call 158;with_reducible refine crv (mo.out _) fun _ _=>?_;dsimp only))
    go_ret
    exact Ret.mk' (ret_bool rfl) gw
   ·subst g
    have t1:=hide (fun W=>p1Times_v 0 0 W (by omega) (by omega))
    rw[HQ1.out] at t1
    go_enter Tryz.func118,Tryz.ntmps118
    go_wp2_with (first|(first|(go_at_call 139;with_reducible refine crv (m1.out _) fun _ _=>?_;dsimp only)|(go_at_call 139;with_reducible refine crv (m2.out _) fun _ _=>?_;dsimp only)|(go_at_call 138;with_reducible refine crv (d1.out _) fun _ _=>?_;dsimp only)|(go_at_call 138;with_reducible refine crv (d2.out _) fun _ _=>?_;dsimp only)|(go_at_call 138;with_reducible refine crv (d3.out _) fun _ _=>?_;dsimp only)|(go_at_call 88;with_reducible refine crv (s1.out _) fun _ _=>?_;dsimp only)|(go_at_call 157;with_reducible refine crv (x1.out _) fun _ _=>?_;dsimp only))|(go_at_call 159;with_reducible refine crv (t1.out _) fun _ _=>?_;dsimp only)|(go_at_call 159;with_reducible refine crv (t2.out _) fun _ _=>?_;dsimp only)|(go_at_call 158;with_reducible refine crv (mo.out _) fun _ _=>?_;dsimp only))
    go_ret
    exact Ret.mk' (ret_bool rfl) gw
   ·have t1:=hide (fun W=>p1Times_v C C W (by omega) (by omega))
    rw[HQ1.out] at t1
    have g1:¬ C < -C:=by omega
    have g2:¬ C≤-C:=by omega
    have g3:-C<C:=by omega
    have g4:-C≤C:=by omega
    go_enter Tryz.func118,Tryz.ntmps118
    go_wp2_with (first|(first|(go_at_call 139;with_reducible refine crv (m1.out _) fun _ _=>?_;dsimp only)|(go_at_call 139;with_reducible refine crv (m2.out _) fun _ _=>?_;dsimp only)|(go_at_call 138;with_reducible refine crv (d1.out _) fun _ _=>?_;dsimp only)|(go_at_call 138;with_reducible refine crv (d2.out _) fun _ _=>?_;dsimp only)|(go_at_call 138;with_reducible refine crv (d3.out _) fun _ _=>?_;dsimp only)|(go_at_call 88;with_reducible refine crv (s1.out _) fun _ _=>?_;dsimp only)|(go_at_call 157;with_reducible refine crv (x1.out _) fun _ _=>?_;dsimp only))|(go_at_call 159;with_reducible refine crv (t1.out _) fun _ _=>?_;dsimp only)|(go_at_call 159;with_reducible refine crv (t2.out _) fun _ _=>?_;dsimp only)|(go_at_call 158;with_reducible refine crv (mo.out _) fun _ _=>?_;dsimp only))
    go_ret
    exact Ret.mk' (ret_bool rfl) gw
theorem p3nearer_v (p a b:Pt)(d:Int)(r:Bool)(w:World)(hp:p.ok=true)(ha:a.ok=true)(hb:b.ok=true)(hd:0≤d∧d≤3000000)(h:(!apartB p a b d)=r) :
  Calls Tryz.prog 120 #[pt p.1 p.2,pt a.1 a.2,pt b.1 b.2,.int .i64 d] w (Ret w (.bool r)):=by
 have hm:=hmix
 have m1:=hide (fun W=>rMinus_v a b W ha hb)
 have m2:=hide (fun W=>rMinus_v a p W ha hp)
 have d1:=hide (fun W=>p1Dot_v a b b _ W ha hb hb rfl)
 have d2:=hide (fun W=>p1Dot_v a b p _ W ha hb hp rfl)
 have d3:=hide (fun W=>p1Dot_v a p p _ W ha hp hp rfl)
 have s1:=hide (fun W=>p1Square_v p b _ W hp hb rfl)
 have x1:=hide (fun W=>p1Cross_v a b p _ W ha hb hp rfl)
 have bL:=dt_bd ha hb hb
 have nL:0≤dt a b b:=by
  unfold dt
  have h1:=sqnn (b.1-a.1)
  have h2:=sqnn (b.2-a.2)
  omega
 have bF:=dt_bd ha hb hp
 have bW:=dt_bd ha hp hp
 have bS:=dt_bd hp hb hb
 have bC:=cr_bd ha hb hp
 have hD:=mul_bd (a:=d) (b:=d) 3000000 3000000 (by omega) (by omega)
 have nD:0≤d*d:=Int.mul_nonneg hd.1 hd.1
 unfold apartB sqr at h
 rw[←dt_flip p b] at h
 generalize dt a b b=L at *
 generalize dt a b p=F at *
 generalize dt a p p=X at *
 generalize dt p b b=S at *
 generalize cr a b p=C at *
 obtain⟨D,hDD⟩:∃z,d*d=z:=⟨_,rfl⟩
 rw[hDD] at h hD nD
 obtain⟨p1,p2⟩:=p
 obtain⟨a1,a2⟩:=a
 obtain⟨b1,b2⟩:=b
 dsimp only at m1 m2 d1 d2 d3 s1 x1 ⊢
 obtain⟨v1,hv1⟩:∃z,b1-a1=z:=⟨_,rfl⟩
 obtain⟨v2,hv2⟩:∃z,b2-a2=z:=⟨_,rfl⟩
 obtain⟨w1,hw1⟩:∃z,p1-a1=z:=⟨_,rfl⟩
 obtain⟨w2,hw2⟩:∃z,p2-a2=z:=⟨_,rfl⟩
 rw[hv1,hv2] at m1 d1 d2 x1
 rw[hw1,hw2] at m2 d2 d3 x1
 clear hp ha hb hv1 hv2 hw1 hw2
 by_cases c1:F≤0
 ·rw[if_pos c1] at h
  dsimp only at h
  rw[Int.mul_one,Int.mul_one] at h
  subst h
  go_enter Tryz.func120,Tryz.ntmps120
  go_wp2_with (first|(go_at_call 139;with_reducible refine crv (m1.out _) fun _ _=>?_;dsimp only)|(go_at_call 139;with_reducible refine crv (m2.out _) fun _ _=>?_;dsimp only)|(go_at_call 138;with_reducible refine crv (d1.out _) fun _ _=>?_;dsimp only)|(go_at_call 138;with_reducible refine crv (d2.out _) fun _ _=>?_;dsimp only)|(go_at_call 138;with_reducible refine crv (d3.out _) fun _ _=>?_;dsimp only)|(go_at_call 88;with_reducible refine crv (s1.out _) fun _ _=>?_;dsimp only)|(go_at_call 157;with_reducible refine crv (x1.out _) fun _ _=>?_;dsimp only))
  all_goals go_ret
  all_goals refine Ret.mk' (ret_bool ?_) gw
  all_goals first|rfl|(rw[Bool.eq_iff_iff];simp;done)|(rw[Bool.eq_iff_iff];simp;omega)
 ·rw[if_neg c1] at h
  by_cases c2:L≤F
  ·rw[if_pos c2] at h
   dsimp only at h
   rw[Int.mul_one,Int.mul_one] at h
   subst h
   go_enter Tryz.func120,Tryz.ntmps120
   go_wp2_with (first|(go_at_call 139;with_reducible refine crv (m1.out _) fun _ _=>?_;dsimp only)|(go_at_call 139;with_reducible refine crv (m2.out _) fun _ _=>?_;dsimp only)|(go_at_call 138;with_reducible refine crv (d1.out _) fun _ _=>?_;dsimp only)|(go_at_call 138;with_reducible refine crv (d2.out _) fun _ _=>?_;dsimp only)|(go_at_call 138;with_reducible refine crv (d3.out _) fun _ _=>?_;dsimp only)|(go_at_call 88;with_reducible refine crv (s1.out _) fun _ _=>?_;dsimp only)|(go_at_call 157;with_reducible refine crv (x1.out _) fun _ _=>?_;dsimp only))
   all_goals go_ret
   all_goals refine Ret.mk' (ret_bool ?_) gw
   all_goals first|rfl|(rw[Bool.eq_iff_iff];simp;done)|(rw[Bool.eq_iff_iff];simp;omega)
  ·rw[if_neg c2] at h
   dsimp only at h
   rw[abs_max] at h
   have hmx:max C (-C)*max C (-C)=C*C:=by
    rcases Int.le_total 0 C with g|g
    ·rw[Int.max_eq_left (by omega)]
    ·rw[Int.max_eq_right (by omega),Int.neg_mul_neg]
   rw[hmx] at h
   have t2:=hide (fun W=>p1Times_v D L W (by omega) (by omega))
   obtain⟨q1,hq1⟩:∃z,C*C=z:=⟨_,rfl⟩
   obtain⟨q2,hq2⟩:∃z,D*L=z:=⟨_,rfl⟩
   rw[hq1] at h
   have HQ1:=hide hq1
   rw[hq2] at t2 h
   have mo:=hide (fun W=>p1Most_v q2 q1 _ W rfl)
   subst h
   clear hq1 hq2 hmx
   rcases Int.lt_trichotomy C 0 with g|g|g
   ·have t1:=hide (fun W=>p1Times_v (-C) (-C) W (by omega) (by omega))
    rw[Int.neg_mul_neg,HQ1.out] at t1
    have g1:C < -C:=by omega
    have g2:C≤-C:=by omega
    have g3:¬ -C<C:=by omega
    have g4:¬ -C≤C:=by omega
    go_enter Tryz.func120,Tryz.ntmps120
    go_wp2_with (first|(first|(go_at_call 139;with_reducible refine crv (m1.out _) fun _ _=>?_;dsimp only)|(go_at_call 139;with_reducible refine crv (m2.out _) fun _ _=>?_;dsimp only)|(go_at_call 138;with_reducible refine crv (d1.out _) fun _ _=>?_;dsimp only)|(go_at_call 138;with_reducible refine crv (d2.out _) fun _ _=>?_;dsimp only)|(go_at_call 138;with_reducible refine crv (d3.out _) fun _ _=>?_;dsimp only)|(go_at_call 88;with_reducible refine crv (s1.out _) fun _ _=>?_;dsimp only)|(go_at_call 157;with_reducible refine crv (x1.out _) fun _ _=>?_;dsimp only))|(go_at_call 159;with_reducible refine crv (t1.out _) fun _ _=>?_;dsimp only)|(go_at_call 159;with_reducible refine crv (t2.out _) fun _ _=>?_;dsimp only)|(go_at_call 158;with_reducible refine crv (mo.out _) fun _ _=>?_;dsimp only))
    go_ret
    exact Ret.mk' (ret_bool rfl) gw
   ·subst g
    have t1:=hide (fun W=>p1Times_v 0 0 W (by omega) (by omega))
    rw[HQ1.out] at t1
    go_enter Tryz.func120,Tryz.ntmps120
    go_wp2_with (first|(first|(go_at_call 139;with_reducible refine crv (m1.out _) fun _ _=>?_;dsimp only)|(go_at_call 139;with_reducible refine crv (m2.out _) fun _ _=>?_;dsimp only)|(go_at_call 138;with_reducible refine crv (d1.out _) fun _ _=>?_;dsimp only)|(go_at_call 138;with_reducible refine crv (d2.out _) fun _ _=>?_;dsimp only)|(go_at_call 138;with_reducible refine crv (d3.out _) fun _ _=>?_;dsimp only)|(go_at_call 88;with_reducible refine crv (s1.out _) fun _ _=>?_;dsimp only)|(go_at_call 157;with_reducible refine crv (x1.out _) fun _ _=>?_;dsimp only))|(go_at_call 159;with_reducible refine crv (t1.out _) fun _ _=>?_;dsimp only)|(go_at_call 159;with_reducible refine crv (t2.out _) fun _ _=>?_;dsimp only)|(go_at_call 158;with_reducible refine crv (mo.out _) fun _ _=>?_;dsimp only))
    go_ret
    exact Ret.mk' (ret_bool rfl) gw
   ·have t1:=hide (fun W=>p1Times_v C C W (by omega) (by omega))
    rw[HQ1.out] at t1
    have g1:¬ C < -C:=by omega
    have g2:¬ C≤-C:=by omega
    have g3:-C<C:=by omega
    have g4:-C≤C:=by omega
    go_enter Tryz.func120,Tryz.ntmps120
    go_wp2_with (first|(first|(go_at_call 139;with_reducible refine crv (m1.out _) fun _ _=>?_;dsimp only)|(go_at_call 139;with_reducible refine crv (m2.out _) fun _ _=>?_;dsimp only)|(go_at_call 138;with_reducible refine crv (d1.out _) fun _ _=>?_;dsimp only)|(go_at_call 138;with_reducible refine crv (d2.out _) fun _ _=>?_;dsimp only)|(go_at_call 138;with_reducible refine crv (d3.out _) fun _ _=>?_;dsimp only)|(go_at_call 88;with_reducible refine crv (s1.out _) fun _ _=>?_;dsimp only)|(go_at_call 157;with_reducible refine crv (x1.out _) fun _ _=>?_;dsimp only))|(go_at_call 159;with_reducible refine crv (t1.out _) fun _ _=>?_;dsimp only)|(go_at_call 159;with_reducible refine crv (t2.out _) fun _ _=>?_;dsimp only)|(go_at_call 158;with_reducible refine crv (mo.out _) fun _ _=>?_;dsimp only))
    go_ret
    exact Ret.mk' (ret_bool rfl) gw
set_option maxHeartbeats 8000000
set_option maxRecDepth 100000
theorem ord_neg {a b:Pt}:ord a b<0↔a.1<b.1∨(a.1=b.1∧a.2<b.2):=by
 unfold ord
 rcases sg_cases (a.1-b.1) with⟨h,e⟩|⟨h,e⟩|⟨h,e⟩<;>rw[e]<;>rcases sg_cases (a.2-b.2) with⟨h',e'⟩|⟨h',e'⟩|⟨h',e'⟩<;>(try rw[e'])<;>simp<;>omega
theorem p3less_v (a b:Pt)(r:Bool)(w:World)(h:decide (ord a b<0)=r) :
  Calls Tryz.prog 132 #[pt a.1 a.2,pt b.1 b.2] w (Ret w (.bool r)):=by
 have h':decide (a.1<b.1∨(a.1=b.1∧a.2<b.2))=r:=by rw[←h];exact (decide_eq_decide.2 ord_neg).symm
 clear h
 have h:=h'
 clear h'
 obtain⟨a1,a2⟩:=a
 obtain⟨b1,b2⟩:=b
 dsimp only at h ⊢
 subst h
 by_cases h1:a1<b1
 ·go_enter Tryz.func132,Tryz.ntmps132
  go_wp2
  all_goals go_ret
  all_goals exact Ret.mk' (ret_bool (by simp[h1])) gw
 ·by_cases h2:a1=b1
  ·subst h2
   go_enter Tryz.func132,Tryz.ntmps132
   go_wp2
   all_goals go_ret
   all_goals exact Ret.mk' (ret_bool (by simp)) gw
  ·have h3:(a1==b1)=false:=by simpa using h2
   go_enter Tryz.func132,Tryz.ntmps132
   go_wp2
   all_goals go_ret
   all_goals exact Ret.mk' (ret_bool (by simp[h1,h2])) gw
/-- A pair of edges, as the reference asks. -/
theorem pair_ref {ps:List Pt}{i k:Nat}(hk:i+2≤k):pairOk ps i k=(decide (i=0∧k+1=ps.length) || !meetB (cor ps i) (cor ps (i+1)) (cor ps k) (cor ps (k+1))):=by
 unfold pairOk
 rw[show decide (k≤i+1)=false by simp;omega,Bool.false_or]
theorem pair_low {ps:List Pt}{i k:Nat}(hk:k≤i+1):pairOk ps i k=true:=by
 unfold pairOk
 rw[show decide (k≤i+1)=true by simpa using hk,Bool.true_or]
theorem simple_no {ps:List Pt}{i k:Nat}(hi:i<ps.length)(hk:k<ps.length)(h:pairOk ps i k=false):simpleOf ps=false:=by
 unfold simpleOf
 rw[List.all_eq_false]
 refine⟨i,List.mem_range.2 hi,?_⟩
 rw[Bool.not_eq_true]
 unfold rowOk
 rw[List.all_eq_false]
 exact⟨k,List.mem_range.2 hk,by rw[h];simp⟩
theorem p3simple_v (ps:List Pt)(A:Option Addr)(c:Nat)(r:Bool)(w:World)(hr:Rd w w.heap.size 2 A (ps.map encD))(hl:ps.length≤100)(hok:ps.all Pt.ok=true)(h:simpleOf ps=r) :
  Calls Tryz.prog 134 #[.slice A ps.length c] w (Ret w (.bool r)):=by
 have hm:=hmix
 have HR:=hide hr
 have HOK:=hide hok
 have HS:=hide h
 clear hr hok h
 go_enter Tryz.func134,Tryz.ntmps134
 go_wp2_with fail
 go_loopw [4] (fun i wr=>∃m:Nat,m≤ps.length∧i=.int .i64 m∧Grew w wr∧AppG ((List.range m).all (rowOk ps)=true)) (fun i _=>ps.length-(intOf i).toNat)
 case atStart=>exact⟨0,by omega,rfl,gw,show (List.range 0).all _=true from rfl⟩
 case round =>
  obtain⟨m,hmm,rfl,hg,hall⟩:=hrel
  have HG:=hide hg
  have HA:=hide hall.stop
  clear hg hall
  obtain⟨Wz,hz⟩:∃z,z=wr:=⟨wr,rfl⟩
  subst hz
  by_cases hlt:m<ps.length
  ·go_wp2_with fail
   go_loopw [5] (fun k wr=>∃q:Nat,m+2≤q∧(q≤ps.length∨q=m+2)∧k=.int .i64 q∧Grew Wz wr∧AppG ((List.range q).all (pairOk ps m)=true)) (fun k _=>ps.length-(intOf k).toNat)
   case atStart=>exact⟨m+2,by omega,by omega,by go_num,gw,show (List.range (m+2)).all (pairOk ps m)=true from List.all_eq_true.2 fun j hj=>pair_low (by have:=List.mem_range.1 hj;omega)⟩
   case round =>
    obtain⟨q,hq2,hq,rfl,hg,hall⟩:=hrel
    have HG2:=hide hg
    have HA2:=hide hall.stop
    clear hg hall
    by_cases hlt2:q<ps.length
    ·obtain⟨a,ha⟩:∃a,cor ps m=a:=⟨_,rfl⟩
     obtain⟨b,hb⟩:∃a,cor ps (m+1)=a:=⟨_,rfl⟩
     obtain⟨d,hd⟩:∃a,cor ps q=a:=⟨_,rfl⟩
     obtain⟨e,he⟩:∃a,cor ps (q+1)=a:=⟨_,rfl⟩
     have oka:a.ok=true:=by rw[←ha];exact cor_ok HOK.out _
     have okb:b.ok=true:=by rw[←hb];exact cor_ok HOK.out _
     have okd:d.ok=true:=by rw[←hd];exact cor_ok HOK.out _
     have oke:e.ok=true:=by rw[←he];exact cor_ok HOK.out _
     have hpr:=pair_ref (ps:=ps) (i:=m) (k:=q) (by omega)
     rw[ha,hb,hd,he] at hpr
     have hpm:=cor_get hlt
     have hpq:=cor_get hlt2
     rw[ha] at hpm
     rw[hd] at hpq
     obtain⟨b1,off1,hA1,hb1,g0,g1⟩:=ptAt (HR.out.up (HG.out.trans HG2.out)) hpm
     obtain⟨b2,off2,hA2,hb2,g2,g3⟩:=ptAt (HR.out.up (HG.out.trans HG2.out)) hpq
     have hix1:=idx_run (cap:=c) Tryz.underlying51 Tryz.sizeOf26 hA1.out hlt
     have hix2:=idx_run (cap:=c) (k:=q) (len:=ps.length) Tryz.underlying51 Tryz.sizeOf26 hA2.out hlt2
     have kn1:=hide (fun W (hg:Grew w W)=>Next_v ps A c m b W (HR.out.up hg) (by omega) hlt hb)
     have kn2:=hide (fun W (hg:Grew w W)=>Next_v ps A c q e W (HR.out.up hg) (by omega) hlt2 he)
     obtain⟨v,hv⟩:∃v,meetB a b d e=v:=⟨_,rfl⟩
     have kc:=hide (fun W=>p1Crosses_v a b d e v W oka okb okd oke hv)
     rw[hv] at hpr
     have HPR:=hide hpr
     obtain⟨a1,a2⟩:=a
     obtain⟨b1',b2'⟩:=b
     obtain⟨d1,d2⟩:=d
     obtain⟨e1,e2⟩:=e
     dsimp only at g0 g1 g2 g3 kn1 kn2 kc
     clear ha hb hd he oka okb okd oke hpr hpm hpq hA1 hA2 hv
     have ewn:IntKind.i64.wrap ((ps.length:Int)-1)=(ps.length:Int)-1:=by unfold IntKind.wrap;simp[IntKind.bits,IntKind.signed];omega
     have hcase:(m=0∧q+1=ps.length)∨(0<m)∨(m=0∧q+1<ps.length):=by omega
     rcases hcase with⟨hm0,hqe⟩|hm0|⟨hm0,hqe⟩
     ·have hn1:¬ (q:Int)<(ps.length:Int)-1:=by omega
      have hn2:=decide_eq_false hn1
      have nm:¬ 0<m:=by omega
      have nm2:=decide_eq_false nm
      have hpt:pairOk ps m q=true:=by rw[HPR.out];simp[hqe,hm0]
      clear hm0 hqe
      have HPT:=hide hpt
      clear hpt
      go_wp2_with fail
      refine wp_region_qas 25 [] [] hm (h:=?_)
      repeat (refine wpSteady_step (fun K hK=>?_);go_simp;first|(refine hK _ ?_;clear hK K)|(apply Exists.intro;refine⟨fun _=>?_,hK _ ?_⟩;(first|(go_at_call 119;first|with_reducible exact kn1.out _ (HG.out.trans (HG2.out.trans gw))|with_reducible exact kn2.out _ (HG.out.trans (HG2.out.trans gw)))|(go_at_call 171;with_reducible exact kc.out _));clear hK K))
      refine rq0 fun nq osq=>?_
      try simp only[Act.put,setA]
      try dsimp only
      go_wp2_with fail
      go_roundw
      case rel=>exact⟨q+1,by omega,by omega,by go_num,HG2.out.trans gw,show (List.range (q+1)).all (pairOk ps m)=true from range_all_succ HA2.out HPT.out⟩
      case measure=>simp[intOf];omega
     ·cases v
      ·have hpt:pairOk ps m q=true:=by rw[HPR.out];simp
       have HPT:=hide hpt
       clear hpt
       go_wp2_with fail
       refine wp_region_qas 25 [] [] hm (h:=?_)
       repeat (refine wpSteady_step (fun K hK=>?_);go_simp;first|(refine hK _ ?_;clear hK K)|(apply Exists.intro;refine⟨fun _=>?_,hK _ ?_⟩;(first|(go_at_call 119;first|with_reducible exact kn1.out _ (HG.out.trans (HG2.out.trans gw))|with_reducible exact kn2.out _ (HG.out.trans (HG2.out.trans gw)))|(go_at_call 171;with_reducible exact kc.out _));clear hK K))
       refine rq0 fun nq osq=>?_
       try simp only[Act.put,setA]
       try dsimp only
       go_wp2_with fail
       go_roundw
       case rel=>exact⟨q+1,by omega,by omega,by go_num,HG2.out.trans gw,show (List.range (q+1)).all (pairOk ps m)=true from range_all_succ HA2.out HPT.out⟩
       case measure=>simp[intOf];omega
      ·have hpt:pairOk ps m q=false:=by rw[HPR.out];simp;omega
       obtain rfl:r=false:=by rw[←HS.out];exact simple_no hlt hlt2 hpt
       clear hpt
       go_wp2_with fail
       refine wp_region_qas 25 [] [] hm (h:=?_)
       repeat (refine wpSteady_step (fun K hK=>?_);go_simp;first|(refine hK _ ?_;clear hK K)|(apply Exists.intro;refine⟨fun _=>?_,hK _ ?_⟩;(first|(go_at_call 119;first|with_reducible exact kn1.out _ (HG.out.trans (HG2.out.trans gw))|with_reducible exact kn2.out _ (HG.out.trans (HG2.out.trans gw)))|(go_at_call 171;with_reducible exact kc.out _));clear hK K))
       refine rq0 fun nq osq=>?_
       try simp only[Act.put,setA]
       try dsimp only
       go_wp2_with fail
       go_ret
       exact Ret.mk' rfl (HG.out.trans (HG2.out.trans gw))
     ·have hn1:(q:Int)<(ps.length:Int)-1:=by omega
      have hn2:=decide_eq_true hn1
      have nm:¬ 0<m:=by omega
      have nm2:=decide_eq_false nm
      have HM0:=hide hm0
      clear hm0
      cases v
      ·have hpt:pairOk ps m q=true:=by rw[HPR.out];simp
       have HPT:=hide hpt
       clear hpt
       go_wp2_with fail
       refine wp_region_qas 25 [] [] hm (h:=?_)
       repeat (refine wpSteady_step (fun K hK=>?_);go_simp;first|(refine hK _ ?_;clear hK K)|(apply Exists.intro;refine⟨fun _=>?_,hK _ ?_⟩;(first|(go_at_call 119;first|with_reducible exact kn1.out _ (HG.out.trans (HG2.out.trans gw))|with_reducible exact kn2.out _ (HG.out.trans (HG2.out.trans gw)))|(go_at_call 171;with_reducible exact kc.out _));clear hK K))
       refine rq0 fun nq osq=>?_
       try simp only[Act.put,setA]
       try dsimp only
       go_wp2_with fail
       go_roundw
       case rel=>exact⟨q+1,by omega,by omega,by go_num,HG2.out.trans gw,show (List.range (q+1)).all (pairOk ps m)=true from range_all_succ HA2.out HPT.out⟩
       case measure=>simp[intOf];omega
      ·have hpt:pairOk ps m q=false:=by rw[HPR.out];simp;omega
       obtain rfl:r=false:=by rw[←HS.out];exact simple_no hlt hlt2 hpt
       clear hpt
       go_wp2_with fail
       refine wp_region_qas 25 [] [] hm (h:=?_)
       repeat (refine wpSteady_step (fun K hK=>?_);go_simp;first|(refine hK _ ?_;clear hK K)|(apply Exists.intro;refine⟨fun _=>?_,hK _ ?_⟩;(first|(go_at_call 119;first|with_reducible exact kn1.out _ (HG.out.trans (HG2.out.trans gw))|with_reducible exact kn2.out _ (HG.out.trans (HG2.out.trans gw)))|(go_at_call 171;with_reducible exact kc.out _));clear hK K))
       refine rq0 fun nq osq=>?_
       try simp only[Act.put,setA]
       try dsimp only
       go_wp2_with fail
       go_ret
       exact Ret.mk' rfl (HG.out.trans (HG2.out.trans gw))
    ·have hrow:rowOk ps m=true:=List.all_eq_true.2 fun j hj=>List.all_eq_true.1 HA2.out j (by have:=List.mem_range.1 hj;rw[List.mem_range];omega)
     have HROW:=hide hrow
     clear hrow
     have hn2:¬ (q:Int)<(ps.length:Int):=by omega
     go_wp2_with fail
     go_roundw
     case rel=>exact⟨m+1,by omega,by go_num,HG.out.trans (HG2.out.trans gw),show (List.range (m+1)).all (rowOk ps)=true from range_all_succ HA.out HROW.out⟩
     case measure=>simp[intOf];omega
  ·obtain rfl:m=ps.length:=by omega
   obtain rfl:r=true:=by rw[←HS.out];exact HA.out
   go_wp2_with fail
   go_ret
   exact Ret.mk' rfl (HG.out.trans gw)
theorem p3twice_v (ps:List Pt)(A:Option Addr)(c:Nat)(r:Int)(w:World)(hr:Rd w w.heap.size 2 A (ps.map encD))(hl:ps.length≤100)(hok:ps.all Pt.ok=true)(h:twiceOf ps=r) :
  Calls Tryz.prog 135 #[.slice A ps.length c] w (Ret w (.int .i64 r)):=by
 have hm:=hmix
 have HR:=hide hr
 have HOK:=hide hok
 have HS:=hide h
 clear hr hok h
 go_enter Tryz.func135,Tryz.ntmps135
 go_wp2_with fail
 go_loopw [3,4] (fun s i wr=>∃m:Nat,m≤ps.length∧i=.int .i64 m∧s=.int .i64 (sumI ps (List.range m))∧Grew w wr) (fun _ i _=>ps.length-(intOf i).toNat)
 case atStart=>exact⟨0,by omega,rfl,rfl,gw⟩
 case round =>
  obtain⟨m,hmm,rfl,rfl,hg⟩:=hrel
  have HG:=hide hg
  clear hg
  by_cases hlt:m<ps.length
  ·obtain⟨a,ha⟩:∃a,cor ps m=a:=⟨_,rfl⟩
   obtain⟨b,hb⟩:∃a,cor ps (m+1)=a:=⟨_,rfl⟩
   have oka:a.ok=true:=by rw[←ha];exact cor_ok HOK.out _
   have okb:b.ok=true:=by rw[←hb];exact cor_ok HOK.out _
   have hsn:=sumI_snoc ps (List.range m) m
   rw[←List.range_succ,ha,hb] at hsn
   have hbd:=sumI_bd HOK.out (List.range m)
   rw[List.length_range] at hbd
   have hcb:=crs2_bd oka okb
   have hpm:=cor_get hlt
   rw[ha] at hpm
   obtain⟨b1,off1,hA1,hb1,g0,g1⟩:=ptAt (HR.out.up HG.out) hpm
   have hix1:=idx_run (cap:=c) Tryz.underlying51 Tryz.sizeOf26 hA1.out hlt
   have kn:=hide (fun W (hg:Grew w W)=>Next_v ps A c m b W (HR.out.up hg) (by omega) hlt hb)
   have a':=ok_bd oka
   have b':=ok_bd okb
   have kc:=hide (fun W=>rCross_any a.1 a.2 b.1 b.2 W (by omega) (by omega) (by omega) (by omega))
   obtain⟨s,hs⟩:∃s,sumI ps (List.range m)=s:=⟨_,rfl⟩
   obtain⟨x,hx⟩:∃x,crs2 a b=x:=⟨_,rfl⟩
   rw[hs] at hsn hbd ⊢
   rw[hx] at hsn
   have hxb:-2000000000000≤x∧x≤2000000000000:=by rw[←hx];unfold crs2;omega
   rw[show a.1*b.2-a.2*b.1=x from hx] at kc
   have HSN:=hide hsn
   have ew:IntKind.i64.wrap (s+x)=s+x:=by unfold IntKind.wrap;simp[IntKind.bits,IntKind.signed];omega
   obtain⟨a1,a2⟩:=a
   obtain⟨b1',b2'⟩:=b
   dsimp only at g0 g1 kn kc
   clear ha hb oka okb hsn hcb hpm hA1 a' b' hs hx
   go_wp2_with fail
   refine wp_region_qas 11 [] [] hm (h:=?_)
   repeat (refine wpSteady_step (fun K hK=>?_);go_simp;first|(refine hK _ ?_;clear hK K)|(apply Exists.intro;refine⟨fun _=>?_,hK _ ?_⟩;(first|(go_at_call 119;with_reducible exact kn.out _ (HG.out.trans gw))|(go_at_call 157;with_reducible exact kc.out _));clear hK K))
   refine rq0 fun nq osq=>?_
   try simp only[Act.put,setA]
   try dsimp only
   go_wp2_with fail
   go_roundw
   case rel=>exact⟨m+1,by omega,by go_num,ret_int HSN.out.symm,HG.out.trans gw⟩
   case measure=>simp[intOf];omega
  ·obtain rfl:m=ps.length:=by omega
   obtain rfl:r=sumI ps (List.range ps.length):=HS.out.symm
   go_wp2_with fail
   go_ret
   exact Ret.mk' rfl (HG.out.trans gw)
set_option maxHeartbeats 8000000
set_option maxRecDepth 100000
/-- A corner, as the reference asks ahead of the turns. -/
def frontOk (ps:List Pt)(j:Nat):Bool:=(cor ps j).ok&&(decide (j=0)||decide (ord (cor ps 0) (cor ps j)<0))
def bendOk (ps:List Pt)(j:Nat):Bool:=tn (cor ps j) (cor ps (j+1)) (cor ps (j+2)) != 0
theorem cor_pr (ps:List Pt)(k:Nat):cor ps (k+ps.length)=cor ps k:=by unfold cor;rw[Nat.add_mod_right]
theorem pv_no_vert {ps:List Pt}{i:Nat}(hi:i<ps.length)(h:vertOk ps i=false):PValid ps=false:=by
 have:(List.range ps.length).all (vertOk ps)=false:=by
  rw[List.all_eq_false]
  exact⟨i,List.mem_range.2 hi,by rw[h];simp⟩
 unfold PValid
 rw[this]
 simp
theorem pv_front {ps:List Pt}{m:Nat}(hm:m<ps.length)(h:frontOk ps m=false):PValid ps=false:=by
 unfold frontOk at h
 cases hok:(cor ps m).ok
 ·have:ps.all Pt.ok=false:=all_false_at (cor_get hm) hok
  unfold PValid
  rw[this]
  simp
 ·rw[hok,Bool.true_and,Bool.or_eq_false_iff,decide_eq_false_iff_not,decide_eq_false_iff_not] at h
  refine pv_no_vert hm ?_
  unfold vertOk
  rw[decide_eq_true (show 0<m by omega),decide_eq_true (show 0≤ord (cor ps 0) (cor ps m) by omega)]
  simp
theorem pv_bend {ps:List Pt}{m:Nat}(hm:m<ps.length)(h:bendOk ps m=false):PValid ps=false:=by
 unfold bendOk at h
 have h0:tn (cor ps m) (cor ps (m+1)) (cor ps (m+2))=0:=by simpa using h
 by_cases he:m+1<ps.length
 ·refine pv_no_vert he ?_
  unfold vertOk
  rw[show m+1+ps.length-1=m+ps.length by omega,cor_pr,h0]
  simp
 ·have e:m+1=ps.length:=by omega
  refine pv_no_vert (i:=0) (by omega) ?_
  unfold vertOk
  have e1:cor ps (m+1)=cor ps 0:=by rw[e,←Nat.zero_add ps.length,cor_pr]
  have e2:cor ps (m+2)=cor ps (0+1):=by rw[show m+2=0+1+ps.length by omega,cor_pr]
  rw[show 0+ps.length-1=m by omega,←e1,←e2,h0]
  simp
theorem front_all {ps:List Pt}(h:(List.range ps.length).all (frontOk ps)=true):ps.all Pt.ok=true:=by
 rw[List.all_eq_true]
 intro p hp
 obtain⟨k,hk,e⟩:=List.mem_iff_getElem.1 hp
 have h1:=List.all_eq_true.1 h k (List.mem_range.2 hk)
 have h2:=cor_get hk
 rw[List.getElem?_eq_getElem hk,e] at h2
 injection h2 with h2
 unfold frontOk at h1
 rw[←h2,Bool.and_eq_true] at h1
 exact h1.1
theorem vert_all {ps:List Pt}(h1:(List.range ps.length).all (frontOk ps)=true)(h2:(List.range ps.length).all (bendOk ps)=true):(List.range ps.length).all (vertOk ps)=true:=by
 rw[List.all_eq_true]
 intro i hi
 have hi':=List.mem_range.1 hi
 have a1:=List.all_eq_true.1 h1 i hi
 unfold frontOk at a1
 rw[Bool.and_eq_true,Bool.or_eq_true,decide_eq_true_eq,decide_eq_true_eq] at a1
 have a2:tn (cor ps (i+ps.length-1)) (cor ps i) (cor ps (i+1))≠0:=by
  by_cases h0:i=0
  ·subst h0
   have b:=List.all_eq_true.1 h2 (ps.length-1) (List.mem_range.2 (by omega))
   unfold bendOk at b
   have e1:cor ps (ps.length-1+1)=cor ps 0:=by rw[show ps.length-1+1=0+ps.length by omega,cor_pr]
   have e2:cor ps (ps.length-1+2)=cor ps (0+1):=by rw[show ps.length-1+2=0+1+ps.length by omega,cor_pr]
   rw[e1,e2] at b
   rw[show 0+ps.length-1=ps.length-1 by omega]
   simpa using b
  ·have b:=List.all_eq_true.1 h2 (i-1) (List.mem_range.2 (by omega))
   unfold bendOk at b
   rw[show i-1+1=i by omega,show i-1+2=i+1 by omega] at b
   rw[show i+ps.length-1=i-1+ps.length by omega,cor_pr]
   simpa using b
 unfold vertOk
 rw[Bool.not_eq_true',Bool.or_eq_false_iff]
 refine⟨?_,by simpa using a2⟩
 rcases a1.2 with h0|h0
 ·simp[h0]
 ·simp;omega
theorem pv_rest {ps:List Pt}(hn:3≤ps.length∧ps.length≤24)(h1:(List.range ps.length).all (frontOk ps)=true)(h2:(List.range ps.length).all (bendOk ps)=true):PValid ps=(simpleOf ps&&decide (0<twiceOf ps)):=by
 unfold PValid
 rw[decide_eq_true hn,front_all h1,vert_all h1 h2,Bool.true_and,Bool.true_and,Bool.true_and]
theorem p3Valid_v (ps:List Pt)(A:Option Addr)(c:Nat)(r:Bool)(w:World)(hr:Rd w w.heap.size 2 A (ps.map encD))(hc:ps.length≤100000000000000)(h:PValid ps=r) :
  Calls Tryz.prog 86 #[.slice A ps.length c] w (Ret w (.bool r)):=by
 have hm:=hmix
 by_cases h3:ps.length<3
 ·obtain rfl:r=false:=by
   rw[←h];unfold PValid
   rw[show decide (3≤ps.length∧ps.length≤24)=false by simp;omega]
   rfl
  clear h
  go_enter Tryz.func86,Tryz.ntmps86
  go_wp2_with fail
  go_ret
  exact Ret.mk' rfl gw
 by_cases h24:24<ps.length
 ·obtain rfl:r=false:=by
   rw[←h];unfold PValid
   rw[show decide (3≤ps.length∧ps.length≤24)=false by simp;omega]
   rfl
  clear h
  go_enter Tryz.func86,Tryz.ntmps86
  go_wp2_with fail
  go_ret
  exact Ret.mk' rfl gw
 have HR:=hide hr
 have HS:=hide h
 clear hr h
 go_enter Tryz.func86,Tryz.ntmps86
 go_wp2_with fail
 go_loopw [4] (fun i wr=>∃m:Nat,m≤ps.length∧i=.int .i64 m∧Grew w wr∧AppG ((List.range m).all (frontOk ps)=true)) (fun i _=>ps.length-(intOf i).toNat)
 case atStart=>exact⟨0,by omega,rfl,gw,show (List.range 0).all _=true from rfl⟩
 case round =>
  obtain⟨m,hmm,rfl,hg,hall⟩:=hrel
  have HG:=hide hg
  have HA:=hide hall.stop
  clear hg hall
  by_cases hlt:m<ps.length
  ·obtain⟨p,hp⟩:∃a,cor ps m=a:=⟨_,rfl⟩
   obtain⟨z,hz⟩:∃a,cor ps 0=a:=⟨_,rfl⟩
   obtain⟨o,ho⟩:∃o,p.ok=o:=⟨_,rfl⟩
   obtain⟨v,hv⟩:∃v,decide (ord z p<0)=v:=⟨_,rfl⟩
   have hfr:frontOk ps m=(o&&(decide (m=0)||v)):=by unfold frontOk;rw[hp,hz,ho,hv]
   have hpm:=cor_get hlt
   have hpz:=cor_get (ps:=ps) (k:=0) (by omega)
   rw[hp] at hpm
   rw[hz] at hpz
   obtain⟨b1,off1,hA1,hb1,g0,g1⟩:=ptAt (HR.out.up HG.out) hpm
   obtain⟨b2,off2,hA2,hb2,g2,g3⟩:=ptAt (HR.out.up HG.out) hpz
   rw[show off2+0*2=off2 by omega] at g2 g3
   have hix1:=idx_run (cap:=c) Tryz.underlying51 Tryz.sizeOf26 hA1.out hlt
   have hix2:=idx_run0 (cap:=c) Tryz.underlying51 Tryz.sizeOf26 hA2.out (show 0<ps.length by omega)
   have kv:=hide (fun W=>p1Valid_v p.1 p.2 o W ho)
   have kl:=hide (fun W=>p3less_v z p v W hv)
   have HF:=hide hfr
   obtain⟨p1,p2⟩:=p
   obtain⟨z1,z2⟩:=z
   dsimp only at g0 g1 g2 g3 kv kl
   clear hp hz ho hv hfr hpm hpz hA1 hA2
   cases o
   ·obtain rfl:r=false:=by rw[←HS.out];exact pv_front hlt (by rw[HF.out];rfl)
    go_wp2_with (go_at_call 47;with_reducible refine crv (kv.out _) fun _ _=>?_;dsimp only)
    refine wp_region_qas 17 [] [] hm (h:=?_)
    repeat (refine wpSteady_step (fun K hK=>?_);go_simp;first|(refine hK _ ?_;clear hK K)|(apply Exists.intro;refine⟨fun _=>?_,hK _ ?_⟩;((go_at_call 132;with_reducible exact kl.out _));clear hK K))
    refine rq0 fun nq osq=>?_
    try simp only[Act.put,setA]
    try dsimp only
    go_wp2_with fail
    go_ret
    exact Ret.mk' rfl (HG.out.trans gw)
   ·by_cases hm0:m=0
    ·have nm:¬ 0<m:=by omega
     have nm2:=decide_eq_false nm
     have hpt:frontOk ps m=true:=by rw[HF.out];simp[hm0]
     have HPT:=hide hpt
     clear hm0 hpt
     go_wp2_with (go_at_call 47;with_reducible refine crv (kv.out _) fun _ _=>?_;dsimp only)
     refine wp_region_qas 17 [] [] hm (h:=?_)
     repeat (refine wpSteady_step (fun K hK=>?_);go_simp;first|(refine hK _ ?_;clear hK K)|(apply Exists.intro;refine⟨fun _=>?_,hK _ ?_⟩;((go_at_call 132;with_reducible exact kl.out _));clear hK K))
     refine rq0 fun nq osq=>?_
     try simp only[Act.put,setA]
     try dsimp only
     go_wp2_with fail
     go_roundw
     case rel=>exact⟨m+1,by omega,by go_num,HG.out.trans gw,show (List.range (m+1)).all (frontOk ps)=true from range_all_succ HA.out HPT.out⟩
     case measure=>simp[intOf];omega
    ·have nm:0<m:=by omega
     have nm2:=decide_eq_true nm
     have HM:=hide hm0
     clear hm0
     cases v
     ·obtain rfl:r=false:=by rw[←HS.out];exact pv_front hlt (by rw[HF.out];simp[HM.out])
      go_wp2_with (go_at_call 47;with_reducible refine crv (kv.out _) fun _ _=>?_;dsimp only)
      refine wp_region_qas 17 [] [] hm (h:=?_)
      repeat (refine wpSteady_step (fun K hK=>?_);go_simp;first|(refine hK _ ?_;clear hK K)|(apply Exists.intro;refine⟨fun _=>?_,hK _ ?_⟩;((go_at_call 132;with_reducible exact kl.out _));clear hK K))
      refine rq0 fun nq osq=>?_
      try simp only[Act.put,setA]
      try dsimp only
      go_wp2_with fail
      go_ret
      exact Ret.mk' rfl (HG.out.trans gw)
     ·have hpt:frontOk ps m=true:=by rw[HF.out];simp
      have HPT:=hide hpt
      clear hpt
      go_wp2_with (go_at_call 47;with_reducible refine crv (kv.out _) fun _ _=>?_;dsimp only)
      refine wp_region_qas 17 [] [] hm (h:=?_)
      repeat (refine wpSteady_step (fun K hK=>?_);go_simp;first|(refine hK _ ?_;clear hK K)|(apply Exists.intro;refine⟨fun _=>?_,hK _ ?_⟩;((go_at_call 132;with_reducible exact kl.out _));clear hK K))
      refine rq0 fun nq osq=>?_
      try simp only[Act.put,setA]
      try dsimp only
      go_wp2_with fail
      go_roundw
      case rel=>exact⟨m+1,by omega,by go_num,HG.out.trans gw,show (List.range (m+1)).all (frontOk ps)=true from range_all_succ HA.out HPT.out⟩
      case measure=>simp[intOf];omega
  ·obtain rfl:m=ps.length:=by omega
   have HOK:=hide (front_all HA.out)
   go_wp2_with fail
   refine wp_name ?_
   intro W1 hW
   have HG1:Hid (Grew w W1):=hide (by rw[←hW];exact HG.out.trans gw)
   clear hW HG
   go_loopw [6] (fun i wr=>∃m:Nat,m≤ps.length∧i=.int .i64 m∧Grew W1 wr∧AppG ((List.range m).all (bendOk ps)=true)) (fun i _=>ps.length-(intOf i).toNat)
   case atStart=>exact⟨0,by omega,rfl,gw,show (List.range 0).all _=true from rfl⟩
   case round =>
    obtain⟨m,hmm2,rfl,hg,hall⟩:=hrel
    have HG:=hide hg
    have HA2:=hide hall.stop
    clear hg hall
    by_cases hlt:m<ps.length
    ·obtain⟨a,ha⟩:∃a,cor ps m=a:=⟨_,rfl⟩
     obtain⟨b,hb⟩:∃a,cor ps (m+1)=a:=⟨_,rfl⟩
     obtain⟨d,hd⟩:∃a,cor ps (m+2)=a:=⟨_,rfl⟩
     have oka:a.ok=true:=by rw[←ha];exact cor_ok HOK.out _
     have okb:b.ok=true:=by rw[←hb];exact cor_ok HOK.out _
     have okd:d.ok=true:=by rw[←hd];exact cor_ok HOK.out _
     obtain⟨t,ht⟩:∃t,tn a b d=t:=⟨_,rfl⟩
     have hbd:bendOk ps m=(t != 0):=by unfold bendOk;rw[ha,hb,hd,ht]
     obtain⟨j,hj⟩:∃j,(m+2)%ps.length=j:=⟨_,rfl⟩
     have hjl:j<ps.length:=by rw[←hj];exact Nat.mod_lt _ (by omega)
     have hpj:=cor_mod (ps:=ps) (m+2) (by omega)
     rw[hj,hd] at hpj
     have hpm:=cor_get hlt
     rw[ha] at hpm
     obtain⟨b1,off1,hA1,hb1,g0,g1⟩:=ptAt (HR.out.up (HG1.out.trans HG.out)) hpm
     obtain⟨b2,off2,hA2,hb2,g2,g3⟩:=ptAt (HR.out.up (HG1.out.trans HG.out)) hpj
     have hix1:=idx_run (cap:=c) Tryz.underlying51 Tryz.sizeOf26 hA1.out hlt
     have hix2:=idx_run (cap:=c) (k:=j) (len:=ps.length) Tryz.underlying51 Tryz.sizeOf26 hA2.out hjl
     have ej:((m:Int)+2)%(ps.length:Int)=(j:Int):=by rw[←hj,show (m:Int)+2=((m+2:Nat):Int) by omega,Int.natCast_emod]
     have hne:¬ (ps.length:Int)=0:=by omega
     have hne2:¬ ps=[]:=by intro e;rw[e] at hjl;simp at hjl
     have hnn:0≤(m:Int)+2:=by omega
     have ew:IntKind.i64.wrap ((m:Int)+2)=(m:Int)+2:=by unfold IntKind.wrap;simp[IntKind.bits,IntKind.signed];omega
     have ej':=ej
     rw[←Int.tmod_eq_emod_of_nonneg hnn] at ej'
     have kn:=hide (fun W (hg:Grew w W)=>Next_v ps A c m b W (HR.out.up hg) (by omega) hlt hb)
     have kt:=hide (fun W=>rturn_v a b d t W oka okb okd ht)
     have HB:=hide hbd
     obtain⟨a1,a2⟩:=a
     obtain⟨b1',b2'⟩:=b
     obtain⟨d1,d2⟩:=d
     dsimp only at g0 g1 g2 g3 kn kt
     clear ha hb hd oka okb okd ht hbd hj hpj hpm hA1 hA2
     by_cases ht0:t=0
     ·subst ht0
      obtain rfl:r=false:=by rw[←HS.out];exact pv_bend hlt (by rw[HB.out];rfl)
      go_wp2_with fail
      refine wp_region_qas 16 [] [] hm (h:=?_)
      repeat (refine wpSteady_step (fun K hK=>?_);go_simp;first|(refine hK _ ?_;clear hK K)|(apply Exists.intro;refine⟨fun _=>?_,hK _ ?_⟩;(first|(go_at_call 119;with_reducible exact kn.out _ (HG1.out.trans (HG.out.trans gw)))|(go_at_call 133;with_reducible exact kt.out _));clear hK K))
      refine rq0 fun nq osq=>?_
      try simp only[Act.put,setA]
      try dsimp only
      go_wp2_with fail
      go_ret
      exact Ret.mk' rfl (HG1.out.trans (HG.out.trans gw))
     ·have ht1:(t==0)=false:=by simpa using ht0
      have hpt:bendOk ps m=true:=by rw[HB.out];simpa using ht0
      have HPT:=hide hpt
      clear hpt
      go_wp2_with fail
      refine wp_region_qas 16 [] [] hm (h:=?_)
      repeat (refine wpSteady_step (fun K hK=>?_);go_simp;first|(refine hK _ ?_;clear hK K)|(apply Exists.intro;refine⟨fun _=>?_,hK _ ?_⟩;(first|(go_at_call 119;with_reducible exact kn.out _ (HG1.out.trans (HG.out.trans gw)))|(go_at_call 133;with_reducible exact kt.out _));clear hK K))
      refine rq0 fun nq osq=>?_
      try simp only[Act.put,setA]
      try dsimp only
      go_wp2_with fail
      go_roundw
      case rel=>exact⟨m+1,by omega,by go_num,HG.out.trans gw,show (List.range (m+1)).all (bendOk ps)=true from range_all_succ HA2.out HPT.out⟩
      case measure=>simp[intOf];omega
    ·obtain rfl:m=ps.length:=by omega
     have hrest:=pv_rest (ps:=ps) (by omega) HA.out HA2.out
     rw[HS.out] at hrest
     have k1:=hide (fun W (hg:Grew w W)=>p3simple_v ps A c _ W (HR.out.up hg) (by omega) HOK.out rfl)
     have k2:=hide (fun W (hg:Grew w W)=>p3twice_v ps A c _ W (HR.out.up hg) (by omega) HOK.out rfl)
     obtain⟨s,hs⟩:∃s,simpleOf ps=s:=⟨_,rfl⟩
     obtain⟨t,ht⟩:∃s,twiceOf ps=s:=⟨_,rfl⟩
     rw[hs,ht] at hrest
     rw[hs] at k1
     rw[ht] at k2
     have HRS:=hide hrest
     clear hs ht hrest
     cases s
     ·go_wp2_with (go_at_call 134;with_reducible refine crv (k1.out _ (HG1.out.trans (HG.out.trans gw))) fun _ _=>?_;dsimp only)
      go_ret
      exact Ret.mk' (ret_bool (by rw[HRS.out];rfl)) (HG1.out.trans (HG.out.trans gw))
     ·go_wp2_with (first|(go_at_call 134;with_reducible refine crv (k1.out _ (HG1.out.trans (HG.out.trans gw))) fun _ _=>?_;dsimp only)|(go_at_call 135;with_reducible refine crv (k2.out _ (HG1.out.trans (HG.out.trans gw))) fun _ _=>?_;dsimp only))
      go_ret
      exact Ret.mk' (ret_bool (by rw[HRS.out];simp)) (HG1.out.trans (HG.out.trans gw))
end Go.Proofs.YtblgdlnmabkpoaaGreat

