import Derived.Test.YtblgdlnmabkpoaaGreatCvX
import Derived.Test.YtblgdlnmabkpoaaGreatRkY
import Derived.Test.YtblgdlnmabkpoaaGreatSgX
import Derived.Test.YtblgdlnmabkpoaaGreatPgX
/- The reference implementation of package feature: Valid. -/
set_option linter.unusedSimpArgs false
set_option linter.unusedVariables false
set_option maxHeartbeats 8000000
set_option maxRecDepth 100000
namespace Go.Proofs.YtblgdlnmabkpoaaGreat
open Go.RowKit Go.Sort
attribute [local go_sem] Steady steadyUpon
attribute [local go_sem ↓] hs_dr lt_add_r lt_add_r2 lt_add_r3 lt_add_r4 lt_add_r5 lt_add_r6
attribute [local go_sem] cell?_gd frozen?_gd setCell_gd size_grow tape_grow cell?_grow' frozen?_grow' setCell_grow' grow_grow grow_dr grow_drew dr_dr dr_drew drew_dr dr_alloc dr_setCell dr_cell dr_frozen dr_tape dr_drawn
attribute [local irreducible] wpSteady
def rmOk (x n:Int):Bool:=decide (-1000000≤x-n∧x+n≤1000000)
theorem v7Room_v (x n:Int)(r:Bool)(w:World)(hp:-1000000≤x∧x≤1000000)(hn:0≤n∧n≤100000)(h:rmOk x n=r) :
  Calls Tryz.prog 84 #[.int .i64 x,.int .i64 n] w (Ret w (.bool r)):=by
 subst h
 go_enter Tryz.func84,Tryz.ntmps84
 go_wp2
 all_goals go_ret
 all_goals refine Ret.mk' (ret_bool ?_) gw
 all_goals (rw[Bool.eq_iff_iff];simp[rmOk];try omega)
theorem room_two {x y n:Int}(hp:plOk x y=true)(hn:0≤n∧n≤100000):(rmOk x n&&rmOk y n)=roomOk x y n:=by
 have:=pl_bd hp
 unfold rmOk roomOk plOk
 rw[←Bool.decide_and,←Bool.decide_and]
 exact decide_eq_decide.2 ⟨fun h=>by omega,fun h=>by omega⟩
section
variable (id kind x y rad:Int) (aA:Option Addr) (na ac:Nat) (dep sym:Int) (sA:Option Addr) (ns sc:Nat) (o1 o2 o3 o4 o5 r:Bool) (w:World)
 (K1:Hid (∀W,Calls Tryz.prog 47 #[pt x y] W (Ret W (.bool o1))))
 (K2:Hid (o1=true→∀W,Calls Tryz.prog 84 #[.int .i64 x,.int .i64 rad] W (Ret W (.bool o2))))
 (K5:Hid (o1=true→∀W,Calls Tryz.prog 84 #[.int .i64 y,.int .i64 rad] W (Ret W (.bool o5))))
 (K3:Hid (∀W,Grew w W→Calls Tryz.prog 86 #[.slice aA na ac] W (Ret W (.bool o3))))
 (K4:Hid (∀W,Grew w W→Calls Tryz.prog 87 #[.slice sA ns sc] W (Ret W (.bool o4))))
 (b:(1≤id∧id≤100000)∧(0≤sym∧sym≤999)∧(0≤dep∧dep≤100000)∧(0≤rad∧rad≤100000))
include K1 K2 K5 b
theorem v7_disc (hk:kind=1∨kind=2∨kind=5)(h:(o1&&((o2&&o5)&&(decide (na=0)&&decide (ns=0))))=r) :
  Calls Tryz.prog 65 #[.agg #[.int .i64 id,.int .i64 kind,.int .i64 x,.int .i64 y,.int .i64 rad,.slice aA na ac,.int .i64 dep,.int .i64 sym,.slice sA ns sc]] w (Ret w (.bool r)):=by
 obtain⟨⟨b1,b2⟩,⟨b3,b4⟩,⟨b5,b6⟩,b7,b8⟩:=b
 have n1:¬ id<1:=by omega
 have n2:¬ 100000<id:=by omega
 have n3:¬ sym<0:=by omega
 have n4:¬ 999<sym:=by omega
 have n5:¬ dep<0:=by omega
 have n6:¬ 100000<dep:=by omega
 have n7:¬ rad<0:=by omega
 have n8:¬ 100000<rad:=by omega
 have kd1:=hide (fun W=>v7Disc_v kind true W (decide_eq_true hk))
 clear hk
 have hcase:o1=false∨(o1=true∧o2=false)∨(o1=true∧o2=true∧o5=false)∨(o1=true∧o2=true∧o5=true∧na≠0)∨(o1=true∧o2=true∧o5=true∧na=0∧ns≠0)∨(o1=true∧o2=true∧o5=true∧na=0∧ns=0):=by
  cases o1<;>cases o2<;>cases o5<;>simp;omega
 rcases hcase with rfl|⟨rfl,rfl⟩|⟨rfl,rfl,rfl⟩|⟨rfl,rfl,rfl,h3⟩|⟨rfl,rfl,rfl,rfl,h3⟩|⟨rfl,rfl,rfl,rfl,rfl⟩
 all_goals
  first|(simp[h3] at h;subst h)|(simp at h;subst h)
  have k2:=hide (K2.out)
  have k5:=hide (K5.out)
  clear K2 K5
  try (have kr:=hide (k2.out rfl))
  try (have ks:=hide (k5.out rfl))
  clear k2 k5
  go_enter Tryz.func65,Tryz.ntmps65
  go_wp2_with (first|(go_at_call 77;with_reducible refine crv (kd1.out _) fun _ _=>?_;dsimp only)|(go_at_call 47;with_reducible refine crv (K1.out _) fun _ _=>?_;dsimp only)|(go_at_call 84;with_reducible refine crv (kr.out _) fun _ _=>?_;dsimp only)|(go_at_call 84;with_reducible refine crv (ks.out _) fun _ _=>?_;dsimp only))
  go_ret
  first|exact Ret.mk' rfl gw|exact Ret.mk' (by simp[h3]) gw
omit K1 K2 K5 in
include K3 b in
theorem v7_area (hk:kind=3∨kind=6)(h:(o3&&(decide (x=0∧y=0)&&(decide (rad=0)&&(decide (ns=0)&&decide (kind=3∨dep=0)))))=r) :
  Calls Tryz.prog 65 #[.agg #[.int .i64 id,.int .i64 kind,.int .i64 x,.int .i64 y,.int .i64 rad,.slice aA na ac,.int .i64 dep,.int .i64 sym,.slice sA ns sc]] w (Ret w (.bool r)):=by
 obtain⟨⟨b1,b2⟩,⟨b3,b4⟩,⟨b5,b6⟩,b7,b8⟩:=b
 have n1:¬ id<1:=by omega
 have n2:¬ 100000<id:=by omega
 have n3:¬ sym<0:=by omega
 have n4:¬ 999<sym:=by omega
 have n5:¬ dep<0:=by omega
 have n6:¬ 100000<dep:=by omega
 have n7:¬ rad<0:=by omega
 have n8:¬ 100000<rad:=by omega
 have hcase:o3=false∨(o3=true∧x≠0)∨(o3=true∧x=0∧y≠0)∨(o3=true∧x=0∧y=0∧rad≠0)∨(o3=true∧x=0∧y=0∧rad=0∧ns≠0)∨(o3=true∧x=0∧y=0∧rad=0∧ns=0):=by
  cases o3<;>simp;omega
 have hk2:kind=3∨(kind=6∧dep=0)∨(kind=6∧dep≠0):=by omega
 have kd1:=hide (fun W=>v7Disc_v kind false W (decide_eq_false (by omega)))
 have kp1:=hide (fun W=>v7Poly_v kind true W (decide_eq_true (by omega)))
 clear hk
 rcases hk2 with rfl|⟨rfl,rfl⟩|⟨rfl,hd⟩
 ·rcases hcase with rfl|⟨rfl,h3⟩|⟨rfl,rfl,h3⟩|⟨rfl,rfl,rfl,h3⟩|⟨rfl,rfl,rfl,rfl,h3⟩|⟨rfl,rfl,rfl,rfl,rfl⟩
  all_goals
   first|(simp[h3] at h;subst h)|(simp at h;subst h)
   go_enter Tryz.func65,Tryz.ntmps65
   go_wp2_with (first|(go_at_call 77;with_reducible refine crv (kd1.out _) fun _ _=>?_;dsimp only)|(go_at_call 85;with_reducible refine crv (kp1.out _) fun _ _=>?_;dsimp only)|(go_at_call 86;with_reducible refine crv (K3.out _ gw) fun _ _=>?_;dsimp only))
   go_ret
   first|exact Ret.mk' rfl gw|(refine Ret.mk' ?_ gw;simp[h3];done)|(refine Ret.mk' ?_ gw;simp[hd];done)
 ·rcases hcase with rfl|⟨rfl,h3⟩|⟨rfl,rfl,h3⟩|⟨rfl,rfl,rfl,h3⟩|⟨rfl,rfl,rfl,rfl,h3⟩|⟨rfl,rfl,rfl,rfl,rfl⟩
  all_goals
   first|(simp[h3] at h;subst h)|(simp at h;subst h)
   go_enter Tryz.func65,Tryz.ntmps65
   go_wp2_with (first|(go_at_call 77;with_reducible refine crv (kd1.out _) fun _ _=>?_;dsimp only)|(go_at_call 85;with_reducible refine crv (kp1.out _) fun _ _=>?_;dsimp only)|(go_at_call 86;with_reducible refine crv (K3.out _ gw) fun _ _=>?_;dsimp only))
   go_ret
   first|exact Ret.mk' rfl gw|(refine Ret.mk' ?_ gw;simp[h3];done)|(refine Ret.mk' ?_ gw;simp[hd];done)
 ·rcases hcase with rfl|⟨rfl,h3⟩|⟨rfl,rfl,h3⟩|⟨rfl,rfl,rfl,h3⟩|⟨rfl,rfl,rfl,rfl,h3⟩|⟨rfl,rfl,rfl,rfl,rfl⟩
  all_goals
   first|(simp[h3,hd] at h;subst h)|(simp[hd] at h;subst h)
   go_enter Tryz.func65,Tryz.ntmps65
   go_wp2_with (first|(go_at_call 77;with_reducible refine crv (kd1.out _) fun _ _=>?_;dsimp only)|(go_at_call 85;with_reducible refine crv (kp1.out _) fun _ _=>?_;dsimp only)|(go_at_call 86;with_reducible refine crv (K3.out _ gw) fun _ _=>?_;dsimp only))
   go_ret
   first|exact Ret.mk' rfl gw|(refine Ret.mk' ?_ gw;simp[h3];done)|(refine Ret.mk' ?_ gw;simp[hd];done)
omit K2 K5 in
include K1 K4 b in
theorem v7_light (hk:kind=4)(h:(o1&&(o4&&(decide (rad=0)&&(decide (dep=0)&&decide (na=0)))))=r) :
  Calls Tryz.prog 65 #[.agg #[.int .i64 id,.int .i64 kind,.int .i64 x,.int .i64 y,.int .i64 rad,.slice aA na ac,.int .i64 dep,.int .i64 sym,.slice sA ns sc]] w (Ret w (.bool r)):=by
 obtain⟨⟨b1,b2⟩,⟨b3,b4⟩,⟨b5,b6⟩,b7,b8⟩:=b
 have n1:¬ id<1:=by omega
 have n2:¬ 100000<id:=by omega
 have n3:¬ sym<0:=by omega
 have n4:¬ 999<sym:=by omega
 have n5:¬ dep<0:=by omega
 have n6:¬ 100000<dep:=by omega
 have n7:¬ rad<0:=by omega
 have n8:¬ 100000<rad:=by omega
 have hcase:o1=false∨(o1=true∧o4=false)∨(o1=true∧o4=true∧rad≠0)∨(o1=true∧o4=true∧rad=0∧dep≠0)∨(o1=true∧o4=true∧rad=0∧dep=0∧na≠0)∨(o1=true∧o4=true∧rad=0∧dep=0∧na=0):=by
  cases o1<;>cases o4<;>simp;omega
 subst hk
 have kd1:=hide (fun W=>v7Disc_v 4 false W (by rfl))
 have kp1:=hide (fun W=>v7Poly_v 4 false W (by rfl))
 rcases hcase with rfl|⟨rfl,rfl⟩|⟨rfl,rfl,h3⟩|⟨rfl,rfl,rfl,h3⟩|⟨rfl,rfl,rfl,rfl,h3⟩|⟨rfl,rfl,rfl,rfl,rfl⟩
 all_goals
  first|(simp[h3] at h;subst h)|(simp at h;subst h)
  go_enter Tryz.func65,Tryz.ntmps65
  go_wp2_with (first|(go_at_call 77;with_reducible refine crv (kd1.out _) fun _ _=>?_;dsimp only)|(go_at_call 85;with_reducible refine crv (kp1.out _) fun _ _=>?_;dsimp only)|(go_at_call 47;with_reducible refine crv (K1.out _) fun _ _=>?_;dsimp only)|(go_at_call 87;with_reducible refine crv (K4.out _ gw) fun _ _=>?_;dsimp only))
  go_ret
  first|exact Ret.mk' rfl gw|exact Ret.mk' (by simp[h3]) gw
omit K1 K2 K5 in
include b in
theorem v7_none (hk:¬ (kind=1∨kind=2∨kind=5)∧kind≠3∧kind≠6∧kind≠4) :
  Calls Tryz.prog 65 #[.agg #[.int .i64 id,.int .i64 kind,.int .i64 x,.int .i64 y,.int .i64 rad,.slice aA na ac,.int .i64 dep,.int .i64 sym,.slice sA ns sc]] w (Ret w (.bool false)):=by
 obtain⟨⟨b1,b2⟩,⟨b3,b4⟩,⟨b5,b6⟩,b7,b8⟩:=b
 have n1:¬ id<1:=by omega
 have n2:¬ 100000<id:=by omega
 have n3:¬ sym<0:=by omega
 have n4:¬ 999<sym:=by omega
 have n5:¬ dep<0:=by omega
 have n6:¬ 100000<dep:=by omega
 have n7:¬ rad<0:=by omega
 have n8:¬ 100000<rad:=by omega
 have kd1:=hide (fun W=>v7Disc_v kind false W (decide_eq_false (by omega)))
 have kp1:=hide (fun W=>v7Poly_v kind false W (decide_eq_false (by omega)))
 have m4:¬ kind=4:=by omega
 have m5:(kind==4)=false:=by simpa using m4
 clear hk
 go_enter Tryz.func65,Tryz.ntmps65
 go_wp2_with (first|(go_at_call 77;with_reducible refine crv (kd1.out _) fun _ _=>?_;dsimp only)|(go_at_call 85;with_reducible refine crv (kp1.out _) fun _ _=>?_;dsimp only))
 go_ret
 exact Ret.mk' rfl gw
omit K1 K2 K5 b in
theorem v7_base (b:¬ ((1≤id∧id≤100000)∧(0≤sym∧sym≤999)∧(0≤dep∧dep≤100000)∧(0≤rad∧rad≤100000))) :
  Calls Tryz.prog 65 #[.agg #[.int .i64 id,.int .i64 kind,.int .i64 x,.int .i64 y,.int .i64 rad,.slice aA na ac,.int .i64 dep,.int .i64 sym,.slice sA ns sc]] w (Ret w (.bool false)):=by
 have hcase:id<1∨(¬ id<1∧100000<id)∨(¬ id<1∧¬ 100000<id∧sym<0)∨(¬ id<1∧¬ 100000<id∧¬ sym<0∧999<sym)∨(¬ id<1∧¬ 100000<id∧¬ sym<0∧¬ 999<sym∧dep<0)∨(¬ id<1∧¬ 100000<id∧¬ sym<0∧¬ 999<sym∧¬ dep<0∧100000<dep)∨(¬ id<1∧¬ 100000<id∧¬ sym<0∧¬ 999<sym∧¬ dep<0∧¬ 100000<dep∧rad<0)∨(¬ id<1∧¬ 100000<id∧¬ sym<0∧¬ 999<sym∧¬ dep<0∧¬ 100000<dep∧¬ rad<0∧100000<rad):=by omega
 clear b
 rcases hcase with h1|⟨h1,h2⟩|⟨h1,h2,h3⟩|⟨h1,h2,h3,h4⟩|⟨h1,h2,h3,h4,h5⟩|⟨h1,h2,h3,h4,h5,h6⟩|⟨h1,h2,h3,h4,h5,h6,h7⟩|⟨h1,h2,h3,h4,h5,h6,h7,h8⟩
 all_goals
  go_enter Tryz.func65,Tryz.ntmps65
  go_wp2_with fail
  go_ret
  exact Ret.mk' rfl gw
end
theorem v7Valid_v (f:FV)(r:Bool)(w:World)(hr:f.rd w w.heap.size)(h:FValid f=r) :
  Calls Tryz.prog 65 #[f.val] w (Ret w (.bool r)):=by
 have k1:=hide (fun W=>p1Valid_v f.x f.y _ W rfl)
 have k3:=hide (fun W (hg:Grew w W)=>p3Valid_v f.area f.aA f.ac _ W ((hr.up hg).area) hr.la rfl)
 have k4:=hide (fun W (hg:Grew w W)=>s5Valid_v f.secs f.sA f.sc _ W ((hr.up hg).secs) hr.ls rfl)
 unfold FValid discOk areaOk lightOk baseOk isDisc at h
 by_cases hb:(1≤f.id∧f.id≤100000)∧(0≤f.sym∧f.sym≤999)∧(0≤f.dep∧f.dep≤100000)∧(0≤f.rad∧f.rad≤100000)
 ·rw[decide_eq_true hb,Bool.true_and] at h
  have k2:=hide (fun (h1:plOk f.x f.y=true) W=>v7Room_v f.x f.rad _ W (pl_bd h1).1 hb.2.2.2 rfl)
  have k5:=hide (fun (h1:plOk f.x f.y=true) W=>v7Room_v f.y f.rad _ W (pl_bd h1).2 hb.2.2.2 rfl)
  rcases kind_of f.kind with hk|hk|hk|hk|⟨h1,h2,h3,h4⟩
  ·rw[if_pos (decide_eq_true hk)] at h
   refine v7_disc _ _ _ _ _ _ _ _ _ _ _ _ _ _ _ _ _ w k1 k2 k5 hb hk ?_
   rw[←h]
   cases hp:plOk f.x f.y
   ·rfl
   ·rw[Bool.true_and,Bool.true_and,room_two hp hb.2.2.2]
  ·rw[if_neg (by rw[decide_eq_true_eq];omega),if_pos hk] at h
   exact v7_area _ _ _ _ _ _ _ _ _ _ _ _ _ _ _ w k3 hb (.inl hk) (by rw[decide_eq_true (show f.kind=3∨f.dep=0 from .inl hk),Bool.and_true];exact h)
  ·rw[if_neg (by rw[decide_eq_true_eq];omega),if_neg (by omega),if_pos hk] at h
   refine v7_area _ _ _ _ _ _ _ _ _ _ _ _ _ _ _ w k3 hb (.inr hk) ?_
   rw[←h,show decide (f.kind=3∨f.dep=0)=decide (f.dep=0) from decide_eq_decide.2 ⟨fun h=>h.elim (fun h=>by omega) id,.inr⟩]
   cases decide (f.dep=0)<;>simp
  ·rw[if_neg (by rw[decide_eq_true_eq];omega),if_neg (by omega),if_neg (by omega),if_pos hk] at h
   exact v7_light _ _ _ _ _ _ _ _ _ _ _ _ _ _ _ _ w k1 k4 hb hk h
  ·rw[if_neg (by rw[decide_eq_true_eq];omega),if_neg (by omega),if_neg (by omega),if_neg (by omega)] at h
   subst h
   exact v7_none _ _ _ _ _ _ _ _ _ _ _ _ _ w hb ⟨h1,h2,h3,h4⟩
 ·rw[decide_eq_false hb,Bool.false_and] at h
  subst h
  exact v7_base _ _ _ _ _ _ _ _ _ _ _ _ _ w hb
set_option maxHeartbeats 4000000
set_option maxRecDepth 100000
theorem v7List_v (fs:List FV)(A:Option Addr)(c:Nat)(r:Bool)(w:World)(hr:FRd w w.heap.size A fs)(hc:fs.length≤100000000000000)(h:FList fs=r) :
  Calls Tryz.prog 45 #[.slice A fs.length c] w (Ret w (.bool r)):=by
 have hm:=hmix
 by_cases h300:300<fs.length
 ·obtain rfl:r=false:=by
   rw[←h];unfold FList
   rw[show decide (fs.length≤300)=false by simp;omega,Bool.and_false]
  clear h
  go_enter Tryz.func45,Tryz.ntmps45
  go_wp2_with fail
  go_ret
  exact Ret.mk' rfl gw
 have HH:=hide h
 have HR:=hide hr
 clear h hr
 go_enter Tryz.func45,Tryz.ntmps45
 go_wp2_with fail
 go_loopw [3] (fun i wr=>∃k:Nat,k≤fs.length∧i=.int .i64 k∧Grew w wr∧AppG (upTo fs k=true)) (fun i _=>fs.length-(intOf i).toNat)
 case atStart=>exact⟨0,by omega,rfl,gw,rfl⟩
 case round =>
  obtain⟨k,hk,rfl,hg,hall⟩:=hrel
  have HG:=hide hg
  have HA:=hide hall.stop
  clear hg hall
  by_cases hlt:k<fs.length
  ·obtain⟨b,off,hA,hb,fc⟩:=featAt (HR.out.up HG.out) hlt
   have hfr:=HR.out.each _ (fAt_mem hlt)
   have hix:=idx_run (cap:=c) Tryz.underlying22 Tryz.sizeOf54 hA.out hlt
   have hst:=upTo_succ HA.out
   unfold upOk at hst
   obtain⟨v,hv⟩:∃v,FValid (fAt fs k)=v:=⟨_,rfl⟩
   rw[hv] at hst
   have k1:=hide (fun W (hg:Grew w W)=>v7Valid_v (fAt fs k) v W (hfr.up hg) hv)
   obtain⟨l,hl⟩:∃l,lastId fs k=l:=⟨_,rfl⟩
   rw[hl] at hst
   have hno:(v&&decide (l<(fAt fs k).id))=false→r=false:=fun e=>by
    rw[←HH.out]
    unfold FList
    rw[upTo_no hlt (by unfold upOk;rw[hv,hl];exact e)]
    rfl
   have hpos:v=true→1≤(fAt fs k).id:=fun e=>by
    rw[e] at hv
    unfold FValid baseOk at hv
    rw[Bool.and_eq_true,decide_eq_true_eq] at hv
    omega
   have hst2:(v&&decide (l<(fAt fs k).id))=true→upTo fs (k+1)=true:=fun e=>by rw[hst];exact e
   obtain⟨c0,c1,c2,c3,c4,c5,c6,c7,c8⟩:=fc
   have HNO:=hide hno
   have HST:=hide hst2
   have HPO:=hide hpos
   clear hv hfr hst hno hst2 hpos
   by_cases hk0:k=0
   ·have hl0:l=0:=by rw[←hl];unfold lastId;rw[if_pos hk0]
    have nk:¬ 0<k:=by omega
    have nk2:=decide_eq_false nk
    clear hl hk0 hA
    generalize fAt fs k=f at *
    obtain⟨id,kind,x,y,rad,aA,ac,area,dep,sym,sA,sc,secs⟩:=f
    unfold FV.val at k1
    dsimp only at *
    generalize area.length=na at *
    generalize secs.length=ns at *
    cases v
    ·have hr:=HNO.out rfl
     have HRF:=hide hr
     clear hr
     go_wp2_with fail
     refine wp_region_qas 24 [] [] hm (h:=?_)
     repeat (refine wpSteady_step (fun K hK=>?_);go_simp;first|(refine hK _ ?_;clear hK K)|(apply Exists.intro;refine⟨fun _=>?_,hK _ ?_⟩;((go_at_call 65;with_reducible exact k1.out _ (HG.out.trans gw)));clear hK K))
     refine rq0 fun nq osq=>?_
     try simp only[Act.put,setA]
     try dsimp only
     go_wp2_with fail
     go_ret
     exact Ret.mk' (by rw[HRF.out];rfl) (HG.out.trans gw)
    ·have hu:=HST.out (by rw[Bool.true_and,decide_eq_true_eq];have:=HPO.out rfl;omega)
     have HU:=hide hu
     clear hu
     go_wp2_with fail
     refine wp_region_qas 24 [] [] hm (h:=?_)
     repeat (refine wpSteady_step (fun K hK=>?_);go_simp;first|(refine hK _ ?_;clear hK K)|(apply Exists.intro;refine⟨fun _=>?_,hK _ ?_⟩;((go_at_call 65;with_reducible exact k1.out _ (HG.out.trans gw)));clear hK K))
     refine rq0 fun nq osq=>?_
     try simp only[Act.put,setA]
     try dsimp only
     go_wp2_with fail
     go_roundw
     case rel=>exact⟨k+1,by omega,by go_num,HG.out.trans gw,HU.out⟩
     case measure=>simp[intOf];omega
   ·have nk:0<k:=by omega
    have nk2:=decide_eq_true nk
    have hl1:(fAt fs (k-1)).id=l:=by rw[←hl];unfold lastId;rw[if_neg hk0]
    obtain⟨b',off',hA',hb',fc'⟩:=featAt (k:=k-1) (HR.out.up HG.out) (by omega)
    have d0:=fc'.c0
    rw[hl1] at d0
    have hix2:=idx_run (cap:=c) (k:=k-1) (len:=fs.length) Tryz.underlying22 Tryz.sizeOf54 hA'.out (by omega)
    rw[show ((k-1:Nat):Int)=(k:Int)-1 by omega] at hix2
    have ewk:IntKind.i64.wrap ((k:Int)-1)=(k:Int)-1:=by unfold IntKind.wrap;simp[IntKind.bits,IntKind.signed];omega
    clear hl hl1 hk0 hA hA' fc'
    generalize fAt fs k=f at *
    obtain⟨id,kind,x,y,rad,aA,ac,area,dep,sym,sA,sc,secs⟩:=f
    unfold FV.val at k1
    dsimp only at *
    generalize area.length=na at *
    generalize secs.length=ns at *
    cases v
    ·have hr:=HNO.out rfl
     have HRF:=hide hr
     clear hr
     go_wp2_with fail
     refine wp_region_qas 24 [] [] hm (h:=?_)
     repeat (refine wpSteady_step (fun K hK=>?_);go_simp;first|(refine hK _ ?_;clear hK K)|(apply Exists.intro;refine⟨fun _=>?_,hK _ ?_⟩;((go_at_call 65;with_reducible exact k1.out _ (HG.out.trans gw)));clear hK K))
     refine rq0 fun nq osq=>?_
     try simp only[Act.put,setA]
     try dsimp only
     go_wp2_with fail
     go_ret
     exact Ret.mk' (by rw[HRF.out];rfl) (HG.out.trans gw)
    ·by_cases hid:l<id
     ·have hid2:¬ id≤l:=by omega
      have hid3:=decide_eq_false hid2
      have hu:=HST.out (by rw[Bool.true_and,decide_eq_true_eq];exact hid)
      have HU:=hide hu
      clear hu
      go_wp2_with fail
      refine wp_region_qas 24 [] [] hm (h:=?_)
      repeat (refine wpSteady_step (fun K hK=>?_);go_simp;first|(refine hK _ ?_;clear hK K)|(apply Exists.intro;refine⟨fun _=>?_,hK _ ?_⟩;((go_at_call 65;with_reducible exact k1.out _ (HG.out.trans gw)));clear hK K))
      refine rq0 fun nq osq=>?_
      try simp only[Act.put,setA]
      try dsimp only
      go_wp2_with fail
      go_roundw
      case rel=>exact⟨k+1,by omega,by go_num,HG.out.trans gw,HU.out⟩
      case measure=>simp[intOf];omega
     ·have hid2:id≤l:=by omega
      have hid3:=decide_eq_true hid2
      have hr:=HNO.out (by rw[Bool.true_and,decide_eq_false_iff_not];exact hid)
      have HRF:=hide hr
      clear hr
      go_wp2_with fail
      refine wp_region_qas 24 [] [] hm (h:=?_)
      repeat (refine wpSteady_step (fun K hK=>?_);go_simp;first|(refine hK _ ?_;clear hK K)|(apply Exists.intro;refine⟨fun _=>?_,hK _ ?_⟩;((go_at_call 65;with_reducible exact k1.out _ (HG.out.trans gw)));clear hK K))
      refine rq0 fun nq osq=>?_
      try simp only[Act.put,setA]
      try dsimp only
      go_wp2_with fail
      go_ret
      exact Ret.mk' (by rw[HRF.out];rfl) (HG.out.trans gw)
  ·obtain rfl:k=fs.length:=by omega
   have e:r=true:=by
    rw[←HH.out]
    unfold FList
    rw[HA.out,Bool.true_and,decide_eq_true_eq]
    omega
   have HE:=hide e
   clear e
   go_wp2_with fail
   go_ret
   exact Ret.mk' (by rw[HE.out];rfl) (HG.out.trans gw)
set_option maxHeartbeats 8000000
set_option maxRecDepth 100000
theorem list_valid7 {fs:List FV}(h:FList fs=true)(f:FV)(hf:f∈fs):FValid f=true:=by
 unfold FList upTo at h
 rw[Bool.and_eq_true,List.all_eq_true] at h
 obtain⟨m,hm,e⟩:=List.getElem_of_mem hf
 have h1:=h.1 m (List.mem_range.2 hm)
 unfold upOk at h1
 rw[Bool.and_eq_true] at h1
 have h2:=h1.1
 have a:=fAt_get hm
 rw[List.getElem?_eq_getElem hm,e] at a
 injection a with a
 rw[a]
 exact h2
theorem v7Shown_v (fs:List FV)(A:Option Addr)(c:Nat)(p:Pt)(r:Int×Int)(w:World)(hr:FRd w w.heap.size A fs)(hc:fs.length≤100000000000000)(h:shownOf fs p=r) :
  Calls Tryz.prog 48 #[.slice A fs.length c,pt p.1 p.2] w (Ret w (.tuple #[.int .i64 r.1,.int .i64 r.2])):=by
 have hm:=hmix
 obtain⟨u,hu⟩:∃u,FList fs=u:=⟨_,rfl⟩
 obtain⟨v,hv⟩:∃u,p.ok=u:=⟨_,rfl⟩
 have k1:=hide (fun W (hg:Grew w W)=>v7List_v fs A c u W (hr.up hg) hc hu)
 have k2:=hide (fun W=>p1Valid_v p.1 p.2 v W hv)
 unfold shownOf at h
 rw[hu,hv] at h
 have HR:=hide hr
 have hcase:u=false∨(u=true∧v=false)∨(u=true∧v=true):=by cases u<;>cases v<;>simp
 rcases hcase with rfl|⟨rfl,rfl⟩|⟨rfl,rfl⟩
 ·rw[if_neg (by simp)] at h
  subst h
  clear hu hv hr
  obtain⟨q1,q2⟩:=p
  dsimp only at k2 ⊢
  go_enter Tryz.func48,Tryz.ntmps48
  go_wp2_with (first|(go_at_call 45;with_reducible refine crv (k1.out _ gw) fun _ _=>?_;dsimp only)|(go_at_call 47;with_reducible refine crv (k2.out _) fun _ _=>?_;dsimp only))
  go_ret2
  exact Ret.mk' rfl gw
 ·rw[if_neg (by simp)] at h
  subst h
  clear hu hv hr
  obtain⟨q1,q2⟩:=p
  dsimp only at k2 ⊢
  go_enter Tryz.func48,Tryz.ntmps48
  go_wp2_with (first|(go_at_call 45;with_reducible refine crv (k1.out _ gw) fun _ _=>?_;dsimp only)|(go_at_call 47;with_reducible refine crv (k2.out _) fun _ _=>?_;dsimp only))
  go_ret2
  exact Ret.mk' rfl gw
 ·rw[if_pos (by rfl)] at h
  subst h
  have HL:=hide hu
  have HP:=hide hv
  have hval:=hide (fun f (hf:f∈fs)=>list_valid7 hu f hf)
  clear hu hv hr
  obtain⟨q1,q2⟩:=p
  dsimp only at k2 ⊢
  go_enter Tryz.func48,Tryz.ntmps48
  go_wp2_with (first|(go_at_call 45;with_reducible refine crv (k1.out _ gw) fun _ _=>?_;dsimp only)|(go_at_call 47;with_reducible refine crv (k2.out _) fun _ _=>?_;dsimp only))
  refine wp_name ?_
  intro W0 hW
  have HG0:Hid (Grew w W0):=hide (by rw[←hW];exact gw)
  have HB0:Hid (PB W0 w.heap.size (q1,q2)):=hide (PB.up (show PB (w.alloc (.cells #[.int .i64 q1,.int .i64 q2] 26)) w.heap.size (q1,q2) from heap_alloc_at _ _ _ (by simp)) (by rw[←hW];exact gw))
  clear hW k1 k2
  go_loopw [6,7] (fun s i wr=>∃m:Nat,m≤fs.length∧i=.int .i64 m∧s=.int .i64 (shownTo fs (q1,q2) m)∧Grew W0 wr) (fun _ i _=>fs.length-(intOf i).toNat)
  case atStart=>exact⟨0,by omega,rfl,rfl,gw⟩
  case round =>
   obtain⟨m,hmm,rfl,rfl,hg⟩:=hrel
   have HG:=hide hg
   have z0:=(HB0.out.up hg).c0
   have z1:=(HB0.out.up hg).c1
   have z2:=(HB0.out.up hg).lt
   dsimp only at z0 z1
   clear hg
   by_cases hlt:m<fs.length
   ·obtain⟨b1,off1,hA1,hb1,fx⟩:=featAt (HR.out.up (HG0.out.trans HG.out)) hlt
    have hix1:=idx_run (cap:=c) Tryz.underlying22 Tryz.sizeOf54 hA1.out hlt
    have hst:=shownTo_succ (fs:=fs) (p:=(q1,q2)) hlt
    unfold shownStep at hst
    obtain⟨o,ho⟩:∃o,shCovers (fAt fs m) (q1,q2)=o:=⟨_,rfl⟩
    have kh:=hide (fun W (hg:Grew w W)=>v7Has_v (fAt fs m) (q1,q2) o W ((HR.out.each _ (fAt_mem hlt)).up hg) (hval.out _ (fAt_mem hlt)) HP.out ho)
    rw[ho] at hst
    obtain⟨x,hx⟩:∃x,fAt fs m=x:=⟨_,rfl⟩
    obtain⟨s,hs⟩:∃s,shownTo fs (q1,q2) m=s:=⟨_,rfl⟩
    rw[hx] at kh fx hst
    rw[hs] at hst ⊢
    have HST:=hide hst
    obtain⟨c0,c1,c2,c3,c4,c5,c6,c7,c8⟩:=fx
    obtain⟨id,kind,x',y,rad,aA,ac,area,dep,sym,sA,sc,secs⟩:=x
    dsimp only at *
    clear hA1 ho hx hs hst
    rcases Bool.eq_false_or_eq_true o with rfl|rfl
    ·by_cases g:dep<s
     ·have e:=HST.out
      rw[if_pos (by simpa using g)] at e
      have HE:=hide e
      have g2:¬ s≤dep:=by omega
      have g3:¬ s<dep:=by omega
      have g4:dep≤s:=by omega
      clear e HST
      go_wp2_with fail
      refine wp_region_qas 6 [] [] hm (h:=?_)
      repeat (refine wpSteady_step (fun K hK=>?_);go_simp;first|(refine hK _ ?_;clear hK K)|(apply Exists.intro;refine⟨fun _=>?_,hK _ ?_⟩;((go_at_call 66;with_reducible exact kh.out _ (HG0.out.trans (HG.out.trans gw))));clear hK K))
      refine rq0 fun nq osq=>?_
      try simp only[Act.put,setA]
      try dsimp only
      go_wp2_with fail
      go_roundw
      case rel=>exact⟨m+1,by omega,by go_num,ret_int (by rw[HE.out]),HG.out.trans gw⟩
      case measure=>simp[intOf];omega
     ·have e:=HST.out
      rw[if_neg (by simpa using g)] at e
      have HE:=hide e
      by_cases g5:s=dep
      ·subst g5
       clear e HST
       go_wp2_with fail
       refine wp_region_qas 6 [] [] hm (h:=?_)
       repeat (refine wpSteady_step (fun K hK=>?_);go_simp;first|(refine hK _ ?_;clear hK K)|(apply Exists.intro;refine⟨fun _=>?_,hK _ ?_⟩;((go_at_call 66;with_reducible exact kh.out _ (HG0.out.trans (HG.out.trans gw))));clear hK K))
       refine rq0 fun nq osq=>?_
       try simp only[Act.put,setA]
       try dsimp only
       go_wp2_with fail
       go_roundw
       case rel=>exact⟨m+1,by omega,by go_num,ret_int (by rw[HE.out]),HG.out.trans gw⟩
       case measure=>simp[intOf];omega
      ·have g2:s<dep:=by omega
       have g3:s≤dep:=by omega
       have g4:¬ dep≤s:=by omega
       clear e HST
       go_wp2_with fail
       refine wp_region_qas 6 [] [] hm (h:=?_)
       repeat (refine wpSteady_step (fun K hK=>?_);go_simp;first|(refine hK _ ?_;clear hK K)|(apply Exists.intro;refine⟨fun _=>?_,hK _ ?_⟩;((go_at_call 66;with_reducible exact kh.out _ (HG0.out.trans (HG.out.trans gw))));clear hK K))
       refine rq0 fun nq osq=>?_
       try simp only[Act.put,setA]
       try dsimp only
       go_wp2_with fail
       go_roundw
       case rel=>exact⟨m+1,by omega,by go_num,ret_int (by rw[HE.out]),HG.out.trans gw⟩
       case measure=>simp[intOf];omega
    ·have e:=HST.out
     rw[if_neg (by simp)] at e
     have HE:=hide e
     clear HST e
     go_wp2_with fail
     refine wp_region_qas 6 [] [] hm (h:=?_)
     repeat (refine wpSteady_step (fun K hK=>?_);go_simp;first|(refine hK _ ?_;clear hK K)|(apply Exists.intro;refine⟨fun _=>?_,hK _ ?_⟩;((go_at_call 66;with_reducible exact kh.out _ (HG0.out.trans (HG.out.trans gw))));clear hK K))
     refine rq0 fun nq osq=>?_
     try simp only[Act.put,setA]
     try dsimp only
     go_wp2_with fail
     go_roundw
     case rel=>exact⟨m+1,by omega,by go_num,ret_int (by rw[HE.out]),HG.out.trans gw⟩
     case measure=>simp[intOf];omega
   ·obtain rfl:m=fs.length:=by omega
    go_wp2_with fail
    go_ret2
    exact Ret.mk' rfl (HG0.out.trans (HG.out.trans gw))
end Go.Proofs.YtblgdlnmabkpoaaGreat

