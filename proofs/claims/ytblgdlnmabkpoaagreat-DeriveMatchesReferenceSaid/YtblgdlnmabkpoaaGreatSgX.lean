import Derived.Test.YtblgdlnmabkpoaaGreatSecA
import Derived.Test.YtblgdlnmabkpoaaGreatItX
import Derived.Test.YtblgdlnmabkpoaaGreatApp
/- Plain law: the angle order of directions (no program in sight). -/
set_option linter.unusedSimpArgs false
set_option linter.unusedVariables false
namespace Go.Proofs.YtblgdlnmabkpoaaGreat
open Go.RowKit Go.Sort
theorem upper_iff {a b:Int}:upper a b=true↔(0<b∨(b=0∧0<a)):=by simp[upper]
theorem low_neg {a b:Int}(h:upper a b=false)(h0:a≠0∨b≠0):upper (-a) (-b)=true:=by
 rw[upper_iff]
 have:¬ (0<b∨(b=0∧0<a)):=by rw[←upper_iff,h];simp
 omega
theorem crs_neg (a b c d:Int):crs (-a) (-b) (-c) (-d)=crs a b c d:=by unfold crs;rw[Int.neg_mul_neg,Int.neg_mul_neg]
theorem crs_swap (a b c d:Int):crs c d a b=- crs a b c d:=by unfold crs;rw[Int.mul_comm c b,Int.mul_comm d a];omega
theorem crs_id (a b c d e f:Int):crs a b e f*d=crs c d e f*b+crs a b c d*f:=by
 unfold crs
 simp only[Int.sub_mul]
 have e1:a*f*d=a*d*f:=by rw[Int.mul_assoc,Int.mul_comm f d,←Int.mul_assoc]
 have e2:b*e*d=d*e*b:=by rw[Int.mul_comm b e,Int.mul_comm d e,Int.mul_assoc,Int.mul_assoc,Int.mul_comm b d]
 have e3:c*f*b=b*c*f:=by rw[Int.mul_comm b c,Int.mul_assoc,Int.mul_assoc,Int.mul_comm f b]
 omega
/-- Three directions of the upper half: the order goes on. -/
theorem crs_trans_up {a b c d e f:Int}(hu:upper a b=true)(hv:upper c d=true)(hw:upper e f=true)(h1:0≤crs a b c d)(h2:0≤crs c d e f):0≤crs a b e f:=by
 rw[upper_iff] at hu hv hw
 rcases hv with hd|⟨rfl,hc⟩
 ·have h:=crs_id a b c d e f
  have q1:0≤crs c d e f*b:=Int.mul_nonneg h2 (by omega)
  have q2:0≤crs a b c d*f:=Int.mul_nonneg h1 (by omega)
  rcases Int.lt_or_le (crs a b e f) 0 with hn|hn
  ·have:=Int.mul_neg_of_neg_of_pos hn hd
   omega
  ·exact hn
 ·have hb:b=0:=by
   rcases hu with hb|⟨hb,_⟩
   ·unfold crs at h1
    have:=Int.mul_pos hb hc
    simp at h1
    omega
   ·exact hb
  subst hb
  have ha:0<a:=by omega
  have hf:0≤f:=by omega
  have:=Int.mul_nonneg (Int.le_of_lt ha) hf
  unfold crs
  simp
  exact this
theorem crs_trans {a b c d e f:Int}(ha:a≠0∨b≠0)(hc:c≠0∨d≠0)(he:e≠0∨f≠0)(h1:upper a b=upper c d)(h2:upper c d=upper e f)(k1:0≤crs a b c d)(k2:0≤crs c d e f):0≤crs a b e f:=by
 cases hv:upper c d
 ·rw[hv] at h1 h2
  have:=crs_trans_up (low_neg h1 ha) (low_neg hv hc) (low_neg h2.symm he) (by rw[crs_neg];exact k1) (by rw[crs_neg];exact k2)
  rwa [crs_neg] at this
 ·rw[hv] at h1 h2
  exact crs_trans_up h1 hv h2.symm k1 k2
theorem cmpw_le {a b c d:Int}:cmpw a b c d≤0↔(upper a b=true∧upper c d=false)∨(upper a b=upper c d∧0≤crs a b c d):=by
 unfold cmpw
 cases upper a b<;>cases upper c d<;>simp
 all_goals (split<;>(try split)<;>omega)
theorem cmpw_swap (a b c d:Int):cmpw c d a b=- cmpw a b c d:=by
 unfold cmpw
 rw[crs_swap a b c d]
 cases upper a b<;>cases upper c d<;>simp
 all_goals (split<;>split<;>(try split)<;>(try split)<;>omega)
theorem cmpw_trans {a b c d e f:Int}(ha:a≠0∨b≠0)(hc:c≠0∨d≠0)(he:e≠0∨f≠0)(h1:cmpw a b c d≤0)(h2:cmpw c d e f≤0):cmpw a b e f≤0:=by
 rw[cmpw_le] at *
 rcases h1 with⟨p1,p2⟩|⟨p1,p2⟩<;>rcases h2 with⟨q1,q2⟩|⟨q1,q2⟩
 ·rw[p2] at q1;cases q1
 ·exact .inl ⟨p1,by rw[←q1];exact p2⟩
 ·exact .inl ⟨by rw[p1];exact q1,q2⟩
 ·exact .inr ⟨by rw[p1,q1],crs_trans ha hc he p1 q1 p2 q2⟩
theorem cmpw_bd (a b c d:Int):cmpw a b c d=-1∨cmpw a b c d=0∨cmpw a b c d=1:=by
 unfold cmpw
 split
 ·split<;>simp
 ·split
  ·simp
  ·split<;>simp
theorem cmpw_self (a b:Int):cmpw a b a b=0:=by
 have:=cmpw_swap a b a b
 omega
theorem dir_ne {a b:Int}(h:dirOk a b=true):a≠0∨b≠0:=by simp[dirOk] at h;omega
/-- Not both coordinates 0. -/
def NZ (v:Int×Int):Prop:=v.1≠0∨v.2≠0
def cwv (u v:Int×Int):Int:=cmpw u.1 u.2 v.1 v.2
theorem cwv_swap (u v:Int×Int):cwv v u=- cwv u v:=cmpw_swap ..
theorem cwv_bd (u v:Int×Int):cwv u v=-1∨cwv u v=0∨cwv u v=1:=cmpw_bd ..
theorem cwv_trans {u v w:Int×Int}(hu:NZ u)(hv:NZ v)(hw:NZ w)(h1:cwv u v≤0)(h2:cwv v w≤0):cwv u w≤0:=cmpw_trans hu hv hw h1 h2
theorem cwv_self (u:Int×Int):cwv u u=0:=cmpw_self ..
theorem nz_dir {x y:Int}(h:dirOk x y=true):NZ (x,y):=dir_ne h
def Sec.fr (s:Sec):Int×Int:=(s.fx,s.fy)
def Sec.to (s:Sec):Int×Int:=(s.tx,s.ty)
def hs (s:Sec)(v:Int×Int):Bool:=s.has v.1 v.2
def shA (ss:List Sec)(v:Int×Int):Int×Int:=showAt ss v.1 v.2
theorem shA_def (ss:List Sec)(v:Int×Int):shA ss v=match ss.find? (fun s=>hs s v) with|some s=>(s.col,s.rng)|none=>(0,0):=rfl
/-- All ends of a light's sectors are no zeros. -/
def NZs (ss:List Sec):Prop:=∀s∈ss,NZ s.fr∧NZ s.to
theorem nzs_of {ss:List Sec}(h:∀s∈ss,s.ok=true):NZs ss:=fun s hs=>by
 have:=h s hs
 simp only[Sec.ok,secOk,Bool.and_eq_true] at this
 exact⟨nz_dir this.1.1.1,nz_dir this.1.1.2⟩
/-- The rank of a direction among some. -/
def rk (L:List (Int×Int))(v:Int×Int):Nat:=(L.filter fun e=>decide (cwv e v≤0)).length
theorem filter_le {α:Type}{p q:α→Bool}:∀ (l:List α),(∀a∈l,p a=true→q a=true)→(l.filter p).length≤(l.filter q).length
 | [],_=>Nat.le_refl _
 | a::l,h=>by
  have ih:=filter_le l fun b hb=>h b (by simp[hb])
  have ha:=h a (by simp)
  rw[List.filter_cons,List.filter_cons]
  cases hp:p a
  ·cases hq:q a<;>simp<;>omega
  ·rw[ha hp]
   simp
   omega
theorem filter_lt {α:Type}{p q:α→Bool}:∀ (l:List α),(∀a∈l,p a=true→q a=true)→(∃a∈l,p a=false∧q a=true)→(l.filter p).length<(l.filter q).length
 | [],_,h=>by obtain⟨a,ha,_⟩:=h;cases ha
 | a::l,h,hx=>by
  have hle:=filter_le l fun b hb=>h b (by simp[hb])
  have ha:=h a (by simp)
  rw[List.filter_cons,List.filter_cons]
  cases hp:p a
  ·cases hq:q a
   ·obtain⟨b,hb,hpb,hqb⟩:=hx
    rcases List.mem_cons.1 hb with rfl|hb
    ·rw[hq] at hqb;cases hqb
    ·simpa using filter_lt l (fun b hb=>h b (by simp[hb])) ⟨b,hb,hpb,hqb⟩
   ·simp
    omega
  ·rw[ha hp]
   obtain⟨b,hb,hpb,hqb⟩:=hx
   rcases List.mem_cons.1 hb with rfl|hb
   ·rw[hp] at hpb;cases hpb
   ·have:=filter_lt l (fun b hb=>h b (by simp[hb])) ⟨b,hb,hpb,hqb⟩
    simpa using this
theorem rk_iff {L:List (Int×Int)}(hL:∀e∈L,NZ e){u v:Int×Int}(hu:u∈L)(hv:v∈L):cwv u v≤0↔rk L u≤rk L v:=by
 constructor
 ·intro h
  refine filter_le L fun e he hp=>?_
  rw[decide_eq_true_eq] at hp ⊢
  exact cwv_trans (hL e he) (hL u hu) (hL v hv) hp h
 ·intro h
  rcases Int.lt_or_le 0 (cwv u v) with h1|h1
  ·exfalso
   have h2:cwv v u≤0:=by rw[cwv_swap u v];omega
   have:rk L v<rk L u:=by
    refine filter_lt L (fun e he hp=>?_) ⟨u,hu,by simpa using h1,by rw[cwv_self];rfl⟩
    rw[decide_eq_true_eq] at hp ⊢
    exact cwv_trans (hL e he) (hL v hv) (hL u hu) hp h2
   omega
  ·exact h1
theorem rk_cases {L:List (Int×Int)}(hL:∀e∈L,NZ e){u v:Int×Int}(hu:u∈L)(hv:v∈L):(cwv u v=-1∧rk L u<rk L v)∨(cwv u v=0∧rk L u=rk L v)∨(cwv u v=1∧rk L v<rk L u):=by
 have h1:=rk_iff hL hu hv
 have h2:=rk_iff hL hv hu
 rw[cwv_swap u v] at h2
 rcases cwv_bd u v with h|h|h<;>rw[h] at h1 h2<;>simp[h] at h1 h2 ⊢ <;> omega
theorem find_congr {ss:List Sec}{p q:Sec→Bool}(h:∀s∈ss,p s=q s):ss.find? p=ss.find? q:=by
 induction ss with
 | nil=>rfl
 | cons s ss ih =>
  rw[List.find?_cons,List.find?_cons,h s (by simp),ih fun t ht=>h t (by simp[ht])]
theorem holdsAt_def (sa sb:List Sec)(col:Int)(v:Int×Int):holdsAt sa sb col v = !((shA sa v).1==col&&((shA sb v).1 != col||decide ((shA sb v).2<(shA sa v).2))):=rfl
set_option maxHeartbeats 4000000
set_option maxRecDepth 100000
attribute [local go_sem] Steady steadyUpon
attribute [local go_sem ↓] hs_dr lt_add_r lt_add_r2 lt_add_r3 lt_add_r4 lt_add_r5 lt_add_r6
attribute [local go_sem] cell?_gd frozen?_gd setCell_gd size_grow tape_grow cell?_grow' frozen?_grow' setCell_grow' grow_grow grow_dr grow_drew dr_dr dr_drew drew_dr dr_alloc dr_setCell dr_cell dr_frozen dr_tape dr_drawn
attribute [local irreducible] wpSteady
theorem rDirection_any (a b:Int)(w:World):Calls Tryz.prog 172 #[pt a b] w (Ret w (.bool (dirOk a b))):=by
 go_enter Tryz.func172,Tryz.ntmps172
 go_wp2
 all_goals go_ret
 all_goals refine Ret.mk' (ret_bool ?_) gw
 all_goals (rw[Bool.eq_iff_iff];simp[dirOk];omega)
theorem rcross_any (a b c d:Int)(w:World)(ha:-4000000≤a∧a≤4000000)(hb:-4000000≤b∧b≤4000000)(hc:-4000000≤c∧c≤4000000)(hd:-4000000≤d∧d≤4000000) :
  Calls Tryz.prog 174 #[pt a b,pt c d] w (Ret w (.int .i64 (a*d-b*c))):=by
 have h1:-16000000000000≤a*d∧a*d≤16000000000000:=mul_bd 4000000 4000000 ha hd
 have h2:-16000000000000≤b*c∧b*c≤16000000000000:=mul_bd 4000000 4000000 hb hc
 go_enter Tryz.func174,Tryz.ntmps174
 go_wp2
 go_ret
 exact Ret.mk' rfl gw
def alike (a b c d:Int):Bool:=decide (a*d-b*c=0∧0<a*c+b*d)
theorem rAlike_any (a b c d:Int)(w:World)(ha:-4000000≤a∧a≤4000000)(hb:-4000000≤b∧b≤4000000)(hc:-4000000≤c∧c≤4000000)(hd:-4000000≤d∧d≤4000000) :
  Calls Tryz.prog 173 #[pt a b,pt c d] w (Ret w (.bool (alike a b c d))):=by
 have h1:-16000000000000≤a*c∧a*c≤16000000000000:=mul_bd 4000000 4000000 ha hc
 have h2:-16000000000000≤b*d∧b*d≤16000000000000:=mul_bd 4000000 4000000 hb hd
 go_enter Tryz.func173,Tryz.ntmps173
 go_wp2_with (go_at_call 174;refine crv (rcross_any _ _ _ _ _ ha hb hc hd) fun _ _=>?_;dsimp only)
 all_goals go_ret
 all_goals refine Ret.mk' (ret_bool ?_) gw
 all_goals (rw[Bool.eq_iff_iff];simp[alike];omega)
theorem rvalid_any (a b c d e f:Int)(w:World) :
  Calls Tryz.prog 136 #[sec a b c d e f] w (Ret w (.bool (secOk a b c d e f))):=by
 have hm:=hmix
 go_enter Tryz.func136,Tryz.ntmps136
 go_wp2_with (go_at_call 172;refine crv (rDirection_any _ _ _) fun _ _=>?_;dsimp only)
 all_goals go_ret
 all_goals refine Ret.mk' (ret_bool ?_) gw
 all_goals (first|(simp[secOk, *];done)|(simp[secOk, *];omega))
def hasR (a b c d x y:Int):Bool :=
 if alike a b c d||alike a b x y then true else if alike c d x y then false else
 if 0<a*y-b*x then (decide (0<x*d-y*c)||decide (a*d-b*c≤0)) else (decide (0<x*d-y*c)&&decide (a*d-b*c<0))
theorem rhas_any (a b c d x y:Int)(w:World)(ha:-4000000≤a∧a≤4000000)(hb:-4000000≤b∧b≤4000000)(hc:-4000000≤c∧c≤4000000)(hd:-4000000≤d∧d≤4000000)
  (hx:-4000000≤x∧x≤4000000) (hy:-4000000≤y∧y≤4000000) :
  Calls Tryz.prog 137 #[pt a b,pt c d,pt x y] w (Ret w (.bool (hasR a b c d x y))):=by
 have hm:=hmix
 go_enter Tryz.func137,Tryz.ntmps137
 go_wp2_with (first|(go_at_call 173;refine crv (rAlike_any _ _ _ _ _ (by assumption) (by assumption) (by assumption) (by assumption)) fun _ _=>?_;dsimp only)|(go_at_call 174;refine crv (rcross_any _ _ _ _ _ (by assumption) (by assumption) (by assumption) (by assumption)) fun _ _=>?_;dsimp only))
 all_goals go_ret
 all_goals refine Ret.mk' (ret_bool ?_) gw
 all_goals
  unfold hasR
  generalize alike a b c d=q1 at *
  generalize alike a b x y=q2 at *
  generalize alike c d x y=q3 at *
  generalize a*y=p1 at *
  generalize b*x=p2 at *
  generalize x*d=p3 at *
  generalize y*c=p4 at *
  generalize a*d=p5 at *
  generalize b*c=p6 at *
  first
   | (simp[*];done)
   | (simp[*];omega)
   | (cases q1<;>cases q2<;>cases q3<;>simp at * <;> (first|done|omega|(rw[if_neg (by omega)];simp;omega)|(rw[if_pos (by omega)];simp;omega)|(rw[if_neg (by omega)];omega)|(rw[if_pos (by omega)];omega)))
theorem dot_up {a b c d:Int}(hu:upper a b=true)(hv:upper c d=true)(h:crs a b c d=0):0<a*c+b*d:=by
 rw[upper_iff] at hu hv
 have h':a*d=b*c:=by unfold crs at h;omega
 rcases hu with hb|⟨rfl,ha⟩<;>rcases hv with hd|⟨rfl,hc⟩
 ·have h1:a*c*d=b*(c*c):=by
   rw[Int.mul_right_comm,h',Int.mul_assoc]
  have h2:0≤b*(c*c):=Int.mul_nonneg (by omega) (by rw[←Int.natAbs_mul_self' c];exact Int.natCast_nonneg _)
  have h3:0<b*d:=Int.mul_pos hb hd
  have h4:0≤a*c:=by
   rcases Int.lt_or_le (a*c) 0 with h5|h5
   ·have:=Int.mul_neg_of_neg_of_pos h5 hd
    omega
   ·exact h5
  omega
 ·exfalso
  have:=Int.mul_pos hb hc
  simp at h'
  omega
 ·exfalso
  have:=Int.mul_pos ha hd
  simp at h'
  omega
 ·have:=Int.mul_pos ha hc
  simpa using this
theorem crs_negl (a b c d:Int):crs (-a) (-b) c d=- crs a b c d:=by unfold crs;rw[Int.neg_mul,Int.neg_mul];omega
theorem crs_negr (a b c d:Int):crs a b (-c) (-d)=- crs a b c d:=by unfold crs;rw[Int.mul_neg,Int.mul_neg];omega
theorem alike_cw {a b c d:Int}(ha:a≠0∨b≠0)(hc:c≠0∨d≠0):alike a b c d=(cmpw a b c d==0):=by
 have hcw:(cmpw a b c d==0)=decide (upper a b=upper c d∧crs a b c d=0):=by
  unfold cmpw
  cases h1:upper a b<;>cases h2:upper c d<;>simp
  all_goals (split<;>(try split)<;>simp<;>omega)
 rw[hcw,Bool.eq_iff_iff]
 unfold alike
 simp only[decide_eq_true_eq]
 have e:a*d-b*c=crs a b c d:=rfl
 rw[e]
 constructor
 ·rintro⟨h1,h2⟩
  refine⟨?_,h1⟩
  cases hu:upper a b<;>cases hv:upper c d
  ·rfl
  ·exfalso
   have:=dot_up (low_neg hu ha) hv (by rw[crs_negl,h1];rfl)
   rw[Int.neg_mul,Int.neg_mul] at this
   omega
  ·exfalso
   have:=dot_up hu (low_neg hv hc) (by rw[crs_negr,h1];rfl)
   rw[Int.mul_neg,Int.mul_neg] at this
   omega
  ·rfl
 ·rintro⟨h1,h2⟩
  refine⟨h2,?_⟩
  cases hu:upper a b
  ·rw[hu] at h1
   have:=dot_up (low_neg hu ha) (low_neg h1.symm hc) (by rw[crs_neg];exact h2)
   rwa [Int.neg_mul_neg,Int.neg_mul_neg] at this
  ·rw[hu] at h1
   exact dot_up hu h1.symm h2
def nrm (v:Int×Int):Int×Int:=if upper v.1 v.2=true then v else (-v.1,-v.2)
theorem nrm_up {v:Int×Int}(h:NZ v):upper (nrm v).1 (nrm v).2=true:=by
 unfold nrm
 split
 ·assumption
 ·rename_i h1
  exact low_neg (by simpa using h1) h
theorem up_nz {v:Int×Int}(h:upper v.1 v.2=true):NZ v:=by
 rw[upper_iff] at h
 unfold NZ
 omega
theorem cwv_up {u v:Int×Int}(hu:upper u.1 u.2=true)(hv:upper v.1 v.2=true):cwv u v=if 0<crs u.1 u.2 v.1 v.2 then -1 else if crs u.1 u.2 v.1 v.2<0 then 1 else 0:=by
 unfold cwv cmpw
 rw[hu,hv]
 rfl
/-- The sign of a cross product by ranks of the directions turned up. -/
theorem crs_rk {L:List (Int×Int)}(hL:∀e∈L,NZ e){u v:Int×Int}(hu:NZ u)(hv:NZ v)(mu:nrm u∈L)(mv:nrm v∈L) :
  (upper u.1 u.2=upper v.1 v.2→(0<crs u.1 u.2 v.1 v.2↔rk L (nrm u)<rk L (nrm v))∧(crs u.1 u.2 v.1 v.2<0↔rk L (nrm v)<rk L (nrm u))) ∧
  (upper u.1 u.2≠upper v.1 v.2→(crs u.1 u.2 v.1 v.2<0↔rk L (nrm u)<rk L (nrm v))∧(0<crs u.1 u.2 v.1 v.2↔rk L (nrm v)<rk L (nrm u))):=by
 have h1:=cwv_up (nrm_up hu) (nrm_up hv)
 have h2:=rk_cases hL mu mv
 have key:(0<crs (nrm u).1 (nrm u).2 (nrm v).1 (nrm v).2↔rk L (nrm u)<rk L (nrm v))∧(crs (nrm u).1 (nrm u).2 (nrm v).1 (nrm v).2<0↔rk L (nrm v)<rk L (nrm u)):=by
  rw[h1] at h2
  split at h2
  ·omega
  ·split at h2<;>omega
 have e:crs (nrm u).1 (nrm u).2 (nrm v).1 (nrm v).2=if upper u.1 u.2=upper v.1 v.2 then crs u.1 u.2 v.1 v.2 else-crs u.1 u.2 v.1 v.2:=by
  unfold nrm
  cases a:upper u.1 u.2<;>cases b:upper v.1 v.2<;>simp[crs_neg,crs_negl,crs_negr]
 constructor
 ·intro h
  rw[if_pos h] at e
  rw[e] at key
  exact key
 ·intro h
  rw[if_neg h] at e
  rw[e] at key
  omega
theorem has_eq {f t v:Int×Int}(hf:NZ f)(ht:NZ t)(hv:NZ v):hasw f.1 f.2 t.1 t.2 v.1 v.2=hasR f.1 f.2 t.1 t.2 v.1 v.2:=by
 have hL:∀e∈[nrm f,nrm t,nrm v],NZ e:=fun e he=>by
  simp at he
  rcases he with rfl|rfl|rfl
  ·exact up_nz (nrm_up hf)
  ·exact up_nz (nrm_up ht)
  ·exact up_nz (nrm_up hv)
 have k1:=crs_rk hL hf ht (by simp) (by simp)
 have k2:=crs_rk hL hf hv (by simp) (by simp)
 have k3:=crs_rk hL ht hv (by simp) (by simp)
 have e1:f.1*v.2-f.2*v.1=crs f.1 f.2 v.1 v.2:=rfl
 have e2:v.1*t.2-v.2*t.1=- crs t.1 t.2 v.1 v.2:=crs_swap t.1 t.2 v.1 v.2
 have e3:f.1*t.2-f.2*t.1=crs f.1 f.2 t.1 t.2:=rfl
 unfold hasw hasR
 rw[alike_cw hf ht,alike_cw hf hv,alike_cw ht hv,e1,e2,e3]
 generalize rk [nrm f,nrm t,nrm v] (nrm f)=p at *
 generalize rk [nrm f,nrm t,nrm v] (nrm t)=q at *
 generalize rk [nrm f,nrm t,nrm v] (nrm v)=r at *
 unfold cmpw
 generalize crs f.1 f.2 t.1 t.2=A at *
 generalize crs f.1 f.2 v.1 v.2=B at *
 generalize crs t.1 t.2 v.1 v.2=C at *
 clear e1 e2 e3 hL
 cases a:upper f.1 f.2<;>cases b:upper t.1 t.2<;>cases c:upper v.1 v.2<;>simp only[a,b,c] at k1 k2 k3 ⊢ <;> simp at k1 k2 k3 ⊢
 all_goals
  obtain⟨k11,k12⟩:=k1
  obtain⟨k21,k22⟩:=k2
  obtain⟨k31,k32⟩:=k3
  by_cases a1:0<A<;>by_cases a2:A<0<;>by_cases b1:0<B<;>by_cases b2:B<0<;>by_cases c1:0<C<;>by_cases c2:C<0<;>first|(exfalso;omega)|(simp[a1,a2,b1,b2,c1,c2];done)|(simp[a1,a2,b1,b2,c1,c2];omega)
theorem hs_hasS {s:Sec}(h1:NZ s.fr)(h2:NZ s.to){v:Int×Int}(hv:NZ v):hs s v=hasR s.fx s.fy s.tx s.ty v.1 v.2:=has_eq h1 h2 hv
theorem rhas_v {a b c d x y:Int}(r:Bool)(w:World)(h:hasR a b c d x y=r)(ha:-4000000≤a∧a≤4000000)(hb:-4000000≤b∧b≤4000000)(hc:-4000000≤c∧c≤4000000)(hd:-4000000≤d∧d≤4000000)
  (hx:-4000000≤x∧x≤4000000) (hy:-4000000≤y∧y≤4000000) :
  Calls Tryz.prog 137 #[pt a b,pt c d,pt x y] w (Ret w (.bool r)):=by
 have:=rhas_any a b c d x y w ha hb hc hd hx hy
 rwa [h] at this
theorem clash_R {s t:Sec}(hs':s.ok=true)(ht:t.ok=true):(hasR s.fx s.fy s.tx s.ty t.fx t.fy||hasR t.fx t.fy t.tx t.ty s.fx s.fy)=clash s t:=by
 have ns:=nzs_of (ss:=[s]) (by simpa using hs') s (by simp)
 have nt:=nzs_of (ss:=[t]) (by simpa using ht) t (by simp)
 have e1:=hs_hasS ns.1 ns.2 nt.1
 have e2:=hs_hasS nt.1 nt.2 ns.1
 show _=(hs s t.fr||hs t s.fr)
 rw[e1,e2]
 rfl
theorem s5Valid_any (ss:List Sec)(A:Option Addr)(c:Nat)(w:World)(hr:Rd w w.heap.size 6 A (ss.map Sec.cells))(hc:ss.length≤100000000000000) :
  Calls Tryz.prog 87 #[.slice A ss.length c] w (Ret w (.bool (LValid ss))):=by
 have hm:=hmix
 by_cases h12:12<ss.length
 ·go_enter Tryz.func87,Tryz.ntmps87
  go_wp2_with fail
  go_ret
  exact Ret.mk' (ret_bool (LValid_not fun h=>by have:=h.2;omega)) gw
 ·go_enter Tryz.func87,Tryz.ntmps87
  go_wp2_with fail
  go_loopw [3] (fun i wr=>∃k:Nat,k≤ss.length∧i=.int .i64 k∧Grew w wr∧GoodTo ss k) (fun i _=>ss.length-(intOf i).toNat)
  case atStart=>exact⟨0,by omega,rfl,gw,fun i _ hi=>by omega⟩
  case round =>
   obtain⟨k,hk,rfl,hg,hgood⟩:=hrel
   have HG:=hide hgood
   clear hgood
   have HW:=hide hg
   clear hg
   by_cases hlt:k<ss.length
   ·obtain⟨s,hs'⟩:∃s,ss[k]?=some s:=⟨_,List.getElem?_eq_getElem hlt⟩
    obtain⟨b,off,hA,hb,h0,h1,h2,h3,h4,h5⟩:=secAt (hr.up HW.out) hs'
    have HS:=hide hs'
    clear hs'
    have hix:=idx_run (cap:=c) Tryz.underlying52 Tryz.sizeOf108 hA.out hlt
    cases hok:Sec.ok s
    ·have k1:=hide (show ∀W,Calls Tryz.prog 136 #[sec s.fx s.fy s.tx s.ty s.col s.rng] W (Ret W (.bool false)) from fun W=>by have:=rvalid_any s.fx s.fy s.tx s.ty s.col s.rng W;rwa [show secOk s.fx s.fy s.tx s.ty s.col s.rng=false from hok] at this)
     have HO:=hide hok
     clear hok
     go_wp2_with (go_at_call 136;with_reducible refine crv (k1.out _) fun _ _=>?_;dsimp only)
     go_ret
     exact Ret.mk' (ret_bool (lv_no1 HS.out (by rw[HO.out];simp))) (HW.out.trans gw)
    ·have k1:=hide (show ∀W,Calls Tryz.prog 136 #[sec s.fx s.fy s.tx s.ty s.col s.rng] W (Ret W (.bool true)) from fun W=>by have:=rvalid_any s.fx s.fy s.tx s.ty s.col s.rng W;rwa [show secOk s.fx s.fy s.tx s.ty s.col s.rng=true from hok] at this)
     have hbd:=sok_bd hok
     have HO:=hide hok
     clear hok
     go_wp2_with (go_at_call 136;with_reducible refine crv (k1.out _) fun _ _=>?_;dsimp only)
     clear h0 h1 h2 h3 h4 h5 hix
     go_loopw [5] (fun i wi=>∃j:Nat,j≤k∧i=.int .i64 j∧Grew wr wi∧GoodAt ss s j) (fun i _=>k-(intOf i).toNat)
     case atStart=>exact⟨0,by omega,rfl,gw,fun i _ hi=>by omega⟩
     case round =>
      obtain⟨j,hj,rfl,hg,hgood⟩:=hrel
      have HG2:=hide hgood
      clear hgood
      have HW2:=hide hg
      clear hg
      by_cases hjt:j<k
      ·obtain⟨t,ht⟩:∃t,ss[j]?=some t:=⟨_,List.getElem?_eq_getElem (by omega)⟩
       have hjl:j<ss.length:=by omega
       obtain⟨b,off,hA,hb,h0,h1,h2,h3,h4,h5⟩:=secAt ((hr.up HW.out).up HW2.out) HS.out
       obtain⟨b',off',hA',hb',g0,g1,g2,g3,g4,g5⟩:=secAt ((hr.up HW.out).up HW2.out) ht
       have hix:=idx_run (cap:=c) Tryz.underlying52 Tryz.sizeOf108 hA.out hlt
       have hix2:=idx_run (cap:=c) Tryz.underlying52 Tryz.sizeOf108 hA'.out hjl
       have tok:=(HG.out j t hjt ht).1
       have tbd:=sok_bd tok
       have HT:=hide ht
       have hcl:=clash_R HO.out tok
       clear ht tok
       cases hc1:hasR s.fx s.fy s.tx s.ty t.fx t.fy
       ·cases hc2:hasR t.fx t.fy t.tx t.ty s.fx s.fy
        ·have q1:=hide (fun W=>rhas_v false W hc1 hbd.1 hbd.2.1 hbd.2.2.1 hbd.2.2.2 tbd.1 tbd.2.1)
         have q2:=hide (fun W=>rhas_v false W hc2 tbd.1 tbd.2.1 tbd.2.2.1 tbd.2.2.2 hbd.1 hbd.2.1)
         rw[hc1,hc2] at hcl
         have HCL:=hide hcl
         clear hcl hc1 hc2
         go_wp2_with fail
         refine wp_region_qas 34 [] [] hm (h:=?_)
         repeat (refine wpSteady_step (fun K hK=>?_);go_simp;first|(refine hK _ ?_;clear hK K)|(apply Exists.intro;refine⟨fun _=>?_,hK _ ?_⟩;(go_at_call 137;first|with_reducible exact q1.out _|with_reducible exact q2.out _);clear hK K))
         refine rq0 fun nq osq=>?_
         try simp only[Act.put,setA]
         try dsimp only
         go_wp2_with fail
         go_roundw
         case rel=>exact⟨j+1,by omega,by go_num,HW2.out.trans gw,goodAt_step HG2.out HT.out HCL.out.symm⟩
         case measure=>simp[intOf];omega
        ·have q1:=hide (fun W=>rhas_v false W hc1 hbd.1 hbd.2.1 hbd.2.2.1 hbd.2.2.2 tbd.1 tbd.2.1)
         have q2:=hide (fun W=>rhas_v true W hc2 tbd.1 tbd.2.1 tbd.2.2.1 tbd.2.2.2 hbd.1 hbd.2.1)
         rw[hc1,hc2] at hcl
         have HCL:=hide hcl
         clear hcl hc1 hc2
         go_wp2_with fail
         refine wp_region_qas 34 [] [] hm (h:=?_)
         repeat (refine wpSteady_step (fun K hK=>?_);go_simp;first|(refine hK _ ?_;clear hK K)|(apply Exists.intro;refine⟨fun _=>?_,hK _ ?_⟩;(go_at_call 137;first|with_reducible exact q1.out _|with_reducible exact q2.out _);clear hK K))
         refine rq0 fun nq osq=>?_
         try simp only[Act.put,setA]
         try dsimp only
         go_wp2_with fail
         go_ret
         exact Ret.mk' (ret_bool (lv_no2 HS.out HT.out hjt HCL.out.symm)) ((HW.out.trans HW2.out).trans gw)
       ·have q1:=hide (fun W=>rhas_v true W hc1 hbd.1 hbd.2.1 hbd.2.2.1 hbd.2.2.2 tbd.1 tbd.2.1)
        rw[hc1] at hcl
        have HCL:=hide hcl
        clear hcl hc1
        go_wp2_with fail
        refine wp_region_qas 34 [] [] hm (h:=?_)
        repeat (refine wpSteady_step (fun K hK=>?_);go_simp;first|(refine hK _ ?_;clear hK K)|(apply Exists.intro;refine⟨fun _=>?_,hK _ ?_⟩;(go_at_call 137;with_reducible exact q1.out _);clear hK K))
        refine rq0 fun nq osq=>?_
        try simp only[Act.put,setA]
        try dsimp only
        go_wp2_with fail
        go_ret
        exact Ret.mk' (ret_bool (lv_no2 HS.out HT.out hjt HCL.out.symm)) ((HW.out.trans HW2.out).trans gw)
      ·obtain rfl:j=k:=by omega
       go_wp2_with fail
       go_roundw
       case rel=>exact⟨j+1,by omega,by go_num,HW.out.trans HW2.out,good_step HG.out HS.out HO.out HG2.out⟩
       case measure=>simp[intOf];omega
   ·obtain rfl:k=ss.length:=by omega
    go_wp2_with fail
    go_ret
    refine Ret.mk' (ret_bool ?_) HW.out
    symm
    rw[LValid_iff]
    exact⟨HG.out,by omega⟩
theorem s5Valid_v (ss:List Sec)(A:Option Addr)(c:Nat)(r:Bool)(w:World)(hr:Rd w w.heap.size 6 A (ss.map Sec.cells))(hc:ss.length≤100000000000000)(h:LValid ss=r) :
  Calls Tryz.prog 87 #[.slice A ss.length c] w (Ret w (.bool r)):=by
 have:=s5Valid_any ss A c w hr hc
 rwa [h] at this
set_option maxHeartbeats 4000000
set_option maxRecDepth 100000
theorem s5Info:(Tryz.prog.info? 26).map (fun i=>(i.zero,i.size,i.bytes))=some (some (.agg #[.int .i64 0,.int .i64 0]),2,16):=by kernel_rfl
theorem s5Info_parts {z:Value}{n b:Nat}(h:(Tryz.prog.info? 26).map (fun i=>(i.zero,i.size,i.bytes))=some (some z,n,b)):∃i,Tryz.prog.info? 26=some i∧i.zero=some z∧i.size=n∧i.bytes=b:=by
 cases hi:Tryz.prog.info? 26 with
 | none=>rw[hi] at h;simp at h
 | some i =>
  rw[hi] at h
  simp at h
  exact⟨i,rfl,h.1,h.2.1,h.2.2⟩
theorem s5own_grew {w w':World}{base:Nat}{e:TypeId}{size:Nat}{v:Value}{n:Nat}{xs:List Value}(h:w.ownsRow base e size v n xs)(hg:Grew w w'):w'.ownsRow base e size v n xs :=
 h.kept (hg.grownBy none) (Decidable.em _)
theorem s5own_slice {X:World}{base:Nat}{e:TypeId}{size:Nat}{v:Value}{n:Nat}{xs:List Value}(h:X.ownsRow base e size v n xs):∃A c,v=.slice A n c∧n≤c:=by
 rcases h.2 with⟨rfl,rfl⟩|⟨g,cap,cur,rfl,_,_,hn,_⟩
 ·exact⟨none,0,rfl,Nat.le_refl _⟩
 ·exact⟨_,_,rfl,hn⟩
def hasS (x y:Int)(s:Sec):Bool:=hasR s.fx s.fy s.tx s.ty x y
def atR (ss:List Sec)(x y:Int):Int×Int:=match ss.find? (hasS x y) with|some s=>(s.col,s.rng)|none=>(0,0)
theorem s5find_none {ss:List Sec}{p:Sec→Bool}(h:∀ (j:Nat) (s:Sec),ss[j]?=some s→p s=false):ss.find? p=none:=by
 rw[List.find?_eq_none]
 intro s hs
 obtain⟨j,hj⟩:=List.getElem?_of_mem hs
 simp[h j s hj]
theorem s5find_at {p:Sec→Bool}:∀ {ss:List Sec} {k:Nat} {s:Sec},ss[k]?=some s→p s=true→(∀ (j:Nat) (t:Sec),j<k→ss[j]?=some t→p t=false)→ss.find? p=some s
 | [],_,_,h,_,_=>by simp at h
 | t::ss,0,s,h,hp,_=>by simp at h;subst h;simp[hp]
 | t::ss,k+1,s,h,hp,hn=>by
  have h0:=hn 0 t (by omega) rfl
  rw[List.find?_cons_of_neg (by simp[h0])]
  exact s5find_at (k:=k) (by simpa using h) hp fun j u hj hu=>hn (j+1) u (by omega) (by simpa using hu)
theorem rAt_any (ss:List Sec)(A:Option Addr)(c:Nat)(x y:Int)(w:World)(hr:Rd w w.heap.size 6 A (ss.map Sec.cells))(hl:ss.length≤c)(hc:ss.length≤100000000000000)(hok:∀s∈ss,s.ok=true)
  (hx:-4000000≤x∧x≤4000000) (hy:-4000000≤y∧y≤4000000) :
  Calls Tryz.prog 116 #[.slice A ss.length c,pt x y] w (Ret w (pt (atR ss x y).1 (atR ss x y).2)):=by
 have hm:=hmix
 have HO:=hide hok
 clear hok
 obtain⟨q,hq⟩:∃q,atR ss x y=q:=⟨_,rfl⟩
 rw[hq]
 have HQ:=hide hq
 clear hq
 go_enter Tryz.func116,Tryz.ntmps116
 go_wp2_with fail
 go_loopw [5] (fun i wr=>∃k:Nat,k≤ss.length∧i=.int .i64 k∧Grew ((w.alloc (.cells #[.int .i64 x,.int .i64 y] 26)).alloc (.cells #[.int .i64 0,.int .i64 0] 145)) wr∧∀ (j:Nat) (t:Sec),j<k→ss[j]?=some t→hasS x y t=false) (fun i _=>ss.length-(intOf i).toNat)
 case atStart=>exact⟨0,by omega,rfl,gw,fun j t hj=>by omega⟩
 case round =>
  obtain⟨k,hk,rfl,⟨⟨n,os⟩,rfl⟩,hgood⟩:=hrel
  have HG:=hide hgood
  clear hgood
  by_cases hlt:k<ss.length
  ·obtain⟨s,hs⟩:∃s,ss[k]?=some s:=⟨_,List.getElem?_eq_getElem hlt⟩
   obtain⟨b,off,hA,hb,h0,h1,h2,h3,h4,h5⟩:=secAt hr hs
   have hbd:=sok_bd (HO.out s (List.mem_of_getElem? hs))
   have HS:=hide hs
   clear hs
   have hix:=idx_run (cap:=c) Tryz.underlying52 Tryz.sizeOf108 hA.out hlt
   cases h6:hasS x y s
   ·have hcon:∀W,Calls Tryz.prog 137 #[pt s.fx s.fy,pt s.tx s.ty,pt x y] W (Ret W (.bool false)):=fun W=>by
     have h:=rhas_any s.fx s.fy s.tx s.ty x y W hbd.1 hbd.2.1 hbd.2.2.1 hbd.2.2.2 hx hy
     rwa [show hasR s.fx s.fy s.tx s.ty x y=false from h6] at h
    go_wp2_with fail
    refine wp_region_qas 12 [] [] hm (h:=?_)
    repeat (refine wpSteady_step (fun K hK=>?_);go_simp;first|(refine hK _ ?_;clear hK K)|(apply Exists.intro;refine⟨fun _=>?_,hK _ ?_⟩;(go_at_call 137;exact hcon _);clear hK K))
    refine rq0 fun nq osq=>?_
    try simp only[Act.put,setA]
    try dsimp only
    go_wp2_with fail
    go_roundw
    case rel =>
     refine⟨k+1,by omega,by go_num,gw,fun j t hj ht=>?_⟩
     by_cases hjk:j=k
     ·subst hjk
      rw[HS.out] at ht
      injection ht with ht
      rw[←ht]
      exact h6
     ·exact HG.out j t (by omega) ht
    case measure=>simp[intOf];omega
   ·have hcon:∀W,Calls Tryz.prog 137 #[pt s.fx s.fy,pt s.tx s.ty,pt x y] W (Ret W (.bool true)):=fun W=>by
     have h:=rhas_any s.fx s.fy s.tx s.ty x y W hbd.1 hbd.2.1 hbd.2.2.1 hbd.2.2.2 hx hy
     rwa [show hasR s.fx s.fy s.tx s.ty x y=true from h6] at h
    have hf:=s5find_at HS.out h6 HG.out
    have hqv:q=(s.col,s.rng):=by rw[←HQ.out];unfold atR;rw[hf]
    subst hqv
    clear hf
    go_wp2_with fail
    refine wp_region_qas 12 [] [] hm (h:=?_)
    repeat (refine wpSteady_step (fun K hK=>?_);go_simp;first|(refine hK _ ?_;clear hK K)|(apply Exists.intro;refine⟨fun _=>?_,hK _ ?_⟩;(go_at_call 137;exact hcon _);clear hK K))
    refine rq0 fun nq osq=>?_
    try simp only[Act.put,setA]
    try dsimp only
    go_wp2_with fail
    refine wp_region_qas 11 [] [] hm (h:=?_)
    repeat (refine wpSteady_step (fun K hK=>?_);go_simp;refine hK _ ?_;clear hK K)
    refine rq0 fun nqz osqz=>?_
    try simp only[Act.put,setA]
    try dsimp only
    go_wp2
    refine bodyPost_ret (v:=pt s.col s.rng) (by simp[results,Tryz.results116,go_sem]) rfl ?_
    exact Ret.mk' rfl gw
  ·obtain rfl:k=ss.length:=by omega
   have hf:=s5find_none (p:=hasS x y) fun j t ht=>HG.out j t (List.getElem?_eq_some_iff.1 ht).1 ht
   have hqv:q=(0,0):=by rw[←HQ.out];unfold atR;rw[hf]
   subst hqv
   clear hf
   go_wp2
   refine bodyPost_ret (v:=pt 0 0) (by simp[results,Tryz.results116,go_sem]) rfl ?_
   exact Ret.mk' rfl gw
theorem atR_eq {ss:List Sec}(hok:∀s∈ss,s.ok=true){x y:Int}(hv:NZ (x,y)):atR ss x y=shA ss (x,y):=by
 have hn:=nzs_of hok
 unfold atR
 rw[shA_def,find_congr (p:=hasS x y) (q:=fun s=>hs s (x,y)) fun s hs'=>(hs_hasS (hn s hs').1 (hn s hs').2 hv).symm]
 try rfl
theorem rAt_v (ss:List Sec)(A:Option Addr)(c:Nat)(x y:Int)(q:Int×Int)(w:World)(hr:Rd w w.heap.size 6 A (ss.map Sec.cells))(hl:ss.length≤c)(hc:ss.length≤100000000000000)(hok:∀s∈ss,s.ok=true)
  (hx:-4000000≤x∧x≤4000000) (hy:-4000000≤y∧y≤4000000) (hn:NZ (x,y)) (h:shA ss (x,y)=q) :
  Calls Tryz.prog 116 #[.slice A ss.length c,pt x y] w (Ret w (pt q.1 q.2)):=by
 have:=rAt_any ss A c x y w hr hl hc hok hx hy
 rwa [atR_eq hok hn,h] at this
theorem below_own {w W w1:World}{e:TypeId}{size n:Nat}{v:Value}{xs:List Value}(hb:Below w.heap.size w W)(hown:W.ownsRow w.heap.size e size v n xs)(hg:W.grownBy w1 v.ownBlock):Below w.heap.size w w1 :=
 hb.grown hg hb.size fun q hq=>(hown.lt q hq).1
theorem turns_app (a b:List Sec):turnsOf (a++b)=turnsOf a++turnsOf b:=by unfold turnsOf;rw[List.flatMap_append]
theorem rTurns_any (sa sb:List Sec)(A A':Option Addr)(c c':Nat)(w:World)(hra:Rd w w.heap.size 6 A (sa.map Sec.cells))(hrb:Rd w w.heap.size 6 A' (sb.map Sec.cells))(hla:sa.length≤1000)(hlb:sb.length≤1000) :
  Calls Tryz.prog 115 #[.slice A sa.length c,.slice A' sb.length c'] w fun e w'=>∃v,e=.returned v∧w'.ownsRow w.heap.size 26 2 v (turnsOf (sa++sb)).length ((turnsOf (sa++sb)).flatMap encD)∧Grew w w':=by
 have hm:=hmix
 obtain⟨i0,hi,hz0,hz1,hz2⟩:=s5Info_parts s5Info
 go_enter Tryz.func115,Tryz.ntmps115
 go_wp2_with fail
 go_loopw [5,6] (fun v i wr=>∃k:Nat,k≤sa.length∧i=.int .i64 k∧wr.ownsRow w.heap.size 26 2 v (turnsOf (sa.take k)).length ((turnsOf (sa.take k)).flatMap encD)∧Below w.heap.size w wr) (fun _ i _=>sa.length-(intOf i).toNat)
 case atStart=>exact⟨0,by omega,rfl,World.ownsRow_nil _ _ _ _,Below.refl _ _⟩
 case round =>
  obtain⟨k,hk,rfl,hown,hbel⟩:=hrel
  by_cases hlt:k<sa.length
  ·obtain⟨s,hs⟩:∃s,sa[k]?=some s:=⟨_,List.getElem?_eq_getElem hlt⟩
   obtain⟨b,off,hA,hb,h0,h1,h2,h3,h4,h5⟩:=secAt (hra.up (Grew.of_below hbel)) hs
   have hix:=idx_run (cap:=c) Tryz.underlying52 Tryz.sizeOf108 hA.out hlt
   have HST:=hide (turns_snoc hs)
   have htl:=turns_len (sa.take k)
   have hbs:=hbel.size
   rw[List.length_take] at htl
   obtain⟨tl,htl2⟩:∃tl,turnsOf (sa.take k)=tl:=⟨_,rfl⟩
   rw[htl2] at HST hown htl
   have HO:=hide hown
   have HB:=hide hbel
   have htl3:tl.length≤2000:=by omega
   clear hs hown hbel htl2 htl
   go_wp2_with fail
   refine wp_region_qas 12 [] [⟨11,25,2,26,fun a=>(a.eval (Operand.tmp 19)).cells++(a.eval (Operand.tmp 24)).cells⟩] hm (h:=?_)
   repeat (refine wpSteady_step (fun K hK=>?_);go_simp;refine hK _ ?_;clear hK K)
   refine wpSteady_nil ?_
   refine⟨StOk.nil,(LyOk.cons (by rfl) (fun W=>by first|(go_simp;done)|rfl) LyOk.nil),?_⟩
   rintro psq qsq Wq HWq HFq HBq
   obtain⟨b0,_,rfl,hq0,gb0,rfl⟩:=HBq
   simp[Act.eval,Value.cells] at gb0
   have gbl0:=blk_lt gb0
   obtain rfl:psq=[]:=HFq
   simp only[putAll,putB,Act.put,setA]
   have oc:=old_cell HWq
   have of:=old_frozen HWq
   have ol:=old_lt HWq
   replace HWq:=hide HWq
   refine wpList_append_own Wq rfl (.tmp 14) (.tmp 25) 51 rfl w.heap.size 26 i0 _ 2 16 Tryz.underlying51 hi hz0 hz1 hz2 (by rfl) (by omega) _ tl.length _ (by rfl) (s5own_grew HO.out HWq.out) ⟨b0,0,none⟩ 2 2 (encD (s.fx,s.fy)++encD (s.tx,s.ty)) (by rfl) (by rfl)
    (fun j x hx=>by rw[add_at,Nat.zero_add,blk_cell gb0];simpa[encD] using hx) (fun x hx=>by simp[encD] at hx;rcases hx with rfl|rfl|rfl|rfl<;>rfl) (by unfold maxLen;omega) (by omega) (Nat.le_trans hbs HWq.out.below.size) ?_
   intro v' w1 hown1 hg1 _
   have hbw:=below_own (HB.out.trans (HWq.out.below.mono hbs)) (s5own_grew HO.out HWq.out) hg1
   have HBW:=hide hbw
   have HO1:=hide hown1
   clear hbw hown1 hg1
   go_wp2_with fail
   go_roundw
   case rel=>exact⟨k+1,by omega,by go_num,by rw[HST.out,List.length_append,List.flatMap_append];simpa using HO1.out,HBW.out⟩
   case measure=>simp[intOf];omega
  ·obtain rfl:k=sa.length:=by omega
   rw[List.take_length] at hown
   have HO0:=hide hown
   have HB0:=hide hbel
   obtain⟨A5,c5,rfl,hc5⟩:=s5own_slice hown
   clear hown hbel
   go_wp2_with fail
   go_loopw [5,7] (fun v i wq=>∃k:Nat,k≤sb.length∧i=.int .i64 k∧wq.ownsRow w.heap.size 26 2 v (turnsOf (sa++sb.take k)).length ((turnsOf (sa++sb.take k)).flatMap encD)∧Below w.heap.size w wq) (fun _ i _=>sb.length-(intOf i).toNat)
   case atStart=>exact⟨0,by omega,rfl,by rw[List.take_zero,List.append_nil];exact HO0.out,HB0.out⟩
   case round =>
    obtain⟨k,hk,rfl,hown,hbel⟩:=hrel
    by_cases hlt:k<sb.length
    ·obtain⟨s,hs⟩:∃s,sb[k]?=some s:=⟨_,List.getElem?_eq_getElem hlt⟩
     obtain⟨b,off,hA,hb,h0,h1,h2,h3,h4,h5⟩:=secAt (hrb.up (Grew.of_below hbel)) hs
     have hix:=idx_run (cap:=c') Tryz.underlying52 Tryz.sizeOf108 hA.out hlt
     have hst:turnsOf (sa++sb.take (k+1))=turnsOf (sa++sb.take k)++[(s.fx,s.fy),(s.tx,s.ty)]:=by
      rw[turns_app,turns_app,turns_snoc hs,List.append_assoc]
     have HST:=hide hst
     have htl:=turns_len (sa++sb.take k)
     have hbs:=hbel.size
     rw[List.length_append,List.length_take] at htl
     obtain⟨tl,htl2⟩:∃tl,turnsOf (sa++sb.take k)=tl:=⟨_,rfl⟩
     rw[htl2] at HST hown htl
     have HO:=hide hown
     have HB:=hide hbel
     have htl3:tl.length≤4000:=by omega
     clear hs hown hbel htl2 htl hst
     go_wp2_with fail
     refine wp_region_qas 12 [] [⟨11,44,2,26,fun a=>(a.eval (Operand.tmp 38)).cells++(a.eval (Operand.tmp 43)).cells⟩] hm (h:=?_)
     repeat (refine wpSteady_step (fun K hK=>?_);go_simp;refine hK _ ?_;clear hK K)
     refine wpSteady_nil ?_
     refine⟨StOk.nil,(LyOk.cons (by rfl) (fun W=>by first|(go_simp;done)|rfl) LyOk.nil),?_⟩
     rintro psq qsq Wq HWq HFq HBq
     obtain⟨b0,_,rfl,hq0,gb0,rfl⟩:=HBq
     simp[Act.eval,Value.cells] at gb0
     have gbl0:=blk_lt gb0
     obtain rfl:psq=[]:=HFq
     simp only[putAll,putB,Act.put,setA]
     have oc:=old_cell HWq
     have of:=old_frozen HWq
     have ol:=old_lt HWq
     replace HWq:=hide HWq
     refine wpList_append_own Wq rfl (.tmp 33) (.tmp 44) 51 rfl w.heap.size 26 i0 _ 2 16 Tryz.underlying51 hi hz0 hz1 hz2 (by rfl) (by omega) _ tl.length _ (by rfl) (s5own_grew HO.out HWq.out) ⟨b0,0,none⟩ 2 2 (encD (s.fx,s.fy)++encD (s.tx,s.ty)) (by rfl) (by rfl)
      (fun j x hx=>by rw[add_at,Nat.zero_add,blk_cell gb0];simpa[encD] using hx) (fun x hx=>by simp[encD] at hx;rcases hx with rfl|rfl|rfl|rfl<;>rfl) (by unfold maxLen;omega) (by omega) (Nat.le_trans hbs HWq.out.below.size) ?_
     intro v' w1 hown1 hg1 _
     have hbw:=below_own (HB.out.trans (HWq.out.below.mono hbs)) (s5own_grew HO.out HWq.out) hg1
     have HBW:=hide hbw
     have HO1:=hide hown1
     clear hbw hown1 hg1
     go_wp2_with fail
     go_roundw
     case rel=>exact⟨k+1,by omega,by go_num,by rw[HST.out,List.length_append,List.flatMap_append];simpa using HO1.out,HBW.out⟩
     case measure=>simp[intOf];omega
    ·obtain rfl:k=sb.length:=by omega
     rw[List.take_length] at hown
     obtain⟨A6,c6,rfl,hc6⟩:=s5own_slice hown
     have HO:=hide hown
     have HB:=hide hbel
     clear hown hbel
     go_wp2_with fail
     go_ret
     exact⟨_,rfl,HO.out,Grew.of_below HB.out⟩
theorem saf_l4 {sa sb:List Sec}{tl:List (Int×Int)}(hT:turnsOf (sa++sb)=tl)(ha:LValid sa=true)(hb:LValid sb=true)(k:Nat)(t:Int×Int)(h:tl[k]?=some t):dirOk t.1 t.2=true:=by
 have ht:=List.mem_of_getElem? h
 rw[←hT] at ht
 unfold turnsOf at ht
 obtain⟨s,hs,he⟩:=List.mem_flatMap.1 ht
 have hok:s.ok=true:=(List.mem_append.1 hs).elim ((LV_ok ha).1 s) ((LV_ok hb).1 s)
 simp only[Sec.ok,secOk,Bool.and_eq_true] at hok
 simp at he
 rcases he with rfl|rfl
 ·exact hok.1.1.1
 ·exact hok.1.1.2
theorem holdsAt_or {sa sb:List Sec}{x y c r d s col:Int}(hcr:shA sa (x,y)=(c,r))(hds:shA sb (x,y)=(d,s)) :
  ((c==col)=false∧holdsAt sa sb col (x,y)=true)∨(c=col∧(d==col)=false∧holdsAt sa sb col (x,y)=false)∨(c=col∧d=col∧decide (s<r)=true∧holdsAt sa sb col (x,y)=false)∨(c=col∧d=col∧decide (s<r)=false∧holdsAt sa sb col (x,y)=true):=by
 rw[holdsAt_def,hcr,hds]
 by_cases h1:c=col
 ·by_cases h2:d=col
  ·by_cases h3:s<r<;>simp[h1,h2,h3]
  ·simp[h1,h2]
 ·simp[h1]
def HoldT (sa sb:List Sec)(col:Int)(tl:List (Int×Int))(k:Nat):Prop:=∀ (j:Nat) (t:Int×Int),j<k→tl[j]?=some t→holdsAt sa sb col t=true
theorem rHolds_no (sa sb:List Sec)(A A':Option Addr)(c c':Nat)(col:Int)(w:World)(hra:Rd w w.heap.size 6 A (sa.map Sec.cells))(hrb:Rd w w.heap.size 6 A' (sb.map Sec.cells))(hla:sa.length≤c)(hlb:sb.length≤c')(hc:sa.length≤100000000000000)(hc':sb.length≤100000000000000)
  (h:(LValid sa&&LValid sb&&colOk col)=false) :
  Calls Tryz.prog 76 #[.slice A sa.length c,.slice A' sb.length c',.int .i64 col] w (Ret w (.tuple #[.bool false,.int .i64 1])):=by
 have hm:=hmix
 obtain⟨va,hva⟩:∃v,LValid sa=v:=⟨_,rfl⟩
 obtain⟨vb,hvb⟩:∃v,LValid sb=v:=⟨_,rfl⟩
 rw[hva,hvb] at h
 have k1:=hide (fun W (hg:Grew w W)=>s5Valid_v sa A c va W (hra.up hg) hc hva)
 have k2:=hide (fun W (hg:Grew w W)=>s5Valid_v sb A' c' vb W (hrb.up hg) hc' hvb)
 clear hva hvb
 have hcase:va=false∨(va=true∧vb=false)∨(va=true∧vb=true∧decide (col<1)=true)∨(va=true∧vb=true∧decide (col<1)=false∧decide (3<col)=true):=by
  cases va
  ·exact .inl rfl
  ·cases vb
   ·exact .inr (.inl ⟨rfl,rfl⟩)
   ·simp[colOk] at h
    by_cases h1:col<1
    ·exact .inr (.inr (.inl ⟨rfl,rfl,by simpa using h1⟩))
    ·exact .inr (.inr (.inr ⟨rfl,rfl,by simpa using h1,by simp;omega⟩))
 clear h
 rcases hcase with rfl|⟨rfl,rfl⟩|⟨rfl,rfl,h5⟩|⟨rfl,rfl,h5,h6⟩
 all_goals
  go_enter Tryz.func76,Tryz.ntmps76
  go_wp2_with (first|(go_at_call 87;with_reducible refine crv (k1.out _ gw) fun _ _=>?_;dsimp only)|(go_at_call 87;with_reducible refine crv (k2.out _ gw) fun _ _=>?_;dsimp only))
  go_ret2
  exact Ret.mk' rfl gw
theorem rHolds_yes (sa sb:List Sec)(A A':Option Addr)(c c':Nat)(col:Int)(w:World)(hra:Rd w w.heap.size 6 A (sa.map Sec.cells))(hrb:Rd w w.heap.size 6 A' (sb.map Sec.cells))(hla:sa.length≤c)(hlb:sb.length≤c')(hc:sa.length≤100000000000000)(hc':sb.length≤100000000000000)
  (va:LValid sa=true) (vb:LValid sb=true) (h3:1≤col∧col≤3) :
  Calls Tryz.prog 76 #[.slice A sa.length c,.slice A' sb.length c',.int .i64 col] w (Ret w (.tuple #[.bool ((turnsOf (sa++sb)).all (holdsAt sa sb col)),.int .i64 0])):=by
 have hm:=hmix
 have la:=(LV_ok va).2
 have lb:=(LV_ok vb).2
 obtain⟨r,hr⟩:∃r,(turnsOf (sa++sb)).all (holdsAt sa sb col)=r:=⟨_,rfl⟩
 rw[hr]
 have k1:=hide (fun W (hg:Grew w W)=>s5Valid_v sa A c true W (hra.up hg) hc va)
 have k2:=hide (fun W (hg:Grew w W)=>s5Valid_v sb A' c' true W (hrb.up hg) hc' vb)
 have k3:=hide (fun W (hg:Grew w W)=>rTurns_any sa sb A A' c c' W (hra.up hg) (hrb.up hg) (by omega) (by omega))
 have HOA:=hide (LV_ok va).1
 have HOB:=hide (LV_ok vb).1
 have htl:=turns_len (sa++sb)
 rw[List.length_append] at htl
 obtain⟨tl,htl2⟩:∃tl,turnsOf (sa++sb)=tl:=⟨_,rfl⟩
 have L4:=hide (saf_l4 htl2 va vb)
 rw[htl2] at k3 htl hr
 have HR:=hide hr
 have htl3:tl.length≤48:=by omega
 have h5:decide (col<1)=false:=by simp;omega
 have h6:decide (3<col)=false:=by simp;omega
 clear htl2 htl hr va vb
 go_enter Tryz.func76,Tryz.ntmps76
 go_wp2_with (first|(go_at_call 87;with_reducible refine crv (k1.out _ gw) fun _ _=>?_;dsimp only)|(go_at_call 87;with_reducible refine crv (k2.out _ gw) fun _ _=>?_;dsimp only))
 refine (k3.out _ gw).mono ?_
 rintro e W2 ⟨v,rfl,hown,hg⟩
 have HG2:Hid (Grew w W2):=hide (Grew.trans gw hg)
 obtain⟨A11,c11,rfl,hc11,hrd⟩:=Rd.of_own (f:=encD) encD_len hown rfl
 have HRD:=hide hrd
 clear hown hg hrd
 go_wp2_with fail
 go_loopw [11] (fun i wr=>∃ (k:Nat),k≤tl.length∧i=.int .i64 k∧Grew W2 wr∧HoldT sa sb col tl k) (fun i _=>tl.length-(intOf i).toNat)
 case atStart=>exact⟨0,by omega,rfl,gw,fun j t hj=>by omega⟩
 case round =>
  obtain⟨k,hk,rfl,hg,ht⟩:=hrel
  have HG:=hide hg
  have HT:=hide ht
  clear hg ht
  by_cases hlt:k<tl.length
  ·obtain⟨⟨x,y⟩,hxy⟩:∃t,tl[k]?=some t:=⟨_,List.getElem?_eq_getElem hlt⟩
   obtain⟨b,off,hA,hb,hcell⟩:=(HRD.out.up HG.out).at_ (k:=k) (x:=encD (x,y)) (by rw[List.getElem?_map,hxy];rfl)
   have h0:=hcell 0 _ rfl
   have h1:=hcell 1 _ rfl
   simp only[Nat.add_zero] at h0
   have HA:=hide hA
   have hix:=idx_run (cap:=c11) Tryz.underlying51 Tryz.sizeOf26 hA hlt
   have hd:=L4.out k (x,y) hxy
   have HXY:=hide hxy
   clear hcell hA hxy
   obtain⟨⟨c1,r1⟩,hcr⟩:∃q,shA sa (x,y)=q:=⟨_,rfl⟩
   obtain⟨⟨d1,s1⟩,hds⟩:∃q,shA sb (x,y)=q:=⟨_,rfl⟩
   have hbd:=dir_bd hd
   have k5:=hide (fun W (hg:Grew w W)=>rAt_v sa A c x y (c1,r1) W (hra.up hg) hla hc HOA.out hbd.1 hbd.2 (nz_dir hd) hcr)
   have k6:=hide (fun W (hg:Grew w W)=>rAt_v sb A' c' x y (d1,s1) W (hrb.up hg) hlb hc' HOB.out hbd.1 hbd.2 (nz_dir hd) hds)
   have hcase:=holdsAt_or (col:=col) hcr hds
   clear hd hcr hds hbd
   rcases hcase with⟨e1,hh⟩|⟨rfl,e2,hh⟩|⟨rfl,rfl,e3,hh⟩|⟨rfl,rfl,e3,hh⟩
   all_goals
    have HH:=hide hh
    clear hh
    try have e2':(d1 != c1)=true:=by simpa using e2
    go_wp2_with (first|(go_at_call 116;with_reducible refine crv (k5.out _ (HG2.out.trans (HG.out.trans gw))) fun _ _=>?_;dsimp only)|(go_at_call 116;with_reducible refine crv (k6.out _ (HG2.out.trans (HG.out.trans gw))) fun _ _=>?_;dsimp only))
    first
     |(go_roundw
       case rel =>
        refine⟨k+1,by omega,by go_num,HG.out.trans gw,fun j t hj ht=>?_⟩
        by_cases hjk:j=k
        ·rw[hjk,HXY.out] at ht
         injection ht with ht
         rw[←ht]
         exact HH.out
        ·exact HT.out j t (by omega) ht
       case measure=>simp[intOf];omega)
     |(go_ret2
       have hf:tl.all (holdsAt sa sb _)=false:=List.all_eq_false.2 ⟨_,List.mem_of_getElem? HXY.out,by rw[HH.out];simp⟩
       obtain rfl:r=false:=by rw[←HR.out,hf]
       exact Ret.mk' rfl (HG2.out.trans (HG.out.trans gw)))
  ·obtain rfl:k=tl.length:=by omega
   go_wp2_with fail
   go_ret2
   have hf:tl.all (holdsAt sa sb col)=true:=List.all_eq_true.2 fun t ht=>by
    obtain⟨j,hj,rfl⟩:=List.getElem_of_mem ht
    exact HT.out j _ hj (List.getElem?_eq_getElem hj)
   obtain rfl:r=true:=by rw[←HR.out,hf]
   exact Ret.mk' rfl (HG2.out.trans HG.out)
theorem rHolds_any (sa sb:List Sec)(A A':Option Addr)(c c':Nat)(col:Int)(w:World)(hra:Rd w w.heap.size 6 A (sa.map Sec.cells))(hrb:Rd w w.heap.size 6 A' (sb.map Sec.cells))(hla:sa.length≤c)(hlb:sb.length≤c')(hc:sa.length≤100000000000000)(hc':sb.length≤100000000000000) :
  Calls Tryz.prog 76 #[.slice A sa.length c,.slice A' sb.length c',.int .i64 col] w (Ret w (.tuple #[.bool (holdsOf sa sb col).1,.int .i64 (holdsOf sa sb col).2])):=by
 unfold holdsOf
 cases h:LValid sa&&LValid sb&&colOk col
 ·exact rHolds_no sa sb A A' c c' col w hra hrb hla hlb hc hc' h
 ·rw[Bool.and_eq_true,Bool.and_eq_true] at h
  exact rHolds_yes sa sb A A' c c' col w hra hrb hla hlb hc hc' h.1.1 h.1.2 (by simpa[colOk] using h.2)
theorem rSafer_any (sa sb:List Sec)(A A':Option Addr)(c c':Nat)(w:World)(hra:Rd w w.heap.size 6 A (sa.map Sec.cells))(hrb:Rd w w.heap.size 6 A' (sb.map Sec.cells))(hla:sa.length≤c)(hlb:sb.length≤c')(hc:sa.length≤100000000000000)(hc':sb.length≤100000000000000) :
  Calls Tryz.prog 60 #[.slice A sa.length c,.slice A' sb.length c'] w (Ret w (.tuple #[.bool (saferOf sa sb).1,.int .i64 (saferOf sa sb).2])):=by
 have hm:=hmix
 unfold saferOf
 rcases holdsOf_err sb sa 1 with⟨h,_⟩|h
 ·cases h2:(holdsOf sb sa 1).1
  all_goals
   rw[h]
   go_enter Tryz.func60,Tryz.ntmps60
   go_wp2_with (go_at_call 76;refine crv (rHolds_any sb sa A' A c' c 1 _ (hrb.up gw) (hra.up gw) hlb hla hc' hc) fun _ _=>?_;dsimp only;rw[h,h2])
   first|go_ret2|(refine bodyPost_ret (v:=_) (by simp[results,Tryz.results60,go_sem];rfl) rfl ?_)
   exact Ret.mk' (by simp) gw
 ·rw[h]
  go_enter Tryz.func60,Tryz.ntmps60
  go_wp2_with (go_at_call 76;refine crv (rHolds_any sb sa A' A c' c 1 _ (hrb.up gw) (hra.up gw) hlb hla hc' hc) fun _ _=>?_;dsimp only;rw[h])
  first|go_ret2|(refine bodyPost_ret (v:=_) (by simp[results,Tryz.results60,go_sem];rfl) rfl ?_)
  exact Ret.mk' (by simp) gw
end Go.Proofs.YtblgdlnmabkpoaaGreat

