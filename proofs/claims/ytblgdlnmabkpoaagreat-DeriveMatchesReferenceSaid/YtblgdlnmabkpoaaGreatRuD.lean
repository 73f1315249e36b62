/- Package rule: isRule at the rules of one kind. Package rule: Valid, Cap. The reference implementation of layer 12: kinds, numbers, valid rules, the cap. -/
import Derived.Test.YtblgdlnmabkpoaaGreatRuX
set_option linter.unusedSimpArgs false
set_option linter.unusedVariables false
set_option maxHeartbeats 1600000
set_option maxRecDepth 100000
namespace Go.Proofs.YtblgdlnmabkpoaaGreat
open Go.RowKit Go.Sort
attribute [local go_sem] Steady steadyUpon
attribute [local go_sem ↓] hs_dr lt_add_r lt_add_r2 lt_add_r3 lt_add_r4 lt_add_r5 lt_add_r6
attribute [local go_sem] cell?_gd frozen?_gd setCell_gd size_grow tape_grow cell?_grow' frozen?_grow' setCell_grow' grow_grow grow_dr grow_drew dr_dr dr_drew drew_dr dr_alloc dr_setCell dr_cell dr_frozen dr_tape dr_drawn
attribute [local irreducible] wpSteady
/-- A rule: operation, kind, number. -/
abbrev Ru:=Int×Int×Int
def encR (r:Ru):List Value:=[.int .i64 r.1,.int .i64 r.2.1,.int .i64 r.2.2]
theorem encR_len (r:Ru):(encR r).length=3:=rfl
def Ru.ok (r:Ru):Bool:=ruleOk r.1 r.2.1 r.2.2
def ruAt (rs:List Ru)(k:Nat):Ru:=rs.getD k (0,0,0)
theorem ruAt_get {rs:List Ru}{k:Nat}(h:k<rs.length):rs[k]?=some (ruAt rs k):=by
 unfold ruAt
 rw[List.getD_eq_getElem?_getD,List.getElem?_eq_getElem h]
 rfl
theorem ruCells {w:World}{B:Nat}{A:Option Addr}{rs:List Ru}{k:Nat}(h:Rd w B 3 A (rs.map encR))(hk:k<rs.length) :
  ∃b off,Hid (A=some ⟨b,off,none⟩)∧b<B∧w.cell? ⟨b,off+k*3,none⟩=some (.int .i64 (ruAt rs k).1)∧w.cell? ⟨b,off+k*3+1,none⟩=some (.int .i64 (ruAt rs k).2.1)∧w.cell? ⟨b,off+k*3+2,none⟩=some (.int .i64 (ruAt rs k).2.2):=by
 obtain⟨b,off,hA,hb,hc⟩:=h.at_ (k:=k) (x:=encR (ruAt rs k)) (by simp[ruAt_get hk])
 exact⟨b,off,hA,hb,hc 0 _ rfl,hc 1 _ rfl,hc 2 _ rfl⟩
def okTo (rs:List Ru)(k:Nat):Bool:=(List.range k).all fun j=>(ruAt rs j).ok
def rsOk (rs:List Ru):Bool:=decide (rs.length≤40)&&okTo rs rs.length
theorem okTo_succ {rs:List Ru}{k:Nat}(h:okTo rs k=true):okTo rs (k+1)=(ruAt rs k).ok:=by
 unfold okTo at h ⊢
 rw[List.range_succ,List.all_append,h]
 simp
theorem okTo_no {rs:List Ru}{k n:Nat}(hk:k<n)(h:(ruAt rs k).ok=false):okTo rs n=false:=by
 unfold okTo
 rw[List.all_eq_false]
 exact⟨k,List.mem_range.2 hk,by rw[h];simp⟩
def IdxR (n:Nat)(r:Bool)(e:Ending):Prop:=(e=.returned (.int .i64 (-1))∧r=true)∨(∃k:Nat,k<n∧e=.returned (.int .i64 k)∧r=false)
theorem rbad_v (o k n:Int)(r:Bool)(w:World)(h:ruleOk o k n = !r):Calls Tryz.prog 67 #[ruV o k n] w (Ret w (.bool r)):=by
 have k1:=hide (fun W=>isRule_v o k n (!r) W h)
 clear h
 cases r
 all_goals
  go_enter Tryz.func67,Tryz.ntmps67
  go_wp2_with (go_at_call 68;with_reducible refine crv (k1.out _) fun _ _=>?_;dsimp only)
  go_ret
  exact Ret.mk' (by rfl) gw
theorem ridx_v (rs:List Ru)(A:Option Addr)(c:Nat)(r:Bool)(w:World)(hr:Rd w w.heap.size 3 A (rs.map encR))(hc:rs.length≤100000000000000)(h:okTo rs rs.length=r) :
  Calls Tryz.prog 92 #[.slice A rs.length c,.func (.func 67) #[] #[]] w fun e w'=>IdxR rs.length r e∧Grew w w':=by
 have hm:=hmix
 have HR:=hide h
 clear h
 go_enter Tryz.func92,Tryz.ntmps92
 go_wp2_with fail
 go_loopw [8] (fun i wr=>∃k:Nat,k≤rs.length∧i=.int .i64 k∧Grew w wr∧AppG (okTo rs k=true)) (fun i _=>rs.length-(intOf i).toNat)
 case atStart=>exact⟨0,by omega,rfl,gw,rfl⟩
 case round =>
  obtain⟨k,hk,rfl,hg,hall⟩:=hrel
  have HG:=hide hg
  have HA:=hide hall.stop
  clear hg hall
  by_cases hlt:k<rs.length
  ·obtain⟨b,off,hA,hb,h0,h1,h2⟩:=ruCells (hr.up HG.out) hlt
   have hix:=idx_run (cap:=c) Tryz.underlying23 Tryz.sizeOf48 hA.out hlt
   have hs:=okTo_succ HA.out
   have HS:=hide hs
   obtain⟨u,hu⟩:∃u,(ruAt rs k).ok = !u:=⟨!(ruAt rs k).ok,by simp⟩
   have k1:=hide (fun W=>rbad_v (ruAt rs k).1 (ruAt rs k).2.1 (ruAt rs k).2.2 u W hu)
   have HO:=hide hu
   clear hs hu hA
   obtain⟨x,hx⟩:∃x,ruAt rs k=x:=⟨_,rfl⟩
   rw[hx] at h0 h1 h2 k1
   clear hx
   obtain⟨x1,x2,x3⟩:=x
   dsimp only at h0 h1 h2 k1
   cases u
   ·go_wp2_with (go_at_call 67;with_reducible refine crv (k1.out _) fun _ _=>?_;dsimp only)
    go_roundw
    case rel=>exact⟨k+1,by omega,by go_num,HG.out.trans gw,by rw[HS.out];exact HO.out⟩
    case measure=>simp[intOf];omega
   ·go_wp2_with (go_at_call 67;with_reducible refine crv (k1.out _) fun _ _=>?_;dsimp only)
    go_ret
    have e:okTo rs rs.length=false:=okTo_no hlt HO.out
    obtain rfl:r=false:=by rw[←HR.out,e]
    exact⟨.inr ⟨k,by omega,rfl,rfl⟩,HG.out.trans gw⟩
  ·obtain rfl:k=rs.length:=by omega
   obtain rfl:r=true:=by rw[←HR.out,HA.out]
   go_wp2_with fail
   go_ret
   exact⟨.inl ⟨rfl,rfl⟩,HG.out⟩
theorem rcon_v (rs:List Ru)(A:Option Addr)(c:Nat)(r:Bool)(w:World)(hr:Rd w w.heap.size 3 A (rs.map encR))(hc:rs.length≤100000000000000)(h:okTo rs rs.length = !r) :
  Calls Tryz.prog 69 #[.slice A rs.length c,.func (.func 67) #[] #[]] w (Ret w (.bool r)):=by
 have hm:=hmix
 have k1:=hide (fun W (hg:Grew w W)=>ridx_v rs A c (!r) W (hr.up hg) hc h)
 clear h
 go_enter Tryz.func69,Tryz.ntmps69
 go_wp2_with fail
 refine (k1.out _ gw).mono ?_
 rintro e w' ⟨h,⟨⟨n1,os1⟩,rfl⟩⟩
 rcases h with⟨rfl,hr2⟩|⟨k,hk,rfl,hr2⟩
 ·obtain rfl:r=false:=by simpa using hr2
  dsimp only
  go_wp2_with fail
  go_ret
  exact Ret.mk' rfl gw
 ·obtain rfl:r=true:=by simpa using hr2
  dsimp only
  have hk0:0≤(k:Int):=by omega
  go_wp2_with fail
  go_ret
  exact Ret.mk' (by simp) gw
theorem RuValid_v (rs:List Ru)(A:Option Addr)(c:Nat)(r:Bool)(w:World)(hr:Rd w w.heap.size 3 A (rs.map encR))(hc:rs.length≤100000000000000)(h:rsOk rs=r) :
  Calls Tryz.prog 49 #[.slice A rs.length c] w (Ret w (.bool r)):=by
 have hm:=hmix
 obtain⟨u,hu⟩:∃u,okTo rs rs.length = !u:=⟨!okTo rs rs.length,by simp⟩
 have k1:=hide (fun W (hg:Grew w W)=>rcon_v rs A c u W (hr.up hg) hc hu)
 unfold rsOk at h
 rw[hu] at h
 clear hu hr
 by_cases hl:rs.length≤40
 ·have hl2:(rs.length:Int)≤40:=by omega
  rw[decide_eq_true hl,Bool.true_and] at h
  subst h
  cases u
  all_goals
   go_enter Tryz.func49,Tryz.ntmps49
   go_wp2_with (go_at_call 69;with_reducible refine crv (k1.out _ gw) fun _ _=>?_;dsimp only)
   go_ret
   exact Ret.mk' (by rfl) gw
 ·have hl2:¬ (rs.length:Int)≤40:=by omega
  have hl3:decide ((rs.length:Int)≤40)=false:=decide_eq_false hl2
  rw[decide_eq_false hl,Bool.false_and] at h
  subst h
  go_enter Tryz.func49,Tryz.ntmps49
  go_wp2_with fail
  go_ret
  exact Ret.mk' (by rfl) gw
/-- The cap of the rules. -/
def capStep (m:Int)(r:Ru):Int:=if r.1=1 then min m r.2.2 else m
def capTo (rs:List Ru)(k:Nat):Int:=(rs.take k).foldl capStep 100000
def capOf (rs:List Ru):Int×Int:=if rsOk rs=true then (capTo rs rs.length,0) else (0,1)
theorem capTo_succ {rs:List Ru}{k:Nat}(h:k<rs.length):capTo rs (k+1)=capStep (capTo rs k) (ruAt rs k):=by
 unfold capTo
 rw[List.take_add_one,ruAt_get h,List.foldl_append]
 rfl
theorem RuCap_v (rs:List Ru)(A:Option Addr)(c:Nat)(r:Int×Int)(w:World)(hr:Rd w w.heap.size 3 A (rs.map encR))(hc:rs.length≤100000000000000)(h:capOf rs=r) :
  Calls Tryz.prog 23 #[.slice A rs.length c] w (Ret w (.tuple #[.int .i64 r.1,.int .i64 r.2])):=by
 have hm:=hmix
 obtain⟨u,hu⟩:∃u,rsOk rs=u:=⟨_,rfl⟩
 have k1:=hide (fun W (hg:Grew w W)=>RuValid_v rs A c u W (hr.up hg) hc hu)
 unfold capOf at h
 rw[hu] at h
 have HR:=hide hr
 clear hu hr
 cases u
 ·rw[if_neg (by simp)] at h
  subst h
  go_enter Tryz.func23,Tryz.ntmps23
  go_wp2_with (go_at_call 49;with_reducible refine crv (k1.out _ gw) fun _ _=>?_;dsimp only)
  go_ret2
  exact Ret.mk' rfl gw
 ·rw[if_pos rfl] at h
  subst h
  go_enter Tryz.func23,Tryz.ntmps23
  go_wp2_with (go_at_call 49;with_reducible refine crv (k1.out _ gw) fun _ _=>?_;dsimp only)
  clear k1
  go_loopw [4,12] (fun m i wr=>∃k:Nat,k≤rs.length∧i=.int .i64 k∧m=.int .i64 (capTo rs k)∧Grew w wr) (fun _ i _=>rs.length-(intOf i).toNat)
  case atStart=>exact⟨0,by omega,rfl,rfl,gw⟩
  case round =>
   obtain⟨k,hk,rfl,rfl,hg⟩:=hrel
   have HG:=hide hg
   clear hg
   by_cases hlt:k<rs.length
   ·obtain⟨b,off,hA,hb,h0,h1,h2⟩:=ruCells (HR.out.up HG.out) hlt
    have hix:=idx_run (cap:=c) Tryz.underlying23 Tryz.sizeOf48 hA.out hlt
    have hst:=capTo_succ hlt
    unfold capStep at hst
    obtain⟨m,hm2⟩:∃m,capTo rs k=m:=⟨_,rfl⟩
    obtain⟨x,hx⟩:∃x,ruAt rs k=x:=⟨_,rfl⟩
    rw[hm2,hx] at hst
    rw[hx] at h0 h1 h2
    rw[hm2]
    clear hx hm2 hA
    obtain⟨x1,x2,x3⟩:=x
    dsimp only at h0 h1 h2 hst
    have HST:=hide hst
    clear hst
    by_cases h1':x1=1
    ·subst h1'
     go_wp2_with fail
     all_goals go_roundw
     all_goals first|(case rel=>exact⟨k+1,by omega,by go_num,by rw[HST.out,if_pos rfl];try exact ret_int (by omega),HG.out.trans gw⟩)|(case measure=>simp[intOf];omega)
    ·go_wp2_with fail
     go_roundw
     case rel=>exact⟨k+1,by omega,by go_num,by rw[HST.out,if_neg h1'],HG.out.trans gw⟩
     case measure=>simp[intOf];omega
   ·obtain rfl:k=rs.length:=by omega
    go_wp2_with fail
    go_ret2
    exact Ret.mk' rfl HG.out
theorem rDisc_v (k:Int)(r:Bool)(w:World)(h:isDisc k=r):Calls Tryz.prog 77 #[.int .i64 k] w (Ret w (.bool r)):=by
 subst h
 have hcase:k=1∨(k≠1∧k=2)∨(k≠1∧k≠2):=by omega
 rcases hcase with rfl|⟨_,rfl⟩|⟨h1,h2⟩
 ·go_enter Tryz.func77,Tryz.ntmps77
  go_wp2_with fail
  go_ret
  exact Ret.mk' rfl gw
 ·go_enter Tryz.func77,Tryz.ntmps77
  go_wp2_with fail
  go_ret
  exact Ret.mk' rfl gw
 ·have g1:(k==1)=false:=by simpa using h1
  have g2:(k==2)=false:=by simpa using h2
  go_enter Tryz.func77,Tryz.ntmps77
  go_wp2_with fail
  go_ret
  exact Ret.mk' (ret_bool (by unfold isDisc;rw[Bool.eq_iff_iff];simp[h1,h2])) gw
theorem rPoly_v (k:Int)(r:Bool)(w:World)(h:isArea k=r):Calls Tryz.prog 85 #[.int .i64 k] w (Ret w (.bool r)):=by
 subst h
 have hcase:k=3∨(k≠3):=by omega
 rcases hcase with rfl|h1
 ·go_enter Tryz.func85,Tryz.ntmps85
  go_wp2_with fail
  go_ret
  exact Ret.mk' rfl gw
 ·have g1:(k==3)=false:=by simpa using h1
  go_enter Tryz.func85,Tryz.ntmps85
  go_wp2_with fail
  go_ret
  exact Ret.mk' (ret_bool (by unfold isArea;rw[Bool.eq_iff_iff];simp[h1])) gw
theorem op_cases (o:Int):o=1∨o=2∨o=3∨o=4∨o=5∨(o≠1∧o≠2∧o≠3∧o≠4∧o≠5):=by omega
theorem rKind_v (o k:Int)(r:Bool)(w:World)(h:(opKinds o).contains k=r):Calls Tryz.prog 108 #[.int .i64 o,.int .i64 k] w (Ret w (.bool r)):=by
 obtain⟨u,hu⟩:∃u,isDisc k=u:=⟨_,rfl⟩
 obtain⟨v,hv⟩:∃u,isArea k=u:=⟨_,rfl⟩
 have k1:=hide (fun W=>rDisc_v k u W hu)
 have k2:=hide (fun W=>rPoly_v k v W hv)
 have hU:u=true↔(k=1∨k=2∨k=5):=by rw[←hu];unfold isDisc;simp
 have hV:v=true↔(k=3∨k=6):=by rw[←hv];unfold isArea;simp
 subst h
 clear hu hv
 rcases op_cases o with rfl|rfl|rfl|rfl|rfl|⟨h1,h2,h3,h4,h5⟩
 ·clear hU hV
  go_enter Tryz.func108,Tryz.ntmps108
  go_wp2_with fail
  go_ret
  exact Ret.mk' (ret_bool (by unfold opKinds;rw[Bool.eq_iff_iff];simp)) gw
 ·cases u
  ·have HU:=hide hU
   have HV:=hide hV
   clear hU hV
   go_enter Tryz.func108,Tryz.ntmps108
   go_wp2_with (go_at_call 77;with_reducible refine crv (k1.out _) fun _ _=>?_;dsimp only)
   go_ret
   exact Ret.mk' (ret_bool (by have:=HU.out;simp at this;unfold opKinds;rw[Bool.eq_iff_iff];simp;omega)) gw
  ·have HU:=hide hU
   clear hU hV
   go_enter Tryz.func108,Tryz.ntmps108
   go_wp2_with (go_at_call 77;with_reducible refine crv (k1.out _) fun _ _=>?_;dsimp only)
   go_ret
   exact Ret.mk' (ret_bool (by have:=HU.out;simp at this;unfold opKinds;rw[Bool.eq_iff_iff];simp;omega)) gw
 ·have HU:=hide hU
  clear hU hV
  go_enter Tryz.func108,Tryz.ntmps108
  go_wp2_with (go_at_call 77;with_reducible refine crv (k1.out _) fun _ _=>?_;dsimp only)
  go_ret
  exact Ret.mk' (ret_bool (by have:=HU.out;unfold opKinds;rw[Bool.eq_iff_iff,this];simp)) gw
 ·have HU:=hide hU
  clear hU hV
  go_enter Tryz.func108,Tryz.ntmps108
  go_wp2_with (go_at_call 77;with_reducible refine crv (k1.out _) fun _ _=>?_;dsimp only)
  go_ret
  exact Ret.mk' (ret_bool (by have:=HU.out;unfold opKinds;rw[Bool.eq_iff_iff,this];simp)) gw
 ·have HV:=hide hV
  clear hU hV
  go_enter Tryz.func108,Tryz.ntmps108
  go_wp2_with (go_at_call 85;with_reducible refine crv (k2.out _) fun _ _=>?_;dsimp only)
  go_ret
  exact Ret.mk' (ret_bool (by have:=HV.out;unfold opKinds;rw[Bool.eq_iff_iff,this];simp)) gw
 ·have g1:(o==1)=false:=by simpa using h1
  have g2:(o==2)=false:=by simpa using h2
  have g3:(o==3)=false:=by simpa using h3
  have g4:(o==4)=false:=by simpa using h4
  have g5:(o==5)=false:=by simpa using h5
  have ho:opKinds o=[]:=by unfold opKinds;rw[if_neg h1,if_neg h2,if_neg h3,if_neg h4,if_neg h5]
  rw[ho]
  clear hU hV h1 h2 h3 h4 h5 ho
  go_enter Tryz.func108,Tryz.ntmps108
  go_wp2_with fail
  go_ret
  exact Ret.mk' rfl gw
def rnumB (o n:Int):Bool:=decide (1≤o∧o≤5)&&decide (opLeast o≤n∧n≤opMost o)
theorem rNumber_v (o n:Int)(r:Bool)(w:World)(h:rnumB o n=r):Calls Tryz.prog 109 #[.int .i64 o,.int .i64 n] w (Ret w (.bool r)):=by
 subst h
 rcases op_cases o with rfl|rfl|rfl|rfl|rfl|⟨h1,h2,h3,h4,h5⟩
 ·by_cases g:1≤n
  all_goals
   go_enter Tryz.func109,Tryz.ntmps109
   go_wp2_with fail
   go_ret
   exact Ret.mk' (ret_bool (by unfold rnumB;rw[Bool.eq_iff_iff];simp[opLeast,opMost,g];try omega)) gw
 ·by_cases g:1≤n
  all_goals
   go_enter Tryz.func109,Tryz.ntmps109
   go_wp2_with fail
   go_ret
   exact Ret.mk' (ret_bool (by unfold rnumB;rw[Bool.eq_iff_iff];simp[opLeast,opMost,g];try omega)) gw
 ·by_cases g:0≤n
  all_goals
   go_enter Tryz.func109,Tryz.ntmps109
   go_wp2_with fail
   go_ret
   exact Ret.mk' (ret_bool (by unfold rnumB;rw[Bool.eq_iff_iff];simp[opLeast,opMost,g];try omega)) gw
 ·by_cases g:0≤n
  all_goals
   go_enter Tryz.func109,Tryz.ntmps109
   go_wp2_with fail
   go_ret
   exact Ret.mk' (ret_bool (by unfold rnumB;rw[Bool.eq_iff_iff];simp[opLeast,opMost,g];try omega)) gw
 ·go_enter Tryz.func109,Tryz.ntmps109
  go_wp2_with fail
  go_ret
  exact Ret.mk' (ret_bool (by unfold rnumB;rw[Bool.eq_iff_iff];simp[opLeast,opMost];omega)) gw
 ·have g1:(o==1)=false:=by simpa using h1
  have g2:(o==2)=false:=by simpa using h2
  have g3:(o==3)=false:=by simpa using h3
  have g4:(o==4)=false:=by simpa using h4
  have g5:(o==5)=false:=by simpa using h5
  have ho:rnumB o n=false:=by unfold rnumB;rw[decide_eq_false (by omega:¬ (1≤o∧o≤5)),Bool.false_and]
  rw[ho]
  clear h1 h2 h3 h4 h5 ho
  go_enter Tryz.func109,Tryz.ntmps109
  go_wp2_with fail
  go_ret
  exact Ret.mk' rfl gw
theorem rRule_v (o k n:Int)(r:Bool)(w:World)(h:ruleOk o k n=r):Calls Tryz.prog 72 #[ruV o k n] w (Ret w (.bool r)):=by
 obtain⟨u,hu⟩:∃u,(opKinds o).contains k=u:=⟨_,rfl⟩
 obtain⟨v,hv⟩:∃u,rnumB o n=u:=⟨_,rfl⟩
 have k1:=hide (fun W=>rKind_v o k u W hu)
 have k2:=hide (fun W=>rNumber_v o n v W hv)
 have he:(u&&v)=r:=by
  rw[←h,←hu,←hv]
  unfold ruleOk rnumB
  cases (opKinds o).contains k<;>simp
 subst he
 clear h hu hv
 cases u
 all_goals
  go_enter Tryz.func72,Tryz.ntmps72
  go_wp2_with (first|(go_at_call 108;with_reducible refine crv (k1.out _) fun _ _=>?_;dsimp only)|(go_at_call 109;with_reducible refine crv (k2.out _) fun _ _=>?_;dsimp only))
  go_ret
  exact Ret.mk' rfl gw
theorem rValid_v (rs:List Ru)(A:Option Addr)(c:Nat)(r:Bool)(w:World)(hr:Rd w w.heap.size 3 A (rs.map encR))(hc:rs.length≤100000000000000)(h:rsOk rs=r) :
  Calls Tryz.prog 55 #[.slice A rs.length c] w (Ret w (.bool r)):=by
 have hm:=hmix
 have HR:=hide hr
 have HH:=hide h
 clear hr h
 by_cases h40:rs.length≤40
 ·have g40:¬ (40:Int)<(rs.length:Int):=by omega
  go_enter Tryz.func55,Tryz.ntmps55
  go_wp2_with fail
  go_loopw [3] (fun i wr=>∃k:Nat,k≤rs.length∧i=.int .i64 k∧Grew w wr∧AppG (okTo rs k=true)) (fun i _=>rs.length-(intOf i).toNat)
  case atStart=>exact⟨0,by omega,rfl,gw,rfl⟩
  case round =>
   obtain⟨k,hk,rfl,hg,hall⟩:=hrel
   have HG:=hide hg
   have HA:=hide hall.stop
   clear hg hall
   by_cases hlt:k<rs.length
   ·obtain⟨b,off,hA,hb,h0,h1,h2⟩:=ruCells (HR.out.up HG.out) hlt
    have hix:=idx_run (cap:=c) Tryz.underlying23 Tryz.sizeOf48 hA.out hlt
    have hst:=okTo_succ HA.out
    obtain⟨o,ho⟩:∃o,(ruAt rs k).ok=o:=⟨_,rfl⟩
    have hno:o=false→r=false:=fun e=>by
     rw[←HH.out]
     unfold rsOk
     rw[okTo_no hlt (by rw[ho,e]),Bool.and_false]
    rw[ho] at hst
    unfold Ru.ok at ho
    have kr:=hide (fun W=>rRule_v _ _ _ o W ho)
    have HST:=hide hst
    have HNO:=hide hno
    generalize ruAt rs k=q at *
    obtain⟨q1,q2,q3⟩:=q
    dsimp only at *
    clear hA ho hst hno
    cases o
    ·obtain rfl:=HNO.out rfl
     go_wp2_with (go_at_call 72;with_reducible refine crv (kr.out _) fun _ _=>?_;dsimp only)
     go_ret
     exact Ret.mk' rfl (HG.out.trans gw)
    ·go_wp2_with (go_at_call 72;with_reducible refine crv (kr.out _) fun _ _=>?_;dsimp only)
     go_roundw
     case rel=>exact⟨k+1,by omega,by go_num,HG.out.trans gw,show okTo rs (k+1)=true from HST.out⟩
     case measure=>simp[intOf];omega
   ·obtain rfl:k=rs.length:=by omega
    obtain rfl:r=true:=by
     rw[←HH.out]
     unfold rsOk
     rw[HA.out,decide_eq_true h40]
     rfl
    go_wp2_with fail
    go_ret
    exact Ret.mk' rfl (HG.out.trans gw)
 ·have g40:(40:Int)<(rs.length:Int):=by omega
  obtain rfl:r=false:=by
   rw[←HH.out]
   unfold rsOk
   rw[decide_eq_false h40,Bool.false_and]
  clear h40
  go_enter Tryz.func55,Tryz.ntmps55
  go_wp2_with fail
  go_ret
  exact Ret.mk' rfl gw
theorem rCap_v (rs:List Ru)(A:Option Addr)(c:Nat)(r:Int×Int)(w:World)(hr:Rd w w.heap.size 3 A (rs.map encR))(hc:rs.length≤100000000000000)(h:capOf rs=r) :
  Calls Tryz.prog 27 #[.slice A rs.length c] w (Ret w (.tuple #[.int .i64 r.1,.int .i64 r.2])):=by
 have hm:=hmix
 obtain⟨u,hu⟩:∃u,rsOk rs=u:=⟨_,rfl⟩
 have kv:=hide (fun W (hg:Grew w W)=>rValid_v rs A c u W (hr.up hg) hc hu)
 have HR:=hide hr
 unfold capOf at h
 rw[hu] at h
 clear hr hu
 cases u
 ·rw[if_neg (by simp)] at h
  subst h
  go_enter Tryz.func27,Tryz.ntmps27
  go_wp2_with (go_at_call 55;with_reducible refine crv (kv.out _ gw) fun _ _=>?_;dsimp only)
  go_ret2
  exact Ret.mk' rfl gw
 ·rw[if_pos rfl] at h
  subst h
  go_enter Tryz.func27,Tryz.ntmps27
  go_wp2_with (go_at_call 55;with_reducible refine crv (kv.out _ gw) fun _ _=>?_;dsimp only)
  refine wp_name ?_
  intro W1 hW
  have HG1:Hid (Grew w W1):=hide (by rw[←hW];exact gw)
  clear hW kv
  go_loopw [5,6] (fun m i wr=>∃k:Nat,k≤rs.length∧i=.int .i64 k∧m=.int .i64 (capTo rs k)∧Grew W1 wr) (fun _ i _=>rs.length-(intOf i).toNat)
  case atStart=>exact⟨0,by omega,rfl,rfl,gw⟩
  case round =>
   obtain⟨k,hk,rfl,rfl,hg⟩:=hrel
   have HG:=hide hg
   clear hg
   by_cases hlt:k<rs.length
   ·obtain⟨b,off,hA,hb,h0,h1,h2⟩:=ruCells (HR.out.up (HG1.out.trans HG.out)) hlt
    have hix:=idx_run (cap:=c) Tryz.underlying23 Tryz.sizeOf48 hA.out hlt
    have hst:=capTo_succ hlt
    obtain⟨m,hm0⟩:∃m,capTo rs k=m:=⟨_,rfl⟩
    rw[hm0] at hst ⊢
    generalize ruAt rs k=q at *
    obtain⟨q1,q2,q3⟩:=q
    unfold capStep at hst
    dsimp only at *
    clear hA hm0
    by_cases hq:q1=1
    ·subst hq
     rw[if_pos rfl] at hst
     have HST:=hide hst
     clear hst
     go_wp2_with fail
     go_roundw
     case rel=>exact⟨k+1,by omega,by go_num,by rw[HST.out];try (congr 1;split<;>omega),HG.out.trans gw⟩
     case measure=>simp[intOf];omega
    ·rw[if_neg hq] at hst
     have hq2:(q1==1)=false:=by simpa using hq
     have HST:=hide hst
     clear hst hq
     go_wp2_with fail
     go_roundw
     case rel=>exact⟨k+1,by omega,by go_num,by rw[HST.out];try (congr 1;split<;>omega),HG.out.trans gw⟩
     case measure=>simp[intOf];omega
   ·obtain rfl:k=rs.length:=by omega
    go_wp2_with fail
    go_ret2
    exact Ret.mk' rfl (HG1.out.trans (HG.out.trans gw))
end Go.Proofs.YtblgdlnmabkpoaaGreat
