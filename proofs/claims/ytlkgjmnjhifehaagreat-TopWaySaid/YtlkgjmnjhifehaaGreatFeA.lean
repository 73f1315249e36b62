/- Package feature: what a valid feature is. -/
import Derived.Test.YtlkgjmnjhifehaaGreatItX
import Derived.Test.YtlkgjmnjhifehaaGreatPod
set_option linter.unusedSimpArgs false
set_option linter.unusedVariables false
set_option maxHeartbeats 8000000
set_option maxRecDepth 100000
namespace Go.Proofs.YtlkgjmnjhifehaaGreat
open Go.RowKit Go.Sort
attribute [local go_sem] dA steadyUpon
attribute [local go_sem ↓] bU bI aX aW aV aU aT
attribute [local go_sem] bH aK aJ size_grow tape_grow cell?_grow' aF aB grow_grow bW aY dR cO bY bK aN cZ aZ bZ bJ
attribute [local irreducible] wpSteady
structure FV where
 id:Int
 kind:Int
 x:Int
 y:Int
 dC:Int
 aA:Option Addr
 ac:Nat
 area:List Pt
 dep:Int
 sym:Int
 sA:Option Addr
 sc:Nat
 secs:List fJ
abbrev FV.val (f:FV):Value:=.agg #[.int .i64 f.id,.int .i64 f.kind,.int .i64 f.x,.int .i64 f.y,.int .i64 f.dC,.slice f.aA f.area.length f.ac,.int .i64 f.dep,.int .i64 f.sym,.slice f.sA f.secs.length f.sc]
def FV.cells (f:FV):List Value:=[.int .i64 f.id,.int .i64 f.kind,.int .i64 f.x,.int .i64 f.y,.int .i64 f.dC,.slice f.aA f.area.length f.ac,.int .i64 f.dep,.int .i64 f.sym,.slice f.sA f.secs.length f.sc]
structure FV.rd (w:World) (B:Nat) (f:FV):Prop where
 area:Rd w B 2 f.aA (f.area.map dY)
 secs:Rd w B 6 f.sA (f.secs.map fJ.cells)
 la:f.area.length<=100000000000000
 ls:f.secs.length<=100000000000000
 lc:f.secs.length<=f.sc
theorem FV.rd.up {w w':World}{f:FV}(h:f.rd w w.heap.size)(hg:Grew w w'):f.rd w' w'.heap.size:=⟨h.area.up hg,h.secs.up hg,h.la,h.ls,h.lc⟩
theorem FV.rd.grew {w w':World}{B B':Nat}{f:FV}(h:f.rd w B)(hg:Grew w w')(hB:B<=w.heap.size)(hB':B<=B'):f.rd w' B':=⟨(h.area.grew hg hB).mono hB',(h.secs.grew hg hB).mono hB',h.la,h.ls,h.lc⟩
def Nu (x y n:Int):Bool:=lh (x-n) (y-n)&&lh (x+n) (y+n)
def wP (f:FV):Bool:=decide ((1<=f.id/\f.id<=100000)/\(0<=f.sym/\f.sym<=999)/\(0<=f.dep/\f.dep<=100000)/\(0<=f.dC/\f.dC<=100000))
def Ey (k:Int):Bool:=decide (k=1\/k=2\/k=5)
def Oq (f:FV):Bool:=lh f.x f.y&&(Nu f.x f.y f.dC&&(decide (f.area.length=0)&&decide (f.secs.length=0)))
def Bv (f:FV):Bool:=dm f.area&&(decide (f.x=0/\f.y=0)&&(decide (f.dC=0)&&decide (f.secs.length=0)))
def I4 (f:FV):Bool:=lh f.x f.y&&(fK f.secs&&(decide (f.dC=0)&&(decide (f.dep=0)&&decide (f.area.length=0))))
def bf (f:FV):Bool:=wP f&&(if Ey f.kind=true then Oq f else if f.kind=3 then Bv f else if f.kind=6 then decide (f.dep=0)&&Bv f else if f.kind=4 then I4 f else false)
theorem abI (x y n:Int)(r:Bool)(w:World)(hp:lh x y=true)(hn:0<=n/\n<=100000)(h:Nu x y n=r) :
  Calls Tryz.prog 87 #[pt x y,.int .i64 n] w (aC w (.bool r)):=by
 have hm:=aP
 have hb:=Kt hp
 obtain⟨o1,h1⟩:∃o,lh (x-n) (y-n)=o:=⟨_,rfl⟩
 obtain⟨o2,h2⟩:∃o,lh (x+n) (y+n)=o:=⟨_,rfl⟩
 unfold Nu at h
 rw[h1,h2] at h
 have k1:=hide (fun W=>dP (x-n) (y-n) o1 W h1)
 have k2:=hide (fun W=>dP (x+n) (y+n) o2 W h2)
 subst h
 clear h1 h2 hp
 cases o1
 all_goals
  go_enter Tryz.func87,Tryz.ntmps87
  go_wp2_with (first|(go_at_call 49;with_reducible refine aQ (k1.out _) fun _ _=>?_;dsimp only)|(go_at_call 49;with_reducible refine aQ (k2.out _) fun _ _=>?_;dsimp only))
  go_ret
  exact aC.mk' rfl gw
theorem TU (ss:List fJ)(A:Option Addr)(c:Nat)(r:Bool)(w:World)(hr:Rd w w.heap.size 6 A (ss.map fJ.cells))(hl:ss.length<=c)(hc:ss.length<=100000000000000)(h:fK ss=r) :
  Calls Tryz.prog 89 #[.slice A ss.length c] w (aC w (.bool r)):=by
 have:=ku ss A c w hr hl hc
 rwa [h] at this
theorem Y5 (k:Int):(k=1\/k=2\/k=5)\/k=3\/k=6\/k=4\/(¬ (k=1\/k=2\/k=5)/\k≠3/\k≠6/\k≠4):=by omega
section
variable (id kind x y dC:Int) (aA:Option Addr) (na ac:Nat) (dep sym:Int) (sA:Option Addr) (ns sc:Nat) (o1 o2 o3 o4 r:Bool) (w:World)
 (K1:Hid (∀W,Calls Tryz.prog 49 #[pt x y] W (aC W (.bool o1))))
 (K2:Hid (o1=true->∀W,Calls Tryz.prog 87 #[pt x y,.int .i64 dC] W (aC W (.bool o2))))
 (K3:Hid (∀W,Grew w W->Calls Tryz.prog 88 #[.slice aA na ac] W (aC W (.bool o3))))
 (K4:Hid (∀W,Grew w W->Calls Tryz.prog 89 #[.slice sA ns sc] W (aC W (.bool o4))))
 (b:(1<=id/\id<=100000)/\(0<=sym/\sym<=999)/\(0<=dep/\dep<=100000)/\(0<=dC/\dC<=100000))
include K1 K2 b
theorem Zm (hk:kind=1\/kind=2\/kind=5)(h:(o1&&(o2&&(decide (na=0)&&decide (ns=0))))=r) :
  Calls Tryz.prog 56 #[.agg #[.int .i64 id,.int .i64 kind,.int .i64 x,.int .i64 y,.int .i64 dC,.slice aA na ac,.int .i64 dep,.int .i64 sym,.slice sA ns sc]] w (aC w (.bool r)):=by
 obtain⟨⟨b1,b2⟩,⟨b3,b4⟩,⟨b5,b6⟩,b7,b8⟩:=b
 have n1:¬ id<1:=by omega
 have n2:¬ 100000<id:=by omega
 have n3:¬ sym<0:=by omega
 have n4:¬ 999<sym:=by omega
 have n5:¬ dep<0:=by omega
 have n6:¬ 100000<dep:=by omega
 have n7:¬ dC<0:=by omega
 have n8:¬ 100000<dC:=by omega
 have hcase:o1=false\/(o1=true/\o2=false)\/(o1=true/\o2=true/\na≠0)\/(o1=true/\o2=true/\na=0/\ns≠0)\/(o1=true/\o2=true/\na=0/\ns=0):=by
  cases o1<;>cases o2<;>simp;omega
 rcases hcase with rfl|⟨rfl,rfl⟩|⟨rfl,rfl,h3⟩|⟨rfl,rfl,rfl,h3⟩|⟨rfl,rfl,rfl,rfl⟩
 all_goals
  first|(simp[h3] at h;subst h)|(simp at h;subst h)
  have k2:=hide (K2.out)
  clear K2
  try (have kr:=hide (k2.out rfl))
  clear k2
  rcases hk with rfl|rfl|rfl
  all_goals
   go_enter Tryz.func56,Tryz.ntmps56
   go_wp2_with (first|(go_at_call 49;with_reducible refine aQ (K1.out _) fun _ _=>?_;dsimp only)|(go_at_call 87;with_reducible refine aQ (kr.out _) fun _ _=>?_;dsimp only))
   go_ret
   first|exact aC.mk' rfl gw|exact aC.mk' (by simp[h3]) gw
omit K1 K2 in
include K3 b in
theorem Qd (hk:kind=3\/(kind=6/\dep=0))(h:(o3&&(decide (x=0/\y=0)&&(decide (dC=0)&&decide (ns=0))))=r) :
  Calls Tryz.prog 56 #[.agg #[.int .i64 id,.int .i64 kind,.int .i64 x,.int .i64 y,.int .i64 dC,.slice aA na ac,.int .i64 dep,.int .i64 sym,.slice sA ns sc]] w (aC w (.bool r)):=by
 obtain⟨⟨b1,b2⟩,⟨b3,b4⟩,⟨b5,b6⟩,b7,b8⟩:=b
 have n1:¬ id<1:=by omega
 have n2:¬ 100000<id:=by omega
 have n3:¬ sym<0:=by omega
 have n4:¬ 999<sym:=by omega
 have n5:¬ dep<0:=by omega
 have n6:¬ 100000<dep:=by omega
 have n7:¬ dC<0:=by omega
 have n8:¬ 100000<dC:=by omega
 have hcase:o3=false\/(o3=true/\x≠0)\/(o3=true/\x=0/\y≠0)\/(o3=true/\x=0/\y=0/\dC≠0)\/(o3=true/\x=0/\y=0/\dC=0/\ns≠0)\/(o3=true/\x=0/\y=0/\dC=0/\ns=0):=by
  cases o3<;>simp;omega
 rcases hcase with rfl|⟨rfl,h3⟩|⟨rfl,rfl,h3⟩|⟨rfl,rfl,rfl,h3⟩|⟨rfl,rfl,rfl,rfl,h3⟩|⟨rfl,rfl,rfl,rfl,rfl⟩
 all_goals
  first|(simp[h3] at h;subst h)|(simp at h;subst h)
  rcases hk with rfl|⟨rfl,rfl⟩
  all_goals
   go_enter Tryz.func56,Tryz.ntmps56
   go_wp2_with (go_at_call 88;with_reducible refine aQ (K3.out _ gw) fun _ _=>?_;dsimp only)
   go_ret
   first|exact aC.mk' rfl gw|exact aC.mk' (by simp[h3]) gw
omit K1 K2 in
include K1 K4 b in
theorem Xd (hk:kind=4)(h:(o1&&(o4&&(decide (dC=0)&&(decide (dep=0)&&decide (na=0)))))=r) :
  Calls Tryz.prog 56 #[.agg #[.int .i64 id,.int .i64 kind,.int .i64 x,.int .i64 y,.int .i64 dC,.slice aA na ac,.int .i64 dep,.int .i64 sym,.slice sA ns sc]] w (aC w (.bool r)):=by
 obtain⟨⟨b1,b2⟩,⟨b3,b4⟩,⟨b5,b6⟩,b7,b8⟩:=b
 have n1:¬ id<1:=by omega
 have n2:¬ 100000<id:=by omega
 have n3:¬ sym<0:=by omega
 have n4:¬ 999<sym:=by omega
 have n5:¬ dep<0:=by omega
 have n6:¬ 100000<dep:=by omega
 have n7:¬ dC<0:=by omega
 have n8:¬ 100000<dC:=by omega
 have hcase:o1=false\/(o1=true/\o4=false)\/(o1=true/\o4=true/\dC≠0)\/(o1=true/\o4=true/\dC=0/\dep≠0)\/(o1=true/\o4=true/\dC=0/\dep=0/\na≠0)\/(o1=true/\o4=true/\dC=0/\dep=0/\na=0):=by
  cases o1<;>cases o4<;>simp;omega
 subst hk
 rcases hcase with rfl|⟨rfl,rfl⟩|⟨rfl,rfl,h3⟩|⟨rfl,rfl,rfl,h3⟩|⟨rfl,rfl,rfl,rfl,h3⟩|⟨rfl,rfl,rfl,rfl,rfl⟩
 all_goals
  first|(simp[h3] at h;subst h)|(simp at h;subst h)
  go_enter Tryz.func56,Tryz.ntmps56
  go_wp2_with (first|(go_at_call 49;with_reducible refine aQ (K1.out _) fun _ _=>?_;dsimp only)|(go_at_call 89;with_reducible refine aQ (K4.out _ gw) fun _ _=>?_;dsimp only))
  go_ret
  first|exact aC.mk' rfl gw|exact aC.mk' (by simp[h3]) gw
omit K1 K2 in
include b in
theorem Qc (hk:(kind=6/\0<dep)\/(¬ (kind=1\/kind=2\/kind=5)/\kind≠3/\kind≠6/\kind≠4)) :
  Calls Tryz.prog 56 #[.agg #[.int .i64 id,.int .i64 kind,.int .i64 x,.int .i64 y,.int .i64 dC,.slice aA na ac,.int .i64 dep,.int .i64 sym,.slice sA ns sc]] w (aC w (.bool false)):=by
 obtain⟨⟨b1,b2⟩,⟨b3,b4⟩,⟨b5,b6⟩,b7,b8⟩:=b
 have n1:¬ id<1:=by omega
 have n2:¬ 100000<id:=by omega
 have n3:¬ sym<0:=by omega
 have n4:¬ 999<sym:=by omega
 have n5:¬ dep<0:=by omega
 have n6:¬ 100000<dep:=by omega
 have n7:¬ dC<0:=by omega
 have n8:¬ 100000<dC:=by omega
 rcases hk with⟨rfl,h1⟩|⟨h1,h2,h3,h4⟩
 ·go_enter Tryz.func56,Tryz.ntmps56
  go_wp2_with fail
  go_ret
  exact aC.mk' rfl gw
 ·have m1:¬ kind=1:=by omega
  have m2:¬ kind=2:=by omega
  have m3:¬ kind=5:=by omega
  clear h1
  go_enter Tryz.func56,Tryz.ntmps56
  go_wp2_with fail
  go_ret
  exact aC.mk' rfl gw
omit K1 K2 b in
theorem Zn (b:¬ ((1<=id/\id<=100000)/\(0<=sym/\sym<=999)/\(0<=dep/\dep<=100000)/\(0<=dC/\dC<=100000))) :
  Calls Tryz.prog 56 #[.agg #[.int .i64 id,.int .i64 kind,.int .i64 x,.int .i64 y,.int .i64 dC,.slice aA na ac,.int .i64 dep,.int .i64 sym,.slice sA ns sc]] w (aC w (.bool false)):=by
 have hcase:id<1\/(¬ id<1/\100000<id)\/(¬ id<1/\¬ 100000<id/\sym<0)\/(¬ id<1/\¬ 100000<id/\¬ sym<0/\999<sym)\/(¬ id<1/\¬ 100000<id/\¬ sym<0/\¬ 999<sym/\dep<0)\/(¬ id<1/\¬ 100000<id/\¬ sym<0/\¬ 999<sym/\¬ dep<0/\100000<dep)\/(¬ id<1/\¬ 100000<id/\¬ sym<0/\¬ 999<sym/\¬ dep<0/\¬ 100000<dep/\dC<0)\/(¬ id<1/\¬ 100000<id/\¬ sym<0/\¬ 999<sym/\¬ dep<0/\¬ 100000<dep/\¬ dC<0/\100000<dC):=by omega
 clear b
 rcases hcase with h1|⟨h1,h2⟩|⟨h1,h2,h3⟩|⟨h1,h2,h3,h4⟩|⟨h1,h2,h3,h4,h5⟩|⟨h1,h2,h3,h4,h5,h6⟩|⟨h1,h2,h3,h4,h5,h6,h7⟩|⟨h1,h2,h3,h4,h5,h6,h7,h8⟩
 all_goals
  go_enter Tryz.func56,Tryz.ntmps56
  go_wp2_with fail
  go_ret
  exact aC.mk' rfl gw
end
theorem dE (f:FV)(r:Bool)(w:World)(hr:f.rd w w.heap.size)(h:bf f=r) :
  Calls Tryz.prog 56 #[f.val] w (aC w (.bool r)):=by
 have k1:=hide (fun W=>dP f.x f.y _ W rfl)
 have k3:=hide (fun W (hg:Grew w W)=>jJ f.area f.aA f.ac _ W ((hr.up hg).area) hr.la rfl)
 have k4:=hide (fun W (hg:Grew w W)=>TU f.secs f.sA f.sc _ W ((hr.up hg).secs) hr.lc hr.ls rfl)
 unfold bf Oq Bv I4 wP Ey at h
 by_cases hb:(1<=f.id/\f.id<=100000)/\(0<=f.sym/\f.sym<=999)/\(0<=f.dep/\f.dep<=100000)/\(0<=f.dC/\f.dC<=100000)
 ·rw[decide_eq_true hb,Bool.true_and] at h
  have k2:=hide (fun (h1:lh f.x f.y=true) W=>abI f.x f.y f.dC _ W h1 hb.2.2.2 rfl)
  rcases Y5 f.kind with hk|hk|hk|hk|⟨h1,h2,h3,h4⟩
  ·rw[if_pos (decide_eq_true hk)] at h
   exact Zm _ _ _ _ _ _ _ _ _ _ _ _ _ _ _ _ w k1 k2 hb hk h
  ·rw[if_neg (by rw[decide_eq_true_eq];omega),if_pos hk] at h
   exact Qd _ _ _ _ _ _ _ _ _ _ _ _ _ _ _ w k3 hb (.inl hk) h
  ·rw[if_neg (by rw[decide_eq_true_eq];omega),if_neg (by omega),if_pos hk] at h
   by_cases hd:f.dep=0
   ·rw[decide_eq_true hd,Bool.true_and] at h
    exact Qd _ _ _ _ _ _ _ _ _ _ _ _ _ _ _ w k3 hb (.inr ⟨hk,hd⟩) h
   ·rw[decide_eq_false hd,Bool.false_and] at h
    subst h
    exact Qc _ _ _ _ _ _ _ _ _ _ _ _ _ w hb (.inl ⟨hk,by omega⟩)
  ·rw[if_neg (by rw[decide_eq_true_eq];omega),if_neg (by omega),if_neg (by omega),if_pos hk] at h
   exact Xd _ _ _ _ _ _ _ _ _ _ _ _ _ _ _ _ w k1 k4 hb hk h
  ·rw[if_neg (by rw[decide_eq_true_eq];omega),if_neg (by omega),if_neg (by omega),if_neg (by omega)] at h
   subst h
   exact Qc _ _ _ _ _ _ _ _ _ _ _ _ _ w hb (.inr ⟨h1,h2,h3,h4⟩)
 ·rw[decide_eq_false hb,Bool.false_and] at h
  subst h
  exact Zn _ _ _ _ _ _ _ _ _ _ _ _ _ w hb
end Go.Proofs.YtlkgjmnjhifehaaGreat
