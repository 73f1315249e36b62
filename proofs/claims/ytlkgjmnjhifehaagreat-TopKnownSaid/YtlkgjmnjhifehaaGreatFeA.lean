/- Package feature: what a valid feature is. -/
import Derived.Test.YtlkgjmnjhifehaaGreatItX
import Derived.Test.YtlkgjmnjhifehaaGreatPod
set_option linter.unusedSimpArgs false
set_option linter.unusedVariables false
set_option maxHeartbeats 8000000
set_option maxRecDepth 100000
namespace Go.Proofs.YtlkgjmnjhifehaaGreat
open Go.RowKit Go.Sort
attribute [local go_sem] dC steadyUpon
attribute [local go_sem ↓] bQ bJ bg aZ aY aX aW
attribute [local go_sem] bH aN aK size_grow tape_grow cell?_grow' aF aC grow_grow bV bn dZ bZ bW bM aO cO bu bY bK
attribute [local irreducible] wpSteady
structure FV where
 id:Int
 kind:Int
 x:Int
 y:Int
 dn:Int
 aA:Option Addr
 ac:Nat
 area:List Pt
 dep:Int
 sym:Int
 sA:Option Addr
 sc:Nat
 secs:List fH
abbrev FV.val (f:FV):Value:=.agg #[.int .i64 f.id,.int .i64 f.kind,.int .i64 f.x,.int .i64 f.y,.int .i64 f.dn,.slice f.aA f.area.length f.ac,.int .i64 f.dep,.int .i64 f.sym,.slice f.sA f.secs.length f.sc]
def FV.cells (f:FV):List Value:=[.int .i64 f.id,.int .i64 f.kind,.int .i64 f.x,.int .i64 f.y,.int .i64 f.dn,.slice f.aA f.area.length f.ac,.int .i64 f.dep,.int .i64 f.sym,.slice f.sA f.secs.length f.sc]
structure FV.rd (w:World) (B:Nat) (f:FV):Prop where
 area:Rd w B 2 f.aA (f.area.map dU)
 secs:Rd w B 6 f.sA (f.secs.map fH.cells)
 la:f.area.length<=100000000000000
 ls:f.secs.length<=100000000000000
 lc:f.secs.length<=f.sc
theorem FV.rd.up {w w':World}{f:FV}(h:f.rd w w.heap.size)(hg:Grew w w'):f.rd w' w'.heap.size:=⟨h.area.up hg,h.secs.up hg,h.la,h.ls,h.lc⟩
theorem FV.rd.grew {w w':World}{B B':Nat}{f:FV}(h:f.rd w B)(hg:Grew w w')(hB:B<=w.heap.size)(hB':B<=B'):f.rd w' B':=⟨(h.area.grew hg hB).mono hB',(h.secs.grew hg hB).mono hB',h.la,h.ls,h.lc⟩
def Nj (x y n:Int):Bool:=oO (x-n) (y-n)&&oO (x+n) (y+n)
def yh (f:FV):Bool:=decide ((1<=f.id/\f.id<=100000)/\(0<=f.sym/\f.sym<=999)/\(0<=f.dep/\f.dep<=100000)/\(0<=f.dn/\f.dn<=100000))
def IU (k:Int):Bool:=decide (k=1\/k=2\/k=5)
def Og (f:FV):Bool:=oO f.x f.y&&(Nj f.x f.y f.dn&&(decide (f.area.length=0)&&decide (f.secs.length=0)))
def EU (f:FV):Bool:=di f.area&&(decide (f.x=0/\f.y=0)&&(decide (f.dn=0)&&decide (f.secs.length=0)))
def IM (f:FV):Bool:=oO f.x f.y&&(fJ f.secs&&(decide (f.dn=0)&&(decide (f.dep=0)&&decide (f.area.length=0))))
def bC (f:FV):Bool:=yh f&&(if IU f.kind=true then Og f else if f.kind=3 then EU f else if f.kind=6 then decide (f.dep=0)&&EU f else if f.kind=4 then IM f else false)
theorem abq (x y n:Int)(r:Bool)(w:World)(hp:oO x y=true)(hn:0<=n/\n<=100000)(h:Nj x y n=r) :
  Calls Tryz.prog 87 #[pt x y,.int .i64 n] w (aB w (.bool r)):=by
 have hm:=aQ
 have hb:=Kt hp
 obtain⟨o1,h1⟩:∃o,oO (x-n) (y-n)=o:=⟨_,rfl⟩
 obtain⟨o2,h2⟩:∃o,oO (x+n) (y+n)=o:=⟨_,rfl⟩
 unfold Nj at h
 rw[h1,h2] at h
 have k1:=hide (fun W=>dP (x-n) (y-n) o1 W h1)
 have k2:=hide (fun W=>dP (x+n) (y+n) o2 W h2)
 subst h
 clear h1 h2 hp
 cases o1
 all_goals
  go_enter Tryz.func87,Tryz.ntmps87
  go_wp2_with (first|(go_at_call 49;with_reducible refine aT (k1.out _) fun _ _=>?_;dsimp only)|(go_at_call 49;with_reducible refine aT (k2.out _) fun _ _=>?_;dsimp only))
  go_ret
  exact aB.mk' rfl gw
theorem TG (ss:List fH)(A:Option Addr)(c:Nat)(r:Bool)(w:World)(hr:Rd w w.heap.size 6 A (ss.map fH.cells))(hl:ss.length<=c)(hc:ss.length<=100000000000000)(h:fJ ss=r) :
  Calls Tryz.prog 89 #[.slice A ss.length c] w (aB w (.bool r)):=by
 have:=ku ss A c w hr hl hc
 rwa [h] at this
theorem YM (k:Int):(k=1\/k=2\/k=5)\/k=3\/k=6\/k=4\/(¬ (k=1\/k=2\/k=5)/\k≠3/\k≠6/\k≠4):=by omega
section
variable (id kind x y dn:Int) (aA:Option Addr) (na ac:Nat) (dep sym:Int) (sA:Option Addr) (ns sc:Nat) (o1 o2 o3 o4 r:Bool) (w:World)
 (K1:Hid (∀W,Calls Tryz.prog 49 #[pt x y] W (aB W (.bool o1))))
 (K2:Hid (o1=true->∀W,Calls Tryz.prog 87 #[pt x y,.int .i64 dn] W (aB W (.bool o2))))
 (K3:Hid (∀W,Grew w W->Calls Tryz.prog 88 #[.slice aA na ac] W (aB W (.bool o3))))
 (K4:Hid (∀W,Grew w W->Calls Tryz.prog 89 #[.slice sA ns sc] W (aB W (.bool o4))))
 (b:(1<=id/\id<=100000)/\(0<=sym/\sym<=999)/\(0<=dep/\dep<=100000)/\(0<=dn/\dn<=100000))
include K1 K2 b
theorem Za (hk:kind=1\/kind=2\/kind=5)(h:(o1&&(o2&&(decide (na=0)&&decide (ns=0))))=r) :
  Calls Tryz.prog 56 #[.agg #[.int .i64 id,.int .i64 kind,.int .i64 x,.int .i64 y,.int .i64 dn,.slice aA na ac,.int .i64 dep,.int .i64 sym,.slice sA ns sc]] w (aB w (.bool r)):=by
 obtain⟨⟨b1,b2⟩,⟨b3,b4⟩,⟨b5,b6⟩,b7,b8⟩:=b
 have n1:¬ id<1:=by omega
 have n2:¬ 100000<id:=by omega
 have n3:¬ sym<0:=by omega
 have n4:¬ 999<sym:=by omega
 have n5:¬ dep<0:=by omega
 have n6:¬ 100000<dep:=by omega
 have n7:¬ dn<0:=by omega
 have n8:¬ 100000<dn:=by omega
 have hcase:o1=false\/(o1=true/\o2=false)\/(o1=true/\o2=true/\na≠0)\/(o1=true/\o2=true/\na=0/\ns≠0)\/(o1=true/\o2=true/\na=0/\ns=0):=by
  cases o1<;>cases o2<;>simp;omega
 rcases hcase with rfl|⟨rfl,rfl⟩|⟨rfl,rfl,h3⟩|⟨rfl,rfl,rfl,h3⟩|⟨rfl,rfl,rfl,rfl⟩
 all_goals
  first|(simp[h3] at h;subst h)|(simp at h;subst h)
  have k2:=hide (K2.out)
  clear K2
  try (have kr:=hide (k2.out rfl))
  clear k2
  rcases hk with rfl|rfl|rfl
  all_goals
   go_enter Tryz.func56,Tryz.ntmps56
   go_wp2_with (first|(go_at_call 49;with_reducible refine aT (K1.out _) fun _ _=>?_;dsimp only)|(go_at_call 87;with_reducible refine aT (kr.out _) fun _ _=>?_;dsimp only))
   go_ret
   first|exact aB.mk' rfl gw|exact aB.mk' (by simp[h3]) gw
omit K1 K2 in
include K3 b in
theorem P5 (hk:kind=3\/(kind=6/\dep=0))(h:(o3&&(decide (x=0/\y=0)&&(decide (dn=0)&&decide (ns=0))))=r) :
  Calls Tryz.prog 56 #[.agg #[.int .i64 id,.int .i64 kind,.int .i64 x,.int .i64 y,.int .i64 dn,.slice aA na ac,.int .i64 dep,.int .i64 sym,.slice sA ns sc]] w (aB w (.bool r)):=by
 obtain⟨⟨b1,b2⟩,⟨b3,b4⟩,⟨b5,b6⟩,b7,b8⟩:=b
 have n1:¬ id<1:=by omega
 have n2:¬ 100000<id:=by omega
 have n3:¬ sym<0:=by omega
 have n4:¬ 999<sym:=by omega
 have n5:¬ dep<0:=by omega
 have n6:¬ 100000<dep:=by omega
 have n7:¬ dn<0:=by omega
 have n8:¬ 100000<dn:=by omega
 have hcase:o3=false\/(o3=true/\x≠0)\/(o3=true/\x=0/\y≠0)\/(o3=true/\x=0/\y=0/\dn≠0)\/(o3=true/\x=0/\y=0/\dn=0/\ns≠0)\/(o3=true/\x=0/\y=0/\dn=0/\ns=0):=by
  cases o3<;>simp;omega
 rcases hcase with rfl|⟨rfl,h3⟩|⟨rfl,rfl,h3⟩|⟨rfl,rfl,rfl,h3⟩|⟨rfl,rfl,rfl,rfl,h3⟩|⟨rfl,rfl,rfl,rfl,rfl⟩
 all_goals
  first|(simp[h3] at h;subst h)|(simp at h;subst h)
  rcases hk with rfl|⟨rfl,rfl⟩
  all_goals
   go_enter Tryz.func56,Tryz.ntmps56
   go_wp2_with (go_at_call 88;with_reducible refine aT (K3.out _ gw) fun _ _=>?_;dsimp only)
   go_ret
   first|exact aB.mk' rfl gw|exact aB.mk' (by simp[h3]) gw
omit K1 K2 in
include K1 K4 b in
theorem WE (hk:kind=4)(h:(o1&&(o4&&(decide (dn=0)&&(decide (dep=0)&&decide (na=0)))))=r) :
  Calls Tryz.prog 56 #[.agg #[.int .i64 id,.int .i64 kind,.int .i64 x,.int .i64 y,.int .i64 dn,.slice aA na ac,.int .i64 dep,.int .i64 sym,.slice sA ns sc]] w (aB w (.bool r)):=by
 obtain⟨⟨b1,b2⟩,⟨b3,b4⟩,⟨b5,b6⟩,b7,b8⟩:=b
 have n1:¬ id<1:=by omega
 have n2:¬ 100000<id:=by omega
 have n3:¬ sym<0:=by omega
 have n4:¬ 999<sym:=by omega
 have n5:¬ dep<0:=by omega
 have n6:¬ 100000<dep:=by omega
 have n7:¬ dn<0:=by omega
 have n8:¬ 100000<dn:=by omega
 have hcase:o1=false\/(o1=true/\o4=false)\/(o1=true/\o4=true/\dn≠0)\/(o1=true/\o4=true/\dn=0/\dep≠0)\/(o1=true/\o4=true/\dn=0/\dep=0/\na≠0)\/(o1=true/\o4=true/\dn=0/\dep=0/\na=0):=by
  cases o1<;>cases o4<;>simp;omega
 subst hk
 rcases hcase with rfl|⟨rfl,rfl⟩|⟨rfl,rfl,h3⟩|⟨rfl,rfl,rfl,h3⟩|⟨rfl,rfl,rfl,rfl,h3⟩|⟨rfl,rfl,rfl,rfl,rfl⟩
 all_goals
  first|(simp[h3] at h;subst h)|(simp at h;subst h)
  go_enter Tryz.func56,Tryz.ntmps56
  go_wp2_with (first|(go_at_call 49;with_reducible refine aT (K1.out _) fun _ _=>?_;dsimp only)|(go_at_call 89;with_reducible refine aT (K4.out _ gw) fun _ _=>?_;dsimp only))
  go_ret
  first|exact aB.mk' rfl gw|exact aB.mk' (by simp[h3]) gw
omit K1 K2 in
include b in
theorem PZ (hk:(kind=6/\0<dep)\/(¬ (kind=1\/kind=2\/kind=5)/\kind≠3/\kind≠6/\kind≠4)) :
  Calls Tryz.prog 56 #[.agg #[.int .i64 id,.int .i64 kind,.int .i64 x,.int .i64 y,.int .i64 dn,.slice aA na ac,.int .i64 dep,.int .i64 sym,.slice sA ns sc]] w (aB w (.bool false)):=by
 obtain⟨⟨b1,b2⟩,⟨b3,b4⟩,⟨b5,b6⟩,b7,b8⟩:=b
 have n1:¬ id<1:=by omega
 have n2:¬ 100000<id:=by omega
 have n3:¬ sym<0:=by omega
 have n4:¬ 999<sym:=by omega
 have n5:¬ dep<0:=by omega
 have n6:¬ 100000<dep:=by omega
 have n7:¬ dn<0:=by omega
 have n8:¬ 100000<dn:=by omega
 rcases hk with⟨rfl,h1⟩|⟨h1,h2,h3,h4⟩
 ·go_enter Tryz.func56,Tryz.ntmps56
  go_wp2_with fail
  go_ret
  exact aB.mk' rfl gw
 ·have m1:¬ kind=1:=by omega
  have m2:¬ kind=2:=by omega
  have m3:¬ kind=5:=by omega
  clear h1
  go_enter Tryz.func56,Tryz.ntmps56
  go_wp2_with fail
  go_ret
  exact aB.mk' rfl gw
omit K1 K2 b in
theorem Zb (b:¬ ((1<=id/\id<=100000)/\(0<=sym/\sym<=999)/\(0<=dep/\dep<=100000)/\(0<=dn/\dn<=100000))) :
  Calls Tryz.prog 56 #[.agg #[.int .i64 id,.int .i64 kind,.int .i64 x,.int .i64 y,.int .i64 dn,.slice aA na ac,.int .i64 dep,.int .i64 sym,.slice sA ns sc]] w (aB w (.bool false)):=by
 have hcase:id<1\/(¬ id<1/\100000<id)\/(¬ id<1/\¬ 100000<id/\sym<0)\/(¬ id<1/\¬ 100000<id/\¬ sym<0/\999<sym)\/(¬ id<1/\¬ 100000<id/\¬ sym<0/\¬ 999<sym/\dep<0)\/(¬ id<1/\¬ 100000<id/\¬ sym<0/\¬ 999<sym/\¬ dep<0/\100000<dep)\/(¬ id<1/\¬ 100000<id/\¬ sym<0/\¬ 999<sym/\¬ dep<0/\¬ 100000<dep/\dn<0)\/(¬ id<1/\¬ 100000<id/\¬ sym<0/\¬ 999<sym/\¬ dep<0/\¬ 100000<dep/\¬ dn<0/\100000<dn):=by omega
 clear b
 rcases hcase with h1|⟨h1,h2⟩|⟨h1,h2,h3⟩|⟨h1,h2,h3,h4⟩|⟨h1,h2,h3,h4,h5⟩|⟨h1,h2,h3,h4,h5,h6⟩|⟨h1,h2,h3,h4,h5,h6,h7⟩|⟨h1,h2,h3,h4,h5,h6,h7,h8⟩
 all_goals
  go_enter Tryz.func56,Tryz.ntmps56
  go_wp2_with fail
  go_ret
  exact aB.mk' rfl gw
end
theorem dD (f:FV)(r:Bool)(w:World)(hr:f.rd w w.heap.size)(h:bC f=r) :
  Calls Tryz.prog 56 #[f.val] w (aB w (.bool r)):=by
 have k1:=hide (fun W=>dP f.x f.y _ W rfl)
 have k3:=hide (fun W (hg:Grew w W)=>jJ f.area f.aA f.ac _ W ((hr.up hg).area) hr.la rfl)
 have k4:=hide (fun W (hg:Grew w W)=>TG f.secs f.sA f.sc _ W ((hr.up hg).secs) hr.lc hr.ls rfl)
 unfold bC Og EU IM yh IU at h
 by_cases hb:(1<=f.id/\f.id<=100000)/\(0<=f.sym/\f.sym<=999)/\(0<=f.dep/\f.dep<=100000)/\(0<=f.dn/\f.dn<=100000)
 ·rw[decide_eq_true hb,Bool.true_and] at h
  have k2:=hide (fun (h1:oO f.x f.y=true) W=>abq f.x f.y f.dn _ W h1 hb.2.2.2 rfl)
  rcases YM f.kind with hk|hk|hk|hk|⟨h1,h2,h3,h4⟩
  ·rw[if_pos (decide_eq_true hk)] at h
   exact Za _ _ _ _ _ _ _ _ _ _ _ _ _ _ _ _ w k1 k2 hb hk h
  ·rw[if_neg (by rw[decide_eq_true_eq];omega),if_pos hk] at h
   exact P5 _ _ _ _ _ _ _ _ _ _ _ _ _ _ _ w k3 hb (.inl hk) h
  ·rw[if_neg (by rw[decide_eq_true_eq];omega),if_neg (by omega),if_pos hk] at h
   by_cases hd:f.dep=0
   ·rw[decide_eq_true hd,Bool.true_and] at h
    exact P5 _ _ _ _ _ _ _ _ _ _ _ _ _ _ _ w k3 hb (.inr ⟨hk,hd⟩) h
   ·rw[decide_eq_false hd,Bool.false_and] at h
    subst h
    exact PZ _ _ _ _ _ _ _ _ _ _ _ _ _ w hb (.inl ⟨hk,by omega⟩)
  ·rw[if_neg (by rw[decide_eq_true_eq];omega),if_neg (by omega),if_neg (by omega),if_pos hk] at h
   exact WE _ _ _ _ _ _ _ _ _ _ _ _ _ _ _ _ w k1 k4 hb hk h
  ·rw[if_neg (by rw[decide_eq_true_eq];omega),if_neg (by omega),if_neg (by omega),if_neg (by omega)] at h
   subst h
   exact PZ _ _ _ _ _ _ _ _ _ _ _ _ _ w hb (.inr ⟨h1,h2,h3,h4⟩)
 ·rw[decide_eq_false hb,Bool.false_and] at h
  subst h
  exact Zb _ _ _ _ _ _ _ _ _ _ _ _ _ w hb
end Go.Proofs.YtlkgjmnjhifehaaGreat
