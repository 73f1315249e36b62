/- The contracts of the program's functions on directions and sectors (package sector) that have no loop. Conditions: coordinates in range where products are formed. The contracts of. -/
import Derived.Test.YtlkgjmnjhifehaaGreatPla
import Derived.Test.YtlkgjmnjhifehaaGreatApp
import Derived.Lib.AppendZerosOnto
set_option linter.unusedSimpArgs false
set_option linter.unusedVariables false
set_option maxHeartbeats 1600000
set_option maxRecDepth 100000
namespace Go.Proofs.YtlkgjmnjhifehaaGreat
open Go.RowKit Go.Sort
attribute [local go_sem] dC steadyUpon
attribute [local go_sem ↓] bQ bJ bg aZ aY aX aW
attribute [local go_sem] bH aN aK size_grow tape_grow cell?_grow' aF aC grow_grow bV bn dZ bZ bW bM aO cO bu bY bK
abbrev sec (a b c d e f:Int):Value:=.agg #[.int .i64 a,.int .i64 b,.int .i64 c,.int .i64 d,.int .i64 e,.int .i64 f]
theorem SK (a b c d:Int)(w:World)(ha:-4000000<=a/\a<=4000000)(hb:-4000000<=b/\b<=4000000)(hc:-4000000<=c/\c<=4000000)(hd:-4000000<=d/\d<=4000000) :
  Calls Tryz.prog 156 #[pt a b,pt c d] w (aB w (.int .i64 (a*d-b*c))):=by
 have h1:-16000000000000<=a*d/\a*d<=16000000000000:=jy 4000000 4000000 ha hd
 have h2:-16000000000000<=b*c/\b*c<=16000000000000:=jy 4000000 4000000 hb hc
 go_enter Tryz.func156,Tryz.ntmps156
 go_wp2
 go_ret
 exact aB.mk' rfl gw
def upper (a b:Int):Bool:=decide (0<b)||(b==0&&decide (0<a))
theorem FY (a b:Int)(w:World) :
  Calls Tryz.prog 155 #[pt a b] w (aB w (.bool (upper a b))):=by
 go_enter Tryz.func155,Tryz.ntmps155
 go_wp2
 all_goals go_ret
 all_goals refine aB.mk' (dS ?_) gw
 all_goals simp[upper, *]
 all_goals omega
def sO (a b:Int):Bool:=decide ((a≠0\/b≠0)/\(-1000000<=a/\a<=1000000)/\(-1000000<=b/\b<=1000000))
theorem abB (a b:Int)(w:World) :
  Calls Tryz.prog 138 #[pt a b] w (aB w (.bool (sO a b))):=by
 go_enter Tryz.func138,Tryz.ntmps138
 go_wp2
 all_goals go_ret
 all_goals refine aB.mk' (dS ?_) gw
 all_goals (rw[Bool.eq_iff_iff];simp[sO];omega)
def AZ (a b c d:Int):Int:=a*d-b*c
def mg (a b c d:Int):Int:=if upper a b != upper c d then (if upper a b then -1 else 1) else if 0<AZ a b c d then -1 else if AZ a b c d<0 then 1 else 0
theorem cw1 {a b c d:Int}(h1:(!upper a b==upper c d)=true)(h2:upper a b=true):-1=mg a b c d:=by
 unfold mg;cases h3:upper a b<;>cases h4:upper c d<;>simp_all
theorem cw2 {a b c d:Int}(h1:(!upper a b==upper c d)=true)(h2:upper a b=false):1=mg a b c d:=by
 unfold mg;cases h3:upper a b<;>cases h4:upper c d<;>simp_all
theorem cw3 {a b c d:Int}(h1:(!upper a b==upper c d)=false)(h2:b*c<a*d):-1=mg a b c d:=by
 unfold mg AZ;rw[if_neg (by cases h3:upper a b<;>cases h4:upper c d<;>simp_all),if_pos (by omega)]
theorem cw4 {a b c d:Int}(h1:(!upper a b==upper c d)=false)(h2:a*d-b*c<0):1=mg a b c d:=by
 unfold mg AZ;rw[if_neg (by cases h3:upper a b<;>cases h4:upper c d<;>simp_all),if_neg (by omega),if_pos (by omega)]
theorem cw5 {a b c d:Int}(h1:(!upper a b==upper c d)=false)(h2:a*d<=b*c)(h3:0<=a*d-b*c):0=mg a b c d:=by
 unfold mg AZ;rw[if_neg (by cases h3:upper a b<;>cases h4:upper c d<;>simp_all),if_neg (by omega),if_neg (by omega)]
theorem BX (a b c d:Int)(w:World)(ha:-4000000<=a/\a<=4000000)(hb:-4000000<=b/\b<=4000000)(hc:-4000000<=c/\c<=4000000)(hd:-4000000<=d/\d<=4000000) :
  Calls Tryz.prog 139 #[pt a b,pt c d] w (aB w (.int .i64 (mg a b c d))):=by
 have hm:=aQ
 go_enter Tryz.func139,Tryz.ntmps139
 go_wp2_with fail
 refine ay 6 [] [] hm (h:=?_)
 repeat (refine au (fun K hK=>?_);go_simp;first|(refine hK _ ?_;clear hK K)|(apply Exists.intro;refine⟨fun _=>?_,hK _ ?_⟩;(go_at_call 155;exact FY _ _ _);clear hK K))
 refine kZ fun nq osq=>?_
 try simp only[Act.put,aG]
 try dsimp only
 go_wp2_with (first|(go_at_call 155;refine aT (FY _ _ _) fun _ _=>?_;dsimp only)|(go_at_call 156;refine aT (SK _ _ _ _ _ ha hb hc hd) fun _ _=>?_;dsimp only))
 all_goals go_ret
 all_goals refine aB.mk' (lU ?_) gw
 all_goals (first|exact cw1 ‹_› ‹_› | exact cw2 ‹_› ‹_› | exact cw3 ‹_› ‹_› | exact cw4 ‹_› ‹_› | exact cw5 ‹_› ‹_› ‹_›)
def yD (a b c d e f:Int):Bool:=sO a b&&sO c d&&decide (1<=e/\e<=3)&&decide (1<=f/\f<=3000000)
theorem Dz (a b c d e f:Int)(w:World) :
  Calls Tryz.prog 113 #[sec a b c d e f] w (aB w (.bool (yD a b c d e f))):=by
 have hm:=aQ
 go_enter Tryz.func113,Tryz.ntmps113
 go_wp2_with (go_at_call 138;refine aT (abB _ _ _) fun _ _=>?_;dsimp only)
 all_goals go_ret
 all_goals refine aB.mk' (dS ?_) gw
 all_goals (first|(simp[yD, *];done)|(simp[yD, *];omega))
def IX (a b c d x y:Int):Bool :=
 if mg a b c d==-1 then (decide (mg a b x y<=0) && !decide (mg c d x y<=0)) else if mg a b c d==1 then (decide (mg a b x y<=0) || !decide (mg c d x y<=0)) else true
theorem Di (a b c d e f x y:Int)(w:World)(ha:-4000000<=a/\a<=4000000)(hb:-4000000<=b/\b<=4000000)(hc:-4000000<=c/\c<=4000000)(hd:-4000000<=d/\d<=4000000)
  (hx:-4000000<=x/\x<=4000000) (hy:-4000000<=y/\y<=4000000) :
  Calls Tryz.prog 114 #[sec a b c d e f,pt x y] w (aB w (.bool (IX a b c d x y))):=by
 have hm:=aQ
 go_enter Tryz.func114,Tryz.ntmps114
 go_wp2_with fail
 refine ay 8 [⟨4,6,5,183,.agg #[.int .i64 0,.int .i64 0]⟩,⟨5,7,6,183,.agg #[.int .i64 0,.int .i64 0]⟩] [] hm (hZ:=(qE.cons Tryz.zeroValue183 Tryz.sizeOf183 (qE.cons Tryz.zeroValue183 Tryz.sizeOf183 qE.nil))) (h:=?_)
 repeat (refine au (fun K hK=>?_);go_simp;refine hK _ ?_;clear hK K)
 refine dW ?_
 refine⟨(jf.cons (by rfl) (by simp[bU,Act.eval,Value.cells,Value.oneCell']) (jf.cons (by rfl) (by simp[bU,Act.eval,Value.cells,Value.oneCell']) jf.nil)),nR.nil,?_⟩
 rintro psq FB Wq iP FT FW
 obtain rfl:FB=[]:=FW
 obtain⟨p0,_,rfl,hp0,hb0,hn0,p1,_,rfl,hp1,hb1,hn1,rfl⟩:=FT
 simp only[putAll,putB,Act.put,aG]
 simp[bU,Act.eval,Value.cells] at hb0
 have xE:Wq.cell? ⟨p0,0,none⟩=some _:=ag hb0 0
 have xC:Wq.cell? ⟨p0,1,none⟩=some _:=ag hb0 1
 have X3:=bD hb0
 have X0:=ax hb0
 simp[bU,Act.eval,Value.cells] at hb1
 have Eo:Wq.cell? ⟨p1,0,none⟩=some _:=ag hb1 0
 have En:Wq.cell? ⟨p1,1,none⟩=some _:=ag hb1 1
 have gf1:=bD hb1
 have gl1:=ax hb1
 have gn:p0≠p1:=by simpa using hn0
 have gm:p1≠p0:=fun e=>gn e.symm
 have WA:=hide hp0
 have gp1:=hide hp1
 clear hb0 hn0 hp0 hb1 hn1 hp1
 have oc:=iR iP
 have of:=jw iP
 have ol:=rE iP
 replace iP:=hide iP
 go_wp2_with fail
 refine ay 10 [] [] hm (h:=?_)
 repeat (refine au (fun K hK=>?_);go_simp;first|(refine hK _ ?_;clear hK K)|(apply Exists.intro;refine⟨fun _=>?_,hK _ ?_⟩;(go_at_call 139;exact BX _ _ _ _ _ (by assumption) (by assumption) (by assumption) (by assumption));clear hK K))
 refine kZ fun nqa adF=>?_
 try simp only[Act.put,aG]
 try dsimp only
 go_wp2_with (go_at_call 139;refine aT (BX _ _ _ _ _ ha hb hc hd) fun _ _=>?_;dsimp only)
 all_goals go_ret
 all_goals refine aB.mk' (dS ?_) gw
 all_goals (simp only[IX, *];simp;try omega)
structure fH where
 fx:Int
 fy:Int
 tx:Int
 ty:Int
 jA:Int
 UO:Int
 deriving DecidableEq,Inhabited
namespace fH
def val (s:fH):Value:=sec s.fx s.fy s.tx s.ty s.jA s.UO
def cells (s:fH):List Value:=[.int .i64 s.fx,.int .i64 s.fy,.int .i64 s.tx,.int .i64 s.ty,.int .i64 s.jA,.int .i64 s.UO]
def ok (s:fH):Bool:=yD s.fx s.fy s.tx s.ty s.jA s.UO
def has (s:fH)(x y:Int):Bool:=IX s.fx s.fy s.tx s.ty x y
end fH
def clash (s t:fH):Bool:=s.has t.fx t.fy||t.has s.fx s.fy
def Fe (ss:List fH)(k:Nat):Prop:=∀i s,i<k->ss[i]?=some s->s.ok=true/\∀j t,j<i->ss[j]?=some t->clash s t=false
def GoodAt (ss:List fH)(s:fH)(j:Nat):Prop:=∀i t,i<j->ss[i]?=some t->clash s t=false
def LV (ss:List fH):Prop:=Fe ss ss.length/\ss.length<=12
def fJ (ss:List fH):Bool:=decide ((∀i<ss.length,(ss.getD i default).ok=true/\∀j<i,clash (ss.getD i default) (ss.getD j default)=false)/\ss.length<=12)
theorem Dj {α:Type}{l:List α}{i:Nat}{s d:α}(h:l[i]?=some s):l.getD i d=s:=by simp[h]
theorem yt {ss:List fH}:fJ ss=true↔LV ss:=by
 unfold fJ LV Fe
 rw[decide_eq_true_eq]
 constructor
 ·rintro⟨h,h12⟩
  refine⟨fun i s hi hs=>?_,h12⟩
  obtain⟨h1,h2⟩:=h i hi
  rw[Dj hs] at h1 h2
  exact⟨h1,fun j t hj ht=>by have:=h2 j hj;rwa [Dj ht] at this⟩
 ·rintro⟨h,h12⟩
  refine⟨fun i hi=>?_,h12⟩
  have hs:ss[i]?=some ss[i]:=List.getElem?_eq_getElem hi
  obtain⟨h1,h2⟩:=h i _ hi hs
  rw[Dj hs]
  refine⟨h1,fun j hj=>?_⟩
  have ht:ss[j]?=some ss[j]:=List.getElem?_eq_getElem (by omega)
  rw[Dj ht]
  exact h2 j _ hj ht
theorem Fa {ss:List fH}(h:¬ LV ss):false=fJ ss:=by
 cases hc:fJ ss with
 | false=>rfl
 | true=>exact (h (yt.1 hc)).elim
theorem O9 {w:World}{B:Nat}{A:Option Addr}{ss:List fH}{k:Nat}{s:fH}(h:Rd w B 6 A (ss.map fH.cells))(hk:ss[k]?=some s) :
  ∃b off,Hid (A=some ⟨b,off,none⟩)/\b<B/\w.cell? ⟨b,off+k*6,none⟩=some (.int .i64 s.fx)/\w.cell? ⟨b,off+k*6+1,none⟩=some (.int .i64 s.fy) /\
   w.cell? ⟨b,off+k*6+2,none⟩=some (.int .i64 s.tx)/\w.cell? ⟨b,off+k*6+3,none⟩=some (.int .i64 s.ty)/\w.cell? ⟨b,off+k*6+4,none⟩=some (.int .i64 s.jA)/\w.cell? ⟨b,off+k*6+5,none⟩=some (.int .i64 s.UO):=by
 obtain⟨b,off,hA,hb,hc⟩:=h.at_ (k:=k) (x:=s.cells) (by simp[hk])
 exact⟨b,off,hA,hb,hc 0 _ rfl,hc 1 _ rfl,hc 2 _ rfl,hc 3 _ rfl,hc 4 _ rfl,hc 5 _ rfl⟩
theorem MX {s:fH}(h:s.ok=true):(-4000000<=s.fx/\s.fx<=4000000)/\(-4000000<=s.fy/\s.fy<=4000000)/\(-4000000<=s.tx/\s.tx<=4000000)/\(-4000000<=s.ty/\s.ty<=4000000):=by
 simp[fH.ok,yD,sO] at h
 omega
theorem acn {x y:Int}(h:sO x y=true):(-4000000<=x/\x<=4000000)/\(-4000000<=y/\y<=4000000):=by
 simp[sO] at h
 omega
theorem good_step {ss:List fH}{k:Nat}{s:fH}(h:Fe ss k)(hs:ss[k]?=some s)(ho:s.ok=true)(ha:GoodAt ss s k):Fe ss (k+1):=by
 intro i t hi ht
 by_cases hik:i=k
 ·subst hik
  rw[hs] at ht
  injection ht with ht
  subst ht
  exact⟨ho,ha⟩
 ·exact h i t (by omega) ht
theorem Lh {ss:List fH}{s t:fH}{j:Nat}(h:GoodAt ss s j)(ht:ss[j]?=some t)(hc:clash s t=false):GoodAt ss s (j+1):=by
 intro i u hi hu
 by_cases hij:i=j
 ·subst hij
  rw[ht] at hu
  injection hu with hu
  subst hu
  exact hc
 ·exact h i u (by omega) hu
theorem abJ {ss:List fH}{k:Nat}{s:fH}(hs:ss[k]?=some s)(ho:¬ s.ok=true):false=fJ ss:=by
 refine Fa fun h=>?_
 exact ho (h.1 k s (List.getElem?_eq_some_iff.1 hs).1 hs).1
theorem VJ {ss:List fH}{k j:Nat}{s t:fH}(hs:ss[k]?=some s)(ht:ss[j]?=some t)(hj:j<k)(ho:clash s t=true):false=fJ ss:=by
 refine Fa fun h=>?_
 have:=(h.1 k s (List.getElem?_eq_some_iff.1 hs).1 hs).2 j t hj ht
 rw[ho] at this
 cases this
def wH (w:World)(b:Nat)(s:fH):Prop :=
 w.cell? ⟨b,0,none⟩=some (.int .i64 s.fx)/\w.cell? ⟨b,1,none⟩=some (.int .i64 s.fy)/\w.cell? ⟨b,2,none⟩=some (.int .i64 s.tx) /\
 w.cell? ⟨b,3,none⟩=some (.int .i64 s.ty)/\w.cell? ⟨b,4,none⟩=some (.int .i64 s.jA)/\w.cell? ⟨b,5,none⟩=some (.int .i64 s.UO)/\b<w.heap.size
theorem wH.grew {w w':World}{b:Nat}{s:fH}(h:wH w b s)(hg:Grew w w'):wH w' b s:=by
 obtain⟨h0,h1,h2,h3,h4,h5,h6⟩:=h
 have hb:=hg.below
 exact⟨(hb.cell h6).trans h0,(hb.cell h6).trans h1,(hb.cell h6).trans h2,(hb.cell h6).trans h3,(hb.cell h6).trans h4,(hb.cell h6).trans h5,Nat.lt_of_lt_of_le h6 hb.size⟩
theorem wH.new (w:World)(s:fH):wH (w.alloc (.cells #[.int .i64 s.fx,.int .i64 s.fy,.int .i64 s.tx,.int .i64 s.ty,.int .i64 s.jA,.int .i64 s.UO] 180)) w.heap.size s:=by
 refine⟨?_,?_,?_,?_,?_,?_,by simp⟩<;>rw[World.cell?_alloc_at _ _ _ _ rfl]<;>rfl
theorem Tc {s t:fH}(h:IX s.fx s.fy s.tx s.ty t.fx t.fy=true):clash s t=true:=by unfold clash fH.has;rw[h];rfl
theorem S9 {s t:fH}(h:IX t.fx t.fy t.tx t.ty s.fx s.fy=true):clash s t=true:=by unfold clash fH.has;rw[h,Bool.or_true]
theorem Td {s t:fH}(h:IX s.fx s.fy s.tx s.ty t.fx t.fy=false)(k:IX t.fx t.fy t.tx t.ty s.fx s.fy=false):clash s t=false:=by unfold clash fH.has;rw[h,k];rfl
theorem ku (ss:List fH)(A:Option Addr)(c:Nat)(w:World)(hr:Rd w w.heap.size 6 A (ss.map fH.cells))(hl:ss.length<=c)(hc:ss.length<=100000000000000) :
  Calls Tryz.prog 89 #[.slice A ss.length c] w (aB w (.bool (fJ ss))):=by
 have hm:=aQ
 go_enter Tryz.func89,Tryz.ntmps89
 go_wp2_with fail
 go_loopw [9] (fun i wr=>∃k:Nat,k<=ss.length/\i=.int .i64 k/\Grew w wr/\Fe ss k) (fun i _=>ss.length-(intOf i).toNat)
 case atStart=>exact⟨0,by omega,rfl,Grew.refl _,fun i _ hi=>by omega⟩
 case round =>
  obtain⟨k,hk,rfl,hg,hgood⟩:=hrel
  have HG:=hide hgood
  clear hgood
  have HW:=hide hg
  clear hg
  by_cases hlt:k<ss.length
  ·obtain⟨s,hs⟩:∃s,ss[k]?=some s:=⟨_,List.getElem?_eq_getElem hlt⟩
   obtain⟨b,off,hA,hb,h0,h1,h2,h3,h4,h5⟩:=O9 (hr.up HW.out) hs
   have HS:=hide hs
   clear hs
   have hix:=aJ (cap:=c) Tryz.underlying63 Tryz.sizeOf180 hA.out hlt
   by_cases hok:yD s.fx s.fy s.tx s.ty s.jA s.UO=true
   ·have hbd:=MX hok
    go_wp2_with (go_at_call 113;refine aT (Dz _ _ _ _ _ _ _) fun _ _=>?_;dsimp only)
    clear h0 h1 h2 h3 h4 h5 hix
    have HO:=hide hok
    clear hok
    go_loopw [21] (fun i wi=>∃j:Nat,j<=k/\i=.int .i64 j/\Grew wr wi/\wH wi wr.heap.size s/\GoodAt ss s j) (fun i _=>k-(intOf i).toNat)
    case atStart=>exact⟨0,by omega,rfl,gw,(wH.new _ s).grew gw,fun i _ hi=>by omega⟩
    case round =>
     obtain⟨j,hj,rfl,hg,⟨h0,h1,h2,h3,h4,h5,h6⟩,hgood⟩:=hrel
     have HG2:=hide hgood
     clear hgood
     have HW2:=hide hg
     clear hg
     by_cases hjt:j<k
     ·obtain⟨t,ht⟩:∃t,ss[j]?=some t:=⟨_,List.getElem?_eq_getElem (by omega)⟩
      obtain⟨b',off',hA',hb',g0,g1,g2,g3,g4,g5⟩:=O9 ((hr.up HW.out).up HW2.out) ht
      have hix2:=aJ (cap:=c) Tryz.underlying63 Tryz.sizeOf180 hA'.out hjt
      have tbd:=MX (HG.out j t hjt ht).1
      have HT:=hide ht
      clear ht
      cases hc1:IX s.fx s.fy s.tx s.ty t.fx t.fy
      ·cases hc2:IX t.fx t.fy t.tx t.ty s.fx s.fy
       ·go_wp2_with (go_at_call 114;refine aT (Di _ _ _ _ _ _ _ _ _ (by omega) (by omega) (by omega) (by omega) (by omega) (by omega)) fun _ _=>?_;dsimp only)
        go_roundw
        case rel=>exact⟨j+1,by omega,by go_num,HW2.out.trans gw,wH.grew ⟨h0,h1,h2,h3,h4,h5,h6⟩ gw,Lh HG2.out HT.out (Td hc1 hc2)⟩
        case measure=>simp[intOf];omega
       ·go_wp2_with (go_at_call 114;refine aT (Di _ _ _ _ _ _ _ _ _ (by omega) (by omega) (by omega) (by omega) (by omega) (by omega)) fun _ _=>?_;dsimp only)
        go_ret
        exact aB.mk' (dS (VJ HS.out HT.out hjt (S9 hc2))) ((HW.out.trans HW2.out).trans gw)
      ·go_wp2_with (go_at_call 114;refine aT (Di _ _ _ _ _ _ _ _ _ (by omega) (by omega) (by omega) (by omega) (by omega) (by omega)) fun _ _=>?_;dsimp only)
       go_ret
       exact aB.mk' (dS (VJ HS.out HT.out hjt (Tc hc1))) ((HW.out.trans HW2.out).trans gw)
     ·obtain rfl:j=k:=by omega
      go_wp2_with fail
      go_roundw
      case rel=>exact⟨j+1,by omega,by go_num,HW.out.trans HW2.out,good_step HG.out HS.out HO.out HG2.out⟩
      case measure=>simp[intOf];omega
   ·go_wp2_with (go_at_call 113;refine aT (Dz _ _ _ _ _ _ _) fun _ _=>?_;dsimp only)
    go_ret
    exact aB.mk' (dS (abJ HS.out hok)) (HW.out.trans gw)
  ·go_wp2_with fail
   go_ret
   obtain rfl:k=ss.length:=by omega
   refine aB.mk' (dS ?_) HW.out
   rw[Bool.eq_iff_iff,yt]
   simp
   exact⟨fun h=>⟨HG.out,by omega⟩,fun h=>by have:=h.2;omega⟩
theorem DJ (s:fH)(x y:Int)(B:Nat)(w:World)(hs:s.ok=true)(hx:-4000000<=x/\x<=4000000)(hy:-4000000<=y/\y<=4000000)(c0:w.cell? ⟨B,0,none⟩=some (.int .i64 x))(c1:w.cell? ⟨B,1,none⟩=some (.int .i64 y))(hB:B<w.heap.size) :
  Calls Tryz.prog 175 #[s.val,.pointer (some ⟨B,0,none⟩)] w (aB w (.bool (s.has x y))):=by
 have hm:=aQ
 have hbd:=MX hs
 unfold fH.val
 go_enter Tryz.func175,Tryz.ntmps175
 go_wp2_with (go_at_call 114;refine aT (Di _ _ _ _ _ _ _ _ _ (by omega) (by omega) (by omega) (by omega) (by omega) (by omega)) fun _ _=>?_;dsimp only)
 go_ret
 exact aB.mk' rfl gw
def idxOf {α:Type}(p:α->Bool):List α->Int
 | []=>-1
 | a::l=>if p a then 0 else if idxOf p l=-1 then -1 else idxOf p l+1
theorem KQ {α:Type}{p:α->Bool}:∀ {l:List α} {k:Nat} {a:α},l[k]?=some a->p a=true->(∀ (j:Nat) (b:α),j<k->l[j]?=some b->p b=false)->idxOf p l=k
 | [],k,a,h,_,_=>by simp at h
 | b::l,0,a,h,hp,_=>by
  simp at h
  subst h
  simp[idxOf,hp]
 | b::l,k+1,a,h,hp,hn=>by
  have h0:p b=false:=hn 0 b (by omega) rfl
  have ih:=KQ (l:=l) (k:=k) (by simpa using h) hp fun j c hj hc=>hn (j+1) c (by omega) (by simpa using hc)
  unfold idxOf
  rw[h0,ih]
  have:¬ ((k:Int)=-1):=by omega
  simp[this]
theorem Ej {α:Type}{p:α->Bool}:∀ {l:List α},(∀ (j:Nat) (b:α),l[j]?=some b->p b=false)->idxOf p l=-1
 | [],_=>rfl
 | b::l,hn=>by
  have h0:p b=false:=hn 0 b rfl
  have ih:=Ej (l:=l) (p:=p) fun (j:Nat) c hc=>hn (j+1) c (by simpa using hc)
  unfold idxOf
  rw[h0,ih]
  simp
def NoneTo (ss:List fH)(x y:Int)(k:Nat):Prop:=∀j b,j<k->ss[j]?=some b->b.has x y=false
theorem Rk {ss:List fH}{x y:Int}{k:Nat}{s:fH}(h:NoneTo ss x y k)(hs:ss[k]?=some s)(hn:s.has x y=false):NoneTo ss x y (k+1):=by
 intro j b hj hb
 by_cases hjk:j=k
 ·subst hjk
  rw[hs] at hb
  injection hb with hb
  subst hb
  exact hn
 ·exact h j b (by omega) hb
theorem xG (ss:List fH)(A:Option Addr)(c:Nat)(x y:Int)(B:Nat)(w:World)(hr:Rd w w.heap.size 6 A (ss.map fH.cells))(hl:ss.length<=c)(hc:ss.length<=100000000000000)(hok:∀s∈ss,s.ok=true)
  (hx:-4000000<=x/\x<=4000000) (hy:-4000000<=y/\y<=4000000) (c0:w.cell? ⟨B,0,none⟩=some (.int .i64 x)) (c1:w.cell? ⟨B,1,none⟩=some (.int .i64 y)) (hB:B<w.heap.size) :
  Calls Tryz.prog 174 #[.slice A ss.length c,.func (.func 175) #[] #[.pointer (some ⟨B,0,none⟩)]] w (aB w (.int .i64 (idxOf (fun s:fH=>s.has x y) ss))):=by
 have hm:=aQ
 go_enter Tryz.func174,Tryz.ntmps174
 go_wp2_with fail
 go_loopw [8] (fun i wr=>∃k:Nat,k<=ss.length/\i=.int .i64 k/\Grew w wr/\NoneTo ss x y k) (fun i _=>ss.length-(intOf i).toNat)
 case atStart=>exact⟨0,by omega,rfl,Grew.refl _,fun i _ hi=>by omega⟩
 case round =>
  obtain⟨k,hk,rfl,hg,hgood⟩:=hrel
  have HG:=hide hgood
  clear hgood
  have HW:=hide hg
  clear hg
  by_cases hlt:k<ss.length
  ·obtain⟨s,hs⟩:∃s,ss[k]?=some s:=⟨_,List.getElem?_eq_getElem hlt⟩
   obtain⟨b,off,hA,hb,h0,h1,h2,h3,h4,h5⟩:=O9 (hr.up HW.out) hs
   have IW:=hok s (List.mem_of_getElem? hs)
   have HS:=hide hs
   clear hs
   have hix:=aJ (cap:=c) Tryz.underlying63 Tryz.sizeOf180 hA.out hlt
   have e0:=(iR HW.out _ _ hB).trans c0
   have e1:=(iR HW.out _ _ hB).trans c1
   have hB':=Nat.lt_of_lt_of_le hB HW.out.below.size
   cases hh:s.has x y
   ·go_wp2_with (go_at_call 175;refine aT (DJ s x y B _ IW hx hy (by assumption) (by assumption) (by assumption)) fun _ _=>?_;dsimp only;rw[hh])
    go_roundw
    case rel=>exact⟨k+1,by omega,by go_num,HW.out.trans gw,Rk HG.out HS.out hh⟩
    case measure=>simp[intOf];omega
   ·go_wp2_with (go_at_call 175;refine aT (DJ s x y B _ IW hx hy (by assumption) (by assumption) (by assumption)) fun _ _=>?_;dsimp only;rw[hh])
    go_ret
    exact aB.mk' (lU (KQ HS.out hh HG.out).symm) (HW.out.trans gw)
  ·go_wp2_with fail
   go_ret
   obtain rfl:k=ss.length:=by omega
   exact aB.mk' (lU (Ej fun j b hj=>HG.out j b (List.getElem?_eq_some_iff.1 hj).1 hj).symm) HW.out
end Go.Proofs.YtlkgjmnjhifehaaGreat
namespace Go.Proofs.YtlkgjmnjhifehaaGreat
open Go.RowKit Go.Sort
attribute [local go_sem] dC steadyUpon
attribute [local go_sem ↓] bQ bJ bg aZ aY aX aW
attribute [local go_sem] bH aN aK size_grow tape_grow cell?_grow' aF aC grow_grow bV bn dZ bZ bW bM aO cO bu bY bK
theorem BH {α:Type}(p:α->Bool):∀ (l:List α),(idxOf p l=-1/\l.find? p=none)\/∃ (k:Nat) (a:α),l[k]?=some a/\idxOf p l=k/\l.find? p=some a
 | []=>.inl ⟨rfl,rfl⟩
 | b::l=>by
  cases hp:p b
  ·rcases BH p l with⟨h1,h2⟩|⟨k,a,h1,h2,h3⟩
   ·exact .inl ⟨by simp[idxOf,hp,h1],by simp[hp,h2]⟩
   ·refine .inr ⟨k+1,a,by simpa using h1,?_,by simp[hp,h3]⟩
    have:¬ ((k:Int)=-1):=by omega
    simp[idxOf,hp,h2,this]
  ·exact .inr ⟨0,b,rfl,by simp[idxOf,hp],by simp[hp]⟩
def tu (ss:List fH)(x y:Int):Int×Int:=match ss.find? (fun s=>s.has x y) with|some s=>(s.jA,s.UO)|none=>(0,0)
theorem F9 (ss:List fH)(A:Option Addr)(c:Nat)(x y:Int)(w:World)(hr:Rd w w.heap.size 6 A (ss.map fH.cells))(hl:ss.length<=c)(hc:ss.length<=100000000000000)(hok:∀s∈ss,s.ok=true)
  (hx:-4000000<=x/\x<=4000000) (hy:-4000000<=y/\y<=4000000) :
  Calls Tryz.prog 151 #[.slice A ss.length c,pt x y] w (aB w (pt (tu ss x y).1 (tu ss x y).2)):=by
 have hm:=aQ
 rcases BH (fun s:fH=>s.has x y) ss with⟨h1,h2⟩|⟨k,s,h1,h2,h3⟩
 ·have HF:=hide h2
  clear h2
  go_enter Tryz.func151,Tryz.ntmps151
  go_wp2_with (go_at_call 174;refine aT (xG ss A c x y w.heap.size _ (hr.up gw) hl hc hok hx hy (by go_simp) (by go_simp) (by first|omega|(simp;done)|(simp;omega))) fun _ _=>?_;dsimp only;rw[h1])
  refine bodyPost_ret (v:=pt 0 0) (by simp[results,Tryz.results151,go_sem]) rfl ?_
  exact aB.mk' (by simp[tu,HF.out]) gw
 ·have HF:=hide h3
  clear h3
  have hkl:k<ss.length:=(List.getElem?_eq_some_iff.1 h1).1
  have HS:=hide h1
  clear h1
  obtain⟨b,off,hA,hb,c0,c1,c2,c3,c4,c5⟩:=O9 hr HS.out
  have hix:=aJ (cap:=c) Tryz.underlying63 Tryz.sizeOf180 hA.out hkl
  go_enter Tryz.func151,Tryz.ntmps151
  go_wp2_with (go_at_call 174;refine aT (xG ss A c x y w.heap.size _ (hr.up gw) hl hc hok hx hy (by go_simp) (by go_simp) (by first|omega|(simp;done)|(simp;omega))) fun _ _=>?_;dsimp only;rw[h2])
  refine ay 11 [] [] hm (h:=?_)
  repeat (refine au (fun K hK=>?_);go_simp;refine hK _ ?_;clear hK K)
  refine kZ fun nq osq=>?_
  try simp only[Act.put,aG]
  try dsimp only
  go_wp2
  refine bodyPost_ret (v:=pt s.jA s.UO) (by simp[results,Tryz.results151,go_sem]) rfl ?_
  exact aB.mk' (by simp[tu,HF.out]) gw
theorem XC {ss:List fH}(h:fJ ss=true):(∀s∈ss,s.ok=true)/\ss.length<=12:=by
 have h:=yt.1 h
 refine⟨fun s hs=>?_,h.2⟩
 obtain⟨k,hk,rfl⟩:=List.getElem_of_mem hs
 exact (h.1 k _ hk (List.getElem?_eq_getElem hk)).1
theorem O8:(Tryz.prog.info? 180).map (fun i=>(i.zero,i.size,i.bytes))=some (some (.agg #[.int .i64 0,.int .i64 0,.int .i64 0,.int .i64 0,.int .i64 0,.int .i64 0]),6,48):=by kernel_rfl
theorem XL (n:Nat)(w:World)(hn:n<=1000000) :
  Calls Tryz.prog 183 #[.slice none 0 0,.int .i64 n] w fun e w'=>∃v,e=.returned v/\w'.ownsRow w.heap.size 180 6 v 0 []/\Grew w w':=by
 have hm:=aQ
 obtain⟨i0,hi,hz0,hz1,hz2⟩:=info_parts O8
 by_cases h0:n=0
 ·subst h0
  go_enter Tryz.func183,Tryz.ntmps183
  go_wp2
  go_ret
  exact⟨_,rfl,World.ownsRow_nil _ _ _ _,gw⟩
 ·have hb1:n*i0.bytes<=281474976710656:=by rw[hz2];omega
  have hb2:Builtin.nextslicecap (0+n) 0*i0.bytes<=281474976710656:=by
   rw[hz2]
   have:Builtin.nextslicecap (0+n) 0=n:=by simp[Builtin.nextslicecap];omega
   rw[this]
   omega
  obtain⟨cur,ab1⟩:∃cur,cur=(([]:List Value).toArray++Builtin.zeroCells (Value.agg #[.int .i64 0,.int .i64 0,.int .i64 0,.int .i64 0,.int .i64 0,.int .i64 0]).cells n++Builtin.zeroCells (Value.agg #[.int .i64 0,.int .i64 0,.int .i64 0,.int .i64 0,.int .i64 0,.int .i64 0]).cells (grownCap w n 0 180-n)):=⟨_,rfl⟩
  have hge:=grownCap_ge w n 0 180
  have hle:=grownCap_le_maxLen w n 0 180 (by unfold maxLen;omega)
  have hrz:∀ty,(Builtin.append_ #[63,3] ty #[.slice none 0 0,.int .i64 (n:Int)]).run Tryz.prog w =
    .ok (.slice (some ⟨w.heap.size,0,none⟩) n (grownCap w n 0 180)) (w.drew.alloc (.cells cur 180)):=fun ty=>by
   have h:=Lib.run_append_grow_zeros w 63 3 ty 180 i0 _ .i64 .i64 Tryz.underlying63 Tryz.underlying3 hi hz0 none 0 0 [] (by exact run_firstCells_none w.drew i0.size 0 0 0) n (by omega) (by omega) (by omega) (by omega) hb1 hb2
   rw[Nat.zero_add] at h
   rw[ab1]
   exact h
  have hcs:cur.size=grownCap w n 0 180*6:=by
   rw[ab1]
   simp only[Array.size_append,Builtin.zeroCells,Array.size_map,Array.size_range,Value.cells,List.size_toArray,List.length_nil,List.length_cons,Nat.reduceAdd]
   omega
  clear ab1 hb1 hb2
  obtain⟨G,hG⟩:∃G,G=grownCap w n 0 180:=⟨_,rfl⟩
  rw[<-hG] at hge hle hcs hrz
  clear hG
  have h1:0<n:=by omega
  unfold maxLen at hle
  have HC:=hide hcs
  clear hcs
  go_enter Tryz.func183,Tryz.ntmps183
  go_wp2_with (at_builtin;refine Lib.wpList_append_run _ rfl _ _ _ _ rfl _ _ rfl rfl _ _ (hrz _) ?_)
  go_ret
  refine⟨_,rfl,?_,gw⟩
  have:=World.ownsRow_made (base:=w.heap.size) (e:=180) (size:=6) w.drew cur G (Nat.le_refl _) (by unfold maxLen;omega) HC.out
  exact this
structure SL where
 A:Option Addr
 c:Nat
 ss:List fH
def SL.val (x:SL):Value:=.slice x.A x.ss.length x.c
def Ak (LL:List SL)(k:Nat):List fH:=(LL.take k).flatMap SL.ss
theorem Aj {LL:List SL}{k:Nat}{x:SL}(h:LL[k]?=some x):Ak LL (k+1)=Ak LL k++x.ss:=by
 unfold Ak
 rw[List.take_add_one,h]
 simp
theorem yI {LL:List SL}(h:∀x∈LL,x.ss.length<=1000):∀k,(Ak LL k).length<=1000*k
 | 0=>by simp[Ak]
 | k+1=>by
  have ih:=yI h k
  cases hx:LL[k]? with
  | none =>
   unfold Ak at ih ⊢
   rw[List.take_add_one,hx]
   simp
   simp at ih
   omega
  | some x =>
   rw[Aj hx,List.length_append]
   have:=h x (List.mem_of_getElem? hx)
   omega
theorem Kr (LL:List SL):Ak LL LL.length=LL.flatMap SL.ss:=by unfold Ak;rw[List.take_length]
theorem O7 (s:fH):s.cells.length=6:=rfl
theorem Yk (ss:List fH):∀u∈ss.flatMap fH.cells,u.oneCell'=true:=by
 intro u hu
 obtain⟨s,_,hs⟩:=List.mem_flatMap.1 hu
 simp[fH.cells] at hs
 rcases hs with rfl|rfl|rfl|rfl|rfl|rfl<;>rfl
theorem OT (LL:List SL)(O:Option Addr)(c:Nat)(w:World)(hr:Rd w w.heap.size 1 O (LL.map fun x=>[x.val]))(hin:∀x∈LL,Rd w w.heap.size 6 x.A (x.ss.map fH.cells))(hl:LL.length<=10)(hs:∀x∈LL,x.ss.length<=1000) :
  Calls Tryz.prog 173 #[.slice O LL.length c] w fun e w'=>∃v,e=.returned v/\w'.ownsRow w.heap.size 180 6 v (LL.flatMap SL.ss).length ((LL.flatMap SL.ss).flatMap fH.cells)/\Grew w w':=by
 have hm:=aQ
 obtain⟨i0,hi,hz0,hz1,hz2⟩:=info_parts O8
 have HI:=hide hin
 have HS:=hide hs
 clear hin hs
 go_enter Tryz.func173,Tryz.ntmps173
 go_wp2_with fail
 go_loopw [3,11] (fun sz i wr=>∃k:Nat,k<=LL.length/\i=.int .i64 k/\sz=.int .i64 ((Ak LL k).length:Nat)/\Grew w wr) (fun _ i _=>LL.length-(intOf i).toNat)
 case atStart=>exact⟨0,by omega,rfl,rfl,Grew.refl _⟩
 case round =>
  obtain⟨k,hk,rfl,rfl,hg⟩:=hrel
  have HW:=hide hg
  clear hg
  have hpl:=yI HS.out k
  by_cases hlt:k<LL.length
  ·obtain⟨x,hx⟩:∃x,LL[k]?=some x:=⟨_,List.getElem?_eq_getElem hlt⟩
   obtain⟨b,off,hA,hb,hc⟩:=(hr.up HW.out).at_ (k:=k) (x:=[x.val]) (by simp[hx])
   replace hA:=hide hA
   have c0:=hc 0 x.val rfl
   simp only[Nat.mul_one,Nat.add_zero,SL.val] at c0
   clear hc
   have hxs:=HS.out x (List.mem_of_getElem? hx)
   have hst:=Aj hx
   have HX:=hide hx
   clear hx
   have HST:=hide hst
   clear hst
   have hix:=aJ (cap:=c) Tryz.underlying241 Tryz.sizeOf63 hA.out hlt
   simp only[Nat.mul_one] at hix
   go_wp2_with fail
   go_roundw
   case rel=>exact⟨k+1,by omega,by go_num,by rw[HST.out];simp,HW.out⟩
   case measure=>simp[intOf];omega
  ·obtain rfl:k=LL.length:=by omega
   go_wp2_with (go_at_call 183;refine (XL _ _ (by omega)).mono ?_;rintro e w1 ⟨v0,rfl,hown,hg1⟩;dsimp only)
   have hbase:w.heap.size<=wr.heap.size:=HW.out.below.size
   have hown0:w1.ownsRow w.heap.size 180 6 v0 0 []:=by
    refine⟨hown.1,hown.2.imp id fun ⟨g,cap,cur,h1,h2,h3⟩=>⟨g,cap,cur,h1,Nat.le_trans hbase h2,h3⟩⟩
   have HO:=hide hown0
   have hb1:=(HW.out.trans hg1).below
   have HB:=hide hb1
   clear hown hown0 hg1 hb1
   clear HW hpl
   go_loopw [6,27] (fun v i wq=>∃k:Nat,k<=LL.length/\i=.int .i64 k/\wq.ownsRow w.heap.size 180 6 v (Ak LL k).length ((Ak LL k).flatMap fH.cells)/\Below w.heap.size w wq) (fun _ i _=>LL.length-(intOf i).toNat)
   case atStart=>exact⟨0,by omega,rfl,HO.out,HB.out⟩
   case round =>
    obtain⟨k,hk,rfl,hown,hbel⟩:=hrel
    have HW:=hide (Grew.of_below hbel)
    have hpl:=yI HS.out k
    have hsz:=hbel.size
    have ahc:=hide hbel
    clear hbel
    by_cases hlt:k<LL.length
    ·obtain⟨x,hx⟩:∃x,LL[k]?=some x:=⟨_,List.getElem?_eq_getElem hlt⟩
     obtain⟨b,off,hA,hb,hc⟩:=(hr.up HW.out).at_ (k:=k) (x:=[x.val]) (by simp[hx])
     replace hA:=hide hA
     have c0:=hc 0 x.val rfl
     simp only[Nat.mul_one,Nat.add_zero,SL.val] at c0
     clear hc
     have hxs:=HS.out x (List.mem_of_getElem? hx)
     have hrx:=((HI.out x (List.mem_of_getElem? hx)).up HW.out).reads O7 (by omega)
     have hst:=Aj hx
     have HX:=hide hx
     clear hx
     have HST:=hide hst
     clear hst
     have HR:=hide hrx
     clear hrx
     have HOW:=hide hown
     clear hown
     have hix:=aJ (cap:=c) Tryz.underlying241 Tryz.sizeOf63 hA.out hlt
     simp only[Nat.mul_one] at hix
     go_wp2_with (at_builtin;refine fK _ rfl (.tmp 31) (.tmp 32) _ rfl w.heap.size 180 i0 _ 6 48 Tryz.underlying63 hi hz0 hz1 hz2 rfl (by omega) _ (Ak LL k).length ((Ak LL k).flatMap fH.cells) rfl HOW.out wr.heap.size x.A x.ss.length x.c (x.ss.flatMap fH.cells) rfl HR.out (Yk _) (by simp only[maxLen];omega) (by omega) hsz ?_;intro v' w1 hown1 hg1 agl)
     have hbw:=ahc.out.grown hg1 hsz (fun q hq=>(HOW.out.lt q hq).1)
     have HBW:=hide hbw
     have JB:=hide hown1
     clear hbw hown1 hg1 agl
     go_wp2_with fail
     go_roundw
     case rel=>exact⟨k+1,by omega,by go_num,by rw[HST.out,List.length_append,List.flatMap_append];exact JB.out,HBW.out⟩
     case measure=>simp[intOf];omega
    ·obtain rfl:k=LL.length:=by omega
     go_wp2_with fail
     go_ret
     rw[Kr] at hown
     exact⟨_,rfl,hown,HW.out⟩
end Go.Proofs.YtlkgjmnjhifehaaGreat
