/- The contracts of the program's functions on directions and sectors (package sector) that have no loop. Conditions: coordinates in range where products are formed. The contracts of. -/
import Derived.Test.YtlkgjmnjhifehaaGreatPla
import Derived.Test.YtlkgjmnjhifehaaGreatApp
import Derived.Lib.AppendZerosOnto
set_option linter.unusedSimpArgs false
set_option linter.unusedVariables false
set_option maxHeartbeats 1600000
set_option maxRecDepth 100000
namespace Go.Proofs.YtlkgjmnjhifehaaGreat
open Go.RowKit Go.Sort
attribute [local go_sem] dA steadyUpon
attribute [local go_sem ↓] bU bI aX aW aV aU aT
attribute [local go_sem] bH aK aJ size_grow tape_grow cell?_grow' aF aB grow_grow bW aY dR cO bY bK aN cZ aZ bZ bJ
abbrev sec (a b c d e f:Int):Value:=.agg #[.int .i64 a,.int .i64 b,.int .i64 c,.int .i64 d,.int .i64 e,.int .i64 f]
theorem Tm (a b c d:Int)(w:World)(ha:-4000000<=a/\a<=4000000)(hb:-4000000<=b/\b<=4000000)(hc:-4000000<=c/\c<=4000000)(hd:-4000000<=d/\d<=4000000) :
  Calls Tryz.prog 156 #[pt a b,pt c d] w (aC w (.int .i64 (a*d-b*c))):=by
 have h1:-16000000000000<=a*d/\a*d<=16000000000000:=jc 4000000 4000000 ha hd
 have h2:-16000000000000<=b*c/\b*c<=16000000000000:=jc 4000000 4000000 hb hc
 go_enter Tryz.func156,Tryz.ntmps156
 go_wp2
 go_ret
 exact aC.mk' rfl gw
def upper (a b:Int):Bool:=decide (0<b)||(b==0&&decide (0<a))
theorem Gf (a b:Int)(w:World) :
  Calls Tryz.prog 155 #[pt a b] w (aC w (.bool (upper a b))):=by
 go_enter Tryz.func155,Tryz.ntmps155
 go_wp2
 all_goals go_ret
 all_goals refine aC.mk' (dU ?_) gw
 all_goals simp[upper, *]
 all_goals omega
def sZ (a b:Int):Bool:=decide ((a≠0\/b≠0)/\(-1000000<=a/\a<=1000000)/\(-1000000<=b/\b<=1000000))
theorem abU (a b:Int)(w:World) :
  Calls Tryz.prog 138 #[pt a b] w (aC w (.bool (sZ a b))):=by
 go_enter Tryz.func138,Tryz.ntmps138
 go_wp2
 all_goals go_ret
 all_goals refine aC.mk' (dU ?_) gw
 all_goals (rw[Bool.eq_iff_iff];simp[sZ];omega)
def Bl (a b c d:Int):Int:=a*d-b*c
def mD (a b c d:Int):Int:=if upper a b != upper c d then (if upper a b then -1 else 1) else if 0<Bl a b c d then -1 else if Bl a b c d<0 then 1 else 0
theorem cw1 {a b c d:Int}(h1:(!upper a b==upper c d)=true)(h2:upper a b=true):-1=mD a b c d:=by
 unfold mD;cases h3:upper a b<;>cases h4:upper c d<;>simp_all
theorem cw2 {a b c d:Int}(h1:(!upper a b==upper c d)=true)(h2:upper a b=false):1=mD a b c d:=by
 unfold mD;cases h3:upper a b<;>cases h4:upper c d<;>simp_all
theorem cw3 {a b c d:Int}(h1:(!upper a b==upper c d)=false)(h2:b*c<a*d):-1=mD a b c d:=by
 unfold mD Bl;rw[if_neg (by cases h3:upper a b<;>cases h4:upper c d<;>simp_all),if_pos (by omega)]
theorem cw4 {a b c d:Int}(h1:(!upper a b==upper c d)=false)(h2:a*d-b*c<0):1=mD a b c d:=by
 unfold mD Bl;rw[if_neg (by cases h3:upper a b<;>cases h4:upper c d<;>simp_all),if_neg (by omega),if_pos (by omega)]
theorem cw5 {a b c d:Int}(h1:(!upper a b==upper c d)=false)(h2:a*d<=b*c)(h3:0<=a*d-b*c):0=mD a b c d:=by
 unfold mD Bl;rw[if_neg (by cases h3:upper a b<;>cases h4:upper c d<;>simp_all),if_neg (by omega),if_neg (by omega)]
theorem Cj (a b c d:Int)(w:World)(ha:-4000000<=a/\a<=4000000)(hb:-4000000<=b/\b<=4000000)(hc:-4000000<=c/\c<=4000000)(hd:-4000000<=d/\d<=4000000) :
  Calls Tryz.prog 139 #[pt a b,pt c d] w (aC w (.int .i64 (mD a b c d))):=by
 have hm:=aP
 go_enter Tryz.func139,Tryz.ntmps139
 go_wp2_with fail
 refine ay 6 [] [] hm (h:=?_)
 repeat (refine ax (fun K hK=>?_);go_simp;first|(refine hK _ ?_;clear hK K)|(apply Exists.intro;refine⟨fun _=>?_,hK _ ?_⟩;(go_at_call 155;exact Gf _ _ _);clear hK K))
 refine lU fun nq osq=>?_
 try simp only[Act.put,aG]
 try dsimp only
 go_wp2_with (first|(go_at_call 155;refine aQ (Gf _ _ _) fun _ _=>?_;dsimp only)|(go_at_call 156;refine aQ (Tm _ _ _ _ _ ha hb hc hd) fun _ _=>?_;dsimp only))
 all_goals go_ret
 all_goals refine aC.mk' (l9 ?_) gw
 all_goals (first|exact cw1 ‹_› ‹_› | exact cw2 ‹_› ‹_› | exact cw3 ‹_› ‹_› | exact cw4 ‹_› ‹_› | exact cw5 ‹_› ‹_› ‹_›)
def yO (a b c d e f:Int):Bool:=sZ a b&&sZ c d&&decide (1<=e/\e<=3)&&decide (1<=f/\f<=3000000)
theorem DI (a b c d e f:Int)(w:World) :
  Calls Tryz.prog 113 #[sec a b c d e f] w (aC w (.bool (yO a b c d e f))):=by
 have hm:=aP
 go_enter Tryz.func113,Tryz.ntmps113
 go_wp2_with (go_at_call 138;refine aQ (abU _ _ _) fun _ _=>?_;dsimp only)
 all_goals go_ret
 all_goals refine aC.mk' (dU ?_) gw
 all_goals (first|(simp[yO, *];done)|(simp[yO, *];omega))
def Jc (a b c d x y:Int):Bool :=
 if mD a b c d==-1 then (decide (mD a b x y<=0) && !decide (mD c d x y<=0)) else if mD a b c d==1 then (decide (mD a b x y<=0) || !decide (mD c d x y<=0)) else true
theorem Dn (a b c d e f x y:Int)(w:World)(ha:-4000000<=a/\a<=4000000)(hb:-4000000<=b/\b<=4000000)(hc:-4000000<=c/\c<=4000000)(hd:-4000000<=d/\d<=4000000)
  (hx:-4000000<=x/\x<=4000000) (hy:-4000000<=y/\y<=4000000) :
  Calls Tryz.prog 114 #[sec a b c d e f,pt x y] w (aC w (.bool (Jc a b c d x y))):=by
 have hm:=aP
 go_enter Tryz.func114,Tryz.ntmps114
 go_wp2_with fail
 refine ay 8 [⟨4,6,5,183,.agg #[.int .i64 0,.int .i64 0]⟩,⟨5,7,6,183,.agg #[.int .i64 0,.int .i64 0]⟩] [] hm (hZ:=(qI.cons Tryz.zeroValue183 Tryz.sizeOf183 (qI.cons Tryz.zeroValue183 Tryz.sizeOf183 qI.nil))) (h:=?_)
 repeat (refine ax (fun K hK=>?_);go_simp;refine hK _ ?_;clear hK K)
 refine dZ ?_
 refine⟨(ja.cons (by rfl) (by simp[bV,Act.eval,Value.cells,Value.oneCell']) (ja.cons (by rfl) (by simp[bV,Act.eval,Value.cells,Value.oneCell']) ja.nil)),nT.nil,?_⟩
 rintro psq FI Wq iT F6 F8
 obtain rfl:FI=[]:=F8
 obtain⟨p0,_,rfl,hp0,hb0,hn0,p1,_,rfl,hp1,hb1,hn1,rfl⟩:=F6
 simp only[putAll,putB,Act.put,aG]
 simp[bV,Act.eval,Value.cells] at hb0
 have xY:Wq.cell? ⟨p0,0,none⟩=some _:=ag hb0 0
 have xX:Wq.cell? ⟨p0,1,none⟩=some _:=ag hb0 1
 have Yl:=bM hb0
 have Yk:=au hb0
 simp[bV,Act.eval,Value.cells] at hb1
 have EE:Wq.cell? ⟨p1,0,none⟩=some _:=ag hb1 0
 have ED:Wq.cell? ⟨p1,1,none⟩=some _:=ag hb1 1
 have gf1:=bM hb1
 have gl1:=au hb1
 have gn:p0≠p1:=by simpa using hn0
 have gm:p1≠p0:=fun e=>gn e.symm
 have Xa:=hide hp0
 have gp1:=hide hp1
 clear hb0 hn0 hp0 hb1 hn1 hp1
 have oc:=iW iT
 have of:=jw iT
 have ol:=rH iT
 replace iT:=hide iT
 go_wp2_with fail
 refine ay 10 [] [] hm (h:=?_)
 repeat (refine ax (fun K hK=>?_);go_simp;first|(refine hK _ ?_;clear hK K)|(apply Exists.intro;refine⟨fun _=>?_,hK _ ?_⟩;(go_at_call 139;exact Cj _ _ _ _ _ (by assumption) (by assumption) (by assumption) (by assumption));clear hK K))
 refine lU fun nqa adT=>?_
 try simp only[Act.put,aG]
 try dsimp only
 go_wp2_with (go_at_call 139;refine aQ (Cj _ _ _ _ _ ha hb hc hd) fun _ _=>?_;dsimp only)
 all_goals go_ret
 all_goals refine aC.mk' (dU ?_) gw
 all_goals (simp only[Jc, *];simp;try omega)
structure fJ where
 fx:Int
 fy:Int
 tx:Int
 ty:Int
 jA:Int
 U5:Int
 deriving DecidableEq,Inhabited
namespace fJ
def val (s:fJ):Value:=sec s.fx s.fy s.tx s.ty s.jA s.U5
def cells (s:fJ):List Value:=[.int .i64 s.fx,.int .i64 s.fy,.int .i64 s.tx,.int .i64 s.ty,.int .i64 s.jA,.int .i64 s.U5]
def ok (s:fJ):Bool:=yO s.fx s.fy s.tx s.ty s.jA s.U5
def has (s:fJ)(x y:Int):Bool:=Jc s.fx s.fy s.tx s.ty x y
end fJ
def clash (s t:fJ):Bool:=s.has t.fx t.fy||t.has s.fx s.fy
def Fj (ss:List fJ)(k:Nat):Prop:=∀i s,i<k->ss[i]?=some s->s.ok=true/\∀j t,j<i->ss[j]?=some t->clash s t=false
def GoodAt (ss:List fJ)(s:fJ)(j:Nat):Prop:=∀i t,i<j->ss[i]?=some t->clash s t=false
def LV (ss:List fJ):Prop:=Fj ss ss.length/\ss.length<=12
def fK (ss:List fJ):Bool:=decide ((∀i<ss.length,(ss.getD i default).ok=true/\∀j<i,clash (ss.getD i default) (ss.getD j default)=false)/\ss.length<=12)
theorem Dp {α:Type}{l:List α}{i:Nat}{s d:α}(h:l[i]?=some s):l.getD i d=s:=by simp[h]
theorem yI {ss:List fJ}:fK ss=true↔LV ss:=by
 unfold fK LV Fj
 rw[decide_eq_true_eq]
 constructor
 ·rintro⟨h,h12⟩
  refine⟨fun i s hi hs=>?_,h12⟩
  obtain⟨h1,h2⟩:=h i hi
  rw[Dp hs] at h1 h2
  exact⟨h1,fun j t hj ht=>by have:=h2 j hj;rwa [Dp ht] at this⟩
 ·rintro⟨h,h12⟩
  refine⟨fun i hi=>?_,h12⟩
  have hs:ss[i]?=some ss[i]:=List.getElem?_eq_getElem hi
  obtain⟨h1,h2⟩:=h i _ hi hs
  rw[Dp hs]
  refine⟨h1,fun j hj=>?_⟩
  have ht:ss[j]?=some ss[j]:=List.getElem?_eq_getElem (by omega)
  rw[Dp ht]
  exact h2 j _ hj ht
theorem Fh {ss:List fJ}(h:¬ LV ss):false=fK ss:=by
 cases hc:fK ss with
 | false=>rfl
 | true=>exact (h (yI.1 hc)).elim
theorem Pz {w:World}{B:Nat}{A:Option Addr}{ss:List fJ}{k:Nat}{s:fJ}(h:Rd w B 6 A (ss.map fJ.cells))(hk:ss[k]?=some s) :
  ∃b off,Hid (A=some ⟨b,off,none⟩)/\b<B/\w.cell? ⟨b,off+k*6,none⟩=some (.int .i64 s.fx)/\w.cell? ⟨b,off+k*6+1,none⟩=some (.int .i64 s.fy) /\
   w.cell? ⟨b,off+k*6+2,none⟩=some (.int .i64 s.tx)/\w.cell? ⟨b,off+k*6+3,none⟩=some (.int .i64 s.ty)/\w.cell? ⟨b,off+k*6+4,none⟩=some (.int .i64 s.jA)/\w.cell? ⟨b,off+k*6+5,none⟩=some (.int .i64 s.U5):=by
 obtain⟨b,off,hA,hb,hc⟩:=h.at_ (k:=k) (x:=s.cells) (by simp[hk])
 exact⟨b,off,hA,hb,hc 0 _ rfl,hc 1 _ rfl,hc 2 _ rfl,hc 3 _ rfl,hc 4 _ rfl,hc 5 _ rfl⟩
theorem Nk {s:fJ}(h:s.ok=true):(-4000000<=s.fx/\s.fx<=4000000)/\(-4000000<=s.fy/\s.fy<=4000000)/\(-4000000<=s.tx/\s.tx<=4000000)/\(-4000000<=s.ty/\s.ty<=4000000):=by
 simp[fJ.ok,yO,sZ] at h
 omega
theorem acF {x y:Int}(h:sZ x y=true):(-4000000<=x/\x<=4000000)/\(-4000000<=y/\y<=4000000):=by
 simp[sZ] at h
 omega
theorem good_step {ss:List fJ}{k:Nat}{s:fJ}(h:Fj ss k)(hs:ss[k]?=some s)(ho:s.ok=true)(ha:GoodAt ss s k):Fj ss (k+1):=by
 intro i t hi ht
 by_cases hik:i=k
 ·subst hik
  rw[hs] at ht
  injection ht with ht
  subst ht
  exact⟨ho,ha⟩
 ·exact h i t (by omega) ht
theorem La {ss:List fJ}{s t:fJ}{j:Nat}(h:GoodAt ss s j)(ht:ss[j]?=some t)(hc:clash s t=false):GoodAt ss s (j+1):=by
 intro i u hi hu
 by_cases hij:i=j
 ·subst hij
  rw[ht] at hu
  injection hu with hu
  subst hu
  exact hc
 ·exact h i u (by omega) hu
theorem ab2 {ss:List fJ}{k:Nat}{s:fJ}(hs:ss[k]?=some s)(ho:¬ s.ok=true):false=fK ss:=by
 refine Fh fun h=>?_
 exact ho (h.1 k s (List.getElem?_eq_some_iff.1 hs).1 hs).1
theorem VZ {ss:List fJ}{k j:Nat}{s t:fJ}(hs:ss[k]?=some s)(ht:ss[j]?=some t)(hj:j<k)(ho:clash s t=true):false=fK ss:=by
 refine Fh fun h=>?_
 have:=(h.1 k s (List.getElem?_eq_some_iff.1 hs).1 hs).2 j t hj ht
 rw[ho] at this
 cases this
def wR (w:World)(b:Nat)(s:fJ):Prop :=
 w.cell? ⟨b,0,none⟩=some (.int .i64 s.fx)/\w.cell? ⟨b,1,none⟩=some (.int .i64 s.fy)/\w.cell? ⟨b,2,none⟩=some (.int .i64 s.tx) /\
 w.cell? ⟨b,3,none⟩=some (.int .i64 s.ty)/\w.cell? ⟨b,4,none⟩=some (.int .i64 s.jA)/\w.cell? ⟨b,5,none⟩=some (.int .i64 s.U5)/\b<w.heap.size
theorem wR.grew {w w':World}{b:Nat}{s:fJ}(h:wR w b s)(hg:Grew w w'):wR w' b s:=by
 obtain⟨h0,h1,h2,h3,h4,h5,h6⟩:=h
 have hb:=hg.below
 exact⟨(hb.cell h6).trans h0,(hb.cell h6).trans h1,(hb.cell h6).trans h2,(hb.cell h6).trans h3,(hb.cell h6).trans h4,(hb.cell h6).trans h5,Nat.lt_of_lt_of_le h6 hb.size⟩
theorem wR.new (w:World)(s:fJ):wR (w.alloc (.cells #[.int .i64 s.fx,.int .i64 s.fy,.int .i64 s.tx,.int .i64 s.ty,.int .i64 s.jA,.int .i64 s.U5] 180)) w.heap.size s:=by
 refine⟨?_,?_,?_,?_,?_,?_,by simp⟩<;>rw[World.cell?_alloc_at _ _ _ _ rfl]<;>rfl
theorem TA {s t:fJ}(h:Jc s.fx s.fy s.tx s.ty t.fx t.fy=true):clash s t=true:=by unfold clash fJ.has;rw[h];rfl
theorem Tz {s t:fJ}(h:Jc t.fx t.fy t.tx t.ty s.fx s.fy=true):clash s t=true:=by unfold clash fJ.has;rw[h,Bool.or_true]
theorem TB {s t:fJ}(h:Jc s.fx s.fy s.tx s.ty t.fx t.fy=false)(k:Jc t.fx t.fy t.tx t.ty s.fx s.fy=false):clash s t=false:=by unfold clash fJ.has;rw[h,k];rfl
theorem ku (ss:List fJ)(A:Option Addr)(c:Nat)(w:World)(hr:Rd w w.heap.size 6 A (ss.map fJ.cells))(hl:ss.length<=c)(hc:ss.length<=100000000000000) :
  Calls Tryz.prog 89 #[.slice A ss.length c] w (aC w (.bool (fK ss))):=by
 have hm:=aP
 go_enter Tryz.func89,Tryz.ntmps89
 go_wp2_with fail
 go_loopw [9] (fun i wr=>∃k:Nat,k<=ss.length/\i=.int .i64 k/\Grew w wr/\Fj ss k) (fun i _=>ss.length-(intOf i).toNat)
 case atStart=>exact⟨0,by omega,rfl,Grew.refl _,fun i _ hi=>by omega⟩
 case round =>
  obtain⟨k,hk,rfl,hg,hgood⟩:=hrel
  have HG:=hide hgood
  clear hgood
  have HW:=hide hg
  clear hg
  by_cases hlt:k<ss.length
  ·obtain⟨s,hs⟩:∃s,ss[k]?=some s:=⟨_,List.getElem?_eq_getElem hlt⟩
   obtain⟨b,off,hA,hb,h0,h1,h2,h3,h4,h5⟩:=Pz (hr.up HW.out) hs
   have HS:=hide hs
   clear hs
   have hix:=aO (cap:=c) Tryz.underlying63 Tryz.sizeOf180 hA.out hlt
   by_cases hok:yO s.fx s.fy s.tx s.ty s.jA s.U5=true
   ·have hbd:=Nk hok
    go_wp2_with (go_at_call 113;refine aQ (DI _ _ _ _ _ _ _) fun _ _=>?_;dsimp only)
    clear h0 h1 h2 h3 h4 h5 hix
    have HO:=hide hok
    clear hok
    go_loopw [21] (fun i wi=>∃j:Nat,j<=k/\i=.int .i64 j/\Grew wr wi/\wR wi wr.heap.size s/\GoodAt ss s j) (fun i _=>k-(intOf i).toNat)
    case atStart=>exact⟨0,by omega,rfl,gw,(wR.new _ s).grew gw,fun i _ hi=>by omega⟩
    case round =>
     obtain⟨j,hj,rfl,hg,⟨h0,h1,h2,h3,h4,h5,h6⟩,hgood⟩:=hrel
     have HG2:=hide hgood
     clear hgood
     have HW2:=hide hg
     clear hg
     by_cases hjt:j<k
     ·obtain⟨t,ht⟩:∃t,ss[j]?=some t:=⟨_,List.getElem?_eq_getElem (by omega)⟩
      obtain⟨b',off',hA',hb',g0,g1,g2,g3,g4,g5⟩:=Pz ((hr.up HW.out).up HW2.out) ht
      have hix2:=aO (cap:=c) Tryz.underlying63 Tryz.sizeOf180 hA'.out hjt
      have tbd:=Nk (HG.out j t hjt ht).1
      have HT:=hide ht
      clear ht
      cases hc1:Jc s.fx s.fy s.tx s.ty t.fx t.fy
      ·cases hc2:Jc t.fx t.fy t.tx t.ty s.fx s.fy
       ·go_wp2_with (go_at_call 114;refine aQ (Dn _ _ _ _ _ _ _ _ _ (by omega) (by omega) (by omega) (by omega) (by omega) (by omega)) fun _ _=>?_;dsimp only)
        go_roundw
        case rel=>exact⟨j+1,by omega,by go_num,HW2.out.trans gw,wR.grew ⟨h0,h1,h2,h3,h4,h5,h6⟩ gw,La HG2.out HT.out (TB hc1 hc2)⟩
        case measure=>simp[intOf];omega
       ·go_wp2_with (go_at_call 114;refine aQ (Dn _ _ _ _ _ _ _ _ _ (by omega) (by omega) (by omega) (by omega) (by omega) (by omega)) fun _ _=>?_;dsimp only)
        go_ret
        exact aC.mk' (dU (VZ HS.out HT.out hjt (Tz hc2))) ((HW.out.trans HW2.out).trans gw)
      ·go_wp2_with (go_at_call 114;refine aQ (Dn _ _ _ _ _ _ _ _ _ (by omega) (by omega) (by omega) (by omega) (by omega) (by omega)) fun _ _=>?_;dsimp only)
       go_ret
       exact aC.mk' (dU (VZ HS.out HT.out hjt (TA hc1))) ((HW.out.trans HW2.out).trans gw)
     ·obtain rfl:j=k:=by omega
      go_wp2_with fail
      go_roundw
      case rel=>exact⟨j+1,by omega,by go_num,HW.out.trans HW2.out,good_step HG.out HS.out HO.out HG2.out⟩
      case measure=>simp[intOf];omega
   ·go_wp2_with (go_at_call 113;refine aQ (DI _ _ _ _ _ _ _) fun _ _=>?_;dsimp only)
    go_ret
    exact aC.mk' (dU (ab2 HS.out hok)) (HW.out.trans gw)
  ·go_wp2_with fail
   go_ret
   obtain rfl:k=ss.length:=by omega
   refine aC.mk' (dU ?_) HW.out
   rw[Bool.eq_iff_iff,yI]
   simp
   exact⟨fun h=>⟨HG.out,by omega⟩,fun h=>by have:=h.2;omega⟩
theorem DU (s:fJ)(x y:Int)(B:Nat)(w:World)(hs:s.ok=true)(hx:-4000000<=x/\x<=4000000)(hy:-4000000<=y/\y<=4000000)(c0:w.cell? ⟨B,0,none⟩=some (.int .i64 x))(c1:w.cell? ⟨B,1,none⟩=some (.int .i64 y))(hB:B<w.heap.size) :
  Calls Tryz.prog 175 #[s.val,.pointer (some ⟨B,0,none⟩)] w (aC w (.bool (s.has x y))):=by
 have hm:=aP
 have hbd:=Nk hs
 unfold fJ.val
 go_enter Tryz.func175,Tryz.ntmps175
 go_wp2_with (go_at_call 114;refine aQ (Dn _ _ _ _ _ _ _ _ _ (by omega) (by omega) (by omega) (by omega) (by omega) (by omega)) fun _ _=>?_;dsimp only)
 go_ret
 exact aC.mk' rfl gw
def idxOf {α:Type}(p:α->Bool):List α->Int
 | []=>-1
 | a::l=>if p a then 0 else if idxOf p l=-1 then -1 else idxOf p l+1
theorem KQ {α:Type}{p:α->Bool}:∀ {l:List α} {k:Nat} {a:α},l[k]?=some a->p a=true->(∀ (j:Nat) (b:α),j<k->l[j]?=some b->p b=false)->idxOf p l=k
 | [],k,a,h,_,_=>by simp at h
 | b::l,0,a,h,hp,_=>by
  simp at h
  subst h
  simp[idxOf,hp]
 | b::l,k+1,a,h,hp,hn=>by
  have h0:p b=false:=hn 0 b (by omega) rfl
  have ih:=KQ (l:=l) (k:=k) (by simpa using h) hp fun j c hj hc=>hn (j+1) c (by omega) (by simpa using hc)
  unfold idxOf
  rw[h0,ih]
  have:¬ ((k:Int)=-1):=by omega
  simp[this]
theorem Ez {α:Type}{p:α->Bool}:∀ {l:List α},(∀ (j:Nat) (b:α),l[j]?=some b->p b=false)->idxOf p l=-1
 | [],_=>rfl
 | b::l,hn=>by
  have h0:p b=false:=hn 0 b rfl
  have ih:=Ez (l:=l) (p:=p) fun (j:Nat) c hc=>hn (j+1) c (by simpa using hc)
  unfold idxOf
  rw[h0,ih]
  simp
def NoneTo (ss:List fJ)(x y:Int)(k:Nat):Prop:=∀j b,j<k->ss[j]?=some b->b.has x y=false
theorem RI {ss:List fJ}{x y:Int}{k:Nat}{s:fJ}(h:NoneTo ss x y k)(hs:ss[k]?=some s)(hn:s.has x y=false):NoneTo ss x y (k+1):=by
 intro j b hj hb
 by_cases hjk:j=k
 ·subst hjk
  rw[hs] at hb
  injection hb with hb
  subst hb
  exact hn
 ·exact h j b (by omega) hb
theorem x9 (ss:List fJ)(A:Option Addr)(c:Nat)(x y:Int)(B:Nat)(w:World)(hr:Rd w w.heap.size 6 A (ss.map fJ.cells))(hl:ss.length<=c)(hc:ss.length<=100000000000000)(hok:∀s∈ss,s.ok=true)
  (hx:-4000000<=x/\x<=4000000) (hy:-4000000<=y/\y<=4000000) (c0:w.cell? ⟨B,0,none⟩=some (.int .i64 x)) (c1:w.cell? ⟨B,1,none⟩=some (.int .i64 y)) (hB:B<w.heap.size) :
  Calls Tryz.prog 174 #[.slice A ss.length c,.func (.func 175) #[] #[.pointer (some ⟨B,0,none⟩)]] w (aC w (.int .i64 (idxOf (fun s:fJ=>s.has x y) ss))):=by
 have hm:=aP
 go_enter Tryz.func174,Tryz.ntmps174
 go_wp2_with fail
 go_loopw [8] (fun i wr=>∃k:Nat,k<=ss.length/\i=.int .i64 k/\Grew w wr/\NoneTo ss x y k) (fun i _=>ss.length-(intOf i).toNat)
 case atStart=>exact⟨0,by omega,rfl,Grew.refl _,fun i _ hi=>by omega⟩
 case round =>
  obtain⟨k,hk,rfl,hg,hgood⟩:=hrel
  have HG:=hide hgood
  clear hgood
  have HW:=hide hg
  clear hg
  by_cases hlt:k<ss.length
  ·obtain⟨s,hs⟩:∃s,ss[k]?=some s:=⟨_,List.getElem?_eq_getElem hlt⟩
   obtain⟨b,off,hA,hb,h0,h1,h2,h3,h4,h5⟩:=Pz (hr.up HW.out) hs
   have Ja:=hok s (List.mem_of_getElem? hs)
   have HS:=hide hs
   clear hs
   have hix:=aO (cap:=c) Tryz.underlying63 Tryz.sizeOf180 hA.out hlt
   have e0:=(iW HW.out _ _ hB).trans c0
   have e1:=(iW HW.out _ _ hB).trans c1
   have hB':=Nat.lt_of_lt_of_le hB HW.out.below.size
   cases hh:s.has x y
   ·go_wp2_with (go_at_call 175;refine aQ (DU s x y B _ Ja hx hy (by assumption) (by assumption) (by assumption)) fun _ _=>?_;dsimp only;rw[hh])
    go_roundw
    case rel=>exact⟨k+1,by omega,by go_num,HW.out.trans gw,RI HG.out HS.out hh⟩
    case measure=>simp[intOf];omega
   ·go_wp2_with (go_at_call 175;refine aQ (DU s x y B _ Ja hx hy (by assumption) (by assumption) (by assumption)) fun _ _=>?_;dsimp only;rw[hh])
    go_ret
    exact aC.mk' (l9 (KQ HS.out hh HG.out).symm) (HW.out.trans gw)
  ·go_wp2_with fail
   go_ret
   obtain rfl:k=ss.length:=by omega
   exact aC.mk' (l9 (Ez fun j b hj=>HG.out j b (List.getElem?_eq_some_iff.1 hj).1 hj).symm) HW.out
end Go.Proofs.YtlkgjmnjhifehaaGreat
namespace Go.Proofs.YtlkgjmnjhifehaaGreat
open Go.RowKit Go.Sort
attribute [local go_sem] dA steadyUpon
attribute [local go_sem ↓] bU bI aX aW aV aU aT
attribute [local go_sem] bH aK aJ size_grow tape_grow cell?_grow' aF aB grow_grow bW aY dR cO bY bK aN cZ aZ bZ bJ
theorem BU {α:Type}(p:α->Bool):∀ (l:List α),(idxOf p l=-1/\l.find? p=none)\/∃ (k:Nat) (a:α),l[k]?=some a/\idxOf p l=k/\l.find? p=some a
 | []=>.inl ⟨rfl,rfl⟩
 | b::l=>by
  cases hp:p b
  ·rcases BU p l with⟨h1,h2⟩|⟨k,a,h1,h2,h3⟩
   ·exact .inl ⟨by simp[idxOf,hp,h1],by simp[hp,h2]⟩
   ·refine .inr ⟨k+1,a,by simpa using h1,?_,by simp[hp,h3]⟩
    have:¬ ((k:Int)=-1):=by omega
    simp[idxOf,hp,h2,this]
  ·exact .inr ⟨0,b,rfl,by simp[idxOf,hp],by simp[hp]⟩
def tY (ss:List fJ)(x y:Int):Int×Int:=match ss.find? (fun s=>s.has x y) with|some s=>(s.jA,s.U5)|none=>(0,0)
theorem Gm (ss:List fJ)(A:Option Addr)(c:Nat)(x y:Int)(w:World)(hr:Rd w w.heap.size 6 A (ss.map fJ.cells))(hl:ss.length<=c)(hc:ss.length<=100000000000000)(hok:∀s∈ss,s.ok=true)
  (hx:-4000000<=x/\x<=4000000) (hy:-4000000<=y/\y<=4000000) :
  Calls Tryz.prog 151 #[.slice A ss.length c,pt x y] w (aC w (pt (tY ss x y).1 (tY ss x y).2)):=by
 have hm:=aP
 rcases BU (fun s:fJ=>s.has x y) ss with⟨h1,h2⟩|⟨k,s,h1,h2,h3⟩
 ·have HF:=hide h2
  clear h2
  go_enter Tryz.func151,Tryz.ntmps151
  go_wp2_with (go_at_call 174;refine aQ (x9 ss A c x y w.heap.size _ (hr.up gw) hl hc hok hx hy (by go_simp) (by go_simp) (by first|omega|(simp;done)|(simp;omega))) fun _ _=>?_;dsimp only;rw[h1])
  refine bodyPost_ret (v:=pt 0 0) (by simp[results,Tryz.results151,go_sem]) rfl ?_
  exact aC.mk' (by simp[tY,HF.out]) gw
 ·have HF:=hide h3
  clear h3
  have hkl:k<ss.length:=(List.getElem?_eq_some_iff.1 h1).1
  have HS:=hide h1
  clear h1
  obtain⟨b,off,hA,hb,c0,c1,c2,c3,c4,c5⟩:=Pz hr HS.out
  have hix:=aO (cap:=c) Tryz.underlying63 Tryz.sizeOf180 hA.out hkl
  go_enter Tryz.func151,Tryz.ntmps151
  go_wp2_with (go_at_call 174;refine aQ (x9 ss A c x y w.heap.size _ (hr.up gw) hl hc hok hx hy (by go_simp) (by go_simp) (by first|omega|(simp;done)|(simp;omega))) fun _ _=>?_;dsimp only;rw[h2])
  refine ay 11 [] [] hm (h:=?_)
  repeat (refine ax (fun K hK=>?_);go_simp;refine hK _ ?_;clear hK K)
  refine lU fun nq osq=>?_
  try simp only[Act.put,aG]
  try dsimp only
  go_wp2
  refine bodyPost_ret (v:=pt s.jA s.U5) (by simp[results,Tryz.results151,go_sem]) rfl ?_
  exact aC.mk' (by simp[tY,HF.out]) gw
theorem XV {ss:List fJ}(h:fK ss=true):(∀s∈ss,s.ok=true)/\ss.length<=12:=by
 have h:=yI.1 h
 refine⟨fun s hs=>?_,h.2⟩
 obtain⟨k,hk,rfl⟩:=List.getElem_of_mem hs
 exact (h.1 k _ hk (List.getElem?_eq_getElem hk)).1
theorem Py:(Tryz.prog.info? 180).map (fun i=>(i.zero,i.size,i.bytes))=some (some (.agg #[.int .i64 0,.int .i64 0,.int .i64 0,.int .i64 0,.int .i64 0,.int .i64 0]),6,48):=by kernel_rfl
theorem X6 (n:Nat)(w:World)(hn:n<=1000000) :
  Calls Tryz.prog 183 #[.slice none 0 0,.int .i64 n] w fun e w'=>∃v,e=.returned v/\w'.ownsRow w.heap.size 180 6 v 0 []/\Grew w w':=by
 have hm:=aP
 obtain⟨i0,hi,hz0,hz1,hz2⟩:=info_parts Py
 by_cases h0:n=0
 ·subst h0
  go_enter Tryz.func183,Tryz.ntmps183
  go_wp2
  go_ret
  exact⟨_,rfl,World.ownsRow_nil _ _ _ _,gw⟩
 ·have hb1:n*i0.bytes<=281474976710656:=by rw[hz2];omega
  have hb2:Builtin.nextslicecap (0+n) 0*i0.bytes<=281474976710656:=by
   rw[hz2]
   have:Builtin.nextslicecap (0+n) 0=n:=by simp[Builtin.nextslicecap];omega
   rw[this]
   omega
  obtain⟨cur,ack⟩:∃cur,cur=(([]:List Value).toArray++Builtin.zeroCells (Value.agg #[.int .i64 0,.int .i64 0,.int .i64 0,.int .i64 0,.int .i64 0,.int .i64 0]).cells n++Builtin.zeroCells (Value.agg #[.int .i64 0,.int .i64 0,.int .i64 0,.int .i64 0,.int .i64 0,.int .i64 0]).cells (grownCap w n 0 180-n)):=⟨_,rfl⟩
  have hge:=grownCap_ge w n 0 180
  have hle:=grownCap_le_maxLen w n 0 180 (by unfold maxLen;omega)
  have hrz:∀ty,(Builtin.append_ #[63,3] ty #[.slice none 0 0,.int .i64 (n:Int)]).run Tryz.prog w =
    .ok (.slice (some ⟨w.heap.size,0,none⟩) n (grownCap w n 0 180)) (w.drew.alloc (.cells cur 180)):=fun ty=>by
   have h:=Lib.run_append_grow_zeros w 63 3 ty 180 i0 _ .i64 .i64 Tryz.underlying63 Tryz.underlying3 hi hz0 none 0 0 [] (by exact run_firstCells_none w.drew i0.size 0 0 0) n (by omega) (by omega) (by omega) (by omega) hb1 hb2
   rw[Nat.zero_add] at h
   rw[ack]
   exact h
  have hcs:cur.size=grownCap w n 0 180*6:=by
   rw[ack]
   simp only[Array.size_append,Builtin.zeroCells,Array.size_map,Array.size_range,Value.cells,List.size_toArray,List.length_nil,List.length_cons,Nat.reduceAdd]
   omega
  clear ack hb1 hb2
  obtain⟨G,hG⟩:∃G,G=grownCap w n 0 180:=⟨_,rfl⟩
  rw[<-hG] at hge hle hcs hrz
  clear hG
  have h1:0<n:=by omega
  unfold maxLen at hle
  have HC:=hide hcs
  clear hcs
  go_enter Tryz.func183,Tryz.ntmps183
  go_wp2_with (at_builtin;refine Lib.wpList_append_run _ rfl _ _ _ _ rfl _ _ rfl rfl _ _ (hrz _) ?_)
  go_ret
  refine⟨_,rfl,?_,gw⟩
  have:=World.ownsRow_made (base:=w.heap.size) (e:=180) (size:=6) w.drew cur G (Nat.le_refl _) (by unfold maxLen;omega) HC.out
  exact this
structure SL where
 A:Option Addr
 c:Nat
 ss:List fJ
def SL.val (x:SL):Value:=.slice x.A x.ss.length x.c
def AV (LL:List SL)(k:Nat):List fJ:=(LL.take k).flatMap SL.ss
theorem AU {LL:List SL}{k:Nat}{x:SL}(h:LL[k]?=some x):AV LL (k+1)=AV LL k++x.ss:=by
 unfold AV
 rw[List.take_add_one,h]
 simp
theorem yS {LL:List SL}(h:∀x∈LL,x.ss.length<=1000):∀k,(AV LL k).length<=1000*k
 | 0=>by simp[AV]
 | k+1=>by
  have ih:=yS h k
  cases hx:LL[k]? with
  | none =>
   unfold AV at ih ⊢
   rw[List.take_add_one,hx]
   simp
   simp at ih
   omega
  | some x =>
   rw[AU hx,List.length_append]
   have:=h x (List.mem_of_getElem? hx)
   omega
theorem Kr (LL:List SL):AV LL LL.length=LL.flatMap SL.ss:=by unfold AV;rw[List.take_length]
theorem Px (s:fJ):s.cells.length=6:=rfl
theorem YF (ss:List fJ):∀u∈ss.flatMap fJ.cells,u.oneCell'=true:=by
 intro u hu
 obtain⟨s,_,hs⟩:=List.mem_flatMap.1 hu
 simp[fJ.cells] at hs
 rcases hs with rfl|rfl|rfl|rfl|rfl|rfl<;>rfl
theorem O4 (LL:List SL)(O:Option Addr)(c:Nat)(w:World)(hr:Rd w w.heap.size 1 O (LL.map fun x=>[x.val]))(hin:∀x∈LL,Rd w w.heap.size 6 x.A (x.ss.map fJ.cells))(hl:LL.length<=10)(hs:∀x∈LL,x.ss.length<=1000) :
  Calls Tryz.prog 173 #[.slice O LL.length c] w fun e w'=>∃v,e=.returned v/\w'.ownsRow w.heap.size 180 6 v (LL.flatMap SL.ss).length ((LL.flatMap SL.ss).flatMap fJ.cells)/\Grew w w':=by
 have hm:=aP
 obtain⟨i0,hi,hz0,hz1,hz2⟩:=info_parts Py
 have HI:=hide hin
 have HS:=hide hs
 clear hin hs
 go_enter Tryz.func173,Tryz.ntmps173
 go_wp2_with fail
 go_loopw [3,11] (fun sz i wr=>∃k:Nat,k<=LL.length/\i=.int .i64 k/\sz=.int .i64 ((AV LL k).length:Nat)/\Grew w wr) (fun _ i _=>LL.length-(intOf i).toNat)
 case atStart=>exact⟨0,by omega,rfl,rfl,Grew.refl _⟩
 case round =>
  obtain⟨k,hk,rfl,rfl,hg⟩:=hrel
  have HW:=hide hg
  clear hg
  have hpl:=yS HS.out k
  by_cases hlt:k<LL.length
  ·obtain⟨x,hx⟩:∃x,LL[k]?=some x:=⟨_,List.getElem?_eq_getElem hlt⟩
   obtain⟨b,off,hA,hb,hc⟩:=(hr.up HW.out).at_ (k:=k) (x:=[x.val]) (by simp[hx])
   replace hA:=hide hA
   have c0:=hc 0 x.val rfl
   simp only[Nat.mul_one,Nat.add_zero,SL.val] at c0
   clear hc
   have hxs:=HS.out x (List.mem_of_getElem? hx)
   have hst:=AU hx
   have HX:=hide hx
   clear hx
   have HST:=hide hst
   clear hst
   have hix:=aO (cap:=c) Tryz.underlying241 Tryz.sizeOf63 hA.out hlt
   simp only[Nat.mul_one] at hix
   go_wp2_with fail
   go_roundw
   case rel=>exact⟨k+1,by omega,by go_num,by rw[HST.out];simp,HW.out⟩
   case measure=>simp[intOf];omega
  ·obtain rfl:k=LL.length:=by omega
   go_wp2_with (go_at_call 183;refine (X6 _ _ (by omega)).mono ?_;rintro e w1 ⟨v0,rfl,hown,hg1⟩;dsimp only)
   have hbase:w.heap.size<=wr.heap.size:=HW.out.below.size
   have hown0:w1.ownsRow w.heap.size 180 6 v0 0 []:=by
    refine⟨hown.1,hown.2.imp id fun ⟨g,cap,cur,h1,h2,h3⟩=>⟨g,cap,cur,h1,Nat.le_trans hbase h2,h3⟩⟩
   have HO:=hide hown0
   have hb1:=(HW.out.trans hg1).below
   have HB:=hide hb1
   clear hown hown0 hg1 hb1
   clear HW hpl
   go_loopw [6,27] (fun v i wq=>∃k:Nat,k<=LL.length/\i=.int .i64 k/\wq.ownsRow w.heap.size 180 6 v (AV LL k).length ((AV LL k).flatMap fJ.cells)/\Below w.heap.size w wq) (fun _ i _=>LL.length-(intOf i).toNat)
   case atStart=>exact⟨0,by omega,rfl,HO.out,HB.out⟩
   case round =>
    obtain⟨k,hk,rfl,hown,hbel⟩:=hrel
    have HW:=hide (Grew.of_below hbel)
    have hpl:=yS HS.out k
    have hsz:=hbel.size
    have ahI:=hide hbel
    clear hbel
    by_cases hlt:k<LL.length
    ·obtain⟨x,hx⟩:∃x,LL[k]?=some x:=⟨_,List.getElem?_eq_getElem hlt⟩
     obtain⟨b,off,hA,hb,hc⟩:=(hr.up HW.out).at_ (k:=k) (x:=[x.val]) (by simp[hx])
     replace hA:=hide hA
     have c0:=hc 0 x.val rfl
     simp only[Nat.mul_one,Nat.add_zero,SL.val] at c0
     clear hc
     have hxs:=HS.out x (List.mem_of_getElem? hx)
     have hrx:=((HI.out x (List.mem_of_getElem? hx)).up HW.out).reads Px (by omega)
     have hst:=AU hx
     have HX:=hide hx
     clear hx
     have HST:=hide hst
     clear hst
     have HR:=hide hrx
     clear hrx
     have HOW:=hide hown
     clear hown
     have hix:=aO (cap:=c) Tryz.underlying241 Tryz.sizeOf63 hA.out hlt
     simp only[Nat.mul_one] at hix
     go_wp2_with (at_builtin;refine iw _ rfl (.tmp 31) (.tmp 32) _ rfl w.heap.size 180 i0 _ 6 48 Tryz.underlying63 hi hz0 hz1 hz2 rfl (by omega) _ (AV LL k).length ((AV LL k).flatMap fJ.cells) rfl HOW.out wr.heap.size x.A x.ss.length x.c (x.ss.flatMap fJ.cells) rfl HR.out (YF _) (by simp only[maxLen];omega) (by omega) hsz ?_;intro v' w1 hown1 hg1 agK)
     have hbw:=ahI.out.grown hg1 hsz (fun q hq=>(HOW.out.lt q hq).1)
     have HBW:=hide hbw
     have MJ:=hide hown1
     clear hbw hown1 hg1 agK
     go_wp2_with fail
     go_roundw
     case rel=>exact⟨k+1,by omega,by go_num,by rw[HST.out,List.length_append,List.flatMap_append];exact MJ.out,HBW.out⟩
     case measure=>simp[intOf];omega
    ·obtain rfl:k=LL.length:=by omega
     go_wp2_with fail
     go_ret
     rw[Kr] at hown
     exact⟨_,rfl,hown,HW.out⟩
end Go.Proofs.YtlkgjmnjhifehaaGreat
