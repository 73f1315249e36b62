/- The contracts of the program's functions on directions and sectors (package sector) that have no loop. Conditions: coordinates in range where products are formed. The contracts of package sector's functions on lists of sectors. More contracts of package sector: what a light shows in a direction; Color; Seen. The contracts of slices.Grow and slices.Concat at sectors, and of package sector's iterator over the turns. -/
import Derived.Test.YtblgdlnmabkpoaaGreatPla
import Derived.Test.YtblgdlnmabkpoaaGreatApp
import Derived.Lib.AppendZerosOnto
set_option linter.unusedSimpArgs false
set_option linter.unusedVariables false
set_option maxHeartbeats 1600000
set_option maxRecDepth 100000
namespace Go.Proofs.YtblgdlnmabkpoaaGreat
open Go.RowKit Go.Sort
attribute [local go_sem] Steady steadyUpon
attribute [local go_sem ↓] hs_dr lt_add_r lt_add_r2 lt_add_r3 lt_add_r4 lt_add_r5 lt_add_r6
attribute [local go_sem] cell?_gd frozen?_gd setCell_gd size_grow tape_grow cell?_grow' frozen?_grow' setCell_grow' grow_grow grow_dr grow_drew dr_dr dr_drew drew_dr dr_alloc dr_setCell dr_cell dr_frozen dr_tape dr_drawn
abbrev sec (a b c d e f:Int):Value:=.agg #[.int .i64 a,.int .i64 b,.int .i64 c,.int .i64 d,.int .i64 e,.int .i64 f]
theorem cross_any (a b c d:Int)(w:World)(ha:-4000000≤a∧a≤4000000)(hb:-4000000≤b∧b≤4000000)(hc:-4000000≤c∧c≤4000000)(hd:-4000000≤d∧d≤4000000) :
  Calls Tryz.prog 201 #[pt a b,pt c d] w (Ret w (.int .i64 (a*d-b*c))):=by
 have h1:-16000000000000≤a*d∧a*d≤16000000000000:=mul_bd 4000000 4000000 ha hd
 have h2:-16000000000000≤b*c∧b*c≤16000000000000:=mul_bd 4000000 4000000 hb hc
 go_enter Tryz.func201,Tryz.ntmps201
 go_wp2
 go_ret
 exact Ret.mk' rfl gw
def upper (a b:Int):Bool:=decide (0<b)||(b==0&&decide (0<a))
theorem upper_any (a b:Int)(w:World) :
  Calls Tryz.prog 200 #[pt a b] w (Ret w (.bool (upper a b))):=by
 go_enter Tryz.func200,Tryz.ntmps200
 go_wp2
 all_goals go_ret
 all_goals refine Ret.mk' (ret_bool ?_) gw
 all_goals simp[upper, *]
 all_goals omega
def dirOk (a b:Int):Bool:=decide ((a≠0∨b≠0)∧(-1000000≤a∧a≤1000000)∧(-1000000≤b∧b≤1000000))
theorem ok_any (a b:Int)(w:World) :
  Calls Tryz.prog 168 #[pt a b] w (Ret w (.bool (dirOk a b))):=by
 go_enter Tryz.func168,Tryz.ntmps168
 go_wp2
 all_goals go_ret
 all_goals refine Ret.mk' (ret_bool ?_) gw
 all_goals (rw[Bool.eq_iff_iff];simp[dirOk];omega)
def crs (a b c d:Int):Int:=a*d-b*c
def cmpw (a b c d:Int):Int:=if upper a b != upper c d then (if upper a b then -1 else 1) else if 0<crs a b c d then -1 else if crs a b c d<0 then 1 else 0
theorem cw1 {a b c d:Int}(h1:(!upper a b==upper c d)=true)(h2:upper a b=true):-1=cmpw a b c d:=by
 unfold cmpw;cases h3:upper a b<;>cases h4:upper c d<;>simp_all
theorem cw2 {a b c d:Int}(h1:(!upper a b==upper c d)=true)(h2:upper a b=false):1=cmpw a b c d:=by
 unfold cmpw;cases h3:upper a b<;>cases h4:upper c d<;>simp_all
theorem cw3 {a b c d:Int}(h1:(!upper a b==upper c d)=false)(h2:b*c<a*d):-1=cmpw a b c d:=by
 unfold cmpw crs;rw[if_neg (by cases h3:upper a b<;>cases h4:upper c d<;>simp_all),if_pos (by omega)]
theorem cw4 {a b c d:Int}(h1:(!upper a b==upper c d)=false)(h2:a*d-b*c<0):1=cmpw a b c d:=by
 unfold cmpw crs;rw[if_neg (by cases h3:upper a b<;>cases h4:upper c d<;>simp_all),if_neg (by omega),if_pos (by omega)]
theorem cw5 {a b c d:Int}(h1:(!upper a b==upper c d)=false)(h2:a*d≤b*c)(h3:0≤a*d-b*c):0=cmpw a b c d:=by
 unfold cmpw crs;rw[if_neg (by cases h3:upper a b<;>cases h4:upper c d<;>simp_all),if_neg (by omega),if_neg (by omega)]
theorem compare_any (a b c d:Int)(w:World)(ha:-4000000≤a∧a≤4000000)(hb:-4000000≤b∧b≤4000000)(hc:-4000000≤c∧c≤4000000)(hd:-4000000≤d∧d≤4000000) :
  Calls Tryz.prog 169 #[pt a b,pt c d] w (Ret w (.int .i64 (cmpw a b c d))):=by
 have hm:=hmix
 go_enter Tryz.func169,Tryz.ntmps169
 go_wp2_with fail
 refine wp_region_qas 6 [] [] hm (h:=?_)
 repeat (refine wpSteady_step (fun K hK=>?_);go_simp;first|(refine hK _ ?_;clear hK K)|(apply Exists.intro;refine⟨fun _=>?_,hK _ ?_⟩;(go_at_call 200;exact upper_any _ _ _);clear hK K))
 refine rq0 fun nq osq=>?_
 try simp only[Act.put,setA]
 try dsimp only
 go_wp2_with (first|(go_at_call 200;refine crv (upper_any _ _ _) fun _ _=>?_;dsimp only)|(go_at_call 201;refine crv (cross_any _ _ _ _ _ ha hb hc hd) fun _ _=>?_;dsimp only))
 all_goals go_ret
 all_goals refine Ret.mk' (ret_int ?_) gw
 all_goals (first|exact cw1 ‹_› ‹_› | exact cw2 ‹_› ‹_› | exact cw3 ‹_› ‹_› | exact cw4 ‹_› ‹_› | exact cw5 ‹_› ‹_› ‹_›)
def secOk (a b c d e f:Int):Bool:=dirOk a b&&dirOk c d&&decide (1≤e∧e≤3)&&decide (1≤f∧f≤3000000)
theorem valid1_any (a b c d e f:Int)(w:World) :
  Calls Tryz.prog 130 #[sec a b c d e f] w (Ret w (.bool (secOk a b c d e f))):=by
 have hm:=hmix
 go_enter Tryz.func130,Tryz.ntmps130
 go_wp2_with (go_at_call 168;refine crv (ok_any _ _ _) fun _ _=>?_;dsimp only)
 all_goals go_ret
 all_goals refine Ret.mk' (ret_bool ?_) gw
 all_goals (first|(simp[secOk, *];done)|(simp[secOk, *];omega))
def hasw (a b c d x y:Int):Bool :=
 if cmpw a b c d==-1 then (decide (cmpw a b x y≤0) && !decide (cmpw c d x y≤0)) else if cmpw a b c d==1 then (decide (cmpw a b x y≤0) || !decide (cmpw c d x y≤0)) else true
theorem has_any (a b c d e f x y:Int)(w:World)(ha:-4000000≤a∧a≤4000000)(hb:-4000000≤b∧b≤4000000)(hc:-4000000≤c∧c≤4000000)(hd:-4000000≤d∧d≤4000000)
  (hx:-4000000≤x∧x≤4000000) (hy:-4000000≤y∧y≤4000000) :
  Calls Tryz.prog 131 #[sec a b c d e f,pt x y] w (Ret w (.bool (hasw a b c d x y))):=by
 have hm:=hmix
 go_enter Tryz.func131,Tryz.ntmps131
 go_wp2_with fail
 refine wp_region_qas 8 [⟨4,6,5,158,.agg #[.int .i64 0,.int .i64 0]⟩,⟨5,7,6,158,.agg #[.int .i64 0,.int .i64 0]⟩] [] hm (hZ:=(ZOk.cons Tryz.zeroValue158 Tryz.sizeOf158 (ZOk.cons Tryz.zeroValue158 Tryz.sizeOf158 ZOk.nil))) (h:=?_)
 repeat (refine wpSteady_step (fun K hK=>?_);go_simp;refine hK _ ?_;clear hK K)
 refine wpSteady_nil ?_
 refine⟨(StOk.cons (by rfl) (by simp[stOpnd,Act.eval,Value.cells,Value.oneCell']) (StOk.cons (by rfl) (by simp[stOpnd,Act.eval,Value.cells,Value.oneCell']) StOk.nil)),LyOk.nil,?_⟩
 rintro psq qsq Wq HWq HFq HBq
 obtain rfl:qsq=[]:=HBq
 obtain⟨p0,_,rfl,hp0,hb0,hn0,p1,_,rfl,hp1,hb1,hn1,rfl⟩:=HFq
 simp only[putAll,putB,Act.put,setA]
 simp[stOpnd,Act.eval,Value.cells] at hb0
 have gc0_0:Wq.cell? ⟨p0,0,none⟩=some _:=blk_cell hb0 0
 have gc0_1:Wq.cell? ⟨p0,1,none⟩=some _:=blk_cell hb0 1
 have gf0:=blk_frozen hb0
 have gl0:=blk_lt hb0
 simp[stOpnd,Act.eval,Value.cells] at hb1
 have gc1_0:Wq.cell? ⟨p1,0,none⟩=some _:=blk_cell hb1 0
 have gc1_1:Wq.cell? ⟨p1,1,none⟩=some _:=blk_cell hb1 1
 have gf1:=blk_frozen hb1
 have gl1:=blk_lt hb1
 have gn:p0≠p1:=by simpa using hn0
 have gm:p1≠p0:=fun e=>gn e.symm
 have gp0:=hide hp0
 have gp1:=hide hp1
 clear hb0 hn0 hp0 hb1 hn1 hp1
 have oc:=old_cell HWq
 have of:=old_frozen HWq
 have ol:=old_lt HWq
 replace HWq:=hide HWq
 go_wp2_with fail
 refine wp_region_qas 10 [] [] hm (h:=?_)
 repeat (refine wpSteady_step (fun K hK=>?_);go_simp;first|(refine hK _ ?_;clear hK K)|(apply Exists.intro;refine⟨fun _=>?_,hK _ ?_⟩;(go_at_call 169;exact compare_any _ _ _ _ _ (by assumption) (by assumption) (by assumption) (by assumption));clear hK K))
 refine rq0 fun nqa osqa=>?_
 try simp only[Act.put,setA]
 try dsimp only
 go_wp2_with (go_at_call 169;refine crv (compare_any _ _ _ _ _ ha hb hc hd) fun _ _=>?_;dsimp only)
 all_goals go_ret
 all_goals refine Ret.mk' (ret_bool ?_) gw
 all_goals (simp only[hasw, *];simp;try omega)
structure Sec where
 fx:Int
 fy:Int
 tx:Int
 ty:Int
 col:Int
 rng:Int
 deriving DecidableEq,Inhabited
namespace Sec
def val (s:Sec):Value:=sec s.fx s.fy s.tx s.ty s.col s.rng
def cells (s:Sec):List Value:=[.int .i64 s.fx,.int .i64 s.fy,.int .i64 s.tx,.int .i64 s.ty,.int .i64 s.col,.int .i64 s.rng]
def ok (s:Sec):Bool:=secOk s.fx s.fy s.tx s.ty s.col s.rng
def has (s:Sec)(x y:Int):Bool:=hasw s.fx s.fy s.tx s.ty x y
end Sec
def clash (s t:Sec):Bool:=s.has t.fx t.fy||t.has s.fx s.fy
/-- The list is good up to k; element k against those before j. -/
def GoodTo (ss:List Sec)(k:Nat):Prop:=∀i s,i<k→ss[i]?=some s→s.ok=true∧∀j t,j<i→ss[j]?=some t→clash s t=false
def GoodAt (ss:List Sec)(s:Sec)(j:Nat):Prop:=∀i t,i<j→ss[i]?=some t→clash s t=false
def LV (ss:List Sec):Prop:=GoodTo ss ss.length∧ss.length≤12
def LValid (ss:List Sec):Bool:=decide ((∀i<ss.length,(ss.getD i default).ok=true∧∀j<i,clash (ss.getD i default) (ss.getD j default)=false)∧ss.length≤12)
theorem getD_of {α:Type}{l:List α}{i:Nat}{s d:α}(h:l[i]?=some s):l.getD i d=s:=by simp[h]
theorem LValid_iff {ss:List Sec}:LValid ss=true↔LV ss:=by
 unfold LValid LV GoodTo
 rw[decide_eq_true_eq]
 constructor
 ·rintro⟨h,h12⟩
  refine⟨fun i s hi hs=>?_,h12⟩
  obtain⟨h1,h2⟩:=h i hi
  rw[getD_of hs] at h1 h2
  exact⟨h1,fun j t hj ht=>by have:=h2 j hj;rwa [getD_of ht] at this⟩
 ·rintro⟨h,h12⟩
  refine⟨fun i hi=>?_,h12⟩
  have hs:ss[i]?=some ss[i]:=List.getElem?_eq_getElem hi
  obtain⟨h1,h2⟩:=h i _ hi hs
  rw[getD_of hs]
  refine⟨h1,fun j hj=>?_⟩
  have ht:ss[j]?=some ss[j]:=List.getElem?_eq_getElem (by omega)
  rw[getD_of ht]
  exact h2 j _ hj ht
theorem LValid_not {ss:List Sec}(h:¬ LV ss):false=LValid ss:=by
 cases hc:LValid ss with
 | false=>rfl
 | true=>exact (h (LValid_iff.1 hc)).elim
theorem secAt {w:World}{B:Nat}{A:Option Addr}{ss:List Sec}{k:Nat}{s:Sec}(h:Rd w B 6 A (ss.map Sec.cells))(hk:ss[k]?=some s) :
  ∃b off,Hid (A=some ⟨b,off,none⟩)∧b<B∧w.cell? ⟨b,off+k*6,none⟩=some (.int .i64 s.fx)∧w.cell? ⟨b,off+k*6+1,none⟩=some (.int .i64 s.fy) ∧
   w.cell? ⟨b,off+k*6+2,none⟩=some (.int .i64 s.tx)∧w.cell? ⟨b,off+k*6+3,none⟩=some (.int .i64 s.ty)∧w.cell? ⟨b,off+k*6+4,none⟩=some (.int .i64 s.col)∧w.cell? ⟨b,off+k*6+5,none⟩=some (.int .i64 s.rng):=by
 obtain⟨b,off,hA,hb,hc⟩:=h.at_ (k:=k) (x:=s.cells) (by simp[hk])
 exact⟨b,off,hA,hb,hc 0 _ rfl,hc 1 _ rfl,hc 2 _ rfl,hc 3 _ rfl,hc 4 _ rfl,hc 5 _ rfl⟩
theorem sok_bd {s:Sec}(h:s.ok=true):(-4000000≤s.fx∧s.fx≤4000000)∧(-4000000≤s.fy∧s.fy≤4000000)∧(-4000000≤s.tx∧s.tx≤4000000)∧(-4000000≤s.ty∧s.ty≤4000000):=by
 simp[Sec.ok,secOk,dirOk] at h
 omega
theorem dir_bd {x y:Int}(h:dirOk x y=true):(-4000000≤x∧x≤4000000)∧(-4000000≤y∧y≤4000000):=by
 simp[dirOk] at h
 omega
theorem good_step {ss:List Sec}{k:Nat}{s:Sec}(h:GoodTo ss k)(hs:ss[k]?=some s)(ho:s.ok=true)(ha:GoodAt ss s k):GoodTo ss (k+1):=by
 intro i t hi ht
 by_cases hik:i=k
 ·subst hik
  rw[hs] at ht
  injection ht with ht
  subst ht
  exact⟨ho,ha⟩
 ·exact h i t (by omega) ht
theorem goodAt_step {ss:List Sec}{s t:Sec}{j:Nat}(h:GoodAt ss s j)(ht:ss[j]?=some t)(hc:clash s t=false):GoodAt ss s (j+1):=by
 intro i u hi hu
 by_cases hij:i=j
 ·subst hij
  rw[ht] at hu
  injection hu with hu
  subst hu
  exact hc
 ·exact h i u (by omega) hu
theorem lv_no1 {ss:List Sec}{k:Nat}{s:Sec}(hs:ss[k]?=some s)(ho:¬ s.ok=true):false=LValid ss:=by
 refine LValid_not fun h=>?_
 exact ho (h.1 k s (List.getElem?_eq_some_iff.1 hs).1 hs).1
theorem lv_no2 {ss:List Sec}{k j:Nat}{s t:Sec}(hs:ss[k]?=some s)(ht:ss[j]?=some t)(hj:j<k)(ho:clash s t=true):false=LValid ss:=by
 refine LValid_not fun h=>?_
 have:=(h.1 k s (List.getElem?_eq_some_iff.1 hs).1 hs).2 j t hj ht
 rw[ho] at this
 cases this
def SecBox (w:World)(b:Nat)(s:Sec):Prop :=
 w.cell? ⟨b,0,none⟩=some (.int .i64 s.fx)∧w.cell? ⟨b,1,none⟩=some (.int .i64 s.fy)∧w.cell? ⟨b,2,none⟩=some (.int .i64 s.tx) ∧
 w.cell? ⟨b,3,none⟩=some (.int .i64 s.ty)∧w.cell? ⟨b,4,none⟩=some (.int .i64 s.col)∧w.cell? ⟨b,5,none⟩=some (.int .i64 s.rng)∧b<w.heap.size
theorem SecBox.grew {w w':World}{b:Nat}{s:Sec}(h:SecBox w b s)(hg:Grew w w'):SecBox w' b s:=by
 obtain⟨h0,h1,h2,h3,h4,h5,h6⟩:=h
 have hb:=hg.below
 exact⟨(hb.cell h6).trans h0,(hb.cell h6).trans h1,(hb.cell h6).trans h2,(hb.cell h6).trans h3,(hb.cell h6).trans h4,(hb.cell h6).trans h5,Nat.lt_of_lt_of_le h6 hb.size⟩
theorem SecBox.new (w:World)(s:Sec):SecBox (w.alloc (.cells #[.int .i64 s.fx,.int .i64 s.fy,.int .i64 s.tx,.int .i64 s.ty,.int .i64 s.col,.int .i64 s.rng] 108)) w.heap.size s:=by
 refine⟨?_,?_,?_,?_,?_,?_,by simp⟩<;>rw[World.cell?_alloc_at _ _ _ _ rfl]<;>rfl
theorem clash_of1 {s t:Sec}(h:hasw s.fx s.fy s.tx s.ty t.fx t.fy=true):clash s t=true:=by unfold clash Sec.has;rw[h];rfl
theorem clash_of2 {s t:Sec}(h:hasw t.fx t.fy t.tx t.ty s.fx s.fy=true):clash s t=true:=by unfold clash Sec.has;rw[h,Bool.or_true]
theorem clash_not {s t:Sec}(h:hasw s.fx s.fy s.tx s.ty t.fx t.fy=false)(k:hasw t.fx t.fy t.tx t.ty s.fx s.fy=false):clash s t=false:=by unfold clash Sec.has;rw[h,k];rfl
theorem Valid_any (ss:List Sec)(A:Option Addr)(c:Nat)(w:World)(hr:Rd w w.heap.size 6 A (ss.map Sec.cells))(hl:ss.length≤c)(hc:ss.length≤100000000000000) :
  Calls Tryz.prog 83 #[.slice A ss.length c] w (Ret w (.bool (LValid ss))):=by
 have hm:=hmix
 go_enter Tryz.func83,Tryz.ntmps83
 go_wp2_with fail
 go_loopw [9] (fun i wr=>∃k:Nat,k≤ss.length∧i=.int .i64 k∧Grew w wr∧GoodTo ss k) (fun i _=>ss.length-(intOf i).toNat)
 case atStart=>exact⟨0,by omega,rfl,Grew.refl _,fun i _ hi=>by omega⟩
 case round =>
  obtain⟨k,hk,rfl,hg,hgood⟩:=hrel
  have HG:=hide hgood
  clear hgood
  have HW:=hide hg
  clear hg
  by_cases hlt:k<ss.length
  ·obtain⟨s,hs⟩:∃s,ss[k]?=some s:=⟨_,List.getElem?_eq_getElem hlt⟩
   obtain⟨b,off,hA,hb,h0,h1,h2,h3,h4,h5⟩:=secAt (hr.up HW.out) hs
   have HS:=hide hs
   clear hs
   have hix:=idx_run (cap:=c) Tryz.underlying52 Tryz.sizeOf108 hA.out hlt
   by_cases hok:secOk s.fx s.fy s.tx s.ty s.col s.rng=true
   ·have hbd:=sok_bd hok
    go_wp2_with (go_at_call 130;refine crv (valid1_any _ _ _ _ _ _ _) fun _ _=>?_;dsimp only)
    clear h0 h1 h2 h3 h4 h5 hix
    have HO:=hide hok
    clear hok
    go_loopw [21] (fun i wi=>∃j:Nat,j≤k∧i=.int .i64 j∧Grew wr wi∧SecBox wi wr.heap.size s∧GoodAt ss s j) (fun i _=>k-(intOf i).toNat)
    case atStart=>exact⟨0,by omega,rfl,gw,(SecBox.new _ s).grew gw,fun i _ hi=>by omega⟩
    case round =>
     obtain⟨j,hj,rfl,hg,⟨h0,h1,h2,h3,h4,h5,h6⟩,hgood⟩:=hrel
     have HG2:=hide hgood
     clear hgood
     have HW2:=hide hg
     clear hg
     by_cases hjt:j<k
     ·obtain⟨t,ht⟩:∃t,ss[j]?=some t:=⟨_,List.getElem?_eq_getElem (by omega)⟩
      obtain⟨b',off',hA',hb',g0,g1,g2,g3,g4,g5⟩:=secAt ((hr.up HW.out).up HW2.out) ht
      have hix2:=idx_run (cap:=c) Tryz.underlying52 Tryz.sizeOf108 hA'.out hjt
      have tbd:=sok_bd (HG.out j t hjt ht).1
      have HT:=hide ht
      clear ht
      cases hc1:hasw s.fx s.fy s.tx s.ty t.fx t.fy
      ·cases hc2:hasw t.fx t.fy t.tx t.ty s.fx s.fy
       ·go_wp2_with (go_at_call 131;refine crv (has_any _ _ _ _ _ _ _ _ _ (by omega) (by omega) (by omega) (by omega) (by omega) (by omega)) fun _ _=>?_;dsimp only)
        go_roundw
        case rel=>exact⟨j+1,by omega,by go_num,HW2.out.trans gw,SecBox.grew ⟨h0,h1,h2,h3,h4,h5,h6⟩ gw,goodAt_step HG2.out HT.out (clash_not hc1 hc2)⟩
        case measure=>simp[intOf];omega
       ·go_wp2_with (go_at_call 131;refine crv (has_any _ _ _ _ _ _ _ _ _ (by omega) (by omega) (by omega) (by omega) (by omega) (by omega)) fun _ _=>?_;dsimp only)
        go_ret
        exact Ret.mk' (ret_bool (lv_no2 HS.out HT.out hjt (clash_of2 hc2))) ((HW.out.trans HW2.out).trans gw)
      ·go_wp2_with (go_at_call 131;refine crv (has_any _ _ _ _ _ _ _ _ _ (by omega) (by omega) (by omega) (by omega) (by omega) (by omega)) fun _ _=>?_;dsimp only)
       go_ret
       exact Ret.mk' (ret_bool (lv_no2 HS.out HT.out hjt (clash_of1 hc1))) ((HW.out.trans HW2.out).trans gw)
     ·obtain rfl:j=k:=by omega
      go_wp2_with fail
      go_roundw
      case rel=>exact⟨j+1,by omega,by go_num,HW.out.trans HW2.out,good_step HG.out HS.out HO.out HG2.out⟩
      case measure=>simp[intOf];omega
   ·go_wp2_with (go_at_call 130;refine crv (valid1_any _ _ _ _ _ _ _) fun _ _=>?_;dsimp only)
    go_ret
    exact Ret.mk' (ret_bool (lv_no1 HS.out hok)) (HW.out.trans gw)
  ·go_wp2_with fail
   go_ret
   obtain rfl:k=ss.length:=by omega
   refine Ret.mk' (ret_bool ?_) HW.out
   rw[Bool.eq_iff_iff,LValid_iff]
   simp
   exact⟨fun h=>⟨HG.out,by omega⟩,fun h=>by have:=h.2;omega⟩
theorem shown1_any (s:Sec)(x y:Int)(B:Nat)(w:World)(hs:s.ok=true)(hx:-4000000≤x∧x≤4000000)(hy:-4000000≤y∧y≤4000000)(c0:w.cell? ⟨B,0,none⟩=some (.int .i64 x))(c1:w.cell? ⟨B,1,none⟩=some (.int .i64 y))(hB:B<w.heap.size) :
  Calls Tryz.prog 196 #[s.val,.pointer (some ⟨B,0,none⟩)] w (Ret w (.bool (s.has x y))):=by
 have hm:=hmix
 have hbd:=sok_bd hs
 unfold Sec.val
 go_enter Tryz.func196,Tryz.ntmps196
 go_wp2_with (go_at_call 131;refine crv (has_any _ _ _ _ _ _ _ _ _ (by omega) (by omega) (by omega) (by omega) (by omega) (by omega)) fun _ _=>?_;dsimp only)
 go_ret
 exact Ret.mk' rfl gw
/-- The index of the first element with p; -1. -/
def idxOf {α:Type}(p:α→Bool):List α→Int
 | []=>-1
 | a::l=>if p a then 0 else if idxOf p l=-1 then -1 else idxOf p l+1
theorem idxOf_at {α:Type}{p:α→Bool}:∀ {l:List α} {k:Nat} {a:α},l[k]?=some a→p a=true→(∀ (j:Nat) (b:α),j<k→l[j]?=some b→p b=false)→idxOf p l=k
 | [],k,a,h,_,_=>by simp at h
 | b::l,0,a,h,hp,_=>by
  simp at h
  subst h
  simp[idxOf,hp]
 | b::l,k+1,a,h,hp,hn=>by
  have h0:p b=false:=hn 0 b (by omega) rfl
  have ih:=idxOf_at (l:=l) (k:=k) (by simpa using h) hp fun j c hj hc=>hn (j+1) c (by omega) (by simpa using hc)
  unfold idxOf
  rw[h0,ih]
  have:¬ ((k:Int)=-1):=by omega
  simp[this]
theorem idxOf_none {α:Type}{p:α→Bool}:∀ {l:List α},(∀ (j:Nat) (b:α),l[j]?=some b→p b=false)→idxOf p l=-1
 | [],_=>rfl
 | b::l,hn=>by
  have h0:p b=false:=hn 0 b rfl
  have ih:=idxOf_none (l:=l) (p:=p) fun (j:Nat) c hc=>hn (j+1) c (by simpa using hc)
  unfold idxOf
  rw[h0,ih]
  simp
def NoneTo (ss:List Sec)(x y:Int)(k:Nat):Prop:=∀j b,j<k→ss[j]?=some b→b.has x y=false
theorem none_step {ss:List Sec}{x y:Int}{k:Nat}{s:Sec}(h:NoneTo ss x y k)(hs:ss[k]?=some s)(hn:s.has x y=false):NoneTo ss x y (k+1):=by
 intro j b hj hb
 by_cases hjk:j=k
 ·subst hjk
  rw[hs] at hb
  injection hb with hb
  subst hb
  exact hn
 ·exact h j b (by omega) hb
theorem IndexFunc_any (ss:List Sec)(A:Option Addr)(c:Nat)(x y:Int)(B:Nat)(w:World)(hr:Rd w w.heap.size 6 A (ss.map Sec.cells))(hl:ss.length≤c)(hc:ss.length≤100000000000000)(hok:∀s∈ss,s.ok=true)
  (hx:-4000000≤x∧x≤4000000) (hy:-4000000≤y∧y≤4000000) (c0:w.cell? ⟨B,0,none⟩=some (.int .i64 x)) (c1:w.cell? ⟨B,1,none⟩=some (.int .i64 y)) (hB:B<w.heap.size) :
  Calls Tryz.prog 195 #[.slice A ss.length c,.func (.func 196) #[] #[.pointer (some ⟨B,0,none⟩)]] w (Ret w (.int .i64 (idxOf (fun s:Sec=>s.has x y) ss))):=by
 have hm:=hmix
 go_enter Tryz.func195,Tryz.ntmps195
 go_wp2_with fail
 go_loopw [8] (fun i wr=>∃k:Nat,k≤ss.length∧i=.int .i64 k∧Grew w wr∧NoneTo ss x y k) (fun i _=>ss.length-(intOf i).toNat)
 case atStart=>exact⟨0,by omega,rfl,Grew.refl _,fun i _ hi=>by omega⟩
 case round =>
  obtain⟨k,hk,rfl,hg,hgood⟩:=hrel
  have HG:=hide hgood
  clear hgood
  have HW:=hide hg
  clear hg
  by_cases hlt:k<ss.length
  ·obtain⟨s,hs⟩:∃s,ss[k]?=some s:=⟨_,List.getElem?_eq_getElem hlt⟩
   obtain⟨b,off,hA,hb,h0,h1,h2,h3,h4,h5⟩:=secAt (hr.up HW.out) hs
   have hsok:=hok s (List.mem_of_getElem? hs)
   have HS:=hide hs
   clear hs
   have hix:=idx_run (cap:=c) Tryz.underlying52 Tryz.sizeOf108 hA.out hlt
   have e0:=(old_cell HW.out _ _ hB).trans c0
   have e1:=(old_cell HW.out _ _ hB).trans c1
   have hB':=Nat.lt_of_lt_of_le hB HW.out.below.size
   cases hh:s.has x y
   ·go_wp2_with (go_at_call 196;refine crv (shown1_any s x y B _ hsok hx hy (by assumption) (by assumption) (by assumption)) fun _ _=>?_;dsimp only;rw[hh])
    go_roundw
    case rel=>exact⟨k+1,by omega,by go_num,HW.out.trans gw,none_step HG.out HS.out hh⟩
    case measure=>simp[intOf];omega
   ·go_wp2_with (go_at_call 196;refine crv (shown1_any s x y B _ hsok hx hy (by assumption) (by assumption) (by assumption)) fun _ _=>?_;dsimp only;rw[hh])
    go_ret
    exact Ret.mk' (ret_int (idxOf_at HS.out hh HG.out).symm) (HW.out.trans gw)
  ·go_wp2_with fail
   go_ret
   obtain rfl:k=ss.length:=by omega
   exact Ret.mk' (ret_int (idxOf_none fun j b hj=>HG.out j b (List.getElem?_eq_some_iff.1 hj).1 hj).symm) HW.out
end Go.Proofs.YtblgdlnmabkpoaaGreat
namespace Go.Proofs.YtblgdlnmabkpoaaGreat
open Go.RowKit Go.Sort
attribute [local go_sem] Steady steadyUpon
attribute [local go_sem ↓] hs_dr lt_add_r lt_add_r2 lt_add_r3 lt_add_r4 lt_add_r5 lt_add_r6
attribute [local go_sem] cell?_gd frozen?_gd setCell_gd size_grow tape_grow cell?_grow' frozen?_grow' setCell_grow' grow_grow grow_dr grow_drew dr_dr dr_drew drew_dr dr_alloc dr_setCell dr_cell dr_frozen dr_tape dr_drawn
theorem idxOf_cases {α:Type}(p:α→Bool):∀ (l:List α),(idxOf p l=-1∧l.find? p=none)∨∃ (k:Nat) (a:α),l[k]?=some a∧idxOf p l=k∧l.find? p=some a
 | []=>.inl ⟨rfl,rfl⟩
 | b::l=>by
  cases hp:p b
  ·rcases idxOf_cases p l with⟨h1,h2⟩|⟨k,a,h1,h2,h3⟩
   ·exact .inl ⟨by simp[idxOf,hp,h1],by simp[hp,h2]⟩
   ·refine .inr ⟨k+1,a,by simpa using h1,?_,by simp[hp,h3]⟩
    have:¬ ((k:Int)=-1):=by omega
    simp[idxOf,hp,h2,this]
  ·exact .inr ⟨0,b,rfl,by simp[idxOf,hp],by simp[hp]⟩
def showAt (ss:List Sec)(x y:Int):Int×Int:=match ss.find? (fun s=>s.has x y) with|some s=>(s.col,s.rng)|none=>(0,0)
theorem shown_any (ss:List Sec)(A:Option Addr)(c:Nat)(x y:Int)(w:World)(hr:Rd w w.heap.size 6 A (ss.map Sec.cells))(hl:ss.length≤c)(hc:ss.length≤100000000000000)(hok:∀s∈ss,s.ok=true)
  (hx:-4000000≤x∧x≤4000000) (hy:-4000000≤y∧y≤4000000) :
  Calls Tryz.prog 156 #[.slice A ss.length c,pt x y] w (Ret w (pt (showAt ss x y).1 (showAt ss x y).2)):=by
 have hm:=hmix
 rcases idxOf_cases (fun s:Sec=>s.has x y) ss with⟨h1,h2⟩|⟨k,s,h1,h2,h3⟩
 ·have HF:=hide h2
  clear h2
  go_enter Tryz.func156,Tryz.ntmps156
  go_wp2_with (go_at_call 195;refine crv (IndexFunc_any ss A c x y w.heap.size _ (hr.up gw) hl hc hok hx hy (by go_simp) (by go_simp) (by first|omega|(simp;done)|(simp;omega))) fun _ _=>?_;dsimp only;rw[h1])
  refine bodyPost_ret (v:=pt 0 0) (by simp[results,Tryz.results156,go_sem]) rfl ?_
  exact Ret.mk' (by simp[showAt,HF.out]) gw
 ·have HF:=hide h3
  clear h3
  have hkl:k<ss.length:=(List.getElem?_eq_some_iff.1 h1).1
  have HS:=hide h1
  clear h1
  obtain⟨b,off,hA,hb,c0,c1,c2,c3,c4,c5⟩:=secAt hr HS.out
  have hix:=idx_run (cap:=c) Tryz.underlying52 Tryz.sizeOf108 hA.out hkl
  go_enter Tryz.func156,Tryz.ntmps156
  go_wp2_with (go_at_call 195;refine crv (IndexFunc_any ss A c x y w.heap.size _ (hr.up gw) hl hc hok hx hy (by go_simp) (by go_simp) (by first|omega|(simp;done)|(simp;omega))) fun _ _=>?_;dsimp only;rw[h2])
  refine wp_region_qas 11 [] [] hm (h:=?_)
  repeat (refine wpSteady_step (fun K hK=>?_);go_simp;refine hK _ ?_;clear hK K)
  refine rq0 fun nq osq=>?_
  try simp only[Act.put,setA]
  try dsimp only
  go_wp2
  refine bodyPost_ret (v:=pt s.col s.rng) (by simp[results,Tryz.results156,go_sem]) rfl ?_
  exact Ret.mk' (by simp[showAt,HF.out]) gw
theorem LV_ok {ss:List Sec}(h:LValid ss=true):(∀s∈ss,s.ok=true)∧ss.length≤12:=by
 have h:=LValid_iff.1 h
 refine⟨fun s hs=>?_,h.2⟩
 obtain⟨k,hk,rfl⟩:=List.getElem_of_mem hs
 exact (h.1 k _ hk (List.getElem?_eq_getElem hk)).1
theorem secInfo:(Tryz.prog.info? 108).map (fun i=>(i.zero,i.size,i.bytes))=some (some (.agg #[.int .i64 0,.int .i64 0,.int .i64 0,.int .i64 0,.int .i64 0,.int .i64 0]),6,48):=by kernel_rfl
theorem Grow_any (n:Nat)(w:World)(hn:n≤1000000) :
  Calls Tryz.prog 210 #[.slice none 0 0,.int .i64 n] w fun e w'=>∃v,e=.returned v∧w'.ownsRow w.heap.size 108 6 v 0 []∧Grew w w':=by
 have hm:=hmix
 obtain⟨i0,hi,hz0,hz1,hz2⟩:=info_parts secInfo
 by_cases h0:n=0
 ·subst h0
  go_enter Tryz.func210,Tryz.ntmps210
  go_wp2
  go_ret
  exact⟨_,rfl,World.ownsRow_nil _ _ _ _,gw⟩
 ·have hb1:n*i0.bytes≤281474976710656:=by rw[hz2];omega
  have hb2:Builtin.nextslicecap (0+n) 0*i0.bytes≤281474976710656:=by
   rw[hz2]
   have:Builtin.nextslicecap (0+n) 0=n:=by simp[Builtin.nextslicecap];omega
   rw[this]
   omega
  obtain⟨cur,hcur⟩:∃cur,cur=(([]:List Value).toArray++Builtin.zeroCells (Value.agg #[.int .i64 0,.int .i64 0,.int .i64 0,.int .i64 0,.int .i64 0,.int .i64 0]).cells n++Builtin.zeroCells (Value.agg #[.int .i64 0,.int .i64 0,.int .i64 0,.int .i64 0,.int .i64 0,.int .i64 0]).cells (grownCap w n 0 108-n)):=⟨_,rfl⟩
  have hge:=grownCap_ge w n 0 108
  have hle:=grownCap_le_maxLen w n 0 108 (by unfold maxLen;omega)
  have hrz:∀ty,(Builtin.append_ #[52,3] ty #[.slice none 0 0,.int .i64 (n:Int)]).run Tryz.prog w =
    .ok (.slice (some ⟨w.heap.size,0,none⟩) n (grownCap w n 0 108)) (w.drew.alloc (.cells cur 108)):=fun ty=>by
   have h:=Lib.run_append_grow_zeros w 52 3 ty 108 i0 _ .i64 .i64 Tryz.underlying52 Tryz.underlying3 hi hz0 none 0 0 [] (by exact run_firstCells_none w.drew i0.size 0 0 0) n (by omega) (by omega) (by omega) (by omega) hb1 hb2
   rw[Nat.zero_add] at h
   rw[hcur]
   exact h
  have hcs:cur.size=grownCap w n 0 108*6:=by
   rw[hcur]
   simp only[Array.size_append,Builtin.zeroCells,Array.size_map,Array.size_range,Value.cells,List.size_toArray,List.length_nil,List.length_cons,Nat.reduceAdd]
   omega
  clear hcur hb1 hb2
  obtain⟨G,hG⟩:∃G,G=grownCap w n 0 108:=⟨_,rfl⟩
  rw[←hG] at hge hle hcs hrz
  clear hG
  have h1:0<n:=by omega
  unfold maxLen at hle
  have HC:=hide hcs
  clear hcs
  go_enter Tryz.func210,Tryz.ntmps210
  go_wp2_with (at_builtin;refine Lib.wpList_append_run _ rfl _ _ _ _ rfl _ _ rfl rfl _ _ (hrz _) ?_)
  go_ret
  refine⟨_,rfl,?_,gw⟩
  have:=World.ownsRow_made (base:=w.heap.size) (e:=108) (size:=6) w.drew cur G (Nat.le_refl _) (by unfold maxLen;omega) HC.out
  exact this
/-- A slice value of sectors, as it stands in a slice of slices. -/
structure SL where
 A:Option Addr
 c:Nat
 ss:List Sec
def SL.val (x:SL):Value:=.slice x.A x.ss.length x.c
def preL (LL:List SL)(k:Nat):List Sec:=(LL.take k).flatMap SL.ss
theorem preL_step {LL:List SL}{k:Nat}{x:SL}(h:LL[k]?=some x):preL LL (k+1)=preL LL k++x.ss:=by
 unfold preL
 rw[List.take_add_one,h]
 simp
theorem preL_len {LL:List SL}(h:∀x∈LL,x.ss.length≤1000):∀k,(preL LL k).length≤1000*k
 | 0=>by simp[preL]
 | k+1=>by
  have ih:=preL_len h k
  cases hx:LL[k]? with
  | none =>
   unfold preL at ih ⊢
   rw[List.take_add_one,hx]
   simp
   simp at ih
   omega
  | some x =>
   rw[preL_step hx,List.length_append]
   have:=h x (List.mem_of_getElem? hx)
   omega
theorem preL_all (LL:List SL):preL LL LL.length=LL.flatMap SL.ss:=by unfold preL;rw[List.take_length]
theorem sec_len (s:Sec):s.cells.length=6:=rfl
theorem sec_one (ss:List Sec):∀u∈ss.flatMap Sec.cells,u.oneCell'=true:=by
 intro u hu
 obtain⟨s,_,hs⟩:=List.mem_flatMap.1 hu
 simp[Sec.cells] at hs
 rcases hs with rfl|rfl|rfl|rfl|rfl|rfl<;>rfl
theorem Concat_any (LL:List SL)(O:Option Addr)(c:Nat)(w:World)(hr:Rd w w.heap.size 1 O (LL.map fun x=>[x.val]))(hin:∀x∈LL,Rd w w.heap.size 6 x.A (x.ss.map Sec.cells))(hl:LL.length≤10)(hs:∀x∈LL,x.ss.length≤1000) :
  Calls Tryz.prog 194 #[.slice O LL.length c] w fun e w'=>∃v,e=.returned v∧w'.ownsRow w.heap.size 108 6 v (LL.flatMap SL.ss).length ((LL.flatMap SL.ss).flatMap Sec.cells)∧Grew w w':=by
 have hm:=hmix
 obtain⟨i0,hi,hz0,hz1,hz2⟩:=info_parts secInfo
 have HI:=hide hin
 have HS:=hide hs
 clear hin hs
 go_enter Tryz.func194,Tryz.ntmps194
 go_wp2_with fail
 go_loopw [3,11] (fun sz i wr=>∃k:Nat,k≤LL.length∧i=.int .i64 k∧sz=.int .i64 ((preL LL k).length:Nat)∧Grew w wr) (fun _ i _=>LL.length-(intOf i).toNat)
 case atStart=>exact⟨0,by omega,rfl,rfl,Grew.refl _⟩
 case round =>
  obtain⟨k,hk,rfl,rfl,hg⟩:=hrel
  have HW:=hide hg
  clear hg
  have hpl:=preL_len HS.out k
  by_cases hlt:k<LL.length
  ·obtain⟨x,hx⟩:∃x,LL[k]?=some x:=⟨_,List.getElem?_eq_getElem hlt⟩
   obtain⟨b,off,hA,hb,hc⟩:=(hr.up HW.out).at_ (k:=k) (x:=[x.val]) (by simp[hx])
   replace hA:=hide hA
   have c0:=hc 0 x.val rfl
   simp only[Nat.mul_one,Nat.add_zero,SL.val] at c0
   clear hc
   have hxs:=HS.out x (List.mem_of_getElem? hx)
   have hst:=preL_step hx
   have HX:=hide hx
   clear hx
   have HST:=hide hst
   clear hst
   have hix:=idx_run (cap:=c) Tryz.underlying211 Tryz.sizeOf52 hA.out hlt
   simp only[Nat.mul_one] at hix
   go_wp2_with fail
   go_roundw
   case rel=>exact⟨k+1,by omega,by go_num,by rw[HST.out];simp,HW.out⟩
   case measure=>simp[intOf];omega
  ·obtain rfl:k=LL.length:=by omega
   go_wp2_with (go_at_call 210;refine (Grow_any _ _ (by omega)).mono ?_;rintro e w1 ⟨v0,rfl,hown,hg1⟩;dsimp only)
   have hbase:w.heap.size≤wr.heap.size:=HW.out.below.size
   have hown0:w1.ownsRow w.heap.size 108 6 v0 0 []:=by
    refine⟨hown.1,hown.2.imp id fun ⟨g,cap,cur,h1,h2,h3⟩=>⟨g,cap,cur,h1,Nat.le_trans hbase h2,h3⟩⟩
   have HO:=hide hown0
   have hb1:=(HW.out.trans hg1).below
   have HB:=hide hb1
   clear hown hown0 hg1 hb1
   clear HW hpl
   go_loopw [6,27] (fun v i wq=>∃k:Nat,k≤LL.length∧i=.int .i64 k∧wq.ownsRow w.heap.size 108 6 v (preL LL k).length ((preL LL k).flatMap Sec.cells)∧Below w.heap.size w wq) (fun _ i _=>LL.length-(intOf i).toNat)
   case atStart=>exact⟨0,by omega,rfl,HO.out,HB.out⟩
   case round =>
    obtain⟨k,hk,rfl,hown,hbel⟩:=hrel
    have HW:=hide (Grew.of_below hbel)
    have hpl:=preL_len HS.out k
    have hsz:=hbel.size
    have HBel:=hide hbel
    clear hbel
    by_cases hlt:k<LL.length
    ·obtain⟨x,hx⟩:∃x,LL[k]?=some x:=⟨_,List.getElem?_eq_getElem hlt⟩
     obtain⟨b,off,hA,hb,hc⟩:=(hr.up HW.out).at_ (k:=k) (x:=[x.val]) (by simp[hx])
     replace hA:=hide hA
     have c0:=hc 0 x.val rfl
     simp only[Nat.mul_one,Nat.add_zero,SL.val] at c0
     clear hc
     have hxs:=HS.out x (List.mem_of_getElem? hx)
     have hrx:=((HI.out x (List.mem_of_getElem? hx)).up HW.out).reads sec_len (by omega)
     have hst:=preL_step hx
     have HX:=hide hx
     clear hx
     have HST:=hide hst
     clear hst
     have HR:=hide hrx
     clear hrx
     have HOW:=hide hown
     clear hown
     have hix:=idx_run (cap:=c) Tryz.underlying211 Tryz.sizeOf52 hA.out hlt
     simp only[Nat.mul_one] at hix
     go_wp2_with (at_builtin;refine wpList_append_any _ rfl (.tmp 31) (.tmp 32) _ rfl w.heap.size 108 i0 _ 6 48 Tryz.underlying52 hi hz0 hz1 hz2 rfl (by omega) _ (preL LL k).length ((preL LL k).flatMap Sec.cells) rfl HOW.out wr.heap.size x.A x.ss.length x.c (x.ss.flatMap Sec.cells) rfl HR.out (sec_one _) (by simp only[maxLen];omega) (by omega) hsz ?_;intro v' w1 hown1 hg1 hat1)
     have hbw:=HBel.out.grown hg1 hsz (fun q hq=>(HOW.out.lt q hq).1)
     have HBW:=hide hbw
     have HO1:=hide hown1
     clear hbw hown1 hg1 hat1
     go_wp2_with fail
     go_roundw
     case rel=>exact⟨k+1,by omega,by go_num,by rw[HST.out,List.length_append,List.flatMap_append];exact HO1.out,HBW.out⟩
     case measure=>simp[intOf];omega
    ·obtain rfl:k=LL.length:=by omega
     go_wp2_with fail
     go_ret
     rw[preL_all] at hown
     exact⟨_,rfl,hown,HW.out⟩
end Go.Proofs.YtblgdlnmabkpoaaGreat
