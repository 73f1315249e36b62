
import Derived.Test.YtlkgjmnjhifehaaGreatSvX
import Derived.Test.YtlkgjmnjhifehaaGreatRuZ
import Derived.Test.YtlkgjmnjhifehaaGreatFeE
import Derived.Lib.AppendZerosOnto
import Derived.Lib.Overlaps
import Derived.Laws.Externs
import Derived.Test.YtlkgjmnjhifehaaGreatOwZ
set_option linter.unusedSimpArgs false
set_option linter.unusedVariables false
set_option maxHeartbeats 8000000
set_option maxRecDepth 100000
namespace Go.Proofs.YtlkgjmnjhifehaaGreat
open Go.RowKit Go.Sort
attribute [local go_sem] dA steadyUpon
attribute [local go_sem ↓] bU bI aX aW aV aU aT
attribute [local go_sem] bH aK aJ size_grow tape_grow cell?_grow' aF aB grow_grow bW aY dR cO bY bK aN cZ aZ bZ bJ
attribute [local irreducible] wpSteady
def Eu (ss:List So)(k:Nat):Int:=if k=0 then 0 else (gI ss (k-1)).id
def stepS (fs:List FV)(ss:List So)(k:Nat):Bool := !ry fs (gI ss k).id&&(Nl (gI ss k)&&decide (Eu ss k<(gI ss k).id))
def upS (fs:List FV)(ss:List So)(k:Nat):Bool:=(List.range k).all (stepS fs ss)
def oV (ss:List So)(fs:List FV):Bool:=bQ fs&&(decide (ss.length+fs.length<=300)&&upS fs ss ss.length)
abbrev svV (A:Option Addr)(n c:Nat)(A':Option Addr)(n' c':Nat):Value:=.agg #[.slice A n c,.slice A' n' c']
theorem UA {fs:List FV}{ss:List So}{k:Nat}(h:upS fs ss k=true):upS fs ss (k+1)=stepS fs ss k:=by
 unfold upS at h ⊢
 rw[List.range_succ,List.all_append,h]
 simp
theorem abx {fs:List FV}{ss:List So}{k n:Nat}(hk:k<n)(h:stepS fs ss k=false):upS fs ss n=false:=by
 unfold upS
 rw[List.all_eq_false]
 exact⟨k,List.mem_range.2 hk,by rw[h];simp⟩
theorem CZ {fs:List FV}(h:bQ fs=true):CS fs:=(zl.1 h).1
theorem MB (ss:List So)(fs:List FV)(A A':Option Addr)(c c':Nat)(r:Bool)(w:World)(hrs:Rd w w.heap.size 7 A (ss.map So.cells))(hr:nI w w.heap.size A' fs)(hc:ss.length<=100000000000000)(hc':fs.length<=100000000000000)(h:oV ss fs=r) :
  Calls Tryz.prog 24 #[svV A ss.length c A' fs.length c'] w (aC w (.bool r)):=by
 have hm:=aP
 obtain⟨u,hu⟩:∃u,bQ fs=u:=⟨_,rfl⟩
 have k1:=hide (fun W (hg:Grew w W)=>iO fs A' c' u W (hr.up hg) hc' hu)
 have HRS:=hide hrs
 have HRF:=hide hr.row
 clear hrs hr
 have H:=hide h
 unfold oV at h
 rw[hu] at h
 cases u
 ·obtain rfl:r=false:=by rw[<-h];rfl
  clear h H hu
  go_enter Tryz.func24,Tryz.ntmps24
  go_wp2_with (go_at_call 37;with_reducible refine aQ (k1.out _ gw) fun _ _=>?_;dsimp only)
  go_ret
  exact aC.mk' rfl gw
 ·by_cases hle:ss.length+fs.length<=300
  ·rw[decide_eq_true hle,Bool.true_and,Bool.true_and] at h
   have hle2:¬ (300:Int)<(ss.length:Int)+(fs.length:Int):=by omega
   have HH:=hide h
   have HFL:=hide hu
   clear h hu H
   go_enter Tryz.func24,Tryz.ntmps24
   go_wp2_with (go_at_call 37;with_reducible refine aQ (k1.out _ gw) fun _ _=>?_;dsimp only)
   refine fC ?_
   intro W0 hW
   have hg0:Grew w W0:=by rw[<-hW];exact gw
   have hbp:W0.heap[w.heap.size]?=some (.cells #[.slice A ss.length c,.slice A' fs.length c'] 25 (0,0)):=by
    rw[<-hW]
    exact (Grew.heap (w:=w.alloc (.cells #[.slice A ss.length c,.slice A' fs.length c'] 25)) gw (by simp)).trans (heap_alloc_new _ _)
   have lN:=hide hg0
   have MS:=hide hbp
   clear hW hg0 hbp k1
   go_loopw [3,25] (fun l i wr=>∃k:Nat,k<=ss.length/\i=.int .i64 k/\l=.int .i64 (Eu ss k)/\Grew W0 wr/\wW (upS fs ss k=true)) (fun _ i _=>ss.length-(intOf i).toNat)
   case atStart=>exact⟨0,by omega,rfl,rfl,Grew.refl _,rfl⟩
   case round =>
    obtain⟨k,hk,rfl,rfl,hg,hall⟩:=hrel
    have HG:=hide hg
    have HA:=hide hall.stop
    have bp:=(hg.heap (au MS.out)).trans MS.out
    have d0:=ag bp 0
    have d1:=ag bp 1
    have lp:=au bp
    clear hg bp hall
    by_cases hlt:k<ss.length
    ·obtain⟨b,off,hA,hb,fc⟩:=abC (HRS.out.up (lN.out.trans HG.out)) hlt
     have hix:=aO (cap:=c) Tryz.underlying22 Tryz.sizeOf61 hA.out hlt
     have hst:=UA HA.out
     unfold stepS at hst
     have WH:Eu ss (k+1)=(gI ss k).id:=by unfold Eu;rw[if_neg (by omega),Nat.add_sub_cancel]
     obtain⟨p,hp⟩:∃v,posOf fs (gI ss k).id=v:=⟨_,rfl⟩
     obtain⟨t,ht⟩:∃v,ry fs (gI ss k).id=v:=⟨_,rfl⟩
     obtain⟨v,hv⟩:∃v,Nl (gI ss k)=v:=⟨_,rfl⟩
     have k2:=hide (fun W (hg:Grew wr W)=>Xg fs (gI ss k).id A' c' W (HRF.out.up ((lN.out.trans HG.out).trans hg)) (by omega) (CZ HFL.out))
     have k3:=hide (fun W=>ab4 (gI ss k) v W hv)
     rw[hp,ht] at k2
     rw[ht,hv] at hst
     obtain⟨l,hl⟩:∃l,Eu ss k=l:=⟨_,rfl⟩
     rw[hl] at hst ⊢
     have hno:(!t&&(v&&decide (l<(gI ss k).id)))=false->r=false:=fun e=>by
      rw[<-HH.out]
      exact abx hlt (by unfold stepS;rw[ht,hv,hl];exact e)
     obtain⟨c0,c1,c2,c3,c4,c5,c6⟩:=fc
     clear hl hv hA hp ht
     generalize gI ss k=s at *
     obtain⟨s0,s1,s2,s3,s4,s5,s6⟩:=s
     dsimp only at *
     have lb:b<wr.heap.size:=by have:=hb;omega
     have HST:=hide hst
     have ac8:=hide WH
     clear hst WH
     have hcase:t=true\/(t=false/\v=false)\/(t=false/\v=true/\s0<=l)\/(t=false/\v=true/\¬ s0<=l):=by
      cases t<;>cases v<;>simp;omega
     rcases hcase with rfl|⟨rfl,rfl⟩|⟨rfl,rfl,hid⟩|⟨rfl,rfl,hid⟩
     ·have MK:=hide (hno (by simp))
      clear hno
      go_wp2_with (first|(go_at_call 27;with_reducible refine aQ (k2.out _ gw) fun _ _=>?_;dsimp only)|(go_at_call 58;with_reducible refine aQ (k3.out _) fun _ _=>?_;dsimp only))
      go_ret
      exact aC.mk' (by rw[MK.out];rfl) ((lN.out.trans HG.out).trans gw)
     ·have MK:=hide (hno (by simp))
      clear hno
      go_wp2_with (first|(go_at_call 27;with_reducible refine aQ (k2.out _ gw) fun _ _=>?_;dsimp only)|(go_at_call 58;with_reducible refine aQ (k3.out _) fun _ _=>?_;dsimp only))
      go_ret
      exact aC.mk' (by rw[MK.out];rfl) ((lN.out.trans HG.out).trans gw)
     ·have MK:=hide (hno (by simp;omega))
      clear hno
      go_wp2_with (first|(go_at_call 27;with_reducible refine aQ (k2.out _ gw) fun _ _=>?_;dsimp only)|(go_at_call 58;with_reducible refine aQ (k3.out _) fun _ _=>?_;dsimp only))
      go_ret
      exact aC.mk' (by rw[MK.out];rfl) ((lN.out.trans HG.out).trans gw)
     ·clear hno
      go_wp2_with (first|(go_at_call 27;with_reducible refine aQ (k2.out _ gw) fun _ _=>?_;dsimp only)|(go_at_call 58;with_reducible refine aQ (k3.out _) fun _ _=>?_;dsimp only))
      go_roundw
      case rel=>exact⟨k+1,by omega,by go_num,by rw[ac8.out],HG.out.trans gw,show upS fs ss (k+1)=true from (by rw[HST.out];simp;omega)⟩
      case measure=>simp[intOf];omega
    ·obtain rfl:k=ss.length:=by omega
     obtain rfl:r=true:=by rw[<-HH.out,HA.out]
     go_wp2_with fail
     go_ret
     exact aC.mk' rfl (lN.out.trans HG.out)
  ·obtain rfl:r=false:=by rw[<-h,decide_eq_false hle];rfl
   have hle2:(300:Int)<(ss.length:Int)+(fs.length:Int):=by omega
   have hwr:ss.length+fs.length<=200000000000000:=by omega
   clear h H hu
   go_enter Tryz.func24,Tryz.ntmps24
   go_wp2_with (go_at_call 37;with_reducible refine aQ (k1.out _ gw) fun _ _=>?_;dsimp only)
   go_ret
   exact aC.mk' rfl gw
end Go.Proofs.YtlkgjmnjhifehaaGreat
set_option maxHeartbeats 8000000
set_option maxRecDepth 100000
namespace Go.Proofs.YtlkgjmnjhifehaaGreat
open Go.RowKit Go.Sort Go.Lib
attribute [local go_sem] dA steadyUpon
attribute [local go_sem ↓] bU bI aX aW aV aU aT
attribute [local go_sem] bH aK aJ size_grow tape_grow cell?_grow' aF aB grow_grow bW aY dR cO bY bK aN cZ aZ bZ bJ
attribute [local irreducible] wpSteady
section
variable {P:Program}
theorem run_copy_row (w:World)(dT sT ty elem:TypeId)(b o dLen dCap:Nat)(a:Addr)(sLen sCap k m:Nat)(cs:List Value)
  (hu:P.underlying dT=some (.slice elem)) (hs:(P.info? elem).map (·.size)=some m) (hn:Nat.min sLen dLen=k) (hl:cs.length=k*m)
  (hsrc:∀j v,cs[j]?=some v->w.cell? (a.add j)=some v) (hc:∀j,j<cs.length->(w.cell? ⟨b,o+j,none⟩).isSome=true) (hf:∀j,j<cs.length->w.frozen? ⟨b,o+j,none⟩=false) (h1:∀v∈cs,v.oneCell'=true) :
  (Builtin.copy_ #[dT,sT] ty #[.slice (some ⟨b,o,none⟩) dLen dCap,.slice (some a) sLen sCap]).run P w=.ok (goInt k) (w.setCells b o cs):=by
 have hld:=run_loadCells_list (P:=P) w a cs hsrc
 have hst:=run_storeCells_cells (P:=P) b o cs 0 w (by simpa using hc) (by simpa using hf) h1
 rw[hl] at hld
 cases hq:P.info? elem with
 | none=>simp[hq] at hs
 | some i =>
  have hi:i.size=m:=by simpa[hq] using hs
  simp[Builtin.copy_,run_underlying hu,Builtin.lenOf,Builtin.firstCells,sizeOf,typeInfo,hq,hi,hn,hld,hst]
end
def setL:List Value->Nat->List Value->List Value
 | l,_,[]=>l
 | l,o,v::vs=>setL (l.set o v) (o+1) vs
theorem yN:∀ (vs:List Value) (l:List Value) (o:Nat),o+vs.length<=l.length->setL l o vs=l.take o++vs++l.drop (o+vs.length)
 | [],l,o,h=>by unfold setL;simp
 | v::vs,l,o,h=>by
  rw[List.length_cons] at h
  unfold setL
  rw[yN vs _ _ (by rw[List.length_set];omega)]
  have h1:(l.set o v).take (o+1)=l.take o++[v]:=by
   rw[List.take_add_one,List.take_set_of_le (by omega),List.getElem?_set_self (by omega)]
   rfl
  have h2:(l.set o v).drop (o+1+vs.length)=l.drop (o+(vs.length+1)):=by
   rw[List.drop_set_of_lt (by omega),show o+1+vs.length=o+(vs.length+1) by omega]
  rw[h1,h2,List.length_cons]
  simp
theorem qm {base g n cap m:Nat}{e:TypeId}:∀ (vs:List Value) (xs:List Value) (w:World) (o:Nat),w.ownsRow base e m (.slice (some ⟨g,0,none⟩) n cap) n xs->(w.setCells g o vs).ownsRow base e m (.slice (some ⟨g,0,none⟩) n cap) n (setL xs o vs)
 | [],_,_,_,h=>h
 | v::vs,xs,w,o,h=>qm vs _ _ (o+1) (h.stored o v).1
theorem Vs {w:World}{base g n n' cap m:Nat}{e:TypeId}{xs:List Value}(h:w.ownsRow base e m (.slice (some ⟨g,0,none⟩) n cap) n xs)(h1:n<=n')(h2:n'<=cap):∃ys,ys.length=(n'-n)*m/\w.ownsRow base e m (.slice (some ⟨g,0,none⟩) n' cap) n' (xs++ys):=by
 rcases h.2 with⟨h',_⟩|⟨g',cap',cur,h',hb,hg,hnc,hcm,hcs,htake⟩
 ·simp at h'
 ·simp only[Value.slice.injEq,Option.some.injEq,Addr.mk.injEq,and_true,true_and] at h'
  obtain⟨rfl,rfl⟩:=h'
  have hm:n*m<=n'*m:=Nat.mul_le_mul_right _ h1
  have hm2:n'*m<=cap*m:=Nat.mul_le_mul_right _ h2
  have hl:cur.toList.length=cap*m:=by simpa using hcs
  refine⟨(cur.toList.take (n'*m)).drop (n*m),by rw[List.length_drop,List.length_take,Nat.sub_mul];omega,?_⟩
  have e1:xs++(cur.toList.take (n'*m)).drop (n*m)=cur.toList.take (n'*m):=by
   rw[<-htake]
   have:=List.take_append_drop (n*m) (cur.toList.take (n'*m))
   rw[List.take_take,Nat.min_eq_left hm] at this
   exact this
  rw[e1]
  exact⟨by rw[List.length_take];omega,.inr ⟨g,cap,cur,rfl,hb,hg,h2,hcm,hcs,rfl⟩⟩
def insL (fs:List FV)(i:Nat)(f:FV):List FV:=fs.take i++f::fs.drop i
theorem Wu {fs:List FV}{i:Nat}{f:FV}(h:i<=fs.length):(insL fs i f).length=fs.length+1:=by
 unfold insL
 rw[List.length_append,List.length_cons,List.length_take,List.length_drop]
 omega
theorem G6:∀ (l:List FV) (i:Nat),(l.flatMap FV.cells).drop (i*9)=(l.drop i).flatMap FV.cells
 | [],i=>by simp
 | a::l,0=>by simp
 | a::l,i+1=>by
  rw[List.drop_succ_cons,List.flatMap_cons,<-G6 l i,List.drop_append,fZ,show (i+1)*9-9=i*9 by omega,List.drop_eq_nil_of_le (by rw[fZ];omega),List.nil_append]
theorem EH (l:List FV):(l.flatMap FV.cells).length=l.length*9:=by
 induction l with
 | nil=>rfl
 | cons a l ih=>rw[List.flatMap_cons,List.length_append,ih,fZ,List.length_cons];omega
theorem Bh (fs:List FV)(i:Nat)(f:FV):(insL fs i f).flatMap FV.cells=(fs.flatMap FV.cells).take (i*9)++f.cells++(fs.flatMap FV.cells).drop (i*9):=by
 unfold insL
 rw[List.flatMap_append,List.flatMap_cons,wY,G6,List.append_assoc]
theorem KP (xs pre cs:List Value)(a b:Nat)(ha:a<=xs.length)(hb:cs.length=b)(hp:pre.take a=xs.take a)(hpl:pre.length=xs.length+b) :
  setL (setL pre (a+b) (xs.drop a)) a cs=xs.take a++cs++xs.drop a/\setL (setL pre a cs) (a+b) (xs.drop a)=xs.take a++cs++xs.drop a:=by
 have hd:(xs.drop a).length=xs.length-a:=List.length_drop
 have ht:(xs.take a).length=a:=by rw[List.length_take];omega
 have hpt:(pre.take (a+b)).length=a+b:=by rw[List.length_take];omega
 constructor
 ·have e1:setL pre (a+b) (xs.drop a)=pre.take (a+b)++xs.drop a:=by
   have h9:pre.drop (a+b+(xs.drop a).length)=[]:=List.drop_eq_nil_of_le (by omega)
   rw[yN (xs.drop a) pre (a+b) (by omega),h9,List.append_nil]
  have e2:(pre.take (a+b)++xs.drop a).drop (a+b)=xs.drop a:=by
   have h9:(pre.take (a+b)).drop (a+b)=[]:=List.drop_eq_nil_of_le (by omega)
   rw[List.drop_append,h9,hpt,Nat.sub_self]
   rfl
  rw[e1,yN cs (pre.take (a+b)++xs.drop a) a (by rw[List.length_append];omega),List.take_append_of_le_length (by omega),List.take_take,Nat.min_eq_left (by omega),hp,hb,e2]
 ·have e1:setL pre a cs=xs.take a++cs++pre.drop (a+b):=by
   rw[yN cs pre a (by omega),hp,hb]
  have hl:(xs.take a++cs).length=a+b:=by rw[List.length_append];omega
  have hdd:(pre.drop (a+b)).length=xs.length-a:=by rw[List.length_drop];omega
  have hall:(xs.take a++cs++pre.drop (a+b)).length=a+b+(xs.length-a):=by rw[List.length_append];omega
  have h9:(xs.take a++cs++pre.drop (a+b)).drop (a+b+(xs.drop a).length)=[]:=List.drop_eq_nil_of_le (by omega)
  rw[e1,yN (xs.drop a) (xs.take a++cs++pre.drop (a+b)) (a+b) (by omega),h9,List.take_append_of_le_length (by omega),List.take_of_length_le (by omega),List.append_nil]
theorem acA:(Tryz.prog.info? 65).map (·.size)=some 9:=by kernel_rfl
theorem yX {W:World}{base g n cap:Nat}{xs:List Value}(h:W.ownsRow base 65 9 (.slice (some ⟨g,0,none⟩) n cap) n xs)(o k:Nat)(cs:List Value)(hl:cs.length=k*9)(ho:o+cs.length<=n*9)(a:Addr)(sLen sCap dLen:Nat)
  (hn:Nat.min sLen dLen=k) (hsrc:∀j v,cs[j]?=some v->W.cell? (a.add j)=some v) (h1:∀v∈cs,v.oneCell'=true) :
  ∀ty dc,(Builtin.copy_ #[23,23] ty #[.slice (some ⟨g,o,none⟩) dLen dc,.slice (some a) sLen sCap]).run Tryz.prog W=.ok (goInt k) (W.setCells g o cs):=fun ty dc =>
 run_copy_row W _ _ ty 65 g o dLen dc a sLen sCap k 9 cs Tryz.underlying23 acA hn hl hsrc
  (fun j hj=>by
   have hx:(xs[o+j]?).isSome=true:=by rw[List.getElem?_eq_getElem (by have:=h.1;omega)];rfl
   rw[h.cellAt (o+j) (by omega)]
   exact hx) (fun j hj=>h.frozenAt _) h1
theorem Y8 (fs:List FV)(f:FV)(v:Value)(base vb:Nat)(w:World)(hown:w.ownsRow base 65 9 v fs.length (fs.flatMap FV.cells))(hv:w.heap[vb]?=some (.cells f.cells.toArray 65 (0,0)))(hb:base<=w.heap.size)(hl:fs.length<=1000) :
  Calls Tryz.prog 29 #[v,.int .i64 (fs.length:Int),.slice (some ⟨vb,0,none⟩) 1 1] w fun e w'=>∃v',e=.returned v'/\w'.ownsRow base 65 9 v' (fs.length+1) ((insL fs fs.length f).flatMap FV.cells)/\w.grownBy w' v.ownBlock/\(v'.ownBlock=v.ownBlock\/v'.ownBlock=some w.heap.size):=by
 have hm:=aP
 obtain⟨A,c,rfl,hcl⟩:=kS hown
 obtain⟨i0,hi,hz0,hz1,hz2⟩:=oK Le
 have e1:(insL fs fs.length f).flatMap FV.cells=fs.flatMap FV.cells++f.cells:=by
  rw[Bh,<-EH,List.take_length,List.drop_length,List.append_nil]
 rw[e1]
 have hrd:Reads w w.heap.size 9 (some ⟨vb,0,none⟩) 1 f.cells:=⟨rfl,fun _=>⟨_,rfl,au hv,fun j u hj=>by
  rw[Addr.add_lit,Nat.zero_add,ag hv]
  simpa using hj⟩⟩
 have h1c:∀u∈f.cells,u.oneCell'=true:=fun u hu=>wE [f] u (by simpa using hu)
 have HO:=hide hown
 have FZ:=hide hrd
 have H1C:=hide h1c
 clear hown hv hrd h1c e1
 have hcc:c=fs.length\/(¬ c=fs.length/\∃g,A=some ⟨g,0,none⟩):=by
  by_cases h:c=fs.length
  ·exact .inl h
  ·refine .inr ⟨h,?_⟩
   rcases HO.out.2 with⟨h',h0⟩|⟨g',cap',cur,h',_⟩
   ·simp only[Value.slice.injEq] at h'
    omega
   ·simp only[Value.slice.injEq] at h'
    exact⟨g',h'.1⟩
 rcases hcc with rfl|⟨hcn,g,rfl⟩
 all_goals
  go_enter Tryz.func29,Tryz.ntmps29
  go_wp2_with (at_builtin;refine kH.stop ?_)
  refine kH.go ?_
  refine iw _ rfl (.tmp 23) (.tmp 24) _ rfl base 65 i0 _ 9 104 Tryz.underlying23 hi hz0 hz1 hz2 rfl (by omega) _ fs.length (fs.flatMap FV.cells) rfl HO.out w.heap.size (some ⟨vb,0,none⟩) 1 1 f.cells rfl FZ.out H1C.out (by unfold maxLen;omega) (by omega) hb ?_
  intro v' w1 hown1 hg1 hob
  have MJ:=hide hown1
  have jE:=hide hg1
  have HOB:=hide hob
  clear hown1 hg1 hob HO FZ H1C
  go_wp2_with fail
  go_ret
  exact⟨_,rfl,MJ.out,jE.out,HOB.out⟩
theorem Ir {w:World}{base g n cap m:Nat}{e:TypeId}{xs:List Value}(h:w.ownsRow base e m (.slice (some ⟨g,0,none⟩) n cap) n xs):cap<=maxLen/\base<=g/\g<w.heap.size/\n<=cap:=by
 rcases h.2 with⟨h',_⟩|⟨g',cap',cur,h',hb,hg,hnc,hcm,hcs,htake⟩
 ·simp at h'
 ·simp only[Value.slice.injEq,Option.some.injEq,Addr.mk.injEq,and_true,true_and] at h'
  obtain⟨rfl,rfl⟩:=h'
  exact⟨hcm,hb,au hg,hnc⟩
theorem Rz {w:World}{base g n cap m:Nat}{e:TypeId}{xs:List Value}(h:w.ownsRow base e m (.slice (some ⟨g,0,none⟩) n cap) n xs):∃k,w.shape? g=some (e,k)/\k=cap*m:=by
 rcases h.2 with⟨h',_⟩|⟨g',cap',cur,h',hb,hg,hnc,hcm,hcs,htake⟩
 ·simp at h'
 ·simp only[Value.slice.injEq,Option.some.injEq,Addr.mk.injEq,and_true,true_and] at h'
  obtain⟨rfl,rfl⟩:=h'
  exact⟨cur.size,by simp[World.shape?,hg],hcs⟩
theorem Si (fs:List FV)(f:FV)(i g c base vb:Nat)(w:World)(hown:w.ownsRow base 65 9 (.slice (some ⟨g,0,none⟩) fs.length c) fs.length (fs.flatMap FV.cells))(hv:w.heap[vb]?=some (.cells f.cells.toArray 65 (0,0)))(hne:vb≠g)(hi:i<fs.length)(hroom:fs.length+1<=c) :
  Calls Tryz.prog 29 #[.slice (some ⟨g,0,none⟩) fs.length c,.int .i64 (i:Int),.slice (some ⟨vb,0,none⟩) 1 1] w fun e w'=>e=.returned (.slice (some ⟨g,0,none⟩) (fs.length+1) c)/\w'.ownsRow base 65 9 (.slice (some ⟨g,0,none⟩) (fs.length+1) c) (fs.length+1) ((insL fs i f).flatMap FV.cells)/\w.grownBy w' (some g):=by
 have hm:=aP
 have hcap:=(Ir hown).1
 unfold maxLen at hcap
 obtain⟨kg,hsg,hkg⟩:=Rz hown
 have hsv:w.shape? vb=some (65,9):=by simp[World.shape?,hv,FV.cells]
 have hov:∀lb cb,(callFunc 66 #[.slice (some ⟨vb,0,none⟩) 1 1,.slice (some ⟨g,(i+1)*9,none⟩) lb cb]).run Tryz.prog w=.ok (.value (.bool false)) w:=fun lb cb=>by
  rw[run_callFunc_extern Tryz.func66 (by kernel_rfl) (by kernel_rfl) (by kernel_rfl) (e:=Extern.SlicesOverlaps.overlaps #[23,23] #[4]) (by kernel_rfl),
   Lib.run_overlaps_apart w 23 4 65 Tryz.underlying23 9 Tryz.sizeOf65 ⟨vb,0,none⟩ ⟨g,(i+1)*9,none⟩ 1 1 lb cb hne 65 65 9 kg hsv hsg (by omega) (bM hv _) (bM hv _)]
  rfl
 have h1f:∀u∈f.cells,u.oneCell'=true:=fun u hu=>wE [f] u (by simpa using hu)
 obtain⟨ys,hyl,hown2⟩:=Vs (n':=fs.length+1) hown (by omega) hroom
 rw[show fs.length+1-fs.length=1 by omega,Nat.one_mul] at hyl
 have hxl:=EH fs
 have h1x:=wE fs
 have hins:=Bh fs i f
 have BV:=KP (fs.flatMap FV.cells) (fs.flatMap FV.cells++ys) f.cells (i*9) 9 (by rw[hxl];omega) rfl (List.take_append_of_le_length (by rw[hxl];omega)) (by rw[List.length_append,hyl])
 rw[<-hins,show i*9+9=(i+1)*9 by omega] at BV
 obtain⟨RES,WZ⟩:∃r,(insL fs i f).flatMap FV.cells=r:=⟨_,rfl⟩
 rw[WZ] at BV ⊢
 generalize hXS:fs.flatMap FV.cells=xs at *
 have hdl:(xs.drop (i*9)).length=(fs.length-i)*9:=by rw[List.length_drop,hxl];omega
 have hcp1:Hid (∀W,Grew w W->∀ty dc sc,(Builtin.copy_ #[23,23] ty #[.slice (some ⟨g,(i+1)*9,none⟩) (fs.length-i) dc,.slice (some ⟨g,i*9,none⟩) (fs.length+1-i) sc]).run Tryz.prog W=.ok (goInt ((fs.length-i:Nat):Int)) (W.setCells g ((i+1)*9) (xs.drop (i*9)))):=hide (fun W hg ty dc sc =>
  yX (aI hown2 hg) ((i+1)*9) (fs.length-i) (xs.drop (i*9)) hdl (by omega) ⟨g,i*9,none⟩ (fs.length+1-i) sc (fs.length-i) (by simp only[Nat.min_def];split<;>omega)
   (fun j v hj=>by
    rw[Addr.add_lit,(aI hown2 hg).cellAt (i*9+j) (by rw[List.getElem?_drop] at hj;have:=(List.getElem?_eq_some_iff.1 hj).1;omega)]
    rw[List.getElem?_drop] at hj
    rw[List.getElem?_append_left (List.getElem?_eq_some_iff.1 hj).1]
    exact hj) (fun v hv=>h1x v (List.mem_of_mem_drop hv)) ty dc)
 have hcp2:Hid (∀W,Grew w W->∀ty dc,(Builtin.copy_ #[23,23] ty #[.slice (some ⟨g,i*9,none⟩) (fs.length+1-i) dc,.slice (some ⟨vb,0,none⟩) 1 1]).run Tryz.prog (W.setCells g ((i+1)*9) (xs.drop (i*9)))=.ok (goInt 1) ((W.setCells g ((i+1)*9) (xs.drop (i*9))).setCells g (i*9) f.cells)):=hide (fun W hg ty dc =>
  yX (qm _ _ _ _ (aI hown2 hg)) (i*9) 1 f.cells rfl (by rw[fZ];omega) ⟨vb,0,none⟩ 1 1 (fs.length+1-i) (by simp only[Nat.min_def];split<;>omega)
   (fun j v hj=>by
    rw[Addr.add_lit,Nat.zero_add,World.cell?_setCells_out g _ _ _ _ (fun h _=>absurd h hne),ag ((hg.heap (au hv)).trans hv)]
    simpa using hj) h1f ty dc)
 have HO2:=hide hown2
 have HP:=hide BV
 have hw1:IntKind.i64.wrap ((i:Int)+1)=(i:Int)+1:=by unfold IntKind.wrap;simp[IntKind.bits,IntKind.signed];omega
 have hw2:IntKind.i64.wrap ((fs.length:Int)+1)=(fs.length:Int)+1:=by unfold IntKind.wrap;simp[IntKind.bits,IntKind.signed];omega
 have hz2:¬ ((i:Int)=(fs.length:Int)):=by omega
 have hb2:¬ (c=i+1):=by omega
 have hb4:¬ (c=i):=by omega
 have hb5:¬ ((c:Int)<(fs.length:Int)+1):=by omega
 have hb6:(0:Int)<=(i:Int)+1:=by omega
 have hb7:i<=fs.length:=by omega
 have hb8:(i:Int)<=(fs.length:Int):=by omega
 have oU:((i:Int)+1).toNat=i+1:=by omega
 have agJ:(i:Int)<=(fs.length:Int)+1:=by omega
 clear hown hown2 BV hins WZ h1x h1f hv hsg hsv hkg hyl hXS hxl hdl
 go_enter Tryz.func29,Tryz.ntmps29
 go_wp2_with (simp only[hov])
 refine ay 8 [] [] hm (h:=?_)
 repeat (refine ax (fun K hK=>?_);go_simp;refine hK _ ?_;clear hK K)
 refine lU fun nq osq=>?_
 try simp only[Act.put,aG]
 try dsimp only
 have hr1:=hcp1.out (Sort.grow (dr w nq) osq) gw 3 (c-(i+1)) (c-i)
 have hr2:=hcp2.out (Sort.grow (dr w nq) osq) gw 3 (c-i)
 go_wp2_with fail
 go_ret
 refine⟨rfl,?_,?_⟩
 ·rw[<-HP.out.1]
  exact qm _ _ _ _ (qm _ _ _ _ (aI HO2.out gw))
 ·exact kR _ _ _ (kR _ _ _ (Grew.grownBy gw _))
theorem Ws (fs:List FV)(f:FV)(i g c base vb:Nat)(w:World)(hown:w.ownsRow base 65 9 (.slice (some ⟨g,0,none⟩) fs.length c) fs.length (fs.flatMap FV.cells))(hv:w.heap[vb]?=some (.cells f.cells.toArray 65 (0,0)))(hi:i<fs.length)(hroom:c<fs.length+1)(hb:base<=w.heap.size)(hl:fs.length<=1000) :
  Calls Tryz.prog 29 #[.slice (some ⟨g,0,none⟩) fs.length c,.int .i64 (i:Int),.slice (some ⟨vb,0,none⟩) 1 1] w fun e w'=>∃G,e=.returned (.slice (some ⟨w.heap.size,0,none⟩) (fs.length+1) G)/\w'.ownsRow base 65 9 (.slice (some ⟨w.heap.size,0,none⟩) (fs.length+1) G) (fs.length+1) ((insL fs i f).flatMap FV.cells)/\Grew w w':=by
 have hm:=aP
 have hlg:=(Ir hown).2.2.1
 have hcn:=(Ir hown).2.2.2
 obtain⟨i0,hi0,hz0,hzs,hzb⟩:=oK Le
 have h1f:∀u∈f.cells,u.oneCell'=true:=fun u hu=>wE [f] u (by simpa using hu)
 have hxl:=EH fs
 have h1x:=wE fs
 have hins:=Bh fs i f
 obtain⟨RES,WZ⟩:∃r,(insL fs i f).flatMap FV.cells=r:=⟨_,rfl⟩
 rw[WZ] at hins ⊢
 generalize hXS:fs.flatMap FV.cells=xs at *
 have hik:i+(fs.length+1-i)=fs.length+1:=by omega
 have hkk:(fs.length:Int)+1-(i:Int)=((fs.length+1-i:Nat):Int):=by omega
 have hcell:∀j v,xs[j]?=some v->w.cell? ⟨g,j,none⟩=some v:=fun j v hj=>by
  rw[hown.cellAt j (by have:=(List.getElem?_eq_some_iff.1 hj).1;omega)]
  exact hj
 have hold:(Builtin.firstCells i0.size i (.slice (some ⟨g,0,none⟩) i c)).run Tryz.prog w.drew=.ok (xs.take (i*9)).toArray w.drew:=by
  rw[hzs]
  exact run_firstCells_some w.drew 9 i ⟨g,0,none⟩ i c (xs.take (i*9)) (by rw[List.length_take];omega) (fun j v hj=>by
   rw[Addr.add_lit,Nat.zero_add]
   rw[List.getElem?_take] at hj
   split at hj
   ·exact hcell j v hj
   ·cases hj)
 obtain⟨G,hG⟩:∃G,G=grownCap w (fs.length+1) c 65:=⟨_,rfl⟩
 obtain⟨ROW,hROW⟩:∃ROW:Array Value,ROW=(xs.take (i*9)).toArray++Builtin.zeroCells (Value.agg #[.int .i64 0,.int .i64 0,.int .i64 0,.int .i64 0,.int .i64 0,.slice none 0 0,.int .i64 0,.int .i64 0,.slice none 0 0]).cells (fs.length+1-i)++Builtin.zeroCells (Value.agg #[.int .i64 0,.int .i64 0,.int .i64 0,.int .i64 0,.int .i64 0,.slice none 0 0,.int .i64 0,.int .i64 0,.slice none 0 0]).cells (G-(fs.length+1)):=⟨_,rfl⟩
 have hrz:∀ty,(Builtin.append_ #[23,3] ty #[.slice (some ⟨g,0,none⟩) i c,.int .i64 ((fs.length:Int)+1-(i:Int))]).run Tryz.prog w =
   .ok (.slice (some ⟨w.heap.size,0,none⟩) (fs.length+1) G) (w.drew.alloc (.cells ROW 65)):=fun ty=>by
  have h:=Lib.run_append_grow_zeros w 23 3 ty 65 i0 _ .i64 .i64 Tryz.underlying23 Tryz.underlying3 hi0 hz0 (some ⟨g,0,none⟩) i c (xs.take (i*9)) hold (fs.length+1-i) (by omega) (by omega) (by omega) (by omega) (by rw[hzb];omega) (by rw[hzb,hik];exact growslice_fits hroom (by omega))
  rw[hik] at h
  rw[hkk,hROW,hG]
  exact h
 have hGn:fs.length+1<=G:=by rw[hG];exact grownCap_ge w _ _ _
 have hGm:G<=maxLen:=by rw[hG];exact grownCap_le_maxLen w _ _ _ (by unfold maxLen;omega)
 have hG63:G<=9223372036854775807:=by unfold maxLen at hGm;exact hGm
 have hRs:ROW.size=G*9:=by
  rw[hROW]
  simp only[Array.size_append,Builtin.zeroCells,Array.size_map,Array.size_range,Value.cells,List.size_toArray,List.length_nil,List.length_cons,Nat.reduceAdd,List.length_take]
  omega
 have hRt:ROW.toList.take (i*9)=xs.take (i*9):=by
  rw[hROW,Array.toList_append,Array.toList_append,List.append_assoc,List.take_append_of_le_length (by simp;omega)]
  simp only[List.take_take,Nat.min_self]
 obtain⟨W1,hW1⟩:∃W1,w.drew.alloc (.cells ROW 65)=W1:=⟨_,rfl⟩
 have hown1:W1.ownsRow base 65 9 (.slice (some ⟨w.heap.size,0,none⟩) (fs.length+1) G) (fs.length+1) (ROW.toList.take ((fs.length+1)*9)):=by
  refine⟨by rw[List.length_take];simp;omega,.inr ⟨w.heap.size,G,ROW,rfl,hb,?_,hGn,hGm,hRs,rfl⟩⟩
  rw[<-hW1]
  exact heap_alloc_new w.drew _
 have WQ:Grew w W1:=by rw[<-hW1];exact gw
 rw[hW1] at hrz
 have BV:=KP xs (ROW.toList.take ((fs.length+1)*9)) f.cells (i*9) 9 (by omega) rfl (by rw[List.take_take,Nat.min_eq_left (by omega)];exact hRt) (by rw[List.length_take];simp;omega)
 rw[<-hins,show i*9+9=(i+1)*9 by omega] at BV
 have hdl:(xs.drop (i*9)).length=(fs.length-i)*9:=by rw[List.length_drop,hxl];omega
 have hvw:=au hv
 have hcpA:Hid (∀W,Grew W1 W->∀ty dc,(Builtin.copy_ #[23,23] ty #[.slice (some ⟨w.heap.size,i*9,none⟩) (fs.length+1-i) dc,.slice (some ⟨vb,0,none⟩) 1 1]).run Tryz.prog W=.ok (goInt 1) (W.setCells w.heap.size (i*9) f.cells)):=hide (fun W hg ty dc =>
  yX (aI hown1 hg) (i*9) 1 f.cells rfl (by rw[fZ];omega) ⟨vb,0,none⟩ 1 1 (fs.length+1-i) (by simp only[Nat.min_def];split<;>omega)
   (fun j v hj=>by
    rw[Addr.add_lit,Nat.zero_add,ag (((WQ.trans hg).heap hvw).trans hv)]
    simpa using hj) h1f ty dc)
 have hcpB:Hid (∀W,Grew W1 W->∀n os ty dc sc,(Builtin.copy_ #[23,23] ty #[.slice (some ⟨w.heap.size,(i+1)*9,none⟩) (fs.length-i) dc,.slice (some ⟨g,i*9,none⟩) (fs.length-i) sc]).run Tryz.prog (Sort.grow (dr (W.setCells w.heap.size (i*9) f.cells) n) os)=.ok (goInt ((fs.length-i:Nat):Int)) ((Sort.grow (dr (W.setCells w.heap.size (i*9) f.cells) n) os).setCells w.heap.size ((i+1)*9) (xs.drop (i*9)))):=hide (fun W hg n os ty dc sc =>
  yX (aI (qm _ _ _ _ (aI hown1 hg)) (Grew.mk _ n os)) ((i+1)*9) (fs.length-i) (xs.drop (i*9)) hdl (by omega) ⟨g,i*9,none⟩ (fs.length-i) sc (fs.length-i) (by simp only[Nat.min_def];split<;>omega)
   (fun j v hj=>by
    have hgs:g<(W.setCells w.heap.size (i*9) f.cells).heap.size:=by
     have:=WQ.below.size
     have:=hg.below.size
     have:=(kR f.cells W (i*9) (iC W (some w.heap.size))).size
     omega
    rw[Addr.add_lit,bH _ _ _ _ _ hgs,World.cell?_setCells_out _ _ _ _ _ (fun h _=>by dsimp only at h;omega),(WQ.trans hg).below.cell (p:=⟨g,i*9+j,none⟩) hlg]
    rw[List.getElem?_drop] at hj
    exact hcell _ v hj) (fun v hv=>h1x v (List.mem_of_mem_drop hv)) ty dc)
 have MJ:=hide hown1
 have HP:=hide BV
 have JH:=hide WQ
 have hw1:IntKind.i64.wrap ((i:Int)+1)=(i:Int)+1:=by unfold IntKind.wrap;simp[IntKind.bits,IntKind.signed];omega
 have hw2:IntKind.i64.wrap ((fs.length:Int)+1)=(fs.length:Int)+1:=by unfold IntKind.wrap;simp[IntKind.bits,IntKind.signed];omega
 have hw3:IntKind.i64.wrap ((fs.length:Int)+1-(i:Int))=(fs.length:Int)+1-(i:Int):=by unfold IntKind.wrap;simp[IntKind.bits,IntKind.signed];omega
 have hz2:¬ ((i:Int)=(fs.length:Int)):=by omega
 have hb2:¬ (G=i+1):=by omega
 have hb3:¬ (G=i):=by omega
 have hb4:¬ (c=i):=by omega
 have hb5:(c:Int)<(fs.length:Int)+1:=by omega
 have hb6:(0:Int)<=(i:Int)+1:=by omega
 have hb7:i<=fs.length:=by omega
 have hb8:(i:Int)<=(fs.length:Int):=by omega
 have oU:((i:Int)+1).toNat=i+1:=by omega
 have agJ:(i:Int)<=(fs.length:Int)+1:=by omega
 have hr1:=hcpA.out W1 gw 3 (G-i)
 clear hown hown1 BV hins WZ h1x h1f hv hXS hxl hdl hold hcell hROW hRs hRt hGm hW1 hG WQ hkk hik hz0 hzs hzb
 go_enter Tryz.func29,Tryz.ntmps29
 go_wp2_with (at_builtin;refine Lib.wpList_append_run _ rfl _ _ _ _ rfl _ _ rfl rfl _ _ (hrz _) ?_)
 refine ay 8 [] [] hm (h:=?_)
 repeat (refine ax (fun K hK=>?_);go_simp;refine hK _ ?_;clear hK K)
 refine lU fun nq osq=>?_
 try simp only[Act.put,aG]
 try dsimp only
 have hr2:=hcpB.out W1 gw nq osq 3 (G-(i+1)) (c-i)
 go_wp2_with fail
 go_ret
 refine⟨_,rfl,?_,?_⟩
 ·rw[<-HP.out.2]
  exact qm _ _ _ _ (aI (qm _ _ _ _ MJ.out) (Grew.mk _ nq osq))
 ·have hb0:Below w.heap.size w W1:=JH.out.below
  have hg2:W1.grownBy (Sort.grow (dr (W1.setCells w.heap.size (i*9) f.cells) nq) osq) (some w.heap.size):=mZ (kR _ _ _ (iC _ _)) (Grew.mk _ nq osq)
  have hg3:=kR (xs.drop (i*9)) _ ((i+1)*9) hg2
  exact Grew.of_below (hb0.grown hg3 hb0.size fun q hq=>by injection hq with hq;omega)
theorem Wi (fs:List FV)(f:FV)(v:Value)(base vb i:Nat)(w:World)(hown:w.ownsRow base 65 9 v fs.length (fs.flatMap FV.cells))(hv:w.heap[vb]?=some (.cells f.cells.toArray 65 (0,0)))(hne:v.ownBlock≠some vb)(hi:i<=fs.length)(hb:base<=w.heap.size)(hl:fs.length<=1000) :
  Calls Tryz.prog 29 #[v,.int .i64 (i:Int),.slice (some ⟨vb,0,none⟩) 1 1] w fun e w'=>∃v',e=.returned v'/\w'.ownsRow base 65 9 v' (fs.length+1) ((insL fs i f).flatMap FV.cells)/\w.grownBy w' v.ownBlock/\(v'.ownBlock=v.ownBlock\/v'.ownBlock=some w.heap.size):=by
 rcases Nat.lt_or_ge i fs.length with h|h
 ·rcases hown.2 with⟨h',h0⟩|⟨g,c,cur,rfl,_⟩
  ·omega
  ·rcases Nat.lt_or_ge c (fs.length+1) with hc|hc
   ·refine (Ws fs f i g c base vb w hown hv h hc hb hl).mono ?_
    rintro e w' ⟨G,rfl,h1,h2⟩
    exact⟨_,rfl,h1,h2.grownBy _,.inr rfl⟩
   ·refine (Si fs f i g c base vb w hown hv (fun e=>hne (by rw[e];rfl)) h hc).mono ?_
    rintro e w' ⟨rfl,h1,h2⟩
    exact⟨_,rfl,h1,h2,.inl rfl⟩
 ·obtain rfl:i=fs.length:=by omega
  exact Y8 fs f v base vb w hown hv hb hl
def dH (fs:List FV)(ns:List So)(k:Nat):List FV:=(ns.take k).foldl (fun out x=>insL out (posOf out x.id) (Ae x)) fs
theorem pz {fs:List FV}{ns:List So}{k:Nat}(h:k<ns.length):dH fs ns (k+1)=insL (dH fs ns k) (posOf (dH fs ns k) (gI ns k).id) (Ae (gI ns k)):=by
 unfold dH
 rw[List.take_add_one,l7 h,List.foldl_append]
 rfl
def uo (ss:List So)(fs:List FV):List FV×Int:=if oV ss fs=true then (dH fs (jC ss) (jC ss).length,0) else ([],1)
theorem Vh (fs:List FV)(n:Int):posOf fs n<=fs.length:=List.length_filter_le _ _
theorem P6 {fs:List FV}{i:Nat}{f g:FV}:g∈insL fs i f↔g∈fs\/g=f:=by
 unfold insL
 rw[List.mem_append,List.mem_cons]
 constructor
 ·rintro (h|h|h)
  ·exact .inl (List.mem_of_mem_take h)
  ·exact .inr h
  ·exact .inl (List.mem_of_mem_drop h)
 ·rintro (h|h)
  ·rw[<-List.take_append_drop i fs,List.mem_append] at h
   rcases h with h|h
   ·exact .inl h
   ·exact .inr (.inr h)
  ·exact .inr (.inl h)
theorem Wj {fs:List FV}{f:FV}(h:CS fs)(hn:∀g∈fs,g.id≠f.id):CS (insL fs (posOf fs f.id) f):=by
 induction fs with
 | nil=>exact List.pairwise_singleton _ _
 | cons a l ih =>
  have hl:=(List.pairwise_cons.1 h)
  by_cases ha:a.id<f.id
  ·have e:posOf (a::l) f.id=posOf l f.id+1:=by
    unfold posOf
    rw[List.filter_cons_of_pos (by simpa using ha)]
    rfl
   rw[e]
   show CS (a::insL l (posOf l f.id) f)
   refine List.pairwise_cons.2 ⟨fun g hg=>?_,ih hl.2 fun g hg=>hn g (List.mem_cons_of_mem _ hg)⟩
   rcases P6.1 hg with h|rfl
   ·exact hl.1 g h
   ·exact ha
  ·have hlt:f.id<a.id:=by have:=hn a (List.mem_cons_self ..);omega
   have e:posOf (a::l) f.id=0:=by
    unfold posOf
    rw[List.filter_eq_nil_iff.2]
    ·rfl
    ·intro g hg
     have:f.id<g.id:=by
      rcases List.mem_cons.1 hg with rfl|hg
      ·exact hlt
      ·have:=hl.1 g hg;omega
     simp
     omega
   rw[e]
   show CS (f::a::l)
   refine List.pairwise_cons.2 ⟨fun g hg=>?_,h⟩
   rcases List.mem_cons.1 hg with rfl|hg
   ·exact hlt
   ·have:=hl.1 g hg;omega
theorem qW {fs:List FV}{ns:List So}:∀ {k:Nat},k<=ns.length->∀ {g:FV},g∈dH fs ns k↔g∈fs\/∃j,j<k/\g=Ae (gI ns j)
 | 0,_,g=>by simp[dH]
 | k+1,hk,g=>by
  rw[pz (by omega),P6,qW (by omega)]
  constructor
  ·rintro ((h|⟨j,hj,h⟩)|h)
   ·exact .inl h
   ·exact .inr ⟨j,by omega,h⟩
   ·exact .inr ⟨k,by omega,h⟩
  ·rintro (h|⟨j,hj,h⟩)
   ·exact .inl (.inl h)
   ·by_cases e:j=k
    ·subst e;exact .inr h
    ·exact .inl (.inr ⟨j,by omega,h⟩)
def Apart (fs:List FV)(ns:List So):Prop:=(ns.Pairwise fun x y=>x.id<y.id)/\∀x∈ns,ry fs x.id=false
theorem XK {fs:List FV}{ns:List So}(h:Apart fs ns){i j:Nat}(hij:i<j)(hj:j<ns.length):(gI ns i).id<(gI ns j).id:=by
 have h1:=l7 (ss:=ns) (k:=i) (by omega)
 have h2:=l7 hj
 have h3:=List.getElem?_eq_some_iff.1 h1
 have h4:=List.getElem?_eq_some_iff.1 h2
 have:=List.pairwise_iff_getElem.1 h.1 i j (by omega) hj hij
 rw[h3.2,h4.2] at this
 exact this
theorem um {fs:List FV}{ns:List So}(hf:CS fs)(h:Apart fs ns):∀ {k:Nat},k<=ns.length->CS (dH fs ns k)
 | 0,_=>by simpa[dH] using hf
 | k+1,hk=>by
  rw[pz (by omega)]
  refine Wj (f:=Ae (gI ns k)) (um hf h (by omega)) fun g hg=>?_
  rcases (qW (by omega)).1 hg with hg|⟨j,hj,rfl⟩
  ·intro e
   have h1:=h.2 _ (Ie (ss:=ns) (k:=k) (by omega))
   unfold ry at h1
   rw[List.any_eq_false] at h1
   exact h1 g hg (by have e2:g.id=(gI ns k).id:=e;simpa using e2)
  ·have:=XK h hj (show k<ns.length by omega)
   show (gI ns j).id≠(gI ns k).id
   omega
theorem vU {fs:List FV}{ns:List So}:∀ {k:Nat},k<=ns.length->(dH fs ns k).length=fs.length+k
 | 0,_=>by simp[dH]
 | k+1,hk=>by rw[pz (by omega),Wu (Vh _ _),vU (by omega)];omega
theorem yc {ss:List So}{fs:List FV}(h:oV ss fs=true):bQ fs=true/\ss.length+fs.length<=300/\Apart fs ss/\∀x∈ss,Nl x=true:=by
 unfold oV at h
 simp only[Bool.and_eq_true,decide_eq_true_eq] at h
 obtain⟨h1,h2,h3⟩:=h
 have hs:∀k,k<ss.length->ry fs (gI ss k).id=false/\Nl (gI ss k)=true/\Eu ss k<(gI ss k).id:=fun k hk=>by
  have:=List.all_eq_true.1 h3 k (List.mem_range.2 hk)
  unfold stepS at this
  simpa using this
 have hm:∀x∈ss,∃k,k<ss.length/\gI ss k=x:=fun x hx=>by
  obtain⟨k,hk⟩:=List.getElem?_of_mem hx
  have hl:=(List.getElem?_eq_some_iff.1 hk).1
  rw[l7 hl] at hk
  injection hk with hk
  exact⟨k,hl,hk⟩
 have hmono:∀j i,i<j->j<ss.length->(gI ss i).id<(gI ss j).id:=by
  intro j
  induction j with
  | zero=>intro i hi;omega
  | succ j ih =>
   intro i hi hj
   have:=(hs (j+1) hj).2.2
   unfold Eu at this
   rw[if_neg (by omega),Nat.add_sub_cancel] at this
   by_cases e:i=j
   ·rw[e];exact this
   ·have:=ih i (by omega) (by omega)
    omega
 refine⟨h1,h2,⟨?_,?_⟩,?_⟩
 ·refine List.pairwise_iff_getElem.2 fun i j hi hj hij=>?_
  have a:=hmono j i hij hj
  have e1:=(List.getElem?_eq_some_iff.1 (l7 hi)).2
  have e2:=(List.getElem?_eq_some_iff.1 (l7 hj)).2
  rw[e1,e2]
  exact a
 ·intro x hx
  obtain⟨k,hk,rfl⟩:=hm x hx
  exact (hs k hk).1
 ·intro x hx
  obtain⟨k,hk,rfl⟩:=hm x hx
  exact (hs k hk).2.1
theorem Gw {ss:List So}{fs:List FV}(h:Apart fs ss):Apart fs (jC ss) :=
 ⟨h.1.sublist List.filter_sublist,fun x hx=>h.2 x (List.mem_filter.1 hx).1⟩
theorem IB (ss:List So):(jC ss).length<=ss.length:=List.length_filter_le _ _
theorem Gy {ss:List So}{fs:List FV}{g:FV}:g∈dH fs (jC ss) (jC ss).length↔g∈fs\/∃x∈jC ss,g=Ae x:=by
 rw[qW (Nat.le_refl _)]
 constructor
 ·rintro (h|⟨j,hj,h⟩)
  ·exact .inl h
  ·exact .inr ⟨_,Ie hj,h⟩
 ·rintro (h|⟨x,hx,h⟩)
  ·exact .inl h
  ·obtain⟨k,hk⟩:=List.getElem?_of_mem hx
   have hl:=(List.getElem?_eq_some_iff.1 hk).1
   rw[l7 hl] at hk
   injection hk with hk
   exact .inr ⟨k,hl,by rw[hk];exact h⟩
theorem Ef {ss:List So}{fs:List FV}(h:oV ss fs=true):bQ (dH fs (jC ss) (jC ss).length)=true:=by
 obtain⟨h1,h2,h3,h4⟩:=yc h
 refine zl.2 ⟨um (CZ h1) (Gw h3) (Nat.le_refl _),fun g hg=>?_,?_⟩
 ·rcases Gy.1 hg with hg|⟨x,hx,rfl⟩
  ·exact (zl.1 h1).2.1 g hg
  ·have:=h4 x (List.mem_filter.1 hx).1
   unfold Nl at this
   rw[Bool.and_eq_true] at this
   exact this.1
 ·rw[vU (Nat.le_refl _)]
  have:=IB ss
  omega
set_option maxHeartbeats 8000000
set_option maxRecDepth 100000
theorem ny {P:Program}{f:FuncId}{args:Array Value}{w:World}{R:Ending->World->Prop}(h:∀W0,w=W0->Calls P f args W0 R):Calls P f args w R:=h _ rfl
theorem ownRd {w:World}{base n c:Nat}{A:Option Addr}{fs:List FV}(h:w.ownsRow base 65 9 (.slice A n c) n (fs.flatMap FV.cells))(hn:n=fs.length):Rd w w.heap.size 9 A (fs.map FV.cells):=by
 obtain⟨B3,c3,hv3,_,xM⟩:=Rd.iE fZ h hn
 simp only[Value.slice.injEq] at hv3
 obtain⟨rfl,_,rfl⟩:=hv3
 exact xM
def MdR (w:World)(r:List FV×Int)(e:Ending)(w':World):Prop:=∃A c,e=.returned (.tuple #[.slice A r.1.length c,.int .i64 r.2])/\nI w' w'.heap.size A r.1/\Grew w w'
theorem JB (ss:List So)(fs:List FV)(A A':Option Addr)(c c':Nat)(w:World)(hrs:Rd w w.heap.size 7 A (ss.map So.cells))(hr:nI w w.heap.size A' fs)(hc:ss.length<=100000000000000)(hc':fs.length<=100000000000000) :
  Calls Tryz.prog 7 #[svV A ss.length c A' fs.length c'] w (MdR w (uo ss fs)):=by
 have hm:=aP
 obtain⟨u,hu⟩:∃u,oV ss fs=u:=⟨_,rfl⟩
 have k1:=hide (fun W (hg:Grew w W)=>MB ss fs A A' c c' u W (hrs.up hg) (hr.up hg) hc hc' hu)
 unfold uo
 rw[hu]
 have HS:=hide hrs
 have HR:=hide hr
 clear hrs hr
 cases u
 ·clear hu
  go_enter Tryz.func7,Tryz.ntmps7
  go_wp2_with (go_at_call 24;with_reducible refine aQ (k1.out _ gw) fun _ _=>?_;dsimp only)
  go_ret2
  exact⟨none,0,rfl,nI.nil _ _ _,gw⟩
 ·rw[if_pos rfl]
  obtain⟨f1,f2,f3,f4⟩:=yc hu
  have hn1:=IB ss
  have hap:=Gw f3
  have hml:=@vU fs (jC ss)
  have hri:=hide (fun k (hk:k<=(jC ss).length)=>um (CZ f1) hap hk)
  have hmem:=hide (fun k (hk:k<=(jC ss).length) g=>(qW (fs:=fs) hk (g:=g)).1)
  have aee:=hide (fun k (hk:k<(jC ss).length)=>pz (fs:=fs) hk)
  have k2:=hide (fun W (hg:Grew w W)=>jB fs A' c' W ((HR.out.up hg).row) (by omega))
  have k3:=hide (fun W (hg:Grew w W)=>G8 ss fs A A' c c' W (HS.out.up hg) (by omega))
  have HML:=hide (fun k (hk:k<=(jC ss).length)=>hml hk)
  generalize hns:jC ss=ns at *
  have hnl:ns.length<=300:=by omega
  have hfl:fs.length<=300:=by omega
  clear hu f1 f2 f3 f4 hn1 hap hml hns
  go_enter Tryz.func7,Tryz.ntmps7
  go_wp2_with (go_at_call 24;with_reducible refine aQ (k1.out _ gw) fun _ _=>?_;dsimp only)
  refine ny ?_
  intro W0 hW
  have hg0:Grew w W0:=by rw[<-hW];exact gw
  have hbp:W0.heap[w.heap.size]?=some (.cells #[.slice A ss.length c,.slice A' fs.length c'] 25 (0,0)):=by
   rw[<-hW]
   exact (Grew.heap (w:=w.alloc (.cells #[.slice A ss.length c,.slice A' fs.length c'] 25)) gw (by simp)).trans (heap_alloc_new _ _)
  have lN:=hide hg0
  have MS:=hide hbp
  clear hW hg0 hbp k1
  refine (k2.out _ lN.out).mono ?_
  rintro e W1 ⟨v1,rfl,hown,hg1⟩
  obtain⟨B1,c1,rfl,hcl⟩:=kS hown
  have bp1:=(hg1.heap (au MS.out)).trans MS.out
  have e0:=ag bp1 0
  have e1:=ag bp1 1
  have lp1:=au bp1
  have HO:=hide hown
  have jE:=hide hg1
  clear hown hg1 bp1 k2
  dsimp only
  go_wp2_with fail
  refine (k3.out _ ((lN.out.trans jE.out).trans gw)).mono ?_
  rintro e W2 ⟨v2,rfl,hown2,hg2⟩
  obtain⟨B2,c2,rfl,WV⟩:=kS hown2
  have HL:=hide hown2
  have HG2:=hide hg2
  clear hown2 hg2 e0 e1 lp1 k3
  dsimp only
  go_wp2_with fail
  go_loopw [4,18] (fun o i wr=>∃ (k:Nat) (B:Option Addr) (cc:Nat),k<=ns.length/\i=.int .i64 k/\o=.slice B (dH fs ns k).length cc/\Hid (wr.ownsRow W0.heap.size 65 9 (.slice B (dH fs ns k).length cc) (dH fs ns k).length ((dH fs ns k).flatMap FV.cells))/\Hid (wr.ownsRow W1.heap.size 61 7 (.slice B2 ns.length c2) ns.length (ns.flatMap So.cells))/\Hid (Below W0.heap.size W0 wr/\((Value.slice B (dH fs ns k).length cc).ownBlock=none\/(Value.slice B (dH fs ns k).length cc).ownBlock≠(Value.slice B2 ns.length c2).ownBlock)/\W2.heap.size<=wr.heap.size)) (fun _ i _=>ns.length-(intOf i).toNat)
  case atStart =>
   refine⟨0,B1,c1,by omega,rfl,rfl,hide (aI HO.out (HG2.out.trans gw)),hide (aI HL.out gw),hide ⟨(jE.out.trans (HG2.out.trans gw)).below,?_,(Grew.below gw).size⟩⟩
   rcases HO.out.2 with⟨h',_⟩|⟨g,_,_,h',_,hgg,_⟩
   ·exact .inl (by rw[show dH fs ns 0=fs from rfl,h'];rfl)
   ·refine .inr fun e=>?_
    rw[show dH fs ns 0=fs from rfl,h'] at e
    have h1:=HL.out.lt g e.symm
    have h2:=au hgg
    omega
  case round =>
   obtain⟨k,B,cc,hk,rfl,rfl,hO,hL,hX⟩:=hrel
   by_cases hlt:k<ns.length
   ·obtain⟨gl,hgl⟩:∃gl,B2=some ⟨gl,0,none⟩:=by
     rcases hL.out.2 with⟨h',h0⟩|⟨g,_,_,h',_⟩
     ·omega
     ·simp only[Value.slice.injEq] at h'
      exact⟨g,h'.1⟩
    subst hgl
    obtain⟨⟨x0,x1,x2,x3,x4,x5,x6⟩,_⟩:=Iu hL.out rfl hlt
    have hix:=aO (cap:=c2) (k:=k) (len:=ns.length) Tryz.underlying22 Tryz.sizeOf61 (A:=some ⟨gl,0,none⟩) rfl hlt
    rw[Nat.zero_add] at hix
    have lgl:=(hL.out.lt gl rfl).2
    have hlen:=HML.out k hk
    have hlen1:=HML.out (k+1) (by omega)
    have hs1:=aee.out k hlt
    have hrk:=hri.out k hk
    have hbig:=hX.out.2.2
    have hsz0:=hX.out.1.size
    have hblk:∀q,(Value.slice B (dH fs ns k).length cc).ownBlock=some q->q<wr.heap.size:=fun q hq=>(hO.out.lt q hq).2
    have k4:=hide (fun W (hg:Grew wr W)=>Xg (dH fs ns k) (gI ns k).id B cc W (ownRd (aI hO.out hg) rfl) (by omega) hrk)
    have k5:=hide (fun W=>sH (gI ns k) W)
    have k6:=hide (fun W vb (hg:Grew wr W) (hv:W.heap[vb]?=some (.cells (Ae (gI ns k)).cells.toArray 65 (0,0))) (hvb:wr.heap.size<=vb)=>Wi (dH fs ns k) (Ae (gI ns k)) (.slice B (dH fs ns k).length cc) W0.heap.size vb (posOf (dH fs ns k) (gI ns k).id) W (aI hO.out hg) hv (fun e=>by have:=hblk _ e;omega) (Vh _ _) (Nat.le_trans hsz0 hg.below.size) (by omega))
    rw[<-hs1] at k6
    have hln:(dH fs ns k).length+1=(dH fs ns (k+1)).length:=by omega
    rw[hln] at k6
    have HLN:=hide hln
    have ah3:Hid ((dH fs ns k).length+1=(dH fs ns (k+1)).length):=HLN
    generalize hM1:dH fs ns (k+1)=M1 at *
    have HM1:=hide hM1
    clear hM1
    generalize dH fs ns k=M at *
    generalize ry M (gI ns k).id=hb at *
    generalize posOf M (gI ns k).id=pp at *
    rw[tX] at k5
    generalize gI ns k=x at *
    obtain⟨y0,y1,y2,y3,y4,y5,y6⟩:=x
    dsimp only at *
    clear hlen hlen1 hs1 hrk hln hri hmem aee HML hblk
    go_wp2_with (first|(go_at_call 27;with_reducible refine aQ (k4.out _ gw) fun _ _=>?_;dsimp only)|(go_at_call 30;with_reducible refine aQ (k5.out _) fun _ _=>?_;dsimp only))
    have MJ:=hide hO.out
    clear k4 k5
    refine ny ?_
    intro Wp hWp
    have aeR:Grew wr Wp:=by rw[<-hWp];exact gw
    have GWP:=hide aeR
    clear aeR
    refine (k6.out Wp _ GWP.out ?_ ?_).mono ?_
    ·rw[<-hWp]
     exact az _ _ _ (by simp[bU];try omega)
    ·omega
    clear hWp
    rintro e w3 ⟨v3,rfl,hown3,yA,aeq⟩
    obtain⟨B3,c3,rfl,ajE⟩:=kS hown3
    have H3:=hide hown3
    have G3:=hide yA
    have OB3:=hide aeq
    clear hown3 yA aeq k6 x0 x1 x2 x3 x4 x5 x6
    dsimp only
    go_wp2_with fail
    go_roundw
    case rel =>
     have gwp:=GWP.out
     have gsz:=gwp.below.size
     have b1:=hX.out.1.trans (gwp.below.mono hX.out.1.size)
     have b2:=b1.grown G3.out b1.size (fun q hq=>(MJ.out.lt q hq).1)
     have h3z:=G3.out.size
     refine⟨k+1,B3,c3,by omega,by go_num,by rw[HM1.out],by rw[HM1.out];exact H3,hide ((aI hL.out gwp).kept G3.out (.inr ?_)),hide ⟨b2,?_,by omega⟩⟩
     ·rcases hX.out.2.1 with h|h
      ·rw[h];simp[Value.ownBlock]
      ·exact fun e=>h e.symm
     ·rw[HM1.out]
      rcases OB3.out with h|h
      ·rw[h];exact hX.out.2.1
      ·refine .inr ?_
       rw[h]
       intro e
       have e2:=Option.some.inj e
       dsimp only at e2
       omega
    case measure=>simp[intOf];omega
   ·obtain rfl:k=ns.length:=by omega
    have xM:=ownRd hO.out rfl
    have hgr:=lN.out.trans (Grew.of_below hX.out.1)
    have JH:=hide hgr
    have FZ:=hide xM
    clear hgr xM
    go_wp2_with fail
    go_ret2
    refine⟨B,cc,rfl,⟨FZ.out,fun g hg=>?_⟩,JH.out⟩
    rcases hmem.out _ (Nat.le_refl _) g hg with hg|⟨j,hj,rfl⟩
    ·exact (HR.out.up JH.out).each g hg
    ·exact DT _ _ _
set_option maxHeartbeats 16000000
set_option maxRecDepth 100000
theorem YP {w:World}{base:Nat}{v:Value}{ns:List So}{k:Nat}(h:w.ownsRow base 61 7 v ns.length (ns.flatMap So.cells))(hk:k<ns.length):∃g c,v=.slice (some ⟨g,0,none⟩) ns.length c/\g<w.heap.size/\base<=g/\SAt w g (k*7) (gI ns k):=by
 rcases h.2 with⟨h',h0⟩|⟨g,c,cur,rfl,hb,_⟩
 ·omega
 ·exact⟨g,c,rfl,(h.lt g rfl).2,hb,(Iu h rfl hk).1⟩
def okS (p:Pt)(d:Int)(x:So):Bool := !((lW (Ae x) p).1&&(decide (d<x.lo)||decide (x.hi<d)))
def IA (p:Pt)(d:Int)(f:FV):Bool := !((lW f p).1&&decide (d<f.dep))
def qG (ss:List So)(fs:List FV)(p:Pt)(d:Int):Bool×Int:=if (oV ss fs&&p.ok)=true then (decide (0<=d/\d<=100000)&&((jC ss).all (okS p d)&&fs.all (IA p d)),0) else (false,1)
theorem XO {α:Type}{q:α->Bool}{l:List α}{x:α}(h:x∈l)(hx:q x=false):l.all q=false:=by
 rw[List.all_eq_false]
 exact⟨x,h,by rw[hx];simp⟩
theorem TN {q:So->Bool}{l:List So}{k:Nat}(hk:k<l.length)(h:(l.take k).all q=true):(l.take (k+1)).all q=q (gI l k):=by
 rw[List.take_add_one,l7 hk,List.all_append,h]
 simp
theorem TP {q:FV->Bool}{l:List FV}{k:Nat}(hk:k<l.length)(h:(l.take k).all q=true):(l.take (k+1)).all q=q (bF l k):=by
 rw[List.take_add_one,dI hk,List.all_append,h]
 simp
theorem Yf (ss:List So)(fs:List FV)(A A':Option Addr)(c c':Nat)(p:Pt)(d:Int)(r:Bool×Int)(w:World)(hrs:Rd w w.heap.size 7 A (ss.map So.cells))(hr:nI w w.heap.size A' fs)(hc:ss.length<=100000000000000)(hc':fs.length<=100000000000000)(h:qG ss fs p d=r) :
  Calls Tryz.prog 16 #[svV A ss.length c A' fs.length c',pt p.1 p.2,.int .i64 d] w (aC w (.tuple #[.bool r.1,.int .i64 r.2])):=by
 have hm:=aP
 obtain⟨u,hu⟩:∃u,oV ss fs=u:=⟨_,rfl⟩
 obtain⟨v,hv⟩:∃u,p.ok=u:=⟨_,rfl⟩
 have k1:=hide (fun W (hg:Grew w W)=>MB ss fs A A' c c' u W (hrs.up hg) (hr.up hg) hc hc' hu)
 have k2:=hide (fun W=>dP p.1 p.2 v W hv)
 unfold qG at h
 rw[hu,hv] at h
 have HS:=hide hrs
 have HR:=hide hr
 clear hrs hr hv
 have hcase:u=false\/(u=true/\v=false)\/(u=true/\v=true):=by cases u<;>cases v<;>simp
 rcases hcase with rfl|⟨rfl,rfl⟩|⟨rfl,rfl⟩
 ·rw[if_neg (by simp)] at h
  subst h
  clear hu
  obtain⟨p1,p2⟩:=p
  dsimp only at *
  go_enter Tryz.func16,Tryz.ntmps16
  go_wp2_with (first|(go_at_call 24;with_reducible refine aQ (k1.out _ gw) fun _ _=>?_;dsimp only)|(go_at_call 49;with_reducible refine aQ (k2.out _) fun _ _=>?_;dsimp only))
  go_ret2
  exact aC.mk' rfl gw
 ·rw[if_neg (by simp)] at h
  subst h
  clear hu
  obtain⟨p1,p2⟩:=p
  dsimp only at *
  go_enter Tryz.func16,Tryz.ntmps16
  go_wp2_with (first|(go_at_call 24;with_reducible refine aQ (k1.out _ gw) fun _ _=>?_;dsimp only)|(go_at_call 49;with_reducible refine aQ (k2.out _) fun _ _=>?_;dsimp only))
  go_ret2
  exact aC.mk' rfl gw
 ·rw[if_pos (by rfl)] at h
  subst h
  obtain⟨f1,f2,f3,f4⟩:=yc hu
  have hn1:=IB ss
  have k3:=hide (fun W (hg:Grew w W)=>G8 ss fs A A' c c' W (HS.out.up hg) (by omega))
  generalize jC ss=ns at *
  have hnl:ns.length<=300:=by omega
  have hfl:fs.length<=300:=by omega
  clear hu f1 f2 f3 f4 hn1
  have hd:d<0\/(¬ d<0/\100000<d)\/(¬ d<0/\¬ 100000<d):=by omega
  rcases hd with hd|⟨hd,hd2⟩|⟨hd,hd2⟩
  ·rw[decide_eq_false (by omega),Bool.false_and]
   obtain⟨p1,p2⟩:=p
   dsimp only at *
   go_enter Tryz.func16,Tryz.ntmps16
   go_wp2_with (first|(go_at_call 24;with_reducible refine aQ (k1.out _ gw) fun _ _=>?_;dsimp only)|(go_at_call 49;with_reducible refine aQ (k2.out _) fun _ _=>?_;dsimp only))
   go_ret2
   exact aC.mk' rfl gw
  ·rw[decide_eq_false (by omega),Bool.false_and]
   obtain⟨p1,p2⟩:=p
   dsimp only at *
   go_enter Tryz.func16,Tryz.ntmps16
   go_wp2_with (first|(go_at_call 24;with_reducible refine aQ (k1.out _ gw) fun _ _=>?_;dsimp only)|(go_at_call 49;with_reducible refine aQ (k2.out _) fun _ _=>?_;dsimp only))
   go_ret2
   exact aC.mk' rfl gw
  ·rw[decide_eq_true (by omega),Bool.true_and]
   obtain⟨res,hres⟩:∃r,(ns.all (okS p d)&&fs.all (IA p d))=r:=⟨_,rfl⟩
   rw[hres]
   have rW:=hide hres
   clear hres
   obtain⟨p1,p2⟩:=p
   dsimp only at *
   go_enter Tryz.func16,Tryz.ntmps16
   go_wp2_with (first|(go_at_call 24;with_reducible refine aQ (k1.out _ gw) fun _ _=>?_;dsimp only)|(go_at_call 49;with_reducible refine aQ (k2.out _) fun _ _=>?_;dsimp only))
   refine ny ?_
   intro W1 hW
   have hg1:Grew w W1:=by rw[<-hW];exact gw
   have hb0:Grew ((w.alloc (.cells #[.slice A ss.length c,.slice A' fs.length c'] 25)).alloc (.cells #[.int .i64 p1,.int .i64 p2] 28)) W1:=by rw[<-hW];exact gw
   have hbs:W1.heap[w.heap.size]?=some (.cells #[.slice A ss.length c,.slice A' fs.length c'] 25 (0,0)):=(hb0.heap (by simp;omega)).trans ((heap_alloc_old _ _ (by simp)).trans (heap_alloc_new _ _))
   have hbp:W1.heap[w.heap.size+1]?=some (.cells #[.int .i64 p1,.int .i64 p2] 28 (0,0)):=(hb0.heap (by simp)).trans (az _ _ _ (by simp))
   have jE:=hide hg1
   have HBS:=hide hbs
   have MS:=hide hbp
   clear hW hg1 hb0 hbs hbp k1 k2
   refine (k3.out _ jE.out).mono ?_
   rintro e W2 ⟨v2,rfl,hown2,hg2⟩
   obtain⟨B2,c2,rfl,WV⟩:=kS hown2
   have HL:=hide hown2
   have HG2:=hide hg2
   clear hown2 hg2 k3
   dsimp only
   go_wp2_with fail
   go_loopw [33] (fun i wr=>∃ (k:Nat),k<=ns.length/\i=.int .i64 k/\Hid (Grew W2 wr)/\Hid ((ns.take k).all (okS (p1,p2) d)=true)) (fun i _=>ns.length-(intOf i).toNat)
   case atStart=>exact⟨0,by omega,rfl,hide gw,hide rfl⟩
   case round =>
    obtain⟨k,hk,rfl,hG,hA⟩:=hrel
    have hG1:=hide (HG2.out.trans hG.out)
    have bp:=(hG1.out.heap (au MS.out)).trans MS.out
    have e0:=ag bp 0
    have e1:=ag bp 1
    have lp:=au bp
    have lp2:w.heap.size<wr.heap.size:=by omega
    clear bp
    by_cases hlt:k<ns.length
    ·obtain⟨gl,cl,hgl,aja,_,x0,x1,x2,x3,x4,x5,x6⟩:=YP (aI HL.out hG.out) hlt
     simp only[Value.slice.injEq] at hgl
     obtain⟨rfl,_,rfl⟩:=hgl
     have hix:=aO (cap:=c2) (k:=k) (len:=ns.length) Tryz.underlying22 Tryz.sizeOf61 (A:=some ⟨gl,0,none⟩) rfl hlt
     rw[Nat.zero_add] at hix
     have hs1:=TN (q:=okS (p1,p2) d) hlt hA.out
     have hmm:=Ie hlt
     obtain⟨o,ho⟩:∃o,lW (Ae (gI ns k)) (p1,p2)=o:=⟨_,rfl⟩
     have hok:okS (p1,p2) d (gI ns k) = !(o.1&&(decide (d<(gI ns k).lo)||decide ((gI ns k).hi<d))):=by unfold okS;rw[ho]
     have k4:=hide (fun W=>sH (gI ns k) W)
     have k5:=hide (fun W=>Fp (Ae (gI ns k)) (p1,p2) o W (DT _ _ _) ho)
     have MK:Hid (okS (p1,p2) d (gI ns k)=false->res=false):=hide fun e=>by rw[<-rW.out,XO hmm e];rfl
     rw[hok] at hs1 MK
     have TY:=hide hs1
     clear ho hok hs1 hmm
     rw[tX] at k4 k5
     generalize gI ns k=x at *
     obtain⟨y0,y1,y2,y3,y4,y5,y6⟩:=x
     obtain⟨o1,o2⟩:=o
     dsimp only at *
     have hcase:o1=false\/(o1=true/\d<y4)\/(o1=true/\¬ d<y4/\y5<d)\/(o1=true/\¬ d<y4/\¬ y5<d):=by cases o1<;>simp;omega
     rcases hcase with rfl|⟨rfl,h1⟩|⟨rfl,h1,h2⟩|⟨rfl,h1,h2⟩
     ·go_wp2_with fail
      refine ay 9 [] [] hm (h:=?_)
      repeat (refine ax (fun K hK=>?_);go_simp;first|(refine hK _ ?_;clear hK K)|(apply Exists.intro;refine⟨fun _=>?_,hK _ ?_⟩;(first|(go_at_call 30;with_reducible exact k4.out _)|(go_at_call 51;with_reducible exact k5.out _));clear hK K))
      refine lU fun nq osq=>?_
      try simp only[Act.put,aG]
      try dsimp only
      go_wp2_with fail
      go_roundw
      case rel=>exact⟨k+1,by omega,by go_num,hide (hG.out.trans gw),hide (by rw[TY.out];rfl)⟩
      case measure=>simp[intOf];omega
     ·have e2:=MK.out (by simp[h1])
      subst e2
      go_wp2_with fail
      refine ay 9 [] [] hm (h:=?_)
      repeat (refine ax (fun K hK=>?_);go_simp;first|(refine hK _ ?_;clear hK K)|(apply Exists.intro;refine⟨fun _=>?_,hK _ ?_⟩;(first|(go_at_call 30;with_reducible exact k4.out _)|(go_at_call 51;with_reducible exact k5.out _));clear hK K))
      refine lU fun nq osq=>?_
      try simp only[Act.put,aG]
      try dsimp only
      go_wp2_with fail
      go_ret2
      exact aC.mk' rfl ((jE.out.trans hG1.out).trans gw)
     ·have e2:=MK.out (by simp[h2])
      subst e2
      go_wp2_with fail
      refine ay 9 [] [] hm (h:=?_)
      repeat (refine ax (fun K hK=>?_);go_simp;first|(refine hK _ ?_;clear hK K)|(apply Exists.intro;refine⟨fun _=>?_,hK _ ?_⟩;(first|(go_at_call 30;with_reducible exact k4.out _)|(go_at_call 51;with_reducible exact k5.out _));clear hK K))
      refine lU fun nq osq=>?_
      try simp only[Act.put,aG]
      try dsimp only
      go_wp2_with fail
      go_ret2
      exact aC.mk' rfl ((jE.out.trans hG1.out).trans gw)
     ·go_wp2_with fail
      refine ay 9 [] [] hm (h:=?_)
      repeat (refine ax (fun K hK=>?_);go_simp;first|(refine hK _ ?_;clear hK K)|(apply Exists.intro;refine⟨fun _=>?_,hK _ ?_⟩;(first|(go_at_call 30;with_reducible exact k4.out _)|(go_at_call 51;with_reducible exact k5.out _));clear hK K))
      refine lU fun nq osq=>?_
      try simp only[Act.put,aG]
      try dsimp only
      go_wp2_with fail
      go_roundw
      case rel=>exact⟨k+1,by omega,by go_num,hide (hG.out.trans gw),hide (by rw[TY.out];simp;omega)⟩
      case measure=>simp[intOf];omega
    ·obtain rfl:k=ns.length:=by omega
     rw[List.take_length] at hA
     have HR2:Hid (fs.all (IA (p1,p2) d)=res):=hide (by rw[<-rW.out,hA.out];rfl)
     have bs:=(hG1.out.heap (au HBS.out)).trans HBS.out
     have s0:=ag bs 0
     have s1:=ag bs 1
     have ls:=au bs
     clear bs
     go_wp2_with fail
     refine fC ?_
     intro W4 hW
     have hg4:Grew wr W4:=by rw[<-hW];exact gw
     have qK:=hide ((jE.out.trans hG1.out).trans hg4)
     have X5:=hide ((hg4.heap (au ((hG1.out.heap (au MS.out)).trans MS.out))).trans ((hG1.out.heap (au MS.out)).trans MS.out))
     clear hW hg4 e0 e1 lp s0 s1 ls hG hG1 hA rW
     clear jE HG2 HL HBS MS
     go_loopw [63] (fun i wz=>∃ (k:Nat),k<=fs.length/\i=.int .i64 k/\Hid (Grew W4 wz)/\Hid ((fs.take k).all (IA (p1,p2) d)=true)) (fun i _=>fs.length-(intOf i).toNat)
     case atStart=>exact⟨0,by omega,rfl,hide (Grew.refl _),hide rfl⟩
     case round =>
      obtain⟨k,hk,rfl,hG,hA⟩:=hrel
      have bp:=(hG.out.heap (au X5.out)).trans X5.out
      have e0:=ag bp 0
      have e1:=ag bp 1
      have lp:=au bp
      have lp2:w.heap.size<wr.heap.size:=by omega
      clear bp
      by_cases hlt:k<fs.length
      ·obtain⟨b,off,hA',hb,fc⟩:=yD (HR.out.up (qK.out.trans hG.out)) hlt
       have hfr:=(HR.out.up (qK.out.trans hG.out)).each _ (dQ hlt)
       have hix:=aO (cap:=c') Tryz.underlying23 Tryz.sizeOf65 hA'.out hlt
       have hs1:=TP (q:=IA (p1,p2) d) hlt hA.out
       have hmm:=dQ hlt
       obtain⟨o,ho⟩:∃o,lW (bF fs k) (p1,p2)=o:=⟨_,rfl⟩
       have hok:IA (p1,p2) d (bF fs k) = !(o.1&&decide (d<(bF fs k).dep)):=by unfold IA;rw[ho]
       have k5:=hide (fun W (hg:Grew wr W)=>Fp (bF fs k) (p1,p2) o W (hfr.up hg) ho)
       have MK:Hid (IA (p1,p2) d (bF fs k)=false->res=false):=hide fun e=>by rw[<-HR2.out,XO hmm e]
       rw[hok] at hs1 MK
       have TY:=hide hs1
       obtain⟨x0,x1,x2,x3,x4,x5,x6,x7,x8⟩:=fc
       clear ho hok hs1 hmm hfr hA'
       generalize bF fs k=f at *
       obtain⟨id,kind,x,y,dC,aA,ac,area,dep,sym,sA,sc,secs⟩:=f
       unfold FV.val at k5
       obtain⟨o1,o2⟩:=o
       dsimp only at *
       generalize area.length=na at *
       generalize secs.length=nn at *
       have hcase:o1=false\/(o1=true/\d<dep)\/(o1=true/\¬ d<dep):=by cases o1<;>simp;omega
       rcases hcase with rfl|⟨rfl,h1⟩|⟨rfl,h1⟩
       ·go_wp2_with (go_at_call 51;with_reducible refine aQ (k5.out _ gw) fun _ _=>?_;dsimp only)
        go_roundw
        case rel=>exact⟨k+1,by omega,by go_num,hide (hG.out.trans gw),hide (by rw[TY.out];rfl)⟩
        case measure=>simp[intOf];omega
       ·have e2:=MK.out (by simp[h1])
        subst e2
        go_wp2_with (go_at_call 51;with_reducible refine aQ (k5.out _ gw) fun _ _=>?_;dsimp only)
        go_ret2
        exact aC.mk' rfl ((qK.out.trans hG.out).trans gw)
       ·go_wp2_with (go_at_call 51;with_reducible refine aQ (k5.out _ gw) fun _ _=>?_;dsimp only)
        go_roundw
        case rel=>exact⟨k+1,by omega,by go_num,hide (hG.out.trans gw),hide (by rw[TY.out];simp;omega)⟩
        case measure=>simp[intOf];omega
      ·obtain rfl:k=fs.length:=by omega
       rw[List.take_length] at hA
       obtain rfl:res=true:=by rw[<-HR2.out,hA.out]
       go_wp2_with fail
       go_ret2
       exact aC.mk' rfl (qK.out.trans hG.out)
end Go.Proofs.YtlkgjmnjhifehaaGreat
