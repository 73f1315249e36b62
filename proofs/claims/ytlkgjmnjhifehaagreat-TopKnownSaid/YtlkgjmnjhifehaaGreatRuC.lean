/- Package rule: the features that a thinning picks out. -/
import Derived.Test.YtlkgjmnjhifehaaGreatRuA
import Derived.Test.YtlkgjmnjhifehaaGreatFeE
set_option linter.unusedSimpArgs false
set_option linter.unusedVariables false
set_option maxHeartbeats 8000000
set_option maxRecDepth 100000
namespace Go.Proofs.YtlkgjmnjhifehaaGreat
open Go.RowKit Go.Sort Go.Lib
attribute [local go_sem] dC steadyUpon
attribute [local go_sem ↓] bQ bJ bg aZ aY aX aW
attribute [local go_sem] bH aN aK size_grow tape_grow cell?_grow' aF aC grow_grow bV bn dZ bZ bW bM aO cO bu bY bK
attribute [local irreducible] wpSteady
abbrev Pj (o k n:Int):Value:=.agg #[.int .i64 o,.int .i64 k,.int .i64 n]
def dH (W:World)(b:Nat)(o k n:Int):Prop:=(W.cell? ⟨b,0,none⟩=some (.int .i64 o)/\W.cell? ⟨b,1,none⟩=some (.int .i64 k)/\W.cell? ⟨b,2,none⟩=some (.int .i64 n))/\b<W.heap.size
theorem dH.up {W W':World}{b:Nat}{o k n:Int}(h:dH W b o k n)(hg:Grew W W'):dH W' b o k n:=by
 have c:=iR hg
 refine⟨⟨?_,?_,?_⟩,Nat.lt_of_lt_of_le h.2 hg.below.size⟩
 ·rw[c _ _ h.2];exact h.1.1
 ·rw[c _ _ h.2];exact h.1.2.1
 ·rw[c _ _ h.2];exact h.1.2.2
theorem dH.gb {W W':World}{b:Nat}{r:Option Nat}{o k n:Int}(h:dH W b o k n)(hg:W.grownBy W' r)(hb:some b≠r):dH W' b o k n :=
 ⟨⟨hg.cell h.1.1 hb,hg.cell h.1.2.1 hb,hg.cell h.1.2.2 hb⟩,Nat.lt_of_lt_of_le h.2 hg.size⟩
theorem dH.new (w:World)(o k n:Int):dH (w.alloc (.cells #[.int .i64 o,.int .i64 k,.int .i64 n] 71)) w.heap.size o k n :=
 ⟨⟨ag (heap_alloc_new _ _) 0,ag (heap_alloc_new _ _) 1,ag (heap_alloc_new _ _) 2⟩,by simp⟩
structure jE (W:World) (R O:Nat) (o k n:Int):Prop where
 box:dH W R o k n
 own:W.cell? ⟨O,0,none⟩=some (.func (.func 116) #[] #[.pointer (some ⟨R,0,none⟩)])
 lo:O<W.heap.size
theorem jE.up {W W':World}{R O:Nat}{o k n:Int}(h:jE W R O o k n)(hg:Grew W W'):jE W' R O o k n :=
 ⟨h.box.up hg,(iR hg _ _ h.lo).trans h.own,Nat.lt_of_lt_of_le h.lo hg.below.size⟩
theorem jE.gb {W W':World}{R O:Nat}{r:Option Nat}{o k n:Int}(h:jE W R O o k n)(hg:W.grownBy W' r)(hR:some R≠r)(hO:some O≠r):jE W' R O o k n :=
 ⟨h.box.gb hg hR,hg.cell h.own hO,Nat.lt_of_lt_of_le h.lo hg.size⟩
def isKind (k:Int)(f:FV):Bool:=decide (f.kind=k)
def noKind (k:Int)(f:FV):Bool := !decide (f.kind=k)
theorem U7 (f:FV)(R O:Nat)(o k n:Int)(r:Bool)(w:World)(h:jE w R O o k n)(hr:isKind k f=r) :
  Calls Tryz.prog 116 #[f.val,.pointer (some ⟨R,0,none⟩)] w (aB w (.bool r)):=by
 have hm:=aQ
 obtain⟨⟨c0,c1,c2⟩,lR⟩:=h.box
 unfold isKind at hr
 subst hr
 clear h
 go_enter Tryz.func116,Tryz.ntmps116
 go_wp2_with fail
 go_ret
 exact aB.mk' (dS (by rw[Bool.eq_iff_iff];simp)) gw
theorem Vh (f:FV)(R O:Nat)(o k n:Int)(r:Bool)(w:World)(h:jE w R O o k n)(hr:noKind k f=r) :
  Calls Tryz.prog 118 #[f.val,.pointer (some ⟨O,0,none⟩)] w (aB w (.bool r)):=by
 have hm:=aQ
 have k1:=hide (fun W (hg:Grew w W)=>U7 f R O o k n (!r) W (h.up hg) (by rw[<-hr];unfold isKind noKind;rw[Bool.not_not]))
 have c0:=h.own
 have l0:=h.lo
 clear h hr
 cases r
 all_goals
  go_enter Tryz.func118,Tryz.ntmps118
  go_wp2_with (go_at_call 116;with_reducible refine aT (k1.out _ gw) fun _ _=>?_;dsimp only)
  go_ret
  exact aB.mk' (by rfl) gw
theorem Yu (fs:List FV)(A:Option Addr)(c R O:Nat)(o k n:Int)(w:World)(hE:jE w R O o k n)(hr:Rd w w.heap.size 9 A (fs.map FV.cells))(hc:fs.length<=1000) :
  Calls Tryz.prog 97 #[.slice A fs.length c,.func (.func 116) #[] #[.pointer (some ⟨R,0,none⟩)]] w fun e w'=>XN (isKind k) fs e/\Grew w w':=by
 have hm:=aQ
 have HR:=hide hr
 have HE:=hide hE
 clear hr hE
 go_enter Tryz.func97,Tryz.ntmps97
 go_wp2_with fail
 go_loopw [8] (fun i wr=>∃m:Nat,m<=fs.length/\i=.int .i64 m/\Grew w wr/\uN (∀j,j<m->isKind k (aP fs j)=false)) (fun i _=>fs.length-(intOf i).toNat)
 case atStart=>exact⟨0,by omega,rfl,gw,fun j hj=>by omega⟩
 case round =>
  obtain⟨m,hmm,rfl,hg,hall⟩:=hrel
  have HG:=hide hg
  have HA:=hide hall.stop
  clear hg hall
  by_cases hlt:m<fs.length
  ·obtain⟨b,off,hA,hb,fc⟩:=rowAt (HR.out.up HG.out) hlt
   have hix:=aJ (cap:=c) Tryz.underlying23 Tryz.sizeOf65 hA.out hlt
   obtain⟨u,hu⟩:∃u,isKind k (aP fs m)=u:=⟨_,rfl⟩
   have k1:=hide (fun W (hg:Grew w W)=>U7 (aP fs m) R O o k n u W (HE.out.up hg) hu)
   have HU:=hide hu
   obtain⟨c0,c1,c2,c3,c4,c5,c6,c7,c8⟩:=fc
   clear hu hA
   cases u
   ·go_wp2_with (go_at_call 116;with_reducible refine aT (k1.out _ (HG.out.trans gw)) fun _ _=>?_;dsimp only)
    go_roundw
    case rel=>exact⟨m+1,by omega,by go_num,HG.out.trans gw,show ∀j,j<m+1->isKind k (aP fs j)=false from (fun j hj=>by
     by_cases e:j=m
     ·rw[e];exact HU.out
     ·exact HA.out j (by omega))⟩
    case measure=>simp[intOf];omega
   ·go_wp2_with (go_at_call 116;with_reducible refine aT (k1.out _ (HG.out.trans gw)) fun _ _=>?_;dsimp only)
    go_ret
    exact⟨.inr ⟨m,by omega,rfl,HU.out,HA.out⟩,HG.out.trans gw⟩
  ·obtain rfl:m=fs.length:=by omega
   go_wp2_with fail
   go_ret
   exact⟨.inl ⟨rfl,HA.out⟩,HG.out⟩
theorem Pv (fs:List FV)(v:Value)(base R O:Nat)(o k n:Int)(w:World)(hE:jE w R O o k n)(hR:R<base)(hO:O<base)(hb:base<=w.heap.size)(hown:w.ownsRow base 65 9 v fs.length (fs.flatMap FV.cells))(hc:fs.length<=1000) :
  Calls Tryz.prog 117 #[v,.func (.func 116) #[] #[.pointer (some ⟨R,0,none⟩)]] w fun e w'=>∃v',e=.returned v'/\w'.ownsRow base 65 9 v' (fs.filter fun f => !isKind k f).length ((fs.filter fun f => !isKind k f).flatMap FV.cells)/\w.grownBy w' v.ownBlock:=by
 have hm:=aQ
 obtain⟨A,c,rfl,hcl,hr⟩:=Rd.ik fQ hown rfl
 have k1:=hide (fun W (hg:Grew w W)=>Yu fs A c R O o k n W (hE.up hg) (hr.up hg) hc)
 have HO:=hide hown
 have HE:=hide hE
 clear hown hE hr
 go_enter Tryz.func117,Tryz.ntmps117
 go_wp2_with fail
 refine (k1.out _ gw).mono ?_
 rintro e w' ⟨h,⟨⟨n1,os1⟩,rfl⟩⟩
 rcases h with⟨rfl,hn⟩|⟨i,hi,rfl,h1,h2⟩
 ·have he:(fs.filter fun f => !isKind k f)=fs:=by
   have:=uh (isKind k) fs
   rw[xW hn (Nat.le_refl _),List.take_length] at this
   exact this.symm
  have HQ:=hide he
  clear he hn
  dsimp only
  go_wp2_with fail
  go_ret
  refine⟨_,rfl,?_,?_⟩
  ·rw[HQ.out]
   exact aH HO.out gw
  ·exact Grew.grownBy gw _
 ·obtain⟨g,rfl⟩:∃g,A=some ⟨g,0,none⟩:=by
   rcases HO.out.2 with⟨h',h0⟩|⟨g',cap',cur,h',_⟩
   ·omega
   ·simp only[Value.slice.injEq] at h'
    exact⟨g',h'.1⟩
  have hst:=hide (nH.start h2 hi h1)
  have hg0:=(HO.out.lt g rfl)
  have hi0:0<=(i:Int):=by omega
  have hi1:¬ (i:Int)=-1:=by omega
  have hRg:R≠g:=by omega
  have hOg:O≠g:=by omega
  clear h1 h2 k1
  dsimp only
  go_wp2_with fail
  go_loopw [5,6] (fun a j wr=>∃ (i j':Nat) (dk:List FV),a=.int .i64 i/\j=.int .i64 j'/\j'<=fs.length/\Hid (nH (isKind k) fs j' i dk)/\wr.ownsRow base 65 9 (.slice (some ⟨g,0,none⟩) fs.length c) fs.length (dk.flatMap FV.cells)/\w.grownBy wr (some g)) (fun _ j _=>fs.length-(intOf j).toNat)
  case atStart=>exact⟨i,i+1,fs,rfl,by go_num,by omega,hst,aH HO.out gw,Grew.grownBy gw _⟩
  case round =>
   obtain⟨i,j,dk,rfl,rfl,hj,hI,hown,hgb⟩:=hrel
   have HW:=hide hown
   have HB:=hide hgb
   have hij:=hI.out.lt
   have hdl:=hI.out.size
   have hz:=hgb.size
   have lg:g<wr.heap.size:=by omega
   clear hst
   by_cases hlt:j<fs.length
   ·obtain⟨fc,hf⟩:=vH hown hdl.symm (k:=j) (by omega)
    have hfj:aP dk j=aP fs j:=by
     unfold aP
     rw[List.getD_eq_getElem?_getD,hI.out.high j (Nat.le_refl _),<-List.getD_eq_getElem?_getD]
    obtain⟨c0,c1,c2,c3,c4,c5,c6,c7,c8⟩:=fc
    rw[hfj] at c0 c1 c2 c3 c4 c5 c6 c7 c8
    obtain⟨d0,d1,d2,d3,d4,d5,d6,d7,d8⟩:=(vH hown hdl.symm (k:=i) (by omega)).1
    have hix:=aJ (cap:=c) (k:=j) (len:=fs.length) Tryz.underlying23 Tryz.sizeOf65 (A:=some ⟨g,0,none⟩) rfl hlt
    have hix2:=aJ (cap:=c) (k:=i) (len:=fs.length) Tryz.underlying23 Tryz.sizeOf65 (A:=some ⟨g,0,none⟩) rfl (by omega)
    obtain⟨u,hu⟩:∃u,isKind k (aP fs j)=u:=⟨_,rfl⟩
    have kc:=hide (fun W (hg:Grew wr W)=>U7 (aP fs j) R O o k n u W ((HE.out.gb HB.out (by simp;exact hRg) (by simp;exact hOg)).up hg) hu)
    have HU:=hide hu
    rw[Nat.zero_add] at hix hix2
    clear hfj hown hgb hu
    generalize aP dk i=old at *
    obtain⟨f,Wl⟩:∃f,aP fs j=f:=⟨_,rfl⟩
    rw[Wl] at c0 c1 c2 c3 c4 c5 c6 c7 c8 kc
    have HF:=hide Wl
    clear Wl
    cases u
    ·go_wp2_with (go_at_call 116;with_reducible refine aT (kc.out _ gw) fun _ _=>?_;dsimp only)
     go_roundw
     case rel=>exact⟨i+1,j+1,dk.set i f,by go_num,by go_num,by omega,hide (by rw[<-HF.out];exact hI.out.keep hlt HU.out),aH (Pq HW.out f) gw,mX (WB (f:=f) HB.out) gw⟩
     case measure=>simp[intOf];omega
    ·go_wp2_with (go_at_call 116;with_reducible refine aT (kc.out _ gw) fun _ _=>?_;dsimp only)
     go_roundw
     case rel=>exact⟨i,j+1,dk,rfl,by go_num,by omega,hide (hI.out.skip hlt HU.out),aH HW.out gw,mX HB.out gw⟩
     case measure=>simp[intOf];omega
   ·obtain rfl:j=fs.length:=by omega
    obtain⟨zs,Si⟩:=EK wr g (i*9) (fs.length-i) (c-i) (by omega) (fun t ht=>by
     have:=hown.cellAt (i*9+t) (by omega)
     rw[this,List.getElem?_eq_getElem (by rw[hown.1];omega)]
     rfl) (fun t ht=>hown.frozenAt _)
    obtain⟨hq1,hq2⟩:=hI.out.done
    have HQ:=hide hq1
    have Z9:=hide hq2
    clear hown hgb hq1 hq2
    go_wp2
    go_ret
    refine⟨_,rfl,?_,?_⟩
    ·rw[Z9.out,<-HQ.out,<-wL]
     exact yL zs _ _ (Nat.le_refl _) (DY HW.out (by omega))
    ·exact kM zs _ _ HB.out
theorem Vj (fs:List FV)(A:Option Addr)(c R O:Nat)(o k n:Int)(w:World)(hE:jE w R O o k n)(hr:Rd w w.heap.size 9 A (fs.map FV.cells))(hc:fs.length<=1000) :
  Calls Tryz.prog 97 #[.slice A fs.length c,.func (.func 118) #[] #[.pointer (some ⟨O,0,none⟩)]] w fun e w'=>XN (noKind k) fs e/\Grew w w':=by
 have hm:=aQ
 have HR:=hide hr
 have HE:=hide hE
 clear hr hE
 go_enter Tryz.func97,Tryz.ntmps97
 go_wp2_with fail
 go_loopw [8] (fun i wr=>∃m:Nat,m<=fs.length/\i=.int .i64 m/\Grew w wr/\uN (∀j,j<m->noKind k (aP fs j)=false)) (fun i _=>fs.length-(intOf i).toNat)
 case atStart=>exact⟨0,by omega,rfl,gw,fun j hj=>by omega⟩
 case round =>
  obtain⟨m,hmm,rfl,hg,hall⟩:=hrel
  have HG:=hide hg
  have HA:=hide hall.stop
  clear hg hall
  by_cases hlt:m<fs.length
  ·obtain⟨b,off,hA,hb,fc⟩:=rowAt (HR.out.up HG.out) hlt
   have hix:=aJ (cap:=c) Tryz.underlying23 Tryz.sizeOf65 hA.out hlt
   obtain⟨u,hu⟩:∃u,noKind k (aP fs m)=u:=⟨_,rfl⟩
   have k1:=hide (fun W (hg:Grew w W)=>Vh (aP fs m) R O o k n u W (HE.out.up hg) hu)
   have HU:=hide hu
   obtain⟨c0,c1,c2,c3,c4,c5,c6,c7,c8⟩:=fc
   clear hu hA
   cases u
   ·go_wp2_with (go_at_call 118;with_reducible refine aT (k1.out _ (HG.out.trans gw)) fun _ _=>?_;dsimp only)
    go_roundw
    case rel=>exact⟨m+1,by omega,by go_num,HG.out.trans gw,show ∀j,j<m+1->noKind k (aP fs j)=false from (fun j hj=>by
     by_cases e:j=m
     ·rw[e];exact HU.out
     ·exact HA.out j (by omega))⟩
    case measure=>simp[intOf];omega
   ·go_wp2_with (go_at_call 118;with_reducible refine aT (k1.out _ (HG.out.trans gw)) fun _ _=>?_;dsimp only)
    go_ret
    exact⟨.inr ⟨m,by omega,rfl,HU.out,HA.out⟩,HG.out.trans gw⟩
  ·obtain rfl:m=fs.length:=by omega
   go_wp2_with fail
   go_ret
   exact⟨.inl ⟨rfl,HA.out⟩,HG.out⟩
theorem Vk (fs:List FV)(v:Value)(base R O:Nat)(o k n:Int)(w:World)(hE:jE w R O o k n)(hR:R<base)(hO:O<base)(hb:base<=w.heap.size)(hown:w.ownsRow base 65 9 v fs.length (fs.flatMap FV.cells))(hc:fs.length<=1000) :
  Calls Tryz.prog 117 #[v,.func (.func 118) #[] #[.pointer (some ⟨O,0,none⟩)]] w fun e w'=>∃v',e=.returned v'/\w'.ownsRow base 65 9 v' (fs.filter fun f => !noKind k f).length ((fs.filter fun f => !noKind k f).flatMap FV.cells)/\w.grownBy w' v.ownBlock:=by
 have hm:=aQ
 obtain⟨A,c,rfl,hcl,hr⟩:=Rd.ik fQ hown rfl
 have k1:=hide (fun W (hg:Grew w W)=>Vj fs A c R O o k n W (hE.up hg) (hr.up hg) hc)
 have HO:=hide hown
 have HE:=hide hE
 clear hown hE hr
 go_enter Tryz.func117,Tryz.ntmps117
 go_wp2_with fail
 refine (k1.out _ gw).mono ?_
 rintro e w' ⟨h,⟨⟨n1,os1⟩,rfl⟩⟩
 rcases h with⟨rfl,hn⟩|⟨i,hi,rfl,h1,h2⟩
 ·have he:(fs.filter fun f => !noKind k f)=fs:=by
   have:=uh (noKind k) fs
   rw[xW hn (Nat.le_refl _),List.take_length] at this
   exact this.symm
  have HQ:=hide he
  clear he hn
  dsimp only
  go_wp2_with fail
  go_ret
  refine⟨_,rfl,?_,?_⟩
  ·rw[HQ.out]
   exact aH HO.out gw
  ·exact Grew.grownBy gw _
 ·obtain⟨g,rfl⟩:∃g,A=some ⟨g,0,none⟩:=by
   rcases HO.out.2 with⟨h',h0⟩|⟨g',cap',cur,h',_⟩
   ·omega
   ·simp only[Value.slice.injEq] at h'
    exact⟨g',h'.1⟩
  have hst:=hide (nH.start h2 hi h1)
  have hg0:=(HO.out.lt g rfl)
  have hi0:0<=(i:Int):=by omega
  have hi1:¬ (i:Int)=-1:=by omega
  have hRg:R≠g:=by omega
  have hOg:O≠g:=by omega
  clear h1 h2 k1
  dsimp only
  go_wp2_with fail
  go_loopw [5,6] (fun a j wr=>∃ (i j':Nat) (dk:List FV),a=.int .i64 i/\j=.int .i64 j'/\j'<=fs.length/\Hid (nH (noKind k) fs j' i dk)/\wr.ownsRow base 65 9 (.slice (some ⟨g,0,none⟩) fs.length c) fs.length (dk.flatMap FV.cells)/\w.grownBy wr (some g)) (fun _ j _=>fs.length-(intOf j).toNat)
  case atStart=>exact⟨i,i+1,fs,rfl,by go_num,by omega,hst,aH HO.out gw,Grew.grownBy gw _⟩
  case round =>
   obtain⟨i,j,dk,rfl,rfl,hj,hI,hown,hgb⟩:=hrel
   have HW:=hide hown
   have HB:=hide hgb
   have hij:=hI.out.lt
   have hdl:=hI.out.size
   have hz:=hgb.size
   have lg:g<wr.heap.size:=by omega
   clear hst
   by_cases hlt:j<fs.length
   ·obtain⟨fc,hf⟩:=vH hown hdl.symm (k:=j) (by omega)
    have hfj:aP dk j=aP fs j:=by
     unfold aP
     rw[List.getD_eq_getElem?_getD,hI.out.high j (Nat.le_refl _),<-List.getD_eq_getElem?_getD]
    obtain⟨c0,c1,c2,c3,c4,c5,c6,c7,c8⟩:=fc
    rw[hfj] at c0 c1 c2 c3 c4 c5 c6 c7 c8
    obtain⟨d0,d1,d2,d3,d4,d5,d6,d7,d8⟩:=(vH hown hdl.symm (k:=i) (by omega)).1
    have hix:=aJ (cap:=c) (k:=j) (len:=fs.length) Tryz.underlying23 Tryz.sizeOf65 (A:=some ⟨g,0,none⟩) rfl hlt
    have hix2:=aJ (cap:=c) (k:=i) (len:=fs.length) Tryz.underlying23 Tryz.sizeOf65 (A:=some ⟨g,0,none⟩) rfl (by omega)
    obtain⟨u,hu⟩:∃u,noKind k (aP fs j)=u:=⟨_,rfl⟩
    have kc:=hide (fun W (hg:Grew wr W)=>Vh (aP fs j) R O o k n u W ((HE.out.gb HB.out (by simp;exact hRg) (by simp;exact hOg)).up hg) hu)
    have HU:=hide hu
    rw[Nat.zero_add] at hix hix2
    clear hfj hown hgb hu
    generalize aP dk i=old at *
    obtain⟨f,Wl⟩:∃f,aP fs j=f:=⟨_,rfl⟩
    rw[Wl] at c0 c1 c2 c3 c4 c5 c6 c7 c8 kc
    have HF:=hide Wl
    clear Wl
    cases u
    ·go_wp2_with (go_at_call 118;with_reducible refine aT (kc.out _ gw) fun _ _=>?_;dsimp only)
     go_roundw
     case rel=>exact⟨i+1,j+1,dk.set i f,by go_num,by go_num,by omega,hide (by rw[<-HF.out];exact hI.out.keep hlt HU.out),aH (Pq HW.out f) gw,mX (WB (f:=f) HB.out) gw⟩
     case measure=>simp[intOf];omega
    ·go_wp2_with (go_at_call 118;with_reducible refine aT (kc.out _ gw) fun _ _=>?_;dsimp only)
     go_roundw
     case rel=>exact⟨i,j+1,dk,rfl,by go_num,by omega,hide (hI.out.skip hlt HU.out),aH HW.out gw,mX HB.out gw⟩
     case measure=>simp[intOf];omega
   ·obtain rfl:j=fs.length:=by omega
    obtain⟨zs,Si⟩:=EK wr g (i*9) (fs.length-i) (c-i) (by omega) (fun t ht=>by
     have:=hown.cellAt (i*9+t) (by omega)
     rw[this,List.getElem?_eq_getElem (by rw[hown.1];omega)]
     rfl) (fun t ht=>hown.frozenAt _)
    obtain⟨hq1,hq2⟩:=hI.out.done
    have HQ:=hide hq1
    have Z9:=hide hq2
    clear hown hgb hq1 hq2
    go_wp2
    go_ret
    refine⟨_,rfl,?_,?_⟩
    ·rw[Z9.out,<-HQ.out,<-wL]
     exact yL zs _ _ (Nat.le_refl _) (DY HW.out (by omega))
    ·exact kM zs _ _ HB.out
end Go.Proofs.YtlkgjmnjhifehaaGreat
