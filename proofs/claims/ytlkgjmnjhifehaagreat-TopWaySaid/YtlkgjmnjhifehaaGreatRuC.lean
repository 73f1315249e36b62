/- Package rule: the features that a thinning picks out. -/
import Derived.Test.YtlkgjmnjhifehaaGreatRuA
import Derived.Test.YtlkgjmnjhifehaaGreatFeE
set_option linter.unusedSimpArgs false
set_option linter.unusedVariables false
set_option maxHeartbeats 8000000
set_option maxRecDepth 100000
namespace Go.Proofs.YtlkgjmnjhifehaaGreat
open Go.RowKit Go.Sort Go.Lib
attribute [local go_sem] dA steadyUpon
attribute [local go_sem ↓] bU bI aX aW aV aU aT
attribute [local go_sem] bH aK aJ size_grow tape_grow cell?_grow' aF aB grow_grow bW aY dR cO bY bK aN cZ aZ bZ bJ
attribute [local irreducible] wpSteady
abbrev PE (o k n:Int):Value:=.agg #[.int .i64 o,.int .i64 k,.int .i64 n]
def dK (W:World)(b:Nat)(o k n:Int):Prop:=(W.cell? ⟨b,0,none⟩=some (.int .i64 o)/\W.cell? ⟨b,1,none⟩=some (.int .i64 k)/\W.cell? ⟨b,2,none⟩=some (.int .i64 n))/\b<W.heap.size
theorem dK.up {W W':World}{b:Nat}{o k n:Int}(h:dK W b o k n)(hg:Grew W W'):dK W' b o k n:=by
 have c:=iW hg
 refine⟨⟨?_,?_,?_⟩,Nat.lt_of_lt_of_le h.2 hg.below.size⟩
 ·rw[c _ _ h.2];exact h.1.1
 ·rw[c _ _ h.2];exact h.1.2.1
 ·rw[c _ _ h.2];exact h.1.2.2
theorem dK.gb {W W':World}{b:Nat}{r:Option Nat}{o k n:Int}(h:dK W b o k n)(hg:W.grownBy W' r)(hb:some b≠r):dK W' b o k n :=
 ⟨⟨hg.cell h.1.1 hb,hg.cell h.1.2.1 hb,hg.cell h.1.2.2 hb⟩,Nat.lt_of_lt_of_le h.2 hg.size⟩
theorem dK.new (w:World)(o k n:Int):dK (w.alloc (.cells #[.int .i64 o,.int .i64 k,.int .i64 n] 71)) w.heap.size o k n :=
 ⟨⟨ag (heap_alloc_new _ _) 0,ag (heap_alloc_new _ _) 1,ag (heap_alloc_new _ _) 2⟩,by simp⟩
structure jF (W:World) (R O:Nat) (o k n:Int):Prop where
 box:dK W R o k n
 own:W.cell? ⟨O,0,none⟩=some (.func (.func 116) #[] #[.pointer (some ⟨R,0,none⟩)])
 lo:O<W.heap.size
theorem jF.up {W W':World}{R O:Nat}{o k n:Int}(h:jF W R O o k n)(hg:Grew W W'):jF W' R O o k n :=
 ⟨h.box.up hg,(iW hg _ _ h.lo).trans h.own,Nat.lt_of_lt_of_le h.lo hg.below.size⟩
theorem jF.gb {W W':World}{R O:Nat}{r:Option Nat}{o k n:Int}(h:jF W R O o k n)(hg:W.grownBy W' r)(hR:some R≠r)(hO:some O≠r):jF W' R O o k n :=
 ⟨h.box.gb hg hR,hg.cell h.own hO,Nat.lt_of_lt_of_le h.lo hg.size⟩
def isKind (k:Int)(f:FV):Bool:=decide (f.kind=k)
def noKind (k:Int)(f:FV):Bool := !decide (f.kind=k)
theorem Vq (f:FV)(R O:Nat)(o k n:Int)(r:Bool)(w:World)(h:jF w R O o k n)(hr:isKind k f=r) :
  Calls Tryz.prog 116 #[f.val,.pointer (some ⟨R,0,none⟩)] w (aC w (.bool r)):=by
 have hm:=aP
 obtain⟨⟨c0,c1,c2⟩,lR⟩:=h.box
 unfold isKind at hr
 subst hr
 clear h
 go_enter Tryz.func116,Tryz.ntmps116
 go_wp2_with fail
 go_ret
 exact aC.mk' (dU (by rw[Bool.eq_iff_iff];simp)) gw
theorem VA (f:FV)(R O:Nat)(o k n:Int)(r:Bool)(w:World)(h:jF w R O o k n)(hr:noKind k f=r) :
  Calls Tryz.prog 118 #[f.val,.pointer (some ⟨O,0,none⟩)] w (aC w (.bool r)):=by
 have hm:=aP
 have k1:=hide (fun W (hg:Grew w W)=>Vq f R O o k n (!r) W (h.up hg) (by rw[<-hr];unfold isKind noKind;rw[Bool.not_not]))
 have c0:=h.own
 have l0:=h.lo
 clear h hr
 cases r
 all_goals
  go_enter Tryz.func118,Tryz.ntmps118
  go_wp2_with (go_at_call 116;with_reducible refine aQ (k1.out _ gw) fun _ _=>?_;dsimp only)
  go_ret
  exact aC.mk' (by rfl) gw
theorem YO (fs:List FV)(A:Option Addr)(c R O:Nat)(o k n:Int)(w:World)(hE:jF w R O o k n)(hr:Rd w w.heap.size 9 A (fs.map FV.cells))(hc:fs.length<=1000) :
  Calls Tryz.prog 97 #[.slice A fs.length c,.func (.func 116) #[] #[.pointer (some ⟨R,0,none⟩)]] w fun e w'=>X7 (isKind k) fs e/\Grew w w':=by
 have hm:=aP
 have HR:=hide hr
 have HE:=hide hE
 clear hr hE
 go_enter Tryz.func97,Tryz.ntmps97
 go_wp2_with fail
 go_loopw [8] (fun i wr=>∃m:Nat,m<=fs.length/\i=.int .i64 m/\Grew w wr/\wW (∀j,j<m->isKind k (bF fs j)=false)) (fun i _=>fs.length-(intOf i).toNat)
 case atStart=>exact⟨0,by omega,rfl,gw,fun j hj=>by omega⟩
 case round =>
  obtain⟨m,hmm,rfl,hg,hall⟩:=hrel
  have HG:=hide hg
  have HA:=hide hall.stop
  clear hg hall
  by_cases hlt:m<fs.length
  ·obtain⟨b,off,hA,hb,fc⟩:=rowAt (HR.out.up HG.out) hlt
   have hix:=aO (cap:=c) Tryz.underlying23 Tryz.sizeOf65 hA.out hlt
   obtain⟨u,hu⟩:∃u,isKind k (bF fs m)=u:=⟨_,rfl⟩
   have k1:=hide (fun W (hg:Grew w W)=>Vq (bF fs m) R O o k n u W (HE.out.up hg) hu)
   have HU:=hide hu
   obtain⟨c0,c1,c2,c3,c4,c5,c6,c7,c8⟩:=fc
   clear hu hA
   cases u
   ·go_wp2_with (go_at_call 116;with_reducible refine aQ (k1.out _ (HG.out.trans gw)) fun _ _=>?_;dsimp only)
    go_roundw
    case rel=>exact⟨m+1,by omega,by go_num,HG.out.trans gw,show ∀j,j<m+1->isKind k (bF fs j)=false from (fun j hj=>by
     by_cases e:j=m
     ·rw[e];exact HU.out
     ·exact HA.out j (by omega))⟩
    case measure=>simp[intOf];omega
   ·go_wp2_with (go_at_call 116;with_reducible refine aQ (k1.out _ (HG.out.trans gw)) fun _ _=>?_;dsimp only)
    go_ret
    exact⟨.inr ⟨m,by omega,rfl,HU.out,HA.out⟩,HG.out.trans gw⟩
  ·obtain rfl:m=fs.length:=by omega
   go_wp2_with fail
   go_ret
   exact⟨.inl ⟨rfl,HA.out⟩,HG.out⟩
theorem PM (fs:List FV)(v:Value)(base R O:Nat)(o k n:Int)(w:World)(hE:jF w R O o k n)(hR:R<base)(hO:O<base)(hb:base<=w.heap.size)(hown:w.ownsRow base 65 9 v fs.length (fs.flatMap FV.cells))(hc:fs.length<=1000) :
  Calls Tryz.prog 117 #[v,.func (.func 116) #[] #[.pointer (some ⟨R,0,none⟩)]] w fun e w'=>∃v',e=.returned v'/\w'.ownsRow base 65 9 v' (fs.filter fun f => !isKind k f).length ((fs.filter fun f => !isKind k f).flatMap FV.cells)/\w.grownBy w' v.ownBlock:=by
 have hm:=aP
 obtain⟨A,c,rfl,hcl,hr⟩:=Rd.iE fZ hown rfl
 have k1:=hide (fun W (hg:Grew w W)=>YO fs A c R O o k n W (hE.up hg) (hr.up hg) hc)
 have HO:=hide hown
 have HE:=hide hE
 clear hown hE hr
 go_enter Tryz.func117,Tryz.ntmps117
 go_wp2_with fail
 refine (k1.out _ gw).mono ?_
 rintro e w' ⟨h,⟨⟨n1,os1⟩,rfl⟩⟩
 rcases h with⟨rfl,hn⟩|⟨i,hi,rfl,h1,h2⟩
 ·have he:(fs.filter fun f => !isKind k f)=fs:=by
   have:=uw (isKind k) fs
   rw[yz hn (Nat.le_refl _),List.take_length] at this
   exact this.symm
  have HQ:=hide he
  clear he hn
  dsimp only
  go_wp2_with fail
  go_ret
  refine⟨_,rfl,?_,?_⟩
  ·rw[HQ.out]
   exact aI HO.out gw
  ·exact Grew.grownBy gw _
 ·obtain⟨g,rfl⟩:∃g,A=some ⟨g,0,none⟩:=by
   rcases HO.out.2 with⟨h',h0⟩|⟨g',cap',cur,h',_⟩
   ·omega
   ·simp only[Value.slice.injEq] at h'
    exact⟨g',h'.1⟩
  have hst:=hide (nG.start h2 hi h1)
  have hg0:=(HO.out.lt g rfl)
  have hi0:0<=(i:Int):=by omega
  have hi1:¬ (i:Int)=-1:=by omega
  have hRg:R≠g:=by omega
  have hOg:O≠g:=by omega
  clear h1 h2 k1
  dsimp only
  go_wp2_with fail
  go_loopw [5,6] (fun a j wr=>∃ (i j':Nat) (dk:List FV),a=.int .i64 i/\j=.int .i64 j'/\j'<=fs.length/\Hid (nG (isKind k) fs j' i dk)/\wr.ownsRow base 65 9 (.slice (some ⟨g,0,none⟩) fs.length c) fs.length (dk.flatMap FV.cells)/\w.grownBy wr (some g)) (fun _ j _=>fs.length-(intOf j).toNat)
  case atStart=>exact⟨i,i+1,fs,rfl,by go_num,by omega,hst,aI HO.out gw,Grew.grownBy gw _⟩
  case round =>
   obtain⟨i,j,dk,rfl,rfl,hj,hI,hown,hgb⟩:=hrel
   have HW:=hide hown
   have HB:=hide hgb
   have hij:=hI.out.lt
   have hdl:=hI.out.size
   have hz:=hgb.size
   have lg:g<wr.heap.size:=by omega
   clear hst
   by_cases hlt:j<fs.length
   ·obtain⟨fc,hf⟩:=vP hown hdl.symm (k:=j) (by omega)
    have hfj:bF dk j=bF fs j:=by
     unfold bF
     rw[List.getD_eq_getElem?_getD,hI.out.high j (Nat.le_refl _),<-List.getD_eq_getElem?_getD]
    obtain⟨c0,c1,c2,c3,c4,c5,c6,c7,c8⟩:=fc
    rw[hfj] at c0 c1 c2 c3 c4 c5 c6 c7 c8
    obtain⟨d0,d1,d2,d3,d4,d5,d6,d7,d8⟩:=(vP hown hdl.symm (k:=i) (by omega)).1
    have hix:=aO (cap:=c) (k:=j) (len:=fs.length) Tryz.underlying23 Tryz.sizeOf65 (A:=some ⟨g,0,none⟩) rfl hlt
    have hix2:=aO (cap:=c) (k:=i) (len:=fs.length) Tryz.underlying23 Tryz.sizeOf65 (A:=some ⟨g,0,none⟩) rfl (by omega)
    obtain⟨u,hu⟩:∃u,isKind k (bF fs j)=u:=⟨_,rfl⟩
    have kc:=hide (fun W (hg:Grew wr W)=>Vq (bF fs j) R O o k n u W ((HE.out.gb HB.out (by simp;exact hRg) (by simp;exact hOg)).up hg) hu)
    have HU:=hide hu
    rw[Nat.zero_add] at hix hix2
    clear hfj hown hgb hu
    generalize bF dk i=old at *
    obtain⟨f,WR⟩:∃f,bF fs j=f:=⟨_,rfl⟩
    rw[WR] at c0 c1 c2 c3 c4 c5 c6 c7 c8 kc
    have HF:=hide WR
    clear WR
    cases u
    ·go_wp2_with (go_at_call 116;with_reducible refine aQ (kc.out _ gw) fun _ _=>?_;dsimp only)
     go_roundw
     case rel=>exact⟨i+1,j+1,dk.set i f,by go_num,by go_num,by omega,hide (by rw[<-HF.out];exact hI.out.keep hlt HU.out),aI (PL HW.out f) gw,mZ (Xb (f:=f) HB.out) gw⟩
     case measure=>simp[intOf];omega
    ·go_wp2_with (go_at_call 116;with_reducible refine aQ (kc.out _ gw) fun _ _=>?_;dsimp only)
     go_roundw
     case rel=>exact⟨i,j+1,dk,rfl,by go_num,by omega,hide (hI.out.skip hlt HU.out),aI HW.out gw,mZ HB.out gw⟩
     case measure=>simp[intOf];omega
   ·obtain rfl:j=fs.length:=by omega
    obtain⟨zs,WV⟩:=ET wr g (i*9) (fs.length-i) (c-i) (by omega) (fun t ht=>by
     have:=hown.cellAt (i*9+t) (by omega)
     rw[this,List.getElem?_eq_getElem (by rw[hown.1];omega)]
     rfl) (fun t ht=>hown.frozenAt _)
    obtain⟨hq1,hq2⟩:=hI.out.done
    have HQ:=hide hq1
    have HQ2:=hide hq2
    clear hown hgb hq1 hq2
    go_wp2
    go_ret
    refine⟨_,rfl,?_,?_⟩
    ·rw[HQ2.out,<-HQ.out,<-wY]
     exact yU zs _ _ (Nat.le_refl _) (D7 HW.out (by omega))
    ·exact kR zs _ _ HB.out
theorem VB (fs:List FV)(A:Option Addr)(c R O:Nat)(o k n:Int)(w:World)(hE:jF w R O o k n)(hr:Rd w w.heap.size 9 A (fs.map FV.cells))(hc:fs.length<=1000) :
  Calls Tryz.prog 97 #[.slice A fs.length c,.func (.func 118) #[] #[.pointer (some ⟨O,0,none⟩)]] w fun e w'=>X7 (noKind k) fs e/\Grew w w':=by
 have hm:=aP
 have HR:=hide hr
 have HE:=hide hE
 clear hr hE
 go_enter Tryz.func97,Tryz.ntmps97
 go_wp2_with fail
 go_loopw [8] (fun i wr=>∃m:Nat,m<=fs.length/\i=.int .i64 m/\Grew w wr/\wW (∀j,j<m->noKind k (bF fs j)=false)) (fun i _=>fs.length-(intOf i).toNat)
 case atStart=>exact⟨0,by omega,rfl,gw,fun j hj=>by omega⟩
 case round =>
  obtain⟨m,hmm,rfl,hg,hall⟩:=hrel
  have HG:=hide hg
  have HA:=hide hall.stop
  clear hg hall
  by_cases hlt:m<fs.length
  ·obtain⟨b,off,hA,hb,fc⟩:=rowAt (HR.out.up HG.out) hlt
   have hix:=aO (cap:=c) Tryz.underlying23 Tryz.sizeOf65 hA.out hlt
   obtain⟨u,hu⟩:∃u,noKind k (bF fs m)=u:=⟨_,rfl⟩
   have k1:=hide (fun W (hg:Grew w W)=>VA (bF fs m) R O o k n u W (HE.out.up hg) hu)
   have HU:=hide hu
   obtain⟨c0,c1,c2,c3,c4,c5,c6,c7,c8⟩:=fc
   clear hu hA
   cases u
   ·go_wp2_with (go_at_call 118;with_reducible refine aQ (k1.out _ (HG.out.trans gw)) fun _ _=>?_;dsimp only)
    go_roundw
    case rel=>exact⟨m+1,by omega,by go_num,HG.out.trans gw,show ∀j,j<m+1->noKind k (bF fs j)=false from (fun j hj=>by
     by_cases e:j=m
     ·rw[e];exact HU.out
     ·exact HA.out j (by omega))⟩
    case measure=>simp[intOf];omega
   ·go_wp2_with (go_at_call 118;with_reducible refine aQ (k1.out _ (HG.out.trans gw)) fun _ _=>?_;dsimp only)
    go_ret
    exact⟨.inr ⟨m,by omega,rfl,HU.out,HA.out⟩,HG.out.trans gw⟩
  ·obtain rfl:m=fs.length:=by omega
   go_wp2_with fail
   go_ret
   exact⟨.inl ⟨rfl,HA.out⟩,HG.out⟩
theorem VC (fs:List FV)(v:Value)(base R O:Nat)(o k n:Int)(w:World)(hE:jF w R O o k n)(hR:R<base)(hO:O<base)(hb:base<=w.heap.size)(hown:w.ownsRow base 65 9 v fs.length (fs.flatMap FV.cells))(hc:fs.length<=1000) :
  Calls Tryz.prog 117 #[v,.func (.func 118) #[] #[.pointer (some ⟨O,0,none⟩)]] w fun e w'=>∃v',e=.returned v'/\w'.ownsRow base 65 9 v' (fs.filter fun f => !noKind k f).length ((fs.filter fun f => !noKind k f).flatMap FV.cells)/\w.grownBy w' v.ownBlock:=by
 have hm:=aP
 obtain⟨A,c,rfl,hcl,hr⟩:=Rd.iE fZ hown rfl
 have k1:=hide (fun W (hg:Grew w W)=>VB fs A c R O o k n W (hE.up hg) (hr.up hg) hc)
 have HO:=hide hown
 have HE:=hide hE
 clear hown hE hr
 go_enter Tryz.func117,Tryz.ntmps117
 go_wp2_with fail
 refine (k1.out _ gw).mono ?_
 rintro e w' ⟨h,⟨⟨n1,os1⟩,rfl⟩⟩
 rcases h with⟨rfl,hn⟩|⟨i,hi,rfl,h1,h2⟩
 ·have he:(fs.filter fun f => !noKind k f)=fs:=by
   have:=uw (noKind k) fs
   rw[yz hn (Nat.le_refl _),List.take_length] at this
   exact this.symm
  have HQ:=hide he
  clear he hn
  dsimp only
  go_wp2_with fail
  go_ret
  refine⟨_,rfl,?_,?_⟩
  ·rw[HQ.out]
   exact aI HO.out gw
  ·exact Grew.grownBy gw _
 ·obtain⟨g,rfl⟩:∃g,A=some ⟨g,0,none⟩:=by
   rcases HO.out.2 with⟨h',h0⟩|⟨g',cap',cur,h',_⟩
   ·omega
   ·simp only[Value.slice.injEq] at h'
    exact⟨g',h'.1⟩
  have hst:=hide (nG.start h2 hi h1)
  have hg0:=(HO.out.lt g rfl)
  have hi0:0<=(i:Int):=by omega
  have hi1:¬ (i:Int)=-1:=by omega
  have hRg:R≠g:=by omega
  have hOg:O≠g:=by omega
  clear h1 h2 k1
  dsimp only
  go_wp2_with fail
  go_loopw [5,6] (fun a j wr=>∃ (i j':Nat) (dk:List FV),a=.int .i64 i/\j=.int .i64 j'/\j'<=fs.length/\Hid (nG (noKind k) fs j' i dk)/\wr.ownsRow base 65 9 (.slice (some ⟨g,0,none⟩) fs.length c) fs.length (dk.flatMap FV.cells)/\w.grownBy wr (some g)) (fun _ j _=>fs.length-(intOf j).toNat)
  case atStart=>exact⟨i,i+1,fs,rfl,by go_num,by omega,hst,aI HO.out gw,Grew.grownBy gw _⟩
  case round =>
   obtain⟨i,j,dk,rfl,rfl,hj,hI,hown,hgb⟩:=hrel
   have HW:=hide hown
   have HB:=hide hgb
   have hij:=hI.out.lt
   have hdl:=hI.out.size
   have hz:=hgb.size
   have lg:g<wr.heap.size:=by omega
   clear hst
   by_cases hlt:j<fs.length
   ·obtain⟨fc,hf⟩:=vP hown hdl.symm (k:=j) (by omega)
    have hfj:bF dk j=bF fs j:=by
     unfold bF
     rw[List.getD_eq_getElem?_getD,hI.out.high j (Nat.le_refl _),<-List.getD_eq_getElem?_getD]
    obtain⟨c0,c1,c2,c3,c4,c5,c6,c7,c8⟩:=fc
    rw[hfj] at c0 c1 c2 c3 c4 c5 c6 c7 c8
    obtain⟨d0,d1,d2,d3,d4,d5,d6,d7,d8⟩:=(vP hown hdl.symm (k:=i) (by omega)).1
    have hix:=aO (cap:=c) (k:=j) (len:=fs.length) Tryz.underlying23 Tryz.sizeOf65 (A:=some ⟨g,0,none⟩) rfl hlt
    have hix2:=aO (cap:=c) (k:=i) (len:=fs.length) Tryz.underlying23 Tryz.sizeOf65 (A:=some ⟨g,0,none⟩) rfl (by omega)
    obtain⟨u,hu⟩:∃u,noKind k (bF fs j)=u:=⟨_,rfl⟩
    have kc:=hide (fun W (hg:Grew wr W)=>VA (bF fs j) R O o k n u W ((HE.out.gb HB.out (by simp;exact hRg) (by simp;exact hOg)).up hg) hu)
    have HU:=hide hu
    rw[Nat.zero_add] at hix hix2
    clear hfj hown hgb hu
    generalize bF dk i=old at *
    obtain⟨f,WR⟩:∃f,bF fs j=f:=⟨_,rfl⟩
    rw[WR] at c0 c1 c2 c3 c4 c5 c6 c7 c8 kc
    have HF:=hide WR
    clear WR
    cases u
    ·go_wp2_with (go_at_call 118;with_reducible refine aQ (kc.out _ gw) fun _ _=>?_;dsimp only)
     go_roundw
     case rel=>exact⟨i+1,j+1,dk.set i f,by go_num,by go_num,by omega,hide (by rw[<-HF.out];exact hI.out.keep hlt HU.out),aI (PL HW.out f) gw,mZ (Xb (f:=f) HB.out) gw⟩
     case measure=>simp[intOf];omega
    ·go_wp2_with (go_at_call 118;with_reducible refine aQ (kc.out _ gw) fun _ _=>?_;dsimp only)
     go_roundw
     case rel=>exact⟨i,j+1,dk,rfl,by go_num,by omega,hide (hI.out.skip hlt HU.out),aI HW.out gw,mZ HB.out gw⟩
     case measure=>simp[intOf];omega
   ·obtain rfl:j=fs.length:=by omega
    obtain⟨zs,WV⟩:=ET wr g (i*9) (fs.length-i) (c-i) (by omega) (fun t ht=>by
     have:=hown.cellAt (i*9+t) (by omega)
     rw[this,List.getElem?_eq_getElem (by rw[hown.1];omega)]
     rfl) (fun t ht=>hown.frozenAt _)
    obtain⟨hq1,hq2⟩:=hI.out.done
    have HQ:=hide hq1
    have HQ2:=hide hq2
    clear hown hgb hq1 hq2
    go_wp2
    go_ret
    refine⟨_,rfl,?_,?_⟩
    ·rw[HQ2.out,<-HQ.out,<-wY]
     exact yU zs _ _ (Nat.le_refl _) (D7 HW.out (by omega))
    ·exact kR zs _ _ HB.out
end Go.Proofs.YtlkgjmnjhifehaaGreat
